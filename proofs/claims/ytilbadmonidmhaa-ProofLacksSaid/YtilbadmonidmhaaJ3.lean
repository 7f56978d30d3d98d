/- Ae rows cut short; nil cells of own boxes; functions that call themselves. No condition. -/
import Derived.Test.YtilbadmonidmhaaJ2
set_option linter.unusedVariables false
set_option linter.unusedSimpArgs false
namespace Go.E
open Go Go.RowKit
section
variable {A : BD} {μ : Nat -> Option BV} {h : List (Nat × A8)} {F : Nat -> Prop} {w : World}
theorem HRel.swap (hh : HRel A μ h F w) {id : Nat} {o o' : A8} (hx : AJ id h = some o) (hor : ∀ loc, μ id = some loc -> C7 (Ae A μ h) μ w loc o -> C7 (Ae A μ h) μ w loc o') :
  HRel A μ (Be id o' h) F w /\ ∀ b, Ae A μ (Be id o' h) b -> Ae A μ h b := by
 have hlook : ∀ j y, AJ j (Be id o' h) = some y -> (j = id /\ y = o') \/ (j ≠ id /\ AJ j h = some y) := by
  intro j y hy
  by_cases e : j = id
  .subst e; rw [I9 hx] at hy; cases hy; exact .inl ⟨rfl, rfl⟩
  rw [Dq e] at hy; exact .inr ⟨e, hy⟩
 have hmine : ∀ b, Bt μ (Be id o' h) b -> Bt μ h b := by
  rintro b ⟨j, y, lc, h1, h2, h3, h4⟩
  rcases hlook j y h1 with ⟨rfl, rfl⟩ | ⟨_, h1⟩
  .exact ⟨j, o, lc, hx, h2, h3, h4⟩
  exact ⟨j, y, lc, h1, h2, h3, h4⟩
 have hown : ∀ b, Ae A μ (Be id o' h) b -> Ae A μ h b := fun b hb => hb.imp (fun h => h) (hmine b)
 have f : ∀ j y, AJ j (Be id o' h) = some y -> ∃ y, AJ j h = some y := by
  intro j y hy
  rcases hlook j y hy with ⟨rfl, rfl⟩ | ⟨_, hy⟩
  .exact ⟨_, hx⟩
  exact ⟨_, hy⟩
 refine ⟨⟨?_, ?_, hh.fresh, ?_, hh.size, hh.block, hh.os, hh.tape, hh.output, hh.ext⟩, hown⟩
 .intro j y hy
  rcases hlook j y hy with ⟨rfl, rfl⟩ | ⟨e, hy⟩
  .obtain ⟨lc, h1, h2⟩ := hh.obj j o hx
   exact ⟨lc, h1, (hor lc h1 h2).mono (BM.refl _ _) (fun b _ hb => hown b hb) (fun _ _ h => h) fun _ => rfl⟩
  obtain ⟨lc, h1, h2⟩ := hh.obj j y hy
  exact ⟨lc, h1, h2.mono (BM.refl _ _) (fun b _ hb => hown b hb) (fun _ _ h => h) fun _ => rfl⟩
 .intro j j' y y' lc lc' h1 h2 m1 m2 n1 n2 he
  obtain ⟨z, hz⟩ := f j y h1
  obtain ⟨z', hz'⟩ := f j' y' h2
  exact hh.inj _ _ _ _ _ _ hz hz' m1 m2 n1 n2 he
 intro j y lc h1 m1 n1
 obtain ⟨z, hz⟩ := f j y h1
 exact hh.base _ _ _ hz m1 n1
end
section
variable {A : BD} {nt : Nat} {sl : List (Nat × LV)} {h h' : AT} {c : Nat}
theorem Us {id : Nat} {o o' : A8} (hx : AJ id h = some o) (hor : ∀ O μ w loc, C7 O μ w loc o -> C7 O μ w loc o') : A4 A ⟨nt, sl, h, c⟩ ⟨nt, sl, Be id o' h, c⟩ := fun a w ⟨⟨μ, hh, hr⟩, hnt, hdef⟩ => by
 obtain ⟨g1, g2⟩ := hh.swap hx (o' := o') fun loc _ => hor _ _ _ loc
 exact ⟨⟨μ, g1, fun t ht => (hr t ht).mono (BM.refl _ _) (fun b _ hb => g2 b hb) fun _ _ h => h⟩, hnt, hdef⟩
theorem Js {α : Type} {enc : α -> List DV} (id : Nat) {e sz : Nat} {l r : List α} {m : Int} (hr : LB l 0 m = some r) (hl : BX id h = some (.row e sz (l.map enc)))
  (hu : Ke id (.row e sz (r.map enc)) h some = some h') : A4 A ⟨nt, sl, h, c⟩ ⟨nt, sl, h', c⟩ := by
 rw [BQ] at hl
 rw [HH, Option.some.injEq] at hu
 subst hu
 refine Us hl fun O μ w loc ⟨h1, h2, h3⟩ => ?_
 obtain ⟨-, hr⟩ := RZ hr
 have hk : r = l.take (m - 0).toNat := by rw [<- hr]; rfl
 generalize (m - 0).toNat = k at hk
 subst hk
 refine ⟨h1, fun x hx => h2 x ?_, ?_⟩
 .obtain ⟨a, ha, rfl⟩ := List.mem_map.1 hx
  exact List.mem_map.2 ⟨a, List.mem_of_mem_take ha, rfl⟩
 rcases h3 with ⟨h3, h4⟩ | ⟨h3, cs, h4, h5, h6, h7, h8⟩
 .refine .inl ⟨h3, ?_⟩
  rw [List.map_take, h4]; simp
 refine .inr ⟨h3, cs, h4, h5, ?_, h7, fun i j x d v hx => h8 i j x d v ?_⟩
 .rw [List.length_map] at h6 ⊢
  rw [List.length_take]; omega
 rw [List.map_take, List.getElem?_take] at hx
 split at hx
 .exact hx
 cases hx
theorem Ci (id j e sz : Nat) {cells cells' : List LV} (hl : BX id h = some (.box cells)) (hj : cells[j]? = some (.p .nils)) (hc : cells.set j (.lsl c sz 0 0) = cells')
  (hu : Ke id (.box cells') h some = some h') : A4 A ⟨nt, sl, h, c⟩ ⟨nt, sl, (c, .row e sz []) :: h', c + 1⟩ := fun a w ⟨⟨μ, hh, hr⟩, hnt, hdef⟩ => by
 rw [BQ] at hl
 rw [HH, Option.some.injEq] at hu
 subst hu hc
 have hno := hh.fresh c (Nat.le_refl _)
 let loc : BV := ⟨true, 0, 0, sz, 0⟩
 have hsub : ∀ id x, AJ id ((c, A8.row e sz []) :: h) = some x -> (id = c /\ x = .row e sz []) \/ AJ id h = some x := by
  intro id x hx
  simp only [AJ] at hx
  split at hx
  .cases hx; exact .inl ⟨‹_›, rfl⟩
  exact .inr hx
 have hadd := hh.add hno loc (.row e sz []) ((c, .row e sz []) :: h) (fun hn => by cases hn) (fun hn => by cases hn) hsub (BM.refl _ _) (fun _ _ _ _ _ _ _ => rfl) rfl rfl rfl ⟨rfl, by simp, .inl ⟨rfl, rfl⟩⟩
 have hown := hh.sub_add loc (.row e sz []) ((c, .row e sz []) :: h) (fun hn => by cases hn) hsub
 have hadd' := hadd.less (F' := Fr (c + 1)) fun id hid => by simp only [Fr] at hid ⊢; omega
 have hne : id ≠ c := hh.live_ne hno hl
 have hl' : AJ id ((c, A8.row e sz []) :: h) = some (.box cells) := by simp only [AJ, if_neg hne]; exact hl
 obtain ⟨g1, g2⟩ := hadd'.swap hl' (o' := .box (cells.set j (.lsl c sz 0 0))) fun lc _ ⟨k1, cs, t, k2, k3, k4⟩ => by
  refine ⟨k1, cs, t, k2, by rw [List.length_set]; exact k3, fun i v l hv hl => ?_⟩
  rw [List.getElem?_set] at hl
  split at hl
  .split at hl
   .cases hl
    subst_vars
    have := k4 _ v _ hv hj
    rw [this.nils_inv]
    exact .lsln c loc (by simp [BJ]) rfl
   cases hl
  exact k4 i v l hv hl
 have hup : Be id (.box (cells.set j (.lsl c sz 0 0))) ((c, A8.row e sz []) :: h) = (c, .row e sz []) :: Be id (.box (cells.set j (.lsl c sz 0 0))) h := by
  simp only [Be, if_neg hne]
 rw [hup] at g1 g2
 exact ⟨⟨_, g1, fun u hu => (hr u hu).mono (BM.refl _ _) (fun b hb hb' => hown b hb (g2 b hb')) (JG hno loc)⟩, hnt, hdef⟩
end
section
variable {P : Program} {A : BD} {AB : A2} {α : Type} {enc : α -> List DV} {l r : List α} {nt : Nat} {sl : List (Nat × LV)} {h : AT} {c d : Nat} {f : St -> Prop} {hf : H6 f} {x : Operand} {t sz : Nat}
theorem Qu {hi : Option Operand} {m : Int} {id k : Nat} (hr : LB l 0 m = some r) (ht : Lt AB t sz = true) (hk : k = l.length) (hx : A9 nt sl x = .lsl id sz 0 k)
  (hhi : Mt nt sl l.length hi = some m)
  (kk : f ⟨nt, (d, .lsl id sz 0 r.length) :: sl, h, c⟩) : BC P A AB ⟨nt, sl, h, c⟩ (some d) (.slice t x none hi none) ⟨f, hf⟩ := by
 refine Vx (lo := none) hr ht hk hx rfl hhi ?_
 have e : (m - 0).toNat = r.length := by
  obtain ⟨h1, h2⟩ := RZ hr
  rw [<- h2]
  simp at h1 ⊢; omega
 rw [e]
 exact kk
end
section
variable (id : Nat) (src d : LV)
mutual
inductive NG : LV -> LV -> Prop
 | same (v : LV) : NG v v
 | hit : NG src d
 | nil (z : Nat) : NG (.p .nils) (.p (.slice z []))
 | agg {a b : List LV} : Nd a b -> NG (.agg a) (.agg b)
inductive Nd : List LV -> List LV -> Prop
 | nil : Nd [] []
 | cons {x y : LV} {a b : List LV} : NG x y -> Nd a b -> Nd (x :: a) (y :: b)
end
inductive NH (sl : List (Nat × LV)) : List (Nat × LV) -> Prop
 | nil : NH sl []
 | cons (t : Nat) {v : LV} {r : List (Nat × LV)} : NG src d (BU sl t) v -> NH sl r -> NH sl ((t, v) :: r)
inductive T5 : A8 -> A8 -> Prop
 | same (o : A8) : T5 o o
 | box {a b : List LV} : Nd src d a b -> T5 (.box a) (.box b)
inductive NI (h : AT) : AT -> Prop
 | nil : NI h []
 | cons (i : Nat) {o o' : A8} {r : AT} (hne : Nat.beq i id = false) (hl : BX i h = some o) : T5 src d o o' -> NI h r -> NI h ((i, o') :: r)
end
section
variable {A : BD} {nt : Nat} {sl sl' : List (Nat × LV)} {h h' : AT} {c : Nat} {id : Nat} {src d : LV}
mutual
theorem OH {O O' : Nat -> Prop} {μ μ' : Nat -> Option BV} {w : World} (hμ : ∀ id l, μ id = some l -> μ' id = some l) (hO : ∀ b, b < w.heap.size -> O' b -> O b) (hd : ∀ v, Ac O μ w v src -> Ac O' μ' w v d) : ∀ {x y : LV}, NG src d x y -> ∀ v, Ac O μ w v x -> Ac O' μ' w v y
 | _, _, .same _, v, h => h.mono (BM.refl _ _) hO hμ
 | _, _, .hit, v, h => hd v h
 | _, _, .nil z, v, h => by
  rw [h.nils_inv]
  exact .p _ _ (.snil z)
 | _, _, .agg (a := ls) (b := b) q, v, h => by
  cases h with
  | agg vs _ hsz hr =>
   obtain ⟨g1, g2⟩ := KW hμ hO hd q
   exact .agg vs _ (by omega) fun i v l hv hl => by
    have hi := (List.getElem?_eq_some_iff.1 hl).1
    obtain ⟨x, hx⟩ : ∃ x, ls[i]? = some x := ⟨ls[i]'(by omega), List.getElem?_eq_getElem _⟩
    exact g2 i x l hx hl v (hr i v x hv hx)
theorem KW {O O' : Nat -> Prop} {μ μ' : Nat -> Option BV} {w : World} (hμ : ∀ id l, μ id = some l -> μ' id = some l) (hO : ∀ b, b < w.heap.size -> O' b -> O b) (hd : ∀ v, Ac O μ w v src -> Ac O' μ' w v d) : ∀ {a b : List LV}, Nd src d a b -> a.length = b.length /\ ∀ (i : Nat) (x y : LV), a[i]? = some x -> b[i]? = some y -> ∀ v, Ac O μ w v x -> Ac O' μ' w v y
 | _, _, .nil => ⟨rfl, fun i x y h => by simp at h⟩
 | _, _, .cons q r => by
  obtain ⟨g1, g2⟩ := KW hμ hO hd r
  refine ⟨by simp [g1], fun i x y hx hy => ?_⟩
  cases i with
  | zero => simp at hx hy; subst hx hy; exact OH hμ hO hd q
  | succ i => exact g2 i x y (by simpa using hx) (by simpa using hy)
end
theorem NJ : ∀ {sl' : List (Nat × LV)}, NH src d sl sl' -> ∀ t l, AJ t sl' = some l -> NG src d (BU sl t) l
 | _, .nil, t, l, h => by simp [AJ] at h
 | _, .cons u q r, t, l, h => by
  simp only [AJ] at h
  split at h
  .cases h; subst_vars; exact q
  exact NJ r t l h
theorem NK : ∀ {h' : AT}, NI id src d h h' -> ∀ i o', AJ i h' = some o' -> i ≠ id /\ ∃ o, AJ i h = some o /\ T5 src d o o'
 | _, .nil, i, o, h => by simp [AJ] at h
 | _, .cons u hne hl q r, i, o, h => by
  simp only [AJ] at h
  split at h
  .cases h; subst_vars
   rw [BQ] at hl
   exact ⟨fun e => by subst e; simp at hne, _, hl, q⟩
  exact NK r i o h
theorem QW (id : Nat) {d0 : DV} (hd : ∀ μ w (O' : Nat -> Prop), HRel A μ h (Fr c) w -> (∀ b, O' b -> Ae A μ (CE [id] h) b) -> ∀ v, Ac (Ae A μ h) μ w v src -> Av O' w v d0) (hs : NH src (.p d0) sl sl') (hh : NI id src (.p d0) h h') : A4 A ⟨nt, sl, h, c⟩ ⟨nt, sl', h', c⟩ := fun a w ⟨⟨μ, hR, hr⟩, hnt, hdef⟩ => by
 have hlk := fun i o' => NK hh i o'
 have hmine : ∀ b, Bt μ h' b -> Bt μ (CE [id] h) b := by
  rintro b ⟨j, y, lc, h1, h2, h3, h4⟩
  obtain ⟨g1, o, g2, -⟩ := hlk j y h1
  refine ⟨j, o, lc, ?_, h2, h3, h4⟩
  show AJ j (HU id h) = some o
  rw [El g1]; exact g2
 have hown1 : ∀ b, Ae A μ h' b -> Ae A μ (CE [id] h) b := fun b hb => hb.imp (fun h => h) (hmine b)
 have hown : ∀ b, Ae A μ h' b -> Ae A μ h b := fun b hb => HD b (hown1 b hb)
 have hp : ∀ v, Ac (Ae A μ h) μ w v src -> Ac (Ae A μ h') μ w v (.p d0) := fun v hv => .p _ _ (hd μ w _ hR hown1 v hv)
 refine ⟨⟨μ, ⟨?_, ?_, hR.fresh, ?_, hR.size, hR.block, hR.os, hR.tape, hR.output, hR.ext⟩, fun t ht => ?_⟩, hnt, hdef⟩
 .intro j o' hj
  obtain ⟨g1, o, g2, q⟩ := hlk j o' hj
  obtain ⟨lc, h1, h2⟩ := hR.obj j o g2
  refine ⟨lc, h1, ?_⟩
  cases q with
  | same _ => exact h2.mono (BM.refl _ _) (fun b _ hb => hown b hb) (fun _ _ h => h) fun _ => rfl
  | box q =>
   obtain ⟨k1, cs, ty, k2, k3, k4⟩ := h2
   obtain ⟨q1, q2⟩ := KW (O' := Ae A μ h') (w := w) (fun _ _ h => h) (fun b _ hb => hown b hb) hp q
   refine ⟨k1, cs, ty, k2, by omega, fun i v l hv hl => ?_⟩
   have hi := (List.getElem?_eq_some_iff.1 hl).1
   rename_i a b
   have hx : a[i]? = some (a[i]'(by omega)) := List.getElem?_eq_getElem _
   exact q2 i _ l hx hl v (k4 i v _ hv hx)
 .intro j j' y y' lc lc' h1 h2 m1 m2 n1 n2 he
  obtain ⟨-, z, hz, -⟩ := hlk j y h1
  obtain ⟨-, z', hz', -⟩ := hlk j' y' h2
  exact hR.inj _ _ _ _ _ _ hz hz' m1 m2 n1 n2 he
 .intro j y lc h1 m1 n1
  obtain ⟨-, z, hz, -⟩ := hlk j y h1
  exact hR.base _ _ _ hz m1 n1
 show Ac _ _ _ _ (match AJ t sl' with | some v => v | none => .any)
 cases hl : AJ t sl' with
 | none => exact .any _
 | some l => exact OH (fun _ _ h => h) (fun b _ hb => hown b hb) hp (NJ hs t l hl) _ (hr t ht)
theorem IH (id : Nat) {d0 : DV} (hd : FH h src = some d0 /\ IA src = [id]) (hs : NH src (.p d0) sl sl') (hh : NI id src (.p d0) h h') : A4 A ⟨nt, sl, h, c⟩ ⟨nt, sl', h', c⟩ :=
 QW id (fun μ w O' hR hown v hv => (J9 hR (l := [id]) hv hd.1 (by rw [hd.2]; simp)).mono (BM.refl _ _) fun b _ hb => hown b hb) hs hh
theorem Vo {O : Nat -> Prop} {μ : Nat -> Option BV} {w : World} {v : Value} {id sz off n : Nat} (h : Ac O μ w v (.lsl id sz off n)) : ∃ loc, μ id = some loc := by
 cases h with
 | lsln _ loc hm hn => exact ⟨loc, hm⟩
 | lsl _ _ _ cap a loc hm => exact ⟨loc, hm⟩
theorem EO (hs : NH (.lsl c 0 0 0) (.p .nils) sl sl') (hh : NI c (.lsl c 0 0 0) (.p .nils) h h') : A4 A ⟨nt, sl, h, c⟩ ⟨nt, sl', h', c⟩ :=
 QW c (fun μ w O' hR hown v hv => by
  have hno := hR.fresh c (Nat.le_refl _)
  obtain ⟨loc, hm⟩ := Vo hv
  rw [hno] at hm; cases hm) hs hh
theorem LC {α : Type} {enc : α -> List DV} {l : List α} {e : Nat} {sz : Nat} (hl : BX id h = some (.row e sz (l.map enc))) : FH h (.lsl id sz 0 l.length) = some (.slice sz (l.map enc)) /\ IA (.lsl id sz 0 l.length) = [id] := by
 refine ⟨?_, rfl⟩
 rw [BQ] at hl
 simp only [FH, hl, Nat.zero_add, List.length_map, Nat.le_refl, and_self, if_true, List.drop_zero]
 rw [List.take_of_length_le (by simp)]
theorem VR {α : Type} {enc : α -> List DV} {l y : List α} {e sz off n : Nat} (id : Nat) (hl : BX id h = some (.row e sz (l.map enc))) (hy : off + n <= l.length /\ (l.drop off).take n = y)
  (hs : NH (.lsl id sz off n) (.lsl c sz 0 y.length) sl sl') (hh : NI id (.lsl id sz off n) (.lsl c sz 0 y.length) h h') : A4 A ⟨nt, sl, h, c⟩ ⟨nt, sl', (c, .row e sz (y.map enc)) :: h', c + 1⟩ := fun a w ⟨⟨μ, hR, hr⟩, hnt, hdef⟩ => by
 rw [BQ] at hl
 obtain ⟨hfit, hy⟩ := hy
 have hlen : y.length = n := by rw [<- hy]; simp; omega
 have hno := hR.fresh c (Nat.le_refl _)
 have hlk := fun i o' => NK hh i o'
 obtain ⟨loc, hm, hz, hel, hrow⟩ := hR.obj id _ hl
 have hidc : id ≠ c := fun e2 => by rw [e2, hno] at hm; cases hm
 let loc' : BV := ⟨loc.nil, loc.b, loc.o + off * loc.sz, loc.sz, loc.cap - off⟩
 have hμ := JG hno loc'
 have hmine : ∀ b, Bt (BJ μ c loc') ((c, A8.row e sz (y.map enc)) :: h') b -> Bt μ h b := by
  rintro b ⟨j, o, lc, h1, h2, h3, h4⟩
  simp only [AJ] at h1
  split at h1
  .rename_i e2
   subst e2
   simp [BJ] at h2
   subst h2
   exact ⟨id, _, loc, hl, hm, h3, h4⟩
  rename_i e2
  obtain ⟨g1, o2, g2, -⟩ := hlk j o h1
  simp [BJ, e2] at h2
  exact ⟨j, o2, lc, g2, h2, h3, h4⟩
 have hown : ∀ b, b < w.heap.size -> Ae A (BJ μ c loc') ((c, A8.row e sz (y.map enc)) :: h') b -> Ae A μ h b := fun b _ hb => hb.imp (fun h => h) (hmine b)
 have hp : ∀ v, Ac (Ae A μ h) μ w v (.lsl id sz off n) -> Ac (Ae A (BJ μ c loc') ((c, A8.row e sz (y.map enc)) :: h')) (BJ μ c loc') w v (.lsl c sz 0 y.length) := by
  intro v hv
  rw [hlen]
  cases hv with
  | lsln _ lc hm2 hn =>
   rw [hm] at hm2; cases hm2
   exact .lsln c loc' (by simp [BJ]) hn
  | lsl _ _ _ cap ad lc hm2 hn hcap hl2 had hb hsp =>
   rw [hm] at hm2; cases hm2
   exact .lsl c 0 n cap ad loc' (by simp [BJ]) hn (by simp only [loc']; omega) hl2 (fun hc => by rw [had hc]; simp [loc']) hb hsp
 refine ⟨⟨BJ μ c loc', ⟨?_, ?_, ?_, ?_, hR.size, hR.block, hR.os, hR.tape, hR.output, fun j lc hj => hμ _ _ (hR.ext j lc hj)⟩, fun t ht => ?_⟩, hnt, hdef⟩
 .intro j o' hj
  simp only [AJ] at hj
  split at hj
  .rename_i e2
   subst e2
   cases hj
   refine ⟨loc', by simp [BJ], hz, fun x hx => ?_, ?_⟩
   .obtain ⟨z, hz2, rfl⟩ := List.mem_map.1 hx
    refine hel _ (List.mem_map.2 ⟨z, ?_, rfl⟩)
    rw [<- hy] at hz2
    exact List.mem_of_mem_drop (List.mem_of_mem_take hz2)
   rcases hrow with ⟨hn, he0⟩ | ⟨hn, cs, hblk, hcs, hle, hcm, hrel⟩
   .refine .inl ⟨hn, ?_⟩
    have : l = [] := by simpa using he0
    subst this
    simp at hfit
    have : y = [] := by rw [<- hy]; simp
    rw [this]; rfl
   refine .inr ⟨hn, cs, hblk, ?_, ?_, ?_, fun i k x d v hx hd hv => ?_⟩
   .simp only [loc']
    rw [List.length_map] at hle
    rw [hcs, Nat.add_assoc, hz, <- Nat.add_mul]
    congr 2; omega
   .simp only [loc', List.length_map] at hle ⊢; omega
   .simp only [loc']; omega
   rw [List.getElem?_map] at hx
   cases hyi : y[i]? with
   | none => rw [hyi] at hx; cases hx
   | some z =>
    rw [hyi] at hx
    cases hx
    have hi : i < n := by have := (List.getElem?_eq_some_iff.1 hyi).1; omega
    have hli : l[off + i]? = some z := by
     rw [<- hy, List.getElem?_take, if_pos hi, List.getElem?_drop] at hyi
     exact hyi
    refine (hrel (off + i) k _ d v (by rw [List.getElem?_map, hli]; rfl) hd ?_).mono (BM.refl _ _) hown
    rw [<- hv]
    simp only [loc', hz]
    congr 1
    rw [Nat.add_mul]; omega
  obtain ⟨g1, o, g2, q⟩ := hlk j o' hj
  obtain ⟨lc, h1, h2⟩ := hR.obj j o g2
  refine ⟨lc, hμ _ _ h1, ?_⟩
  cases q with
  | same _ => exact h2.mono (BM.refl _ _) hown hμ fun _ => rfl
  | box q =>
   obtain ⟨k1, cs, ty, k2, k3, k4⟩ := h2
   obtain ⟨q1, q2⟩ := KW (w := w) hμ hown hp q
   refine ⟨k1, cs, ty, k2, by omega, fun i v l hv hl => ?_⟩
   have hi := (List.getElem?_eq_some_iff.1 hl).1
   rename_i a b
   have hx : a[i]? = some (a[i]'(by omega)) := List.getElem?_eq_getElem _
   exact q2 i _ l hx hl v (k4 i v _ hv hx)
 .intro j j' y1 y1' lc lc' h1 h2 m1 m2 n1 n2 he
  have back : ∀ j o lc, AJ j ((c, A8.row e sz (y.map enc)) :: h') = some o -> BJ μ c loc' j = some lc -> (j = c /\ lc = loc') \/ (j ≠ c /\ j ≠ id /\ (∃ o2, AJ j h = some o2) /\ μ j = some lc) := by
   intro j o lc h1 m1
   simp only [AJ] at h1
   split at h1
   .rename_i e2; subst e2; simp [BJ] at m1; exact .inl ⟨rfl, m1.symm⟩
   rename_i e2
   obtain ⟨g1, o2, g2, -⟩ := hlk j o h1
   simp [BJ, e2] at m1
   exact .inr ⟨e2, g1, ⟨o2, g2⟩, m1⟩
  rcases back j y1 lc h1 m1 with ⟨rfl, rfl⟩ | ⟨a1, a2, ⟨o1, a3⟩, a4⟩ <;> rcases back j' y1' lc' h2 m2 with ⟨rfl, rfl⟩ | ⟨b1, b2, ⟨o2, b3⟩, b4⟩
  .rfl
  .exact absurd (hR.inj _ _ _ _ _ _ hl b3 hm b4 n1 n2 he).symm b2
  .exact absurd (hR.inj _ _ _ _ _ _ a3 hl a4 hm n1 n2 he) a2
  exact hR.inj _ _ _ _ _ _ a3 b3 a4 b4 n1 n2 he
 .intro j hj
  simp only [Fr] at hj
  simp only [BJ]
  rw [if_neg (by omega)]
  exact hR.fresh j (by simp only [Fr]; omega)
 .intro j o lc h1 m1 n1
  simp only [AJ] at h1
  split at h1
  .rename_i e2
   subst e2
   simp [BJ] at m1
   subst m1
   exact hR.base id _ loc hl hm n1
  rename_i e2
  obtain ⟨g1, o2, g2, -⟩ := hlk j o h1
  simp [BJ, e2] at m1
  exact hR.base j o2 lc g2 m1 n1
 show Ac _ _ _ _ (match AJ t sl' with | some v => v | none => .any)
 cases hl2 : AJ t sl' with
 | none => exact .any _
 | some l => exact OH hμ hown hp (NJ hs t l hl2) _ (hr t ht)
end
section
variable {P : Program} {A : BD} {AB : A2}
theorem Dh.ownF {h : AT} {ctr k : Nat} {args : List LV} {ds : List DV} {e sz : Nat} {elems : List (List DV)} {K : LV -> AT -> Nat -> Prop} (hds : Bi h args = some ds) (hf : GE P k ds e sz elems)
  (hfl : ∀ x ∈ elems, ∀ d ∈ x, d.flat = true) (hK : K (.lsl ctr sz 0 elems.length) ((ctr, .row e sz elems) :: h) (ctr + 1)) : Dh P A h ctr k args K := by
 refine ⟨hf.enters, fun μ w vs hh hsz hr => ?_⟩
 obtain ⟨g1, g2⟩ := Eb hh (l := args.flatMap (Dn h)) hds (fun id hid => hid)
 generalize args.flatMap (Dn h) = dl at g2
 have hO : ∀ b, Ae A μ (CE dl h) b -> b < w.heap.size := by
  intro b hb
  rcases HD b hb with hb | ⟨id, x, lc, h1, h2, h3, rfl⟩
  .exact Nat.lt_of_lt_of_le (A.hO b hb).1 hh.size
  exact (hh.base id x lc h1 h2 h3).1
 refine (hf.run (Ae A μ (CE dl h)) w vs hO (by omega) fun i v d hv hd => ?_).mono fun en w' ⟨v, he, hn, hb⟩ => ?_
 .have hi := (List.getElem?_eq_some_iff.1 hd).1
  have hx : args[i]? = some (args[i]'(by omega)) := List.getElem?_eq_getElem _
  exact g2 i v _ d hx hd (hr i v _ hv hx)
 have hno : μ ctr = none := hh.fresh ctr (Nat.le_refl _)
 obtain ⟨hlen, hn⟩ := hn
 have hkm : BM (Bt μ h) w w' := ⟨hb.size, fun b hb' _ => hb.block b hb'⟩
 have hsub : ∀ id x, AJ id ((ctr, A8.row e sz elems) :: h) = some x -> (id = ctr /\ x = .row e sz elems) \/ AJ id h = some x := by
  intro id x hx
  simp only [AJ] at hx
  split at hx
  .cases hx; exact .inl ⟨‹_›, rfl⟩
  exact .inr hx
 have hold : ∀ id x lc, AJ id ((ctr, A8.row e sz elems) :: h) = some x -> id ≠ ctr -> μ id = some lc -> lc.nil = false -> w'.heap[lc.b]? = w.heap[lc.b]? := by
  intro id x lc hx hne hm hnl
  rcases hsub id x hx with ⟨rfl, _⟩ | hx
  .exact absurd rfl hne
  exact hb.block _ (hh.base id x lc hx hm hnl).1
 have fin : ∀ (loc : BV), (loc.nil = false -> loc.b < w'.heap.size /\ w.heap.size <= loc.b) ->
   (∀ O' : Nat -> Prop, C7 O' (BJ μ ctr loc) w' loc (.row e sz elems)) ->
   (∀ O', Ac O' (BJ μ ctr loc) w' v (.lsl ctr sz 0 elems.length)) ->
   ∃ u l h' c' μ', en = .returned u /\ K l h' c' /\ HRel A μ' h' (Fr c') w' /\ Ac (Ae A μ' h') μ' w' u l /\ ∀ v x, Ac (Ae A μ h) μ w v x -> Ac (Ae A μ' h') μ' w' v x := by
  intro loc hloc ho hu
  have hfr : NM μ h ((ctr, A8.row e sz elems) :: h) w loc := fun hn => .inl (hloc hn).2
  have hown := hh.sub_add loc (.row e sz elems) ((ctr, .row e sz elems) :: h) hfr hsub
  have hadd := hh.add (w' := w') hno loc (.row e sz elems) ((ctr, .row e sz elems) :: h) (fun hn => (hloc hn).1) hfr hsub hkm hold hb.os hb.tape hb.output (ho _)
  exact ⟨v, _, _, _, _, he, hK, hadd.less (fun id hid => by simp only [Fr] at hid ⊢; omega), hu _, fun v x hv => hv.mono hkm.own hown (JG hno loc)⟩
 rcases hn with ⟨rfl, rfl⟩ | ⟨a, b, o, cap, c, rfl, h1, h2, h3, h4, h5, h6, h7, h8, h9, h10⟩
 .exact fin ⟨true, 0, 0, sz, 0⟩ (fun hn => by cases hn) (fun O' => ⟨rfl, hlen, .inl ⟨rfl, rfl⟩⟩) (fun O' => .lsln ctr ⟨true, 0, 0, sz, 0⟩ (by simp [BJ]) rfl)
 refine fin ⟨false, b, o, sz, cap⟩ (fun _ => ⟨h2, h1⟩) (fun O' => ⟨rfl, hlen, .inr ⟨rfl, c, h6, h7, h8, h9, fun i j x d u hx hd hu => ?_⟩⟩) (fun O' => ?_)
 .exact (h10 i j x d u hx hd hu).flat (hfl x (List.mem_of_getElem? hx) d (List.mem_of_getElem? hd)) _ _
 exact .lsl ctr 0 elems.length cap a ⟨false, b, o, sz, cap⟩ (by simp [BJ]) rfl (by simp) h8 (fun hc => by rw [h3 hc]; simp) h4 h5
end
section
variable {P : Program} {A : BD} {AB : A2} {α : Type} {enc : α -> List DV} {nt : Nat} {sl : List (Nat × LV)} {h : AT} {c d : Nat} {f : St -> Prop} {hf : H6 f}
theorem OC {fo : Operand} {args : Array Operand} {ts : Array TypeId} {k e sz : Nat} {caps ls : List LV} {ds : List DV} {r : List α} (hF : GE P k ds e sz (r.map enc)) (hfl : ∀ x : α, (enc x).all (·.flat) = true)
  (hfn : A9 nt sl fo = .fn k caps) (hl : EM nt sl args.toList some = some ls) (hds : Bi h (ls ++ caps) = some ds)
  (kk : f ⟨nt, (d, .lsl c sz 0 r.length) :: sl, (c, .row e sz (r.map enc)) :: h, c + 1⟩) : BC P A AB ⟨nt, sl, h, c⟩ (some d) (.call ⟨.value fo, args, ts⟩) ⟨f, hf⟩ := by
 rw [BE (h := h) (c := c)] at hfn
 show Mi _ _
 rw [hfn]
 show KB P A h c k (args.toList.map _ ++ caps) _
 rw [HJ hl]
 refine Dh.ownF hds hF (fun x hx d hd => ?_) ?_
 .obtain ⟨a, _, rfl⟩ := List.mem_map.1 hx
  exact List.all_eq_true.1 (hfl a) d hd
 rw [List.length_map]
 exact kk
end
theorem VO {A : BD} {nt : Nat} {sl : List (Nat × LV)} {h : AT} {c : Nat} (t : Nat) {k : Nat} {ds : List DV} (ht : BU sl t = .p (.fn k ds)) : A4 A ⟨nt, sl, h, c⟩ ⟨nt, (t, .fn k (ds.map .p)) :: sl, h, c⟩ := fun a w ⟨⟨μ, hh, hr⟩, hnt, hdef⟩ => by
 refine ⟨⟨μ, hh, fun u hu => ?_⟩, hnt, hdef⟩
 show Ac _ _ _ _ (match AJ u ((t, LV.fn k (ds.map .p)) :: sl) with | some v => v | none => .any)
 simp only [AJ]
 by_cases hut : u = t
 .subst hut
  rw [if_pos rfl]
  have := hr u hu
  simp only at this
  rw [ht] at this
  have hp := this.p_inv
  generalize a.tmps.getD u undef = v at hp
  cases hp with
  | fn _ caps _ hsz q =>
   refine .fn k caps _ (by simpa using hsz) fun i v l hv hl => ?_
   simp only [List.getElem?_map, Option.map_eq_some_iff] at hl
   obtain ⟨d, hd, rfl⟩ := hl
   exact .p _ _ (q i v d hv hd)
 rw [if_neg hut]
 exact hr u hu
end Go.E
/- Drawn regions of which the orders do not all come to one by waiting: a tree of orders. No condition. -/
namespace Go.E
open Go Go.RowKit
inductive H5 where
 | done
 | nil
 | picks (l : List Nat) (t : H5)
 | alt (i : Nat) (l : List Nat) (t r : H5)
def J4 (listed : Array Bool) : List Nat -> Array Bool
 | [] => listed
 | i :: l => J4 (listed.setIfInBounds i true) l
def HT (q w : Bool) (md : Region.Mode) (ops : Array Oper) : List Nat -> Array Bool -> Bool
 | [], _ => true
 | i :: rest, listed => (match ops[i]? with
  | none => false
  | some oi => (Region.ready md ops listed == [i]) || ((Region.ready md ops listed).contains i && NO q w md ops listed i oi (Lf md ops listed i))) &&
  HT q w md ops rest (listed.setIfInBounds i true)
def H5.heads : H5 -> List Nat
 | .alt i _ _ r => i :: r.heads
 | _ => []
def J5 (q w : Bool) (md : Region.Mode) (ops : Array Oper) : H5 -> Bool -> Array Bool -> Nat -> Bool
 | .done, b, listed, n => !b && (Region.ready md ops listed).isEmpty && n == 0
 | .nil, b, _, _ => b
 | .picks l t, b, listed, n => !b && HT q w md ops l listed && decide (l.length <= n) && J5 q w md ops t false (J4 listed l) (n - l.length)
 | .alt i l t r, b, listed, n => (b || decide (0 < n) && !(Region.ready md ops listed).isEmpty && (Region.ready md ops listed).all fun j => (i :: r.heads).contains j) &&
   (decide (i < ops.size) && HT q w md ops l (listed.setIfInBounds i true) && decide (l.length <= (bif b then n else n - 1)) &&
    J5 q w md ops t false (J4 (listed.setIfInBounds i true) l) ((bif b then n else n - 1) - l.length) && J5 q w md ops r true listed (bif b then n else n - 1))
section
variable (P : Program) (A : BD) (AB : A2) (base n : Nat) (K : St -> Prop) (ops : List Oper)
def MS : H5 -> St -> Prop
 | .done, st => K st
 | .nil, _ => True
 | .picks l t, st => C6 P A AB base n ⟨MS t, ⟨⟩⟩ (F3 ops l) st
 | .alt i l t r, st => C6 P A AB base n ⟨MS t, ⟨⟩⟩ (F3 ops (i :: l)) st /\ MS r st
end
section
variable {P : Program} {A : BD} {AB : A2} {md : Region.Mode} {base : Nat} {K : St -> Prop}
theorem Vw {ops : List Oper} {n : Nat} {l : List Nat} {t : H5} {st : St} (k : C6 P A AB base n ⟨MS P A AB base n K ops t, ⟨⟩⟩ (F3 ops l) st) : MS P A AB base n K ops (.picks l t) st := k
theorem D5 {ops : List Oper} {n : Nat} {i : Nat} {l : List Nat} {t r : H5} {st : St} (k : C6 P A AB base n ⟨MS P A AB base n K ops t, ⟨⟩⟩ (F3 ops (i :: l)) st) (k' : MS P A AB base n K ops r st) : MS P A AB base n K ops (.alt i l t r) st := ⟨k, k'⟩
theorem Hm {ops : List Oper} {n c c' nt : Nat} {sl : List (Nat × LV)} {h : AT} {S : St} (k : A4 A ⟨nt, sl, h, c + n⟩ S) : MS P A AB c n (fun st => A4 A { st with ctr := c + n } S) ops .done ⟨nt, sl, h, c'⟩ := k
theorem JM {ops : List Oper} {n : Nat} {st : St} : MS P A AB base n K ops .nil st := trivial
theorem OJ {q w : Bool} {ops : Array Oper} : ∀ {l : List Nat} {listed : Array Bool}, HT q w md ops l listed = true -> ∀ i ∈ l, i < ops.size
 | [], _, _, i, hi => by simp at hi
 | j :: l, listed, h, i, hi => by
  simp only [HT, Bool.and_eq_true] at h
  rcases List.mem_cons.1 hi with rfl | hi
  .cases ho : ops[i]? with
   | none => rw [ho] at h; simp at h
   | some o => exact (Array.getElem?_eq_some_iff.1 ho).1
  exact OJ h.2 i hi
theorem MG (q : Bool) (hq : q = true -> ∃ b, AB.calm = some b) {ops : Array Oper} {T Q : St -> Prop} (fuel : Nat) : ∀ (l : List Nat) (listed : Array Bool) (st : St), HT q AB.own md ops l listed = true -> (∀ k, listed.getD k true = false -> AJ (base + k) st.heap = none) ->
  (∀ st', (∀ k, (J4 listed l).getD k true = false -> AJ (base + k) st'.heap = none) -> T st' -> HW P AB md ops base Q fuel (J4 listed l) st') ->
  F2 P AB ops base T l st -> HW P AB md ops base Q (l.length + fuel) listed st
 | [], listed, st, _, hfresh, hT, h => by
  rw [List.length_nil, Nat.zero_add]
  exact hT st hfresh h
 | i :: rest, listed, st, hok, hfresh, hT, h => by
  obtain ⟨o, l, e, ho, hd, hrest⟩ := Lg h
  simp only [HT, ho, Bool.and_eq_true, Bool.or_eq_true] at hok
  have hrec : HW P AB md ops base Q (rest.length + fuel) (listed.setIfInBounds i true) (apS st (base + i) o l e) := by
   refine MG q hq fuel rest _ _ hok.2 (fun k hk => ?_) hT hrest
   have hik : i ≠ k := by
    rintro rfl
    rcases Nat.lt_or_ge i listed.size with h' | h'
    .simp [h'] at hk
    simp [Array.getElem?_eq_none h'] at hk
   rw [Bj]
   exact KA hd (by simp only [St.at]; omega) (hfresh k (by rw [getD_set_ne true hik] at hk; exact hk))
  rw [show (i :: rest).length + fuel = rest.length + fuel + 1 by simp; omega]
  rcases hok.1 with h1 | h1
  .have hr : Region.ready md ops listed = [i] := by simpa using h1
   refine ⟨fun h0 => (by rw [hr] at h0; cases h0), fun j hj => ?_⟩
   rw [hr] at hj
   simp at hj
   subst hj
   exact ⟨o, l, e, ho, hd, hrec⟩
  obtain ⟨h1, h2⟩ := h1
  simp only [NO, Bool.and_eq_true, List.all_eq_true, List.mem_range] at h2
  obtain ⟨h2, h3⟩ := h2
  generalize hBe : Lf md ops listed i = B at h2 h3
  refine OW q hq ho (fun j => B.contains j) (fun j hj => ?_) (rest.length + fuel) listed st (fun j hj => ?_) (fun j oj hoj hji hun hBj => ?_) hfresh (by simpa using h1) hd hrec
  .have := h2 j (by simpa using hj)
   obtain ⟨⟨a1, a2⟩, a3⟩ := this
   refine ⟨by simpa using a1, fun oj hoj => ?_⟩
   rw [hoj] at a3
   obtain ⟨x, hx, hx2⟩ := Array.any_eq_true'.1 a3
   simp only [Bool.and_eq_true, Bool.or_eq_true, beq_iff_eq] at hx2
   exact ⟨x, hx, hx2.1, hx2.2⟩
  .have := (h2 j (by simpa using hj)).1.2
   simpa using this
  have := h3 j (Array.getElem?_eq_some_iff.1 hoj).1
  simp only [Bool.or_eq_true, beq_iff_eq, hji, false_or, hun, Bool.false_eq_true] at this
  rw [hBj] at this
  simp only [Bool.false_eq_true, false_or, hoj, Bool.and_eq_true] at this
  refine ⟨this.1, this.2.1, fun ho => ?_⟩
  have := this.2.2
  rw [ho] at this; simpa using this
theorem KX (q : Bool) (hq : q = true -> ∃ b, AB.calm = some b) {ops : List Oper} : ∀ (T : H5) (listed : Array Bool) (st : St) (n : Nat), (∀ k, listed.getD k true = false -> AJ (base + k) st.heap = none) -> MS P A AB base ops.length K ops T st ->
  (J5 q AB.own md ops.toArray T false listed n = true -> HW P AB md ops.toArray base K n listed st) /\
  (J5 q AB.own md ops.toArray T true listed n = true -> ∀ i ∈ T.heads, ∃ o l e, ops.toArray[i]? = some o /\ Ck P AB ops.toArray (st.at (base + i)) o l e /\ HW P AB md ops.toArray base K n (listed.setIfInBounds i true) (apS st (base + i) o l e))
 | .done, listed, st, n, hfresh, h => by
  refine ⟨fun hok => ?_, fun hok => by simp [J5] at hok⟩
  simp only [J5, Bool.not_false, Bool.true_and, Bool.and_eq_true, beq_iff_eq, List.isEmpty_iff] at hok
  obtain ⟨h1, rfl⟩ := hok
  exact ⟨h1, st, F1.refl st, h⟩
 | .nil, listed, st, n, hfresh, h => ⟨fun hok => by simp [J5] at hok, fun _ i hi => by simp [H5.heads] at hi⟩
 | .picks l t, listed, st, n, hfresh, h => by
  refine ⟨fun hok => ?_, fun hok => by simp [J5] at hok⟩
  simp only [J5, Bool.not_false, Bool.true_and, Bool.and_eq_true, decide_eq_true_eq] at hok
  obtain ⟨⟨h1, h2⟩, h3⟩ := hok
  have hb : (l.all fun i => decide (i < ops.length)) = true := List.all_eq_true.2 fun i hi => by simpa using OJ h1 i hi
  have := MG q hq (md := md) (Q := K) (n - l.length) l listed st h1 hfresh (fun st' hf' hT => ?_) (Io l st hb h)
  .rwa [show l.length + (n - l.length) = n by omega] at this
  refine Lc _ _ { st' with ctr := base + ops.length } _ ⟨rfl, fun _ => rfl, fun _ => rfl⟩ ?_
  exact (KX q hq t (J4 listed l) { st' with ctr := base + ops.length } (n - l.length) hf' hT).1 h3
 | .alt i l t r, listed, st, n, hfresh, ⟨h, h'⟩ => by
  have key : ∀ m, (decide (i < ops.toArray.size) && HT q AB.own md ops.toArray l (listed.setIfInBounds i true) && decide (l.length <= m) && J5 q AB.own md ops.toArray t false (J4 (listed.setIfInBounds i true) l) (m - l.length) && J5 q AB.own md ops.toArray r true listed m) = true ->
    ∀ j ∈ i :: r.heads, ∃ o l e, ops.toArray[j]? = some o /\ Ck P AB ops.toArray (st.at (base + j)) o l e /\ HW P AB md ops.toArray base K m (listed.setIfInBounds j true) (apS st (base + j) o l e) := by
   intro m hok j hj
   simp only [Bool.and_eq_true, decide_eq_true_eq] at hok
   obtain ⟨⟨⟨⟨h0, h1⟩, h2⟩, h3⟩, h4⟩ := hok
   rcases List.mem_cons.1 hj with rfl | hj
   .have hb : ((j :: l).all fun i => decide (i < ops.length)) = true := List.all_eq_true.2 fun i hi => by
     rcases List.mem_cons.1 hi with rfl | hi
     .simpa using h0
     simpa using OJ h1 i hi
    obtain ⟨o, lv, e, ho, hd, hrest⟩ := Lg (Io (j :: l) st hb h)
    refine ⟨o, lv, e, ho, hd, ?_⟩
    have := MG q hq (md := md) (Q := K) (m - l.length) l (listed.setIfInBounds j true) (apS st (base + j) o lv e) h1 (fun k hk => ?_) (fun st' hf' hT => ?_) hrest
    .rwa [show l.length + (m - l.length) = m by omega] at this
    .have hik : j ≠ k := by
      rintro rfl
      rcases Nat.lt_or_ge j listed.size with h' | h'
      .simp [h'] at hk
      simp [Array.getElem?_eq_none h'] at hk
     rw [Bj]
     exact KA hd (by simp only [St.at]; omega) (hfresh k (by rw [getD_set_ne true hik] at hk; exact hk))
    refine Lc _ _ { st' with ctr := base + ops.length } _ ⟨rfl, fun _ => rfl, fun _ => rfl⟩ ?_
    exact (KX q hq t _ { st' with ctr := base + ops.length } (m - l.length) hf' hT).1 h3
   exact (KX q hq r listed st m hfresh h').2 h4 j hj
  refine ⟨fun hok => ?_, fun hok => ?_⟩
  .rw [J5, Bool.false_or] at hok
   obtain ⟨h1, h2⟩ := Bool.and_eq_true_iff.1 hok
   simp only [Bool.and_eq_true, decide_eq_true_eq, Bool.not_eq_true', List.all_eq_true] at h1
   obtain ⟨⟨h3, h4⟩, h5⟩ := h1
   obtain ⟨m, rfl⟩ : ∃ m, n = m + 1 := ⟨n - 1, by omega⟩
   refine ⟨fun h0 => by rw [h0] at h4; simp at h4, fun j hj => ?_⟩
   exact key m (by simpa using h2) j (by simpa using h5 j hj)
  simp only [J5, Bool.true_or, Bool.true_and, cond_true] at hok
  exact key n hok
theorem Wv (hE : BB P AB) (hm : P.follows .mixedOrders = true) {id : Nat} {ops : List Oper} {Q : Exit -> St -> Prop} {nt : Nat} {sl : List (Nat × LV)} {h : AT} {c : Nat} (T : H5) (n : Nat) (S : St)
  (hok : J5 false AB.own .any ops.toArray T false (Array.replicate ops.length false) ops.length = true) (hn : Nat.beq ops.length n = true)
  (k : MS P A AB c n (fun st => A4 A { st with ctr := c + n } S) ops T ⟨nt, sl, h, c⟩) (kk : Q .normal S) : Bw P A (.region id ops.toArray true) Q ⟨nt, sl, h, c⟩ := fun a w hR => by
 have hn' := Nat.eq_of_beq_eq_true hn
 subst hn'
 refine wp_region_any hm ?_
 have hR' := (hR.drawn (w.drawn + 1)).toRF
 have hfr : ∀ k, AJ (c + k) h = none := by
  intro k
  cases hx : AJ (c + k) h with
  | none => rfl
  | some o =>
   obtain ⟨⟨μ, hh, _⟩, _, _⟩ := hR
   obtain ⟨loc, h1, _⟩ := hh.obj _ _ hx
   rw [hh.fresh _ (by simp [Fr])] at h1; cases h1
 have hD := (KX false (fun h => by cases h) (md := .any) T (Array.replicate ops.length false) ⟨nt, sl, h, c⟩ ops.length (fun k _ => hfr k) k).1 hok
 rw [show ops.toArray.size = ops.length by simp]
 refine I7 (A := A) (n := ops.length) hE (by simp) (fun st' a' w' listed hk hR'' => ?_) ops.length _ ⟨nt, sl, h, c⟩ a _ (by simp) hD ?_
 .refine ⟨S, ?_, kk⟩
  obtain ⟨⟨μ, x1, x2⟩, x3, x4⟩ := hR''
  exact hk a' w' ⟨⟨μ, x1.less fun id hid => .inl hid, x2⟩, x3, x4⟩
 obtain ⟨⟨μ, x1, x2⟩, x3, x4⟩ := hR'
 refine ⟨⟨μ, x1.less fun id hid => ?_, x2⟩, x3, x4⟩
 rcases hid with hid | ⟨k, _, _, rfl⟩
 .simp only [Fr]; omega
 simp [Fr]
end
end Go.E
/- Ae objects handed to a function that turns them: its contract (Dh of the objects alone), and its use among other objects (Sy, Sx). No condition. -/
namespace Go.E
open Go Go.RowKit
def QG (ρ : Nat -> Nat) : LV -> LV
 | .lsl id sz off len => .lsl (ρ id) sz off len
 | .lpb id off => .lpb (ρ id) off
 | .lpe id i off => .lpe (ρ id) i off
 | .lmap id => .lmap (ρ id)
 | x => x
def Ww : LV -> Option Nat
 | .lsl id _ _ _ => some id
 | .lpb id _ => some id
 | .lpe id _ _ => some id
 | .lmap id => some id
 | _ => none
def Wx : LV -> Bool
 | .p _ => true
 | .lsl _ _ _ _ => true
 | .lpb _ _ => true
 | .lpe _ _ _ => true
 | .lmap _ => true
 | .und => true
 | .any => true
 | _ => false
def M3 (ρ : Nat -> Nat) : A8 -> A8
 | .box cs => .box (cs.map (QG ρ))
 | o => o
def Nn (gl : List (Nat × Nat)) (m : Nat) (l : LV) : Bool := Wx l && (match Ww l with
 | none => true
 | some i => Nat.ble m i || (AJ i gl).isSome)
def Rf (gl : List (Nat × Nat)) (m : Nat) : A8 -> Bool
 | .box cs => cs.all (Nn gl m)
 | _ => true
def Wy (ρ : Nat -> Nat) : LV -> LV
 | .agg l => .agg (l.map (QG ρ))
 | l => QG ρ l
def Wz (gl : List (Nat × Nat)) (m : Nat) : LV -> Bool
 | .agg l => l.all (Nn gl m)
 | l => Nn gl m l
def Xn (ρ : Nat -> Nat) : LV -> LV
 | .tup l => .tup (l.map (Wy ρ))
 | l => Wy ρ l
def Xo (gl : List (Nat × Nat)) (m : Nat) : LV -> Bool
 | .tup l => l.all (Wz gl m)
 | l => Wz gl m l
def Iy (ρ : Nat -> Nat) : AT -> AT
 | [] => []
 | (i, o) :: h => (ρ i, M3 ρ o) :: Iy ρ h
def De (gl : List (Nat × Nat)) (m c i : Nat) : Nat := match AJ i gl with
 | some j => j
 | none => c + (i - m)
def PB (ρ : Nat -> Nat) (h : AT) : AT -> Prop
 | [] => True
 | (i, o) :: r => AJ (ρ i) h = some (M3 ρ o) /\ PB ρ h r
def VS (gl : List (Nat × Nat)) (m m1 : Nat) (H H1 : AT) : Bool :=
 Nat.ble m m1 && H.all (fun p => Nat.ble (p.1 + 1) m && (AJ p.1 gl).isSome && Rf gl m p.2) && gl.all (fun p => (AJ p.1 H).isSome && gl.all fun q => p.1 == q.1 || p.2 != q.2) && H1.all (fun p => (Nat.ble m p.1 || (AJ p.1 gl).isSome) && Rf gl m p.2)
theorem GW {α : Type} {i : Nat} {o : α} : ∀ {l : List (Nat × α)}, AJ i l = some o -> (i, o) ∈ l
 | [], h => by simp [AJ] at h
 | (k, v) :: l, h => by
  unfold AJ at h
  split at h
  .rename_i e; cases h; subst e; simp
  exact List.mem_cons_of_mem _ (GW h)
theorem Np {ρ : Nat -> Nat} {h : AT} {i : Nat} {o : A8} : ∀ {H : AT}, PB ρ h H -> AJ i H = some o -> AJ (ρ i) h = some (M3 ρ o)
 | [], _, hl => by simp [AJ] at hl
 | (k, v) :: H, hk, hl => by
  unfold AJ at hl
  split at hl
  .rename_i e; cases hl; subst e; exact hk.1
  exact Np hk.2 hl
theorem Rg {ρ : Nat -> Nat} {id : Nat} {o : A8} : ∀ {H : AT}, AJ id (Iy ρ H) = some o -> ∃ i o1, AJ i H = some o1 /\ ρ i = id /\ o = M3 ρ o1
 | [], h => by simp [Iy, AJ] at h
 | (k, v) :: H, h => by
  unfold Iy AJ at h
  split at h
  .rename_i e; cases h; exact ⟨k, v, by simp [AJ], e.symm, rfl⟩
  rename_i e
  obtain ⟨i, o1, h1, h2, h3⟩ := Rg h
  refine ⟨i, o1, ?_, h2, h3⟩
  unfold AJ
  rw [if_neg (fun e2 => e (by rw [<- h2, e2]))]
  exact h1
theorem Rh {α : Type} {id : Nat} {o : α} : ∀ {a b : List (Nat × α)}, AJ id (a ++ b) = some o -> AJ id a = some o \/ AJ id b = some o
 | [], b, h => .inr h
 | (k, v) :: a, b, h => by
  rw [List.cons_append] at h
  have e1 : ∀ l : List (Nat × α), AJ id ((k, v) :: l) = if id = k then some v else AJ id l := fun _ => rfl
  rw [e1] at h
  by_cases e : id = k
  .rw [if_pos e] at h; rw [e1, if_pos e]; exact .inl h
  rw [if_neg e] at h; rw [e1, if_neg e]; exact Rh h
section
variable {O : Nat -> Prop} {μ μ' : Nat -> Option BV} {w : World} {ρ : Nat -> Nat}
theorem Sz {v : Value} {l : LV} (hf : Wx l = true) (hμ : ∀ i loc, Ww l = some i -> μ (ρ i) = some loc -> μ' i = some loc) (h : Ac O μ w v (QG ρ l)) : Ac O μ' w v l := by
 cases l with
 | p d => cases h with | p _ _ h => exact .p _ _ h
 | lsl id sz off len =>
  cases h with
  | lsln _ loc hm hn => exact .lsln id loc (hμ _ _ rfl hm) hn
  | lsl _ _ _ cap a loc hm hn hcap hl ha hb hs => exact .lsl id off len cap a loc (hμ _ _ rfl hm) hn hcap hl ha hb hs
 | lpb id off => cases h with | lpb _ _ loc hm hn => exact .lpb id off loc (hμ _ _ rfl hm) hn
 | lpe id i off => cases h with | lpe _ _ _ loc hm hn => exact .lpe id i off loc (hμ _ _ rfl hm) hn
 | lmap id => cases h with | lmap _ loc hm hn => exact .lmap id loc (hμ _ _ rfl hm) hn
 | und => cases h; exact .und
 | any => exact .any v
 | agg l => cases hf
 | tup l => cases hf
 | fn f l => cases hf
theorem Ri {v : Value} {l : LV} (hf : Wx l = true) (hμ : ∀ i loc, Ww l = some i -> μ' i = some loc -> μ (ρ i) = some loc) (h : Ac O μ' w v l) : Ac O μ w v (QG ρ l) := by
 cases l with
 | p d => cases h with | p _ _ h => exact .p _ _ h
 | lsl id sz off len =>
  cases h with
  | lsln _ loc hm hn => exact .lsln _ loc (hμ _ _ rfl hm) hn
  | lsl _ _ _ cap a loc hm hn hcap hl ha hb hs => exact .lsl _ off len cap a loc (hμ _ _ rfl hm) hn hcap hl ha hb hs
 | lpb id off => cases h with | lpb _ _ loc hm hn => exact .lpb _ off loc (hμ _ _ rfl hm) hn
 | lpe id i off => cases h with | lpe _ _ _ loc hm hn => exact .lpe _ i off loc (hμ _ _ rfl hm) hn
 | lmap id => cases h with | lmap _ loc hm hn => exact .lmap _ loc (hμ _ _ rfl hm) hn
 | und => cases h; exact .und
 | any => exact .any v
 | agg l => cases hf
 | tup l => cases hf
 | fn f l => cases hf
theorem WQ {gl : List (Nat × Nat)} {m : Nat} {loc : BV} {o : A8} (hf : Rf gl m o = true) (hμ : ∀ i lc, (m <= i \/ ∃ j, AJ i gl = some j) -> μ (ρ i) = some lc -> μ' i = some lc) (h : C7 O μ w loc (M3 ρ o)) : C7 O μ' w loc o := by
 cases o with
 | row e sz el => exact h
 | map mp => exact h
 | iter cur left => exact h
 | box cs =>
  obtain ⟨hn, c, t, h1, h2, h3⟩ := h
  refine ⟨hn, c, t, h1, by simpa using h2, fun i v l hv hl => ?_⟩
  have hok := List.all_eq_true.1 hf l (List.mem_of_getElem? hl)
  simp only [Nn, Bool.and_eq_true] at hok
  refine Sz hok.1 (fun j lc hj hm => hμ j lc ?_ hm) (h3 i v _ hv (by rw [List.getElem?_map, hl]; rfl))
  have h4 := hok.2
  rw [hj] at h4
  simp only [Bool.or_eq_true, Nat.ble_eq] at h4
  exact h4.imp (fun x => x) fun h5 => Option.isSome_iff_exists.1 h5
theorem VT {gl : List (Nat × Nat)} {m : Nat} {loc : BV} {o : A8} (hf : Rf gl m o = true) (hμ : ∀ i lc, (m <= i \/ ∃ j, AJ i gl = some j) -> μ' i = some lc -> μ (ρ i) = some lc) (h : C7 O μ' w loc o) : C7 O μ w loc (M3 ρ o) := by
 cases o with
 | row e sz el => exact h
 | map mp => exact h
 | iter cur left => exact h
 | box cs =>
  obtain ⟨hn, c, t, h1, h2, h3⟩ := h
  refine ⟨hn, c, t, h1, by simpa using h2, fun i v l hv hl => ?_⟩
  rw [List.getElem?_map] at hl
  cases hc : cs[i]? with
  | none => rw [hc] at hl; cases hl
  | some x =>
   rw [hc] at hl
   cases hl
   have hok := List.all_eq_true.1 hf x (List.mem_of_getElem? hc)
   simp only [Nn, Bool.and_eq_true] at hok
   refine Ri hok.1 (fun j lc hj hm => hμ j lc ?_ hm) (h3 i v x hv hc)
   have h4 := hok.2
   rw [hj] at h4
   simp only [Bool.or_eq_true, Nat.ble_eq] at h4
   exact h4.imp (fun x => x) fun h5 => Option.isSome_iff_exists.1 h5
end
section
variable {P : Program}
theorem Sy {k : Nat} {H H1 : AT} {m m1 : Nat} {ls : List LV} {L : LV} (hM : ∀ A : BD, (∀ id, A.μ0 id ≠ none -> id < m) -> Dh P A H m k ls (fun l h c => l = L /\ h = H1 /\ c = m1))
  (gl : List (Nat × Nat)) {A : BD} {h : AT} {c : Nat} {K : LV -> AT -> Nat -> Prop} (hB : VS gl m m1 H H1 = true) (hobj : PB (De gl m c) h H) (hls : ls.all (Nn gl m) = true) (hL : Xo gl m L = true)
  (hK : K (Xn (De gl m c) L) (Iy (De gl m c) H1 ++ CE (gl.map (·.2)) h) (c + (m1 - m))) : Dh P A h c k (ls.map (QG (De gl m c))) K := by
 simp only [VS, Bool.and_eq_true, List.all_eq_true, Nat.ble_eq, Bool.or_eq_true, beq_iff_eq, bne_iff_ne] at hB
 obtain ⟨⟨⟨hm, hH⟩, hgl⟩, hH1⟩ := hB
 have key : ∀ i o, AJ i H = some o -> i < m /\ (∃ j, AJ i gl = some j) /\ Rf gl m o = true := fun i o hl => by
  obtain ⟨⟨h1, h2⟩, h3⟩ := hH _ (GW hl)
  exact ⟨h1, Option.isSome_iff_exists.1 h2, h3⟩
 have gkey : ∀ i j, AJ i gl = some j -> ∃ o, AJ i H = some o := fun i j hl => Option.isSome_iff_exists.1 (hgl _ (GW hl)).1
 have ginj : ∀ i i' j, AJ i gl = some j -> AJ i' gl = some j -> i = i' := fun i i' j h1 h2 => by
  have := (hgl _ (GW h1)).2 _ (GW h2)
  rcases this with h | h
  .exact h
  exact absurd rfl h
 have rg : ∀ i j, AJ i gl = some j -> De gl m c i = j := fun i j hl => by unfold De; rw [hl]
 have rn : ∀ i, m <= i -> De gl m c i = c + (i - m) := fun i hi => by
  unfold De
  cases hl : AJ i gl with
  | none => rfl
  | some j =>
   obtain ⟨o, ho⟩ := gkey i j hl
   have := (key i o ho).1
   omega
 refine ⟨(hM ⟨default, fun _ => False, fun _ => False, fun _ => none, fun _ h => h.elim⟩ (fun _ h => absurd rfl h)).1, fun μ w vs hh hsz hr => ?_⟩
 have hlt : ∀ id loc, μ id = some loc -> id < c := by
  intro id loc hm'
  by_cases hi : id < c
  .exact hi
  rw [hh.fresh id (by simp only [Fr]; omega)] at hm'; cases hm'
 let μ' : Nat -> Option BV := fun i => match AJ i gl with | some j => μ j | none => none
 have μg : ∀ i j, AJ i gl = some j -> μ' i = μ j := fun i j hl => by simp only [μ', hl]
 have μlt : ∀ i loc, μ' i = some loc -> ∃ j, AJ i gl = some j /\ μ j = some loc := by
  intro i loc hi
  cases hl : AJ i gl with
  | none => simp only [μ', hl] at hi; cases hi
  | some j => exact ⟨j, rfl, by rw [<- μg i j hl]; exact hi⟩
 have hobj' : ∀ i o, AJ i H = some o -> ∃ j, AJ i gl = some j /\ AJ j h = some (M3 (De gl m c) o) := fun i o hl => by
  obtain ⟨_, ⟨j, hj⟩, _⟩ := key i o hl
  have := Np hobj hl
  rw [rg i j hj] at this
  exact ⟨j, hj, this⟩
 have mine : ∀ b, Bt μ' H b -> Bt μ h b /\ ∃ i j o loc, AJ i H = some o /\ AJ i gl = some j /\ AJ j h = some (M3 (De gl m c) o) /\ μ j = some loc /\ loc.nil = false /\ loc.b = b := by
  rintro b ⟨i, o, loc, h1, h2, h3, h4⟩
  obtain ⟨j, hj, hj2⟩ := hobj' i o h1
  rw [μg i j hj] at h2
  exact ⟨⟨j, _, loc, hj2, h2, h3, h4⟩, i, j, o, loc, h1, hj, hj2, h2, h3, h4⟩
 have ownlt : ∀ b, Ae A μ h b -> b < w.heap.size := by
  rintro b (hb | ⟨id, o, loc, h1, h2, h3, rfl⟩)
  .exact Nat.lt_of_lt_of_le (A.hO b hb).1 hh.size
  exact (hh.base id o loc h1 h2 h3).1
 let A' : BD := ⟨w, fun b => Ae A μ h b /\ ¬ Bt μ' H b, Bt μ' H, μ', fun b hb => ⟨ownlt b hb.1, hb.2⟩⟩
 have own1 : ∀ b, Ae A' μ' H b -> Ae A μ h b := by
  rintro b (hb | hb)
  .exact hb.1
  exact .inr (mine b hb).1
 have own2 : ∀ b, Ae A μ h b -> Ae A' μ' H b := fun b hb => by
  by_cases hc : Bt μ' H b
  .exact .inr hc
  exact .inl ⟨hb, hc⟩
 have hh' : HRel A' μ' H (Fr m) w := by
  refine ⟨?_, ?_, ?_, ?_, Nat.le_refl _, fun _ _ _ => rfl, rfl, rfl, rfl, fun _ _ hm' => hm'⟩
  .intro i o hl
   obtain ⟨j, hj, hj2⟩ := hobj' i o hl
   obtain ⟨loc, h1, h2⟩ := hh.obj j _ hj2
   refine ⟨loc, by rw [μg i j hj]; exact h1, ?_⟩
   have h3 : C7 (Ae A' μ' H) μ w loc (M3 (De gl m c) o) := h2.mono (BM.refl _ _) (fun b _ hb => own1 b hb) (fun _ _ h => h) (fun _ => rfl)
   refine WQ (key i o hl).2.2 (fun i' lc hi' hm' => ?_) h3
   rcases hi' with hi' | ⟨j', hj'⟩
   .rw [rn i' hi'] at hm'
    have := hlt _ _ hm'
    omega
   rw [rg i' j' hj'] at hm'
   rw [μg i' j' hj']; exact hm'
  .intro i i' o o' loc loc' h1 h2 m1' m2' n1 n2 he
   obtain ⟨j, hj, hj2⟩ := hobj' i o h1
   obtain ⟨j', hj', hj2'⟩ := hobj' i' o' h2
   rw [μg i j hj] at m1'
   rw [μg i' j' hj'] at m2'
   have := hh.inj _ _ _ _ _ _ hj2 hj2' m1' m2' n1 n2 he
   subst this
   exact ginj _ _ _ hj hj'
  .intro i hi
   cases hm' : μ' i with
   | none => rfl
   | some loc =>
    obtain ⟨j, hj, _⟩ := μlt i loc hm'
    obtain ⟨o, ho⟩ := gkey i j hj
    have := (key i o ho).1
    simp only [Fr] at hi; omega
  intro i o loc h1 h2 h3
  have hmine : Bt μ' H loc.b := ⟨i, o, loc, h1, h2, h3, rfl⟩
  exact ⟨ownlt _ (.inr (mine _ hmine).1), fun hb => hb.2 hmine, .inr hmine⟩
 have hargs : ∀ (i : Nat) (v : Value) (l : LV), vs[i]? = some v -> ls[i]? = some l -> Ac (Ae A' μ' H) μ' w v l := by
  intro i v l hv hl
  have hok := List.all_eq_true.1 hls l (List.mem_of_getElem? hl)
  simp only [Nn, Bool.and_eq_true] at hok
  have h1 := (hr i v _ hv (by rw [List.getElem?_map, hl]; rfl)).mono (O' := Ae A' μ' H) (BM.refl _ _) (fun b _ hb => own1 b hb) (fun _ _ h => h)
  refine Sz hok.1 (fun i' lc hi' hm' => ?_) h1
  have h4 := hok.2
  rw [hi'] at h4
  simp only [Bool.or_eq_true, Nat.ble_eq] at h4
  rcases h4 with h4 | h4
  .rw [rn i' h4] at hm'
   have := hlt _ _ hm'
   omega
  obtain ⟨j', hj'⟩ := Option.isSome_iff_exists.1 h4
  rw [rg i' j' hj'] at hm'
  rw [μg i' j' hj']; exact hm'
 have hμ0 : ∀ id, A'.μ0 id ≠ none -> id < m := by
  intro id hid
  cases hm' : μ' id with
  | none => exact absurd hm' hid
  | some loc =>
   obtain ⟨j, hj, _⟩ := μlt id loc hm'
   obtain ⟨o, ho⟩ := gkey id j hj
   exact (key id o ho).1
 refine ((hM A' hμ0).2 μ' w vs hh' (by simpa using hsz) hargs).mono ?_
 rintro e w' ⟨u, l, h1, c1, μ'', he, ⟨rfl, rfl, rfl⟩, hh2, hu, -⟩
 let μ3 : Nat -> Option BV := fun id => if id < c then μ id else μ'' (m + (id - c))
 have ext : ∀ i loc, μ' i = some loc -> μ'' i = some loc := fun i loc hi => hh2.ext i loc hi
 have μ3o : ∀ id loc, μ id = some loc -> μ3 id = some loc := fun id loc hm' => by simp only [μ3, if_pos (hlt id loc hm'), hm']
 have name : ∀ i lc, (m <= i \/ ∃ j, AJ i gl = some j) -> μ'' i = some lc -> μ3 (De gl m c i) = some lc := by
  intro i lc hi hm'
  rcases hi with hi | ⟨j, hj⟩
  .rw [rn i hi]
   simp only [μ3]
   rw [if_neg (by omega), show m + (c + (i - m) - c) = i by omega]
   exact hm'
  obtain ⟨o, ho⟩ := gkey i j hj
  obtain ⟨j', hj', hj2⟩ := hobj' i o ho
  rw [hj] at hj'
  cases hj'
  obtain ⟨loc, g1, _⟩ := hh.obj j _ hj2
  have := ext i loc (by rw [μg i j hj]; exact g1)
  rw [hm'] at this
  cases this
  rw [rg i j hj]
  exact μ3o j _ g1
 have new : ∀ id o, AJ id (Iy (De gl m c) h1) = some o -> ∃ i o1, AJ i h1 = some o1 /\ De gl m c i = id /\ o = M3 (De gl m c) o1 /\ (m <= i \/ ∃ j, AJ i gl = some j) /\ Rf gl m o1 = true := by
  intro id o hl
  obtain ⟨i, o1, g1, g2, g3⟩ := Rg hl
  obtain ⟨g4, g5⟩ := hH1 _ (GW g1)
  exact ⟨i, o1, g1, g2, g3, g4.imp (fun x => x) fun h5 => Option.isSome_iff_exists.1 h5, g5⟩
 have cases' : ∀ id o, AJ id (Iy (De gl m c) h1 ++ CE (gl.map (·.2)) h) = some o -> (∃ i o1, AJ i h1 = some o1 /\ De gl m c i = id /\ o = M3 (De gl m c) o1 /\ (m <= i \/ ∃ j, AJ i gl = some j) /\ Rf gl m o1 = true) \/ (id ∉ gl.map (·.2) /\ AJ id h = some o) := by
  intro id o hl
  rcases Rh hl with hl | hl
  .exact .inl (new id o hl)
  exact .inr (GA hl)
 have other : ∀ id o loc, id ∉ gl.map (·.2) -> AJ id h = some o -> μ id = some loc -> loc.nil = false -> ¬ Bt μ' H loc.b := by
  intro id o loc hid hl hm' hn hmine
  obtain ⟨_, i, j, o', loc', g1, g2, g3, g4, g5, g6⟩ := mine _ hmine
  have := hh.inj _ _ _ _ _ _ g3 hl g4 hm' g5 hn g6
  subst this
  exact hid (List.mem_map.2 ⟨(i, j), GW g2, rfl⟩)
 have hkept : BM (Ae A μ h) w w' := ⟨hh2.size, fun b hb hO => hh2.block b hb fun hm' => hO (.inr (mine b hm').1)⟩
 have nmine : ∀ b, Bt μ3 (Iy (De gl m c) h1 ++ CE (gl.map (·.2)) h) b -> Bt μ'' h1 b \/ (Ae A μ h b /\ ¬ Bt μ' H b) := by
  rintro b ⟨id, o, loc, g1, g2, g3, g4⟩
  rcases cases' id o g1 with ⟨i, o1, k1, k2, k3, k4, k5⟩ | ⟨k1, k2⟩
  .left
   obtain ⟨lc, q1, _⟩ := hh2.obj i o1 k1
   have := name i lc k4 q1
   rw [k2, g2] at this
   cases this
   exact ⟨i, o1, loc, k1, q1, g3, g4⟩
  right
  obtain ⟨lc, q1, _⟩ := hh.obj id o k2
  have := μ3o id lc q1
  rw [g2] at this
  cases this
  rw [<- g4]
  exact ⟨.inr ⟨id, o, loc, k2, q1, g3, rfl⟩, other id o loc k1 k2 q1 g3⟩
 have own3 : ∀ b, Ae A μ3 (Iy (De gl m c) h1 ++ CE (gl.map (·.2)) h) b -> Ae A' μ'' h1 b := by
  rintro b (hb | hb)
  .refine .inl ⟨.inl hb, fun hm' => ?_⟩
   obtain ⟨_, i, j, o', loc', g1, g2, g3, g4, g5, rfl⟩ := mine _ hm'
   exact (hh.base j _ loc' g3 g4 g5).2.1 hb
  rcases nmine b hb with hb | hb
  .exact .inr hb
  exact .inl hb
 have own4 : ∀ b, b < w.heap.size -> Ae A μ3 (Iy (De gl m c) h1 ++ CE (gl.map (·.2)) h) b -> Ae A μ h b := by
  rintro b hlt' (hb | hb)
  .exact .inl hb
  rcases nmine b hb with ⟨i, o1, loc, k1, k2, k3, rfl⟩ | hb
  .rcases (hh2.base i o1 loc k1 k2 k3).2.2 with hx | hx
   .exact absurd hx (by show ¬ w.heap.size <= _; omega)
   exact .inr (mine _ hx).1
  exact hb.1
 have hu2 : Ac (Ae A μ3 (Iy (De gl m c) h1 ++ CE (gl.map (·.2)) h)) μ'' w' u l := hu.mono (BM.refl _ _) (fun b _ hb => own3 b hb) (fun _ _ h => h)
 have one : ∀ v x, Nn gl m x = true -> Ac (Ae A μ3 (Iy (De gl m c) h1 ++ CE (gl.map (·.2)) h)) μ'' w' v x -> Ac (Ae A μ3 (Iy (De gl m c) h1 ++ CE (gl.map (·.2)) h)) μ3 w' v (QG (De gl m c) x) := by
  intro v x hx hv
  simp only [Nn, Bool.and_eq_true] at hx
  refine Ri hx.1 (fun i' lc' hi' hm' => name i' lc' ?_ hm') hv
  have h4 := hx.2
  rw [hi'] at h4
  simp only [Bool.or_eq_true, Nat.ble_eq] at h4
  exact h4.imp (fun x => x) fun h5 => Option.isSome_iff_exists.1 h5
 refine ⟨u, _, _, _, μ3, he, hK, ⟨?_, ?_, ?_, ?_, Nat.le_trans hh.size hh2.size, ?_, hh2.os.trans hh.os, hh2.tape.trans hh.tape, hh2.output.trans hh.output, fun id loc hm' => μ3o id loc (hh.ext id loc hm')⟩, ?_, fun v x hv => hv.mono hkept own4 μ3o⟩
 .intro id o hl
  rcases cases' id o hl with ⟨i, o1, k1, k2, rfl, k4, k5⟩ | ⟨k1, k2⟩
  .obtain ⟨lc, q1, q2⟩ := hh2.obj i o1 k1
   refine ⟨lc, by rw [<- k2]; exact name i lc k4 q1, ?_⟩
   have q3 : C7 (Ae A μ3 (Iy (De gl m c) h1 ++ CE (gl.map (·.2)) h)) μ'' w' lc o1 := q2.mono (BM.refl _ _) (fun b _ hb => own3 b hb) (fun _ _ h => h) (fun _ => rfl)
   exact VT k5 (fun i' lc' hi' hm' => name i' lc' hi' hm') q3
  obtain ⟨lc, q1, q2⟩ := hh.obj id o k2
  refine ⟨lc, μ3o id lc q1, q2.mono hkept own4 μ3o fun hn => ?_⟩
  exact hh2.block _ (hh.base id o lc k2 q1 hn).1 (other id o lc k1 k2 q1 hn)
 .intro id id' o o' loc loc' g1 g2 m1' m2' n1 n2 hb
  rcases cases' id o g1 with ⟨i, o1, k1, k2, k3, k4, k5⟩ | ⟨k1, k2⟩
  .obtain ⟨lc, q1, _⟩ := hh2.obj i o1 k1
   have e1 := name i lc k4 q1
   rw [k2, m1'] at e1
   cases e1
   rcases cases' id' o' g2 with ⟨i', o1', k1', k2', k3', k4', k5'⟩ | ⟨k1', k2'⟩
   .obtain ⟨lc', q1', _⟩ := hh2.obj i' o1' k1'
    have e1' := name i' lc' k4' q1'
    rw [k2', m2'] at e1'
    cases e1'
    have := hh2.inj _ _ _ _ _ _ k1 k1' q1 q1' n1 n2 hb
    rw [<- k2, <- k2', this]
   exfalso
   obtain ⟨lc', q1', _⟩ := hh.obj id' o' k2'
   have e1' := μ3o id' lc' q1'
   rw [m2'] at e1'
   cases e1'
   have hno := other id' o' loc' k1' k2' q1' n2
   have hsz' := (hh.base id' o' loc' k2' q1' n2).1
   rcases (hh2.base i o1 loc k1 q1 n1).2.2 with hx | hx
   .have : w.heap.size <= loc.b := hx
    omega
   rw [hb] at hx; exact hno hx
  obtain ⟨lc, q1, _⟩ := hh.obj id o k2
  have e1 := μ3o id lc q1
  rw [m1'] at e1
  cases e1
  rcases cases' id' o' g2 with ⟨i', o1', k1', k2', k3', k4', k5'⟩ | ⟨k1', k2'⟩
  .exfalso
   obtain ⟨lc', q1', _⟩ := hh2.obj i' o1' k1'
   have e1' := name i' lc' k4' q1'
   rw [k2', m2'] at e1'
   cases e1'
   have hno := other id o loc k1 k2 q1 n1
   have hsz' := (hh.base id o loc k2 q1 n1).1
   rcases (hh2.base i' o1' loc' k1' q1' n2).2.2 with hx | hx
   .have : w.heap.size <= loc'.b := hx
    omega
   rw [<- hb] at hx; exact hno hx
  obtain ⟨lc', q1', _⟩ := hh.obj id' o' k2'
  have e1' := μ3o id' lc' q1'
  rw [m2'] at e1'
  cases e1'
  exact hh.inj _ _ _ _ _ _ k2 k2' q1 q1' n1 n2 hb
 .intro id hid
  simp only [Fr] at hid
  simp only [μ3]
  rw [if_neg (by omega)]
  exact hh2.fresh _ (by simp only [Fr]; omega)
 .intro id o loc g1 g2 g3
  rcases cases' id o g1 with ⟨i, o1, k1, k2, k3, k4, k5⟩ | ⟨k1, k2⟩
  .obtain ⟨lc, q1, _⟩ := hh2.obj i o1 k1
   have e1 := name i lc k4 q1
   rw [k2, g2] at e1
   cases e1
   obtain ⟨b1, b2, b3⟩ := hh2.base i o1 loc k1 q1 g3
   refine ⟨b1, fun hO => b2 ⟨.inl hO, fun hm' => ?_⟩, ?_⟩
   .obtain ⟨_, i', j', o', loc', g1', g2', g3', g4', g5', g6'⟩ := mine _ hm'
    rw [<- g6'] at hO
    exact (hh.base j' _ loc' g3' g4' g5').2.1 hO
   rcases b3 with hx | hx
   .exact .inl (Nat.le_trans hh.size hx)
   obtain ⟨_, i', j', o', loc', g1', g2', g3', g4', g5', g6'⟩ := mine _ hx
   rw [<- g6']
   exact (hh.base j' _ loc' g3' g4' g5').2.2
  obtain ⟨lc, q1, _⟩ := hh.obj id o k2
  have e1 := μ3o id lc q1
  rw [g2] at e1
  cases e1
  obtain ⟨b1, b2, b3⟩ := hh.base id o loc k2 q1 g3
  exact ⟨Nat.lt_of_lt_of_le b1 hh2.size, b2, b3⟩
 .intro b hb hnf
  have hnm : ¬ Bt μ' H b := by
   intro hm'
   obtain ⟨_, i', j', o', loc', g1', g2', g3', g4', g5', g6'⟩ := mine _ hm'
   have := (hh.base j' _ loc' g3' g4' g5').2.2
   rw [g6'] at this
   rcases this with hx | hx
   .omega
   exact hnf hx
  rw [hh2.block b (Nat.lt_of_lt_of_le hb hh.size) hnm]
  exact hh.block b hb hnf
 have oneA : ∀ v x, Wz gl m x = true -> Ac (Ae A μ3 (Iy (De gl m c) h1 ++ CE (gl.map (·.2)) h)) μ'' w' v x -> Ac (Ae A μ3 (Iy (De gl m c) h1 ++ CE (gl.map (·.2)) h)) μ3 w' v (Wy (De gl m c) x) := by
  intro v x hx hv
  cases x with
  | agg xs =>
   cases hv with
   | agg vs' _ hsz' hxs =>
    refine .agg vs' _ (by simpa using hsz') fun i v x hv hx' => ?_
    rw [List.getElem?_map] at hx'
    cases hc : xs[i]? with
    | none => rw [hc] at hx'; cases hx'
    | some y =>
     rw [hc] at hx'
     cases hx'
     exact one v y (List.all_eq_true.1 hx y (List.mem_of_getElem? hc)) (hxs i v y hv hc)
  | p d => exact one v _ hx hv
  | lsl id sz off len => exact one v _ hx hv
  | lpb id off => exact one v _ hx hv
  | lpe id i off => exact one v _ hx hv
  | lmap id => exact one v _ hx hv
  | und => exact one v _ hx hv
  | any => exact one v _ hx hv
  | tup l => exact one v _ hx hv
  | fn f l => exact one v _ hx hv
 cases l with
 | tup xs =>
  cases hu2 with
  | tup vs' _ hsz' hxs =>
   refine .tup vs' _ (by simpa using hsz') fun i v x hv hx => ?_
   rw [List.getElem?_map] at hx
   cases hc : xs[i]? with
   | none => rw [hc] at hx; cases hx
   | some y =>
    rw [hc] at hx
    cases hx
    exact oneA v y (List.all_eq_true.1 hL y (List.mem_of_getElem? hc)) (hxs i v y hv hc)
 | p d => exact oneA u (.p d) hL hu2
 | lsl id sz off len => exact oneA u (.lsl id sz off len) hL hu2
 | lpb id off => exact oneA u (.lpb id off) hL hu2
 | lpe id i off => exact oneA u (.lpe id i off) hL hu2
 | lmap id => exact oneA u (.lmap id) hL hu2
 | und => exact oneA u .und hL hu2
 | any => exact oneA u .any hL hu2
 | agg l => exact oneA u (.agg l) hL hu2
 | fn f l => exact oneA u (.fn f l) hL hu2
end
def VP (P : Program) (k : Nat) (H : AT) (c : Nat) (args : List LV) (L : LV) (H1 : AT) (C : Nat) : Prop :=
 ∀ A : BD, (∀ id, A.μ0 id ≠ none -> id < c) -> Dh P A H c k args fun l h c' => l = L /\ h = H1 /\ c' = C
section
variable {P : Program} {AB : A2}
theorem Xz (hE : BB P AB) {k : Nat} {fn : Func} {cd : Code} (hfun : P.funcs[k]? = some fn) (nt' : Nat) (rs : List ResultVar) (sl' : List (Nat × LV)) (hb : fn.body = some cd) (hn : (fn.name == "runtime.NumGoroutine") = false) (hnt : Nat.beq fn.ntmps nt' = true) (hrs : fn.results.toList = rs)
  {H H1 : AT} {c C : Nat} {ls : List LV} {L : LV} (hlen : Nat.ble ls.length nt' = true) (hsl : KJ 0 ls = sl')
  (body : ∀ A : BD, (∀ id, A.μ0 id ≠ none -> id < c) -> Bw P A cd (IP AB.tt rs A L H1 C) ⟨nt', sl', H, c⟩) : VP P k H c ls L H1 C := by
 intro A hA
 subst hsl
 refine RR hE hfun hb hn nt' (Nat.eq_of_beq_eq_true hnt) rs hrs (Nat.le_of_ble_eq_true hlen) fun A' hA' => ?_
 refine JV (Ss (body A' hA')) fun e s q => ?_
 have fin : (Hi AB.tt rs s = some L /\ s.heap = H1 /\ s.ctr = C) -> ∃ l, Hi AB.tt rs s = some l /\ l = L /\ s.heap = H1 /\ s.ctr = C := fun ⟨q1, q2, q3⟩ => ⟨_, q1, rfl, q2, q3⟩
 cases e <;> first | exact fin q | exact q.elim
section
variable {A : BD} {f : St -> Prop} {hf : H6 f} {nt : Nat} {sl : List (Nat × LV)} {h : AT} {c : Nat}
theorem Sx {k : Nat} {H H1 : AT} {m m1 : Nat} {ls : List LV} {L L' : LV} (hM : VP P k H m ls L H1 m1) (gl : List (Nat × Nat)) {h' : AT} {c' : Nat} {dst : Option Tmp} {fo : Operand} {args : Array Operand} {ts : Array TypeId}
  (hB : VS gl m m1 H H1 = true) (hobj : PB (De gl m c) h H) (hls : ls.all (Nn gl m) = true) (hfn : A9 nt sl fo = .fn k []) (hl : EM nt sl args.toList some = some (ls.map (QG (De gl m c))))
  (hh : Iy (De gl m c) H1 ++ CE (gl.map (·.2)) h = h') (hc : c + (m1 - m) = c') (hL : Xo gl m L = true) (hL' : Xn (De gl m c) L = L') (kk : f (match dst with | some d => ⟨nt, (d, L') :: sl, h', c'⟩ | none => ⟨nt, sl, h', c'⟩)) :
  BC P A AB ⟨nt, sl, h, c⟩ dst (.call ⟨.value fo, args, ts⟩) ⟨f, hf⟩ := by
 rw [BE (h := h) (c := c)] at hfn
 show Mi _ _
 rw [hfn]
 show KB P A h c k (args.toList.map _ ++ []) _
 rw [HJ hl, List.append_nil]
 refine Sy hM gl hB hobj hls hL ?_
 rw [hh, hc, hL']
 show f (St.go ⟨nt, sl, h, c⟩ dst L' h' c')
 rw [NU]
 cases dst <;> exact kk
end
end
end Go.E
/- Loops over maps, in whatever order (loopA); iterators. No condition. -/
namespace Go.E
open Go Go.RowKit
section
variable {σ α Ans : Type}
open Classical in
end
section
variable {P : Program} {A : BD} {AB : A2} {st : St} {σ α Ans : Type}
end
section
variable {P : Program} {A : BD} {AB : A2} {f : St -> Prop} {hf : H6 f} {nt : Nat} {sl : List (Nat × LV)} {h : AT} {c : Nat} {d : Tmp} {κ υ : Type} {ke : κ -> DV} {ve : υ -> DV}
end
end Go.E
/- Drawn regions whose last operation waits for all others: it is run as in the text's order (a call that turns an object, a call that hands back an own row). Condition: the checks, by kernel. -/
namespace Go.E
open Go Go.RowKit
section
variable {P : Program} {A : BD} {AB : A2} {md : Region.Mode} {ops : Array Oper} {base : Nat} {K : St -> Prop}
end
end Go.E
/- The program's data in plain Lean, and how they stand in cells. Written by a program (gen.py). No condition. -/
namespace Go.E
open Go Go.RowKit Go.Proofs
theorem bq {α β : Type} {o : Option α} {f : α -> Option β} {b : β} {G : Prop} (h : o.bind f = some b) (k : ∀ a, o = some a -> f a = some b -> G) : G := by
 obtain ⟨a, h1, h2⟩ := bd h
 exact k a h1 h2
abbrev bx (l : List DV) : A8 := .box (l.map .p)
theorem Z {α : Type} {a : α} : a = a := rfl
theorem AM {σ : Type} {A : BD} {S : σ -> St} {st : St} {s t : σ} (h : some s = some t) (hw : A4 A st (S s)) : NP A S t .normal st := by
 cases h; exact Xy hw
theorem As {σ Ans : Type} {A : BD} {S : σ -> St} {Q : Ans -> Exit -> St -> Prop} {st : St} {s : σ} {b : σ ⊕ Ans} (h : some (.inl s) = some b) (hw : A4 A st (S s)) : LP A S Q b .normal st := by
 cases h; exact Xx hw
theorem BR {σ Ans : Type} {A : BD} {S : σ -> St} {Q : Ans -> Exit -> St -> Prop} {st : St} {x : Ans} {b : σ ⊕ Ans} {id : Nat} (h : some (.inr x) = some b) (k : ∀ a, some x = some a -> Q a (.exit id) st) : LP A S Q b (.exit id) st := by
 cases h; exact Xl (k x rfl)
theorem A0 {σ Ans : Type} {A : BD} {S : σ -> St} {Q : Ans -> Exit -> St -> Prop} {st : St} {x : Ans} {b : σ ⊕ Ans} (h : some (.inr x) = some b) (k : ∀ a, some x = some a -> Q a .ret st) : LP A S Q b .ret st := by
 cases h; exact Xm (k x rfl)
theorem CN {σ Ans : Type} {A : BD} {S : σ -> St} {Q : Ans -> Exit -> St -> Prop} {st : St} {o : Option Ans} {b : σ ⊕ Ans} {id : Nat} (h : o.map .inr = some b) (k : ∀ a, o = some a -> Q a (.exit id) st) : LP A S Q b (.exit id) st := by
 obtain ⟨a, h1, rfl⟩ := mp h; exact Xl (k a h1)
theorem X3 {σ Ans : Type} {A : BD} {S : σ -> St} {Q : Ans -> Exit -> St -> Prop} {st : St} {o : Option Ans} {b : σ ⊕ Ans} (h : o.map .inr = some b) (k : ∀ a, o = some a -> Q a .ret st) : LP A S Q b .ret st := by
 obtain ⟨a, h1, rfl⟩ := mp h; exact Xm (k a h1)

instance : BEq ByteArray := ⟨fun a b => a.toList == b.toList⟩
def AQ (n : Int) : Int := IntKind.wrap .i64 n
def Ah (n : Int) : List DV := [.int .i64 n]
def X0 (n : Int) : List DV := [.int .u8 n]
def XY (b : Bool) : List DV := [.bool b]
def Et (s : ByteArray) : List DV := [.str s]
def Dt {α : Type} (sz : Nat) (enc : α -> List DV) (l : List α) : List DV := [.slice sz (l.map enc)]
def Xv {α : Type} (enc : α -> List DV) (p : Option α) : DV := match p with
 | none => .nilp
 | some x => .place (enc x) 0
structure AG where
 elem : Int
 fin : Int
 deriving DecidableEq
def AL (x : AG) : List DV := [.int .i64 x.elem, .int .i64 x.fin]
theorem IK (x y : AG) : B2 (AL x) (AL y) = (x == y) := by
 rw [Bool.eq_iff_iff]
 rw [beq_iff_eq]
 simp only [AL, B2, DJ, Bool.and_eq_true, beq_iff_eq, Bool.and_true]
 constructor
 .intro h
  obtain ⟨a1, a2⟩ := x; obtain ⟨b1, b2⟩ := y; simp only at h; simp [h]
 rintro rfl; simp
structure C2 where
 a : AG
 b : AG
 deriving DecidableEq
def Ca (x : C2) : List DV := [.int .i64 x.a.elem, .int .i64 x.a.fin, .int .i64 x.b.elem, .int .i64 x.b.fin]
structure Cm where
 name : ByteArray
 kind : Int
 length : Int
 deriving DecidableEq
def B0 (x : Cm) : List DV := [.str x.name, .int .i64 x.kind, .int .i64 x.length]
structure Bf where
 name : ByteArray
 at_ : AG
 auto : Bool
 deriving DecidableEq
def Bb (x : Bf) : List DV := [.str x.name, .int .i64 x.at_.elem, .int .i64 x.at_.fin, .bool x.auto]
structure Ee where
 name : ByteArray
 elems : (List Int)
 deriving DecidableEq
def CH (x : Ee) : List DV := [.str x.name, .slice 1 (x.elems.map Ah)]
structure AK where
 elems : (List Cm)
 joins : (List C2)
 signals : (List Bf)
 lines : (List Ee)
 top : Int
 brake : Int
 margin : Int
 throw : Int
 hard : Bool
 deriving DecidableEq
def Aa (x : AK) : List DV := [.slice 3 (x.elems.map B0), .slice 4 (x.joins.map Ca), .slice 4 (x.signals.map Bb), .slice 2 (x.lines.map CH), .int .i64 x.top, .int .i64 x.brake, .int .i64 x.margin, .int .i64 x.throw, .bool x.hard]
structure Cu where
 a0 : Int
 a1 : Int
 deriving DecidableEq
def FY (x : Cu) : List DV := [.int .i64 x.a0, .int .i64 x.a1]
structure A5 where
 p : AK
 next : (List (AG × AG))
 reads : (List (AG × Int))
 line : (List (Int × Cu))
 lead : (List (Int × Int))
 deriving DecidableEq
def Aw (x : A5) : List DV := [.slice 3 (x.p.elems.map B0), .slice 4 (x.p.joins.map Ca), .slice 4 (x.p.signals.map Bb), .slice 2 (x.p.lines.map CH), .int .i64 x.p.top, .int .i64 x.p.brake, .int .i64 x.p.margin, .int .i64 x.p.throw, .bool x.p.hard, .map (Am (fun x => .agg (AL x)) (fun x => .agg (AL x)) x.next), .map (Am (fun x => .agg (AL x)) (.int .i64) x.reads), .map (Am (.int .i64) (fun x => .agg (FY x)) x.line), .map (Am (.int .i64) (.int .i64) x.lead)]
structure AV where
 elem : Int
 in_ : Int
 out : Int
 deriving DecidableEq
def Ak (x : AV) : List DV := [.int .i64 x.elem, .int .i64 x.in_, .int .i64 x.out]
theorem VQ (x y : AV) : B2 (Ak x) (Ak y) = (x == y) := by
 rw [Bool.eq_iff_iff]
 rw [beq_iff_eq]
 simp only [Ak, B2, DJ, Bool.and_eq_true, beq_iff_eq, Bool.and_true]
 constructor
 .intro h
  obtain ⟨a1, a2, a3⟩ := x; obtain ⟨b1, b2, b3⟩ := y; simp only at h; simp [h]
 rintro rfl; simp
structure AX where
 elem : Int
 pos : Int
 deriving DecidableEq
def Ao (x : AX) : List DV := [.int .i64 x.elem, .int .i64 x.pos]
theorem RY (x y : AX) : B2 (Ao x) (Ao y) = (x == y) := by
 rw [Bool.eq_iff_iff]
 rw [beq_iff_eq]
 simp only [Ao, B2, DJ, Bool.and_eq_true, beq_iff_eq, Bool.and_true]
 constructor
 .intro h
  obtain ⟨a1, a2⟩ := x; obtain ⟨b1, b2⟩ := y; simp only at h; simp [h]
 rintro rfl; simp
structure AW where
 frm : Int
 to : Int
 fin : Int
 steps : (List AV)
 needs : (List AX)
 guards : (List AX)
 zone : (List Int)
 holds : (List Int)
 bare : Bool
 deriving DecidableEq
def Ab (x : AW) : List DV := [.int .i64 x.frm, .int .i64 x.to, .int .i64 x.fin, .slice 3 (x.steps.map Ak), .slice 2 (x.needs.map Ao), .slice 2 (x.guards.map Ao), .slice 1 (x.zone.map Ah), .slice 1 (x.holds.map Ah), .bool x.bare]
structure BY where
 out : Int
 pos : Int
 deriving DecidableEq
def CW (x : BY) : List DV := [.int .i64 x.out, .int .i64 x.pos]
structure L2 where
 berth : Int
 steps : (List AV)
 pos : (List Int)
 left : (List (List BY))
 deriving DecidableEq
def QD (x : L2) : List DV := [.int .i64 x.berth, .slice 3 (x.steps.map Ak), .slice 1 (x.pos.map Ah), .slice 1 (x.left.map (Dt 2 CW))]
structure DR where
 plan : AK
 roads : (List AW)
 deriving DecidableEq
def Co (x : DR) : List DV := [.slice 3 (x.plan.elems.map B0), .slice 4 (x.plan.joins.map Ca), .slice 4 (x.plan.signals.map Bb), .slice 2 (x.plan.lines.map CH), .int .i64 x.plan.top, .int .i64 x.plan.brake, .int .i64 x.plan.margin, .int .i64 x.plan.throw, .bool x.plan.hard, .slice 9 (x.roads.map Ab)]
theorem B7 : Jk AB 96 (fun x => .agg (AL x)) := ⟨fun a b => (IK a b), fun _ => rfl⟩
theorem Jt : Jk AB 3 (.int .i64) := ⟨fun _ _ => rfl, fun _ => rfl⟩
theorem LJ : Jk AB 9 .str := ⟨fun _ _ => rfl, fun _ => rfl⟩
end Go.E
/- Plain functions, and walks in step with them. Written by a program (gen.py). No condition. -/
set_option maxRecDepth 100000
namespace Go.E
open Go Go.RowKit Go.Proofs
noncomputable def GH (a : Int) (b : Int) (c : Int) (d : Int) : Option C2 :=
 some (⟨(⟨a, b⟩ : AG), (⟨c, d⟩ : AG)⟩ : C2)
theorem Is (a : Int) (b : Int) (c : Int) (d : Int) (r : C2) (h : GH a b c d = some r) : A7 Try.prog 87 [.int .i64 a, .int .i64 b, .int .i64 c, .int .i64 d] (· = .agg (Ca r)) := by
 refine fn AA Try.func87 Z Z 16 Z [.cell 8 132] Z [(0, .p (.int .i64 a)), (1, .p (.int .i64 b)), (2, .p (.int .i64 c)), (3, .p (.int .i64 d))] Z Z fun A hA => ?_
 unfold GH at h
 refine rs AA <| rl Z <| rs AA <| rl Z <| AF ?_
 cases h
 exact er Z Le.rfl
noncomputable def L0 : Option AK :=
 (GH 0 0 1 0).bind fun a => (GH 1 1 2 0).bind fun b => (GH 2 1 3 0).bind fun c => (GH 3 1 5 0).bind fun d => (GH 2 2 4 0).bind fun e => some (⟨[(⟨(⟨#[87]⟩ : ByteArray), 4, 0⟩ : Cm), (⟨(⟨#[65]⟩ : ByteArray), 1, 20⟩ : Cm), (⟨(⟨#[80]⟩ : ByteArray), 2, 10⟩ : Cm), (⟨(⟨#[66]⟩ : ByteArray), 1, 20⟩ : Cm), (⟨(⟨#[67]⟩ : ByteArray), 1, 30⟩ : Cm), (⟨(⟨#[69]⟩ : ByteArray), 4, 0⟩ : Cm)], [a, b, c, d, e], [(⟨(⟨#[119]⟩ : ByteArray), (⟨0, 0⟩ : AG), false⟩ : Bf), (⟨(⟨#[97]⟩ : ByteArray), (⟨1, 1⟩ : AG), false⟩ : Bf), (⟨(⟨#[101]⟩ : ByteArray), (⟨5, 0⟩ : AG), false⟩ : Bf), (⟨(⟨#[98]⟩ : ByteArray), (⟨3, 0⟩ : AG), false⟩ : Bf), (⟨(⟨#[99]⟩ : ByteArray), (⟨4, 0⟩ : AG), false⟩ : Bf)], [], 10, 5, 15, 2, false⟩ : AK)
theorem Ti (r : AK) (h : L0 = some r) : A7 Try.prog 41 [] (· = .agg (Aa r)) := by
 refine fn AA Try.func41 Z Z 31 Z [.cell 0 27] Z [] Z Z fun A hA => ?_
 unfold L0 at h
 refine rs AA <| rl Z <| rs AA <| rl Z <| rs AA <| rl Z <| rs AA <| bq h fun l a f => sx Z (AS (Is _ _ _ _ _ a) (.inl Z) Z Z Z <| bq f fun m b g => sx Z (AS (Is _ _ _ _ _ b) (.inl Z) Z Z Z <| bq g fun n c i => sx Z (AS (Is _ _ _ _ _ c) (.inl Z) Z Z Z <| bq i fun o d j => sx Z (AS (Is _ _ _ _ _ d) (.inl Z) Z Z Z <| bq j fun q e k => sx Z (AS (Is _ _ _ _ _ e) (.inl Z) Z Z Z <| rl Z <| rs AA <| rl Z <| rs AA <| rl Z <| AF ?_)))))
 cases k
 exact er (JF Z (.agg (.cons (.own (enc := B0) ([(⟨(⟨#[87]⟩ : ByteArray), 4, 0⟩ : Cm), (⟨(⟨#[65]⟩ : ByteArray), 1, 20⟩ : Cm), (⟨(⟨#[80]⟩ : ByteArray), 2, 10⟩ : Cm), (⟨(⟨#[66]⟩ : ByteArray), 1, 20⟩ : Cm), (⟨(⟨#[67]⟩ : ByteArray), 1, 30⟩ : Cm), (⟨(⟨#[69]⟩ : ByteArray), 4, 0⟩ : Cm)] : List Cm) Z Z) (.cons (.own (enc := Ca) ([l, m, n, o, q] : List C2) Z Z) (.cons (.own (enc := Bb) ([(⟨(⟨#[119]⟩ : ByteArray), (⟨0, 0⟩ : AG), false⟩ : Bf), (⟨(⟨#[97]⟩ : ByteArray), (⟨1, 1⟩ : AG), false⟩ : Bf), (⟨(⟨#[101]⟩ : ByteArray), (⟨5, 0⟩ : AG), false⟩ : Bf), (⟨(⟨#[98]⟩ : ByteArray), (⟨3, 0⟩ : AG), false⟩ : Bf), (⟨(⟨#[99]⟩ : ByteArray), (⟨4, 0⟩ : AG), false⟩ : Bf)] : List Bf) Z Z) (.cons (.p _) (.cons (.p _) (.cons (.p _) (.cons (.p _) (.cons (.p _) (.cons (.p _) .nil))))))))))) (Le.agg' (.cons Le.rfl (.cons Le.rfl (.cons Le.rfl (.cons (Le.nil _) (.cons Le.rfl (.cons Le.rfl (.cons Le.rfl (.cons Le.rfl (.cons Le.rfl .nil))))))))))
noncomputable def Gx (b : AK) (a : Int) : Option (Int ⊕ Bool) :=
 bif decide (a < (b.signals.length : Int)) then (Al b.signals a).bind fun c => bif decide (100 < (c.name.size : Int)) then some (.inr false) else some (.inl (AQ (a + 1))) else some (.inr true)
noncomputable def Gy (b : AK) (a : Int) : Option (Int ⊕ Bool) :=
 bif decide (a < (b.elems.length : Int)) then (Al b.elems a).bind fun c => bif decide (100 < (c.name.size : Int)) then some (.inr false) else some (.inl (AQ (a + 1))) else (AO (Gx b) 0).map .inr
noncomputable def IW (b : AK) (a : Int) : Option (Int ⊕ Bool) :=
 bif decide (a < (b.lines.length : Int)) then (((Al b.lines a).bind fun d => bif decide (60 < (d.elems.length : Int)) then some true else (Al b.lines a).bind fun e => some (decide (100 < (e.name.size : Int))) : Option (Bool))).bind fun (c : Bool) => bif c then some (.inr false) else some (.inl (AQ (a + 1))) else (AO (Gy b) 0).map .inr
noncomputable def Jo (a : AK) : Option Bool :=
 ((bif decide (60 < (a.elems.length : Int)) then some true else bif decide (120 < (a.joins.length : Int)) then some true else bif decide (60 < (a.signals.length : Int)) then some true else some (decide (20 < (a.lines.length : Int))) : Option (Bool))).bind fun (b : Bool) => bif b then some false else AO (IW a) 0
theorem VN (b : AK) (r : Bool) (h : Jo b = some r) : A7 Try.prog 43 [.agg (Aa b)] (· = .bool r) := by
 refine fn AA Try.func43 Z Z 83 Z [.tmp 2] Z [(0, .p (.agg (Aa b)))] Z Z fun A hA => ?_
 unfold Jo at h
 refine rs AA <| rl Z <| AC <| jb (fun d : Bool => ⟨83, [(1, .lpb 0 0), (27, lb d)], [(0, bx (Aa b))], 1⟩) h (fun d u => ?_) (fun d am => ?_)
 .refine rg AA <| rn 2 Z <| sx Z (Aj Z Z <| rn 2 Z <| gs 10 u Z Z Z (fun v => ?_) (fun ac => ?_))
  .exact rl Z <| AM v (wf hA [(0, 0)] Z Z Z)
  refine rn 2 Z <| sx Z (Aj Z Z <| rn 3 Z <| gs 16 ac Z Z Z (fun ai => ?_) (fun aj => ?_))
  .exact rl Z <| AM ai (wf hA [(0, 0)] Z Z Z)
  refine rn 2 Z <| sx Z (Aj Z Z <| rn 3 Z <| gs 22 aj Z Z Z (fun ak => ?_) (fun al => ?_))
  .exact rl Z <| AM ak (wf hA [(0, 0)] Z Z Z)
  exact rn 2 Z <| sx Z (Aj Z Z <| rl Z <| AM al (wf hA [(0, 0)] Z Z Z))
 refine cd Z am (fun an => ?_) (fun ao => ?_)
 .refine rs AA <| rl Z <| AF <| AH ?_
  cases an
  exact er Z Le.rfl
 refine AE <| AD <| AC <| rs AA <| rl Z <| AI ?_
 apply lp (a := r) (fun c : Int => ⟨83, [(1, .lpb 0 0), (3, li c)], [(0, bx (Aa b))], 1⟩) ao
 . exact wf hA [(0, 0)] Z Z Z
 intro c a9 f
 unfold IW at f
 refine AC <| rs AA <| rn 3 Z <| sx Z (Aj Z Z <| rl Z <| cd Z f (fun t => ?_) (fun ag => ?_))
 .refine AE <| AD <| AC <| AI <| jb (fun e : Bool => ⟨83, [(1, .lpb 0 0), (3, li c), (52, lb e)], [(0, bx (Aa b))], 1⟩) t (fun e w => ?_) (fun e ab => ?_)
  .refine rg AA <| rn 3 Z <| bq w fun bc n x => sx Z (Ap n Z Z Z <| rn 2 Z <| sx Z (Aj Z Z <| rn 2 Z <| gs 43 x Z Z Z (fun y => ?_) (fun z => ?_)))
   .exact rl Z <| AM y (wf hA [(0, 0)] Z Z Z)
   exact rn 3 Z <| bq z fun be o aa => sx Z (Ap o Z Z Z <| rl Z <| AM aa (wf hA [(0, 0)] Z Z Z))
  refine cd Z ab (fun ad => ?_) (fun af => ?_)
  .refine rs AA <| rl Z <| AF <| AR <| AH <| A0 ad fun a5 ae => AR <| AH ?_
   cases ae
   exact er Z Le.rfl
  exact AE <| Ai <| AD <| rg AA <| rl Z <| As af (wf hA [(0, 0)] Z Z Z)
 refine AU <| AY <| CN ag fun l ah => Aq <| AD <| AC <| rs AA <| rl Z <| AI ?_
 apply lp (a := l) (fun j : Int => ⟨83, [(1, .lpb 0 0), (4, li j)], [(0, bx (Aa b))], 1⟩) ah
 . exact wf hA [(0, 0)] Z Z Z
 intro j ba g
 unfold Gy at g
 refine AC <| rs AA <| rn 3 Z <| sx Z (Aj Z Z <| rl Z <| cd Z g (fun ap => ?_) (fun aw => ?_))
 .refine AE <| AD <| AC <| AI <| rs AA <| rn 3 Z <| bq ap fun bf q aq => sx Z (Ap q Z Z Z <| rl Z <| cd Z aq (fun ar => ?_) (fun av => ?_))
  .refine rs AA <| rl Z <| AF <| AR <| AH <| A0 ar fun a6 au => AR <| AH ?_
   cases au
   exact er Z Le.rfl
  exact AE <| Ai <| AD <| rg AA <| rl Z <| As av (wf hA [(0, 0)] Z Z Z)
 refine AU <| AY <| CN aw fun m ax => Aq <| AD <| AC <| rs AA <| rl Z <| AI ?_
 apply lp (a := m) (fun k : Int => ⟨83, [(1, .lpb 0 0), (5, li k)], [(0, bx (Aa b))], 1⟩) ax
 . exact wf hA [(0, 0)] Z Z Z
 intro k bb i
 unfold Gx at i
 refine AC <| rs AA <| rn 3 Z <| sx Z (Aj Z Z <| rl Z <| cd Z i (fun ay => ?_) (fun a3 => ?_))
 .refine AE <| AD <| AC <| AI <| rs AA <| rn 3 Z <| bq ay fun bg s az => sx Z (Ap s Z Z Z <| rl Z <| cd Z az (fun a0 => ?_) (fun a2 => ?_))
  .refine rs AA <| rl Z <| AF <| AR <| AH <| A0 a0 fun a7 a1 => AR <| AH ?_
   cases a1
   exact er Z Le.rfl
  exact AE <| Ai <| AD <| rg AA <| rl Z <| As a2 (wf hA [(0, 0)] Z Z Z)
 refine AU <| AY <| BR a3 fun a8 a4 => Aq <| AD <| rs AA <| rl Z <| AF ?_
 cases a4
 exact er Z Le.rfl
noncomputable def EA (b : AK) (d : (Int × (List ByteArray))) (c : (Int × (List ByteArray))) (a : Int × (List ByteArray)) : Option ((Int × (List ByteArray)) ⊕ ((List ByteArray) × (List ByteArray) × (List ByteArray))) :=
 bif decide (a.1 < (b.lines.length : Int)) then (Al b.lines a.1).bind fun e => (Bc a.2 [e.name]).bind fun f => some (.inl (AQ (a.1 + 1), f)) else some (.inr (d.2, c.2, a.2))
noncomputable def EB (b : AK) (c : (Int × (List ByteArray))) (a : Int × (List ByteArray)) : Option ((Int × (List ByteArray)) ⊕ ((List ByteArray) × (List ByteArray) × (List ByteArray))) :=
 bif decide (a.1 < (b.signals.length : Int)) then (Al b.signals a.1).bind fun d => (Bc a.2 [d.name]).bind fun e => some (.inl (AQ (a.1 + 1), e)) else (AO (EA b c a) (0, ([] : List ByteArray))).map .inr
noncomputable def Fg (b : AK) (a : Int × (List ByteArray)) : Option ((Int × (List ByteArray)) ⊕ ((List ByteArray) × (List ByteArray) × (List ByteArray))) :=
 bif decide (a.1 < (b.elems.length : Int)) then (Al b.elems a.1).bind fun c => (Bc a.2 [c.name]).bind fun d => some (.inl (AQ (a.1 + 1), d)) else (AO (EB b a) (0, ([] : List ByteArray))).map .inr
noncomputable def Hl (a : AK) : Option ((List ByteArray) × (List ByteArray) × (List ByteArray)) :=
 AO (Fg a) (0, ([] : List ByteArray))
theorem Tj (e : AK) (r : ((List ByteArray) × (List ByteArray) × (List ByteArray))) (h : Hl e = some r) : A7 Try.prog 91 [.agg (Aa e)] (· = .tup [.slice 1 (r.1.map Et), .slice 1 (r.2.1.map Et), .slice 1 (r.2.2.map Et)]) := by
 refine fn AA Try.func91 Z Z 62 Z [.tmp 2, .tmp 3, .tmp 4] Z [(0, .p (.agg (Aa e)))] Z Z fun A hA => ?_
 unfold Hl at h
 refine rs AA <| rl Z <| rs AA <| rl Z <| AC <| rs AA <| rl Z <| AI ?_
 apply lp (a := r) (fun b : (Int × (List ByteArray)) => ⟨62, [(1, .lpb 0 0), (5, .lsl 1 1 0 b.2.length), (6, .p (.nils)), (7, .p (.nils)), (8, li b.1)], [(0, bx (Aa e)), (1, .row 9 1 (b.2.map Et))], 2⟩) h
 . exact A4.trans (CM 5 9 1 Z) (wf hA [(0, 0), (1, 1)] Z Z Z)
 intro b aq i
 unfold Fg at i
 refine AC <| rs AA <| rn 3 Z <| sx Z (Aj Z Z <| rl Z <| cd Z i (fun aj => ?_) (fun x => ?_))
 .exact AE <| AD <| AC <| AI <| rg AA <| rn 4 Z <| bq aj fun ak n v => sx Z (Ap n Z Z Z <| rn 3 Z <| bq v fun ar o w => sx Z (Ay (enc := Et) (l := b.2) (m := [ak.name]) o (fun _ => ⟨Z, Z⟩) Z Z Z Z Z Z <| rl Z <| Ai <| AD <| rg AA <| rl Z <| As w (wf hA [(0, 0), (1, 3)] Z Z Z)))
 refine AU <| AY <| CN x fun j y => Aq <| AD <| AC <| rs AA <| rl Z <| AI ?_
 apply lp (a := j) (fun c : (Int × (List ByteArray)) => ⟨62, [(1, .lpb 0 0), (5, .lsl 1 1 0 b.2.length), (6, .lsl 2 1 0 c.2.length), (7, .p (.nils)), (9, li c.1)], [(0, bx (Aa e)), (1, .row 9 1 (b.2.map Et)), (2, .row 9 1 (c.2.map Et))], 3⟩) y
 . exact A4.trans (CM 6 9 1 Z) (wf hA (gi 3 []) Z Z Z)
 intro c ao f
 unfold EB at f
 refine AC <| rs AA <| rn 3 Z <| sx Z (Aj Z Z <| rl Z <| cd Z f (fun z => ?_) (fun ac => ?_))
 .exact AE <| AD <| AC <| AI <| rg AA <| rn 4 Z <| bq z fun al q aa => sx Z (Ap q Z Z Z <| rn 3 Z <| bq aa fun au s ab => sx Z (Ay (enc := Et) (l := c.2) (m := [al.name]) s (fun _ => ⟨Z, Z⟩) Z Z Z Z Z Z <| rl Z <| Ai <| AD <| rg AA <| rl Z <| As ab (wf hA [(0, 0), (1, 1), (2, 4)] Z Z Z)))
 refine AU <| AY <| CN ac fun k ad => Aq <| AD <| AC <| rs AA <| rl Z <| AI ?_
 apply lp (a := k) (fun d : (Int × (List ByteArray)) => ⟨62, [(1, .lpb 0 0), (5, .lsl 1 1 0 b.2.length), (6, .lsl 2 1 0 c.2.length), (7, .lsl 3 1 0 d.2.length), (10, li d.1)], [(0, bx (Aa e)), (1, .row 9 1 (b.2.map Et)), (2, .row 9 1 (c.2.map Et)), (3, .row 9 1 (d.2.map Et))], 4⟩) ad
 . exact A4.trans (CM 7 9 1 Z) (wf hA (gi 4 []) Z Z Z)
 intro d ap g
 unfold EA at g
 refine AC <| rs AA <| rn 3 Z <| sx Z (Aj Z Z <| rl Z <| cd Z g (fun ae => ?_) (fun ah => ?_))
 .exact AE <| AD <| AC <| AI <| rg AA <| rn 4 Z <| bq ae fun am t af => sx Z (Ap t Z Z Z <| rn 3 Z <| bq af fun av u ag => sx Z (Ay (enc := Et) (l := d.2) (m := [am.name]) u (fun _ => ⟨Z, Z⟩) Z Z Z Z Z Z <| rl Z <| Ai <| AD <| rg AA <| rl Z <| As ag (wf hA (gi 3 [(3, 5)]) Z Z Z)))
 refine AU <| AY <| BR ah fun an ai => Aq <| AD <| rs AA <| rl Z <| AF ?_
 cases ai
 exact er (RO Z (.cons (.one (.own (enc := Et) b.2 Z Z)) (.cons (.one (.own (enc := Et) c.2 Z Z)) (.cons (.one (.own (enc := Et) d.2 Z Z)) .nil)))) Le.rfl
noncomputable def Ch (a : Int) (c : Int) (d : Int) : Option Bool :=
 ((bif decide (c <= a) then some (decide (a <= d)) else some false : Option (Bool))).bind fun (b : Bool) => some b
theorem Fu (b : Int) (c : Int) (d : Int) (r : Bool) (h : Ch b c d = some r) : A7 Try.prog 131 [.int .i64 b, .int .i64 c, .int .i64 d] (· = .bool r) := by
 refine fn AA Try.func131 Z Z 15 Z [.tmp 6] Z [(0, .p (.int .i64 b)), (1, .p (.int .i64 c)), (2, .p (.int .i64 d))] Z Z fun A hA => ?_
 unfold Ch at h
 refine rs AA <| rl Z <| jb (fun a : Bool => ⟨15, [(6, lb a)], [], 0⟩) h (fun a e => ?_) (fun a i => ?_)
 .refine rg AA <| rn 4 Z <| gs 10 e Z Z Z (fun f => ?_) (fun g => ?_)
  .exact rl Z <| AM f (wf hA [] Z Z Z)
  exact rl Z <| AM g (wf hA [] Z Z Z)
 refine AF ?_
 have hr := Option.some.inj i; subst hr
 exact er Z Le.rfl
noncomputable def GJ (c : ByteArray) (b : Int) : Option (Int ⊕ Bool) :=
 bif decide (b < (c.size : Int)) then (Lr c b).bind fun a => ((bif decide (97 <= (a.toNat : Int)) then bif decide ((a.toNat : Int) <= 122) then some true else bif decide (65 <= (a.toNat : Int)) then some (decide ((a.toNat : Int) <= 90)) else some false else bif decide (65 <= (a.toNat : Int)) then some (decide ((a.toNat : Int) <= 90)) else some false : Option (Bool))).bind fun (d : Bool) => ((bif (!d) then bif (b == 0) then some true else bif decide ((a.toNat : Int) < 48) then some true else some (decide (57 < (a.toNat : Int))) else some false : Option (Bool))).bind fun (e : Bool) => bif e then some (.inr false) else some (.inl (AQ (b + 1))) else (((bif decide (1 <= (c.size : Int)) then some (decide ((c.size : Int) <= 8)) else some false : Option (Bool))).bind fun (f : Bool) => some f).map .inr
noncomputable def GK (a : ByteArray) : Option Bool :=
 AO (GJ a) 0
theorem My (b : ByteArray) (r : Bool) (h : GK b = some r) : A7 Try.prog 132 [.str b] (· = .bool r) := by
 refine fn AA Try.func132 Z Z 51 Z [.tmp 2] Z [(0, .p (.str b))] Z Z fun A hA => ?_
 unfold GK at h
 refine rs AA <| rl Z <| AC <| rs AA <| rl Z <| AI ?_
 apply lp (a := r) (fun c : Int => ⟨51, [(0, .p (.str b)), (3, li c)], [], 0⟩) h
 . exact wf hA [] Z Z Z
 intro c ar g
 unfold GJ at g
 refine AC <| rs AA <| rl Z <| cd Z g (fun j => ?_) (fun ai => ?_)
 .refine AE <| AD <| AC <| AI <| rs AA <| rn 2 Z <| bq j fun ao i k => sx Z (Ms i Z Z Z <| rl Z <| jb (fun d : Bool => ⟨51, [(0, .p (.str b)), (3, li c), (4, .p (.int .u8 (ao.toNat : Int))), (5, lb d)], [], 0⟩) k (fun d l => ?_) (fun d w => ?_))
  .refine rg AA <| rn 3 Z <| gs 17 l Z Z Z (fun m => ?_) (fun t => ?_)
   .refine rn 4 Z <| gs 21 m Z Z Z (fun n => ?_) (fun o => ?_)
    .exact rl Z <| AM n (wf hA [] Z Z Z)
    refine rn 3 Z <| gs 24 o Z Z Z (fun q => ?_) (fun s => ?_)
    .exact rl Z <| AM q (wf hA [] Z Z Z)
    exact rl Z <| AM s (wf hA [] Z Z Z)
   refine rn 7 Z <| gs 24 t Z Z Z (fun u => ?_) (fun v => ?_)
   .exact rl Z <| AM u (wf hA [] Z Z Z)
   exact rl Z <| AM v (wf hA [] Z Z Z)
  refine jb (fun e : Bool => ⟨51, [(0, .p (.str b)), (3, li c), (42, lb e)], [], 0⟩) w (fun e x => ?_) (fun e ae => ?_)
  .refine rg AA <| rn 3 Z <| gs 31 x Z Z Z (fun y => ?_) (fun ad => ?_)
   .refine rn 3 Z <| gs 34 y Z Z Z (fun z => ?_) (fun aa => ?_)
    .exact rl Z <| AM z (wf hA [] Z Z Z)
    refine rn 4 Z <| gs 38 aa Z Z Z (fun ab => ?_) (fun ac => ?_)
    .exact rl Z <| AM ab (wf hA [] Z Z Z)
    exact rl Z <| AM ac (wf hA [] Z Z Z)
   exact rl Z <| AM ad (wf hA [] Z Z Z)
  refine cd Z ae (fun af => ?_) (fun ah => ?_)
  .refine rs AA <| rl Z <| AF <| AR <| AH <| A0 af fun ap ag => AR <| AH ?_
   cases ag
   exact er Z Le.rfl
  exact AE <| Ai <| AD <| rg AA <| rl Z <| As ah (wf hA [] Z Z Z)
 refine AU <| AY <| CN ai fun aq aj => Aq <| AD <| jb (fun f : Bool => ⟨51, [(2, lb f)], [], 0⟩) aj (fun f ak => ?_) (fun f an => ?_)
 .refine rg AA <| rn 4 Z <| gs 46 ak Z Z Z (fun al => ?_) (fun am => ?_)
  .exact rl Z <| AM al (wf hA [] Z Z Z)
  exact rl Z <| AM am (wf hA [] Z Z Z)
 refine AF ?_
 have hr := Option.some.inj an; subst hr
 exact er Z Le.rfl
noncomputable def HL (a : Int) : Option Int :=
 bif (a == 1) then some 2 else bif (a == 2) then some 3 else bif (a == 3) then some 4 else bif (a == 4) then some 1 else some 0
theorem QC (a : Int) (r : Int) (h : HL a = some r) : A7 Try.prog 133 [.int .i64 a] (· = .int .i64 r) := by
 refine fn AA Try.func133 Z Z 12 Z [.tmp 2] Z [(0, .p (.int .i64 a))] Z Z fun A hA => ?_
 unfold HL at h
 refine rs AA <| rl Z <| AC <| rs AA <| rl Z <| AI <| rs AA <| rl Z <| cd Z h (fun j => ?_) (fun b => ?_)
 .refine rs AA <| rl Z <| AF <| AR <| AH ?_
  cases j
  exact er Z Le.rfl
 refine rs AA <| rl Z <| cd Z b (fun c => ?_) (fun d => ?_)
 .refine rs AA <| rl Z <| AF <| AR <| AH ?_
  cases c
  exact er Z Le.rfl
 refine rs AA <| rl Z <| cd Z d (fun e => ?_) (fun f => ?_)
 .refine rs AA <| rl Z <| AF <| AR <| AH ?_
  cases e
  exact er Z Le.rfl
 refine rs AA <| rl Z <| cd Z f (fun g => ?_) (fun i => ?_)
 .refine rs AA <| rl Z <| AF <| AR <| AH ?_
  cases g
  exact er Z Le.rfl
 refine AE <| Ai <| AD <| rs AA <| rl Z <| AF ?_
 cases i
 exact er Z Le.rfl
noncomputable def GL (b : AK) (a : Int) : Option (Int ⊕ Bool) :=
 bif decide (a < (b.lines.length : Int)) then (Al b.lines a).bind fun c => (GK c.name).bind fun d => bif (!d) then some (.inr false) else some (.inl (AQ (a + 1))) else some (.inr true)
noncomputable def GM (b : AK) (a : Int) : Option (Int ⊕ Bool) :=
 bif decide (a < (b.signals.length : Int)) then (Al b.signals a).bind fun c => (GK c.name).bind fun d => bif (!d) then some (.inr false) else some (.inl (AQ (a + 1))) else (AO (GL b) 0).map .inr
noncomputable def GN (c : AK) (b : Int) : Option (Int ⊕ Bool) :=
 bif decide (b < (c.elems.length : Int)) then (Al c.elems b).bind fun a => (((GK a.name).bind fun e => bif (!e) then some true else (HL a.kind).bind fun f => bif (f == 0) then some true else bif (a.kind == 4) then bif (a.length != 0) then some true else bif (a.kind != 4) then (Ch a.length 1 4000).bind fun g => some (!g) else some false else bif (a.kind != 4) then (Ch a.length 1 4000).bind fun h => some (!h) else some false : Option (Bool))).bind fun (d : Bool) => bif d then some (.inr false) else some (.inl (AQ (b + 1))) else (AO (GM c) 0).map .inr
noncomputable def It (a : AK) : Option Bool :=
 (((Ch a.top 1 60).bind fun c => bif (!c) then some true else (Ch a.brake 1 10).bind fun d => bif (!d) then some true else (Ch a.margin 1 4000).bind fun e => bif (!e) then some true else (Ch a.throw 1 20).bind fun f => bif (!f) then some true else some ((a.elems.length : Int) == 0) : Option (Bool))).bind fun (b : Bool) => bif b then some false else AO (GN a) 0
theorem UR (b : AK) (r : Bool) (h : It b = some r) : A7 Try.prog 92 [.agg (Aa b)] (· = .bool r) := by
 refine fn AA Try.func92 Z Z 108 Z [.tmp 2] Z [(0, .p (.agg (Aa b)))] Z Z fun A hA => ?_
 unfold It at h
 refine rs AA <| rl Z <| AC <| jb (fun d : Bool => ⟨108, [(1, .lpb 0 0), (34, lb d)], [(0, bx (Aa b))], 1⟩) h (fun d aj => ?_) (fun d bo => ?_)
 .refine rg AA <| rn 2 Z <| bq aj fun cc q ak => sx Z (AS (Fu _ _ _ _ q) (.inl Z) Z Z Z <| rn 2 Z <| gs 11 ak Z Z Z (fun al => ?_) (fun am => ?_))
  .exact rl Z <| AM al (wf hA [(0, 0)] Z Z Z)
  refine rn 2 Z <| bq am fun ce s ao => sx Z (AS (Fu _ _ _ _ s) (.inl Z) Z Z Z <| rn 3 Z <| gs 17 ao Z Z Z (fun ap => ?_) (fun aq => ?_))
  .exact rl Z <| AM ap (wf hA [(0, 0)] Z Z Z)
  refine rn 2 Z <| bq aq fun cf t ar => sx Z (AS (Fu _ _ _ _ t) (.inl Z) Z Z Z <| rn 3 Z <| gs 23 ar Z Z Z (fun av => ?_) (fun aw => ?_))
  .exact rl Z <| AM av (wf hA [(0, 0)] Z Z Z)
  refine rn 2 Z <| bq aw fun cj x bc => sx Z (AS (Fu _ _ _ _ x) (.inl Z) Z Z Z <| rn 3 Z <| gs 29 bc Z Z Z (fun bl => ?_) (fun bn => ?_))
  .exact rl Z <| AM bl (wf hA [(0, 0)] Z Z Z)
  exact rn 2 Z <| sx Z (Aj Z Z <| rl Z <| AM bn (wf hA [(0, 0)] Z Z Z))
 refine cd Z bo (fun bp => ?_) (fun br => ?_)
 .refine rs AA <| rl Z <| AF <| AH ?_
  cases bp
  exact er Z Le.rfl
 refine AE <| AD <| AC <| rs AA <| rl Z <| AI ?_
 apply lp (a := r) (fun c : Int => ⟨108, [(1, .lpb 0 0), (3, li c)], [(0, bx (Aa b))], 1⟩) br
 . exact wf hA [(0, 0)] Z Z Z
 intro c b7 f
 unfold GN at f
 refine AC <| rs AA <| rn 3 Z <| sx Z (Aj Z Z <| rl Z <| cd Z f (fun an => ?_) (fun bk => ?_))
 .refine AE <| AD <| AC <| AI <| rs AA <| rn 3 Z <| bq an fun cg u au => sx Z (Ap u Z Z Z <| rl Z <| jb (fun e : Bool => ⟨108, [(1, .lpb 0 0), (3, li c), (77, lb e)], [(0, bx (Aa b))], 1⟩) au (fun e ax => ?_) (fun e bg => ?_))
  .refine rg AA <| rn 2 Z <| bq ax fun ch v ay => sx Z (AS (My _ _ v) (.inl Z) Z Z Z <| rn 2 Z <| gs 51 ay Z Z Z (fun az => ?_) (fun a0 => ?_))
   .exact rl Z <| AM az (wf hA [(0, 0)] Z Z Z)
   refine rn 2 Z <| bq a0 fun ci w a1 => sx Z (AS (QC _ _ w) (.inl Z) Z Z Z <| rn 3 Z <| gs 57 a1 Z Z Z (fun a2 => ?_) (fun a3 => ?_))
   .exact rl Z <| AM a2 (wf hA [(0, 0)] Z Z Z)
   refine rn 4 Z <| gs 61 a3 Z Z Z (fun a4 => ?_) (fun ba => ?_)
   .refine rn 6 Z <| gs 67 a4 Z Z Z (fun a5 => ?_) (fun a6 => ?_)
    .exact rl Z <| AM a5 (wf hA [(0, 0)] Z Z Z)
    refine rn 4 Z <| gs 71 a6 Z Z Z (fun a7 => ?_) (fun a9 => ?_)
    .exact rn 2 Z <| bq a7 fun ck y a8 => sx Z (AS (Fu _ _ _ _ y) (.inl Z) Z Z Z <| rl Z <| AM a8 (wf hA [(0, 0)] Z Z Z))
    exact rl Z <| AM a9 (wf hA [(0, 0)] Z Z Z)
   refine rn 10 Z <| gs 71 ba Z Z Z (fun bb => ?_) (fun bf => ?_)
   .exact rn 2 Z <| bq bb fun cl z be => sx Z (AS (Fu _ _ _ _ z) (.inl Z) Z Z Z <| rl Z <| AM be (wf hA [(0, 0)] Z Z Z))
   exact rl Z <| AM bf (wf hA [(0, 0)] Z Z Z)
  refine cd Z bg (fun bh => ?_) (fun bj => ?_)
  .refine rs AA <| rl Z <| AF <| AR <| AH <| A0 bh fun b5 bi => AR <| AH ?_
   cases bi
   exact er Z Le.rfl
  exact AE <| Ai <| AD <| rg AA <| rl Z <| As bj (wf hA [(0, 0)] Z Z Z)
 refine AU <| AY <| CN bk fun l bm => Aq <| AD <| AC <| rs AA <| rl Z <| AI ?_
 apply lp (a := l) (fun j : Int => ⟨108, [(1, .lpb 0 0), (5, li j)], [(0, bx (Aa b))], 1⟩) bm
 . exact wf hA [(0, 0)] Z Z Z
 intro j b8 g
 unfold GM at g
 refine AC <| rs AA <| rn 3 Z <| sx Z (Aj Z Z <| rl Z <| cd Z g (fun bs => ?_) (fun b0 => ?_))
 .refine AE <| AD <| AC <| AI <| rs AA <| rn 3 Z <| bq bs fun cm aa bt => sx Z (Ap aa Z Z Z <| rn 2 Z <| bq bt fun cn ab bu => sx Z (AS (My _ _ ab) (.inl Z) Z Z Z <| rl Z <| cd Z bu (fun bv => ?_) (fun bz => ?_)))
  .refine rs AA <| rl Z <| AF <| AR <| AH <| A0 bv fun b6 bw => AR <| AH ?_
   cases bw
   exact er Z Le.rfl
  exact AE <| Ai <| AD <| rg AA <| rl Z <| As bz (wf hA [(0, 0)] Z Z Z)
 refine AU <| AY <| CN b0 fun m b1 => Aq <| AD <| AC <| rs AA <| rl Z <| AI ?_
 apply lp (a := m) (fun k : Int => ⟨108, [(1, .lpb 0 0), (6, li k)], [(0, bx (Aa b))], 1⟩) b1
 . exact wf hA [(0, 0)] Z Z Z
 intro k b9 i
 unfold GL at i
 refine AC <| rs AA <| rn 3 Z <| sx Z (Aj Z Z <| rl Z <| cd Z i (fun b2 => ?_) (fun ah => ?_))
 .refine AE <| AD <| AC <| AI <| rs AA <| rn 3 Z <| bq b2 fun ca n ac => sx Z (Ap n Z Z Z <| rn 2 Z <| bq ac fun cb o ad => sx Z (AS (My _ _ o) (.inl Z) Z Z Z <| rl Z <| cd Z ad (fun ae => ?_) (fun ag => ?_)))
  .refine rs AA <| rl Z <| AF <| AR <| AH <| A0 ae fun b3 af => AR <| AH ?_
   cases af
   exact er Z Le.rfl
  exact AE <| Ai <| AD <| rg AA <| rl Z <| As ag (wf hA [(0, 0)] Z Z Z)
 refine AU <| AY <| BR ah fun b4 ai => Aq <| AD <| rs AA <| rl Z <| AF ?_
 cases ai
 exact er Z Le.rfl
noncomputable def Fh (c : (List ByteArray)) (a : Int) (b : Int) : Option (Int ⊕ (Int ⊕ Bool)) :=
 bif decide (b < a) then (Al c a).bind fun d => (Al c b).bind fun e => bif (d.toList == e.toList) then some (.inr (.inr true)) else some (.inl (AQ (b + 1))) else some (.inr (.inl (AQ (a + 1))))
noncomputable def G8 (b : (List ByteArray)) (a : Int) : Option (Int ⊕ Bool) :=
 bif decide (a < (b.length : Int)) then AO (Fh b a) 0 else some (.inr false)
noncomputable def FV (a : (List ByteArray)) : Option Bool :=
 AO (G8 a) 0
theorem L1 (b : (List ByteArray)) (r : Bool) (h : FV b = some r) : A7 Try.prog 93 [.slice 1 (b.map Et)] (· = .bool r) := by
 refine fn AA Try.func93 Z Z 25 Z [.tmp 2] Z [(0, .p (.slice 1 (b.map Et)))] Z Z fun A hA => ?_
 unfold FV at h
 refine rs AA <| rl Z <| AC <| rs AA <| rl Z <| AI ?_
 apply lp (a := r) (fun c : Int => ⟨25, [(0, ls 1 Et b), (3, li c)], [], 0⟩) h
 . exact wf hA [] Z Z Z
 intro c g d
 unfold G8 at d
 refine AC <| rs AA <| rn 2 Z <| sx Z (Aj Z Z <| rl Z <| cd Z d (fun k => ?_) (fun w => ?_))
 .refine AE <| AD <| AC <| AI <| rs AA <| rl Z <| AI ?_
  apply lp (a := g) (fun f : Int => ⟨25, [(0, ls 1 Et b), (3, li c), (4, li f)], [], 0⟩) k
  . exact wf hA [] Z Z Z
  intro f ac e
  unfold Fh at e
  refine AC <| rs AA <| rl Z <| cd Z e (fun l => ?_) (fun u => ?_)
  .refine AE <| AD <| AC <| AI <| AC ?_
   refine CF AA BK [0, 1, 2, 3, 4, 5, 6, 7, 8] 9 (by kernel_rfl) Z Z Z ?_
   refine Ax 2 Z <| bq l fun ad i m => Au Z (Ag Z (Ap i Z Z Z <| Ax 3 Z <| bq m fun ae j n => Au Z (Ag Z (Ap j Z Z Z <| BG Z <| AD <| cd Z n (fun o => ?_) (fun t => ?_)))))
   .refine rs AA <| rl Z <| AF <| AR <| AH <| A0 o fun y q => AR <| AR <| AH <| A0 q fun z s => AR <| AH ?_
    cases s
    exact er Z Le.rfl
   exact AE <| Ai <| AD <| rg AA <| rl Z <| As t (wf hA [] Z Z Z)
  exact AU <| AY <| BR u fun aa v => Aq <| Ai <| AD <| rg AA <| rl Z <| As v (wf hA [] Z Z Z)
 refine AU <| AY <| BR w fun ab x => Aq <| AD <| rs AA <| rl Z <| AF ?_
 cases x
 exact er Z Le.rfl
end Go.E
/- Plain functions, and walks in step with them. Written by a program (gen.py). No condition. -/
set_option maxRecDepth 100000
namespace Go.E
open Go Go.RowKit Go.Proofs
noncomputable def IJ (b : AK) (a : AG) : Option Bool :=
 ((bif decide (0 <= a.elem) then bif decide (a.elem < (b.elems.length : Int)) then bif decide (0 <= a.fin) then (Al b.elems a.elem).bind fun d => (HL d.kind).bind fun e => some (decide (a.fin < e)) else some false else some false else some false : Option (Bool))).bind fun (c : Bool) => some c
theorem Ra (b : AK) (c : AG) (r : Bool) (h : IJ b c = some r) : A7 Try.prog 134 [.agg (Aa b), .agg (AL c)] (· = .bool r) := by
 refine fn AA Try.func134 Z Z 34 Z [.tmp 4] Z [(0, .p (.agg (Aa b))), (1, .p (.agg (AL c)))] Z Z fun A hA => ?_
 unfold IJ at h
 refine rs AA <| rl Z <| jb (fun a : Bool => ⟨34, [(4, lb a)], [], 0⟩) h (fun a f => ?_) (fun a q => ?_)
 .refine CF AA BK [0, 1, 2, 3, 4, 5, 6, 7, 8, 9, 10, 11, 12, 13, 14, 15, 16, 17, 18, 19, 20, 21, 22, 23, 24, 25, 26, 27, 28, 29] 30 (by kernel_rfl) Z Z Z ?_
  refine Ax 4 Z <| HI 8 f Z Z Z (fun g => ?_) (fun o => ?_)
  .refine Ax 4 Z <| Au Z (Om Z Z <| Ax 3 Z <| HI 16 g Z Z Z (fun i => ?_) (fun n => ?_))
   .refine Ax 5 Z <| HI 21 i Z Z Z (fun j => ?_) (fun m => ?_)
    .exact Ax 6 Z <| bq j fun s d k => Au Z (Ag Z (Ap d Z Z Z <| Ax 2 Z <| bq k fun t e l => Au Z (Bq (QC _ _ e) (.inl Z) Z Z Z <| BG Z <| AM l (wf hA [] Z Z Z))))
    exact BG Z <| AM m (wf hA [] Z Z Z)
   exact BG Z <| AM n (wf hA [] Z Z Z)
  exact BG Z <| AM o (wf hA [] Z Z Z)
 refine AF ?_
 have hr := Option.some.inj q; subst hr
 exact er Z Le.rfl
noncomputable def Ho (d : AK) (e : AG) (c : Int) : Option (Int ⊕ (AG × Bool)) :=
 bif decide (c < (d.joins.length : Int)) then (Al d.joins c).bind fun f => bif (f.a == e) then (Al d.joins c).bind fun g => some (.inr (g.b, true)) else (Al d.joins c).bind fun h => bif (h.b == e) then (Al d.joins c).bind fun i => some (.inr (i.a, true)) else some (.inl (AQ (c + 1))) else some (.inr ((⟨0, 0⟩ : AG), false))
noncomputable def FG (a : AK) (b : AG) : Option (AG × Bool) :=
 AO (Ho a b) 0
theorem KO (d : AK) (c : AG) (r : (AG × Bool)) (h : FG d c = some r) : A7 Try.prog 89 [.agg (Aa d), .agg (AL c)] (· = .tup [.agg (AL r.1), .bool r.2]) := by
 refine fn AA Try.func89 Z Z 43 Z [.cell 4 96, .tmp 5] Z [(0, .p (.agg (Aa d))), (1, .p (.agg (AL c)))] Z Z fun A hA => ?_
 unfold FG at h
 refine rs AA <| rl Z <| AC <| rs AA <| rl Z <| AI ?_
 apply lp (a := r) (fun f : Int => ⟨43, [(2, .lpb 0 0), (3, .lpb 1 0), (4, .lpb 2 0), (6, li f)], [(0, bx (Aa d)), (1, .box [li c.elem, li c.fin]), (2, .box [li 0, li 0])], 3⟩) h
 . exact wf hA (gi 3 []) Z Z Z
 intro f af e
 unfold Ho at e
 refine AC <| rs AA <| rn 3 Z <| sx Z (Aj Z Z <| rl Z <| cd Z e (fun l => ?_) (fun y => ?_))
 .refine AE <| AD <| AC <| AI <| AC <| AC ?_
  refine CF AA BK [0, 1, 2, 3, 4, 5, 6, 7] 8 (by kernel_rfl) Z Z Z ?_
  refine Ax 3 Z <| bq l fun aa g m => Au Z (Ag Z (Ap g Z Z Z <| Ax 3 Z <| Au Z (Mu (IK aa.a c) Z Z Z Z Z <| BG Z <| AD <| cd Z m (fun n => ?_) (fun s => ?_))))
  .refine rs AA <| rn 3 Z <| bq n fun ag i o => sx Z (Ap i Z Z Z <| rl Z <| AF <| AH <| AR <| AH <| A0 o fun ac q => AR <| AH ?_)
   cases q
   exact er Z Le.rfl
  refine AE <| AD <| AC ?_
  refine CF AA BK [0, 1, 2, 3, 4, 5, 6, 7] 8 (by kernel_rfl) Z Z Z ?_
  refine Ax 3 Z <| bq s fun ab j t => Au Z (Ag Z (Ap j Z Z Z <| Ax 3 Z <| Au Z (Mu (IK ab.b c) Z Z Z Z Z <| BG Z <| AD <| cd Z t (fun u => ?_) (fun x => ?_))))
  .refine rs AA <| rn 3 Z <| bq u fun ah k v => sx Z (Ap k Z Z Z <| rl Z <| AF <| AR <| AH <| A0 v fun ad w => AR <| AH ?_)
   cases w
   exact er Z Le.rfl
  exact AE <| Ai <| AD <| rg AA <| rl Z <| As x (wf hA (gi 3 []) Z Z Z)
 refine AU <| AY <| BR y fun ae z => Aq <| AD <| rs AA <| rl Z <| AF ?_
 cases z
 exact er Z Le.rfl
noncomputable def ET (b : AK) (a : Int) : Option Int :=
 ((bif decide (a < 0) then some true else some (decide ((b.elems.length : Int) <= a)) : Option (Bool))).bind fun (c : Bool) => bif c then some 0 else (Al b.elems a).bind fun d => some d.kind
theorem Iw (a : AK) (b : Int) (r : Int) (h : ET a b = some r) : A7 Try.prog 135 [.agg (Aa a), .int .i64 b] (· = .int .i64 r) := by
 refine fn AA Try.func135 Z Z 20 Z [.tmp 4] Z [(0, .p (.agg (Aa a))), (1, .p (.int .i64 b))] Z Z fun A hA => ?_
 unfold ET at h
 refine rs AA <| rl Z <| AC <| jb (fun c : Bool => ⟨20, [(1, li b), (2, .lpb 0 0), (13, lb c)], [(0, bx (Aa a))], 1⟩) h (fun c e => ?_) (fun c i => ?_)
 .refine rg AA <| rn 3 Z <| gs 7 e Z Z Z (fun f => ?_) (fun g => ?_)
  .exact rl Z <| AM f (wf hA [(0, 0)] Z Z Z)
  exact rn 3 Z <| sx Z (Aj Z Z <| rl Z <| AM g (wf hA [(0, 0)] Z Z Z))
 refine cd Z i (fun j => ?_) (fun k => ?_)
 .refine rs AA <| rl Z <| AF <| AH ?_
  cases j
  exact er Z Le.rfl
 refine AE <| AD <| rs AA <| rn 3 Z <| bq k fun m d l => sx Z (Ap d Z Z Z <| rl Z <| AF ?_)
 cases l
 exact er Z Le.rfl
noncomputable def Ez (c : (Int × (List AG))) (b : Int) (a : Int) : Option (Int ⊕ (Int ⊕ Bool)) :=
 bif decide (a < b) then (Al c.2 a).bind fun d => (Al c.2 b).bind fun e => bif (d == e) then some (.inr (.inr false)) else some (.inl (AQ (a + 1))) else some (.inr (.inl (AQ (b + 1))))
noncomputable def E0 (b : AK) (a : Int) : Option (Int ⊕ Bool) :=
 bif decide (a < (b.elems.length : Int)) then Hc (((Al b.elems a).bind fun e => bif (e.kind == 4) then (FG b (⟨a, 0⟩ : AG)).bind fun c => ((bif (!c.2) then some true else (ET b c.1.elem).bind fun f => some (f == 4) : Option (Bool))).bind fun (d : Bool) => bif d then some (.inr (.inr false)) else some (.inl ()) else some (.inl ()) : Option (Unit ⊕ (Int ⊕ Bool)))) fun (g : Unit) => some (.inl (AQ (a + 1))) else some (.inr true)
noncomputable def E1 (c : AK) (a : (Int × (List AG))) (b : Int) : Option (Int ⊕ Bool) :=
 bif decide (b < (a.2.length : Int)) then (Al a.2 b).bind fun d => (IJ c d).bind fun e => bif (!e) then some (.inr false) else AO (Ez a b) 0 else (AO (E0 c) 0).map .inr
noncomputable def Gf (d : AK) (c : Int × (List AG)) : Option ((Int × (List AG)) ⊕ Bool) :=
 bif decide (c.1 < (d.joins.length : Int)) then (Al d.joins c.1).bind fun e => (Al d.joins c.1).bind fun f => (Bc c.2 [e.a, f.b]).bind fun g => some (.inl (AQ (c.1 + 1), g)) else (AO (E1 d c) 0).map .inr
noncomputable def G0 (a : AK) : Option Bool :=
 AO (Gf a) (0, ([] : List AG))
theorem SK (d : AK) (r : Bool) (h : G0 d = some r) : A7 Try.prog 94 [.agg (Aa d)] (· = .bool r) := by
 refine fn AA Try.func94 Z Z 89 Z [.tmp 2] Z [(0, .p (.agg (Aa d)))] Z Z fun A hA => ?_
 unfold G0 at h
 refine rs AA <| rl Z <| rs AA <| rl Z <| AC <| rs AA <| rl Z <| AI ?_
 apply lp (a := r) (fun c : (Int × (List AG)) => ⟨89, [(1, .lpb 0 0), (3, .lsl 1 2 0 c.2.length), (4, li c.1)], [(0, bx (Aa d)), (1, .row 96 2 (c.2.map AL))], 2⟩) h
 . exact A4.trans (CM 3 96 2 Z) (wf hA [(0, 0), (1, 1)] Z Z Z)
 intro c b2 o
 unfold Gf at o
 refine AC <| rs AA <| rn 3 Z <| sx Z (Aj Z Z <| rl Z <| cd Z o (fun ag => ?_) (fun aw => ?_))
 .refine AE <| AD <| AC <| AI ?_
  refine CF AA BK [0, 1, 2, 3, 4, 5, 6, 7, 8, 9, 10, 11, 12, 13, 14, 15] 16 (by kernel_rfl) Z Z Z ?_
  exact Ax 4 Z <| bq ag fun bo z am => Au Z (Ag Z (Ap z Z Z Z <| Ax 5 Z <| bq am fun bp aa an => Au Z (Ag Z (Ap aa Z Z Z <| Ax 3 Z <| bq an fun b7 ab ap => Au Z (Bo (Ay (enc := AL) (l := c.2) (m := [bo.a, bp.b]) ab (fun _ => ⟨Z, Z⟩) Z Z Z Z Z Z <| BG Z <| Ai <| AD <| rg AA <| rl Z <| As ap (wf hA [(0, 0), (1, 16)] Z Z Z)))))))
 refine AU <| AY <| CN aw fun v a3 => Aq <| AD <| AC <| rs AA <| rl Z <| AI ?_
 apply lp (a := v) (fun f : Int => ⟨89, [(1, .lpb 0 0), (3, .lsl 1 2 0 c.2.length), (5, li f)], [(0, bx (Aa d)), (1, .row 96 2 (c.2.map AL))], 2⟩) a3
 . exact wf hA [(0, 0), (1, 1)] Z Z Z
 intro f w n
 unfold E1 at n
 refine AC <| rs AA <| rl Z <| cd Z n (fun af => ?_) (fun a1 => ?_)
 .refine AE <| AD <| AC <| AI <| AC <| AC ?_
  refine CF AA BK [0, 1, 2, 3, 4, 5, 6] 7 (by kernel_rfl) Z Z Z ?_
  refine Ax 3 Z <| bq af fun b5 i ah => Au Z (Ag Z (By i Z Z Z Z <| Au Z (Hd Z (C4 i Z Z Z <| bq ah fun b6 y ai => Au Z (Bq (Ra _ _ _ y) (.inl Z) Z Z Z <| BG Z <| AD <| cd Z ai (fun aj => ?_) (fun al => ?_))))))
  .refine rs AA <| rl Z <| AF <| AH <| AR <| AH <| A0 aj fun bt ak => AR <| AH ?_
   cases ak
   exact er Z Le.rfl
  refine AE <| AD <| rs AA <| rl Z <| AI ?_
  apply lp (a := w) (fun t : Int => ⟨89, [(1, .lpb 0 0), (3, .lsl 1 2 0 c.2.length), (5, li f), (6, li t)], [(0, bx (Aa d)), (1, .row 96 2 (c.2.map AL))], 2⟩) al
  . exact wf hA [(0, 0), (1, 1)] Z Z Z
  intro t b3 q
  unfold Ez at q
  refine AC <| rs AA <| rl Z <| cd Z q (fun ao => ?_) (fun az => ?_)
  .refine AE <| AD <| AC <| AI <| AC ?_
   refine CF AA BK [0, 1, 2, 3, 4, 5, 6, 7, 8] 9 (by kernel_rfl) Z Z Z ?_
   refine Ax 2 Z <| bq ao fun br j aq => Au Z (Ag Z (By j Z Z Z Z <| Au Z (Hd Z (C4 j Z Z Z <| Ax 2 Z <| bq aq fun bs k ar => Au Z (Ag Z (By k Z Z Z Z <| Au Z (Hd Z (C4 k Z Z Z <| Au Z (Mu (IK br bs) Z Z Z Z Z <| BG Z <| AD <| cd Z ar (fun au => ?_) (fun ay => ?_))))))))))
   .refine rs AA <| rl Z <| AF <| AR <| AH <| A0 au fun bu av => AR <| AR <| AH <| A0 av fun bv ax => AR <| AH ?_
    cases ax
    exact er Z Le.rfl
   exact AE <| Ai <| AD <| rg AA <| rl Z <| As ay (wf hA [(0, 0), (1, 1)] Z Z Z)
  exact AU <| AY <| BR az fun bw a0 => Aq <| Ai <| AD <| rg AA <| rl Z <| As a0 (wf hA [(0, 0), (1, 1)] Z Z Z)
 refine AU <| AY <| CN a1 fun u a2 => Aq <| AD <| AC <| rs AA <| rl Z <| AI ?_
 apply lp (a := u) (fun e : Int => ⟨89, [(1, .lpb 0 0), (7, li e)], [(0, bx (Aa d))], 1⟩) a2
 . exact wf hA [(0, 0)] Z Z Z
 intro e x s
 unfold E0 at s
 refine AC <| rs AA <| rn 3 Z <| sx Z (Aj Z Z <| rl Z <| cd Z s (fun a4 => ?_) (fun bl => ?_))
 .refine AE <| AD ?_
  apply jn (a := x) (fun bn : Unit => ⟨89, [(1, .lpb 0 0), (7, li e)], [(0, bx (Aa d))], 1⟩) a4
  .intro b4 a5
   refine AI <| rs AA <| rn 3 Z <| bq a5 fun b8 ac a6 => sx Z (Ap ac Z Z Z <| rl Z <| cd Z a6 (fun a7 => ?_) (fun bj => ?_))
   .refine rs AA <| rn 3 Z <| bq a7 fun b9 ad a8 => sx Z (AS (KO _ _ _ ad) (.inl Z) Z Z Z <| rl Z <| jb (fun g : Bool => ⟨89, [(1, .lpb 0 0), (7, li e), (88, lb g)], [(0, bx (Aa d))], 1⟩) a8 (fun g a9 => ?_) (fun g be => ?_))
    .refine rg AA <| rn 3 Z <| gs 82 a9 Z Z Z (fun ba => ?_) (fun bb => ?_)
     .exact rl Z <| AM ba (wf hA [(0, 0)] Z Z Z)
     exact rn 3 Z <| bq bb fun ca ae bc => sx Z (AS (Iw _ _ _ ae) (.inl Z) Z Z Z <| rl Z <| AM bc (wf hA [(0, 0)] Z Z Z))
    refine cd Z be (fun bf => ?_) (fun bi => ?_)
    .refine rs AA <| rl Z <| AF <| AR <| A0 bf fun bz bg => A0 bg fun b0 bh => AR <| AH ?_
     cases bh
     exact er Z Le.rfl
    exact AE <| Ai <| As bi (wf hA [(0, 0)] Z Z Z)
   exact AE <| Ai <| As bj (wf hA [(0, 0)] Z Z Z)
  intro bn bk
  exact rg AA <| rl Z <| As bk (wf hA [(0, 0)] Z Z Z)
 refine AU <| AY <| BR bl fun b1 bm => Aq <| AD <| rs AA <| rl Z <| AF ?_
 cases bm
 exact er Z Le.rfl
noncomputable def HA (b : AK) (c : AG) (a : Int) : Option (Int ⊕ Int) :=
 bif decide (a < (b.signals.length : Int)) then (Al b.signals a).bind fun d => bif (d.at_ == c) then some (.inr a) else some (.inl (AQ (a + 1))) else some (.inr (-1))
noncomputable def Gg (a : AK) (b : AG) : Option Int :=
 AO (HA a b) 0
theorem O9 (c : AK) (b : AG) (r : Int) (h : Gg c b = some r) : A7 Try.prog 130 [.agg (Aa c), .agg (AL b)] (· = .int .i64 r) := by
 refine fn AA Try.func130 Z Z 22 Z [.tmp 4] Z [(0, .p (.agg (Aa c))), (1, .p (.agg (AL b)))] Z Z fun A hA => ?_
 unfold Gg at h
 refine rs AA <| rl Z <| AC <| rs AA <| rl Z <| AI ?_
 apply lp (a := r) (fun e : Int => ⟨22, [(2, .lpb 0 0), (3, .lpb 1 0), (5, li e)], [(0, bx (Aa c)), (1, .box [li b.elem, li b.fin])], 2⟩) h
 . exact wf hA [(0, 0), (1, 1)] Z Z Z
 intro e t d
 unfold HA at d
 refine AC <| rs AA <| rn 3 Z <| sx Z (Aj Z Z <| rl Z <| cd Z d (fun n => ?_) (fun l => ?_))
 .refine AE <| AD <| AC <| AI <| AC ?_
  refine CF AA BK [0, 1, 2, 3, 4, 5, 6, 7] 8 (by kernel_rfl) Z Z Z ?_
  refine Ax 3 Z <| bq n fun o f g => Au Z (Ag Z (Ap f Z Z Z <| Ax 3 Z <| Au Z (Mu (IK o.at_ b) Z Z Z Z Z <| BG Z <| AD <| cd Z g (fun i => ?_) (fun k => ?_))))
  .refine rs AA <| rl Z <| AF <| AR <| AH <| A0 i fun q j => AR <| AH ?_
   have hr := Option.some.inj j; subst hr
   exact er Z Le.rfl
  exact AE <| Ai <| AD <| rg AA <| rl Z <| As k (wf hA [(0, 0), (1, 1)] Z Z Z)
 refine AU <| AY <| BR l fun s m => Aq <| AD <| rs AA <| rl Z <| AF ?_
 cases m
 exact er Z Le.rfl
noncomputable def EU (b : AK) (a : Int) : Option (Int ⊕ Bool) :=
 bif decide (a < (b.elems.length : Int)) then (((Al b.elems a).bind fun d => bif (d.kind == 4) then (Gg b (⟨a, 0⟩ : AG)).bind fun e => some (decide (e < 0)) else some false : Option (Bool))).bind fun (c : Bool) => bif c then some (.inr false) else some (.inl (AQ (a + 1))) else some (.inr true)
noncomputable def F6 (a : AK) (b : Int) : Option (Int ⊕ Bool) :=
 bif decide (b < (a.signals.length : Int)) then (Al a.signals b).bind fun c => (ET a c.at_.elem).bind fun d => (((IJ a c.at_).bind fun h => bif (!h) then some true else bif (d != 1) then some (d != 4) else some false : Option (Bool))).bind fun (f : Bool) => bif f then some (.inr false) else (FG a c.at_).bind fun e => ((bif (!e.2) then some true else (ET a e.1.elem).bind fun i => bif (i == 4) then some true else (Gg a c.at_).bind fun j => some (j != b) : Option (Bool))).bind fun (g : Bool) => bif g then some (.inr false) else some (.inl (AQ (b + 1))) else (AO (EU a) 0).map .inr
noncomputable def GO (a : AK) : Option Bool :=
 AO (F6 a) 0
theorem Rb (b : AK) (r : Bool) (h : GO b = some r) : A7 Try.prog 95 [.agg (Aa b)] (· = .bool r) := by
 refine fn AA Try.func95 Z Z 81 Z [.tmp 2] Z [(0, .p (.agg (Aa b)))] Z Z fun A hA => ?_
 unfold GO at h
 refine rs AA <| rl Z <| AC <| rs AA <| rl Z <| AI ?_
 apply lp (a := r) (fun c : Int => ⟨81, [(1, .lpb 0 0), (3, li c)], [(0, bx (Aa b))], 1⟩) h
 . exact wf hA [(0, 0)] Z Z Z
 intro c bh j
 unfold F6 at j
 refine AC <| rs AA <| rn 3 Z <| sx Z (Aj Z Z <| rl Z <| cd Z j (fun ai => ?_) (fun a9 => ?_))
 .refine AE <| AD <| AC <| AI <| rs AA <| rn 3 Z <| bq ai fun k o aj => sx Z (Ap o Z Z Z <| rl Z <| rs AA <| rn 3 Z <| bq aj fun bk q ak => sx Z (AS (Iw _ _ _ q) (.inl Z) Z Z Z <| rl Z <| AC <| jb (fun f : Bool => ⟨81, [(1, .lpb 0 0), (3, li c), (4, .lpb 1 0), (37, lb f)], [(0, bx (Aa b)), (1, .box [li k.at_.elem, li k.at_.fin])], 2⟩) ak (fun f al => ?_) (fun f ar => ?_)))
  .refine rg AA <| rn 2 Z <| bq al fun bl s am => sx Z (AS (Ra _ _ _ s) (.inl Z) Z Z Z <| rn 2 Z <| gs 30 am Z Z Z (fun an => ?_) (fun ao => ?_))
   .exact rl Z <| AM an (wf hA [(0, 0), (1, 1)] Z Z Z)
   refine rn 3 Z <| gs 33 ao Z Z Z (fun ap => ?_) (fun aq => ?_)
   .exact rl Z <| AM ap (wf hA [(0, 0), (1, 1)] Z Z Z)
   exact rl Z <| AM aq (wf hA [(0, 0), (1, 1)] Z Z Z)
  refine cd Z ar (fun au => ?_) (fun aw => ?_)
  .refine rs AA <| rl Z <| AF <| AH <| AR <| AH <| A0 au fun be av => AR <| AH ?_
   cases av
   exact er Z Le.rfl
  refine AE <| AD <| rs AA <| rn 2 Z <| bq aw fun bm t ax => sx Z (AS (KO _ _ _ t) (.inl Z) Z Z Z <| rl Z <| jb (fun g : Bool => ⟨81, [(1, .lpb 0 0), (3, li c), (59, lb g)], [(0, bx (Aa b))], 1⟩) ax (fun g ay => ?_) (fun g a5 => ?_))
  .refine rg AA <| rn 3 Z <| gs 46 ay Z Z Z (fun az => ?_) (fun a0 => ?_)
   .exact rl Z <| AM az (wf hA [(0, 0)] Z Z Z)
   refine rn 3 Z <| bq a0 fun bn u a1 => sx Z (AS (Iw _ _ _ u) (.inl Z) Z Z Z <| rn 3 Z <| gs 53 a1 Z Z Z (fun a2 => ?_) (fun a3 => ?_))
   .exact rl Z <| AM a2 (wf hA [(0, 0)] Z Z Z)
   exact rn 2 Z <| bq a3 fun bo v a4 => sx Z (AS (O9 _ _ _ v) (.inl Z) Z Z Z <| rl Z <| AM a4 (wf hA [(0, 0)] Z Z Z))
  refine cd Z a5 (fun a6 => ?_) (fun a8 => ?_)
  .refine rs AA <| rl Z <| AF <| AR <| AH <| A0 a6 fun bf a7 => AR <| AH ?_
   cases a7
   exact er Z Le.rfl
  exact AE <| Ai <| AD <| rg AA <| rl Z <| As a8 (wf hA [(0, 0)] Z Z Z)
 refine AU <| AY <| CN a9 fun l ba => Aq <| AD <| AC <| rs AA <| rl Z <| AI ?_
 apply lp (a := l) (fun d : Int => ⟨81, [(1, .lpb 0 0), (8, li d)], [(0, bx (Aa b))], 1⟩) ba
 . exact wf hA [(0, 0)] Z Z Z
 intro d bg i
 unfold EU at i
 refine AC <| rs AA <| rn 3 Z <| sx Z (Aj Z Z <| rl Z <| cd Z i (fun w => ?_) (fun ag => ?_))
 .refine AE <| AD <| AC <| AI <| jb (fun e : Bool => ⟨81, [(1, .lpb 0 0), (8, li d), (80, lb e)], [(0, bx (Aa b))], 1⟩) w (fun e x => ?_) (fun e ac => ?_)
  .refine rg AA <| rn 3 Z <| bq x fun bi m y => sx Z (Ap m Z Z Z <| rn 4 Z <| gs 74 y Z Z Z (fun z => ?_) (fun ab => ?_))
   .exact rn 3 Z <| bq z fun bj n aa => sx Z (AS (O9 _ _ _ n) (.inl Z) Z Z Z <| rl Z <| AM aa (wf hA [(0, 0)] Z Z Z))
   exact rl Z <| AM ab (wf hA [(0, 0)] Z Z Z)
  refine cd Z ac (fun ad => ?_) (fun af => ?_)
  .refine rs AA <| rl Z <| AF <| AR <| AH <| A0 ad fun bb ae => AR <| AH ?_
   cases ae
   exact er Z Le.rfl
  exact AE <| Ai <| AD <| rg AA <| rl Z <| As af (wf hA [(0, 0)] Z Z Z)
 refine AU <| AY <| BR ag fun bc ah => Aq <| AD <| rs AA <| rl Z <| AF ?_
 cases ah
 exact er Z Le.rfl
noncomputable def JN (b : (List Int)) (c : Int) (a : Int) : Option (Int ⊕ Bool) :=
 bif decide (a < (b.length : Int)) then (Al b a).bind fun d => bif (d == c) then some (.inr true) else some (.inl (AQ (a + 1))) else some (.inr false)
noncomputable def LD (a : (List Int)) (b : Int) : Option Bool :=
 AO (JN a b) 0
theorem WO (b : (List Int)) (c : Int) (r : Bool) (h : LD b c = some r) : A7 Try.prog 28 [.slice 1 (b.map Ah), .int .i64 c] (· = .bool r) := by
 refine fn AA Try.func28 Z Z 18 Z [.tmp 4] Z [(0, .p (.slice 1 (b.map Ah))), (1, .p (.int .i64 c))] Z Z fun A hA => ?_
 unfold LD at h
 refine rs AA <| rl Z <| AC <| rs AA <| rl Z <| AI ?_
 apply lp (a := r) (fun e : Int => ⟨18, [(0, ls 1 Ah b), (1, li c), (5, li e)], [], 0⟩) h
 . exact wf hA [] Z Z Z
 intro e s d
 unfold JN at d
 refine AC <| rs AA <| rn 2 Z <| sx Z (Aj Z Z <| rl Z <| cd Z d (fun n => ?_) (fun l => ?_))
 .refine AE <| AD <| AC <| AI <| rs AA <| rn 2 Z <| bq n fun t f g => sx Z (Ap f Z Z Z <| rl Z <| cd Z g (fun i => ?_) (fun k => ?_))
  .refine rs AA <| rl Z <| AF <| AR <| AH <| A0 i fun o j => AR <| AH ?_
   cases j
   exact er Z Le.rfl
  exact AE <| Ai <| AD <| rg AA <| rl Z <| As k (wf hA [] Z Z Z)
 refine AU <| AY <| BR l fun q m => Aq <| AD <| rs AA <| rl Z <| AF ?_
 cases m
 exact er Z Le.rfl
noncomputable def E2 (e : AK) (c : (List Int)) (a : Int × Int × (List Int)) : Option ((Int × Int × (List Int)) ⊕ ((List Int) × Bool)) :=
 bif decide (a.2.1 < (c.length : Int)) then (Al c (AQ (a.2.1 - 1))).bind fun f => (FG e (⟨f, a.1⟩ : AG)).bind fun b => ((bif (!b.2) then some true else (Al c a.2.1).bind fun g => some (b.1.elem != g) : Option (Bool))).bind fun (d : Bool) => bif d then some (.inr ([], false)) else (Bc a.2.2 [b.1.fin]).bind fun h => some (.inl (AQ (1 - b.1.fin), AQ (a.2.1 + 1), h)) else some (.inr (a.2.2, true))
noncomputable def DB (c : AK) (b : (List Int)) (a : Int × Int) : Option ((Int × Int) ⊕ ((List Int) × Bool)) :=
 bif decide (0 <= a.2) then (((Al b 0).bind fun g => (FG c (⟨g, a.2⟩ : AG)).bind fun d => ((bif d.2 then (Al b 1).bind fun h => some (d.1.elem == h) else some false : Option (Bool))).bind fun (f : Bool) => bif f then some a.2 else some a.1 : Option (Int))).bind fun (e : Int) => some (.inl (e, AQ (a.2 - 1))) else (bif decide (a.1 < 0) then some ([], false) else AO (E2 c b) (a.1, 1, [AQ (1 - a.1)])).map .inr
noncomputable def Gh (c : AK) (a : (List Int)) (b : Int) : Option (Int ⊕ ((List Int) × Bool)) :=
 bif decide (b < (a.length : Int)) then (Al a b).bind fun d => (ET c d).bind fun e => bif (e != 1) then some (.inr ([], false)) else some (.inl (AQ (b + 1))) else (bif ((a.length : Int) == 1) then some ([0], true) else AO (DB c a) ((-1), 1)).map .inr
noncomputable def G1 (b : AK) (a : (List Int)) : Option ((List Int) × Bool) :=
 bif ((a.length : Int) == 0) then some ([], false) else AO (Gh b a) 0
theorem SL (c : AK) (d : (List Int)) (r : ((List Int) × Bool)) (h : G1 c d = some r) : A7 Try.prog 136 [.agg (Aa c), .slice 1 (d.map Ah)] (· = .tup [.slice 1 (r.1.map Ah), .bool r.2]) := by
 refine fn AA Try.func136 Z Z 102 Z [.tmp 4, .tmp 5] Z [(0, .p (.agg (Aa c))), (1, .p (.slice 1 (d.map Ah)))] Z Z fun A hA => ?_
 unfold G1 at h
 refine rs AA <| rl Z <| AC <| rs AA <| rn 1 Z <| sx Z (Aj Z Z <| rl Z <| cd Z h (fun an => ?_) (fun ao => ?_))
 .refine rs AA <| rl Z <| AF <| AH ?_
  cases an
  exact er Z (Le.tup' (.cons (Le.nil _) (.cons Le.rfl .nil)))
 refine AE <| AD <| AC <| rs AA <| rl Z <| AI ?_
 apply lp (a := r) (fun q : Int => ⟨102, [(1, ls 1 Ah d), (2, .lpb 0 0), (6, li q)], [(0, bx (Aa c))], 1⟩) ao
 . exact wf hA [(0, 0)] Z Z Z
 intro q bp k
 unfold Gh at k
 refine AC <| rs AA <| rn 2 Z <| sx Z (Aj Z Z <| rl Z <| cd Z k (fun ad => ?_) (fun aj => ?_))
 .refine AE <| AD <| AC <| AI <| AC ?_
  refine CF AA BK [0, 1, 2, 3, 4, 5, 6] 7 (by kernel_rfl) Z Z Z ?_
  refine Ax 3 Z <| bq ad fun bt u ae => Au Z (Ag Z (Ap u Z Z Z <| Ax 1 Z <| bq ae fun bu v af => Au Z (Bq (Iw _ _ _ v) (.inl Z) Z Z Z <| BG Z <| AD <| cd Z af (fun ag => ?_) (fun ai => ?_))))
  .refine rs AA <| rl Z <| AF <| AR <| AH <| A0 ag fun bm ah => AR <| AH ?_
   cases ah
   exact er Z (Le.tup' (.cons (Le.nil _) (.cons Le.rfl .nil)))
  exact AE <| Ai <| AD <| rg AA <| rl Z <| As ai (wf hA [(0, 0)] Z Z Z)
 refine AU <| AY <| CN aj fun s ak => Aq <| AD <| AC <| rs AA <| rn 1 Z <| sx Z (Aj Z Z <| rl Z <| cd Z ak (fun al => ?_) (fun am => ?_))
 .refine rs AA <| rl Z <| AF <| AH ?_
  cases al
  exact er (RO Z (.cons (.one (.own (enc := Ah) ([0] : List Int) Z Z)) (.cons (.one (.p _)) .nil))) Le.rfl
 refine AE <| AD <| rs AA <| rl Z <| AC <| rs AA <| rl Z <| AI ?_
 apply lp (a := s) (fun e : (Int × Int) => ⟨102, [(1, ls 1 Ah d), (2, .lpb 0 0), (7, li e.1), (8, li e.2)], [(0, bx (Aa c))], 1⟩) am
 . exact wf hA [(0, 0)] Z Z Z
 intro e br n
 unfold DB at n
 refine AC <| rs AA <| rl Z <| cd Z n (fun ap => ?_) (fun a3 => ?_)
 .refine AE <| AD <| jb (fun f : Int => ⟨102, [(1, ls 1 Ah d), (2, .lpb 0 0), (7, li f), (8, li e.2)], [(0, bx (Aa c))], 1⟩) ap (fun f aq => ?_) (fun f a2 => ?_)
  .refine AI <| AC ?_
   refine CF AA BK [0, 1, 2, 3, 4, 5, 6, 7, 8, 9, 10, 11, 12] 13 (by kernel_rfl) Z Z Z ?_
   refine Ax 2 Z <| bq aq fun bv w ar => Au Z (Ag Z (Ap w Z Z Z <| Ax 3 Z <| bq ar fun bw x au => Au Z (Bq (KO _ _ _ x) (.inl Z) Z Z Z <| BG Z <| AD <| jb (fun g : Bool => ⟨102, [(1, ls 1 Ah d), (2, .lpb 0 0), (7, li e.1), (8, li e.2), (57, lb g)], [(0, bx (Aa c))], 1⟩) au (fun g av => ?_) (fun g az => ?_))))
   .refine CF AA BK [0, 1, 2, 3, 4, 5, 6, 7, 8] 9 (by kernel_rfl) Z Z Z ?_
    refine Ax 2 Z <| HI 50 av Z Z Z (fun aw => ?_) (fun ay => ?_)
    .exact Ax 3 Z <| bq aw fun bz y ax => Au Z (Ag Z (Ap y Z Z Z <| BG Z <| AM ax (wf hA [(0, 0)] Z Z Z)))
    exact BG Z <| AM ay (wf hA [(0, 0)] Z Z Z)
   refine cd Z az (fun a0 => ?_) (fun a1 => ?_)
   .exact rg AA <| rl Z <| Ai <| AM a0 (wf hA [(0, 0)] Z Z Z)
   exact AE <| Ai <| AM a1 (wf hA [(0, 0)] Z Z Z)
  exact rg AA <| rl Z <| As a2 (wf hA [(0, 0)] Z Z Z)
 refine AU <| AY <| CN a3 fun t a4 => Aq <| AD <| AC <| rs AA <| rl Z <| cd Z a4 (fun a5 => ?_) (fun a6 => ?_)
 .refine rs AA <| rl Z <| AF <| AH ?_
  cases a5
  exact er Z (Le.tup' (.cons (Le.nil _) (.cons Le.rfl .nil)))
 refine AE <| AD <| rs AA <| rl Z <| AC <| rs AA <| rl Z <| AI ?_
 apply lp (a := t) (fun b : (Int × Int × (List Int)) => ⟨102, [(1, ls 1 Ah d), (2, .lpb 0 0), (7, li b.1), (11, .lsl 1 1 0 b.2.2.length), (12, li b.2.1)], [(0, bx (Aa c)), (1, .row 3 1 (b.2.2.map Ah))], 2⟩) a6
 . exact wf hA [(0, 0), (1, 1)] Z Z Z
 intro b bs o
 unfold E2 at o
 refine AC <| rs AA <| rn 2 Z <| sx Z (Aj Z Z <| rl Z <| cd Z o (fun a7 => ?_) (fun bk => ?_))
 .refine AE <| AD <| AC <| AI <| AC ?_
  refine CF AA BK [0, 1, 2, 3, 4, 5, 6, 7, 8, 9, 10, 11, 12, 13, 14] 15 (by kernel_rfl) Z Z Z ?_
  refine Ax 4 Z <| bq a7 fun b0 z a8 => Au Z (Ag Z (Ap z Z Z Z <| Ax 3 Z <| bq a8 fun j aa a9 => Au Z (Bq (KO _ _ _ aa) (.inl Z) Z Z Z <| BG Z <| AD <| AC <| jb (fun i : Bool => ⟨102, [(1, ls 1 Ah d), (2, .lpb 0 0), (11, .lsl 1 1 0 b.2.2.length), (12, li b.2.1), (13, .lpb 2 0), (92, lb i)], [(0, bx (Aa c)), (1, .row 3 1 (b.2.2.map Ah)), (2, .box [li j.1.elem, li j.1.fin])], 3⟩) a9 (fun i ba => ?_) (fun i bf => ?_))))
  .refine CF AA BK [0, 1, 2, 3, 4, 5, 6, 7, 8, 9, 10] 11 (by kernel_rfl) Z Z Z ?_
   refine Ax 3 Z <| HI 84 ba Z Z Z (fun bb => ?_) (fun bc => ?_)
   .exact BG Z <| AM bb (wf hA [(0, 0), (1, 1), (2, 14)] Z Z Z)
   exact Ax 4 Z <| bq bc fun b1 ab be => Au Z (Ag Z (Ap ab Z Z Z <| BG Z <| AM be (wf hA [(0, 0), (1, 1), (2, 14)] Z Z Z)))
  refine cd Z bf (fun bg => ?_) (fun bi => ?_)
  .refine rs AA <| rl Z <| AF <| AH <| AR <| AH <| A0 bg fun bn bh => AR <| AH ?_
   cases bh
   exact er Z (Le.tup' (.cons (Le.nil _) (.cons Le.rfl .nil)))
  exact AE <| AD <| rs AA <| rn 4 Z <| bq bi fun b2 ac bj => sx Z (Ay (enc := Ah) (l := b.2.2) (m := [j.1.fin]) ac (fun _ => ⟨Z, Z⟩) Z Z Z Z Z Z <| rl Z <| rg AA <| rl Z <| Ai <| AD <| rg AA <| rl Z <| As bj (wf hA [(0, 0), (1, 4)] Z Z Z))
 refine AU <| AY <| BR bk fun bo bl => Aq <| AD <| rs AA <| rl Z <| AF ?_
 cases bl
 exact er (RO Z (.cons (.one (.own (enc := Ah) b.2.2 Z Z)) (.cons (.one (.p _)) .nil))) Le.rfl
end Go.E
/- Plain functions, and walks in step with them. Written by a program (gen.py). No condition. -/
set_option maxRecDepth 100000
namespace Go.E
open Go Go.RowKit Go.Proofs
noncomputable def Fk (d : AK) (c : (Int × (List Int))) (b : Ee) (a : Int × (List Int)) : Option ((Int × (List Int)) ⊕ ((Int × (List Int)) ⊕ Bool)) :=
 bif decide (a.1 < (b.elems.length : Int)) then (Al b.elems a.1).bind fun e => (LD a.2 e).bind fun f => bif f then some (.inr (.inr false)) else (Al b.elems a.1).bind fun g => (Bc a.2 [g]).bind fun h => some (.inl (AQ (a.1 + 1), h)) else ((G1 d b.elems).bind fun i => bif (!i.2) then some (.inr false) else some (.inl (AQ (c.1 + 1), a.2))).map .inr
noncomputable def HB (b : AK) (a : Int × (List Int)) : Option ((Int × (List Int)) ⊕ Bool) :=
 bif decide (a.1 < (b.lines.length : Int)) then (Al b.lines a.1).bind fun c => AO (Fk b a c) (0, a.2) else some (.inr true)
noncomputable def Hp (a : AK) : Option Bool :=
 AO (HB a) (0, ([] : List Int))
theorem Tl (d : AK) (r : Bool) (h : Hp d = some r) : A7 Try.prog 96 [.agg (Aa d)] (· = .bool r) := by
 refine fn AA Try.func96 Z Z 49 Z [.tmp 2] Z [(0, .p (.agg (Aa d)))] Z Z fun A hA => ?_
 unfold Hp at h
 refine rs AA <| rl Z <| rs AA <| rl Z <| AC <| rs AA <| rl Z <| AI ?_
 apply lp (a := r) (fun c : (Int × (List Int)) => ⟨49, [(1, .lpb 0 0), (3, .lsl 1 1 0 c.2.length), (4, li c.1)], [(0, bx (Aa d)), (1, .row 3 1 (c.2.map Ah))], 2⟩) h
 . exact A4.trans (CM 3 3 1 Z) (wf hA [(0, 0), (1, 1)] Z Z Z)
 intro c g e
 unfold HB at e
 refine AC <| rs AA <| rn 3 Z <| sx Z (Aj Z Z <| rl Z <| cd Z e (fun s => ?_) (fun aj => ?_))
 .refine AE <| AD <| AC <| AI <| rs AA <| rn 3 Z <| bq s fun al i t => sx Z (Ap i Z Z Z <| rl Z <| AC <| rs AA <| rl Z <| AI ?_)
  apply lp (a := g) (fun b : (Int × (List Int)) => ⟨49, [(1, .lpb 0 0), (3, .lsl 1 1 0 b.2.length), (4, li c.1), (5, ls 1 Ah al.elems), (6, li b.1)], [(0, bx (Aa d)), (1, .row 3 1 (b.2.map Ah))], 2⟩) t
  . exact wf hA [(0, 0), (1, 1)] Z Z Z
  intro b au f
  unfold Fk at f
  refine AC <| rs AA <| rn 2 Z <| sx Z (Aj Z Z <| rl Z <| cd Z f (fun u => ?_) (fun ad => ?_))
  .refine AE <| AD <| AC <| AI <| AC <| rs AA <| rn 3 Z <| bq u fun av j v => sx Z (Ap j Z Z Z <| rn 1 Z <| bq v fun aw k w => sx Z (AS (WO _ _ _ k) (.inl Z) Z Z (DP.eq (.cons (.one (.own (enc := Ah) b.2 Z Z)) (.cons (.one (.p _)) .nil))) <| rl Z <| cd Z w (fun x => ?_) (fun aa => ?_)))
   .refine rs AA <| rl Z <| AF <| AH <| AR <| AH <| A0 x fun an y => AR <| AH <| AR <| AH <| A0 y fun ao z => AR <| AH ?_
    cases z
    exact er Z Le.rfl
   exact AE <| AD <| rg AA <| rn 3 Z <| bq aa fun am n ab => sx Z (Ap n Z Z Z <| rn 2 Z <| bq ab fun ax o ac => sx Z (Ay (enc := Ah) (l := b.2) (m := [am]) o (fun _ => ⟨Z, Z⟩) Z Z Z Z Z Z <| rl Z <| Ai <| AD <| rg AA <| rl Z <| As ac (wf hA [(0, 0), (1, 3)] Z Z Z)))
  refine AU <| AY <| CN ad fun ap ae => Aq <| AD <| rs AA <| rn 2 Z <| bq ae fun ay q af => sx Z (AS (SL _ _ _ q) (.inr Z) Z Z Z <| rl Z <| rs AA <| rl Z <| cd Z af (fun ag => ?_) (fun ai => ?_))
  .refine rs AA <| rl Z <| AF <| AR <| AH <| A0 ag fun aq ah => AR <| AH ?_
   cases ah
   exact er Z Le.rfl
  exact AE <| Ai <| AD <| rg AA <| rl Z <| As ai (wf hA [(0, 0), (1, 1)] Z Z Z)
 refine AU <| AY <| BR aj fun ar ak => Aq <| AD <| rs AA <| rl Z <| AF ?_
 cases ak
 exact er Z Le.rfl
noncomputable def Hq (b : Int) (a : Int × Int) : Option ((Int × Int) ⊕ Int) :=
 bif decide (0 < a.1) then some (.inl (AQ (a.1 - b), AQ (a.2 + a.1))) else some (.inr a.2)
noncomputable def HN (b : Int) (a : Int) : Option Int :=
 ((bif decide (b < 0) then some true else bif decide (60 < b) then some true else bif decide (a < 1) then some true else some (decide (10 < a)) : Option (Bool))).bind fun (c : Bool) => bif c then some 0 else AO (Hq a) (AQ (b - a), 0)
theorem UU (c : Int) (b : Int) (r : Int) (h : HN c b = some r) : A7 Try.prog 137 [.int .i64 c, .int .i64 b] (· = .int .i64 r) := by
 refine fn AA Try.func137 Z Z 32 Z [.tmp 4] Z [(0, .p (.int .i64 c)), (1, .p (.int .i64 b))] Z Z fun A hA => ?_
 unfold HN at h
 refine rs AA <| rl Z <| AC <| jb (fun e : Bool => ⟨32, [(0, li c), (1, li b), (19, lb e)], [], 0⟩) h (fun e g => ?_) (fun e o => ?_)
 .refine rg AA <| rn 3 Z <| gs 8 g Z Z Z (fun i => ?_) (fun j => ?_)
  .exact rl Z <| AM i (wf hA [] Z Z Z)
  refine rn 4 Z <| gs 12 j Z Z Z (fun k => ?_) (fun l => ?_)
  .exact rl Z <| AM k (wf hA [] Z Z Z)
  refine rn 4 Z <| gs 16 l Z Z Z (fun m => ?_) (fun n => ?_)
  .exact rl Z <| AM m (wf hA [] Z Z Z)
  exact rl Z <| AM n (wf hA [] Z Z Z)
 refine cd Z o (fun q => ?_) (fun s => ?_)
 .refine rs AA <| rl Z <| AF <| AH ?_
  cases q
  exact er Z Le.rfl
 refine AE <| AD <| rs AA <| rl Z <| AC <| rs AA <| rl Z <| AI ?_
 apply lp (a := r) (fun d : (Int × Int) => ⟨32, [(0, li d.1), (1, li b), (5, li d.2)], [], 0⟩) s
 . exact wf hA [] Z Z Z
 intro d x f
 unfold Hq at f
 refine AC <| rs AA <| rl Z <| cd Z f (fun t => ?_) (fun u => ?_)
 .exact AE <| AD <| AC <| AI <| rg AA <| rl Z <| Ai <| AD <| rg AA <| rl Z <| As t (wf hA [] Z Z Z)
 refine AU <| AY <| BR u fun w v => Aq <| AD <| rs AA <| rl Z <| AF ?_
 cases v
 exact er Z Le.rfl
noncomputable def G2 (b : AK) (a : Int) : Option Int :=
 ((bif decide (a < 0) then some true else some (decide ((b.elems.length : Int) <= a)) : Option (Bool))).bind fun (c : Bool) => bif c then some 0 else (Al b.elems a).bind fun d => some d.length
theorem SM (a : AK) (b : Int) (r : Int) (h : G2 a b = some r) : A7 Try.prog 138 [.agg (Aa a), .int .i64 b] (· = .int .i64 r) := by
 refine fn AA Try.func138 Z Z 20 Z [.tmp 4] Z [(0, .p (.agg (Aa a))), (1, .p (.int .i64 b))] Z Z fun A hA => ?_
 unfold G2 at h
 refine rs AA <| rl Z <| AC <| jb (fun c : Bool => ⟨20, [(1, li b), (2, .lpb 0 0), (13, lb c)], [(0, bx (Aa a))], 1⟩) h (fun c e => ?_) (fun c i => ?_)
 .refine rg AA <| rn 3 Z <| gs 7 e Z Z Z (fun f => ?_) (fun g => ?_)
  .exact rl Z <| AM f (wf hA [(0, 0)] Z Z Z)
  exact rn 3 Z <| sx Z (Aj Z Z <| rl Z <| AM g (wf hA [(0, 0)] Z Z Z))
 refine cd Z i (fun j => ?_) (fun k => ?_)
 .refine rs AA <| rl Z <| AF <| AH ?_
  cases j
  exact er Z Le.rfl
 refine AE <| AD <| rs AA <| rn 3 Z <| bq k fun m d l => sx Z (Ap d Z Z Z <| rl Z <| AF ?_)
 cases l
 exact er Z Le.rfl
noncomputable def GP (b : AK) (a : Int) : Option (Int ⊕ Bool) :=
 bif decide (a < (b.elems.length : Int)) then (((Al b.elems a).bind fun d => bif (d.kind != 4) then (Al b.elems a).bind fun e => some (decide (e.length < b.top)) else some false : Option (Bool))).bind fun (c : Bool) => bif c then some (.inr false) else some (.inl (AQ (a + 1))) else some (.inr true)
noncomputable def Hr (a : AK) (b : Int) : Option (Int ⊕ Bool) :=
 bif decide (b < (a.signals.length : Int)) then (Al a.signals b).bind fun c => (((ET a c.at_.elem).bind fun e => bif (e == 1) then (G2 a c.at_.elem).bind fun f => some (decide (f < a.margin)) else some false : Option (Bool))).bind fun (d : Bool) => bif d then some (.inr false) else some (.inl (AQ (b + 1))) else (AO (GP a) 0).map .inr
noncomputable def Ix (a : AK) : Option Bool :=
 (HN a.top a.brake).bind fun b => bif decide (a.margin < AQ (a.top + b)) then some false else AO (Hr a) 0
theorem UV (b : AK) (r : Bool) (h : Ix b = some r) : A7 Try.prog 97 [.agg (Aa b)] (· = .bool r) := by
 refine fn AA Try.func97 Z Z 68 Z [.tmp 2] Z [(0, .p (.agg (Aa b)))] Z Z fun A hA => ?_
 unfold Ix at h
 refine rs AA <| rl Z <| AC <| AC ?_
 refine CF AA BK [0, 1, 2, 3, 4, 5, 6, 7, 8, 9, 10] 11 (by kernel_rfl) Z Z Z ?_
 refine Ax 8 Z <| bq h fun a6 q s => Au Z (Bq (UU _ _ _ q) (.inl Z) Z Z Z <| BG Z <| AD <| cd Z s (fun t => ?_) (fun u => ?_))
 .refine rs AA <| rl Z <| AF <| AH ?_
  cases t
  exact er Z Le.rfl
 refine AE <| AD <| AC <| rs AA <| rl Z <| AI ?_
 apply lp (a := r) (fun c : Int => ⟨68, [(1, .lpb 0 0), (3, li c)], [(0, bx (Aa b))], 1⟩) u
 . exact wf hA [(0, 0)] Z Z Z
 intro c az g
 unfold Hr at g
 refine AC <| rs AA <| rn 3 Z <| sx Z (Aj Z Z <| rl Z <| cd Z g (fun v => ?_) (fun ag => ?_))
 .refine AE <| AD <| AC <| AI <| rs AA <| rn 3 Z <| bq v fun a1 k w => sx Z (Ap k Z Z Z <| rl Z <| jb (fun e : Bool => ⟨68, [(1, .lpb 0 0), (3, li c), (42, lb e)], [(0, bx (Aa b))], 1⟩) w (fun e x => ?_) (fun e ac => ?_))
  .refine CF AA BK [0, 1, 2, 3, 4, 5, 6, 7, 8, 9, 10, 11] 12 (by kernel_rfl) Z Z Z ?_
   refine Ax 2 Z <| bq x fun a2 l y => Au Z (Bq (Iw _ _ _ l) (.inl Z) Z Z Z <| Ax 2 Z <| HI 35 y Z Z Z (fun z => ?_) (fun ab => ?_))
   .exact Ax 2 Z <| bq z fun a3 m aa => Au Z (Bq (SM _ _ _ m) (.inl Z) Z Z Z <| BG Z <| AM aa (wf hA [(0, 0)] Z Z Z))
   exact BG Z <| AM ab (wf hA [(0, 0)] Z Z Z)
  refine cd Z ac (fun ad => ?_) (fun af => ?_)
  .refine rs AA <| rl Z <| AF <| AR <| AH <| A0 ad fun aw ae => AR <| AH ?_
   cases ae
   exact er Z Le.rfl
  exact AE <| Ai <| AD <| rg AA <| rl Z <| As af (wf hA [(0, 0)] Z Z Z)
 refine AU <| AY <| CN ag fun j ah => Aq <| AD <| AC <| rs AA <| rl Z <| AI ?_
 apply lp (a := j) (fun d : Int => ⟨68, [(1, .lpb 0 0), (5, li d)], [(0, bx (Aa b))], 1⟩) ah
 . exact wf hA [(0, 0)] Z Z Z
 intro d a0 i
 unfold GP at i
 refine AC <| rs AA <| rn 3 Z <| sx Z (Aj Z Z <| rl Z <| cd Z i (fun ai => ?_) (fun au => ?_))
 .refine AE <| AD <| AC <| AI <| jb (fun f : Bool => ⟨68, [(1, .lpb 0 0), (5, li d), (67, lb f)], [(0, bx (Aa b))], 1⟩) ai (fun f aj => ?_) (fun f ao => ?_)
  .refine CF AA BK [0, 1, 2, 3, 4, 5, 6, 7, 8, 9, 10, 11, 12, 13, 14, 15, 16, 17] 18 (by kernel_rfl) Z Z Z ?_
   refine Ax 3 Z <| bq aj fun a4 n ak => Au Z (Ag Z (Ap n Z Z Z <| Ax 4 Z <| HI 57 ak Z Z Z (fun al => ?_) (fun an => ?_)))
   .exact Ax 3 Z <| bq al fun a5 o am => Au Z (Ag Z (Ap o Z Z Z <| BG Z <| AM am (wf hA [(0, 0)] Z Z Z)))
   exact BG Z <| AM an (wf hA [(0, 0)] Z Z Z)
  refine cd Z ao (fun ap => ?_) (fun ar => ?_)
  .refine rs AA <| rl Z <| AF <| AR <| AH <| A0 ap fun ax aq => AR <| AH ?_
   cases aq
   exact er Z Le.rfl
  exact AE <| Ai <| AD <| rg AA <| rl Z <| As ar (wf hA [(0, 0)] Z Z Z)
 refine AU <| AY <| BR au fun ay av => Aq <| AD <| rs AA <| rl Z <| AF ?_
 cases av
 exact er Z Le.rfl
noncomputable def Hs (a : AK) : Option Int :=
 ((bif decide (40 < (a.elems.length : Int)) then some true else bif decide (24 < (a.signals.length : Int)) then some true else bif decide (4 < (a.lines.length : Int)) then some true else some (decide (80 < (a.joins.length : Int))) : Option (Bool))).bind fun (d : Bool) => bif d then some 3 else (Hl a).bind fun b => (It a).bind fun l => bif (!l) then some 1 else (((FV b.1).bind fun e => bif e then some true else (FV b.2.1).bind fun f => bif f then some true else (FV b.2.2).bind fun g => some g : Option (Bool))).bind fun (c : Bool) => bif c then some 4 else (G0 a).bind fun h => bif (!h) then some 6 else (GO a).bind fun i => bif (!i) then some 7 else (Hp a).bind fun j => bif (!j) then some 8 else (Ix a).bind fun k => bif (!k) then some 9 else some 0
theorem Tm (a : AK) (r : Int) (h : Hs a = some r) : A7 Try.prog 44 [.agg (Aa a)] (· = .int .i64 r) := by
 refine fn AA Try.func44 Z Z 65 Z [.tmp 2] Z [(0, .p (.agg (Aa a)))] Z Z fun A hA => ?_
 unfold Hs at h
 refine rs AA <| rl Z <| AC <| jb (fun c : Bool => ⟨65, [(1, .lpb 0 0), (27, lb c)], [(0, bx (Aa a))], 1⟩) h (fun c am => ?_) (fun c av => ?_)
 .refine rg AA <| rn 2 Z <| sx Z (Aj Z Z <| rn 2 Z <| gs 10 am Z Z Z (fun an => ?_) (fun ao => ?_))
  .exact rl Z <| AM an (wf hA [(0, 0)] Z Z Z)
  refine rn 2 Z <| sx Z (Aj Z Z <| rn 3 Z <| gs 16 ao Z Z Z (fun ap => ?_) (fun aq => ?_))
  .exact rl Z <| AM ap (wf hA [(0, 0)] Z Z Z)
  refine rn 2 Z <| sx Z (Aj Z Z <| rn 3 Z <| gs 22 aq Z Z Z (fun ar => ?_) (fun au => ?_))
  .exact rl Z <| AM ar (wf hA [(0, 0)] Z Z Z)
  exact rn 2 Z <| sx Z (Aj Z Z <| rl Z <| AM au (wf hA [(0, 0)] Z Z Z))
 refine cd Z av (fun aw => ?_) (fun ax => ?_)
 .refine rs AA <| rl Z <| AF <| AH ?_
  cases aw
  exact er Z Le.rfl
 refine AE <| AD <| rs AA <| rn 1 Z <| bq ax fun a9 l ay => sx Z (AS (Tj _ _ l) (.inr Z) Z Z Z <| rl Z <| AC <| AI <| rs AA <| rn 1 Z <| bq ay fun ba m az => sx Z (AS (UR _ _ m) (.inl Z) Z Z Z <| rl Z <| cd Z az (fun a0 => ?_) (fun a1 => ?_)))
 .refine rs AA <| rl Z <| AF <| AR <| AH ?_
  cases a0
  exact er Z Le.rfl
 refine jb (fun b : Bool => ⟨65, [(1, .lpb 0 0), (38, lb b)], [(0, bx (Aa a))], 1⟩) a1 (fun b n => ?_) (fun b x => ?_)
 .refine rg AA <| rn 1 Z <| bq n fun a2 d o => sx Z (AS (L1 _ _ d) (.inl Z) Z Z Z <| rn 1 Z <| gs 41 o Z Z Z (fun q => ?_) (fun s => ?_))
  .exact rl Z <| AM q (wf hA [(0, 0)] Z Z Z)
  refine rn 1 Z <| bq s fun a3 e t => sx Z (AS (L1 _ _ e) (.inl Z) Z Z Z <| rn 2 Z <| gs 45 t Z Z Z (fun u => ?_) (fun v => ?_))
  .exact rl Z <| AM u (wf hA [(0, 0)] Z Z Z)
  exact rn 1 Z <| bq v fun a4 f w => sx Z (AS (L1 _ _ f) (.inl Z) Z Z Z <| rl Z <| AM w (wf hA [(0, 0)] Z Z Z))
 refine cd Z x (fun y => ?_) (fun z => ?_)
 .refine rs AA <| rl Z <| AF <| AR <| AH ?_
  cases y
  exact er Z Le.rfl
 refine rs AA <| rn 1 Z <| bq z fun a5 g aa => sx Z (AS (SK _ _ g) (.inl Z) Z Z Z <| rl Z <| cd Z aa (fun ab => ?_) (fun ac => ?_))
 .refine rs AA <| rl Z <| AF <| AR <| AH ?_
  cases ab
  exact er Z Le.rfl
 refine rs AA <| rn 1 Z <| bq ac fun a6 i ad => sx Z (AS (Rb _ _ i) (.inl Z) Z Z Z <| rl Z <| cd Z ad (fun ae => ?_) (fun af => ?_))
 .refine rs AA <| rl Z <| AF <| AR <| AH ?_
  cases ae
  exact er Z Le.rfl
 refine rs AA <| rn 1 Z <| bq af fun a7 j ag => sx Z (AS (Tl _ _ j) (.inl Z) Z Z Z <| rl Z <| cd Z ag (fun ah => ?_) (fun ai => ?_))
 .refine rs AA <| rl Z <| AF <| AR <| AH ?_
  cases ah
  exact er Z Le.rfl
 refine rs AA <| rn 1 Z <| bq ai fun a8 k aj => sx Z (AS (UV _ _ k) (.inl Z) Z Z Z <| rl Z <| cd Z aj (fun ak => ?_) (fun al => ?_))
 .refine rs AA <| rl Z <| AF <| AR <| AH ?_
  cases ak
  exact er Z Le.rfl
 refine AE <| Ai <| AD <| rs AA <| rl Z <| AF ?_
 cases al
 exact er Z Le.rfl
noncomputable def Iv (a : AK) : Option Bool :=
 (((Jo a).bind fun d => bif d then (Hs a).bind fun c => some (c == 0) else some false : Option (Bool))).bind fun (b : Bool) => some b
theorem UT (b : AK) (r : Bool) (h : Iv b = some r) : A7 Try.prog 12 [.agg (Aa b)] (· = .bool r) := by
 refine fn AA Try.func12 Z Z 10 Z [.tmp 2] Z [(0, .p (.agg (Aa b)))] Z Z fun A hA => ?_
 unfold Iv at h
 refine rs AA <| rl Z <| jb (fun a : Bool => ⟨10, [(2, lb a)], [], 0⟩) h (fun a k => ?_) (fun a j => ?_)
 .refine rg AA <| rn 1 Z <| bq k fun m d e => sx Z (AS (VN _ _ d) (.inl Z) Z Z Z <| rn 1 Z <| gs 5 e Z Z Z (fun f => ?_) (fun i => ?_))
  .exact rn 1 Z <| bq f fun l c g => sx Z (AS (Tm _ _ c) (.inl Z) Z Z Z <| rl Z <| AM g (wf hA [] Z Z Z))
  exact rl Z <| AM i (wf hA [] Z Z Z)
 refine AF ?_
 have hr := Option.some.inj j; subst hr
 exact er Z Le.rfl
noncomputable def EH (a : Int) : Option Bool :=
 ((bif decide (97 <= a) then bif decide (a <= 122) then some true else bif decide (65 <= a) then some (decide (a <= 90)) else some false else bif decide (65 <= a) then some (decide (a <= 90)) else some false : Option (Bool))).bind fun (b : Bool) => some b
theorem MO (b : Int) (r : Bool) (h : EH b = some r) : A7 Try.prog 188 [.int .u8 b] (· = .bool r) := by
 refine fn AA Try.func188 Z Z 17 Z [.tmp 2] Z [(0, .p (.int .u8 b))] Z Z fun A hA => ?_
 unfold EH at h
 refine rs AA <| rl Z <| jb (fun a : Bool => ⟨17, [(2, lb a)], [], 0⟩) h (fun a c => ?_) (fun a m => ?_)
 .refine rg AA <| rn 3 Z <| gs 5 c Z Z Z (fun d => ?_) (fun j => ?_)
  .refine rn 4 Z <| gs 9 d Z Z Z (fun e => ?_) (fun f => ?_)
   .exact rl Z <| AM e (wf hA [] Z Z Z)
   refine rn 3 Z <| gs 12 f Z Z Z (fun g => ?_) (fun i => ?_)
   .exact rl Z <| AM g (wf hA [] Z Z Z)
   exact rl Z <| AM i (wf hA [] Z Z Z)
  refine rn 7 Z <| gs 12 j Z Z Z (fun k => ?_) (fun l => ?_)
  .exact rl Z <| AM k (wf hA [] Z Z Z)
  exact rl Z <| AM l (wf hA [] Z Z Z)
 refine AF ?_
 have hr := Option.some.inj m; subst hr
 exact er Z Le.rfl
noncomputable def E3 (b : ByteArray) (a : Int) : Option (Int ⊕ Bool) :=
 bif decide (a < (b.size : Int)) then (((Lr b a).bind fun d => (EH (d.toNat : Int)).bind fun e => bif (!e) then (Lr b a).bind fun f => bif decide ((f.toNat : Int) < 48) then some true else (Lr b a).bind fun g => some (decide (57 < (g.toNat : Int))) else some false : Option (Bool))).bind fun (c : Bool) => bif c then some (.inr false) else some (.inl (AQ (a + 1))) else some (.inr true)
noncomputable def Ef (a : ByteArray) : Option Bool :=
 ((bif (a.toList == ByteArray.empty.toList) then some true else bif decide (8 < (a.size : Int)) then some true else (Lr a 0).bind fun c => (EH (c.toNat : Int)).bind fun d => some (!d) : Option (Bool))).bind fun (b : Bool) => bif b then some false else AO (E3 a) 1
theorem Kj (b : ByteArray) (r : Bool) (h : Ef b = some r) : A7 Try.prog 175 [.str b] (· = .bool r) := by
 refine fn AA Try.func175 Z Z 40 Z [.tmp 2] Z [(0, .p (.str b))] Z Z fun A hA => ?_
 unfold Ef at h
 refine rs AA <| rl Z <| AC <| jb (fun d : Bool => ⟨40, [(0, .p (.str b)), (16, lb d)], [], 0⟩) h (fun d n => ?_) (fun d x => ?_)
 .refine rg AA <| rn 3 Z <| gs 6 n Z Z Z (fun o => ?_) (fun q => ?_)
  .exact rl Z <| AM o (wf hA [] Z Z Z)
  refine rn 5 Z <| gs 11 q Z Z Z (fun s => ?_) (fun t => ?_)
  .exact rl Z <| AM s (wf hA [] Z Z Z)
  exact rn 1 Z <| bq t fun au g v => sx Z (Ms g Z Z Z <| bq v fun av i w => sx Z (AS (MO _ _ i) (.inl Z) Z Z Z <| rl Z <| AM w (wf hA [] Z Z Z)))
 refine cd Z x (fun z => ?_) (fun ah => ?_)
 .refine rs AA <| rl Z <| AF <| AH ?_
  cases z
  exact er Z Le.rfl
 refine AE <| AD <| AC <| rs AA <| rl Z <| AI ?_
 apply lp (a := r) (fun c : Int => ⟨40, [(0, .p (.str b)), (3, li c)], [], 0⟩) ah
 . exact wf hA [] Z Z Z
 intro c ar f
 unfold E3 at f
 refine AC <| rs AA <| rl Z <| cd Z f (fun u => ?_) (fun an => ?_)
 .refine AE <| AD <| AC <| AI <| jb (fun e : Bool => ⟨40, [(0, .p (.str b)), (3, li c), (39, lb e)], [], 0⟩) u (fun e y => ?_) (fun e aj => ?_)
  .refine rg AA <| rn 2 Z <| bq y fun aw j aa => sx Z (Ms j Z Z Z <| bq aa fun ax k ab => sx Z (AS (MO _ _ k) (.inl Z) Z Z Z <| rn 2 Z <| gs 28 ab Z Z Z (fun ac => ?_) (fun ai => ?_)))
   .refine rn 2 Z <| bq ac fun ay l ad => sx Z (Ms l Z Z Z <| rn 2 Z <| gs 33 ad Z Z Z (fun ae => ?_) (fun af => ?_))
    .exact rl Z <| AM ae (wf hA [] Z Z Z)
    exact rn 2 Z <| bq af fun az m ag => sx Z (Ms m Z Z Z <| rl Z <| AM ag (wf hA [] Z Z Z))
   exact rl Z <| AM ai (wf hA [] Z Z Z)
  refine cd Z aj (fun ak => ?_) (fun am => ?_)
  .refine rs AA <| rl Z <| AF <| AR <| AH <| A0 ak fun ap al => AR <| AH ?_
   cases al
   exact er Z Le.rfl
  exact AE <| Ai <| AD <| rg AA <| rl Z <| As am (wf hA [] Z Z Z)
 refine AU <| AY <| BR an fun aq ao => Aq <| AD <| rs AA <| rl Z <| AF ?_
 cases ao
 exact er Z Le.rfl
noncomputable def Fv (a : Int) : Option Int :=
 bif (a == 1) then some 2 else bif (a == 2) then some 3 else bif (a == 3) then some 4 else bif (a == 4) then some 1 else some 0
theorem Kk (a : Int) (r : Int) (h : Fv a = some r) : A7 Try.prog 174 [.int .i64 a] (· = .int .i64 r) := by
 refine fn AA Try.func174 Z Z 12 Z [.tmp 2] Z [(0, .p (.int .i64 a))] Z Z fun A hA => ?_
 unfold Fv at h
 refine rs AA <| rl Z <| AC <| rs AA <| rl Z <| AI <| rs AA <| rl Z <| cd Z h (fun j => ?_) (fun b => ?_)
 .refine rs AA <| rl Z <| AF <| AR <| AH ?_
  cases j
  exact er Z Le.rfl
 refine rs AA <| rl Z <| cd Z b (fun c => ?_) (fun d => ?_)
 .refine rs AA <| rl Z <| AF <| AR <| AH ?_
  cases c
  exact er Z Le.rfl
 refine rs AA <| rl Z <| cd Z d (fun e => ?_) (fun f => ?_)
 .refine rs AA <| rl Z <| AF <| AR <| AH ?_
  cases e
  exact er Z Le.rfl
 refine rs AA <| rl Z <| cd Z f (fun g => ?_) (fun i => ?_)
 .refine rs AA <| rl Z <| AF <| AR <| AH ?_
  cases g
  exact er Z Le.rfl
 refine AE <| Ai <| AD <| rs AA <| rl Z <| AF ?_
 cases i
 exact er Z Le.rfl
noncomputable def Cr (b : AK) (a : Int) : Option (Int ⊕ Bool) :=
 bif decide (a < (b.lines.length : Int)) then (Al b.lines a).bind fun c => (Ef c.name).bind fun d => bif (!d) then some (.inr false) else some (.inl (AQ (a + 1))) else some (.inr true)
noncomputable def Cs (b : AK) (a : Int) : Option (Int ⊕ Bool) :=
 bif decide (a < (b.signals.length : Int)) then (Al b.signals a).bind fun c => (Ef c.name).bind fun d => bif (!d) then some (.inr false) else some (.inl (AQ (a + 1))) else (AO (Cr b) 0).map .inr
noncomputable def Db (c : AK) (b : Int) : Option (Int ⊕ Bool) :=
 bif decide (b < (c.elems.length : Int)) then Hc (((Al c.elems b).bind fun a => (((Ef a.name).bind fun f => bif (!f) then some true else (Fv a.kind).bind fun g => some (g == 0) : Option (Bool))).bind fun (d : Bool) => bif d then some (.inr (.inr false)) else bif (a.kind == 4) then bif (a.length != 0) then some (.inr (.inr false)) else some (.inl ()) else ((bif decide (a.length < 1) then some true else some (decide (4000 < a.length)) : Option (Bool))).bind fun (e : Bool) => bif e then some (.inr (.inr false)) else some (.inl ()) : Option (Unit ⊕ (Int ⊕ Bool)))) fun (h : Unit) => some (.inl (AQ (b + 1))) else (AO (Cs c) 0).map .inr
noncomputable def E4 (a : AK) : Option Bool :=
 ((bif decide (a.top < 1) then some true else bif decide (60 < a.top) then some true else bif decide (a.brake < 1) then some true else bif decide (10 < a.brake) then some true else bif decide (a.margin < 1) then some true else bif decide (4000 < a.margin) then some true else bif decide (a.throw < 1) then some true else bif decide (20 < a.throw) then some true else some ((a.elems.length : Int) == 0) : Option (Bool))).bind fun (b : Bool) => bif b then some false else AO (Db a) 0
theorem Pk (b : AK) (r : Bool) (h : E4 b = some r) : A7 Try.prog 139 [.agg (Aa b)] (· = .bool r) := by
 refine fn AA Try.func139 Z Z 112 Z [.tmp 2] Z [(0, .p (.agg (Aa b)))] Z Z fun A hA => ?_
 unfold E4 at h
 refine rs AA <| rl Z <| sc <| AC <| jb (fun d : Bool => ⟨112, [(1, .lpb 0 0), (52, lb d)], [(0, bx (Aa b))], 1⟩) h (fun d z => ?_) (fun d bm => ?_)
 .refine rg AA <| rn 4 Z <| gs 12 z Z Z Z (fun aa => ?_) (fun ad => ?_)
  .exact rl Z <| AM aa (wf hA [(0, 0)] Z Z Z)
  refine rn 5 Z <| gs 17 ad Z Z Z (fun ak => ?_) (fun ar => ?_)
  .exact rl Z <| AM ak (wf hA [(0, 0)] Z Z Z)
  refine rn 5 Z <| gs 22 ar Z Z Z (fun az => ?_) (fun a8 => ?_)
  .exact rl Z <| AM az (wf hA [(0, 0)] Z Z Z)
  refine rn 5 Z <| gs 27 a8 Z Z Z (fun bb => ?_) (fun bc => ?_)
  .exact rl Z <| AM bb (wf hA [(0, 0)] Z Z Z)
  refine rn 5 Z <| gs 32 bc Z Z Z (fun be => ?_) (fun bf => ?_)
  .exact rl Z <| AM be (wf hA [(0, 0)] Z Z Z)
  refine rn 5 Z <| gs 37 bf Z Z Z (fun bg => ?_) (fun bh => ?_)
  .exact rl Z <| AM bg (wf hA [(0, 0)] Z Z Z)
  refine rn 5 Z <| gs 42 bh Z Z Z (fun bi => ?_) (fun bj => ?_)
  .exact rl Z <| AM bi (wf hA [(0, 0)] Z Z Z)
  refine rn 5 Z <| gs 47 bj Z Z Z (fun bk => ?_) (fun bl => ?_)
  .exact rl Z <| AM bk (wf hA [(0, 0)] Z Z Z)
  exact rn 2 Z <| sx Z (Aj Z Z <| rl Z <| AM bl (wf hA [(0, 0)] Z Z Z))
 refine cd Z bm (fun bn => ?_) (fun bo => ?_)
 .refine rs AA <| rl Z <| AF <| AH <| DW ?_
  cases bn
  exact er Z Le.rfl
 refine AE <| AD <| AC <| GD <| AD <| AC <| rs AA <| rn 2 Z <| sx Z (Aj Z Z <| rl Z <| AI ?_)
 apply lp (a := r) (fun c : Int => ⟨112, [(1, .lpb 0 0), (54, ls 3 B0 b.elems), (55, li (b.elems.length : Int)), (56, li c)], [(0, bx (Aa b))], 1⟩) bo
 . exact wf hA [(0, 0)] Z Z Z
 intro c o g
 unfold Db at g
 refine rs AA <| rl Z <| AC <| cd Z g (fun y => ?_) (fun a9 => ?_)
 .refine AE <| AD ?_
  apply jn (a := o) (fun b8 : Unit => ⟨112, [(1, .lpb 0 0), (54, ls 3 B0 b.elems), (55, li (b.elems.length : Int)), (56, li c)], [(0, bx (Aa b))], 1⟩) y
  .intro ck ab
   refine AI <| rs AA <| bq ab fun b9 q ac => sx Z (Ap q Z Z Z <| rl Z <| AI <| jb (fun e : Bool => ⟨112, [(1, .lpb 0 0), (4, .lpb 1 0), (54, ls 3 B0 b.elems), (55, li (b.elems.length : Int)), (56, li c), (60, lb e)], [(0, bx (Aa b)), (1, bx (B0 b9))], 2⟩) ac (fun e ae => ?_) (fun e aj => ?_))
   .refine rg AA <| rn 2 Z <| bq ae fun cn s af => sx Z (AS (Kj _ _ s) (.inl Z) Z Z Z <| rn 2 Z <| gs 65 af Z Z Z (fun ag => ?_) (fun ah => ?_))
    .exact rl Z <| AM ag (wf hA [(0, 0), (1, 1)] Z Z Z)
    exact rn 2 Z <| bq ah fun co t ai => sx Z (AS (Kk _ _ t) (.inl Z) Z Z Z <| rl Z <| AM ai (wf hA [(0, 0), (1, 1)] Z Z Z))
   refine cd Z aj (fun al => ?_) (fun ao => ?_)
   .refine rs AA <| rl Z <| AF <| AR <| AR <| A0 al fun ca am => A0 am fun cb an => AR <| AH <| DW ?_
    cases an
    exact er Z Le.rfl
   refine rs AA <| rl Z <| cd Z ao (fun ap => ?_) (fun ax => ?_)
   .refine AC <| rs AA <| rl Z <| cd Z ap (fun aq => ?_) (fun aw => ?_)
    .refine rs AA <| rl Z <| AF <| AH <| AR <| AR <| A0 aq fun cc au => A0 au fun ce av => AR <| AH <| DW ?_
     cases av
     exact er Z Le.rfl
    exact AE <| AD <| AU <| Lk Z <| Aq <| As aw (wf hA [(0, 0)] Z Z Z)
   refine jb (fun f : Bool => ⟨112, [(1, .lpb 0 0), (54, ls 3 B0 b.elems), (55, li (b.elems.length : Int)), (56, li c), (78, lb f)], [(0, bx (Aa b))], 1⟩) ax (fun f ay => ?_) (fun f a2 => ?_)
   .refine rg AA <| rn 4 Z <| gs 82 ay Z Z Z (fun a0 => ?_) (fun a1 => ?_)
    .exact rl Z <| AM a0 (wf hA [(0, 0)] Z Z Z)
    exact rl Z <| AM a1 (wf hA [(0, 0)] Z Z Z)
   refine cd Z a2 (fun a3 => ?_) (fun a6 => ?_)
   .refine rs AA <| rl Z <| AF <| AR <| AR <| A0 a3 fun cf a4 => A0 a4 fun cg a5 => AR <| AH <| DW ?_
    cases a5
    exact er Z Le.rfl
   exact AE <| Ai <| Ai <| As a6 (wf hA [(0, 0)] Z Z Z)
  intro b8 a7
  exact rg AA <| rl Z <| As a7 (wf hA [(0, 0)] Z Z Z)
 refine AU <| AY <| CN a9 fun m ba => Aq <| AD <| AC <| rs AA <| rn 2 Z <| sx Z (Aj Z Z <| rl Z <| AI ?_)
 apply lp (a := m) (fun k : Int => ⟨112, [(1, .lpb 0 0), (89, ls 4 Bb b.signals), (90, li (b.signals.length : Int)), (91, li k)], [(0, bx (Aa b))], 1⟩) ba
 . exact wf hA [(0, 0)] Z Z Z
 intro k cl i
 unfold Cs at i
 refine rs AA <| rl Z <| AC <| cd Z i (fun bp => ?_) (fun bw => ?_)
 .refine AE <| AD <| AC <| AI <| rs AA <| bq bp fun cp u br => sx Z (Ap u Z Z Z <| rl Z <| rs AA <| rn 2 Z <| bq br fun cq v bs => sx Z (AS (Kj _ _ v) (.inl Z) Z Z Z <| rl Z <| cd Z bs (fun bt => ?_) (fun bv => ?_)))
  .refine rs AA <| rl Z <| AF <| AR <| AH <| A0 bt fun ch bu => AR <| AH <| DW ?_
   cases bu
   exact er Z Le.rfl
  exact AE <| Ai <| AD <| rg AA <| rl Z <| As bv (wf hA [(0, 0)] Z Z Z)
 refine AU <| AY <| CN bw fun n bz => Aq <| AD <| AC <| rs AA <| rn 2 Z <| sx Z (Aj Z Z <| rl Z <| AI ?_)
 apply lp (a := n) (fun l : Int => ⟨112, [(101, ls 2 CH b.lines), (102, li (b.lines.length : Int)), (103, li l)], [], 0⟩) bz
 . exact wf hA [] Z Z Z
 intro l cm j
 unfold Cr at j
 refine rs AA <| rl Z <| AC <| cd Z j (fun b0 => ?_) (fun b6 => ?_)
 .refine AE <| AD <| AC <| AI <| rs AA <| bq b0 fun cr w b1 => sx Z (Ap w Z Z Z <| rl Z <| rs AA <| rn 2 Z <| bq b1 fun cs x b2 => sx Z (AS (Kj _ _ x) (.inl Z) Z Z Z <| rl Z <| cd Z b2 (fun b3 => ?_) (fun b5 => ?_)))
  .refine rs AA <| rl Z <| AF <| AR <| AH <| A0 b3 fun ci b4 => AR <| AH <| DW ?_
   cases b4
   exact er Z Le.rfl
  exact AE <| Ai <| AD <| rg AA <| rl Z <| As b5 (wf hA [] Z Z Z)
 refine AU <| AY <| BR b6 fun cj b7 => Aq <| AD <| rs AA <| rl Z <| AF <| DW ?_
 cases b7
 exact er Z Le.rfl
end Go.E
/- Plain functions, and walks in step with them. Written by a program (gen.py). No condition. -/
set_option maxRecDepth 100000
namespace Go.E
open Go Go.RowKit Go.Proofs
noncomputable def E5 (a : Int) (b : AK) : Option ByteArray :=
 (Al b.elems a).bind fun c => some c.name
theorem LF (a : Int) (b : AK) (r : ByteArray) (h : E5 a b = some r) : A7 Try.prog 141 [.int .i64 a, .place (Aa b) 0] (· = .str r) := by
 refine fn AA Try.func141 Z Z 10 Z [.tmp 3] Z [(0, .p (.int .i64 a)), (1, .p (.place (Aa b) 0))] Z Z fun A hA => ?_
 unfold E5 at h
 refine rs AA <| rl Z <| rs AA <| rn 3 Z <| bq h fun e c d => sx Z (Ap c Z Z Z <| rl Z <| AF ?_)
 cases d
 exact er Z Le.rfl
noncomputable def E6 (a : Int) (b : AK) : Option ByteArray :=
 (Al b.signals a).bind fun c => some c.name
theorem LG (a : Int) (b : AK) (r : ByteArray) (h : E6 a b = some r) : A7 Try.prog 142 [.int .i64 a, .place (Aa b) 0] (· = .str r) := by
 refine fn AA Try.func142 Z Z 10 Z [.tmp 3] Z [(0, .p (.int .i64 a)), (1, .p (.place (Aa b) 0))] Z Z fun A hA => ?_
 unfold E6 at h
 refine rs AA <| rl Z <| rs AA <| rn 3 Z <| bq h fun e c d => sx Z (Ap c Z Z Z <| rl Z <| AF ?_)
 cases d
 exact er Z Le.rfl
noncomputable def E7 (a : Int) (b : AK) : Option ByteArray :=
 (Al b.lines a).bind fun c => some c.name
theorem LH (a : Int) (b : AK) (r : ByteArray) (h : E7 a b = some r) : A7 Try.prog 143 [.int .i64 a, .place (Aa b) 0] (· = .str r) := by
 refine fn AA Try.func143 Z Z 10 Z [.tmp 3] Z [(0, .p (.int .i64 a)), (1, .p (.place (Aa b) 0))] Z Z fun A hA => ?_
 unfold E7 at h
 refine rs AA <| rl Z <| rs AA <| rn 3 Z <| bq h fun e c d => sx Z (Ap c Z Z Z <| rl Z <| AF ?_)
 cases d
 exact er Z Le.rfl
noncomputable def Fw (b : AK) (a : AG) : Option Bool :=
 ((bif decide (0 <= a.elem) then bif decide (a.elem < (b.elems.length : Int)) then bif decide (0 <= a.fin) then (Al b.elems a.elem).bind fun d => (Fv d.kind).bind fun e => some (decide (a.fin < e)) else some false else some false else some false : Option (Bool))).bind fun (c : Bool) => some c
theorem Kl (b : AK) (c : AG) (r : Bool) (h : Fw b c = some r) : A7 Try.prog 176 [.agg (Aa b), .agg (AL c)] (· = .bool r) := by
 refine fn AA Try.func176 Z Z 34 Z [.tmp 4] Z [(0, .p (.agg (Aa b))), (1, .p (.agg (AL c)))] Z Z fun A hA => ?_
 unfold Fw at h
 refine rs AA <| rl Z <| jb (fun a : Bool => ⟨34, [(4, lb a)], [], 0⟩) h (fun a f => ?_) (fun a q => ?_)
 .refine CF AA BK [0, 1, 2, 3, 4, 5, 6, 7, 8, 9, 10, 11, 12, 13, 14, 15, 16, 17, 18, 19, 20, 21, 22, 23, 24, 25, 26, 27, 28, 29] 30 (by kernel_rfl) Z Z Z ?_
  refine Ax 4 Z <| HI 8 f Z Z Z (fun g => ?_) (fun o => ?_)
  .refine Ax 4 Z <| Au Z (Om Z Z <| Ax 3 Z <| HI 16 g Z Z Z (fun i => ?_) (fun n => ?_))
   .refine Ax 5 Z <| HI 21 i Z Z Z (fun j => ?_) (fun m => ?_)
    .exact Ax 6 Z <| bq j fun s d k => Au Z (Ag Z (Ap d Z Z Z <| Ax 2 Z <| bq k fun t e l => Au Z (Bq (Kk _ _ e) (.inl Z) Z Z Z <| BG Z <| AM l (wf hA [] Z Z Z))))
    exact BG Z <| AM m (wf hA [] Z Z Z)
   exact BG Z <| AM n (wf hA [] Z Z Z)
  exact BG Z <| AM o (wf hA [] Z Z Z)
 refine AF ?_
 have hr := Option.some.inj q; subst hr
 exact er Z Le.rfl
noncomputable def DC (c : AK) (b : (Int × (List (AG × AG)))) (a : Int) : Option (Int ⊕ ((List (AG × AG)) × Bool)) :=
 bif decide (a < (c.elems.length : Int)) then Hc (((Al c.elems a).bind fun e => bif (e.kind != 4) then some (.inl ()) else ((bif (!(Af b.2 (⟨a, 0⟩ : AG)).isSome) then some true else (Al c.elems (((Af b.2 (⟨a, 0⟩ : AG)).getD (⟨0, 0⟩ : AG)).elem)).bind fun f => some (f.kind == 4) : Option (Bool))).bind fun (d : Bool) => bif d then some (.inr (.inr ([], false))) else some (.inl ()) : Option (Unit ⊕ (Int ⊕ ((List (AG × AG)) × Bool))))) fun (g : Unit) => some (.inl (AQ (a + 1))) else some (.inr (b.2, true))
noncomputable def D0 (e : AK) (d : Int × (List (AG × AG))) : Option ((Int × (List (AG × AG))) ⊕ ((List (AG × AG)) × Bool)) :=
 bif decide (d.1 < (e.joins.length : Int)) then (Al e.joins d.1).bind fun c => ((bif (Af d.2 c.a).isSome then some true else bif (Af d.2 c.b).isSome then some true else bif (c.a == c.b) then some true else (Fw e c.a).bind fun g => bif (!g) then some true else (Fw e c.b).bind fun h => some (!h) : Option (Bool))).bind fun (f : Bool) => bif f then some (.inr ([], false)) else some (.inl (AQ (d.1 + 1), A6 c.b c.a (A6 c.a c.b d.2))) else (AO (DC e d) 0).map .inr
noncomputable def Fm (a : AK) : Option ((List (AG × AG)) × Bool) :=
 AO (D0 a) (0, [])
theorem Qe (c : AK) (r : ((List (AG × AG)) × Bool)) (h : Fm c = some r) : A7 Try.prog 144 [.agg (Aa c)] (· = .tup [.map (Am (fun x => .agg (AL x)) (fun x => .agg (AL x)) r.1), .bool r.2]) := by
 refine fn AA Try.func144 Z Z 105 Z [.tmp 2, .tmp 3] Z [(0, .p (.agg (Aa c)))] Z Z fun A hA => ?_
 unfold Fm at h
 refine rs AA <| rl Z <| rs AA <| rl Z <| AC <| rs AA <| rn 2 Z <| sx Z (Aj Z Z <| rl Z <| AI ?_)
 apply lp (a := r) (fun d : (Int × (List (AG × AG))) => ⟨105, [(1, .lpb 0 0), (4, .lmap 1), (17, ls 4 Ca c.joins), (18, li (c.joins.length : Int)), (19, li d.1)], [(0, bx (Aa c)), (1, .map (Am (fun x => .agg (AL x)) (fun x => .agg (AL x)) d.2))], 2⟩) h
 . exact wf hA [(0, 0), (1, 1)] Z Z Z
 intro d bg k
 unfold D0 at k
 refine rs AA <| rl Z <| AC <| cd Z k (fun ao => ?_) (fun a7 => ?_)
 .refine AE <| AD <| AC <| AI <| rs AA <| bq ao fun e q ap => sx Z (Ap q Z Z Z <| rl Z <| rs AA <| rn 3 Z <| sx Z (Hf (et := 96) (ke := (fun x => .agg (AL x))) (ve := (fun x => .agg (AL x))) (mp := d.2) (y := e.a) (⟨0, 0⟩ : AG) B7 Z Z Z Z <| rl Z <| rs AA <| rn 3 Z <| sx Z (Hf (et := 96) (ke := (fun x => .agg (AL x))) (ve := (fun x => .agg (AL x))) (mp := d.2) (y := e.b) (⟨0, 0⟩ : AG) B7 Z Z Z Z <| rl Z <| AC <| jb (fun i : Bool => ⟨105, [(1, .lpb 0 0), (4, .lmap 1), (6, .lpb 2 0), (17, ls 4 Ca c.joins), (18, li (c.joins.length : Int)), (19, li d.1), (61, lb i)], [(0, bx (Aa c)), (1, .map (Am (fun x => .agg (AL x)) (fun x => .agg (AL x)) d.2)), (2, bx (Ca e))], 3⟩) ap (fun i aq => ?_) (fun i a3 => ?_))))
  .refine rg AA <| rn 2 Z <| gs 38 aq Z Z Z (fun ar => ?_) (fun au => ?_)
   .exact rl Z <| AM ar (wf hA (gi 3 []) Z Z Z)
   refine rn 3 Z <| gs 41 au Z Z Z (fun av => ?_) (fun aw => ?_)
   .exact rl Z <| AM av (wf hA (gi 3 []) Z Z Z)
   refine rn 4 Z <| sx Z (XR (IK e.a e.b) Z Z Z Z Z <| rn 2 Z <| gs 48 aw Z Z Z (fun ax => ?_) (fun ay => ?_))
   .exact rl Z <| AM ax (wf hA (gi 3 []) Z Z Z)
   refine rn 3 Z <| bq ay fun bj s az => sx Z (AS (Kl _ _ _ s) (.inl Z) Z Z Z <| rn 3 Z <| gs 55 az Z Z Z (fun a0 => ?_) (fun a1 => ?_))
   .exact rl Z <| AM a0 (wf hA (gi 3 []) Z Z Z)
   exact rn 3 Z <| bq a1 fun bk t a2 => sx Z (AS (Kl _ _ _ t) (.inl Z) Z Z Z <| rl Z <| AM a2 (wf hA (gi 3 []) Z Z Z))
  refine cd Z a3 (fun a4 => ?_) (fun a6 => ?_)
  .refine rs AA <| rl Z <| AF <| AH <| AR <| AH <| A0 a4 fun be a5 => AR <| AH ?_
   cases a5
   exact er Z (Le.tup' (.cons Le.nilm (.cons Le.rfl .nil)))
  refine AE <| AD ?_
  refine CF AA BK [0, 1, 2, 3, 4, 5, 6, 7, 8, 9, 10, 11] 12 (by kernel_rfl) Z Z Z ?_
  exact Ax 10 Z <| Au Z (Ag Z (Hg (et := 96) (ke := (fun x => .agg (AL x))) (ve := (fun x => .agg (AL x))) (mp := d.2) (y := e.a) (z := e.b) B7 Z Z Z Z Z Z <| Au Z (Ag Z (Hg (et := 96) (ke := (fun x => .agg (AL x))) (ve := (fun x => .agg (AL x))) (mp := A6 e.a e.b d.2) (y := e.b) (z := e.a) B7 Z Z Z Z Z Z <| BG Z <| Ai <| AD <| rg AA <| rl Z <| As a6 (wf hA [(0, 0), (1, 1)] Z Z Z)))))
 refine AU <| AY <| CN a7 fun l a8 => Aq <| AD <| AC <| rs AA <| rn 2 Z <| sx Z (Aj Z Z <| rl Z <| AI ?_)
 apply lp (a := l) (fun f : Int => ⟨105, [(1, .lpb 0 0), (4, .lmap 1), (74, ls 3 B0 c.elems), (75, li (c.elems.length : Int)), (76, li f)], [(0, bx (Aa c)), (1, .map (Am (fun x => .agg (AL x)) (fun x => .agg (AL x)) d.2))], 2⟩) a8
 . exact wf hA [(0, 0), (1, 1)] Z Z Z
 intro f m j
 unfold DC at j
 refine rs AA <| rl Z <| AC <| cd Z j (fun u => ?_) (fun am => ?_)
 .refine AE <| AD ?_
  apply jn (a := m) (fun a9 : Unit => ⟨105, [(1, .lpb 0 0), (4, .lmap 1), (74, ls 3 B0 c.elems), (75, li (c.elems.length : Int)), (76, li f)], [(0, bx (Aa c)), (1, .map (Am (fun x => .agg (AL x)) (fun x => .agg (AL x)) d.2))], 2⟩) u
  .intro bf v
   refine AI <| rs AA <| rn 1 Z <| bq v fun bh n w => sx Z (Ap n Z Z Z <| rl Z <| AC <| rs AA <| rl Z <| cd Z w (fun aa => ?_) (fun ab => ?_))
   .exact AU <| AY <| Aq <| As aa (wf hA [(0, 0), (1, 1)] Z Z Z)
   refine AE <| AD <| rs AA <| rn 3 Z <| sx Z (Hf (et := 96) (ke := (fun x => .agg (AL x))) (ve := (fun x => .agg (AL x))) (mp := d.2) (y := (⟨f, 0⟩ : AG)) (⟨0, 0⟩ : AG) B7 Z Z Z Z <| rl Z <| jb (fun g : Bool => ⟨105, [(1, .lpb 0 0), (4, .lmap 1), (74, ls 3 B0 c.elems), (75, li (c.elems.length : Int)), (76, li f), (102, lb g)], [(0, bx (Aa c)), (1, .map (Am (fun x => .agg (AL x)) (fun x => .agg (AL x)) d.2))], 2⟩) ab (fun g ac => ?_) (fun g ag => ?_))
   .refine rg AA <| rn 3 Z <| gs 93 ac Z Z Z (fun ad => ?_) (fun ae => ?_)
    .exact rl Z <| AM ad (wf hA [(0, 0), (1, 1)] Z Z Z)
    exact rn 4 Z <| bq ae fun bi o af => sx Z (Ap o Z Z Z <| rl Z <| AM af (wf hA [(0, 0), (1, 1)] Z Z Z))
   refine cd Z ag (fun ah => ?_) (fun ak => ?_)
   .refine rs AA <| rl Z <| AF <| AR <| A0 ah fun ba ai => A0 ai fun bb aj => AR <| AH ?_
    cases aj
    exact er Z (Le.tup' (.cons Le.nilm (.cons Le.rfl .nil)))
   exact AE <| Ai <| As ak (wf hA [(0, 0), (1, 1)] Z Z Z)
  intro a9 al
  exact rg AA <| rl Z <| As al (wf hA [(0, 0), (1, 1)] Z Z Z)
 refine AU <| AY <| BR am fun bc an => Aq <| AD <| rs AA <| rl Z <| AF ?_
 cases an
 exact er (RO Z (.cons (.one (.map Z)) (.cons (.one (.p _)) .nil))) Le.rfl
noncomputable def Ct (b : AK) (c : (Int × (List (AG × Bool)))) (a : Int) : Option (Int ⊕ Bool) :=
 bif decide (a < (b.elems.length : Int)) then (Al b.elems a).bind fun e => ((bif (e.kind == 4) then some (!((Af c.2 (⟨a, 0⟩ : AG)).getD false)) else some false : Option (Bool))).bind fun (d : Bool) => bif d then some (.inr false) else some (.inl (AQ (a + 1))) else some (.inr true)
noncomputable def Dc (b : AK) (d : (List (AG × AG))) (a : Int × (List (AG × Bool))) : Option ((Int × (List (AG × Bool))) ⊕ Bool) :=
 bif decide (a.1 < (b.signals.length : Int)) then (Al b.signals a.1).bind fun c => (((Fw b c.at_).bind fun j => bif (!j) then some true else some ((Af a.2 c.at_).getD false) : Option (Bool))).bind fun (g : Bool) => bif g then some (.inr false) else (Al b.elems c.at_.elem).bind fun e => ((bif (e.kind != 1) then some (e.kind != 4) else some false : Option (Bool))).bind fun (h : Bool) => bif h then some (.inr false) else ((bif (!(Af d c.at_).isSome) then some true else (Al b.elems (((Af d c.at_).getD (⟨0, 0⟩ : AG)).elem)).bind fun i => some (i.kind == 4) : Option (Bool))).bind fun (f : Bool) => bif f then some (.inr false) else some (.inl (AQ (a.1 + 1), A6 c.at_ true a.2)) else (AO (Ct b a) 0).map .inr
noncomputable def E8 (a : AK) (b : (List (AG × AG))) : Option Bool :=
 AO (Dc a b) (0, [])
theorem Pl (b : AK) (d : (List (AG × AG))) (r : Bool) (h : E8 b d = some r) : A7 Try.prog 145 [.agg (Aa b), .map (Am (fun x => .agg (AL x)) (fun x => .agg (AL x)) d)] (· = .bool r) := by
 refine fn AA Try.func145 Z Z 88 Z [.tmp 4] Z [(0, .p (.agg (Aa b))), (1, .p (.map (Am (fun x => .agg (AL x)) (fun x => .agg (AL x)) d)))] Z Z fun A hA => ?_
 unfold E8 at h
 refine rs AA <| rl Z <| rs AA <| rl Z <| AC <| rs AA <| rn 2 Z <| sx Z (Aj Z Z <| rl Z <| AI ?_)
 apply lp (a := r) (fun c : (Int × (List (AG × Bool))) => ⟨88, [(1, .p (.map (Am (fun x => .agg (AL x)) (fun x => .agg (AL x)) d))), (2, .lpb 0 0), (5, .lmap 1), (15, ls 4 Bb b.signals), (16, li (b.signals.length : Int)), (17, li c.1)], [(0, bx (Aa b)), (1, .map (Am (fun x => .agg (AL x)) .bool c.2))], 2⟩) h
 . exact wf hA [(0, 0), (1, 1)] Z Z Z
 intro c bk m
 unfold Dc at m
 refine rs AA <| rl Z <| AC <| cd Z m (fun av => ?_) (fun ag => ?_)
 .refine AE <| AD <| AC <| AI <| rs AA <| bq av fun e s aw => sx Z (Ap s Z Z Z <| rl Z <| AC <| jb (fun j : Bool => ⟨88, [(1, .p (.map (Am (fun x => .agg (AL x)) (fun x => .agg (AL x)) d))), (2, .lpb 0 0), (5, .lmap 1), (7, .lpb 2 0), (15, ls 4 Bb b.signals), (16, li (b.signals.length : Int)), (17, li c.1), (31, lb j)], [(0, bx (Aa b)), (1, .map (Am (fun x => .agg (AL x)) .bool c.2)), (2, bx (Bb e))], 3⟩) aw (fun j ax => ?_) (fun j a1 => ?_))
  .refine rg AA <| rn 3 Z <| bq ax fun bn t ay => sx Z (AS (Kl _ _ _ t) (.inl Z) Z Z Z <| rn 2 Z <| gs 26 ay Z Z Z (fun az => ?_) (fun a0 => ?_))
   .exact rl Z <| AM az (wf hA (gi 3 []) Z Z Z)
   exact rn 3 Z <| sx Z (JK (et := 4) (ke := (fun x => .agg (AL x))) (ve := .bool) (mp := c.2) (y := e.at_) false B7 Z Z Z Z <| rl Z <| AM a0 (wf hA (gi 3 []) Z Z Z))
  refine cd Z a1 (fun a2 => ?_) (fun a4 => ?_)
  .refine rs AA <| rl Z <| AF <| AH <| AR <| AH <| A0 a2 fun bh a3 => AR <| AH ?_
   cases a3
   exact er Z Le.rfl
  refine AE <| AD <| AC <| rs AA <| rn 5 Z <| bq a4 fun bo u a5 => sx Z (Ap u Z Z Z <| rl Z <| jb (fun k : Bool => ⟨88, [(1, .p (.map (Am (fun x => .agg (AL x)) (fun x => .agg (AL x)) d))), (2, .lpb 0 0), (5, .lmap 1), (7, .lpb 2 0), (15, ls 4 Bb b.signals), (16, li (b.signals.length : Int)), (17, li c.1), (45, lb k)], [(0, bx (Aa b)), (1, .map (Am (fun x => .agg (AL x)) .bool c.2)), (2, bx (Bb e))], 3⟩) a5 (fun k a6 => ?_) (fun k a9 => ?_))
  .refine rg AA <| rn 3 Z <| gs 42 a6 Z Z Z (fun a7 => ?_) (fun a8 => ?_)
   .exact rl Z <| AM a7 (wf hA (gi 3 []) Z Z Z)
   exact rl Z <| AM a8 (wf hA (gi 3 []) Z Z Z)
  refine cd Z a9 (fun ba => ?_) (fun bc => ?_)
  .refine rs AA <| rl Z <| AF <| AH <| AR <| AH <| A0 ba fun bi bb => AR <| AH ?_
   cases bb
   exact er Z Le.rfl
  refine AE <| AD <| rs AA <| rn 3 Z <| sx Z (Hf (et := 96) (ke := (fun x => .agg (AL x))) (ve := (fun x => .agg (AL x))) (mp := d) (y := e.at_) (⟨0, 0⟩ : AG) B7 Z Z Z Z <| rl Z <| AC <| jb (fun g : Bool => ⟨88, [(1, .p (.map (Am (fun x => .agg (AL x)) (fun x => .agg (AL x)) d))), (2, .lpb 0 0), (5, .lmap 1), (7, .lpb 2 0), (15, ls 4 Bb b.signals), (16, li (b.signals.length : Int)), (17, li c.1), (64, lb g)], [(0, bx (Aa b)), (1, .map (Am (fun x => .agg (AL x)) .bool c.2)), (2, bx (Bb e))], 3⟩) bc (fun g v => ?_) (fun g ac => ?_))
  .refine rg AA <| rn 3 Z <| gs 55 v Z Z Z (fun w => ?_) (fun aa => ?_)
   .exact rl Z <| AM w (wf hA (gi 3 []) Z Z Z)
   exact rn 4 Z <| bq aa fun bl o ab => sx Z (Ap o Z Z Z <| rl Z <| AM ab (wf hA (gi 3 []) Z Z Z))
  refine cd Z ac (fun ad => ?_) (fun af => ?_)
  .refine rs AA <| rl Z <| AF <| AH <| AR <| AH <| A0 ad fun be ae => AR <| AH ?_
   cases ae
   exact er Z Le.rfl
  exact AE <| AD <| rg AA <| rn 3 Z <| sx Z (Hg (et := 4) (ke := (fun x => .agg (AL x))) (ve := .bool) (mp := c.2) (y := e.at_) (z := true) B7 Z Z Z Z Z Z <| rl Z <| Ai <| AD <| rg AA <| rl Z <| As af (wf hA [(0, 0), (1, 1)] Z Z Z))
 refine AU <| AY <| CN ag fun n ah => Aq <| AD <| AC <| rs AA <| rn 2 Z <| sx Z (Aj Z Z <| rl Z <| AI ?_)
 apply lp (a := n) (fun f : Int => ⟨88, [(5, .lmap 0), (70, ls 3 B0 b.elems), (71, li (b.elems.length : Int)), (72, li f)], [(0, .map (Am (fun x => .agg (AL x)) .bool c.2))], 1⟩) ah
 . exact wf hA [(0, 1)] Z Z Z
 intro f bj l
 unfold Ct at l
 refine rs AA <| rl Z <| AC <| cd Z l (fun ai => ?_) (fun ar => ?_)
 .refine AE <| AD <| AC <| AI <| rs AA <| rn 1 Z <| bq ai fun bm q aj => sx Z (Ap q Z Z Z <| rl Z <| jb (fun i : Bool => ⟨88, [(5, .lmap 0), (70, ls 3 B0 b.elems), (71, li (b.elems.length : Int)), (72, li f), (86, lb i)], [(0, .map (Am (fun x => .agg (AL x)) .bool c.2))], 1⟩) aj (fun i ak => ?_) (fun i an => ?_))
  .refine rg AA <| rn 4 Z <| gs 80 ak Z Z Z (fun al => ?_) (fun am => ?_)
   .exact rn 3 Z <| sx Z (JK (et := 4) (ke := (fun x => .agg (AL x))) (ve := .bool) (mp := c.2) (y := (⟨f, 0⟩ : AG)) false B7 Z Z Z Z <| rl Z <| AM al (wf hA [(0, 0)] Z Z Z))
   exact rl Z <| AM am (wf hA [(0, 0)] Z Z Z)
  refine cd Z an (fun ao => ?_) (fun aq => ?_)
  .refine rs AA <| rl Z <| AF <| AR <| AH <| A0 ao fun bf ap => AR <| AH ?_
   cases ap
   exact er Z Le.rfl
  exact AE <| Ai <| AD <| rg AA <| rl Z <| As aq (wf hA [(0, 0)] Z Z Z)
 refine AU <| AY <| BR ar fun bg au => Aq <| AD <| rs AA <| rl Z <| AF ?_
 cases au
 exact er Z Le.rfl
noncomputable def EI (b : (List Int)) (c : (List (AG × AG))) (a : Int × Int) : Option ((Int × Int) ⊕ Bool) :=
 bif decide (a.2 < (b.length : Int)) then (Al b (AQ (a.2 - 1))).bind fun d => ((bif (!(Af c (⟨d, a.1⟩ : AG)).isSome) then some true else (Al b a.2).bind fun f => some ((((Af c (⟨d, a.1⟩ : AG)).getD (⟨0, 0⟩ : AG)).elem) != f) : Option (Bool))).bind fun (e : Bool) => bif e then some (.inr false) else some (.inl (AQ (1 - (((Af c (⟨d, a.1⟩ : AG)).getD (⟨0, 0⟩ : AG)).fin)), AQ (a.2 + 1))) else some (.inr true)
noncomputable def DY (b : (List Int)) (c : (List (AG × AG))) (a : Int × Int) : Option ((Int × Int) ⊕ Bool) :=
 bif decide (0 <= a.2) then (((Al b 0).bind fun d => ((bif (Af c (⟨d, a.2⟩ : AG)).isSome then (Al b 1).bind fun g => some ((((Af c (⟨d, a.2⟩ : AG)).getD (⟨0, 0⟩ : AG)).elem) == g) else some false : Option (Bool))).bind fun (f : Bool) => bif f then some a.2 else some a.1 : Option (Int))).bind fun (e : Int) => some (.inl (e, AQ (a.2 - 1))) else (bif decide (a.1 < 0) then some false else AO (EI b c) (a.1, 1)).map .inr
noncomputable def Ht (a : (List Int)) (b : (List (AG × AG))) : Option Bool :=
 bif decide ((a.length : Int) < 2) then some true else AO (DY a b) ((-1), 1)
theorem Tn (c : (List Int)) (b : (List (AG × AG))) (r : Bool) (h : Ht c b = some r) : A7 Try.prog 177 [.slice 1 (c.map Ah), .map (Am (fun x => .agg (AL x)) (fun x => .agg (AL x)) b)] (· = .bool r) := by
 refine fn AA Try.func177 Z Z 73 Z [.tmp 4] Z [(0, .p (.slice 1 (c.map Ah))), (1, .p (.map (Am (fun x => .agg (AL x)) (fun x => .agg (AL x)) b)))] Z Z fun A hA => ?_
 unfold Ht at h
 refine rs AA <| rl Z <| AC <| rs AA <| rn 1 Z <| sx Z (Aj Z Z <| rl Z <| cd Z h (fun ak => ?_) (fun al => ?_))
 .refine rs AA <| rl Z <| AF <| AH ?_
  cases ak
  exact er Z Le.rfl
 refine AE <| AD <| rs AA <| rl Z <| AC <| rs AA <| rl Z <| AI ?_
 apply lp (a := r) (fun d : (Int × Int) => ⟨73, [(0, ls 1 Ah c), (1, .p (.map (Am (fun x => .agg (AL x)) (fun x => .agg (AL x)) b))), (5, li d.1), (6, li d.2)], [], 0⟩) al
 . exact wf hA [] Z Z Z
 intro d a3 k
 unfold DY at k
 refine AC <| rs AA <| rl Z <| cd Z k (fun t => ?_) (fun ag => ?_)
 .refine AE <| AD <| jb (fun f : Int => ⟨73, [(0, ls 1 Ah c), (1, .p (.map (Am (fun x => .agg (AL x)) (fun x => .agg (AL x)) b))), (5, li f), (6, li d.2)], [], 0⟩) t (fun f u => ?_) (fun f af => ?_)
  .refine AI <| rs AA <| rn 2 Z <| bq u fun a0 n v => sx Z (Ap n Z Z Z <| rn 3 Z <| sx Z (Hf (et := 96) (ke := (fun x => .agg (AL x))) (ve := (fun x => .agg (AL x))) (mp := b) (y := (⟨a0, d.2⟩ : AG)) (⟨0, 0⟩ : AG) B7 Z Z Z Z <| rl Z <| jb (fun g : Bool => ⟨73, [(0, ls 1 Ah c), (1, .p (.map (Am (fun x => .agg (AL x)) (fun x => .agg (AL x)) b))), (5, li d.1), (6, li d.2), (37, lb g)], [], 0⟩) v (fun g w => ?_) (fun g ac => ?_)))
   .refine CF AA BK [0, 1, 2, 3, 4, 5, 6, 7, 8] 9 (by kernel_rfl) Z Z Z ?_
    refine Ax 2 Z <| HI 30 w Z Z Z (fun z => ?_) (fun ab => ?_)
    .exact Ax 3 Z <| bq z fun a5 o aa => Au Z (Ag Z (Ap o Z Z Z <| BG Z <| AM aa (wf hA [] Z Z Z)))
    exact BG Z <| AM ab (wf hA [] Z Z Z)
   refine cd Z ac (fun ad => ?_) (fun ae => ?_)
   .exact rg AA <| rl Z <| Ai <| AM ad (wf hA [] Z Z Z)
   exact AE <| Ai <| AM ae (wf hA [] Z Z Z)
  exact rg AA <| rl Z <| As af (wf hA [] Z Z Z)
 refine AU <| AY <| CN ag fun m ah => Aq <| AD <| AC <| rs AA <| rl Z <| cd Z ah (fun ai => ?_) (fun aj => ?_)
 .refine rs AA <| rl Z <| AF <| AH ?_
  cases ai
  exact er Z Le.rfl
 refine AE <| AD <| AC <| rs AA <| rl Z <| AI ?_
 apply lp (a := m) (fun e : (Int × Int) => ⟨73, [(0, ls 1 Ah c), (1, .p (.map (Am (fun x => .agg (AL x)) (fun x => .agg (AL x)) b))), (5, li e.1), (9, li e.2)], [], 0⟩) aj
 . exact wf hA [] Z Z Z
 intro e a4 l
 unfold EI at l
 refine AC <| rs AA <| rn 2 Z <| sx Z (Aj Z Z <| rl Z <| cd Z l (fun am => ?_) (fun ay => ?_))
 .refine AE <| AD <| AC <| AI <| rs AA <| rn 4 Z <| bq am fun j q an => sx Z (Ap q Z Z Z <| rn 3 Z <| sx Z (Hf (et := 96) (ke := (fun x => .agg (AL x))) (ve := (fun x => .agg (AL x))) (mp := b) (y := (⟨j, e.1⟩ : AG)) (⟨0, 0⟩ : AG) B7 Z Z Z Z <| rl Z <| AC <| jb (fun i : Bool => ⟨73, [(0, ls 1 Ah c), (1, .p (.map (Am (fun x => .agg (AL x)) (fun x => .agg (AL x)) b))), (9, li e.2), (10, .lpb 0 0), (69, lb i)], [(0, .box [li (((Af b (⟨j, e.1⟩ : AG)).getD (⟨0, 0⟩ : AG)).elem), li (((Af b (⟨j, e.1⟩ : AG)).getD (⟨0, 0⟩ : AG)).fin)])], 1⟩) an (fun i ao => ?_) (fun i au => ?_)))
  .refine CF AA BK [0, 1, 2, 3, 4, 5, 6, 7, 8, 9, 10] 11 (by kernel_rfl) Z Z Z ?_
   refine Ax 3 Z <| HI 61 ao Z Z Z (fun ap => ?_) (fun aq => ?_)
   .exact BG Z <| AM ap (wf hA [(0, 0)] Z Z Z)
   exact Ax 4 Z <| bq aq fun a6 s ar => Au Z (Ag Z (Ap s Z Z Z <| BG Z <| AM ar (wf hA [(0, 0)] Z Z Z)))
  refine cd Z au (fun av => ?_) (fun ax => ?_)
  .refine rs AA <| rl Z <| AF <| AH <| AR <| AH <| A0 av fun a1 aw => AR <| AH ?_
   cases aw
   exact er Z Le.rfl
  exact AE <| AD <| rg AA <| rl Z <| Ai <| AD <| rg AA <| rl Z <| As ax (wf hA [] Z Z Z)
 refine AU <| AY <| BR ay fun a2 az => Aq <| AD <| rs AA <| rl Z <| AF ?_
 cases az
 exact er Z Le.rfl
noncomputable def EV (d : AK) (g : (List (AG × AG))) (e : (Int × (List (Int × Bool)))) (c : Ee) (a : Int × (List (Int × Bool))) : Option ((Int × (List (Int × Bool))) ⊕ ((Int × (List (Int × Bool))) ⊕ Bool)) :=
 bif decide (a.1 < (c.elems.length : Int)) then (Al c.elems a.1).bind fun b => ((bif decide (b < 0) then some true else bif decide ((d.elems.length : Int) <= b) then some true else (Al d.elems b).bind fun h => bif (h.kind != 1) then some true else some ((Af a.2 b).getD false) : Option (Bool))).bind fun (f : Bool) => bif f then some (.inr (.inr false)) else some (.inl (AQ (a.1 + 1), A6 b true a.2)) else ((Ht c.elems g).bind fun i => bif (!i) then some (.inr false) else some (.inl (AQ (e.1 + 1), a.2))).map .inr
noncomputable def EW (b : AK) (d : (List (AG × AG))) (a : Int × (List (Int × Bool))) : Option ((Int × (List (Int × Bool))) ⊕ Bool) :=
 bif decide (a.1 < (b.lines.length : Int)) then (Al b.lines a.1).bind fun c => bif ((c.elems.length : Int) == 0) then some (.inr false) else AO (EV b d a c) (0, a.2) else some (.inr true)
noncomputable def GQ (a : AK) (b : (List (AG × AG))) : Option Bool :=
 AO (EW a b) (0, [])
theorem Rc (b : AK) (e : (List (AG × AG))) (r : Bool) (h : GQ b e = some r) : A7 Try.prog 146 [.agg (Aa b), .map (Am (fun x => .agg (AL x)) (fun x => .agg (AL x)) e)] (· = .bool r) := by
 refine fn AA Try.func146 Z Z 61 Z [.tmp 4] Z [(0, .p (.agg (Aa b))), (1, .p (.map (Am (fun x => .agg (AL x)) (fun x => .agg (AL x)) e)))] Z Z fun A hA => ?_
 unfold GQ at h
 refine rs AA <| rl Z <| rs AA <| rl Z <| AC <| rs AA <| rn 2 Z <| sx Z (Aj Z Z <| rl Z <| AI ?_)
 apply lp (a := r) (fun f : (Int × (List (Int × Bool))) => ⟨61, [(1, .p (.map (Am (fun x => .agg (AL x)) (fun x => .agg (AL x)) e))), (2, .lpb 0 0), (5, .lmap 1), (12, ls 2 CH b.lines), (13, li (b.lines.length : Int)), (14, li f.1)], [(0, bx (Aa b)), (1, .map (Am (.int .i64) .bool f.2))], 2⟩) h
 . exact wf hA [(0, 0), (1, 1)] Z Z Z
 intro f l j
 unfold EW at j
 refine rs AA <| rl Z <| AC <| cd Z j (fun s => ?_) (fun ax => ?_)
 .refine AE <| AD <| AC <| AI <| rs AA <| bq s fun c m t => sx Z (Ap m Z Z Z <| rl Z <| AC <| rs AA <| rn 2 Z <| sx Z (Aj Z Z <| rl Z <| cd Z t (fun u => ?_) (fun w => ?_)))
  .refine rs AA <| rl Z <| AF <| AH <| AR <| AH <| A0 u fun az v => AR <| AH ?_
   cases v
   exact er Z Le.rfl
  refine AE <| AD <| AC <| rs AA <| rn 2 Z <| sx Z (Aj Z Z <| rl Z <| AI ?_)
  apply lp (a := l) (fun d : (Int × (List (Int × Bool))) => ⟨61, [(1, .p (.map (Am (fun x => .agg (AL x)) (fun x => .agg (AL x)) e))), (2, .lpb 0 0), (5, .lmap 1), (7, .lpb 2 0), (12, ls 2 CH b.lines), (13, li (b.lines.length : Int)), (14, li f.1), (23, ls 1 Ah c.elems), (24, li (c.elems.length : Int)), (25, li d.1)], [(0, bx (Aa b)), (1, .map (Am (.int .i64) .bool d.2)), (2, .box [.p (.str c.name), ls 1 Ah c.elems])], 3⟩) w
  . exact wf hA (gi 3 []) Z Z Z
  intro d a5 k
  unfold EV at k
  refine rs AA <| rl Z <| AC <| cd Z k (fun aa => ?_) (fun ap => ?_)
  .refine AE <| AD <| AC <| AI <| rs AA <| bq aa fun i n ab => sx Z (Ap n Z Z Z <| rl Z <| AC <| jb (fun g : Bool => ⟨61, [(1, .p (.map (Am (fun x => .agg (AL x)) (fun x => .agg (AL x)) e))), (2, .lpb 0 0), (5, .lmap 1), (7, .lpb 2 0), (9, li i), (12, ls 2 CH b.lines), (13, li (b.lines.length : Int)), (14, li f.1), (23, ls 1 Ah c.elems), (24, li (c.elems.length : Int)), (25, li d.1), (51, lb g)], [(0, bx (Aa b)), (1, .map (Am (.int .i64) .bool d.2)), (2, .box [.p (.str c.name), ls 1 Ah c.elems])], 3⟩) ab (fun g ac => ?_) (fun g ak => ?_))
   .refine rg AA <| rn 3 Z <| gs 31 ac Z Z Z (fun ad => ?_) (fun ae => ?_)
    .exact rl Z <| AM ad (wf hA (gi 3 []) Z Z Z)
    refine rn 3 Z <| sx Z (Aj Z Z <| rn 3 Z <| gs 38 ae Z Z Z (fun af => ?_) (fun ag => ?_))
    .exact rl Z <| AM af (wf hA (gi 3 []) Z Z Z)
    refine rn 3 Z <| bq ag fun a6 o ah => sx Z (Ap o Z Z Z <| rn 5 Z <| gs 47 ah Z Z Z (fun ai => ?_) (fun aj => ?_))
    .exact rl Z <| AM ai (wf hA (gi 3 []) Z Z Z)
    exact rn 2 Z <| sx Z (JK (et := 4) (ke := (.int .i64)) (ve := .bool) (mp := d.2) (y := i) false Jt Z Z Z Z <| rl Z <| AM aj (wf hA (gi 3 []) Z Z Z))
   refine cd Z ak (fun al => ?_) (fun ao => ?_)
   .refine rs AA <| rl Z <| AF <| AH <| AR <| AH <| A0 al fun a0 am => AR <| AH <| AR <| AH <| A0 am fun a1 an => AR <| AH ?_
    cases an
    exact er Z Le.rfl
   exact AE <| AD <| rg AA <| rn 2 Z <| sx Z (Hg (et := 4) (ke := (.int .i64)) (ve := .bool) (mp := d.2) (y := i) (z := true) Jt Z Z Z Z Z Z <| rl Z <| Ai <| AD <| rg AA <| rl Z <| As ao (wf hA (gi 3 []) Z Z Z))
  refine AU <| AY <| CN ap fun a2 aq => Aq <| AD <| rs AA <| rn 3 Z <| bq aq fun a7 q ar => sx Z (AS (Tn _ _ _ q) (.inl Z) Z Z Z <| rl Z <| cd Z ar (fun au => ?_) (fun aw => ?_))
  .refine rs AA <| rl Z <| AF <| AR <| AH <| A0 au fun a3 av => AR <| AH ?_
   cases av
   exact er Z Le.rfl
  exact AE <| Ai <| AD <| rg AA <| rl Z <| As aw (wf hA [(0, 0), (1, 1)] Z Z Z)
 refine AU <| AY <| BR ax fun a4 ay => Aq <| AD <| rs AA <| rl Z <| AF ?_
 cases ay
 exact er Z Le.rfl
end Go.E
/- Plain functions, and walks in step with them. Written by a program (gen.py). No condition. -/
set_option maxRecDepth 100000
namespace Go.E
open Go Go.RowKit Go.Proofs
noncomputable def LI (b : Int) (a : Int × Int) : Option ((Int × Int) ⊕ Int) :=
 bif decide (0 < a.1) then some (.inl (AQ (a.1 - b), AQ (a.2 + a.1))) else some (.inr a.2)
noncomputable def Ia (b : Int) (a : Int) : Option Int :=
 ((bif decide (b < 0) then some true else bif decide (60 < b) then some true else bif decide (a < 1) then some true else some (decide (10 < a)) : Option (Bool))).bind fun (c : Bool) => bif c then some 0 else AO (LI a) (AQ (b - a), 0)
theorem SN (c : Int) (b : Int) (r : Int) (h : Ia c b = some r) : A7 Try.prog 178 [.int .i64 c, .int .i64 b] (· = .int .i64 r) := by
 refine fn AA Try.func178 Z Z 32 Z [.tmp 4] Z [(0, .p (.int .i64 c)), (1, .p (.int .i64 b))] Z Z fun A hA => ?_
 unfold Ia at h
 refine rs AA <| rl Z <| AC <| jb (fun e : Bool => ⟨32, [(0, li c), (1, li b), (19, lb e)], [], 0⟩) h (fun e g => ?_) (fun e o => ?_)
 .refine rg AA <| rn 3 Z <| gs 8 g Z Z Z (fun i => ?_) (fun j => ?_)
  .exact rl Z <| AM i (wf hA [] Z Z Z)
  refine rn 4 Z <| gs 12 j Z Z Z (fun k => ?_) (fun l => ?_)
  .exact rl Z <| AM k (wf hA [] Z Z Z)
  refine rn 4 Z <| gs 16 l Z Z Z (fun m => ?_) (fun n => ?_)
  .exact rl Z <| AM m (wf hA [] Z Z Z)
  exact rl Z <| AM n (wf hA [] Z Z Z)
 refine cd Z o (fun q => ?_) (fun s => ?_)
 .refine rs AA <| rl Z <| AF <| AH ?_
  cases q
  exact er Z Le.rfl
 refine AE <| AD <| rs AA <| rl Z <| AC <| rs AA <| rl Z <| AI ?_
 apply lp (a := r) (fun d : (Int × Int) => ⟨32, [(0, li d.1), (1, li b), (5, li d.2)], [], 0⟩) s
 . exact wf hA [] Z Z Z
 intro d x f
 unfold LI at f
 refine AC <| rs AA <| rl Z <| cd Z f (fun t => ?_) (fun u => ?_)
 .exact AE <| AD <| AC <| AI <| rg AA <| rl Z <| Ai <| AD <| rg AA <| rl Z <| As t (wf hA [] Z Z Z)
 refine AU <| AY <| BR u fun w v => Aq <| AD <| rs AA <| rl Z <| AF ?_
 cases v
 exact er Z Le.rfl
noncomputable def Dr (b : AK) (a : Int) : Option (Int ⊕ Bool) :=
 bif decide (a < (b.elems.length : Int)) then (Al b.elems a).bind fun c => ((bif (c.kind != 4) then some (decide (c.length < b.top)) else some false : Option (Bool))).bind fun (d : Bool) => bif d then some (.inr false) else some (.inl (AQ (a + 1))) else some (.inr true)
noncomputable def E9 (a : AK) (b : Int) : Option (Int ⊕ Bool) :=
 bif decide (b < (a.signals.length : Int)) then (Al a.signals b).bind fun e => (Al a.elems e.at_.elem).bind fun c => ((bif (c.kind == 1) then some (decide (c.length < a.margin)) else some false : Option (Bool))).bind fun (d : Bool) => bif d then some (.inr false) else some (.inl (AQ (b + 1))) else (AO (Dr a) 0).map .inr
noncomputable def G3 (a : AK) : Option Bool :=
 (Ia a.top a.brake).bind fun b => bif decide (a.margin < AQ (a.top + b)) then some false else AO (E9 a) 0
theorem SO (b : AK) (r : Bool) (h : G3 b = some r) : A7 Try.prog 147 [.agg (Aa b)] (· = .bool r) := by
 refine fn AA Try.func147 Z Z 62 Z [.tmp 2] Z [(0, .p (.agg (Aa b)))] Z Z fun A hA => ?_
 unfold G3 at h
 refine rs AA <| rl Z <| AC <| AC ?_
 refine CF AA BK [0, 1, 2, 3, 4, 5, 6, 7, 8, 9, 10] 11 (by kernel_rfl) Z Z Z ?_
 refine Ax 8 Z <| bq h fun a0 n o => Au Z (Bq (SN _ _ _ n) (.inl Z) Z Z Z <| BG Z <| AD <| cd Z o (fun q => ?_) (fun s => ?_))
 .refine rs AA <| rl Z <| AF <| AH ?_
  cases q
  exact er Z Le.rfl
 refine AE <| AD <| AC <| rs AA <| rn 2 Z <| sx Z (Aj Z Z <| rl Z <| AI ?_)
 apply lp (a := r) (fun c : Int => ⟨62, [(1, .lpb 0 0), (20, ls 4 Bb b.signals), (21, li (b.signals.length : Int)), (22, li c)], [(0, bx (Aa b))], 1⟩) s
 . exact wf hA [(0, 0)] Z Z Z
 intro c av g
 unfold E9 at g
 refine rs AA <| rl Z <| AC <| cd Z g (fun t => ?_) (fun ad => ?_)
 .refine AE <| AD <| AC <| AI <| rs AA <| bq t fun ax k u => sx Z (Ap k Z Z Z <| rl Z <| rs AA <| rn 5 Z <| bq u fun ay l v => sx Z (Ap l Z Z Z <| rl Z <| jb (fun e : Bool => ⟨62, [(1, .lpb 0 0), (20, ls 4 Bb b.signals), (21, li (b.signals.length : Int)), (22, li c), (42, lb e)], [(0, bx (Aa b))], 1⟩) v (fun e w => ?_) (fun e z => ?_)))
  .refine rg AA <| rn 4 Z <| gs 36 w Z Z Z (fun x => ?_) (fun y => ?_)
   .exact rl Z <| AM x (wf hA [(0, 0)] Z Z Z)
   exact rl Z <| AM y (wf hA [(0, 0)] Z Z Z)
  refine cd Z z (fun aa => ?_) (fun ac => ?_)
  .refine rs AA <| rl Z <| AF <| AR <| AH <| A0 aa fun aq ab => AR <| AH ?_
   cases ab
   exact er Z Le.rfl
  exact AE <| Ai <| AD <| rg AA <| rl Z <| As ac (wf hA [(0, 0)] Z Z Z)
 refine AU <| AY <| CN ad fun j ae => Aq <| AD <| AC <| rs AA <| rn 2 Z <| sx Z (Aj Z Z <| rl Z <| AI ?_)
 apply lp (a := j) (fun d : Int => ⟨62, [(1, .lpb 0 0), (45, ls 3 B0 b.elems), (46, li (b.elems.length : Int)), (47, li d)], [(0, bx (Aa b))], 1⟩) ae
 . exact wf hA [(0, 0)] Z Z Z
 intro d aw i
 unfold Dr at i
 refine rs AA <| rl Z <| AC <| cd Z i (fun af => ?_) (fun ao => ?_)
 .refine AE <| AD <| AC <| AI <| rs AA <| bq af fun az m ag => sx Z (Ap m Z Z Z <| rl Z <| jb (fun f : Bool => ⟨62, [(1, .lpb 0 0), (45, ls 3 B0 b.elems), (46, li (b.elems.length : Int)), (47, li d), (60, lb f)], [(0, bx (Aa b))], 1⟩) ag (fun f ah => ?_) (fun f ak => ?_))
  .refine rg AA <| rn 4 Z <| gs 54 ah Z Z Z (fun ai => ?_) (fun aj => ?_)
   .exact rl Z <| AM ai (wf hA [(0, 0)] Z Z Z)
   exact rl Z <| AM aj (wf hA [(0, 0)] Z Z Z)
  refine cd Z ak (fun al => ?_) (fun an => ?_)
  .refine rs AA <| rl Z <| AF <| AR <| AH <| A0 al fun ar am => AR <| AH ?_
   cases am
   exact er Z Le.rfl
  exact AE <| Ai <| AD <| rg AA <| rl Z <| As an (wf hA [(0, 0)] Z Z Z)
 refine AU <| AY <| BR ao fun au ap => Aq <| AD <| rs AA <| rl Z <| AF ?_
 cases ap
 exact er Z Le.rfl
noncomputable def DS (b : AK) (a : Int × (List (ByteArray × Bool))) : Option ((Int × (List (ByteArray × Bool))) ⊕ Bool) :=
 bif decide (a.1 < (b.elems.length : Int)) then (E5 a.1 b).bind fun c => bif ((Af a.2 c).getD false) then some (.inr true) else (E5 a.1 b).bind fun d => some (.inl (AQ (a.1 + 1), A6 d true a.2)) else some (.inr false)
noncomputable def DT (b : AK) (a : Int × (List (ByteArray × Bool))) : Option ((Int × (List (ByteArray × Bool))) ⊕ Bool) :=
 bif decide (a.1 < (b.signals.length : Int)) then (E6 a.1 b).bind fun c => bif ((Af a.2 c).getD false) then some (.inr true) else (E6 a.1 b).bind fun d => some (.inl (AQ (a.1 + 1), A6 d true a.2)) else some (.inr false)
noncomputable def DU (b : AK) (a : Int × (List (ByteArray × Bool))) : Option ((Int × (List (ByteArray × Bool))) ⊕ Bool) :=
 bif decide (a.1 < (b.lines.length : Int)) then (E7 a.1 b).bind fun c => bif ((Af a.2 c).getD false) then some (.inr true) else (E7 a.1 b).bind fun d => some (.inl (AQ (a.1 + 1), A6 d true a.2)) else some (.inr false)
noncomputable def GR (a : AK) : Option Int :=
 ((bif decide (40 < (a.elems.length : Int)) then some true else bif decide (24 < (a.signals.length : Int)) then some true else bif decide (4 < (a.lines.length : Int)) then some true else some (decide (80 < (a.joins.length : Int))) : Option (Bool))).bind fun (c : Bool) => bif c then some 3 else (E4 a).bind fun h => bif (!h) then some 1 else ((((AO (DS a) (0, []) : Option (Bool))).bind fun (e : Bool) => bif e then some true else ((AO (DT a) (0, []) : Option (Bool))).bind fun (f : Bool) => bif f then some true else ((AO (DU a) (0, []) : Option (Bool))).bind fun (g : Bool) => some g : Option (Bool))).bind fun (d : Bool) => bif d then some 4 else (Fm a).bind fun b => bif (!b.2) then some 6 else (E8 a b.1).bind fun i => bif (!i) then some 7 else (GQ a b.1).bind fun j => bif (!j) then some 8 else (G3 a).bind fun k => bif (!k) then some 9 else some 0
theorem Rd (b : AK) (r : Int) (h : GR b = some r) : A7 Try.prog 98 [.agg (Aa b)] (· = .int .i64 r) := by
 refine fn AA Try.func98 Z Z 71 Z [.tmp 2] Z [(0, .p (.agg (Aa b)))] Z Z fun A hA => ?_
 unfold GR at h
 refine rs AA <| rl Z <| AC <| jb (fun j : Bool => ⟨71, [(1, .lpb 0 0), (26, lb j)], [(0, bx (Aa b))], 1⟩) h (fun j ad => ?_) (fun j ak => ?_)
 .refine rg AA <| rn 2 Z <| sx Z (Aj Z Z <| rn 2 Z <| gs 9 ad Z Z Z (fun ae => ?_) (fun af => ?_))
  .exact rl Z <| AM ae (wf hA [(0, 0)] Z Z Z)
  refine rn 2 Z <| sx Z (Aj Z Z <| rn 3 Z <| gs 15 af Z Z Z (fun ag => ?_) (fun ah => ?_))
  .exact rl Z <| AM ag (wf hA [(0, 0)] Z Z Z)
  refine rn 2 Z <| sx Z (Aj Z Z <| rn 3 Z <| gs 21 ah Z Z Z (fun ai => ?_) (fun aj => ?_))
  .exact rl Z <| AM ai (wf hA [(0, 0)] Z Z Z)
  exact rn 2 Z <| sx Z (Aj Z Z <| rl Z <| AM aj (wf hA [(0, 0)] Z Z Z))
 refine cd Z ak (fun al => ?_) (fun am => ?_)
 .refine rs AA <| rl Z <| AF <| AH ?_
  cases al
  exact er Z Le.rfl
 refine AE <| AD <| AC <| rs AA <| rn 1 Z <| bq am fun cq s a2 => sx Z (AS (Pk _ _ s) (.inl Z) Z Z Z <| rl Z <| cd Z a2 (fun a4 => ?_) (fun a6 => ?_))
 .refine rs AA <| rl Z <| AF <| AH ?_
  cases a4
  exact er Z Le.rfl
 refine AE <| AD <| AC <| jb (fun k : Bool => ⟨71, [(1, .lpb 0 0), (48, lb k)], [(0, bx (Aa b))], 1⟩) a6 (fun k an => ?_) (fun k bt => ?_)
 .refine rg AA <| rn 2 Z <| sx Z (Aj Z Z <| rn 1 Z <| sx Z (C1 AA (fun f : Bool => lb f) (fun f : Bool => [(0, bx (Aa b))]) 1 an Try.func140 22 [.tmp 4] [(0, li (b.elems.length : Int)), (1, .fn 141 [.lpb 0 0])] Z Z Z Z Z Z Z Z (fun A hA f ao => ?_) (fun f az => ?_)))
  .refine rs AA <| rl Z <| rs AA <| rl Z <| AC <| rs AA <| rl Z <| AI ?_
   apply lp (a := f) (fun c : (Int × (List (ByteArray × Bool))) => ⟨22, [(1, .fn 141 [.lpb 0 0]), (5, .lmap 1), (8, li (b.elems.length : Int)), (9, li c.1)], [(0, bx (Aa b)), (1, .map (Am .str .bool c.2))], 2⟩) ao
   . exact wj hA [(0, 0), (1, 1)] Z Z Z Z
   intro c cn l
   unfold DS at l
   refine rs AA <| rl Z <| AC <| cd Z l (fun ap => ?_) (fun ax => ?_)
   .refine AE <| AD <| AC <| AI <| rs AA <| rl Z <| AC <| rs AA <| rn 3 Z <| bq ap fun ca o aq => sx Z (AS (LF _ _ _ o) (.inl Z) Z Z (DP.eq (.cons (.one (.p _)) (.cons (.box Z (.cons (.p _) (.cons (.p _) (.cons (.p _) (.cons (.p _) (.cons (.p _) (.cons (.p _) (.cons (.p _) (.cons (.p _) (.cons (.p _) .nil)))))))))) .nil))) <| sx Z (JK (et := 4) (ke := .str) (ve := .bool) (mp := c.2) (y := ca) false LJ Z Z Z Z <| rl Z <| cd Z aq (fun ar => ?_) (fun av => ?_)))
    .refine rs AA <| rl Z <| AF <| AH <| AR <| AH <| A0 ar fun ch au => AR <| AH ?_
     cases au
     exact Cl (nt := 22) (sl := [(4, lb true)]) (wj hA [(0, 0)] Z Z Z Z) Z
    exact AE <| AD <| rg AA <| rn 3 Z <| bq av fun cb q aw => sx Z (AS (LF _ _ _ q) (.inl Z) Z Z (DP.eq (.cons (.one (.p _)) (.cons (.box Z (.cons (.p _) (.cons (.p _) (.cons (.p _) (.cons (.p _) (.cons (.p _) (.cons (.p _) (.cons (.p _) (.cons (.p _) (.cons (.p _) .nil)))))))))) .nil))) <| sx Z (Hg (et := 4) (ke := .str) (ve := .bool) (mp := c.2) (y := cb) (z := true) LJ Z Z Z Z Z Z <| rl Z <| Ai <| AD <| rg AA <| rl Z <| As aw (wj hA [(0, 0), (1, 1)] Z Z Z Z)))
   refine AU <| AY <| BR ax fun ci ay => Aq <| AD <| rs AA <| rl Z <| AF ?_
   cases ay
   exact Cl (nt := 22) (sl := [(4, lb false)]) (wj hA [(0, 0)] Z Z Z Z) Z
  refine rn 1 Z <| gs 35 az Z Z Z (fun a0 => ?_) (fun a1 => ?_)
  .exact rl Z <| AM a0 (wf hA [(0, 0)] Z Z Z)
  refine rn 2 Z <| sx Z (Aj Z Z <| rn 1 Z <| sx Z (C1 AA (fun g : Bool => lb g) (fun g : Bool => [(0, bx (Aa b))]) 1 a1 Try.func140 22 [.tmp 4] [(0, li (b.signals.length : Int)), (1, .fn 142 [.lpb 0 0])] Z Z Z Z Z Z Z Z (fun A hA g a3 => ?_) (fun g bf => ?_)))
  .refine rs AA <| rl Z <| rs AA <| rl Z <| AC <| rs AA <| rl Z <| AI ?_
   apply lp (a := g) (fun d : (Int × (List (ByteArray × Bool))) => ⟨22, [(1, .fn 142 [.lpb 0 0]), (5, .lmap 1), (8, li (b.signals.length : Int)), (9, li d.1)], [(0, bx (Aa b)), (1, .map (Am .str .bool d.2))], 2⟩) a3
   . exact wj hA [(0, 0), (1, 1)] Z Z Z Z
   intro d co m
   unfold DT at m
   refine rs AA <| rl Z <| AC <| cd Z m (fun a5 => ?_) (fun bc => ?_)
   .refine AE <| AD <| AC <| AI <| rs AA <| rl Z <| AC <| rs AA <| rn 3 Z <| bq a5 fun cc t a7 => sx Z (AS (LG _ _ _ t) (.inl Z) Z Z (DP.eq (.cons (.one (.p _)) (.cons (.box Z (.cons (.p _) (.cons (.p _) (.cons (.p _) (.cons (.p _) (.cons (.p _) (.cons (.p _) (.cons (.p _) (.cons (.p _) (.cons (.p _) .nil)))))))))) .nil))) <| sx Z (JK (et := 4) (ke := .str) (ve := .bool) (mp := d.2) (y := cc) false LJ Z Z Z Z <| rl Z <| cd Z a7 (fun a8 => ?_) (fun ba => ?_)))
    .refine rs AA <| rl Z <| AF <| AH <| AR <| AH <| A0 a8 fun cj a9 => AR <| AH ?_
     cases a9
     exact Cl (nt := 22) (sl := [(4, lb true)]) (wj hA [(0, 0)] Z Z Z Z) Z
    exact AE <| AD <| rg AA <| rn 3 Z <| bq ba fun ce u bb => sx Z (AS (LG _ _ _ u) (.inl Z) Z Z (DP.eq (.cons (.one (.p _)) (.cons (.box Z (.cons (.p _) (.cons (.p _) (.cons (.p _) (.cons (.p _) (.cons (.p _) (.cons (.p _) (.cons (.p _) (.cons (.p _) (.cons (.p _) .nil)))))))))) .nil))) <| sx Z (Hg (et := 4) (ke := .str) (ve := .bool) (mp := d.2) (y := ce) (z := true) LJ Z Z Z Z Z Z <| rl Z <| Ai <| AD <| rg AA <| rl Z <| As bb (wj hA [(0, 0), (1, 1)] Z Z Z Z)))
   refine AU <| AY <| BR bc fun ck be => Aq <| AD <| rs AA <| rl Z <| AF ?_
   cases be
   exact Cl (nt := 22) (sl := [(4, lb false)]) (wj hA [(0, 0)] Z Z Z Z) Z
  refine rn 2 Z <| gs 42 bf Z Z Z (fun bg => ?_) (fun bh => ?_)
  .exact rl Z <| AM bg (wf hA [(0, 0)] Z Z Z)
  refine rn 2 Z <| sx Z (Aj Z Z <| rn 1 Z <| sx Z (C1 AA (fun i : Bool => lb i) (fun i : Bool => [(0, bx (Aa b))]) 1 bh Try.func140 22 [.tmp 4] [(0, li (b.lines.length : Int)), (1, .fn 143 [.lpb 0 0])] Z Z Z Z Z Z Z Z (fun A hA i bi => ?_) (fun i bs => ?_)))
  .refine rs AA <| rl Z <| rs AA <| rl Z <| AC <| rs AA <| rl Z <| AI ?_
   apply lp (a := i) (fun e : (Int × (List (ByteArray × Bool))) => ⟨22, [(1, .fn 143 [.lpb 0 0]), (5, .lmap 1), (8, li (b.lines.length : Int)), (9, li e.1)], [(0, bx (Aa b)), (1, .map (Am .str .bool e.2))], 2⟩) bi
   . exact wj hA [(0, 0), (1, 1)] Z Z Z Z
   intro e cp n
   unfold DU at n
   refine rs AA <| rl Z <| AC <| cd Z n (fun bj => ?_) (fun bp => ?_)
   .refine AE <| AD <| AC <| AI <| rs AA <| rl Z <| AC <| rs AA <| rn 3 Z <| bq bj fun cf v bk => sx Z (AS (LH _ _ _ v) (.inl Z) Z Z (DP.eq (.cons (.one (.p _)) (.cons (.box Z (.cons (.p _) (.cons (.p _) (.cons (.p _) (.cons (.p _) (.cons (.p _) (.cons (.p _) (.cons (.p _) (.cons (.p _) (.cons (.p _) .nil)))))))))) .nil))) <| sx Z (JK (et := 4) (ke := .str) (ve := .bool) (mp := e.2) (y := cf) false LJ Z Z Z Z <| rl Z <| cd Z bk (fun bl => ?_) (fun bn => ?_)))
    .refine rs AA <| rl Z <| AF <| AH <| AR <| AH <| A0 bl fun cl bm => AR <| AH ?_
     cases bm
     exact Cl (nt := 22) (sl := [(4, lb true)]) (wj hA [(0, 0)] Z Z Z Z) Z
    exact AE <| AD <| rg AA <| rn 3 Z <| bq bn fun cg w bo => sx Z (AS (LH _ _ _ w) (.inl Z) Z Z (DP.eq (.cons (.one (.p _)) (.cons (.box Z (.cons (.p _) (.cons (.p _) (.cons (.p _) (.cons (.p _) (.cons (.p _) (.cons (.p _) (.cons (.p _) (.cons (.p _) (.cons (.p _) .nil)))))))))) .nil))) <| sx Z (Hg (et := 4) (ke := .str) (ve := .bool) (mp := e.2) (y := cg) (z := true) LJ Z Z Z Z Z Z <| rl Z <| Ai <| AD <| rg AA <| rl Z <| As bo (wj hA [(0, 0), (1, 1)] Z Z Z Z)))
   refine AU <| AY <| BR bp fun cm br => Aq <| AD <| rs AA <| rl Z <| AF ?_
   cases br
   exact Cl (nt := 22) (sl := [(4, lb false)]) (wj hA [(0, 0)] Z Z Z Z) Z
  exact rl Z <| AM bs (wf hA [(0, 0)] Z Z Z)
 refine cd Z bt (fun bu => ?_) (fun bv => ?_)
 .refine rs AA <| rl Z <| AF <| AH ?_
  cases bu
  exact er Z Le.rfl
 refine AE <| AD <| rs AA <| rn 1 Z <| bq bv fun cr x bw => sx Z (AS (Qe _ _ x) (.inr Z) Z Z Z <| rl Z <| AC <| AI <| rs AA <| rl Z <| cd Z bw (fun bz => ?_) (fun b0 => ?_))
 .refine rs AA <| rl Z <| AF <| AR <| AH ?_
  cases bz
  exact er Z Le.rfl
 refine rs AA <| rn 2 Z <| bq b0 fun cs aa b1 => sx Z (AS (Pl _ _ _ aa) (.inl Z) Z Z Z <| rl Z <| cd Z b1 (fun b2 => ?_) (fun b3 => ?_))
 .refine rs AA <| rl Z <| AF <| AR <| AH ?_
  cases b2
  exact er Z Le.rfl
 refine rs AA <| rn 2 Z <| bq b3 fun ct ab b4 => sx Z (AS (Rc _ _ _ ab) (.inl Z) Z Z Z <| rl Z <| cd Z b4 (fun b5 => ?_) (fun b6 => ?_))
 .refine rs AA <| rl Z <| AF <| AR <| AH ?_
  cases b5
  exact er Z Le.rfl
 refine rs AA <| rn 1 Z <| bq b6 fun cu ac b7 => sx Z (AS (SO _ _ ac) (.inl Z) Z Z Z <| rl Z <| cd Z b7 (fun b8 => ?_) (fun b9 => ?_))
 .refine rs AA <| rl Z <| AF <| AR <| AH ?_
  cases b8
  exact er Z Le.rfl
 refine AE <| Ai <| AD <| rs AA <| rl Z <| AF ?_
 cases b9
 exact er Z Le.rfl
noncomputable def DF (a : (List Cm)) : Option (List Cm) :=
 Kf a (some []) ((Bc ([] : List Cm) a).bind fun b => some b)
theorem Km (a : (List Cm)) (r : (List Cm)) (h : DF a = some r) : A7 Try.prog 148 [.slice 3 (a.map B0)] (· = .slice 3 (r.map B0)) := by
 refine fn AA Try.func148 Z Z 8 Z [.tmp 2] Z [(0, .p (.slice 3 (a.map B0)))] Z Z fun A hA => ?_
 unfold DF at h
 refine rs AA <| rl Z <| AC <| rs AA <| rn 1 Z <| sx Z (Hh h Z Z Z (fun d => ?_) (fun e => ?_))
 .refine rl Z <| Oi Z <| rs AA <| rl Z <| AF <| AH ?_
  cases d
  exact er Z (Le.nil _)
 refine rl Z <| Oj Z <| AE <| AD <| rs AA <| rn 2 Z <| bq e fun f b c => sx Z (Ay (enc := B0) (l := ([] : List Cm)) (m := a) b (fun _ => ⟨Z, Z⟩) Z Z Z Z Z Z <| rl Z <| AF ?_)
 have hr := Option.some.inj c; subst hr
 exact er (JF Z (.one (.own (enc := B0) f Z Z))) Le.rfl
noncomputable def DG (a : (List C2)) : Option (List C2) :=
 Kf a (some []) ((Bc ([] : List C2) a).bind fun b => some b)
theorem Kn (a : (List C2)) (r : (List C2)) (h : DG a = some r) : A7 Try.prog 149 [.slice 4 (a.map Ca)] (· = .slice 4 (r.map Ca)) := by
 refine fn AA Try.func149 Z Z 8 Z [.tmp 2] Z [(0, .p (.slice 4 (a.map Ca)))] Z Z fun A hA => ?_
 unfold DG at h
 refine rs AA <| rl Z <| AC <| rs AA <| rn 1 Z <| sx Z (Hh h Z Z Z (fun d => ?_) (fun e => ?_))
 .refine rl Z <| Oi Z <| rs AA <| rl Z <| AF <| AH ?_
  cases d
  exact er Z (Le.nil _)
 refine rl Z <| Oj Z <| AE <| AD <| rs AA <| rn 2 Z <| bq e fun f b c => sx Z (Ay (enc := Ca) (l := ([] : List C2)) (m := a) b (fun _ => ⟨Z, Z⟩) Z Z Z Z Z Z <| rl Z <| AF ?_)
 have hr := Option.some.inj c; subst hr
 exact er (JF Z (.one (.own (enc := Ca) f Z Z))) Le.rfl
noncomputable def Cp (a : (List Bf)) : Option (List Bf) :=
 Kf a (some []) ((Bc ([] : List Bf) a).bind fun b => some b)
theorem Jx (a : (List Bf)) (r : (List Bf)) (h : Cp a = some r) : A7 Try.prog 150 [.slice 4 (a.map Bb)] (· = .slice 4 (r.map Bb)) := by
 refine fn AA Try.func150 Z Z 8 Z [.tmp 2] Z [(0, .p (.slice 4 (a.map Bb)))] Z Z fun A hA => ?_
 unfold Cp at h
 refine rs AA <| rl Z <| AC <| rs AA <| rn 1 Z <| sx Z (Hh h Z Z Z (fun d => ?_) (fun e => ?_))
 .refine rl Z <| Oi Z <| rs AA <| rl Z <| AF <| AH ?_
  cases d
  exact er Z (Le.nil _)
 refine rl Z <| Oj Z <| AE <| AD <| rs AA <| rn 2 Z <| bq e fun f b c => sx Z (Ay (enc := Bb) (l := ([] : List Bf)) (m := a) b (fun _ => ⟨Z, Z⟩) Z Z Z Z Z Z <| rl Z <| AF ?_)
 have hr := Option.some.inj c; subst hr
 exact er (JF Z (.one (.own (enc := Bb) f Z Z))) Le.rfl
noncomputable def DH (a : (List Ee)) : Option (List Ee) :=
 Kf a (some []) ((Bc ([] : List Ee) a).bind fun b => some b)
theorem J7 (a : (List Ee)) (r : (List Ee)) (h : DH a = some r) : GE Try.prog 151 [.slice 2 (a.map CH)] 140 2 (r.map CH) := by
 refine Wo (enc := CH) (fun _ => ⟨Z, Z⟩) Try.func151 Z Z 8 Z 2 Z [(0, .p (.slice 2 (a.map CH)))] Z Z fun A hA => ?_
 unfold DH at h
 refine rs AA <| rl Z <| AC <| rs AA <| rn 1 Z <| sx Z (Hh h Z Z Z (fun d => ?_) (fun e => ?_))
 .refine rl Z <| Oi Z <| rs AA <| rl Z <| AF <| AH ?_
  cases d
  exact VL Z
 refine rl Z <| Oj Z <| AE <| AD <| rs AA <| rn 2 Z <| bq e fun f b c => sx Z (Ay (enc := CH) (l := ([] : List Ee)) (m := a) b (fun _ => ⟨Z, Z⟩) Z Z Z Z Z Z <| rl Z <| AF ?_)
 have hr := Option.some.inj c; subst hr
 exact Wp Z Z Z
noncomputable def EX (a : (List Int)) : Option (List Int) :=
 Kf a (some []) ((Bc ([] : List Int) a).bind fun b => some b)
theorem M1 (a : (List Int)) (r : (List Int)) (h : EX a = some r) : A7 Try.prog 71 [.slice 1 (a.map Ah)] (· = .slice 1 (r.map Ah)) := by
 refine fn AA Try.func71 Z Z 8 Z [.tmp 2] Z [(0, .p (.slice 1 (a.map Ah)))] Z Z fun A hA => ?_
 unfold EX at h
 refine rs AA <| rl Z <| AC <| rs AA <| rn 1 Z <| sx Z (Hh h Z Z Z (fun d => ?_) (fun e => ?_))
 .refine rl Z <| Oi Z <| rs AA <| rl Z <| AF <| AH ?_
  cases d
  exact er Z (Le.nil _)
 refine rl Z <| Oj Z <| AE <| AD <| rs AA <| rn 2 Z <| bq e fun f b c => sx Z (Ay (enc := Ah) (l := ([] : List Int)) (m := a) b (fun _ => ⟨Z, Z⟩) Z Z Z Z Z Z <| rl Z <| AF ?_)
 have hr := Option.some.inj c; subst hr
 exact er (JF Z (.one (.own (enc := Ah) f Z Z))) Le.rfl
end Go.E
/- Plain functions, and walks in step with them. Written by a program (gen.py). No condition. -/
set_option maxRecDepth 100000
namespace Go.E
open Go Go.RowKit Go.Proofs
noncomputable def Fo (b : AK) (h : (List Cm)) (i : (List C2)) (c : (List Bf)) (g : (List Ee)) (a : Int × (List Ee)) : Option ((Int × (List Ee)) ⊕ AK) :=
 bif decide (a.1 < (g.length : Int)) then (Al a.2 a.1).bind fun d => (EX d.elems).bind fun e => (Al a.2 a.1).bind fun f => some (.inl (AQ (a.1 + 1), A1 a.2 a.1 (⟨f.name, e⟩ : Ee))) else some (.inr (⟨h, i, c, a.2, b.top, b.brake, b.margin, b.throw, b.hard⟩ : AK))
noncomputable def Gi (a : AK) : Option AK :=
 (DF a.elems).bind fun d => (DG a.joins).bind fun e => (Cp a.signals).bind fun c => (DH a.lines).bind fun b => AO (Fo a d e c b) (0, b)
theorem PA (b : AK) (r : AK) (h : Gi b = some r) : A7 Try.prog 99 [.agg (Aa b)] (· = .agg (Aa r)) := by
 refine fn AA Try.func99 Z Z 40 Z [.cell 2 27] Z [(0, .p (.agg (Aa b)))] Z Z fun A hA => ?_
 unfold Gi at h
 refine rs AA <| rl Z <| AC ?_
 refine CF AA BK [0, 1, 2, 3, 4, 5, 6, 7, 8, 9, 10, 11, 12, 13, 14] 15 (by kernel_rfl) Z Z Z ?_
 refine Ax 2 Z <| bq h fun ad k x => Au Z (Bq (Km _ _ k) (.inr Z) Z Z Z <| Ax 2 Z <| bq x fun ae l m => Au Z (Bq (Kn _ _ l) (.inr Z) Z Z Z <| Ax 2 Z <| bq m fun y g t => Au Z (Bq (Jx _ _ g) (.inr Z) Z Z Z <| BG Z <| AD <| rs AA <| rn 2 Z <| bq t fun ac j w => sx Z (WJ (J7 _ _ j) Z Z Z Z <| rl Z <| AC <| rs AA <| rl Z <| AI ?_))))
 apply lp (a := r) (fun c : (Int × (List Ee)) => ⟨40, [(1, .lpb 0 0), (2, .lpb 1 0), (22, li (ac.length : Int)), (23, li c.1)], [(0, .box [ls 3 B0 ad, ls 4 Ca ae, ls 4 Bb y, .lsl 2 2 0 c.2.length, li b.top, li b.brake, li b.margin, li b.throw, lb b.hard]), (1, .box [.p (.nils), .p (.nils), .p (.nils), .p (.nils), li 0, li 0, li 0, li 0, lb false]), (2, .row 140 2 (c.2.map CH))], 3⟩) w
 . exact wf hA [(0, 0), (1, 1), (2, 17)] Z Z Z
 intro c ag f
 unfold Fo at f
 refine rs AA <| rl Z <| AC <| cd Z f (fun n => ?_) (fun u => ?_)
 .refine AE <| AD <| AC <| AI <| rs AA <| rl Z ?_
  refine CF AA BK [0, 1, 2, 3, 4, 5, 6, 7, 8, 9, 10, 11, 12] 13 (by kernel_rfl) Z Z Z ?_
  exact Ax 6 Z <| bq n fun ah d o => Au Z (Ag Z (By d Z Z Z Z <| Ax 1 Z <| Au Z (Hd Z (C4 d Z Z Z <| bq o fun aa i q => Au Z (Bq (M1 _ _ i) (.inr Z) Z Z Z <| bq q fun ab e s => Au Z (Ag Z (By e Z Z Z Z <| Ax 1 Z <| Au Z (K5 Z (Lw (z := (⟨ab.name, aa⟩ : Ee)) e Z Z Z Z Z Z Z Z <| BG Z <| Ai <| AD <| rg AA <| rl Z <| As s (wk (gi 3 []) (N9 hA _) Z Z Z (.cons Z (.cons Z (.cons Z (.cons Z .nil)))) (.cons Z (by simp only [BF]; rfl) (.cons Z Z (.cons Z Z .nil)))))))))))))
 refine AU <| AY <| BR u fun af v => Aq <| AD <| rs AA <| rl Z <| AF ?_
 cases v
 exact er (JF Z (.agg (.cons (.p _) (.cons (.p _) (.cons (.p _) (.cons (.own (enc := CH) c.2 Z Z) (.cons (.p _) (.cons (.p _) (.cons (.p _) (.cons (.p _) (.cons (.p _) .nil))))))))))) Le.rfl
noncomputable def GS (e : (Int × (List (AG × AG)))) (c : (Int × (List (Int × Cu)) × (List (Int × Int)))) (d : Ee) (a : Int × Int × (List (Int × Cu)) × (List (Int × Int))) : Option ((Int × Int × (List (Int × Cu)) × (List (Int × Int))) ⊕ ((Int × (List (Int × Cu)) × (List (Int × Int))) ⊕ ((Option A5) × Int))) :=
 bif decide (a.2.1 < (d.elems.length : Int)) then (Al d.elems a.2.1).bind fun b => some (.inl (((Af e.2 (⟨b, AQ (1 - a.1)⟩ : AG)).getD (⟨0, 0⟩ : AG)).fin, AQ (a.2.1 + 1), A6 b (⟨c.1, a.2.1⟩ : Cu) a.2.2.1, A6 b a.1 a.2.2.2)) else some (.inr (.inl (AQ (c.1 + 1), a.2.2.1, a.2.2.2)))
noncomputable def FA (d : AK) (j : AK) (b : (Int × (List (AG × AG)))) (f : (Int × (List (AG × Int)))) (a : Int × (List (Int × Cu)) × (List (Int × Int))) : Option ((Int × (List (Int × Cu)) × (List (Int × Int))) ⊕ ((Option A5) × Int)) :=
 bif decide (a.1 < (d.lines.length : Int)) then (Al d.lines a.1).bind fun c => ((bif decide (1 < (c.elems.length : Int)) then (Al c.elems 0).bind fun e => ((bif (Af b.2 (⟨e, 0⟩ : AG)).isSome then (Al c.elems 1).bind fun i => some ((((Af b.2 (⟨e, 0⟩ : AG)).getD (⟨0, 0⟩ : AG)).elem) == i) else some false : Option (Bool))).bind fun (h : Bool) => bif h then some 1 else some 0 else some 0 : Option (Int))).bind fun (g : Int) => AO (GS b a c) (g, 0, a.2.1, a.2.2) else some (.inr (some (⟨j, b.2, f.2, a.2.1, a.2.2⟩ : A5), 0))
noncomputable def GU (b : AK) (d : AK) (c : (Int × (List (AG × AG)))) (a : Int × (List (AG × Int))) : Option ((Int × (List (AG × Int))) ⊕ ((Option A5) × Int)) :=
 bif decide (a.1 < (b.signals.length : Int)) then (Al b.signals a.1).bind fun e => some (.inl (AQ (a.1 + 1), A6 e.at_ a.1 a.2)) else (AO (FA b d c a) (0, [], [])).map .inr
noncomputable def GV (e : AK) (f : AK) (c : Int × (List (AG × AG))) : Option ((Int × (List (AG × AG))) ⊕ ((Option A5) × Int)) :=
 bif decide (c.1 < (e.joins.length : Int)) then (Al e.joins c.1).bind fun d => some (.inl (AQ (c.1 + 1), A6 d.b d.a (A6 d.a d.b c.2))) else (AO (GU e f c) (0, [])).map .inr
noncomputable def FF (a : AK) : Option ((Option A5) × Int) :=
 (GR a).bind fun b => bif (b != 0) then some (none, b) else (Gi a).bind fun c => AO (GV a c) (0, [])
theorem QF (d : AK) (r : ((Option A5) × Int)) (h : FF d = some r) : A7 Try.prog 45 [.agg (Aa d)] (· = .tup [Xv Aw r.1, .int .i64 r.2]) := by
 refine fn AA Try.func45 Z Z 148 Z [.tmp 2, .tmp 3] Z [(0, .p (.agg (Aa d)))] Z Z fun A hA => ?_
 unfold FF at h
 refine rs AA <| rl Z <| AC <| rs AA <| rn 1 Z <| bq h fun br ah aj => sx Z (AS (Rd _ _ ah) (.inl Z) Z Z Z <| rl Z <| rs AA <| rl Z <| cd Z aj (fun al => ?_) (fun ay => ?_))
 .refine rs AA <| rl Z <| AF <| AH ?_
  cases al
  exact er Z Le.rfl
 refine AE <| AD <| rs AA <| rn 1 Z <| bq ay fun c af a8 => sx Z (AS (PA _ _ af) (.inr Z) Z Z Z <| rl Z <| AC <| rs AA <| rn 2 Z <| sx Z (Aj Z Z <| rl Z <| AI ?_))
 apply lp (a := r) (fun f : (Int × (List (AG × AG))) => ⟨148, [(1, .lpb 0 0), (5, .lpb 1 0), (31, ls 4 Ca d.joins), (32, li (d.joins.length : Int)), (33, li f.1)], [(0, bx (Aa d)), (1, .box [ls 3 B0 c.elems, ls 4 Ca c.joins, ls 4 Bb c.signals, ls 2 CH c.lines, li c.top, li c.brake, li c.margin, li c.throw, lb c.hard, .lmap 2, .lmap 3, .lmap 4, .lmap 5]), (2, .map (Am (fun x => .agg (AL x)) (fun x => .agg (AL x)) f.2)), (3, .map (Am (fun x => .agg (AL x)) (.int .i64) [])), (4, .map (Am (.int .i64) (fun x => .agg (FY x)) [])), (5, .map (Am (.int .i64) (.int .i64) []))], 6⟩) a8
 . exact wf hA [(0, 0), (1, 5), (2, 1), (3, 2), (4, 3), (5, 4)] Z Z Z
 intro f bo t
 unfold GV at t
 refine rs AA <| rl Z <| AC <| cd Z t (fun be => ?_) (fun bg => ?_)
 .refine AE <| AD <| AC <| AI <| rs AA <| bq be fun i ai bf => sx Z (Ap ai Z Z Z <| rl Z ?_)
  refine CF AA BK [0, 1, 2, 3, 4, 5, 6, 7, 8, 9, 10, 11, 12, 13, 14, 15, 16, 17, 18, 19, 20, 21] 22 (by kernel_rfl) Z Z Z ?_
  exact Ax 16 Z <| Au Z (Ag Z (Ow (et := 96) (ke := (fun x => .agg (AL x))) (ve := (fun x => .agg (AL x))) (mp := f.2) (y := i.a) (⟨0, 0⟩ : AG) B7 Z Z Z Z Z Z <| Ax 1 Z <| Au Z (Ag Z (Ox (ke := (fun x => .agg (AL x))) (ve := (fun x => .agg (AL x))) (mp := f.2) (y := i.a) (z := (⟨0, 0⟩ : AG)) (w := i.b) Z Z Z Z Z <| Au Z (Ag Z (Ow (et := 96) (ke := (fun x => .agg (AL x))) (ve := (fun x => .agg (AL x))) (mp := A6 i.a i.b f.2) (y := i.b) (⟨0, 0⟩ : AG) B7 Z Z Z Z Z Z <| Ax 1 Z <| Au Z (Ag Z (Ox (ke := (fun x => .agg (AL x))) (ve := (fun x => .agg (AL x))) (mp := A6 i.a i.b f.2) (y := i.b) (z := (⟨0, 0⟩ : AG)) (w := i.a) Z Z Z Z Z <| BG Z <| Ai <| AD <| rg AA <| rl Z <| As bf (wf hA (gi 6 []) Z Z Z)))))))))
 refine AU <| AY <| CN bg fun v bh => Aq <| AD <| AC <| rs AA <| rn 2 Z <| sx Z (Aj Z Z <| rl Z <| AI ?_)
 apply lp (a := v) (fun j : (Int × (List (AG × Int))) => ⟨148, [(1, .lpb 0 0), (5, .lpb 1 0), (59, ls 4 Bb d.signals), (60, li (d.signals.length : Int)), (61, li j.1)], [(0, bx (Aa d)), (1, .box [ls 3 B0 c.elems, ls 4 Ca c.joins, ls 4 Bb c.signals, ls 2 CH c.lines, li c.top, li c.brake, li c.margin, li c.throw, lb c.hard, .lmap 2, .lmap 3, .lmap 4, .lmap 5]), (2, .map (Am (fun x => .agg (AL x)) (fun x => .agg (AL x)) f.2)), (3, .map (Am (fun x => .agg (AL x)) (.int .i64) j.2)), (4, .map (Am (.int .i64) (fun x => .agg (FY x)) [])), (5, .map (Am (.int .i64) (.int .i64) []))], 6⟩) bh
 . exact wf hA (gi 6 []) Z Z Z
 intro j bn s
 unfold GU at s
 refine rs AA <| rl Z <| AC <| cd Z s (fun a9 => ?_) (fun bb => ?_)
 .refine AE <| AD <| AC <| AI <| rs AA <| rn 1 Z <| bq a9 fun bj ag ba => sx Z (Ap ag Z Z Z <| rl Z ?_)
  refine CF AA BK [0, 1, 2, 3, 4, 5, 6, 7] 8 (by kernel_rfl) Z Z Z ?_
  exact Ax 7 Z <| Au Z (Ag Z (Hg (et := 3) (ke := (fun x => .agg (AL x))) (ve := (.int .i64)) (mp := j.2) (y := bj.at_) (z := j.1) B7 Z Z Z Z Z Z <| BG Z <| Ai <| AD <| rg AA <| rl Z <| As ba (wf hA (gi 6 []) Z Z Z)))
 refine AU <| AY <| CN bb fun u bc => Aq <| AD <| AC <| rs AA <| rn 2 Z <| sx Z (Aj Z Z <| rl Z <| AI ?_)
 apply lp (a := u) (fun e : (Int × (List (Int × Cu)) × (List (Int × Int))) => ⟨148, [(5, .lpb 0 0), (75, ls 2 CH d.lines), (76, li (d.lines.length : Int)), (77, li e.1)], [(0, .box [ls 3 B0 c.elems, ls 4 Ca c.joins, ls 4 Bb c.signals, ls 2 CH c.lines, li c.top, li c.brake, li c.margin, li c.throw, lb c.hard, .lmap 1, .lmap 2, .lmap 3, .lmap 4]), (1, .map (Am (fun x => .agg (AL x)) (fun x => .agg (AL x)) f.2)), (2, .map (Am (fun x => .agg (AL x)) (.int .i64) j.2)), (3, .map (Am (.int .i64) (fun x => .agg (FY x)) e.2.1)), (4, .map (Am (.int .i64) (.int .i64) e.2.2))], 5⟩) bc
 . exact wf hA [(0, 1), (1, 2), (2, 3), (3, 4), (4, 5)] Z Z Z
 intro e aa o
 unfold FA at o
 refine rs AA <| rl Z <| AC <| cd Z o (fun ak => ?_) (fun a6 => ?_)
 .refine AE <| AD <| AC <| AI <| rs AA <| rn 1 Z <| bq ak fun k ab am => sx Z (Ap ab Z Z Z <| rl Z <| rs AA <| rl Z <| jb (fun m : Int => ⟨148, [(5, .lpb 0 0), (10, li e.1), (11, .lpb 1 0), (12, li m), (75, ls 2 CH d.lines), (76, li (d.lines.length : Int)), (77, li e.1)], [(0, .box [ls 3 B0 c.elems, ls 4 Ca c.joins, ls 4 Bb c.signals, ls 2 CH c.lines, li c.top, li c.brake, li c.margin, li c.throw, lb c.hard, .lmap 2, .lmap 3, .lmap 4, .lmap 5]), (1, .box [.p (.str k.name), ls 1 Ah k.elems]), (2, .map (Am (fun x => .agg (AL x)) (fun x => .agg (AL x)) f.2)), (3, .map (Am (fun x => .agg (AL x)) (.int .i64) j.2)), (4, .map (Am (.int .i64) (fun x => .agg (FY x)) e.2.1)), (5, .map (Am (.int .i64) (.int .i64) e.2.2))], 6⟩) am (fun m an => ?_) (fun m a1 => ?_))
  .refine rs AA <| rn 2 Z <| sx Z (Aj Z Z <| rl Z <| cd Z an (fun ao => ?_) (fun a0 => ?_))
   .refine AC ?_
    refine CF AA BK [0, 1, 2, 3, 4, 5, 6, 7, 8, 9, 10, 11, 12, 13, 14, 15] 16 (by kernel_rfl) Z Z Z ?_
    refine Ax 6 Z <| bq ao fun bi ac ap => Au Z (Ag Z (Ap ac Z Z Z <| Ax 2 Z <| Au Z (Ag Z (Hf (et := 96) (ke := (fun x => .agg (AL x))) (ve := (fun x => .agg (AL x))) (mp := f.2) (y := (⟨bi, 0⟩ : AG)) (⟨0, 0⟩ : AG) B7 Z Z Z Z <| BG Z <| AD <| jb (fun n : Bool => ⟨148, [(5, .lpb 0 0), (10, li e.1), (11, .lpb 1 0), (12, li 0), (75, ls 2 CH d.lines), (76, li (d.lines.length : Int)), (77, li e.1), (108, lb n)], [(0, .box [ls 3 B0 c.elems, ls 4 Ca c.joins, ls 4 Bb c.signals, ls 2 CH c.lines, li c.top, li c.brake, li c.margin, li c.throw, lb c.hard, .lmap 2, .lmap 3, .lmap 4, .lmap 5]), (1, .box [.p (.str k.name), ls 1 Ah k.elems]), (2, .map (Am (fun x => .agg (AL x)) (fun x => .agg (AL x)) f.2)), (3, .map (Am (fun x => .agg (AL x)) (.int .i64) j.2)), (4, .map (Am (.int .i64) (fun x => .agg (FY x)) e.2.1)), (5, .map (Am (.int .i64) (.int .i64) e.2.2))], 6⟩) ap (fun n aq => ?_) (fun n aw => ?_)))))
    .refine CF AA BK [0, 1, 2, 3, 4, 5, 6, 7, 8, 9] 10 (by kernel_rfl) Z Z Z ?_
     refine Ax 2 Z <| HI 100 aq Z Z Z (fun ar => ?_) (fun av => ?_)
     .exact Ax 4 Z <| bq ar fun bp ad au => Au Z (Ag Z (Ap ad Z Z Z <| BG Z <| AM au (wf hA [(0, 0), (1, 5), (2, 1), (3, 2), (4, 3), (5, 4)] Z Z Z)))
     exact BG Z <| AM av (wf hA [(0, 0), (1, 5), (2, 1), (3, 2), (4, 3), (5, 4)] Z Z Z)
    refine cd Z aw (fun ax => ?_) (fun az => ?_)
    .exact rg AA <| rl Z <| AM ax (wf hA (gi 6 []) Z Z Z)
    exact AE <| AM az (wf hA (gi 6 []) Z Z Z)
   exact AE <| AM a0 (wf hA [(0, 0), (1, 5), (2, 1), (3, 2), (4, 3), (5, 4)] Z Z Z)
  refine rs AA <| rn 2 Z <| sx Z (Aj Z Z <| rl Z <| AI ?_)
  apply lp (a := aa) (fun g : (Int × Int × (List (Int × Cu)) × (List (Int × Int))) => ⟨148, [(5, .lpb 0 0), (10, li e.1), (12, li g.1), (75, ls 2 CH d.lines), (76, li (d.lines.length : Int)), (77, li e.1), (110, ls 1 Ah k.elems), (111, li (k.elems.length : Int)), (112, li g.2.1)], [(0, .box [ls 3 B0 c.elems, ls 4 Ca c.joins, ls 4 Bb c.signals, ls 2 CH c.lines, li c.top, li c.brake, li c.margin, li c.throw, lb c.hard, .lmap 1, .lmap 2, .lmap 3, .lmap 4]), (1, .map (Am (fun x => .agg (AL x)) (fun x => .agg (AL x)) f.2)), (2, .map (Am (fun x => .agg (AL x)) (.int .i64) j.2)), (3, .map (Am (.int .i64) (fun x => .agg (FY x)) g.2.2.1)), (4, .map (Am (.int .i64) (.int .i64) g.2.2.2))], 5⟩) a1
  . exact wf hA [(0, 0), (1, 2), (2, 3), (3, 4), (4, 5)] Z Z Z
  intro g bm q
  unfold GS at q
  refine rs AA <| rl Z <| AC <| cd Z q (fun a2 => ?_) (fun a4 => ?_)
  .refine AE <| AD <| AC <| AI <| rs AA <| rn 1 Z <| bq a2 fun l ae a3 => sx Z (Ap ae Z Z Z <| rl Z <| AC ?_)
   refine CF AA BK [0, 1, 2, 3, 4, 5, 6, 7, 8, 9, 10, 11, 12, 13, 14, 15, 16, 17, 18, 19] 20 (by kernel_rfl) Z Z Z ?_
   exact Ax 14 Z <| Au Z (Ag Z (Ow (et := 152) (ke := (.int .i64)) (ve := (fun x => .agg (FY x))) (mp := g.2.2.1) (y := l) (⟨0, 0⟩ : Cu) Jt Z Z Z Z Z Z <| Ax 1 Z <| Au Z (Ag Z (Ox (ke := (.int .i64)) (ve := (fun x => .agg (FY x))) (mp := g.2.2.1) (y := l) (z := (⟨0, 0⟩ : Cu)) (w := (⟨e.1, g.2.1⟩ : Cu)) Z Z Z Z Z <| Au Z (Ag Z (Ow (et := 3) (ke := (.int .i64)) (ve := (.int .i64)) (mp := g.2.2.2) (y := l) 0 Jt Z Z Z Z Z Z <| Ax 1 Z <| Au Z (Ag Z (Ox (ke := (.int .i64)) (ve := (.int .i64)) (mp := g.2.2.2) (y := l) (z := 0) (w := g.1) Z Z Z Z Z <| BG Z <| AD <| rg AA <| rn 8 Z <| sx Z (JK (et := 96) (ke := (fun x => .agg (AL x))) (ve := (fun x => .agg (AL x))) (mp := f.2) (y := (⟨l, AQ (1 - g.1)⟩ : AG)) (⟨0, 0⟩ : AG) B7 Z Z Z Z <| rl Z <| Ai <| AD <| rg AA <| rl Z <| As a3 (wf hA (gi 5 []) Z Z Z))))))))))
  exact AU <| AY <| BR a4 fun bk a5 => Aq <| Ai <| AD <| rg AA <| rl Z <| As a5 (wf hA (gi 5 []) Z Z Z)
 refine AU <| AY <| BR a6 fun bl a7 => Aq <| AD <| rs AA <| rl Z <| AF ?_
 cases a7
 exact er (RO Z (.cons (.box Z (.cons (.p _) (.cons (.p _) (.cons (.p _) (.cons (.p _) (.cons (.p _) (.cons (.p _) (.cons (.p _) (.cons (.p _) (.cons (.p _) (.cons (.map Z) (.cons (.map Z) (.cons (.map Z) (.cons (.map Z) .nil)))))))))))))) (.cons (.one (.p _)) .nil))) Le.rfl
noncomputable def Pm (b : AK) (a : Int) : Option (AG × Bool) :=
 ((bif decide (a < 0) then some true else some (decide ((b.signals.length : Int) <= a)) : Option (Bool))).bind fun (c : Bool) => bif c then some ((⟨0, 0⟩ : AG), false) else (Al b.signals a).bind fun d => some (d.at_, true)
end Go.E
/- Plain functions, and walks in step with them. Written by a program (gen.py). No condition. -/
set_option maxRecDepth 100000
namespace Go.E
open Go Go.RowKit Go.Proofs
noncomputable def BO (a : (List AV)) : Option (List AV) :=
 Kf a (some []) ((Bc ([] : List AV) a).bind fun b => some b)
theorem Ko (a : (List AV)) (r : (List AV)) (h : BO a = some r) : A7 Try.prog 49 [.slice 3 (a.map Ak)] (· = .slice 3 (r.map Ak)) := by
 refine fn AA Try.func49 Z Z 8 Z [.tmp 2] Z [(0, .p (.slice 3 (a.map Ak)))] Z Z fun A hA => ?_
 unfold BO at h
 refine rs AA <| rl Z <| AC <| rs AA <| rn 1 Z <| sx Z (Hh h Z Z Z (fun d => ?_) (fun e => ?_))
 .refine rl Z <| Oi Z <| rs AA <| rl Z <| AF <| AH ?_
  cases d
  exact er Z (Le.nil _)
 refine rl Z <| Oj Z <| AE <| AD <| rs AA <| rn 2 Z <| bq e fun f b c => sx Z (Ay (enc := Ak) (l := ([] : List AV)) (m := a) b (fun _ => ⟨Z, Z⟩) Z Z Z Z Z Z <| rl Z <| AF ?_)
 have hr := Option.some.inj c; subst hr
 exact er (JF Z (.one (.own (enc := Ak) f Z Z))) Le.rfl
theorem D6 (a : (List AV)) (r : (List AV)) (h : BO a = some r) : GE Try.prog 49 [.slice 3 (a.map Ak)] 90 3 (r.map Ak) := by
 refine Wo (enc := Ak) (fun _ => ⟨Z, Z⟩) Try.func49 Z Z 8 Z 2 Z [(0, .p (.slice 3 (a.map Ak)))] Z Z fun A hA => ?_
 unfold BO at h
 refine rs AA <| rl Z <| AC <| rs AA <| rn 1 Z <| sx Z (Hh h Z Z Z (fun d => ?_) (fun e => ?_))
 .refine rl Z <| Oi Z <| rs AA <| rl Z <| AF <| AH ?_
  cases d
  exact VL Z
 refine rl Z <| Oj Z <| AE <| AD <| rs AA <| rn 2 Z <| bq e fun f b c => sx Z (Ay (enc := Ak) (l := ([] : List AV)) (m := a) b (fun _ => ⟨Z, Z⟩) Z Z Z Z Z Z <| rl Z <| AF ?_)
 have hr := Option.some.inj c; subst hr
 exact Wp Z Z Z
noncomputable def Bm (a : (List AX)) : Option (List AX) :=
 Kf a (some []) ((Bc ([] : List AX) a).bind fun b => some b)
theorem Kp (a : (List AX)) (r : (List AX)) (h : Bm a = some r) : A7 Try.prog 50 [.slice 2 (a.map Ao)] (· = .slice 2 (r.map Ao)) := by
 refine fn AA Try.func50 Z Z 8 Z [.tmp 2] Z [(0, .p (.slice 2 (a.map Ao)))] Z Z fun A hA => ?_
 unfold Bm at h
 refine rs AA <| rl Z <| AC <| rs AA <| rn 1 Z <| sx Z (Hh h Z Z Z (fun d => ?_) (fun e => ?_))
 .refine rl Z <| Oi Z <| rs AA <| rl Z <| AF <| AH ?_
  cases d
  exact er Z (Le.nil _)
 refine rl Z <| Oj Z <| AE <| AD <| rs AA <| rn 2 Z <| bq e fun f b c => sx Z (Ay (enc := Ao) (l := ([] : List AX)) (m := a) b (fun _ => ⟨Z, Z⟩) Z Z Z Z Z Z <| rl Z <| AF ?_)
 have hr := Option.some.inj c; subst hr
 exact er (JF Z (.one (.own (enc := Ao) f Z Z))) Le.rfl
theorem J6 (a : (List AX)) (r : (List AX)) (h : Bm a = some r) : GE Try.prog 50 [.slice 2 (a.map Ao)] 46 2 (r.map Ao) := by
 refine Wo (enc := Ao) (fun _ => ⟨Z, Z⟩) Try.func50 Z Z 8 Z 2 Z [(0, .p (.slice 2 (a.map Ao)))] Z Z fun A hA => ?_
 unfold Bm at h
 refine rs AA <| rl Z <| AC <| rs AA <| rn 1 Z <| sx Z (Hh h Z Z Z (fun d => ?_) (fun e => ?_))
 .refine rl Z <| Oi Z <| rs AA <| rl Z <| AF <| AH ?_
  cases d
  exact VL Z
 refine rl Z <| Oj Z <| AE <| AD <| rs AA <| rn 2 Z <| bq e fun f b c => sx Z (Ay (enc := Ao) (l := ([] : List AX)) (m := a) b (fun _ => ⟨Z, Z⟩) Z Z Z Z Z Z <| rl Z <| AF ?_)
 have hr := Option.some.inj c; subst hr
 exact Wp Z Z Z
noncomputable def B4 (a : A5) : Option AK :=
 (Gi a.p).bind fun b => some b
theorem II (a : A5) (r : AK) (h : B4 a = some r) : A7 Try.prog 51 [.place (Aw a) 0] (· = .agg (Aa r)) := by
 refine fn AA Try.func51 Z Z 8 Z [.cell 2 27] Z [(0, .p (.place (Aw a) 0))] Z Z fun A hA => ?_
 unfold B4 at h
 refine rs AA <| rl Z <| rs AA <| rn 4 Z <| bq h fun d b c => sx Z (AS (PA _ _ b) (.inr Z) Z Z Z <| rl Z <| AF ?_)
 have hr := Option.some.inj c; subst hr
 exact er Z Le.rfl
noncomputable def FB (b : A5) (a : Int) : Option Cm :=
 ((bif decide (a < 0) then some true else some (decide ((b.p.elems.length : Int) <= a)) : Option (Bool))).bind fun (c : Bool) => bif c then some (⟨ByteArray.empty, 0, 0⟩ : Cm) else (Al b.p.elems a).bind fun d => some d
theorem Pn (a : A5) (b : Int) (r : Cm) (h : FB a b = some r) : A7 Try.prog 102 [.place (Aw a) 0, .int .i64 b] (· = .agg (B0 r)) := by
 refine fn AA Try.func102 Z Z 26 Z [.cell 4 130] Z [(0, .p (.place (Aw a) 0)), (1, .p (.int .i64 b))] Z Z fun A hA => ?_
 unfold FB at h
 refine rs AA <| rl Z <| AC <| jb (fun c : Bool => ⟨26, [(0, lq (Aw a)), (1, li b), (4, .lpb 0 0), (16, lb c)], [(0, .box [.p (.str ByteArray.empty), li 0, li 0])], 1⟩) h (fun c e => ?_) (fun c i => ?_)
 .refine rg AA <| rn 3 Z <| gs 7 e Z Z Z (fun f => ?_) (fun g => ?_)
  .exact rl Z <| AM f (wf hA [(0, 0)] Z Z Z)
  exact rn 6 Z <| sx Z (Aj Z Z <| rl Z <| AM g (wf hA [(0, 0)] Z Z Z))
 refine cd Z i (fun j => ?_) (fun k => ?_)
 .refine rs AA <| rl Z <| AF <| AH ?_
  cases j
  exact er Z Le.rfl
 refine AE <| AD <| rs AA <| rn 6 Z <| bq k fun m d l => sx Z (Ap d Z Z Z <| rl Z <| AF ?_)
 have hr := Option.some.inj l; subst hr
 exact er Z Le.rfl
noncomputable def Bd (a : A5) (b : Int) : Option Int :=
 (FB a b).bind fun c => some c.kind
theorem CP (a : A5) (b : Int) (r : Int) (h : Bd a b = some r) : A7 Try.prog 58 [.place (Aw a) 0, .int .i64 b] (· = .int .i64 r) := by
 refine fn AA Try.func58 Z Z 9 Z [.tmp 4] Z [(0, .p (.place (Aw a) 0)), (1, .p (.int .i64 b))] Z Z fun A hA => ?_
 unfold Bd at h
 refine rs AA <| rl Z <| rs AA <| rn 2 Z <| bq h fun e c d => sx Z (AS (Pn _ _ _ c) (.inl Z) Z Z Z <| rl Z <| AF ?_)
 cases d
 exact er Z Le.rfl
noncomputable def BI (a : A5) (b : AG) : Option (AG × Bool) :=
 some (((Af a.next b).getD (⟨0, 0⟩ : AG)), (Af a.next b).isSome)
theorem Bp (a : A5) (b : AG) (r : (AG × Bool)) (h : BI a b = some r) : A7 Try.prog 53 [.place (Aw a) 0, .agg (AL b)] (· = .tup [.agg (AL r.1), .bool r.2]) := by
 refine fn AA Try.func53 Z Z 19 Z [.cell 4 96, .tmp 5] Z [(0, .p (.place (Aw a) 0)), (1, .p (.agg (AL b)))] Z Z fun A hA => ?_
 unfold BI at h
 refine rs AA <| rl Z <| AC ?_
 refine CF AA BK [0, 1, 2, 3, 4, 5, 6, 7, 8, 9, 10, 11] 12 (by kernel_rfl) Z Z Z ?_
 refine Ax 5 Z <| Au Z (Ag Z (Hf (et := 96) (ke := (fun x => .agg (AL x))) (ve := (fun x => .agg (AL x))) (mp := a.next) (y := b) (⟨0, 0⟩ : AG) B7 Z Z Z Z <| BG Z <| AD <| rs AA <| rl Z <| AF ?_))
 cases h
 exact er Z Le.rfl
noncomputable def EY (g : A5) (e : (Int × (List AG))) (c : AV) (b : (List Int)) (a : Int × (List AG)) : Option ((Int × (List AG)) ⊕ ((Int × (List AG)) ⊕ (List AG))) :=
 bif decide (a.1 < (b.length : Int)) then (((Al b a.1).bind fun d => (BI g (⟨c.elem, d⟩ : AG)).bind fun h => bif h.2 then (Bc a.2 [(⟨c.elem, d⟩ : AG)]).bind fun i => some i else some a.2 : Option ((List AG)))).bind fun (f : (List AG)) => some (.inl (AQ (a.1 + 1), f)) else some (.inr (.inl (AQ (e.1 + 1), a.2)))
noncomputable def F7 (c : A5) (d : AW) (b : Int × (List AG)) : Option ((Int × (List AG)) ⊕ (List AG)) :=
 bif decide (b.1 < (d.steps.length : Int)) then (Al d.steps b.1).bind fun a => (((Bd c a.elem).bind fun e => bif (e == 2) then some [AQ (3 - (if a.out > a.in_ then a.out else a.in_))] else bif (e == 3) then bif decide (1 < a.in_) then some [0, 1] else some [2, 3] else some ([] : List Int) : Option ((List Int)))).bind fun (f : (List Int)) => AO (EY c b a f) (0, b.2) else some (.inr b.2)
noncomputable def Ey (a : A5) (b : AW) : Option (List AG) :=
 AO (F7 a b) (0, ([] : List AG))
theorem M0 (e : A5) (b : AW) (r : (List AG)) (h : Ey e b = some r) : A7 Try.prog 52 [.place (Aw e) 0, .agg (Ab b)] (· = .slice 2 (r.map AL)) := by
 refine fn AA Try.func52 Z Z 67 Z [.tmp 4] Z [(0, .p (.place (Aw e) 0)), (1, .p (.agg (Ab b)))] Z Z fun A hA => ?_
 unfold Ey at h
 refine rs AA <| rl Z <| rs AA <| rl Z <| AC <| rs AA <| rn 2 Z <| sx Z (Aj Z Z <| rl Z <| AI ?_)
 apply lp (a := r) (fun c : (Int × (List AG)) => ⟨67, [(0, lq (Aw e)), (5, .lsl 0 2 0 c.2.length), (16, ls 3 Ak b.steps), (17, li (b.steps.length : Int)), (18, li c.1)], [(0, .row 96 2 (c.2.map AL))], 1⟩) h
 . exact A4.trans (CM 5 96 2 Z) (wf hA [(0, 1)] Z Z Z)
 intro c o k
 unfold F7 at k
 refine rs AA <| rl Z <| AC <| cd Z k (fun v => ?_) (fun aq => ?_)
 .refine AE <| AD <| AC <| AI <| rs AA <| bq v fun i q w => sx Z (Ap q Z Z Z <| rl Z <| rs AA <| rl Z <| jb (fun d : (List Int) => ⟨67, [(0, lq (Aw e)), (5, .lsl 0 2 0 c.2.length), (7, .lpb 1 0), (8, .lsl 2 1 0 d.length), (16, ls 3 Ak b.steps), (17, li (b.steps.length : Int)), (18, li c.1)], [(0, .row 96 2 (c.2.map AL)), (1, bx (Ak i)), (2, .row 3 1 (d.map Ah))], 3⟩) w (fun d x => ?_) (fun d af => ?_))
  .refine rs AA <| rn 3 Z <| bq x fun ay s y => sx Z (AS (CP _ _ _ s) (.inl Z) Z Z Z <| rl Z <| AI <| rs AA <| rl Z <| cd Z y (fun z => ?_) (fun aa => ?_))
   .exact rs AA <| rl Z <| rg AA <| rl Z <| Ai <| AM z (wf hA (gi 3 []) Z Z Z)
   refine rs AA <| rl Z <| cd Z aa (fun ab => ?_) (fun ae => ?_)
   .refine rs AA <| rl Z <| rs AA <| rl Z <| cd Z ab (fun ac => ?_) (fun ad => ?_)
    .exact rg AA <| rl Z <| Ai <| AM ac (wf hA [(0, 0), (1, 1), (2, 3)] Z Z Z)
    exact AE <| Ai <| AM ad (wf hA (gi 3 []) Z Z Z)
   exact AE <| Ai <| AM ae (A4.trans (CM 8 3 1 Z) (wf hA (gi 3 []) Z Z Z))
  refine rs AA <| rl Z <| AI ?_
  apply lp (a := o) (fun f : (Int × (List AG)) => ⟨67, [(0, lq (Aw e)), (5, .lsl 0 2 0 f.2.length), (7, .lpb 1 0), (16, ls 3 Ak b.steps), (17, li (b.steps.length : Int)), (18, li c.1), (43, .lsl 2 1 0 d.length), (44, li (d.length : Int)), (45, li f.1)], [(0, .row 96 2 (f.2.map AL)), (1, bx (Ak i)), (2, .row 3 1 (d.map Ah))], 3⟩) af
  . exact wf hA (gi 3 []) Z Z Z
  intro f ax n
  unfold EY at n
  refine rs AA <| rl Z <| AC <| cd Z n (fun ag => ?_) (fun ao => ?_)
  .refine AE <| AD <| jb (fun g : (List AG) => ⟨67, [(0, lq (Aw e)), (5, .lsl 0 2 0 g.length), (7, .lpb 1 0), (16, ls 3 Ak b.steps), (17, li (b.steps.length : Int)), (18, li c.1), (43, .lsl 2 1 0 d.length), (44, li (d.length : Int)), (45, li f.1)], [(0, .row 96 2 (g.map AL)), (1, bx (Ak i)), (2, .row 3 1 (d.map Ah))], 3⟩) ag (fun g ah => ?_) (fun g an => ?_)
   .refine AI <| rs AA <| bq ah fun au j ai => sx Z (By j Z Z Z Z <| sx Z (C4 j Z Z Z <| rl Z <| rs AA <| rl Z <| rs AA <| rn 2 Z <| bq ai fun az t aj => sx Z (AS (Bp _ _ _ t) (.inl Z) Z Z Z <| rl Z <| rs AA <| rl Z <| cd Z aj (fun ak => ?_) (fun am => ?_))))
    .exact rg AA <| rn 3 Z <| bq ak fun a0 u al => sx Z (Ay (enc := AL) (l := f.2) (m := [(⟨i.elem, au⟩ : AG)]) u (fun _ => ⟨Z, Z⟩) Z Z Z Z Z Z <| rl Z <| Ai <| AM al (wf hA [(0, 6), (1, 1), (2, 2)] Z Z Z))
    exact AE <| Ai <| AM am (wf hA (gi 3 []) Z Z Z)
   exact rg AA <| rl Z <| As an (wf hA (gi 3 []) Z Z Z)
  exact AU <| AY <| BR ao fun av ap => Aq <| Ai <| AD <| rg AA <| rl Z <| As ap (wf hA [(0, 0)] Z Z Z)
 refine AU <| AY <| BR aq fun aw ar => Aq <| AD <| rs AA <| rl Z <| AF ?_
 cases ar
 exact er (JF Z (.one (.own (enc := AL) c.2 Z Z))) Le.rfl
noncomputable def Hu (a : AV) (b : Int) : Option Bool :=
 some (a.elem == b)
theorem Re (a : AV) (b : Int) (r : Bool) (h : Hu a b = some r) : A7 Try.prog 101 [.agg (Ak a), .place (Ah b) 0] (· = .bool r) := by
 refine fn AA Try.func101 Z Z 8 Z [.tmp 3] Z [(0, .p (.agg (Ak a))), (1, .p (.place (Ah b) 0))] Z Z fun A hA => ?_
 unfold Hu at h
 refine rs AA <| rl Z <| rs AA <| rl Z <| AF ?_
 cases h
 exact er Z Le.rfl
noncomputable def Fp (b : AW) (c : Int) (a : Int) : Option (Int ⊕ Int) :=
 bif decide (a < (b.steps.length : Int)) then (Al b.steps a).bind fun d => (Hu d c).bind fun e => bif e then some (.inr a) else some (.inl (AQ (a + 1))) else some (.inr (-1))
noncomputable def ER (c : AW) (d : Int) : Option Bool :=
 ((((AO (Fp c d) 0 : Option (Int))).bind fun (b : Int) => some (decide (0 <= b)) : Option (Bool))).bind fun (a : Bool) => some a
theorem L3 (b : AW) (d : Int) (r : Bool) (h : ER b d = some r) : A7 Try.prog 55 [.agg (Ab b), .int .i64 d] (· = .bool r) := by
 refine fn AA Try.func55 Z Z 9 Z [.tmp 4] Z [(0, .p (.agg (Ab b))), (1, .p (.int .i64 d))] Z Z fun A hA => ?_
 unfold ER at h
 refine rs AA <| rl Z <| rs AA <| rn 3 Z <| sx Z (C1 AA (fun e : Bool => lb e) (fun e : Bool => [(0, bx (Ab b)), (1, .box [li d])]) 2 h Try.func100 9 [.tmp 4] [(0, ls 3 Ak b.steps), (1, .fn 101 [.lpb 1 0])] Z Z Z Z Z Z Z Z (fun A hA e k => ?_) (fun e x => ?_))
 .refine rs AA <| rl Z <| rs AA <| rn 2 Z <| sx Z (C1 AA (fun c : Int => li c) (fun c : Int => [(0, bx (Ab b)), (1, .box [li d])]) 2 k Try.func152 19 [.tmp 4] [(0, ls 3 Ak b.steps), (1, .fn 101 [.lpb 1 0])] Z Z Z Z Z Z Z Z (fun A hA c l => ?_) (fun c w => ?_))
  .refine rs AA <| rl Z <| AC <| rs AA <| rn 1 Z <| sx Z (Aj Z Z <| rl Z <| AI ?_)
   apply lp (a := c) (fun f : Int => ⟨19, [(0, ls 3 Ak b.steps), (1, .fn 101 [.lpb 1 0]), (7, li (b.steps.length : Int)), (8, li f)], [(0, bx (Ab b)), (1, .box [li d])], 2⟩) l
   . exact wj hA [(0, 0), (1, 1)] Z Z Z Z
   intro f aa g
   unfold Fp at g
   refine rs AA <| rl Z <| AC <| cd Z g (fun m => ?_) (fun u => ?_)
   .refine AE <| AD <| AC <| AI <| rs AA <| rl Z <| rs AA <| rn 3 Z <| bq m fun ab i n => sx Z (Ap i Z Z Z <| rn 1 Z <| bq n fun ac j o => sx Z (AS (Re _ _ _ j) (.inl Z) Z Z (DP.eq (.cons (.one (.p _)) (.cons (.box Z (.cons (.p _) .nil)) .nil))) <| rl Z <| cd Z o (fun q => ?_) (fun t => ?_)))
    .refine rs AA <| rl Z <| AF <| AR <| AH <| A0 q fun y s => AR <| AH ?_
     have hr := Option.some.inj s; subst hr
     exact Cl (nt := 19) (sl := [(4, li f)]) (wj hA [(0, 0), (1, 1)] Z Z Z Z) Z
    exact AE <| Ai <| AD <| rg AA <| rl Z <| As t (wj hA [(0, 0), (1, 1)] Z Z Z Z)
   refine AU <| AY <| BR u fun z v => Aq <| AD <| rs AA <| rl Z <| AF ?_
   cases v
   exact Cl (nt := 19) (sl := [(4, li (-1))]) (wj hA [(0, 0), (1, 1)] Z Z Z Z) Z
  refine rl Z <| AF ?_
  cases w
  exact Cl (nt := 9) (sl := [(4, lb (decide (0 <= c)))]) (wj hA [(0, 0), (1, 1)] Z Z Z Z) Z
 refine rl Z <| AF ?_
 have hr := Option.some.inj x; subst hr
 exact er Z Le.rfl
noncomputable def BZ (a : A5) (b : AG) : Option Int :=
 bif (Af a.reads b).isSome then some ((Af a.reads b).getD 0) else some (-1)
theorem DQ (a : A5) (b : AG) (r : Int) (h : BZ a b = some r) : A7 Try.prog 56 [.place (Aw a) 0, .agg (AL b)] (· = .int .i64 r) := by
 refine fn AA Try.func56 Z Z 18 Z [.tmp 4] Z [(0, .p (.place (Aw a) 0)), (1, .p (.agg (AL b)))] Z Z fun A hA => ?_
 unfold BZ at h
 refine rs AA <| rl Z <| AC <| AC ?_
 refine CF AA BK [0, 1, 2, 3, 4, 5, 6, 7, 8, 9, 10] 11 (by kernel_rfl) Z Z Z ?_
 refine Ax 5 Z <| Au Z (Ag Z (Hf (et := 3) (ke := (fun x => .agg (AL x))) (ve := (.int .i64)) (mp := a.reads) (y := b) 0 B7 Z Z Z Z <| BG Z <| AD <| rs AA <| rl Z <| cd Z h (fun c => ?_) (fun d => ?_)))
 .refine rs AA <| rl Z <| AF <| AH ?_
  cases c
  exact er Z Le.rfl
 refine AE <| AD <| rs AA <| rl Z <| AF ?_
 cases d
 exact er Z Le.rfl
noncomputable def Ce (b : (List Int)) (c : Int) (a : Int) : Option (Int ⊕ Int) :=
 bif decide (a < (b.length : Int)) then (Al b a).bind fun d => bif (c == d) then some (.inr a) else some (.inl (AQ (a + 1))) else some (.inr (-1))
noncomputable def EZ (a : (List Int)) (b : Int) : Option Int :=
 AO (Ce a b) 0
theorem M2 (b : (List Int)) (c : Int) (r : Int) (h : EZ b c = some r) : A7 Try.prog 72 [.slice 1 (b.map Ah), .int .i64 c] (· = .int .i64 r) := by
 refine fn AA Try.func72 Z Z 19 Z [.tmp 4] Z [(0, .p (.slice 1 (b.map Ah))), (1, .p (.int .i64 c))] Z Z fun A hA => ?_
 unfold EZ at h
 refine rs AA <| rl Z <| AC <| rs AA <| rn 1 Z <| sx Z (Aj Z Z <| rl Z <| AI ?_)
 apply lp (a := r) (fun e : Int => ⟨19, [(0, ls 1 Ah b), (1, li c), (7, li (b.length : Int)), (8, li e)], [], 0⟩) h
 . exact wf hA [] Z Z Z
 intro e s d
 unfold Ce at d
 refine rs AA <| rl Z <| AC <| cd Z d (fun n => ?_) (fun l => ?_)
 .refine AE <| AD <| AC <| AI <| rs AA <| rl Z <| rs AA <| rn 3 Z <| bq n fun t f g => sx Z (Ap f Z Z Z <| rl Z <| cd Z g (fun i => ?_) (fun k => ?_))
  .refine rs AA <| rl Z <| AF <| AR <| AH <| A0 i fun o j => AR <| AH ?_
   have hr := Option.some.inj j; subst hr
   exact er Z Le.rfl
  exact AE <| Ai <| AD <| rg AA <| rl Z <| As k (wf hA [] Z Z Z)
 refine AU <| AY <| BR l fun q m => Aq <| AD <| rs AA <| rl Z <| AF ?_
 cases m
 exact er Z Le.rfl
noncomputable def BA (a : (List Int)) (b : Int) : Option Bool :=
 (EZ a b).bind fun c => some (decide (0 <= c))
theorem CG (a : (List Int)) (b : Int) (r : Bool) (h : BA a b = some r) : A7 Try.prog 57 [.slice 1 (a.map Ah), .int .i64 b] (· = .bool r) := by
 refine fn AA Try.func57 Z Z 9 Z [.tmp 4] Z [(0, .p (.slice 1 (a.map Ah))), (1, .p (.int .i64 b))] Z Z fun A hA => ?_
 unfold BA at h
 refine rs AA <| rl Z <| rs AA <| rn 2 Z <| bq h fun e c d => sx Z (AS (M2 _ _ _ c) (.inl Z) Z Z Z <| rl Z <| AF ?_)
 cases d
 exact er Z Le.rfl
noncomputable def CC (b : (List AX)) (c : AX) (a : Int) : Option (Int ⊕ Int) :=
 bif decide (a < (b.length : Int)) then (Al b a).bind fun d => bif (c == d) then some (.inr a) else some (.inl (AQ (a + 1))) else some (.inr (-1))
noncomputable def DI (a : (List AX)) (b : AX) : Option Int :=
 AO (CC a b) 0
theorem Kq (c : (List AX)) (b : AX) (r : Int) (h : DI c b = some r) : A7 Try.prog 103 [.slice 2 (c.map Ao), .agg (Ao b)] (· = .int .i64 r) := by
 refine fn AA Try.func103 Z Z 19 Z [.tmp 4] Z [(0, .p (.slice 2 (c.map Ao))), (1, .p (.agg (Ao b)))] Z Z fun A hA => ?_
 unfold DI at h
 refine rs AA <| rl Z <| AC <| rs AA <| rn 1 Z <| sx Z (Aj Z Z <| rl Z <| AI ?_)
 apply lp (a := r) (fun e : Int => ⟨19, [(0, ls 2 Ao c), (3, .lpb 0 0), (7, li (c.length : Int)), (8, li e)], [(0, .box [li b.elem, li b.pos])], 1⟩) h
 . exact wf hA [(0, 0)] Z Z Z
 intro e t d
 unfold CC at d
 refine rs AA <| rl Z <| AC <| cd Z d (fun n => ?_) (fun l => ?_)
 .refine AE <| AD <| AC <| AI <| rs AA <| rl Z <| AC ?_
  refine CF AA BK [0, 1, 2, 3, 4, 5] 6 (by kernel_rfl) Z Z Z ?_
  refine Ax 3 Z <| bq n fun o f g => Au Z (Ag Z (Ap f Z Z Z <| Ax 1 Z <| Au Z (Mu (RY b o) Z Z Z Z Z <| BG Z <| AD <| cd Z g (fun i => ?_) (fun k => ?_))))
  .refine rs AA <| rl Z <| AF <| AR <| AH <| A0 i fun q j => AR <| AH ?_
   have hr := Option.some.inj j; subst hr
   exact er Z Le.rfl
  exact AE <| Ai <| AD <| rg AA <| rl Z <| As k (wf hA [(0, 0)] Z Z Z)
 refine AU <| AY <| BR l fun s m => Aq <| AD <| rs AA <| rl Z <| AF ?_
 cases m
 exact er Z Le.rfl
noncomputable def Bl (a : (List AX)) (b : AX) : Option Bool :=
 (DI a b).bind fun c => some (decide (0 <= c))
theorem Dl (a : (List AX)) (b : AX) (r : Bool) (h : Bl a b = some r) : A7 Try.prog 60 [.slice 2 (a.map Ao), .agg (Ao b)] (· = .bool r) := by
 refine fn AA Try.func60 Z Z 9 Z [.tmp 4] Z [(0, .p (.slice 2 (a.map Ao))), (1, .p (.agg (Ao b)))] Z Z fun A hA => ?_
 unfold Bl at h
 refine rs AA <| rl Z <| rs AA <| rn 2 Z <| bq h fun e c d => sx Z (AS (Kq _ _ _ c) (.inl Z) Z Z Z <| rl Z <| AF ?_)
 cases d
 exact er Z Le.rfl
noncomputable def CO (c : A5) (d : Int) (a : Int) : Option (List BY) :=
 ((bif decide (a < 0) then some true else (Bd c d).bind fun f => (Fv f).bind fun g => some (decide (g <= a)) : Option (Bool))).bind fun (e : Bool) => bif e then some [] else (Bd c d).bind fun b => bif (b == 1) then some [(⟨AQ (1 - a), 0⟩ : BY)] else bif (b == 3) then (Al ([1, 0, 3, 2] : List Int) a).bind fun h => some [(⟨h, 0⟩ : BY)] else bif (b == 2) then bif (a == 0) then some [(⟨1, 1⟩ : BY), (⟨2, 2⟩ : BY)] else (Al ([0, 1, 2] : List Int) a).bind fun i => some [(⟨0, i⟩ : BY)] else some []
theorem Ev (b : A5) (c : Int) (a : Int) (r : (List BY)) (h : CO b c a = some r) : A7 Try.prog 118 [.place (Aw b) 0, .int .i64 c, .int .i64 a] (· = .slice 2 (r.map CW)) := by
 refine fn AA Try.func118 Z Z 47 Z [.tmp 6] Z [(0, .p (.place (Aw b) 0)), (1, .p (.int .i64 c)), (2, .p (.int .i64 a))] Z Z fun A hA => ?_
 unfold CO at h
 refine rs AA <| rl Z <| AC <| jb (fun d : Bool => ⟨47, [(0, lq (Aw b)), (1, li c), (2, li a), (17, lb d)], [], 0⟩) h (fun d m => ?_) (fun d t => ?_)
 .refine rg AA <| rn 3 Z <| gs 10 m Z Z Z (fun n => ?_) (fun o => ?_)
  .exact rl Z <| AM n (wf hA [] Z Z Z)
  exact rn 3 Z <| bq o fun ak f q => sx Z (AS (CP _ _ _ f) (.inl Z) Z Z Z <| bq q fun al i s => sx Z (AS (Kk _ _ i) (.inl Z) Z Z Z <| rl Z <| AM s (wf hA [] Z Z Z)))
 refine cd Z t (fun u => ?_) (fun v => ?_)
 .refine rs AA <| rl Z <| AF <| AH ?_
  cases u
  exact er Z (Le.nil _)
 refine AE <| AD <| AC <| rs AA <| rn 2 Z <| bq v fun am j w => sx Z (AS (CP _ _ _ j) (.inl Z) Z Z Z <| rl Z <| AI <| rs AA <| rl Z <| cd Z w (fun x => ?_) (fun z => ?_))
 .refine rs AA <| rl Z <| AF <| AR <| AH ?_
  cases x
  exact er (JF Z (.one (.own (enc := CW) ([(⟨AQ (1 - a), 0⟩ : BY)] : List BY) Z Z))) Le.rfl
 refine rs AA <| rl Z <| cd Z z (fun aa => ?_) (fun ac => ?_)
 .refine rs AA <| rl Z <| rs AA <| rn 1 Z <| bq aa fun ai e ab => sx Z (XS (l := ([1, 0, 3, 2] : List Int)) e Z Z Z Z <| sx Z (XT (g := fun y => .p (.int .i64 y)) e Z Z Z Z <| rl Z <| AF <| AR <| AH ?_))
  cases ab
  exact er (JF Z (.one (.own (enc := CW) ([(⟨ai, 0⟩ : BY)] : List BY) Z Z))) Le.rfl
 refine rs AA <| rl Z <| cd Z ac (fun ad => ?_) (fun ah => ?_)
 .refine AC <| rs AA <| rl Z <| cd Z ad (fun ae => ?_) (fun af => ?_)
  .refine rs AA <| rl Z <| AF <| AH <| AR <| AH ?_
   cases ae
   exact er (JF Z (.one (.own (enc := CW) ([(⟨1, 1⟩ : BY), (⟨2, 2⟩ : BY)] : List BY) Z Z))) Le.rfl
  refine AE <| AD <| rs AA <| rn 2 Z <| bq af fun aj k ag => sx Z (XU (l := ([0, 1, 2] : List Int)) (g := fun y => .int .i64 y) k Z Z Z Z <| rl Z <| AF <| AR <| AH ?_)
  cases ag
  exact er (JF Z (.one (.own (enc := CW) ([(⟨0, aj⟩ : BY)] : List BY) Z Z))) Le.rfl
 refine AE <| Ai <| AD <| rs AA <| rl Z <| AF ?_
 cases ah
 exact er Z (Le.nil _)
noncomputable def Dm (e : Int) (c : (List BY)) (a : Int) : Option (Int ⊕ (Int × Bool)) :=
 bif decide (a < (c.length : Int)) then (Al c a).bind fun b => ((bif (b.pos == 0) then some true else some (b.pos == e) : Option (Bool))).bind fun (d : Bool) => bif d then some (.inr (b.out, true)) else some (.inl (AQ (a + 1))) else some (.inr (0, false))
noncomputable def Dd (a : A5) (b : Int) (c : Int) (d : Int) : Option (Int × Bool) :=
 (CO a b c).bind fun e => AO (Dm d e) 0
theorem Ng (f : A5) (g : Int) (i : Int) (b : Int) (r : (Int × Bool)) (h : Dd f g i b = some r) : A7 Try.prog 104 [.place (Aw f) 0, .int .i64 g, .int .i64 i, .int .i64 b] (· = .tup [.int .i64 r.1, .bool r.2]) := by
 refine fn AA Try.func104 Z Z 33 Z [.tmp 8, .tmp 9] Z [(0, .p (.place (Aw f) 0)), (1, .p (.int .i64 g)), (2, .p (.int .i64 i)), (3, .p (.int .i64 b))] Z Z fun A hA => ?_
 unfold Dd at h
 refine rs AA <| rl Z <| AC <| rs AA <| rn 3 Z <| bq h fun c l n => sx Z (AS (Ev _ _ _ _ l) (.inr Z) Z Z Z <| sx Z (Aj Z Z <| rl Z <| AI ?_))
 apply lp (a := r) (fun d : Int => ⟨33, [(3, li b), (15, ls 2 CW c), (16, li (c.length : Int)), (17, li d)], [], 0⟩) n
 . exact wf hA [] Z Z Z
 intro d ad j
 unfold Dm at j
 refine rs AA <| rl Z <| AC <| cd Z j (fun o => ?_) (fun z => ?_)
 .refine AE <| AD <| AC <| AI <| rs AA <| bq o fun k m q => sx Z (Ap m Z Z Z <| rl Z <| jb (fun e : Bool => ⟨33, [(3, li b), (11, .lpb 0 0), (15, ls 2 CW c), (16, li (c.length : Int)), (17, li d), (29, lb e)], [(0, .box [li k.out, li k.pos])], 1⟩) q (fun e s => ?_) (fun e v => ?_))
  .refine rg AA <| rn 4 Z <| gs 24 s Z Z Z (fun t => ?_) (fun u => ?_)
   .exact rl Z <| AM t (wf hA [(0, 0)] Z Z Z)
   exact rl Z <| AM u (wf hA [(0, 0)] Z Z Z)
  refine cd Z v (fun w => ?_) (fun y => ?_)
  .refine rs AA <| rl Z <| AF <| AR <| AH <| A0 w fun ab x => AR <| AH ?_
   cases x
   exact er Z Le.rfl
  exact AE <| Ai <| AD <| rg AA <| rl Z <| As y (wf hA [] Z Z Z)
 refine AU <| AY <| BR z fun ac aa => Aq <| AD <| rs AA <| rl Z <| AF ?_
 cases aa
 exact er Z Le.rfl
noncomputable def Gj (b : A5) (c : Int) (d : Int) (e : Int) : Option (Int × Bool) :=
 (Dd b c d e).bind fun a => some (a.1, a.2)
theorem Po (a : A5) (b : Int) (c : Int) (d : Int) (r : (Int × Bool)) (h : Gj a b c d = some r) : A7 Try.prog 61 [.place (Aw a) 0, .int .i64 b, .int .i64 c, .int .i64 d] (· = .tup [.int .i64 r.1, .bool r.2]) := by
 refine fn AA Try.func61 Z Z 17 Z [.tmp 8, .tmp 9] Z [(0, .p (.place (Aw a) 0)), (1, .p (.int .i64 b)), (2, .p (.int .i64 c)), (3, .p (.int .i64 d))] Z Z fun A hA => ?_
 unfold Gj at h
 refine rs AA <| rl Z <| rs AA <| rn 4 Z <| bq h fun g e f => sx Z (AS (Ng _ _ _ _ _ e) (.inl Z) Z Z Z <| rl Z <| AF ?_)
 cases f
 exact er Z Le.rfl
end Go.E
/- Plain functions, and walks in step with them. Written by a program (gen.py). No condition. -/
set_option maxRecDepth 100000
namespace Go.E
open Go Go.RowKit Go.Proofs
noncomputable def Cb (d : A5) (e : AW) (r : (List AV)) (l : (List AX)) (am : AK) (a : Bool × (List (AG × Bool)) × (List AX) × (List Int) × (List Int) × (List AG)) : Option ((Bool × (List (AG × Bool)) × (List AX) × (List Int) × (List Int) × (List AG)) ⊕ AW) :=
 bif decide (0 < (a.2.2.2.2.2.length : Int)) then (Al a.2.2.2.2.2 (AQ ((a.2.2.2.2.2.length : Int) - 1))).bind fun b => (LB a.2.2.2.2.2 0 (AQ ((a.2.2.2.2.2.length : Int) - 1))).bind fun c => (((ER (⟨e.frm, e.to, e.fin, r, l, a.2.2.1, a.2.2.2.1, a.2.2.2.2.1, a.1⟩ : AW) b.elem).bind fun an => bif an then some true else some ((Af a.2.1 b).getD false) : Option (Bool))).bind fun (y : Bool) => bif y then some (.inl (a.1, a.2.1, a.2.2.1, a.2.2.2.1, a.2.2.2.2.1, c)) else (BZ d b).bind fun m => ((bif decide (0 <= m) then some (!am.hard) else some false : Option (Bool))).bind fun (z : Bool) => bif z then (((BA a.2.2.2.2.1 m).bind fun ao => bif (!ao) then (Bc a.2.2.2.2.1 [m]).bind fun ap => some ap else some a.2.2.2.2.1 : Option ((List Int)))).bind fun (aa : (List Int)) => some (.inl (a.1, A6 b true a.2.1, a.2.2.1, a.2.2.2.1, aa, c)) else (Bd d b.elem).bind fun s => bif (s == 4) then some (.inl (true, A6 b true a.2.1, a.2.2.1, a.2.2.2.1, a.2.2.2.2.1, c)) else bif (s == 2) then bif (b.fin == 0) then (((((BA a.2.2.2.1 b.elem).bind fun aq => bif aq then some (true, a.1, a.2.2.2.1) else bif decide (12 <= (a.2.2.2.1.length : Int)) then some (false, true, a.2.2.2.1) else (Bc a.2.2.2.1 [b.elem]).bind fun ar => some (true, a.1, ar) : Option (Bool × Bool × (List Int)))).bind fun (h : Bool × Bool × (List Int)) => bif h.1 then (((BI d (⟨b.elem, 2⟩ : AG)).bind fun t => bif t.2 then (Bc c [t.1]).bind fun au => some au else some c : Option ((List AG)))).bind fun (n : (List AG)) => (((BI d (⟨b.elem, 1⟩ : AG)).bind fun u => bif u.2 then (Bc n [u.1]).bind fun av => some av else some n : Option ((List AG)))).bind fun (ab : (List AG)) => some (h.2.1, h.2.2, ab) else some (h.2.1, h.2.2, c) : Option (Bool × (List Int) × (List AG)))).bind fun (k : Bool × (List Int) × (List AG)) => some (.inl (k.1, A6 b true a.2.1, a.2.2.1, k.2.1, a.2.2.2.2.1, k.2.2)) else (((Bl l (⟨b.elem, b.fin⟩ : AX)).bind fun ac => bif ac then some true else (Bl a.2.2.1 (⟨b.elem, b.fin⟩ : AX)).bind fun ad => some ad : Option (Bool))).bind fun (v : Bool) => bif v then (((((BA a.2.2.2.1 b.elem).bind fun ae => bif ae then some (true, a.1, a.2.2.2.1) else bif decide (12 <= (a.2.2.2.1.length : Int)) then some (false, true, a.2.2.2.1) else (Bc a.2.2.2.1 [b.elem]).bind fun af => some (true, a.1, af) : Option (Bool × Bool × (List Int)))).bind fun (f : Bool × Bool × (List Int)) => bif f.1 then (((BI d (⟨b.elem, 0⟩ : AG)).bind fun o => bif o.2 then (Bc c [o.1]).bind fun ag => some ag else some c : Option ((List AG)))).bind fun (w : (List AG)) => some (f.2.1, f.2.2, w) else some (f.2.1, f.2.2, c) : Option (Bool × (List Int) × (List AG)))).bind fun (i : Bool × (List Int) × (List AG)) => some (.inl (i.1, A6 b true a.2.1, a.2.2.1, i.2.1, a.2.2.2.2.1, i.2.2)) else (Bl a.2.2.1 (⟨b.elem, AQ (3 - b.fin)⟩ : AX)).bind fun ah => bif (!ah) then (Bc a.2.2.1 [(⟨b.elem, AQ (3 - b.fin)⟩ : AX)]).bind fun ai => some (.inl (a.1, A6 b true a.2.1, ai, a.2.2.2.1, a.2.2.2.2.1, c)) else some (.inl (a.1, A6 b true a.2.1, a.2.2.1, a.2.2.2.1, a.2.2.2.2.1, c)) else (Gj d b.elem b.fin 0).bind fun p => ((bif p.2 then (((BA a.2.2.2.1 b.elem).bind fun aj => bif aj then some (true, a.1, a.2.2.2.1) else bif decide (12 <= (a.2.2.2.1.length : Int)) then some (false, true, a.2.2.2.1) else (Bc a.2.2.2.1 [b.elem]).bind fun ak => some (true, a.1, ak) : Option (Bool × Bool × (List Int)))).bind fun (j : Bool × Bool × (List Int)) => some (j.1, j.2.1, j.2.2) else some (false, a.1, a.2.2.2.1) : Option (Bool × Bool × (List Int)))).bind fun (g : Bool × Bool × (List Int)) => bif g.1 then (((BI d (⟨b.elem, p.1⟩ : AG)).bind fun q => bif q.2 then (Bc c [q.1]).bind fun al => some al else some c : Option ((List AG)))).bind fun (x : (List AG)) => some (.inl (g.2.1, A6 b true a.2.1, a.2.2.1, g.2.2, a.2.2.2.2.1, x)) else some (.inl (g.2.1, A6 b true a.2.1, a.2.2.1, g.2.2, a.2.2.2.2.1, c)) else some (.inr (⟨e.frm, e.to, e.fin, r, l, a.2.2.1, a.2.2.2.1, a.2.2.2.2.1, a.1⟩ : AW))
noncomputable def EJ (b : A5) (c : AW) (i : (List AV)) (j : (List AX)) (d : AK) (e : (List AG)) (a : Int × (List AG)) : Option ((Int × (List AG)) ⊕ AW) :=
 bif decide (0 <= a.1) then (Al e a.1).bind fun f => (BI b f).bind fun g => (Bc a.2 [g.1]).bind fun h => some (.inl (AQ (a.1 - 1), h)) else (AO (Cb b c i j d) (false, [], ([] : List AX), ([] : List Int), ([] : List Int), a.2)).map .inr
noncomputable def Cn (b : A5) (a : AW) : Option AW :=
 (BO a.steps).bind fun d => (Bm a.needs).bind fun e => (B4 b).bind fun f => (Ey b (⟨a.frm, a.to, a.fin, d, e, [], [], [], false⟩ : AW)).bind fun c => AO (EJ b a d e f c) (AQ ((c.length : Int) - 1), ([] : List AG))
theorem O6 (e : A5) (c : AW) (r : AW) (h : Cn e c = some r) : A7 Try.prog 16 [.place (Aw e) 0, .agg (Ab c)] (· = .agg (Ab r)) := by
 refine fn AA Try.func16 Z Z 187 Z [.cell 4 36] Z [(0, .p (.place (Aw e) 0)), (1, .p (.agg (Ab c)))] Z Z fun A hA => ?_
 unfold Cn at h
 refine rs AA <| rl Z <| sc <| AC ?_
 refine CF AA BK [0, 1, 2, 3, 4, 5, 6, 7, 8, 9] 10 (by kernel_rfl) Z Z Z ?_
 refine Ax 2 Z <| bq h fun g a7 de => Au Z (Bq (Ko _ _ a7) (.inr Z) Z Z Z <| Ax 2 Z <| bq de fun i a8 df => Au Z (Bq (Kp _ _ a8) (.inr Z) Z Z Z <| BG Z <| AD <| rs AA <| rl Z <| rs AA <| rn 1 Z <| bq df fun o a2 c6 => sx Z (AS (II _ _ a2) (.inr Z) Z Z Z <| rl Z <| rs AA <| rl Z <| rs AA <| rl Z <| rs AA <| rn 2 Z <| bq c6 fun e4 a3 c7 => sx Z (AS (A7.le (M0 _ _ _ a3) (.cons Le.rfl (.cons (Le.agg' (.cons Le.rfl (.cons Le.rfl (.cons Le.rfl (.cons Le.rfl (.cons Le.rfl (.cons (Le.nil _) (.cons (Le.nil _) (.cons (Le.nil _) (.cons Le.rfl .nil)))))))))) .nil))) (.inr Z) Z Z Z <| rl Z <| AC <| rs AA <| rn 1 Z <| sx Z (Aj Z Z <| rl Z <| AI ?_)))))
 apply lp (a := r) (fun v : (Int × (List AG)) => ⟨187, [(2, .lpb 0 0), (3, .lpb 1 0), (4, .lpb 2 0), (5, lb o.hard), (6, .lmap 3), (7, .lpb 4 0), (8, ls 2 AL e4), (9, li v.1)], [(0, .box [lq (Aw e)]), (1, .box [li c.frm, li c.to, li c.fin, ls 3 Ak g, ls 2 Ao i, .p (.nils), .p (.nils), .p (.nils), lb false]), (2, .box [li 0, li 0, li 0, .p (.nils), .p (.nils), .p (.nils), .p (.nils), .p (.nils), lb false]), (3, .map (Am (fun x => .agg (AL x)) .bool [])), (4, .box [.lsl 5 2 0 v.2.length]), (5, .row 96 2 (v.2.map AL))], 6⟩) c7
 . exact A4.trans (Ci 14 0 96 2 Z Z Z Z) (wf hA (gi 3 [(3, 13), (4, 14), (5, 15)]) Z Z Z)
 intro v e9 ai
 unfold EJ at ai
 refine AC <| rs AA <| rl Z <| cd Z ai (fun c8 => ?_) (fun dc => ?_)
 .refine AE <| AD <| AC <| AI <| AC ?_
  refine CF AA BK [0, 1, 2, 3, 4, 5, 6, 7, 8, 9, 10, 11] 12 (by kernel_rfl) Z Z Z ?_
  exact Ax 3 Z <| bq c8 fun fl a4 c9 => Au Z (Ag Z (Ap a4 Z Z Z <| Ax 1 Z <| bq c9 fun e5 a5 da => Au Z (Bq (Bp _ _ _ a5) (.inl Z) Z Z Z <| BG Z <| AD <| rg AA <| rn 3 Z <| bq da fun fm a6 db => sx Z (Ay (enc := AL) (l := v.2) (m := [e5.1]) a6 (fun _ => ⟨Z, Z⟩) Z Z Z Z Z Z <| rl Z <| Ai <| AD <| rg AA <| rl Z <| As db (wf hA (gi 5 [(5, 19)]) Z Z Z)))))
 refine AU <| AY <| CN dc fun am dd => Aq <| AD <| rs AA <| rl Z <| AC <| GD <| AD <| AC <| AI ?_
 apply lp (a := am) (fun b : (Bool × (List (AG × Bool)) × (List AX) × (List Int) × (List Int) × (List AG)) => ⟨187, [(2, .lpb 0 0), (3, .lpb 1 0), (4, .lpb 2 0), (5, lb o.hard), (6, .lmap 3), (7, .lpb 4 0), (12, .fn 54 [.lpb 0 0, .lpb 4 0])], [(0, .box [lq (Aw e)]), (1, .box [li c.frm, li c.to, li c.fin, ls 3 Ak g, ls 2 Ao i, .lsl 5 2 0 b.2.2.1.length, .lsl 6 1 0 b.2.2.2.1.length, .lsl 7 1 0 b.2.2.2.2.1.length, lb b.1]), (2, .box [li 0, li 0, li 0, .p (.nils), .p (.nils), .p (.nils), .p (.nils), .p (.nils), lb false]), (3, .map (Am (fun x => .agg (AL x)) .bool b.2.1)), (4, .box [.lsl 8 2 0 b.2.2.2.2.2.length]), (5, .row 46 2 (b.2.2.1.map Ao)), (6, .row 3 1 (b.2.2.2.1.map Ah)), (7, .row 3 1 (b.2.2.2.2.1.map Ah)), (8, .row 96 2 (b.2.2.2.2.2.map AL))], 9⟩) dd
 . exact A4.trans (Ci 1 5 46 2 Z Z Z Z) (A4.trans (Ci 1 6 3 1 Z Z Z Z) (A4.trans (Ci 1 7 3 1 Z Z Z Z) (wf hA (gi 5 [(5, 6), (6, 7), (7, 8), (8, 5)]) Z Z Z)))
 intro b fa aj
 unfold Cb at aj
 refine AC <| rs AA <| rl Z <| cd Z aj (fun dg => ?_) (fun c4 => ?_)
 .refine AE <| AD <| AI <| rs AA <| rn 4 Z <| bq dg fun d ah dh => sx Z (By ah Z Z Z Z <| sx Z (C4 ah Z Z Z <| rl Z <| rs AA <| rn 4 Z <| bq dh fun f ad di => sx Z (Qu (l := b.2.2.2.2.2) ad Z Z Z Z <| rl Z <| AC <| jb (fun af : Bool => ⟨187, [(2, .lpb 0 0), (3, .lpb 1 0), (4, .lpb 2 0), (5, lb o.hard), (6, .lmap 3), (7, .lpb 4 0), (12, .fn 54 [.lpb 0 0, .lpb 4 0]), (13, .lpb 5 0), (81, lb af)], [(0, .box [lq (Aw e)]), (1, .box [li c.frm, li c.to, li c.fin, ls 3 Ak g, ls 2 Ao i, .lsl 6 2 0 b.2.2.1.length, .lsl 7 1 0 b.2.2.2.1.length, .lsl 8 1 0 b.2.2.2.2.1.length, lb b.1]), (2, .box [li 0, li 0, li 0, .p (.nils), .p (.nils), .p (.nils), .p (.nils), .p (.nils), lb false]), (3, .map (Am (fun x => .agg (AL x)) .bool b.2.1)), (4, .box [.lsl 9 2 0 f.length]), (5, .box [li d.elem, li d.fin]), (6, .row 46 2 (b.2.2.1.map Ao)), (7, .row 3 1 (b.2.2.2.1.map Ah)), (8, .row 3 1 (b.2.2.2.2.1.map Ah)), (9, .row 96 2 (f.map AL))], 10⟩) di (fun af dj => ?_) (fun af dn => ?_))))
  .refine rg AA <| rn 3 Z <| bq dj fun fo a9 dk => sx Z (AS (L3 _ _ _ a9) (.inl Z) Z Z (DP.eq (.cons (.agg (.cons (.p _) (.cons (.p _) (.cons (.p _) (.cons (.p _) (.cons (.p _) (.cons (.own (enc := Ao) b.2.2.1 Z Z) (.cons (.own (enc := Ah) b.2.2.2.1 Z Z) (.cons (.own (enc := Ah) b.2.2.2.2.1 Z Z) (.cons (.p _) .nil)))))))))) (.cons (.one (.p _)) .nil))) <| rn 1 Z <| gs 77 dk Z Z Z (fun dl => ?_) (fun dm => ?_))
   .exact rl Z <| AM dl (A4.trans (Js 8 ad Z Z) (wf hA (gi 5 [(5, 9), (6, 5), (7, 6), (8, 7), (9, 8)]) Z Z Z))
   exact rn 2 Z <| sx Z (JK (et := 4) (ke := (fun x => .agg (AL x))) (ve := .bool) (mp := b.2.1) (y := d) false B7 Z Z Z Z <| rl Z <| AM dm (A4.trans (Js 8 ad Z Z) (wf hA (gi 5 [(5, 9), (6, 5), (7, 6), (8, 7), (9, 8)]) Z Z Z)))
  refine cd Z dn (fun dp => ?_) (fun dq => ?_)
  .exact AU <| AY <| Aq <| As dp (wf hA (gi 5 [(5, 6), (6, 7), (7, 8), (8, 9)]) Z Z Z)
  refine AE <| AD <| rs AA <| rn 2 Z <| sx Z (Hg (et := 4) (ke := (fun x => .agg (AL x))) (ve := .bool) (mp := b.2.1) (y := d) (z := true) B7 Z Z Z Z Z Z <| rl Z <| AC <| rs AA <| rn 2 Z <| bq dq fun al ba dr => sx Z (AS (DQ _ _ _ ba) (.inl Z) Z Z Z <| rl Z <| jb (fun ag : Bool => ⟨187, [(2, .lpb 0 0), (3, .lpb 1 0), (4, .lpb 2 0), (5, lb o.hard), (6, .lmap 3), (7, .lpb 4 0), (12, .fn 54 [.lpb 0 0, .lpb 4 0]), (13, .lpb 5 0), (14, li al), (92, lb ag)], [(0, .box [lq (Aw e)]), (1, .box [li c.frm, li c.to, li c.fin, ls 3 Ak g, ls 2 Ao i, .lsl 6 2 0 b.2.2.1.length, .lsl 7 1 0 b.2.2.2.1.length, .lsl 8 1 0 b.2.2.2.2.1.length, lb b.1]), (2, .box [li 0, li 0, li 0, .p (.nils), .p (.nils), .p (.nils), .p (.nils), .p (.nils), lb false]), (3, .map (Am (fun x => .agg (AL x)) .bool (A6 d true b.2.1))), (4, .box [.lsl 9 2 0 f.length]), (5, .box [li d.elem, li d.fin]), (6, .row 46 2 (b.2.2.1.map Ao)), (7, .row 3 1 (b.2.2.2.1.map Ah)), (8, .row 3 1 (b.2.2.2.2.1.map Ah)), (9, .row 96 2 (f.map AL))], 10⟩) dr (fun ag ds => ?_) (fun ag dv => ?_)))
  .refine rg AA <| rn 3 Z <| gs 89 ds Z Z Z (fun dt => ?_) (fun du => ?_)
   .exact rl Z <| AM dt (wf hA (gi 10 []) Z Z Z)
   exact rl Z <| AM du (wf hA (gi 10 []) Z Z Z)
  refine cd Z dv (fun dw => ?_) (fun d3 => ?_)
  .refine jb (fun ac : (List Int) => ⟨187, [(2, .lpb 0 0), (3, .lpb 1 0), (4, .lpb 2 0), (5, lb o.hard), (6, .lmap 3), (7, .lpb 4 0), (12, .fn 54 [.lpb 0 0, .lpb 4 0])], [(0, .box [lq (Aw e)]), (1, .box [li c.frm, li c.to, li c.fin, ls 3 Ak g, ls 2 Ao i, .lsl 5 2 0 b.2.2.1.length, .lsl 6 1 0 b.2.2.2.1.length, .lsl 7 1 0 ac.length, lb b.1]), (2, .box [li 0, li 0, li 0, .p (.nils), .p (.nils), .p (.nils), .p (.nils), .p (.nils), lb false]), (3, .map (Am (fun x => .agg (AL x)) .bool (A6 d true b.2.1))), (4, .box [.lsl 8 2 0 f.length]), (5, .row 46 2 (b.2.2.1.map Ao)), (6, .row 3 1 (b.2.2.2.1.map Ah)), (7, .row 3 1 (ac.map Ah)), (8, .row 96 2 (f.map AL))], 9⟩) dw (fun ac dx => ?_) (fun ac d2 => ?_)
   .refine rs AA <| rn 3 Z <| bq dx fun fp bb dy => sx Z (AS (CG _ _ _ bb) (.inl Z) Z Z (DP.eq (.cons (.one (.own (enc := Ah) b.2.2.2.2.1 Z Z)) (.cons (.one (.p _)) .nil))) <| rl Z <| cd Z dy (fun dz => ?_) (fun d1 => ?_))
    .exact rg AA <| rn 4 Z <| bq dz fun fq bc d0 => sx Z (Ay (enc := Ah) (l := b.2.2.2.2.1) (m := [al]) bc (fun _ => ⟨Z, Z⟩) Z Z Z Z Z Z <| rl Z <| AM d0 (wf hA (gi 5 [(5, 6), (6, 7), (7, 11), (8, 9)]) Z Z Z))
    exact AE <| AM d1 (wf hA (gi 5 [(5, 6), (6, 7), (7, 8), (8, 9)]) Z Z Z)
   exact AU <| AY <| Aq <| As d2 (wf hA (gi 9 []) Z Z Z)
  refine AE <| AD <| rs AA <| rn 3 Z <| bq d3 fun fr be d4 => sx Z (AS (CP _ _ _ be) (.inl Z) Z Z Z <| rl Z <| AI <| rs AA <| rl Z <| cd Z d4 (fun d5 => ?_) (fun d6 => ?_))
  .exact rg AA <| rl Z <| Ai <| Ai <| As d5 (wf hA (gi 5 [(5, 6), (6, 7), (7, 8), (8, 9)]) Z Z Z)
  refine rs AA <| rl Z <| cd Z d6 (fun d7 => ?_) (fun ci => ?_)
  .refine AC <| rs AA <| rl Z <| cd Z d7 (fun d8 => ?_) (fun e1 => ?_)
   .refine jb (fun t : (Bool × (List Int) × (List AG)) => ⟨187, [(2, .lpb 0 0), (3, .lpb 1 0), (4, .lpb 2 0), (5, lb o.hard), (6, .lmap 3), (7, .lpb 4 0), (12, .fn 54 [.lpb 0 0, .lpb 4 0])], [(0, .box [lq (Aw e)]), (1, .box [li c.frm, li c.to, li c.fin, ls 3 Ak g, ls 2 Ao i, .lsl 5 2 0 b.2.2.1.length, .lsl 6 1 0 t.2.1.length, .lsl 7 1 0 b.2.2.2.2.1.length, lb t.1]), (2, .box [li 0, li 0, li 0, .p (.nils), .p (.nils), .p (.nils), .p (.nils), .p (.nils), lb false]), (3, .map (Am (fun x => .agg (AL x)) .bool (A6 d true b.2.1))), (4, .box [.lsl 8 2 0 t.2.2.length]), (5, .row 46 2 (b.2.2.1.map Ao)), (6, .row 3 1 (t.2.1.map Ah)), (7, .row 3 1 (b.2.2.2.2.1.map Ah)), (8, .row 96 2 (t.2.2.map AL))], 9⟩) d8 (fun t d9 => ?_) (fun t e0 => ?_)
    .refine rs AA <| rn 2 Z <| sx Z (C1 AA (fun j : (Bool × Bool × (List Int)) => lb j.1) (fun j : (Bool × Bool × (List Int)) => [(0, .box [lq (Aw e)]), (1, .box [li c.frm, li c.to, li c.fin, ls 3 Ak g, ls 2 Ao i, .lsl 6 2 0 b.2.2.1.length, .lsl 10 1 0 j.2.2.length, .lsl 8 1 0 b.2.2.2.2.1.length, lb j.2.1]), (2, .box [li 0, li 0, li 0, .p (.nils), .p (.nils), .p (.nils), .p (.nils), .p (.nils), lb false]), (3, .map (Am (fun x => .agg (AL x)) .bool (A6 d true b.2.1))), (4, .box [.lsl 9 2 0 f.length]), (5, .box [li d.elem, li d.fin]), (6, .row 46 2 (b.2.2.1.map Ao)), (8, .row 3 1 (b.2.2.2.2.1.map Ah)), (9, .row 96 2 (f.map AL)), (10, .row 3 1 (j.2.2.map Ah))]) 11 d9 Try.func59 30 [.tmp 4] [(0, .lpb 1 0), (1, li d.elem)] Z Z Z Z Z Z Z Z (fun A hA j ea => ?_) (fun j eh => ?_))
     .refine rs AA <| rl Z <| AC <| rs AA <| rn 5 Z <| bq ea fun fs bf eb => sx Z (AS (CG _ _ _ bf) (.inl Z) Z Z (DP.eq (.cons (.one (.own (enc := Ah) b.2.2.2.1 Z Z)) (.cons (.one (.p _)) .nil))) <| rl Z <| cd Z eb (fun ec => ?_) (fun ed => ?_))
      .refine rs AA <| rl Z <| AF <| AH ?_
       cases ec
       exact Cl (nt := 30) (sl := [(4, lb true)]) (wj hA (gi 7 [(8, 8), (9, 9), (10, 7), (7, 7)]) Z Z Z Z) Z
      refine AE <| AD <| AC <| rs AA <| rl Z <| cd Z ed (fun ee => ?_) (fun ef => ?_)
      .refine rs AA <| rl Z <| rs AA <| rl Z <| AF <| AH ?_
       cases ee
       exact Cl (nt := 30) (sl := [(4, lb false)]) (wj hA (gi 7 [(8, 8), (9, 9), (10, 7), (7, 7)]) Z Z Z Z) Z
      refine AE <| AD <| rs AA <| rn 7 Z <| bq ef fun ft bg eg => sx Z (Ay (enc := Ah) (l := b.2.2.2.1) (m := [d.elem]) bg (fun _ => ⟨Z, Z⟩) Z Z Z Z Z Z <| rl Z <| rs AA <| rl Z <| AF ?_)
      cases eg
      exact Cl (nt := 30) (sl := [(4, lb true)]) (wj hA (gi 7 [(8, 8), (9, 9), (10, 11), (7, 7)]) Z Z Z Z) Z
     refine rl Z <| cd Z eh (fun ei => ?_) (fun ez => ?_)
     .refine rs AA <| rn 3 Z <| sx Z (C1 AA (fun u : (List AG) => .tup []) (fun u : (List AG) => [(0, .box [lq (Aw e)]), (1, .box [li c.frm, li c.to, li c.fin, ls 3 Ak g, ls 2 Ao i, .lsl 6 2 0 b.2.2.1.length, .lsl 10 1 0 j.2.2.length, .lsl 8 1 0 b.2.2.2.2.1.length, lb j.2.1]), (2, .box [li 0, li 0, li 0, .p (.nils), .p (.nils), .p (.nils), .p (.nils), .p (.nils), lb false]), (3, .map (Am (fun x => .agg (AL x)) .bool (A6 d true b.2.1))), (4, .box [.lsl 11 2 0 u.length]), (5, .box [li d.elem, li d.fin]), (6, .row 46 2 (b.2.2.1.map Ao)), (8, .row 3 1 (b.2.2.2.2.1.map Ah)), (10, .row 3 1 (j.2.2.map Ah)), (11, .row 96 2 (u.map AL))]) 12 ei Try.func54 21 [] [(0, li d.elem), (1, li 2), (2, .lpb 0 0), (3, .lpb 4 0)] Z Z Z Z Z Z Z Z (fun A hA u ej => ?_) (fun u ep => ?_))
      .refine rs AA <| rn 4 Z <| bq ej fun e6 bh ek => sx Z (AS (Bp _ _ _ bh) (.inl Z) Z Z Z <| rl Z <| rs AA <| rl Z <| cd Z ek (fun el => ?_) (fun eo => ?_))
       .refine rg AA <| rn 3 Z <| bq el fun fu bi em => sx Z (Ay (enc := AL) (l := f) (m := [e6.1]) bi (fun _ => ⟨Z, Z⟩) Z Z Z Z Z Z <| rl Z ?_)
        have hr := Option.some.inj em; subst hr
        exact Nk (nt := 21) (sl := []) (wj hA (gi 9 [(10, 10), (11, 13), (9, 9)]) Z Z Z Z) Z
       refine AE ?_
       have hr := Option.some.inj eo; subst hr
       exact Nk (nt := 21) (sl := []) (wj hA (gi 9 [(10, 10), (11, 9), (9, 9)]) Z Z Z Z) Z
      refine rl Z <| rg AA <| rn 3 Z <| sx Z (C1 AA (fun ab : (List AG) => .tup []) (fun ab : (List AG) => [(0, .box [lq (Aw e)]), (1, .box [li c.frm, li c.to, li c.fin, ls 3 Ak g, ls 2 Ao i, .lsl 6 2 0 b.2.2.1.length, .lsl 10 1 0 j.2.2.length, .lsl 8 1 0 b.2.2.2.2.1.length, lb j.2.1]), (2, .box [li 0, li 0, li 0, .p (.nils), .p (.nils), .p (.nils), .p (.nils), .p (.nils), lb false]), (3, .map (Am (fun x => .agg (AL x)) .bool (A6 d true b.2.1))), (4, .box [.lsl 12 2 0 ab.length]), (5, .box [li d.elem, li d.fin]), (6, .row 46 2 (b.2.2.1.map Ao)), (8, .row 3 1 (b.2.2.2.2.1.map Ah)), (10, .row 3 1 (j.2.2.map Ah)), (12, .row 96 2 (ab.map AL))]) 13 ep Try.func54 21 [] [(0, li d.elem), (1, li 1), (2, .lpb 0 0), (3, .lpb 4 0)] Z Z Z Z Z Z Z Z (fun A hA ab es => ?_) (fun ab ey => ?_))
      .refine rs AA <| rn 4 Z <| bq es fun e7 bj eu => sx Z (AS (Bp _ _ _ bj) (.inl Z) Z Z Z <| rl Z <| rs AA <| rl Z <| cd Z eu (fun ev => ?_) (fun ex => ?_))
       .refine rg AA <| rn 3 Z <| bq ev fun fv bk ew => sx Z (Ay (enc := AL) (l := u) (m := [e7.1]) bk (fun _ => ⟨Z, Z⟩) Z Z Z Z Z Z <| rl Z ?_)
        have hr := Option.some.inj ew; subst hr
        exact Nk (nt := 21) (sl := []) (wj hA (gi 11 [(12, 14), (11, 11)]) Z Z Z Z) Z
       refine AE ?_
       have hr := Option.some.inj ex; subst hr
       exact Nk (nt := 21) (sl := []) (wj hA (gi 11 [(12, 11), (11, 11)]) Z Z Z Z) Z
      exact rl Z <| AM ey (wf hA (gi 5 [(5, 6), (6, 10), (7, 8), (8, 12)]) Z Z Z)
     exact AE <| AM ez (wf hA (gi 5 [(5, 6), (6, 10), (7, 8), (8, 9)]) Z Z Z)
    exact AU <| AY <| Lk Z <| Aq <| As e0 (wf hA (gi 9 []) Z Z Z)
   refine AE <| AD <| rs AA <| rl Z <| AC <| jb (fun ae : Bool => ⟨187, [(2, .lpb 0 0), (3, .lpb 1 0), (4, .lpb 2 0), (5, lb o.hard), (6, .lmap 3), (7, .lpb 4 0), (12, .fn 54 [.lpb 0 0, .lpb 4 0]), (13, .lpb 5 0), (161, lb ae)], [(0, .box [lq (Aw e)]), (1, .box [li c.frm, li c.to, li c.fin, ls 3 Ak g, ls 2 Ao i, .lsl 6 2 0 b.2.2.1.length, .lsl 7 1 0 b.2.2.2.1.length, .lsl 8 1 0 b.2.2.2.2.1.length, lb b.1]), (2, .box [li 0, li 0, li 0, .p (.nils), .p (.nils), .p (.nils), .p (.nils), .p (.nils), lb false]), (3, .map (Am (fun x => .agg (AL x)) .bool (A6 d true b.2.1))), (4, .box [.lsl 9 2 0 f.length]), (5, .box [li d.elem, li d.fin]), (6, .row 46 2 (b.2.2.1.map Ao)), (7, .row 3 1 (b.2.2.2.1.map Ah)), (8, .row 3 1 (b.2.2.2.2.1.map Ah)), (9, .row 96 2 (f.map AL))], 10⟩) e1 (fun ae bl => ?_) (fun ae br => ?_)
   .refine rg AA <| rn 3 Z <| bq bl fun fb an bm => sx Z (AS (Dl _ _ _ an) (.inl Z) Z Z Z <| rn 1 Z <| gs 156 bm Z Z Z (fun bn => ?_) (fun bo => ?_))
    .exact rl Z <| AM bn (wf hA (gi 10 []) Z Z Z)
    exact rn 3 Z <| bq bo fun fc ao bp => sx Z (AS (Dl _ _ _ ao) (.inl Z) Z Z (DP.eq (.cons (.one (.own (enc := Ao) b.2.2.1 Z Z)) (.cons (.one (.p _)) .nil))) <| rl Z <| AM bp (wf hA (gi 10 []) Z Z Z))
   refine cd Z br (fun bs => ?_) (fun cc => ?_)
   .refine jb (fun q : (Bool × (List Int) × (List AG)) => ⟨187, [(2, .lpb 0 0), (3, .lpb 1 0), (4, .lpb 2 0), (5, lb o.hard), (6, .lmap 3), (7, .lpb 4 0), (12, .fn 54 [.lpb 0 0, .lpb 4 0])], [(0, .box [lq (Aw e)]), (1, .box [li c.frm, li c.to, li c.fin, ls 3 Ak g, ls 2 Ao i, .lsl 5 2 0 b.2.2.1.length, .lsl 6 1 0 q.2.1.length, .lsl 7 1 0 b.2.2.2.2.1.length, lb q.1]), (2, .box [li 0, li 0, li 0, .p (.nils), .p (.nils), .p (.nils), .p (.nils), .p (.nils), lb false]), (3, .map (Am (fun x => .agg (AL x)) .bool (A6 d true b.2.1))), (4, .box [.lsl 8 2 0 q.2.2.length]), (5, .row 46 2 (b.2.2.1.map Ao)), (6, .row 3 1 (q.2.1.map Ah)), (7, .row 3 1 (b.2.2.2.2.1.map Ah)), (8, .row 96 2 (q.2.2.map AL))], 9⟩) bs (fun q bt => ?_) (fun q cb => ?_)
    .refine rs AA <| rn 2 Z <| sx Z (C1 AA (fun k : (Bool × Bool × (List Int)) => lb k.1) (fun k : (Bool × Bool × (List Int)) => [(0, .box [lq (Aw e)]), (1, .box [li c.frm, li c.to, li c.fin, ls 3 Ak g, ls 2 Ao i, .lsl 6 2 0 b.2.2.1.length, .lsl 10 1 0 k.2.2.length, .lsl 8 1 0 b.2.2.2.2.1.length, lb k.2.1]), (2, .box [li 0, li 0, li 0, .p (.nils), .p (.nils), .p (.nils), .p (.nils), .p (.nils), lb false]), (3, .map (Am (fun x => .agg (AL x)) .bool (A6 d true b.2.1))), (4, .box [.lsl 9 2 0 f.length]), (5, .box [li d.elem, li d.fin]), (6, .row 46 2 (b.2.2.1.map Ao)), (8, .row 3 1 (b.2.2.2.2.1.map Ah)), (9, .row 96 2 (f.map AL)), (10, .row 3 1 (k.2.2.map Ah))]) 11 bt Try.func59 30 [.tmp 4] [(0, .lpb 1 0), (1, li d.elem)] Z Z Z Z Z Z Z Z (fun A hA k bu => ?_) (fun k b2 => ?_))
     .refine rs AA <| rl Z <| AC <| rs AA <| rn 5 Z <| bq bu fun fd ap bv => sx Z (AS (CG _ _ _ ap) (.inl Z) Z Z (DP.eq (.cons (.one (.own (enc := Ah) b.2.2.2.1 Z Z)) (.cons (.one (.p _)) .nil))) <| rl Z <| cd Z bv (fun bw => ?_) (fun bx => ?_))
      .refine rs AA <| rl Z <| AF <| AH ?_
       cases bw
       exact Cl (nt := 30) (sl := [(4, lb true)]) (wj hA (gi 7 [(8, 8), (9, 9), (10, 7), (7, 7)]) Z Z Z Z) Z
      refine AE <| AD <| AC <| rs AA <| rl Z <| cd Z bx (fun bz => ?_) (fun b0 => ?_)
      .refine rs AA <| rl Z <| rs AA <| rl Z <| AF <| AH ?_
       cases bz
       exact Cl (nt := 30) (sl := [(4, lb false)]) (wj hA (gi 7 [(8, 8), (9, 9), (10, 7), (7, 7)]) Z Z Z Z) Z
      refine AE <| AD <| rs AA <| rn 7 Z <| bq b0 fun fe aq b1 => sx Z (Ay (enc := Ah) (l := b.2.2.2.1) (m := [d.elem]) aq (fun _ => ⟨Z, Z⟩) Z Z Z Z Z Z <| rl Z <| rs AA <| rl Z <| AF ?_)
      cases b1
      exact Cl (nt := 30) (sl := [(4, lb true)]) (wj hA (gi 7 [(8, 8), (9, 9), (10, 11), (7, 7)]) Z Z Z Z) Z
     refine rl Z <| cd Z b2 (fun b3 => ?_) (fun ca => ?_)
     .refine rg AA <| rn 3 Z <| sx Z (C1 AA (fun w : (List AG) => .tup []) (fun w : (List AG) => [(0, .box [lq (Aw e)]), (1, .box [li c.frm, li c.to, li c.fin, ls 3 Ak g, ls 2 Ao i, .lsl 6 2 0 b.2.2.1.length, .lsl 10 1 0 k.2.2.length, .lsl 8 1 0 b.2.2.2.2.1.length, lb k.2.1]), (2, .box [li 0, li 0, li 0, .p (.nils), .p (.nils), .p (.nils), .p (.nils), .p (.nils), lb false]), (3, .map (Am (fun x => .agg (AL x)) .bool (A6 d true b.2.1))), (4, .box [.lsl 11 2 0 w.length]), (5, .box [li d.elem, li d.fin]), (6, .row 46 2 (b.2.2.1.map Ao)), (8, .row 3 1 (b.2.2.2.2.1.map Ah)), (10, .row 3 1 (k.2.2.map Ah)), (11, .row 96 2 (w.map AL))]) 12 b3 Try.func54 21 [] [(0, li d.elem), (1, li 0), (2, .lpb 0 0), (3, .lpb 4 0)] Z Z Z Z Z Z Z Z (fun A hA w b4 => ?_) (fun w b9 => ?_))
      .refine rs AA <| rn 4 Z <| bq b4 fun e2 ar b5 => sx Z (AS (Bp _ _ _ ar) (.inl Z) Z Z Z <| rl Z <| rs AA <| rl Z <| cd Z b5 (fun b6 => ?_) (fun b8 => ?_))
       .refine rg AA <| rn 3 Z <| bq b6 fun ff au b7 => sx Z (Ay (enc := AL) (l := f) (m := [e2.1]) au (fun _ => ⟨Z, Z⟩) Z Z Z Z Z Z <| rl Z ?_)
        have hr := Option.some.inj b7; subst hr
        exact Nk (nt := 21) (sl := []) (wj hA (gi 9 [(10, 10), (11, 13), (9, 9)]) Z Z Z Z) Z
       refine AE ?_
       have hr := Option.some.inj b8; subst hr
       exact Nk (nt := 21) (sl := []) (wj hA (gi 9 [(10, 10), (11, 9), (9, 9)]) Z Z Z Z) Z
      exact rl Z <| AM b9 (wf hA (gi 5 [(5, 6), (6, 10), (7, 8), (8, 11)]) Z Z Z)
     exact AE <| AM ca (wf hA (gi 5 [(5, 6), (6, 10), (7, 8), (8, 9)]) Z Z Z)
    exact AU <| AY <| Lk Z <| Aq <| As cb (wf hA (gi 9 []) Z Z Z)
   refine AE <| AD <| rs AA <| rl Z <| rs AA <| rn 3 Z <| bq cc fun fg av ce => sx Z (AS (Dl _ _ _ av) (.inl Z) Z Z (DP.eq (.cons (.one (.own (enc := Ao) b.2.2.1 Z Z)) (.cons (.one (.p _)) .nil))) <| rl Z <| cd Z ce (fun cf => ?_) (fun ch => ?_))
   .exact rg AA <| rn 4 Z <| bq cf fun fh aw cg => sx Z (Ay (enc := Ao) (l := b.2.2.1) (m := [(⟨d.elem, AQ (3 - d.fin)⟩ : AX)]) aw (fun _ => ⟨Z, Z⟩) Z Z Z Z Z Z <| rl Z <| Ai <| Ai <| As cg (wf hA (gi 5 [(5, 12), (6, 7), (7, 8), (8, 9)]) Z Z Z))
   exact AE <| Ai <| Ai <| As ch (wf hA (gi 5 [(5, 6), (6, 7), (7, 8), (8, 9)]) Z Z Z)
  refine rs AA <| rn 5 Z <| bq ci fun ak ax cj => sx Z (AS (Po _ _ _ _ _ ax) (.inl Z) Z Z Z <| rl Z <| jb (fun n : (Bool × Bool × (List Int)) => ⟨187, [(2, .lpb 0 0), (3, .lpb 1 0), (4, .lpb 2 0), (5, lb o.hard), (6, .lmap 3), (7, .lpb 4 0), (12, .fn 54 [.lpb 0 0, .lpb 4 0]), (13, .lpb 5 0), (17, li ak.1), (122, lb n.1)], [(0, .box [lq (Aw e)]), (1, .box [li c.frm, li c.to, li c.fin, ls 3 Ak g, ls 2 Ao i, .lsl 6 2 0 b.2.2.1.length, .lsl 7 1 0 n.2.2.length, .lsl 8 1 0 b.2.2.2.2.1.length, lb n.2.1]), (2, .box [li 0, li 0, li 0, .p (.nils), .p (.nils), .p (.nils), .p (.nils), .p (.nils), lb false]), (3, .map (Am (fun x => .agg (AL x)) .bool (A6 d true b.2.1))), (4, .box [.lsl 9 2 0 f.length]), (5, .box [li d.elem, li d.fin]), (6, .row 46 2 (b.2.2.1.map Ao)), (7, .row 3 1 (n.2.2.map Ah)), (8, .row 3 1 (b.2.2.2.2.1.map Ah)), (9, .row 96 2 (f.map AL))], 10⟩) cj (fun n ck => ?_) (fun n cv => ?_))
  .refine rg AA <| rn 2 Z <| gs 118 ck Z Z Z (fun cl => ?_) (fun cu => ?_)
   .refine rn 2 Z <| sx Z (C1 AA (fun s : (Bool × Bool × (List Int)) => lb s.1) (fun s : (Bool × Bool × (List Int)) => [(0, .box [lq (Aw e)]), (1, .box [li c.frm, li c.to, li c.fin, ls 3 Ak g, ls 2 Ao i, .lsl 6 2 0 b.2.2.1.length, .lsl 10 1 0 s.2.2.length, .lsl 8 1 0 b.2.2.2.2.1.length, lb s.2.1]), (2, .box [li 0, li 0, li 0, .p (.nils), .p (.nils), .p (.nils), .p (.nils), .p (.nils), lb false]), (3, .map (Am (fun x => .agg (AL x)) .bool (A6 d true b.2.1))), (4, .box [.lsl 9 2 0 f.length]), (5, .box [li d.elem, li d.fin]), (6, .row 46 2 (b.2.2.1.map Ao)), (8, .row 3 1 (b.2.2.2.2.1.map Ah)), (9, .row 96 2 (f.map AL)), (10, .row 3 1 (s.2.2.map Ah))]) 11 cl Try.func59 30 [.tmp 4] [(0, .lpb 1 0), (1, li d.elem)] Z Z Z Z Z Z Z Z (fun A hA s cm => ?_) (fun s ct => ?_))
    .refine rs AA <| rl Z <| AC <| rs AA <| rn 5 Z <| bq cm fun fi ay cn => sx Z (AS (CG _ _ _ ay) (.inl Z) Z Z (DP.eq (.cons (.one (.own (enc := Ah) b.2.2.2.1 Z Z)) (.cons (.one (.p _)) .nil))) <| rl Z <| cd Z cn (fun co => ?_) (fun cp => ?_))
     .refine rs AA <| rl Z <| AF <| AH ?_
      cases co
      exact Cl (nt := 30) (sl := [(4, lb true)]) (wj hA (gi 7 [(8, 8), (9, 9), (10, 7), (7, 7)]) Z Z Z Z) Z
     refine AE <| AD <| AC <| rs AA <| rl Z <| cd Z cp (fun cq => ?_) (fun cr => ?_)
     .refine rs AA <| rl Z <| rs AA <| rl Z <| AF <| AH ?_
      cases cq
      exact Cl (nt := 30) (sl := [(4, lb false)]) (wj hA (gi 7 [(8, 8), (9, 9), (10, 7), (7, 7)]) Z Z Z Z) Z
     refine AE <| AD <| rs AA <| rn 7 Z <| bq cr fun fj az cs => sx Z (Ay (enc := Ah) (l := b.2.2.2.1) (m := [d.elem]) az (fun _ => ⟨Z, Z⟩) Z Z Z Z Z Z <| rl Z <| rs AA <| rl Z <| AF ?_)
     cases cs
     exact Cl (nt := 30) (sl := [(4, lb true)]) (wj hA (gi 7 [(8, 8), (9, 9), (10, 11), (7, 7)]) Z Z Z Z) Z
    exact rl Z <| AM ct (wf hA (gi 7 [(7, 10), (8, 8), (9, 9)]) Z Z Z)
   exact rl Z <| AM cu (wf hA (gi 10 []) Z Z Z)
  refine cd Z cv (fun cw => ?_) (fun c3 => ?_)
  .refine rg AA <| rn 4 Z <| sx Z (C1 AA (fun aa : (List AG) => .tup []) (fun aa : (List AG) => [(0, .box [lq (Aw e)]), (1, .box [li c.frm, li c.to, li c.fin, ls 3 Ak g, ls 2 Ao i, .lsl 6 2 0 b.2.2.1.length, .lsl 7 1 0 n.2.2.length, .lsl 8 1 0 b.2.2.2.2.1.length, lb n.2.1]), (2, .box [li 0, li 0, li 0, .p (.nils), .p (.nils), .p (.nils), .p (.nils), .p (.nils), lb false]), (3, .map (Am (fun x => .agg (AL x)) .bool (A6 d true b.2.1))), (4, .box [.lsl 10 2 0 aa.length]), (5, .box [li d.elem, li d.fin]), (6, .row 46 2 (b.2.2.1.map Ao)), (7, .row 3 1 (n.2.2.map Ah)), (8, .row 3 1 (b.2.2.2.2.1.map Ah)), (10, .row 96 2 (aa.map AL))]) 11 cw Try.func54 21 [] [(0, li d.elem), (1, li ak.1), (2, .lpb 0 0), (3, .lpb 4 0)] Z Z Z Z Z Z Z Z (fun A hA aa cx => ?_) (fun aa c2 => ?_))
   .refine rs AA <| rn 4 Z <| bq cx fun e3 a0 cy => sx Z (AS (Bp _ _ _ a0) (.inl Z) Z Z Z <| rl Z <| rs AA <| rl Z <| cd Z cy (fun cz => ?_) (fun c1 => ?_))
    .refine rg AA <| rn 3 Z <| bq cz fun fk a1 c0 => sx Z (Ay (enc := AL) (l := f) (m := [e3.1]) a1 (fun _ => ⟨Z, Z⟩) Z Z Z Z Z Z <| rl Z ?_)
     have hr := Option.some.inj c0; subst hr
     exact Nk (nt := 21) (sl := []) (wj hA (gi 9 [(10, 12), (9, 9)]) Z Z Z Z) Z
    refine AE ?_
    have hr := Option.some.inj c1; subst hr
    exact Nk (nt := 21) (sl := []) (wj hA (gi 9 [(10, 9), (9, 9)]) Z Z Z Z) Z
   exact rl Z <| Ai <| Ai <| As c2 (wf hA (gi 5 [(5, 6), (6, 7), (7, 8), (8, 10)]) Z Z Z)
  exact AE <| Ai <| Ai <| As c3 (wf hA (gi 5 [(5, 6), (6, 7), (7, 8), (8, 9)]) Z Z Z)
 refine AU <| AY <| BR c4 fun e8 c5 => Aq <| AD <| rs AA <| rl Z <| AF <| DW ?_
 cases c5
 exact er (JF Z (.agg (.cons (.p _) (.cons (.p _) (.cons (.p _) (.cons (.p _) (.cons (.p _) (.cons (.own (enc := Ao) b.2.2.1 Z Z) (.cons (.own (enc := Ah) b.2.2.2.1 Z Z) (.cons (.own (enc := Ah) b.2.2.2.2.1 Z Z) (.cons (.p _) .nil))))))))))) Le.rfl
end Go.E
/- Plain functions, and walks in step with them. Written by a program (gen.py). No condition. -/
set_option maxRecDepth 100000
namespace Go.E
open Go Go.RowKit Go.Proofs
end Go.E
/- Plain functions, and walks in step with them. Written by a program (gen.py). No condition. -/
set_option maxRecDepth 100000
namespace Go.E
open Go Go.RowKit Go.Proofs
end Go.E
/- Plain functions, and walks in step with them. Written by a program (gen.py). No condition. -/
set_option maxRecDepth 100000
namespace Go.E
open Go Go.RowKit Go.Proofs
end Go.E
