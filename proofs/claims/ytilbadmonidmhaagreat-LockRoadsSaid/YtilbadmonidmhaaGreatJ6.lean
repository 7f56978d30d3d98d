/- Plain Lean: Free on a row of owners. No condition. -/
import Derived.KernelRfl
import Derived.Test.YtilbadmonidmhaaGreatJ5
set_option linter.unusedVariables false
set_option linter.unusedSimpArgs false
namespace Go.E
open Go
variable {n : Int} {L : List (Int × Bu)}
theorem Ru {α : Type} (f : Bu -> α) (v : α) (o : Int) : ∀ {L : List (Int × Bu)}, (L.map (·.1)).Nodup -> o ∈ L.map (·.1) -> A5 o v (L.map fun p => (p.1, f p.2)) = L.map fun p => (p.1, if p.1 = o then v else f p.2)
 | [], _, h => by cases h
 | q :: L, hk, h => by
  simp only [List.map_cons, List.nodup_cons] at hk
  simp only [List.map_cons, List.mem_cons] at h
  simp only [List.map_cons, A5]
  by_cases e : o = q.1
  .rw [if_pos (by simpa using e), if_pos e.symm, e]
   refine congrArg _ (List.map_congr_left fun p hp => ?_)
   have : ¬ p.1 = q.1 := fun e2 => hk.1 (e2 ▸ List.mem_map_of_mem hp)
   rw [if_neg this]
  rw [if_neg (by simpa using e), if_neg (fun e2 => e e2.symm)]
  rw [Ru f v o hk.2 (h.resolve_left e)]
def Gy (e : Int) (b : Bu) : Bu := ⟨b.st.filter fun x => !(decide (x = e)), b.zn, b.nd.filter fun x => !(decide (x.elem = e)), b.gd⟩
def freeM (L : List (Int × Bu)) (o e : Int) : List (Int × Bu) := L.map fun q => if q.1 = o then (q.1, Gy e q.2) else q
def L5 (b : Bu) : Bool := decide (0 < b.st.length + b.zn.length + b.gd.length)
def Hk (L : List (Int × Bu)) (o e : Int) : List (Int × Bu) := (freeM L o e).filter fun q => !(decide (q.1 = o)) || L5 q.2
theorem RE (o e : Int) : (freeM L o e).map (·.1) = L.map (·.1) := by
 unfold freeM
 rw [List.map_map]
 refine List.map_congr_left fun q _ => ?_
 simp only [Function.comp]
 split <;> rfl
theorem AAu (hk : (L.map (·.1)).Nodup) {p : Int × Bu} (hp : p ∈ L) (s1 : p.2.st.length <= 1000) (s2 : p.2.zn.length <= 1000) (s3 : p.2.gd.length <= 1000) : BZ (bk n L) p.1 = some (L5 p.2) := by
 unfold BZ
 refine congrArg some (decide_eq_decide.2 ?_)
 simp only [bk]
 rw [CV (·.st) hk hp, CV (·.zn) hk hp, CV (·.gd) hk hp]
 simp only [Option.getD_some]
 rw [CL (n := (p.2.st.length : Int) + (p.2.zn.length : Int)) (by omega) (by omega), CL (n := (p.2.st.length : Int) + (p.2.zn.length : Int) + (p.2.gd.length : Int)) (by omega) (by omega)]
 omega
theorem UJ (l : List Int) (hl : l.length < 1000000) (x : Int) : ∃ t, Cs l x = some t /\ ((t = -1 /\ x ∉ l) \/ (0 <= t /\ x ∈ l /\ An l t = some x)) := by
 unfold Cs
 obtain ⟨t, h1, h2⟩ := JP (l := l) (f := fun a => x == a) hl (step := CK l x) (by simp [CK]) (fun i a ha => by
  have := BY ha
  simp only [CK, BS ha, cond_true, Af, ha, Option.bind_some, AT (show i < 1000000000 by omega)]
  cases hb : (x == a) <;> simp)
 refine ⟨t, h1, ?_⟩
 rcases h2 with ⟨rfl, h2⟩ | ⟨a, h0, h2, h3⟩
 .exact .inl ⟨rfl, fun h => by have := List.find?_eq_none.1 h2 x h; simp at this⟩
 have hm := List.mem_of_find?_eq_some h2
 have he := List.find?_some h2
 simp only [beq_iff_eq] at he
 subst he
 exact .inr ⟨h0, hm, h3⟩
theorem WQ {l : List Int} (hn : l.Nodup) {i : Nat} {x : Int} (h : l[i]? = some x) : l.take i ++ l.drop (i + 1) = l.filter fun y => !(decide (y = x)) := by
 induction l generalizing i with
 | nil => simp at h
 | cons a l ih =>
  rw [List.nodup_cons] at hn
  cases i with
  | zero =>
   simp at h; subst h
   rw [List.filter_cons_of_neg (by simp)]
   simp only [List.take_zero, List.nil_append, List.drop_succ_cons, List.drop_zero, Nat.zero_add]
   symm
   exact List.filter_eq_self.2 fun y hy => by
    have : ¬ y = a := fun e => hn.1 (e ▸ hy)
    simp [this]
  | succ i =>
   simp at h
   have hm : x ∈ l := List.mem_of_getElem? h
   have : ¬ a = x := fun e => hn.1 (e ▸ hm)
   rw [List.filter_cons_of_pos (by simp [this])]
   simp only [List.take_succ_cons, List.cons_append, List.drop_succ_cons]
   rw [ih hn.2 h]
theorem Zy (hI : Cf L) {o e : Int} (h : ∀ p ∈ L, p.1 = o -> e ∉ p.2.st) : CH (bk n L) o e = some (bk n L, false) := by
 have key : (AZ (bk n L).steps o).getD [] = [] \/ ∃ p ∈ L, p.1 = o /\ (AZ (bk n L).steps o).getD [] = p.2.st := by
  by_cases ho : o ∈ L.map (·.1)
  .obtain ⟨p, hp, rfl⟩ := List.mem_map.1 ho
   exact .inr ⟨p, hp, rfl, by simp only [bk]; rw [CV (·.st) hI.keys hp]; rfl⟩
  exact .inl (by simp only [bk]; rw [L6 (·.st) ho]; rfl)
 have h2 : e ∉ (AZ (bk n L).steps o).getD [] /\ ((AZ (bk n L).steps o).getD []).length < 1000000 := by
  rcases key with h' | ⟨p, hp, h1, h'⟩
  .rw [h']; simp
  rw [h']; exact ⟨h p hp h1, by have := (hI.small p hp).1.1; omega⟩
 obtain ⟨t, t1, t2⟩ := UJ _ h2.2 e
 unfold CH
 rw [t1]
 rcases t2 with ⟨rfl, -⟩ | ⟨-, h3, -⟩
 .rfl
 exact absurd h3 h2.1
theorem WR (b : AY) (o e : Int) (ys : List Int) (l : List AM) (hl : (AZ b.needs o).getD [] = l) (hn : l.length <= 1000) : AP (CJ b o e ys) (0, ([] : List AM)) =
  AP (CJ b o e ys) ((l.length : Int), l.filter fun x => !(decide (x.elem = e))) := by
 have key : ∀ i, i <= l.length -> AP (CJ b o e ys) (0, ([] : List AM)) = AP (CJ b o e ys) ((i : Int), (l.take i).filter fun x => !(decide (x.elem = e))) := by
  intro i
  induction i with
  | zero => intro _; rfl
  | succ i ih =>
   intro hi
   have hlt : i < l.length := by omega
   have ha : l[i]? = some l[i] := List.getElem?_eq_getElem hlt
   rw [ih (by omega)]
   refine B2 ?_
   have hb := List.length_filter_le (fun x : AM => !(decide (x.elem = e))) (l.take i)
   rw [List.length_take] at hb
   rw [List.take_add_one, ha, Option.toList_some, List.filter_append]
   simp only [CJ, hl, BS ha, cond_true, Af, ha, Option.bind_some, Kq]
   by_cases c : l[i].elem = e
   .rw [if_pos c, List.filter_cons_of_neg (by simp [c])]
    simp only [Option.bind_some, List.filter_nil, List.append_nil, AT (show i < 1000000000 by omega)]
   rw [if_neg c, List.filter_cons_of_pos (by simp [c]), A2 (by simp; omega)]
   simp only [Option.bind_some, List.filter_nil, AT (show i < 1000000000 by omega)]
 have := key l.length (Nat.le_refl _)
 rw [List.take_length] at this
 exact this
theorem YY (hI : Cf L) {p : Int × Bu} (hp : p ∈ L) (hs : p.2.st.Nodup) {e : Int} (he : e ∈ p.2.st) : CH (bk n L) p.1 e = some (bk n (Hk L p.1 e), true) := by
 obtain ⟨⟨s1, s2⟩, s3, s4⟩ := hI.small p hp
 have hm : p.1 ∈ L.map (·.1) := List.mem_map_of_mem hp
 have e1 : (AZ (bk n L).steps p.1).getD [] = p.2.st := by simp only [bk]; rw [CV (·.st) hI.keys hp]; rfl
 have e2 : (AZ (bk n L).needs p.1).getD [] = p.2.nd := by simp only [bk]; rw [CV (·.nd) hI.keys hp]; rfl
 obtain ⟨t, t1, t2⟩ := UJ p.2.st (by omega) e
 rcases t2 with ⟨-, t2⟩ | ⟨t0, -, t2⟩
 .exact absurd he t2
 obtain ⟨i, rfl⟩ := Int.eq_ofNat_of_zero_le t0
 have hi : i < p.2.st.length := (List.getElem?_eq_some_iff.1 t2).1
 have c1 : CF p.2.st = some p.2.st := EI _ (by omega)
 have c2 : Tx p.2.st (i : Int) (Ae ((i : Int) + 1)) = some (p.2.st.filter fun y => !(decide (y = e))) := by
  rw [AT (by omega), <- WQ hs t2]
  unfold Tx
  rw [if_pos (by omega)]
  rfl
 unfold CH
 simp only [e1, t1, Option.bind_some, decide_eq_false (show ¬ ((i : Int) < 0) by omega), cond_false, c1, c2]
 rw [WR _ _ _ _ p.2.nd e2 s3]
 have hbk : (⟨(bk n L).elems, A5 p.1 (p.2.st.filter fun y => !(decide (y = e))) (bk n L).steps, (bk n L).zone, A5 p.1 (p.2.nd.filter fun x => !(decide (x.elem = e))) (bk n L).needs, (bk n L).guards⟩ : AY) = bk n (freeM L p.1 e) := by
  simp only [bk, Ru (·.st) _ _ hI.keys hm, Ru (·.nd) _ _ hI.keys hm, freeM, List.map_map]
  have same : ∀ q ∈ L, q.1 = p.1 -> q = p := fun q hq h1 => by
   have a1 := CV (fun b => b) hI.keys hq
   have a2 := CV (fun b => b) hI.keys hp
   rw [h1, a2] at a1
   exact Prod.ext h1 (Option.some.inj a1).symm
  congr 1 <;> refine List.map_congr_left fun q hq => ?_
  .by_cases c : q.1 = p.1
   .simp [Function.comp, c, Gy, same q hq c]
   simp [Function.comp, c]
  .by_cases c : q.1 = p.1 <;> simp [Function.comp, c, Gy]
  .by_cases c : q.1 = p.1
   .simp [Function.comp, c, Gy, same q hq c]
   simp [Function.comp, c]
  by_cases c : q.1 = p.1 <;> simp [Function.comp, c, Gy]
 have hk2 : ((freeM L p.1 e).map (·.1)).Nodup := by rw [RE]; exact hI.keys
 have hp2 : (p.1, Gy e p.2) ∈ freeM L p.1 e := List.mem_map.2 ⟨p, hp, by simp⟩
 have hh := AAu (n := n) hk2 hp2 (Nat.le_trans (List.length_filter_le _ _) s1) s2 s4
 have hb2 : (CJ (bk n L) p.1 e (p.2.st.filter fun y => !(decide (y = e)))) ((p.2.nd.length : Int), p.2.nd.filter fun x => !(decide (x.elem = e))) = some (.inr (bk n (Hk L p.1 e), true)) := by
  simp only [CJ, e2, Bw, cond_false, hbk]
  simp only at hh
  rw [hh]
  simp only [Option.bind_some]
  cases hl : L5 (Gy e p.2) with
  | true =>
   simp only [Bool.not_true, cond_false, Option.bind_some, Option.map_some]
   have : Hk L p.1 e = freeM L p.1 e := List.filter_eq_self.2 fun q hq => by
    obtain ⟨q0, h0, rfl⟩ := List.mem_map.1 hq
    by_cases c : q0.1 = p.1
    .have : q0 = p := by
      have a1 := CV (fun b => b) hI.keys h0
      have a2 := CV (fun b => b) hI.keys hp
      rw [c, a2] at a1
      exact Prod.ext c (Option.some.inj a1).symm
     subst this
     simp [hl]
    simp [c]
   rw [this, <- hbk]
  | false =>
   simp only [Bool.not_false, cond_true, Option.bind_some, Option.map_some]
   have hf : Hk L p.1 e = (freeM L p.1 e).filter fun q => !(decide (q.1 = p.1)) := by
    unfold Hk
    refine List.filter_congr fun q hq => ?_
    obtain ⟨q0, h0, rfl⟩ := List.mem_map.1 hq
    by_cases c : q0.1 = p.1
    .have : q0 = p := by
      have a1 := CV (fun b => b) hI.keys h0
      have a2 := CV (fun b => b) hI.keys hp
      rw [c, a2] at a1
      exact Prod.ext c (Option.some.inj a1).symm
     subst this
     simp [hl]
    simp [c]
   rw [hf]
   refine congrArg some (congrArg Sum.inr (congrArg (·, true) ?_))
   have d1 := Mx (·.st) p.1 _ hk2
   have d2 := Mx (·.zn) p.1 _ hk2
   have d3 := Mx (·.nd) p.1 _ hk2
   have d4 := Mx (·.gd) p.1 _ hk2
   have h1 := congrArg AY.steps hbk
   have h2 := congrArg AY.zone hbk
   have h3 := congrArg AY.needs hbk
   have h4 := congrArg AY.guards hbk
   simp only at h1 h2 h3 h4
   rw [h1, h2, h3, h4]
   simp only [bk] at *
   rw [d1, d2, d3, d4]
 exact B7 hb2
structure YZ (M L : List (Int × Bu)) : Prop where
 keys : (M.map (·.1)).Nodup
 len : M.length <= L.length
 ofs : ∀ q ∈ M, ∃ p ∈ L, q.1 = p.1 /\ (∀ x ∈ q.2.st, x ∈ p.2.st) /\ q.2.zn = p.2.zn /\ (∀ x ∈ q.2.nd, x ∈ p.2.nd) /\ q.2.gd = p.2.gd /\ q.2.st.length <= p.2.st.length /\ q.2.nd.length <= p.2.nd.length /\ 0 < q.2.st.length + q.2.zn.length + q.2.gd.length
theorem YZ.inv {M : List (Int × Bu)} (h : YZ M L) (hI : Cf L) : Cf M := by
 have nn : ∀ {q p : Int × Bu}, (∀ x ∈ q.2.nd, x ∈ p.2.nd) -> q.2.gd = p.2.gd -> ∀ x ∈ q.2.nd ++ q.2.gd, x ∈ p.2.nd ++ p.2.gd := fun h1 h2 x hx => by
  rcases List.mem_append.1 hx with hx | hx
  .exact List.mem_append.2 (.inl (h1 x hx))
  exact List.mem_append.2 (.inr (h2 ▸ hx))
 refine ⟨h.keys, fun q hq => ?_, Nat.le_trans h.len hI.len, fun q hq => ?_, fun q hq => ?_, fun q hq q' hq' e h1 h2 => ?_, fun q hq q' hq' e h1 h2 => ?_, fun q hq q' hq' x hx y hy he => ?_, fun q hq x hx => ?_⟩
 .obtain ⟨p, hp, k1, -⟩ := h.ofs q hq; rw [k1]; exact hI.pos p hp
 .obtain ⟨p, hp, k1, k2, k3, k4, k5, k6, k7, k8⟩ := h.ofs q hq
  obtain ⟨⟨s1, s2⟩, s3, s4⟩ := hI.small p hp
  rw [k3, k5]; exact ⟨⟨by omega, s2⟩, by omega, s4⟩
 .obtain ⟨p, hp, k1, k2, k3, k4, k5, k6, k7, k8⟩ := h.ofs q hq; exact k8
 .obtain ⟨p, hp, k1, k2, -⟩ := h.ofs q hq
  obtain ⟨p', hp', k1', k2', -⟩ := h.ofs q' hq'
  rw [k1, k1']; exact hI.apart p hp p' hp' e (k2 e h1) (k2' e h2)
 .obtain ⟨p, hp, k1, k2, -⟩ := h.ofs q hq
  obtain ⟨p', hp', k1', k2', k3', -⟩ := h.ofs q' hq'
  rw [k3'] at h2; exact hI.zone p hp p' hp' e (k2 e h1) h2
 .obtain ⟨p, hp, k1, k2, k3, k4, k5, -⟩ := h.ofs q hq
  obtain ⟨p', hp', k1', k2', k3', k4', k5', -⟩ := h.ofs q' hq'
  exact hI.agree p hp p' hp' x (nn k4 k5 x hx) y (nn k4' k5' y hy) he
 obtain ⟨p, hp, k1, k2, k3, k4, k5, -⟩ := h.ofs q hq
 exact hI.posn p hp x (nn k4 k5 x hx)
theorem Sc {o e : Int} {q : Int × Bu} : q ∈ Hk L o e ↔ (q ∈ L /\ q.1 ≠ o) \/ (q.1 = o /\ L5 q.2 = true /\ ∃ b, (o, b) ∈ L /\ q.2 = Gy e b) := by
 unfold Hk freeM
 rw [List.mem_filter, List.mem_map]
 constructor
 .rintro ⟨⟨p, hp, rfl⟩, h⟩
  by_cases c : p.1 = o
  .simp only [c, if_true, decide_true, Bool.not_true, Bool.false_or] at h ⊢
   exact .inr ⟨trivial, h, p.2, by rw [<- c]; exact hp, rfl⟩
  simp only [c, if_false]
  exact .inl ⟨hp, c⟩
 rintro (⟨h1, h2⟩ | ⟨h1, h2, b, h3, h4⟩)
 .exact ⟨⟨q, h1, by simp [h2]⟩, by simp [h2]⟩
 refine ⟨⟨(o, b), h3, ?_⟩, by simp [h2]⟩
 simp only [if_true]
 exact Prod.ext h1.symm h4.symm
theorem XW (hI : Cf L) (o e : Int) : YZ (Hk L o e) L := by
 refine ⟨?_, ?_, fun q hq => ?_⟩
 .have := hI.keys
  rw [<- RE (L := L) o e] at this
  exact List.Sublist.nodup (List.Sublist.map _ List.filter_sublist) this
 .refine Nat.le_trans (List.length_filter_le _ _) ?_
  unfold freeM; simp
 rcases Sc.1 hq with ⟨h1, -⟩ | ⟨h1, h2, b, h3, h4⟩
 .exact ⟨q, h1, rfl, fun _ h => h, rfl, fun _ h => h, rfl, Nat.le_refl _, Nat.le_refl _, hI.holds q h1⟩
 refine ⟨(o, b), h3, h1, ?_⟩
 unfold L5 at h2
 rw [h4] at h2 ⊢
 exact ⟨fun x hx => (List.mem_filter.1 hx).1, rfl, fun x hx => (List.mem_filter.1 hx).1, rfl, List.length_filter_le _ _, List.length_filter_le _ _, of_decide_eq_true h2⟩
end Go.E
/- Plain Lean: whatever is taken, freed and dropped, what is locked is locked for one alone (LockApart). No condition. -/
namespace Go.E
open Go
structure ZO (l : List AU) (held : List Bool) (left : List (List Int)) (L : List (Int × Bu)) : Prop where
 inv : Cf L
 once : ∀ p ∈ L, p.2.st.Nodup
 hl : held.length = l.length
 ll : left.length = l.length
 own : ∀ p ∈ L, ∃ i : Nat, p.1 = (i : Int) /\ i < l.length
 is : ∀ (i : Nat) b, held[i]? = some b -> b = decide ((i : Int) ∈ L.map (·.1))
 no : ∀ (i : Nat) v, left[i]? = some v -> (i : Int) ∉ L.map (·.1) -> v = []
 at_ : ∀ (i : Nat) v r b, left[i]? = some v -> l[i]? = some r -> ((i : Int), b) ∈ L -> v = b.st /\ b.zn = r.zone /\ b.gd = r.guards /\ ∀ x ∈ r.needs, x.elem ∈ b.st -> x ∈ b.nd
variable {n : Int} {l : List AU} {held : List Bool} {left : List (List Int)} {L : List (Int × Bu)}
theorem Ya (hI : Cf L) (e : Int) : (Jv L e).length < 1000000 := by
 unfold Jv QD
 rw [(Dc _).length_eq, List.length_map]
 have h3 := List.length_filter_le (fun p : Int × List Int => decide (e ∈ p.2)) (L.map fun p => (p.1, p.2.zn))
 rw [List.length_map] at h3
 have := hI.len
 omega
theorem XX {i : Int} {b : Bu} (hI : Cf L) {p : Int × Bu} (hp : p ∈ L) (hb : (i, b) ∈ L) (h : p.1 = i) : p.2 = b := by
 have a1 := CV (fun b => b) hI.keys hp
 have a2 := CV (fun b => b) hI.keys hb
 simp only at a2
 rw [h, a2] at a1
 exact (Option.some.inj a1).symm
theorem ZO.start (l : List AU) : ZO l (List.replicate l.length false) (List.replicate l.length []) [] := by
 refine ⟨⟨by simp, by simp, by simp, by simp, by simp, by simp, by simp, by simp, by simp⟩, by simp, by simp, by simp, by simp, fun i b hb => ?_, fun i v hv _ => ?_, fun i v r b _ _ hb => by cases hb⟩
 .rw [List.getElem?_replicate] at hb
  split at hb <;> cases hb
  rfl
 rw [List.getElem?_replicate] at hv
 split at hv <;> cases hv
 rfl
end Go.E
/- Plain Lean: the law LockApart. No condition. -/
namespace Go.E
open Go
theorem bsA {α β : Type} {o : Option α} {a : α} {f : α -> Option β} {r : β} (h : o = some a) (k : f a = some r) : o.bind f = some r := by rw [h]; exact k
end Go.E
/- Plain Lean: the document's book beside a row of owners: what is asked of it. No condition. -/
namespace Go.E
open Go
def Ni (h : Al) : Int × List Int × List AM × List AM := (h.owner, h.steps, h.needs, h.guard)
def Nj (p : Int × Bu) : Int × List Int × List AM × List AM := (p.1, p.2.st, p.2.nd, p.2.gd)
structure C9 (L : List (Int × Bu)) (M : List Al) : Prop where
 perm : (M.map Ni).Perm (L.map Nj)
 rise : M.Pairwise fun a b => a.owner < b.owner
 zone : ∀ h ∈ M, ∀ p ∈ L, p.1 = h.owner -> ∀ e, e ∈ h.zone ↔ e ∈ p.2.zn
 zlen : ∀ h ∈ M, h.zone.length <= 1000
variable {n : Int} {L : List (Int × Bu)} {M : List Al}
theorem C9.row (hD : C9 L M) {h : Al} (hh : h ∈ M) : ∃ p ∈ L, p.1 = h.owner /\ p.2.st = h.steps /\ p.2.nd = h.needs /\ p.2.gd = h.guard := by
 have : Ni h ∈ L.map Nj := hD.perm.mem_iff.1 (List.mem_map_of_mem hh)
 obtain ⟨p, hp, he⟩ := List.mem_map.1 this
 simp only [Ni, Nj, Prod.mk.injEq] at he
 exact ⟨p, hp, he.1, he.2.1, he.2.2.1, he.2.2.2⟩
theorem C9.doc (hD : C9 L M) {p : Int × Bu} (hp : p ∈ L) : ∃ h ∈ M, p.1 = h.owner /\ p.2.st = h.steps /\ p.2.nd = h.needs /\ p.2.gd = h.guard := by
 have : Nj p ∈ M.map Ni := hD.perm.mem_iff.2 (List.mem_map_of_mem hp)
 obtain ⟨h, hh, he⟩ := List.mem_map.1 this
 simp only [Ni, Nj, Prod.mk.injEq] at he
 exact ⟨h, hh, he.1.symm, he.2.1.symm, he.2.2.1.symm, he.2.2.2.symm⟩
theorem C9.len (hD : C9 L M) : M.length = L.length := by
 have := hD.perm.length_eq
 simpa using this
theorem C9.small (hD : C9 L M) (hI : Cf L) {h : Al} (hh : h ∈ M) : h.steps.length <= 1000 /\ h.needs.length <= 1000 /\ h.guard.length <= 1000 := by
 obtain ⟨p, hp, h1, h2, h3, h4⟩ := hD.row hh
 obtain ⟨⟨s1, s2⟩, s3, s4⟩ := hI.small p hp
 rw [<- h2, <- h3, <- h4]
 exact ⟨s1, s3, s4⟩
theorem C9.keys (hD : C9 L M) (x : Int) : x ∈ M.map (·.owner) ↔ x ∈ L.map (·.1) := by
 constructor
 .intro h
  obtain ⟨a, ha, rfl⟩ := List.mem_map.1 h
  obtain ⟨p, hp, h1, -⟩ := hD.row ha
  exact List.mem_map.2 ⟨p, hp, h1⟩
 intro h
 obtain ⟨p, hp, rfl⟩ := List.mem_map.1 h
 obtain ⟨a, ha, h1, -⟩ := hD.doc hp
 exact List.mem_map.2 ⟨a, ha, h1.symm⟩
theorem C9.uniq (hD : C9 L M) {i j : Nat} {a b : Al} (ha : M[i]? = some a) (hb : M[j]? = some b) (h : a.owner = b.owner) : i = j := by
 have hp := List.pairwise_iff_getElem.1 hD.rise
 obtain ⟨hi, rfl⟩ := List.getElem?_eq_some_iff.1 ha
 obtain ⟨hj, rfl⟩ := List.getElem?_eq_some_iff.1 hb
 rcases Nat.lt_trichotomy i j with c | c | c
 .have := hp i j hi hj c; omega
 .exact c
 have := hp j i hj hi c; omega
theorem WS (hl : M.length <= 1000) (hD : C9 L M) (o : Int) : ∃ t, EF ⟨n, M⟩ o = some t /\ ((t = -1 /\ o ∉ L.map (·.1)) \/ ∃ (i : Nat) (h : Al), t = (i : Int) /\ M[i]? = some h /\ h.owner = o /\ o ∈ L.map (·.1)) := by
 unfold EF
 obtain ⟨t, h1, h2⟩ := JP (l := M) (f := fun h => h.owner == o) (by omega) (step := Ef ⟨n, M⟩ o) (by simp [Ef]) (fun i a ha => by
  have := BY ha
  simp only [Ef, BS ha, cond_true, Af, ha, Option.bind_some, AT (show i < 1000000000 by omega)]
  cases hb : (a.owner == o) <;> simp)
 refine ⟨t, h1, ?_⟩
 rcases h2 with ⟨rfl, h2⟩ | ⟨a, h0, h2, h3⟩
 .refine .inl ⟨rfl, fun hm => ?_⟩
  obtain ⟨a, ha, he⟩ := List.mem_map.1 ((hD.keys o).2 hm)
  have := List.find?_eq_none.1 h2 a ha
  simp [he] at this
 obtain ⟨i, rfl⟩ := Int.eq_ofNat_of_zero_le h0
 have he := List.find?_some h2
 simp only [beq_iff_eq] at he
 exact .inr ⟨i, a, rfl, h3, he, (hD.keys o).1 (List.mem_map.2 ⟨a, List.mem_of_find?_eq_some h2, he⟩)⟩
theorem Rv (hI : Cf L) (hD : C9 L M) (e : Int) : Cr ⟨n, M⟩ e = some (Jw L e) := by
 have hl := hD.len
 have hl2 := hI.len
 have key : Cr ⟨n, M⟩ e = some (((M.find? fun h => decide (e ∈ h.steps)).map (·.owner)).getD (-1)) := by
  unfold Cr
  refine Ir (γ := Unit) M (fun i _ => (i : Int)) (fun _ _ r => some (((r.find? fun h => decide (e ∈ h.steps)).map (·.owner)).getD (-1))) (fun _ => by simp [Em]) (fun i _ a r ha hi => ?_) ()
  have hs := (hD.small hI (List.mem_of_getElem? ha)).1
  simp only [Em, BS ha, cond_true, Af, ha, Option.bind_some, J8 a.steps (by omega), AT (show i < 1000000000 by omega)]
  by_cases c : e ∈ a.steps
  .left; simp [c]
  right; exact ⟨(), by simp [c], by simp [c]⟩
 rw [key]
 refine congrArg some ?_
 cases hf : M.find? fun h => decide (e ∈ h.steps) with
 | none =>
  have : ∀ p ∈ L, e ∉ p.2.st := fun p hp he => by
   obtain ⟨h, hh, h1, h2, -⟩ := hD.doc hp
   have := List.find?_eq_none.1 hf h hh
   rw [h2] at he
   simp [he] at this
  rw [Vc this]; rfl
 | some h =>
  obtain ⟨p, hp, h1, h2, -⟩ := hD.row (List.mem_of_find?_eq_some hf)
  have he := List.find?_some hf
  simp only [decide_eq_true_eq] at he
  rw [Vd hI hp (h2 ▸ he)]
  exact h1.symm
theorem Ve (hI : Cf L) (hD : C9 L M) (e : Int) : Ds ⟨n, M⟩ e = some (Jv L e) := by
 have hl := hD.len
 have hl2 := hI.len
 have key : ∀ i, i <= M.length -> AP (DC ⟨n, M⟩ e) (0, ([] : List Int)) = AP (DC ⟨n, M⟩ e) ((i : Int), ((M.take i).filter fun h => decide (e ∈ h.zone)).map (·.owner)) := by
  intro i
  induction i with
  | zero => intro _; rfl
  | succ i ih =>
   intro hi
   have hlt : i < M.length := by omega
   have ha : M[i]? = some M[i] := List.getElem?_eq_getElem hlt
   rw [ih (by omega)]
   refine B2 ?_
   have hb := List.length_filter_le (fun h : Al => decide (e ∈ h.zone)) (M.take i)
   rw [List.length_take] at hb
   have hz := hD.zlen _ (List.getElem_mem hlt)
   rw [List.take_add_one, ha, Option.toList_some, List.filter_append, List.map_append]
   simp only [DC, BS ha, cond_true, Af, ha, Option.bind_some, J8 _ (show M[i].zone.length < 1000000 by omega)]
   by_cases c : e ∈ M[i].zone
   .rw [List.filter_cons_of_pos (by simp [c])]
    simp only [decide_eq_true c, cond_true]
    rw [A2 (by simp; omega)]
    simp only [Option.bind_some, List.filter_nil, List.map_cons, List.map_nil, AT (show i < 1000000000 by omega)]
   rw [List.filter_cons_of_neg (by simp [c])]
   simp only [decide_eq_false c, cond_false, Option.bind_some, List.filter_nil, List.map_nil, List.append_nil, AT (show i < 1000000000 by omega)]
 have h0 := key M.length (Nat.le_refl _)
 rw [List.take_length] at h0
 unfold Ds
 rw [h0, B7 (b := (M.filter fun h => decide (e ∈ h.zone)).map (·.owner)) (by simp only [DC, Bw, cond_false])]
 refine congrArg some (Nk ?_ ?_ fun x => ?_)
 .rw [List.pairwise_map]
  exact hD.rise.sublist List.filter_sublist
 .refine O0 ?_
  have : ((L.filter fun p => decide (e ∈ p.2.zn)).map (·.1)).Nodup := List.Sublist.nodup (List.Sublist.map _ List.filter_sublist) hI.keys
  rw [List.filter_map, List.map_map]
  exact this
 have hm : x ∈ Jv L e ↔ ∃ p ∈ L, p.1 = x /\ e ∈ p.2.zn := by
  unfold Jv QD
  rw [(Dc _).mem_iff]
  constructor
  .intro h
   obtain ⟨a, ha, rfl⟩ := List.mem_map.1 h
   obtain ⟨h1, h2⟩ := List.mem_filter.1 ha
   obtain ⟨p, hp, rfl⟩ := List.mem_map.1 h1
   exact ⟨p, hp, rfl, by simpa using h2⟩
  rintro ⟨p, hp, rfl, he⟩
  exact List.mem_map.2 ⟨(p.1, p.2.zn), List.mem_filter.2 ⟨List.mem_map.2 ⟨p, hp, rfl⟩, by simpa using he⟩, rfl⟩
 rw [hm]
 constructor
 .intro h
  obtain ⟨a, ha, rfl⟩ := List.mem_map.1 h
  obtain ⟨h1, h2⟩ := List.mem_filter.1 ha
  obtain ⟨p, hp, h3, -⟩ := hD.row h1
  exact ⟨p, hp, h3, (hD.zone a h1 p hp h3 e).1 (by simpa using h2)⟩
 rintro ⟨p, hp, rfl, he⟩
 obtain ⟨a, ha, h3, -⟩ := hD.doc hp
 exact List.mem_map.2 ⟨a, List.mem_filter.2 ⟨ha, by simpa using (hD.zone a ha p hp h3 e).2 he⟩, h3.symm⟩
theorem Yb (hI : Cf L) (hD : C9 L M) : EL ⟨n, M⟩ = some (En (L.map (·.1))) := by
 have hl := hD.len
 have hl2 := hI.len
 have key : ∀ i, i <= M.length -> AP (C2 ⟨n, M⟩) (0, ([] : List Int)) = AP (C2 ⟨n, M⟩) ((i : Int), (M.take i).map (·.owner)) := by
  intro i
  induction i with
  | zero => intro _; rfl
  | succ i ih =>
   intro hi
   have hlt : i < M.length := by omega
   have ha : M[i]? = some M[i] := List.getElem?_eq_getElem hlt
   rw [ih (by omega)]
   refine B2 ?_
   rw [DF ha]
   simp only [C2, BS ha, cond_true, Af, ha, Option.bind_some]
   rw [A2 (by simp; omega)]
   simp only [Option.bind_some, AT (show i < 1000000000 by omega)]
 have h0 := key M.length (Nat.le_refl _)
 rw [List.take_length] at h0
 unfold EL
 rw [h0, B7 (b := M.map (·.owner)) (by simp only [C2, Bw, cond_false])]
 refine congrArg some (Nk ?_ (O0 hI.keys) fun x => ?_)
 .rw [List.pairwise_map]; exact hD.rise
 rw [hD.keys, (Dc _).mem_iff]
theorem XY (hI : Cf L) (hD : C9 L M) (e : Int) : D9 ⟨n, M⟩ e = some (Gk L e, WT L e) := by
 have hl := hD.len
 have hl2 := hI.len
 let f : Al -> Option Int := fun h => Cj (h.needs ++ h.guard) e
 have key : ∀ i, i <= M.length -> AP (DK ⟨n, M⟩ e) (0, 0, 0) = AP (DK ⟨n, M⟩ e) (((M.take i).filterMap f).getLastD 0, (((M.take i).filterMap f).length : Int), (i : Int)) := by
  intro i
  induction i with
  | zero => intro _; rfl
  | succ i ih =>
   intro hi
   have hlt : i < M.length := by omega
   have ha : M[i]? = some M[i] := List.getElem?_eq_getElem hlt
   rw [ih (by omega)]
   refine B2 ?_
   obtain ⟨s1, s2, s3⟩ := hD.small hI (List.getElem_mem hlt)
   have hb := List.length_filterMap_le f (M.take i)
   rw [List.length_take] at hb
   rw [List.take_add_one, ha, Option.toList_some, List.filterMap_append]
   simp only [DK, BS ha, cond_true, Af, ha, Option.bind_some]
   rw [A2 (by simp; omega)]
   simp only [Option.bind_some, List.nil_append]
   rw [A2 (by omega)]
   simp only [Option.bind_some]
   rw [Sd (M[i].needs ++ M[i].guard) e (by simp; omega) (no := (((M.take i).filterMap f).getLastD 0, (((M.take i).filterMap f).length : Int))) (yes := fun q => (q, (((M.take i).filterMap f).length : Int) + 1)) (by simp only [Ex, Bw, cond_false]) (fun j x hj => by
    have := BY hj
    simp only [List.length_append] at this
    simp only [Ex, BS hj, cond_true, Af, hj, Option.bind_some, AT (show j < 1000000000 by omega), CL (n := (((M.take i).filterMap f).length : Int) + 1) (by omega) (by omega)])]
   have hfd : f M[i] = Cj (M[i].needs ++ M[i].guard) e := rfl
   cases hf : Cj (M[i].needs ++ M[i].guard) e with
   | none =>
    rw [hf] at hfd
    simp only [List.filterMap_cons, hfd, List.filterMap_nil, List.append_nil, Option.bind_some, AT (show i < 1000000000 by omega)]
   | some q =>
    rw [hf] at hfd
    simp only [List.filterMap_cons, hfd, List.filterMap_nil, Option.bind_some, AT (show i < 1000000000 by omega)]
    simp
 have h0 := key M.length (Nat.le_refl _)
 rw [List.take_length] at h0
 unfold D9
 rw [h0, B7 (b := ((M.filterMap f).getLastD 0, ((M.filterMap f).length : Int))) (by simp only [DK, Bw, cond_false])]
 have hp : (M.filterMap f).Perm (L.filterMap fun p => Cj (p.2.nd ++ p.2.gd) e) := by
  have := hD.perm.filterMap fun c => Cj (c.2.2.1 ++ c.2.2.2) e
  rw [List.filterMap_map, List.filterMap_map] at this
  exact this
 refine congrArg some (Prod.ext ?_ ?_)
 .show (M.filterMap f).getLastD 0 = Gk L e
  unfold Gk
  have hall : ∀ v ∈ L.filterMap fun p => Cj (p.2.nd ++ p.2.gd) e, ∀ u ∈ L.filterMap fun p => Cj (p.2.nd ++ p.2.gd) e, v = u := fun v hv u hu => by
   obtain ⟨p, hp, h1⟩ := List.mem_filterMap.1 hv
   obtain ⟨q, hq, h2⟩ := List.mem_filterMap.1 hu
   obtain ⟨a, ha, a1, a2⟩ := KV h1
   obtain ⟨b, hb, b1, b2⟩ := KV h2
   rw [<- a2, <- b2]
   exact hI.agree p hp q hq a ha b hb (a1.trans b1.symm)
  generalize (L.filterMap fun p => Cj (p.2.nd ++ p.2.gd) e) = B at hp hall
  generalize M.filterMap f = A at hp
  cases B with
  | nil => rw [hp.eq_nil]; rfl
  | cons v B =>
   have hne : A ≠ [] := fun c => by rw [c] at hp; have := hp.length_eq; simp at this
   rw [List.getLastD_eq_getLast?, List.getLast?_eq_some_getLast hne]
   simp only [Option.getD_some, List.headD_cons]
   exact hall _ (hp.mem_iff.1 (List.getLast_mem hne)) v (by simp)
 show ((M.filterMap f).length : Int) = WT L e
 unfold WT
 rw [hp.length_eq]
end Go.E
/- Plain Lean: the document's book beside a row of owners: what is done to it. No condition. -/
namespace Go.E
open Go
variable {n : Int} {L : List (Int × Bu)} {M : List Al}
theorem Yc (b : Aw) (l : List Int) (hl : l.length <= 1000000) : EH b l = some (!(l.any fun e => decide (e < 0) || decide (b.n <= e))) := by
 unfold EH
 rw [Ie (l := l) (fun e => decide (e < 0) || decide (b.n <= e)) false (some true) (by simp only [GF, Bw, cond_false]; rfl) (fun i a ha => by
  have := BY ha
  simp only [GF, BS ha, cond_true, Af, ha, Option.bind_some, AT (show i < 1000000000 by omega)]
  cases decide (a < 0) <;> rfl)]
 cases l.any fun e => decide (e < 0) || decide (b.n <= e) <;> rfl
theorem Rw {l : List Int} {n : Int} : (l.any fun e => decide (e < 0) || decide (n <= e)) = false ↔ ∀ e ∈ l, 0 <= e /\ e < n := by
 rw [List.any_eq_false]
 simp only [Bool.or_eq_true, decide_eq_true_eq, not_or]
 exact ⟨fun h e he => by have := h e he; omega, fun h e he => by have := h e he; omega⟩
theorem Rx {α : Type} {l : List α} {k : Nat} (h : k <= l.length) : Hx l 0 (k : Int) = some (l.take k) := by
 unfold Hx Im
 rw [if_pos (by omega)]
 simp
theorem Vf {α : Type} {l : List α} {k : Nat} (h : k <= l.length) : Hx l (k : Int) (l.length : Int) = some (l.drop k) := by
 unfold Hx Im
 rw [if_pos (by omega)]
 simp
theorem WU {l : List Int} (h : ∀ (i : Nat) a, l[i]? = some a -> a ∉ l.take i) : l.Nodup := by
 rw [List.nodup_iff_pairwise_ne, List.pairwise_iff_getElem]
 intro i j hi hj hij he
 refine h j l[j] (List.getElem?_eq_getElem hj) ?_
 rw [<- he]
 exact List.mem_iff_getElem.2 ⟨i, by rw [List.length_take]; omega, by rw [List.getElem_take]⟩
theorem Lf {p : Prop} (h : ¬ p) : (false = true) ↔ p := ⟨fun e => Bool.noConfusion e, fun e => absurd e h⟩
theorem Zz {p : Prop} (h : p) : (true = true) ↔ p := ⟨fun _ => h, fun _ => rfl⟩
theorem AAv (r : AU) (hr : MU r) : ∃ b, Ey ⟨n, M⟩ r = some b /\ (b = true ↔ Cu n r) := by
 have q1 := hr.ls; have q2 := hr.ln; have q3 := hr.lg; have q4 := hr.lz
 have el := L7 r (by omega)
 unfold Ey
 simp only [el, Option.bind_some]
 by_cases h0 : r.steps.length = 0
 .refine ⟨false, ?_, Lf fun h => absurd h.one (by rw [h0]; decide)⟩
  have : (((r.steps.map (·.elem)).length : Int) == 0) = true := by rw [List.length_map, h0]; rfl
  simp only [this, cond_true, Option.bind_some]
 have h0' : (((r.steps.map (·.elem)).length : Int) == 0) = false := beq_eq_false_iff_ne.2 (by rw [List.length_map]; omega)
 simp only [h0', cond_false, Yc _ (r.steps.map (·.elem)) (by simp; omega), Yc _ r.zone (by omega), Option.bind_some, Bool.not_not]
 cases h1 : (r.steps.map (·.elem)).any fun e => decide (e < 0) || decide (n <= e) with
 | true =>
  refine ⟨false, by simp only [cond_true, Option.bind_some], Lf fun h => ?_⟩
  rw [Rw.2 fun e he => ?_] at h1
  .cases h1
  obtain ⟨s, hs, rfl⟩ := List.mem_map.1 he
  exact h.step s hs
 | false =>
  cases h2 : r.zone.any fun e => decide (e < 0) || decide (n <= e) with
  | true =>
   refine ⟨false, by simp only [cond_false, cond_true, Option.bind_some], Lf fun h => ?_⟩
   rw [Rw.2 fun e he => ⟨(h.zone e he).1, (h.zone e he).2.1⟩] at h2
   cases h2
  | false =>
   simp only [cond_false, Option.bind_some]
   rw [Rw] at h1 h2
   have c1 : A7 ([] : List AM) r.needs = some r.needs := by rw [A2 (by simp; omega)]; rfl
   have c2 : A7 r.needs r.guards = some (r.needs ++ r.guards) := A2 (by omega)
   refine Bm (l := r.steps.map (·.elem)) (fun i e => e ∉ (r.steps.map (·.elem)).take i /\ e ∉ r.zone) (fun good => ?_) (fun i e he hg => ?_)
   .have hl2 : ∃ b, AP (DO ⟨n, M⟩ (r.needs ++ r.guards)) 0 = some b /\ (b = true ↔ Cu n r) := by
     refine Bm (l := r.needs ++ r.guards) (fun i x => ((0 <= x.elem /\ x.elem < n) /\ (x.pos = 1 \/ x.pos = 2)) /\ ∀ (k : Nat) y, k < i -> (r.needs ++ r.guards)[k]? = some y -> y.elem = x.elem -> y.pos = x.pos) (fun g2 => ?_) (fun i x hx hg => ?_)
     .refine ⟨true, by simp only [DO, Bw, cond_false], Zz ⟨by omega, q1, q2, q3, q4, fun s hs => h1 _ (List.mem_map_of_mem hs), WU fun i a ha => (good i a ha).1, fun e he => ⟨(h2 e he).1, (h2 e he).2, fun hm => ?_⟩, fun x hx => ?_, fun x hx y hy hxy => ?_⟩⟩
      .obtain ⟨i, hi⟩ := List.mem_iff_getElem?.1 hm
       exact (good i e hi).2 he
      .obtain ⟨i, hi⟩ := List.mem_iff_getElem?.1 hx
       exact (g2 i x hi).1
      obtain ⟨i, hi⟩ := List.mem_iff_getElem?.1 hx
      obtain ⟨j, hj⟩ := List.mem_iff_getElem?.1 hy
      rcases Nat.lt_trichotomy i j with c | c | c
      .exact (g2 j y hj).2 i x c hi hxy
      .subst c; rw [hi] at hj; cases hj; rfl
      exact ((g2 i x hi).2 j y c hj hxy.symm).symm
     have hil := BY hx
     have hmem := List.mem_of_getElem? hx
     simp only [List.length_append] at hil
     have e1 := Yc ⟨n, M⟩ [x.elem] (by simp)
     simp only [List.any_cons, List.any_nil, Bool.or_false] at e1
     by_cases c : (0 <= x.elem /\ x.elem < n) /\ (x.pos = 1 \/ x.pos = 2)
     .have e2 : (decide (x.elem < 0) || decide (n <= x.elem)) = false := by simp; omega
      have e3 : (bif (x.pos != 1) then some (x.pos != 2) else some false : Option Bool) = some false := by
       rcases c.2 with c | c <;> rw [c] <;> rfl
      have hl3 : ∃ t, AP (D6 (r.needs ++ r.guards) (i : Int)) 0 = some t /\ ((t = .inl ((i + 1 : Nat) : Int) /\ ∀ (k : Nat) y, k < i -> (r.needs ++ r.guards)[k]? = some y -> y.elem = x.elem -> y.pos = x.pos) \/ (t = .inr false /\ ¬ Nl (r.needs ++ r.guards))) := by
       have hti : ((r.needs ++ r.guards).take i).length = i := by rw [List.length_take, List.length_append]; omega
       refine Bm (l := (r.needs ++ r.guards).take i) (fun k y => y.elem = x.elem -> y.pos = x.pos) (fun g3 => ?_) (fun k y hy _ => ?_)
       .rw [hti]
        refine ⟨_, by simp only [D6, decide_eq_false (show ¬ ((i : Int) < (i : Int)) by omega), cond_false, AT (show i < 1000000000 by omega)], .inl ⟨rfl, fun k y hk hy => g3 k y ?_⟩⟩
        rw [List.getElem?_take, if_pos hk]; exact hy
       have hk := BY hy
       rw [hti] at hk
       rw [List.getElem?_take, if_pos hk] at hy
       simp only [D6, decide_eq_true (show (k : Int) < (i : Int) by omega), cond_true, Af, hy, hx, Option.bind_some, AT (show k < 1000000000 by omega)]
       by_cases d1 : y.elem = x.elem
       .by_cases d2 : y.pos = x.pos
        .exact .inr ⟨by simp only [beq_iff_eq.2 d1, (show (y.pos != x.pos) = false by rw [d2]; exact bne_self_eq_false _), cond_true, cond_false, Option.bind_some], fun _ => d2⟩
        exact .inl ⟨.inr false, by simp only [beq_iff_eq.2 d1, bne_iff_ne.2 d2, cond_true, Option.bind_some], .inr ⟨rfl, fun hc => d2 (hc y (List.mem_of_getElem? hy) x hmem d1)⟩⟩
       exact .inr ⟨by simp only [beq_eq_false_iff_ne.2 d1, cond_false, Option.bind_some], fun h => absurd h d1⟩
      obtain ⟨t, t1, t2⟩ := hl3
      simp only [DO, BS hx, cond_true, Af, hx, Option.bind_some, e1, e2, Bool.not_false, Bool.not_true, cond_false, e3, t1]
      rcases t2 with ⟨rfl, t2⟩ | ⟨rfl, t2⟩
      .exact .inr ⟨rfl, c, t2⟩
      exact .inl ⟨false, rfl, Lf fun h => t2 h.cons⟩
     have e3 : ((bif (!(!(decide (x.elem < 0) || decide (n <= x.elem)))) then some true else bif (x.pos != 1) then some (x.pos != 2) else some false : Option Bool)) = some true := by
      by_cases d : 0 <= x.elem /\ x.elem < n
      .have e2 : (decide (x.elem < 0) || decide (n <= x.elem)) = false := by simp; omega
       have d1 : x.pos ≠ 1 := fun h => c ⟨d, .inl h⟩
       have d2 : x.pos ≠ 2 := fun h => c ⟨d, .inr h⟩
       simp only [e2, Bool.not_false, Bool.not_true, cond_false, bne_iff_ne.2 d1, bne_iff_ne.2 d2, cond_true]
      have e2 : (decide (x.elem < 0) || decide (n <= x.elem)) = true := by simp; omega
      simp only [e2, Bool.not_true, Bool.not_false, cond_true]
     refine .inl ⟨false, ?_, Lf fun h => c (h.need x hmem)⟩
     simp only [DO, BS hx, cond_true, Af, hx, Option.bind_some, e1, e3]
    obtain ⟨b, hb, hb2⟩ := hl2
    exact ⟨b, by simp only [E8, Bw, cond_false, c1, c2, Option.bind_some, hb, Option.map_some], hb2⟩
   have hil := BY he
   rw [List.length_map] at hil
   have s1 := Rx (l := r.steps.map (·.elem)) (k := i) (by rw [List.length_map]; omega)
   have e1 := J8 ((r.steps.map (·.elem)).take i) (by simp; omega) e
   have e2 := J8 r.zone (by omega) e
   simp only [E8, BS he, cond_true, s1, Af, he, Option.bind_some, e1, e2, AT (show i < 1000000000 by omega)]
   by_cases d1 : e ∈ (r.steps.map (·.elem)).take i
   .refine .inl ⟨false, by simp only [decide_eq_true d1, cond_true, Option.bind_some], Lf fun h => ?_⟩
    have hnd := h.once
    rw [List.nodup_iff_pairwise_ne, List.pairwise_iff_getElem] at hnd
    obtain ⟨k, hk, hke⟩ := List.mem_iff_getElem.1 d1
    rw [List.length_take] at hk
    rw [List.getElem_take] at hke
    obtain ⟨hi', hie⟩ := List.getElem?_eq_some_iff.1 he
    exact hnd k i (by omega) hi' (by omega) (hke.trans hie.symm)
   by_cases d2 : e ∈ r.zone
   .refine .inl ⟨false, by simp only [decide_eq_false d1, decide_eq_true d2, cond_true, cond_false, Option.bind_some], Lf fun h => (h.zone e d2).2.2 (List.mem_of_getElem? he)⟩
   exact .inr ⟨by simp only [decide_eq_false d1, decide_eq_false d2, cond_false, Option.bind_some], d1, d2⟩
open Classical in
noncomputable def If (n : Int) (L : List (Int × Bu)) (o : Int) (r : AU) : Int := if o < 0 \/ o ∈ L.map (·.1) \/ ¬ Cu n r then 1 else AAw n L r
theorem ZP (hI : Cf L) (o : Int) (r : AU) (hr : MU r) : BG (bk n L) o r = some (If n L o r) := by
 unfold If
 by_cases h0 : o < 0
 .rw [if_pos (.inl h0)]
  unfold BG
  simp only [decide_eq_true h0, cond_true, Option.bind_some]
 by_cases hm : o ∈ L.map (·.1)
 .rw [if_pos (.inr (.inl hm))]
  unfold BG
  simp only [decide_eq_false h0, cond_false, L8 hI, decide_eq_true hm, Option.bind_some, cond_true]
 obtain ⟨t, ht, hR⟩ := Pm (bk n L) r hr
 cases t with
 | false =>
  have hP : ¬ Cu n r := fun h => by
   have := UK (bk n L) r h
   rw [ht] at this; cases this
  rw [if_pos (.inr (.inr hP))]
  unfold BG
  simp only [decide_eq_false h0, cond_false, L8 hI, decide_eq_false hm, Option.bind_some, ht, Bool.not_false, cond_true]
 | true =>
  have hP : Cu n r := hR rfl
  rw [if_neg (fun h => h.elim h0 fun h => h.elim hm fun h => h hP)]
  exact RG (bk n L) o r hP (by omega) (by rw [L8 hI, decide_eq_false hm]) (Ry hI) (Rz hI) (fun e => ⟨_, UL hI e⟩)
theorem ABe (hI : Cf L) (hD : C9 L M) (o : Int) (r : AU) (hr : MU r) : FZ ⟨n, M⟩ o r = some (If n L o r) := by
 have q1 := hr.ls; have q2 := hr.ln; have q3 := hr.lg; have q4 := hr.lz
 have hlM : M.length <= 1000 := by have := hD.len; have := hI.len; omega
 have el := L7 r (by omega)
 unfold If FZ
 by_cases h0 : o < 0
 .rw [if_pos (.inl h0)]
  simp only [decide_eq_true h0, cond_true, Option.bind_some]
 obtain ⟨t, t1, t2⟩ := WS (n := n) hlM hD o
 simp only [decide_eq_false h0, cond_false, t1, Option.bind_some]
 rcases t2 with ⟨rfl, hm⟩ | ⟨i, h, rfl, h1, h2, hm⟩
 .obtain ⟨b, b1, b2⟩ := AAv (n := n) (M := M) r hr
  simp only [decide_eq_false (show ¬ (0 : Int) <= -1 by decide), cond_false, b1, Option.bind_some]
  cases b with
  | false =>
   have hP : ¬ Cu n r := fun h => by have := b2.2 h; cases this
   rw [if_pos (.inr (.inr hP))]
   rfl
  | true =>
   have hP : Cu n r := b2.1 rfl
   rw [if_neg (fun h => h.elim h0 fun h => h.elim hm fun h => h hP)]
   simp only [Bool.not_true, cond_false, el, Option.bind_some]
   have c1 : A7 ([] : List AM) r.needs = some r.needs := by rw [A2 (by simp; omega)]; rfl
   have c2 : A7 r.needs r.guards = some (r.needs ++ r.guards) := A2 (by omega)
   have l3 : AP (De ⟨n, M⟩ (r.needs ++ r.guards)) 0 = if ((r.needs ++ r.guards).any fun x => (Gk L x.elem != 0) && (Gk L x.elem != x.pos)) = true then some 15 else some 0 :=
    Ie (l := r.needs ++ r.guards) _ 15 (some 0) (by simp only [De, Bw, cond_false]; rfl) fun i x hx => by
     have := BY hx
     simp only [List.length_append] at this
     simp only [De, BS hx, cond_true, Af, hx, Option.bind_some, XY hI hD, AT (show i < 1000000000 by omega)]
     cases (Gk L x.elem != 0) <;> rfl
   have l2 : AP (Df ⟨n, M⟩ r) 0 = if (r.zone.any fun e => decide (0 <= Jw L e)) = true then some 14 else AP (De ⟨n, M⟩ (r.needs ++ r.guards)) 0 :=
    Ie (l := r.zone) _ 14 _ (by simp only [Df, Bw, cond_false, c1, c2, Option.bind_some]) fun i e he => by
     have := BY he
     simp only [Df, BS he, cond_true, Af, he, Option.bind_some, Rv hI hD, AT (show i < 1000000000 by omega)]
   have l1 : AP (EK ⟨n, M⟩ r (r.steps.map (·.elem))) 0 = if ((r.steps.map (·.elem)).any fun e => decide (0 <= Jw L e) || decide (0 < ((Jv L e).length : Int))) = true then some 14 else AP (Df ⟨n, M⟩ r) 0 :=
    Ie (l := r.steps.map (·.elem)) _ 14 _ (by simp only [EK, Bw, cond_false]) fun i e he => by
     have := BY he
     rw [List.length_map] at this
     simp only [EK, BS he, cond_true, Af, he, Option.bind_some, Rv hI hD, Ve hI hD, AT (show i < 1000000000 by omega)]
     cases decide (0 <= Jw L e) <;> rfl
   rw [l1, l2, l3]
   unfold AAw JQ
   rw [List.any_map, List.any_append]
   simp only [Function.comp_def]
   split
   .rfl
   split
   .rfl
   by_cases c : (r.needs.any fun x => (Gk L x.elem != 0) && (Gk L x.elem != x.pos)) = true
   .simp [c]
   rw [Bool.not_eq_true] at c
   simp only [c, Bool.false_or]
   split <;> rfl
 rw [if_pos (.inr (.inl hm))]
 simp only [decide_eq_true (show (0 : Int) <= (i : Int) by omega), cond_true, Option.bind_some]
theorem Z0 (l : List Int) (hl : l.length <= 1000) {β : Type} {step : Int × List Int -> Option (Int × List Int ⊕ β)} {Post : β -> Prop}
  (hs : ∀ (i : Nat) e c, l[i]? = some e -> c.length <= 1000 -> step ((i : Int), c) = (HL c e).bind fun y => some (.inl (((i + 1 : Nat) : Int), y)))
  (he : ∀ c : List Int, (∀ e, e ∈ c ↔ e ∈ l) -> c.length <= 1000 -> ∃ b, step ((l.length : Int), c) = some (.inr b) /\ Post b) : ∃ b, AP step (0, ([] : List Int)) = some b /\ Post b := by
 refine B9 (l := l) (fun i c => (∀ e, e ∈ c ↔ e ∈ l.take i) /\ c.length <= i) (fun c hc => ?_) (fun i e c hi hc => ?_) ⟨by simp, by simp⟩
 .rw [List.take_length] at hc
  exact he c hc.1 (by omega)
 have hil := BY hi
 refine .inr ⟨IR e c, ?_, fun x => ?_, ?_⟩
 .rw [hs i e c hi (by omega)]
  unfold HL
  rw [XZ c (by omega)]
  rfl
 .rw [Se, hc.1, List.take_add_one, hi]
  simp
  exact or_comm
 have := Sf e c; omega
theorem AAx (hI : Cf L) (hD : C9 L M) (hl : L.length < 1000) (o : Int) (r : AU) (hr : MU r) :
  ∃ M', EA ⟨n, M⟩ o r = some (⟨n, M'⟩, If n L o r) /\ C9 (if If n L o r = 0 then L ++ [(o, GH r)] else L) M' := by
 have q1 := hr.ls; have q2 := hr.ln; have q3 := hr.lg; have q4 := hr.lz
 have hlM : M.length <= 1000 := by have := hD.len; omega
 have el := L7 r (by omega)
 have hm := ABe (n := n) hI hD o r hr
 unfold EA
 simp only [hm, Option.bind_some]
 by_cases hv : If n L o r = 0
 .rw [if_pos hv, hv]
  have ho : ¬ o < 0 /\ o ∉ L.map (·.1) := by
   unfold If at hv
   split at hv
   .exact absurd hv (by decide)
   rename_i c
   exact ⟨fun h => c (.inl h), fun h => c (.inr (.inl h))⟩
  have c1 : A7 ([] : List AM) r.needs = some r.needs := by rw [A2 (by simp; omega)]; rfl
  have c2 : A7 ([] : List AM) r.guards = some r.guards := by rw [A2 (by simp; omega)]; rfl
  simp only [bne_self_eq_false, cond_false, el, c1, c2, Option.bind_some]
  obtain ⟨b, hb, z, k, hz, hzl, hk, k1, k2, rfl⟩ := Z0 r.zone q4 (step := D3 ⟨n, M⟩ o r (r.steps.map (·.elem)) r.needs r.guards)
   (Post := fun b => ∃ (z : List Int) (k : Nat), (∀ e, e ∈ z ↔ e ∈ r.zone) /\ z.length <= 1000 /\ k <= M.length /\ (∀ (j : Nat) a, j < k -> M[j]? = some a -> a.owner < o) /\ (∀ a, M[k]? = some a -> ¬ a.owner < o) /\ b = (⟨n, M.take k ++ [⟨o, r.steps.map (·.elem), z, r.needs, r.guards⟩] ++ M.drop k⟩, 0))
   (fun i e c hi hc => by have := BY hi; simp only [D3, BS hi, cond_true, Af, hi, Option.bind_some, AT (show i < 1000000000 by omega)])
   (fun z hz hzl => by
    have ins : ∀ k : Nat, k <= M.length -> ((Hx M 0 (k : Int)).bind fun y311 => (A7 ([] : List Al) y311).bind fun y313 => (A7 y313 [(⟨o, r.steps.map (·.elem), z, r.needs, r.guards⟩ : Al)]).bind fun y315 => (Hx M (k : Int) (M.length : Int)).bind fun y317 => (A7 y315 y317).bind fun y319 => some ((⟨n, y319⟩ : Aw), (0 : Int))) = some (⟨n, M.take k ++ [⟨o, r.steps.map (·.elem), z, r.needs, r.guards⟩] ++ M.drop k⟩, 0) := fun k hk => by
     rw [Rx hk, Vf hk]
     simp only [Option.bind_some]
     rw [A2 (by simp; omega)]
     simp only [Option.bind_some, List.nil_append]
     rw [A2 (by simp; omega)]
     simp only [Option.bind_some]
     rw [A2 (by simp; omega)]
     rfl
    obtain ⟨b, hb, k, hk, k1, k2, rfl⟩ := Bm (l := M) (step := DL ⟨n, M⟩ o (r.steps.map (·.elem)) r.needs r.guards ((r.zone.length : Int), z))
     (Post := fun b => ∃ k : Nat, k <= M.length /\ (∀ (j : Nat) a, j < k -> M[j]? = some a -> a.owner < o) /\ (∀ a, M[k]? = some a -> ¬ a.owner < o) /\ b = (⟨n, M.take k ++ [⟨o, r.steps.map (·.elem), z, r.needs, r.guards⟩] ++ M.drop k⟩, 0))
     (fun i a => a.owner < o) (fun good => ⟨_, by simp only [DL, Bw, cond_false, Option.bind_some, ins M.length (Nat.le_refl _), Option.map_some], M.length, Nat.le_refl _, fun j a _ ha => good j a ha, fun a ha => by simp at ha, rfl⟩)
     (fun i a ha hg => by
      have := BY ha
      by_cases c : a.owner < o
      .exact .inr ⟨by simp only [DL, BS ha, cond_true, Af, ha, Option.bind_some, decide_eq_true c, AT (show i < 1000000000 by omega)], c⟩
      exact .inl ⟨_, by simp only [DL, BS ha, cond_true, Af, ha, Option.bind_some, decide_eq_false c, cond_false, ins i (by omega), Option.map_some], i, by omega, fun j b hj hb => hg j b hj hb, fun b hb => by rw [ha] at hb; cases hb; exact c, rfl⟩)
    exact ⟨_, by simp only [D3, Bw, cond_false, hb, Option.map_some], z, k, hz, hzl, hk, k1, k2, rfl⟩)
  refine ⟨_, hb, ?_, ?_, fun h hh p hp hph e => ?_, fun h hh => ?_⟩
  .have p1 : (M.take k ++ ([⟨o, r.steps.map (·.elem), z, r.needs, r.guards⟩] : List Al) ++ M.drop k).Perm ((⟨o, r.steps.map (·.elem), z, r.needs, r.guards⟩ : Al) :: M) := by
    rw [List.append_assoc, List.singleton_append]
    refine List.perm_middle.trans ?_
    rw [List.take_append_drop]
   have p2 : (L ++ [(o, GH r)]).Perm ((o, GH r) :: L) := List.perm_append_comm
   refine (p1.map Ni).trans (List.Perm.trans ?_ (p2.map Nj).symm)
   exact List.Perm.cons _ hD.perm
  .have hlt : ∀ a ∈ M.take k, a.owner < o := fun a ha => by
    obtain ⟨j, hj, rfl⟩ := List.mem_iff_getElem.1 ha
    rw [List.length_take] at hj
    rw [List.getElem_take]
    exact k1 j _ (by omega) (List.getElem?_eq_getElem _)
   have hgt : ∀ a ∈ M.drop k, o < a.owner := fun a ha => by
    obtain ⟨j, hj, rfl⟩ := List.mem_iff_getElem.1 ha
    rw [List.length_drop] at hj
    rw [List.getElem_drop]
    have hne : (M[k + j]).owner ≠ o := fun h => ho.2 ((hD.keys o).1 (List.mem_map.2 ⟨_, List.getElem_mem _, h⟩))
    have hk0 := k2 _ (List.getElem?_eq_getElem (show k < M.length by omega))
    by_cases hj0 : j = 0
    .subst hj0; simp only [Nat.add_zero] at hne ⊢; omega
    have := List.pairwise_iff_getElem.1 hD.rise k (k + j) (by omega) (by omega) (by omega)
    omega
   rw [List.append_assoc, List.singleton_append, List.pairwise_append]
   refine ⟨hD.rise.sublist (List.take_sublist _ _), ?_, fun a ha b hb' => ?_⟩
   .rw [List.pairwise_cons]
    exact ⟨fun b hb' => hgt b hb', hD.rise.sublist (List.drop_sublist _ _)⟩
   rcases List.mem_cons.1 hb' with rfl | hb'
   .exact hlt a ha
   have := hlt a ha; have := hgt b hb'; omega
  .have hin : h ∈ M \/ h = ⟨o, r.steps.map (·.elem), z, r.needs, r.guards⟩ := by
    rcases List.mem_append.1 hh with hh | hh
    .rcases List.mem_append.1 hh with hh | hh
     .exact .inl (List.mem_of_mem_take hh)
     exact .inr (List.mem_singleton.1 hh)
    exact .inl (List.mem_of_mem_drop hh)
   rcases List.mem_append.1 hp with hp | hp
   .rcases hin with hin | rfl
    .exact hD.zone h hin p hp hph e
    exact absurd (List.mem_map.2 ⟨p, hp, hph⟩) ho.2
   rw [List.mem_singleton] at hp
   subst hp
   rcases hin with hin | rfl
   .exact absurd ((hD.keys o).1 (List.mem_map.2 ⟨h, hin, hph.symm⟩)) ho.2
   exact hz e
  rcases List.mem_append.1 hh with hh | hh
  .rcases List.mem_append.1 hh with hh | hh
   .exact hD.zlen h (List.mem_of_mem_take hh)
   rw [List.mem_singleton] at hh; subst hh; exact hzl
  exact hD.zlen h (List.mem_of_mem_drop hh)
 rw [if_neg hv]
 refine ⟨M, ?_, hD⟩
 have : (If n L o r != 0) = true := bne_iff_ne.2 hv
 simp only [this, cond_true]
theorem Z1 {i : Nat} {h : Al} (hr : M.Pairwise fun a b => a.owner < b.owner) (hi : M[i]? = some h) : M.take i ++ M.drop (i + 1) = M.filter fun a => !(decide (a.owner = h.owner)) := by
 induction M generalizing i with
 | nil => simp at hi
 | cons a M ih =>
  rw [List.pairwise_cons] at hr
  cases i with
  | zero =>
   simp at hi; subst hi
   rw [List.filter_cons_of_neg (by simp)]
   simp only [List.take_zero, List.nil_append, List.drop_succ_cons, List.drop_zero, Nat.zero_add]
   symm
   exact List.filter_eq_self.2 fun y hy => by
    have := hr.1 y hy
    simp; omega
  | succ i =>
   simp at hi
   have := hr.1 h (List.mem_of_getElem? hi)
   rw [List.filter_cons_of_pos (by simp; omega)]
   simp only [List.take_succ_cons, List.cons_append, List.drop_succ_cons]
   rw [ih hr.2 hi]
theorem C9.drop (hD : C9 L M) (o : Int) : C9 (L.filter fun p => !(decide (p.1 = o))) (M.filter fun a => !(decide (a.owner = o))) := by
 refine ⟨?_, hD.rise.sublist List.filter_sublist, fun h hh p hp => hD.zone h (List.mem_filter.1 hh).1 p (List.mem_filter.1 hp).1, fun h hh => hD.zlen h (List.mem_filter.1 hh).1⟩
 have := hD.perm.filter fun c => !(decide (c.1 = o))
 rw [List.filter_map, List.filter_map] at this
 exact this
theorem Xa (hl : M.length <= 1000) (hD : C9 L M) (o : Int) : ∃ M', Da ⟨n, M⟩ o = some (⟨n, M'⟩, decide (o ∈ L.map (·.1))) /\ C9 (L.filter fun p => !(decide (p.1 = o))) M' := by
 obtain ⟨t, t1, t2⟩ := WS (n := n) hl hD o
 unfold Da
 simp only [t1, Option.bind_some]
 rcases t2 with ⟨rfl, hm⟩ | ⟨i, h, rfl, h1, h2, hm⟩
 .refine ⟨M, ?_, ?_⟩
  .rw [decide_eq_false hm]; rfl
  rw [RH hm]; exact hD
 have hil := BY h1
 refine ⟨M.filter fun a => !(decide (a.owner = o)), ?_, hD.drop o⟩
 simp only [decide_eq_false (show ¬ ((i : Int) < 0) by omega), cond_false, AT (show i < 1000000000 by omega)]
 rw [Rx (by omega), Vf (by omega)]
 simp only [Option.bind_some]
 rw [A2 (by simp; omega)]
 simp only [Option.bind_some, List.nil_append]
 rw [A2 (by simp; omega)]
 simp only [Option.bind_some]
 rw [Z1 hD.rise h1, h2, decide_eq_true hm]
theorem U1 (l : List AM) (hl : l.length <= 1000) (e : Int) : GW l e = some (l.filter fun y => !(decide (y.elem = e))) := by
 unfold GW
 have key : ∀ i, i <= l.length -> AP (Dt l e) (0, ([] : List AM)) = AP (Dt l e) ((i : Int), (l.take i).filter fun y => !(decide (y.elem = e))) := by
  intro i
  induction i with
  | zero => intro _; rfl
  | succ i ih =>
   intro hi
   have hlt : i < l.length := by omega
   have ha : l[i]? = some l[i] := List.getElem?_eq_getElem hlt
   rw [ih (by omega)]
   refine B2 ?_
   have hb := List.length_filter_le (fun y : AM => !(decide (y.elem = e))) (l.take i)
   rw [List.length_take] at hb
   rw [List.take_add_one, ha, Option.toList_some, List.filter_append]
   simp only [Dt, BS ha, cond_true, Af, ha, Option.bind_some, Kq]
   by_cases c : l[i].elem = e
   .rw [if_pos c, List.filter_cons_of_neg (by simp [c])]
    simp only [Option.bind_some, List.filter_nil, List.append_nil, AT (show i < 1000000000 by omega)]
   rw [if_neg c, List.filter_cons_of_pos (by simp [c]), A2 (by simp; omega)]
   simp only [Option.bind_some, List.filter_nil, AT (show i < 1000000000 by omega)]
 have := key l.length (Nat.le_refl _)
 rw [List.take_length] at this
 rw [this]
 exact B7 (by simp only [Dt, Bw, cond_false])
def J9 (o e : Int) (h : Al) : Al := if h.owner = o then ⟨h.owner, h.steps.filter fun x => !(decide (x = e)), h.zone, h.needs.filter fun x => !(decide (x.elem = e)), h.guard⟩ else h
theorem MV (o e : Int) (h : Al) : (J9 o e h).owner = h.owner := by unfold J9; split <;> rfl
theorem RJ (o e : Int) (h : Al) : (J9 o e h).zone = h.zone := by unfold J9; split <;> rfl
theorem C9.freeM (hD : C9 L M) (o e : Int) : C9 (freeM L o e) (M.map (J9 o e)) := by
 refine ⟨?_, ?_, fun h hh p hp hph x => ?_, fun h hh => ?_⟩
 .have := hD.perm.map fun c => if c.1 = o then (c.1, c.2.1.filter (fun x => !(decide (x = e))), c.2.2.1.filter (fun x => !(decide (x.elem = e))), c.2.2.2) else c
  rw [List.map_map, List.map_map] at this
  unfold Go.E.freeM
  rw [List.map_map, List.map_map]
  refine (List.Perm.of_eq ?_).trans (this.trans (List.Perm.of_eq ?_))
  .refine List.map_congr_left fun h _ => ?_
   by_cases c : h.owner = o <;> simp [Function.comp, J9, Ni, c]
  refine List.map_congr_left fun p _ => ?_
  by_cases c : p.1 = o <;> simp [Function.comp, Nj, Gy, c]
 .rw [List.pairwise_map]
  refine hD.rise.imp fun {a b} h => ?_
  rw [MV, MV]; exact h
 .obtain ⟨a, ha, rfl⟩ := List.mem_map.1 hh
  obtain ⟨q, hq, rfl⟩ := List.mem_map.1 hp
  rw [MV] at hph
  rw [RJ]
  have : (if q.1 = o then (q.1, Gy e q.2) else q).1 = q.1 := by split <;> rfl
  rw [this] at hph
  rw [hD.zone a ha q hq hph]
  split <;> rfl
 obtain ⟨a, ha, rfl⟩ := List.mem_map.1 hh
 rw [RJ]; exact hD.zlen a ha
theorem Xb (hI : Cf L) (hD : C9 L M) {o e : Int} (h : ∀ p ∈ L, p.1 = o -> e ∉ p.2.st) : DB ⟨n, M⟩ o e = some (⟨n, M⟩, false) := by
 have hlM : M.length <= 1000 := by have := hD.len; have := hI.len; omega
 obtain ⟨t, t1, t2⟩ := WS (n := n) hlM hD o
 unfold DB
 simp only [t1, Option.bind_some]
 rcases t2 with ⟨rfl, hm⟩ | ⟨i, a, rfl, h1, h2, hm⟩
 .rfl
 obtain ⟨p, hp, p1, p2, -⟩ := hD.row (List.mem_of_getElem? h1)
 have hs := (hD.small hI (List.mem_of_getElem? h1)).1
 have hne : e ∉ a.steps := by rw [<- p2]; exact h p hp (p1.trans h2)
 simp only [decide_eq_false (show ¬ ((i : Int) < 0) by omega), cond_false, Af, h1, Option.bind_some, J8 a.steps (by omega), decide_eq_false hne, Bool.not_false, cond_true]
theorem WV (hI : Cf L) (hD : C9 L M) {p : Int × Bu} (hp : p ∈ L) {e : Int} (he : e ∈ p.2.st) : ∃ M', DB ⟨n, M⟩ p.1 e = some (⟨n, M'⟩, true) /\ C9 (Hk L p.1 e) M' := by
 have hlM : M.length <= 1000 := by have := hD.len; have := hI.len; omega
 have hm : p.1 ∈ L.map (·.1) := List.mem_map_of_mem hp
 obtain ⟨t, t1, t2⟩ := WS (n := n) hlM hD p.1
 unfold DB
 simp only [t1, Option.bind_some]
 rcases t2 with ⟨rfl, hm'⟩ | ⟨i, a, rfl, h1, h2, -⟩
 .exact absurd hm hm'
 obtain ⟨q, hq, p1, p2, p3, p4⟩ := hD.row (List.mem_of_getElem? h1)
 have hqp : q.2 = p.2 := XX hI hq (by show (p.1, p.2) ∈ L; exact hp) (p1.trans h2)
 rw [hqp] at p2 p3 p4
 obtain ⟨s1, s2, s3⟩ := hD.small hI (List.mem_of_getElem? h1)
 have s4 := hD.zlen a (List.mem_of_getElem? h1)
 have hin : e ∈ a.steps := by rw [<- p2]; exact he
 simp only [decide_eq_false (show ¬ ((i : Int) < 0) by omega), cond_false, Af, h1, Option.bind_some, J8 a.steps (by omega), decide_eq_true hin, Bool.not_true]
 have hloop : AP (CO ⟨n, M⟩ p.1 e (i : Int) a) (0, ([] : List Int)) = AP (CO ⟨n, M⟩ p.1 e (i : Int) a) ((a.steps.length : Int), a.steps.filter fun y => !(decide (y = e))) := by
  have key : ∀ j, j <= a.steps.length -> AP (CO ⟨n, M⟩ p.1 e (i : Int) a) (0, ([] : List Int)) = AP (CO ⟨n, M⟩ p.1 e (i : Int) a) ((j : Int), (a.steps.take j).filter fun y => !(decide (y = e))) := by
   intro j
   induction j with
   | zero => intro _; rfl
   | succ j ih =>
    intro hj
    have hlt : j < a.steps.length := by omega
    have ha : a.steps[j]? = some a.steps[j] := List.getElem?_eq_getElem hlt
    rw [ih (by omega)]
    refine B2 ?_
    have hb := List.length_filter_le (fun y : Int => !(decide (y = e))) (a.steps.take j)
    rw [List.length_take] at hb
    rw [List.take_add_one, ha, Option.toList_some, List.filter_append]
    simp only [CO, BS ha, cond_true, Af, ha, Option.bind_some, Kq]
    by_cases c : a.steps[j] = e
    .rw [if_pos c, List.filter_cons_of_neg (by simp [c])]
     simp only [Option.bind_some, List.filter_nil, List.append_nil, AT (show j < 1000000000 by omega)]
    rw [if_neg c, List.filter_cons_of_pos (by simp [c]), A2 (by simp; omega)]
    simp only [Option.bind_some, List.filter_nil, AT (show j < 1000000000 by omega)]
  have := key a.steps.length (Nat.le_refl _)
  rw [List.take_length] at this
  exact this
 rw [hloop]
 have hset : IX M (i : Int) (⟨a.owner, a.steps.filter (fun y => !(decide (y = e))), a.zone, a.needs.filter (fun y => !(decide (y.elem = e))), a.guard⟩ : Al) = M.map (J9 p.1 e) := by
  simp only [IX, Int.toNat_natCast]
  apply List.ext_getElem?
  intro j
  rw [List.getElem?_set, List.getElem?_map]
  split
  .rename_i hij
   subst hij
   rw [if_pos (BY h1), h1]
   simp only [Option.map_some, J9, h2, if_true]
  cases hj : M[j]? with
  | none => rfl
  | some b =>
   have : b.owner ≠ p.1 := fun hb => ‹¬ i = j› (hD.uniq h1 hj (h2.trans hb.symm))
   simp only [Option.map_some, J9, if_neg this]
 have hDm := hD.freeM p.1 e
 have hsame : ∀ q ∈ Go.E.freeM L p.1 e, q.1 = p.1 -> q.2 = Gy e p.2 := fun q hq hqe => by
  obtain ⟨q0, h0, rfl⟩ := List.mem_map.1 hq
  by_cases c : q0.1 = p.1
  .rw [if_pos c]
   simp only
   rw [XX hI h0 (show (p.1, p.2) ∈ L from hp) c]
  rw [if_neg c] at hqe; exact absurd hqe c
 have hfl := List.length_filter_le (fun y : Int => !(decide (y = e))) a.steps
 have hzz : a.zone.length = 0 ↔ p.2.zn.length = 0 := by
  have hz := hD.zone a (List.mem_of_getElem? h1) p hp h2.symm
  rw [List.length_eq_zero_iff, List.length_eq_zero_iff, List.eq_nil_iff_forall_not_mem, List.eq_nil_iff_forall_not_mem]
  exact ⟨fun h x hx => h x ((hz x).2 hx), fun h x hx => h x ((hz x).1 hx)⟩
 have hsum : ((Ae ((Ae (((a.steps.filter fun y => !(decide (y = e))).length : Int) + (a.zone.length : Int))) + (a.guard.length : Int))) == 0) = !(L5 (Gy e p.2)) := by
  rw [CL (n := ((a.steps.filter fun y => !(decide (y = e))).length : Int) + (a.zone.length : Int)) (by omega) (by omega), CL (by omega) (by omega)]
  rw [Bool.eq_iff_iff]
  simp only [beq_iff_eq, Bool.not_eq_true', L5, Gy, decide_eq_false_iff_not, p2, p4]
  omega
 have hend : ∃ b, (CO ⟨n, M⟩ p.1 e (i : Int) a) ((a.steps.length : Int), a.steps.filter fun y => !(decide (y = e))) = some (.inr b) /\ ∃ M', b = (⟨n, M'⟩, true) /\ C9 (Hk L p.1 e) M' := by
  simp only [CO, Bw, cond_false, U1 a.needs s2, Af, h1, Option.bind_some, hset, hsum]
  cases hlv : L5 (Gy e p.2) with
  | true =>
   refine ⟨_, rfl, M.map (J9 p.1 e), rfl, ?_⟩
   have : Hk L p.1 e = Go.E.freeM L p.1 e := List.filter_eq_self.2 fun q hq => by
    by_cases c : q.1 = p.1
    .rw [hsame q hq c, hlv]; simp
    simp [c]
   rw [this]; exact hDm
  | false =>
   obtain ⟨M', m1, m2⟩ := Xa (n := n) (by simpa using hlM) hDm p.1
   simp only [Bool.not_false, cond_true, m1, Option.bind_some, Option.map_some]
   refine ⟨_, rfl, M', rfl, ?_⟩
   have : Hk L p.1 e = (Go.E.freeM L p.1 e).filter fun q => !(decide (q.1 = p.1)) := List.filter_congr fun q hq => by
    by_cases c : q.1 = p.1
    .rw [hsame q hq c, hlv]; simp
    simp [c]
   rw [this]; exact m2
 obtain ⟨b, hb, M', rfl, hM'⟩ := hend
 exact ⟨M', B7 hb, hM'⟩
end Go.E
/- Plain Lean: what is done to both books is answered alike, and leaves them alike (LockPlays, LockRoads). No condition. -/
namespace Go.E
open Go
noncomputable def UM (d o e : Int) (r : AU) (eb er : Int) (st zn : List (Int × List Int)) (nd gd : List (Int × List AM)) (M : List Al) : Option (Bool × Int × Int × (List Al) × (List (Int × (List Int))) × (List (Int × (List Int))) × (List (Int × (List AM))) × (List (Int × (List AM)))) :=
 (((bif (d == 0) then some (d == 0) else bif (d == 1) then some (d == 1) else some (d == 2) : Option (Bool))).bind fun (t10940 : Bool) => bif t10940 then (BG (⟨eb, st, zn, nd, gd⟩ : AY) o r).bind fun y10950 => (BO (⟨eb, st, zn, nd, gd⟩ : AY) o r).bind fun y10954 => ((bif (y10950 == y10954.2) then (EA (⟨er, M⟩ : Aw) o r).bind fun y10963 => some ((y10954.2 == y10963.2), y10963.1.n, y10963.1.l) else some (false, er, M) : Option (Bool × Int × (List Al)))).bind fun (t10960 : Bool × Int × (List Al)) => some (t10960.1, t10960.2.1, y10954.1.elems, t10960.2.2, y10954.1.steps, y10954.1.zone, y10954.1.needs, y10954.1.guards) else ((bif (d == 3) then some (d == 3) else some (d == 4) : Option (Bool))).bind fun (t10970 : Bool) => bif t10970 then (CH (⟨eb, st, zn, nd, gd⟩ : AY) o e).bind fun y10980 => (DB (⟨er, M⟩ : Aw) o e).bind fun y10982 => some ((y10980.2 == y10982.2), y10982.1.n, y10980.1.elems, y10982.1.l, y10980.1.steps, y10980.1.zone, y10980.1.needs, y10980.1.guards) else bif (d == 5) then (Bt (⟨eb, st, zn, nd, gd⟩ : AY) o).bind fun y10990 => (Da (⟨er, M⟩ : Aw) o).bind fun y10992 => some ((y10990.2 == y10992.2), y10992.1.n, y10990.1.elems, y10992.1.l, y10990.1.steps, y10990.1.zone, y10990.1.needs, y10990.1.guards) else bif (d == 6) then ((some () : Option (Unit))).bind fun (t10999 : Unit) => (Bt (⟨eb, st, zn, nd, gd⟩ : AY) o).bind fun y11004 => (BO (⟨y11004.1.elems, y11004.1.steps, y11004.1.zone, y11004.1.needs, y11004.1.guards⟩ : AY) o r).bind fun y11008 => some (true, er, eb, M, st, zn, nd, gd) else some (true, er, eb, M, st, zn, nd, gd) : Option (Bool × Int × Int × (List Al) × (List (Int × (List Int))) × (List (Int × (List Int))) × (List (Int × (List AM))) × (List (Int × (List AM)))))
variable {n : Int} {L : List (Int × Bu)} {M : List Al}
structure Nm (L : List (Int × Bu)) (M : List Al) : Prop where
 inv : Cf L
 once : ∀ p ∈ L, p.2.st.Nodup
 doc : C9 L M
theorem Nm.start : Nm [] [] := ⟨⟨by simp, by simp, by simp, by simp, by simp, by simp, by simp, by simp, by simp⟩, by simp, ⟨by simp, by simp, by simp, by simp⟩⟩
theorem Yd (h : Nm L M) : Gf (bk n L) ⟨n, M⟩ = some true := by
 obtain ⟨hI, hO, hD⟩ := h
 have hol : (En (L.map (·.1))).length < 1000000 := by
  rw [(Dc _).length_eq, List.length_map]; have := hI.len; omega
 unfold Gf
 simp only [Ye hI, Yb hI hD, Option.bind_some, Vg _ _ hol, decide_true, Bool.not_true, cond_false]
 obtain ⟨b, hb, rfl⟩ : ∃ b, AP (Fa (bk n L) ⟨n, M⟩) (-1) = some b /\ b = true := by
  refine EZ (fun k s => s = (k : Int) - 1 /\ k <= 42) 42 ?_ ⟨rfl, by omega⟩
  rintro k s ⟨rfl, hk⟩
  by_cases c : k = 42
  .subst c
   exact .inl ⟨true, by simp only [Fa]; rfl, rfl⟩
  refine .inr ⟨by omega, _, ?_, rfl, by omega⟩
  simp only [Fa, decide_eq_true (show (k : Int) - 1 <= 40 by omega), cond_true, UL hI, XY hI hD, Ry hI, Rv hI hD, Rz hI, Ve hI hD, Option.bind_some, bne_self_eq_false, cond_false, Vg _ _ (Ya hI _), decide_true, Bool.not_true]
  rw [CL (by omega) (by omega)]
  refine congrArg some (congrArg Sum.inl ?_)
  omega
 exact hb
theorem UN (hI : Cf L) (hl : L.length < 1000) (o : Int) (r : AU) (hr : MU r) :
  BO (bk n L) o r = some (bk n (if If n L o r = 0 then L ++ [(o, GH r)] else L), If n L o r) /\ (If n L o r = 0 -> Cf (L ++ [(o, GH r)]) /\ o ∉ L.map (·.1) /\ Cu n r) := by
 have hm := ZP (n := n) hI o r hr
 by_cases h0 : o < 0
 .have hv : If n L o r = 1 := by unfold If; rw [if_pos (.inl h0)]
  rw [hv] at hm ⊢
  rw [if_neg (by decide)]
  exact ⟨R3 _ _ _ hm (by decide), fun h => absurd h (by decide)⟩
 obtain ⟨v, h1, h2, h3⟩ := AAy (n := n) hI hl o (by omega) r hr
 rw [hm] at h1
 cases h1
 exact ⟨h2, h3⟩
theorem AAz (h : Nm L M) (hl : L.length < 999) (d o e : Int) (r : AU) (hr : MU r) : ∃ L' M', Nm L' M' /\ L'.length <= L.length + 1 /\
  UM d o e r n n (bk n L).steps (bk n L).zone (bk n L).needs (bk n L).guards M = some (true, n, n, M', (bk n L').steps, (bk n L').zone, (bk n L').needs, (bk n L').guards) := by
 obtain ⟨hI, hO, hD⟩ := h
 have hlM : M.length <= 1000 := by have := hD.len; omega
 have same : (⟨n, (bk n L).steps, (bk n L).zone, (bk n L).needs, (bk n L).guards⟩ : AY) = bk n L := rfl
 have hmay := ZP (n := n) hI o r hr
 obtain ⟨htake, hok⟩ := UN (n := n) hI (by omega) o r hr
 by_cases d0 : d = 0 \/ d = 1 \/ d = 2
 .have dt : (bif (d == 0) then some (d == 0) else bif (d == 1) then some (d == 1) else some (d == 2) : Option Bool) = some true := by
   rcases d0 with rfl | rfl | rfl <;> rfl
  obtain ⟨M', m1, m2⟩ := AAx (n := n) hI hD (by omega) o r hr
  refine ⟨if If n L o r = 0 then L ++ [(o, GH r)] else L, M', ⟨?_, ?_, m2⟩, ?_, ?_⟩
  .split
   .exact (hok ‹_›).1
   exact hI
  .split
   .intro p hp
    rcases List.mem_append.1 hp with hp | hp
    .exact hO p hp
    rw [List.mem_singleton] at hp; subst hp; exact (hok ‹_›).2.2.once
   exact hO
  .split
   .simp
   omega
  simp only [UM, dt, Option.bind_some, cond_true, same, hmay, htake, beq_self_eq_true, m1]
  rfl
 have dt : (bif (d == 0) then some (d == 0) else bif (d == 1) then some (d == 1) else some (d == 2) : Option Bool) = some false := by
  have e0 : (d == 0) = false := by simp; omega
  have e1 : (d == 1) = false := by simp; omega
  have e2 : (d == 2) = false := by simp; omega
  rw [e0, e1, e2]; rfl
 by_cases d3 : d = 3 \/ d = 4
 .have dt3 : (bif (d == 3) then some (d == 3) else some (d == 4) : Option Bool) = some true := by
   rcases d3 with rfl | rfl <;> rfl
  by_cases hfree : ∃ p ∈ L, p.1 = o /\ e ∈ p.2.st
  .obtain ⟨p, hp, rfl, he⟩ := hfree
   obtain ⟨M', m1, m2⟩ := WV (n := n) hI hD hp he
   have f1 := YY (n := n) hI hp (hO p hp) he
   have hsub := XW hI p.1 e
   refine ⟨Hk L p.1 e, M', ⟨hsub.inv hI, fun q hq => ?_, m2⟩, by have := hsub.len; omega, ?_⟩
   .rcases Sc.1 hq with ⟨h1, _⟩ | ⟨h1, h2, b, h3, h4⟩
    .exact hO q h1
    rw [h4]; exact (hO _ h3).filter _
   simp only [UM, dt, Option.bind_some, cond_false, dt3, cond_true, same, f1, m1, beq_self_eq_true]
   rfl
  have hno : ∀ p ∈ L, p.1 = o -> e ∉ p.2.st := fun p hp h1 h2 => hfree ⟨p, hp, h1, h2⟩
  have f1 := Zy (n := n) hI hno
  have m1 := Xb (n := n) hI hD hno
  refine ⟨L, M, ⟨hI, hO, hD⟩, by omega, ?_⟩
  simp only [UM, dt, Option.bind_some, cond_false, dt3, cond_true, same, f1, m1, beq_self_eq_true]
  rfl
 have dt3 : (bif (d == 3) then some (d == 3) else some (d == 4) : Option Bool) = some false := by
  have e0 : (d == 3) = false := by simp; omega
  have e1 : (d == 4) = false := by simp; omega
  rw [e0, e1]; rfl
 by_cases d5 : d = 5
 .obtain ⟨M', m1, m2⟩ := Xa (n := n) hlM hD o
  have f1 := Xc (n := n) hI o
  refine ⟨_, M', ⟨hI.drop o, fun p hp => hO p (List.mem_filter.1 hp).1, m2⟩, by have := List.length_filter_le (fun p : Int × Bu => !(decide (p.1 = o))) L; omega, ?_⟩
  have e5 : (d == 5) = true := by simp [d5]
  simp only [UM, dt, Option.bind_some, cond_false, dt3, e5, cond_true, same, f1, m1, beq_self_eq_true]
  rfl
 have e5 : (d == 5) = false := by simp; omega
 refine ⟨L, M, ⟨hI, hO, hD⟩, by omega, ?_⟩
 by_cases d6 : d = 6
 .have e6 : (d == 6) = true := by simp [d6]
  have f1 := Xc (n := n) hI o
  have hlf := List.length_filter_le (fun p : Int × Bu => !(decide (p.1 = o))) L
  obtain ⟨f2, -⟩ := UN (n := n) (hI.drop o) (by omega) o r hr
  have f2' : BO ⟨(bk n (L.filter fun p => !(decide (p.1 = o)))).elems, (bk n (L.filter fun p => !(decide (p.1 = o)))).steps, (bk n (L.filter fun p => !(decide (p.1 = o)))).zone, (bk n (L.filter fun p => !(decide (p.1 = o)))).needs, (bk n (L.filter fun p => !(decide (p.1 = o)))).guards⟩ o r = _ := f2
  simp only [UM, dt, Option.bind_some, cond_false, dt3, e5, e6, cond_true, same, f1, f2']
 have e6 : (d == 6) = false := by simp; omega
 simp only [UM, dt, Option.bind_some, cond_false, dt3, e5, e6]
theorem Yf (x : Int) : (if (if 40 < x then 40 else x) > 0 then (if 40 < x then 40 else x) else 0) = (if 40 < (if 0 > x then 0 else x) then 40 else (if 0 > x then 0 else x)) := by
 split <;> split <;> split <;> first | rfl | omega | (split <;> omega)
theorem ABf (u : Int) : ∃ q, To u 8 = some q /\ 0 <= Ae q := by
 unfold To
 rw [if_neg (by decide)]
 refine ⟨_, rfl, ?_⟩
 unfold Ae IntKind.wrap
 simp only [IntKind.signed, IntKind.bits]
 simp
 omega
theorem R5 (hk : Gg = some true) (p : AO) (ws vs : List Int) (kw : ∀ v ∈ ws, (Lit.int .u8 v).wf = true) (kv : ∀ v ∈ vs, (Lit.int .u8 v).wf = true) : Gs p ws vs = some true := by
 unfold Gs
 simp only [hk, Option.bind_some, Bool.not_true, cond_false]
 obtain ⟨l, e, h1, h2⟩ := Yg p
 simp only [h1, Option.bind_some]
 cases e with
 | false => rfl
 | true =>
  obtain ⟨hv, m, hn, hlen, rfl⟩ := h2 rfl
  have hLR : ∀ r ∈ (Ej p).1.map (GJ m), MU r /\ 1 <= r.steps.length := fun r hr => by
   obtain ⟨r0, h0, rfl⟩ := List.mem_map.1 hr
   refine ⟨Yh hv hn h0, ?_⟩
   obtain ⟨s, hs⟩ := QE h0
   have hl := Is hs
   have hnd : r0.needs.length <= 12 := (FL hs).2.2.2.2.2.2.2.2
   have hf := (My hv hn hl (show r0.needs.length <= 1000 by omega)).2
   rw [hf.steps]
   exact (FL hs).2.2.2.2.2.2.2.1
  generalize hg : (Ej p).1.map (GJ m) = l at hLR
  have hlen' : l.length <= 64 := by rw [<- hg, List.length_map]; exact hlen
  simp only [Bool.not_true, cond_false, Option.bind_some]
  by_cases c1 : l.length = 0
  .simp [c1]
  have c1' : ((l.length : Int) == 0) = false := by simp only [beq_eq_false_iff_ne]; omega
  by_cases c2 : (60 : Int) < (ws.length : Int)
  .simp [c1', c2]
  by_cases c3 : (vs.length : Int) < (ws.length : Int)
  .simp [c1', c2, c3]
  simp only [c1', cond_false, decide_eq_false c2, decide_eq_false c3, Option.bind_some, Yf]
  generalize (if 40 < (if 0 > (p.elems.length : Int) then 0 else (p.elems.length : Int)) then 40 else (if 0 > (p.elems.length : Int) then 0 else (p.elems.length : Int))) = n
  obtain ⟨t, ht, rfl⟩ : ∃ t, AP (D4 ws vs (l, true)) (0, n, n, [], [], [], [], ([] : List Al)) = some t /\ t = true := by
   refine EZ (fun k s => k <= ws.length /\ ∃ L M, Nm L M /\ L.length <= k /\ s = ((k : Int), n, n, (bk n L).steps, (bk n L).zone, (bk n L).needs, (bk n L).guards, M)) ws.length ?_ ⟨Nat.zero_le _, [], [], Nm.start, Nat.zero_le _, rfl⟩
   rintro k s ⟨hkl, L, M, hB, hL, rfl⟩
   by_cases he : k = ws.length
   .subst he
    exact .inl ⟨true, by simp only [D4, Bw, cond_false], rfl⟩
   have hlt : k < ws.length := by omega
   obtain ⟨v, hvk⟩ : ∃ v, ws[k]? = some v := ⟨_, List.getElem?_eq_getElem hlt⟩
   obtain ⟨u, huk⟩ : ∃ u, vs[k]? = some u := ⟨_, List.getElem?_eq_getElem (by omega)⟩
   obtain ⟨v1, v2, v3⟩ := u8w (kw v (List.mem_of_getElem? hvk))
   obtain ⟨u1, u2, u3⟩ := u8w (kv u (List.mem_of_getElem? huk))
   obtain ⟨j, j1, j2⟩ := QF (n := v) (k := l.length) v1 (by omega)
   obtain ⟨r, hr⟩ : ∃ r, l[j]? = some r := ⟨_, List.getElem?_eq_getElem j1⟩
   obtain ⟨q, q1, q2⟩ := QF (n := u) (k := 7) u1 (by omega)
   have q2 : MP u 7 = some (q : Int) := q2
   obtain ⟨z, z1, z2⟩ := ABf u
   obtain ⟨hrL, hr1⟩ := hLR r (List.mem_of_getElem? hr)
   obtain ⟨a, a1, a2⟩ := QF (n := Ae z) (k := r.steps.length) z2 (by omega)
   obtain ⟨s, ha⟩ : ∃ s, r.steps[a]? = some s := ⟨_, List.getElem?_eq_getElem a1⟩
   obtain ⟨L', M', hB', hL', hdo⟩ := AAz (n := n) hB (by omega) (q : Int) (j : Int) s.elem r hrL
   have hal := Yd (n := n) hB'
   refine .inr ⟨hlt, (((k + 1 : Nat) : Int), n, n, (bk n L').steps, (bk n L').zone, (bk n L').needs, (bk n L').guards, M'), ?_, by omega, L', M', hB', by omega, rfl⟩
   simp only [D4, BS hvk, cond_true, Af, hvk, v3, u3, j2, hr, huk, q2, z1, a2, ha, Option.bind_some, AT (show k < 1000000000 by omega)]
   refine bsA hdo ?_
   have hq : ((bif (!true) then some true else (Gf (bk n L') ⟨n, M'⟩).bind fun y => some (!y) : Option Bool)) = some false := by
    simp only [Bool.not_true, cond_false, hal, Option.bind_some]
   exact bsA hq rfl
  exact ht
end Go.E
/- The known answers of layer 14. No condition. -/
set_option maxRecDepth 100000
namespace Go.E
open Go Go.Proofs
theorem bs {α β : Type} {o : Option α} {a : α} {f : α -> Option β} {r : β} (h : o = some a) (k : f a = some r) : o.bind f = some r := by rw [h]; exact k
theorem bt {α : Type} {c : Bool} {a b : Option α} {r : α} (h : c = true) (k : a = some r) : (bif c then a else b) = some r := by rw [h]; exact k
theorem bF {α : Type} {c : Bool} {a b : Option α} {r : α} (h : c = false) (k : b = some r) : (bif c then a else b) = some r := by rw [h]; exact k
noncomputable def TO : AO := I5.getD ⟨[], [], [], [], 0, 0, 0, 0, false⟩
noncomputable def Mt : List AU := match EW TO with
 | some c => c.1.roads
 | none => []
noncomputable def kR (i : Nat) : AU := Mt.getD i ⟨0, 0, 0, [], [], [], [], [], false⟩
noncomputable def Q5 : AY := Db 6 1 (kR 1)
noncomputable def XP : AY := ⟨6, A5 0 ((kR 0).steps.map (·.elem)) Q5.steps, A5 0 (kR 0).zone Q5.zone, A5 0 (kR 0).needs Q5.needs, A5 0 (kR 0).guards Q5.guards⟩
noncomputable def VS : AY := match CH XP 1 2 with
 | some b => b.1
 | none => XP
noncomputable def Q6 : AY := match Bt VS 0 with
 | some b => b.1
 | none => VS
def XQ (n : Int) (r : AU) : Bool := decide (1 <= r.steps.length) && decide (r.steps.length <= 1000) && decide (r.needs.length <= 1000) && decide (r.guards.length <= 1000) && decide (r.zone.length <= 1000) && decide (∀ s ∈ r.steps, 0 <= s.elem /\ s.elem < n) &&
 decide ((r.steps.map (·.elem)).Nodup) && decide (∀ e ∈ r.zone, 0 <= e /\ e < n /\ e ∉ r.steps.map (·.elem)) && decide (∀ x ∈ r.needs ++ r.guards, (0 <= x.elem /\ x.elem < n) /\ (x.pos = 1 \/ x.pos = 2)) && decide (∀ a ∈ r.needs ++ r.guards, ∀ b ∈ r.needs ++ r.guards, a.elem = b.elem -> a.pos = b.pos)
theorem P7 {n : Int} {r : AU} (h : XQ n r = true) : Cu n r := by
 simp only [XQ, Bool.and_eq_true, decide_eq_true_eq] at h
 obtain ⟨⟨⟨⟨⟨⟨⟨⟨⟨h1, h2⟩, h3⟩, h4⟩, h5⟩, h6⟩, h7⟩, h8⟩, h9⟩, h10⟩ := h
 exact ⟨h1, h2, h3, h4, h5, h6, h7, h8, h9, h10⟩
def AAh (m : List (Int × List Int)) (e : Int) : Bool := decide (∀ p ∈ m, ∀ q ∈ m, e ∈ p.2 -> e ∈ q.2 -> p.1 = q.1) && decide (∀ p ∈ m, p.2.length < 1000000)
def ZM (b : AY) (e : Int) : Bool := decide (b.needs.length < 1000000) && decide (∀ p ∈ b.needs, ((AZ b.needs p.1).getD []).length < 100000 /\ ((AZ b.guards p.1).getD []).length < 100000) && decide (∀ x ∈ Co b e b.needs, ∀ y ∈ Co b e b.needs, x = y)
theorem XR {b : AY} {e v : Int} (h : AAh b.steps e = true) (hv : P8 b.steps e = v) : Bh b e = some v := by
 simp only [AAh, Bool.and_eq_true, decide_eq_true_eq] at h
 rw [Nc b e h.1 h.2, hv]
theorem VT {b : AY} {e : Int} {v : Int × Int} (h : ZM b e = true) (hv : ((Co b e b.needs).headD 0, ((Co b e b.needs).length : Int)) = v) : Bs b e = some v := by
 simp only [ZM, Bool.and_eq_true, decide_eq_true_eq] at h
 rw [PT b e h.1.1 h.1.2 h.2, hv]
theorem Zw : Gg = some true := by
 have R0 : Cu 6 (kR 0) := P7 (by kernel_rfl)
 have R1 : Cu 6 (kR 1) := P7 (by kernel_rfl)
 have R4 : Cu 6 (kR 4) := P7 (by kernel_rfl)
 have c4 : UE (kR 1) (kR 4) = 14 := by kernel_rfl
 have c0 : UE (kR 1) (kR 0) = 0 := by kernel_rfl
 have t1 : BO (PU 6) 1 (kR 1) = some (Q5, 0) := ABd 6 1 (kR 1) R1 (by decide)
 have m4 : BG Q5 4 (kR 4) = some 14 := (AAi 6 1 4 (kR 1) (kR 4) R1 R4 (by decide) (by decide) (by decide)).trans (congrArg some c4)
 have m0 : BG Q5 0 (kR 0) = some 0 := (AAi 6 1 0 (kR 1) (kR 0) R1 R0 (by decide) (by decide) (by decide)).trans (congrArg some c0)
 have t2 : BO Q5 0 (kR 0) = some (XP, 0) := P9 Q5 0 (kR 0) R0 m0
 have h2 : Bs XP 2 = some (1, 1) := VT (by kernel_rfl) (by kernel_rfl)
 have f3 : CH XP 1 2 = some (VS, true) := by kernel_rfl
 have h3 : Bs VS 2 = some (0, 0) := VT (by kernel_rfl) (by kernel_rfl)
 have o3 : Bh VS 3 = some 1 := XR (by kernel_rfl) (by kernel_rfl)
 have d4 : Bt VS 0 = some (Q6, true) := by kernel_rfl
 have d5 : Bt Q6 0 = some (Q6, false) := by kernel_rfl
 have os : Cb Q6 = some [1] := by rw [SY Q6 (of_decide_eq_true (by kernel_rfl))]; exact congrArg some (by kernel_rfl)
 have o4 : Bh Q6 1 = some (-1) := XR (by kernel_rfl) (by kernel_rfl)
 have z4 : CM Q6 1 = some [] := by rw [Nd Q6 1 (of_decide_eq_true (by kernel_rfl)) (of_decide_eq_true (by kernel_rfl))]; exact congrArg some (by kernel_rfl)
 have hp : I5 = some TO := by kernel_rfl
 have hb : EW TO = some (⟨TO, Mt⟩, 0) := by kernel_rfl
 have s6 : ((Mt.length : Int) != 6) = false := by kernel_rfl
 have i1 : An Mt 1 = some (kR 1) := by kernel_rfl
 have i4 : An Mt 4 = some (kR 4) := by kernel_rfl
 have i0 : An Mt 0 = some (kR 0) := by kernel_rfl
 have hs : BZ Q6 1 = some true := by kernel_rfl
 have sm : Di [1] [1] = some true := by kernel_rfl
 unfold Gg
 refine bs hp <| bs hb <| bs rfl <| bs (a := false) (bF rfl (congrArg some s6)) <| bF rfl <| bs i1 <| bs i4 <| bs i0 <| bs t1 <| bs m4 <| bs t2 <| bs h2 <| bs f3 <| bs h3 <| bs o3 <| bs d4 <| ?_
 refine bs (a := true) ?_ rfl
 refine bt rfl <| bt rfl <| bt rfl <| bt rfl <| bt rfl <| bt rfl <| bt rfl <| bt rfl <| bt rfl <| bt rfl <| bs d5 <| bt rfl <| bs os <| bs sm <| bt rfl <| bs hs <| bt rfl <| bs o4 <| bt rfl <| bs z4 rfl
end Go.E
