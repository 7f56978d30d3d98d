/- Plain data for the values of a run (DV), what a value reads as in a world (As), and how a reading Wh. No condition. -/
import Derived.WalkKit
import Derived.WalkSpells
import Derived.WalkLawsBesides
set_option linter.unusedVariables false
set_option linter.unusedSimpArgs false
namespace Go.E
open Go Go.RowKit
inductive DV where
 | int (k : IntKind) (n : Int)
 | bool (b : Bool)
 | str (s : ByteArray)
 | nils
 | nilp
 | agg (l : List DV)
 | tup (l : List DV)
 | slice (sz : Nat) (l : List (List DV))
 | place (l : List DV) (off : Nat)
 | map (m : List (DV × DV))
 | nilm
 | fn (k : Nat) (caps : List DV)
 deriving Inhabited
inductive As (O : Nat -> Prop) (w : World) : Value -> DV -> Prop where
 | int (k : IntKind) (n : Int) : As O w (.int k n) (.int k n)
 | bool (b : Bool) : As O w (.bool b) (.bool b)
 | str (s : ByteArray) : As O w (.string s) (.str s)
 | nils : As O w (.slice none 0 0) .nils
 | nilp : As O w (.pointer none) .nilp
 | nilm : As O w (.map none) .nilm
 | mnil : As O w (.map none) (.map [])
 | agg (vs : Array Value) (ds : List DV) (hsz : vs.size = ds.length)
   (h : ∀ (i : Nat) (v : Value) (d : DV), vs[i]? = some v -> ds[i]? = some d -> As O w v d) : As O w (.agg vs) (.agg ds)
 | tup (vs : Array Value) (ds : List DV) (hsz : vs.size = ds.length)
   (h : ∀ (i : Nat) (v : Value) (d : DV), vs[i]? = some v -> ds[i]? = some d -> As O w v d) : As O w (.tuple vs) (.tup ds)
 | snil (sz : Nat) : As O w (.slice none 0 0) (.slice sz [])
 | sempty (a : Addr) (sz : Nat) : As O w (.slice (some a) 0 0) (.slice sz [])
 | slice (b o cap sz : Nat) (l : List (List DV)) (cs : Nat -> Nat -> Value) (hO : ¬ O b) (hlt : b < w.heap.size)
   (hsz : ∀ x ∈ l, x.length = sz) (hcap : l.length <= cap) (hmx : l.length <= maxLen)
   (hc : ∀ i j, i < l.length -> j < sz -> w.cell? ⟨b, o + i * sz + j, none⟩ = some (cs i j))
   (hr : ∀ (i j : Nat) (x : List DV) (d : DV), l[i]? = some x -> x[j]? = some d -> As O w (cs i j) d) :
   As O w (.slice (some ⟨b, o, none⟩) l.length cap) (.slice sz l)
 | place (b o : Nat) (l : List DV) (off : Nat) (cs : Nat -> Value) (hO : ¬ O b) (hlt : b < w.heap.size)
   (hc : ∀ i, i < l.length -> w.cell? ⟨b, o + i, none⟩ = some (cs i))
   (hr : ∀ (i : Nat) (d : DV), l[i]? = some d -> As O w (cs i) d) : As O w (.pointer (some ⟨b, o + off, none⟩)) (.place l off)
 | map (b : Nat) (es : Array MapEntry) (clock : Nat) (m : List (DV × DV)) (hO : ¬ O b) (hlt : b < w.heap.size)
   (hb : w.heap[b]? = some (.map es clock)) (hsz : es.size = m.length) (hbn : (es.toList.map (·.born)).Nodup /\ ∀ e ∈ es.toList, e.born < clock)
   (hk : ∀ (i : Nat) (e : MapEntry) (p : DV × DV), es[i]? = some e -> m[i]? = some p -> As O w e.key p.1)
   (hv : ∀ (i : Nat) (e : MapEntry) (p : DV × DV), es[i]? = some e -> m[i]? = some p -> As O w e.val p.2) :
   As O w (.map (some b)) (.map m)
 | fn (f : FuncId) (caps : Array Value) (ds : List DV) (hsz : caps.size = ds.length)
   (h : ∀ (i : Nat) (v : Value) (d : DV), caps[i]? = some v -> ds[i]? = some d -> As O w v d) : As O w (.func (.func f) #[] caps) (.fn f ds)
structure BJ (O : Nat -> Prop) (w w' : World) : Prop where
 size : w.heap.size <= w'.heap.size
 block : ∀ b, b < w.heap.size -> ¬ O b -> w'.heap[b]? = w.heap[b]?
theorem BJ.refl (O : Nat -> Prop) (w : World) : BJ O w w := ⟨Nat.le_refl _, fun _ _ _ => rfl⟩
theorem BJ.cell {O : Nat -> Prop} {w w' : World} (h : BJ O w w') {a : Addr} (hb : a.block < w.heap.size) (hO : ¬ O a.block) : w'.cell? a = w.cell? a :=
 World.cell?_of_block (w := w) (h.block _ hb hO)
theorem As.mono {O O' : Nat -> Prop} {w w' : World} (hk : BJ O w w') (hO : ∀ b, b < w.heap.size -> O' b -> O b) {v : Value} {d : DV} (h : As O w v d) : As O' w' v d := by
 induction h with
 | int k n => exact .int k n
 | bool b => exact .bool b
 | str s => exact .str s
 | nils => exact .nils
 | nilp => exact .nilp
 | nilm => exact .nilm
 | mnil => exact .mnil
 | agg vs ds hsz _ ih => exact .agg vs ds hsz ih
 | tup vs ds hsz _ ih => exact .tup vs ds hsz ih
 | snil sz => exact .snil sz
 | sempty a sz => exact .sempty a sz
 | slice b o cap sz l cs hOb hlt hsz hcap hmx hc _ ih =>
  refine .slice b o cap sz l cs (fun h => hOb (hO b hlt h)) (Nat.lt_of_lt_of_le hlt hk.size) hsz hcap hmx (fun i j hi hj => ?_) ih
  rw [hk.cell hlt hOb]; exact hc i j hi hj
 | place b o l off cs hOb hlt hc _ ih =>
  refine .place b o l off cs (fun h => hOb (hO b hlt h)) (Nat.lt_of_lt_of_le hlt hk.size) (fun i hi => ?_) ih
  rw [hk.cell hlt hOb]; exact hc i hi
 | map b es clock m hOb hlt hb hsz hbn _ _ ihk ihv =>
  exact .map b es clock m (fun h => hOb (hO b hlt h)) (Nat.lt_of_lt_of_le hlt hk.size) ((hk.block b hlt hOb).trans hb) hsz hbn ihk ihv
 | fn f caps ds hsz _ ih => exact .fn f caps ds hsz ih
def DV.flat : DV -> Bool
 | .int .. | .bool _ | .str _ | .nils | .nilp | .nilm => true
 | _ => false
def DV.scalar : DV -> Bool
 | .agg l | .tup l => l.all fun
  | .agg l => l.all DV.flat
  | d => d.flat
 | d => d.flat
theorem As.flat {O : Nat -> Prop} {w : World} {v : Value} {d : DV} (h : As O w v d) (hf : d.flat = true) (O' : Nat -> Prop) (w' : World) : As O' w' v d := by
 cases h <;> first | (simp [DV.flat] at hf; done) | constructor
theorem As.scalar {O : Nat -> Prop} {w : World} {v : Value} {d : DV} (h : As O w v d) (hf : d.scalar = true) (O' : Nat -> Prop) (w' : World) : As O' w' v d := by
 have inner : ∀ {v : Value} {d : DV}, As O w v d -> (match d with | .agg l => l.all DV.flat | d => d.flat) = true -> As O' w' v d := by
  intro v d h hf
  cases h with
  | agg vs ds hsz h =>
   refine .agg vs ds hsz fun i v d h1 h2 => (h i v d h1 h2).flat ?_ O' w'
   exact List.all_eq_true.1 hf d (List.mem_of_getElem? h2)
  | _ => first | (simp [DV.flat] at hf; done) | constructor
 cases h with
 | agg vs ds hsz h =>
  refine .agg vs ds hsz fun i v d h1 h2 => inner (h i v d h1 h2) ?_
  exact List.all_eq_true.1 hf d (List.mem_of_getElem? h2)
 | tup vs ds hsz h =>
  refine .tup vs ds hsz fun i v d h1 h2 => inner (h i v d h1 h2) ?_
  exact List.all_eq_true.1 hf d (List.mem_of_getElem? h2)
 | _ => first | (simp [DV.scalar, DV.flat] at hf; done) | constructor
def DV.cell : DV -> Bool
 | .agg _ | .tup _ => false
 | _ => true
theorem As.oneCell {O : Nat -> Prop} {w : World} {v : Value} {d : DV} (h : As O w v d) (hc : d.cell = true) : v.oneCell' = true /\ v.cells = #[v] := by
 cases h <;> first | (simp [DV.cell] at hc; done) | exact ⟨rfl, rfl⟩
end Go.E
/- The data state of a frame (St) and what it is to be in step with a real frame and world (R). No condition. -/
namespace Go.E
open Go Go.RowKit
inductive LV where
 | p (d : DV)
 | lsl (id sz off len : Nat)
 | lpb (id off : Nat)
 | lpe (id i off : Nat)
 | lmap (id : Nat)
 | agg (l : List LV)
 | tup (l : List LV)
 | fn (f : FuncId) (caps : List LV)
 | und
 | any
 deriving Inhabited
inductive BB where
 | box (cells : List LV)
 | row (e sz : Nat) (elems : List (List DV))
 | map (m : List (DV × DV))
 | mapd (m : List (DV × DV))
 | iter (cur : Option (DV × DV)) (left : List (DV × DV))
 deriving Inhabited
structure BQ where
 nil : Bool
 b : Nat
 o : Nat
 sz : Nat
 cap : Nat
structure St where
 nt : Nat
 slots : List (Nat × LV)
 heap : List (Nat × BB)
 ctr : Nat
def AJ {α : Type} (t : Nat) : List (Nat × α) -> Option α
 | [] => none
 | (k, v) :: l => if t = k then some v else AJ t l
def BR {α : Type} (t : Nat) (v : α) : List (Nat × α) -> List (Nat × α)
 | [] => []
 | (k, u) :: l => if t = k then (k, v) :: l else (k, u) :: BR t v l
def Gk {α : Type} (t : Nat) : List (Nat × α) -> List (Nat × α)
 | [] => []
 | (k, u) :: l => if t = k then Gk t l else (k, u) :: Gk t l
theorem IY {α : Type} {t : Nat} {v u : α} : ∀ {l : List (Nat × α)}, AJ t l = some u -> AJ t (BR t v l) = some v
 | [], h => by simp [AJ] at h
 | (k, x) :: l, h => by
  unfold BR
  split
  .simp [AJ, *]
  rename_i hk; simp only [AJ, hk, if_false] at h ⊢; exact IY h
theorem DK {α : Type} {t t' : Nat} {v : α} (hne : t' ≠ t) : ∀ {l : List (Nat × α)}, AJ t' (BR t v l) = AJ t' l
 | [] => rfl
 | (k, x) :: l => by
  unfold BR
  split
  .rename_i hk; subst hk; simp [AJ, hne]
  simp only [AJ]; split <;> simp [DK hne (l := l)]
theorem FN {α : Type} {t t' : Nat} (hne : t' ≠ t) : ∀ {l : List (Nat × α)}, AJ t' (Gk t l) = AJ t' l
 | [] => rfl
 | (k, x) :: l => by
  unfold Gk
  split
  .rename_i hk; subst hk; simp [AJ, hne, FN hne (l := l)]
  simp only [AJ]; split <;> simp [FN hne (l := l)]
theorem F8 {α : Type} {t : Nat} : ∀ {l : List (Nat × α)}, AJ t (Gk t l) = none
 | [] => rfl
 | (k, x) :: l => by
  unfold Gk
  split
  .exact F8
  rename_i hk; simp only [AJ, hk, if_false]; exact F8
def BZ (l : List (Nat × LV)) (t : Nat) : LV := match AJ t l with | some v => v | none => .any
inductive Aa (O : Nat -> Prop) (μ : Nat -> Option BQ) (w : World) : Value -> LV -> Prop where
 | any (v : Value) : Aa O μ w v .any
 | und : Aa O μ w undef .und
 | p (v : Value) (d : DV) (h : As O w v d) : Aa O μ w v (.p d)
 | lsln (id : Nat) (loc : BQ) (hm : μ id = some loc) (hn : loc.nil = true) : Aa O μ w (.slice none 0 0) (.lsl id loc.sz 0 0)
 | lsl (id off len cap : Nat) (a : Addr) (loc : BQ) (hm : μ id = some loc) (hn : loc.nil = false) (hcap : off + cap = loc.cap) (hl : len <= cap)
   (ha : 0 < cap -> a = ⟨loc.b, loc.o + off * loc.sz, none⟩) (hb : a.block = loc.b) (hs : a.spot = none) : Aa O μ w (.slice (some a) len cap) (.lsl id loc.sz off len)
 | lpb (id off : Nat) (loc : BQ) (hm : μ id = some loc) (hn : loc.nil = false) : Aa O μ w (.pointer (some ⟨loc.b, off, none⟩)) (.lpb id off)
 | lpe (id i off : Nat) (loc : BQ) (hm : μ id = some loc) (hn : loc.nil = false) : Aa O μ w (.pointer (some ⟨loc.b, loc.o + i * loc.sz + off, none⟩)) (.lpe id i off)
 | lmap (id : Nat) (loc : BQ) (hm : μ id = some loc) (hn : loc.nil = false) : Aa O μ w (.map (some loc.b)) (.lmap id)
 | agg (vs : Array Value) (ls : List LV) (hsz : vs.size = ls.length)
   (h : ∀ (i : Nat) (v : Value) (l : LV), vs[i]? = some v -> ls[i]? = some l -> Aa O μ w v l) : Aa O μ w (.agg vs) (.agg ls)
 | tup (vs : Array Value) (ls : List LV) (hsz : vs.size = ls.length)
   (h : ∀ (i : Nat) (v : Value) (l : LV), vs[i]? = some v -> ls[i]? = some l -> Aa O μ w v l) : Aa O μ w (.tuple vs) (.tup ls)
 | fn (f : FuncId) (caps : Array Value) (ls : List LV) (hsz : caps.size = ls.length)
   (h : ∀ (i : Nat) (v : Value) (l : LV), caps[i]? = some v -> ls[i]? = some l -> Aa O μ w v l) : Aa O μ w (.func (.func f) #[] caps) (.fn f ls)
theorem Aa.mono {O O' : Nat -> Prop} {μ μ' : Nat -> Option BQ} {w w' : World} (hk : BJ O w w') (hO : ∀ b, b < w.heap.size -> O' b -> O b)
  (hμ : ∀ id loc, μ id = some loc -> μ' id = some loc) {v : Value} {l : LV} (h : Aa O μ w v l) : Aa O' μ' w' v l := by
 induction h with
 | any v => exact .any v
 | und => exact .und
 | p v d h => exact .p v d (h.mono hk hO)
 | lsln id loc hm hn => exact .lsln id loc (hμ _ _ hm) hn
 | lsl id off len cap a loc hm hn hcap hl ha hb hs => exact .lsl id off len cap a loc (hμ _ _ hm) hn hcap hl ha hb hs
 | lpb id off loc hm hn => exact .lpb id off loc (hμ _ _ hm) hn
 | lpe id i off loc hm hn => exact .lpe id i off loc (hμ _ _ hm) hn
 | lmap id loc hm hn => exact .lmap id loc (hμ _ _ hm) hn
 | agg vs ls hsz _ ih => exact .agg vs ls hsz ih
 | tup vs ls hsz _ ih => exact .tup vs ls hsz ih
 | fn f caps ls hsz _ ih => exact .fn f caps ls hsz ih
def ABr (O : Nat -> Prop) (w : World) (l : List MapEntry) (left : List (DV × DV)) : Prop := l.length = left.length /\ ∀ (i : Nat) (e : MapEntry) (p : DV × DV), l[i]? = some e -> left[i]? = some p -> As O w e.key p.1 /\ As O w e.val p.2
def Wq (O : Nat -> Prop) (w : World) (es : Array MapEntry) (clock c0 : Nat) (seen : Array Nat) : Option (DV × DV) -> Prop
 | none => True
 | some p => clock = c0 /\ ∃ e ∈ es.toList, seen.back? = some e.born /\ As O w e.key p.1 /\ As O w e.val p.2
theorem Wq.mono {O O' : Nat -> Prop} {w w' : World} (hk : BJ O w w') (hO : ∀ b, b < w.heap.size -> O' b -> O b) {es : Array MapEntry} {clock c0 : Nat} {seen : Array Nat} {cur : Option (DV × DV)} (h : Wq O w es clock c0 seen cur) : Wq O' w' es clock c0 seen cur := by
 cases cur with
 | none => trivial
 | some p =>
  obtain ⟨h1, e, h2, h3, h4, h5⟩ := h
  exact ⟨h1, e, h2, h3, h4.mono hk hO, h5.mono hk hO⟩
def RC (O : Nat -> Prop) (w : World) (b : Nat) (cur : Option (DV × DV)) (left : List (DV × DV)) : Prop := ∃ mb since seen c0, w.heap[b]? = some (.mapIter mb since seen c0) /\
  ((mb = none /\ left = [] /\ cur = none) \/ ∃ (bm : Nat) (es : Array MapEntry) (clock : Nat), mb = some bm /\ ¬ O bm /\ bm < w.heap.size /\ w.heap[bm]? = some (.map es clock) /\ (∀ e ∈ es.toList, e.born < since) /\ since <= c0 /\ since <= clock /\ (es.toList.map (·.born)).Nodup /\
    ABr O w (es.toList.filter fun e => !seen.contains e.born) left /\ Wq O w es clock c0 seen cur)
theorem RC.mono {O O' : Nat -> Prop} {w w' : World} (hk : BJ O w w') (hO : ∀ b, b < w.heap.size -> O' b -> O b) {b : Nat} {cur : Option (DV × DV)} {left : List (DV × DV)} (hb : w'.heap[b]? = w.heap[b]?) (h : RC O w b cur left) : RC O' w' b cur left := by
 obtain ⟨mb, since, seen, c0, h1, h2⟩ := h
 refine ⟨mb, since, seen, c0, hb.trans h1, ?_⟩
 rcases h2 with h2 | ⟨bm, es, clock, g1, g2, g3, g4, g5, g6, g6', g7, ⟨g8, g9⟩, g10⟩
 .exact .inl h2
 exact .inr ⟨bm, es, clock, g1, fun h => g2 (hO bm g3 h), Nat.lt_of_lt_of_le g3 hk.size, (hk.block bm g3 g2).trans g4, g5, g6, g6', g7, ⟨g8, fun i e p he hp => ⟨(g9 i e p he hp).1.mono hk hO, (g9 i e p he hp).2.mono hk hO⟩⟩, g10.mono hk hO⟩
def Cv (O : Nat -> Prop) (μ : Nat -> Option BQ) (w : World) (loc : BQ) : BB -> Prop
 | .box cells => loc.nil = false /\ ∃ c t, w.heap[loc.b]? = some (.cells c t (0, 0)) /\ c.size = cells.length /\
   ∀ (i : Nat) (v : Value) (l : LV), c[i]? = some v -> cells[i]? = some l -> Aa O μ w v l
 | .row e sz elems => loc.sz = sz /\ (∀ x ∈ elems, x.length = sz) /\ ((loc.nil = true /\ elems = []) \/
   (loc.nil = false /\ ∃ c, w.heap[loc.b]? = some (.cells c e (0, 0)) /\ c.size = loc.o + loc.cap * sz /\ elems.length <= loc.cap /\ loc.cap <= maxLen /\
    ∀ (i j : Nat) (x : List DV) (d : DV) (v : Value), elems[i]? = some x -> x[j]? = some d -> c[loc.o + i * sz + j]? = some v -> As O w v d))
 | .map m => loc.nil = false /\ ∃ es, w.heap[loc.b]? = some (.map es es.size) /\ es.size = m.length /\ (∀ (i : Nat) (e : MapEntry), es[i]? = some e -> e.born = i) /\
   ∀ (i : Nat) (e : MapEntry) (p : DV × DV), es[i]? = some e -> m[i]? = some p -> As O w e.key p.1 /\ As O w e.val p.2
 | .mapd m => loc.nil = false /\ ∃ es clock, w.heap[loc.b]? = some (.map es clock) /\ es.size = m.length /\ ((es.toList.map (·.born)).Nodup /\ ∀ e ∈ es.toList, e.born < clock) /\
   ∀ (i : Nat) (e : MapEntry) (p : DV × DV), es[i]? = some e -> m[i]? = some p -> As O w e.key p.1 /\ As O w e.val p.2
 | .iter cur left => loc.nil = false /\ RC O w loc.b cur left
structure BD where
 w0 : World
 O : Nat -> Prop
 foot : Nat -> Prop
 μ0 : Nat -> Option BQ
 hO : ∀ b, O b -> b < w0.heap.size /\ ¬ foot b
def Bm (μ : Nat -> Option BQ) (h : List (Nat × BB)) (b : Nat) : Prop := ∃ id o loc, AJ id h = some o /\ μ id = some loc /\ loc.nil = false /\ loc.b = b
def Af (A : BD) (μ : Nat -> Option BQ) (h : List (Nat × BB)) (b : Nat) : Prop := A.O b \/ Bm μ h b
def Fr (n id : Nat) : Prop := n <= id
structure HRel (A : BD) (μ : Nat -> Option BQ) (h : List (Nat × BB)) (F : Nat -> Prop) (w : World) : Prop where
 obj : ∀ id o, AJ id h = some o -> ∃ loc, μ id = some loc /\ Cv (Af A μ h) μ w loc o
 inj : ∀ id id' o o' loc loc', AJ id h = some o -> AJ id' h = some o' -> μ id = some loc -> μ id' = some loc' -> loc.nil = false -> loc'.nil = false -> loc.b = loc'.b -> id = id'
 fresh : ∀ id, F id -> μ id = none
 base : ∀ id o loc, AJ id h = some o -> μ id = some loc -> loc.nil = false -> loc.b < w.heap.size /\ ¬ A.O loc.b /\ (A.w0.heap.size <= loc.b \/ A.foot loc.b)
 size : A.w0.heap.size <= w.heap.size
 block : ∀ b, b < A.w0.heap.size -> ¬ A.foot b -> w.heap[b]? = A.w0.heap[b]?
 os : w.os = A.w0.os
 tape : w.tape = A.w0.tape
 output : w.output = A.w0.output
 ext : ∀ id loc, A.μ0 id = some loc -> μ id = some loc
structure R (A : BD) (st : St) (a : Act) (w : World) : Prop where
 ex : ∃ μ, HRel A μ st.heap (Fr st.ctr) w /\ ∀ t, t < st.nt -> Aa (Af A μ st.heap) μ w (a.tmps.getD t undef) (BZ st.slots t)
 nt : a.tmps.size = st.nt
 defers : a.defers = []
def St.put (st : St) (dst : Option Tmp) (v : LV) : St :=
 match dst with
 | none => st
 | some t => { st with slots := (t, v) :: st.slots }
def Po : Value -> LV
 | .int k n => .p (.int k n)
 | .bool b => .p (.bool b)
 | .string s => .p (.str s)
 | .slice none 0 0 => .p .nils
 | .pointer none => .p .nilp
 | .map none => .p .nilm
 | _ => .any
theorem Va (O : Nat -> Prop) (μ : Nat -> Option BQ) (w : World) (v : Value) : Aa O μ w v (Po v) := by
 unfold Po
 split <;> constructor <;> constructor
def St.eval (st : St) : Operand -> LV
 | .tmp t => if t < st.nt then BZ st.slots t else .any
 | .const v => Po v
 | .func f => .fn f []
 | .global _ => .any
section
variable {A : BD} {st : St} {a : Act} {w : World} {μ : Nat -> Option BQ}
theorem G3 (h : ∀ t, t < st.nt -> Aa (Af A μ st.heap) μ w (a.tmps.getD t undef) (BZ st.slots t)) (x : Operand) :
  Aa (Af A μ st.heap) μ w (a.eval x) (st.eval x) := by
 cases x with
 | tmp t =>
  simp only [Act.eval, St.eval]
  split
  .exact h t ‹_›
  exact .any _
 | const v => exact Va _ _ _ v
 | func f => exact .fn f #[] [] rfl (by simp)
 | global g => exact .any _
theorem R.put' {h' : List (Nat × BB)} {ctr' : Nat} {w' : World} {μ' : Nat -> Option BQ} (hR : R A st a w)
  (hs : ∀ t, t < st.nt -> Aa (Af A μ' h') μ' w' (a.tmps.getD t undef) (BZ st.slots t))
  (hh : HRel A μ' h' (Fr ctr') w') {dst : Option Tmp} {v : Value} {l : LV} (hv : Aa (Af A μ' h') μ' w' v l) :
  R A (({ st with heap := h', ctr := ctr' } : St).put dst l) (a.put dst v) w' := by
 cases dst with
 | none => exact ⟨⟨μ', hh, hs⟩, hR.nt, hR.defers⟩
 | some d =>
  refine ⟨⟨μ', hh, fun t ht => ?_⟩, by simpa [Act.put, St.put] using hR.nt, hR.defers⟩
  have hn : t < a.tmps.size := by rw [hR.nt]; exact ht
  simp only [Act.put, St.put, BZ, AJ]
  by_cases e : t = d
  .subst e
   simp only [if_true]
   rw [Array.getD_eq_getD_getElem?, Array.getElem?_setIfInBounds_self_of_lt hn]
   exact hv
  simp only [e, if_false]
  rw [Array.getD_eq_getD_getElem?, Array.getElem?_setIfInBounds_ne (by omega), <- Array.getD_eq_getD_getElem?]
  exact hs t ht
theorem R.put {dst : Option Tmp} {v : Value} {l : LV} (hR : R A st a w)
  (hs : ∀ t, t < st.nt -> Aa (Af A μ st.heap) μ w (a.tmps.getD t undef) (BZ st.slots t)) (hh : HRel A μ st.heap (Fr st.ctr) w)
  (hv : Aa (Af A μ st.heap) μ w v l) : R A (st.put dst l) (a.put dst v) w := hR.put' hs hh hv
end
end Go.E
/- The type tables of a program as plain data, and the operations that touch no memory: what they give on the data state, and that the real operation is in step. -/
namespace Go.E
open Go Go.RowKit
inductive Sh where
 | bool
 | int (k : IntKind)
 | str
 | struct (fs : List (Nat × Nat))
 | arr (n e : Nat)
 | slc (e : Nat)
 | mp (k e : Nat)
 | other
 deriving Inhabited
structure TI where
 sh : Sh
 size : Nat
 bytes : Nat
 zero : List DV
def Sh.isAgg : Sh -> Bool
 | .struct _ | .arr _ _ => true
 | _ => false
def GX : Value -> Option DV
 | .int k n => some (.int k n)
 | .bool b => some (.bool b)
 | .string s => some (.str s)
 | .slice none 0 0 => some .nils
 | .pointer none => some .nilp
 | .map none => some .nilm
 | _ => none
theorem E6 {v : Value} {d : DV} (h : GX v = some d) (O : Nat -> Prop) (w : World) : As O w v d /\ d.cell = true := by
 unfold GX at h
 split at h <;> cases h <;> exact ⟨by constructor, rfl⟩
def AAz (P : Program) (t : Nat) : Option Sh :=
 match P.underlying t with
 | some .bool => some .bool
 | some (.int k) => some (.int k)
 | some .string => some .str
 | some (.struct fs) => some (.struct (fs.toList.map fun f => (f.offset, f.type)))
 | some (.array n e) => some (.arr n e)
 | some (.slice e) => some (.slc e)
 | some (.map k e) => some (.mp k e)
 | some _ => some .other
 | none => none
def Ow : Value -> Bool
 | .agg _ => true
 | _ => false
def W1 (P : Program) (t : Nat) : Option TI :=
 match AAz P t, P.info? t with
 | some sh, some i => match i.zero with
  | some z => match z.cells.toList.mapM GX with
   | some zero => if z.cells.size = i.size /\ (sh.isAgg = false -> i.size = 1) /\ Ow z = sh.isAgg then some { sh, size := i.size, bytes := i.bytes, zero } else none
   | none => none
  | none => none
 | _, _ => none
def G7 (P : Program) (t : Nat) : Sh -> Prop
 | .bool => P.underlying t = some .bool
 | .int k => P.underlying t = some (.int k)
 | .str => P.underlying t = some .string
 | .struct fs => ∃ fa, P.underlying t = some (.struct fa) /\ fs = fa.toList.map fun f => (f.offset, f.type)
 | .arr n e => P.underlying t = some (.array n e)
 | .slc e => P.underlying t = some (.slice e)
 | .mp k e => P.underlying t = some (.map k e)
 | .other => ∃ d, P.underlying t = some d /\ (match d with | .struct _ | .array _ _ => False | _ => True)
structure Hz (P : Program) (t : Nat) (ti : TI) : Prop where
 sh : G7 P t ti.sh
 info : ∃ i z, P.info? t = some i /\ i.size = ti.size /\ i.bytes = ti.bytes /\ i.zero = some z /\ z.cells.size = ti.size /\ z.cells.toList.mapM GX = some ti.zero /\ Ow z = ti.sh.isAgg
 one : ti.sh.isAgg = false -> ti.size = 1
theorem AAI {P : Program} {t : Nat} {ti : TI} (h : W1 P t = some ti) : Hz P t ti := by
 unfold W1 at h
 split at h
 .rename_i sh i hs hi
  split at h
  .rename_i z hz
   split at h
   .rename_i zero hzero
    split at h
    .rename_i hc
     cases h
     refine ⟨?_, ⟨i, z, hi, rfl, rfl, hz, hc.1, hzero, hc.2.2⟩, hc.2.1⟩
     unfold AAz at hs
     split at hs <;> cases hs <;> simp only [G7]
     .rename_i hu; exact hu
     .rename_i hu; exact hu
     .rename_i hu; exact hu
     .rename_i fs hu; exact ⟨fs, hu, rfl⟩
     .rename_i hu; exact hu
     .rename_i hu; exact hu
     .rename_i hu; exact hu
     rename_i d h1 h2 h3 h4 h5 h6 h7 hu
     refine ⟨d, hu, ?_⟩
     cases d <;> simp_all
    cases h
   cases h
  cases h
 cases h
def Ox (P : Program) (tt : Nat -> Option TI) : Prop := ∀ t ti, tt t = some ti -> Hz P t ti
theorem UE {P : Program} {l : List (Nat × TI)} (h : (l.map fun p => W1 P p.1) = l.map fun p => some p.2) : Ox P (fun t => AJ t l) := by
 induction l with
 | nil => intro t ti h; simp [AJ] at h
 | cons p l ih =>
  simp only [List.map_cons, List.cons.injEq] at h
  intro t ti hti
  simp only [AJ] at hti
  split at hti
  .rename_i e; subst e; cases hti; exact AAI h.1
  exact ih h.2 t ti hti
theorem G7.und {P : Program} {t : Nat} {sh : Sh} (h : G7 P t sh) : ∃ d, P.underlying t = some d /\ (match d with | .struct _ | .array _ _ => true | _ => false) = sh.isAgg := by
 cases sh with
 | bool => exact ⟨_, h, rfl⟩
 | int k => exact ⟨_, h, rfl⟩
 | str => exact ⟨_, h, rfl⟩
 | struct fs => obtain ⟨fa, h, _⟩ := h; exact ⟨_, h, rfl⟩
 | arr n e => exact ⟨_, h, rfl⟩
 | slc e => exact ⟨_, h, rfl⟩
 | mp k e => exact ⟨_, h, rfl⟩
 | other =>
  obtain ⟨d, h, hd⟩ := h
  refine ⟨d, h, ?_⟩
  cases d <;> first | rfl | exact hd.elim
section
variable {P : Program} {t : Nat} {ti : TI}
theorem Hz.run_isAgg (h : Hz P t ti) (w : World) : (isAgg t).run P w = .ok ti.sh.isAgg w := by
 obtain ⟨d, hd, he⟩ := h.sh.und
 unfold isAgg
 simp only [Sem.run_bind, run_underlying hd, Result.andThen_ok]
 rw [<- he]
 cases d <;> rfl
theorem Hz.run_sizeOf (h : Hz P t ti) (w : World) : (sizeOf t).run P w = .ok ti.size w := by
 obtain ⟨i, z, hi, hs, _⟩ := h.info
 simp [sizeOf, typeInfo, hi, hs]
theorem QU {l : List Value} {ds : List DV} (h : l.mapM GX = some ds) : l.length = ds.length /\ ∀ (i : Nat) (v : Value) (d : DV), l[i]? = some v -> ds[i]? = some d -> GX v = some d := by
 induction l generalizing ds with
 | nil => simp at h; subst h; simp
 | cons x l ih =>
  simp only [List.mapM_cons, Option.bind_eq_bind, Option.bind_eq_some_iff, Option.pure_def, Option.some.injEq] at h
  obtain ⟨y, hy, ys, hys, rfl⟩ := h
  obtain ⟨h1, h2⟩ := ih hys
  refine ⟨by simp [h1], fun i v d hv hd => ?_⟩
  cases i with
  | zero => simp at hv hd; subst hv hd; exact hy
  | succ i => exact h2 i v d (by simpa using hv) (by simpa using hd)
theorem Hz.run_zero (h : Hz P t ti) (w : World) : ∃ z, (zeroValue t).run P w = .ok z w /\ z.cells.size = ti.size /\ z.cells.size = ti.zero.length /\
  ∀ (i : Nat) (v : Value) (d : DV), z.cells[i]? = some v -> ti.zero[i]? = some d -> GX v = some d := by
 obtain ⟨i, z, hi, hs, hb, hz, hzs, hm, _⟩ := h.info
 obtain ⟨h1, h2⟩ := QU hm
 exact ⟨z, by simp [zeroValue, typeInfo, hi, hz], hzs, by simpa using h1, fun i v d hv hd => h2 i v d (by simpa using hv) hd⟩
def TI.zeroDV (ti : TI) : DV := if ti.sh.isAgg then .agg ti.zero else ti.zero.headD .nilp
theorem Hz.run_zeroDV (h : Hz P t ti) (w : World) : ∃ z, (zeroValue t).run P w = .ok z w /\ ∀ O w', As O w' z ti.zeroDV := by
 obtain ⟨i, z, hi, hs, hb, hz, hzs, hm, ha⟩ := h.info
 obtain ⟨h1, h2⟩ := QU hm
 refine ⟨z, by simp [zeroValue, typeInfo, hi, hz], fun O w' => ?_⟩
 unfold TI.zeroDV
 by_cases hg : ti.sh.isAgg = true
 .rw [hg] at ha
  rw [if_pos hg]
  cases z <;> simp [Ow] at ha
  refine .agg _ _ (by simpa [Value.cells] using h1) fun i v d hv hd => (E6 (h2 i v d (by simpa [Value.cells] using hv) hd) O w').1
 rw [if_neg hg]
 have h1' := h.one (by simpa using hg)
 have hc : z.cells = #[z] := by
  cases z <;> first | rfl | (exfalso; exact hg ha.symm)
 rw [hc] at h1 h2
 have hl : ti.zero.length = 1 := by simpa using h1.symm
 match hz0 : ti.zero, hl with
 | [d], _ =>
  rw [hz0] at h2
  exact (E6 (h2 0 z d rfl rfl) O w').1
end
def LV.one : LV -> Bool
 | .p d => d.cell
 | .agg _ | .tup _ | .any | .und => false
 | _ => true
def LV.cells : LV -> Option (List LV)
 | .p (.agg l) => some (l.map .p)
 | .agg l => some l
 | .p (.tup _) | .tup _ | .any | .und => none
 | v => some [v]
def G6 : List LV -> Option (List DV)
 | [] => some []
 | .p d :: l => (G6 l).map (d :: ·)
 | _ :: _ => none
def FH (l : List LV) : LV := match G6 l with | some ds => .p (.agg ds) | none => .agg l
def DT {α : Type} : List α -> Nat -> Option (List α)
 | _, 0 => some []
 | x :: l, n + 1 => (DT l n).map (x :: ·)
 | [], _ + 1 => none
theorem Nn {α : Type} : ∀ {l : List α} {n : Nat} {r : List α}, DT l n = some r -> r.length = n /\ n <= l.length /\ ∀ i, i < n -> r[i]? = l[i]?
 | l, 0, r, h => by simp [DT] at h; subst h; simp
 | [], n + 1, r, h => by simp [DT] at h
 | x :: l, n + 1, r, h => by
  simp only [DT, Option.map_eq_some_iff] at h
  obtain ⟨r', hr, rfl⟩ := h
  obtain ⟨h1, h2, h3⟩ := Nn hr
  refine ⟨by simp [h1], by simp; omega, fun i hi => ?_⟩
  cases i with
  | zero => rfl
  | succ i => simpa using h3 i (by omega)
theorem KF : ∀ {l : List LV} {ds : List DV}, G6 l = some ds -> l = ds.map .p
 | [], ds, h => by simp [G6] at h; subst h; rfl
 | x :: l, ds, h => by
  cases x <;> simp only [G6, Option.map_eq_some_iff, reduceCtorEq] at h
  obtain ⟨r, hr, rfl⟩ := h
  rw [KF hr]; rfl
section
variable {O : Nat -> Prop} {μ : Nat -> Option BQ} {w : World}
theorem Aa.p_inv {v : Value} {d : DV} (h : Aa O μ w v (.p d)) : As O w v d := by cases h; assumption
theorem KQ {vs : Array Value} {ls : List LV} (hsz : vs.size = ls.length)
  (h : ∀ (i : Nat) (v : Value) (l : LV), vs[i]? = some v -> ls[i]? = some l -> Aa O μ w v l) : Aa O μ w (.agg vs) (FH ls) := by
 unfold FH
 split
 .rename_i ds hds
  have e := KF hds
  refine .p _ _ (.agg vs ds (by rw [hsz, e]; simp) fun i v d hv hd => ?_)
  exact (h i v (.p d) hv (by rw [e]; simp [hd])).p_inv
 exact .agg vs ls hsz h
theorem KE {v : Value} {l : LV} {ls : List LV} (h : Aa O μ w v l) (hc : l.cells = some ls) : v.cells.size = ls.length /\
  ∀ (i : Nat) (u : Value) (x : LV), v.cells[i]? = some u -> ls[i]? = some x -> Aa O μ w u x := by
 have single : v.cells = #[v] -> ls = [l] -> v.cells.size = ls.length /\
   ∀ (i : Nat) (u : Value) (x : LV), v.cells[i]? = some u -> ls[i]? = some x -> Aa O μ w u x := by
  intro h1 h2
  subst h2
  rw [h1]
  refine ⟨rfl, fun i u x hu hx => ?_⟩
  cases i with
  | zero => simp at hu hx; subst hu hx; exact h
  | succ i => simp at hx
 cases h with
 | any => simp [LV.cells] at hc
 | und => simp [LV.cells] at hc
 | p v d h =>
  cases h with
  | agg vs ds hsz h =>
   simp only [LV.cells, Option.some.injEq] at hc
   subst hc
   refine ⟨by simpa [Value.cells] using hsz, fun i u x hu hx => ?_⟩
   simp only [List.getElem?_map, Option.map_eq_some_iff] at hx
   obtain ⟨d, hd, rfl⟩ := hx
   exact .p _ _ (h i u d hu hd)
  | tup => simp [LV.cells] at hc
  | _ => simp only [LV.cells, Option.some.injEq] at hc; exact single rfl hc.symm
 | agg vs l hsz h => simp only [LV.cells, Option.some.injEq] at hc; subst hc; exact ⟨hsz, h⟩
 | tup => simp [LV.cells] at hc
 | _ => simp only [LV.cells, Option.some.injEq] at hc; exact single rfl hc.symm
theorem Aa.oneCell {v : Value} {l : LV} (h : Aa O μ w v l) (hc : l.one = true) : v.oneCell' = true := by
 cases h with
 | p v d h => exact (h.oneCell hc).1
 | any => simp [LV.one] at hc
 | und => simp [LV.one] at hc
 | agg => simp [LV.one] at hc
 | tup => simp [LV.one] at hc
 | _ => rfl
end
end Go.E
/- The operations that touch no memory: what they give on the data state (nW), and that the real operation is in step (Jb), in whatever world. -/
namespace Go.E
open Go Go.RowKit
def CR : Sh -> DV -> Bool
 | .int k, .int k' _ => k == k'
 | .str, .str _ => true
 | .bool, .bool _ => true
 | _, _ => false
def fits : List Sh -> List DV -> Bool
 | [], [] => true
 | k :: ks, d :: ds => CR k d && fits ks ds
 | _, _ => false
def flatV : DV -> Value
 | .int k n => .int k n
 | .bool b => .bool b
 | .str s => .string s
 | .nils => .slice none 0 0
 | .nilm => .map none
 | _ => .pointer none
def Dc : DV -> DV -> Bool
 | .int _ a, .int _ b => a == b
 | .str a, .str b => a.toList == b.toList
 | .bool a, .bool b => a == b
 | _, _ => false
def Bh : List DV -> List DV -> Bool
 | [], [] => true
 | a :: l, b :: m => Dc a b && Bh l m
 | _, _ => false
def Ot (P : Program) (t : Nat) (ks : List Sh) : Prop :=
 P.eqGuardType P.depth t = false /\ ∀ (w : World) (ds es : List DV), fits ks ds = true -> fits ks es = true ->
  (Op.equal t (.agg (ds.map flatV).toArray) (.agg (es.map flatV).toArray)).run P w = .ok (Bh ds es) w
def RB (P : Program) (t : Nat) (ks : List Sh) : Prop :=
 Ot P t ks /\ (match P.underlying t with | some (.struct _) | some (.array _ _) => True | _ => False) /\
 ∀ (em : Bool) (w : World) (ds : List DV), fits ks ds = true -> (Instr.checkKey em 10000 t (.agg (ds.map flatV).toArray)).run P w = .ok () w
structure A5 where
 tt : Nat -> Option TI
 eqk : Nat -> Option (List Sh)
 keyk : Nat -> Option (List Sh)
 ptr : Nat -> Bool
 calm : Option (Nat -> Bool)
 own : Bool
def Mr (c : Option (Nat -> Bool)) (l : LV) : Bool := match c with
 | none => true
 | some b => match l with
  | .lpb id _ => !b id
  | .lpe id _ _ => !b id
  | _ => true
def LL (c : Option (Nat -> Bool)) (l : LV) : Bool := match c with
 | none => true
 | some b => match l with
  | .lpb id _ => b id
  | _ => false
def Q7 (c : Option (Nat -> Bool)) (l : LV) : Bool := match c with
 | none => true
 | some b => match l with
  | .lsl id _ _ _ => b id
  | _ => true
structure BC (P : Program) (AD : A5) : Prop where
 tt : Ox P AD.tt
 eqk : ∀ t ks, AD.eqk t = some ks -> Ot P t ks
 keyk : ∀ t ks, AD.keyk t = some ks -> RB P t ks
 ptr : ∀ t, AD.ptr t = true -> ∃ e, P.underlying t = some (.pointer e)
theorem QG {k : Sh} {d : DV} (h : CR k d = true) : d.flat = true := by
 cases k <;> cases d <;> first | rfl | simp [CR] at h
theorem MC : ∀ {ks : List Sh} {ds : List DV}, fits ks ds = true -> ∀ d ∈ ds, d.flat = true
 | [], [], _ => by simp
 | k :: ks, d :: ds, h => by
  simp only [fits, Bool.and_eq_true] at h
  intro x hx
  rcases List.mem_cons.1 hx with e | hx
  .subst e; exact QG h.1
  exact MC h.2 x hx
 | [], _ :: _, h => by simp [fits] at h
 | _ :: _, [], h => by simp [fits] at h
theorem As.flatV {O : Nat -> Prop} {w : World} {v : Value} {d : DV} (h : As O w v d) (hf : d.flat = true) : v = E.flatV d := by
 cases h <;> first | rfl | simp [DV.flat] at hf
theorem As.agg_flat {O : Nat -> Prop} {w : World} {v : Value} {ds : List DV} (h : As O w v (.agg ds)) (hf : ∀ d ∈ ds, d.flat = true) : v = .agg (ds.map E.flatV).toArray := by
 cases h with
 | agg vs ds hsz h =>
  congr 1
  apply Array.ext
  .simpa using hsz
  intro i h1 h2
  have h3 : i < ds.length := by simpa [hsz] using h1
  have := (h i vs[i] ds[i] (by simp [h1]) (by simp [h3])).flatV (hf _ (List.getElem_mem h3))
  simpa using this
def KL (op : BinOp) (k : IntKind) (a b : Int) : Option DV :=
 match op with
 | .add => some (.int k (k.wrap (a + b)))
 | .sub => some (.int k (k.wrap (a - b)))
 | .mul => some (.int k (k.wrap (a * b)))
 | .quo => if b = 0 then none else some (.int k (k.wrap (a.tdiv b)))
 | .rem => if b = 0 then none else some (.int k (a.tmod b))
 | .xor => some (.int k (k.wrap (BitVec.ofInt k.bits a ^^^ BitVec.ofInt k.bits b).toNat))
 | .or => some (.int k (k.wrap (BitVec.ofInt k.bits a ||| BitVec.ofInt k.bits b).toNat))
 | .eql => some (.bool (a == b))
 | .neq => some (.bool (a != b))
 | .lss => some (.bool (decide (a < b)))
 | .leq => some (.bool (decide (a <= b)))
 | .gtr => some (.bool (decide (b < a)))
 | .geq => some (.bool (decide (b <= a)))
 | _ => none
def I0 (neg : Bool) (r : Bool) : LV := .p (.bool (if neg then !r else r))
def So (AD : A5) (neg : Bool) (t : Nat) (x y : LV) (k : LV -> Prop) : Prop :=
 match x, y with
 | .p (.str a), .p (.str b) => k (I0 neg (a.toList == b.toList))
 | .p (.bool a), .p (.bool b) => (∃ ti, AD.tt t = some ti /\ ti.sh = .bool) /\ k (I0 neg (a == b))
 | .p (.agg xs), .p (.agg ys) => ∃ ks, AD.eqk t = some ks /\ fits ks xs = true /\ fits ks ys = true /\ k (I0 neg (Bh xs ys))
 | .p (.slice _ l), .p .nils => (∃ ti e, AD.tt t = some ti /\ ti.sh = .slc e) /\ ∀ r, (l ≠ [] -> r = false) -> k (I0 neg r)
 | .p .nils, .p .nils => (∃ ti e, AD.tt t = some ti /\ ti.sh = .slc e) /\ k (I0 neg true)
 | .lsl _ _ _ len, .p .nils => (∃ ti e, AD.tt t = some ti /\ ti.sh = .slc e) /\ ∀ r, (len ≠ 0 -> r = false) -> k (I0 neg r)
 | .p (.place _ _), .p .nilp => AD.ptr t = true /\ k (I0 neg false)
 | .p .nilp, .p .nilp => AD.ptr t = true /\ k (I0 neg true)
 | .lpb _ _, .p .nilp => AD.ptr t = true /\ k (I0 neg false)
 | _, _ => False
def SF (AD : A5) (op : BinOp) (t : Nat) (x y : LV) (k : LV -> Prop) : Prop :=
 match x, y with
 | .p (.int k1 a), .p (.int k2 b) => k1 = k2 /\ ∃ v, KL op k1 a b = some v /\ k (.p v)
 | x, y => match op with
  | .eql => So AD false t x y k
  | .neq => So AD true t x y k
  | _ => False
def WF (op : UnOp) (x : LV) (k : LV -> Prop) : Prop :=
 match op, x with
 | .neg, .p (.int kk n) => k (.p (.int kk (kk.wrap (0 - n))))
 | .not, .p (.bool b) => k (.p (.bool !b))
 | _, _ => False
def Cz (ti : TI) (off : Nat) (l : List LV) : Option LV :=
 if ti.sh.isAgg then (DT (l.drop off) ti.size).map FH else l[off]?
def CQ {α : Type} : List α -> Nat -> List α -> List α
 | l, 0, vs => over l vs
 | [], _ + 1, _ => []
 | x :: l, n + 1, vs => x :: CQ l n vs
where over : List α -> List α -> List α
 | l, [] => l
 | [], _ :: _ => []
 | _ :: l, v :: vs => v :: over l vs
def I2 (AD : A5) (place : Nat -> Option (Nat × Nat)) : List LV -> List (Nat × LV) -> (List LV -> Prop) -> Prop
 | cells, [], k => k cells
 | cells, (i, v) :: rest, k => ∃ off t ti ls, place i = some (off, t) /\ AD.tt t = some ti /\ v.cells = some ls /\ ls.length = ti.size /\ off + ls.length <= cells.length /\
   I2 AD place (CQ cells off ls) rest k
def GE (dflt : Int) (x : Option LV) (k : Int -> Prop) : Prop :=
 match x with
 | none => k dflt
 | some (.p (.int _ n)) => k n
 | some _ => False
def LS (AD : A5) (t : Nat) (x : LV) (lo hi : Option LV) (k : LV -> Prop) : Prop :=
 match x with
 | .p (.slice sz l) => (∃ ti e, AD.tt t = some ti /\ ti.sh = .slc e /\ ∃ te, AD.tt e = some te /\ te.size = sz) /\
   GE l.length hi fun h => GE 0 lo fun lw => 0 <= lw /\ lw <= h /\ h <= l.length /\ k (.p (.slice sz ((l.take h.toNat).drop lw.toNat)))
 | .lsl id sz off len => (∃ ti e, AD.tt t = some ti /\ ti.sh = .slc e /\ ∃ te, AD.tt e = some te /\ te.size = sz) /\ (len ≠ 0 \/ off = 0) /\
   GE len hi fun h => GE 0 lo fun lw => 0 <= lw /\ lw <= h /\ h <= len /\ k (.lsl id sz (off + lw.toNat) (h - lw).toNat)
 | .p (.str s) => (∃ ti, AD.tt t = some ti /\ ti.sh = .str) /\
   GE s.size hi fun h => GE 0 lo fun lw => 0 <= lw /\ lw <= h /\ h <= s.size /\ k (.p (.str (s.extract lw.toNat h.toNat)))
 | _ => False
def LU (x : LV) (k : LV -> Prop) : Prop :=
 match x with
 | .p (.slice _ l) => l.length <= maxLen -> k (.p (.int .i64 l.length))
 | .p .nils => k (.p (.int .i64 0))
 | .lsl _ _ _ len => k (.p (.int .i64 len))
 | .p (.str s) => k (.p (.int .i64 s.size))
 | _ => False
def Bp (f : Int -> Int -> Int) : List LV -> Option (IntKind × Int)
 | [] => none
 | .p (.int k n) :: rest => (go k n rest).map fun m => (k, m)
 | _ :: _ => none
where go (k : IntKind) (acc : Int) : List LV -> Option Int
 | [] => some acc
 | .p (.int k' n) :: rest => if k' = k then go k (f acc n) rest else none
 | _ :: _ => none
def nW (AD : A5) (st : St) (op : Op) (k : LV -> Prop) : Prop :=
 match op with
 | .move x | .assign x => k (st.eval x)
 | .pick c a b => ∃ t, st.eval c = .p (.bool t) /\ k (if t then st.eval a else st.eval b)
 | .nilCheck x => (match st.eval x with | .lpb .. | .lpe .. | .p (.place ..) => True | _ => False) /\ k (st.eval x)
 | .binOp op t x y _ => SF AD op t (st.eval x) (st.eval y) k
 | .unOp op _ x => WF op (st.eval x) k
 | .convert s d x => ∃ kk n ti tj, st.eval x = .p (.int kk n) /\ AD.tt s = some tj /\ AD.tt d = some ti /\ ∃ kd, ti.sh = .int kd /\ k (.p (.int kd (kd.wrap n)))
 | .extract t i => (match st.eval t with
   | .tup l => ∃ v, l[i]? = some v /\ k v
   | .p (.tup l) => ∃ v, l[i]? = some v /\ k (.p v)
   | _ => False)
 | .field t x i => ∃ ti fs off ft tf ls v, AD.tt t = some ti /\ ti.sh = .struct fs /\ fs[i]? = some (off, ft) /\ AD.tt ft = some tf /\ (st.eval x).cells = some ls /\
   (match st.eval x with | .agg _ | .p (.agg _) => True | _ => False) /\ Cz tf off ls = some v /\ k v
 | .build t ps => ∃ ti, AD.tt t = some ti /\ (match ti.sh with
   | .struct fs => (fs.all fun p => (AD.tt p.2).isSome) = true /\ I2 AD (fun i => fs[i]?) (ti.zero.map .p) (ps.toList.map fun p => (p.1, st.eval p.2)) fun cells => k (FH cells)
   | .arr _ e => ∃ te, AD.tt e = some te /\ I2 AD (fun i => some (i * te.size, e)) (ti.zero.map .p) (ps.toList.map fun p => (p.1, st.eval p.2)) fun cells => k (FH cells)
   | _ => False)
 | .fieldAddr t x i => ∃ ti fs off ft tf, AD.tt t = some ti /\ ti.sh = .struct fs /\ fs[i]? = some (off, ft) /\ AD.tt ft = some tf /\ tf.size ≠ 0 /\
   (match st.eval x with
   | .lpb id o => k (.lpb id (o + off))
   | .lpe id j o => k (.lpe id j (o + off))
   | .p (.place l o) => k (.p (.place l (o + off)))
   | _ => False)
 | .indexAddr t x i => ∃ kk n ti, st.eval i = .p (.int kk n) /\ AD.tt t = some ti /\ (match ti.sh, st.eval x with
   | .slc e, .p (.slice sz l) => (∃ te, AD.tt e = some te /\ te.size = sz) /\ 0 <= n /\ ∃ c, l[n.toNat]? = some c /\ k (.p (.place c 0))
   | .slc e, .lsl id sz off len => (∃ te, AD.tt e = some te /\ te.size = sz) /\ 0 <= n /\ n < len /\ k (.lpe id (off + n.toNat) 0)
   | .arr m e, .lpb id o => ∃ te, AD.tt e = some te /\ 0 <= n /\ n < m /\ k (.lpb id (o + n.toNat * te.size))
   | .arr m e, .p (.place l o) => ∃ te, AD.tt e = some te /\ 0 <= n /\ n < m /\ k (.p (.place l (o + n.toNat * te.size)))
   | _, _ => False)
 | .index t x i => ∃ kk n ti, st.eval i = .p (.int kk n) /\ AD.tt t = some ti /\ 0 <= n /\ (match ti.sh, st.eval x with
   | .arr m e, .agg l => ∃ te v, AD.tt e = some te /\ n < m /\ Cz te (n.toNat * te.size) l = some v /\ k v
   | .arr m e, .p (.agg l) => ∃ te v, AD.tt e = some te /\ n < m /\ Cz te (n.toNat * te.size) (l.map .p) = some v /\ k v
   | .str, .p (.str s) => ∃ c, s[n.toNat]? = some c /\ k (.p (.int .u8 c.toNat))
   | _, _ => False)
 | .makeFunc fn first caps => first = #[] /\ ∃ f, fn = .func f /\ k (.fn f (caps.toList.map st.eval))
 | .slice t x lo hi mx => mx = none /\ LS AD t (st.eval x) (lo.map st.eval) (hi.map st.eval) k
 | .call c => (match c.callee with
   | .builtin .len => ∃ x t ti, c.args = #[x] /\ c.argTypes = #[t] /\ AD.tt t = some ti /\ (match ti.sh, st.eval x with
     | .arr n _, _ => k (.p (.int .i64 n))
     | .slc _, .p (.str _) => False
     | .slc _, v => LU v k
     | .str, .p (.str s) => LU (.p (.str s)) k
     | _, _ => False)
   | .builtin .max => ∃ r, Bp (fun x y => if y > x then y else x) (c.args.toList.map st.eval) = some r /\ k (.p (.int r.1 r.2))
   | .builtin .min => ∃ r, Bp (fun x y => if y < x then y else x) (c.args.toList.map st.eval) = some r /\ k (.p (.int r.1 r.2))
   | _ => False)
 | _ => False
end Go.E
/- Jb: each operation that touches no memory is in step with what nW says of it, in whatever world. -/
namespace Go.E
open Go Go.RowKit
section inv
variable {O : Nat -> Prop} {μ : Nat -> Option BQ} {w : World} {v : Value}
theorem Aa.int_inv {k : IntKind} {n : Int} (h : Aa O μ w v (.p (.int k n))) : v = .int k n := by cases h.p_inv; rfl
theorem Aa.bool_inv {b : Bool} (h : Aa O μ w v (.p (.bool b))) : v = .bool b := by cases h.p_inv; rfl
theorem Aa.str_inv {s : ByteArray} (h : Aa O μ w v (.p (.str s))) : v = .string s := by cases h.p_inv; rfl
theorem Aa.nils_inv (h : Aa O μ w v (.p .nils)) : v = .slice none 0 0 := by cases h.p_inv; rfl
end inv
variable {P : Program} {AD : A5} {O : Nat -> Prop} {μ : Nat -> Option BQ} {w : World}
theorem WQ (neg r : Bool) : Aa O μ w (.bool (if neg then !r else r)) (I0 neg r) := .p _ _ (.bool _)
theorem EI (hE : BC P AD) {t : Nat} {ti : TI} {e : Nat} (h1 : AD.tt t = some ti) (h2 : ti.sh = .slc e) : P.underlying t = some (.slice e) := by
 have := (hE.tt t ti h1).sh; rw [h2] at this; exact this
theorem M2 {t : Nat} (hu : P.underlying t = some .bool) (a b : Bool) (w' : World) : (Op.equal t (.bool a) (.bool b)).run P w' = .ok (a == b) w' := by
 show (Op.equalIn (9999 + 1) t _ _).run P w' = _
 unfold Op.equalIn
 simp only [Sem.run_bind, run_underlying hu, Result.andThen_ok, Sem.run_pure]
theorem OO {t e : Nat} (hu : P.underlying t = some (.slice e)) (a : Option Addr) (n c : Nat) (w' : World) : (Op.equal t (.slice a n c) (.slice none 0 0)).run P w' = .ok a.isNone w' := by
 show (Op.equalIn (9999 + 1) t _ _).run P w' = _
 unfold Op.equalIn
 simp only [Sem.run_bind, run_underlying hu, Result.andThen_ok, Sem.run_pure]
 cases a <;> rfl
theorem OP {t e : Nat} (hu : P.underlying t = some (.pointer e)) (a : Option Addr) (w' : World) : (Op.equal t (.pointer a) (.pointer none)).run P w' = .ok a.isNone w' := by
 show (Op.equalIn (9999 + 1) t _ _).run P w' = _
 unfold Op.equalIn
 simp only [Sem.run_bind, run_underlying hu, Result.andThen_ok, Sem.run_pure]
 cases a <;> rfl
theorem Sz (hE : BC P AD) {neg : Bool} {t : Nat} {x y : LV} {vx vy : Value} {k : LV -> Prop} (hx : Aa O μ w vx x) (hy : Aa O μ w vy y) (h : So AD neg t x y k) :
  ∃ r, k (I0 neg r) /\ (∀ a b w', (eqGuard (if neg then .neq else .eql) t a b vx vy).run P w' = .ok () w') /\
   ∀ w', (binOp (if neg then .neq else .eql) t vx vy).run P w' = .ok (.bool (if neg then !r else r)) w' := by
 have nilCase : ∀ (ad : Option Addr) (n c : Nat) (e : Nat), P.underlying t = some (.slice e) ->
   (∀ a b w', (eqGuard (if neg then .neq else .eql) t a b (.slice ad n c) (.slice none 0 0)).run P w' = .ok () w') /\
   ∀ w', (binOp (if neg then .neq else .eql) t (.slice ad n c) (.slice none 0 0)).run P w' = .ok (.bool (if neg then !ad.isNone else ad.isNone)) w' := by
  intro ad n c e hu
  refine ⟨fun a b w' => by cases neg <;> rfl, fun w' => ?_⟩
  cases neg
  .show ((do pure (.bool (<- Op.equal t _ _)) : Sem Value)).run P w' = _
   simp only [Sem.run_bind, OO hu, Result.andThen_ok, Sem.run_pure]; rfl
  show ((do pure (.bool (!(<- Op.equal t _ _))) : Sem Value)).run P w' = _
  simp only [Sem.run_bind, OO hu, Result.andThen_ok, Sem.run_pure]; rfl
 have ptrCase : ∀ (ad : Option Addr) (e : Nat), P.underlying t = some (.pointer e) ->
   (∀ a b w', (eqGuard (if neg then .neq else .eql) t a b (.pointer ad) (.pointer none)).run P w' = .ok () w') /\
   ∀ w', (binOp (if neg then .neq else .eql) t (.pointer ad) (.pointer none)).run P w' = .ok (.bool (if neg then !ad.isNone else ad.isNone)) w' := by
  intro ad e hu
  refine ⟨fun a b w' => by cases neg <;> rfl, fun w' => ?_⟩
  cases neg
  .show ((do pure (.bool (<- Op.equal t _ _)) : Sem Value)).run P w' = _
   simp only [Sem.run_bind, OP hu, Result.andThen_ok, Sem.run_pure]; rfl
  show ((do pure (.bool (!(<- Op.equal t _ _))) : Sem Value)).run P w' = _
  simp only [Sem.run_bind, OP hu, Result.andThen_ok, Sem.run_pure]; rfl
 unfold So at h
 split at h
 .rename_i a b
  cases hx.str_inv; cases hy.str_inv
  refine ⟨_, h, fun _ _ w' => by cases neg <;> rfl, fun w' => ?_⟩
  cases neg <;> rfl
 .rename_i a b
  cases hx.bool_inv; cases hy.bool_inv
  obtain ⟨⟨ti, h1, h2⟩, hk⟩ := h
  have hu : P.underlying t = some .bool := by have := (hE.tt t ti h1).sh; rw [h2] at this; exact this
  refine ⟨_, hk, fun _ _ w' => by cases neg <;> rfl, fun w' => ?_⟩
  cases neg
  .show ((do pure (.bool (<- Op.equal t _ _)) : Sem Value)).run P w' = _
   simp only [Sem.run_bind, M2 hu, Result.andThen_ok, Sem.run_pure]; rfl
  show ((do pure (.bool (!(<- Op.equal t _ _))) : Sem Value)).run P w' = _
  simp only [Sem.run_bind, M2 hu, Result.andThen_ok, Sem.run_pure]; rfl
 .rename_i xs ys
  obtain ⟨ks, h1, h2, h3, hk⟩ := h
  obtain ⟨hg, he⟩ := hE.eqk t ks h1
  have e1 := hx.p_inv.agg_flat (MC h2)
  have e2 := hy.p_inv.agg_flat (MC h3)
  subst e1 e2
  refine ⟨_, hk, fun a b w' => ?_, fun w' => ?_⟩
  .cases neg <;> simp [eqGuard, program, Sem.run, hg]
  cases neg
  .show ((do pure (.bool (<- Op.equal t _ _)) : Sem Value)).run P w' = _
   simp only [Sem.run_bind, he w' xs ys h2 h3, Result.andThen_ok, Sem.run_pure]; rfl
  show ((do pure (.bool (!(<- Op.equal t _ _))) : Sem Value)).run P w' = _
  simp only [Sem.run_bind, he w' xs ys h2 h3, Result.andThen_ok, Sem.run_pure]; rfl
 .rename_i sz l
  obtain ⟨⟨ti, e, h1, h2⟩, hk⟩ := h
  have hu := EI hE h1 h2
  cases hy.nils_inv
  have hp := hx.p_inv
  cases hp with
  | snil => exact ⟨true, hk true (by simp), nilCase none 0 0 e hu⟩
  | sempty a sz => exact ⟨false, hk false (by simp), nilCase (some a) 0 0 e hu⟩
  | slice b o cap sz l cs => exact ⟨false, hk false (by simp), nilCase (some ⟨b, o, none⟩) l.length cap e hu⟩
 .obtain ⟨⟨ti, e, h1, h2⟩, hk⟩ := h
  have hu := EI hE h1 h2
  cases hy.nils_inv; cases hx.nils_inv
  exact ⟨true, hk, nilCase none 0 0 e hu⟩
 .rename_i id sz off len
  obtain ⟨⟨ti, e, h1, h2⟩, hk⟩ := h
  have hu := EI hE h1 h2
  cases hy.nils_inv
  cases hx with
  | lsln => exact ⟨true, hk true (by simp), nilCase none 0 0 e hu⟩
  | lsl id off len cap a loc => exact ⟨false, hk false (by simp), nilCase (some a) len cap e hu⟩
 .obtain ⟨hp, hk⟩ := h
  obtain ⟨e, hu⟩ := hE.ptr t hp
  have h1 := hx.p_inv; have h2 := hy.p_inv
  cases h2; cases h1
  exact ⟨false, hk, ptrCase (some _) e hu⟩
 .obtain ⟨hp, hk⟩ := h
  obtain ⟨e, hu⟩ := hE.ptr t hp
  have h1 := hx.p_inv; have h2 := hy.p_inv
  cases h2; cases h1
  exact ⟨true, hk, ptrCase none e hu⟩
 .obtain ⟨hp, hk⟩ := h
  obtain ⟨e, hu⟩ := hE.ptr t hp
  have h2 := hy.p_inv
  cases h2; cases hx
  exact ⟨false, hk, ptrCase (some _) e hu⟩
 exact h.elim
theorem XD {op : BinOp} {k : IntKind} {a b : Int} {v : DV} (h : KL op k a b = some v) (t : Nat) (w' : World) :
  (binOp op t (.int k a) (.int k b)).run P w' = .ok (flatV v) w' := by
 unfold KL at h
 cases op <;> simp only [Option.some.injEq, reduceCtorEq] at h <;> first
  | (subst h; simp [binOp, Op.intArith, Op.intCmp, Op.intBits, flatV]; done)
  | (split at h <;> simp only [Option.some.injEq, reduceCtorEq] at h; subst h; simp [binOp, Op.intDiv, flatV, *])
theorem Vc {op : BinOp} {k : IntKind} {a b : Int} {v : DV} (h : KL op k a b = some v) : As O w (flatV v) v := by
 unfold KL at h
 cases op <;> simp only [Option.some.injEq, reduceCtorEq] at h <;> first
  | (subst h; constructor; done)
  | (split at h <;> simp only [Option.some.injEq, reduceCtorEq] at h; subst h; constructor)
def Pv (P : Program) (a : Act) (op : Op) (u : Value) : Prop := ∀ o : Oper, o.op = op -> ∀ w', (execOp a.eval o).run P w' = .ok (.value u) w'
theorem Gr (w' : World) (s : Bool) (len cap : Nat) (lo hi : Option Value) (h l : Int)
  (hh : (hi = none /\ h = len) \/ ∃ k, hi = some (.int k h)) (hl : (lo = none /\ l = 0) \/ ∃ k, lo = some (.int k l)) (h0 : 0 <= l) (h1 : l <= h) (h2 : h <= cap) :
  (Instr.sliceBounds s len cap lo hi none).run P w' = .ok (l.toNat, h.toNat, cap) w' := by
 unfold Instr.sliceBounds
 have e1 : 0 <= h := by omega
 have e2 : l <= (h.toNat : Int) := by omega
 rcases hh with ⟨rfl, rfl⟩ | ⟨k, rfl⟩ <;> rcases hl with ⟨rfl, rfl⟩ | ⟨k', rfl⟩
 .simp
 .simp [Instr.sliceBound, asIntOf, h0, h1]
 .simp [Instr.sliceBound, asIntOf, e1, h2]
 simp only [Instr.sliceBound, asIntOf, Sem.run_bind, Sem.run_pure, Result.andThen_ok, e1, h2, h0, e2, and_self, if_true]
theorem GZ {a : Act} {st : St} (hs : ∀ x, Aa O μ w (a.eval x) (st.eval x)) {d : Int} {x : Option Operand} {k : Int -> Prop} (h : GE d (x.map st.eval) k) :
  ∃ n, k n /\ ((x.map a.eval = none /\ n = d) \/ ∃ kk, x.map a.eval = some (.int kk n)) := by
 cases x with
 | none => exact ⟨d, h, .inl ⟨rfl, rfl⟩⟩
 | some x =>
  simp only [Option.map_some, GE] at h
  split at h
  .rename_i hh; cases hh
  .rename_i kk n hh
   simp only [Option.some.injEq] at hh
   have := hs x; rw [hh] at this
   exact ⟨n, h, .inr ⟨kk, by simp [this.int_inv]⟩⟩
  exact h.elim
theorem UX (hE : BC P AD) {a : Act} {st : St} (hs : ∀ x, Aa O μ w (a.eval x) (st.eval x)) {t : Nat} {x : Operand} {lo hi : Option Operand} {k : LV -> Prop}
  (h : LS AD t (st.eval x) (lo.map st.eval) (hi.map st.eval) k) :
  ∃ u v, k v /\ Aa O μ w u v /\ Pv P a (.slice t x lo hi none) u := by
 have hx := hs x
 unfold LS at h
 split at h
 .rename_i sz l hx'
  rw [hx'] at hx
  obtain ⟨⟨ti, e, h1, h2, te, h3, h4⟩, hb⟩ := h
  obtain ⟨h, hb, ch⟩ := GZ hs hb
  obtain ⟨lw, ⟨b0, b1, b2, hk⟩, cl⟩ := GZ hs hb
  have hu := EI hE h1 h2
  have hsz := fun w' => (hE.tt e te h3).run_sizeOf w'
  refine ⟨(match a.eval x with | .slice ad _ cap => .slice (if cap = lw.toNat then ad else ad.map (·.add (lw.toNat * sz))) (h.toNat - lw.toNat) (cap - lw.toNat) | _ => undef), _, hk, .p _ _ ?_, fun o ho w' => ?_⟩
  .generalize a.eval x = v at hx
   have hp := hx.p_inv
   cases hp with
   | snil =>
    simp at b2
    have : lw = 0 := by omega
    have : h = 0 := by omega
    subst this; subst lw
    exact .snil sz
   | sempty a =>
    simp at b2
    have : lw = 0 := by omega
    have : h = 0 := by omega
    subst this; subst lw
    exact .sempty _ sz
   | slice b o cap sz l cs hO hlt hsz hcap hmx hc hr =>
    have hlen : ((l.take h.toNat).drop lw.toNat).length = h.toNat - lw.toNat := by simp; omega
    rw [<- hlen]
    by_cases e : cap = lw.toNat
    .have : (l.take h.toNat).drop lw.toNat = [] := by apply List.eq_nil_of_length_eq_zero; rw [hlen]; omega
     simp only [e, if_true]
     rw [this]
     exact .slice b o (lw.toNat - lw.toNat) sz [] cs hO hlt (by simp) (by simp) (by simp) (by simp) (by simp)
    simp only [e, if_false, Option.map_some, Addr.add_lit]
    refine .slice b (o + lw.toNat * sz) (cap - lw.toNat) sz _ (fun i j => cs (lw.toNat + i) j) hO hlt (fun x hx => hsz x (List.mem_of_mem_take (List.mem_of_mem_drop hx))) (by rw [hlen]; omega) (by rw [hlen]; omega) (fun i j hi hj => ?_) (fun i j x d hx hd => ?_)
    .rw [hlen] at hi
     have := hc (lw.toNat + i) j (by omega) hj
     rw [<- this]
     congr 2
     rw [Nat.add_mul]; omega
    refine hr (lw.toNat + i) j x d ?_ hd
    rw [List.getElem?_drop, List.getElem?_take] at hx
    split at hx
    .exact hx
    cases hx
  generalize hv : a.eval x = v at hx
  have hp := hx.p_inv
  have key : ∀ ad len cap, v = .slice ad len cap -> len = l.length -> l.length <= cap ->
    (execOp a.eval o).run P w' = .ok (.value (.slice (if cap = lw.toNat then ad else ad.map (·.add (lw.toNat * sz))) (h.toNat - lw.toNat) (cap - lw.toNat))) w' := by
   intro ad len cap e1 e2 e3
   subst e2
   have hb := Gr (P := P) w' true l.length cap (lo.map a.eval) (hi.map a.eval) h lw ch cl b0 b1 (by omega)
   simp [execOp, ho, Instr.sliceAt, run_underlying hu, Instr.slice, hv, e1, hb, hsz w', h4]
  cases hp with
  | snil => exact key none 0 0 rfl rfl (by simp)
  | sempty a => exact key (some a) 0 0 rfl rfl (by simp)
  | slice b o cap sz l cs hO hlt hsz hcap hmx hc hr => exact key _ _ _ rfl rfl hcap
 .rename_i id sz off len hx'
  rw [hx'] at hx
  obtain ⟨⟨ti, e, h1, h2, te, h3, h4⟩, hlen0, hb⟩ := h
  obtain ⟨h, hb, ch⟩ := GZ hs hb
  obtain ⟨lw, ⟨b0, b1, b2, hk⟩, cl⟩ := GZ hs hb
  have hu := EI hE h1 h2
  have hsz := fun w' => (hE.tt e te h3).run_sizeOf w'
  generalize hv : a.eval x = v at hx
  cases hx with
  | lsln id loc hm hn =>
   have e1 : lw = 0 := by omega
   have e2 : h = 0 := by omega
   subst e1 e2
   refine ⟨.slice none 0 0, _, hk, .lsln id loc hm hn, fun o ho w' => ?_⟩
   have hb := Gr (P := P) w' true 0 0 (lo.map a.eval) (hi.map a.eval) 0 0 ch cl (by omega) (by omega) (by omega)
   simp [execOp, ho, Instr.sliceAt, run_underlying hu, Instr.slice, hv, hb, hsz w', h4]
  | lsl id off len cap ad loc hm hn hcap hl ha hbk hsp =>
   refine ⟨.slice (some (if cap = lw.toNat then ad else ad.add (lw.toNat * loc.sz))) (h.toNat - lw.toNat) (cap - lw.toNat), _, hk, ?_, fun o ho w' => ?_⟩
   .have e1 : (h - lw).toNat = h.toNat - lw.toNat := by omega
    rw [e1]
    by_cases hc0 : cap = 0
    .have e3 : cap = lw.toNat := by omega
     rw [if_pos e3]
     exact .lsl id (off + lw.toNat) (h.toNat - lw.toNat) (cap - lw.toNat) _ loc hm hn (by omega) (by omega) (fun hc => absurd hc (by omega)) hbk hsp
    have had := ha (by omega)
    subst had
    refine .lsl id (off + lw.toNat) (h.toNat - lw.toNat) (cap - lw.toNat) _ loc hm hn (by omega) (by omega) (fun hc => ?_) ?_ ?_
    .rw [if_neg (by omega), Addr.add_lit, Nat.add_mul, Nat.add_assoc]
    .split <;> simp [Addr.add_lit]
    split <;> simp [Addr.add_lit]
   have hb := Gr (P := P) w' true len cap (lo.map a.eval) (hi.map a.eval) h lw ch cl b0 b1 (by omega)
   simp only [execOp, ho, Instr.sliceAt, Sem.run_bind, run_underlying hu, Result.andThen_ok, Instr.slice, hv, Option.map_none, hb, hsz w', h4, Option.map_some, Sem.run_pure]
   by_cases e : cap = lw.toNat <;> simp [e]
 .rename_i s hx'
  rw [hx'] at hx
  obtain ⟨⟨ti, h1, h2⟩, hb⟩ := h
  obtain ⟨h, hb, ch⟩ := GZ hs hb
  obtain ⟨lw, ⟨b0, b1, b2, hk⟩, cl⟩ := GZ hs hb
  have hu : P.underlying t = some .string := by have := (hE.tt t ti h1).sh; rw [h2] at this; exact this
  refine ⟨_, _, hk, .p _ _ (.str _), fun o ho w' => ?_⟩
  have hb := Gr (P := P) w' false s.size s.size (lo.map a.eval) (hi.map a.eval) h lw ch cl b0 b1 b2
  simp [execOp, ho, Instr.sliceAt, run_underlying hu, Instr.slice, hx.str_inv, hb]
 exact h.elim
end Go.E
/- Jb: an operation that touches no memory gives, in every world, a value that reads as nW says. -/
namespace Go.E
open Go Go.RowKit
variable {P : Program} {AD : A5} {O : Nat -> Prop} {μ : Nat -> Option BQ} {w : World}
theorem Nv (hE : BC P AD) {t : Nat} {ti : TI} {fs : List (Nat × Nat)} (h1 : AD.tt t = some ti) (h2 : ti.sh = .struct fs) :
  ∃ fa, P.underlying t = some (.struct fa) /\ fs = fa.toList.map fun f => (f.offset, f.type) := by
 have := (hE.tt t ti h1).sh; rw [h2] at this; exact this
theorem LC (hE : BC P AD) {t : Nat} {ti : TI} {n e : Nat} (h1 : AD.tt t = some ti) (h2 : ti.sh = .arr n e) : P.underlying t = some (.array n e) := by
 have := (hE.tt t ti h1).sh; rw [h2] at this; exact this
theorem Lh {fa : Array Field} {i off ft : Nat} (h : (fa.toList.map fun f => (f.offset, f.type))[i]? = some (off, ft)) : ∃ f, fa[i]? = some f /\ f.offset = off /\ f.type = ft := by
 simp only [List.getElem?_map, Option.map_eq_some_iff, Prod.mk.injEq] at h
 obtain ⟨f, hf, h1, h2⟩ := h
 exact ⟨f, by simpa using hf, h1, h2⟩
theorem Nw (hE : BC P AD) {t : Nat} {ti : TI} (ht : AD.tt t = some ti) {off : Nat} {vs : Array Value} {ls : List LV} (hsz : vs.size = ls.length)
  (h : ∀ (i : Nat) (v : Value) (l : LV), vs[i]? = some v -> ls[i]? = some l -> Aa O μ w v l) {r : LV} (hr : Cz ti off ls = some r) :
  ∃ u, Aa O μ w u r /\ ∀ w', (part t vs off).run P w' = .ok u w' := by
 have hok := hE.tt t ti ht
 unfold Cz at hr
 split at hr
 .rename_i hagg
  simp only [Option.map_eq_some_iff] at hr
  obtain ⟨q, hq, rfl⟩ := hr
  obtain ⟨h1, h2, h3⟩ := Nn hq
  simp only [List.length_drop] at h2
  by_cases h0 : ti.size = 0
  .have hq0 : q = [] := List.eq_nil_of_length_eq_zero (by rw [h1, h0])
   have hv0 : vs.extract off (off + ti.size) = #[] := by apply Array.eq_empty_of_size_eq_zero; simp [h0]; omega
   refine ⟨.agg (vs.extract off (off + ti.size)), ?_, fun w' => ?_⟩
   .rw [hq0, hv0]; exact KQ rfl (by simp)
   simp [part, hok.run_isAgg, hok.run_sizeOf, hagg]
  refine ⟨.agg (vs.extract off (off + ti.size)), KQ (by simp [h1]; omega) (fun i v l hv hl => ?_), fun w' => ?_⟩
  .have hi : i < ti.size := by
    have := (List.getElem?_eq_some_iff.1 hl).1
    omega
   rw [h3 i hi, List.getElem?_drop] at hl
   refine h (off + i) v l ?_ hl
   rw [Array.getElem?_extract] at hv
   split at hv
   .exact hv
   cases hv
  simp [part, hok.run_isAgg, hok.run_sizeOf, hagg]
 rename_i hagg
 have hi := (List.getElem?_eq_some_iff.1 hr).1
 have hv : vs[off]? = some vs[off] := by simp [hsz, hi]
 refine ⟨vs[off], h off _ r hv hr, fun w' => ?_⟩
 have hag : ti.sh.isAgg = false := by simpa using hagg
 simp [part, hok.run_isAgg, hag, hv]
theorem S0 {α : Type} : ∀ (l vs : List α), vs.length <= l.length -> (CQ.over l vs).length = l.length /\ ∀ i, (CQ.over l vs)[i]? = if i < vs.length then vs[i]? else l[i]?
 | l, [], _ => by cases l <;> simp [CQ.over]
 | [], v :: vs, h => by simp at h
 | x :: l, v :: vs, h => by
  have := S0 l vs (by simpa using h)
  refine ⟨by simp [CQ.over, this.1], fun i => ?_⟩
  cases i with
  | zero => simp [CQ.over]
  | succ i => simp [CQ.over, this.2 i]
theorem K5 {α : Type} : ∀ (l : List α) (n : Nat) (vs : List α), n + vs.length <= l.length -> (CQ l n vs).length = l.length /\
  ∀ i, (CQ l n vs)[i]? = if n <= i /\ i < n + vs.length then vs[i - n]? else l[i]?
 | l, 0, vs, h => by
  have := S0 l vs (by omega)
  cases l <;> simp_all [CQ]
 | [], n + 1, vs, h => by simp at h
 | x :: l, n + 1, vs, h => by
  have := K5 l n vs (by simp at h; omega)
  refine ⟨by simp [CQ, this.1], fun i => ?_⟩
  cases i with
  | zero => simp [CQ]
  | succ i =>
   simp only [CQ, List.getElem?_cons_succ, this.2 i]
   have e : i + 1 - (n + 1) = i - n := by omega
   rw [e]
   by_cases hc : n <= i /\ i < n + vs.length
   .rw [if_pos hc, if_pos (by omega)]
   rw [if_neg hc, if_neg (by omega)]
theorem Of (vs : Array Value) : ∀ (cells : Array Value) (off : Nat), off + vs.size <= cells.size ->
  (vs.zipIdx.foldl (fun cs (c, j) => cs.setIfInBounds (off + j) c) cells).size = cells.size /\
  ∀ i, (vs.zipIdx.foldl (fun cs (c, j) => cs.setIfInBounds (off + j) c) cells)[i]? = if off <= i /\ i < off + vs.size then vs[i - off]? else cells[i]? := by
 intro cells off h
 rw [<- Array.foldl_toList, Array.toList_zipIdx]
 have gen : ∀ (l : List Value) (s : Nat) (cells : Array Value), off + s + l.length <= cells.size ->
   ((l.zipIdx s).foldl (fun cs (x : Value × Nat) => cs.setIfInBounds (off + x.2) x.1) cells).size = cells.size /\
   ∀ i, ((l.zipIdx s).foldl (fun cs (x : Value × Nat) => cs.setIfInBounds (off + x.2) x.1) cells)[i]? = if off + s <= i /\ i < off + s + l.length then l[i - (off + s)]? else cells[i]? := by
  intro l
  induction l with
  | nil => intro s cells _; simp; intro i h1 h2; omega
  | cons x l ih =>
   intro s cells hc
   simp only [List.length_cons] at hc
   have := ih (s + 1) (cells.setIfInBounds (off + s) x) (by simp; omega)
   simp only [List.zipIdx_cons, List.foldl_cons]
   refine ⟨by rw [this.1]; simp, fun i => ?_⟩
   rw [this.2 i]
   by_cases hi : i = off + s
   .subst hi
    rw [if_neg (by omega), if_pos (by simp)]
    simp [Array.getElem?_setIfInBounds_self_of_lt (show off + s < cells.size by omega)]
   by_cases hc : off + (s + 1) <= i /\ i < off + (s + 1) + l.length
   .rw [if_pos hc, if_pos (by simp; omega)]
    have e : i - (off + s) = i - (off + (s + 1)) + 1 := by omega
    rw [e]; simp
   rw [if_neg hc, Array.getElem?_setIfInBounds_ne (by omega)]
   simp only [List.length_cons]
   rw [if_neg (by omega)]
 have := gen vs.toList 0 cells (by simpa using h)
 simpa using this
theorem Li (hE : BC P AD) {a : Act} {st : St} (hs : ∀ x, Aa O μ w (a.eval x) (st.eval x)) {place : Nat -> Option (Nat × Nat)} {rplace : Nat -> Option (Nat × Nat)}
  (hp : ∀ i off t ti, place i = some (off, t) -> AD.tt t = some ti -> rplace i = some (off, ti.size)) :
  ∀ (ps : List (Nat × Operand)) (cells : List LV) (vs : Array Value) (k : List LV -> Prop), vs.size = cells.length ->
   (∀ (i : Nat) (v : Value) (l : LV), vs[i]? = some v -> cells[i]? = some l -> Aa O μ w v l) ->
   I2 AD place cells (ps.map fun p => (p.1, st.eval p.2)) k ->
   ∃ us ls, k ls /\ us.size = ls.length /\ (∀ (i : Nat) (v : Value) (l : LV), us[i]? = some v -> ls[i]? = some l -> Aa O μ w v l) /\
    Instr.fill rplace vs (ps.map fun p => (p.1, a.eval p.2)) = some us
 | [], cells, vs, k, hsz, h, hb => ⟨vs, cells, hb, hsz, h, rfl⟩
 | (i, x) :: ps, cells, vs, k, hsz, h, hb => by
  simp only [List.map_cons, I2] at hb
  obtain ⟨off, t, ti, ls, h1, h2, h3, h4, h5, hb⟩ := hb
  obtain ⟨c1, c2⟩ := KE (hs x) h3
  have hov := Of (a.eval x).cells vs off (by omega)
  have hst := K5 cells off ls h5
  have := Li hE hs hp ps (CQ cells off ls) _ k (by rw [hov.1, hst.1]; exact hsz) (fun j v l hv hl => by
   rw [hov.2 j] at hv
   rw [hst.2 j] at hl
   rw [c1] at hv
   split at hv
   .rw [if_pos ‹_›] at hl; exact c2 _ v l hv hl
   rw [if_neg ‹_›] at hl; exact h j v l hv hl) hb
  obtain ⟨us, ls', k1, k2, k3, k4⟩ := this
  refine ⟨us, ls', k1, k2, k3, ?_⟩
  simp only [List.map_cons, Instr.fill, hp i off t ti h1 h2]
  have hc : ¬ ((a.eval x).cells.size ≠ ti.size || off + (a.eval x).cells.size > vs.size) = true := by
   simp; omega
  rw [if_neg hc]
  exact k4
theorem MD {f : Int -> Int -> Int} {g : Value -> Value -> Sem Value} (hg : ∀ k x k' y, g (.int k x) (.int k' y) = pure (.int k (f x y))) {k : IntKind} :
  ∀ (vs : List Value) (ls : List LV) (acc m : Int), vs.length = ls.length -> (∀ (i : Nat) (v : Value) (l : LV), vs[i]? = some v -> ls[i]? = some l -> Aa O μ w v l) ->
   Bp.go f k acc ls = some m -> vs.foldlM g (.int k acc) = pure (.int k m)
 | [], [], acc, m, _, _, h => by simp [Bp.go] at h; subst h; rfl
 | v :: vs, l :: ls, acc, m, hsz, hr, h => by
  have h0 := hr 0 v l rfl rfl
  cases l with
  | p d => cases d with
   | int k' n =>
    simp only [Bp.go] at h
    split at h
    .subst_vars
     cases h0.int_inv
     simp only [List.foldlM_cons, hg, pure_bind]
     exact MD hg vs ls _ m (by simpa using hsz) (fun i v l h1 h2 => hr (i + 1) v l (by simpa using h1) (by simpa using h2)) h
    cases h
   | _ => simp [Bp.go] at h
  | _ => simp [Bp.go] at h
 | [], _ :: _, _, _, h, _, _ => by simp at h
 | _ :: _, [], _, _, h, _, _ => by simp at h
theorem Im {a : Act} {st : St} (hs : ∀ x, Aa O μ w (a.eval x) (st.eval x)) (xs : List Operand) :
  ∀ (i : Nat) (v : Value) (l : LV), (xs.map a.eval)[i]? = some v -> (xs.map st.eval)[i]? = some l -> Aa O μ w v l := by
 intro i v l hv hl
 simp only [List.getElem?_map, Option.map_eq_some_iff] at hv hl
 obtain ⟨x, hx, rfl⟩ := hv
 obtain ⟨y, hy, rfl⟩ := hl
 rw [hx] at hy; cases hy
 exact hs x
theorem PB (e : Sem Value) {f : Int -> Int -> Int} {g : Value -> Value -> Sem Value} (hg : ∀ k x k' y, g (.int k x) (.int k' y) = pure (.int k (f x y))) {a : Act} {st : St}
  (hs : ∀ x, Aa O μ w (a.eval x) (st.eval x)) {xs : List Operand} {r : IntKind × Int} (h : Bp f (xs.map st.eval) = some r) :
  (match xs.map a.eval with | [] => e | x :: rest => rest.foldlM g x) = pure (.int r.1 r.2) := by
 cases xs with
 | nil => simp [Bp] at h
 | cons x xs =>
  have h0 := hs x
  simp only [List.map_cons] at h ⊢
  generalize he : st.eval x = l at h h0
  cases l with
  | p d => cases d with
   | int k n =>
    simp only [Bp, Option.map_eq_some_iff] at h
    obtain ⟨m, hm, rfl⟩ := h
    rw [h0.int_inv]
    exact MD hg _ _ n m (by simp) (Im hs xs) hm
   | _ => simp [Bp] at h
  | _ => simp [Bp] at h
end Go.E
/- Jb: an operation that touches no memory gives, in every world, a value that reads as nW says. -/
namespace Go.E
open Go Go.RowKit
variable {P : Program} {AD : A5} {O : Nat -> Prop} {μ : Nat -> Option BQ} {w : World}
theorem RU (hE : BC P AD) (w' : World) : ∀ (l : List Field), ((l.map fun f => (f.offset, f.type)).all fun p => (AD.tt p.2).isSome) = true ->
  (l.mapM fun f => (do pure (f.offset, <- sizeOf f.type) : Sem (Nat × Nat))).run P w' = .ok (l.map fun f => (f.offset, P.cellsOf f.type)) w'
 | [], _ => by simp
 | f :: l, h => by
  simp only [List.map_cons, List.all_cons, Bool.and_eq_true] at h
  obtain ⟨ti, hti⟩ := Option.isSome_iff_exists.1 h.1
  obtain ⟨inf, z, hi, hs, _⟩ := (hE.tt _ ti hti).info
  have ih := RU hE w' l h.2
  have e1 : (sizeOf f.type).run P w' = .ok inf.size w' := by simp [sizeOf, typeInfo, hi]
  simp only [List.mapM_cons, Sem.run_bind, e1, Result.andThen_ok, Sem.run_pure, ih, List.map_cons, Program.cellsOf, hi, Option.map_some, Option.getD_some]
theorem Pv.mk {a : Act} {op : Op} {u : Value} (h : ∀ (o : Oper) (w' : World), o.op = op -> (execOp a.eval o).run P w' = .ok (.value u) w') : Pv P a op u := fun o ho w' => h o w' ho
theorem Jb (hE : BC P AD) {a : Act} {st : St} (hs : ∀ x, Aa O μ w (a.eval x) (st.eval x)) {op : Op} {k : LV -> Prop} (h : nW AD st op k) :
  ∃ u v, k v /\ Aa O μ w u v /\ Pv P a op u := by
 unfold nW at h
 split at h
 .exact ⟨_, _, h, hs _, .mk fun o w' ho => by simp [execOp, ho]⟩
 .exact ⟨_, _, h, hs _, .mk fun o w' ho => by simp [execOp, ho]⟩
 .rename_i c x y
  obtain ⟨t, hc, hk⟩ := h
  have h1 := hs c; rw [hc] at h1
  refine ⟨if t then a.eval x else a.eval y, _, hk, ?_, .mk fun o w' ho => by simp [execOp, ho, h1.bool_inv, asBool]⟩
  cases t
  .exact hs y
  exact hs x
 .rename_i x
  obtain ⟨h1, hk⟩ := h
  have hx := hs x
  refine ⟨a.eval x, _, hk, hx, .mk fun o w' ho => ?_⟩
  generalize hl : st.eval x = l at h1 hx
  have key : ∀ ad, a.eval x = .pointer (some ad) -> (execOp a.eval o).run P w' = .ok (.value (a.eval x)) w' := by
   intro ad e; simp [execOp, ho, e]
  split at h1
  .generalize hv : a.eval x = v at hx; cases hx; rw [<- hv]; exact key _ hv
  .generalize hv : a.eval x = v at hx; cases hx; rw [<- hv]; exact key _ hv
  .generalize hv : a.eval x = v at hx; cases hx with | p v d hp => cases hp; rw [<- hv]; exact key _ hv
  exact h1.elim
 .rename_i op t x y ty
  have hx := hs x
  have hy := hs y
  unfold SF at h
  split at h
  .rename_i k1 n k2 m e1 e2
   rw [e1] at hx; rw [e2] at hy
   obtain ⟨rfl, v, hv, hk⟩ := h
   refine ⟨flatV v, _, hk, .p _ _ (Vc hv), .mk fun o w' ho => ?_⟩
   have := XD (P := P) hv t w'
   have hg : (eqGuard op t x y (.int k1 n) (.int k1 m)).run P w' = .ok () w' := by
    unfold eqGuard; cases op <;> rfl
   simp [execOp, ho, hx.int_inv, hy.int_inv, hg, this]
  split at h
  .obtain ⟨r, hk, hg, hb⟩ := Sz hE hx hy h
   refine ⟨_, _, hk, WQ false r, .mk fun o w' ho => ?_⟩
   have g := hg x y w'; have b := hb w'
   simp only [Bool.false_eq_true, if_false] at g b ⊢
   simp [execOp, ho, g, b]
  .obtain ⟨r, hk, hg, hb⟩ := Sz hE hx hy h
   refine ⟨_, _, hk, WQ true r, .mk fun o w' ho => ?_⟩
   have g := hg x y w'; have b := hb w'
   simp only [if_true] at g b ⊢
   simp [execOp, ho, g, b]
  exact h.elim
 .rename_i op t x
  have hx := hs x
  unfold WF at h
  split at h
  .rename_i kk n e
   rw [e] at hx
   exact ⟨.int kk (kk.wrap (0 - n)), _, h, .p _ _ (.int _ _), .mk fun o w' ho => by simp [execOp, ho, hx.int_inv, Op.unary, Op.intArith]⟩
  .rename_i b e
   rw [e] at hx
   exact ⟨.bool !b, _, h, .p _ _ (.bool _), .mk fun o w' ho => by simp [execOp, ho, hx.bool_inv, Op.unary]⟩
  exact h.elim
 .rename_i s d x
  obtain ⟨kk, n, ti, tj, hx', h0, h1, kd, h2, hk⟩ := h
  have hx := hs x; rw [hx'] at hx
  have hu : P.underlying d = some (.int kd) := by have := (hE.tt d ti h1).sh; rw [h2] at this; exact this
  obtain ⟨ds, hds, _⟩ := (hE.tt s tj h0).sh.und
  refine ⟨.int kd (kd.wrap n), _, hk, .p _ _ (.int _ _), .mk fun o w' ho => ?_⟩
  simp [execOp, ho, hx.int_inv, convert, run_underlying hds, run_underlying hu, Conv.intToInt]
 .rename_i t i
  have hx := hs t
  generalize hl : st.eval t = l at h hx
  split at h
  .obtain ⟨v, h1, hk⟩ := h
   generalize hv : a.eval t = u at hx
   cases hx with
   | tup vs ls hsz hh =>
    have hi := (List.getElem?_eq_some_iff.1 h1).1
    have e : vs[i]? = some vs[i] := by simp [hsz, hi]
    exact ⟨_, _, hk, hh i _ v e h1, .mk fun o w' ho => by simp [execOp, ho, hv, Instr.extract, e]⟩
  .obtain ⟨v, h1, hk⟩ := h
   generalize hv : a.eval t = u at hx
   cases hx with
   | p u d hp => cases hp with
    | tup vs ds hsz hh =>
     have hi := (List.getElem?_eq_some_iff.1 h1).1
     have e : vs[i]? = some vs[i] := by simp [hsz, hi]
     exact ⟨_, _, hk, .p _ _ (hh i _ v e h1), .mk fun o w' ho => by simp [execOp, ho, hv, Instr.extract, e]⟩
  exact h.elim
 .rename_i t x i
  obtain ⟨ti, fs, off, ft, tf, ls, v, h1, h2, h3, h4, h5, h6, h7, hk⟩ := h
  obtain ⟨fa, hu, rfl⟩ := Nv hE h1 h2
  obtain ⟨f, hf, e1, e2⟩ := Lh h3
  have hx := hs x
  obtain ⟨c1, c2⟩ := KE hx h5
  obtain ⟨u, hu1, hu2⟩ := Nw hE h4 c1 c2 h7
  have hagg : ∃ cs, a.eval x = .agg cs := by
   generalize st.eval x = l at h6 hx
   generalize a.eval x = y at hx
   split at h6
   .cases hx; exact ⟨_, rfl⟩
   .cases hx with | p u d hp => cases hp; exact ⟨_, rfl⟩
   exact h6.elim
  obtain ⟨cs, hcs⟩ := hagg
  refine ⟨u, v, hk, hu1, .mk fun o w' ho => ?_⟩
  have := hu2 w'
  rw [hcs] at this
  simp only [Value.cells] at this
  subst e1 e2
  simp [execOp, ho, Instr.field, run_underlying hu, hf, hcs, asAgg, this]
 .rename_i t ps
  obtain ⟨ti, h1, h⟩ := h
  have hok := hE.tt t ti h1
  split at h
  .rename_i fs h2
   obtain ⟨fa, hu, hfs⟩ := Nv hE h1 h2
   obtain ⟨hall, h⟩ := h
   obtain ⟨z, hz1, hz2, hz3, hz4⟩ := hok.run_zero w
   obtain ⟨us, ls, hk, k1, k2, k3⟩ := Li (w := w) (μ := μ) (O := O) hE hs (place := fun i => fs[i]?) (rplace := fun i => (fa.toList.map fun f => (f.offset, P.cellsOf f.type))[i]?)
    (fun i off t ti hp ht => by
     rw [hfs] at hp
     obtain ⟨f, hf, e1, e2⟩ := Lh hp
     obtain ⟨inf, z, hi, hs, _⟩ := (hE.tt t ti ht).info
     subst e2
     simp [hf, e1, Program.cellsOf, hi, hs]) ps.toList (ti.zero.map .p) z.cells (fun cells => k (FH cells)) (by simpa using hz3)
    (fun i v l hv hl => by
     simp only [List.getElem?_map, Option.map_eq_some_iff] at hl
     obtain ⟨d, hd, rfl⟩ := hl
     exact .p _ _ (E6 (hz4 i v d hv hd) _ _).1) h
   refine ⟨.agg us, _, hk, KQ k1 k2, .mk fun o w' ho => ?_⟩
   have hz' : (zeroValue t).run P w' = .ok z w' := by
    obtain ⟨i, z', hi, _, _, hz', _⟩ := hok.info
    simp [zeroValue, typeInfo, hi, hz'] at hz1 ⊢; exact hz1
   have hsizes := RU hE w' fa.toList (by rw [<- hfs]; exact hall)
   have hm : (fa.mapM fun f => (do pure (f.offset, <- sizeOf f.type) : Sem (Nat × Nat))).run P w' = .ok (fa.toList.map fun f => (f.offset, P.cellsOf f.type)).toArray w' := by
    rw [Array.mapM_eq_mapM_toList]
    simp only [Sem.run_map, hsizes, Result.andThen_ok]
   have e3 : (ps.map fun (x : Nat × Operand) => (x.1, a.eval x.2)).toList = ps.toList.map fun p => (p.1, a.eval p.2) := by simp
   simp only [execOp, ho, Instr.build, Sem.run_bind, hz', Result.andThen_ok, run_underlying hu, hm, List.getElem?_toArray, e3, k3, Sem.run_pure]
  .rename_i n e h2
   obtain ⟨te, h3, h⟩ := h
   have hu := LC hE h1 h2
   obtain ⟨z, hz1, hz2, hz3, hz4⟩ := hok.run_zero w
   obtain ⟨us, ls, hk, k1, k2, k3⟩ := Li (w := w) (μ := μ) (O := O) hE hs (place := fun i => some (i * te.size, e)) (rplace := fun i => some (i * te.size, te.size))
    (fun i off t ti hp ht => by
     simp only [Option.some.injEq, Prod.mk.injEq] at hp
     obtain ⟨rfl, rfl⟩ := hp
     rw [h3] at ht; cases ht; rfl) ps.toList (ti.zero.map .p) z.cells (fun cells => k (FH cells)) (by simpa using hz3)
    (fun i v l hv hl => by
     simp only [List.getElem?_map, Option.map_eq_some_iff] at hl
     obtain ⟨d, hd, rfl⟩ := hl
     exact .p _ _ (E6 (hz4 i v d hv hd) _ _).1) h
   refine ⟨.agg us, _, hk, KQ k1 k2, .mk fun o w' ho => ?_⟩
   have hz' : (zeroValue t).run P w' = .ok z w' := by
    obtain ⟨i, z', hi, _, _, hz', _⟩ := hok.info
    simp [zeroValue, typeInfo, hi, hz'] at hz1 ⊢; exact hz1
   have e3 : (ps.map fun (x : Nat × Operand) => (x.1, a.eval x.2)).toList = ps.toList.map fun p => (p.1, a.eval p.2) := by simp
   have hsz := (hE.tt e te h3).run_sizeOf w'
   simp only [execOp, ho, Instr.build, Sem.run_bind, hz', Result.andThen_ok, run_underlying hu, hsz, e3, k3, Sem.run_pure]
  exact h.elim
 .rename_i t x i
  obtain ⟨ti, fs, off, ft, tf, h1, h2, h3, h4, h5, h⟩ := h
  obtain ⟨fa, hu, rfl⟩ := Nv hE h1 h2
  obtain ⟨f, hf, e1, e2⟩ := Lh h3
  subst e1 e2
  have hx := hs x
  generalize st.eval x = l at h hx
  have key : ∀ b o, a.eval x = .pointer (some ⟨b, o, none⟩) -> Pv P a (.fieldAddr t x i) (.pointer (some ⟨b, o + f.offset, none⟩)) := fun b o e => .mk fun op w' ho => by
   have hsz := (hE.tt _ tf h4).run_sizeOf w'
   simp [execOp, ho, Instr.fieldAt, run_underlying hu, hf, e, Instr.sureAddr, fieldPlace, hsz, h5, Addr.add_lit]
  split at h
  .generalize hv : a.eval x = v at hx
   cases hx with
   | lpb _ _ loc hm hn => exact ⟨_, _, h, .lpb _ _ loc hm hn, key _ _ hv⟩
  .generalize hv : a.eval x = v at hx
   cases hx with
   | lpe _ _ _ loc hm hn =>
    have := key _ _ hv
    rw [Nat.add_assoc] at this
    exact ⟨_, _, h, .lpe _ _ _ loc hm hn, this⟩
  .generalize hv : a.eval x = v at hx
   cases hx with
   | p v d hp => cases hp with
    | place b o _ _ cs hO hlt hc hr =>
     have := key _ _ hv
     rw [Nat.add_assoc] at this
     exact ⟨_, _, h, .p _ _ (.place b o _ _ cs hO hlt hc hr), this⟩
  exact h.elim
 .rename_i t x i
  obtain ⟨kk, n, ti, hi, h1, h⟩ := h
  have hii := hs i; rw [hi] at hii
  have hx := hs x
  generalize hl : st.eval x = l at h hx
  split at h
  .rename_i e sz l h2
   obtain ⟨⟨te, h3, h4⟩, h0, c, hc, hk⟩ := h
   have hu := EI hE h1 h2
   have hlt := (List.getElem?_eq_some_iff.1 hc).1
   generalize hv : a.eval x = v at hx
   cases hx with
   | p v d hp => cases hp with
    | snil => simp at hlt
    | sempty => simp at hlt
    | slice b o cap sz l cs hO hlt' hsz hcap hmx hcc hr =>
     have hcm := hsz c (List.mem_of_getElem? hc)
     refine ⟨.pointer (some ⟨b, o + n.toNat * sz + 0, none⟩), _, hk, .p _ _ (.place b (o + n.toNat * sz) c 0 (cs n.toNat) hO hlt' (fun j hj => hcc n.toNat j hlt (by omega)) (fun j d hd => hr n.toNat j c d hc hd)), .mk fun op w' ho => ?_⟩
     have hsz' := (hE.tt e te h3).run_sizeOf w'
     have hb : 0 <= n /\ n < (l.length : Int) := ⟨h0, by omega⟩
     simp [execOp, ho, Instr.indexAt, hii.int_inv, asIntOf, run_underlying hu, hv, hb, hsz', h4, Addr.add_lit]
  .rename_i e id sz off len h2
   obtain ⟨⟨te, h3, h4⟩, h0, hlt, hk⟩ := h
   have hu := EI hE h1 h2
   generalize hv : a.eval x = v at hx
   cases hx with
   | lsln => simp at hlt; omega
   | lsl id off len cap ad loc hm hn hcap hl ha hbk hsp =>
    have had := ha (by omega)
    subst had
    refine ⟨.pointer (some ⟨loc.b, loc.o + (off + n.toNat) * loc.sz + 0, none⟩), _, hk, .lpe id (off + n.toNat) 0 loc hm hn, .mk fun op w' ho => ?_⟩
    have hsz' := (hE.tt e te h3).run_sizeOf w'
    have hb : 0 <= n /\ n < (len : Int) := ⟨h0, hlt⟩
    simp [execOp, ho, Instr.indexAt, hii.int_inv, asIntOf, run_underlying hu, hv, hb, hsz', h4, Addr.add_lit, Nat.add_mul, Nat.add_assoc]
  .rename_i m e id o h2
   obtain ⟨te, h3, h0, hlt, hk⟩ := h
   have hu := LC hE h1 h2
   generalize hv : a.eval x = v at hx
   cases hx with
   | lpb id o loc hm hn =>
    refine ⟨_, _, hk, .lpb id (o + n.toNat * te.size) loc hm hn, .mk fun op w' ho => ?_⟩
    have hsz' := (hE.tt e te h3).run_sizeOf w'
    have hb : 0 <= n /\ n < (m : Int) := ⟨h0, hlt⟩
    simp [execOp, ho, Instr.indexAt, hii.int_inv, asIntOf, run_underlying hu, hv, hb, hsz', Instr.sureAddr, Addr.add_lit]
  .rename_i m e l o h2
   obtain ⟨te, h3, h0, hlt, hk⟩ := h
   have hu := LC hE h1 h2
   generalize hv : a.eval x = v at hx
   cases hx with
   | p v d hp => cases hp with
    | place b o' l off cs hO hlt' hc hr =>
     refine ⟨.pointer (some ⟨b, o' + (o + n.toNat * te.size), none⟩), _, hk, .p _ _ (.place b o' l (o + n.toNat * te.size) cs hO hlt' hc hr), .mk fun op w' ho => ?_⟩
     have hsz' := (hE.tt e te h3).run_sizeOf w'
     have hb : 0 <= n /\ n < (m : Int) := ⟨h0, hlt⟩
     simp [execOp, ho, Instr.indexAt, hii.int_inv, asIntOf, run_underlying hu, hv, hb, hsz', Instr.sureAddr, Addr.add_lit, Nat.add_assoc]
  exact h.elim
 .rename_i t x i
  obtain ⟨kk, n, ti, hi, h1, h0, h⟩ := h
  have hii := hs i; rw [hi] at hii
  have hx := hs x
  generalize hl : st.eval x = l at h hx
  split at h
  .rename_i m e l h2
   obtain ⟨te, v, h3, hlt, hp, hk⟩ := h
   have hu := LC hE h1 h2
   generalize hv : a.eval x = y at hx
   cases hx with
   | agg vs ls hsz hh =>
    obtain ⟨u, hu1, hu2⟩ := Nw hE h3 hsz hh hp
    refine ⟨u, v, hk, hu1, .mk fun op w' ho => ?_⟩
    have hsz' := (hE.tt e te h3).run_sizeOf w'
    have hb : 0 <= n /\ n < (m : Int) := ⟨h0, hlt⟩
    simp [execOp, ho, Instr.index, hii.int_inv, asIntOf, run_underlying hu, hv, hb, hsz', hu2 w']
  .rename_i m e l h2
   obtain ⟨te, v, h3, hlt, hp, hk⟩ := h
   have hu := LC hE h1 h2
   generalize hv : a.eval x = y at hx
   cases hx with
   | p y d hpp => cases hpp with
    | agg vs ds hsz hh =>
     obtain ⟨u, hu1, hu2⟩ := Nw (O := O) (μ := μ) (w := w) hE h3 (by simpa using hsz) (fun i v l hv hl => by
      simp only [List.getElem?_map, Option.map_eq_some_iff] at hl
      obtain ⟨d, hd, rfl⟩ := hl
      exact .p _ _ (hh i v d hv hd)) hp
     refine ⟨u, v, hk, hu1, .mk fun op w' ho => ?_⟩
     have hsz' := (hE.tt e te h3).run_sizeOf w'
     have hb : 0 <= n /\ n < (m : Int) := ⟨h0, hlt⟩
     simp [execOp, ho, Instr.index, hii.int_inv, asIntOf, run_underlying hu, hv, hb, hsz', hu2 w']
  .rename_i s h2
   obtain ⟨c, hc, hk⟩ := h
   have hu : P.underlying t = some .string := by have := (hE.tt t ti h1).sh; rw [h2] at this; exact this
   refine ⟨.int .u8 c.toNat, _, hk, .p _ _ (.int _ _), .mk fun op w' ho => ?_⟩
   simp [execOp, ho, Instr.index, hii.int_inv, asIntOf, run_underlying hu, hx.str_inv, h0, hc]
  exact h.elim
 .rename_i fn first caps
  obtain ⟨rfl, f, rfl, hk⟩ := h
  refine ⟨.func (.func f) #[] (caps.map a.eval), _, hk, .fn f _ _ (by simp) (fun i v l hv hl => ?_), .mk fun op w' ho => by simp [execOp, ho, Instr.makeFunc]⟩
  exact Im hs caps.toList i v l (by simpa using hv) hl
 .rename_i t x lo hi mx
  obtain ⟨rfl, h⟩ := h
  exact UX hE hs h
 .rename_i c
  split at h
  .rename_i hc
   obtain ⟨x, t, ti, h1, h2, h3, h⟩ := h
   have hx := hs x
   have key : ∀ n : Int, (∀ w', (Builtin.len_ #[t] 0 #[a.eval x]).run P w' = .ok (goInt n) w') -> Pv P a (.call c) (.int .i64 n) := fun n hn => .mk fun o w' ho => by
    have := hn w'
    simp [execOp, ho, resolve, hc, invoke, builtin, h1, h2]
    simp only [Builtin.len_] at this ⊢
    simp_all [goInt]
   generalize hl : st.eval x = l at h hx
   split at h
   .rename_i n e h4
    have hu := LC hE h3 h4
    exact ⟨_, _, h, .p _ _ (.int _ _), key n fun w' => by simp [Builtin.len_, run_underlying hu]⟩
   .exact h.elim
   .rename_i e h4 h5
    have hu := EI hE h3 h4
    unfold LU at h
    split at h
    .generalize hv : a.eval x = v at hx
     cases hx with
     | p v d hp => cases hp with
      | snil => exact ⟨_, _, h (by simp), .p _ _ (.int _ _), key _ fun w' => by simp [Builtin.len_, run_underlying hu, hv]⟩
      | sempty a => exact ⟨_, _, h (by simp), .p _ _ (.int _ _), key _ fun w' => by simp [Builtin.len_, run_underlying hu, hv]⟩
      | slice b o cap sz l cs hO hlt' hsz hcap hmx => exact ⟨_, _, h hmx, .p _ _ (.int _ _), key _ fun w' => by simp [Builtin.len_, run_underlying hu, hv]⟩
    .rw [hx.nils_inv] at key
     exact ⟨_, _, h, .p _ _ (.int _ _), key 0 fun w' => by simp [Builtin.len_, run_underlying hu]⟩
    .generalize hv : a.eval x = v at hx
     cases hx with
     | lsln => exact ⟨_, _, h, .p _ _ (.int _ _), key _ fun w' => by simp [Builtin.len_, run_underlying hu, hv]⟩
     | lsl => exact ⟨_, _, h, .p _ _ (.int _ _), key _ fun w' => by simp [Builtin.len_, run_underlying hu, hv]⟩
    .exact (h5 _ rfl).elim
    exact h.elim
   .rename_i s h4
    have hu : P.underlying t = some .string := by have := (hE.tt t ti h3).sh; rw [h4] at this; exact this
    rw [hx.str_inv] at key
    exact ⟨_, _, h, .p _ _ (.int _ _), key _ fun w' => by simp [Builtin.len_, run_underlying hu]⟩
   exact h.elim
  .rename_i hc
   obtain ⟨r, hr, hk⟩ := h
   refine ⟨.int r.1 r.2, _, hk, .p _ _ (.int _ _), .mk fun o w' ho => ?_⟩
   have := PB (pure .nilIface) (g := Builtin.max2) (fun _ _ _ _ => rfl) hs hr
   simp only [execOp, ho, resolve, hc, invoke, builtin, Sem.run_bind, Sem.run_pure, Result.andThen_ok, Builtin.max_, Array.toList_map]
   cases hl : c.args.toList with
   | nil => rw [hl] at hr; simp [Bp] at hr
   | cons y ys => rw [hl] at this; simp only [List.map_cons] at this ⊢; rw [this]; rfl
  .rename_i hc
   obtain ⟨r, hr, hk⟩ := h
   refine ⟨.int r.1 r.2, _, hk, .p _ _ (.int _ _), .mk fun o w' ho => ?_⟩
   have := PB (pure .nilIface) (g := Builtin.min2) (fun _ _ _ _ => rfl) hs hr
   simp only [execOp, ho, resolve, hc, invoke, builtin, Sem.run_bind, Sem.run_pure, Result.andThen_ok, Builtin.min_, Array.toList_map]
   cases hl : c.args.toList with
   | nil => rw [hl] at hr; simp [Bp] at hr
   | cons y ys => rw [hl] at this; simp only [List.map_cons] at this ⊢; rw [this]; rfl
  exact h.elim
 exact h.elim
end Go.E
/- How the own heap goes on: a new object, a write into one, one let go. -/
namespace Go.E
open Go Go.RowKit
theorem Cv.mono {O O' : Nat -> Prop} {μ μ' : Nat -> Option BQ} {w w' : World} (hk : BJ O w w') (hO : ∀ b, b < w.heap.size -> O' b -> O b)
  (hμ : ∀ id loc, μ id = some loc -> μ' id = some loc) {loc : BQ} {o : BB} (hb : loc.nil = false -> w'.heap[loc.b]? = w.heap[loc.b]?) (h : Cv O μ w loc o) : Cv O' μ' w' loc o := by
 cases o with
 | box cells =>
  obtain ⟨hn, c, t, h1, h2, h3⟩ := h
  exact ⟨hn, c, t, (hb hn).trans h1, h2, fun i v l hv hl => (h3 i v l hv hl).mono hk hO hμ⟩
 | row e sz elems =>
  obtain ⟨hz, hl, h⟩ := h
  refine ⟨hz, hl, ?_⟩
  rcases h with h | ⟨hn, c, h1, h2, h3, h4, h5⟩
  .exact .inl h
  exact .inr ⟨hn, c, (hb hn).trans h1, h2, h3, h4, fun i j x d v hx hd hv => (h5 i j x d v hx hd hv).mono hk hO⟩
 | map m =>
  obtain ⟨hn, es, h1, h2, h4, h3⟩ := h
  exact ⟨hn, es, (hb hn).trans h1, h2, h4, fun i e p he hp => ⟨(h3 i e p he hp).1.mono hk hO, (h3 i e p he hp).2.mono hk hO⟩⟩
 | mapd m =>
  obtain ⟨hn, es, clock, h1, h2, h4, h3⟩ := h
  exact ⟨hn, es, clock, (hb hn).trans h1, h2, h4, fun i e p he hp => ⟨(h3 i e p he hp).1.mono hk hO, (h3 i e p he hp).2.mono hk hO⟩⟩
 | iter cur left => exact ⟨h.1, h.2.mono hk hO (hb h.1)⟩
theorem BJ.own {A : BD} {μ : Nat -> Option BQ} {h : List (Nat × BB)} {w w' : World} (hk : BJ (Bm μ h) w w') : BJ (Af A μ h) w w' :=
 ⟨hk.size, fun b hb hO => hk.block b hb fun hm => hO (.inr hm)⟩
def Bn (μ : Nat -> Option BQ) (id : Nat) (loc : BQ) : Nat -> Option BQ := fun i => if i = id then some loc else μ i
def NW (μ : Nat -> Option BQ) (h h' : List (Nat × BB)) (w : World) (loc : BQ) : Prop :=
 loc.nil = false -> w.heap.size <= loc.b \/ ∃ old x lc, AJ old h = some x /\ AJ old h' = none /\ μ old = some lc /\ lc.nil = false /\ lc.b = loc.b
section
variable {A : BD} {μ : Nat -> Option BQ} {h : List (Nat × BB)} {F : Nat -> Prop} {ctr : Nat} {w w' : World}
theorem HRel.sub_add (hh : HRel A μ h F w) (loc : BQ) (o : BB) (h' : List (Nat × BB)) (hb : NW μ h h' w loc) (hsub : ∀ id x, AJ id h' = some x -> (id = ctr /\ x = o) \/ AJ id h = some x) :
  ∀ b, b < w.heap.size -> Af A (Bn μ ctr loc) h' b -> Af A μ h b := by
 have new : ∀ b, b < w.heap.size -> loc.nil = false -> loc.b = b -> Af A μ h b := by
  intro b hlt hn e
  rcases hb hn with hb | ⟨old, x, lc, h1, _, h3, h4, h5⟩
  .omega
  exact .inr ⟨old, x, lc, h1, h3, h4, by rw [h5, e]⟩
 intro b hlt hown
 rcases hown with hown | ⟨id, x, lc, h1, h2, h3, h4⟩
 .exact .inl hown
 rcases hsub id x h1 with ⟨rfl, rfl⟩ | h1
 .simp [Bn] at h2; subst h2; exact new b hlt h3 h4
 by_cases e : id = ctr
 .subst e; simp [Bn] at h2; subst h2; exact new b hlt h3 h4
 simp [Bn, e] at h2
 exact .inr ⟨id, x, lc, h1, h2, h3, h4⟩
theorem Jt (hc : μ ctr = none) (loc : BQ) : ∀ id l, μ id = some l -> Bn μ ctr loc id = some l := by
 intro id l hl
 by_cases e : id = ctr
 .subst e; rw [hc] at hl; cases hl
 simp [Bn, e, hl]
theorem HRel.live_ne (hh : HRel A μ h F w) (hc : μ ctr = none) {id : Nat} {x : BB} (hx : AJ id h = some x) : id ≠ ctr := by
 obtain ⟨lc, h1, _⟩ := hh.obj id x hx
 rintro rfl
 rw [hc] at h1; cases h1
theorem HRel.add (hh : HRel A μ h F w) (hc : μ ctr = none) (loc : BQ) (o : BB) (h' : List (Nat × BB)) (hlt : loc.nil = false -> loc.b < w'.heap.size) (hb : NW μ h h' w loc)
  (hsub : ∀ id x, AJ id h' = some x -> (id = ctr /\ x = o) \/ AJ id h = some x)
  (hk0 : BJ (Bm μ h) w w') (hold : ∀ id x lc, AJ id h' = some x -> id ≠ ctr -> μ id = some lc -> lc.nil = false -> w'.heap[lc.b]? = w.heap[lc.b]?)
  (hos : w'.os = w.os) (htape : w'.tape = w.tape) (hout : w'.output = w.output)
  (ho : Cv (Af A (Bn μ ctr loc) h') (Bn μ ctr loc) w' loc o) :
  HRel A (Bn μ ctr loc) h' (fun id => F id /\ id ≠ ctr) w' := by
 have hk := hk0.own (A := A)
 have hs := hh.sub_add loc o h' hb hsub
 have hm := Jt hc loc
 have hbase : loc.nil = false -> ¬ A.O loc.b /\ (A.w0.heap.size <= loc.b \/ A.foot loc.b) := by
  intro hn
  rcases hb hn with hb | ⟨old, x, lc, h1, _, h3, h4, h5⟩
  .have h0 := hh.size
   exact ⟨fun hO => by have := (A.hO _ hO).1; omega, .inl (by omega)⟩
  obtain ⟨c1, c2, c3⟩ := hh.base old x lc h1 h3 h4
  rw [h5] at c2 c3; exact ⟨c2, c3⟩
 refine ⟨?_, ?_, ?_, ?_, Nat.le_trans hh.size hk.size, ?_, hos.trans hh.os, htape.trans hh.tape, hout.trans hh.output, fun id l hl => hm _ _ (hh.ext _ _ hl)⟩
 .intro id x hx
  rcases hsub id x hx with ⟨rfl, rfl⟩ | hx'
  .exact ⟨loc, by simp [Bn], ho⟩
  have e : id ≠ ctr := hh.live_ne hc hx'
  obtain ⟨lc, h1, h2⟩ := hh.obj id x hx'
  exact ⟨lc, hm _ _ h1, h2.mono hk hs hm (fun hn => hold id x lc hx e h1 hn)⟩
 .intro id id' x x' lc lc' h1 h2 m1 m2 n1 n2 he
  have cases' : ∀ id x lc, AJ id h' = some x -> Bn μ ctr loc id = some lc -> (id = ctr /\ lc = loc) \/ (AJ id h = some x /\ μ id = some lc) := by
   intro id x lc h1 m1
   by_cases e : id = ctr
   .subst e; simp [Bn] at m1; exact .inl ⟨rfl, m1.symm⟩
   simp [Bn, e] at m1
   rcases hsub id x h1 with ⟨rfl, _⟩ | h1
   .exact absurd rfl e
   exact .inr ⟨h1, m1⟩
  have part : ∀ id x lc, AJ id h' = some x -> AJ id h = some x -> μ id = some lc -> lc.nil = false -> loc.nil = false -> lc.b ≠ loc.b := by
   intro id x lc g1 g2 g3 g4 g5 e
   rcases hb g5 with hb | ⟨old, y, lo, f1, f2, f3, f4, f5⟩
   .have := (hh.base id x lc g2 g3 g4).1; omega
   have := hh.inj _ _ _ _ _ _ g2 f1 g3 f3 g4 f4 (by rw [e, f5])
   subst this; rw [g1] at f2; cases f2
  rcases cases' id x lc h1 m1 with ⟨rfl, rfl⟩ | ⟨a1, a2⟩ <;> rcases cases' id' x' lc' h2 m2 with ⟨rfl, rfl⟩ | ⟨b1, b2⟩
  .rfl
  .exact absurd he.symm (part _ _ _ h2 b1 b2 n2 n1)
  .exact absurd he (part _ _ _ h1 a1 a2 n1 n2)
  exact hh.inj _ _ _ _ _ _ a1 b1 a2 b2 n1 n2 he
 .intro id hid
  simp [Bn, hid.2, hh.fresh id hid.1]
 .intro id x lc h1 m1 n1
  by_cases e : id = ctr
  .subst e; simp [Bn] at m1; subst m1
   exact ⟨hlt n1, hbase n1⟩
  simp [Bn, e] at m1
  rcases hsub id x h1 with ⟨rfl, _⟩ | h1
  .exact absurd rfl e
  obtain ⟨c1, c2, c3⟩ := hh.base id x lc h1 m1 n1
  exact ⟨Nat.lt_of_lt_of_le c1 hk.size, c2, c3⟩
 intro b hb1 hb2
 by_cases ho : Bm μ h b
 .obtain ⟨id, x, lc, g1, g2, g3, g4⟩ := ho
  subst g4
  have := (hh.base id x lc g1 g2 g3).2.2
  rcases this with this | this
  .omega
  exact absurd this hb2
 rw [hk0.block b (by have := hh.size; omega) ho]; exact hh.block b hb1 hb2
theorem HRel.write (hh : HRel A μ h F w) {id : Nat} {x o : BB} {loc : BQ} (hx : AJ id h = some x) (hm : μ id = some loc) (hn : loc.nil = false)
  (hsz : w'.heap.size = w.heap.size) (hblk : ∀ b, b ≠ loc.b -> w'.heap[b]? = w.heap[b]?)
  (hos : w'.os = w.os) (htape : w'.tape = w.tape) (hout : w'.output = w.output)
  (ho : Cv (Af A μ (BR id o h)) μ w' loc o) :
  HRel A μ (BR id o h) F w' /\ BJ (Bm μ h) w w' /\ ∀ b, Af A μ (BR id o h) b -> Af A μ h b := by
 have hlook : ∀ j y, AJ j (BR id o h) = some y -> (j = id /\ y = o) \/ (j ≠ id /\ AJ j h = some y) := by
  intro j y hy
  by_cases e : j = id
  .subst e; rw [IY hx] at hy; cases hy; exact .inl ⟨rfl, rfl⟩
  rw [DK e] at hy; exact .inr ⟨e, hy⟩
 have hk : BJ (Bm μ h) w w' := ⟨by omega, fun b _ hb => hblk b fun e => hb ⟨id, x, loc, hx, hm, hn, e.symm⟩⟩
 have hmine : ∀ b, Bm μ (BR id o h) b -> Bm μ h b := by
  rintro b ⟨j, y, lc, h1, h2, h3, h4⟩
  rcases hlook j y h1 with ⟨rfl, rfl⟩ | ⟨_, h1⟩
  .exact ⟨j, x, lc, hx, h2, h3, h4⟩
  exact ⟨j, y, lc, h1, h2, h3, h4⟩
 have hown : ∀ b, Af A μ (BR id o h) b -> Af A μ h b := fun b hb => hb.imp (fun h => h) (hmine b)
 refine ⟨⟨?_, ?_, hh.fresh, ?_, by rw [hsz]; exact hh.size, ?_, hos.trans hh.os, htape.trans hh.tape, hout.trans hh.output, hh.ext⟩, hk, hown⟩
 .intro j y hy
  rcases hlook j y hy with ⟨rfl, rfl⟩ | ⟨e, hy⟩
  .exact ⟨loc, hm, ho⟩
  obtain ⟨lc, h1, h2⟩ := hh.obj j y hy
  refine ⟨lc, h1, h2.mono hk.own (fun b _ hb => hown b hb) (fun _ _ h => h) fun hn' => hblk _ fun eb => e ?_⟩
  exact hh.inj _ _ _ _ _ _ hy hx h1 hm hn' hn eb
 .intro j j' y y' lc lc' h1 h2 m1 m2 n1 n2 he
  have f : ∀ j y, AJ j (BR id o h) = some y -> ∃ y, AJ j h = some y := by
   intro j y hy
   rcases hlook j y hy with ⟨rfl, rfl⟩ | ⟨_, hy⟩
   .exact ⟨_, hx⟩
   exact ⟨_, hy⟩
  obtain ⟨z, hz⟩ := f j y h1
  obtain ⟨z', hz'⟩ := f j' y' h2
  exact hh.inj _ _ _ _ _ _ hz hz' m1 m2 n1 n2 he
 .intro j y lc h1 m1 n1
  rw [hsz]
  rcases hlook j y h1 with ⟨rfl, rfl⟩ | ⟨_, h1⟩
  .exact hh.base _ _ _ hx m1 n1
  exact hh.base _ _ _ h1 m1 n1
 intro b hb1 hb2
 rw [hblk b ?_]
 .exact hh.block b hb1 hb2
 intro e
 have := (hh.base id x loc hx hm hn).2.2
 rcases this with this | this
 .omega
 rw [<- e] at this; exact hb2 this
theorem HRel.keep (hh : HRel A μ h F w) {h' : List (Nat × BB)} {μ' : Nat -> Option BQ} (hμ : ∀ id loc, μ id = some loc -> μ' id = some loc) {F' : Nat -> Prop} (hfresh : ∀ id, F' id -> μ' id = none)
  (hsub : ∀ id x, AJ id h' = some x -> AJ id h = some x)
  (hk : ∀ b, b < w.heap.size -> w'.heap[b]? = w.heap[b]?) (hsz : w.heap.size <= w'.heap.size)
  (hos : w'.os = w.os) (htape : w'.tape = w.tape) (hout : w'.output = w.output) : HRel A μ' h' F' w' /\ ∀ b, Af A μ' h' b -> Af A μ h b := by
 have back : ∀ id x lc, AJ id h' = some x -> μ' id = some lc -> μ id = some lc := by
  intro id x lc h1 h2
  obtain ⟨l, h3, _⟩ := hh.obj id x (hsub _ _ h1)
  have := hμ _ _ h3
  rw [h2] at this; cases this; exact h3
 have hown : ∀ b, Af A μ' h' b -> Af A μ h b := by
  rintro b (hb | ⟨id, x, lc, h1, h2, h3, h4⟩)
  .exact .inl hb
  exact .inr ⟨id, x, lc, hsub _ _ h1, back _ _ _ h1 h2, h3, h4⟩
 refine ⟨⟨?_, ?_, hfresh, ?_, Nat.le_trans hh.size hsz, ?_, hos.trans hh.os, htape.trans hh.tape, hout.trans hh.output, fun id l hl => hμ _ _ (hh.ext _ _ hl)⟩, hown⟩
 .intro id x hx
  obtain ⟨lc, h1, h2⟩ := hh.obj id x (hsub _ _ hx)
  exact ⟨lc, hμ _ _ h1, h2.mono ⟨hsz, fun b hb _ => hk b hb⟩ (fun b _ hb => hown b hb) hμ fun hn => hk _ (hh.base id x lc (hsub _ _ hx) h1 hn).1⟩
 .intro id id' x x' lc lc' h1 h2 m1 m2 n1 n2 he
  exact hh.inj _ _ _ _ _ _ (hsub _ _ h1) (hsub _ _ h2) (back _ _ _ h1 m1) (back _ _ _ h2 m2) n1 n2 he
 .intro id x lc h1 m1 n1
  obtain ⟨c1, c2, c3⟩ := hh.base id x lc (hsub _ _ h1) (back _ _ _ h1 m1) n1
  exact ⟨Nat.lt_of_lt_of_le c1 hsz, c2, c3⟩
 intro b hb1 hb2
 rw [hk b (Nat.lt_of_lt_of_le hb1 hh.size)]; exact hh.block b hb1 hb2
end
end Go.E
/- The operations that touch memory: what they give on the data state (mW). -/
namespace Go.E
open Go Go.RowKit
abbrev AP := List (Nat × BB)
def Gm (h : AP) (ti : TI) (p : LV) (k : LV -> Prop) : Prop :=
 match p with
 | .p (.place l off) => ∃ r, Cz ti off (l.map .p) = some r /\ k r
 | .lpb id off => ∃ cells r, AJ id h = some (.box cells) /\ Cz ti off cells = some r /\ k r
 | .lpe id i off => ∃ e sz elems x r, AJ id h = some (.row e sz elems) /\ elems[i]? = some x /\ Cz ti off (x.map .p) = some r /\ k r
 | _ => False
def KK (h : AP) (ti : TI) (p v : LV) (k : AP -> Prop) : Prop :=
 ∃ ls, v.cells = some ls /\ ls.length = ti.size /\ (ls.all LV.one) = true /\ (match p with
 | .lpb id off => ∃ cells, AJ id h = some (.box cells) /\ off + ls.length <= cells.length /\ k (BR id (.box (CQ cells off ls)) h)
 | .lpe id i off => ∃ e sz elems x ds, AJ id h = some (.row e sz elems) /\ elems[i]? = some x /\ off + ls.length <= x.length /\ G6 ls = some ds /\
   k (BR id (.row e sz (elems.set i (CQ x off ds))) h)
 | _ => False)
def G0 (sz : Nat) : Nat -> List (Nat × LV) -> Option (List (List DV))
 | _, [] => some []
 | n, (i, v) :: rest => if i = n then match v.cells with
   | some ls => match G6 ls, G0 sz (n + 1) rest with
    | some ds, some r => if ds.length = sz then some (ds :: r) else none
    | _, _ => none
   | none => none
  else none
def L2 (h : AP) (v : LV) : Option (List (List DV)) :=
 match v with
 | .p .nils => some []
 | .p (.slice _ l) => some l
 | .lsl id _ off len => match AJ id h with
  | some (.row _ _ elems) => if off + len <= elems.length then some ((elems.drop off).take len) else none
  | _ => none
 | _ => none
def Mp (AD : A5) (h : AP) (ctr : Nat) (t : Nat) (s x : LV) (K : LV -> AP -> Nat -> Prop) : Prop :=
 ∃ ti e te, AD.tt t = some ti /\ ti.sh = .slc e /\ AD.tt e = some te /\ 0 < te.size /\ ∃ new, L2 h x = some new /\ (∀ y ∈ new, y.length = te.size /\ y.all DV.cell = true) /\
  (match s with
  | .p .nils => new.length * te.bytes <= 140737488355328 /\ new.length <= maxLen /\ K (.lsl ctr te.size 0 new.length) ((ctr, .row e te.size new) :: h) (ctr + 1)
  | .lsl id sz off len => ∃ elems, sz = te.size /\ AJ id h = some (.row e te.size elems) /\ off + len <= elems.length /\
    (len + new.length) * te.bytes <= 140737488355328 /\ len + new.length <= maxLen /\ K (.lsl ctr te.size 0 (len + new.length)) ((ctr, .row e te.size ((elems.drop off).take len ++ new)) :: Gk id h) (ctr + 1)
  | _ => False)
def DU : DV -> DV -> Bool
 | .agg a, .agg b => Bh a b
 | .agg _, _ | _, .agg _ => false
 | a, b => Dc a b
def BY (AD : A5) (kt : Nat) : DV -> Bool
 | .agg ds => match AD.keyk kt with
  | some ks => fits ks ds
  | none => false
 | d => match AD.tt kt with
  | some ti => CR ti.sh d
  | none => false
def CU (k : DV) : List (DV × DV) -> Option (Nat × DV)
 | [] => none
 | p :: m => if DU k p.1 then some (0, p.2) else (CU k m).map fun r => (r.1 + 1, r.2)
def FT (k : DV) (m : List (DV × DV)) : Option DV := (CU k m).map (·.2)
def MY (k v : DV) : List (DV × DV) -> List (DV × DV)
 | [] => [(k, v)]
 | p :: m => if DU k p.1 then (p.1, v) :: m else p :: MY k v m
def K1 (h : AP) : LV -> Option (List (DV × DV))
 | .p .nilm => some []
 | .p (.map m) => some m
 | .lmap id => match AJ id h with
  | some (.map m) => some m
  | _ => none
 | _ => none
def zV (AD : A5) (te : TI) : DV := match te.zeroDV with
 | .nils => (match te.sh with
  | .slc e => (match AD.tt e with
   | some t => .slice t.size []
   | none => .nils)
  | _ => .nils)
 | d => d
theorem AA4 {O : Nat -> Prop} {w : World} {z : Value} {AD : A5} {te : TI} (h : As O w z te.zeroDV) : As O w z (zV AD te) := by
 unfold zV
 split
 .rename_i e
  rw [e] at h
  split
  .split
   .cases h; exact .snil _
   exact h
  exact h
 exact h
def Ms (AD : A5) (h : AP) (t : Nat) (x key : LV) (ok : Bool) (k : LV -> Prop) : Prop :=
 ∃ ti kt et te m kd, AD.tt t = some ti /\ ti.sh = .mp kt et /\ AD.tt et = some te /\ K1 h x = some m /\ key = .p kd /\ BY AD kt kd = true /\ (m.all fun p => BY AD kt p.1) = true /\
  k (if ok then .tup [.p ((FT kd m).getD (zV AD te)), .p (.bool (FT kd m).isSome)] else .p ((FT kd m).getD (zV AD te)))
def Mt (AD : A5) (h : AP) (t : Nat) (x key v : LV) (k : AP -> Prop) : Prop :=
 ∃ ti kt et id m kd vd, AD.tt t = some ti /\ ti.sh = .mp kt et /\ x = .lmap id /\ AJ id h = some (.map m) /\ key = .p kd /\ v = .p vd /\ BY AD kt kd = true /\ (m.all fun p => BY AD kt p.1) = true /\
  k (BR id (.map (MY kd vd m)) h)
def Ni (k : DV) : List (DV × DV) -> List (DV × DV)
 | [] => []
 | p :: m => if DU k p.1 then m else p :: Ni k m
def AAQ (AD : A5) (h : AP) (t : Nat) (x key : LV) (k : AP -> Prop) : Prop :=
 ∃ ti kt et id m kd, AD.tt t = some ti /\ ti.sh = .mp kt et /\ x = .lmap id /\ AJ id h = some (.map m) /\ key = .p kd /\ BY AD kt kd = true /\ (m.all fun p => BY AD kt p.1) = true /\
  k (BR id (.mapd (Ni kd m)) h)
def AAm (AD : A5) (st : St) (c : Call) (K : LV -> AP -> Nat -> Prop) : Prop := ∃ x i t r, c.args = #[x, i] /\ c.argTypes.toList = t :: r /\ AAQ AD st.heap t (st.eval x) (st.eval i) fun h => K (.tup []) h st.ctr
def AAn (AD : A5) (st : St) (c : Call) (K : LV -> AP -> Nat -> Prop) : Prop := ∃ x t r, c.args = #[x] /\ c.argTypes.toList = t :: r /\ ∃ ti e te id off len elems,
 AD.tt t = some ti /\ ti.sh = .slc e /\ AD.tt e = some te /\ te.sh.isAgg = false /\ st.eval x = .lsl id 1 off len /\ len ≠ 0 /\ AJ id st.heap = some (.row e 1 elems) /\ off + len = elems.length /\
 te.zero.all DV.cell = true /\ K (.tup []) (BR id (.row e 1 (elems.take off ++ List.replicate len te.zero)) st.heap) st.ctr
def Mu (AD : A5) (h : AP) (t : Nat) (x key : LV) (k : LV -> AP -> Prop) : Prop :=
 ∃ ti kt et te id m kd, AD.tt t = some ti /\ ti.sh = .mp kt et /\ AD.tt et = some te /\ x = .lmap id /\ AJ id h = some (.map m) /\ key = .p kd /\ BY AD kt kd = true /\ (m.all fun p => BY AD kt p.1) = true /\
  k (.tup [.p ((FT kd m).getD te.zeroDV), .p (.int .i64 (((CU kd m).map (·.1)).getD m.length))]) (match CU kd m with
   | some _ => h
   | none => BR id (.map (m ++ [(kd, te.zeroDV)])) h)
def Om (h : AP) (x s v : LV) (k : AP -> Prop) : Prop :=
 ∃ id m kk n vd p, x = .lmap id /\ AJ id h = some (.map m) /\ s = .p (.int kk n) /\ 0 <= n /\ m[n.toNat]? = some p /\ v = .p vd /\ k (BR id (.map (m.set n.toNat (p.1, vd))) h)
def mW (AD : A5) (st : St) (op : Op) (K : LV -> AP -> Nat -> Prop) : Prop :=
 match op with
 | .load t x => ∃ ti, AD.tt t = some ti /\ Gm st.heap ti (st.eval x) fun r => K r st.heap st.ctr
 | .store t x v => ∃ ti, AD.tt t = some ti /\ KK st.heap ti (st.eval x) (st.eval v) fun h => K .any h st.ctr
 | .alloc t => ∃ ti, AD.tt t = some ti /\ K (.lpb st.ctr 0) ((st.ctr, .box (ti.zero.map .p)) :: st.heap) (st.ctr + 1)
 | .box _ x => ∃ ls, (st.eval x).cells = some ls /\ K (.lpb st.ctr 0) ((st.ctr, .box ls) :: st.heap) (st.ctr + 1)
 | .buildSlice t n ps => ∃ ti e te l, AD.tt t = some ti /\ ti.sh = .slc e /\ AD.tt e = some te /\ 0 < te.size /\ n * te.size <= 16777216 /\
   G0 te.size 0 (ps.toList.map fun p => (p.1, st.eval p.2)) = some l /\ l.length = n /\ (K (.lsl st.ctr te.size 0 n) ((st.ctr, .row e te.size l) :: st.heap) (st.ctr + 1) \/ K (.p (.slice te.size l)) st.heap st.ctr)
 | .makeSlice t l c => ∃ ti e te n k1 k2, AD.tt t = some ti /\ ti.sh = .slc e /\ AD.tt e = some te /\ st.eval l = .p (.int k1 n) /\ st.eval c = .p (.int k2 n) /\ 0 <= n /\
   te.bytes * n.toNat <= 281474976710656 /\ n.toNat <= maxLen /\ (K (.lsl st.ctr te.size 0 n.toNat) ((st.ctr, .row e te.size (List.replicate n.toNat te.zero)) :: st.heap) (st.ctr + 1) \/ K (.p (.slice te.size (List.replicate n.toNat te.zero))) st.heap st.ctr)
 | .makeMap _ r => r = none /\ K (.lmap st.ctr) ((st.ctr, .map []) :: st.heap) (st.ctr + 1)
 | .lookup t x i ok => Ms AD st.heap t (st.eval x) (st.eval i) ok fun r => K r st.heap st.ctr
 | .mapUpdate t x i v => Mt AD st.heap t (st.eval x) (st.eval i) (st.eval v) fun h => K .any h st.ctr
 | .mapEntry t x i => Mu AD st.heap t (st.eval x) (st.eval i) fun r h => K r h st.ctr
 | .entryStore _ x s v => Om st.heap (st.eval x) (st.eval s) (st.eval v) fun h => K .any h st.ctr
 | .range t x => ∃ ti kt et m, AD.tt t = some ti /\ ti.sh = .mp kt et /\ ((st.eval x = .p .nilm /\ m = []) \/ st.eval x = .p (.map m)) /\ K (.lpb st.ctr 0) ((st.ctr, .iter none m) :: st.heap) (st.ctr + 1)
 | .next x s => s = false /\ ∃ id cur left, st.eval x = .lpb id 0 /\ AJ id st.heap = some (.iter cur left) /\ (left = [] -> K (.tup [.p (.bool false)]) st.heap st.ctr) /\
   ∀ j p, left[j]? = some p -> ∃ cur', (cur' = none \/ cur' = some p) /\ K (.tup [.p (.bool true), .p p.1, .p p.2]) (BR id (.iter cur' (left.eraseIdx j)) st.heap) st.ctr
 | .entry x => ∃ id p left, st.eval x = .lpb id 0 /\ AJ id st.heap = some (.iter (some p) left) /\ K (.tup [.p p.1, .p p.2]) (BR id (.iter none left) st.heap) st.ctr
 | .call c => c.callee = .builtin .append /\ ∃ s x t, c.args = #[s, x] /\ c.argTypes = #[t, t] /\ Mp AD st.heap st.ctr t (st.eval s) (st.eval x) K
 | _ => False
structure HC (A : BD) (μ : Nat -> Option BQ) (st : St) (F : Nat -> Prop) (w : World) : Prop extends HRel A μ st.heap F w where
 hc : F st.ctr
theorem HC.none {A : BD} {μ : Nat -> Option BQ} {st : St} {F : Nat -> Prop} {w : World} (h : HC A μ st F w) : μ st.ctr = none := h.fresh _ h.hc
theorem HRel.less {A : BD} {μ : Nat -> Option BQ} {h : List (Nat × BB)} {F F' : Nat -> Prop} {w : World} (hh : HRel A μ h F w) (hf : ∀ id, F' id -> F id) : HRel A μ h F' w :=
 { hh with fresh := fun id hid => hh.fresh id (hf id hid) }
def BI (P : Program) (A : BD) (st : St) (a : Act) (w : World) (op : Op) (μ : Nat -> Option BQ) (F : Nat -> Prop) (K : LV -> AP -> Nat -> Prop) : Prop :=
 ∃ l h' c' u w' μ', K l h' c' /\ (st.ctr <= c' /\ HRel A μ' h' (fun id => F id /\ (st.ctr < c' -> id ≠ st.ctr)) w') /\ Aa (Af A μ' h') μ' w' u l /\
  (∀ v x, Aa (Af A μ st.heap) μ w v x -> Aa (Af A μ' h') μ' w' v x) /\
  ∀ o : Oper, o.op = op -> (execOp a.eval o).run P w = .ok (.value u) w' \/ ((execOp a.eval o).run P w = .ok .skip w' /\ u = undef)
section
variable {P : Program} {AD : A5} {A : BD} {F : Nat -> Prop} {μ : Nat -> Option BQ} {st : St} {a : Act} {w : World}
theorem Mq {t : Nat} {ti : TI} (hok : Hz P t ti) {b o : Nat} {f : Nat -> Value} (hc : ∀ j, j < ti.size -> w.cell? ⟨b, o + j, none⟩ = some (f j)) :
  (loadVar t ⟨b, o, none⟩).run P w = .ok (if ti.sh.isAgg then .agg ((List.range ti.size).map f).toArray else f 0) w := by
 unfold loadVar
 simp only [Sem.run_bind, hok.run_isAgg, Result.andThen_ok, Sem.run_ite]
 by_cases hg : ti.sh.isAgg = true
 .have := run_loadCells (P := P) w ⟨b, o, none⟩ ti.size f (fun j hj => by rw [Addr.add_lit]; exact hc j hj)
  simp only [hg, if_true, Sem.run_bind, hok.run_sizeOf, Result.andThen_ok, this, Sem.run_pure]
 have h1 := hok.one (by simpa using hg)
 have := hc 0 (by omega)
 simp only [Nat.add_zero] at this
 simp [hg, this]
theorem Jx {O : Nat -> Prop} {t : Nat} {ti : TI} (hok : Hz P t ti) {off : Nat} {ls : List LV} {f : Nat -> Value}
  (h : ∀ i l, ls[i]? = some l -> Aa O μ w (f i) l) {r : LV} (hr : Cz ti off ls = some r) :
  (∀ j, j < ti.size -> off + j < ls.length) /\ Aa O μ w (if ti.sh.isAgg then .agg ((List.range ti.size).map fun j => f (off + j)).toArray else f (off + 0)) r := by
 unfold Cz at hr
 split at hr
 .rename_i hagg
  simp only [Option.map_eq_some_iff] at hr
  obtain ⟨q, hq, rfl⟩ := hr
  obtain ⟨h1, h2, h3⟩ := Nn hq
  simp only [List.length_drop] at h2
  refine ⟨fun j hj => by omega, ?_⟩
  simp only [hagg, if_true]
  refine KQ (by simp [h1]) fun i v l hv hl => ?_
  have hi : i < ti.size := by
   have := (List.getElem?_eq_some_iff.1 hl).1
   omega
  rw [h3 i hi, List.getElem?_drop] at hl
  have : v = f (off + i) := by simp [hi] at hv; exact hv.symm
  rw [this]; exact h _ _ hl
 rename_i hagg
 have hi := (List.getElem?_eq_some_iff.1 hr).1
 have h1 := hok.one (by simpa using hagg)
 refine ⟨fun j hj => by omega, ?_⟩
 simp only [hagg, Bool.false_eq_true, if_false, Nat.add_zero]
 exact h _ _ hr
theorem Ck {b i : Nat} {c : Array Value} {e : TypeId} {v : Value} (hb : w.heap[b]? = some (.cells c e (0, 0))) (hi : c[i]? = some v) : w.cell? ⟨b, i, none⟩ = some v := by
 simp [World.cell?, hb, hi]
theorem Wi (hE : BC P AD) (hs : ∀ x, Aa (Af A μ st.heap) μ w (a.eval x) (st.eval x)) (hh : HC A μ st F w) {t : Nat} {x : Operand} {ti : TI} (ht : AD.tt t = some ti)
  {k : LV -> Prop} (h : Gm st.heap ti (st.eval x) k) : ∃ u l, k l /\ Aa (Af A μ st.heap) μ w u l /\ ∀ o : Oper, o.op = .load t x -> (execOp a.eval o).run P w = .ok (.value u) w := by
 have hok := hE.tt t ti ht
 have hx := hs x
 have fin : ∀ (b o : Nat) (f : Nat -> Value), a.eval x = .pointer (some ⟨b, o, none⟩) -> (∀ j, j < ti.size -> w.cell? ⟨b, o + j, none⟩ = some (f j)) ->
   ∀ op : Oper, op.op = .load t x -> (execOp a.eval op).run P w = .ok (.value (if ti.sh.isAgg then .agg ((List.range ti.size).map f).toArray else f 0)) w := by
  intro b o f e hc op ho
  have := Mq hok (w := w) hc
  simp [execOp, ho, Instr.loadAt, e, Instr.sureAddr, this]
 generalize st.eval x = l at h hx
 unfold Gm at h
 split at h
 .rename_i l off
  obtain ⟨r, hr, hk⟩ := h
  generalize hv : a.eval x = v at hx
  cases hx with
  | p v d hp => cases hp with
   | place b o l off cs hO hlt hc hrr =>
    obtain ⟨h1, h2⟩ := Jx (O := Af A μ st.heap) (μ := μ) (w := w) hok (f := cs) (fun i y hy => by
     simp only [List.getElem?_map, Option.map_eq_some_iff] at hy
     obtain ⟨d, hd, rfl⟩ := hy
     exact .p _ _ (hrr i d hd)) hr
    refine ⟨_, r, hk, h2, fin b (o + off) (fun j => cs (off + j)) hv fun j hj => ?_⟩
    rw [Nat.add_assoc]
    exact hc _ (by have := h1 j hj; simpa using this)
 .rename_i id off
  obtain ⟨cells, r, hl, hr, hk⟩ := h
  generalize hv : a.eval x = v at hx
  cases hx with
  | lpb id off loc hm hn =>
   obtain ⟨loc', hm', hn', c, e, hb, hsz, hrel⟩ := hh.obj id _ hl
   rw [hm] at hm'; cases hm'
   obtain ⟨h1, h2⟩ := Jx (O := Af A μ st.heap) (μ := μ) (w := w) hok (f := fun i => c.getD i undef) (fun i y hy => by
    have hi := (List.getElem?_eq_some_iff.1 hy).1
    have hc : i < c.size := by omega
    exact hrel i _ y (by simp [Array.getD, hc]) hy) hr
   refine ⟨_, r, hk, h2, fin loc.b off (fun j => c.getD (off + j) undef) hv fun j hj => ?_⟩
   have := h1 j hj
   exact Ck hb (by simp [Array.getD, show off + j < c.size by omega])
 .rename_i id i off
  obtain ⟨e, sz, elems, y, r, hl, hy, hr, hk⟩ := h
  generalize hv : a.eval x = v at hx
  cases hx with
  | lpe id i off loc hm hn =>
   obtain ⟨loc', hm', hz, hlen, hrow⟩ := hh.obj id _ hl
   rw [hm] at hm'; cases hm'
   rcases hrow with ⟨hn', _⟩ | ⟨_, c, hb, hcs, hel, hcap, hrel⟩
   .rw [hn] at hn'; cases hn'
   have hi := (List.getElem?_eq_some_iff.1 hy).1
   have hylen := hlen y (List.mem_of_getElem? hy)
   have hin : ∀ j, j < sz -> loc.o + i * sz + j < c.size := by
    intro j hj
    have : (i + 1) * sz <= loc.cap * sz := Nat.mul_le_mul_right _ (by omega)
    rw [Nat.add_mul] at this; omega
   obtain ⟨h1, h2⟩ := Jx (O := Af A μ st.heap) (μ := μ) (w := w) hok (f := fun j => c.getD (loc.o + i * sz + j) undef) (fun j z hz' => by
    simp only [List.getElem?_map, Option.map_eq_some_iff] at hz'
    obtain ⟨d, hd, rfl⟩ := hz'
    have hj := (List.getElem?_eq_some_iff.1 hd).1
    have := hin j (by omega)
    exact .p _ _ (hrel i j y d _ hy hd (by simp [Array.getD, this]))) hr
   refine ⟨_, r, hk, h2, fin loc.b (loc.o + i * loc.sz + off) (fun j => c.getD (loc.o + i * sz + (off + j)) undef) hv fun j hj => ?_⟩
   have h3 := h1 j hj
   simp only [List.length_map] at h3
   have := hin (off + j) (by omega)
   rw [hz, Nat.add_assoc]
   exact Ck hb (by simp [Array.getD, this])
 exact h.elim
theorem FO {g b : Nat} (hne : b ≠ g) (cs : Array Value) : (w.setRow g cs).heap[b]? = w.heap[b]? := setRow_other w g b cs hne
theorem LD {A : BD} {μ : Nat -> Option BQ} {h : AP} {id : Nat} {x o : BB} (hx : AJ id h = some x) : ∀ b, Af A μ (BR id o h) b -> Af A μ h b := by
 rintro b (hb | ⟨j, y, lc, h1, h2, h3, h4⟩)
 .exact .inl hb
 by_cases e : j = id
 .subst e; exact .inr ⟨j, x, lc, hx, h2, h3, h4⟩
 rw [DK e] at h1; exact .inr ⟨j, y, lc, h1, h2, h3, h4⟩
theorem BI.write (hh : HC A μ st F w) {op : Op} {K : LV -> AP -> Nat -> Prop} {id : Nat} {x o : BB} {loc : BQ} (hx : AJ id st.heap = some x) (hm : μ id = some loc) (hn : loc.nil = false) {cs : Array Value}
  (hrun : ∀ q : Oper, q.op = op -> (execOp a.eval q).run P w = .ok .skip (w.setRow loc.b cs))
  (ho : BJ (Af A μ st.heap) w (w.setRow loc.b cs) -> Cv (Af A μ st.heap) μ (w.setRow loc.b cs) loc o)
  (hk : K .any (BR id o st.heap) st.ctr) : BI P A st a w op μ F K := by
 have hkm : BJ (Bm μ st.heap) w (w.setRow loc.b cs) := ⟨by simp, fun b _ hb => FO (fun e => hb ⟨id, x, loc, hx, hm, hn, e.symm⟩) _⟩
 have hO := LD (A := A) (μ := μ) (o := o) hx
 have ho' : Cv (Af A μ (BR id o st.heap)) μ (w.setRow loc.b cs) loc o := (ho hkm.own).mono (BJ.refl _ _) (fun b _ hb => hO b hb) (fun _ _ h => h) (fun _ => rfl)
 obtain ⟨h1, h2, h3⟩ := hh.write (w' := w.setRow loc.b cs) hx hm hn (by simp) (fun b hb => FO hb _) rfl rfl rfl ho'
 exact ⟨.any, _, _, undef, _, μ, hk, ⟨Nat.le_refl _, h1.less fun _ h => h.1⟩, .any _, fun v x hv => hv.mono hkm.own (fun b _ hb => h3 b hb) (fun _ _ h => h), fun q hq => .inr ⟨hrun q hq, rfl⟩⟩
theorem VU (hE : BC P AD) (hs : ∀ x, Aa (Af A μ st.heap) μ w (a.eval x) (st.eval x)) (hh : HC A μ st F w) {t : Nat} {x y : Operand} {ti : TI} (ht : AD.tt t = some ti)
  {K : LV -> AP -> Nat -> Prop} (h : KK st.heap ti (st.eval x) (st.eval y) fun h => K .any h st.ctr) : BI P A st a w (.store t x y) μ F K := by
 have hok := hE.tt t ti ht
 have hx := hs x
 have hy := hs y
 obtain ⟨ls, hc, hlen, hone, h⟩ := h
 obtain ⟨c1, c2⟩ := KE hy hc
 have honeV : ∀ v ∈ (a.eval y).cells.toList, v.oneCell' = true := by
  intro v hv
  obtain ⟨i, hi⟩ := List.mem_iff_getElem?.1 hv
  have hi2 : i < ls.length := by
   have := (List.getElem?_eq_some_iff.1 hi).1
   simp at this; omega
  have := c2 i v ls[i] (by simpa using hi) (by simp [hi2])
  exact this.oneCell (List.all_eq_true.1 hone _ (List.getElem_mem hi2))
 have run : ∀ (g o : Nat) (cur : Array Value) (e : TypeId), a.eval x = .pointer (some ⟨g, o, none⟩) -> w.heap[g]? = some (.cells cur e (0, 0)) -> o + ls.length <= cur.size ->
   ∀ op : Oper, op.op = .store t x y -> (execOp a.eval op).run P w = .ok .skip (w.setRow g (cur.toList.take o ++ (a.eval y).cells.toList ++ cur.toList.drop (o + ls.length)).toArray) := by
  intro g o cur e he hb hfit op ho
  have := run_storeCells_at P g o e (a.eval y).cells.toList 0 cur w hb (by simp; omega) honeV
  simp only [Nat.add_zero, Array.length_toList, c1] at this
  have hne : ¬ ((a.eval y).cells.size ≠ ti.size) := by omega
  simp [execOp, ho, Instr.storeAt, he, Instr.sureAddr, storeVar, hok.run_sizeOf, hne, this]
 have cellAt : ∀ (o : Nat) (cur : Array Value), o + ls.length <= cur.size -> ∀ i, (cur.toList.take o ++ (a.eval y).cells.toList ++ cur.toList.drop (o + ls.length)).toArray[i]? =
   if o <= i /\ i < o + ls.length then (a.eval y).cells[i - o]? else cur[i]? := by
  intro o cur hfit i
  have e1 : (cur.toList.take o).length = o := by simp; omega
  simp only [List.getElem?_toArray, List.getElem?_append, e1, List.length_append, Array.length_toList, c1]
  by_cases g1 : i < o
  .rw [if_pos (by omega), if_pos g1, if_neg (by omega), List.getElem?_take, if_pos g1]; simp
  by_cases g2 : i < o + ls.length
  .rw [if_pos g2, if_neg g1, if_pos (by omega)]; simp
  rw [if_neg g2, if_neg (by omega), List.getElem?_drop, show o + ls.length + (i - (o + ls.length)) = i by omega]; simp
 generalize st.eval x = l at h hx
 split at h
 .rename_i id off
  obtain ⟨cells, hl, hfit, hk⟩ := h
  generalize hv : a.eval x = v at hx
  cases hx with
  | lpb id off loc hm hn =>
   obtain ⟨loc', hm', hn', c, e, hb, hsz, hrel⟩ := hh.obj id _ hl
   rw [hm] at hm'; cases hm'
   have hrun := run loc.b off c e hv hb (by omega)
   have hcell := cellAt off c (by omega)
   have hst := K5 cells off ls hfit
   refine BI.write hh hl hm hn hrun (fun hkept => ?_) hk
   refine ⟨hn, _, e, setRow_heap w loc.b c _ e _ hb, ?_, fun i v z hv hz => ?_⟩
   .rw [hst.1]; simp [c1]; omega
   rw [hcell i] at hv
   rw [hst.2 i] at hz
   split at hv
   .rw [if_pos ‹_›] at hz; exact (c2 _ v z hv hz).mono hkept (fun b _ hb => hb) (fun _ _ h => h)
   rw [if_neg ‹_›] at hz; exact (hrel _ v z hv hz).mono hkept (fun b _ hb => hb) (fun _ _ h => h)
 .rename_i id i off
  obtain ⟨e', sz, elems, y', ds, hl, hy', hfit, hall, hk⟩ := h
  generalize hv : a.eval x = v at hx
  cases hx with
  | lpe id i off loc hm hn =>
   obtain ⟨loc', hm', hz, hlen', hrow⟩ := hh.obj id _ hl
   rw [hm] at hm'; cases hm'
   rcases hrow with ⟨hn', _⟩ | ⟨_, c, hb, hcs, hel, hcap, hrel⟩
   .rw [hn] at hn'; cases hn'
   have hi := (List.getElem?_eq_some_iff.1 hy').1
   have hylen := hlen' y' (List.mem_of_getElem? hy')
   have hls := KF hall
   have hdl : ds.length = ls.length := by rw [hls]; simp
   have hin : loc.o + i * sz + sz <= c.size := by
    have : (i + 1) * sz <= loc.cap * sz := Nat.mul_le_mul_right _ (by omega)
    rw [Nat.add_mul] at this; omega
   rw [hz] at hv
   have hrun := run loc.b (loc.o + i * sz + off) c e' hv hb (by omega)
   have hcell := cellAt (loc.o + i * sz + off) c (by omega)
   have hst := K5 y' off ds (by omega)
   refine BI.write hh hl hm hn hrun (fun hkept => ?_) hk
   refine ⟨hz, fun q hq => ?_, .inr ⟨hn, _, setRow_heap w loc.b c _ e' _ hb, ?_, by simpa using hel, hcap, fun j m q d v hq hd hv => ?_⟩⟩
   .rcases List.mem_or_eq_of_mem_set hq with hq | rfl
    .exact hlen' q hq
    rw [hst.1, hylen]
   .simp [c1]; omega
   rw [hcell] at hv
   by_cases hji : j = i
   .subst hji
    have hq' : q = CQ y' off ds := by
     rw [List.getElem?_set_self (by simpa using hi)] at hq; cases hq; rfl
    subst hq'
    rw [hst.2 m] at hd
    by_cases hc' : off <= m /\ m < off + ds.length
    .rw [if_pos hc'] at hd
     rw [if_pos (by omega)] at hv
     have := c2 (m - off) v (.p d) (by rw [<- hv]; congr 1; omega) (by rw [hls]; simp [hd])
     exact this.p_inv.mono hkept (fun b _ hb => hb)
    rw [if_neg hc'] at hd
    rw [if_neg (by omega)] at hv
    exact (hrel j m y' d v hy' hd hv).mono hkept (fun b _ hb => hb)
   rw [List.getElem?_set_ne (by omega)] at hq
   have hql := hlen' q (List.mem_of_getElem? hq)
   have hm' := (List.getElem?_eq_some_iff.1 hd).1
   have hne : ¬ (loc.o + i * sz + off <= loc.o + j * sz + m /\ loc.o + j * sz + m < loc.o + i * sz + off + ls.length) := by
    intro ⟨g1, g2⟩
    rcases Nat.lt_or_gt_of_ne hji with hlt | hgt
    .have : (j + 1) * sz <= i * sz := Nat.mul_le_mul_right _ hlt
     rw [Nat.add_mul] at this; omega
    have : (i + 1) * sz <= j * sz := Nat.mul_le_mul_right _ hgt
    rw [Nat.add_mul] at this; omega
   rw [if_neg hne] at hv
   exact (hrel j m q d v hq hd hv).mono hkept (fun b _ hb => hb)
 exact h.elim
end
end Go.E
/- New objects: alloc, box, slice literals, make, append. -/
namespace Go.E
open Go Go.RowKit
section
variable {P : Program} {AD : A5} {A : BD} {F : Nat -> Prop} {μ : Nat -> Option BQ} {st : St} {a : Act} {w : World}
theorem GW (w : World) (o : Obj) : (w.alloc o).heap[w.heap.size]? = some o := heap_alloc_new w o
theorem Fo (w : World) (o : Obj) {b : Nat} (h : b < w.heap.size) : (w.alloc o).heap[b]? = w.heap[b]? := heap_alloc_old w o h
theorem BI.add (hh : HC A μ st F w) {op : Op} {K : LV -> AP -> Nat -> Prop} {loc : BQ} {o : BB} {h' : AP} {u : Value} {l : LV} {w' : World}
  (hrun : ∀ q : Oper, q.op = op -> (execOp a.eval q).run P w = .ok (.value u) w')
  (hlt : loc.nil = false -> loc.b < w'.heap.size) (hb : NW μ st.heap h' w loc)
  (hsub : ∀ id x, AJ id h' = some x -> (id = st.ctr /\ x = o) \/ AJ id st.heap = some x)
  (hk : BJ (Bm μ st.heap) w w') (hold : ∀ id x lc, AJ id h' = some x -> id ≠ st.ctr -> μ id = some lc -> lc.nil = false -> w'.heap[lc.b]? = w.heap[lc.b]?)
  (hos : w'.os = w.os) (htape : w'.tape = w.tape) (hout : w'.output = w.output)
  (ho : ∀ O' : Nat -> Prop, (∀ b, b < w.heap.size -> O' b -> Af A μ st.heap b) -> Cv O' (Bn μ st.ctr loc) w' loc o)
  (hu : ∀ O', Aa O' (Bn μ st.ctr loc) w' u l) (hK : K l h' (st.ctr + 1)) : BI P A st a w op μ F K := by
 have hs := hh.sub_add loc o h' hb hsub
 refine ⟨l, h', _, u, w', _, hK, ⟨Nat.le_succ _, (hh.add hh.none loc o h' hlt hb hsub hk hold hos htape hout (ho _ hs)).less fun _ h => ⟨h.1, h.2 (Nat.lt_succ_self _)⟩⟩, hu _, fun v x hv => hv.mono hk.own hs (Jt hh.none loc), fun q hq => .inl (hrun q hq)⟩
theorem BI.new (hh : HC A μ st F w) {op : Op} {K : LV -> AP -> Nat -> Prop} {loc : BQ} {o : BB} {u : Value} {l : LV} {w' : World}
  (hrun : ∀ q : Oper, q.op = op -> (execOp a.eval q).run P w = .ok (.value u) w')
  (hlt : loc.nil = false -> loc.b < w'.heap.size /\ w.heap.size <= loc.b) (hsz : w.heap.size <= w'.heap.size) (hblk : ∀ b, b < w.heap.size -> w'.heap[b]? = w.heap[b]?)
  (hos : w'.os = w.os) (htape : w'.tape = w.tape) (hout : w'.output = w.output)
  (ho : ∀ O' : Nat -> Prop, (∀ b, b < w.heap.size -> O' b -> Af A μ st.heap b) -> Cv O' (Bn μ st.ctr loc) w' loc o)
  (hu : ∀ O', Aa O' (Bn μ st.ctr loc) w' u l) (hK : K l ((st.ctr, o) :: st.heap) (st.ctr + 1)) : BI P A st a w op μ F K := by
 refine BI.add hh hrun (fun hn => (hlt hn).1) (fun hn => .inl (hlt hn).2) (fun id x hx => ?_) ⟨hsz, fun b hb _ => hblk b hb⟩ (fun id x lc hx hne hm hn => ?_) hos htape hout ho hu hK
 .simp only [AJ] at hx
  split at hx
  .cases hx; exact .inl ⟨‹_›, rfl⟩
  exact .inr hx
 simp only [AJ] at hx
 rw [if_neg hne] at hx
 exact hblk _ (hh.base id x lc hx hm hn).1
theorem Si (hh : HC A μ st F w) {op : Op} {K : LV -> AP -> Nat -> Prop} {cs : Array Value} {t : TypeId} {ls : List LV} (hsz : cs.size = ls.length)
  (hrel : ∀ (i : Nat) (v : Value) (l : LV), cs[i]? = some v -> ls[i]? = some l -> Aa (Af A μ st.heap) μ w v l)
  (hrun : ∀ q : Oper, q.op = op -> (execOp a.eval q).run P w = .ok (.value (.pointer (some ⟨w.heap.size, 0, none⟩))) (w.alloc (.cells cs t)))
  (hK : K (.lpb st.ctr 0) ((st.ctr, .box ls) :: st.heap) (st.ctr + 1)) : BI P A st a w op μ F K := by
 refine BI.new hh (loc := ⟨false, w.heap.size, 0, 0, 0⟩) (o := .box ls) hrun (fun _ => ⟨by simp, Nat.le_refl _⟩) (by simp) (fun b hb => Fo w _ hb) rfl rfl rfl (fun O' hO => ?_) (fun O' => ?_) hK
 .refine ⟨rfl, cs, t, GW w _, hsz, fun i v l hv hl => ?_⟩
  exact (hrel i v l hv hl).mono ⟨by simp, fun b hb _ => Fo w _ hb⟩ hO (Jt hh.none _)
 exact .lpb st.ctr 0 ⟨false, w.heap.size, 0, 0, 0⟩ (by simp [Bn]) rfl
theorem VS (hE : BC P AD) (hh : HC A μ st F w) {t : Nat} {ti : TI} (ht : AD.tt t = some ti) {K : LV -> AP -> Nat -> Prop}
  (hK : K (.lpb st.ctr 0) ((st.ctr, .box (ti.zero.map .p)) :: st.heap) (st.ctr + 1)) : BI P A st a w (.alloc t) μ F K := by
 obtain ⟨z, hz1, hz2, hz3, hz4⟩ := (hE.tt t ti ht).run_zero w
 refine Si hh (cs := z.cells) (t := t) (by simpa using hz3) (fun i v l hv hl => ?_) (fun q hq => ?_) hK
 .simp only [List.getElem?_map, Option.map_eq_some_iff] at hl
  obtain ⟨d, hd, rfl⟩ := hl
  exact .p _ _ (E6 (hz4 i v d hv hd) _ _).1
 simp [execOp, hq, Instr.alloc, hz1, newVar, newRow, newObj, Sem.run]
theorem VT (hs : ∀ x, Aa (Af A μ st.heap) μ w (a.eval x) (st.eval x)) (hh : HC A μ st F w) {t : Nat} {x : Operand} {ls : List LV} (hc : (st.eval x).cells = some ls) {K : LV -> AP -> Nat -> Prop}
  (hK : K (.lpb st.ctr 0) ((st.ctr, .box ls) :: st.heap) (st.ctr + 1)) : BI P A st a w (.box t x) μ F K := by
 obtain ⟨c1, c2⟩ := KE (hs x) hc
 refine Si hh (cs := (a.eval x).cells) (t := t) c1 c2 (fun q hq => ?_) hK
 simp [execOp, hq, Instr.box, newVar, newRow, newObj, Sem.run]
theorem TS (hh : HC A μ st F w) {t : Nat} {K : LV -> AP -> Nat -> Prop}
  (hK : K (.lmap st.ctr) ((st.ctr, .map []) :: st.heap) (st.ctr + 1)) : BI P A st a w (.makeMap t none) μ F K := by
 refine BI.new hh (loc := ⟨false, w.heap.size, 0, 0, 0⟩) (o := .map []) (w' := w.alloc (.map #[] 0)) (u := .map (some w.heap.size)) (fun q hq => ?_) (fun _ => ⟨by simp, Nat.le_refl _⟩) (by simp) (fun b hb => Fo w _ hb) rfl rfl rfl (fun O' hO => ?_) (fun O' => ?_) hK
 .simp [execOp, hq, Instr.makeMap, newObj, Sem.run]
 .exact ⟨rfl, #[], GW w _, rfl, by simp, by simp⟩
 exact .lmap st.ctr ⟨false, w.heap.size, 0, 0, 0⟩ (by simp [Bn]) rfl
theorem Xw (hh : HC A μ st F w) {op : Op} {K : LV -> AP -> Nat -> Prop} {w' : World} {e sz n cap : Nat} {cs : Array Value} {l : List (List DV)}
  (hrun : ∀ q : Oper, q.op = op -> (execOp a.eval q).run P w = .ok (.value (.slice (some ⟨w.heap.size, 0, none⟩) n cap)) w')
  (hw : w'.heap[w.heap.size]? = some (.cells cs e (0, 0))) (hblk : ∀ b, b < w.heap.size -> w'.heap[b]? = w.heap[b]?)
  (hos : w'.os = w.os) (htape : w'.tape = w.tape) (hout : w'.output = w.output)
  (hcs : cs.size = cap * sz) (hn : l.length = n) (hnc : n <= cap) (hcap : cap <= maxLen) (hl : ∀ x ∈ l, x.length = sz)
  (hrel : ∀ (i j : Nat) (x : List DV) (d : DV) (v : Value), l[i]? = some x -> x[j]? = some d -> cs[i * sz + j]? = some v -> As (Af A μ st.heap) w v d)
  (hK : K (.lsl st.ctr sz 0 n) ((st.ctr, .row e sz l) :: st.heap) (st.ctr + 1)) : BI P A st a w op μ F K := by
 have hlt : w.heap.size < w'.heap.size := (Array.getElem?_eq_some_iff.1 hw).1
 refine BI.new hh (loc := ⟨false, w.heap.size, 0, sz, cap⟩) (o := .row e sz l) hrun (fun _ => ⟨hlt, Nat.le_refl _⟩) (by omega) hblk hos htape hout (fun O' hO => ?_) (fun O' => ?_) hK
 .refine ⟨rfl, hl, .inr ⟨rfl, cs, hw, by simpa using hcs, by rw [hn]; exact hnc, hcap, fun i j x d v hx hd hv => ?_⟩⟩
  exact (hrel i j x d v hx hd (by simpa using hv)).mono ⟨by omega, fun b hb _ => hblk b hb⟩ hO
 exact .lsl st.ctr 0 n cap ⟨w.heap.size, 0, none⟩ ⟨false, w.heap.size, 0, sz, cap⟩ (by simp [Bn]) rfl (by simp) hnc (by simp) rfl rfl
theorem Q0 (hh : HC A μ st F w) {op : Op} {K : LV -> AP -> Nat -> Prop} {w' : World} {e sz n cap : Nat} {cs : Array Value} {l : List (List DV)}
  (hrun : ∀ q : Oper, q.op = op -> (execOp a.eval q).run P w = .ok (.value (.slice (some ⟨w.heap.size, 0, none⟩) n cap)) w')
  (hw : w'.heap[w.heap.size]? = some (.cells cs e (0, 0))) (hblk : ∀ b, b < w.heap.size -> w'.heap[b]? = w.heap[b]?)
  (hos : w'.os = w.os) (htape : w'.tape = w.tape) (hout : w'.output = w.output)
  (hcs : cs.size = cap * sz) (hn : l.length = n) (hnc : n <= cap) (hcap : cap <= maxLen) (hl : ∀ x ∈ l, x.length = sz)
  (hrel : ∀ (i j : Nat) (x : List DV) (d : DV) (v : Value), l[i]? = some x -> x[j]? = some d -> cs[i * sz + j]? = some v -> As (Af A μ st.heap) w v d)
  (hK : K (.lsl st.ctr sz 0 n) ((st.ctr, .row e sz l) :: st.heap) (st.ctr + 1) \/ K (.p (.slice sz l)) st.heap st.ctr) : BI P A st a w op μ F K := by
 rcases hK with hK | hK
 .exact Xw hh hrun hw hblk hos htape hout hcs hn hnc hcap hl hrel hK
 have hlt : w.heap.size < w'.heap.size := (Array.getElem?_eq_some_iff.1 hw).1
 have hnew : ¬ Af A μ st.heap w.heap.size := by
  rintro (hb | ⟨id, x, lc, h1, h2, h3, h4⟩)
  .have := (A.hO _ hb).1; have := hh.size; omega
  have := (hh.base id x lc h1 h2 h3).1; omega
 obtain ⟨hh', hown⟩ := hh.toHRel.keep (w' := w') (h' := st.heap) (μ' := μ) (F' := F) (fun _ _ h => h) hh.fresh (fun _ _ h => h) hblk (by omega) hos htape hout
 refine ⟨_, _, _, _, w', μ, hK, ⟨Nat.le_refl _, hh'.less fun _ h => h.1⟩, .p _ _ ?_, fun v x hv => hv.mono ⟨by omega, fun b hb _ => hblk b hb⟩ (fun b _ hb => hb) (fun _ _ h => h), fun q hq => .inl (hrun q hq)⟩
 subst hn
 refine .slice w.heap.size 0 cap sz l (fun i j => cs.getD (i * sz + j) undef) hnew hlt hl hnc (by omega) (fun i j hi hj => ?_) (fun i j x d hx hd => ?_)
 .have hin : i * sz + j < cs.size := by
   have : (i + 1) * sz <= cap * sz := Nat.mul_le_mul_right _ (by omega)
   rw [Nat.add_mul] at this; omega
  rw [Nat.zero_add]
  exact Ck hw (by simp [Array.getD, hin])
 have hi := (List.getElem?_eq_some_iff.1 hx).1
 have hj := (List.getElem?_eq_some_iff.1 hd).1
 rw [hl x (List.mem_of_getElem? hx)] at hj
 have hin : i * sz + j < cs.size := by
  have : (i + 1) * sz <= cap * sz := Nat.mul_le_mul_right _ (by omega)
  rw [Nat.add_mul] at this; omega
 exact (hrel i j x d _ hx hd (by simp [Array.getD, hin])).mono ⟨by omega, fun b hb _ => hblk b hb⟩ (fun b _ hb => hb)
theorem TT {z : Array Value} {n sz i j : Nat} {v : Value} (hz : z.size = sz) (hj : j < sz) (h : (madeCells z (n * sz))[i * sz + j]? = some v) : z[j]? = some v := by
 have hlt := (Array.getElem?_eq_some_iff.1 h).1
 have e : (madeCells z (n * sz))[i * sz + j]? = some z[(i * sz + j) % z.size]! := by
  simp only [madeCells] at hlt ⊢
  simp at hlt
  simp [hlt]
 rw [e] at h
 cases h
 have : (i * sz + j) % z.size = j := by rw [hz, Nat.add_comm, Nat.add_mul_mod_self_right, Nat.mod_eq_of_lt hj]
 rw [this]
 simp [hz, hj]
theorem Q1 (hE : BC P AD) (hs : ∀ x, Aa (Af A μ st.heap) μ w (a.eval x) (st.eval x)) (hh : HC A μ st F w) {t : Nat} {l c : Operand} {ti te : TI} {e : Nat} {n : Int} {k1 k2 : IntKind}
  (h1 : AD.tt t = some ti) (h2 : ti.sh = .slc e) (h3 : AD.tt e = some te) (h4 : st.eval l = .p (.int k1 n)) (h5 : st.eval c = .p (.int k2 n)) (h6 : 0 <= n)
  (h7 : te.bytes * n.toNat <= 281474976710656) (h8 : n.toNat <= maxLen) {K : LV -> AP -> Nat -> Prop}
  (hK : K (.lsl st.ctr te.size 0 n.toNat) ((st.ctr, .row e te.size (List.replicate n.toNat te.zero)) :: st.heap) (st.ctr + 1) \/ K (.p (.slice te.size (List.replicate n.toNat te.zero))) st.heap st.ctr) : BI P A st a w (.makeSlice t l c) μ F K := by
 obtain ⟨i, z, hi, hsz, hby, hz, hzs, hm, _⟩ := (hE.tt e te h3).info
 obtain ⟨m1, m2⟩ := QU hm
 obtain ⟨w', hrun, hown, hg⟩ := run_make_full (P := P) w 0 t e i z te.size (EI hE h1 h2) hi hz hsz k1 k2 n.toNat (by rw [hby]; exact h7) h8 (Nat.zero_le _)
 have hl := hs l; rw [h4] at hl
 have hc := hs c; rw [h5] at hc
 obtain ⟨_, hown⟩ := hown
 rcases hown with ⟨h, _⟩ | ⟨g, cap, cur, hv, _, hw, hnc, hcap, hcs, htake⟩
 .cases h
 simp only [Value.slice.injEq, Option.some.injEq, Addr.mk.injEq] at hv
 obtain ⟨⟨hg1, _⟩, _, hc1⟩ := hv
 subst hg1 hc1
 have hcur : cur = madeCells z.cells (n.toNat * te.size) := by
  have : cur.toList = (madeCells z.cells (n.toNat * te.size)).toList := by rw [<- htake, List.take_of_length_le (by simp [hcs])]
  exact Array.ext' this
 refine Q0 hh (fun q hq => ?_) hw (fun b hb => hg.block b hb (by simp)) hg.os hg.tape hg.output hcs (by simp) (Nat.le_refl _) hcap (fun x hx => ?_) (fun i j x d v hx hd hv => ?_) hK
 .have e1 : ((n.toNat : Nat) : Int) = n := by omega
  rw [e1] at hrun
  simp [execOp, hq, hl.int_inv, hc.int_inv, hrun]
 .rw [List.eq_of_mem_replicate hx, <- m1]; simpa using hzs
 rw [hcur] at hv
 have hx' := List.eq_of_mem_replicate (List.mem_of_getElem? hx)
 subst hx'
 have hj := (List.getElem?_eq_some_iff.1 hd).1
 have hzl : te.zero.length = te.size := by rw [<- m1]; simpa using hzs
 have := TT hzs (by omega) hv
 exact (E6 (m2 j v d (by simpa using this) hd) _ _).1
theorem Q2 {O : Nat -> Prop} {sz len : Nat} (hs : ∀ x, Aa O μ w (a.eval x) (st.eval x)) :
  ∀ (ps : List (Nat × Operand)) (n : Nat) (cells : Array Value) (l : List (List DV)), G0 sz n (ps.map fun p => (p.1, st.eval p.2)) = some l -> cells.size = len * sz -> n + l.length = len ->
   ∃ us, Instr.fill (fun i => some (i * sz, sz)) cells (ps.map fun p => (p.1, a.eval p.2)) = some us /\ us.size = len * sz /\ (∀ x ∈ l, x.length = sz) /\
    (∀ i, i < n * sz -> us[i]? = cells[i]?) /\
    ∀ (i j : Nat) (x : List DV) (d : DV) (v : Value), l[i]? = some x -> x[j]? = some d -> us[(n + i) * sz + j]? = some v -> As O w v d
 | [], n, cells, l, h, hc, hn => by
  simp only [List.map_nil, G0, Option.some.injEq] at h
  subst h
  exact ⟨cells, rfl, hc, by simp, fun _ _ => rfl, by simp⟩
 | (i, x) :: ps, n, cells, l, h, hc, hn => by
  simp only [List.map_cons, G0] at h
  split at h
  .rename_i hin
   subst hin
   split at h
   .rename_i ls hls
    split at h
    .rename_i ds r hds hr
     split at h
     .rename_i hlen
      cases h
      obtain ⟨c1, c2⟩ := KE (hs x) hls
      have hdl : ls.length = sz := by rw [KF hds]; simpa using hlen
      have hfit : i * sz + (a.eval x).cells.size <= cells.size := by
       have : (i + 1) * sz <= len * sz := Nat.mul_le_mul_right _ (by simp at hn; omega)
       rw [Nat.add_mul] at this; omega
      have hov := Of (a.eval x).cells cells (i * sz) hfit
      obtain ⟨us, h1, h2, h3, h4, h5⟩ := Q2 hs ps (i + 1) _ r hr (by rw [hov.1]; exact hc) (by simp at hn; omega)
      refine ⟨us, ?_, h2, ?_, fun j hj => ?_, fun k j y d v hy hd hv => ?_⟩
      .simp only [List.map_cons, Instr.fill]
       have hne : ¬ ((a.eval x).cells.size ≠ sz || i * sz + (a.eval x).cells.size > cells.size) = true := by
        simp; omega
       rw [if_neg hne]; exact h1
      .intro y hy
       rcases List.mem_cons.1 hy with rfl | hy
       .exact hlen
       exact h3 y hy
      .rw [h4 j (by rw [Nat.add_mul]; omega), hov.2 j, if_neg (by omega)]
      cases k with
      | zero =>
       simp only [List.getElem?_cons_zero, Option.some.injEq] at hy
       subst hy
       have hj := (List.getElem?_eq_some_iff.1 hd).1
       rw [Nat.add_zero, h4 _ (by rw [Nat.add_mul]; omega), hov.2, if_pos (by omega)] at hv
       rw [show i * sz + j - i * sz = j by omega] at hv
       exact (c2 j v (.p d) hv (by rw [KF hds]; simp [hd])).p_inv
      | succ k =>
       refine h5 k j y d v (by simpa using hy) hd ?_
       rw [<- hv]; congr 3; omega
     cases h
    cases h
   cases h
  cases h
theorem QV (hE : BC P AD) (hs : ∀ x, Aa (Af A μ st.heap) μ w (a.eval x) (st.eval x)) (hh : HC A μ st F w) {t n : Nat} {ps : Array (Nat × Operand)} {ti te : TI} {e : Nat} {l : List (List DV)}
  (h1 : AD.tt t = some ti) (h2 : ti.sh = .slc e) (h3 : AD.tt e = some te) (h4 : 0 < te.size) (h5 : n * te.size <= 16777216)
  (h6 : G0 te.size 0 (ps.toList.map fun p => (p.1, st.eval p.2)) = some l) (h7 : l.length = n) {K : LV -> AP -> Nat -> Prop}
  (hK : K (.lsl st.ctr te.size 0 n) ((st.ctr, .row e te.size l) :: st.heap) (st.ctr + 1) \/ K (.p (.slice te.size l)) st.heap st.ctr) : BI P A st a w (.buildSlice t n ps) μ F K := by
 obtain ⟨z, hz1, hz2, hz3, hz4⟩ := (hE.tt e te h3).run_zero w
 have hn : n <= 16777216 := Nat.le_trans (Nat.le_mul_of_pos_right n h4) h5
 let zero : Array Value := if n * te.size = 0 then #[] else z.cells
 obtain ⟨us, f1, f2, f3, f4, f5⟩ := Q2 (len := n) hs ps.toList 0 ((Array.range (n * te.size)).map (zero[· % zero.size]!)) l h6 (by simp) (by omega)
 refine Q0 hh (cs := us) (cap := n) (w' := w.alloc (.cells us e)) (fun q hq => ?_) (GW w _) (fun b hb => Fo w _ hb) rfl rfl rfl f2 h7 (Nat.le_refl _) (by unfold maxLen; omega) f3 (fun i j x d v hx hd hv => ?_) hK
 .have hsz := (hE.tt e te h3).run_sizeOf w
  have e3 : (ps.map fun (x : Nat × Operand) => (x.1, a.eval x.2)).toList = ps.toList.map fun p => (p.1, a.eval p.2) := by simp
  have hnot : ¬ (n * te.size > 2 ^ 24) := by omega
  by_cases h0 : n * te.size = 0
  .have f1' : Instr.fill (fun i => some (i * te.size, te.size)) #[] (ps.toList.map fun p => (p.1, a.eval p.2)) = some us := by
    rw [<- f1]; congr 1; simp [h0]
   simp only [execOp, hq, Instr.buildSlice, Sem.run_bind, run_underlying (EI hE h1 h2), Result.andThen_ok, hsz, h0]
   have er : ∀ f : Nat -> Value, Array.map f (Array.range 0) = #[] := fun f => by simp
   simp only [show ¬ (0 > 2 ^ 24) by decide, if_false, if_true, Sem.run_pure, Result.andThen_ok, er, e3, f1', Sem.run_bind]
   simp [newRow, newObj, Sem.run]
  have f1' : Instr.fill (fun i => some (i * te.size, te.size)) ((Array.range (n * te.size)).map (z.cells[· % z.cells.size]!)) (ps.toList.map fun p => (p.1, a.eval p.2)) = some us := by
   rw [<- f1]; simp only [zero, h0, if_false]
  simp only [execOp, hq, Instr.buildSlice, Sem.run_bind, run_underlying (EI hE h1 h2), Result.andThen_ok, hsz, hnot, if_false, Sem.run_pure, h0, hz1, e3, f1']
  simp [newRow, newObj, Sem.run]
 exact f5 i j x d v hx hd (by simpa using hv)
structure Tz (P : Program) (w : World) (sz m : Nat) (v : Value) (news : List Value) : Prop where
 len : ∀ w', (Builtin.lenOf v).run P w' = .ok m w'
 cells : (Builtin.firstCells sz m v).run P w = .ok news.toArray w
 cells' : (Builtin.firstCells sz m v).run P w.drew = .ok news.toArray w.drew
 length : news.length = m * sz
theorem LH {t ty e : TypeId} {te : TI} (hu : P.underlying t = some (.slice e)) (hok : Hz P e te) {ad : Addr} {len cap m : Nat} {vx : Value} {news : List Value} (hsrc : Tz P w te.size m vx news) (hroom : len + m <= cap)
  {w' : World} (hst : (storeCells (ad.add (len * te.size)) news 0).run P w = .ok () w') :
  (Builtin.append_ #[t, t] ty #[.slice (some ad) len cap, vx]).run P w = .ok (.slice (some ad) (len + m) cap) w' := by
 simp [Builtin.append_, run_underlying hu, hok.run_sizeOf, hsrc.len, hroom, hsrc.cells, hst]
theorem Q3 {t ty e : TypeId} {te : TI} (hu : P.underlying t = some (.slice e)) (hok : Hz P e te) {vx : Value} {news : List Value} (hsrc : Tz P w te.size 0 vx news) :
  (Builtin.append_ #[t, t] ty #[.slice none 0 0, vx]).run P w = .ok (.slice none 0 0) w := by
 simp [Builtin.append_, run_underlying hu, hok.run_sizeOf, hsrc.len, hsrc.cells]
theorem LI {t e : TypeId} {te : TI} (hu : P.underlying t = some (.slice e)) (hok : Hz P e te) {base : Option Addr} {len cap m : Nat} {olds : List Value}
  (hold : (Builtin.firstCells te.size len (.slice base len cap)).run P w.drew = .ok olds.toArray w.drew) {vx : Value} {news : List Value} (hsrc : Tz P w te.size m vx news)
  (hg : cap < len + m) (h63 : len + m <= maxLen) (hfit : (len + m) * te.bytes <= 140737488355328) :
  ∃ rest : Array Value, (∀ ty, (Builtin.append_ #[t, t] ty #[.slice base len cap, vx]).run P w = .ok (.slice (some ⟨w.heap.size, 0, none⟩) (len + m) (grownCap w (len + m) cap e))
    (w.drew.alloc (.cells (olds.toArray ++ news.toArray ++ rest) e))) /\ rest.size = (grownCap w (len + m) cap e - (len + m)) * te.size := by
 obtain ⟨i, z, hi, hsz, hby, hz, hzs, hm, _⟩ := hok.info
 refine ⟨Builtin.zeroCells z.cells (grownCap w (len + m) cap e - (len + m)), fun ty => ?_, by rw [size_zeroCells, hzs]⟩
 have hn : ¬ (len + m <= cap) := by omega
 have h63' : ¬ (9223372036854775807 < ((len : Int) + (m : Int))) := by simp only [maxLen] at h63; omega
 have h48 : Builtin.nextslicecap (len + m) cap * i.bytes <= 281474976710656 := growslice_fits hg (by rw [hby]; exact hfit)
 have h48' : ¬ (281474976710656 < Builtin.nextslicecap (len + m) cap * i.bytes) := by omega
 simp [Builtin.append_, run_underlying hu, sizeOf, typeInfo, zeroValue, hi, hz, hsrc.len, hn, h63', h48', Question.forced, newRow, grownCap, hsz, hold, hsrc.cells']
 congr 2; apply Array.ext'; simp
theorem ES {sz : Nat} {f : Nat -> Nat -> Value} : ∀ m : Nat, ((List.range m).flatMap fun i => (List.range sz).map (f i)).length = m * sz
 | 0 => by simp
 | m + 1 => by rw [List.range_succ, List.flatMap_append, List.length_append, ES m, Nat.add_mul]; simp
theorem NX {sz : Nat} {f : Nat -> Nat -> Value} : ∀ (m i j : Nat), i < m -> j < sz -> ((List.range m).flatMap fun i => (List.range sz).map (f i))[i * sz + j]? = some (f i j) := by
 intro m
 induction m with
 | zero => intro i j h; omega
 | succ m ih =>
  intro i j hi hj
  rw [List.range_succ, List.flatMap_append, List.getElem?_append, ES]
  by_cases h : i < m
  .rw [if_pos (by have : (i + 1) * sz <= m * sz := Nat.mul_le_mul_right _ h; rw [Nat.add_mul] at this; omega)]
   exact ih i j h hj
  have : i = m := by omega
  subst this
  rw [if_neg (by omega), show i * sz + j - i * sz = j by omega]
  simp [hj]
theorem T0 {sz : Nat} {f : Nat -> Nat -> Value} {m q : Nat} {u : Value} (hsz : 0 < sz) (h : ((List.range m).flatMap fun i => (List.range sz).map (f i))[q]? = some u) :
  q / sz < m /\ q % sz < sz /\ u = f (q / sz) (q % sz) := by
 have hq : q < m * sz := by have := (List.getElem?_eq_some_iff.1 h).1; rw [ES] at this; exact this
 have h1 : q / sz < m := Nat.div_lt_of_lt_mul (by rw [Nat.mul_comm]; exact hq)
 have h2 : q % sz < sz := Nat.mod_lt _ hsz
 have h3 := NX (f := f) m (q / sz) (q % sz) h1 h2
 rw [show q / sz * sz + q % sz = q by rw [Nat.mul_comm]; exact Nat.div_add_mod q sz] at h3
 rw [h] at h3; cases h3; exact ⟨h1, h2, rfl⟩
theorem T1 {b o cap sz : Nat} {l : List (List DV)} {f : Nat -> Nat -> Value} {v : Value} (hsz : 0 < sz)
  (hv : v = .slice (some ⟨b, o, none⟩) l.length cap)
  (hc : ∀ i j, i < l.length -> j < sz -> w.cell? ⟨b, o + i * sz + j, none⟩ = some (f i j)) :
  Tz P w sz l.length v ((List.range l.length).flatMap fun i => (List.range sz).map (f i)) := by
 have hcell : ∀ j u, ((List.range l.length).flatMap fun i => (List.range sz).map (f i))[j]? = some u -> w.cell? (Addr.add ⟨b, o, none⟩ j) = some u := by
  intro q u hq
  obtain ⟨h1, h2, h3⟩ := T0 hsz hq
  rw [Addr.add_lit, h3, <- hc _ _ h1 h2]
  congr 2
  have := Nat.div_add_mod q sz
  rw [Nat.mul_comm] at this; omega
 refine ⟨fun w' => by rw [hv]; rfl, ?_, ?_, ES _⟩
 .rw [hv]; exact run_firstCells_some (P := P) w sz l.length ⟨b, o, none⟩ l.length cap _ (ES _) hcell
 rw [hv]; exact run_firstCells_some (P := P) w.drew sz l.length ⟨b, o, none⟩ l.length cap _ (ES _) (by simpa using hcell)
theorem Yv {O : Nat -> Prop} {sz : Nat} {l : List (List DV)} {f : Nat -> Nat -> Value} (hsz : 0 < sz) (hone : ∀ y ∈ l, y.length = sz /\ y.all DV.cell = true)
  (hr : ∀ (i j : Nat) (x : List DV) (d : DV), l[i]? = some x -> x[j]? = some d -> As O w (f i j) d) :
  ∀ u ∈ ((List.range l.length).flatMap fun i => (List.range sz).map (f i)), u.oneCell' = true := by
 intro u hu
 obtain ⟨q, hq⟩ := List.mem_iff_getElem?.1 hu
 obtain ⟨h1, h2, rfl⟩ := T0 hsz hq
 have hx : l[q / sz]? = some l[q / sz] := by simp [h1]
 have := hone _ (List.mem_of_getElem? hx)
 have hd : (l[q / sz])[q % sz]? = some (l[q / sz][q % sz]'(by omega)) := List.getElem?_eq_getElem _
 exact ((hr _ _ _ _ hx hd).oneCell (List.all_eq_true.1 this.2 _ (List.mem_of_getElem? hd))).1
theorem AAB (sz : Nat) : Tz P w sz 0 (.slice none 0 0) [] := ⟨fun _ => rfl, by simp [Builtin.firstCells], by simp [Builtin.firstCells], by simp⟩
theorem WA (hh : HC A μ st F w) {v : Value} {x : LV} {sz : Nat} {new : List (List DV)} (hx : Aa (Af A μ st.heap) μ w v x) (hrow : L2 st.heap x = some new) (hsz : 0 < sz)
  (hone : ∀ y ∈ new, y.length = sz) :
  ∃ f : Nat -> Nat -> Value, Tz P w sz new.length v ((List.range new.length).flatMap fun i => (List.range sz).map (f i)) /\
   ∀ (i j : Nat) (y : List DV) (d : DV), new[i]? = some y -> y[j]? = some d -> As (Af A μ st.heap) w (f i j) d := by
 have nilCase : v = .slice none 0 0 -> new = [] -> ∃ f : Nat -> Nat -> Value, Tz P w sz new.length v ((List.range new.length).flatMap fun i => (List.range sz).map (f i)) /\
   ∀ (i j : Nat) (y : List DV) (d : DV), new[i]? = some y -> y[j]? = some d -> As (Af A μ st.heap) w (f i j) d := by
  rintro rfl rfl
  exact ⟨fun _ _ => undef, AAB sz, by simp⟩
 unfold L2 at hrow
 split at hrow
 .cases hrow; exact nilCase hx.nils_inv rfl
 .cases hrow
  have hp := hx.p_inv
  cases hp with
  | snil => exact nilCase rfl rfl
  | sempty ad =>
   refine ⟨fun _ _ => undef, ?_, by simp⟩
   simp only [List.length_nil, List.range_zero, List.flatMap_nil]
   refine ⟨fun _ => rfl, ?_, ?_, by simp⟩
   .have := run_firstCells_some (P := P) w sz 0 ad 0 0 [] (by simp) (by simp)
    simpa using this
   have := run_firstCells_some (P := P) w.drew sz 0 ad 0 0 [] (by simp) (by simp)
   simpa using this
  | slice b o cap sz' l cs hO hlt hl hcap hmx hc hr =>
   by_cases h0 : new = []
   .subst h0
    exact ⟨cs, T1 hsz rfl (by simp), by simp⟩
   obtain ⟨y, hy⟩ := List.exists_mem_of_ne_nil _ h0
   have e := hl y hy
   rw [hone y hy] at e
   subst e
   exact ⟨cs, T1 hsz rfl hc, hr⟩
 .rename_i id sz' off len
  split at hrow
  .rename_i e s elems hl
   split at hrow
   .rename_i hfit
    cases hrow
    cases hx with
    | lsln id loc hm hn =>
     exact nilCase rfl (by simp)
    | lsl id off len cap ad loc hm hn hcap hlc ha hbk hsp =>
     obtain ⟨loc', hm', hz, hlen, hrow⟩ := hh.obj id _ hl
     rw [hm] at hm'; cases hm'
     rcases hrow with ⟨hn', _⟩ | ⟨_, c, hb, hcs, hel, hcap', hrel⟩
     .rw [hn] at hn'; cases hn'
     have hl' : ((elems.drop off).take len).length = len := by simp; omega
     by_cases h0 : len = 0
     .subst h0
      refine ⟨fun _ _ => undef, ?_, by simp⟩
      simp only [List.take_zero, List.length_nil, List.range_zero, List.flatMap_nil]
      refine ⟨fun _ => rfl, ?_, ?_, by simp⟩
      .have := run_firstCells_some (P := P) w sz 0 ad 0 cap [] (by simp) (by simp)
       simpa using this
      have := run_firstCells_some (P := P) w.drew sz 0 ad 0 cap [] (by simp) (by simp)
      simpa using this
     have had := ha (by omega)
     have hsz' : loc.sz = sz := by
      have hmem : (elems.drop off)[0]? = some (elems[off]'(by omega)) := by simp
      have hy : (elems[off]'(by omega)) ∈ (elems.drop off).take len := by
       refine List.mem_of_getElem? (i := 0) ?_
       rw [List.getElem?_take, if_pos (by omega)]; exact hmem
      rw [hz, <- hlen _ (List.getElem_mem (show off < elems.length by omega)), hone _ hy]
     have hin : ∀ i j, i < len -> j < sz -> loc.o + (off + i) * sz + j < c.size := by
      intro i j hi hj
      have : (off + i + 1) * s <= loc.cap * s := Nat.mul_le_mul_right _ (by omega)
      rw [Nat.add_mul] at this
      rw [<- hz, hsz'] at this hcs; omega
     refine ⟨fun i j => c.getD (loc.o + (off + i) * sz + j) undef, T1 (b := loc.b) (o := loc.o + off * sz) (cap := cap) hsz ?_ (fun i j hi hj => ?_), fun i j x d hx hd => ?_⟩
     .rw [hl', had, hsz']
     .rw [hl'] at hi
      have := hin i j hi hj
      have e1 : loc.o + off * sz + i * sz + j = loc.o + (off + i) * sz + j := by rw [Nat.add_mul]; omega
      rw [e1]
      exact Ck hb (by simp [Array.getD, this])
     have hi : i < len := by have := (List.getElem?_eq_some_iff.1 hx).1; omega
     have hx' : elems[off + i]? = some x := by
      rw [List.getElem?_take, if_pos hi, List.getElem?_drop] at hx; exact hx
     have hj := (List.getElem?_eq_some_iff.1 hd).1
     have hxl := hlen x (List.mem_of_getElem? hx')
     have := hin i j hi (by rw [<- hsz', hz]; omega)
     refine hrel (off + i) j x d _ hx' hd ?_
     rw [<- hz, hsz']
     simp [Array.getD, this]
   cases hrow
  cases hrow
 cases hrow
theorem QE (hh : HC A μ st F w) {op : Op} {K : LV -> AP -> Nat -> Prop} {e sz n m cap : Nat} {rest : Array Value} {olds new : List (List DV)} {f g : Nat -> Nat -> Value} {h' : AP} (hsz : 0 < sz)
  (hrun : ∀ q : Oper, q.op = op -> (execOp a.eval q).run P w = .ok (.value (.slice (some ⟨w.heap.size, 0, none⟩) (n + m) cap))
   (w.drew.alloc (.cells (((List.range olds.length).flatMap fun i => (List.range sz).map (f i)).toArray ++ ((List.range new.length).flatMap fun i => (List.range sz).map (g i)).toArray ++ rest) e)))
  (hn : olds.length = n) (hm : new.length = m) (hrest : rest.size = (cap - (n + m)) * sz) (hnc : n + m <= cap) (hcap : cap <= maxLen)
  (hol : ∀ x ∈ olds, x.length = sz) (hnl : ∀ x ∈ new, x.length = sz)
  (hf : ∀ (i j : Nat) (y : List DV) (d : DV), olds[i]? = some y -> y[j]? = some d -> As (Af A μ st.heap) w (f i j) d)
  (hg : ∀ (i j : Nat) (y : List DV) (d : DV), new[i]? = some y -> y[j]? = some d -> As (Af A μ st.heap) w (g i j) d)
  (hsub : ∀ id x, AJ id h' = some x -> AJ id st.heap = some x)
  (hK : K (.lsl st.ctr sz 0 (n + m)) ((st.ctr, .row e sz (olds ++ new)) :: h') (st.ctr + 1)) : BI P A st a w op μ F K := by
 subst hn hm
 have hblk : ∀ cs : Array Value, ∀ b, b < w.heap.size -> (w.drew.alloc (.cells cs e)).heap[b]? = w.heap[b]? := fun cs b hb => Fo w.drew _ hb
 have hnew : ∀ cs : Array Value, (w.drew.alloc (.cells cs e)).heap[w.heap.size]? = some (.cells cs e (0, 0)) := fun cs => GW w.drew _
 refine BI.add hh (loc := ⟨false, w.heap.size, 0, sz, cap⟩) (o := .row e sz (olds ++ new)) hrun (fun _ => by simp) (fun _ => .inl (Nat.le_refl _)) (fun id x hx => ?_) ⟨by simp, fun b hb _ => hblk _ b hb⟩ (fun id x lc hx hne hm hn => ?_) rfl rfl rfl (fun O' hO => ?_) (fun O' => ?_) hK
 .simp only [AJ] at hx
  split at hx
  .cases hx; exact .inl ⟨‹_›, rfl⟩
  exact .inr (hsub _ _ hx)
 .simp only [AJ] at hx
  rw [if_neg hne] at hx
  exact hblk _ _ (hh.base id x lc (hsub _ _ hx) hm hn).1
 .refine ⟨rfl, fun x hx => ?_, .inr ⟨rfl, _, hnew _, ?_, by simpa using hnc, hcap, fun i j x d v hx hd hv => ?_⟩⟩
  .rcases List.mem_append.1 hx with hx | hx
   .exact hol x hx
   exact hnl x hx
  .simp only [Array.size_append, List.size_toArray, ES, hrest, <- Nat.add_mul, Nat.zero_add]
   congr 1; omega
  have hkept : BJ (Af A μ st.heap) w (w.drew.alloc (.cells (((List.range olds.length).flatMap fun i => (List.range sz).map (f i)).toArray ++ ((List.range new.length).flatMap fun i => (List.range sz).map (g i)).toArray ++ rest) e)) :=
   ⟨by simp, fun b hb _ => hblk _ b hb⟩
  simp only [Nat.zero_add, Array.append_assoc, Array.getElem?_append, List.size_toArray, ES, List.getElem?_toArray] at hv
  have hxl : x.length = sz := by
   rcases List.mem_append.1 (List.mem_of_getElem? hx) with hx | hx
   .exact hol x hx
   exact hnl x hx
  have hj : j < sz := by have := (List.getElem?_eq_some_iff.1 hd).1; omega
  rw [List.getElem?_append] at hx
  by_cases hi : i < olds.length
  .rw [if_pos hi] at hx
   rw [if_pos (by have : (i + 1) * sz <= olds.length * sz := Nat.mul_le_mul_right _ hi; rw [Nat.add_mul] at this; omega), NX _ _ _ hi hj] at hv
   cases hv
   exact (hf i j x d hx hd).mono hkept hO
  rw [if_neg hi] at hx
  have hi2 := (List.getElem?_eq_some_iff.1 hx).1
  have e1 : i * sz = olds.length * sz + (i - olds.length) * sz := by rw [<- Nat.add_mul]; congr 1; omega
  rw [if_neg (by omega), if_pos (by
   have : (i - olds.length + 1) * sz <= new.length * sz := Nat.mul_le_mul_right _ hi2
   rw [Nat.add_mul] at this; omega), show i * sz + j - olds.length * sz = (i - olds.length) * sz + j by omega, NX _ _ _ hi2 hj] at hv
  cases hv
  exact (hg _ j x d hx hd).mono hkept hO
 exact .lsl st.ctr 0 _ cap ⟨w.heap.size, 0, none⟩ ⟨false, w.heap.size, 0, sz, cap⟩ (by simp [Bn]) rfl (by simp) hnc (by simp) rfl rfl
theorem F7 {α : Type} {t t' : Nat} {l : List (Nat × α)} {x : α} (h : AJ t' (Gk t l) = some x) : t' ≠ t /\ AJ t' l = some x := by
 by_cases e : t' = t
 .subst e; rw [F8] at h; cases h
 rw [FN e] at h; exact ⟨e, h⟩
end
end Go.E
/- Maps: lookup, update, the entry for a key: in step. No condition. -/
namespace Go.E
open Go Go.RowKit
theorem AAR {a b : ByteArray} : (a.toList == b.toList) = true ↔ a = b := by
 rw [beq_iff_eq, ByteArray.toList_eq, ByteArray.toList_eq]
 constructor
 .intro h
  exact ByteArray.ext (Array.toList_inj.1 h)
 rintro rfl; rfl
theorem S1 {k : Sh} {a b : DV} (ha : CR k a = true) (hb : CR k b = true) : Dc a b = true ↔ a = b := by
 cases k <;> cases a <;> simp only [CR, Bool.false_eq_true] at ha <;> cases b <;> simp only [CR, Bool.false_eq_true] at hb
 .simp [Dc]
 .simp only [beq_iff_eq] at ha hb
  subst ha; subst hb
  simp [Dc]
 rw [Dc, AAR]; simp
theorem RV : ∀ {ks : List Sh} {a b : List DV}, fits ks a = true -> fits ks b = true -> (Bh a b = true ↔ a = b)
 | [], [], [], _, _ => by simp [Bh]
 | k :: ks, x :: a, y :: b, ha, hb => by
  simp only [fits, Bool.and_eq_true] at ha hb
  simp only [Bh, Bool.and_eq_true, List.cons.injEq, S1 ha.1 hb.1, RV ha.2 hb.2]
 | [], _ :: _, _, ha, _ => by simp [fits] at ha
 | [], [], _ :: _, _, hb => by simp [fits] at hb
 | _ :: _, [], _, ha, _ => by simp [fits] at ha
 | _ :: _, _ :: _, [], _, hb => by simp [fits] at hb
def keyV : DV -> Value
 | .agg ds => .agg (ds.map flatV).toArray
 | d => flatV d
section
variable {P : Program} {AD : A5} {kt : Nat}
theorem DB (hE : BC P AD) {d : DV} (h : BY AD kt d = true) :
  (∃ ks ds, d = .agg ds /\ RB P kt ks /\ AD.keyk kt = some ks /\ fits ks ds = true) \/ (∃ ti, (∀ ds, d ≠ .agg ds) /\ AD.tt kt = some ti /\ CR ti.sh d = true /\ Hz P kt ti) := by
 unfold BY at h
 split at h
 .split at h
  .rename_i ks hk
   exact .inl ⟨ks, _, rfl, hE.keyk _ _ hk, hk, h⟩
  cases h
 rename_i hne
 split at h
 .rename_i ti ht
  exact .inr ⟨ti, fun ds e => hne ds e, ht, h, hE.tt _ _ ht⟩
 cases h
theorem As.keyV {O : Nat -> Prop} {w : World} {v : Value} {d : DV} (hE : BC P AD) (h : As O w v d) (hf : BY AD kt d = true) : v = keyV d := by
 rcases DB hE hf with ⟨ks, ds, rfl, _, _, h2⟩ | ⟨ti, h1, _, h3, _⟩
 .exact h.agg_flat (MC h2)
 have := h.flatV (QG h3)
 rw [this]
 cases d <;> first | rfl | exact absurd rfl (h1 _)
theorem Qh (hE : BC P AD) {a b : DV} (ha : BY AD kt a = true) (hb : BY AD kt b = true) : DU a b = true ↔ a = b := by
 rcases DB hE ha with ⟨ks, ds, rfl, _, k1, h2⟩ | ⟨ti, h1, k1, h3, t1⟩ <;> rcases DB hE hb with ⟨ks', es, rfl, _, k1', h2'⟩ | ⟨ti', h1', k1', h3', t1'⟩
 .rw [k1] at k1'; cases k1'
  rw [DU, RV h2 h2']; simp
 .cases b <;> simp [DU] ; exact absurd rfl (h1' _)
 .cases a <;> simp [DU] ; exact absurd rfl (h1 _)
 rw [k1] at k1'; cases k1'
 have : DU a b = Dc a b := by
  cases a <;> first | exact absurd rfl (h1 _) | (cases b <;> first | exact absurd rfl (h1' _) | rfl)
 rw [this]; exact S1 h3 h3'
theorem Eo (hE : BC P AD) {d : DV} (h : BY AD kt d = true) (em : Bool) (w : World) : (Instr.checkKey em 10000 kt (keyV d)).run P w = .ok () w := by
 rcases DB hE h with ⟨ks, ds, rfl, ⟨_, _, hk⟩, _, h2⟩ | ⟨ti, h1, _, h3, t1⟩
 .exact hk em w ds h2
 have hsh := t1.sh
 show (Instr.checkKey em (9999 + 1) kt _).run P w = _
 unfold Instr.checkKey
 generalize hq : ti.sh = q at h3 hsh
 cases q <;> cases d <;> simp only [CR, Bool.false_eq_true] at h3 <;> simp only [Sem.run_bind, run_underlying hsh, Result.andThen_ok, Sem.run_pure]
def Dw (k : DV) : List (DV × DV) -> List MapEntry -> Nat -> Option (Nat × Value)
 | p :: m, e :: es, i => if DU k p.1 then some (i, e.val) else Dw k m es (i + 1)
 | _, _, _ => none
theorem M3 (hE : BC P AD) {ks : List Sh} {ds : List DV} (hk : RB P kt ks) (hkk : AD.keyk kt = some ks) (hd : fits ks ds = true) (w : World) : ∀ (m : List (DV × DV)) (es : List MapEntry) (i : Nat), es.length = m.length ->
  (∀ (j : Nat) (e : MapEntry) (p : DV × DV), es[j]? = some e -> m[j]? = some p -> e.key = keyV p.1) -> (m.all fun p => BY AD kt p.1) = true ->
  (Instr.findAsking kt (keyV (.agg ds)) es i).run P w = .ok (Dw (.agg ds) m es i) w
 | [], [], i, _, _, _ => by simp [Instr.findAsking, Dw]
 | p :: m, e :: es, i, hl, hr, hm => by
  simp only [List.all_cons, Bool.and_eq_true] at hm
  have he := hr 0 e p rfl rfl
  rcases DB hE hm.1 with ⟨ks', es', hp, _, k1, h2⟩ | ⟨ti, h1, k1, h3, t1⟩
  .rw [hkk] at k1; cases k1
   have heq : (Op.equal kt (keyV (.agg ds)) e.key).run P w = .ok (Bh ds es') w := by rw [he, hp]; exact hk.1.2 w ds es' hd h2
   have hke : DU (.agg ds) p.1 = Bh ds es' := by rw [hp]; rfl
   simp only [Instr.findAsking, Sem.run_bind, heq, Result.andThen_ok, Dw, hke]
   cases hc : Bh ds es' with
   | true => simp
   | false =>
    simp only [Bool.false_eq_true, if_false]
    exact M3 hE hk hkk hd w m es (i + 1) (by simpa using hl) (fun j e p h1 h2 => hr (j + 1) e p (by simpa using h1) (by simpa using h2)) hm.2
  have hu := hk.2.1
  have hsh := t1.sh
  generalize hq : ti.sh = q at h3 hsh
  cases q <;> (first | (simp only [G7] at hsh; rw [hsh] at hu; exact hu.elim) | (cases hp : p.1 <;> rw [hp] at h3 <;> simp [CR] at h3))
 | [], _ :: _, _, hl, _, _ => by simp at hl
 | _ :: _, [], _, hl, _, _ => by simp at hl
theorem RW (hE : BC P AD) {ti : TI} {d : DV} {desc : TypeDesc} (hne : ∀ ds, d ≠ .agg ds) (ht : AD.tt kt = some ti) (hd : CR ti.sh d = true) (hu : P.underlying kt = some desc) : ∀ (m : List (DV × DV)) (es : List MapEntry) (i : Nat), es.length = m.length ->
  (∀ (j : Nat) (e : MapEntry) (p : DV × DV), es[j]? = some e -> m[j]? = some p -> e.key = keyV p.1) -> (m.all fun p => BY AD kt p.1) = true ->
  Instr.findNow desc (keyV d) es i = some (Dw d m es i)
 | [], [], i, _, _, _ => by simp [Instr.findNow, Dw]
 | p :: m, e :: es, i, hl, hr, hm => by
  simp only [List.all_cons, Bool.and_eq_true] at hm
  have he := hr 0 e p rfl rfl
  have ih := RW hE hne ht hd hu m es (i + 1) (by simpa using hl) (fun j e p h1 h2 => hr (j + 1) e p (by simpa using h1) (by simpa using h2)) hm.2
  have hsh := (hE.tt _ _ ht).sh
  rcases DB hE hm.1 with ⟨ks', es', hp, hko, k1, h2⟩ | ⟨ti', h1, k1, h3, t1⟩
  .exfalso
   have hu' := hko.2.1
   generalize hq : ti.sh = q at hd hsh
   cases q <;> (first | (simp only [G7] at hsh; rw [hsh] at hu'; exact hu'.elim) | (cases d <;> simp [CR] at hd))
  rw [ht] at k1; cases k1
  have hsame : Instr.sameNow desc (keyV d) e.key = some (DU d p.1) := by
   rw [he]
   generalize hq : ti.sh = q at hd h3 hsh
   generalize hp1 : p.1 = pk at h3
   cases q <;> cases d <;> simp only [CR, Bool.false_eq_true] at hd <;> cases pk <;> simp only [CR, Bool.false_eq_true] at h3 <;> simp only [G7] at hsh <;> rw [hu] at hsh <;> cases hsh
   .rfl
   .simp only [beq_iff_eq] at hd h3
    subst hd; subst h3
    simp [keyV, flatV, Instr.sameNow, DU, Dc]
   simp only [keyV, flatV, Instr.sameNow, DU, Dc, beq_toListBytes]
  simp only [Instr.findNow, hsame, Dw]
  cases DU d p.1 with
  | true => simp
  | false => simpa using ih
 | [], _ :: _, _, hl, _, _ => by simp at hl
 | _ :: _, [], _, hl, _, _ => by simp at hl
theorem Nx (hE : BC P AD) {d : DV} (hd : BY AD kt d = true) (w : World) (m : List (DV × DV)) (es : List MapEntry) (hl : es.length = m.length)
  (hr : ∀ (j : Nat) (e : MapEntry) (p : DV × DV), es[j]? = some e -> m[j]? = some p -> e.key = keyV p.1) (hm : (m.all fun p => BY AD kt p.1) = true) :
  (Instr.findKey kt (keyV d) es).run P w = .ok (Dw d m es 0) w := by
 rcases DB hE hd with ⟨ks, ds, rfl, hk, k1, h2⟩ | ⟨ti, h1, k1, h3, t1⟩
 .have hu := hk.2.1
  cases hud : P.underlying kt with
  | none => rw [hud] at hu; exact hu.elim
  | some desc =>
   unfold Instr.findKey
   simp only [Sem.run_bind, run_underlying hud, Result.andThen_ok]
   cases hf : Instr.findNow desc (keyV (.agg ds)) es 0 with
   | some r =>
    simp only [Sem.run_pure]
    cases es with
    | nil => cases m with
     | nil => simp [Instr.findNow] at hf; subst hf; simp [Dw]
     | cons => simp at hl
    | cons e es =>
     rw [hud] at hu
     cases desc <;> simp only at hu <;> simp [Instr.findNow, Instr.sameNow] at hf
   | none => exact M3 hE hk k1 h2 w m es 0 hl hr hm
 obtain ⟨desc, hu⟩ : ∃ desc, P.underlying kt = some desc := by obtain ⟨d, h, _⟩ := t1.sh.und; exact ⟨d, h⟩
 have := RW hE h1 k1 h3 hu m es 0 hl hr hm
 unfold Instr.findKey
 simp only [Sem.run_bind, run_underlying hu, Result.andThen_ok, this, Sem.run_pure]
theorem GF (d : DV) : ∀ (m : List (DV × DV)) (es : List MapEntry) (i : Nat), es.length = m.length ->
  (CU d m = none /\ Dw d m es i = none) \/ ∃ j e p, es[j]? = some e /\ m[j]? = some p /\ CU d m = some (j, p.2) /\ Dw d m es i = some (i + j, e.val) /\ DU d p.1 = true
 | [], [], _, _ => .inl ⟨rfl, rfl⟩
 | p :: m, e :: es, i, hl => by
  simp only [CU, Dw]
  by_cases hk : DU d p.1 = true
  .rw [if_pos hk, if_pos hk]
   exact .inr ⟨0, e, p, rfl, rfl, rfl, rfl, hk⟩
  rw [if_neg hk, if_neg hk]
  rcases GF d m es (i + 1) (by simpa using hl) with ⟨h1, h2⟩ | ⟨j, e', p', h1, h2, h3, h4, h5⟩
  .exact .inl ⟨by rw [h1]; rfl, h2⟩
  refine .inr ⟨j + 1, e', p', by simpa using h1, by simpa using h2, by rw [h3]; rfl, by rw [h4]; simp; omega, h5⟩
 | [], _ :: _, _, hl => by simp at hl
 | _ :: _, [], _, hl => by simp at hl
end
end Go.E
/- Maps, the operations: in step. No condition. -/
namespace Go.E
open Go Go.RowKit
section
variable {P : Program} {AD : A5} {A : BD} {F : Nat -> Prop} {μ : Nat -> Option BQ} {st : St} {a : Act} {w : World}
theorem Hi {r : Nat} {es : Array MapEntry} {clock : Nat} (hb : w.heap[r]? = some (.map es clock)) : (getObj r).run P w = .ok (.map es clock) w := by simp [getObj, Sem.run, hb]
theorem Ji {r : Nat} {es : Array MapEntry} {clock : Nat} (o : Obj) (hb : w.heap[r]? = some (.map es clock)) : (setObj r o).run P w = .ok () { w with heap := w.heap.setIfInBounds r o } := by simp [setObj, Sem.run, hb]
structure ACU (O : Nat -> Prop) (w : World) (v : Value) (m : List (DV × DV)) (es : Array MapEntry) : Prop where
 at_ : (v = .map none /\ es = #[]) \/ ∃ b clock, v = .map (some b) /\ w.heap[b]? = some (.map es clock)
 size : es.size = m.length
 key : ∀ (i : Nat) (e : MapEntry) (p : DV × DV), es[i]? = some e -> m[i]? = some p -> As O w e.key p.1
 val : ∀ (i : Nat) (e : MapEntry) (p : DV × DV), es[i]? = some e -> m[i]? = some p -> As O w e.val p.2
theorem AAS (hh : HRel A μ st.heap F w) {v : Value} {x : LV} {m : List (DV × DV)} (hv : Aa (Af A μ st.heap) μ w v x) (hm : K1 st.heap x = some m) : ∃ es, ACU (Af A μ st.heap) w v m es := by
 unfold K1 at hm
 split at hm
 .cases hm
  have := hv.p_inv
  cases this
  exact ⟨#[], .inl ⟨rfl, rfl⟩, rfl, by simp, by simp⟩
 .cases hm
  have := hv.p_inv
  cases this with
  | mnil => exact ⟨#[], .inl ⟨rfl, rfl⟩, rfl, by simp, by simp⟩
  | map b es clock _ hO hlt hb hsz _ hk hvv => exact ⟨es, .inr ⟨b, clock, rfl, hb⟩, hsz, hk, hvv⟩
 .rename_i id
  split at hm
  .rename_i m' hx
   cases hm
   cases hv with
   | lmap _ loc hmu hn =>
    obtain ⟨loc', hm', _, es, hb, hsz, _, hrel⟩ := hh.obj id _ hx
    rw [hmu] at hm'; cases hm'
    exact ⟨es, .inr ⟨loc.b, es.size, rfl, hb⟩, hsz, fun i e p h1 h2 => (hrel i e p h1 h2).1, fun i e p h1 h2 => (hrel i e p h1 h2).2⟩
  cases hm
 cases hm
theorem PC {t : Nat} {ti : TI} {kt et : Nat} (hE : BC P AD) (h1 : AD.tt t = some ti) (h2 : ti.sh = .mp kt et) : P.underlying t = some (.map kt et) := by
 have := (hE.tt t ti h1).sh; rw [h2] at this; exact this
theorem Pw (hE : BC P AD) {O : Nat -> Prop} {m : List (DV × DV)} {es : Array MapEntry} {kt : Nat} (hk : ∀ (i : Nat) (e : MapEntry) (p : DV × DV), es[i]? = some e -> m[i]? = some p -> As O w e.key p.1)
  (hall : (m.all fun p => BY AD kt p.1) = true) : ∀ (j : Nat) (e : MapEntry) (p : DV × DV), es.toList[j]? = some e -> m[j]? = some p -> e.key = keyV p.1 := fun j e p h1 h2 =>
 (hk j e p (by simpa using h1) h2).keyV hE (List.all_eq_true.1 hall p (List.mem_of_getElem? h2))
theorem T3 (hE : BC P AD) (hs : ∀ x, Aa (Af A μ st.heap) μ w (a.eval x) (st.eval x)) (hh : HC A μ st F w) {t : Nat} {x i : Operand} {ok : Bool} {K : LV -> AP -> Nat -> Prop}
  (h : Ms AD st.heap t (st.eval x) (st.eval i) ok fun r => K r st.heap st.ctr) : BI P A st a w (.lookup t x i ok) μ F K := by
 obtain ⟨ti, kt, et, te, m, kd, h1, h2, h3, h4, h5, h6, h7, h8⟩ := h
 obtain ⟨es, hsrc⟩ := AAS hh.toHRel (hs x) h4
 have hu := PC hE h1 h2
 have hi := hs i
 rw [h5] at hi
 have hkey := hi.p_inv.keyV hE h6
 have hfind := Nx hE h6 w m es.toList (by simpa using hsrc.size) (Pw hE hsrc.key h7) h7
 obtain ⟨z, hz, hzr0⟩ := (hE.tt et te h3).run_zeroDV w
 have hzr : ∀ O w', As O w' z (zV AD te) := fun O w' => AA4 (hzr0 O w')
 have fin : ∀ (u : Value) (r : LV), K r st.heap st.ctr -> Aa (Af A μ st.heap) μ w u r -> (Instr.lookup t (a.eval x) (a.eval i) ok).run P w = .ok u w -> BI P A st a w (.lookup t x i ok) μ F K := by
  intro u r hk hr hrun
  refine ⟨r, _, _, u, w, μ, hk, ⟨Nat.le_refl _, hh.toHRel.less fun _ h => h.1⟩, hr, fun _ _ h => h, fun q hq => .inl ?_⟩
  simp [execOp, hq, hrun]
 have run : ∀ v b, (Instr.findKey kt (keyV kd) es.toList).run P w = .ok (some v) w -> b = true -> (Instr.lookup t (a.eval x) (a.eval i) ok).run P w = .ok (if ok then .tuple #[v.2, .bool b] else v.2) w := by
  intro v b hf hb
  subst hb
  unfold Instr.lookup
  rw [hkey]
  rcases hsrc.at_ with ⟨e1, e2⟩ | ⟨b, clock, e1, e2⟩
  .subst e2
   simp only [Sem.run_bind, run_underlying hu, Result.andThen_ok, e1, Sem.run_pure, Eo hE h6, hf]
  simp only [Sem.run_bind, run_underlying hu, Result.andThen_ok, e1, Hi e2, Sem.run_pure, Eo hE h6, hf]
 have runN : (Instr.findKey kt (keyV kd) es.toList).run P w = .ok none w -> (Instr.lookup t (a.eval x) (a.eval i) ok).run P w = .ok (if ok then .tuple #[z, .bool false] else z) w := by
  intro hf
  unfold Instr.lookup
  rw [hkey]
  rcases hsrc.at_ with ⟨e1, e2⟩ | ⟨b, clock, e1, e2⟩
  .subst e2
   simp only [Sem.run_bind, run_underlying hu, Result.andThen_ok, e1, Sem.run_pure, Eo hE h6, hf, hz]
  simp only [Sem.run_bind, run_underlying hu, Result.andThen_ok, e1, Hi e2, Sem.run_pure, Eo hE h6, hf, hz]
 have tup : ∀ (v : Value) (d : DV) (b : Bool), As (Af A μ st.heap) w v d -> Aa (Af A μ st.heap) μ w (.tuple #[v, .bool b]) (.tup [.p d, .p (.bool b)]) := by
  intro v d b hv
  refine .tup _ _ rfl fun j u l h1 h2 => ?_
  match j with
  | 0 => simp at h1 h2; subst h1 h2; exact .p _ _ hv
  | 1 => simp at h1 h2; subst h1 h2; exact .p _ _ (.bool _)
  | j + 2 => simp at h2
 rcases GF kd m es.toList 0 (by simpa using hsrc.size) with ⟨g1, g2⟩ | ⟨j, e, p, g1, g2, g3, g4, g5⟩
 .rw [g2] at hfind
  have hg : FT kd m = none := by simp [FT, g1]
  rw [hg] at h8
  simp only [Option.getD_none, Option.isSome_none] at h8
  cases ok with
  | true => exact fin _ _ (by simpa using h8) (tup z _ false (hzr _ w)) (by simpa using runN hfind)
  | false => exact fin _ _ (by simpa using h8) (.p _ _ (hzr _ w)) (by simpa using runN hfind)
 rw [g4] at hfind
 have hg : FT kd m = some p.2 := by simp [FT, g3]
 rw [hg] at h8
 simp only [Option.getD_some, Option.isSome_some] at h8
 have hv := hsrc.val j e p (by simpa using g1) g2
 cases ok with
 | true => exact fin _ _ (by simpa using h8) (tup _ _ true hv) (by simpa using run _ true hfind rfl)
 | false => exact fin _ _ (by simpa using h8) (.p _ _ hv) (by simpa using run _ true hfind rfl)
theorem T6 {es : Array MapEntry} (h : ∀ (i : Nat) (e : MapEntry), es[i]? = some e -> e.born = i) : (es.toList.map (·.born)).Nodup /\ ∀ e ∈ es.toList, e.born < es.size := by
 constructor
 .unfold List.Nodup
  rw [List.pairwise_map, List.pairwise_iff_getElem]
  intro i j hi hj hij
  have h1 := h i (es.toList[i]) (by simp)
  have h2 := h j (es.toList[j]) (by simp)
  omega
 intro e he
 obtain ⟨i, hi, rfl⟩ := List.mem_iff_getElem.1 he
 have h1 := h i (es.toList[i]) (by simp)
 simp at hi; omega
theorem BI.wrow (hh : HC A μ st F w) {op : Op} {K : LV -> AP -> Nat -> Prop} {id : Nat} {x o : BB} {loc : BQ} (hx : AJ id st.heap = some x) (hm : μ id = some loc) (hn : loc.nil = false) {cs : Array Value} {u : Value} {l : LV}
  (hrun : ∀ q : Oper, q.op = op -> (execOp a.eval q).run P w = .ok (.value u) (w.setRow loc.b cs))
  (ho : BJ (Af A μ st.heap) w (w.setRow loc.b cs) -> Cv (Af A μ st.heap) μ (w.setRow loc.b cs) loc o)
  (hl : ∀ {O w}, Aa O μ w u l) (hk : K l (BR id o st.heap) st.ctr) : BI P A st a w op μ F K := by
 have hkm : BJ (Bm μ st.heap) w (w.setRow loc.b cs) := ⟨by simp, fun b _ hb => FO (fun e => hb ⟨id, x, loc, hx, hm, hn, e.symm⟩) _⟩
 have hO := LD (A := A) (μ := μ) (o := o) hx
 have ho' : Cv (Af A μ (BR id o st.heap)) μ (w.setRow loc.b cs) loc o := (ho hkm.own).mono (BJ.refl _ _) (fun b _ hb => hO b hb) (fun _ _ h => h) (fun _ => rfl)
 obtain ⟨h1, h2, h3⟩ := hh.write (w' := w.setRow loc.b cs) hx hm hn (by simp) (fun b hb => FO hb _) rfl rfl rfl ho'
 exact ⟨l, _, _, u, _, μ, hk, ⟨Nat.le_refl _, h1.less fun _ h => h.1⟩, hl, fun v x hv => hv.mono hkm.own (fun b _ hb => h3 b hb) (fun _ _ h => h), fun q hq => .inl (hrun q hq)⟩
theorem BI.wmap (hh : HC A μ st F w) {op : Op} {K : LV -> AP -> Nat -> Prop} {id : Nat} {m m' : List (DV × DV)} {loc : BQ} (hx : AJ id st.heap = some (.map m)) (hm : μ id = some loc) (hn : loc.nil = false) {es' : Array MapEntry} {u : Value} {l : LV}
  (hrun : ∀ q : Oper, q.op = op -> (execOp a.eval q).run P w = .ok (.value u) { w with heap := w.heap.setIfInBounds loc.b (.map es' es'.size) } \/ ((execOp a.eval q).run P w = .ok .skip { w with heap := w.heap.setIfInBounds loc.b (.map es' es'.size) } /\ u = undef))
  (hsz : es'.size = m'.length) (hborn : ∀ (i : Nat) (e : MapEntry), es'[i]? = some e -> e.born = i)
  (hrel : ∀ (i : Nat) (e : MapEntry) (p : DV × DV), es'[i]? = some e -> m'[i]? = some p -> As (Af A μ st.heap) w e.key p.1 /\ As (Af A μ st.heap) w e.val p.2)
  (hl : Aa (Af A μ st.heap) μ w u l) (hk : K l (BR id (.map m') st.heap) st.ctr) : BI P A st a w op μ F K := by
 let w' : World := { w with heap := w.heap.setIfInBounds loc.b (.map es' es'.size) }
 have hblk : ∀ b, b ≠ loc.b -> w'.heap[b]? = w.heap[b]? := fun b hb => Array.getElem?_setIfInBounds_ne (Ne.symm hb)
 have hlt := (hh.base id _ loc hx hm hn).1
 have hkm : BJ (Bm μ st.heap) w w' := ⟨by simp [w'], fun b _ hb => hblk b (fun e => hb ⟨id, _, loc, hx, hm, hn, e.symm⟩)⟩
 have hO := LD (A := A) (μ := μ) (o := .map m') hx
 have mono : ∀ {v : Value} {d : DV}, As (Af A μ st.heap) w v d -> As (Af A μ (BR id (.map m') st.heap)) w' v d := fun hp => hp.mono hkm.own (fun b _ hb => hO b hb)
 have ho : Cv (Af A μ (BR id (.map m') st.heap)) μ w' loc (.map m') :=
  ⟨hn, es', by simp [w', Array.getElem?_setIfInBounds, hlt], hsz, hborn, fun i e p h1 h2 => ⟨mono (hrel i e p h1 h2).1, mono (hrel i e p h1 h2).2⟩⟩
 obtain ⟨h1, h2, h3⟩ := hh.toHRel.write (w' := w') hx hm hn (by simp [w']) hblk rfl rfl rfl ho
 exact ⟨l, _, _, u, _, μ, hk, ⟨Nat.le_refl _, h1.less fun _ h => h.1⟩, hl.mono hkm.own (fun b _ hb => h3 b hb) (fun _ _ h => h), fun v x hv => hv.mono hkm.own (fun b _ hb => h3 b hb) (fun _ _ h => h), fun q hq => hrun q hq⟩
theorem Wh (hE : BC P AD) {kt : Nat} {k k' : DV} (h1 : BY AD kt k = true) (h2 : BY AD kt k' = true) (he : DU k k' = true) : (Instr.keyThatStays (keyV k') (keyV k)).run P w = .ok (keyV k) w := by
 have := (Qh hE h1 h2).1 he
 subst this
 have same1 : ∀ (n : Nat) (k : Sh) (d : DV), CR k d = true -> Instr.sameBits n (flatV d) (flatV d) = true := by
  intro n k d hd
  cases k <;> cases n <;> cases d <;> simp [CR] at hd <;> simp [flatV, Instr.sameBits, beq_toListBytes]
 have mem : ∀ (ks : List Sh) (ds : List DV), fits ks ds = true -> ∀ d ∈ ds, ∃ k, CR k d = true := by
  intro ks
  induction ks with
  | nil => intro ds h d hd; cases ds <;> simp [fits] at h hd
  | cons k ks ih =>
   intro ds h d hd
   cases ds with
   | nil => simp [fits] at h
   | cons x ds =>
    simp only [fits, Bool.and_eq_true] at h
    rcases List.mem_cons.1 hd with rfl | hd
    .exact ⟨k, h.1⟩
    exact ih ds h.2 d hd
 have same : Instr.sameBits 10000 (keyV k) (keyV k) = true := by
  rcases DB hE h1 with ⟨ks, ds, rfl, _, _, hf⟩ | ⟨ti, hne, _, h3, _⟩
  .show Instr.sameBits (9999 + 1) (.agg _) (.agg _) = true
   unfold Instr.sameBits
   simp only [beq_self_eq_true, Bool.true_and]
   rw [List.all_eq_true]
   rintro ⟨p, q⟩ hpq
   rw [List.mem_iff_getElem?] at hpq
   obtain ⟨i, hi⟩ := hpq
   rw [List.getElem?_zip_eq_some] at hi
   obtain ⟨a1, a2⟩ := hi
   simp only at a1 a2
   rw [a1] at a2; cases a2
   simp only [List.getElem?_map, Option.map_eq_some_iff] at a1
   obtain ⟨d, hd, rfl⟩ := a1
   obtain ⟨k, hk⟩ := mem ks ds hf d (List.mem_of_getElem? hd)
   exact same1 9999 k d hk
  have : keyV k = flatV k := by cases k <;> first | rfl | exact absurd rfl (hne _)
  rw [this]; exact same1 _ _ _ h3
 unfold Instr.keyThatStays
 rw [same]; simp
theorem PD (k v : DV) : ∀ m : List (DV × DV), (CU k m = none -> MY k v m = m ++ [(k, v)]) /\ ∀ j d, CU k m = some (j, d) -> ∃ p, m[j]? = some p /\ MY k v m = m.set j (p.1, v) /\ d = p.2 /\ DU k p.1 = true
 | [] => ⟨fun _ => rfl, by simp [CU]⟩
 | p :: m => by
  obtain ⟨h1, h2⟩ := PD k v m
  simp only [CU, MY]
  by_cases hk : DU k p.1 = true
  .rw [if_pos hk, if_pos hk]
   refine ⟨by simp, fun j d hj => ?_⟩
   simp only [Option.some.injEq, Prod.mk.injEq] at hj
   obtain ⟨rfl, rfl⟩ := hj
   exact ⟨p, rfl, rfl, rfl, hk⟩
  rw [if_neg hk, if_neg hk]
  refine ⟨fun h => by rw [h1 (by simpa using h)]; rfl, fun j d hj => ?_⟩
  simp only [Option.map_eq_some_iff] at hj
  obtain ⟨⟨j', d'⟩, h3, h4⟩ := hj
  simp only [Prod.mk.injEq] at h4
  obtain ⟨rfl, rfl⟩ := h4
  obtain ⟨q, a1, a2, a3, a4⟩ := h2 j' d' h3
  exact ⟨q, by simpa using a1, by rw [a2]; rfl, a3, a4⟩
theorem T4 (hE : BC P AD) (hs : ∀ x, Aa (Af A μ st.heap) μ w (a.eval x) (st.eval x)) (hh : HC A μ st F w) {t : Nat} {x i v : Operand} {K : LV -> AP -> Nat -> Prop}
  (h : Mt AD st.heap t (st.eval x) (st.eval i) (st.eval v) fun h => K .any h st.ctr) : BI P A st a w (.mapUpdate t x i v) μ F K := by
 obtain ⟨ti, kt, et, id, m, kd, vd, h1, h2, h3, h4, h5, h6, h7, h8, h9⟩ := h
 have hu := PC hE h1 h2
 have hx := hs x
 have hi := hs i
 have hv := hs v
 rw [h3] at hx; rw [h5] at hi; rw [h6] at hv
 generalize hax : a.eval x = vx at hx
 cases hx with
 | lmap _ loc hm hn =>
  obtain ⟨loc', hm', _, es, hb, hsz, hborn, hrel⟩ := hh.obj id _ h4
  rw [hm] at hm'; cases hm'
  have hkey := hi.p_inv.keyV hE h7
  have hkeys := Pw hE (fun i e p h1 h2 => (hrel i e p h1 h2).1) h8
  have hfind := Nx hE h7 w m es.toList (by simpa using hsz) hkeys h8
  rcases GF kd m es.toList 0 (by simpa using hsz) with ⟨g1, g2⟩ | ⟨j, e, p, g1, g2, g3, g4, g5⟩
  .rw [g2] at hfind
   rw [(PD kd vd m).1 g1] at h9
   refine BI.wmap hh (es' := es.push { key := keyV kd, val := a.eval v, born := es.size }) (u := undef) (l := .any) h4 hm hn (fun q hq => .inr ⟨?_, rfl⟩) (by simp [hsz]) (fun i e he => ?_) (fun i e p he hp => ?_) (.any _) h9
   .simp only [execOp, hq, Sem.run_bind, hax]
    have : (Instr.mapUpdate t (.map (some loc.b)) (a.eval i) (a.eval v)).run P w = .ok () { w with heap := w.heap.setIfInBounds loc.b (.map (es.push { key := keyV kd, val := a.eval v, born := es.size }) (es.size + 1)) } := by
     unfold Instr.mapUpdate
     rw [hkey]
     simp only [Sem.run_bind, run_underlying hu, Result.andThen_ok, Hi hb, Eo hE h7, hfind, Ji _ hb]
    rw [this]; simp
   .rw [Array.getElem?_push] at he
    split at he
    .cases he; subst_vars; rfl
    exact hborn i e he
   rw [Array.getElem?_push] at he
   rw [List.getElem?_append] at hp
   split at he
   .cases he; subst_vars
    rw [if_neg (by omega), hsz] at hp
    simp at hp; subst hp
    exact ⟨by rw [<- hkey]; exact hi.p_inv, hv.p_inv⟩
   have hlt := (Array.getElem?_eq_some_iff.1 he).1
   rw [if_pos (by omega)] at hp
   exact hrel i e p he hp
  rw [g4] at hfind
  obtain ⟨p', k1, k2, k3, k4⟩ := (PD kd vd m).2 j p.2 g3
  rw [g2] at k1; cases k1
  rw [k2] at h9
  have hej : es[j]? = some e := by simpa using g1
  have hjlt := (Array.getElem?_eq_some_iff.1 hej).1
  have hfit := List.all_eq_true.1 h8 p (List.mem_of_getElem? g2)
  have hkd := (Qh hE h7 hfit).1 g5
  refine BI.wmap hh (es' := es.modify j fun e => { e with key := keyV kd, val := a.eval v }) (u := undef) (l := .any) h4 hm hn (fun q hq => .inr ⟨?_, rfl⟩) (by simp [hsz]) (fun i e he => ?_) (fun i e' p' he hp => ?_) (.any _) h9
  .simp only [execOp, hq, Sem.run_bind, hax]
   have : (Instr.mapUpdate t (.map (some loc.b)) (a.eval i) (a.eval v)).run P w = .ok () { w with heap := w.heap.setIfInBounds loc.b (.map (es.modify j fun e => { e with key := keyV kd, val := a.eval v }) es.size) } := by
    unfold Instr.mapUpdate
    rw [hkey]
    simp only [Sem.run_bind, run_underlying hu, Result.andThen_ok, Hi hb, Eo hE h7, hfind, Nat.zero_add, hej, Option.map_some, Option.getD_some]
    rw [hkeys j e p g1 g2, Wh hE h7 hfit g5]
    simp only [Result.andThen_ok, Ji _ hb]
   rw [this]; simp
  .rw [Array.getElem?_modify] at he
   split at he
   .simp only [Option.map_eq_some_iff] at he
    obtain ⟨e0, a1, rfl⟩ := he
    exact hborn i e0 a1
   exact hborn i e he
  rw [Array.getElem?_modify] at he
  rw [List.getElem?_set] at hp
  split at he
  .rename_i hji; subst hji
   simp only [Option.map_eq_some_iff] at he
   obtain ⟨e0, a1, rfl⟩ := he
   rw [if_pos rfl] at hp
   simp only [show j < m.length by omega, if_true, Option.some.injEq] at hp
   subst hp
   exact ⟨by rw [<- hkd, <- hkey]; exact hi.p_inv, hv.p_inv⟩
  rename_i hne
  rw [if_neg hne] at hp
  exact hrel i e' p' he hp
theorem BI.wmapd (hh : HC A μ st F w) {op : Op} {K : LV -> AP -> Nat -> Prop} {id : Nat} {m m' : List (DV × DV)} {loc : BQ} (hx : AJ id st.heap = some (.map m)) (hm : μ id = some loc) (hn : loc.nil = false) {es' : Array MapEntry} {clock' : Nat} {u : Value} {l : LV}
  (hrun : ∀ q : Oper, q.op = op -> (execOp a.eval q).run P w = .ok (.value u) { w with heap := w.heap.setIfInBounds loc.b (.map es' clock') } \/ ((execOp a.eval q).run P w = .ok .skip { w with heap := w.heap.setIfInBounds loc.b (.map es' clock') } /\ u = undef))
  (hsz : es'.size = m'.length) (hborn : (es'.toList.map (·.born)).Nodup /\ ∀ e ∈ es'.toList, e.born < clock')
  (hrel : ∀ (i : Nat) (e : MapEntry) (p : DV × DV), es'[i]? = some e -> m'[i]? = some p -> As (Af A μ st.heap) w e.key p.1 /\ As (Af A μ st.heap) w e.val p.2)
  (hl : Aa (Af A μ st.heap) μ w u l) (hk : K l (BR id (.mapd m') st.heap) st.ctr) : BI P A st a w op μ F K := by
 let w' : World := { w with heap := w.heap.setIfInBounds loc.b (.map es' clock') }
 have hblk : ∀ b, b ≠ loc.b -> w'.heap[b]? = w.heap[b]? := fun b hb => Array.getElem?_setIfInBounds_ne (Ne.symm hb)
 have hlt := (hh.base id _ loc hx hm hn).1
 have hkm : BJ (Bm μ st.heap) w w' := ⟨by simp [w'], fun b _ hb => hblk b (fun e => hb ⟨id, _, loc, hx, hm, hn, e.symm⟩)⟩
 have hO := LD (A := A) (μ := μ) (o := .mapd m') hx
 have mono : ∀ {v : Value} {d : DV}, As (Af A μ st.heap) w v d -> As (Af A μ (BR id (.mapd m') st.heap)) w' v d := fun hp => hp.mono hkm.own (fun b _ hb => hO b hb)
 have ho : Cv (Af A μ (BR id (.mapd m') st.heap)) μ w' loc (.mapd m') :=
  ⟨hn, es', clock', by simp [w', Array.getElem?_setIfInBounds, hlt], hsz, hborn, fun i e p h1 h2 => ⟨mono (hrel i e p h1 h2).1, mono (hrel i e p h1 h2).2⟩⟩
 obtain ⟨h1, h2, h3⟩ := hh.toHRel.write (w' := w') hx hm hn (by simp [w']) hblk rfl rfl rfl ho
 exact ⟨l, _, _, u, _, μ, hk, ⟨Nat.le_refl _, h1.less fun _ h => h.1⟩, hl.mono hkm.own (fun b _ hb => h3 b hb) (fun _ _ h => h), fun v x hv => hv.mono hkm.own (fun b _ hb => h3 b hb) (fun _ _ h => h), fun q hq => hrun q hq⟩
theorem PE (k : DV) : ∀ m : List (DV × DV), (CU k m = none -> Ni k m = m) /\ ∀ j d, CU k m = some (j, d) -> Ni k m = m.eraseIdx j
 | [] => ⟨fun _ => rfl, by simp [CU]⟩
 | p :: m => by
  obtain ⟨h1, h2⟩ := PE k m
  simp only [CU, Ni]
  by_cases hk : DU k p.1 = true
  .rw [if_pos hk, if_pos hk]
   refine ⟨by simp, fun j d hj => ?_⟩
   simp only [Option.some.injEq, Prod.mk.injEq] at hj
   obtain ⟨rfl, rfl⟩ := hj
   rfl
  rw [if_neg hk, if_neg hk]
  refine ⟨fun h => by rw [h1 (by simpa using h)], fun j d hj => ?_⟩
  simp only [Option.map_eq_some_iff] at hj
  obtain ⟨⟨j', d'⟩, h3, h4⟩ := hj
  simp only [Prod.mk.injEq] at h4
  obtain ⟨rfl, rfl⟩ := h4
  rw [h2 j' d' h3]
  rfl
theorem X0 (hE : BC P AD) (hs : ∀ x, Aa (Af A μ st.heap) μ w (a.eval x) (st.eval x)) (hh : HC A μ st F w) {c : Call} (hc : c.callee = .builtin .clear) {K : LV -> AP -> Nat -> Prop} (h : AAn AD st c K) : BI P A st a w (.call c) μ F K := by
 obtain ⟨x, t, r, ha, hat, ti, e, te, id, off, len, elems, h1, h2, h3, hg, h4, hlen, hl, hfit, hzc, hk⟩ := h
 have hu := EI hE h1 h2
 have hx := hs x
 rw [h4] at hx
 have hat0 : c.argTypes[0]? = some t := by rw [<- Array.getElem?_toList, hat]; rfl
 have tup : ∀ {O w}, Aa O μ w (.tuple #[]) (.tup []) := fun {O w} => .tup _ _ rfl fun j u l h1 h2 => by simp at h1
 have hok := hE.tt e te h3
 have hone := hok.one hg
 obtain ⟨inf, z, hi, hs0, hb0, hz0, hzs, hm0, hagg⟩ := hok.info
 rw [hg] at hagg
 have hc1 : z.cells = #[z] := by cases z <;> first | rfl | (exfalso; simp [Ow] at hagg)
 have hzv : ∀ w', (zeroValue e).run P w' = .ok z w' := fun w' => by simp [zeroValue, typeInfo, hi, hz0]
 obtain ⟨d, hd, hzd⟩ : ∃ d, te.zero = [d] /\ GX z = some d := by
  rw [hc1] at hm0
  simp only [List.mapM_cons, List.mapM_nil, Option.bind_eq_bind, Option.pure_def] at hm0
  cases hq : GX z with
  | none => rw [hq] at hm0; simp at hm0
  | some d => rw [hq] at hm0; simp at hm0; exact ⟨d, hm0.symm, rfl⟩
 have hzr : ∀ O w', As O w' z d := fun O w' => (E6 hzd O w').1
 have hc2 : z.oneCell' = true := by cases z <;> first | rfl | (exfalso; simp [Ow] at hagg; done) | (exfalso; simp [GX] at hzd; done)
 obtain ⟨sz, hsz⟩ : ∃ sz, sz = 1 := ⟨1, rfl⟩
 rw [<- hsz] at hx hl hk
 generalize hax : a.eval x = vx at hx
 cases hx with
 | lsln => exact absurd rfl hlen
 | lsl id off len cap ad loc hm hn hcap hle ha' hb' hs' =>
  obtain ⟨loc', hm', hz, hlen', hrow⟩ := hh.obj id _ hl
  rw [hm] at hm'; cases hm'
  rcases hrow with ⟨hn', _⟩ | ⟨_, cs, hb, hcs, hel, hcapm, hrel⟩
  .rw [hn] at hn'; cases hn'
  have had := ha' (by omega)
  rw [hsz, Nat.mul_one] at had
  rw [hsz, Nat.mul_one] at hcs
  have hst := run_storeCells_at P loc.b (loc.o + off) e (List.replicate len z) 0 cs w hb (by simp; omega) (fun v hv => by rw [List.eq_of_mem_replicate hv]; exact hc2)
  simp only [Nat.add_zero, List.length_replicate] at hst
  have hzc' : (Builtin.zeroCells z.cells len).toList = List.replicate len z := by
   rw [hc1]
   simp [Builtin.zeroCells]
   apply List.ext_getElem
   .simp
   intro i h1 h2
   simp [Nat.mod_one]
  have hclr : ∀ ty, (Builtin.clear_ c.argTypes ty #[.slice (some ad) len cap]).run P w = .ok (.tuple #[]) (w.setRow loc.b (cs.toList.take (loc.o + off) ++ List.replicate len z ++ cs.toList.drop (loc.o + off + len)).toArray) := fun ty => by
   obtain ⟨m, rfl⟩ : ∃ m, len = m + 1 := ⟨len - 1, by omega⟩
   subst had
   simp [Builtin.clear_, hat0, run_underlying hu, hzv, hzc', hst]
  have hrun : ∀ q : Oper, q.op = .call c -> (execOp a.eval q).run P w = .ok (.value (.tuple #[])) (w.setRow loc.b (cs.toList.take (loc.o + off) ++ List.replicate len z ++ cs.toList.drop (loc.o + off + len)).toArray) := fun q hq => by
   simp [execOp, hq, resolve, hc, ha, invoke, builtin, hax, hclr]
  refine BI.wrow hh hl hm hn hrun (fun hkept => ?_) tup hk
  have hcell : ∀ i, (cs.toList.take (loc.o + off) ++ List.replicate len z ++ cs.toList.drop (loc.o + off + len)).toArray[i]? = if loc.o + off <= i /\ i < loc.o + off + len then some z else cs[i]? := by
   intro i
   have e1 : (cs.toList.take (loc.o + off)).length = loc.o + off := by simp; omega
   simp only [List.getElem?_toArray, List.getElem?_append, e1, List.length_append, List.length_replicate]
   by_cases g1 : i < loc.o + off
   .rw [if_pos (by omega), if_pos g1, if_neg (by omega), List.getElem?_take, if_pos g1]; simp
   by_cases g2 : i < loc.o + off + len
   .rw [if_pos g2, if_neg g1, if_pos (by omega), List.getElem?_replicate, if_pos (by omega)]
   rw [if_neg g2, if_neg (by omega), List.getElem?_drop, show loc.o + off + len + (i - (loc.o + off + len)) = i by omega]; simp
  refine ⟨hz, fun q hq => ?_, .inr ⟨hn, _, setRow_heap w loc.b cs _ e _ hb, ?_, ?_, hcapm, fun i j y d' v hy hd' hv => ?_⟩⟩
  .rcases List.mem_append.1 hq with hq | hq
   .exact hlen' q (List.mem_of_mem_take hq)
   rw [List.eq_of_mem_replicate hq, hd, hsz]; rfl
  .simp [hsz]; omega
  .simp; omega
  rw [hcell, hsz] at hv
  have hj : j = 0 := by
   have h5 : y.length = loc.sz := by
    rcases List.mem_append.1 (List.mem_of_getElem? hy) with hq | hq
    .exact hlen' y (List.mem_of_mem_take hq)
    rw [List.eq_of_mem_replicate hq, hd, hsz]; rfl
   have := (List.getElem?_eq_some_iff.1 hd').1
   omega
  subst hj
  rw [List.getElem?_append, List.length_take, Nat.min_eq_left (by omega)] at hy
  by_cases g : i < off
  .rw [if_pos g, List.getElem?_take, if_pos g] at hy
   rw [if_neg (by omega)] at hv
   have := hrel i 0 y d' v hy hd' (by rw [hsz]; exact hv)
   exact this.mono hkept (fun b _ hb => hb)
  rw [if_neg g, List.getElem?_replicate] at hy
  split at hy
  .cases hy
   rw [hd] at hd'
   simp at hd'
   subst hd'
   rw [if_pos (by omega)] at hv
   cases hv
   exact hzr _ _
  cases hy
theorem Xz (hE : BC P AD) (hs : ∀ x, Aa (Af A μ st.heap) μ w (a.eval x) (st.eval x)) (hh : HC A μ st F w) {c : Call} (hc : c.callee = .builtin .delete) {K : LV -> AP -> Nat -> Prop} (h : AAm AD st c K) : BI P A st a w (.call c) μ F K := by
 obtain ⟨x, i, t, r, ha, hat, ti, kt, et, id, m, kd, h1, h2, h3, h4, h5, h7, h8, h9⟩ := h
 have hu := PC hE h1 h2
 have hx := hs x
 have hi := hs i
 rw [h3] at hx; rw [h5] at hi
 have hat0 : c.argTypes[0]? = some t := by rw [<- Array.getElem?_toList, hat]; rfl
 have tup : Aa (Af A μ st.heap) μ w (.tuple #[]) (.tup []) := .tup _ _ rfl fun j u l h1 h2 => by simp at h1
 generalize hax : a.eval x = vx at hx
 cases hx with
 | lmap _ loc hm hn =>
  obtain ⟨loc', hm', _, es, hb, hsz, hborn0, hrel⟩ := hh.obj id _ h4
  have hborn := T6 hborn0
  generalize es.size = clock at hb hborn
  rw [hm] at hm'; cases hm'
  have hkey := hi.p_inv.keyV hE h7
  have hkeys := Pw hE (fun i e p h1 h2 => (hrel i e p h1 h2).1) h8
  have hfind := Nx hE h7 w m es.toList (by simpa using hsz) hkeys h8
  have run : ∀ es', (match (Instr.findKey kt (keyV kd) es.toList).run P w with | .ok (some (i, _)) _ => es' = es.eraseIdxIfInBounds i | .ok none _ => es' = es | _ => False) -> ∀ q : Oper, q.op = .call c -> (execOp a.eval q).run P w = .ok (.value (.tuple #[])) { w with heap := w.heap.setIfInBounds loc.b (.map es' clock) } := by
   intro es' hes q hq
   have hd : (Builtin.delete_ c.argTypes q.type #[.map (some loc.b), a.eval i]).run P w = .ok (.tuple #[]) { w with heap := w.heap.setIfInBounds loc.b (.map es' clock) } := by
    unfold Builtin.delete_
    rw [hkey]
    generalize hf : (Instr.findKey kt (keyV kd) es.toList).run P w = rf at hes
    rw [hfind] at hf
    subst hf
    simp only [hat0, List.getElem?_toArray, List.getElem?_cons_zero, List.getElem?_cons_succ, Sem.run_bind, run_underlying hu, Result.andThen_ok, Hi hb, Eo hE h7, hfind]
    split at hes
    .rename_i heq
     simp only [Result.ok.injEq] at heq
     obtain ⟨heq, _⟩ := heq
     simp only [heq]
     subst hes
     simp only [Sem.run_bind, Ji _ hb, Result.andThen_ok, Sem.run_pure]
    .rename_i heq
     simp only [Result.ok.injEq] at heq
     obtain ⟨heq, _⟩ := heq
     simp only [heq]
     subst hes
     simp only [Sem.run_bind, Ji _ hb, Result.andThen_ok, Sem.run_pure]
    exact hes.elim
   simp [execOp, hq, resolve, hc, ha, invoke, builtin, hax, hd]
  rcases GF kd m es.toList 0 (by simpa using hsz) with ⟨g1, g2⟩ | ⟨j, e, p, g1, g2, g3, g4, g5⟩
  .rw [g2] at hfind
   rw [(PE kd m).1 g1] at h9
   exact BI.wmapd hh (es' := es) (u := .tuple #[]) (l := .tup []) h4 hm hn (fun q hq => .inl (run es (by rw [hfind]) q hq)) hsz hborn hrel tup h9
  rw [g4] at hfind
  rw [(PE kd m).2 j p.2 g3] at h9
  have hej : es[j]? = some e := by simpa using g1
  have hjlt := (Array.getElem?_eq_some_iff.1 hej).1
  refine BI.wmapd hh (es' := es.eraseIdxIfInBounds j) (u := .tuple #[]) (l := .tup []) h4 hm hn (fun q hq => .inl (run _ (by rw [hfind]; simp) q hq)) ?_ ?_ (fun i' e' p' he hp => ?_) tup h9
  .rw [<- Array.length_toList, Array.toList_eraseIdxIfInBounds, List.length_eraseIdx, List.length_eraseIdx, Array.length_toList, hsz]
  .rw [Array.toList_eraseIdxIfInBounds]
   have hsub : (es.toList.eraseIdx j).Sublist es.toList := List.eraseIdx_sublist ..
   exact ⟨hborn.1.sublist (hsub.map _), fun x hx => hborn.2 x (hsub.subset hx)⟩
  rw [<- Array.getElem?_toList, Array.toList_eraseIdxIfInBounds, List.getElem?_eraseIdx] at he
  rw [List.getElem?_eraseIdx] at hp
  split at he
  .rename_i hlt
   rw [if_pos hlt] at hp
   exact hrel i' e' p' (by simpa using he) hp
  rename_i hlt
  rw [if_neg hlt] at hp
  exact hrel (i' + 1) e' p' (by simpa using he) hp
theorem T5 (hE : BC P AD) (hs : ∀ x, Aa (Af A μ st.heap) μ w (a.eval x) (st.eval x)) (hh : HC A μ st F w) {t : Nat} {x i : Operand} {K : LV -> AP -> Nat -> Prop}
  (h : Mu AD st.heap t (st.eval x) (st.eval i) fun r h => K r h st.ctr) : BI P A st a w (.mapEntry t x i) μ F K := by
 obtain ⟨ti, kt, et, te, id, m, kd, h1, h2, h3, h4, h5, h6, h7, h8, h9⟩ := h
 have hu := PC hE h1 h2
 have hx := hs x
 have hi := hs i
 rw [h4] at hx; rw [h6] at hi
 generalize hax : a.eval x = vx at hx
 have tup : ∀ (v : Value) (d : DV) (n : Nat), As (Af A μ st.heap) w v d -> Aa (Af A μ st.heap) μ w (.tuple #[v, goInt n]) (.tup [.p d, .p (.int .i64 n)]) := by
  intro v d n hv
  refine .tup _ _ rfl fun j u l h1 h2 => ?_
  match j with
  | 0 => simp at h1 h2; subst h1 h2; exact .p _ _ hv
  | 1 => simp at h1 h2; subst h1 h2; exact .p _ _ (.int _ _)
  | j + 2 => simp at h2
 cases hx with
 | lmap _ loc hm hn =>
  obtain ⟨loc', hm', _, es, hb, hsz, hborn, hrel⟩ := hh.obj id _ h5
  rw [hm] at hm'; cases hm'
  have hkey := hi.p_inv.keyV hE h7
  have hkeys := Pw hE (fun i e p h1 h2 => (hrel i e p h1 h2).1) h8
  have hfind := Nx hE h7 w m es.toList (by simpa using hsz) hkeys h8
  rcases GF kd m es.toList 0 (by simpa using hsz) with ⟨g1, g2⟩ | ⟨j, e, p, g1, g2, g3, g4, g5⟩
  .rw [g2] at hfind
   obtain ⟨z, hz, hzr⟩ := (hE.tt et te h3).run_zeroDV w
   have hg : FT kd m = none := by simp [FT, g1]
   rw [hg, g1] at h9
   simp only [Option.getD_none, Option.map_none] at h9
   refine BI.wmap hh (es' := es.push { key := keyV kd, val := z, born := es.size }) (m' := m ++ [(kd, te.zeroDV)]) (u := .tuple #[z, goInt es.size]) h5 hm hn (fun q hq => .inl ?_) (by simp [hsz]) (fun i e he => ?_) (fun i e p he hp => ?_) (tup z te.zeroDV es.size (hzr _ _)) (by rw [hsz]; exact h9)
   .simp only [execOp, hq, Sem.run_bind, hax]
    have : (Instr.mapEntry t (.map (some loc.b)) (a.eval i)).run P w = .ok (.tuple #[z, goInt es.size]) { w with heap := w.heap.setIfInBounds loc.b (.map (es.push { key := keyV kd, val := z, born := es.size }) (es.size + 1)) } := by
     unfold Instr.mapEntry
     rw [hkey]
     simp only [Sem.run_bind, run_underlying hu, Result.andThen_ok, Hi hb, Eo hE h7, hfind, hz, Ji _ hb, Sem.run_pure]
    rw [this]; simp
   .rw [Array.getElem?_push] at he
    split at he
    .cases he; subst_vars; rfl
    exact hborn i e he
   rw [Array.getElem?_push] at he
   rw [List.getElem?_append] at hp
   split at he
   .cases he; subst_vars
    rw [if_neg (by omega), hsz] at hp
    simp at hp; subst hp
    exact ⟨by rw [<- hkey]; exact hi.p_inv, hzr _ _⟩
   have hlt := (Array.getElem?_eq_some_iff.1 he).1
   rw [if_pos (by omega)] at hp
   exact hrel i e p he hp
  rw [g4] at hfind
  have hg : FT kd m = some p.2 := by simp [FT, g3]
  rw [hg, g3] at h9
  simp only [Option.getD_some, Option.map_some] at h9
  have hej : es[j]? = some e := by simpa using g1
  have hfit := List.all_eq_true.1 h8 p (List.mem_of_getElem? g2)
  have hkd := (Qh hE h7 hfit).1 g5
  have hsame : (es.modify j fun e => { e with key := keyV kd }) = es := by
   apply Array.ext_getElem?
   intro q
   rw [Array.getElem?_modify]
   split
   .rename_i hji; subst hji
    rw [hej]
    simp only [Option.map_some, Option.some.injEq]
    have := hkeys j e p g1 g2
    rw [hkd, <- this]
   rfl
  have hupd : BR id (.map m) st.heap = st.heap := by
   have : ∀ h : AP, AJ id h = some (.map m) -> BR id (.map m) h = h := by
    intro h
    induction h with
    | nil => simp [AJ]
    | cons q h ih =>
     obtain ⟨k, o⟩ := q
     intro hl
     simp only [AJ] at hl
     unfold BR
     split
     .subst_vars; rw [if_pos rfl] at hl; cases hl; rfl
     rename_i hne; rw [if_neg hne] at hl; rw [ih hl]
   exact this _ h5
  refine BI.wmap hh (es' := es) (m' := m) (u := .tuple #[e.val, goInt j]) h5 hm hn (fun q hq => .inl ?_) hsz hborn hrel (tup _ _ j (hrel j e p hej g2).2) (by rw [hupd]; exact h9)
  simp only [execOp, hq, Sem.run_bind, hax]
  have : (Instr.mapEntry t (.map (some loc.b)) (a.eval i)).run P w = .ok (.tuple #[e.val, goInt j]) { w with heap := w.heap.setIfInBounds loc.b (.map es es.size) } := by
   unfold Instr.mapEntry
   rw [hkey]
   simp only [Sem.run_bind, run_underlying hu, Result.andThen_ok, Hi hb, Eo hE h7, hfind, Nat.zero_add, hej, Option.map_some, Option.getD_some]
   rw [hkeys j e p g1 g2, Wh hE h7 hfit g5]
   simp only [Result.andThen_ok, hsame, Ji _ hb, Sem.run_pure, hborn j e hej]
  rw [this]; simp
theorem VV (hs : ∀ x, Aa (Af A μ st.heap) μ w (a.eval x) (st.eval x)) (hh : HC A μ st F w) {t : Nat} {x s v : Operand} {K : LV -> AP -> Nat -> Prop}
  (h : Om st.heap (st.eval x) (st.eval s) (st.eval v) fun h => K .any h st.ctr) : BI P A st a w (.entryStore t x s v) μ F K := by
 obtain ⟨id, m, kk, n, vd, p, h1, h2, h3, h4, h5, h6, h7⟩ := h
 have hx := hs x
 have hi := hs s
 have hv := hs v
 rw [h1] at hx; rw [h3] at hi; rw [h6] at hv
 generalize hax : a.eval x = vx at hx
 cases hx with
 | lmap _ loc hm hn =>
  obtain ⟨loc', hm', _, es, hb, hsz, hborn, hrel⟩ := hh.obj id _ h2
  rw [hm] at hm'; cases hm'
  have hnlt : n.toNat < m.length := (List.getElem?_eq_some_iff.1 h5).1
  have hfi : es.findIdx? (fun e => (e.born : Int) == n) = some n.toNat := by
   rw [Array.findIdx?_eq_some_iff_getElem]
   refine ⟨by omega, ?_, fun j hj => ?_⟩
   .have := hborn n.toNat es[n.toNat] (by simp)
    rw [this]; simp; omega
   have := hborn j es[j] (by simp)
   rw [this]; simp; omega
  refine BI.wmap hh (es' := es.modify n.toNat fun e => { e with val := a.eval v }) (u := undef) (l := .any) h2 hm hn (fun q hq => .inr ⟨?_, rfl⟩) (by simp [hsz]) (fun i e he => ?_) (fun i e' p' he hp => ?_) (.any _) h7
  .simp only [execOp, hq, Sem.run_bind, hax, hi.int_inv]
   have : (Instr.entryStore t (.map (some loc.b)) (.int kk n) (a.eval v)).run P w = .ok () { w with heap := w.heap.setIfInBounds loc.b (.map (es.modify n.toNat fun e => { e with val := a.eval v }) es.size) } := by
    unfold Instr.entryStore
    simp only [Sem.run_bind, Hi hb, Result.andThen_ok, asInt, asIntOf, Sem.run_pure, hfi, Ji _ hb]
   rw [this]; simp
  .rw [Array.getElem?_modify] at he
   split at he
   .simp only [Option.map_eq_some_iff] at he
    obtain ⟨e0, a1, rfl⟩ := he
    exact hborn i e0 a1
   exact hborn i e he
  rw [Array.getElem?_modify] at he
  rw [List.getElem?_set] at hp
  split at he
  .subst_vars
   simp only [Option.map_eq_some_iff] at he
   obtain ⟨e0, a1, rfl⟩ := he
   rw [if_pos rfl] at hp
   simp only [hnlt, if_true, Option.some.injEq] at hp
   subst hp
   exact ⟨(hrel _ e0 p a1 h5).1, hv.p_inv⟩
  rename_i hne
  rw [if_neg hne] at hp
  exact hrel i e' p' he hp
theorem YF (seen : Array Nat) (es : Array MapEntry) (since c0 : Nat) (hold : ∀ x ∈ es.toList, x.born < since) (hsc : since <= c0) :
  (!seen.isEmpty && !es.isEmpty && es.all (fun x => decide (x.born ≥ c0))) = false := by
 cases he : es.isEmpty with
 | true => simp
 | false =>
  have hall : es.all (fun x => decide (x.born ≥ c0)) = false := by
   rw [Bool.eq_false_iff]
   intro h
   rw [Array.all_eq_true_iff_forall_mem] at h
   have h0 : 0 < es.size := by
    rcases Nat.eq_zero_or_pos es.size with h0 | h0
    .simp [Array.isEmpty, h0] at he
    exact h0
   have hm : es[0] ∈ es := Array.getElem_mem h0
   have h1 := h _ hm
   have h2 := hold es[0] (by simp)
   simp at h1
   omega
  simp [hall]
theorem Vd (ty : TypeId) {r bm since c0 clock : Nat} {seen : Array Nat} {es : Array MapEntry} (hr : w.heap[r]? = some (.mapIter (some bm) since seen c0)) (hb : w.heap[bm]? = some (.map es clock)) (hold : ∀ x ∈ es.toList, x.born < since) (hsc : since <= c0) :
  ((es.filter fun e => !seen.contains e.born).size = 0 /\ (Instr.next (.pointer (some ⟨r, 0, none⟩)) false ty).run P w = .ok (.tuple #[.bool false]) w) \/
  ∃ (j : Nat) (e : MapEntry), (es.filter fun e => !seen.contains e.born)[j]? = some e /\ ∃ w1 : World, w1.heap = w.heap /\ w1.os = w.os /\ w1.tape = w.tape /\ w1.output = w.output /\
   (Instr.next (.pointer (some ⟨r, 0, none⟩)) false ty).run P w = .ok (.tuple #[.bool true, e.key, e.val]) { w1 with heap := w1.heap.setIfInBounds r (.mapIter (some bm) since (seen.push e.born) clock) } := by
 simp only [Instr.next, getObj, Sem.run_bind, Sem.run, hr, hb, Result.andThen, YF seen es since c0 hold hsc, Bool.false_eq_true, if_false]
 have hmem : ∀ x ∈ (Array.filter (fun e => !seen.contains e.born) es).toList, x.born < since := fun x hx => hold x (by simp at hx ⊢; exact hx.1)
 generalize Array.filter (fun e => !seen.contains e.born) es = L at hmem ⊢
 have e1 : L.filter (fun x => decide (x.born < since)) = L := Array.filter_eq_self.2 (fun x hx => by simpa using hmem x (by simpa using hx))
 have e2 : L.filter (fun x => decide (x.born ≥ since)) = #[] := by
  rw [Array.filter_eq_empty_iff]
  intro x hx
  have := hmem x (by simpa using hx)
  simp
  omega
 simp only [e1, e2, Array.append_empty]
 by_cases h0 : L.size = 0
 .left
  have : L = #[] := Array.eq_empty_of_size_eq_zero h0
  subst this
  refine ⟨rfl, ?_⟩
  simp [choose, Sem.run, Question.forced]
 right
 have hne : L.isEmpty = false := by simp [Array.isEmpty, h0]
 simp only [hne, Bool.false_eq_true, if_false, Array.empty_append, Array.size_map]
 have hch : ∃ (j : Nat) (w1 : World), j < L.size /\ w1.heap = w.heap /\ w1.os = w.os /\ w1.tape = w.tape /\ w1.output = w.output /\ (choose (Question.mapNext L.size)).run P w = .ok j w1 := by
  by_cases hf : L.size <= 1
  .exact ⟨0, w, by omega, rfl, rfl, rfl, rfl, by simp [choose, Sem.run, Question.forced, hf]⟩
  exact ⟨_, w.drew, Nat.mod_lt _ (by omega), rfl, rfl, rfl, rfl, by
   simp only [choose, Sem.run, Question.forced, decide_eq_true_eq, hf, if_false, Question.cut]
   rfl⟩
 obtain ⟨j, w1, hj, a1, a2, a3, a4, hrun⟩ := hch
 refine ⟨j, L[j], by simp [hj], w1, a1, a2, a3, a4, ?_⟩
 have hset : ∀ o' : Obj, (setObj r o').run P w1 = .ok () { w1 with heap := w1.heap.setIfInBounds r o' } := fun o' => by
  simp [setObj, Sem.run, a1, hr]
 simp only [hrun, Array.getElem?_map, Array.getElem?_eq_getElem hj, Option.map_some, Sem.run_bind, hset, Result.andThen]
 rfl
theorem Mb (seen : Array Nat) (b : Nat) : ∀ (l : List MapEntry), (l.map (·.born)).Nodup -> ∀ (j : Nat) (e : MapEntry), (l.filter fun e => !seen.contains e.born)[j]? = some e -> e.born = b ->
  (l.filter fun e => !(seen.push b).contains e.born) = (l.filter fun e => !seen.contains e.born).eraseIdx j
 | [], _, j, e, h, _ => by simp at h
 | x :: l, hn, j, e, h, hb => by
  have hn' : x.born ∉ l.map (·.born) /\ (l.map (·.born)).Nodup := List.nodup_cons.1 hn
  have hc : ∀ y : Nat, (seen.push b).contains y = (seen.contains y || y == b) := fun y => Array.contains_push ..
  by_cases hx : seen.contains x.born = true
  .have e1 : (x :: l).filter (fun e => !seen.contains e.born) = l.filter fun e => !seen.contains e.born := by rw [List.filter_cons, if_neg (by rw [hx]; decide)]
   have e2 : (x :: l).filter (fun e => !(seen.push b).contains e.born) = l.filter fun e => !(seen.push b).contains e.born := by rw [List.filter_cons, if_neg (by rw [hc, hx, Bool.true_or]; decide)]
   rw [e1] at h
   rw [e1, e2]
   exact Mb seen b l hn'.2 j e h hb
  have hx' : seen.contains x.born = false := by simpa using hx
  have e1 : (x :: l).filter (fun e => !seen.contains e.born) = x :: l.filter fun e => !seen.contains e.born := by rw [List.filter_cons, if_pos (by rw [hx']; decide)]
  rw [e1] at h
  cases j with
  | zero =>
   simp at h
   subst h
   have e2 : (x :: l).filter (fun e => !(seen.push b).contains e.born) = l.filter fun e => !(seen.push b).contains e.born := by rw [List.filter_cons, if_neg (by rw [hc, hb, beq_self_eq_true, Bool.or_true]; decide)]
   rw [e1, e2, List.eraseIdx_cons_zero]
   refine List.filter_congr fun y hy => ?_
   have : y.born ≠ b := fun e => hn'.1 (by rw [hb, <- e]; exact List.mem_map.2 ⟨y, hy, rfl⟩)
   rw [hc]
   simp [this]
  | succ j =>
   rw [List.getElem?_cons_succ] at h
   have hm : e ∈ l := by
    have := List.mem_of_getElem? h
    exact (List.mem_filter.1 this).1
   have hne : x.born ≠ b := fun e2 => hn'.1 (by rw [e2, <- hb]; exact List.mem_map.2 ⟨e, hm, rfl⟩)
   have e2 : (x :: l).filter (fun e => !(seen.push b).contains e.born) = x :: l.filter fun e => !(seen.push b).contains e.born := by rw [List.filter_cons, if_pos (by rw [hc, hx', beq_eq_false_iff_ne.2 hne]; decide)]
   rw [e1, e2, List.eraseIdx_cons_succ, Mb seen b l hn'.2 j e h hb]
theorem VW (hE : BC P AD) (hs : ∀ x, Aa (Af A μ st.heap) μ w (a.eval x) (st.eval x)) (hh : HC A μ st F w) {t : Nat} {x : Operand} {K : LV -> AP -> Nat -> Prop}
  (h : ∃ ti kt et m, AD.tt t = some ti /\ ti.sh = .mp kt et /\ ((st.eval x = .p .nilm /\ m = []) \/ st.eval x = .p (.map m)) /\ K (.lpb st.ctr 0) ((st.ctr, .iter none m) :: st.heap) (st.ctr + 1)) : BI P A st a w (.range t x) μ F K := by
 obtain ⟨ti, kt, et, m, h1, h2, h3, hK⟩ := h
 have hu := PC hE h1 h2
 have hx := hs x
 have fin : ∀ (mb : Option Nat) (since c0 : Nat), (Instr.range t (a.eval x)).run P w = .ok (.pointer (some ⟨w.heap.size, 0, none⟩)) (w.alloc (.mapIter mb since #[] c0)) ->
   (∀ O' : Nat -> Prop, (∀ b, b < w.heap.size -> O' b -> Af A μ st.heap b) -> RC O' (w.alloc (.mapIter mb since #[] c0)) w.heap.size none m) -> BI P A st a w (.range t x) μ F K := by
  intro mb since c0 hrun hit
  refine BI.new hh (loc := ⟨false, w.heap.size, 0, 0, 0⟩) (o := .iter none m) (w' := w.alloc (.mapIter mb since #[] c0)) (u := .pointer (some ⟨w.heap.size, 0, none⟩)) (fun q hq => ?_) (fun _ => ⟨by simp, Nat.le_refl _⟩) (by simp) (fun b hb => Fo w _ hb) rfl rfl rfl (fun O' hO => ?_) (fun O' => ?_) hK
  .simp [execOp, hq, hrun]
  .exact ⟨rfl, hit O' hO⟩
  exact .lpb st.ctr 0 ⟨false, w.heap.size, 0, 0, 0⟩ (by simp [Bn]) rfl
 have nil : a.eval x = .map none -> m = [] -> BI P A st a w (.range t x) μ F K := by
  intro hv hm
  refine fin none 0 0 (by rw [hv]; simp [Instr.range, run_underlying hu, newObj, Sem.run]) fun O' _ => ⟨none, 0, #[], 0, GW w _, .inl ⟨rfl, hm, rfl⟩⟩
 rcases h3 with ⟨h3, hm⟩ | h3
 .rw [h3] at hx
  have := hx.p_inv
  generalize hv : a.eval x = v at this
  cases this
  exact nil hv hm
 rw [h3] at hx
 have := hx.p_inv
 generalize hv : a.eval x = v at this
 cases this with
 | mnil => exact nil hv rfl
 | map b es clock _ hO hlt hb hsz hbn hk hvv =>
  refine fin (some b) clock clock (by rw [hv]; simp [Instr.range, run_underlying hu, Hi hb, newObj, Sem.run]) fun O' hO' => ⟨some b, clock, #[], clock, GW w _, .inr ⟨b, es, clock, rfl, fun h => hO (hO' b hlt h), by simp; omega, by rw [Fo w _ hlt, hb], hbn.2, Nat.le_refl _, Nat.le_refl _, hbn.1, ?_⟩⟩
  have hf : (es.toList.filter fun e => !(#[] : Array Nat).contains e.born) = es.toList := by simp
  rw [hf]
  have hkept : BJ (Af A μ st.heap) w (w.alloc (.mapIter (some b) clock #[] clock)) := ⟨by simp, fun b hb _ => Fo w _ hb⟩
  exact ⟨⟨by simpa using hsz, fun i e p he hp => ⟨(hk i e p (by simpa using he) hp).mono hkept hO', (hvv i e p (by simpa using he) hp).mono hkept hO'⟩⟩, trivial⟩
theorem Wj (hs : ∀ x, Aa (Af A μ st.heap) μ w (a.eval x) (st.eval x)) (hh : HC A μ st F w) {s : Bool} {x : Operand} {K : LV -> AP -> Nat -> Prop}
  (h : s = false /\ ∃ id cur left, st.eval x = .lpb id 0 /\ AJ id st.heap = some (.iter cur left) /\ (left = [] -> K (.tup [.p (.bool false)]) st.heap st.ctr) /\
   ∀ j p, left[j]? = some p -> ∃ cur', (cur' = none \/ cur' = some p) /\ K (.tup [.p (.bool true), .p p.1, .p p.2]) (BR id (.iter cur' (left.eraseIdx j)) st.heap) st.ctr) : BI P A st a w (.next x s) μ F K := by
 obtain ⟨rfl, id, cur, left, h1, h2, h3, h4⟩ := h
 have hx := hs x
 rw [h1] at hx
 generalize hv : a.eval x = v at hx
 cases hx with
 | lpb _ _ loc hm hn =>
  obtain ⟨loc', hm', _, mb, since, seen, c0, hb, hcase⟩ := hh.obj id _ h2
  rw [hm] at hm'; cases hm'
  have over : left = [] -> (∀ q : Oper, q.op = .next x false -> (execOp a.eval q).run P w = .ok (.value (.tuple #[.bool false])) w) -> BI P A st a w (.next x false) μ F K := by
   intro hl hrun
   refine ⟨_, _, _, _, w, μ, h3 hl, ⟨Nat.le_refl _, hh.toHRel.less fun _ h => h.1⟩, .tup #[.bool false] [.p (.bool false)] rfl (fun i v l hv hl => ?_), fun _ _ h => h, fun q hq => .inl (hrun q hq)⟩
   cases i with
   | zero => simp at hv hl; subst hv hl; exact .p _ _ (.bool _)
   | succ i => simp at hl
  rcases hcase with ⟨rfl, hl, _⟩ | ⟨bm, es, clock, rfl, g2, g3, g4, g5, g6, g6', g7, ⟨g8, g9⟩, _⟩
  .refine over hl fun q hq => ?_
   simp [execOp, hq, hv, Instr.next, getObj, Sem.run, hb]
  have hlen : (es.filter fun e => !seen.contains e.born).toList = es.toList.filter fun e => !seen.contains e.born := by simp
  have hrun := fun ty => Vd (P := P) (w := w) ty hb g4 g5 g6
  rcases hrun 0 with ⟨r1, r2⟩ | ⟨j, e, r1, w1, a1, a2, a3, a4, r2⟩
  .have hl : left = [] := by
    have : (es.toList.filter fun e => !seen.contains e.born).length = 0 := by rw [<- hlen]; simpa using r1
    exact List.length_eq_zero_iff.1 (by omega)
   refine over hl fun q hq => ?_
   have r3 : (Instr.next (.pointer (some ⟨loc.b, 0, none⟩)) false q.type).run P w = .ok (.tuple #[.bool false]) w := r2
   simp [execOp, hq, hv, r3]
  have he : (es.toList.filter fun e => !seen.contains e.born)[j]? = some e := by rw [<- hlen, Array.getElem?_toList]; exact r1
  have hjl : j < left.length := by have := (List.getElem?_eq_some_iff.1 he).1; omega
  have hp : left[j]? = some (left[j]'hjl) := List.getElem?_eq_getElem _
  obtain ⟨hk, hvv⟩ := g9 j e _ he hp
  obtain ⟨cur', hcur, hK⟩ := h4 j _ hp
  let w' : World := { w1 with heap := w1.heap.setIfInBounds loc.b (.mapIter (some bm) since (seen.push e.born) clock) }
  have hblk : ∀ b, b ≠ loc.b -> w'.heap[b]? = w.heap[b]? := fun b hb => by
   show (w1.heap.setIfInBounds loc.b _)[b]? = _
   rw [Array.getElem?_setIfInBounds_ne (Ne.symm hb), a1]
  have hlt := (hh.base id _ loc h2 hm hn).1
  have hne : bm ≠ loc.b := fun e2 => g2 (.inr ⟨id, _, loc, h2, hm, hn, e2.symm⟩)
  have hkm : BJ (Bm μ st.heap) w w' := ⟨by simp [w', a1], fun b _ hb => hblk b (fun e => hb ⟨id, _, loc, h2, hm, hn, e.symm⟩)⟩
  have hO := LD (A := A) (μ := μ) (o := .iter cur' (left.eraseIdx j)) h2
  have mono : ∀ {v : Value} {d : DV}, As (Af A μ st.heap) w v d -> As (Af A μ (BR id (.iter cur' (left.eraseIdx j)) st.heap)) w' v d := fun hp => hp.mono hkm.own (fun b _ hb => hO b hb)
  have ho : Cv (Af A μ (BR id (.iter cur' (left.eraseIdx j)) st.heap)) μ w' loc (.iter cur' (left.eraseIdx j)) := by
   refine ⟨hn, some bm, since, seen.push e.born, clock, by simp [w', a1, hlt], .inr ⟨bm, es, clock, rfl, fun h => g2 (hO bm h), by simpa [w', a1] using g3, by rw [hblk bm hne]; exact g4, g5, g6', g6', g7, ?_⟩⟩
   rw [Mb seen e.born es.toList g7 j e he rfl]
   refine ⟨⟨by rw [List.length_eraseIdx, List.length_eraseIdx, g8], fun i e' p' h5 h6 => ?_⟩, ?_⟩
   rotate_left
   .rcases hcur with rfl | rfl
    .trivial
    exact ⟨rfl, e, (List.mem_filter.1 (List.mem_of_getElem? he)).1, by simp, mono hk, mono hvv⟩
   rw [List.getElem?_eraseIdx] at h5 h6
   split at h5
   .rename_i c; rw [if_pos c] at h6
    exact ⟨mono (g9 i e' p' h5 h6).1, mono (g9 i e' p' h5 h6).2⟩
   rename_i c; rw [if_neg c] at h6
   exact ⟨mono (g9 _ e' p' h5 h6).1, mono (g9 _ e' p' h5 h6).2⟩
  obtain ⟨k1, k2, k3⟩ := hh.toHRel.write (w' := w') h2 hm hn (by simp [w', a1]) hblk (by simp [w', a2]) (by simp [w', a3]) (by simp [w', a4]) ho
  refine ⟨_, _, _, .tuple #[.bool true, e.key, e.val], w', μ, hK, ⟨Nat.le_refl _, k1.less fun _ h => h.1⟩, .tup #[.bool true, e.key, e.val] _ rfl (fun i v l hv hl => ?_), fun v x hv => hv.mono k2.own (fun b _ hb => k3 b hb) (fun _ _ h => h), fun q hq => .inl ?_⟩
  .match i with
   | 0 => simp at hv hl; subst hv hl; exact .p _ _ (.bool _)
   | 1 => simp at hv hl; subst hv hl; exact .p _ _ (mono hk)
   | 2 => simp at hv hl; subst hv hl; exact .p _ _ (mono hvv)
   | n + 3 => simp at hl
  have r3 : (Instr.next (.pointer (some ⟨loc.b, 0, none⟩)) false q.type).run P w = .ok (.tuple #[.bool true, e.key, e.val]) w' := r2
  simp [execOp, hq, hv, r3]
theorem RX (e : MapEntry) : ∀ (l : List MapEntry), (l.map (·.born)).Nodup -> e ∈ l -> l.find? (·.born == e.born) = some e
 | [], _, h => nomatch h
 | x :: l, hn, h => by
  have hn' : x.born ∉ l.map (·.born) /\ (l.map (·.born)).Nodup := List.nodup_cons.1 hn
  rcases List.mem_cons.1 h with rfl | h
  .simp
  have : x.born ≠ e.born := fun h2 => hn'.1 (h2 ▸ List.mem_map.2 ⟨e, h, rfl⟩)
  rw [List.find?_cons_of_neg (by simpa using this)]
  exact RX e l hn'.2 h
theorem VX (hs : ∀ x, Aa (Af A μ st.heap) μ w (a.eval x) (st.eval x)) (hh : HC A μ st F w) {x : Operand} {K : LV -> AP -> Nat -> Prop}
  (h : ∃ id p left, st.eval x = .lpb id 0 /\ AJ id st.heap = some (.iter (some p) left) /\ K (.tup [.p p.1, .p p.2]) (BR id (.iter none left) st.heap) st.ctr) : BI P A st a w (.entry x) μ F K := by
 obtain ⟨id, p, left, h1, h2, hK⟩ := h
 have hx := hs x
 rw [h1] at hx
 generalize hv : a.eval x = v at hx
 cases hx with
 | lpb _ _ loc hm hn =>
  obtain ⟨loc', hm', _, mb, since, seen, c0, hb, hcase⟩ := hh.obj id _ h2
  rw [hm] at hm'; cases hm'
  rcases hcase with ⟨_, _, hc⟩ | ⟨bm, es, clock, rfl, g2, g3, g4, g5, g6, g6', g7, ⟨g8, g9⟩, g10, e, he, g11, hk, hvv⟩
  .cases hc
  subst g10
  have hlt := (hh.base id _ loc h2 hm hn).1
  have hO := LD (A := A) (μ := μ) (o := .iter none left) h2
  have hkm : BJ (Bm μ st.heap) w w := BJ.refl _ _
  have mono : ∀ {v : Value} {d : DV}, As (Af A μ st.heap) w v d -> As (Af A μ (BR id (.iter none left) st.heap)) w v d := fun hp => hp.mono hkm.own (fun b _ hb => hO b hb)
  have ho : Cv (Af A μ (BR id (.iter none left) st.heap)) μ w loc (.iter none left) :=
   ⟨hn, some bm, since, seen, clock, hb, .inr ⟨bm, es, clock, rfl, fun h => g2 (hO bm h), g3, g4, g5, g6, g6', g7, ⟨g8, fun i e' p' h5 h6 => ⟨mono (g9 i e' p' h5 h6).1, mono (g9 i e' p' h5 h6).2⟩⟩, trivial⟩⟩
  obtain ⟨k1, k2, k3⟩ := hh.toHRel.write (w' := w) h2 hm hn rfl (fun _ _ => rfl) rfl rfl rfl ho
  refine ⟨_, _, _, .tuple #[e.key, e.val], w, μ, hK, ⟨Nat.le_refl _, k1.less fun _ h => h.1⟩, .tup #[e.key, e.val] _ rfl (fun i v l hv hl => ?_), fun v x hv => hv.mono k2.own (fun b _ hb => k3 b hb) (fun _ _ h => h), fun q hq => .inl ?_⟩
  .match i with
   | 0 => simp at hv hl; subst hv hl; exact .p _ _ (mono hk)
   | 1 => simp at hv hl; subst hv hl; exact .p _ _ (mono hvv)
   | n + 2 => simp at hl
  have hf : es.find? (·.born == e.born) = some e := by rw [<- Array.find?_toList]; exact RX e es.toList g7 he
  have r3 : (Instr.entry (.pointer (some ⟨loc.b, 0, none⟩))).run P w = .ok (.tuple #[e.key, e.val]) w := by
   simp only [Instr.entry, getObj, Sem.run_bind, Sem.run, hb, g4, Result.andThen, g11, bne_self_eq_false, Bool.false_eq_true, if_false, hf]
   rfl
  simp [execOp, hq, hv, r3]
end
end Go.E
/- append; QW. -/
namespace Go.E
open Go Go.RowKit
section
variable {P : Program} {AD : A5} {A : BD} {F : Nat -> Prop} {μ : Nat -> Option BQ} {st : St} {a : Act} {w : World}
theorem Ju {c : Call} {s x : Operand} {t : TypeId} (hc : c.callee = .builtin .append) (ha : c.args = #[s, x]) (hat : c.argTypes = #[t, t]) {u : Value} {w' : World}
  (h : ∀ ty, (Builtin.append_ #[t, t] ty #[a.eval s, a.eval x]).run P w = .ok u w') : ∀ q : Oper, q.op = .call c -> (execOp a.eval q).run P w = .ok (.value u) w' := by
 intro q hq
 have := h q.type
 simp [execOp, hq, resolve, hc, ha, hat, invoke, builtin, this]
theorem Xx (hh : HC A μ st F w) {op : Op} {K : LV -> AP -> Nat -> Prop} {e sz : Nat} {h' : AP} {l : List (List DV)} (hl : l = [])
  (hrun : ∀ q : Oper, q.op = op -> (execOp a.eval q).run P w = .ok (.value (.slice none 0 0)) w)
  (hsub : ∀ id x, AJ id h' = some x -> AJ id st.heap = some x)
  (hK : K (.lsl st.ctr sz 0 0) ((st.ctr, .row e sz l) :: h') (st.ctr + 1)) : BI P A st a w op μ F K := by
 subst hl
 refine BI.add hh (loc := ⟨true, 0, 0, sz, 0⟩) (o := .row e sz []) hrun (fun h => by cases h) (fun h => by cases h) (fun id x hx => ?_) (BJ.refl _ _) (fun id x lc hx hne hm hn => rfl) rfl rfl rfl (fun O' hO => ?_) (fun O' => ?_) hK
 .simp only [AJ] at hx
  split at hx
  .cases hx; exact .inl ⟨‹_›, rfl⟩
  exact .inr (hsub _ _ hx)
 .exact ⟨rfl, by simp, .inl ⟨rfl, rfl⟩⟩
 exact .lsln st.ctr ⟨true, 0, 0, sz, 0⟩ (by simp [Bn]) rfl
theorem T2 (hE : BC P AD) (hs : ∀ x, Aa (Af A μ st.heap) μ w (a.eval x) (st.eval x)) (hh : HC A μ st F w) {c : Call} {s x : Operand} {t : TypeId}
    (hc : c.callee = .builtin .append) (ha : c.args = #[s, x]) (hat : c.argTypes = #[t, t]) {K : LV -> AP -> Nat -> Prop} (h : Mp AD st.heap st.ctr t (st.eval s) (st.eval x) K) : BI P A st a w (.call c) μ F K := by
  obtain ⟨ti, e, te, h1, h2, h3, hsz, new, hnew, hone, h⟩ := h
  have hu := EI hE h1 h2
  have hok := hE.tt e te h3
  obtain ⟨g, hsrc, hg⟩ := WA hh (hs x) hnew hsz (fun y hy => (hone y hy).1)
  have hone' := Yv hsz hone hg
  have hts := hs s
  have nilT : ∀ h' : AP, (∀ id x, AJ id h' = some x -> AJ id st.heap = some x) -> a.eval s = .slice none 0 0 -> new.length * te.bytes <= 140737488355328 -> new.length <= maxLen ->
      K (.lsl st.ctr te.size 0 new.length) ((st.ctr, .row e te.size new) :: h') (st.ctr + 1) -> BI P A st a w (.call c) μ F K := by
    intro h' hsub hv hb hm hK
    by_cases h0 : new = []
    . subst h0
      refine Xx hh rfl (Ju hc ha hat fun ty => ?_) hsub hK
      rw [hv]; exact Q3 hu hok hsrc
    have hpos : 0 < new.length := List.length_pos_iff.2 h0
    obtain ⟨rest, hrun', hrest⟩ := LI hu hok (base := none) (len := 0) (cap := 0) (olds := []) (by simp [Builtin.firstCells]) hsrc (by omega) (by omega) (by simpa using hb)
    refine QE hh (olds := []) (f := g) (rest := rest) (n := 0) (m := new.length) (cap := grownCap w (0 + new.length) 0 e) hsz (Ju hc ha hat fun ty => ?_) rfl rfl hrest (grownCap_ge _ _ _ _) (grownCap_le_maxLen _ _ _ _ (by omega)) (by simp) (fun y hy => (hone y hy).1) (by simp) hg hsub (by simpa using hK)
    rw [hv]; simpa using hrun' ty
  generalize hsl : st.eval s = sl at h hts
  split at h
  . obtain ⟨hb, hm, hK⟩ := h
    exact nilT st.heap (fun _ _ h => h) hts.nils_inv hb hm hK
  . rename_i id sz off len
    obtain ⟨elems, hszz, hl, hfit, hb, hm, hK⟩ := h
    have hsub : ∀ j x, AJ j (Gk id st.heap) = some x -> AJ j st.heap = some x := fun j x h => (F7 h).2
    obtain ⟨f, hsrc0, hf⟩ := WA (P := P) (new := (elems.drop off).take len) hh hts (by simp [L2, hl, hfit]) hsz (fun y hy => by
      obtain ⟨lc, _, _, h5, _⟩ := hh.obj id _ hl
      exact h5 y (List.mem_of_mem_drop (List.mem_of_mem_take hy)))
    have hlen : ((elems.drop off).take len).length = len := by simp; omega
    generalize hv : a.eval s = v at hts hsrc0
    cases hts with
    | lsln _ loc hm' hn =>
      have : (elems.drop 0).take 0 = ([] : List (List DV)) := by simp
      rw [this, List.nil_append] at hK
      refine nilT (Gk id st.heap) hsub hv (by simpa using hb) (by simpa using hm) (by simpa using hK)
    | lsl _ _ _ cap ad loc hm' hn hcap hlc had hbk hsp =>
      obtain ⟨loc', hm2, hz, hel, hrow⟩ := hh.obj id _ hl
      rw [hm'] at hm2; cases hm2
      rcases hrow with ⟨hn', _⟩ | ⟨_, cs, hblk, hcs, hle, hcm, hrel⟩
      . rw [hn] at hn'; cases hn'
      by_cases hroom : len + new.length <= cap
      .
        rw [hszz] at had hz
        have hn1 : ∀ i j, i < new.length -> j < te.size -> ((List.range new.length).flatMap fun i => (List.range te.size).map (g i))[i * te.size + j]? = some (g i j) := fun i j hi hj => NX _ _ _ hi hj
        have fin : ∀ (w' : World) (cs' : Array Value), (∀ ty, (Builtin.append_ #[t, t] ty #[.slice (some ad) len cap, a.eval x]).run P w = .ok (.slice (some ad) (len + new.length) cap) w') ->
            w'.heap[loc.b]? = some (.cells cs' e (0, 0)) -> cs'.size = cs.size -> w'.heap.size = w.heap.size -> (∀ b, b ≠ loc.b -> w'.heap[b]? = w.heap[b]?) -> w'.os = w.os -> w'.tape = w.tape -> w'.output = w.output ->
            (∀ i j, i < len -> j < te.size -> cs'[loc.o + (off + i) * te.size + j]? = cs[loc.o + (off + i) * te.size + j]?) ->
            (∀ i j, i < new.length -> j < te.size -> cs'[loc.o + (off + len + i) * te.size + j]? = some (g i j)) -> BI P A st a w (.call c) μ F K := by
          intro w' cs' hrun hw' hcs' hwsz hoth hos htape hout hold hnew'
          refine BI.add hh (loc := ⟨false, loc.b, loc.o + off * te.size, te.size, cap⟩) (o := .row e te.size ((elems.drop off).take len ++ new)) (w' := w') (u := .slice (some ad) (len + new.length) cap) (Ju hc ha hat fun ty => ?_) (fun _ => ?_) (fun _ => .inr ⟨id, _, loc, hl, ?_, hm', hn, rfl⟩) (fun j y hy => ?_)
            ⟨by omega, fun b hb hmine => hoth b fun e => hmine ⟨id, _, loc, hl, hm', hn, e.symm⟩⟩ (fun j y lc hy hne hmj hnj => ?_) hos htape hout (fun O' hO => ?_) (fun O' => ?_) hK
          . rw [hv]; exact hrun ty
          . rw [hwsz]; exact (Array.getElem?_eq_some_iff.1 hblk).1
          . simp only [AJ]
            rw [if_neg (hh.live_ne hh.none hl)]
            exact F8
          . simp only [AJ] at hy
            split at hy
            . cases hy; exact .inl ⟨‹_›, rfl⟩
            exact .inr (hsub _ _ hy)
          . simp only [AJ] at hy
            rw [if_neg hne] at hy
            obtain ⟨h7, h8⟩ := F7 hy
            exact hoth _ fun e => h7 (hh.inj _ _ _ _ _ _ h8 hl hmj hm' hnj hn e)
          . have hkept : BJ (Af A μ st.heap) w w' := ⟨by omega, fun b _ hO => hoth b fun e => hO (.inr ⟨id, _, loc, hl, hm', hn, e.symm⟩)⟩
            refine ⟨rfl, fun y hy => ?_, .inr ⟨rfl, cs', hw', ?_, ?_, ?_, fun i j y d v hy hd hvv => ?_⟩⟩
            . rcases List.mem_append.1 hy with hy | hy
              . exact hel y (List.mem_of_mem_drop (List.mem_of_mem_take hy))
              exact (hone y hy).1
            . rw [hcs', hcs, <- hcap, Nat.add_mul]; simp only; omega
            . rw [List.length_append, hlen]; exact hroom
            . simp only; omega
            simp only at hvv
            have hyl : y.length = te.size := by
              rcases List.mem_append.1 (List.mem_of_getElem? hy) with hy | hy
              . exact hel y (List.mem_of_mem_drop (List.mem_of_mem_take hy))
              exact (hone y hy).1
            have hj : j < te.size := by have := (List.getElem?_eq_some_iff.1 hd).1; omega
            rw [List.getElem?_append, hlen] at hy
            have e1 : loc.o + off * te.size + i * te.size + j = loc.o + (off + i) * te.size + j := by rw [Nat.add_mul]; omega
            rw [e1] at hvv
            by_cases hi : i < len
            . rw [if_pos hi, List.getElem?_take, if_pos hi, List.getElem?_drop] at hy
              rw [hold i j hi hj] at hvv
              exact (hrel (off + i) j y d v hy hd hvv).mono hkept hO
            rw [if_neg hi] at hy
            have hi2 := (List.getElem?_eq_some_iff.1 hy).1
            have := hnew' (i - len) j hi2 hj
            rw [show off + len + (i - len) = off + i by omega] at this
            rw [this] at hvv; cases hvv
            exact (hg (i - len) j y d hy hd).mono hkept hO
          refine .lsl st.ctr 0 _ cap ad ⟨false, loc.b, loc.o + off * te.size, te.size, cap⟩ (by simp [Bn]) rfl (by simp) hroom (fun h0 => ?_) hbk hsp
          rw [had h0]; simp
        by_cases h0 : new = []
        . subst h0
          refine fin w cs (fun ty => ?_) hblk rfl rfl (fun _ _ => rfl) rfl rfl rfl (fun _ _ _ _ => rfl) (fun i j hi => by simp at hi)
          exact LH hu hok hsrc hroom rfl
        have hpos : 0 < new.length := List.length_pos_iff.2 h0
        have had' := had (by omega)
        have hfit2 : loc.o + (off + len) * te.size + (new.length * te.size) <= cs.size := by
          have : (off + len + new.length) * te.size <= loc.cap * te.size := Nat.mul_le_mul_right _ (by omega)
          rw [Nat.add_mul] at this; omega
        have hst := run_storeCells_at P loc.b (loc.o + (off + len) * te.size) e ((List.range new.length).flatMap fun i => (List.range te.size).map (g i)) 0 cs w hblk (by rw [ES]; omega) hone'
        obtain ⟨arr, harr⟩ : ∃ arr, arr = (cs.toList.take (loc.o + (off + len) * te.size + 0) ++ ((List.range new.length).flatMap fun i => (List.range te.size).map (g i)) ++ cs.toList.drop (loc.o + (off + len) * te.size + 0 + ((List.range new.length).flatMap fun i => (List.range te.size).map (g i)).length)).toArray := ⟨_, rfl⟩
        rw [<- harr] at hst
        refine fin (w.setRow loc.b arr) arr (fun ty => LH hu hok hsrc hroom ?_) (setRow_heap w loc.b cs _ e _ hblk) ?_ (by simp) (fun b hb => FO hb _) rfl rfl rfl (fun i j hi hj => ?_) (fun i j hi hj => ?_)
        . rw [had', Addr.add_lit, show loc.o + off * te.size + len * te.size = loc.o + (off + len) * te.size by rw [Nat.add_mul]; omega]
          exact hst
        . rw [harr]; simp only [List.size_toArray, List.length_append, List.length_take, List.length_drop, ES, Array.length_toList]; omega
        . have : (off + i + 1) * te.size <= (off + len) * te.size := Nat.mul_le_mul_right _ (by omega)
          rw [Nat.add_mul] at this
          simp only [harr, Nat.add_zero, List.append_assoc, List.getElem?_toArray]
          rw [List.getElem?_append_left (by simp; omega), List.getElem?_take, if_pos (by omega)]; simp
        have hlt : i * te.size + j < new.length * te.size := by
          have : (i + 1) * te.size <= new.length * te.size := Nat.mul_le_mul_right _ hi
          rw [Nat.add_mul] at this; omega
        have e2 : loc.o + (off + len + i) * te.size + j = loc.o + (off + len) * te.size + (i * te.size + j) := by rw [Nat.add_mul]; omega
        simp only [harr, Nat.add_zero, List.append_assoc, List.getElem?_toArray]
        have hl3 : (cs.toList.take (loc.o + (off + len) * te.size)).length = loc.o + (off + len) * te.size := by simp; omega
        rw [e2, List.getElem?_append_right (by omega), hl3, Nat.add_sub_cancel_left, List.getElem?_append_left (by rw [ES]; exact hlt)]
        exact hn1 i j hi hj
      obtain ⟨rest, hrun', hrest⟩ := LI hu hok (base := some ad) (len := len) (cap := cap) (by have := hsrc0.cells'; rw [hlen] at this; exact this) hsrc (by omega) hm hb
      refine QE hh (f := f) (g := g) (rest := rest) (n := len) (m := new.length) (cap := grownCap w (len + new.length) cap e) hsz (Ju hc ha hat fun ty => ?_) hlen rfl hrest (grownCap_ge _ _ _ _) (grownCap_le_maxLen _ _ _ _ hm)
        (fun y hy => hel y (List.mem_of_mem_drop (List.mem_of_mem_take hy))) (fun y hy => (hone y hy).1) hf hg hsub hK
      rw [hv]; have := hrun' ty; rw [hlen]; exact this
  exact h.elim
theorem QW (hE : BC P AD) (hs : ∀ x, Aa (Af A μ st.heap) μ w (a.eval x) (st.eval x)) (hh : HC A μ st F w) {op : Op} {K : LV -> AP -> Nat -> Prop} (h : mW AD st op K) : BI P A st a w op μ F K := by
 unfold mW at h
 split at h
 .obtain ⟨ti, h1, h⟩ := h
  obtain ⟨u, l, hk, hl, hr⟩ := Wi hE hs hh h1 h
  exact ⟨l, _, _, u, w, μ, hk, ⟨Nat.le_refl _, hh.toHRel.less fun _ h => h.1⟩, hl, fun _ _ h => h, fun q hq => .inl (hr q hq)⟩
 .obtain ⟨ti, h1, h⟩ := h
  exact VU hE hs hh h1 h
 .obtain ⟨ti, h1, h⟩ := h
  exact VS hE hh h1 h
 .obtain ⟨ls, h1, h⟩ := h
  exact VT hs hh h1 h
 .obtain ⟨ti, e, te, l, h1, h2, h3, h4, h5, h6, h7, h⟩ := h
  exact QV hE hs hh h1 h2 h3 h4 h5 h6 h7 h
 .obtain ⟨ti, e, te, n, k1, k2, h1, h2, h3, h4, h5, h6, h7, h8, h⟩ := h
  exact Q1 hE hs hh h1 h2 h3 h4 h5 h6 h7 h8 h
 .obtain ⟨rfl, h⟩ := h
  exact TS hh h
 .exact T3 hE hs hh h
 .exact T4 hE hs hh h
 .exact T5 hE hs hh h
 .exact VV hs hh h
 .exact VW hE hs hh h
 .exact Wj hs hh h
 .exact VX hs hh h
 .obtain ⟨hc, s, x, t, h1, h2, h⟩ := h
  exact T2 hE hs hh hc h1 h2 h
 exact h.elim
end
end Go.E
/- Contracts (Az), calls, regions in the order of the text, control flow (B2). -/
namespace Go.E
open Go Go.RowKit
def Og (P : Program) (k : Nat) : Prop := ∀ (args : Array Value) (w : World), (callFunc k args).run P w = .ok (.enter k args) w
theorem ED {P : Program} {k : Nat} {fn : Func} {c : Code} (hf : P.funcs[k]? = some fn) (hb : fn.body = some c) (hn : (fn.name == "runtime.NumGoroutine") = false) : Og P k := by
 intro args w
 simp at hn
 simp [callFunc, program, Sem.run, hf, hb, hn]
structure Az (P : Program) (k : Nat) (ds : List DV) (Q : DV -> Prop) : Prop where
 enters : Og P k
 run : ∀ (O : Nat -> Prop) (w : World) (vs : Array Value), (∀ b, O b -> b < w.heap.size) -> vs.size = ds.length -> (∀ (i : Nat) (v : Value) (d : DV), vs[i]? = some v -> ds[i]? = some d -> As O w v d) ->
  Calls P k vs w fun e w' => ∃ v r, e = .returned v /\ As O w' v r /\ Q r /\ Below w.heap.size w w'
theorem Az.mono {P : Program} {k : Nat} {ds : List DV} {Q Q' : DV -> Prop} (h : Az P k ds Q) (hq : ∀ r, Q r -> Q' r) : Az P k ds Q' :=
 ⟨h.enters, fun O w vs h1 h2 h3 => (h.run O w vs h1 h2 h3).mono fun _ _ ⟨v, r, e, hr, q, hb⟩ => ⟨v, r, e, hr, hq r q, hb⟩⟩
def Cy (P : Program) (A : BD) (h : AP) (ctr k : Nat) (args : List LV) (K : LV -> AP -> Nat -> Prop) : Prop :=
 Og P k /\ ∀ (μ : Nat -> Option BQ) (w : World) (vs : Array Value), HRel A μ h (Fr ctr) w -> vs.size = args.length -> (∀ (i : Nat) (v : Value) (l : LV), vs[i]? = some v -> args[i]? = some l -> Aa (Af A μ h) μ w v l) ->
  Calls P k vs w fun e w' => ∃ u l h' c' μ', e = .returned u /\ K l h' c' /\ HRel A μ' h' (Fr c') w' /\ Aa (Af A μ' h') μ' w' u l /\ ∀ v x, Aa (Af A μ h) μ w v x -> Aa (Af A μ' h') μ' w' v x
theorem Cy.mono {P : Program} {A : BD} {h : AP} {ctr k : Nat} {args : List LV} {K K' : LV -> AP -> Nat -> Prop} (hc : Cy P A h ctr k args K) (hk : ∀ l h c, K l h c -> K' l h c) : Cy P A h ctr k args K' :=
 ⟨hc.1, fun μ w vs h1 h2 h3 => (hc.2 μ w vs h1 h2 h3).mono fun _ _ ⟨u, l, h', c', μ', e, q, r⟩ => ⟨u, l, h', c', μ', e, hk _ _ _ q, r⟩⟩
def FG (h : AP) : LV -> Option DV
 | .p d => some d
 | .lsl id sz off len => match AJ id h with
  | some (.row _ sz' elems) => if sz' = sz /\ off + len <= elems.length then some (.slice sz ((elems.drop off).take len)) else none
  | _ => none
 | .lmap id => match AJ id h with
  | some (.map m) => some (.map m)
  | some (.mapd m) => some (.map m)
  | _ => none
 | _ => none
def Gl (h : AP) : List LV -> Option (List DV)
 | [] => some []
 | l :: ls => match FG h l, Gl h ls with
  | some d, some ds => some (d :: ds)
  | _, _ => none
def Jv (h : AP) : LV -> Option DV
 | .lpb id off => match AJ id h with
  | some (.box cells) => (Gl h cells).map fun ds => .place ds off
  | _ => none
 | v => FG h v
def F9 (h : AP) : List LV -> Option (List DV)
 | [] => some []
 | l :: ls => match Jv h l, F9 h ls with
  | some d, some ds => some (d :: ds)
  | _, _ => none
def FP (h : AP) : LV -> Option DV
 | .fn f l => (F9 h l).map (.fn f)
 | .agg l => (Gl h l).map .agg
 | .tup l => (Gl h l).map .tup
 | .lpb id off => match AJ id h with
  | some (.box cells) => (Gl h cells).map fun ds => .place ds off
  | _ => none
 | v => FG h v
def Iy : LV -> List Nat
 | .lsl id _ _ _ | .lmap id => [id]
 | _ => []
def NY (h : AP) : LV -> List Nat
 | .lpb id _ => match AJ id h with
  | some (.box cells) => id :: cells.flatMap Iy
  | _ => []
 | v => Iy v
def ET (h : AP) : LV -> List Nat
 | .fn _ l => l.flatMap (NY h)
 | .agg l | .tup l => l.flatMap Iy
 | .lpb id _ => match AJ id h with
  | some (.box cells) => id :: cells.flatMap Iy
  | _ => []
 | v => Iy v
def By (h : AP) : List LV -> Option (List DV)
 | [] => some []
 | l :: ls => match FP h l, By h ls with
  | some d, some ds => some (d :: ds)
  | _, _ => none
def B6 : List Nat -> AP -> AP
 | [], h => h
 | i :: l, h => B6 l (Gk i h)
theorem G1 {l : List Nat} : ∀ {h : AP} {id : Nat} {x : BB}, AJ id (B6 l h) = some x -> id ∉ l /\ AJ id h = some x := by
 induction l with
 | nil => intro h id x hx; exact ⟨by simp, hx⟩
 | cons i l ih =>
  intro h id x hx
  obtain ⟨h1, h2⟩ := ih hx
  obtain ⟨h3, h4⟩ := F7 h2
  exact ⟨by simp [h1, h3], h4⟩
section
variable {P : Program} {A : BD} {μ : Nat -> Option BQ} {h : AP} {F : Nat -> Prop} {ctr : Nat} {w : World}
theorem G2 (hh : HRel A μ h F w) {l : List Nat} {id : Nat} {x : BB} {loc : BQ} (hid : id ∈ l) (hx : AJ id h = some x) (hm : μ id = some loc) (hn : loc.nil = false) : ¬ Af A μ (B6 l h) loc.b := by
 rintro (hO | ⟨j, y, lc, h1, h2, h3, h4⟩)
 .exact (hh.base id x loc hx hm hn).2.1 hO
 obtain ⟨g1, g2⟩ := G1 h1
 have := hh.inj _ _ _ _ _ _ g2 hx h2 hm h3 hn h4
 subst this; exact g1 hid
theorem Fq {l : List Nat} : ∀ b, Af A μ (B6 l h) b -> Af A μ h b := by
 rintro b (hb | ⟨id, x, lc, h1, h2, h3, h4⟩)
 .exact .inl hb
 exact .inr ⟨id, x, lc, (G1 h1).2, h2, h3, h4⟩
theorem L3 (hh : HRel A μ h F w) {l : List Nat} {v : Value} {x : LV} {d : DV} (hv : Aa (Af A μ h) μ w v x) (hd : FG h x = some d) (hl : ∀ id ∈ Iy x, id ∈ l) : As (Af A μ (B6 l h)) w v d := by
 unfold FG at hd
 split at hd
 .cases hd; exact hv.p_inv.mono (BJ.refl _ _) (fun b _ hb => Fq b hb)
 .rename_i id sz off len
  split at hd
  .rename_i e sz' elems hx
   split at hd
   .rename_i hc
    cases hd
    obtain ⟨rfl, hfit⟩ := hc
    have hid : id ∈ l := hl id (by simp [Iy])
    cases hv with
    | lsln _ loc hm hn => simp; exact .snil _
    | lsl _ _ _ cap ad loc hm hn hcap hlc had hbk hsp =>
     obtain ⟨loc', hm', hz, hel, hrow⟩ := hh.obj id _ hx
     rw [hm] at hm'; cases hm'
     rcases hrow with ⟨hn', _⟩ | ⟨_, c, hb, hcs, hle, hcm, hrel⟩
     .rw [hn] at hn'; cases hn'
     have hlen : ((elems.drop off).take len).length = len := by simp; omega
     have hno := G2 hh hid hx hm hn
     have hlt := (hh.base id _ loc hx hm hn).1
     have elt : ∀ i y, ((elems.drop off).take len)[i]? = some y -> i < len /\ elems[off + i]? = some y := by
      intro i y hy
      have hi := (List.getElem?_eq_some_iff.1 hy).1
      rw [hlen] at hi
      rw [List.getElem?_take, if_pos hi, List.getElem?_drop] at hy
      exact ⟨hi, hy⟩
     by_cases h0 : cap = 0
     .have : len = 0 := by omega
      subst this
      have he : (elems.drop off).take 0 = [] := by simp
      rw [he]
      have hae : ad = ⟨loc.b, ad.off, none⟩ := by cases ad; simp at hbk hsp; simp [hbk, hsp]
      rw [hae]
      exact .slice loc.b ad.off cap loc.sz [] (fun _ _ => undef) hno hlt (by simp) (by simp) (by simp) (by simp) (by simp)
     have had' := had (by omega)
     subst had'
     have hin : ∀ i j, i < len -> j < loc.sz -> loc.o + (off + i) * loc.sz + j < c.size := by
      intro i j hi hj
      have : (off + i + 1) * loc.sz <= loc.cap * loc.sz := Nat.mul_le_mul_right _ (by omega)
      rw [Nat.add_mul] at this; omega
     have key : As (Af A μ (B6 l h)) w (.slice (some ⟨loc.b, loc.o + off * loc.sz, none⟩) ((elems.drop off).take len).length cap) (.slice loc.sz ((elems.drop off).take len)) := by
      refine .slice loc.b (loc.o + off * loc.sz) cap loc.sz _ (fun i j => c.getD (loc.o + (off + i) * loc.sz + j) undef) hno hlt (fun y hy => hel y (List.mem_of_mem_drop (List.mem_of_mem_take hy))) (by omega) (by omega) (fun i j hi hj => ?_) (fun i j y d hy hd => ?_)
      .rw [hlen] at hi
       have := hin i j hi hj
       rw [show loc.o + off * loc.sz + i * loc.sz + j = loc.o + (off + i) * loc.sz + j by rw [Nat.add_mul]; omega]
       exact Ck hb (by simp [Array.getD, this])
      obtain ⟨hi, hy'⟩ := elt i y hy
      have hj := (List.getElem?_eq_some_iff.1 hd).1
      have hyl := hel y (List.mem_of_getElem? hy')
      have := hin i j hi (by omega)
      exact (hrel (off + i) j y d _ hy' hd (by simp [Array.getD, this])).mono (BJ.refl _ _) (fun b _ hb => Fq b hb)
     rw [hlen] at key; exact key
   cases hd
  cases hd
 .rename_i id
  split at hd
  .rename_i m hx
   cases hd
   have hid : id ∈ l := hl id (by simp [Iy])
   cases hv with
   | lmap _ loc hm hn =>
    obtain ⟨loc', hm', _, es, hb, hsz, hborn, hrel⟩ := hh.obj id _ hx
    rw [hm] at hm'; cases hm'
    exact .map loc.b es es.size m (G2 hh hid hx hm hn) (hh.base id _ loc hx hm hn).1 hb hsz (T6 hborn)
     (fun i e p he hp => (hrel i e p he hp).1.mono (BJ.refl _ _) (fun b _ hb => Fq b hb)) (fun i e p he hp => (hrel i e p he hp).2.mono (BJ.refl _ _) (fun b _ hb => Fq b hb))
  .rename_i m hx
   cases hd
   have hid : id ∈ l := hl id (by simp [Iy])
   cases hv with
   | lmap _ loc hm hn =>
    obtain ⟨loc', hm', _, es, clock, hb, hsz, hborn, hrel⟩ := hh.obj id _ hx
    rw [hm] at hm'; cases hm'
    exact .map loc.b es clock m (G2 hh hid hx hm hn) (hh.base id _ loc hx hm hn).1 hb hsz hborn
     (fun i e p he hp => (hrel i e p he hp).1.mono (BJ.refl _ _) (fun b _ hb => Fq b hb)) (fun i e p he hp => (hrel i e p he hp).2.mono (BJ.refl _ _) (fun b _ hb => Fq b hb))
  cases hd
 cases hd
theorem KG (hh : HRel A μ h F w) {l : List Nat} : ∀ {ls : List LV} {ds : List DV}, Gl h ls = some ds -> (∀ id ∈ ls.flatMap Iy, id ∈ l) ->
  ls.length = ds.length /\ ∀ (i : Nat) (v : Value) (x : LV) (d : DV), ls[i]? = some x -> ds[i]? = some d -> Aa (Af A μ h) μ w v x -> As (Af A μ (B6 l h)) w v d
 | [], ds, hd, _ => by simp [Gl] at hd; subst hd; simp
 | x :: ls, ds, hd, hl => by
  simp only [Gl] at hd
  split at hd
  .rename_i d ds' h1 h2
   cases hd
   obtain ⟨g1, g2⟩ := KG hh h2 (fun id hid => hl id (by simp at hid ⊢; exact .inr hid))
   refine ⟨by simp [g1], fun i v y e hy he hv => ?_⟩
   cases i with
   | zero => simp at hy he; subst hy he; exact L3 hh hv h1 (fun id hid => hl id (by simp; exact .inl hid))
   | succ i => exact g2 i v y e (by simpa using hy) (by simpa using he) hv
  cases hd
theorem Xy (hh : HRel A μ h F w) {l : List Nat} {v : Value} {x : LV} {d : DV} (hv : Aa (Af A μ h) μ w v x) (hd : Jv h x = some d) (hl : ∀ id ∈ NY h x, id ∈ l) : As (Af A μ (B6 l h)) w v d := by
 cases x with
 | lpb id off =>
  simp only [Jv] at hd
  split at hd
  .rename_i cells hx
   simp only [Option.map_eq_some_iff] at hd
   obtain ⟨ds, h1, rfl⟩ := hd
   have hl' : ∀ j ∈ id :: cells.flatMap Iy, j ∈ l := by simpa [NY, hx] using hl
   obtain ⟨g1, g2⟩ := KG hh h1 (fun j hj => hl' j (List.mem_cons_of_mem _ hj))
   cases hv with
   | lpb _ _ loc hm hn =>
    obtain ⟨loc', hm', hn', c, t, hb, hsz, hrel⟩ := hh.obj id _ hx
    rw [hm] at hm'; cases hm'
    have key : As (Af A μ (B6 l h)) w (.pointer (some ⟨loc.b, 0 + off, none⟩)) (.place ds off) := by
     refine .place loc.b 0 ds off (fun i => c.getD i undef) (G2 hh (hl' id (by simp)) hx hm hn) (hh.base id _ loc hx hm hn).1 (fun i hi => ?_) (fun i d hd => ?_)
     .exact Ck hb (by simp [Array.getD, show i < c.size by omega])
     have hi := (List.getElem?_eq_some_iff.1 hd).1
     have hx' : cells[i]? = some (cells[i]'(by omega)) := List.getElem?_eq_getElem _
     have hc : i < c.size := by omega
     exact g2 i _ _ d hx' hd (hrel i _ _ (by simp [Array.getD, hc]) hx')
    rw [Nat.zero_add] at key; exact key
  cases hd
 | _ => exact L3 hh hv hd hl
theorem Q4 (hh : HRel A μ h F w) {l : List Nat} : ∀ {ls : List LV} {ds : List DV}, F9 h ls = some ds -> (∀ id ∈ ls.flatMap (NY h), id ∈ l) ->
  ls.length = ds.length /\ ∀ (i : Nat) (v : Value) (x : LV) (d : DV), ls[i]? = some x -> ds[i]? = some d -> Aa (Af A μ h) μ w v x -> As (Af A μ (B6 l h)) w v d
 | [], ds, hd, _ => by simp [F9] at hd; subst hd; simp
 | x :: ls, ds, hd, hl => by
  simp only [F9] at hd
  split at hd
  .rename_i d ds' h1 h2
   cases hd
   obtain ⟨g1, g2⟩ := Q4 hh h2 (fun id hid => hl id (by simp at hid ⊢; exact .inr hid))
   refine ⟨by simp [g1], fun i v y e hy he hv => ?_⟩
   cases i with
   | zero => simp at hy he; subst hy he; exact Xy hh hv h1 (fun id hid => hl id (by simp; exact .inl hid))
   | succ i => exact g2 i v y e (by simpa using hy) (by simpa using he) hv
  cases hd
theorem T7 (hh : HRel A μ h F w) {l : List Nat} {v : Value} {x : LV} {d : DV} (hv : Aa (Af A μ h) μ w v x) (hd : FP h x = some d) (hl : ∀ id ∈ ET h x, id ∈ l) : As (Af A μ (B6 l h)) w v d := by
 cases x with
 | fn f ls =>
  simp only [FP, Option.map_eq_some_iff] at hd
  obtain ⟨ds, h1, rfl⟩ := hd
  obtain ⟨g1, g2⟩ := Q4 hh h1 hl
  cases hv with
  | fn _ vs _ hsz hr =>
   refine .fn f vs ds (by omega) fun i v d h1 h2 => ?_
   have hi := (List.getElem?_eq_some_iff.1 h2).1
   have hx : ls[i]? = some (ls[i]'(by omega)) := List.getElem?_eq_getElem _
   exact g2 i v _ d hx h2 (hr i v _ h1 hx)
 | agg ls =>
  simp only [FP, Option.map_eq_some_iff] at hd
  obtain ⟨ds, h1, rfl⟩ := hd
  obtain ⟨g1, g2⟩ := KG hh h1 hl
  cases hv with
  | agg vs _ hsz hr =>
   refine .agg vs ds (by omega) fun i v d h1 h2 => ?_
   have hi := (List.getElem?_eq_some_iff.1 h2).1
   have hx : ls[i]? = some (ls[i]'(by omega)) := List.getElem?_eq_getElem _
   exact g2 i v _ d hx h2 (hr i v _ h1 hx)
 | tup ls =>
  simp only [FP, Option.map_eq_some_iff] at hd
  obtain ⟨ds, h1, rfl⟩ := hd
  obtain ⟨g1, g2⟩ := KG hh h1 hl
  cases hv with
  | tup vs _ hsz hr =>
   refine .tup vs ds (by omega) fun i v d h1 h2 => ?_
   have hi := (List.getElem?_eq_some_iff.1 h2).1
   have hx : ls[i]? = some (ls[i]'(by omega)) := List.getElem?_eq_getElem _
   exact g2 i v _ d hx h2 (hr i v _ h1 hx)
 | lpb id off =>
  simp only [FP] at hd
  split at hd
  .rename_i cells hx
   simp only [Option.map_eq_some_iff] at hd
   obtain ⟨ds, h1, rfl⟩ := hd
   have hl' : ∀ j ∈ id :: cells.flatMap Iy, j ∈ l := by simpa [ET, hx] using hl
   obtain ⟨g1, g2⟩ := KG hh h1 (fun j hj => hl' j (List.mem_cons_of_mem _ hj))
   cases hv with
   | lpb _ _ loc hm hn =>
    obtain ⟨loc', hm', hn', c, t, hb, hsz, hrel⟩ := hh.obj id _ hx
    rw [hm] at hm'; cases hm'
    have key : As (Af A μ (B6 l h)) w (.pointer (some ⟨loc.b, 0 + off, none⟩)) (.place ds off) := by
     refine .place loc.b 0 ds off (fun i => c.getD i undef) (G2 hh (hl' id (by simp)) hx hm hn) (hh.base id _ loc hx hm hn).1 (fun i hi => ?_) (fun i d hd => ?_)
     .exact Ck hb (by simp [Array.getD, show i < c.size by omega])
     have hi := (List.getElem?_eq_some_iff.1 hd).1
     have hx' : cells[i]? = some (cells[i]'(by omega)) := List.getElem?_eq_getElem _
     have hc : i < c.size := by omega
     exact g2 i _ _ d hx' hd (hrel i _ _ (by simp [Array.getD, hc]) hx')
    rw [Nat.zero_add] at key; exact key
  cases hd
 | _ => exact L3 hh hv hd hl
theorem E7 (hh : HRel A μ h F w) {l : List Nat} : ∀ {ls : List LV} {ds : List DV}, By h ls = some ds -> (∀ id ∈ ls.flatMap (ET h), id ∈ l) ->
  ls.length = ds.length /\ ∀ (i : Nat) (v : Value) (x : LV) (d : DV), ls[i]? = some x -> ds[i]? = some d -> Aa (Af A μ h) μ w v x -> As (Af A μ (B6 l h)) w v d
 | [], ds, hd, _ => by simp [By] at hd; subst hd; simp
 | x :: ls, ds, hd, hl => by
  simp only [By] at hd
  split at hd
  .rename_i d ds' h1 h2
   cases hd
   obtain ⟨g1, g2⟩ := E7 hh h2 (fun id hid => hl id (by simp at hid ⊢; exact .inr hid))
   refine ⟨by simp [g1], fun i v y e hy he hv => ?_⟩
   cases i with
   | zero => simp at hy he; subst hy he; exact T7 hh hv h1 (fun id hid => hl id (by simp; exact .inl hid))
   | succ i => exact g2 i v y e (by simpa using hy) (by simpa using he) hv
  cases hd
theorem Cy.pure {k : Nat} {args : List LV} {ds : List DV} {Q : DV -> Prop} {K : LV -> AP -> Nat -> Prop} (hds : By h args = some ds) (hf : Az P k ds Q)
  (hK : ∀ r, Q r -> K (.p r) (if r.scalar then h else B6 (args.flatMap (ET h)) h) ctr) : Cy P A h ctr k args K := by
 refine ⟨hf.enters, fun μ w vs hh hsz hr => ?_⟩
 obtain ⟨g1, g2⟩ := E7 hh (l := args.flatMap (ET h)) hds (fun id hid => hid)
 have hO : ∀ b, Af A μ (B6 (args.flatMap (ET h)) h) b -> b < w.heap.size := by
  rintro b (hb | ⟨id, x, lc, h1, h2, h3, rfl⟩)
  .exact Nat.lt_of_lt_of_le (A.hO b hb).1 hh.size
  exact (hh.base id x lc (G1 h1).2 h2 h3).1
 refine (hf.run _ w vs hO (by omega) fun i v d hv hd => ?_).mono fun e w' ⟨v, r, he, hp, hq, hb⟩ => ?_
 .have hi := (List.getElem?_eq_some_iff.1 hd).1
  have hx : args[i]? = some (args[i]'(by omega)) := List.getElem?_eq_getElem _
  exact g2 i v _ d hx hd (hr i v _ hv hx)
 by_cases hs : r.scalar = true
 .obtain ⟨hh', hown⟩ := hh.keep (w' := w') (h' := h) (μ' := μ) (fun _ _ h => h) hh.fresh (fun _ _ h => h) hb.block hb.size hb.os hb.tape hb.output
  refine ⟨v, .p r, h, ctr, μ, he, by have := hK r hq; rwa [if_pos hs] at this, hh', .p _ _ (hp.scalar hs _ _), fun v x hv => hv.mono ⟨hb.size, fun b hb' _ => hb.block b hb'⟩ (fun b _ hb => hb) (fun _ _ h => h)⟩
 obtain ⟨hh', hown⟩ := hh.keep (w' := w') (h' := B6 (args.flatMap (ET h)) h) (μ' := μ) (fun _ _ h => h) hh.fresh (fun id x hx => (G1 hx).2) hb.block hb.size hb.os hb.tape hb.output
 refine ⟨v, .p r, _, ctr, μ, he, by have := hK r hq; rwa [if_neg hs] at this, hh', .p _ _ hp, fun v x hv => hv.mono ⟨hb.size, fun b hb' _ => hb.block b hb'⟩ (fun b _ hb => Fq b hb) (fun _ _ h => h)⟩
end
end Go.E
/- Regions in the order of the text (wpops) and control flow (B2). -/
namespace Go.E
open Go Go.RowKit
def Zr (P : Program) (A : BD) (AD : A5) (st : St) (o : Oper) (K : St -> Prop) : Prop :=
 match o.op with
 | .load .. | .store .. | .alloc .. | .box .. | .buildSlice .. | .makeSlice .. | .makeMap .. | .lookup .. | .mapUpdate .. | .mapEntry .. | .entryStore .. | .range .. | .next .. | .entry .. => mW AD st o.op fun l h c => K (({ st with heap := h, ctr := c } : St).put o.dst l)
 | .call c => match c.callee with
  | .builtin .append => mW AD st o.op fun l h c => K (({ st with heap := h, ctr := c } : St).put o.dst l)
  | .builtin .delete => AAm AD st c fun l h c => K (({ st with heap := h, ctr := c } : St).put o.dst l)
  | .builtin .clear => AAn AD st c fun l h c => K (({ st with heap := h, ctr := c } : St).put o.dst l)
  | .value f => match st.eval f with
   | .fn k caps => Cy P A st.heap st.ctr k (c.args.toList.map st.eval ++ caps) fun l h c => K (({ st with heap := h, ctr := c } : St).put o.dst l)
   | _ => False
  | _ => nW AD st o.op fun l => K (st.put o.dst l)
 | _ => nW AD st o.op fun l => K (st.put o.dst l)
def DJ (st : St) (ops : Array Oper) (j : Nat) : LV :=
 match ops[j]? with
 | some o => match o.dst with
  | some d => st.eval (.tmp d)
  | none => .any
 | none => .any
section
variable {P : Program} {A : BD} {AD : A5}
theorem Sj (hE : BC P AD) {st : St} {o : Oper} {K : St -> Prop} (h : Zr P A AD st o K) {a : Act} {w : World} (hR : R A st a w) {next : Act -> World -> Prop} {Q : Exit -> Act -> World -> Prop}
  (hK : ∀ st' a' w', K st' -> R A st' a' w' -> next a' w') : o.wp P a w next Q := by
 obtain ⟨⟨μ, hh, hs0⟩, hnt, hdef⟩ := hR
 have hs := fun x => G3 hs0 x
 have hR : R A st a w := ⟨⟨μ, hh, hs0⟩, hnt, hdef⟩
 have nCase : nW AD st o.op (fun l => K (st.put o.dst l)) -> o.wp P a w next Q := by
  intro h
  obtain ⟨u, v, hk, hv, hg⟩ := Jb hE hs h
  unfold Oper.wp
  rw [hg o rfl w]
  exact hK _ _ _ hk (hR.put hs0 hh hv)
 have mCase : mW AD st o.op (fun l h c => K (({ st with heap := h, ctr := c } : St).put o.dst l)) -> o.wp P a w next Q := by
  intro h
  obtain ⟨l, h', c', u, w', μ', hk, ⟨hle, hh0⟩, hl, hmono, hrun⟩ := QW (a := a) (F := Fr st.ctr) hE hs ⟨hh, Nat.le_refl _⟩ h
  have hh' : HRel A μ' h' (Fr c') w' := hh0.less fun id hid => by simp only [Fr] at hid ⊢; omega
  have := hK _ _ _ hk (hR.put' (fun t ht => hmono _ _ (hs0 t ht)) hh' hl)
  unfold Oper.wp
  rcases hrun o rfl with hr | ⟨hr, rfl⟩ <;> rw [hr] <;> exact this
 unfold Zr at h
 split at h
 .exact mCase h
 .exact mCase h
 .exact mCase h
 .exact mCase h
 .exact mCase h
 .exact mCase h
 .exact mCase h
 .exact mCase h
 .exact mCase h
 .exact mCase h
 .exact mCase h
 .exact mCase h
 .exact mCase h
 .exact mCase h
 .rename_i c hop
  split at h
  .exact mCase h
  .rename_i hcal
   obtain ⟨l, h', c', u, w', μ', hk, ⟨hle, hh0⟩, hl, hmono, hrun⟩ := Xz (a := a) (F := Fr st.ctr) hE hs ⟨hh, Nat.le_refl _⟩ hcal h
   have hh' : HRel A μ' h' (Fr c') w' := hh0.less fun id hid => by simp only [Fr] at hid ⊢; omega
   have := hK _ _ _ hk (hR.put' (fun t ht => hmono _ _ (hs0 t ht)) hh' hl)
   unfold Oper.wp
   rcases hrun o hop with hr | ⟨hr, rfl⟩ <;> rw [hr] <;> exact this
  .rename_i hcal
   obtain ⟨l, h', c', u, w', μ', hk, ⟨hle, hh0⟩, hl, hmono, hrun⟩ := X0 (a := a) (F := Fr st.ctr) hE hs ⟨hh, Nat.le_refl _⟩ hcal h
   have hh' : HRel A μ' h' (Fr c') w' := hh0.less fun id hid => by simp only [Fr] at hid ⊢; omega
   have := hK _ _ _ hk (hR.put' (fun t ht => hmono _ _ (hs0 t ht)) hh' hl)
   unfold Oper.wp
   rcases hrun o hop with hr | ⟨hr, rfl⟩ <;> rw [hr] <;> exact this
  .rename_i f hcal
   split at h
   .rename_i k caps hf
    obtain ⟨hent, hcall⟩ := h
    have hfv := hs f
    rw [hf] at hfv
    generalize hv : a.eval f = v at hfv
    cases hfv with
    | fn _ cs _ hsz hr =>
     have hx : (execOp a.eval o).run P w = .ok (.enter k (c.args.map a.eval ++ cs)) w := by
      simp [execOp, hop, resolve, hcal, Deferred.ofValue, hv, invoke]
      exact hent _ _
     unfold Oper.wp
     rw [hx, Oper.upon_enter]
     refine (hcall μ w _ hh (by simp [hsz]) fun i v l hvi hli => ?_).mono fun e w' ⟨u, l, h', c', μ', he, hk, hh', hl, hmono⟩ => ?_
     .rw [Array.getElem?_append] at hvi
      rw [List.getElem?_append] at hli
      by_cases hi : i < c.args.size
      .rw [if_pos (by simpa using hi)] at hvi hli
       exact Im hs c.args.toList i v l (by simpa using hvi) hli
      rw [if_neg (by simpa using hi)] at hvi hli
      exact hr _ v l (by simpa using hvi) (by simpa using hli)
     subst he
     exact hK _ _ _ hk (hR.put' (fun t ht => hmono _ _ (hs0 t ht)) hh' hl)
   exact h.elim
  exact nCase h
 exact nCase h
theorem Oh {st : St} {ops : Array Oper} {j : Nat} {a : Act} {w : World} {μ : Nat -> Option BQ} (hs : ∀ x, Aa (Af A μ st.heap) μ w (a.eval x) (st.eval x)) :
  (∀ b, DJ st ops j = .p (.bool b) -> yielded ops a.tmps j = some b) /\ (DJ st ops j = .und -> yielded ops a.tmps j = none) := by
 unfold DJ yielded
 cases ho : ops[j]? with
 | none => simp
 | some o =>
  simp only [Option.bind_some]
  cases hd : o.dst with
  | none => simp
  | some d =>
   simp only
   have hx := hs (.tmp d)
   constructor
   .intro b hb
    rw [hb] at hx
    have := hx.bool_inv
    simp only [Act.eval, Array.getD_eq_getD_getElem?] at this
    cases hq : a.tmps[d]? with
    | none => rw [hq] at this; simp [undef] at this
    | some v => rw [hq] at this; simp at this; subst this; simp [hq]
   intro hb
   rw [hb] at hx
   generalize hv : a.eval (.tmp d) = v at hx
   cases hx
   simp only [Act.eval, Array.getD_eq_getD_getElem?] at hv
   cases hq : a.tmps[d]? with
   | none => simp [hq]
   | some v => rw [hq] at hv; simp at hv; subst hv; simp [hq, undef]
end
def B2 (P : Program) (A : BD) (c : Code) (Q : Exit -> St -> Prop) (st : St) : Prop :=
 ∀ a w, R A st a w -> c.wp P (fun e a' w' => ∃ st', R A st' a' w' /\ Q e st') a w
section
variable {P : Program} {A : BD} {AD : A5} {Q : Exit -> St -> Prop} {st : St}
def Q5 (next : St -> Prop) (Q : Exit -> St -> Prop) : Exit -> St -> Prop
 | .normal, st => next st
 | e, st => Q e st
def G4 (id : Nat) (Q : Exit -> St -> Prop) : Exit -> St -> Prop
 | .exit id', st => if id' = id then Q .normal st else Q (.exit id') st
 | e, st => Q e st
theorem LJ {c : Code} {Q' : Exit -> St -> Prop} (h : B2 P A c Q st) (hq : ∀ e st, Q e st -> Q' e st) : B2 P A c Q' st :=
 fun a w hR => wp_mono (h a w hR) fun _ _ _ ⟨st', hR', q⟩ => ⟨st', hR', hq _ _ q⟩
theorem AE (h : Q .normal st) : B2 P A .skip Q st := fun _ _ hR => wp_skip ⟨st, hR, h⟩
theorem KH {l : Nat} (h : Q .normal st) : B2 P A (.label l) Q st := fun _ _ hR => wp_label ⟨st, hR, h⟩
theorem AU {id : Nat} (h : Q (.exit id) st) : B2 P A (.exit id) Q st := fun _ _ hR => wp_exit ⟨st, hR, h⟩
theorem AF (h : Q .ret st) : B2 P A .ret Q st := fun _ _ hR => wp_ret ⟨st, hR, h⟩
theorem AB {x y : Code} (h : B2 P A x (Q5 (B2 P A y Q) Q) st) : B2 P A (.seq x y) Q st := fun a w hR =>
 wp_seq (wp_mono (h a w hR) fun e a' w' ⟨st', hR', q⟩ => by
  cases e with
  | normal => exact q a' w' hR'
  | _ => exact ⟨st', hR', q⟩)
theorem AH {id : Nat} {c : Code} (h : B2 P A c (G4 id Q) st) : B2 P A (.block id c) Q st := fun a w hR =>
 wp_block (wp_mono (h a w hR) fun e a' w' ⟨st', hR', q⟩ => by
  cases e with
  | exit id' =>
   simp only [G4] at q
   simp only [Exit.inBlock]
   split at q
   .rw [if_pos ‹_›]; exact ⟨st', hR', q⟩
   rw [if_neg ‹_›]; exact ⟨st', hR', q⟩
  | _ => exact ⟨st', hR', q⟩)
theorem QX {c : Operand} {x y : Code} {b : Bool} (hc : st.eval c = .p (.bool b)) (ht : b = true -> B2 P A x Q st) (hf : b = false -> B2 P A y Q st) : B2 P A (.cond c x y) Q st := fun a w hR => by
 obtain ⟨μ, hh, hs⟩ := hR.ex
 have hv := G3 hs c
 rw [hc] at hv
 exact wp_cond_split hv.bool_inv (fun e => ht e a w hR) (fun e => hf e a w hR)
theorem Yw {c : Code} {ι : Type} (I : ι -> St -> Prop) (m : ι -> Nat) (i₀ : ι) (h₀ : I i₀ st) (round : ∀ i st, I i st -> B2 P A c (Q5 (fun st' => ∃ i', I i' st' /\ m i' < m i) Q) st) : B2 P A (.loop c) Q st := fun a w hR => by
 intro b k cs
 have key : ∀ n i st a w, m i = n -> I i st -> R A st a w -> ∃ e a' w', (∃ st', R A st' a' w' /\ Q e st') /\ Arrives P (lone (b.at a (.code c :: .inLoop c :: k)) cs w) b k cs e a' w' := by
  intro n
  induction n using Nat.strongRecOn with
  | _ n ih =>
   intro i st a w hn hI hR
   obtain ⟨e, a₁, w₁, ⟨st', hR', hq⟩, harr⟩ := round i st hI a w hR b (.inLoop c :: k) cs
   cases e with
   | normal =>
    obtain ⟨i', hI', hlt⟩ := hq
    obtain ⟨e₂, a₂, w₂, hq₂, harr₂⟩ := ih (m i') (hn ▸ hlt) i' st' a₁ w₁ rfl hI' hR'
    exact ⟨e₂, a₂, w₂, hq₂, .of_steps (Steps.trans harr (.one step_inLoop)) harr₂⟩
   | exit id => exact ⟨_, a₁, w₁, ⟨st', hR', hq⟩, .pass (x := .inLoop c) rfl (fun _ _ => .inl (by simp)) harr⟩
   | goto l => exact ⟨_, a₁, w₁, ⟨st', hR', hq⟩, .pass (x := .inLoop c) rfl (fun _ _ => .inl (by simp)) harr⟩
   | ret => exact ⟨_, a₁, w₁, ⟨st', hR', hq⟩, .pass (x := .inLoop c) rfl (fun _ _ => .inl (by simp)) harr⟩
   | panic ch => exact ⟨_, a₁, w₁, ⟨st', hR', hq⟩, .pass (x := .inLoop c) rfl (fun _ _ => .inl (by simp)) harr⟩
   | outgrown => exact ⟨_, a₁, w₁, ⟨st', hR', hq⟩, .pass (x := .inLoop c) rfl (fun _ _ => .inl (by simp)) harr⟩
 obtain ⟨e, a', w', hq, harr⟩ := key _ i₀ st a w rfl h₀ hR
 exact ⟨e, a', w', hq, .of_steps (.one step_loop) harr⟩
def Wk (tt : Nat -> Option TI) (st : St) : ResultVar -> Option LV
 | .tmp t => some (st.eval (.tmp t))
 | .cell t ty => match tt ty, st.eval (.tmp t) with
  | some ti, .lpb id off => match AJ id st.heap with
   | some (.box cells) => Cz ti off cells
   | _ => none
  | _, _ => none
def Jw (tt : Nat -> Option TI) (st : St) : List ResultVar -> Option (List LV)
 | [] => some []
 | r :: rs => match Wk tt st r, Jw tt st rs with
  | some l, some ls => some (l :: ls)
  | _, _ => none
def Fs (tt : Nat -> Option TI) (rs : List ResultVar) (st : St) : Option DV :=
 match Jw tt st rs with
 | some [l] => FP st.heap l
 | some ls => (By st.heap ls).map .tup
 | none => none
def NZ (K : St -> Prop) : Exit -> St -> Prop
 | .normal, st | .ret, st => K st
 | _, _ => False
def DA : Nat -> List DV -> List (Nat × LV)
 | _, [] => []
 | n, d :: ds => (n, .p d) :: DA (n + 1) ds
theorem Oi : ∀ (ds : List DV) (n t : Nat), AJ t (DA n ds) = if n <= t then (ds[t - n]?).map .p else none
 | [], n, t => by simp [DA, AJ]
 | d :: ds, n, t => by
  simp only [DA, AJ]
  by_cases e : t = n
  .subst e; simp
  rw [if_neg e, Oi ds (n + 1) t]
  by_cases h : n + 1 <= t
  .rw [if_pos h, if_pos (by omega), show t - n = t - (n + 1) + 1 by omega, List.getElem?_cons_succ]
  rw [if_neg h, if_neg (by omega)]
end
end Go.E
/- From a body to a contract (Q6). -/
namespace Go.E
open Go Go.RowKit
section
variable {P : Program} {A : BD} {F : Nat -> Prop} {AD : A5} {μ : Nat -> Option BQ} {st : St} {a : Act} {w : World}
def MU (P : Program) (tmps : Array Value) : ResultVar -> Sem Value
 | .tmp t => pure (tmps.getD t undef)
 | .cell a t => do loadVar t (<- asAddr (tmps.getD a undef))
theorem Wl (hE : BC P AD) (hs : ∀ x, Aa (Af A μ st.heap) μ w (a.eval x) (st.eval x)) (hh : HRel A μ st.heap F w) {r : ResultVar} {l : LV} (h : Wk AD.tt st r = some l) :
  ∃ v, (MU P a.tmps r).run P w = .ok v w /\ Aa (Af A μ st.heap) μ w v l := by
 cases r with
 | tmp t =>
  simp only [Wk, Option.some.injEq] at h
  subst h
  exact ⟨a.eval (.tmp t), rfl, hs _⟩
 | cell t ty =>
  simp only [Wk] at h
  split at h
  .rename_i ti id off h1 h2
   split at h
   .rename_i cells h3
    have hv := hs (.tmp t)
    rw [h2] at hv
    generalize he : a.eval (.tmp t) = v at hv
    cases hv with
    | lpb _ _ loc hm hn =>
     obtain ⟨loc', hm', hn', c, e, hb, hsz, hrel⟩ := hh.obj id _ h3
     rw [hm] at hm'; cases hm'
     have hok := hE.tt ty ti h1
     obtain ⟨g1, g2⟩ := Jx (O := Af A μ st.heap) (μ := μ) (w := w) hok (f := fun i => c.getD i undef) (fun i y hy => by
      have hi := (List.getElem?_eq_some_iff.1 hy).1
      have hc : i < c.size := by omega
      exact hrel i _ y (by simp [Array.getD, hc]) hy) h
     refine ⟨_, ?_, g2⟩
     have := Mq hok (w := w) (b := loc.b) (o := off) (f := fun j => c.getD (off + j) undef) (fun j hj => by
      have := g1 j hj
      exact Ck hb (by simp [Array.getD, show off + j < c.size by omega]))
     simp only [Act.eval] at he
     simp only [MU, he, asAddr, Sem.run_bind, Sem.run_pure, Result.andThen_ok, this]
   cases h
  cases h
theorem MV (hE : BC P AD) (hs : ∀ x, Aa (Af A μ st.heap) μ w (a.eval x) (st.eval x)) (hh : HRel A μ st.heap F w) : ∀ {rs : List ResultVar} {ls : List LV}, Jw AD.tt st rs = some ls ->
  ∃ vs : List Value, (rs.mapM (MU P a.tmps)).run P w = .ok vs w /\ vs.length = ls.length /\ ∀ (i : Nat) (v : Value) (l : LV), vs[i]? = some v -> ls[i]? = some l -> Aa (Af A μ st.heap) μ w v l
 | [], ls, h => by simp [Jw] at h; subst h; exact ⟨[], by simp, rfl, by simp⟩
 | r :: rs, ls, h => by
  simp only [Jw] at h
  split at h
  .rename_i l ls' h1 h2
   cases h
   obtain ⟨v, g1, g2⟩ := Wl hE hs hh h1
   obtain ⟨vs, g3, g4, g5⟩ := MV hE hs hh h2
   refine ⟨v :: vs, by simp [List.mapM_cons, g1, g3], by simp [g4], fun i x y hx hy => ?_⟩
   cases i with
   | zero => simp at hx hy; subst hx hy; exact g2
   | succ i => exact g5 i x y (by simpa using hx) (by simpa using hy)
  cases h
theorem MW {fn : Func} {vs : List Value} (h : (fn.results.toList.mapM (MU P a.tmps)).run P w = .ok vs w) :
  (results fn a.tmps).run P w = .ok (match vs with | [v] => v | vs => .tuple vs.toArray) w := by
 have e : fn.results.mapM (MU P a.tmps) = (fn.results.toList.mapM (MU P a.tmps)) >>= fun l => pure l.toArray := by
  rw [Array.mapM_eq_mapM_toList]; simp
 have h2 : results fn a.tmps = (do
   let vs <- fn.results.mapM (MU P a.tmps)
   pure (if h : vs.size = 1 then vs[0] else .tuple vs)) := by
  unfold results MU; rfl
 rw [h2, e]
 simp only [Sem.run_bind, h, Result.andThen_ok, Sem.run_pure]
 congr 1
 match vs with
 | [] => simp
 | [v] => simp
 | v :: u :: vs => simp
theorem VY (hE : BC P AD) (hs : ∀ x, Aa (Af A μ st.heap) μ w (a.eval x) (st.eval x)) (hh : HRel A μ st.heap F w) {fn : Func} {r : DV} (h : Fs AD.tt fn.results.toList st = some r) :
  ∃ v, (results fn a.tmps).run P w = .ok v w /\ As A.O w v r := by
 unfold Fs at h
 cases hr : Jw AD.tt st fn.results.toList with
 | none => rw [hr] at h; simp at h
 | some ls =>
  rw [hr] at h
  obtain ⟨vs, g1, g2, g3⟩ := MV (P := P) hE hs hh hr
  have hrun := MW g1
  have weaken : ∀ {l : List Nat} {v : Value} {d : DV}, As (Af A μ (B6 l st.heap)) w v d -> As A.O w v d := fun hp => hp.mono (BJ.refl _ _) (fun b _ hb => .inl hb)
  match ls, vs, g2 with
  | [], [], _ =>
   simp only [By, Option.map_some, Option.some.injEq] at h
   subst h
   exact ⟨_, hrun, .tup _ _ rfl (by simp)⟩
  | [l], [v], _ =>
   simp only at h
   exact ⟨_, hrun, weaken (T7 hh (g3 0 v l rfl rfl) h (fun id hid => hid))⟩
  | l :: m :: ls, u :: v :: vs, g2 =>
   simp only [Option.map_eq_some_iff] at h
   obtain ⟨ds, h1, rfl⟩ := h
   obtain ⟨k1, k2⟩ := E7 hh (l := (l :: m :: ls).flatMap (ET st.heap)) h1 (fun id hid => hid)
   refine ⟨_, hrun, .tup _ _ (by simpa [k1] using g2) fun i x d hx hd => ?_⟩
   have hi := (List.getElem?_eq_some_iff.1 hd).1
   have hl : (l :: m :: ls)[i]? = some ((l :: m :: ls)[i]'(by omega)) := List.getElem?_eq_getElem _
   exact weaken (k2 i x _ d hl hd (g3 i x _ (by simpa using hx) hl))
theorem Q6 (hE : BC P AD) {k : Nat} {fn : Func} {c : Code} (hf : P.funcs[k]? = some fn) (hb : fn.body = some c) (hn : (fn.name == "runtime.NumGoroutine") = false) {ds : List DV} (hlen : ds.length <= fn.ntmps) {Q : DV -> Prop}
  (h : ∀ A : BD, (∀ id, A.μ0 id = none) -> B2 P A c (NZ fun st => ∃ r, Fs AD.tt fn.results.toList st = some r /\ Q r) ⟨fn.ntmps, DA 0 ds, [], 0⟩) : Az P k ds Q := by
 refine ⟨ED hf hb hn, fun O w vs hO hsz hrel => ?_⟩
 let A : BD := ⟨w, O, fun _ => False, fun _ => none, fun b hb => ⟨hO b hb, id⟩⟩
 have hR : R A ⟨fn.ntmps, DA 0 ds, [], 0⟩ { tmps := vs ++ Array.replicate (fn.ntmps - vs.size) undef, defers := [] } w := by
  refine ⟨⟨fun _ => none, ⟨by simp [AJ], by simp [AJ], fun _ _ => rfl, by simp [AJ], Nat.le_refl _, fun _ _ _ => rfl, rfl, rfl, rfl, by simp [A]⟩, fun t ht => ?_⟩, by simp; omega, rfl⟩
  have hown : ∀ b, Af A (fun _ => none) [] b -> O b := by
   rintro b (hb | ⟨id, x, lc, h1, _⟩)
   .exact hb
   simp [AJ] at h1
  simp only [BZ, Oi, Nat.zero_le, if_true, Nat.sub_zero]
  by_cases hlt : t < ds.length
  .have hv : t < vs.size := by omega
   have e : ds[t]? = some ds[t] := by simp [hlt]
   rw [e]
   simp only [Option.map_some]
   have e2 : (vs ++ Array.replicate (fn.ntmps - vs.size) undef).getD t undef = vs[t] := by
    rw [Array.getD_eq_getD_getElem?, Array.getElem?_append_left hv]; simp [hv]
   rw [e2]
   exact .p _ _ ((hrel t _ _ (by simp [hv]) e).mono (BJ.refl _ _) (fun b _ hb => hown b hb))
  have e : ds[t]? = none := by simp; omega
  rw [e]; exact .any _
 refine calls_of_wp hf hb (wp_mono (h A (fun _ => rfl) _ _ hR) ?_)
 rintro e a' w' ⟨st', ⟨⟨μ, hh, hs⟩, hnt, hdef⟩, hq⟩
 have fin : (∃ r, Fs AD.tt fn.results.toList st' = some r /\ Q r) -> a'.defers = [] /\ ∃ v, (results fn a'.tmps).run P w' = .ok v w' /\ ∃ u r, Ending.returned v = .returned u /\ As O w' u r /\ Q r /\ Below w.heap.size w w' := by
  rintro ⟨r, h1, h2⟩
  obtain ⟨v, g1, g2⟩ := VY (P := P) hE (fun x => G3 hs x) hh h1
  exact ⟨hdef, v, g1, v, r, rfl, g2, h2, ⟨hh.os, hh.tape, hh.output, hh.size, fun b hb => hh.block b hb id⟩⟩
 cases e with
 | normal => exact fin hq
 | ret => exact fin hq
 | _ => exact hq.elim
end
end Go.E
/- Functions of this seat that turn a row of which they are handed the slice, and hand it back (slices.Delete). No condition. -/
namespace Go.E
def AAo : List Nat := [73]
end Go.E
/- Operations of a drawn region: one value and one effect each (B4), and that they read no more than they name (Oj). -/
namespace Go.E
open Go Go.RowKit
def LK (w w' : World) (O : Nat -> Prop) (v : Value) (e sz : Nat) (elems : List (List DV)) : Prop :=
 (∀ x ∈ elems, x.length = sz) /\ ((v = .slice none 0 0 /\ elems = []) \/
  ∃ a b o cap c, v = .slice (some a) elems.length cap /\ w.heap.size <= b /\ b < w'.heap.size /\ (0 < cap -> a = ⟨b, o, none⟩) /\ a.block = b /\ a.spot = none /\
   w'.heap[b]? = some (.cells c e (0, 0)) /\ c.size = o + cap * sz /\ elems.length <= cap /\ cap <= maxLen /\
   ∀ (i j : Nat) (x : List DV) (d : DV) (u : Value), elems[i]? = some x -> x[j]? = some d -> c[o + i * sz + j]? = some u -> As (fun q => O q \/ q = b) w' u d)
theorem LK.flat {w w' : World} {O : Nat -> Prop} {v : Value} {e sz : Nat} {elems : List (List DV)} (h : LK w w' O v e sz elems) (hf : ∀ x ∈ elems, ∀ d ∈ x, d.flat = true) (O' : Nat -> Prop) : LK w w' O' v e sz elems := by
 obtain ⟨h0, h | ⟨a, b, o, cap, c, h1, h2, h3, h4, h5, h6, h7, h8, h9, h10, h11⟩⟩ := h
 .exact ⟨h0, .inl h⟩
 exact ⟨h0, .inr ⟨a, b, o, cap, c, h1, h2, h3, h4, h5, h6, h7, h8, h9, h10, fun i j x d u hx hd hu => (h11 i j x d u hx hd hu).flat (hf x (List.mem_of_getElem? hx) d (List.mem_of_getElem? hd)) _ _⟩⟩
def Zs (l : List Nat) (el : List (List DV)) : Prop := l = [] \/ ∀ x ∈ el, ∀ d ∈ x, d.flat = true
structure G5 (P : Program) (k : Nat) (ds : List DV) (e sz : Nat) (elems : List (List DV)) : Prop where
 enters : Og P k
 run : ∀ (O : Nat -> Prop) (w : World) (vs : Array Value), (∀ b, O b -> b < w.heap.size) -> vs.size = ds.length -> (∀ (i : Nat) (v : Value) (d : DV), vs[i]? = some v -> ds[i]? = some d -> As O w v d) ->
  Calls P k vs w fun en w' => ∃ v, en = .returned v /\ LK w w' O v e sz elems /\ Below w.heap.size w w'
def D8 : Operand -> Bool
 | .func k => AAo.contains k
 | _ => false
theorem Yx {μ : Nat -> Option BQ} {h h' : AP} (he : ∀ id, AJ id h = AJ id h') : Bm μ h = Bm μ h' := by
 funext b; apply propext
 constructor
 .rintro ⟨id, o, loc, h1, h2⟩; exact ⟨id, o, loc, by rw [<- he]; exact h1, h2⟩
 rintro ⟨id, o, loc, h1, h2⟩; exact ⟨id, o, loc, by rw [he]; exact h1, h2⟩
theorem WB {A : BD} {μ : Nat -> Option BQ} {h h' : AP} (he : ∀ id, AJ id h = AJ id h') : Af A μ h = Af A μ h' := by
 funext b; simp only [Af, Yx he]
theorem HRel.eqv {A : BD} {μ : Nat -> Option BQ} {h h' : AP} {F : Nat -> Prop} {w : World} (hh : HRel A μ h F w) (he : ∀ id, AJ id h = AJ id h') : HRel A μ h' F w := by
 have ho := WB (A := A) (μ := μ) he
 refine ⟨?_, ?_, hh.fresh, ?_, hh.size, hh.block, hh.os, hh.tape, hh.output, hh.ext⟩
 .rw [<- ho]; intro id o; rw [<- he]; exact hh.obj id o
 .intro id id' o o' loc loc'; rw [<- he, <- he]; exact hh.inj id id' o o' loc loc'
 intro id o loc; rw [<- he]; exact hh.base id o loc
def Wm (P : Program) (h : AP) (ctr k : Nat) (args : List LV) (l : LV) (h' : AP) : Prop := Og P k /\ ∀ (A : BD) (F : Nat -> Prop) (μ : Nat -> Option BQ) (w : World) (vs : Array Value),
 HRel A μ h F w -> F ctr -> (∃ c0, ∀ q, c0 <= q -> F q) -> vs.size = args.length -> (∀ (i : Nat) (v : Value) (x : LV), vs[i]? = some v -> args[i]? = some x -> Aa (Af A μ h) μ w v x) ->
  Calls P k vs w fun en w' => ∃ u μ', en = .returned u /\ HRel A μ' h' (fun q => F q /\ q ≠ ctr) w' /\ Aa (Af A μ' h') μ' w' u l /\ ∀ v x, Aa (Af A μ h) μ w v x -> Aa (Af A μ' h') μ' w' v x
theorem Wm.eqv {P : Program} {h g : AP} {ctr k : Nat} {args : List LV} {l : LV} {h' : AP} (hs : Wm P h ctr k args l h') (he : ∀ id, AJ id h = AJ id g) : Wm P g ctr k args l h' := by
 refine ⟨hs.1, fun A F μ w vs h1 h2 h3 h4 h5 => ?_⟩
 have ho := WB (A := A) (μ := μ) he
 rw [<- ho] at h5 ⊢
 exact hs.2 A F μ w vs (h1.eqv fun id => (he id).symm) h2 h3 h4 h5
def Ti (P : Program) (AD : A5) (st : St) (c : Call) (l : LV) (h' : AP) : Prop := ∃ f k caps, c.callee = .value f /\ st.eval f = .fn k caps /\ Wm P st.heap st.ctr k (c.args.toList.map st.eval ++ caps) l h' /\
 (∀ q, q ≠ st.ctr -> AJ q st.heap = none -> AJ q h' = none) /\ ∀ b, AD.calm = some b -> ∀ id o, (∀ m, o ≠ .map m) -> id ≠ st.ctr -> b id = false -> AJ id st.heap = some o -> AJ id h' = some o
def wW (P : Program) (AD : A5) (st : St) (op : Op) (l : LV) (h1 : AP) : Prop := match op with
 | .call c => match c.callee with
  | .value _ => Ti P AD st c l h1
  | _ => mW AD st op fun r h _ => r = l /\ h = h1
 | _ => mW AD st op fun r h _ => r = l /\ h = h1
inductive Cls where
 | n | r | a | w
 deriving DecidableEq
def BO : Op -> Cls
 | .load .. | .lookup .. => .r
 | .call c => match c.callee with
  | .value f => if D8 f then .w else .r
  | .builtin .append => .w
  | _ => .n
 | .alloc .. | .box .. | .buildSlice .. | .makeSlice .. | .makeMap .. => .a
 | .store .. | .mapUpdate .. | .mapEntry .. | .entryStore .. => .w
 | _ => .n
inductive EE where
 | keep
 | new (o : BB)
 | set (h : AP)
def EE.ap (e : EE) (c : Nat) (h : AP) : AP :=
 match e with
 | .keep => h
 | .new o => (c, o) :: h
 | .set h' => h'
def X1 (AD : A5) (st : St) (c : Call) : Prop := ∀ s, c.args.toList.head? = some s -> Q7 AD.calm (st.eval s) = true
def B4 (P : Program) (AD : A5) (st : St) (op : Op) (l : LV) (e : EE) : Prop :=
 match op with
 | .load t x => e = .keep /\ Mr AD.calm (st.eval x) = true /\ ∃ ti, AD.tt t = some ti /\ Gm st.heap ti (st.eval x) (· = l)
 | .alloc t => ∃ ti, AD.tt t = some ti /\ l = .lpb st.ctr 0 /\ e = .new (.box (ti.zero.map .p))
 | .box _ x => ∃ ls, (st.eval x).cells = some ls /\ l = .lpb st.ctr 0 /\ e = .new (.box ls)
 | .buildSlice t n ps => ∃ ti e' te l', AD.tt t = some ti /\ ti.sh = .slc e' /\ AD.tt e' = some te /\ 0 < te.size /\ n * te.size <= 16777216 /\
   G0 te.size 0 (ps.toList.map fun p => (p.1, st.eval p.2)) = some l' /\ l'.length = n /\ ((l = .lsl st.ctr te.size 0 n /\ e = .new (.row e' te.size l')) \/ (l = .p (.slice te.size l') /\ e = .keep))
 | .makeSlice t x c => ∃ ti e' te n k1 k2, AD.tt t = some ti /\ ti.sh = .slc e' /\ AD.tt e' = some te /\ st.eval x = .p (.int k1 n) /\ st.eval c = .p (.int k2 n) /\ 0 <= n /\
   te.bytes * n.toNat <= 281474976710656 /\ n.toNat <= maxLen /\ ((l = .lsl st.ctr te.size 0 n.toNat /\ e = .new (.row e' te.size (List.replicate n.toNat te.zero))) \/ (l = .p (.slice te.size (List.replicate n.toNat te.zero)) /\ e = .keep))
 | .makeMap _ r => r = none /\ l = .lmap st.ctr /\ e = .new (.map [])
 | .lookup t x i ok => e = .keep /\ Ms AD st.heap t (st.eval x) (st.eval i) ok (· = l)
 | .store _ x _ => LL AD.calm (st.eval x) = true /\ ∃ h', e = .set h' /\ mW AD st op fun r h _ => r = l /\ h = h'
 | .mapUpdate .. | .mapEntry .. | .entryStore .. => ∃ h', e = .set h' /\ mW AD st op fun r h _ => r = l /\ h = h'
 | .call c => match c.callee with
  | .value f => if D8 f = true then (∃ h', e = .set h' /\ Ti P AD st c l h') else (e = .keep /\ ∃ k caps ds r, st.eval f = .fn k caps /\ By st.heap (c.args.toList.map st.eval ++ caps) = some ds /\ Az P k ds (· = r) /\
    (r.scalar = true \/ (c.args.toList.map st.eval ++ caps).flatMap (ET st.heap) = []) /\ l = .p r) \/
   (AD.own = true /\ ∃ k caps ds t sz elems, st.eval f = .fn k caps /\ By st.heap (c.args.toList.map st.eval ++ caps) = some ds /\ G5 P k ds t sz elems /\
    Zs ((c.args.toList.map st.eval ++ caps).flatMap (ET st.heap)) elems /\ l = .lsl st.ctr sz 0 elems.length /\ e = .new (.row t sz elems))
  | .builtin .append => X1 AD st c /\ ∃ h', e = .set h' /\ mW AD st op fun r h _ => r = l /\ h = h'
  | _ => e = .keep /\ nW AD st op (· = l)
 | _ => e = .keep /\ nW AD st op (· = l)
def Cm (P : Program) (AD : A5) (ops : Array Oper) (st : St) (o : Oper) (l : LV) (e : EE) : Prop :=
 match o.guard with
 | none => B4 P AD st o.op l e
 | some (j, want) => match DJ st ops j with
  | .p (.bool b) => if b = want then B4 P AD st o.op l e else l = .und /\ e = .keep
  | .und => l = .und /\ e = .keep
  | _ => False
def St.at (st : St) (c : Nat) : St := { st with ctr := c }
def apS (st : St) (c : Nat) (o : Oper) (l : LV) (e : EE) : St := ({ st with heap := e.ap c st.heap } : St).put o.dst l
structure GA (st st' : St) : Prop where
 nt : st.nt = st'.nt
 slots : ∀ t, BZ st.slots t = BZ st'.slots t
 heap : ∀ id, AJ id st.heap = AJ id st'.heap
theorem GA.refl (st : St) : GA st st := ⟨rfl, fun _ => rfl, fun _ => rfl⟩
section
variable {P : Program} {AD : A5} {st st' : St}
theorem Ok {st st' : St} {ps : Array (Nat × Operand)} (h : ∀ x ∈ (ps.toList.map (·.2)).toArray, st.eval x = st'.eval x) : (ps.toList.map fun p => (p.1, st.eval p.2)) = ps.toList.map fun p => (p.1, st'.eval p.2) :=
 List.map_congr_left fun p hp => by
  have := h p.2 (by simp; exact ⟨p.1, by simpa using hp⟩)
  rw [this]
theorem Hg {st st' : St} {xs : Array Operand} (h : ∀ x ∈ xs, st.eval x = st'.eval x) : xs.toList.map st.eval = xs.toList.map st'.eval :=
 List.map_congr_left fun x hx => h x (by simpa using hx)
theorem QY {op : Op} {k : LV -> Prop} (h : ∀ x ∈ op.operands, st.eval x = st'.eval x) (hn : nW AD st op k) : nW AD st' op k := by
 cases op <;> simp only [nW] at hn <;> simp only [Op.operands] at h <;> simp only [nW]
 case build t ps => rw [<- Ok h]; exact hn
 case makeFunc fn first caps =>
  obtain ⟨h1, f, h2, h3⟩ := hn
  refine ⟨h1, f, h2, ?_⟩
  rw [<- Hg fun x hx => h x (by simp [hx])]; exact h3
 case call c =>
  have ha : c.args.toList.map st.eval = c.args.toList.map st'.eval := Hg fun x hx => h x (by simp [Call.operands, hx])
  obtain ⟨callee, args, ats⟩ := c
  cases callee with
  | builtin b =>
   cases b with
   | len =>
    obtain ⟨x, t, ti, h1, h2⟩ := hn
    refine ⟨x, t, ti, h1, ?_⟩
    rw [<- h x (by simp at h1; simp [Call.operands, h1])]; exact h2
   | max => simp only at hn ha ⊢; rw [<- ha]; exact hn
   | min => simp only at hn ha ⊢; rw [<- ha]; exact hn
   | _ => exact hn.elim
  | _ => exact hn.elim
 case slice t x lo hi mx =>
  obtain ⟨rfl, hn⟩ := hn
  refine ⟨rfl, ?_⟩
  have e1 : st.eval x = st'.eval x := h x (by cases lo <;> cases hi <;> simp)
  have e2 : lo.map st.eval = lo.map st'.eval := by
   cases lo with
   | none => rfl
   | some y => simp only [Option.map_some, Option.some.injEq]; exact h y (by cases hi <;> simp)
  have e3 : hi.map st.eval = hi.map st'.eval := by
   cases hi with
   | none => rfl
   | some y => simp only [Option.map_some, Option.some.injEq]; exact h y (by cases lo <;> simp)
  rw [<- e1, <- e2, <- e3]; exact hn
 case extract t i => rw [<- h _ (by simp)]; exact hn
 case move x => rw [<- h x (by simp)]; exact hn
 case assign x => rw [<- h x (by simp)]; exact hn
 case pick c x y => rw [<- h c (by simp), <- h x (by simp), <- h y (by simp)]; exact hn
 case nilCheck x => rw [<- h x (by simp)]; exact hn
 case binOp op t x y z => rw [<- h x (by simp), <- h y (by simp)]; exact hn
 case unOp op t x => rw [<- h x (by simp)]; exact hn
 case convert s d x => rw [<- h x (by simp)]; exact hn
 case field t x i => rw [<- h x (by simp)]; exact hn
 case fieldAddr t x i => rw [<- h x (by simp)]; exact hn
 case indexAddr t x i => rw [<- h x (by simp), <- h i (by simp)]; exact hn
 case index t x i => rw [<- h x (by simp), <- h i (by simp)]; exact hn
 all_goals exact hn
end
end Go.E
