/- Texts joined. -/
import Derived.WalkKit
import Derived.WalkLawsBesides
import Derived.BigQuiet
import Derived.Outline
import Derived.Deep.DeepFit
import Derived.Maps.AppendAt
import Derived.Deep.AppendLies
import Derived.RegionTactic
import Derived.OwnWalk
import Derived.Lib.Hide
import Derived.Deep.QuietTactic
import Derived.Lib.Strings
import Derived.Laws.BytesArg
import Derived.Deep.OwnRows
set_option linter.unusedVariables false
set_option linter.unusedSimpArgs false
/- The words of these proofs: strings as lists of bytes, slices that read as lists of cells, and the laws on them. No function of the program is named here. -/
namespace Go.QS
open Go.RowKit

/-- The string of these bytes. -/
def bs (l : List UInt8) : ByteArray := ⟨l.toArray⟩
abbrev str (l : List UInt8) : Value := .string (bs l)
theorem bs_data (s : ByteArray) : bs s.data.toList = s := Lib.mk_data s
@[go_sem, simp] theorem bs_size (l : List UInt8) : (bs l).size = l.length := by simp [bs, ByteArray.size]
@[go_sem, simp] theorem bs_toList (l : List UInt8) : (bs l).toList = l := ByteArray.toList_mk l
@[go_sem] theorem bs_extract (l : List UInt8) (a b : Nat) : (bs l).extract a b = bs ((l.drop a).take (b - a)) := ByteArray.extract_mk l a b
theorem bs_inj {a b : List UInt8} (h : bs a = bs b) : a = b := by have := congrArg ByteArray.toList h; simpa using this
theorem bs_get (l : List UInt8) (i : Nat) (h : i < (bs l).size) : (bs l)[i] = l[i]'(by simpa using h) := rfl
theorem bs_append (a b : List UInt8) : bs a ++ bs b = bs (a ++ b) := by
  have h : ((bs a ++ bs b).data) = ((bs (a ++ b)).data) := by simp [bs, ByteArray.data_append]
  cases e : bs a ++ bs b; rw [e] at h; simp at h; subst h; rfl

/-- At an address lie these cells. -/
def Seg (w : World) (A : Option Addr) (xs : List Value) : Prop :=
  xs ≠ [] → ∃ b o, A = some ⟨b, o, none⟩ ∧ ∀ j u, xs[j]? = some u → w.cell? ⟨b, o + j, none⟩ = some u

/-- A slice of n elements, of so many cells each, that reads as these cells. -/
def Sl (w : World) (k : Nat) (v : Value) (n : Nat) (xs : List Value) : Prop :=
  ∃ A c, v = .slice A n c ∧ xs.length = n * k ∧ n ≤ c ∧ c ≤ maxLen ∧ Seg w A xs

section
variable {w w' : World} {A : Option Addr} {xs : List Value} {v : Value} {n k : Nat}

theorem Seg.nil (w : World) (A : Option Addr) : Seg w A [] := fun h => absurd rfl h
theorem Seg.keep (h : Seg w A xs) (hk : ∀ p : Addr, p.block < w.heap.size → w'.cell? p = w.cell? p) : Seg w' A xs := by
  intro hne
  obtain ⟨b, o, hA, hc⟩ := h hne
  exact ⟨b, o, hA, fun j u hu => (hk _ (World.block_lt_of_cell? w _ (hc j u hu))).trans (hc j u hu)⟩
theorem Seg.below (h : Seg w A xs) (hb : Below w.heap.size w w') : Seg w' A xs := h.keep fun _ hp => hb.cell hp
theorem Seg.alloc (h : Seg w A xs) (o : Obj) : Seg (w.alloc o) A xs := h.keep fun p hp => World.cell?_alloc_lt w o p hp
theorem Seg.take (h : Seg w A xs) (m : Nat) : Seg w A (xs.take m) := by
  intro hne
  obtain ⟨b, o, hA, hc⟩ := h (fun e => hne (by simp [e]))
  refine ⟨b, o, hA, fun j u hu => hc j u ?_⟩
  rw [List.getElem?_take] at hu
  split at hu
  · exact hu
  · cases hu
theorem Seg.drop {b o : Nat} (h : Seg w (some ⟨b, o, none⟩) xs) (m : Nat) : Seg w (some ⟨b, o + m, none⟩) (xs.drop m) := by
  intro hne
  obtain ⟨b', o', hA, hc⟩ := h (fun e => hne (by simp [e]))
  cases hA
  refine ⟨b, o + m, rfl, fun j u hu => ?_⟩
  rw [List.getElem?_drop] at hu
  have := hc _ _ hu
  rwa [← Nat.add_assoc] at this
theorem Seg.new (w : World) (cs : List Value) (t : TypeId) {g : Nat} (hg : g = w.heap.size) : Seg (w.alloc (.cells cs.toArray t)) (some ⟨g, 0, none⟩) cs := by
  subst hg
  intro _
  refine ⟨_, _, rfl, fun j u hu => ?_⟩
  rw [World.cell?_alloc_at _ _ _ _ rfl]
  simpa using hu
theorem Seg.two (h : Seg w A xs) (i : Nat) {u1 u2 : Value} (h1 : xs[i]? = some u1) (h2 : xs[i + 1]? = some u2) : ∃ b o, A = some ⟨b, o, none⟩ ∧ w.cell? ⟨b, o + i, none⟩ = some u1 ∧ w.cell? ⟨b, o + i + 1, none⟩ = some u2 := by
  obtain ⟨b, o, hA, hc⟩ := h (fun e => by simp [e] at h1)
  exact ⟨b, o, hA, hc _ _ h1, hc _ _ h2⟩

theorem Sl.keep (h : Sl w k v n xs) (hk : ∀ p : Addr, p.block < w.heap.size → w'.cell? p = w.cell? p) : Sl w' k v n xs := by
  obtain ⟨A, c, h1, h2, h3, h4, h5⟩ := h
  exact ⟨A, c, h1, h2, h3, h4, h5.keep hk⟩
theorem Sl.below (h : Sl w k v n xs) (hb : Below w.heap.size w w') : Sl w' k v n xs := h.keep fun _ hp => hb.cell hp
theorem Sl.alloc (h : Sl w k v n xs) (o : Obj) : Sl (w.alloc o) k v n xs := h.keep fun p hp => World.cell?_alloc_lt w o p hp
theorem Sl.len (h : Sl w k v n xs) : xs.length = n * k := let ⟨_, _, _, h, _⟩ := h; h
theorem Sl.nil (w : World) (k : Nat) : Sl w k (.slice none 0 0) 0 [] := ⟨none, 0, rfl, by simp, Nat.le_refl _, by simp [maxLen], Seg.nil _ _⟩
theorem Sl.of_own {base : Nat} {e : TypeId} (h : w.ownsRow base e k v n xs) : Sl w k v n xs := by
  rcases h.2 with ⟨rfl, rfl⟩ | ⟨g, cap, cur, rfl, hb, hg, hn, hcap, hs, htake⟩
  · have : xs = [] := List.eq_nil_of_length_eq_zero (by simpa using h.1)
    subst this
    exact Sl.nil w k
  · refine ⟨_, _, rfl, h.1, hn, hcap, fun _ => ⟨g, 0, rfl, fun j u hu => ?_⟩⟩
    rw [Nat.zero_add, cell_of_row w g j cur e (0, 0) hg]
    rw [← htake, List.getElem?_take] at hu
    split at hu
    · simpa using hu
    · cases hu
end

/-- Append of a source that reads as cells, onto a row of the call's own. -/
theorem run_app {P : Program} (w : World) (base : Nat) (t ty e : TypeId) (i : TypeInfo) (z : Value) (size bytes : Nat) (ht : P.underlying t = some (.slice e)) (hi : P.info? e = some i) (hz : i.zero = some z)
    (hsize : i.size = size) (hby : i.bytes = bytes) (hzs : z.cells.size = size) (hsz : 0 < size)
    (v : Value) (n : Nat) (xs : List Value) (hown : w.ownsRow base e size v n xs)
    (A : Option Addr) (m c : Nat) (news : List Value) (hl : news.length = m * size) (hr : Seg w A news) (h1 : ∀ u ∈ news, u.oneCell' = true)
    (h63 : n + m ≤ maxLen) (hbytes : (n + m) * bytes ≤ 140737488355328) (hbase : base ≤ w.heap.size) :
    ∃ v' w', (Builtin.append_ #[t, t] ty #[v, .slice A m c]).run P w = .ok v' w' ∧ w'.ownsRow base e size v' (n + m) (xs ++ news) ∧ w.grownBy w' v.ownBlock ∧
      (v'.ownBlock = v.ownBlock ∨ v'.ownBlock = some w.heap.size) := by
  by_cases hm : m = 0
  · subst hm
    have hn : news = [] := List.eq_nil_of_length_eq_zero (by simpa using hl)
    subst hn
    have hfc : (Builtin.firstCells (0 * i.size) 0 (.slice A 0 c)).run P w = .ok #[] w := by
      cases A <;> simp [Builtin.firstCells, loadCells, loadCellsFrom]
    have hfc' : (Builtin.firstCells i.size 0 (.slice A 0 c)).run P w = .ok #[] w := by
      cases A <;> simp [Builtin.firstCells, loadCells, loadCellsFrom]
    refine ⟨v, w, ?_, by simpa using hown, World.grownBy.refl w _, .inl rfl⟩
    rcases hown.2 with ⟨rfl, rfl⟩ | ⟨g, cap, cur, rfl, _, _, hnc, _⟩
    · simp [Builtin.append_, run_underlying ht, sizeOf, typeInfo, hi, Builtin.lenOf, hfc']
    · simp [Builtin.append_, run_underlying ht, sizeOf, typeInfo, hi, Builtin.lenOf, hfc', hnc, storeCells]
  · have hne : news ≠ [] := by
      intro e; rw [e] at hl; have := Nat.mul_pos (Nat.pos_of_ne_zero hm) hsz; simp only [List.length_nil] at hl; omega
    obtain ⟨b, o, rfl, hc⟩ := hr hne
    have hcells : ∀ j u, news[j]? = some u → w.cell? ((⟨b, o, none⟩ : Addr).add j) = some u := by
      intro j u hu
      rw [Addr.add_lit]
      exact hc j u hu
    obtain ⟨v', w', hrun, h2, h3, _, h5⟩ := run_append_own_at (P := P) w base t ty e i z size bytes ht hi hz hsize hby hzs hsz v n xs hown ⟨b, o, none⟩ m c news hl hcells h1 h63 hbytes hbase
    exact ⟨v', w', hrun, h2, h3, h5⟩

theorem wpList_app {P : Program} {w : World} {ops : Array Oper} {rest : List Oper} {o : Oper} {a : Act} {Q : Exit → Act → World → Prop} (hgd : o.guard = none) (s x : Operand) (t : TypeId)
    (ho : o.op = .call { callee := .builtin .append, args := #[s, x], argTypes := #[t, t] })
    (base : Nat) (e : TypeId) (size bytes : Nat) (ht : P.underlying t = some (.slice e)) (hi : ∃ i z, P.info? e = some i ∧ i.zero = some z ∧ i.size = size ∧ i.bytes = bytes ∧ z.cells.size = size) (hsz : 0 < size)
    (v : Value) (n : Nat) (xs : List Value) (hs : a.eval s = v) (hown : w.ownsRow base e size v n xs)
    (A : Option Addr) (m c : Nat) (news : List Value) (hx : a.eval x = .slice A m c) (hl : news.length = m * size) (hr : Seg w A news) (h1 : ∀ u ∈ news, u.oneCell' = true)
    (h63 : n + m ≤ maxLen) (hbytes : (n + m) * bytes ≤ 140737488355328) (hbase : base ≤ w.heap.size)
    (h : ∀ v' w', w'.ownsRow base e size v' (n + m) (xs ++ news) → w.grownBy w' v.ownBlock → (v'.ownBlock = v.ownBlock ∨ v'.ownBlock = some w.heap.size) → wpList P ops Q rest (a.put o.dst v') w') : wpList P ops Q (o :: rest) a w :=
  wpList_plain hgd fun _ hK => by
    obtain ⟨i, z, hi, hz, hsize, hby, hzs⟩ := hi
    obtain ⟨v', w', hrun, h2, h3, h4⟩ := run_app (P := P) w base t o.type e i z size bytes ht hi hz hsize hby hzs hsz v n xs hown A m c news hl hr h1 h63 hbytes hbase
    unfold Oper.wp execOp
    simp only [ho, resolve, invoke, builtin, Sem.run_bind, Sem.run_pure, Result.andThen_ok, List.map_toArray, List.map_cons, List.map_nil, hs, hx, hrun]
    exact hK _ _ (h v' w' h2 h3 h4)

/-- The same where all that the call has made lies above what there was. -/
theorem wpList_appE {P : Program} {W w : World} {ops : Array Oper} {rest : List Oper} {o : Oper} {a : Act} {Q : Exit → Act → World → Prop} (hgd : o.guard = none) (s x : Operand) (t : TypeId)
    (ho : o.op = .call { callee := .builtin .append, args := #[s, x], argTypes := #[t, t] })
    (e : TypeId) (size bytes : Nat) (ht : P.underlying t = some (.slice e)) (hi : ∃ i z, P.info? e = some i ∧ i.zero = some z ∧ i.size = size ∧ i.bytes = bytes ∧ z.cells.size = size) (hsz : 0 < size)
    (v : Value) (n : Nat) (xs : List Value) (hs : a.eval s = v) (hown : w.ownsRow W.heap.size e size v n xs) (hb : Below W.heap.size W w)
    (A : Option Addr) (m c : Nat) (news : List Value) (hx : a.eval x = .slice A m c) (hl : news.length = m * size) (hr : Seg w A news) (h1 : ∀ u ∈ news, u.oneCell' = true)
    (h63 : n + m ≤ maxLen) (hbytes : (n + m) * bytes ≤ 140737488355328)
    (h : ∀ v' w', w'.ownsRow W.heap.size e size v' (n + m) (xs ++ news) → Below W.heap.size W w' → wpList P ops Q rest (a.put o.dst v') w') : wpList P ops Q (o :: rest) a w :=
  wpList_app hgd s x t ho W.heap.size e size bytes ht hi hsz v n xs hs hown A m c news hx hl hr h1 h63 hbytes hb.size
    fun v' w' h2 h3 _ => h v' w' h2 (hb.grown h3 hb.size fun k hk => (hown.lt k hk).1)

/-! ### Pairs -/

abbrev Pr := List UInt8 × List UInt8
def encP (p : Pr) : List Value := [str p.1, str p.2]
def flat (l : List Pr) : List Value := l.flatMap encP
theorem flat_length (l : List Pr) : (flat l).length = l.length * 2 := by
  induction l with
  | nil => rfl
  | cons p l ih => simp only [flat, List.flatMap_cons, List.length_append, List.length_cons] at ih ⊢; rw [ih]; simp [encP]; omega
theorem flat_append (a b : List Pr) : flat (a ++ b) = flat a ++ flat b := by simp [flat]
theorem flat_cons (p : Pr) (l : List Pr) : flat (p :: l) = str p.1 :: str p.2 :: flat l := by simp [flat, encP]
@[simp] theorem flat_nil : flat [] = [] := rfl
theorem flat_take (l : List Pr) (k : Nat) : flat (l.take k) = (flat l).take (k * 2) := by
  induction l generalizing k with
  | nil => simp
  | cons p l ih =>
    cases k with
    | zero => simp
    | succ k => rw [List.take_succ_cons, flat_cons, flat_cons, ih, Nat.succ_mul]; rfl
theorem flat_drop (l : List Pr) (k : Nat) : flat (l.drop k) = (flat l).drop (k * 2) := by
  induction l generalizing k with
  | nil => simp
  | cons p l ih =>
    cases k with
    | zero => simp
    | succ k => rw [List.drop_succ_cons, flat_cons, ih, Nat.succ_mul]; rfl
theorem flat_get {l : List Pr} {i : Nat} {p : Pr} (h : l[i]? = some p) : (flat l)[i * 2]? = some (str p.1) ∧ (flat l)[i * 2 + 1]? = some (str p.2) := by
  have : (flat l).drop (i * 2) = str p.1 :: str p.2 :: flat (l.drop (i + 1)) := by
    rw [← flat_drop, List.drop_eq_getElem?_toList_append, h]
    simp [flat_cons]
  constructor
  · have := congrArg (·[0]?) this; simpa using this
  · have := congrArg (·[1]?) this; simpa using this
theorem flat_one (l : List Pr) : ∀ u ∈ flat l, u.oneCell' = true := by
  intro u hu
  obtain ⟨p, _, hp⟩ := List.mem_flatMap.1 hu
  simp [encP] at hp
  rcases hp with rfl | rfl <;> rfl

/-- A slice of pairs. -/
def PS (w : World) (v : Value) (l : List Pr) : Prop := Sl w 2 v l.length (flat l)
section
variable {w w' : World} {A : Option Addr} {v : Value} {l : List Pr}
theorem PS.below (h : PS w v l) (hb : Below w.heap.size w w') : PS w' v l := Sl.below h hb
theorem PS.keep (h : PS w v l) (hk : ∀ p : Addr, p.block < w.heap.size → w'.cell? p = w.cell? p) : PS w' v l := Sl.keep h hk
theorem PS.alloc (h : PS w v l) (o : Obj) : PS (w.alloc o) v l := Sl.alloc h o
theorem PS.of_own {base : Nat} {e : TypeId} {n : Nat} (h : w.ownsRow base e 2 v n (flat l)) : PS w v l := by
  have hn : n = l.length := by have := h.1; rw [flat_length] at this; omega
  subst hn
  exact Sl.of_own h
theorem seg_pair (h : Seg w A (flat l)) {i : Nat} {p : Pr} (hp : l[i]? = some p) :
    ∃ b o, A = some ⟨b, o, none⟩ ∧ w.cell? ⟨b, o + i * 2, none⟩ = some (str p.1) ∧ w.cell? ⟨b, o + i * 2 + 1, none⟩ = some (str p.2) :=
  h.two _ (flat_get hp).1 (flat_get hp).2
end

theorem get_of_lt {α : Type} (l : List α) {k : Nat} (h : k < l.length) : ∃ p, l[k]? = some p := ⟨l[k], List.getElem?_eq_getElem h⟩
theorem take_snoc {α : Type} {l : List α} {k : Nat} {p : α} (h : l[k]? = some p) : l.take (k + 1) = l.take k ++ [p] := by
  rw [List.take_succ_eq_append_getElem (List.getElem?_eq_some_iff.1 h).1]
  rw [(List.getElem?_eq_some_iff.1 h).2]

theorem info_of {P : Program} {t : TypeId} {z : Value} {size bytes : Nat} (h : (P.info? t).map (fun i => (i.zero, i.size, i.bytes)) = some (some z, size, bytes)) (hz : z.cells.size = size) :
    ∃ i z, P.info? t = some i ∧ i.zero = some z ∧ i.size = size ∧ i.bytes = bytes ∧ z.cells.size = size := by
  cases hi : P.info? t with
  | none => rw [hi] at h; cases h
  | some i =>
    rw [hi] at h
    simp only [Option.map_some, Option.some.injEq, Prod.mk.injEq] at h
    exact ⟨i, z, rfl, h.1, h.2.1, h.2.2, hz⟩
theorem own_lit {w : World} {e : TypeId} {size : Nat} (cs : List Value) (n : Nat) (hm : n ≤ maxLen) (hs : cs.length = n * size) {base : Nat} (hb : base ≤ w.heap.size) :
    (w.alloc (.cells cs.toArray e)).ownsRow base e size (.slice (some ⟨w.heap.size, 0, none⟩) n n) n cs :=
  World.ownsRow_lit w cs.toArray n hb hm hs

/-- All the blocks that there were stay. -/
abbrev Ext (w w' : World) : Prop := Below w.heap.size w w'
theorem Ext.refl (w : World) : Ext w w := Below.refl _ _
theorem Ext.trans {a b c : World} (h : Ext a b) (k : Ext b c) : Ext a c := Below.trans h (k.mono h.size)
end Go.QS
/- Slices of bytes that read as lists. No function of the program is named here. -/
namespace Go.QS
open Go.RowKit

def encB (l : List UInt8) : List Value := l.map fun b => .int .u8 (b.toNat : Int)
theorem encB_length (l : List UInt8) : (encB l).length = l.length := by simp [encB]
theorem encB_one (l : List UInt8) : ∀ u ∈ encB l, u.oneCell' = true := by
  intro u hu
  obtain ⟨b, _, rfl⟩ := List.mem_map.1 hu
  rfl
theorem encB_append (a b : List UInt8) : encB (a ++ b) = encB a ++ encB b := by simp [encB]
theorem encB_get {l : List UInt8} {i : Nat} {b : UInt8} (h : l[i]? = some b) : (encB l)[i]? = some (.int .u8 (b.toNat : Int)) := by simp [encB, h]
/-- A slice of bytes. -/
def BS (w : World) (v : Value) (l : List UInt8) : Prop := Sl w 1 v l.length (encB l)
theorem BS.below {w w' : World} {v : Value} {l : List UInt8} (h : BS w v l) (hb : Below w.heap.size w w') : BS w' v l := Sl.below h hb
theorem BS.of_own {w : World} {base : Nat} {e : TypeId} {v : Value} {l : List UInt8} (h : w.ownsRow base e 1 v l.length (encB l)) : BS w v l := Sl.of_own h

/-- string(b). -/
theorem conv_bs {P : Program} {src e dst : TypeId} (hs : P.underlying src = some (.slice e)) (he : P.underlying e = some (.int .u8)) (hd : P.underlying dst = some .string) {w : World} {v : Value} {l : List UInt8} (h : BS w v l) :
    (convert src dst v).run P w = .ok (str l) w := by
  obtain ⟨A, c, rfl, hl, hn, hc, hseg⟩ := h
  cases l with
  | nil =>
    simp only [List.length_nil]
    cases A with
    | none => rw [run_convert_bytes_nil w src e hs he 0 c dst hd]; rfl
    | some a =>
      rw [run_convert_bytes_string w src dst e _ 0 c hs he hd]
      have hl : (loadCells a 0).run P w = .ok ([] : List Value).toArray w := by simp [loadCells, loadCellsFrom]
      have := run_bytesToString (P := P) w a 0 c [] hl
      rw [this]; rfl
  | cons x r =>
    obtain ⟨b, o, rfl, hat⟩ := hseg (by simp [encB])
    have := run_convert_bytes_arg (P := P) w src e hs he b o (x :: r).length c ((x :: r).map fun b => (b.toNat : Int)) (by simp) (fun i hi => by
      obtain ⟨y, hy⟩ := get_of_lt (x :: r) hi
      have e1 := hat i _ (encB_get hy)
      rw [e1]
      congr 2
      rw [List.getD_eq_getElem?_getD, List.getElem?_map, hy]; rfl) dst hd
    rw [this]
    congr 2
    simp only [strOfNums, bs, List.map_map]
    congr 2
    conv => rhs; rw [← List.map_id (x :: r)]
    refine List.map_congr_left fun b _ => ?_
    simp

/-- make([]byte, n). -/
theorem made_own {w : World} {e : TypeId} (n : Nat) (hn : n ≤ maxLen) {base : Nat} (hb : base ≤ w.heap.size) :
    (w.alloc (.cells (madeCells #[.int .u8 0] n) e)).ownsRow base e 1 (.slice (some ⟨w.heap.size, 0, none⟩) n n) n (encB (List.replicate n 0)) := by
  have h := World.ownsRow_lit (base := base) (e := e) (size := 1) w (madeCells #[.int .u8 0] n) n hb hn (by simp [madeCells])
  rw [toList_madeCells_one] at h
  have e2 : encB (List.replicate n 0) = List.replicate n (Value.int .u8 0) := by simp [encB]
  rw [e2]
  exact h
end Go.QS
