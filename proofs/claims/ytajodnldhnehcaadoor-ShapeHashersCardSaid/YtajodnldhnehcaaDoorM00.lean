/- Texts joined. -/
import Derived.WalkKit
import Derived.WalkLawsBesides
import Derived.BigQuiet
import Derived.Outline
import Derived.Deep.DeepFit
import Derived.Maps.AppendAt
import Derived.Deep.AppendLies
import Derived.RegionTactic
import Derived.OwnWalk
import Derived.Lib.Hide
import Derived.Deep.QuietTactic
import Derived.Lib.Strings
import Derived.Laws.BytesArg
import Derived.Deep.OwnRows
import Derived.ArgAppend
import Derived.Lib.AppendStr
set_option linter.unusedVariables false
set_option linter.unusedSimpArgs false
/- The words of these proofs: strings as lists of bytes, slices that read as lists of cells, and the laws on them. No function of the program is named here. -/
namespace Go.QS
open Go.RowKit

/-- The string of these bytes. -/
def bs (l : List UInt8) : ByteArray := ⟨l.toArray⟩
abbrev str (l : List UInt8) : Value := .string (bs l)
theorem bs_data (s : ByteArray) : bs s.data.toList = s := Lib.mk_data s
@[go_sem, simp] theorem bs_size (l : List UInt8) : (bs l).size = l.length := by simp [bs, ByteArray.size]
@[go_sem, simp] theorem bs_toList (l : List UInt8) : (bs l).toList = l := ByteArray.toList_mk l
@[go_sem] theorem bs_extract (l : List UInt8) (a b : Nat) : (bs l).extract a b = bs ((l.drop a).take (b - a)) := ByteArray.extract_mk l a b
theorem bs_inj {a b : List UInt8} (h : bs a = bs b) : a = b := by have := congrArg ByteArray.toList h; simpa using this
theorem bs_get (l : List UInt8) (i : Nat) (h : i < (bs l).size) : (bs l)[i] = l[i]'(by simpa using h) := rfl
theorem bs_append (a b : List UInt8) : bs a ++ bs b = bs (a ++ b) := by
  have h : ((bs a ++ bs b).data) = ((bs (a ++ b)).data) := by simp [bs, ByteArray.data_append]
  cases e : bs a ++ bs b; rw [e] at h; simp at h; subst h; rfl

/-- At an address lie these cells. -/
def Seg (w : World) (A : Option Addr) (xs : List Value) : Prop :=
  xs ≠ [] → ∃ b o, A = some ⟨b, o, none⟩ ∧ ∀ j u, xs[j]? = some u → w.cell? ⟨b, o + j, none⟩ = some u

/-- A slice of n elements, of so many cells each, that reads as these cells. -/
def Sl (w : World) (k : Nat) (v : Value) (n : Nat) (xs : List Value) : Prop :=
  ∃ A c, v = .slice A n c ∧ xs.length = n * k ∧ n ≤ c ∧ c ≤ maxLen ∧ Seg w A xs

section
variable {w w' : World} {A : Option Addr} {xs : List Value} {v : Value} {n k : Nat}

theorem Seg.nil (w : World) (A : Option Addr) : Seg w A [] := fun h => absurd rfl h
theorem Seg.keep (h : Seg w A xs) (hk : ∀ p : Addr, p.block < w.heap.size → w'.cell? p = w.cell? p) : Seg w' A xs := by
  intro hne
  obtain ⟨b, o, hA, hc⟩ := h hne
  exact ⟨b, o, hA, fun j u hu => (hk _ (World.block_lt_of_cell? w _ (hc j u hu))).trans (hc j u hu)⟩
theorem Seg.below (h : Seg w A xs) (hb : Below w.heap.size w w') : Seg w' A xs := h.keep fun _ hp => hb.cell hp
theorem Seg.alloc (h : Seg w A xs) (o : Obj) : Seg (w.alloc o) A xs := h.keep fun p hp => World.cell?_alloc_lt w o p hp
theorem Seg.take (h : Seg w A xs) (m : Nat) : Seg w A (xs.take m) := by
  intro hne
  obtain ⟨b, o, hA, hc⟩ := h (fun e => hne (by simp [e]))
  refine ⟨b, o, hA, fun j u hu => hc j u ?_⟩
  rw [List.getElem?_take] at hu
  split at hu
  · exact hu
  · cases hu
theorem Seg.drop {b o : Nat} (h : Seg w (some ⟨b, o, none⟩) xs) (m : Nat) : Seg w (some ⟨b, o + m, none⟩) (xs.drop m) := by
  intro hne
  obtain ⟨b', o', hA, hc⟩ := h (fun e => hne (by simp [e]))
  cases hA
  refine ⟨b, o + m, rfl, fun j u hu => ?_⟩
  rw [List.getElem?_drop] at hu
  have := hc _ _ hu
  rwa [← Nat.add_assoc] at this
theorem Seg.new (w : World) (cs : List Value) (t : TypeId) {g : Nat} (hg : g = w.heap.size) : Seg (w.alloc (.cells cs.toArray t)) (some ⟨g, 0, none⟩) cs := by
  subst hg
  intro _
  refine ⟨_, _, rfl, fun j u hu => ?_⟩
  rw [World.cell?_alloc_at _ _ _ _ rfl]
  simpa using hu
theorem Seg.two (h : Seg w A xs) (i : Nat) {u1 u2 : Value} (h1 : xs[i]? = some u1) (h2 : xs[i + 1]? = some u2) : ∃ b o, A = some ⟨b, o, none⟩ ∧ w.cell? ⟨b, o + i, none⟩ = some u1 ∧ w.cell? ⟨b, o + i + 1, none⟩ = some u2 := by
  obtain ⟨b, o, hA, hc⟩ := h (fun e => by simp [e] at h1)
  exact ⟨b, o, hA, hc _ _ h1, hc _ _ h2⟩

theorem Sl.keep (h : Sl w k v n xs) (hk : ∀ p : Addr, p.block < w.heap.size → w'.cell? p = w.cell? p) : Sl w' k v n xs := by
  obtain ⟨A, c, h1, h2, h3, h4, h5⟩ := h
  exact ⟨A, c, h1, h2, h3, h4, h5.keep hk⟩
theorem Sl.below (h : Sl w k v n xs) (hb : Below w.heap.size w w') : Sl w' k v n xs := h.keep fun _ hp => hb.cell hp
theorem Sl.alloc (h : Sl w k v n xs) (o : Obj) : Sl (w.alloc o) k v n xs := h.keep fun p hp => World.cell?_alloc_lt w o p hp
theorem Sl.len (h : Sl w k v n xs) : xs.length = n * k := let ⟨_, _, _, h, _⟩ := h; h
theorem Sl.nil (w : World) (k : Nat) : Sl w k (.slice none 0 0) 0 [] := ⟨none, 0, rfl, by simp, Nat.le_refl _, by simp [maxLen], Seg.nil _ _⟩
theorem Sl.of_own {base : Nat} {e : TypeId} (h : w.ownsRow base e k v n xs) : Sl w k v n xs := by
  rcases h.2 with ⟨rfl, rfl⟩ | ⟨g, cap, cur, rfl, hb, hg, hn, hcap, hs, htake⟩
  · have : xs = [] := List.eq_nil_of_length_eq_zero (by simpa using h.1)
    subst this
    exact Sl.nil w k
  · refine ⟨_, _, rfl, h.1, hn, hcap, fun _ => ⟨g, 0, rfl, fun j u hu => ?_⟩⟩
    rw [Nat.zero_add, cell_of_row w g j cur e (0, 0) hg]
    rw [← htake, List.getElem?_take] at hu
    split at hu
    · simpa using hu
    · cases hu
end

/-- Append of a source that reads as cells, onto a row of the call's own. -/
theorem run_app {P : Program} (w : World) (base : Nat) (t ty e : TypeId) (i : TypeInfo) (z : Value) (size bytes : Nat) (ht : P.underlying t = some (.slice e)) (hi : P.info? e = some i) (hz : i.zero = some z)
    (hsize : i.size = size) (hby : i.bytes = bytes) (hzs : z.cells.size = size) (hsz : 0 < size)
    (v : Value) (n : Nat) (xs : List Value) (hown : w.ownsRow base e size v n xs)
    (A : Option Addr) (m c : Nat) (news : List Value) (hl : news.length = m * size) (hr : Seg w A news) (h1 : ∀ u ∈ news, u.oneCell' = true)
    (h63 : n + m ≤ maxLen) (hbytes : (n + m) * bytes ≤ 140737488355328) (hbase : base ≤ w.heap.size) :
    ∃ v' w', (Builtin.append_ #[t, t] ty #[v, .slice A m c]).run P w = .ok v' w' ∧ w'.ownsRow base e size v' (n + m) (xs ++ news) ∧ w.grownBy w' v.ownBlock ∧
      (v'.ownBlock = v.ownBlock ∨ v'.ownBlock = some w.heap.size) := by
  by_cases hm : m = 0
  · subst hm
    have hn : news = [] := List.eq_nil_of_length_eq_zero (by simpa using hl)
    subst hn
    have hfc : (Builtin.firstCells (0 * i.size) 0 (.slice A 0 c)).run P w = .ok #[] w := by
      cases A <;> simp [Builtin.firstCells, loadCells, loadCellsFrom]
    have hfc' : (Builtin.firstCells i.size 0 (.slice A 0 c)).run P w = .ok #[] w := by
      cases A <;> simp [Builtin.firstCells, loadCells, loadCellsFrom]
    refine ⟨v, w, ?_, by simpa using hown, World.grownBy.refl w _, .inl rfl⟩
    rcases hown.2 with ⟨rfl, rfl⟩ | ⟨g, cap, cur, rfl, _, _, hnc, _⟩
    · simp [Builtin.append_, run_underlying ht, sizeOf, typeInfo, hi, Builtin.lenOf, hfc']
    · simp [Builtin.append_, run_underlying ht, sizeOf, typeInfo, hi, Builtin.lenOf, hfc', hnc, storeCells]
  · have hne : news ≠ [] := by
      intro e; rw [e] at hl; have := Nat.mul_pos (Nat.pos_of_ne_zero hm) hsz; simp only [List.length_nil] at hl; omega
    obtain ⟨b, o, rfl, hc⟩ := hr hne
    have hcells : ∀ j u, news[j]? = some u → w.cell? ((⟨b, o, none⟩ : Addr).add j) = some u := by
      intro j u hu
      rw [Addr.add_lit]
      exact hc j u hu
    obtain ⟨v', w', hrun, h2, h3, _, h5⟩ := run_append_own_at (P := P) w base t ty e i z size bytes ht hi hz hsize hby hzs hsz v n xs hown ⟨b, o, none⟩ m c news hl hcells h1 h63 hbytes hbase
    exact ⟨v', w', hrun, h2, h3, h5⟩

theorem wpList_app {P : Program} {w : World} {ops : Array Oper} {rest : List Oper} {o : Oper} {a : Act} {Q : Exit → Act → World → Prop} (hgd : o.guard = none) (s x : Operand) (t : TypeId)
    (ho : o.op = .call { callee := .builtin .append, args := #[s, x], argTypes := #[t, t] })
    (base : Nat) (e : TypeId) (size bytes : Nat) (ht : P.underlying t = some (.slice e)) (hi : ∃ i z, P.info? e = some i ∧ i.zero = some z ∧ i.size = size ∧ i.bytes = bytes ∧ z.cells.size = size) (hsz : 0 < size)
    (v : Value) (n : Nat) (xs : List Value) (hs : a.eval s = v) (hown : w.ownsRow base e size v n xs)
    (A : Option Addr) (m c : Nat) (news : List Value) (hx : a.eval x = .slice A m c) (hl : news.length = m * size) (hr : Seg w A news) (h1 : ∀ u ∈ news, u.oneCell' = true)
    (h63 : n + m ≤ maxLen) (hbytes : (n + m) * bytes ≤ 140737488355328) (hbase : base ≤ w.heap.size)
    (h : ∀ v' w', w'.ownsRow base e size v' (n + m) (xs ++ news) → w.grownBy w' v.ownBlock → (v'.ownBlock = v.ownBlock ∨ v'.ownBlock = some w.heap.size) → wpList P ops Q rest (a.put o.dst v') w') : wpList P ops Q (o :: rest) a w :=
  wpList_plain hgd fun _ hK => by
    obtain ⟨i, z, hi, hz, hsize, hby, hzs⟩ := hi
    obtain ⟨v', w', hrun, h2, h3, h4⟩ := run_app (P := P) w base t o.type e i z size bytes ht hi hz hsize hby hzs hsz v n xs hown A m c news hl hr h1 h63 hbytes hbase
    unfold Oper.wp execOp
    simp only [ho, resolve, invoke, builtin, Sem.run_bind, Sem.run_pure, Result.andThen_ok, List.map_toArray, List.map_cons, List.map_nil, hs, hx, hrun]
    exact hK _ _ (h v' w' h2 h3 h4)

/-- The same where all that the call has made lies above what there was. -/
theorem wpList_appE {P : Program} {W w : World} {ops : Array Oper} {rest : List Oper} {o : Oper} {a : Act} {Q : Exit → Act → World → Prop} (hgd : o.guard = none) (s x : Operand) (t : TypeId)
    (ho : o.op = .call { callee := .builtin .append, args := #[s, x], argTypes := #[t, t] })
    (e : TypeId) (size bytes : Nat) (ht : P.underlying t = some (.slice e)) (hi : ∃ i z, P.info? e = some i ∧ i.zero = some z ∧ i.size = size ∧ i.bytes = bytes ∧ z.cells.size = size) (hsz : 0 < size)
    (v : Value) (n : Nat) (xs : List Value) (hs : a.eval s = v) (hown : w.ownsRow W.heap.size e size v n xs) (hb : Below W.heap.size W w)
    (A : Option Addr) (m c : Nat) (news : List Value) (hx : a.eval x = .slice A m c) (hl : news.length = m * size) (hr : Seg w A news) (h1 : ∀ u ∈ news, u.oneCell' = true)
    (h63 : n + m ≤ maxLen) (hbytes : (n + m) * bytes ≤ 140737488355328)
    (h : ∀ v' w', w'.ownsRow W.heap.size e size v' (n + m) (xs ++ news) → Below W.heap.size W w' → wpList P ops Q rest (a.put o.dst v') w') : wpList P ops Q (o :: rest) a w :=
  wpList_app hgd s x t ho W.heap.size e size bytes ht hi hsz v n xs hs hown A m c news hx hl hr h1 h63 hbytes hb.size
    fun v' w' h2 h3 _ => h v' w' h2 (hb.grown h3 hb.size fun k hk => (hown.lt k hk).1)

/-! ### Pairs -/

abbrev Pr := List UInt8 × List UInt8
def encP (p : Pr) : List Value := [str p.1, str p.2]
def flat (l : List Pr) : List Value := l.flatMap encP
theorem flat_length (l : List Pr) : (flat l).length = l.length * 2 := by
  induction l with
  | nil => rfl
  | cons p l ih => simp only [flat, List.flatMap_cons, List.length_append, List.length_cons] at ih ⊢; rw [ih]; simp [encP]; omega
theorem flat_append (a b : List Pr) : flat (a ++ b) = flat a ++ flat b := by simp [flat]
theorem flat_cons (p : Pr) (l : List Pr) : flat (p :: l) = str p.1 :: str p.2 :: flat l := by simp [flat, encP]
@[simp] theorem flat_nil : flat [] = [] := rfl
theorem flat_take (l : List Pr) (k : Nat) : flat (l.take k) = (flat l).take (k * 2) := by
  induction l generalizing k with
  | nil => simp
  | cons p l ih =>
    cases k with
    | zero => simp
    | succ k => rw [List.take_succ_cons, flat_cons, flat_cons, ih, Nat.succ_mul]; rfl
theorem flat_drop (l : List Pr) (k : Nat) : flat (l.drop k) = (flat l).drop (k * 2) := by
  induction l generalizing k with
  | nil => simp
  | cons p l ih =>
    cases k with
    | zero => simp
    | succ k => rw [List.drop_succ_cons, flat_cons, ih, Nat.succ_mul]; rfl
theorem flat_get {l : List Pr} {i : Nat} {p : Pr} (h : l[i]? = some p) : (flat l)[i * 2]? = some (str p.1) ∧ (flat l)[i * 2 + 1]? = some (str p.2) := by
  have : (flat l).drop (i * 2) = str p.1 :: str p.2 :: flat (l.drop (i + 1)) := by
    rw [← flat_drop, List.drop_eq_getElem?_toList_append, h]
    simp [flat_cons]
  constructor
  · have := congrArg (·[0]?) this; simpa using this
  · have := congrArg (·[1]?) this; simpa using this
theorem flat_one (l : List Pr) : ∀ u ∈ flat l, u.oneCell' = true := by
  intro u hu
  obtain ⟨p, _, hp⟩ := List.mem_flatMap.1 hu
  simp [encP] at hp
  rcases hp with rfl | rfl <;> rfl

/-- A slice of pairs. -/
def PS (w : World) (v : Value) (l : List Pr) : Prop := Sl w 2 v l.length (flat l)
section
variable {w w' : World} {A : Option Addr} {v : Value} {l : List Pr}
theorem PS.below (h : PS w v l) (hb : Below w.heap.size w w') : PS w' v l := Sl.below h hb
theorem PS.keep (h : PS w v l) (hk : ∀ p : Addr, p.block < w.heap.size → w'.cell? p = w.cell? p) : PS w' v l := Sl.keep h hk
theorem PS.alloc (h : PS w v l) (o : Obj) : PS (w.alloc o) v l := Sl.alloc h o
theorem PS.of_own {base : Nat} {e : TypeId} {n : Nat} (h : w.ownsRow base e 2 v n (flat l)) : PS w v l := by
  have hn : n = l.length := by have := h.1; rw [flat_length] at this; omega
  subst hn
  exact Sl.of_own h
theorem seg_pair (h : Seg w A (flat l)) {i : Nat} {p : Pr} (hp : l[i]? = some p) :
    ∃ b o, A = some ⟨b, o, none⟩ ∧ w.cell? ⟨b, o + i * 2, none⟩ = some (str p.1) ∧ w.cell? ⟨b, o + i * 2 + 1, none⟩ = some (str p.2) :=
  h.two _ (flat_get hp).1 (flat_get hp).2
end

theorem get_of_lt {α : Type} (l : List α) {k : Nat} (h : k < l.length) : ∃ p, l[k]? = some p := ⟨l[k], List.getElem?_eq_getElem h⟩
theorem take_snoc {α : Type} {l : List α} {k : Nat} {p : α} (h : l[k]? = some p) : l.take (k + 1) = l.take k ++ [p] := by
  rw [List.take_succ_eq_append_getElem (List.getElem?_eq_some_iff.1 h).1]
  rw [(List.getElem?_eq_some_iff.1 h).2]

theorem info_of {P : Program} {t : TypeId} {z : Value} {size bytes : Nat} (h : (P.info? t).map (fun i => (i.zero, i.size, i.bytes)) = some (some z, size, bytes)) (hz : z.cells.size = size) :
    ∃ i z, P.info? t = some i ∧ i.zero = some z ∧ i.size = size ∧ i.bytes = bytes ∧ z.cells.size = size := by
  cases hi : P.info? t with
  | none => rw [hi] at h; cases h
  | some i =>
    rw [hi] at h
    simp only [Option.map_some, Option.some.injEq, Prod.mk.injEq] at h
    exact ⟨i, z, rfl, h.1, h.2.1, h.2.2, hz⟩
theorem own_lit {w : World} {e : TypeId} {size : Nat} (cs : List Value) (n : Nat) (hm : n ≤ maxLen) (hs : cs.length = n * size) {base : Nat} (hb : base ≤ w.heap.size) :
    (w.alloc (.cells cs.toArray e)).ownsRow base e size (.slice (some ⟨w.heap.size, 0, none⟩) n n) n cs :=
  World.ownsRow_lit w cs.toArray n hb hm hs

/-- All the blocks that there were stay. -/
abbrev Ext (w w' : World) : Prop := Below w.heap.size w w'
theorem Ext.refl (w : World) : Ext w w := Below.refl _ _
theorem Ext.trans {a b c : World} (h : Ext a b) (k : Ext b c) : Ext a c := Below.trans h (k.mono h.size)
end Go.QS
/- Slices of bytes that read as lists. No function of the program is named here. -/
namespace Go.QS
open Go.RowKit

def encB (l : List UInt8) : List Value := l.map fun b => .int .u8 (b.toNat : Int)
theorem encB_length (l : List UInt8) : (encB l).length = l.length := by simp [encB]
theorem encB_one (l : List UInt8) : ∀ u ∈ encB l, u.oneCell' = true := by
  intro u hu
  obtain ⟨b, _, rfl⟩ := List.mem_map.1 hu
  rfl
theorem encB_append (a b : List UInt8) : encB (a ++ b) = encB a ++ encB b := by simp [encB]
theorem encB_get {l : List UInt8} {i : Nat} {b : UInt8} (h : l[i]? = some b) : (encB l)[i]? = some (.int .u8 (b.toNat : Int)) := by simp [encB, h]
/-- A slice of bytes. -/
def BS (w : World) (v : Value) (l : List UInt8) : Prop := Sl w 1 v l.length (encB l)
theorem BS.below {w w' : World} {v : Value} {l : List UInt8} (h : BS w v l) (hb : Below w.heap.size w w') : BS w' v l := Sl.below h hb
theorem BS.of_own {w : World} {base : Nat} {e : TypeId} {v : Value} {l : List UInt8} (h : w.ownsRow base e 1 v l.length (encB l)) : BS w v l := Sl.of_own h

/-- string(b). -/
theorem conv_bs {P : Program} {src e dst : TypeId} (hs : P.underlying src = some (.slice e)) (he : P.underlying e = some (.int .u8)) (hd : P.underlying dst = some .string) {w : World} {v : Value} {l : List UInt8} (h : BS w v l) :
    (convert src dst v).run P w = .ok (str l) w := by
  obtain ⟨A, c, rfl, hl, hn, hc, hseg⟩ := h
  cases l with
  | nil =>
    simp only [List.length_nil]
    cases A with
    | none => rw [run_convert_bytes_nil w src e hs he 0 c dst hd]; rfl
    | some a =>
      rw [run_convert_bytes_string w src dst e _ 0 c hs he hd]
      have hl : (loadCells a 0).run P w = .ok ([] : List Value).toArray w := by simp [loadCells, loadCellsFrom]
      have := run_bytesToString (P := P) w a 0 c [] hl
      rw [this]; rfl
  | cons x r =>
    obtain ⟨b, o, rfl, hat⟩ := hseg (by simp [encB])
    have := run_convert_bytes_arg (P := P) w src e hs he b o (x :: r).length c ((x :: r).map fun b => (b.toNat : Int)) (by simp) (fun i hi => by
      obtain ⟨y, hy⟩ := get_of_lt (x :: r) hi
      have e1 := hat i _ (encB_get hy)
      rw [e1]
      congr 2
      rw [List.getD_eq_getElem?_getD, List.getElem?_map, hy]; rfl) dst hd
    rw [this]
    congr 2
    simp only [strOfNums, bs, List.map_map]
    congr 2
    conv => rhs; rw [← List.map_id (x :: r)]
    refine List.map_congr_left fun b _ => ?_
    simp

/-- make([]byte, n). -/
theorem made_own {w : World} {e : TypeId} (n : Nat) (hn : n ≤ maxLen) {base : Nat} (hb : base ≤ w.heap.size) :
    (w.alloc (.cells (madeCells #[.int .u8 0] n) e)).ownsRow base e 1 (.slice (some ⟨w.heap.size, 0, none⟩) n n) n (encB (List.replicate n 0)) := by
  have h := World.ownsRow_lit (base := base) (e := e) (size := 1) w (madeCells #[.int .u8 0] n) n hb hn (by simp [madeCells])
  rw [toList_madeCells_one] at h
  have e2 : encB (List.replicate n 0) = List.replicate n (Value.int .u8 0) := by simp [encB]
  rw [e2]
  exact h
end Go.QS
/- Appends of bytes: onto a full slice of whoever's, of a string. No program. -/
namespace Go.QS
open Go.RowKit

theorem own_base {w : World} {base base' : Nat} {e : TypeId} {k n : Nat} {v : Value} {xs : List Value} (h : w.ownsRow base' e k v n xs) (hb : base ≤ base') : w.ownsRow base e k v n xs := by
  rcases h with ⟨h1, h2⟩
  refine ⟨h1, ?_⟩
  rcases h2 with h2 | ⟨g, cap, cur, rfl, hg, h3⟩
  · exact .inl h2
  · exact .inr ⟨g, cap, cur, rfl, Nat.le_trans hb hg, h3⟩

/-- A slice without spare room: what is appended goes into a new row. -/
theorem wpList_appG {P : Program} {W w : World} {ops : Array Oper} {rest : List Oper} {o : Oper} {a : Act} {Q : Exit → Act → World → Prop} (hgd : o.guard = none) (s x : Operand) (t : TypeId)
    (ho : o.op = .call { callee := .builtin .append, args := #[s, x], argTypes := #[t, t] })
    (e : TypeId) (size bytes : Nat) (ht : P.underlying t = some (.slice e)) (hi : ∃ i z, P.info? e = some i ∧ i.zero = some z ∧ i.size = size ∧ i.bytes = bytes ∧ z.cells.size = size) (hsz : 0 < size)
    (A0 : Option Addr) (n : Nat) (xs : List Value) (hs : a.eval s = .slice A0 n n) (hxl : xs.length = n * size) (h0 : Seg w A0 xs) (hb : Below W.heap.size W w)
    (A : Option Addr) (m c : Nat) (news : List Value) (hx : a.eval x = .slice A m c) (hm : 0 < m) (hl : news.length = m * size) (hr : Seg w A news) (h1 : ∀ u ∈ news, u.oneCell' = true)
    (h63 : n + m ≤ maxLen) (hbytes : (n + m) * bytes ≤ 140737488355328)
    (h : ∀ v' w', w'.ownsRow W.heap.size e size v' (n + m) (xs ++ news) → Below W.heap.size W w' → wpList P ops Q rest (a.put o.dst v') w') : wpList P ops Q (o :: rest) a w := by
  obtain ⟨i, z, h2, h3, h4, h5, h6⟩ := hi
  have hne : news ≠ [] := by
    intro e; rw [e] at hl; have := Nat.mul_pos hm hsz; simp only [List.length_nil] at hl; omega
  obtain ⟨b, o', rfl, hc⟩ := hr hne
  have hnone : A0 = none → n = 0 ∧ n = 0 := by
    intro hA
    rcases Nat.eq_zero_or_pos n with h | h
    · exact ⟨h, h⟩
    · have : xs ≠ [] := by
        intro e; rw [e] at hxl; have := Nat.mul_pos h hsz; simp only [List.length_nil] at hxl; omega
      obtain ⟨b, o, h', _⟩ := h0 this
      rw [hA] at h'; cases h'
  refine wpList_append_grows w hgd s x t ho e i z size bytes ht h2 h3 h4 h5 h6 hsz A0 n n xs hs hnone hxl ?_ ⟨b, o', none⟩ m c news hx hl ?_ h1 (by omega) h63 hbytes ?_
  · intro b0 hb0 j u hu
    obtain ⟨b1, o1, h', hc1⟩ := h0 (fun e => by rw [e] at hu; simp at hu)
    rw [hb0] at h'
    cases h'
    rw [Addr.add_lit]
    exact hc1 j u hu
  · intro j u hu
    rw [Addr.add_lit]
    exact hc j u hu
  · intro v' w' r1 r2
    exact h v' w' (own_base r1 hb.size) (hb.grown r2 hb.size fun k hk => by cases hk)

theorem strCells_str (s : List UInt8) : Lib.strCells (bs s) = encB s := by simp [Lib.strCells, encB, bs]

/-- append(b, s...), s a string. -/
theorem wpList_appS {P : Program} {W w : World} {ops : Array Oper} {rest : List Oper} {o : Oper} {a : Act} {Q : Exit → Act → World → Prop} (hgd : o.guard = none) (sl x : Operand) (t u : TypeId)
    (ho : o.op = .call { callee := .builtin .append, args := #[sl, x], argTypes := #[t, u] })
    (e : TypeId) (ht : P.underlying t = some (.slice e)) (hu : P.underlying u = some .string) (hi : ∃ i z, P.info? e = some i ∧ i.zero = some z ∧ i.size = 1 ∧ i.bytes = 1 ∧ z = .int .u8 0)
    (v : Value) (n : Nat) (xs : List Value) (hs : a.eval sl = v) (hown : w.ownsRow W.heap.size e 1 v n xs) (hb : Below W.heap.size W w) (s : List UInt8) (hx : a.eval x = str s)
    (h63 : n + s.length ≤ maxLen) (hbytes : n + s.length ≤ 140737488355328)
    (h : ∀ v' w', w'.ownsRow W.heap.size e 1 v' (n + s.length) (xs ++ encB s) → Below W.heap.size W w' → wpList P ops Q rest (a.put o.dst v') w') : wpList P ops Q (o :: rest) a w := by
  obtain ⟨i, z, h2, h3, h4, h5, rfl⟩ := hi
  refine Lib.wpList_append_own_string w hgd sl x t u ho W.heap.size e i ht hu h2 h3 h4 h5 v n xs hs hown (bs s) hx (by rw [bs_size]; exact h63) (by rw [bs_size]; exact hbytes) hb.size ?_
  intro v' w' r1 r2 _
  rw [bs_size, strCells_str] at r1
  exact h v' w' r1 (hb.grown r2 hb.size fun k hk => (hown.lt k hk).1)
end Go.QS
/- Radix trees as plain data, and nodes in memory that are one. No function of the program is named here. -/
namespace Go.QS
open Go.RowKit

inductive RT where
  | node (lab : List UInt8) (val : Option (List UInt8)) (kids : List RT)
namespace RT
def lab : RT → List UInt8 | node l _ _ => l
def val : RT → Option (List UInt8) | node _ v _ => v
def kids : RT → List RT | node _ _ k => k
@[simp] theorem lab_node (l v k) : (node l v k).lab = l := rfl
@[simp] theorem val_node (l v k) : (node l v k).val = v := rfl
@[simp] theorem kids_node (l v k) : (node l v k).kids = k := rfl
/-- A label's first byte. -/
def hd (t : RT) : Nat := (t.lab.headD 0).toNat
end RT
theorem RT.eta (t : RT) : RT.node t.lab t.val t.kids = t := by cases t; rfl

def common : List UInt8 → List UInt8 → Nat
  | a :: x, b :: y => if a = b then common x y + 1 else 0
  | _, _ => 0

/-- The place of the kid that begins with a byte, or where it would be; is it there? -/
def fI (ks : List RT) (c : Nat) : Nat := (ks.takeWhile fun k => decide (k.hd < c)).length
def fH (ks : List RT) (c : Nat) : Bool := ks.any fun k => k.hd == c

/-- A branch, cut. -/
def tsplit (t : RT) (k : Nat) : RT := RT.node (t.lab.take k) none [RT.node (t.lab.drop k) t.val t.kids]

def tput : Nat → RT → List UInt8 → List UInt8 → RT × Bool × Bool
  | _, t, [], v => if t.val = some v then (t, false, false) else (RT.node t.lab (some v) t.kids, t.val.isNone, true)
  | 0, t, _ :: _, _ => (t, false, false)
  | n + 1, t, c :: key, v =>
    if fH t.kids c.toNat then
      match t.kids[fI t.kids c.toNat]? with
      | none => (t, false, false)
      | some kid =>
        let k := common (c :: key) kid.lab
        let r := tput n (if k < kid.lab.length then tsplit kid k else kid) ((c :: key).drop k) v
        if r.2.2 then (RT.node t.lab t.val (t.kids.set (fI t.kids c.toNat) r.1), r.2.1, true) else (t, false, false)
    else (RT.node t.lab t.val (t.kids.take (fI t.kids c.toNat) ++ RT.node (c :: key) (some v) [] :: t.kids.drop (fI t.kids c.toNat)), true, true)

/-! ### Nodes -/
abbrev ptr (g : Nat) : Value := .pointer (some ⟨g, 0, none⟩)
def ptrs (l : List Nat) : List Value := l.map ptr
@[simp] theorem ptrs_length (l : List Nat) : (ptrs l).length = l.length := by simp [ptrs]
@[simp] theorem ptrs_nil : ptrs [] = [] := rfl
theorem ptrs_append (a b : List Nat) : ptrs (a ++ b) = ptrs a ++ ptrs b := by simp [ptrs]
theorem ptrs_one (l : List Nat) : ∀ u ∈ ptrs l, u.oneCell' = true := by
  intro u hu
  obtain ⟨g, _, rfl⟩ := List.mem_map.1 hu
  rfl
theorem ptrs_get {l : List Nat} {i g : Nat} (h : l[i]? = some g) : (ptrs l)[i]? = some (ptr g) := by simp [ptrs, h]

/-- A node's block. -/
def NodeAt (T : TypeId) (w : World) (g : Nat) (lab : List UInt8) (val : Option (List UInt8)) (kv : Value) (ow : Option Addr) : Prop :=
  w.heap[g]? = some (.cells #[str lab, .bool val.isSome, str (val.getD []), kv, .pointer ow] T (0, 0))

section
variable {T : TypeId} {w w' : World} {g : Nat} {lab : List UInt8} {val : Option (List UInt8)} {kv : Value} {ow : Option Addr}
theorem heap_lt {o : Obj} (h : w.heap[g]? = some o) : g < w.heap.size := (Array.getElem?_eq_some_iff.1 h).1
theorem NodeAt.lt (h : NodeAt T w g lab val kv ow) : g < w.heap.size := heap_lt h
theorem NodeAt.ext (h : NodeAt T w g lab val kv ow) (hb : Ext w w') : NodeAt T w' g lab val kv ow := (hb.block g h.lt).trans h
theorem NodeAt.cells (h : NodeAt T w g lab val kv ow) : w.cell? ⟨g, 0, none⟩ = some (str lab) ∧ w.cell? ⟨g, 1, none⟩ = some (.bool val.isSome) ∧ w.cell? ⟨g, 2, none⟩ = some (str (val.getD [])) ∧ w.cell? ⟨g, 3, none⟩ = some kv ∧ w.cell? ⟨g, 4, none⟩ = some (.pointer ow) := by
  unfold NodeAt at h
  simp [World.cell?, h]
theorem NodeAt.free (h : NodeAt T w g lab val kv ow) (j : Nat) : w.frozen? ⟨g, j, none⟩ = false := by
  unfold NodeAt at h
  simp [World.frozen?, h]
theorem heap_set {cs : Array Value} {f : Nat × Nat} (h : w.heap[g]? = some (.cells cs T f)) (i : Nat) (v : Value) : (w.setCell ⟨g, i, none⟩ v).heap[g]? = some (.cells (cs.setIfInBounds i v) T f) := by
  simp [World.setCell, Array.getElem?_modify, h]
theorem NodeAt.set0 (h : NodeAt T w g lab val kv ow) (l : List UInt8) : NodeAt T (w.setCell ⟨g, 0, none⟩ (str l)) g l val kv ow := heap_set h 0 _
theorem NodeAt.set12 (h : NodeAt T w g lab val kv ow) (_ : Bool) (v : List UInt8) : NodeAt T ((w.setCell ⟨g, 1, none⟩ (.bool true)).setCell ⟨g, 2, none⟩ (str v)) g lab (some v) kv ow := heap_set (heap_set h 1 _) 2 _
theorem NodeAt.set12n (h : NodeAt T w g lab val kv ow) : NodeAt T ((w.setCell ⟨g, 1, none⟩ (.bool false)).setCell ⟨g, 2, none⟩ (str [])) g lab none kv ow := heap_set (heap_set h 1 _) 2 _
theorem NodeAt.set3 (h : NodeAt T w g lab val kv ow) (kv' : Value) : NodeAt T (w.setCell ⟨g, 3, none⟩ kv') g lab val kv' ow := heap_set h 3 _
theorem NodeAt.set4 (h : NodeAt T w g lab val kv ow) (ow' : Option Addr) : NodeAt T (w.setCell ⟨g, 4, none⟩ (.pointer ow')) g lab val kv ow' := heap_set h 4 _
theorem NodeAt.new (T : TypeId) (w : World) (hg : g = w.heap.size) : NodeAt T (w.alloc (.cells #[str lab, .bool val.isSome, str (val.getD []), kv, .pointer ow] T)) g lab val kv ow := by
  subst hg; simp only [NodeAt, World.alloc]; simp
end

/-- A node in memory is this tree. -/
inductive Rep (T : TypeId) (w : World) : Nat → RT → Prop
  | mk {g : Nat} {t : RT} {kv : Value} {ow : Option Addr} {ps : List Nat} (h : NodeAt T w g t.lab t.val kv ow) (hs : Sl w 1 kv ps.length (ptrs ps)) (hl : ps.length = t.kids.length)
      (hk : ∀ (j p : Nat) (k : RT), ps[j]? = some p → t.kids[j]? = some k → Rep T w p k) : Rep T w g t

/-- Kids in memory are these trees. -/
def Reps (T : TypeId) (w : World) (ps : List Nat) (ks : List RT) : Prop := ps.length = ks.length ∧ ∀ (j p : Nat) (k : RT), ps[j]? = some p → ks[j]? = some k → Rep T w p k

section
variable {T : TypeId} {w w' : World} {g : Nat} {t : RT} {ps : List Nat} {ks : List RT}
theorem Rep.ext (h : Rep T w g t) (hb : Ext w w') : Rep T w' g t := by
  induction h with
  | mk h hs hl _ ih => exact .mk (h.ext hb) (hs.below hb) hl ih
theorem Rep.open (h : Rep T w g t) : ∃ kv ow ps, NodeAt T w g t.lab t.val kv ow ∧ Sl w 1 kv ps.length (ptrs ps) ∧ Reps T w ps t.kids := by
  cases h with
  | mk h hs hl hk => exact ⟨_, _, _, h, hs, hl, hk⟩
theorem Rep.make {kv : Value} {ow : Option Addr} (h : NodeAt T w g t.lab t.val kv ow) (hs : Sl w 1 kv ps.length (ptrs ps)) (hk : Reps T w ps t.kids) : Rep T w g t := .mk h hs hk.1 hk.2
theorem Rep.lt (h : Rep T w g t) : g < w.heap.size := by
  cases h with
  | mk h => exact h.lt
theorem Reps.ext (h : Reps T w ps ks) (hb : Ext w w') : Reps T w' ps ks := ⟨h.1, fun j p k h1 h2 => (h.2 j p k h1 h2).ext hb⟩
theorem Reps.nil (T : TypeId) (w : World) : Reps T w [] [] := ⟨rfl, fun j p k h => by simp at h⟩
theorem Reps.set (h : Reps T w ps ks) {i p : Nat} {k : RT} (hp : Rep T w p k) : Reps T w (ps.set i p) (ks.set i k) := by
  refine ⟨by simp [h.1], fun j q t h1 h2 => ?_⟩
  rw [List.getElem?_set] at h1 h2
  split at h1
  · split at h2
    · split at h1
      · split at h2
        · cases h1; cases h2; exact hp
        · cases h2
      · cases h1
    · contradiction
  · split at h2
    · contradiction
    · exact h.2 j q t h1 h2
theorem Reps.insert (h : Reps T w ps ks) {i p : Nat} {k : RT} (hi : i ≤ ps.length) (hp : Rep T w p k) : Reps T w (ps.take i ++ p :: ps.drop i) (ks.take i ++ k :: ks.drop i) := by
  have hl := h.1
  refine ⟨by simp [hl], fun j q t h1 h2 => ?_⟩
  rw [List.getElem?_append] at h1 h2
  simp only [List.length_take, Nat.min_eq_left hi, Nat.min_eq_left (hl ▸ hi)] at h1 h2
  split at h1
  · rename_i hj
    rw [if_pos hj] at h2
    rw [List.getElem?_take_of_lt hj] at h1 h2
    exact h.2 j q t h1 h2
  · rename_i hj
    rw [if_neg hj] at h2
    obtain ⟨m, hm⟩ : ∃ m, j - i = m := ⟨_, rfl⟩
    rw [hm] at h1 h2
    cases m with
    | zero => simp at h1 h2; subst h1 h2; exact hp
    | succ m =>
      simp at h1 h2
      exact h.2 _ q t h1 h2
theorem Reps.erase (h : Reps T w ps ks) (i : Nat) : Reps T w (ps.take i ++ ps.drop (i + 1)) (ks.take i ++ ks.drop (i + 1)) := by
  have hl := h.1
  refine ⟨by simp [hl], fun j q t h1 h2 => ?_⟩
  rw [List.getElem?_append] at h1 h2
  simp only [List.length_take, ← hl] at h1 h2
  split at h1
  · rename_i hj
    rw [if_pos hj] at h2
    rw [List.getElem?_take_of_lt (by omega)] at h1 h2
    exact h.2 j q t h1 h2
  · rename_i hj
    rw [if_neg hj] at h2
    simp at h1 h2
    exact h.2 _ q t h1 h2
end
end Go.QS
/- Plain laws of kids in order: where one is, or would be. No program. -/
namespace Go.QS

/-- Labels' first bytes rise. -/
def Heads (ks : List RT) : Prop := ks.Pairwise fun a b => a.hd < b.hd

theorem fI_cons (x : RT) (l : List RT) (c : Nat) : fI (x :: l) c = if x.hd < c then fI l c + 1 else 0 := by
  unfold fI
  rw [List.takeWhile_cons]
  by_cases h : x.hd < c <;> simp [h]
theorem fI_nil (c : Nat) : fI [] c = 0 := rfl
theorem fI_le (l : List RT) (c : Nat) : fI l c ≤ l.length := (List.takeWhile_sublist _).length_le

theorem fI_first : ∀ {l : List RT} {c i : Nat}, i ≤ l.length → (∀ t q, t < i → l[t]? = some q → q.hd < c) → (∀ q, l[i]? = some q → ¬ q.hd < c) → i = fI l c
  | [], c, i, h, _, _ => by simpa [fI] using h
  | x :: l, c, 0, _, _, h => by
    rw [fI_cons, if_neg (h x rfl)]
  | x :: l, c, i + 1, hi, h1, h2 => by
    rw [fI_cons, if_pos (h1 0 x (Nat.zero_lt_succ _) rfl), ← fI_first (by simpa using hi) (fun t q ht hq => h1 (t + 1) q (Nat.succ_lt_succ ht) hq) (fun q hq => h2 q hq)]

theorem fI_lt {l : List RT} {c t : Nat} {q : RT} (ht : t < fI l c) (hq : l[t]? = some q) : q.hd < c := by
  induction l generalizing t with
  | nil => cases hq
  | cons x l ih =>
    rw [fI_cons] at ht
    split at ht
    · cases t with
      | zero => cases hq; assumption
      | succ t => exact ih (Nat.lt_of_succ_lt_succ ht) hq
    · omega

theorem heads_cons {x : RT} {l : List RT} : Heads (x :: l) ↔ (∀ q ∈ l, x.hd < q.hd) ∧ Heads l := List.pairwise_cons

theorem fI_ge {l : List RT} {c t : Nat} {q : RT} (hs : Heads l) (ht : fI l c ≤ t) (hq : l[t]? = some q) : c ≤ q.hd := by
  induction l generalizing t with
  | nil => cases hq
  | cons x l ih =>
    rw [heads_cons] at hs
    rw [fI_cons] at ht
    split at ht
    · cases t with
      | zero => omega
      | succ t => exact ih hs.2 (by omega) hq
    · rename_i hx
      cases t with
      | zero => cases hq; omega
      | succ t => have := hs.1 q (List.mem_of_getElem? hq); omega

theorem fH_iff {l : List RT} {c : Nat} : fH l c = true ↔ ∃ q ∈ l, q.hd = c := by simp [fH]

theorem fH_at {l : List RT} {c : Nat} (hs : Heads l) : fH l c = (match l[fI l c]? with | some q => q.hd == c | none => false) := by
  cases h : l[fI l c]? with
  | none =>
    rw [Bool.eq_false_iff]
    intro hc
    obtain ⟨q, hq, e⟩ := fH_iff.1 hc
    obtain ⟨t, ht⟩ := List.getElem?_of_mem hq
    have h1 := (List.getElem?_eq_some_iff.1 ht).1
    have h2 := List.getElem?_eq_none_iff.1 h
    have := fI_lt (show t < fI l c by omega) ht
    omega
  | some q =>
    show fH l c = (q.hd == c)
    rw [Bool.eq_iff_iff, fH_iff, beq_iff_eq]
    constructor
    · rintro ⟨p, hp, e⟩
      obtain ⟨t, ht⟩ := List.getElem?_of_mem hp
      rcases Nat.lt_trichotomy t (fI l c) with h1 | h1 | h1
      · have := fI_lt h1 ht; omega
      · subst h1; rw [ht] at h; cases h; exact e
      · have hq := fI_ge hs (Nat.le_refl _) h
        obtain ⟨e1, e2⟩ := List.getElem?_eq_some_iff.1 h
        obtain ⟨e3, e4⟩ := List.getElem?_eq_some_iff.1 ht
        have := List.pairwise_iff_getElem.1 hs _ _ e1 e3 h1
        rw [e2, e4] at this
        omega
    · intro e
      exact ⟨q, List.mem_of_getElem? h, e⟩
end Go.QS
/- Plain laws: kids that are as they must be. No program. -/
namespace Go.QS

/-- Kids as they must be, below a way that has room for so many bytes. -/
inductive Kd : Nat → List RT → Prop
  | nil (N : Nat) : Kd N []
  | cons {N : Nat} {t : RT} {r : List RT} (h1 : t.lab ≠ []) (h2 : t.lab.length ≤ N) (h3 : t.val.isSome = true ∨ 2 ≤ t.kids.length) (h4 : Kd (N - t.lab.length) t.kids) (h5 : ∀ q ∈ r, t.hd < q.hd) (h6 : Kd N r) : Kd N (t :: r)

def Br (N : Nat) (t : RT) : Prop := t.lab ≠ [] ∧ t.lab.length ≤ N ∧ (t.val.isSome = true ∨ 2 ≤ t.kids.length) ∧ Kd (N - t.lab.length) t.kids

theorem kd_iff : ∀ {N : Nat} {ks : List RT}, Kd N ks ↔ Heads ks ∧ ∀ k ∈ ks, Br N k
  | N, [] => ⟨fun _ => ⟨List.Pairwise.nil, fun k h => by cases h⟩, fun _ => .nil N⟩
  | N, t :: r => by
    rw [heads_cons]
    constructor
    · intro h
      cases h with
      | cons h1 h2 h3 h4 h5 h6 =>
        obtain ⟨i1, i2⟩ := kd_iff.1 h6
        refine ⟨⟨h5, i1⟩, fun k hk => ?_⟩
        rcases List.mem_cons.1 hk with rfl | hk
        · exact ⟨h1, h2, h3, h4⟩
        · exact i2 k hk
    · rintro ⟨⟨h5, h6⟩, h⟩
      obtain ⟨h1, h2, h3, h4⟩ := h t (List.mem_cons_self ..)
      exact .cons h1 h2 h3 h4 h5 (kd_iff.2 ⟨h6, fun k hk => h k (List.mem_cons_of_mem _ hk)⟩)

theorem Kd.heads {N : Nat} {ks : List RT} (h : Kd N ks) : Heads ks := (kd_iff.1 h).1
theorem Kd.br {N : Nat} {ks : List RT} (h : Kd N ks) {k : RT} (hk : k ∈ ks) : Br N k := (kd_iff.1 h).2 k hk
theorem Kd.ne {N : Nat} {ks : List RT} (h : Kd N ks) : ∀ k ∈ ks, k.lab ≠ [] := fun _ hk => (h.br hk).1

theorem RT.hd_lt (k : RT) : k.hd < 256 := UInt8.toNat_lt _
theorem heads_len : ∀ (n : Nat) (ks : List RT), Heads ks → (∀ k ∈ ks, n ≤ k.hd) → ks.length + n ≤ 256 ∨ ks = []
  | n, [], _, _ => .inr rfl
  | n, t :: r, h, hn => by
    rw [heads_cons] at h
    have h1 := hn t (List.mem_cons_self ..)
    rcases heads_len (t.hd + 1) r h.2 (fun k hk => h.1 k hk) with h2 | rfl
    · left; simp; omega
    · left; have := RT.hd_lt t; simp; omega
theorem Kd.len {N : Nat} {ks : List RT} (h : Kd N ks) : ks.length ≤ 256 := by
  rcases heads_len 0 ks h.heads (fun k _ => Nat.zero_le _) with h | rfl
  · omega
  · simp

theorem Kd.one {N : Nat} {t : RT} (h : Br N t) : Kd N [t] := .cons h.1 h.2.1 h.2.2.1 h.2.2.2 (fun q hq => by cases hq) (.nil N)

theorem tsplit_kd {N k : Nat} {t : RT} (h : Br N t) (hk : k < t.lab.length) : Kd (N - k) (tsplit t k).kids := by
  obtain ⟨h1, h2, h3, h4⟩ := h
  refine Kd.one ⟨?_, ?_, h3, ?_⟩
  · intro e
    have := congrArg List.length e
    simp at this; omega
  · simp; omega
  · simp only [RT.lab_node, RT.kids_node, List.length_drop]
    rwa [show N - k - (t.lab.length - k) = N - t.lab.length by omega]

theorem hd_eq {t : RT} {c : UInt8} {l : List UInt8} (h : t.lab = c :: l) : t.hd = c.toNat := by simp [RT.hd, h]
theorem hd_lab {t : RT} {c : UInt8} (hne : t.lab ≠ []) (h : t.hd = c.toNat) : ∃ l, t.lab = c :: l := by
  obtain ⟨x, l, hl⟩ := List.exists_cons_of_ne_nil hne
  rw [hd_eq hl] at h
  exact ⟨l, by rw [hl, UInt8.toNat_inj.1 h]⟩
theorem common_pos {c : UInt8} {a b : List UInt8} : common (c :: a) (c :: b) = common a b + 1 := by simp [common]

/-- The kid that a byte leads to. -/
theorem fH_get {ks : List RT} {c : Nat} (hs : Heads ks) (h : fH ks c = true) : ∃ k, ks[fI ks c]? = some k ∧ k.hd = c := by
  rw [fH_at hs] at h
  cases hq : ks[fI ks c]? with
  | none => rw [hq] at h; cases h
  | some q =>
    rw [hq] at h
    exact ⟨q, rfl, by simpa using h⟩
end Go.QS
