/- Texts joined. -/
import Derived.WalkKit
import Derived.WalkLawsBesides
import Derived.BigQuiet
import Derived.Outline
import Derived.Deep.DeepFit
import Derived.Maps.AppendAt
import Derived.Deep.AppendLies
import Derived.RegionTactic
import Derived.OwnWalk
import Derived.Lib.Hide
import Derived.Deep.QuietTactic
import Derived.Lib.Strings
import Derived.Laws.BytesArg
import Derived.Deep.OwnRows
import Derived.ArgAppend
import Derived.Lib.AppendStr
set_option linter.unusedVariables false
set_option linter.unusedSimpArgs false
/- The words of these proofs: strings as lists of bytes, slices that read as lists of cells, and the laws on them. No function of the program is named here. -/
namespace Go.QS
open Go.RowKit

/-- The string of these bytes. -/
def bs (l : List UInt8) : ByteArray := ⟨l.toArray⟩
abbrev str (l : List UInt8) : Value := .string (bs l)
theorem bs_data (s : ByteArray) : bs s.data.toList = s := Lib.mk_data s
@[go_sem, simp] theorem bs_size (l : List UInt8) : (bs l).size = l.length := by simp [bs, ByteArray.size]
@[go_sem, simp] theorem bs_toList (l : List UInt8) : (bs l).toList = l := ByteArray.toList_mk l
@[go_sem] theorem bs_extract (l : List UInt8) (a b : Nat) : (bs l).extract a b = bs ((l.drop a).take (b - a)) := ByteArray.extract_mk l a b
theorem bs_inj {a b : List UInt8} (h : bs a = bs b) : a = b := by have := congrArg ByteArray.toList h; simpa using this
theorem bs_get (l : List UInt8) (i : Nat) (h : i < (bs l).size) : (bs l)[i] = l[i]'(by simpa using h) := rfl
theorem bs_append (a b : List UInt8) : bs a ++ bs b = bs (a ++ b) := by
  have h : ((bs a ++ bs b).data) = ((bs (a ++ b)).data) := by simp [bs, ByteArray.data_append]
  cases e : bs a ++ bs b; rw [e] at h; simp at h; subst h; rfl

/-- At an address lie these cells. -/
def Seg (w : World) (A : Option Addr) (xs : List Value) : Prop :=
  xs ≠ [] → ∃ b o, A = some ⟨b, o, none⟩ ∧ ∀ j u, xs[j]? = some u → w.cell? ⟨b, o + j, none⟩ = some u

/-- A slice of n elements, of so many cells each, that reads as these cells. -/
def Sl (w : World) (k : Nat) (v : Value) (n : Nat) (xs : List Value) : Prop :=
  ∃ A c, v = .slice A n c ∧ xs.length = n * k ∧ n ≤ c ∧ c ≤ maxLen ∧ Seg w A xs

section
variable {w w' : World} {A : Option Addr} {xs : List Value} {v : Value} {n k : Nat}

theorem Seg.nil (w : World) (A : Option Addr) : Seg w A [] := fun h => absurd rfl h
theorem Seg.keep (h : Seg w A xs) (hk : ∀ p : Addr, p.block < w.heap.size → w'.cell? p = w.cell? p) : Seg w' A xs := by
  intro hne
  obtain ⟨b, o, hA, hc⟩ := h hne
  exact ⟨b, o, hA, fun j u hu => (hk _ (World.block_lt_of_cell? w _ (hc j u hu))).trans (hc j u hu)⟩
theorem Seg.below (h : Seg w A xs) (hb : Below w.heap.size w w') : Seg w' A xs := h.keep fun _ hp => hb.cell hp
theorem Seg.alloc (h : Seg w A xs) (o : Obj) : Seg (w.alloc o) A xs := h.keep fun p hp => World.cell?_alloc_lt w o p hp
theorem Seg.take (h : Seg w A xs) (m : Nat) : Seg w A (xs.take m) := by
  intro hne
  obtain ⟨b, o, hA, hc⟩ := h (fun e => hne (by simp [e]))
  refine ⟨b, o, hA, fun j u hu => hc j u ?_⟩
  rw [List.getElem?_take] at hu
  split at hu
  · exact hu
  · cases hu
theorem Seg.drop {b o : Nat} (h : Seg w (some ⟨b, o, none⟩) xs) (m : Nat) : Seg w (some ⟨b, o + m, none⟩) (xs.drop m) := by
  intro hne
  obtain ⟨b', o', hA, hc⟩ := h (fun e => hne (by simp [e]))
  cases hA
  refine ⟨b, o + m, rfl, fun j u hu => ?_⟩
  rw [List.getElem?_drop] at hu
  have := hc _ _ hu
  rwa [← Nat.add_assoc] at this
theorem Seg.new (w : World) (cs : List Value) (t : TypeId) {g : Nat} (hg : g = w.heap.size) : Seg (w.alloc (.cells cs.toArray t)) (some ⟨g, 0, none⟩) cs := by
  subst hg
  intro _
  refine ⟨_, _, rfl, fun j u hu => ?_⟩
  rw [World.cell?_alloc_at _ _ _ _ rfl]
  simpa using hu
theorem Seg.two (h : Seg w A xs) (i : Nat) {u1 u2 : Value} (h1 : xs[i]? = some u1) (h2 : xs[i + 1]? = some u2) : ∃ b o, A = some ⟨b, o, none⟩ ∧ w.cell? ⟨b, o + i, none⟩ = some u1 ∧ w.cell? ⟨b, o + i + 1, none⟩ = some u2 := by
  obtain ⟨b, o, hA, hc⟩ := h (fun e => by simp [e] at h1)
  exact ⟨b, o, hA, hc _ _ h1, hc _ _ h2⟩

theorem Sl.keep (h : Sl w k v n xs) (hk : ∀ p : Addr, p.block < w.heap.size → w'.cell? p = w.cell? p) : Sl w' k v n xs := by
  obtain ⟨A, c, h1, h2, h3, h4, h5⟩ := h
  exact ⟨A, c, h1, h2, h3, h4, h5.keep hk⟩
theorem Sl.below (h : Sl w k v n xs) (hb : Below w.heap.size w w') : Sl w' k v n xs := h.keep fun _ hp => hb.cell hp
theorem Sl.alloc (h : Sl w k v n xs) (o : Obj) : Sl (w.alloc o) k v n xs := h.keep fun p hp => World.cell?_alloc_lt w o p hp
theorem Sl.len (h : Sl w k v n xs) : xs.length = n * k := let ⟨_, _, _, h, _⟩ := h; h
theorem Sl.nil (w : World) (k : Nat) : Sl w k (.slice none 0 0) 0 [] := ⟨none, 0, rfl, by simp, Nat.le_refl _, by simp [maxLen], Seg.nil _ _⟩
theorem Sl.of_own {base : Nat} {e : TypeId} (h : w.ownsRow base e k v n xs) : Sl w k v n xs := by
  rcases h.2 with ⟨rfl, rfl⟩ | ⟨g, cap, cur, rfl, hb, hg, hn, hcap, hs, htake⟩
  · have : xs = [] := List.eq_nil_of_length_eq_zero (by simpa using h.1)
    subst this
    exact Sl.nil w k
  · refine ⟨_, _, rfl, h.1, hn, hcap, fun _ => ⟨g, 0, rfl, fun j u hu => ?_⟩⟩
    rw [Nat.zero_add, cell_of_row w g j cur e (0, 0) hg]
    rw [← htake, List.getElem?_take] at hu
    split at hu
    · simpa using hu
    · cases hu
end

/-- Append of a source that reads as cells, onto a row of the call's own. -/
theorem run_app {P : Program} (w : World) (base : Nat) (t ty e : TypeId) (i : TypeInfo) (z : Value) (size bytes : Nat) (ht : P.underlying t = some (.slice e)) (hi : P.info? e = some i) (hz : i.zero = some z)
    (hsize : i.size = size) (hby : i.bytes = bytes) (hzs : z.cells.size = size) (hsz : 0 < size)
    (v : Value) (n : Nat) (xs : List Value) (hown : w.ownsRow base e size v n xs)
    (A : Option Addr) (m c : Nat) (news : List Value) (hl : news.length = m * size) (hr : Seg w A news) (h1 : ∀ u ∈ news, u.oneCell' = true)
    (h63 : n + m ≤ maxLen) (hbytes : (n + m) * bytes ≤ 140737488355328) (hbase : base ≤ w.heap.size) :
    ∃ v' w', (Builtin.append_ #[t, t] ty #[v, .slice A m c]).run P w = .ok v' w' ∧ w'.ownsRow base e size v' (n + m) (xs ++ news) ∧ w.grownBy w' v.ownBlock ∧
      (v'.ownBlock = v.ownBlock ∨ v'.ownBlock = some w.heap.size) := by
  by_cases hm : m = 0
  · subst hm
    have hn : news = [] := List.eq_nil_of_length_eq_zero (by simpa using hl)
    subst hn
    have hfc : (Builtin.firstCells (0 * i.size) 0 (.slice A 0 c)).run P w = .ok #[] w := by
      cases A <;> simp [Builtin.firstCells, loadCells, loadCellsFrom]
    have hfc' : (Builtin.firstCells i.size 0 (.slice A 0 c)).run P w = .ok #[] w := by
      cases A <;> simp [Builtin.firstCells, loadCells, loadCellsFrom]
    refine ⟨v, w, ?_, by simpa using hown, World.grownBy.refl w _, .inl rfl⟩
    rcases hown.2 with ⟨rfl, rfl⟩ | ⟨g, cap, cur, rfl, _, _, hnc, _⟩
    · simp [Builtin.append_, run_underlying ht, sizeOf, typeInfo, hi, Builtin.lenOf, hfc']
    · simp [Builtin.append_, run_underlying ht, sizeOf, typeInfo, hi, Builtin.lenOf, hfc', hnc, storeCells]
  · have hne : news ≠ [] := by
      intro e; rw [e] at hl; have := Nat.mul_pos (Nat.pos_of_ne_zero hm) hsz; simp only [List.length_nil] at hl; omega
    obtain ⟨b, o, rfl, hc⟩ := hr hne
    have hcells : ∀ j u, news[j]? = some u → w.cell? ((⟨b, o, none⟩ : Addr).add j) = some u := by
      intro j u hu
      rw [Addr.add_lit]
      exact hc j u hu
    obtain ⟨v', w', hrun, h2, h3, _, h5⟩ := run_append_own_at (P := P) w base t ty e i z size bytes ht hi hz hsize hby hzs hsz v n xs hown ⟨b, o, none⟩ m c news hl hcells h1 h63 hbytes hbase
    exact ⟨v', w', hrun, h2, h3, h5⟩

theorem wpList_app {P : Program} {w : World} {ops : Array Oper} {rest : List Oper} {o : Oper} {a : Act} {Q : Exit → Act → World → Prop} (hgd : o.guard = none) (s x : Operand) (t : TypeId)
    (ho : o.op = .call { callee := .builtin .append, args := #[s, x], argTypes := #[t, t] })
    (base : Nat) (e : TypeId) (size bytes : Nat) (ht : P.underlying t = some (.slice e)) (hi : ∃ i z, P.info? e = some i ∧ i.zero = some z ∧ i.size = size ∧ i.bytes = bytes ∧ z.cells.size = size) (hsz : 0 < size)
    (v : Value) (n : Nat) (xs : List Value) (hs : a.eval s = v) (hown : w.ownsRow base e size v n xs)
    (A : Option Addr) (m c : Nat) (news : List Value) (hx : a.eval x = .slice A m c) (hl : news.length = m * size) (hr : Seg w A news) (h1 : ∀ u ∈ news, u.oneCell' = true)
    (h63 : n + m ≤ maxLen) (hbytes : (n + m) * bytes ≤ 140737488355328) (hbase : base ≤ w.heap.size)
    (h : ∀ v' w', w'.ownsRow base e size v' (n + m) (xs ++ news) → w.grownBy w' v.ownBlock → (v'.ownBlock = v.ownBlock ∨ v'.ownBlock = some w.heap.size) → wpList P ops Q rest (a.put o.dst v') w') : wpList P ops Q (o :: rest) a w :=
  wpList_plain hgd fun _ hK => by
    obtain ⟨i, z, hi, hz, hsize, hby, hzs⟩ := hi
    obtain ⟨v', w', hrun, h2, h3, h4⟩ := run_app (P := P) w base t o.type e i z size bytes ht hi hz hsize hby hzs hsz v n xs hown A m c news hl hr h1 h63 hbytes hbase
    unfold Oper.wp execOp
    simp only [ho, resolve, invoke, builtin, Sem.run_bind, Sem.run_pure, Result.andThen_ok, List.map_toArray, List.map_cons, List.map_nil, hs, hx, hrun]
    exact hK _ _ (h v' w' h2 h3 h4)

/-- The same where all that the call has made lies above what there was. -/
theorem wpList_appE {P : Program} {W w : World} {ops : Array Oper} {rest : List Oper} {o : Oper} {a : Act} {Q : Exit → Act → World → Prop} (hgd : o.guard = none) (s x : Operand) (t : TypeId)
    (ho : o.op = .call { callee := .builtin .append, args := #[s, x], argTypes := #[t, t] })
    (e : TypeId) (size bytes : Nat) (ht : P.underlying t = some (.slice e)) (hi : ∃ i z, P.info? e = some i ∧ i.zero = some z ∧ i.size = size ∧ i.bytes = bytes ∧ z.cells.size = size) (hsz : 0 < size)
    (v : Value) (n : Nat) (xs : List Value) (hs : a.eval s = v) (hown : w.ownsRow W.heap.size e size v n xs) (hb : Below W.heap.size W w)
    (A : Option Addr) (m c : Nat) (news : List Value) (hx : a.eval x = .slice A m c) (hl : news.length = m * size) (hr : Seg w A news) (h1 : ∀ u ∈ news, u.oneCell' = true)
    (h63 : n + m ≤ maxLen) (hbytes : (n + m) * bytes ≤ 140737488355328)
    (h : ∀ v' w', w'.ownsRow W.heap.size e size v' (n + m) (xs ++ news) → Below W.heap.size W w' → wpList P ops Q rest (a.put o.dst v') w') : wpList P ops Q (o :: rest) a w :=
  wpList_app hgd s x t ho W.heap.size e size bytes ht hi hsz v n xs hs hown A m c news hx hl hr h1 h63 hbytes hb.size
    fun v' w' h2 h3 _ => h v' w' h2 (hb.grown h3 hb.size fun k hk => (hown.lt k hk).1)

/-! ### Pairs -/

abbrev Pr := List UInt8 × List UInt8
def encP (p : Pr) : List Value := [str p.1, str p.2]
def flat (l : List Pr) : List Value := l.flatMap encP
theorem flat_length (l : List Pr) : (flat l).length = l.length * 2 := by
  induction l with
  | nil => rfl
  | cons p l ih => simp only [flat, List.flatMap_cons, List.length_append, List.length_cons] at ih ⊢; rw [ih]; simp [encP]; omega
theorem flat_append (a b : List Pr) : flat (a ++ b) = flat a ++ flat b := by simp [flat]
theorem flat_cons (p : Pr) (l : List Pr) : flat (p :: l) = str p.1 :: str p.2 :: flat l := by simp [flat, encP]
@[simp] theorem flat_nil : flat [] = [] := rfl
theorem flat_take (l : List Pr) (k : Nat) : flat (l.take k) = (flat l).take (k * 2) := by
  induction l generalizing k with
  | nil => simp
  | cons p l ih =>
    cases k with
    | zero => simp
    | succ k => rw [List.take_succ_cons, flat_cons, flat_cons, ih, Nat.succ_mul]; rfl
theorem flat_drop (l : List Pr) (k : Nat) : flat (l.drop k) = (flat l).drop (k * 2) := by
  induction l generalizing k with
  | nil => simp
  | cons p l ih =>
    cases k with
    | zero => simp
    | succ k => rw [List.drop_succ_cons, flat_cons, ih, Nat.succ_mul]; rfl
theorem flat_get {l : List Pr} {i : Nat} {p : Pr} (h : l[i]? = some p) : (flat l)[i * 2]? = some (str p.1) ∧ (flat l)[i * 2 + 1]? = some (str p.2) := by
  have : (flat l).drop (i * 2) = str p.1 :: str p.2 :: flat (l.drop (i + 1)) := by
    rw [← flat_drop, List.drop_eq_getElem?_toList_append, h]
    simp [flat_cons]
  constructor
  · have := congrArg (·[0]?) this; simpa using this
  · have := congrArg (·[1]?) this; simpa using this
theorem flat_one (l : List Pr) : ∀ u ∈ flat l, u.oneCell' = true := by
  intro u hu
  obtain ⟨p, _, hp⟩ := List.mem_flatMap.1 hu
  simp [encP] at hp
  rcases hp with rfl | rfl <;> rfl

/-- A slice of pairs. -/
def PS (w : World) (v : Value) (l : List Pr) : Prop := Sl w 2 v l.length (flat l)
section
variable {w w' : World} {A : Option Addr} {v : Value} {l : List Pr}
theorem PS.below (h : PS w v l) (hb : Below w.heap.size w w') : PS w' v l := Sl.below h hb
theorem PS.keep (h : PS w v l) (hk : ∀ p : Addr, p.block < w.heap.size → w'.cell? p = w.cell? p) : PS w' v l := Sl.keep h hk
theorem PS.alloc (h : PS w v l) (o : Obj) : PS (w.alloc o) v l := Sl.alloc h o
theorem PS.of_own {base : Nat} {e : TypeId} {n : Nat} (h : w.ownsRow base e 2 v n (flat l)) : PS w v l := by
  have hn : n = l.length := by have := h.1; rw [flat_length] at this; omega
  subst hn
  exact Sl.of_own h
theorem seg_pair (h : Seg w A (flat l)) {i : Nat} {p : Pr} (hp : l[i]? = some p) :
    ∃ b o, A = some ⟨b, o, none⟩ ∧ w.cell? ⟨b, o + i * 2, none⟩ = some (str p.1) ∧ w.cell? ⟨b, o + i * 2 + 1, none⟩ = some (str p.2) :=
  h.two _ (flat_get hp).1 (flat_get hp).2
end

theorem get_of_lt {α : Type} (l : List α) {k : Nat} (h : k < l.length) : ∃ p, l[k]? = some p := ⟨l[k], List.getElem?_eq_getElem h⟩
theorem take_snoc {α : Type} {l : List α} {k : Nat} {p : α} (h : l[k]? = some p) : l.take (k + 1) = l.take k ++ [p] := by
  rw [List.take_succ_eq_append_getElem (List.getElem?_eq_some_iff.1 h).1]
  rw [(List.getElem?_eq_some_iff.1 h).2]

theorem info_of {P : Program} {t : TypeId} {z : Value} {size bytes : Nat} (h : (P.info? t).map (fun i => (i.zero, i.size, i.bytes)) = some (some z, size, bytes)) (hz : z.cells.size = size) :
    ∃ i z, P.info? t = some i ∧ i.zero = some z ∧ i.size = size ∧ i.bytes = bytes ∧ z.cells.size = size := by
  cases hi : P.info? t with
  | none => rw [hi] at h; cases h
  | some i =>
    rw [hi] at h
    simp only [Option.map_some, Option.some.injEq, Prod.mk.injEq] at h
    exact ⟨i, z, rfl, h.1, h.2.1, h.2.2, hz⟩
theorem own_lit {w : World} {e : TypeId} {size : Nat} (cs : List Value) (n : Nat) (hm : n ≤ maxLen) (hs : cs.length = n * size) {base : Nat} (hb : base ≤ w.heap.size) :
    (w.alloc (.cells cs.toArray e)).ownsRow base e size (.slice (some ⟨w.heap.size, 0, none⟩) n n) n cs :=
  World.ownsRow_lit w cs.toArray n hb hm hs

/-- All the blocks that there were stay. -/
abbrev Ext (w w' : World) : Prop := Below w.heap.size w w'
theorem Ext.refl (w : World) : Ext w w := Below.refl _ _
theorem Ext.trans {a b c : World} (h : Ext a b) (k : Ext b c) : Ext a c := Below.trans h (k.mono h.size)
end Go.QS
/- Slices of bytes that read as lists. No function of the program is named here. -/
namespace Go.QS
open Go.RowKit

def encB (l : List UInt8) : List Value := l.map fun b => .int .u8 (b.toNat : Int)
theorem encB_length (l : List UInt8) : (encB l).length = l.length := by simp [encB]
theorem encB_one (l : List UInt8) : ∀ u ∈ encB l, u.oneCell' = true := by
  intro u hu
  obtain ⟨b, _, rfl⟩ := List.mem_map.1 hu
  rfl
theorem encB_append (a b : List UInt8) : encB (a ++ b) = encB a ++ encB b := by simp [encB]
theorem encB_get {l : List UInt8} {i : Nat} {b : UInt8} (h : l[i]? = some b) : (encB l)[i]? = some (.int .u8 (b.toNat : Int)) := by simp [encB, h]
/-- A slice of bytes. -/
def BS (w : World) (v : Value) (l : List UInt8) : Prop := Sl w 1 v l.length (encB l)
theorem BS.below {w w' : World} {v : Value} {l : List UInt8} (h : BS w v l) (hb : Below w.heap.size w w') : BS w' v l := Sl.below h hb
theorem BS.of_own {w : World} {base : Nat} {e : TypeId} {v : Value} {l : List UInt8} (h : w.ownsRow base e 1 v l.length (encB l)) : BS w v l := Sl.of_own h

/-- string(b). -/
theorem conv_bs {P : Program} {src e dst : TypeId} (hs : P.underlying src = some (.slice e)) (he : P.underlying e = some (.int .u8)) (hd : P.underlying dst = some .string) {w : World} {v : Value} {l : List UInt8} (h : BS w v l) :
    (convert src dst v).run P w = .ok (str l) w := by
  obtain ⟨A, c, rfl, hl, hn, hc, hseg⟩ := h
  cases l with
  | nil =>
    simp only [List.length_nil]
    cases A with
    | none => rw [run_convert_bytes_nil w src e hs he 0 c dst hd]; rfl
    | some a =>
      rw [run_convert_bytes_string w src dst e _ 0 c hs he hd]
      have hl : (loadCells a 0).run P w = .ok ([] : List Value).toArray w := by simp [loadCells, loadCellsFrom]
      have := run_bytesToString (P := P) w a 0 c [] hl
      rw [this]; rfl
  | cons x r =>
    obtain ⟨b, o, rfl, hat⟩ := hseg (by simp [encB])
    have := run_convert_bytes_arg (P := P) w src e hs he b o (x :: r).length c ((x :: r).map fun b => (b.toNat : Int)) (by simp) (fun i hi => by
      obtain ⟨y, hy⟩ := get_of_lt (x :: r) hi
      have e1 := hat i _ (encB_get hy)
      rw [e1]
      congr 2
      rw [List.getD_eq_getElem?_getD, List.getElem?_map, hy]; rfl) dst hd
    rw [this]
    congr 2
    simp only [strOfNums, bs, List.map_map]
    congr 2
    conv => rhs; rw [← List.map_id (x :: r)]
    refine List.map_congr_left fun b _ => ?_
    simp

/-- make([]byte, n). -/
theorem made_own {w : World} {e : TypeId} (n : Nat) (hn : n ≤ maxLen) {base : Nat} (hb : base ≤ w.heap.size) :
    (w.alloc (.cells (madeCells #[.int .u8 0] n) e)).ownsRow base e 1 (.slice (some ⟨w.heap.size, 0, none⟩) n n) n (encB (List.replicate n 0)) := by
  have h := World.ownsRow_lit (base := base) (e := e) (size := 1) w (madeCells #[.int .u8 0] n) n hb hn (by simp [madeCells])
  rw [toList_madeCells_one] at h
  have e2 : encB (List.replicate n 0) = List.replicate n (Value.int .u8 0) := by simp [encB]
  rw [e2]
  exact h
end Go.QS
/- Appends of bytes: onto a full slice of whoever's, of a string. No program. -/
namespace Go.QS
open Go.RowKit

theorem own_base {w : World} {base base' : Nat} {e : TypeId} {k n : Nat} {v : Value} {xs : List Value} (h : w.ownsRow base' e k v n xs) (hb : base ≤ base') : w.ownsRow base e k v n xs := by
  rcases h with ⟨h1, h2⟩
  refine ⟨h1, ?_⟩
  rcases h2 with h2 | ⟨g, cap, cur, rfl, hg, h3⟩
  · exact .inl h2
  · exact .inr ⟨g, cap, cur, rfl, Nat.le_trans hb hg, h3⟩

/-- A slice without spare room: what is appended goes into a new row. -/
theorem wpList_appG {P : Program} {W w : World} {ops : Array Oper} {rest : List Oper} {o : Oper} {a : Act} {Q : Exit → Act → World → Prop} (hgd : o.guard = none) (s x : Operand) (t : TypeId)
    (ho : o.op = .call { callee := .builtin .append, args := #[s, x], argTypes := #[t, t] })
    (e : TypeId) (size bytes : Nat) (ht : P.underlying t = some (.slice e)) (hi : ∃ i z, P.info? e = some i ∧ i.zero = some z ∧ i.size = size ∧ i.bytes = bytes ∧ z.cells.size = size) (hsz : 0 < size)
    (A0 : Option Addr) (n : Nat) (xs : List Value) (hs : a.eval s = .slice A0 n n) (hxl : xs.length = n * size) (h0 : Seg w A0 xs) (hb : Below W.heap.size W w)
    (A : Option Addr) (m c : Nat) (news : List Value) (hx : a.eval x = .slice A m c) (hm : 0 < m) (hl : news.length = m * size) (hr : Seg w A news) (h1 : ∀ u ∈ news, u.oneCell' = true)
    (h63 : n + m ≤ maxLen) (hbytes : (n + m) * bytes ≤ 140737488355328)
    (h : ∀ v' w', w'.ownsRow W.heap.size e size v' (n + m) (xs ++ news) → Below W.heap.size W w' → wpList P ops Q rest (a.put o.dst v') w') : wpList P ops Q (o :: rest) a w := by
  obtain ⟨i, z, h2, h3, h4, h5, h6⟩ := hi
  have hne : news ≠ [] := by
    intro e; rw [e] at hl; have := Nat.mul_pos hm hsz; simp only [List.length_nil] at hl; omega
  obtain ⟨b, o', rfl, hc⟩ := hr hne
  have hnone : A0 = none → n = 0 ∧ n = 0 := by
    intro hA
    rcases Nat.eq_zero_or_pos n with h | h
    · exact ⟨h, h⟩
    · have : xs ≠ [] := by
        intro e; rw [e] at hxl; have := Nat.mul_pos h hsz; simp only [List.length_nil] at hxl; omega
      obtain ⟨b, o, h', _⟩ := h0 this
      rw [hA] at h'; cases h'
  refine wpList_append_grows w hgd s x t ho e i z size bytes ht h2 h3 h4 h5 h6 hsz A0 n n xs hs hnone hxl ?_ ⟨b, o', none⟩ m c news hx hl ?_ h1 (by omega) h63 hbytes ?_
  · intro b0 hb0 j u hu
    obtain ⟨b1, o1, h', hc1⟩ := h0 (fun e => by rw [e] at hu; simp at hu)
    rw [hb0] at h'
    cases h'
    rw [Addr.add_lit]
    exact hc1 j u hu
  · intro j u hu
    rw [Addr.add_lit]
    exact hc j u hu
  · intro v' w' r1 r2
    exact h v' w' (own_base r1 hb.size) (hb.grown r2 hb.size fun k hk => by cases hk)

theorem strCells_str (s : List UInt8) : Lib.strCells (bs s) = encB s := by simp [Lib.strCells, encB, bs]

/-- append(b, s...), s a string. -/
theorem wpList_appS {P : Program} {W w : World} {ops : Array Oper} {rest : List Oper} {o : Oper} {a : Act} {Q : Exit → Act → World → Prop} (hgd : o.guard = none) (sl x : Operand) (t u : TypeId)
    (ho : o.op = .call { callee := .builtin .append, args := #[sl, x], argTypes := #[t, u] })
    (e : TypeId) (ht : P.underlying t = some (.slice e)) (hu : P.underlying u = some .string) (hi : ∃ i z, P.info? e = some i ∧ i.zero = some z ∧ i.size = 1 ∧ i.bytes = 1 ∧ z = .int .u8 0)
    (v : Value) (n : Nat) (xs : List Value) (hs : a.eval sl = v) (hown : w.ownsRow W.heap.size e 1 v n xs) (hb : Below W.heap.size W w) (s : List UInt8) (hx : a.eval x = str s)
    (h63 : n + s.length ≤ maxLen) (hbytes : n + s.length ≤ 140737488355328)
    (h : ∀ v' w', w'.ownsRow W.heap.size e 1 v' (n + s.length) (xs ++ encB s) → Below W.heap.size W w' → wpList P ops Q rest (a.put o.dst v') w') : wpList P ops Q (o :: rest) a w := by
  obtain ⟨i, z, h2, h3, h4, h5, rfl⟩ := hi
  refine Lib.wpList_append_own_string w hgd sl x t u ho W.heap.size e i ht hu h2 h3 h4 h5 v n xs hs hown (bs s) hx (by rw [bs_size]; exact h63) (by rw [bs_size]; exact hbytes) hb.size ?_
  intro v' w' r1 r2 _
  rw [bs_size, strCells_str] at r1
  exact h v' w' r1 (hb.grown r2 hb.size fun k hk => (hown.lt k hk).1)
end Go.QS
/- Radix trees as plain data, and nodes in memory that are one. No function of the program is named here. -/
namespace Go.QS
open Go.RowKit

inductive RT where
  | node (lab : List UInt8) (val : Option (List UInt8)) (kids : List RT)
namespace RT
def lab : RT → List UInt8 | node l _ _ => l
def val : RT → Option (List UInt8) | node _ v _ => v
def kids : RT → List RT | node _ _ k => k
@[simp] theorem lab_node (l v k) : (node l v k).lab = l := rfl
@[simp] theorem val_node (l v k) : (node l v k).val = v := rfl
@[simp] theorem kids_node (l v k) : (node l v k).kids = k := rfl
/-- A label's first byte. -/
def hd (t : RT) : Nat := (t.lab.headD 0).toNat
end RT
theorem RT.eta (t : RT) : RT.node t.lab t.val t.kids = t := by cases t; rfl

def common : List UInt8 → List UInt8 → Nat
  | a :: x, b :: y => if a = b then common x y + 1 else 0
  | _, _ => 0

/-- The place of the kid that begins with a byte, or where it would be; is it there? -/
def fI (ks : List RT) (c : Nat) : Nat := (ks.takeWhile fun k => decide (k.hd < c)).length
def fH (ks : List RT) (c : Nat) : Bool := ks.any fun k => k.hd == c

/-- A branch, cut. -/
def tsplit (t : RT) (k : Nat) : RT := RT.node (t.lab.take k) none [RT.node (t.lab.drop k) t.val t.kids]

def tput : Nat → RT → List UInt8 → List UInt8 → RT × Bool × Bool
  | _, t, [], v => if t.val = some v then (t, false, false) else (RT.node t.lab (some v) t.kids, t.val.isNone, true)
  | 0, t, _ :: _, _ => (t, false, false)
  | n + 1, t, c :: key, v =>
    if fH t.kids c.toNat then
      match t.kids[fI t.kids c.toNat]? with
      | none => (t, false, false)
      | some kid =>
        let k := common (c :: key) kid.lab
        let r := tput n (if k < kid.lab.length then tsplit kid k else kid) ((c :: key).drop k) v
        if r.2.2 then (RT.node t.lab t.val (t.kids.set (fI t.kids c.toNat) r.1), r.2.1, true) else (t, false, false)
    else (RT.node t.lab t.val (t.kids.take (fI t.kids c.toNat) ++ RT.node (c :: key) (some v) [] :: t.kids.drop (fI t.kids c.toNat)), true, true)

/-! ### Nodes -/
abbrev ptr (g : Nat) : Value := .pointer (some ⟨g, 0, none⟩)
def ptrs (l : List Nat) : List Value := l.map ptr
@[simp] theorem ptrs_length (l : List Nat) : (ptrs l).length = l.length := by simp [ptrs]
@[simp] theorem ptrs_nil : ptrs [] = [] := rfl
theorem ptrs_append (a b : List Nat) : ptrs (a ++ b) = ptrs a ++ ptrs b := by simp [ptrs]
theorem ptrs_one (l : List Nat) : ∀ u ∈ ptrs l, u.oneCell' = true := by
  intro u hu
  obtain ⟨g, _, rfl⟩ := List.mem_map.1 hu
  rfl
theorem ptrs_get {l : List Nat} {i g : Nat} (h : l[i]? = some g) : (ptrs l)[i]? = some (ptr g) := by simp [ptrs, h]

/-- A node's block. -/
def NodeAt (T : TypeId) (w : World) (g : Nat) (lab : List UInt8) (val : Option (List UInt8)) (kv : Value) (ow : Option Addr) : Prop :=
  w.heap[g]? = some (.cells #[str lab, .bool val.isSome, str (val.getD []), kv, .pointer ow] T (0, 0))

section
variable {T : TypeId} {w w' : World} {g : Nat} {lab : List UInt8} {val : Option (List UInt8)} {kv : Value} {ow : Option Addr}
theorem heap_lt {o : Obj} (h : w.heap[g]? = some o) : g < w.heap.size := (Array.getElem?_eq_some_iff.1 h).1
theorem NodeAt.lt (h : NodeAt T w g lab val kv ow) : g < w.heap.size := heap_lt h
theorem NodeAt.ext (h : NodeAt T w g lab val kv ow) (hb : Ext w w') : NodeAt T w' g lab val kv ow := (hb.block g h.lt).trans h
theorem NodeAt.cells (h : NodeAt T w g lab val kv ow) : w.cell? ⟨g, 0, none⟩ = some (str lab) ∧ w.cell? ⟨g, 1, none⟩ = some (.bool val.isSome) ∧ w.cell? ⟨g, 2, none⟩ = some (str (val.getD [])) ∧ w.cell? ⟨g, 3, none⟩ = some kv ∧ w.cell? ⟨g, 4, none⟩ = some (.pointer ow) := by
  unfold NodeAt at h
  simp [World.cell?, h]
theorem NodeAt.free (h : NodeAt T w g lab val kv ow) (j : Nat) : w.frozen? ⟨g, j, none⟩ = false := by
  unfold NodeAt at h
  simp [World.frozen?, h]
theorem heap_set {cs : Array Value} {f : Nat × Nat} (h : w.heap[g]? = some (.cells cs T f)) (i : Nat) (v : Value) : (w.setCell ⟨g, i, none⟩ v).heap[g]? = some (.cells (cs.setIfInBounds i v) T f) := by
  simp [World.setCell, Array.getElem?_modify, h]
theorem NodeAt.set0 (h : NodeAt T w g lab val kv ow) (l : List UInt8) : NodeAt T (w.setCell ⟨g, 0, none⟩ (str l)) g l val kv ow := heap_set h 0 _
theorem NodeAt.set12 (h : NodeAt T w g lab val kv ow) (_ : Bool) (v : List UInt8) : NodeAt T ((w.setCell ⟨g, 1, none⟩ (.bool true)).setCell ⟨g, 2, none⟩ (str v)) g lab (some v) kv ow := heap_set (heap_set h 1 _) 2 _
theorem NodeAt.set12n (h : NodeAt T w g lab val kv ow) : NodeAt T ((w.setCell ⟨g, 1, none⟩ (.bool false)).setCell ⟨g, 2, none⟩ (str [])) g lab none kv ow := heap_set (heap_set h 1 _) 2 _
theorem NodeAt.set3 (h : NodeAt T w g lab val kv ow) (kv' : Value) : NodeAt T (w.setCell ⟨g, 3, none⟩ kv') g lab val kv' ow := heap_set h 3 _
theorem NodeAt.set4 (h : NodeAt T w g lab val kv ow) (ow' : Option Addr) : NodeAt T (w.setCell ⟨g, 4, none⟩ (.pointer ow')) g lab val kv ow' := heap_set h 4 _
theorem NodeAt.new (T : TypeId) (w : World) (hg : g = w.heap.size) : NodeAt T (w.alloc (.cells #[str lab, .bool val.isSome, str (val.getD []), kv, .pointer ow] T)) g lab val kv ow := by
  subst hg; simp only [NodeAt, World.alloc]; simp
end

/-- A node in memory is this tree. -/
inductive Rep (T : TypeId) (w : World) : Nat → RT → Prop
  | mk {g : Nat} {t : RT} {kv : Value} {ow : Option Addr} {ps : List Nat} (h : NodeAt T w g t.lab t.val kv ow) (hs : Sl w 1 kv ps.length (ptrs ps)) (hl : ps.length = t.kids.length)
      (hk : ∀ (j p : Nat) (k : RT), ps[j]? = some p → t.kids[j]? = some k → Rep T w p k) : Rep T w g t

/-- Kids in memory are these trees. -/
def Reps (T : TypeId) (w : World) (ps : List Nat) (ks : List RT) : Prop := ps.length = ks.length ∧ ∀ (j p : Nat) (k : RT), ps[j]? = some p → ks[j]? = some k → Rep T w p k

section
variable {T : TypeId} {w w' : World} {g : Nat} {t : RT} {ps : List Nat} {ks : List RT}
theorem Rep.ext (h : Rep T w g t) (hb : Ext w w') : Rep T w' g t := by
  induction h with
  | mk h hs hl _ ih => exact .mk (h.ext hb) (hs.below hb) hl ih
theorem Rep.open (h : Rep T w g t) : ∃ kv ow ps, NodeAt T w g t.lab t.val kv ow ∧ Sl w 1 kv ps.length (ptrs ps) ∧ Reps T w ps t.kids := by
  cases h with
  | mk h hs hl hk => exact ⟨_, _, _, h, hs, hl, hk⟩
theorem Rep.make {kv : Value} {ow : Option Addr} (h : NodeAt T w g t.lab t.val kv ow) (hs : Sl w 1 kv ps.length (ptrs ps)) (hk : Reps T w ps t.kids) : Rep T w g t := .mk h hs hk.1 hk.2
theorem Rep.lt (h : Rep T w g t) : g < w.heap.size := by
  cases h with
  | mk h => exact h.lt
theorem Reps.ext (h : Reps T w ps ks) (hb : Ext w w') : Reps T w' ps ks := ⟨h.1, fun j p k h1 h2 => (h.2 j p k h1 h2).ext hb⟩
theorem Reps.nil (T : TypeId) (w : World) : Reps T w [] [] := ⟨rfl, fun j p k h => by simp at h⟩
theorem Reps.set (h : Reps T w ps ks) {i p : Nat} {k : RT} (hp : Rep T w p k) : Reps T w (ps.set i p) (ks.set i k) := by
  refine ⟨by simp [h.1], fun j q t h1 h2 => ?_⟩
  rw [List.getElem?_set] at h1 h2
  split at h1
  · split at h2
    · split at h1
      · split at h2
        · cases h1; cases h2; exact hp
        · cases h2
      · cases h1
    · contradiction
  · split at h2
    · contradiction
    · exact h.2 j q t h1 h2
theorem Reps.insert (h : Reps T w ps ks) {i p : Nat} {k : RT} (hi : i ≤ ps.length) (hp : Rep T w p k) : Reps T w (ps.take i ++ p :: ps.drop i) (ks.take i ++ k :: ks.drop i) := by
  have hl := h.1
  refine ⟨by simp [hl], fun j q t h1 h2 => ?_⟩
  rw [List.getElem?_append] at h1 h2
  simp only [List.length_take, Nat.min_eq_left hi, Nat.min_eq_left (hl ▸ hi)] at h1 h2
  split at h1
  · rename_i hj
    rw [if_pos hj] at h2
    rw [List.getElem?_take_of_lt hj] at h1 h2
    exact h.2 j q t h1 h2
  · rename_i hj
    rw [if_neg hj] at h2
    obtain ⟨m, hm⟩ : ∃ m, j - i = m := ⟨_, rfl⟩
    rw [hm] at h1 h2
    cases m with
    | zero => simp at h1 h2; subst h1 h2; exact hp
    | succ m =>
      simp at h1 h2
      exact h.2 _ q t h1 h2
theorem Reps.erase (h : Reps T w ps ks) (i : Nat) : Reps T w (ps.take i ++ ps.drop (i + 1)) (ks.take i ++ ks.drop (i + 1)) := by
  have hl := h.1
  refine ⟨by simp [hl], fun j q t h1 h2 => ?_⟩
  rw [List.getElem?_append] at h1 h2
  simp only [List.length_take, ← hl] at h1 h2
  split at h1
  · rename_i hj
    rw [if_pos hj] at h2
    rw [List.getElem?_take_of_lt (by omega)] at h1 h2
    exact h.2 j q t h1 h2
  · rename_i hj
    rw [if_neg hj] at h2
    simp at h1 h2
    exact h.2 _ q t h1 h2
end
end Go.QS
/- Plain laws of kids in order: where one is, or would be. No program. -/
namespace Go.QS

/-- Labels' first bytes rise. -/
def Heads (ks : List RT) : Prop := ks.Pairwise fun a b => a.hd < b.hd

theorem fI_cons (x : RT) (l : List RT) (c : Nat) : fI (x :: l) c = if x.hd < c then fI l c + 1 else 0 := by
  unfold fI
  rw [List.takeWhile_cons]
  by_cases h : x.hd < c <;> simp [h]
theorem fI_nil (c : Nat) : fI [] c = 0 := rfl
theorem fI_le (l : List RT) (c : Nat) : fI l c ≤ l.length := (List.takeWhile_sublist _).length_le

theorem fI_first : ∀ {l : List RT} {c i : Nat}, i ≤ l.length → (∀ t q, t < i → l[t]? = some q → q.hd < c) → (∀ q, l[i]? = some q → ¬ q.hd < c) → i = fI l c
  | [], c, i, h, _, _ => by simpa [fI] using h
  | x :: l, c, 0, _, _, h => by
    rw [fI_cons, if_neg (h x rfl)]
  | x :: l, c, i + 1, hi, h1, h2 => by
    rw [fI_cons, if_pos (h1 0 x (Nat.zero_lt_succ _) rfl), ← fI_first (by simpa using hi) (fun t q ht hq => h1 (t + 1) q (Nat.succ_lt_succ ht) hq) (fun q hq => h2 q hq)]

theorem fI_lt {l : List RT} {c t : Nat} {q : RT} (ht : t < fI l c) (hq : l[t]? = some q) : q.hd < c := by
  induction l generalizing t with
  | nil => cases hq
  | cons x l ih =>
    rw [fI_cons] at ht
    split at ht
    · cases t with
      | zero => cases hq; assumption
      | succ t => exact ih (Nat.lt_of_succ_lt_succ ht) hq
    · omega

theorem heads_cons {x : RT} {l : List RT} : Heads (x :: l) ↔ (∀ q ∈ l, x.hd < q.hd) ∧ Heads l := List.pairwise_cons

theorem fI_ge {l : List RT} {c t : Nat} {q : RT} (hs : Heads l) (ht : fI l c ≤ t) (hq : l[t]? = some q) : c ≤ q.hd := by
  induction l generalizing t with
  | nil => cases hq
  | cons x l ih =>
    rw [heads_cons] at hs
    rw [fI_cons] at ht
    split at ht
    · cases t with
      | zero => omega
      | succ t => exact ih hs.2 (by omega) hq
    · rename_i hx
      cases t with
      | zero => cases hq; omega
      | succ t => have := hs.1 q (List.mem_of_getElem? hq); omega

theorem fH_iff {l : List RT} {c : Nat} : fH l c = true ↔ ∃ q ∈ l, q.hd = c := by simp [fH]

theorem fH_at {l : List RT} {c : Nat} (hs : Heads l) : fH l c = (match l[fI l c]? with | some q => q.hd == c | none => false) := by
  cases h : l[fI l c]? with
  | none =>
    rw [Bool.eq_false_iff]
    intro hc
    obtain ⟨q, hq, e⟩ := fH_iff.1 hc
    obtain ⟨t, ht⟩ := List.getElem?_of_mem hq
    have h1 := (List.getElem?_eq_some_iff.1 ht).1
    have h2 := List.getElem?_eq_none_iff.1 h
    have := fI_lt (show t < fI l c by omega) ht
    omega
  | some q =>
    show fH l c = (q.hd == c)
    rw [Bool.eq_iff_iff, fH_iff, beq_iff_eq]
    constructor
    · rintro ⟨p, hp, e⟩
      obtain ⟨t, ht⟩ := List.getElem?_of_mem hp
      rcases Nat.lt_trichotomy t (fI l c) with h1 | h1 | h1
      · have := fI_lt h1 ht; omega
      · subst h1; rw [ht] at h; cases h; exact e
      · have hq := fI_ge hs (Nat.le_refl _) h
        obtain ⟨e1, e2⟩ := List.getElem?_eq_some_iff.1 h
        obtain ⟨e3, e4⟩ := List.getElem?_eq_some_iff.1 ht
        have := List.pairwise_iff_getElem.1 hs _ _ e1 e3 h1
        rw [e2, e4] at this
        omega
    · intro e
      exact ⟨q, List.mem_of_getElem? h, e⟩
end Go.QS
/- Plain laws: kids that are as they must be. No program. -/
namespace Go.QS

/-- Kids as they must be, below a way that has room for so many bytes. -/
inductive Kd : Nat → List RT → Prop
  | nil (N : Nat) : Kd N []
  | cons {N : Nat} {t : RT} {r : List RT} (h1 : t.lab ≠ []) (h2 : t.lab.length ≤ N) (h3 : t.val.isSome = true ∨ 2 ≤ t.kids.length) (h4 : Kd (N - t.lab.length) t.kids) (h5 : ∀ q ∈ r, t.hd < q.hd) (h6 : Kd N r) : Kd N (t :: r)

def Br (N : Nat) (t : RT) : Prop := t.lab ≠ [] ∧ t.lab.length ≤ N ∧ (t.val.isSome = true ∨ 2 ≤ t.kids.length) ∧ Kd (N - t.lab.length) t.kids

theorem kd_iff : ∀ {N : Nat} {ks : List RT}, Kd N ks ↔ Heads ks ∧ ∀ k ∈ ks, Br N k
  | N, [] => ⟨fun _ => ⟨List.Pairwise.nil, fun k h => by cases h⟩, fun _ => .nil N⟩
  | N, t :: r => by
    rw [heads_cons]
    constructor
    · intro h
      cases h with
      | cons h1 h2 h3 h4 h5 h6 =>
        obtain ⟨i1, i2⟩ := kd_iff.1 h6
        refine ⟨⟨h5, i1⟩, fun k hk => ?_⟩
        rcases List.mem_cons.1 hk with rfl | hk
        · exact ⟨h1, h2, h3, h4⟩
        · exact i2 k hk
    · rintro ⟨⟨h5, h6⟩, h⟩
      obtain ⟨h1, h2, h3, h4⟩ := h t (List.mem_cons_self ..)
      exact .cons h1 h2 h3 h4 h5 (kd_iff.2 ⟨h6, fun k hk => h k (List.mem_cons_of_mem _ hk)⟩)

theorem Kd.heads {N : Nat} {ks : List RT} (h : Kd N ks) : Heads ks := (kd_iff.1 h).1
theorem Kd.br {N : Nat} {ks : List RT} (h : Kd N ks) {k : RT} (hk : k ∈ ks) : Br N k := (kd_iff.1 h).2 k hk
theorem Kd.ne {N : Nat} {ks : List RT} (h : Kd N ks) : ∀ k ∈ ks, k.lab ≠ [] := fun _ hk => (h.br hk).1

theorem RT.hd_lt (k : RT) : k.hd < 256 := UInt8.toNat_lt _
theorem heads_len : ∀ (n : Nat) (ks : List RT), Heads ks → (∀ k ∈ ks, n ≤ k.hd) → ks.length + n ≤ 256 ∨ ks = []
  | n, [], _, _ => .inr rfl
  | n, t :: r, h, hn => by
    rw [heads_cons] at h
    have h1 := hn t (List.mem_cons_self ..)
    rcases heads_len (t.hd + 1) r h.2 (fun k hk => h.1 k hk) with h2 | rfl
    · left; simp; omega
    · left; have := RT.hd_lt t; simp; omega
theorem Kd.len {N : Nat} {ks : List RT} (h : Kd N ks) : ks.length ≤ 256 := by
  rcases heads_len 0 ks h.heads (fun k _ => Nat.zero_le _) with h | rfl
  · omega
  · simp

theorem Kd.one {N : Nat} {t : RT} (h : Br N t) : Kd N [t] := .cons h.1 h.2.1 h.2.2.1 h.2.2.2 (fun q hq => by cases hq) (.nil N)

theorem tsplit_kd {N k : Nat} {t : RT} (h : Br N t) (hk : k < t.lab.length) : Kd (N - k) (tsplit t k).kids := by
  obtain ⟨h1, h2, h3, h4⟩ := h
  refine Kd.one ⟨?_, ?_, h3, ?_⟩
  · intro e
    have := congrArg List.length e
    simp at this; omega
  · simp; omega
  · simp only [RT.lab_node, RT.kids_node, List.length_drop]
    rwa [show N - k - (t.lab.length - k) = N - t.lab.length by omega]

theorem hd_eq {t : RT} {c : UInt8} {l : List UInt8} (h : t.lab = c :: l) : t.hd = c.toNat := by simp [RT.hd, h]
theorem hd_lab {t : RT} {c : UInt8} (hne : t.lab ≠ []) (h : t.hd = c.toNat) : ∃ l, t.lab = c :: l := by
  obtain ⟨x, l, hl⟩ := List.exists_cons_of_ne_nil hne
  rw [hd_eq hl] at h
  exact ⟨l, by rw [hl, UInt8.toNat_inj.1 h]⟩
theorem common_pos {c : UInt8} {a b : List UInt8} : common (c :: a) (c :: b) = common a b + 1 := by simp [common]

/-- The kid that a byte leads to. -/
theorem fH_get {ks : List RT} {c : Nat} (hs : Heads ks) (h : fH ks c = true) : ∃ k, ks[fI ks c]? = some k ∧ k.hd = c := by
  rw [fH_at hs] at h
  cases hq : ks[fI ks c]? with
  | none => rw [hq] at h; cases h
  | some q =>
    rw [hq] at h
    exact ⟨q, rfl, by simpa using h⟩
end Go.QS
/- The order of strings, byte by byte: laws. No program. -/
namespace Go.QS

theorem bless : ∀ (x y : List UInt8), Op.bytesLess x y = decide (x < y)
  | [], [] => by simp [Op.bytesLess]
  | _ :: _, [] => by simp [Op.bytesLess]
  | [], _ :: _ => by simp [Op.bytesLess]
  | a :: x, b :: y => by
    rw [Op.bytesLess, bless x y, Bool.eq_iff_iff]
    simp [List.cons_lt_cons_iff]

theorem k_irrefl (a : List UInt8) : ¬ a < a := List.lt_irrefl a
theorem k_trans {a b c : List UInt8} (h : a < b) (k : b < c) : a < c := List.lt_trans h k
theorem k_asymm {a b : List UInt8} (h : a < b) : ¬ b < a := fun k => k_irrefl a (k_trans h k)
theorem k_tri (a b : List UInt8) : a < b ∨ a = b ∨ b < a := by
  rcases Classical.em (a < b) with h | h
  · exact .inl h
  · rcases Classical.em (b < a) with k | k
    · exact .inr (.inr k)
    · exact .inr (.inl (List.le_antisymm (List.not_lt.1 k) (List.not_lt.1 h)))
theorem k_ne {a b : List UInt8} (h : a < b) : a ≠ b := fun e => k_irrefl a (by rw [e] at h ⊢; exact h)

/-- What cmp.Compare answers. -/
def cmpB (a b : List UInt8) : Int := if a < b then -1 else if b < a then 1 else 0
theorem cmpB_neg (a b : List UInt8) : cmpB a b < 0 ↔ a < b := by
  unfold cmpB
  by_cases h : a < b
  · simp [h]
  · by_cases k : b < a <;> simp [h, k]
theorem cmpB_zero (a b : List UInt8) : cmpB a b = 0 ↔ a = b := by
  unfold cmpB
  rcases k_tri a b with h | h | h
  · simp [h, k_ne h]
  · subst h; simp [k_irrefl]
  · simp [h, k_asymm h, (k_ne h).symm]
end Go.QS
/- Stable sorting of pairs by their keys: plain laws. No program. -/
namespace Go.QS

def le2 (p q : Pr) : Bool := decide (¬ q.1 < p.1)
/-- It rises (not strictly). -/
def Srt (l : List Pr) : Prop := l.Pairwise fun p q => ¬ q.1 < p.1
/-- Of each key the same pairs, in the same order. -/
def Stb (l l' : List Pr) : Prop := ∀ k, l.filter (fun p => p.1 == k) = l'.filter (fun p => p.1 == k)
def ssort (l : List Pr) : List Pr := l.mergeSort le2

theorem nlt_trans {a b c : List UInt8} (h : ¬ b < a) (k : ¬ c < b) : ¬ c < a := by
  intro hca
  rcases k_tri a b with h1 | h1 | h1
  · exact k (k_trans hca h1)
  · subst h1; exact k hca
  · exact h h1
theorem le2_trans (a b c : Pr) (h : le2 a b = true) (k : le2 b c = true) : le2 a c = true := by
  simp only [le2, decide_eq_true_eq] at *
  exact nlt_trans h k
theorem le2_total (a b : Pr) : (le2 a b || le2 b a) = true := by
  simp only [le2, Bool.or_eq_true, decide_eq_true_eq]
  rcases k_tri a.1 b.1 with h | h | h
  · exact .inl (k_asymm h)
  · rw [h]; exact .inl (k_irrefl _)
  · exact .inr (k_asymm h)

theorem Stb.refl (l : List Pr) : Stb l l := fun _ => rfl
theorem Stb.symm {l l' : List Pr} (h : Stb l l') : Stb l' l := fun k => (h k).symm
theorem Stb.trans {a b c : List Pr} (h : Stb a b) (k : Stb b c) : Stb a c := fun x => (h x).trans (k x)
theorem Stb.append {a b c d : List Pr} (h : Stb a b) (k : Stb c d) : Stb (a ++ c) (b ++ d) := fun x => by simp only [List.filter_append, h x, k x]
theorem Stb.mem {l l' : List Pr} (h : Stb l l') (p : Pr) : p ∈ l ↔ p ∈ l' := by
  have := h p.1
  constructor
  · intro hp
    have : p ∈ l'.filter (fun q => q.1 == p.1) := by rw [← this]; simp [hp]
    exact (List.mem_filter.1 this).1
  · intro hp
    have : p ∈ l.filter (fun q => q.1 == p.1) := by rw [this]; simp [hp]
    exact (List.mem_filter.1 this).1

theorem ssort_srt (l : List Pr) : Srt (ssort l) := by
  have := List.pairwise_mergeSort le2_trans le2_total l
  exact this.imp (by simp [le2])
theorem ssort_stb (l : List Pr) : Stb l (ssort l) := by
  intro k
  have hp := List.mergeSort_perm l le2
  have h1 : (l.filter (fun p => p.1 == k)).Pairwise (fun a b => le2 a b = true) := by
    refine List.Pairwise.imp_of_mem (R := fun _ _ => True) ?_ (by simp [List.pairwise_iff_getElem])
    intro a b ha hb _
    have e1 : a.1 = k := by simpa using (List.mem_filter.1 ha).2
    have e2 : b.1 = k := by simpa using (List.mem_filter.1 hb).2
    simp only [le2, decide_eq_true_eq, e1, e2]
    exact k_irrefl k
  have h2 := List.sublist_mergeSort le2_trans le2_total h1 List.filter_sublist
  have h3 : (l.filter (fun p => p.1 == k)).Sublist ((ssort l).filter (fun p => p.1 == k)) := by
    have := h2.filter (fun p => p.1 == k)
    simpa [List.filter_filter, ssort] using this
  exact h3.eq_of_length (hp.filter _).length_eq.symm
theorem ssort_length (l : List Pr) : (ssort l).length = l.length := List.length_mergeSort l

theorem srt_uniq : ∀ (l l' : List Pr), Srt l → Srt l' → Stb l l' → l = l'
  | [], [], _, _, _ => rfl
  | [], y :: t, _, _, h => absurd ((h.mem y).2 (by simp)) (by simp)
  | x :: t, [], _, _, h => absurd ((h.mem x).1 (by simp)) (by simp)
  | x :: s, y :: t, h1, h2, h => by
    have a1 := List.pairwise_cons.1 h1
    have a2 := List.pairwise_cons.1 h2
    have hx : ¬ x.1 < y.1 := by
      rcases List.mem_cons.1 ((h.mem x).1 (by simp)) with e | e
      · rw [e]; exact k_irrefl _
      · exact a2.1 _ e
    have hy : ¬ y.1 < x.1 := by
      rcases List.mem_cons.1 ((h.mem y).2 (by simp)) with e | e
      · rw [e]; exact k_irrefl _
      · exact a1.1 _ e
    have hk : x.1 = y.1 := by rcases k_tri x.1 y.1 with e | e | e <;> first | exact e | exact absurd e hx | exact absurd e hy
    have hf := h x.1
    have hxy : x = y := by
      simp only [List.filter_cons, beq_self_eq_true, if_true, hk] at hf
      exact (List.cons.inj hf).1
    subst hxy
    have : Stb s t := by
      intro k
      have := h k
      simp only [List.filter_cons] at this
      split at this
      · exact (List.cons.inj this).2
      · exact this
    rw [srt_uniq s t a1.2 a2.2 this]

theorem ssort_uniq {l l' : List Pr} (h : Srt l') (k : Stb l l') : l' = ssort l := srt_uniq _ _ h (ssort_srt l) (k.symm.trans (ssort_stb l))
theorem ssort_self {l : List Pr} (h : Srt l) : ssort l = l := (ssort_uniq h (Stb.refl l)).symm
theorem Srt.sub {l l' : List Pr} (h : Srt l) (k : l'.Sublist l) : Srt l' := List.Pairwise.sublist k h
theorem srt_append {a b : List Pr} : Srt (a ++ b) ↔ Srt a ∧ Srt b ∧ ∀ x ∈ a, ∀ y ∈ b, ¬ y.1 < x.1 := List.pairwise_append

/-- Blocks whose keys part may change places. -/
theorem stb_swap {a b : List Pr} (h : ∀ x ∈ a, ∀ y ∈ b, x.1 ≠ y.1) : Stb (a ++ b) (b ++ a) := by
  intro k
  simp only [List.filter_append]
  by_cases hk : ∃ x ∈ a, x.1 = k
  · obtain ⟨x, hx, rfl⟩ := hk
    have : b.filter (fun p => p.1 == x.1) = [] := by
      rw [List.filter_eq_nil_iff]
      intro y hy e
      exact h x hx y hy (by simpa using e : y.1 = x.1).symm
    simp [this]
  · have : a.filter (fun p => p.1 == k) = [] := by
      rw [List.filter_eq_nil_iff]
      intro y hy e
      exact hk ⟨y, hy, by simpa using e⟩
    simp [this]
theorem ins_done {T1 T2 : List Pr} {x : Pr} {A : List Pr} (hs : ssort A = T1 ++ T2) (h2 : ∀ y ∈ T2, x.1 < y.1) (h1 : ∀ y ∈ T1, ¬ x.1 < y.1) : T1 ++ x :: T2 = ssort (A ++ [x]) := by
  have hS := ssort_srt A
  rw [hs, srt_append] at hS
  refine ssort_uniq ?_ ?_
  · rw [srt_append]
    refine ⟨hS.1, List.pairwise_cons.2 ⟨fun y hy => k_asymm (h2 y hy), hS.2.1⟩, ?_⟩
    intro y hy z hz
    rcases List.mem_cons.1 hz with rfl | hz
    · exact h1 y hy
    · exact hS.2.2 y hy z hz
  · have e1 : Stb (A ++ [x]) (T1 ++ T2 ++ [x]) := by rw [← hs]; exact (ssort_stb A).append (Stb.refl _)
    refine e1.trans ?_
    rw [List.append_assoc]
    refine (Stb.refl T1).append ?_
    exact stb_swap (fun y hy z hz => by simp at hz; subst hz; exact (k_ne (h2 y hy)).symm)
/-- One pair goes into a sorted run behind it, ahead of the first that is not less. -/
theorem ssort_front {x : Pr} {B1 B2 : List Pr} (hB : Srt (B1 ++ B2)) (h1 : ∀ y ∈ B1, y.1 < x.1) (h2 : ∀ y ∈ B2, ¬ y.1 < x.1) : B1 ++ x :: B2 = ssort (x :: (B1 ++ B2)) := by
  have hS := srt_append.1 hB
  refine ssort_uniq ?_ ?_
  · rw [srt_append]
    refine ⟨hS.1, List.pairwise_cons.2 ⟨h2, hS.2.1⟩, ?_⟩
    intro y hy z hz
    rcases List.mem_cons.1 hz with rfl | hz
    · exact k_asymm (h1 y hy)
    · exact hS.2.2 y hy z hz
  · have e : Stb ([x] ++ B1 ++ B2) (B1 ++ [x] ++ B2) := (stb_swap fun a ha b hb => by simp at ha; subst ha; exact (k_ne (h1 b hb)).symm).append (Stb.refl _)
    simpa using e
/-- One pair goes into a sorted run ahead of it, behind the last that is not greater. -/
theorem ssort_back {y : Pr} {A1 A2 : List Pr} (hA : Srt (A1 ++ A2)) (h1 : ∀ u ∈ A1, ¬ y.1 < u.1) (h2 : ∀ u ∈ A2, y.1 < u.1) : A1 ++ y :: A2 = ssort (A1 ++ A2 ++ [y]) :=
  ins_done (A := A1 ++ A2) (ssort_self hA) h2 h1
theorem ssort_one (x : Pr) : ssort [x] = [x] := ssort_self (by simp [Srt])
theorem ssort_nil : ssort [] = [] := ssort_self (by simp [Srt])
theorem ssort_take_one (A : List Pr) : ssort (A.take 1) = A.take 1 := by
  cases A with
  | nil => exact ssort_nil
  | cons x A => exact ssort_one x
theorem Srt.get_le {l : List Pr} (h : Srt l) {i j : Nat} {p q : Pr} (hp : l[i]? = some p) (hq : l[j]? = some q) (hij : i ≤ j) : ¬ q.1 < p.1 := by
  rcases Nat.lt_or_eq_of_le hij with hlt | rfl
  · obtain ⟨h1, rfl⟩ := List.getElem?_eq_some_iff.1 hp
    obtain ⟨h2, rfl⟩ := List.getElem?_eq_some_iff.1 hq
    exact List.pairwise_iff_getElem.1 h i j h1 h2 hlt
  · rw [hp] at hq; cases hq; exact k_irrefl _
theorem Srt.below_lt {l : List Pr} (h : Srt l) {i j : Nat} {p q : Pr} {x : List UInt8} (hp : l[i]? = some p) (hq : l[j]? = some q) (hij : i ≤ j) (hx : q.1 < x) : p.1 < x := by
  rcases k_tri p.1 x with e | e | e
  · exact e
  · exact absurd (by rw [← e] at hx; exact hx) (h.get_le hp hq hij)
  · exact absurd (k_trans hx e) (h.get_le hp hq hij)
theorem Srt.above_nlt {l : List Pr} (h : Srt l) {i j : Nat} {p q : Pr} {x : List UInt8} (hp : l[i]? = some p) (hq : l[j]? = some q) (hij : i ≤ j) (hx : ¬ p.1 < x) : ¬ q.1 < x :=
  fun hq' => hx (h.below_lt hp hq hij hq')
theorem Srt.above_lt {l : List Pr} (h : Srt l) {i j : Nat} {p q : Pr} {x : List UInt8} (hp : l[i]? = some p) (hq : l[j]? = some q) (hij : i ≤ j) (hx : x < p.1) : x < q.1 := by
  rcases k_tri x q.1 with e | e | e
  · exact e
  · exact absurd (by rw [e] at hx; exact hx) (h.get_le hp hq hij)
  · exact absurd (k_trans e hx) (h.get_le hp hq hij)
theorem Srt.below_nlt {l : List Pr} (h : Srt l) {i j : Nat} {p q : Pr} {x : List UInt8} (hp : l[i]? = some p) (hq : l[j]? = some q) (hij : i ≤ j) (hx : ¬ x < q.1) : ¬ x < p.1 :=
  fun hp' => hx (h.above_lt hp hq hij hp')
theorem mem_take_get {α : Type} {l : List α} {t : Nat} {y : α} (h : y ∈ l.take t) : ∃ u, u < t ∧ l[u]? = some y := by
  obtain ⟨u, hu⟩ := List.mem_iff_getElem?.1 h
  have h1 : u < t := by have := (List.getElem?_eq_some_iff.1 hu).1; simp at this; omega
  exact ⟨u, h1, by rwa [List.getElem?_take_of_lt h1] at hu⟩
theorem mem_drop_get {α : Type} {l : List α} {t : Nat} {y : α} (h : y ∈ l.drop t) : ∃ u, t ≤ u ∧ l[u]? = some y := by
  obtain ⟨u, hu⟩ := List.mem_iff_getElem?.1 h
  rw [List.getElem?_drop] at hu
  exact ⟨_, by omega, hu⟩
theorem drop_cons {α : Type} {l : List α} {t : Nat} {v : α} (h : l[t]? = some v) : l.drop t = v :: l.drop (t + 1) := by rw [List.drop_eq_getElem?_toList_append, h]; rfl
/-- What symMerge rests on: halves that lie apart are sorted by themselves. -/
theorem ssort_halves {A1 A2 B1 B2 : List Pr} (hA : Srt (A1 ++ A2)) (hB : Srt (B1 ++ B2)) (h1 : ∀ x ∈ A1, ∀ y ∈ B2, ¬ y.1 < x.1) (h2 : ∀ x ∈ A2, ∀ y ∈ B1, y.1 < x.1) :
    ssort (A1 ++ B1) ++ ssort (A2 ++ B2) = ssort ((A1 ++ A2) ++ (B1 ++ B2)) := by
  have hA' := srt_append.1 hA
  have hB' := srt_append.1 hB
  refine ssort_uniq ?_ ?_
  · rw [srt_append]
    refine ⟨ssort_srt _, ssort_srt _, ?_⟩
    intro x hx y hy
    have hx' := ((ssort_stb (A1 ++ B1)).mem x).2 hx
    have hy' := ((ssort_stb (A2 ++ B2)).mem y).2 hy
    rcases List.mem_append.1 hx' with hx' | hx' <;> rcases List.mem_append.1 hy' with hy' | hy'
    · exact hA'.2.2 x hx' y hy'
    · exact h1 x hx' y hy'
    · exact k_asymm (h2 y hy' x hx')
    · exact hB'.2.2 x hx' y hy'
  · have e : Stb (A1 ++ (A2 ++ B1) ++ B2) (A1 ++ (B1 ++ A2) ++ B2) :=
      ((Stb.refl A1).append (stb_swap fun x hx y hy => (k_ne (h2 x hx y hy)).symm)).append (Stb.refl B2)
    have e2 : Stb ((A1 ++ B1) ++ (A2 ++ B2)) (ssort (A1 ++ B1) ++ ssort (A2 ++ B2)) := (ssort_stb _).append (ssort_stb _)
    refine Stb.trans ?_ e2
    simpa using e
theorem Srt.app_nil_left {A B : List Pr} (hA : Srt A) (hB : Srt B) (h : A = [] ∨ B = []) : ssort (A ++ B) = A ++ B := by
  rcases h with rfl | rfl
  · exact ssort_self (by simpa using hB)
  · exact ssort_self (by simpa using hA)
end Go.QS
/- A row sorted block by block: plain laws. No program. -/
namespace Go.QS

/-- The elements from a up to b, sorted where they lie. -/
def upd (l : List Pr) (a b : Nat) : List Pr := l.take a ++ (ssort ((l.drop a).take (b - a)) ++ l.drop b)
section
variable {l : List Pr} {a b : Nat}
theorem cut3 (l : List Pr) {a b : Nat} (h : a ≤ b) : l = l.take a ++ ((l.drop a).take (b - a) ++ l.drop b) := by
  have : l.drop b = (l.drop a).drop (b - a) := by rw [List.drop_drop]; congr 1; omega
  rw [this, List.take_append_drop, List.take_append_drop]
theorem upd_length (h : a ≤ b) (hb : b ≤ l.length) : (upd l a b).length = l.length := by
  simp [upd, ssort_length]; omega
theorem upd_stb (h : a ≤ b) : Stb l (upd l a b) := by
  have e := cut3 l h
  have : Stb (l.take a ++ ((l.drop a).take (b - a) ++ l.drop b)) (upd l a b) := (Stb.refl _).append ((ssort_stb _).append (Stb.refl _))
  rw [← e] at this
  exact this
theorem upd_before (h : a ≤ b) (hb : b ≤ l.length) {i k : Nat} (hi : i + k ≤ a) : ((upd l a b).drop i).take k = (l.drop i).take k := by
  have e : (l.take a).length = a := List.length_take_of_le (by omega)
  unfold upd
  rw [List.drop_append_of_le_length (by omega), List.take_append_of_le_length (by rw [List.length_drop]; omega), List.drop_take, List.take_take]
  congr 1; omega
theorem upd_after (h : a ≤ b) (hb : b ≤ l.length) {i : Nat} (hi : b ≤ i) : (upd l a b).drop i = l.drop i := by
  have e : (l.take a).length = a := List.length_take_of_le (by omega)
  have e2 : (ssort ((l.drop a).take (b - a))).length = b - a := by rw [ssort_length]; exact List.length_take_of_le (by rw [List.length_drop]; omega)
  unfold upd
  rw [List.drop_append, List.drop_append, e, e2, List.drop_eq_nil_of_le (by omega), List.drop_eq_nil_of_le (by omega), List.drop_drop]
  simp only [List.nil_append]
  congr 1; omega
theorem upd_at (h : a ≤ b) (hb : b ≤ l.length) : ((upd l a b).drop a).take (b - a) = ssort ((l.drop a).take (b - a)) := by
  have e : (l.take a).length = a := List.length_take_of_le (by omega)
  have e2 : (ssort ((l.drop a).take (b - a))).length = b - a := by rw [ssort_length]; exact List.length_take_of_le (by rw [List.length_drop]; omega)
  unfold upd
  rw [List.drop_append_of_le_length (by omega), List.drop_eq_nil_of_le (by omega), List.nil_append, List.take_append_of_le_length (by omega), List.take_of_length_le (by omega)]
theorem srt_take_drop (h : Srt l) (i k : Nat) : Srt ((l.drop i).take k) := h.sub ((List.take_sublist _ _).trans (List.drop_sublist _ _))
theorem srt_short {i : Nat} (hi : l.length ≤ i) (k : Nat) : Srt ((l.drop i).take k) := by rw [List.drop_eq_nil_of_le hi]; simp [Srt]
end

/-- From the c-th block on, and before it: how far the merging has come. -/
def Merged (bs t : Nat) (l : List Pr) : Prop := (∀ c, c < t → Srt ((l.drop (c * (2 * bs))).take (2 * bs))) ∧ (∀ c, 2 * t ≤ c → Srt ((l.drop (c * bs)).take bs))
def Chunks (bs : Nat) (l : List Pr) : Prop := ∀ c, Srt ((l.drop (c * bs)).take bs)

theorem Merged.zero {bs : Nat} {l : List Pr} (h : Chunks bs l) : Merged bs 0 l := ⟨fun c hc => by omega, fun c _ => h c⟩
theorem Merged.step {bs t a b : Nat} {l : List Pr} (h : Merged bs t l) (ha : a = t * (2 * bs)) (hb : b = a + 2 * bs) (hbl : b ≤ l.length) : Merged bs (t + 1) (upd l a b) := by
  refine ⟨fun c hc => ?_, fun c hc => ?_⟩
  · rcases Nat.lt_or_eq_of_le (Nat.le_of_lt_succ hc) with h1 | rfl
    · have : c * (2 * bs) + 2 * bs ≤ a := by rw [ha, ← Nat.succ_mul]; exact Nat.mul_le_mul_right _ h1
      rw [upd_before (by omega) hbl this]
      exact h.1 c h1
    · rw [← ha, show 2 * bs = b - a by omega, upd_at (by omega) hbl]
      exact ssort_srt _
  · have : b ≤ c * bs := by
      have h2 : (2 * (t + 1)) * bs ≤ c * bs := Nat.mul_le_mul_right _ hc
      have h3 : (2 * (t + 1)) * bs = (t + 1) * (2 * bs) := by rw [Nat.mul_comm 2, Nat.mul_assoc]
      have h4 : (t + 1) * (2 * bs) = t * (2 * bs) + 2 * bs := Nat.succ_mul _ _
      omega
    rw [upd_after (by omega) hbl this]
    exact h.2 c (by omega)
theorem Merged.left {bs t a : Nat} {l : List Pr} (h : Merged bs t l) (ha : a = t * (2 * bs)) : Srt ((l.drop a).take bs) ∧ Srt ((l.drop (a + bs)).take bs) := by
  have e1 : a = (2 * t) * bs := by rw [ha, Nat.mul_comm 2 t, Nat.mul_assoc]
  have e2 : a + bs = (2 * t + 1) * bs := by rw [e1]; exact (Nat.succ_mul (2 * t) bs).symm
  rw [e2, e1]
  exact ⟨h.2 _ (Nat.le_refl _), h.2 _ (by omega)⟩
theorem Merged.finish {bs t a : Nat} {l : List Pr} (h : Merged bs t l) (ha : a = t * (2 * bs)) (hal : a ≤ l.length) (hlt : l.length < a + 2 * bs) : Chunks (2 * bs) (upd l a l.length) := by
  intro c
  have hlen := upd_length hal (Nat.le_refl l.length)
  rcases Nat.lt_trichotomy c t with h1 | rfl | h1
  · have : c * (2 * bs) + 2 * bs ≤ a := by rw [ha, ← Nat.succ_mul]; exact Nat.mul_le_mul_right _ h1
    rw [upd_before hal (Nat.le_refl _) this]
    exact h.1 c h1
  · rw [← ha]
    have := upd_at hal (Nat.le_refl l.length)
    have e : ((upd l a l.length).drop a).take (2 * bs) = ((upd l a l.length).drop a).take (l.length - a) := by
      rw [List.take_of_length_le (by rw [List.length_drop, hlen]; omega), List.take_of_length_le (by rw [List.length_drop, hlen]; omega)]
    rw [e, this]
    exact ssort_srt _
  · have : l.length ≤ c * (2 * bs) := by
      have h2 : (t + 1) * (2 * bs) ≤ c * (2 * bs) := Nat.mul_le_mul_right _ h1
      have h4 : (t + 1) * (2 * bs) = t * (2 * bs) + 2 * bs := Nat.succ_mul _ _
      omega
    exact srt_short (by omega) _
theorem Merged.finish' {bs t a : Nat} {l : List Pr} (h : Merged bs t l) (ha : a = t * (2 * bs)) (hm : l.length ≤ a + bs) : Chunks (2 * bs) l := by
  intro c
  rcases Nat.lt_trichotomy c t with h1 | rfl | h1
  · exact h.1 c h1
  · rw [← ha]
    have e : (l.drop a).take (2 * bs) = (l.drop a).take bs := by
      rw [List.take_of_length_le (by rw [List.length_drop]; omega), List.take_of_length_le (by rw [List.length_drop]; omega)]
    rw [e]
    exact (h.left ha).1
  · have : l.length ≤ c * (2 * bs) := by
      have h2 : (t + 1) * (2 * bs) ≤ c * (2 * bs) := Nat.mul_le_mul_right _ h1
      have h4 : (t + 1) * (2 * bs) = t * (2 * bs) + 2 * bs := Nat.succ_mul _ _
      omega
    exact srt_short this _
/-- The first blocks, sorted by insertion. -/
def Firsts (t : Nat) (l : List Pr) : Prop := ∀ c, c < t → Srt ((l.drop (c * 20)).take 20)
theorem Firsts.step {t a b : Nat} {l : List Pr} (h : Firsts t l) (ha : a = t * 20) (hb : b = a + 20) (hbl : b ≤ l.length) : Firsts (t + 1) (upd l a b) := by
  intro c hc
  rcases Nat.lt_or_eq_of_le (Nat.le_of_lt_succ hc) with h1 | rfl
  · rw [upd_before (by omega) hbl (by omega)]
    exact h c h1
  · rw [← ha, show 20 = b - a by omega, upd_at (by omega) hbl]
    exact ssort_srt _
theorem Firsts.finish {t a : Nat} {l : List Pr} (h : Firsts t l) (ha : a = t * 20) (hal : a ≤ l.length) (hlt : l.length < a + 20) : Chunks 20 (upd l a l.length) := by
  intro c
  have hlen := upd_length hal (Nat.le_refl l.length)
  rcases Nat.lt_trichotomy c t with h1 | rfl | h1
  · rw [upd_before hal (Nat.le_refl _) (by omega)]
    exact h c h1
  · rw [← ha]
    have := upd_at hal (Nat.le_refl l.length)
    have e : ((upd l a l.length).drop a).take 20 = ((upd l a l.length).drop a).take (l.length - a) := by
      rw [List.take_of_length_le (by rw [List.length_drop, hlen]; omega), List.take_of_length_le (by rw [List.length_drop, hlen]; omega)]
    rw [e, this]
    exact ssort_srt _
  · exact srt_short (by omega) _
theorem Chunks.done {bs : Nat} {l l0 : List Pr} (h : Chunks bs l) (hl : l.length ≤ bs) (hs : Stb l0 l) : l = ssort l0 := by
  refine ssort_uniq ?_ hs
  have := h 0
  rwa [Nat.zero_mul, List.drop_zero, List.take_of_length_le hl] at this
/-- Each key once, with its last value, of a list in which equal keys lie together. -/
def lastOf : List Pr → List Pr
  | [] => []
  | [x] => [x]
  | x :: y :: r => if x.1 = y.1 then lastOf (y :: r) else x :: lastOf (y :: r)
/-- What pair.Sorted answers. -/
def sortedP (l : List Pr) : List Pr := lastOf (ssort l)
theorem lastOf_skip {x y : Pr} {r : List Pr} (h : x.1 = y.1) : lastOf (x :: y :: r) = lastOf (y :: r) := by simp [lastOf, h]
theorem lastOf_keep {x y : Pr} {r : List Pr} (h : x.1 ≠ y.1) : lastOf (x :: y :: r) = x :: lastOf (y :: r) := by simp [lastOf, h]
theorem lastOf_length : ∀ l : List Pr, (lastOf l).length ≤ l.length
  | [] => Nat.le_refl _
  | [x] => Nat.le_refl _
  | x :: y :: r => by
    have := lastOf_length (y :: r)
    unfold lastOf
    split
    · simp only [List.length_cons] at *; omega
    · simp only [List.length_cons] at *; omega
theorem sortedP_length (l : List Pr) : (sortedP l).length ≤ l.length := by
  have := lastOf_length (ssort l)
  rw [ssort_length] at this
  exact this
end Go.QS
/- Lists of pairs that rise: a map's lists. Plain laws. No program. -/
namespace Go.QS

/-- Key by key it rises. -/
def Rise (l : List Pr) : Prop := l.Pairwise fun p q => p.1 < q.1
theorem rise_cons {x : Pr} {l : List Pr} : Rise (x :: l) ↔ (∀ q ∈ l, x.1 < q.1) ∧ Rise l := List.pairwise_cons

theorem rise_ext : ∀ (a b : List Pr), Rise a → Rise b → (∀ p, p ∈ a ↔ p ∈ b) → a = b
  | [], [], _, _, _ => rfl
  | [], y :: t, _, _, h => absurd ((h y).2 (by simp)) (by simp)
  | x :: s, [], _, _, h => absurd ((h x).1 (by simp)) (by simp)
  | x :: s, y :: t, h1, h2, h => by
    have a1 := rise_cons.1 h1
    have a2 := rise_cons.1 h2
    have hxy : x = y := by
      rcases List.mem_cons.1 ((h x).1 (by simp)) with e | e
      · exact e
      · rcases List.mem_cons.1 ((h y).2 (by simp)) with e' | e'
        · exact e'.symm
        · exact absurd (a1.1 _ e') (k_asymm (a2.1 _ e))
    subst hxy
    have : ∀ p, p ∈ s ↔ p ∈ t := by
      intro p
      constructor
      · intro hp
        rcases List.mem_cons.1 ((h p).1 (List.mem_cons_of_mem _ hp)) with e | e
        · subst e; exact absurd (a1.1 _ hp) (k_irrefl _)
        · exact e
      · intro hp
        rcases List.mem_cons.1 ((h p).2 (List.mem_cons_of_mem _ hp)) with e | e
        · subst e; exact absurd (a2.1 _ hp) (k_irrefl _)
        · exact e
    rw [rise_ext s t a1.2 a2.2 this]

/-- Without a key's. -/
def rdrop (l : List Pr) (k : List UInt8) : List Pr := l.filter fun p => p.1 != k
/-- Ahead of the first that is greater. -/
def insB (p : Pr) : List Pr → List Pr
  | [] => [p]
  | q :: r => if p.1 < q.1 then p :: q :: r else q :: insB p r
/-- With a pair. -/
def rput (l : List Pr) (p : Pr) : List Pr := insB p (rdrop l p.1)
/-- The document's sorted list. -/
def rsort (l : List Pr) : List Pr := l.foldl rput []

theorem mem_rdrop {l : List Pr} {k : List UInt8} {q : Pr} : q ∈ rdrop l k ↔ q ∈ l ∧ q.1 ≠ k := by simp [rdrop]
theorem mem_insB {p q : Pr} : ∀ {l : List Pr}, q ∈ insB p l ↔ q = p ∨ q ∈ l
  | [] => by simp [insB]
  | x :: r => by
    unfold insB
    split
    · simp
    · rw [List.mem_cons, mem_insB (l := r), List.mem_cons]
      constructor
      · rintro (h | h | h) <;> simp [h]
      · rintro (h | h | h) <;> simp [h]
theorem mem_rput {l : List Pr} {p q : Pr} : q ∈ rput l p ↔ q = p ∨ (q ∈ l ∧ q.1 ≠ p.1) := by rw [rput, mem_insB, mem_rdrop]
theorem rdrop_rise {l : List Pr} (h : Rise l) (k : List UInt8) : Rise (rdrop l k) := List.Pairwise.filter _ h
theorem insB_rise {p : Pr} : ∀ {l : List Pr}, Rise l → (∀ q ∈ l, q.1 ≠ p.1) → Rise (insB p l)
  | [], _, _ => by simp [insB, Rise]
  | x :: r, h, hn => by
    have h' := rise_cons.1 h
    unfold insB
    split
    · rename_i hlt
      refine rise_cons.2 ⟨fun q hq => ?_, h⟩
      rcases List.mem_cons.1 hq with rfl | hq
      · exact hlt
      · exact k_trans hlt (h'.1 q hq)
    · rename_i hlt
      have hx : x.1 < p.1 := by
        rcases k_tri p.1 x.1 with e | e | e
        · exact absurd e hlt
        · exact absurd e.symm (hn x (by simp))
        · exact e
      refine rise_cons.2 ⟨fun q hq => ?_, insB_rise h'.2 fun q hq => hn q (List.mem_cons_of_mem _ hq)⟩
      rcases mem_insB.1 hq with rfl | hq
      · exact hx
      · exact h'.1 q hq
theorem rput_rise {l : List Pr} (h : Rise l) (p : Pr) : Rise (rput l p) := insB_rise (rdrop_rise h _) fun _ hq => (mem_rdrop.1 hq).2
theorem rise_nil : Rise [] := by simp [Rise]
theorem rsort_rise (l : List Pr) : Rise (rsort l) := by
  have : ∀ (l m : List Pr), Rise m → Rise (l.foldl rput m) := by
    intro l
    induction l with
    | nil => intro m h; exact h
    | cons p l ih => intro m h; exact ih _ (rput_rise h p)
  exact this l [] rise_nil

/-- The last pair of a key. -/
def lastK (l : List Pr) (k : List UInt8) : Option Pr := (l.filter fun p => p.1 == k).getLast?
theorem lastK_snoc (l : List Pr) (q : Pr) (k : List UInt8) : lastK (l ++ [q]) k = if q.1 = k then some q else lastK l k := by
  unfold lastK
  rw [List.filter_append]
  by_cases h : q.1 = k
  · simp [h]
  · simp [h]
theorem lastK_stb {l l' : List Pr} (h : Stb l l') (k : List UInt8) : lastK l k = lastK l' k := by unfold lastK; rw [h k]
theorem rsort_snoc (l : List Pr) (q : Pr) : rsort (l ++ [q]) = rput (rsort l) q := by simp [rsort]
theorem snoc_ind {α : Type} {C : List α → Prop} (h0 : C []) (h1 : ∀ l x, C l → C (l ++ [x])) (l : List α) : C l := by
  have : ∀ n (l : List α), l.length = n → C l := by
    intro n
    induction n with
    | zero => intro l hl; rw [List.eq_nil_of_length_eq_zero hl]; exact h0
    | succ n ih =>
      intro l hl
      rcases List.eq_nil_or_concat l with h | ⟨l', x, h⟩
      · rw [h]; exact h0
      · rw [h, List.concat_eq_append]
        exact h1 _ _ (ih _ (by rw [h] at hl; simpa using hl))
  exact this _ l rfl
theorem mem_rsort (l : List Pr) (p : Pr) : p ∈ rsort l ↔ lastK l p.1 = some p := by
  induction l using snoc_ind with
  | h0 => simp [rsort, lastK]
  | h1 l q ih =>
    rw [rsort_snoc, mem_rput, lastK_snoc, ih]
    by_cases h : q.1 = p.1
    · rw [if_pos h]
      constructor
      · rintro (e | ⟨_, e⟩)
        · rw [e]
        · exact absurd h.symm e
      · intro e; exact .inl (Option.some.inj e).symm
    · rw [if_neg h]
      constructor
      · rintro (e | ⟨e, _⟩)
        · exact absurd (by rw [e]) h
        · exact e
      · intro e; exact .inr ⟨e, fun e' => h e'.symm⟩
theorem lastK_mem {l : List Pr} {k : List UInt8} {p : Pr} (h : lastK l k = some p) : p ∈ l ∧ p.1 = k := by
  have := List.mem_of_getLast? h
  simpa using List.mem_filter.1 this

theorem lastOf_sub : ∀ (l : List Pr), (lastOf l).Sublist l
  | [] => List.Sublist.refl _
  | [x] => List.Sublist.refl _
  | x :: y :: r => by
    unfold lastOf
    split
    · exact (lastOf_sub (y :: r)).cons _
    · exact (lastOf_sub (y :: r)).cons_cons _
theorem mem_lastOf : ∀ (L : List Pr), Srt L → ∀ p, p ∈ lastOf L ↔ lastK L p.1 = some p
  | [], _, p => by simp [lastOf, lastK]
  | [x], _, p => by
    by_cases h : x.1 = p.1
    · simp [lastOf, lastK, h, eq_comm]
    · have : ¬ p = x := fun e => h (by rw [e])
      simp [lastOf, lastK, h, this]
  | x :: y :: r, hs, p => by
    have h' := List.pairwise_cons.1 hs
    have ih := mem_lastOf (y :: r) h'.2 p
    by_cases hxy : x.1 = y.1
    · rw [lastOf_skip hxy, ih]
      by_cases hp : x.1 = p.1
      · have e1 : lastK (x :: y :: r) p.1 = lastK (y :: r) p.1 := by
          unfold lastK
          have e : y.1 = p.1 := by rw [← hxy]; exact hp
          simp only [List.filter_cons, hp, e, beq_self_eq_true, if_true]
          rw [List.getLast?_cons_cons]
        rw [e1]
      · have e1 : lastK (x :: y :: r) p.1 = lastK (y :: r) p.1 := by
          unfold lastK
          rw [List.filter_cons, if_neg (by simpa using hp)]
        rw [e1]
    · rw [lastOf_keep hxy, List.mem_cons]
      have hlt : ∀ q ∈ y :: r, x.1 < q.1 := by
        have hxy' : x.1 < y.1 := by
          rcases k_tri x.1 y.1 with e | e | e
          · exact e
          · exact absurd e hxy
          · exact absurd e (h'.1 y (by simp))
        intro q hq
        rcases List.mem_cons.1 hq with rfl | hq
        · exact hxy'
        · rcases k_tri x.1 q.1 with e | e | e
          · exact e
          · exact absurd (by rw [← e]; exact hxy') ((List.pairwise_cons.1 h'.2).1 q hq)
          · exact absurd e (h'.1 q (List.mem_cons_of_mem _ hq))
      by_cases hp : x.1 = p.1
      · have e1 : lastK (x :: y :: r) p.1 = some x := by
          unfold lastK
          have : (y :: r).filter (fun q => q.1 == p.1) = [] := by
            rw [List.filter_eq_nil_iff]
            intro q hq e
            exact k_ne (hlt q hq) (by rw [hp]; exact (by simpa using e : q.1 = p.1).symm)
          rw [List.filter_cons, if_pos (by simpa using hp), this]; rfl
        rw [e1]
        constructor
        · rintro (e | e)
          · rw [e]
          · have := (lastOf_sub (y :: r)).subset e
            exact absurd hp (k_ne (hlt p this))
        · intro e; exact .inl (Option.some.inj e).symm
      · have e1 : lastK (x :: y :: r) p.1 = lastK (y :: r) p.1 := by
          unfold lastK
          rw [List.filter_cons, if_neg (by simpa using hp)]
        rw [e1, ← ih]
        constructor
        · rintro (e | e)
          · exact absurd (by rw [e]) hp
          · exact e
        · exact .inr
theorem lastOf_rise : ∀ (L : List Pr), Srt L → Rise (lastOf L)
  | [], _ => rise_nil
  | [x], _ => by simp [lastOf, Rise]
  | x :: y :: r, hs => by
    have h' := List.pairwise_cons.1 hs
    by_cases hxy : x.1 = y.1
    · rw [lastOf_skip hxy]; exact lastOf_rise _ h'.2
    · rw [lastOf_keep hxy]
      refine rise_cons.2 ⟨fun q hq => ?_, lastOf_rise _ h'.2⟩
      have hq := (lastOf_sub (y :: r)).subset hq
      have hxy' : x.1 < y.1 := by
        rcases k_tri x.1 y.1 with e | e | e
        · exact e
        · exact absurd e hxy
        · exact absurd e (h'.1 y (by simp))
      rcases List.mem_cons.1 hq with rfl | hq
      · exact hxy'
      · rcases k_tri x.1 q.1 with e | e | e
        · exact e
        · exact absurd (by rw [← e]; exact hxy') ((List.pairwise_cons.1 h'.2).1 q hq)
        · exact absurd e (h'.1 q (List.mem_cons_of_mem _ hq))
theorem sortedP_rise (l : List Pr) : Rise (sortedP l) := lastOf_rise _ (ssort_srt l)
theorem sortedP_eq (l : List Pr) : sortedP l = rsort l := by
  refine rise_ext _ _ (sortedP_rise l) (rsort_rise l) fun p => ?_
  rw [sortedP, mem_lastOf _ (ssort_srt l), mem_rsort, lastK_stb (ssort_stb l)]
theorem lastK_rise : ∀ {l : List Pr}, Rise l → ∀ p, lastK l p.1 = some p ↔ p ∈ l
  | [], _, p => by simp [lastK]
  | x :: l, h, p => by
    have h' := rise_cons.1 h
    have ih := lastK_rise h'.2 p
    by_cases hp : x.1 = p.1
    · have : l.filter (fun q => q.1 == p.1) = [] := by
        rw [List.filter_eq_nil_iff]
        intro q hq e
        exact k_ne (h'.1 q hq) (by rw [hp]; exact (by simpa using e : q.1 = p.1).symm)
      unfold lastK
      rw [List.filter_cons, if_pos (by simpa using hp), this, List.mem_cons]
      constructor
      · intro e; exact .inl (Option.some.inj e).symm
      · rintro (e | e)
        · rw [e]; rfl
        · exact absurd hp (k_ne (h'.1 p e))
    · have e1 : lastK (x :: l) p.1 = lastK l p.1 := by
        unfold lastK
        rw [List.filter_cons, if_neg (by simpa using hp)]
      rw [e1, ih, List.mem_cons]
      constructor
      · exact .inr
      · rintro (e | e)
        · exact absurd (by rw [e]) hp
        · exact e
theorem rsort_self {l : List Pr} (h : Rise l) : rsort l = l := rise_ext _ _ (rsort_rise l) h fun p => by rw [mem_rsort, lastK_rise h]
theorem sortedP_self {l : List Pr} (h : Rise l) : sortedP l = l := by rw [sortedP_eq, rsort_self h]

/-- What Rises answers: neighbour by neighbour. -/
def riseB : List Pr → Bool
  | x :: y :: r => decide (x.1 < y.1) && riseB (y :: r)
  | _ => true
theorem riseB_iff : ∀ l, riseB l = true ↔ Rise l
  | [] => by simp [riseB, Rise]
  | [x] => by simp [riseB, Rise]
  | x :: y :: r => by
    rw [riseB, Bool.and_eq_true, decide_eq_true_eq, riseB_iff (y :: r)]
    constructor
    · rintro ⟨h1, h2⟩
      refine rise_cons.2 ⟨fun q hq => ?_, h2⟩
      rcases List.mem_cons.1 hq with rfl | hq
      · exact h1
      · exact k_trans h1 ((rise_cons.1 h2).1 q hq)
    · intro h
      have := rise_cons.1 h
      exact ⟨this.1 y (by simp), this.2⟩
end Go.QS
