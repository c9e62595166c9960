/- Texts joined. -/
import Derived.WalkKit
import Derived.WalkLawsBesides
import Derived.BigQuiet
import Derived.Outline
import Derived.Deep.DeepFit
import Derived.Maps.AppendAt
import Derived.Deep.AppendLies
import Derived.RegionTactic
import Derived.OwnWalk
import Derived.Lib.Hide
import Derived.Deep.QuietTactic
import Derived.Lib.Strings
set_option linter.unusedVariables false
set_option linter.unusedSimpArgs false
/- The words of these proofs: strings as lists of bytes, slices that read as lists of cells, and the laws on them. No function of the program is named here. -/
namespace Go.QS
open Go.RowKit

/-- The string of these bytes. -/
def bs (l : List UInt8) : ByteArray := ⟨l.toArray⟩
abbrev str (l : List UInt8) : Value := .string (bs l)
theorem bs_data (s : ByteArray) : bs s.data.toList = s := Lib.mk_data s
@[go_sem, simp] theorem bs_size (l : List UInt8) : (bs l).size = l.length := by simp [bs, ByteArray.size]
@[go_sem, simp] theorem bs_toList (l : List UInt8) : (bs l).toList = l := ByteArray.toList_mk l
@[go_sem] theorem bs_extract (l : List UInt8) (a b : Nat) : (bs l).extract a b = bs ((l.drop a).take (b - a)) := ByteArray.extract_mk l a b
theorem bs_inj {a b : List UInt8} (h : bs a = bs b) : a = b := by have := congrArg ByteArray.toList h; simpa using this
theorem bs_get (l : List UInt8) (i : Nat) (h : i < (bs l).size) : (bs l)[i] = l[i]'(by simpa using h) := rfl
theorem bs_append (a b : List UInt8) : bs a ++ bs b = bs (a ++ b) := by
  have h : ((bs a ++ bs b).data) = ((bs (a ++ b)).data) := by simp [bs, ByteArray.data_append]
  cases e : bs a ++ bs b; rw [e] at h; simp at h; subst h; rfl

/-- At an address lie these cells. -/
def Seg (w : World) (A : Option Addr) (xs : List Value) : Prop :=
  xs ≠ [] → ∃ b o, A = some ⟨b, o, none⟩ ∧ ∀ j u, xs[j]? = some u → w.cell? ⟨b, o + j, none⟩ = some u

/-- A slice of n elements, of so many cells each, that reads as these cells. -/
def Sl (w : World) (k : Nat) (v : Value) (n : Nat) (xs : List Value) : Prop :=
  ∃ A c, v = .slice A n c ∧ xs.length = n * k ∧ n ≤ c ∧ c ≤ maxLen ∧ Seg w A xs

section
variable {w w' : World} {A : Option Addr} {xs : List Value} {v : Value} {n k : Nat}

theorem Seg.nil (w : World) (A : Option Addr) : Seg w A [] := fun h => absurd rfl h
theorem Seg.keep (h : Seg w A xs) (hk : ∀ p : Addr, p.block < w.heap.size → w'.cell? p = w.cell? p) : Seg w' A xs := by
  intro hne
  obtain ⟨b, o, hA, hc⟩ := h hne
  exact ⟨b, o, hA, fun j u hu => (hk _ (World.block_lt_of_cell? w _ (hc j u hu))).trans (hc j u hu)⟩
theorem Seg.below (h : Seg w A xs) (hb : Below w.heap.size w w') : Seg w' A xs := h.keep fun _ hp => hb.cell hp
theorem Seg.alloc (h : Seg w A xs) (o : Obj) : Seg (w.alloc o) A xs := h.keep fun p hp => World.cell?_alloc_lt w o p hp
theorem Seg.take (h : Seg w A xs) (m : Nat) : Seg w A (xs.take m) := by
  intro hne
  obtain ⟨b, o, hA, hc⟩ := h (fun e => hne (by simp [e]))
  refine ⟨b, o, hA, fun j u hu => hc j u ?_⟩
  rw [List.getElem?_take] at hu
  split at hu
  · exact hu
  · cases hu
theorem Seg.drop {b o : Nat} (h : Seg w (some ⟨b, o, none⟩) xs) (m : Nat) : Seg w (some ⟨b, o + m, none⟩) (xs.drop m) := by
  intro hne
  obtain ⟨b', o', hA, hc⟩ := h (fun e => hne (by simp [e]))
  cases hA
  refine ⟨b, o + m, rfl, fun j u hu => ?_⟩
  rw [List.getElem?_drop] at hu
  have := hc _ _ hu
  rwa [← Nat.add_assoc] at this
theorem Seg.new (w : World) (cs : List Value) (t : TypeId) {g : Nat} (hg : g = w.heap.size) : Seg (w.alloc (.cells cs.toArray t)) (some ⟨g, 0, none⟩) cs := by
  subst hg
  intro _
  refine ⟨_, _, rfl, fun j u hu => ?_⟩
  rw [World.cell?_alloc_at _ _ _ _ rfl]
  simpa using hu
theorem Seg.two (h : Seg w A xs) (i : Nat) {u1 u2 : Value} (h1 : xs[i]? = some u1) (h2 : xs[i + 1]? = some u2) : ∃ b o, A = some ⟨b, o, none⟩ ∧ w.cell? ⟨b, o + i, none⟩ = some u1 ∧ w.cell? ⟨b, o + i + 1, none⟩ = some u2 := by
  obtain ⟨b, o, hA, hc⟩ := h (fun e => by simp [e] at h1)
  exact ⟨b, o, hA, hc _ _ h1, hc _ _ h2⟩

theorem Sl.keep (h : Sl w k v n xs) (hk : ∀ p : Addr, p.block < w.heap.size → w'.cell? p = w.cell? p) : Sl w' k v n xs := by
  obtain ⟨A, c, h1, h2, h3, h4, h5⟩ := h
  exact ⟨A, c, h1, h2, h3, h4, h5.keep hk⟩
theorem Sl.below (h : Sl w k v n xs) (hb : Below w.heap.size w w') : Sl w' k v n xs := h.keep fun _ hp => hb.cell hp
theorem Sl.alloc (h : Sl w k v n xs) (o : Obj) : Sl (w.alloc o) k v n xs := h.keep fun p hp => World.cell?_alloc_lt w o p hp
theorem Sl.len (h : Sl w k v n xs) : xs.length = n * k := let ⟨_, _, _, h, _⟩ := h; h
theorem Sl.nil (w : World) (k : Nat) : Sl w k (.slice none 0 0) 0 [] := ⟨none, 0, rfl, by simp, Nat.le_refl _, by simp [maxLen], Seg.nil _ _⟩
theorem Sl.of_own {base : Nat} {e : TypeId} (h : w.ownsRow base e k v n xs) : Sl w k v n xs := by
  rcases h.2 with ⟨rfl, rfl⟩ | ⟨g, cap, cur, rfl, hb, hg, hn, hcap, hs, htake⟩
  · have : xs = [] := List.eq_nil_of_length_eq_zero (by simpa using h.1)
    subst this
    exact Sl.nil w k
  · refine ⟨_, _, rfl, h.1, hn, hcap, fun _ => ⟨g, 0, rfl, fun j u hu => ?_⟩⟩
    rw [Nat.zero_add, cell_of_row w g j cur e (0, 0) hg]
    rw [← htake, List.getElem?_take] at hu
    split at hu
    · simpa using hu
    · cases hu
end

/-- Append of a source that reads as cells, onto a row of the call's own. -/
theorem run_app {P : Program} (w : World) (base : Nat) (t ty e : TypeId) (i : TypeInfo) (z : Value) (size bytes : Nat) (ht : P.underlying t = some (.slice e)) (hi : P.info? e = some i) (hz : i.zero = some z)
    (hsize : i.size = size) (hby : i.bytes = bytes) (hzs : z.cells.size = size) (hsz : 0 < size)
    (v : Value) (n : Nat) (xs : List Value) (hown : w.ownsRow base e size v n xs)
    (A : Option Addr) (m c : Nat) (news : List Value) (hl : news.length = m * size) (hr : Seg w A news) (h1 : ∀ u ∈ news, u.oneCell' = true)
    (h63 : n + m ≤ maxLen) (hbytes : (n + m) * bytes ≤ 140737488355328) (hbase : base ≤ w.heap.size) :
    ∃ v' w', (Builtin.append_ #[t, t] ty #[v, .slice A m c]).run P w = .ok v' w' ∧ w'.ownsRow base e size v' (n + m) (xs ++ news) ∧ w.grownBy w' v.ownBlock ∧
      (v'.ownBlock = v.ownBlock ∨ v'.ownBlock = some w.heap.size) := by
  by_cases hm : m = 0
  · subst hm
    have hn : news = [] := List.eq_nil_of_length_eq_zero (by simpa using hl)
    subst hn
    have hfc : (Builtin.firstCells (0 * i.size) 0 (.slice A 0 c)).run P w = .ok #[] w := by
      cases A <;> simp [Builtin.firstCells, loadCells, loadCellsFrom]
    have hfc' : (Builtin.firstCells i.size 0 (.slice A 0 c)).run P w = .ok #[] w := by
      cases A <;> simp [Builtin.firstCells, loadCells, loadCellsFrom]
    refine ⟨v, w, ?_, by simpa using hown, World.grownBy.refl w _, .inl rfl⟩
    rcases hown.2 with ⟨rfl, rfl⟩ | ⟨g, cap, cur, rfl, _, _, hnc, _⟩
    · simp [Builtin.append_, run_underlying ht, sizeOf, typeInfo, hi, Builtin.lenOf, hfc']
    · simp [Builtin.append_, run_underlying ht, sizeOf, typeInfo, hi, Builtin.lenOf, hfc', hnc, storeCells]
  · have hne : news ≠ [] := by
      intro e; rw [e] at hl; have := Nat.mul_pos (Nat.pos_of_ne_zero hm) hsz; simp only [List.length_nil] at hl; omega
    obtain ⟨b, o, rfl, hc⟩ := hr hne
    have hcells : ∀ j u, news[j]? = some u → w.cell? ((⟨b, o, none⟩ : Addr).add j) = some u := by
      intro j u hu
      rw [Addr.add_lit]
      exact hc j u hu
    obtain ⟨v', w', hrun, h2, h3, _, h5⟩ := run_append_own_at (P := P) w base t ty e i z size bytes ht hi hz hsize hby hzs hsz v n xs hown ⟨b, o, none⟩ m c news hl hcells h1 h63 hbytes hbase
    exact ⟨v', w', hrun, h2, h3, h5⟩

theorem wpList_app {P : Program} {w : World} {ops : Array Oper} {rest : List Oper} {o : Oper} {a : Act} {Q : Exit → Act → World → Prop} (hgd : o.guard = none) (s x : Operand) (t : TypeId)
    (ho : o.op = .call { callee := .builtin .append, args := #[s, x], argTypes := #[t, t] })
    (base : Nat) (e : TypeId) (size bytes : Nat) (ht : P.underlying t = some (.slice e)) (hi : ∃ i z, P.info? e = some i ∧ i.zero = some z ∧ i.size = size ∧ i.bytes = bytes ∧ z.cells.size = size) (hsz : 0 < size)
    (v : Value) (n : Nat) (xs : List Value) (hs : a.eval s = v) (hown : w.ownsRow base e size v n xs)
    (A : Option Addr) (m c : Nat) (news : List Value) (hx : a.eval x = .slice A m c) (hl : news.length = m * size) (hr : Seg w A news) (h1 : ∀ u ∈ news, u.oneCell' = true)
    (h63 : n + m ≤ maxLen) (hbytes : (n + m) * bytes ≤ 140737488355328) (hbase : base ≤ w.heap.size)
    (h : ∀ v' w', w'.ownsRow base e size v' (n + m) (xs ++ news) → w.grownBy w' v.ownBlock → (v'.ownBlock = v.ownBlock ∨ v'.ownBlock = some w.heap.size) → wpList P ops Q rest (a.put o.dst v') w') : wpList P ops Q (o :: rest) a w :=
  wpList_plain hgd fun _ hK => by
    obtain ⟨i, z, hi, hz, hsize, hby, hzs⟩ := hi
    obtain ⟨v', w', hrun, h2, h3, h4⟩ := run_app (P := P) w base t o.type e i z size bytes ht hi hz hsize hby hzs hsz v n xs hown A m c news hl hr h1 h63 hbytes hbase
    unfold Oper.wp execOp
    simp only [ho, resolve, invoke, builtin, Sem.run_bind, Sem.run_pure, Result.andThen_ok, List.map_toArray, List.map_cons, List.map_nil, hs, hx, hrun]
    exact hK _ _ (h v' w' h2 h3 h4)

/-- The same where all that the call has made lies above what there was. -/
theorem wpList_appE {P : Program} {W w : World} {ops : Array Oper} {rest : List Oper} {o : Oper} {a : Act} {Q : Exit → Act → World → Prop} (hgd : o.guard = none) (s x : Operand) (t : TypeId)
    (ho : o.op = .call { callee := .builtin .append, args := #[s, x], argTypes := #[t, t] })
    (e : TypeId) (size bytes : Nat) (ht : P.underlying t = some (.slice e)) (hi : ∃ i z, P.info? e = some i ∧ i.zero = some z ∧ i.size = size ∧ i.bytes = bytes ∧ z.cells.size = size) (hsz : 0 < size)
    (v : Value) (n : Nat) (xs : List Value) (hs : a.eval s = v) (hown : w.ownsRow W.heap.size e size v n xs) (hb : Below W.heap.size W w)
    (A : Option Addr) (m c : Nat) (news : List Value) (hx : a.eval x = .slice A m c) (hl : news.length = m * size) (hr : Seg w A news) (h1 : ∀ u ∈ news, u.oneCell' = true)
    (h63 : n + m ≤ maxLen) (hbytes : (n + m) * bytes ≤ 140737488355328)
    (h : ∀ v' w', w'.ownsRow W.heap.size e size v' (n + m) (xs ++ news) → Below W.heap.size W w' → wpList P ops Q rest (a.put o.dst v') w') : wpList P ops Q (o :: rest) a w :=
  wpList_app hgd s x t ho W.heap.size e size bytes ht hi hsz v n xs hs hown A m c news hx hl hr h1 h63 hbytes hb.size
    fun v' w' h2 h3 _ => h v' w' h2 (hb.grown h3 hb.size fun k hk => (hown.lt k hk).1)

/-! ### Pairs -/

abbrev Pr := List UInt8 × List UInt8
def encP (p : Pr) : List Value := [str p.1, str p.2]
def flat (l : List Pr) : List Value := l.flatMap encP
theorem flat_length (l : List Pr) : (flat l).length = l.length * 2 := by
  induction l with
  | nil => rfl
  | cons p l ih => simp only [flat, List.flatMap_cons, List.length_append, List.length_cons] at ih ⊢; rw [ih]; simp [encP]; omega
theorem flat_append (a b : List Pr) : flat (a ++ b) = flat a ++ flat b := by simp [flat]
theorem flat_cons (p : Pr) (l : List Pr) : flat (p :: l) = str p.1 :: str p.2 :: flat l := by simp [flat, encP]
@[simp] theorem flat_nil : flat [] = [] := rfl
theorem flat_take (l : List Pr) (k : Nat) : flat (l.take k) = (flat l).take (k * 2) := by
  induction l generalizing k with
  | nil => simp
  | cons p l ih =>
    cases k with
    | zero => simp
    | succ k => rw [List.take_succ_cons, flat_cons, flat_cons, ih, Nat.succ_mul]; rfl
theorem flat_drop (l : List Pr) (k : Nat) : flat (l.drop k) = (flat l).drop (k * 2) := by
  induction l generalizing k with
  | nil => simp
  | cons p l ih =>
    cases k with
    | zero => simp
    | succ k => rw [List.drop_succ_cons, flat_cons, ih, Nat.succ_mul]; rfl
theorem flat_get {l : List Pr} {i : Nat} {p : Pr} (h : l[i]? = some p) : (flat l)[i * 2]? = some (str p.1) ∧ (flat l)[i * 2 + 1]? = some (str p.2) := by
  have : (flat l).drop (i * 2) = str p.1 :: str p.2 :: flat (l.drop (i + 1)) := by
    rw [← flat_drop, List.drop_eq_getElem?_toList_append, h]
    simp [flat_cons]
  constructor
  · have := congrArg (·[0]?) this; simpa using this
  · have := congrArg (·[1]?) this; simpa using this
theorem flat_one (l : List Pr) : ∀ u ∈ flat l, u.oneCell' = true := by
  intro u hu
  obtain ⟨p, _, hp⟩ := List.mem_flatMap.1 hu
  simp [encP] at hp
  rcases hp with rfl | rfl <;> rfl

/-- A slice of pairs. -/
def PS (w : World) (v : Value) (l : List Pr) : Prop := Sl w 2 v l.length (flat l)
section
variable {w w' : World} {A : Option Addr} {v : Value} {l : List Pr}
theorem PS.below (h : PS w v l) (hb : Below w.heap.size w w') : PS w' v l := Sl.below h hb
theorem PS.keep (h : PS w v l) (hk : ∀ p : Addr, p.block < w.heap.size → w'.cell? p = w.cell? p) : PS w' v l := Sl.keep h hk
theorem PS.alloc (h : PS w v l) (o : Obj) : PS (w.alloc o) v l := Sl.alloc h o
theorem PS.of_own {base : Nat} {e : TypeId} {n : Nat} (h : w.ownsRow base e 2 v n (flat l)) : PS w v l := by
  have hn : n = l.length := by have := h.1; rw [flat_length] at this; omega
  subst hn
  exact Sl.of_own h
theorem seg_pair (h : Seg w A (flat l)) {i : Nat} {p : Pr} (hp : l[i]? = some p) :
    ∃ b o, A = some ⟨b, o, none⟩ ∧ w.cell? ⟨b, o + i * 2, none⟩ = some (str p.1) ∧ w.cell? ⟨b, o + i * 2 + 1, none⟩ = some (str p.2) :=
  h.two _ (flat_get hp).1 (flat_get hp).2
end

theorem get_of_lt {α : Type} (l : List α) {k : Nat} (h : k < l.length) : ∃ p, l[k]? = some p := ⟨l[k], List.getElem?_eq_getElem h⟩
theorem take_snoc {α : Type} {l : List α} {k : Nat} {p : α} (h : l[k]? = some p) : l.take (k + 1) = l.take k ++ [p] := by
  rw [List.take_succ_eq_append_getElem (List.getElem?_eq_some_iff.1 h).1]
  rw [(List.getElem?_eq_some_iff.1 h).2]

theorem info_of {P : Program} {t : TypeId} {z : Value} {size bytes : Nat} (h : (P.info? t).map (fun i => (i.zero, i.size, i.bytes)) = some (some z, size, bytes)) (hz : z.cells.size = size) :
    ∃ i z, P.info? t = some i ∧ i.zero = some z ∧ i.size = size ∧ i.bytes = bytes ∧ z.cells.size = size := by
  cases hi : P.info? t with
  | none => rw [hi] at h; cases h
  | some i =>
    rw [hi] at h
    simp only [Option.map_some, Option.some.injEq, Prod.mk.injEq] at h
    exact ⟨i, z, rfl, h.1, h.2.1, h.2.2, hz⟩
theorem own_lit {w : World} {e : TypeId} {size : Nat} (cs : List Value) (n : Nat) (hm : n ≤ maxLen) (hs : cs.length = n * size) {base : Nat} (hb : base ≤ w.heap.size) :
    (w.alloc (.cells cs.toArray e)).ownsRow base e size (.slice (some ⟨w.heap.size, 0, none⟩) n n) n cs :=
  World.ownsRow_lit w cs.toArray n hb hm hs

/-- All the blocks that there were stay. -/
abbrev Ext (w w' : World) : Prop := Below w.heap.size w w'
theorem Ext.refl (w : World) : Ext w w := Below.refl _ _
theorem Ext.trans {a b c : World} (h : Ext a b) (k : Ext b c) : Ext a c := Below.trans h (k.mono h.size)
end Go.QS
/- The order of strings, byte by byte: laws. No program. -/
namespace Go.QS

theorem bless : ∀ (x y : List UInt8), Op.bytesLess x y = decide (x < y)
  | [], [] => by simp [Op.bytesLess]
  | _ :: _, [] => by simp [Op.bytesLess]
  | [], _ :: _ => by simp [Op.bytesLess]
  | a :: x, b :: y => by
    rw [Op.bytesLess, bless x y, Bool.eq_iff_iff]
    simp [List.cons_lt_cons_iff]

theorem k_irrefl (a : List UInt8) : ¬ a < a := List.lt_irrefl a
theorem k_trans {a b c : List UInt8} (h : a < b) (k : b < c) : a < c := List.lt_trans h k
theorem k_asymm {a b : List UInt8} (h : a < b) : ¬ b < a := fun k => k_irrefl a (k_trans h k)
theorem k_tri (a b : List UInt8) : a < b ∨ a = b ∨ b < a := by
  rcases Classical.em (a < b) with h | h
  · exact .inl h
  · rcases Classical.em (b < a) with k | k
    · exact .inr (.inr k)
    · exact .inr (.inl (List.le_antisymm (List.not_lt.1 k) (List.not_lt.1 h)))
theorem k_ne {a b : List UInt8} (h : a < b) : a ≠ b := fun e => k_irrefl a (by rw [e] at h ⊢; exact h)

/-- What cmp.Compare answers. -/
def cmpB (a b : List UInt8) : Int := if a < b then -1 else if b < a then 1 else 0
theorem cmpB_neg (a b : List UInt8) : cmpB a b < 0 ↔ a < b := by
  unfold cmpB
  by_cases h : a < b
  · simp [h]
  · by_cases k : b < a <;> simp [h, k]
theorem cmpB_zero (a b : List UInt8) : cmpB a b = 0 ↔ a = b := by
  unfold cmpB
  rcases k_tri a b with h | h | h
  · simp [h, k_ne h]
  · subst h; simp [k_irrefl]
  · simp [h, k_asymm h, (k_ne h).symm]
end Go.QS
/- Stable sorting of pairs by their keys: plain laws. No program. -/
namespace Go.QS

def le2 (p q : Pr) : Bool := decide (¬ q.1 < p.1)
/-- It rises (not strictly). -/
def Srt (l : List Pr) : Prop := l.Pairwise fun p q => ¬ q.1 < p.1
/-- Of each key the same pairs, in the same order. -/
def Stb (l l' : List Pr) : Prop := ∀ k, l.filter (fun p => p.1 == k) = l'.filter (fun p => p.1 == k)
def ssort (l : List Pr) : List Pr := l.mergeSort le2

theorem nlt_trans {a b c : List UInt8} (h : ¬ b < a) (k : ¬ c < b) : ¬ c < a := by
  intro hca
  rcases k_tri a b with h1 | h1 | h1
  · exact k (k_trans hca h1)
  · subst h1; exact k hca
  · exact h h1
theorem le2_trans (a b c : Pr) (h : le2 a b = true) (k : le2 b c = true) : le2 a c = true := by
  simp only [le2, decide_eq_true_eq] at *
  exact nlt_trans h k
theorem le2_total (a b : Pr) : (le2 a b || le2 b a) = true := by
  simp only [le2, Bool.or_eq_true, decide_eq_true_eq]
  rcases k_tri a.1 b.1 with h | h | h
  · exact .inl (k_asymm h)
  · rw [h]; exact .inl (k_irrefl _)
  · exact .inr (k_asymm h)

theorem Stb.refl (l : List Pr) : Stb l l := fun _ => rfl
theorem Stb.symm {l l' : List Pr} (h : Stb l l') : Stb l' l := fun k => (h k).symm
theorem Stb.trans {a b c : List Pr} (h : Stb a b) (k : Stb b c) : Stb a c := fun x => (h x).trans (k x)
theorem Stb.append {a b c d : List Pr} (h : Stb a b) (k : Stb c d) : Stb (a ++ c) (b ++ d) := fun x => by simp only [List.filter_append, h x, k x]
theorem Stb.mem {l l' : List Pr} (h : Stb l l') (p : Pr) : p ∈ l ↔ p ∈ l' := by
  have := h p.1
  constructor
  · intro hp
    have : p ∈ l'.filter (fun q => q.1 == p.1) := by rw [← this]; simp [hp]
    exact (List.mem_filter.1 this).1
  · intro hp
    have : p ∈ l.filter (fun q => q.1 == p.1) := by rw [this]; simp [hp]
    exact (List.mem_filter.1 this).1

theorem ssort_srt (l : List Pr) : Srt (ssort l) := by
  have := List.pairwise_mergeSort le2_trans le2_total l
  exact this.imp (by simp [le2])
theorem ssort_stb (l : List Pr) : Stb l (ssort l) := by
  intro k
  have hp := List.mergeSort_perm l le2
  have h1 : (l.filter (fun p => p.1 == k)).Pairwise (fun a b => le2 a b = true) := by
    refine List.Pairwise.imp_of_mem (R := fun _ _ => True) ?_ (by simp [List.pairwise_iff_getElem])
    intro a b ha hb _
    have e1 : a.1 = k := by simpa using (List.mem_filter.1 ha).2
    have e2 : b.1 = k := by simpa using (List.mem_filter.1 hb).2
    simp only [le2, decide_eq_true_eq, e1, e2]
    exact k_irrefl k
  have h2 := List.sublist_mergeSort le2_trans le2_total h1 List.filter_sublist
  have h3 : (l.filter (fun p => p.1 == k)).Sublist ((ssort l).filter (fun p => p.1 == k)) := by
    have := h2.filter (fun p => p.1 == k)
    simpa [List.filter_filter, ssort] using this
  exact h3.eq_of_length (hp.filter _).length_eq.symm
theorem ssort_length (l : List Pr) : (ssort l).length = l.length := List.length_mergeSort l

theorem srt_uniq : ∀ (l l' : List Pr), Srt l → Srt l' → Stb l l' → l = l'
  | [], [], _, _, _ => rfl
  | [], y :: t, _, _, h => absurd ((h.mem y).2 (by simp)) (by simp)
  | x :: t, [], _, _, h => absurd ((h.mem x).1 (by simp)) (by simp)
  | x :: s, y :: t, h1, h2, h => by
    have a1 := List.pairwise_cons.1 h1
    have a2 := List.pairwise_cons.1 h2
    have hx : ¬ x.1 < y.1 := by
      rcases List.mem_cons.1 ((h.mem x).1 (by simp)) with e | e
      · rw [e]; exact k_irrefl _
      · exact a2.1 _ e
    have hy : ¬ y.1 < x.1 := by
      rcases List.mem_cons.1 ((h.mem y).2 (by simp)) with e | e
      · rw [e]; exact k_irrefl _
      · exact a1.1 _ e
    have hk : x.1 = y.1 := by rcases k_tri x.1 y.1 with e | e | e <;> first | exact e | exact absurd e hx | exact absurd e hy
    have hf := h x.1
    have hxy : x = y := by
      simp only [List.filter_cons, beq_self_eq_true, if_true, hk] at hf
      exact (List.cons.inj hf).1
    subst hxy
    have : Stb s t := by
      intro k
      have := h k
      simp only [List.filter_cons] at this
      split at this
      · exact (List.cons.inj this).2
      · exact this
    rw [srt_uniq s t a1.2 a2.2 this]

theorem ssort_uniq {l l' : List Pr} (h : Srt l') (k : Stb l l') : l' = ssort l := srt_uniq _ _ h (ssort_srt l) (k.symm.trans (ssort_stb l))
theorem ssort_self {l : List Pr} (h : Srt l) : ssort l = l := (ssort_uniq h (Stb.refl l)).symm
theorem Srt.sub {l l' : List Pr} (h : Srt l) (k : l'.Sublist l) : Srt l' := List.Pairwise.sublist k h
theorem srt_append {a b : List Pr} : Srt (a ++ b) ↔ Srt a ∧ Srt b ∧ ∀ x ∈ a, ∀ y ∈ b, ¬ y.1 < x.1 := List.pairwise_append

/-- Blocks whose keys part may change places. -/
theorem stb_swap {a b : List Pr} (h : ∀ x ∈ a, ∀ y ∈ b, x.1 ≠ y.1) : Stb (a ++ b) (b ++ a) := by
  intro k
  simp only [List.filter_append]
  by_cases hk : ∃ x ∈ a, x.1 = k
  · obtain ⟨x, hx, rfl⟩ := hk
    have : b.filter (fun p => p.1 == x.1) = [] := by
      rw [List.filter_eq_nil_iff]
      intro y hy e
      exact h x hx y hy (by simpa using e : y.1 = x.1).symm
    simp [this]
  · have : a.filter (fun p => p.1 == k) = [] := by
      rw [List.filter_eq_nil_iff]
      intro y hy e
      exact hk ⟨y, hy, by simpa using e⟩
    simp [this]
theorem ins_done {T1 T2 : List Pr} {x : Pr} {A : List Pr} (hs : ssort A = T1 ++ T2) (h2 : ∀ y ∈ T2, x.1 < y.1) (h1 : ∀ y ∈ T1, ¬ x.1 < y.1) : T1 ++ x :: T2 = ssort (A ++ [x]) := by
  have hS := ssort_srt A
  rw [hs, srt_append] at hS
  refine ssort_uniq ?_ ?_
  · rw [srt_append]
    refine ⟨hS.1, List.pairwise_cons.2 ⟨fun y hy => k_asymm (h2 y hy), hS.2.1⟩, ?_⟩
    intro y hy z hz
    rcases List.mem_cons.1 hz with rfl | hz
    · exact h1 y hy
    · exact hS.2.2 y hy z hz
  · have e1 : Stb (A ++ [x]) (T1 ++ T2 ++ [x]) := by rw [← hs]; exact (ssort_stb A).append (Stb.refl _)
    refine e1.trans ?_
    rw [List.append_assoc]
    refine (Stb.refl T1).append ?_
    exact stb_swap (fun y hy z hz => by simp at hz; subst hz; exact (k_ne (h2 y hy)).symm)
/-- One pair goes into a sorted run behind it, ahead of the first that is not less. -/
theorem ssort_front {x : Pr} {B1 B2 : List Pr} (hB : Srt (B1 ++ B2)) (h1 : ∀ y ∈ B1, y.1 < x.1) (h2 : ∀ y ∈ B2, ¬ y.1 < x.1) : B1 ++ x :: B2 = ssort (x :: (B1 ++ B2)) := by
  have hS := srt_append.1 hB
  refine ssort_uniq ?_ ?_
  · rw [srt_append]
    refine ⟨hS.1, List.pairwise_cons.2 ⟨h2, hS.2.1⟩, ?_⟩
    intro y hy z hz
    rcases List.mem_cons.1 hz with rfl | hz
    · exact k_asymm (h1 y hy)
    · exact hS.2.2 y hy z hz
  · have e : Stb ([x] ++ B1 ++ B2) (B1 ++ [x] ++ B2) := (stb_swap fun a ha b hb => by simp at ha; subst ha; exact (k_ne (h1 b hb)).symm).append (Stb.refl _)
    simpa using e
/-- One pair goes into a sorted run ahead of it, behind the last that is not greater. -/
theorem ssort_back {y : Pr} {A1 A2 : List Pr} (hA : Srt (A1 ++ A2)) (h1 : ∀ u ∈ A1, ¬ y.1 < u.1) (h2 : ∀ u ∈ A2, y.1 < u.1) : A1 ++ y :: A2 = ssort (A1 ++ A2 ++ [y]) :=
  ins_done (A := A1 ++ A2) (ssort_self hA) h2 h1
theorem ssort_one (x : Pr) : ssort [x] = [x] := ssort_self (by simp [Srt])
theorem ssort_nil : ssort [] = [] := ssort_self (by simp [Srt])
theorem ssort_take_one (A : List Pr) : ssort (A.take 1) = A.take 1 := by
  cases A with
  | nil => exact ssort_nil
  | cons x A => exact ssort_one x
theorem Srt.get_le {l : List Pr} (h : Srt l) {i j : Nat} {p q : Pr} (hp : l[i]? = some p) (hq : l[j]? = some q) (hij : i ≤ j) : ¬ q.1 < p.1 := by
  rcases Nat.lt_or_eq_of_le hij with hlt | rfl
  · obtain ⟨h1, rfl⟩ := List.getElem?_eq_some_iff.1 hp
    obtain ⟨h2, rfl⟩ := List.getElem?_eq_some_iff.1 hq
    exact List.pairwise_iff_getElem.1 h i j h1 h2 hlt
  · rw [hp] at hq; cases hq; exact k_irrefl _
theorem Srt.below_lt {l : List Pr} (h : Srt l) {i j : Nat} {p q : Pr} {x : List UInt8} (hp : l[i]? = some p) (hq : l[j]? = some q) (hij : i ≤ j) (hx : q.1 < x) : p.1 < x := by
  rcases k_tri p.1 x with e | e | e
  · exact e
  · exact absurd (by rw [← e] at hx; exact hx) (h.get_le hp hq hij)
  · exact absurd (k_trans hx e) (h.get_le hp hq hij)
theorem Srt.above_nlt {l : List Pr} (h : Srt l) {i j : Nat} {p q : Pr} {x : List UInt8} (hp : l[i]? = some p) (hq : l[j]? = some q) (hij : i ≤ j) (hx : ¬ p.1 < x) : ¬ q.1 < x :=
  fun hq' => hx (h.below_lt hp hq hij hq')
theorem Srt.above_lt {l : List Pr} (h : Srt l) {i j : Nat} {p q : Pr} {x : List UInt8} (hp : l[i]? = some p) (hq : l[j]? = some q) (hij : i ≤ j) (hx : x < p.1) : x < q.1 := by
  rcases k_tri x q.1 with e | e | e
  · exact e
  · exact absurd (by rw [e] at hx; exact hx) (h.get_le hp hq hij)
  · exact absurd (k_trans e hx) (h.get_le hp hq hij)
theorem Srt.below_nlt {l : List Pr} (h : Srt l) {i j : Nat} {p q : Pr} {x : List UInt8} (hp : l[i]? = some p) (hq : l[j]? = some q) (hij : i ≤ j) (hx : ¬ x < q.1) : ¬ x < p.1 :=
  fun hp' => hx (h.above_lt hp hq hij hp')
theorem mem_take_get {α : Type} {l : List α} {t : Nat} {y : α} (h : y ∈ l.take t) : ∃ u, u < t ∧ l[u]? = some y := by
  obtain ⟨u, hu⟩ := List.mem_iff_getElem?.1 h
  have h1 : u < t := by have := (List.getElem?_eq_some_iff.1 hu).1; simp at this; omega
  exact ⟨u, h1, by rwa [List.getElem?_take_of_lt h1] at hu⟩
theorem mem_drop_get {α : Type} {l : List α} {t : Nat} {y : α} (h : y ∈ l.drop t) : ∃ u, t ≤ u ∧ l[u]? = some y := by
  obtain ⟨u, hu⟩ := List.mem_iff_getElem?.1 h
  rw [List.getElem?_drop] at hu
  exact ⟨_, by omega, hu⟩
theorem drop_cons {α : Type} {l : List α} {t : Nat} {v : α} (h : l[t]? = some v) : l.drop t = v :: l.drop (t + 1) := by rw [List.drop_eq_getElem?_toList_append, h]; rfl
/-- What symMerge rests on: halves that lie apart are sorted by themselves. -/
theorem ssort_halves {A1 A2 B1 B2 : List Pr} (hA : Srt (A1 ++ A2)) (hB : Srt (B1 ++ B2)) (h1 : ∀ x ∈ A1, ∀ y ∈ B2, ¬ y.1 < x.1) (h2 : ∀ x ∈ A2, ∀ y ∈ B1, y.1 < x.1) :
    ssort (A1 ++ B1) ++ ssort (A2 ++ B2) = ssort ((A1 ++ A2) ++ (B1 ++ B2)) := by
  have hA' := srt_append.1 hA
  have hB' := srt_append.1 hB
  refine ssort_uniq ?_ ?_
  · rw [srt_append]
    refine ⟨ssort_srt _, ssort_srt _, ?_⟩
    intro x hx y hy
    have hx' := ((ssort_stb (A1 ++ B1)).mem x).2 hx
    have hy' := ((ssort_stb (A2 ++ B2)).mem y).2 hy
    rcases List.mem_append.1 hx' with hx' | hx' <;> rcases List.mem_append.1 hy' with hy' | hy'
    · exact hA'.2.2 x hx' y hy'
    · exact h1 x hx' y hy'
    · exact k_asymm (h2 y hy' x hx')
    · exact hB'.2.2 x hx' y hy'
  · have e : Stb (A1 ++ (A2 ++ B1) ++ B2) (A1 ++ (B1 ++ A2) ++ B2) :=
      ((Stb.refl A1).append (stb_swap fun x hx y hy => (k_ne (h2 x hx y hy)).symm)).append (Stb.refl B2)
    have e2 : Stb ((A1 ++ B1) ++ (A2 ++ B2)) (ssort (A1 ++ B1) ++ ssort (A2 ++ B2)) := (ssort_stb _).append (ssort_stb _)
    refine Stb.trans ?_ e2
    simpa using e
theorem Srt.app_nil_left {A B : List Pr} (hA : Srt A) (hB : Srt B) (h : A = [] ∨ B = []) : ssort (A ++ B) = A ++ B := by
  rcases h with rfl | rfl
  · exact ssort_self (by simpa using hB)
  · exact ssort_self (by simpa using hA)
end Go.QS
/- A row sorted block by block: plain laws. No program. -/
namespace Go.QS

/-- The elements from a up to b, sorted where they lie. -/
def upd (l : List Pr) (a b : Nat) : List Pr := l.take a ++ (ssort ((l.drop a).take (b - a)) ++ l.drop b)
section
variable {l : List Pr} {a b : Nat}
theorem cut3 (l : List Pr) {a b : Nat} (h : a ≤ b) : l = l.take a ++ ((l.drop a).take (b - a) ++ l.drop b) := by
  have : l.drop b = (l.drop a).drop (b - a) := by rw [List.drop_drop]; congr 1; omega
  rw [this, List.take_append_drop, List.take_append_drop]
theorem upd_length (h : a ≤ b) (hb : b ≤ l.length) : (upd l a b).length = l.length := by
  simp [upd, ssort_length]; omega
theorem upd_stb (h : a ≤ b) : Stb l (upd l a b) := by
  have e := cut3 l h
  have : Stb (l.take a ++ ((l.drop a).take (b - a) ++ l.drop b)) (upd l a b) := (Stb.refl _).append ((ssort_stb _).append (Stb.refl _))
  rw [← e] at this
  exact this
theorem upd_before (h : a ≤ b) (hb : b ≤ l.length) {i k : Nat} (hi : i + k ≤ a) : ((upd l a b).drop i).take k = (l.drop i).take k := by
  have e : (l.take a).length = a := List.length_take_of_le (by omega)
  unfold upd
  rw [List.drop_append_of_le_length (by omega), List.take_append_of_le_length (by rw [List.length_drop]; omega), List.drop_take, List.take_take]
  congr 1; omega
theorem upd_after (h : a ≤ b) (hb : b ≤ l.length) {i : Nat} (hi : b ≤ i) : (upd l a b).drop i = l.drop i := by
  have e : (l.take a).length = a := List.length_take_of_le (by omega)
  have e2 : (ssort ((l.drop a).take (b - a))).length = b - a := by rw [ssort_length]; exact List.length_take_of_le (by rw [List.length_drop]; omega)
  unfold upd
  rw [List.drop_append, List.drop_append, e, e2, List.drop_eq_nil_of_le (by omega), List.drop_eq_nil_of_le (by omega), List.drop_drop]
  simp only [List.nil_append]
  congr 1; omega
theorem upd_at (h : a ≤ b) (hb : b ≤ l.length) : ((upd l a b).drop a).take (b - a) = ssort ((l.drop a).take (b - a)) := by
  have e : (l.take a).length = a := List.length_take_of_le (by omega)
  have e2 : (ssort ((l.drop a).take (b - a))).length = b - a := by rw [ssort_length]; exact List.length_take_of_le (by rw [List.length_drop]; omega)
  unfold upd
  rw [List.drop_append_of_le_length (by omega), List.drop_eq_nil_of_le (by omega), List.nil_append, List.take_append_of_le_length (by omega), List.take_of_length_le (by omega)]
theorem srt_take_drop (h : Srt l) (i k : Nat) : Srt ((l.drop i).take k) := h.sub ((List.take_sublist _ _).trans (List.drop_sublist _ _))
theorem srt_short {i : Nat} (hi : l.length ≤ i) (k : Nat) : Srt ((l.drop i).take k) := by rw [List.drop_eq_nil_of_le hi]; simp [Srt]
end

/-- From the c-th block on, and before it: how far the merging has come. -/
def Merged (bs t : Nat) (l : List Pr) : Prop := (∀ c, c < t → Srt ((l.drop (c * (2 * bs))).take (2 * bs))) ∧ (∀ c, 2 * t ≤ c → Srt ((l.drop (c * bs)).take bs))
def Chunks (bs : Nat) (l : List Pr) : Prop := ∀ c, Srt ((l.drop (c * bs)).take bs)

theorem Merged.zero {bs : Nat} {l : List Pr} (h : Chunks bs l) : Merged bs 0 l := ⟨fun c hc => by omega, fun c _ => h c⟩
theorem Merged.step {bs t a b : Nat} {l : List Pr} (h : Merged bs t l) (ha : a = t * (2 * bs)) (hb : b = a + 2 * bs) (hbl : b ≤ l.length) : Merged bs (t + 1) (upd l a b) := by
  refine ⟨fun c hc => ?_, fun c hc => ?_⟩
  · rcases Nat.lt_or_eq_of_le (Nat.le_of_lt_succ hc) with h1 | rfl
    · have : c * (2 * bs) + 2 * bs ≤ a := by rw [ha, ← Nat.succ_mul]; exact Nat.mul_le_mul_right _ h1
      rw [upd_before (by omega) hbl this]
      exact h.1 c h1
    · rw [← ha, show 2 * bs = b - a by omega, upd_at (by omega) hbl]
      exact ssort_srt _
  · have : b ≤ c * bs := by
      have h2 : (2 * (t + 1)) * bs ≤ c * bs := Nat.mul_le_mul_right _ hc
      have h3 : (2 * (t + 1)) * bs = (t + 1) * (2 * bs) := by rw [Nat.mul_comm 2, Nat.mul_assoc]
      have h4 : (t + 1) * (2 * bs) = t * (2 * bs) + 2 * bs := Nat.succ_mul _ _
      omega
    rw [upd_after (by omega) hbl this]
    exact h.2 c (by omega)
theorem Merged.left {bs t a : Nat} {l : List Pr} (h : Merged bs t l) (ha : a = t * (2 * bs)) : Srt ((l.drop a).take bs) ∧ Srt ((l.drop (a + bs)).take bs) := by
  have e1 : a = (2 * t) * bs := by rw [ha, Nat.mul_comm 2 t, Nat.mul_assoc]
  have e2 : a + bs = (2 * t + 1) * bs := by rw [e1]; exact (Nat.succ_mul (2 * t) bs).symm
  rw [e2, e1]
  exact ⟨h.2 _ (Nat.le_refl _), h.2 _ (by omega)⟩
theorem Merged.finish {bs t a : Nat} {l : List Pr} (h : Merged bs t l) (ha : a = t * (2 * bs)) (hal : a ≤ l.length) (hlt : l.length < a + 2 * bs) : Chunks (2 * bs) (upd l a l.length) := by
  intro c
  have hlen := upd_length hal (Nat.le_refl l.length)
  rcases Nat.lt_trichotomy c t with h1 | rfl | h1
  · have : c * (2 * bs) + 2 * bs ≤ a := by rw [ha, ← Nat.succ_mul]; exact Nat.mul_le_mul_right _ h1
    rw [upd_before hal (Nat.le_refl _) this]
    exact h.1 c h1
  · rw [← ha]
    have := upd_at hal (Nat.le_refl l.length)
    have e : ((upd l a l.length).drop a).take (2 * bs) = ((upd l a l.length).drop a).take (l.length - a) := by
      rw [List.take_of_length_le (by rw [List.length_drop, hlen]; omega), List.take_of_length_le (by rw [List.length_drop, hlen]; omega)]
    rw [e, this]
    exact ssort_srt _
  · have : l.length ≤ c * (2 * bs) := by
      have h2 : (t + 1) * (2 * bs) ≤ c * (2 * bs) := Nat.mul_le_mul_right _ h1
      have h4 : (t + 1) * (2 * bs) = t * (2 * bs) + 2 * bs := Nat.succ_mul _ _
      omega
    exact srt_short (by omega) _
theorem Merged.finish' {bs t a : Nat} {l : List Pr} (h : Merged bs t l) (ha : a = t * (2 * bs)) (hm : l.length ≤ a + bs) : Chunks (2 * bs) l := by
  intro c
  rcases Nat.lt_trichotomy c t with h1 | rfl | h1
  · exact h.1 c h1
  · rw [← ha]
    have e : (l.drop a).take (2 * bs) = (l.drop a).take bs := by
      rw [List.take_of_length_le (by rw [List.length_drop]; omega), List.take_of_length_le (by rw [List.length_drop]; omega)]
    rw [e]
    exact (h.left ha).1
  · have : l.length ≤ c * (2 * bs) := by
      have h2 : (t + 1) * (2 * bs) ≤ c * (2 * bs) := Nat.mul_le_mul_right _ h1
      have h4 : (t + 1) * (2 * bs) = t * (2 * bs) + 2 * bs := Nat.succ_mul _ _
      omega
    exact srt_short this _
/-- The first blocks, sorted by insertion. -/
def Firsts (t : Nat) (l : List Pr) : Prop := ∀ c, c < t → Srt ((l.drop (c * 20)).take 20)
theorem Firsts.step {t a b : Nat} {l : List Pr} (h : Firsts t l) (ha : a = t * 20) (hb : b = a + 20) (hbl : b ≤ l.length) : Firsts (t + 1) (upd l a b) := by
  intro c hc
  rcases Nat.lt_or_eq_of_le (Nat.le_of_lt_succ hc) with h1 | rfl
  · rw [upd_before (by omega) hbl (by omega)]
    exact h c h1
  · rw [← ha, show 20 = b - a by omega, upd_at (by omega) hbl]
    exact ssort_srt _
theorem Firsts.finish {t a : Nat} {l : List Pr} (h : Firsts t l) (ha : a = t * 20) (hal : a ≤ l.length) (hlt : l.length < a + 20) : Chunks 20 (upd l a l.length) := by
  intro c
  have hlen := upd_length hal (Nat.le_refl l.length)
  rcases Nat.lt_trichotomy c t with h1 | rfl | h1
  · rw [upd_before hal (Nat.le_refl _) (by omega)]
    exact h c h1
  · rw [← ha]
    have := upd_at hal (Nat.le_refl l.length)
    have e : ((upd l a l.length).drop a).take 20 = ((upd l a l.length).drop a).take (l.length - a) := by
      rw [List.take_of_length_le (by rw [List.length_drop, hlen]; omega), List.take_of_length_le (by rw [List.length_drop, hlen]; omega)]
    rw [e, this]
    exact ssort_srt _
  · exact srt_short (by omega) _
theorem Chunks.done {bs : Nat} {l l0 : List Pr} (h : Chunks bs l) (hl : l.length ≤ bs) (hs : Stb l0 l) : l = ssort l0 := by
  refine ssort_uniq ?_ hs
  have := h 0
  rwa [Nat.zero_mul, List.drop_zero, List.take_of_length_le hl] at this
/-- Each key once, with its last value, of a list in which equal keys lie together. -/
def lastOf : List Pr → List Pr
  | [] => []
  | [x] => [x]
  | x :: y :: r => if x.1 = y.1 then lastOf (y :: r) else x :: lastOf (y :: r)
/-- What pair.Sorted answers. -/
def sortedP (l : List Pr) : List Pr := lastOf (ssort l)
theorem lastOf_skip {x y : Pr} {r : List Pr} (h : x.1 = y.1) : lastOf (x :: y :: r) = lastOf (y :: r) := by simp [lastOf, h]
theorem lastOf_keep {x y : Pr} {r : List Pr} (h : x.1 ≠ y.1) : lastOf (x :: y :: r) = x :: lastOf (y :: r) := by simp [lastOf, h]
theorem lastOf_length : ∀ l : List Pr, (lastOf l).length ≤ l.length
  | [] => Nat.le_refl _
  | [x] => Nat.le_refl _
  | x :: y :: r => by
    have := lastOf_length (y :: r)
    unfold lastOf
    split
    · simp only [List.length_cons] at *; omega
    · simp only [List.length_cons] at *; omega
theorem sortedP_length (l : List Pr) : (sortedP l).length ≤ l.length := by
  have := lastOf_length (ssort l)
  rw [ssort_length] at this
  exact this
end Go.QS
/- Lists of pairs that rise: a map's lists. Plain laws. No program. -/
namespace Go.QS

/-- Key by key it rises. -/
def Rise (l : List Pr) : Prop := l.Pairwise fun p q => p.1 < q.1
theorem rise_cons {x : Pr} {l : List Pr} : Rise (x :: l) ↔ (∀ q ∈ l, x.1 < q.1) ∧ Rise l := List.pairwise_cons

theorem rise_ext : ∀ (a b : List Pr), Rise a → Rise b → (∀ p, p ∈ a ↔ p ∈ b) → a = b
  | [], [], _, _, _ => rfl
  | [], y :: t, _, _, h => absurd ((h y).2 (by simp)) (by simp)
  | x :: s, [], _, _, h => absurd ((h x).1 (by simp)) (by simp)
  | x :: s, y :: t, h1, h2, h => by
    have a1 := rise_cons.1 h1
    have a2 := rise_cons.1 h2
    have hxy : x = y := by
      rcases List.mem_cons.1 ((h x).1 (by simp)) with e | e
      · exact e
      · rcases List.mem_cons.1 ((h y).2 (by simp)) with e' | e'
        · exact e'.symm
        · exact absurd (a1.1 _ e') (k_asymm (a2.1 _ e))
    subst hxy
    have : ∀ p, p ∈ s ↔ p ∈ t := by
      intro p
      constructor
      · intro hp
        rcases List.mem_cons.1 ((h p).1 (List.mem_cons_of_mem _ hp)) with e | e
        · subst e; exact absurd (a1.1 _ hp) (k_irrefl _)
        · exact e
      · intro hp
        rcases List.mem_cons.1 ((h p).2 (List.mem_cons_of_mem _ hp)) with e | e
        · subst e; exact absurd (a2.1 _ hp) (k_irrefl _)
        · exact e
    rw [rise_ext s t a1.2 a2.2 this]

/-- Without a key's. -/
def rdrop (l : List Pr) (k : List UInt8) : List Pr := l.filter fun p => p.1 != k
/-- Ahead of the first that is greater. -/
def insB (p : Pr) : List Pr → List Pr
  | [] => [p]
  | q :: r => if p.1 < q.1 then p :: q :: r else q :: insB p r
/-- With a pair. -/
def rput (l : List Pr) (p : Pr) : List Pr := insB p (rdrop l p.1)
/-- The document's sorted list. -/
def rsort (l : List Pr) : List Pr := l.foldl rput []

theorem mem_rdrop {l : List Pr} {k : List UInt8} {q : Pr} : q ∈ rdrop l k ↔ q ∈ l ∧ q.1 ≠ k := by simp [rdrop]
theorem mem_insB {p q : Pr} : ∀ {l : List Pr}, q ∈ insB p l ↔ q = p ∨ q ∈ l
  | [] => by simp [insB]
  | x :: r => by
    unfold insB
    split
    · simp
    · rw [List.mem_cons, mem_insB (l := r), List.mem_cons]
      constructor
      · rintro (h | h | h) <;> simp [h]
      · rintro (h | h | h) <;> simp [h]
theorem mem_rput {l : List Pr} {p q : Pr} : q ∈ rput l p ↔ q = p ∨ (q ∈ l ∧ q.1 ≠ p.1) := by rw [rput, mem_insB, mem_rdrop]
theorem rdrop_rise {l : List Pr} (h : Rise l) (k : List UInt8) : Rise (rdrop l k) := List.Pairwise.filter _ h
theorem insB_rise {p : Pr} : ∀ {l : List Pr}, Rise l → (∀ q ∈ l, q.1 ≠ p.1) → Rise (insB p l)
  | [], _, _ => by simp [insB, Rise]
  | x :: r, h, hn => by
    have h' := rise_cons.1 h
    unfold insB
    split
    · rename_i hlt
      refine rise_cons.2 ⟨fun q hq => ?_, h⟩
      rcases List.mem_cons.1 hq with rfl | hq
      · exact hlt
      · exact k_trans hlt (h'.1 q hq)
    · rename_i hlt
      have hx : x.1 < p.1 := by
        rcases k_tri p.1 x.1 with e | e | e
        · exact absurd e hlt
        · exact absurd e.symm (hn x (by simp))
        · exact e
      refine rise_cons.2 ⟨fun q hq => ?_, insB_rise h'.2 fun q hq => hn q (List.mem_cons_of_mem _ hq)⟩
      rcases mem_insB.1 hq with rfl | hq
      · exact hx
      · exact h'.1 q hq
theorem rput_rise {l : List Pr} (h : Rise l) (p : Pr) : Rise (rput l p) := insB_rise (rdrop_rise h _) fun _ hq => (mem_rdrop.1 hq).2
theorem rise_nil : Rise [] := by simp [Rise]
theorem rsort_rise (l : List Pr) : Rise (rsort l) := by
  have : ∀ (l m : List Pr), Rise m → Rise (l.foldl rput m) := by
    intro l
    induction l with
    | nil => intro m h; exact h
    | cons p l ih => intro m h; exact ih _ (rput_rise h p)
  exact this l [] rise_nil

/-- The last pair of a key. -/
def lastK (l : List Pr) (k : List UInt8) : Option Pr := (l.filter fun p => p.1 == k).getLast?
theorem lastK_snoc (l : List Pr) (q : Pr) (k : List UInt8) : lastK (l ++ [q]) k = if q.1 = k then some q else lastK l k := by
  unfold lastK
  rw [List.filter_append]
  by_cases h : q.1 = k
  · simp [h]
  · simp [h]
theorem lastK_stb {l l' : List Pr} (h : Stb l l') (k : List UInt8) : lastK l k = lastK l' k := by unfold lastK; rw [h k]
theorem rsort_snoc (l : List Pr) (q : Pr) : rsort (l ++ [q]) = rput (rsort l) q := by simp [rsort]
theorem snoc_ind {α : Type} {C : List α → Prop} (h0 : C []) (h1 : ∀ l x, C l → C (l ++ [x])) (l : List α) : C l := by
  have : ∀ n (l : List α), l.length = n → C l := by
    intro n
    induction n with
    | zero => intro l hl; rw [List.eq_nil_of_length_eq_zero hl]; exact h0
    | succ n ih =>
      intro l hl
      rcases List.eq_nil_or_concat l with h | ⟨l', x, h⟩
      · rw [h]; exact h0
      · rw [h, List.concat_eq_append]
        exact h1 _ _ (ih _ (by rw [h] at hl; simpa using hl))
  exact this _ l rfl
theorem mem_rsort (l : List Pr) (p : Pr) : p ∈ rsort l ↔ lastK l p.1 = some p := by
  induction l using snoc_ind with
  | h0 => simp [rsort, lastK]
  | h1 l q ih =>
    rw [rsort_snoc, mem_rput, lastK_snoc, ih]
    by_cases h : q.1 = p.1
    · rw [if_pos h]
      constructor
      · rintro (e | ⟨_, e⟩)
        · rw [e]
        · exact absurd h.symm e
      · intro e; exact .inl (Option.some.inj e).symm
    · rw [if_neg h]
      constructor
      · rintro (e | ⟨e, _⟩)
        · exact absurd (by rw [e]) h
        · exact e
      · intro e; exact .inr ⟨e, fun e' => h e'.symm⟩
theorem lastK_mem {l : List Pr} {k : List UInt8} {p : Pr} (h : lastK l k = some p) : p ∈ l ∧ p.1 = k := by
  have := List.mem_of_getLast? h
  simpa using List.mem_filter.1 this

theorem lastOf_sub : ∀ (l : List Pr), (lastOf l).Sublist l
  | [] => List.Sublist.refl _
  | [x] => List.Sublist.refl _
  | x :: y :: r => by
    unfold lastOf
    split
    · exact (lastOf_sub (y :: r)).cons _
    · exact (lastOf_sub (y :: r)).cons_cons _
theorem mem_lastOf : ∀ (L : List Pr), Srt L → ∀ p, p ∈ lastOf L ↔ lastK L p.1 = some p
  | [], _, p => by simp [lastOf, lastK]
  | [x], _, p => by
    by_cases h : x.1 = p.1
    · simp [lastOf, lastK, h, eq_comm]
    · have : ¬ p = x := fun e => h (by rw [e])
      simp [lastOf, lastK, h, this]
  | x :: y :: r, hs, p => by
    have h' := List.pairwise_cons.1 hs
    have ih := mem_lastOf (y :: r) h'.2 p
    by_cases hxy : x.1 = y.1
    · rw [lastOf_skip hxy, ih]
      by_cases hp : x.1 = p.1
      · have e1 : lastK (x :: y :: r) p.1 = lastK (y :: r) p.1 := by
          unfold lastK
          have e : y.1 = p.1 := by rw [← hxy]; exact hp
          simp only [List.filter_cons, hp, e, beq_self_eq_true, if_true]
          rw [List.getLast?_cons_cons]
        rw [e1]
      · have e1 : lastK (x :: y :: r) p.1 = lastK (y :: r) p.1 := by
          unfold lastK
          rw [List.filter_cons, if_neg (by simpa using hp)]
        rw [e1]
    · rw [lastOf_keep hxy, List.mem_cons]
      have hlt : ∀ q ∈ y :: r, x.1 < q.1 := by
        have hxy' : x.1 < y.1 := by
          rcases k_tri x.1 y.1 with e | e | e
          · exact e
          · exact absurd e hxy
          · exact absurd e (h'.1 y (by simp))
        intro q hq
        rcases List.mem_cons.1 hq with rfl | hq
        · exact hxy'
        · rcases k_tri x.1 q.1 with e | e | e
          · exact e
          · exact absurd (by rw [← e]; exact hxy') ((List.pairwise_cons.1 h'.2).1 q hq)
          · exact absurd e (h'.1 q (List.mem_cons_of_mem _ hq))
      by_cases hp : x.1 = p.1
      · have e1 : lastK (x :: y :: r) p.1 = some x := by
          unfold lastK
          have : (y :: r).filter (fun q => q.1 == p.1) = [] := by
            rw [List.filter_eq_nil_iff]
            intro q hq e
            exact k_ne (hlt q hq) (by rw [hp]; exact (by simpa using e : q.1 = p.1).symm)
          rw [List.filter_cons, if_pos (by simpa using hp), this]; rfl
        rw [e1]
        constructor
        · rintro (e | e)
          · rw [e]
          · have := (lastOf_sub (y :: r)).subset e
            exact absurd hp (k_ne (hlt p this))
        · intro e; exact .inl (Option.some.inj e).symm
      · have e1 : lastK (x :: y :: r) p.1 = lastK (y :: r) p.1 := by
          unfold lastK
          rw [List.filter_cons, if_neg (by simpa using hp)]
        rw [e1, ← ih]
        constructor
        · rintro (e | e)
          · exact absurd (by rw [e]) hp
          · exact e
        · exact .inr
theorem lastOf_rise : ∀ (L : List Pr), Srt L → Rise (lastOf L)
  | [], _ => rise_nil
  | [x], _ => by simp [lastOf, Rise]
  | x :: y :: r, hs => by
    have h' := List.pairwise_cons.1 hs
    by_cases hxy : x.1 = y.1
    · rw [lastOf_skip hxy]; exact lastOf_rise _ h'.2
    · rw [lastOf_keep hxy]
      refine rise_cons.2 ⟨fun q hq => ?_, lastOf_rise _ h'.2⟩
      have hq := (lastOf_sub (y :: r)).subset hq
      have hxy' : x.1 < y.1 := by
        rcases k_tri x.1 y.1 with e | e | e
        · exact e
        · exact absurd e hxy
        · exact absurd e (h'.1 y (by simp))
      rcases List.mem_cons.1 hq with rfl | hq
      · exact hxy'
      · rcases k_tri x.1 q.1 with e | e | e
        · exact e
        · exact absurd (by rw [← e]; exact hxy') ((List.pairwise_cons.1 h'.2).1 q hq)
        · exact absurd e (h'.1 q (List.mem_cons_of_mem _ hq))
theorem sortedP_rise (l : List Pr) : Rise (sortedP l) := lastOf_rise _ (ssort_srt l)
theorem sortedP_eq (l : List Pr) : sortedP l = rsort l := by
  refine rise_ext _ _ (sortedP_rise l) (rsort_rise l) fun p => ?_
  rw [sortedP, mem_lastOf _ (ssort_srt l), mem_rsort, lastK_stb (ssort_stb l)]
theorem lastK_rise : ∀ {l : List Pr}, Rise l → ∀ p, lastK l p.1 = some p ↔ p ∈ l
  | [], _, p => by simp [lastK]
  | x :: l, h, p => by
    have h' := rise_cons.1 h
    have ih := lastK_rise h'.2 p
    by_cases hp : x.1 = p.1
    · have : l.filter (fun q => q.1 == p.1) = [] := by
        rw [List.filter_eq_nil_iff]
        intro q hq e
        exact k_ne (h'.1 q hq) (by rw [hp]; exact (by simpa using e : q.1 = p.1).symm)
      unfold lastK
      rw [List.filter_cons, if_pos (by simpa using hp), this, List.mem_cons]
      constructor
      · intro e; exact .inl (Option.some.inj e).symm
      · rintro (e | e)
        · rw [e]; rfl
        · exact absurd hp (k_ne (h'.1 p e))
    · have e1 : lastK (x :: l) p.1 = lastK l p.1 := by
        unfold lastK
        rw [List.filter_cons, if_neg (by simpa using hp)]
      rw [e1, ih, List.mem_cons]
      constructor
      · exact .inr
      · rintro (e | e)
        · exact absurd (by rw [e]) hp
        · exact e
theorem rsort_self {l : List Pr} (h : Rise l) : rsort l = l := rise_ext _ _ (rsort_rise l) h fun p => by rw [mem_rsort, lastK_rise h]
theorem sortedP_self {l : List Pr} (h : Rise l) : sortedP l = l := by rw [sortedP_eq, rsort_self h]

/-- What Rises answers: neighbour by neighbour. -/
def riseB : List Pr → Bool
  | x :: y :: r => decide (x.1 < y.1) && riseB (y :: r)
  | _ => true
theorem riseB_iff : ∀ l, riseB l = true ↔ Rise l
  | [] => by simp [riseB, Rise]
  | [x] => by simp [riseB, Rise]
  | x :: y :: r => by
    rw [riseB, Bool.and_eq_true, decide_eq_true_eq, riseB_iff (y :: r)]
    constructor
    · rintro ⟨h1, h2⟩
      refine rise_cons.2 ⟨fun q hq => ?_, h2⟩
      rcases List.mem_cons.1 hq with rfl | hq
      · exact h1
      · exact k_trans h1 ((rise_cons.1 h2).1 q hq)
    · intro h
      have := rise_cons.1 h
      exact ⟨this.1 y (by simp), this.2⟩
end Go.QS
/- Where a key is, or would be, in a list that rises; with a pair and without one, cut by places. Plain laws. No program. -/
namespace Go.QS

/-- A byte of a string, by its place. -/
theorem idx_str {P : Program} {t : TypeId} (ht : P.underlying t = some .string) {a : List UInt8} {k : Nat} {x : UInt8} (h : a[k]? = some x) (w : World) : (Instr.index t (str a) (.int .i64 (k : Int))).run P w = .ok (.int .u8 (x.toNat : Int)) w := by
  have hk := (List.getElem?_eq_some_iff.1 h).1
  rw [run_index_string w t (bs a) .i64 k ht, dif_pos (by simp; omega)]
  congr 2
  simp only [Int.toNat_natCast, bs_get]
  rw [(List.getElem?_eq_some_iff.1 h).2]

/-- How many are less ahead of the first that isn't. -/
def fndI (l : List Pr) (k : List UInt8) : Nat := (l.takeWhile fun p => decide (p.1 < k)).length
def hasK (l : List Pr) (k : List UInt8) : Bool := l.any fun p => p.1 == k
theorem fndI_le (l : List Pr) (k : List UInt8) : fndI l k ≤ l.length := (List.takeWhile_sublist _).length_le
theorem fndI_cons (x : Pr) (l : List Pr) (k : List UInt8) : fndI (x :: l) k = if x.1 < k then fndI l k + 1 else 0 := by
  unfold fndI
  rw [List.takeWhile_cons]
  split <;> simp_all
theorem fndI_nil (k : List UInt8) : fndI [] k = 0 := rfl

theorem fnd_first : ∀ {l : List Pr} {k : List UInt8} {i : Nat}, i ≤ l.length → (∀ t q, t < i → l[t]? = some q → q.1 < k) → (∀ q, l[i]? = some q → ¬ q.1 < k) → i = fndI l k
  | [], k, i, h, _, _ => by simp at h; rw [h]; rfl
  | x :: l, k, 0, _, _, h2 => by rw [fndI_cons, if_neg (h2 x rfl)]
  | x :: l, k, i + 1, h, h1, h2 => by
    rw [fndI_cons, if_pos (h1 0 x (by omega) rfl)]
    congr 1
    exact fnd_first (by simpa using h) (fun t q ht hq => h1 (t + 1) q (by omega) (by simpa using hq)) (fun q hq => h2 q (by simpa using hq))

/-- Is the key there? As it is asked at the place. -/
theorem hasK_at : ∀ {l : List Pr} {k : List UInt8}, Rise l → hasK l k = (match l[fndI l k]? with | some q => q.1 == k | none => false)
  | [], k, _ => rfl
  | x :: l, k, h => by
    have h' := rise_cons.1 h
    rw [fndI_cons]
    by_cases hx : x.1 < k
    · rw [if_pos hx, List.getElem?_cons_succ, ← hasK_at h'.2]
      have : (x.1 == k) = false := by simp; exact k_ne hx
      simp [hasK, this]
    · rw [if_neg hx, List.getElem?_cons_zero]
      by_cases e : x.1 = k
      · simp [hasK, e]
      · have : hasK l k = false := by
          unfold hasK
          rw [List.any_eq_false]
          intro q hq e'
          have : k = q.1 := (by simpa using e' : q.1 = k).symm
          have h1 := h'.1 q hq
          rw [← this] at h1
          exact hx h1
        have e2 : (x.1 == k) = false := by simp [e]
        show (x.1 == k || hasK l k) = (x.1 == k)
        rw [this, e2]; rfl
theorem hasK_iff {l : List Pr} {k : List UInt8} : hasK l k = true ↔ ∃ q ∈ l, q.1 = k := by simp [hasK]

theorem rdrop_self {l : List Pr} {k : List UInt8} (h : hasK l k = false) : rdrop l k = l := by
  unfold rdrop
  rw [List.filter_eq_self]
  intro q hq
  simp only [hasK, List.any_eq_false] at h
  have := h q hq
  simpa using this

theorem rdrop_cut : ∀ {l : List Pr} {k : List UInt8}, Rise l → hasK l k = true → rdrop l k = l.take (fndI l k) ++ l.drop (fndI l k + 1)
  | [], k, _, h => by cases h
  | x :: l, k, h, hk => by
    have h' := rise_cons.1 h
    rw [fndI_cons]
    by_cases hx : x.1 < k
    · rw [if_pos hx]
      have e : (x.1 == k) = false := by simp; exact k_ne hx
      have hk' : hasK l k = true := by
        have : (x.1 == k || hasK l k) = true := hk
        rwa [e, Bool.false_or] at this
      have e2 : rdrop (x :: l) k = x :: rdrop l k := by unfold rdrop; rw [List.filter_cons, if_pos (by simpa using k_ne hx)]
      rw [e2, rdrop_cut h'.2 hk']; rfl
    · rw [if_neg hx]
      obtain ⟨q, hq, e⟩ := hasK_iff.1 hk
      have hxk : x.1 = k := by
        rcases List.mem_cons.1 hq with rfl | hq
        · exact e
        · exact absurd (by have := h'.1 q hq; rwa [e] at this) hx
      have hno : hasK l k = false := by
        rw [Bool.eq_false_iff]
        intro hh
        obtain ⟨q, hq, e⟩ := hasK_iff.1 hh
        exact k_ne (h'.1 q hq) (by rw [hxk, e])
      have e2 : rdrop (x :: l) k = rdrop l k := by unfold rdrop; rw [List.filter_cons, if_neg (by simpa using hxk)]
      rw [e2, rdrop_self hno]; rfl

theorem insB_cut : ∀ {l : List Pr} {p : Pr}, Rise l → hasK l p.1 = false → insB p l = l.take (fndI l p.1) ++ p :: l.drop (fndI l p.1)
  | [], p, _, _ => rfl
  | x :: l, p, h, hk => by
    have h' := rise_cons.1 h
    have hxk : x.1 ≠ p.1 := fun e => by
      have : (x.1 == p.1 || hasK l p.1) = false := hk
      simp [e] at this
    have hk' : hasK l p.1 = false := by
      have : (x.1 == p.1 || hasK l p.1) = false := hk
      simp only [Bool.or_eq_false_iff] at this
      exact this.2
    rw [fndI_cons]
    unfold insB
    by_cases hx : x.1 < p.1
    · rw [if_neg (k_asymm hx), if_pos hx, insB_cut h'.2 hk']; rfl
    · have : p.1 < x.1 := by
        rcases k_tri p.1 x.1 with e | e | e
        · exact e
        · exact absurd e.symm hxk
        · exact absurd e hx
      rw [if_pos this, if_neg hx]; rfl

theorem fndI_rdrop : ∀ {l : List Pr} {k : List UInt8}, Rise l → fndI (rdrop l k) k = fndI l k
  | [], k, _ => rfl
  | x :: l, k, h => by
    have h' := rise_cons.1 h
    by_cases hx : x.1 = k
    · have e2 : rdrop (x :: l) k = rdrop l k := by unfold rdrop; rw [List.filter_cons, if_neg (by simpa using hx)]
      rw [e2, fndI_rdrop h'.2, fndI_cons, if_neg (by rw [hx]; exact k_irrefl _)]
      cases l with
      | nil => rfl
      | cons y l => rw [fndI_cons, if_neg (by rw [← hx]; exact k_asymm (h'.1 y (by simp)))]
    · have e2 : rdrop (x :: l) k = x :: rdrop l k := by unfold rdrop; rw [List.filter_cons, if_pos (by simpa using hx)]
      rw [e2, fndI_cons, fndI_cons, fndI_rdrop h'.2]

/-- With a pair: cut at its place. -/
theorem rput_cut {l : List Pr} (h : Rise l) (p : Pr) : rput l p = l.take (fndI l p.1) ++ p :: (if hasK l p.1 then l.drop (fndI l p.1 + 1) else l.drop (fndI l p.1)) := by
  have hno : hasK (rdrop l p.1) p.1 = false := by
    rw [Bool.eq_false_iff]
    intro hh
    obtain ⟨q, hq, e⟩ := hasK_iff.1 hh
    exact (mem_rdrop.1 hq).2 e
  unfold rput
  rw [insB_cut (rdrop_rise h _) hno, fndI_rdrop h]
  cases hk : hasK l p.1 with
  | false => rw [rdrop_self hk]; rfl
  | true =>
    rw [rdrop_cut h hk]
    have e : (l.take (fndI l p.1)).length = fndI l p.1 := List.length_take_of_le (fndI_le _ _)
    rw [List.take_append_of_le_length (by omega), List.take_of_length_le (by omega), List.drop_append_of_le_length (by omega), List.drop_eq_nil_of_le (by omega)]
    simp

theorem riseB_idx : ∀ (l : List Pr), riseB l = true ↔ ∀ i p q, l[i]? = some p → l[i + 1]? = some q → p.1 < q.1
  | [] => by simp [riseB]
  | [x] => by simp [riseB]
  | x :: y :: r => by
    rw [riseB, Bool.and_eq_true, decide_eq_true_eq, riseB_idx (y :: r)]
    constructor
    · rintro ⟨h1, h2⟩ i p q hp hq
      cases i with
      | zero => simp at hp hq; rw [← hp, ← hq]; exact h1
      | succ i => exact h2 i p q (by simpa using hp) (by simpa using hq)
    · intro h
      exact ⟨h 0 x y rfl rfl, fun i p q hp hq => h (i + 1) p q (by simpa using hp) (by simpa using hq)⟩
/-- Less, byte by byte. -/
theorem less_at {a b : List UInt8} {k : Nat} {x y : UInt8} (ht : a.take k = b.take k) (hx : a[k]? = some x) (hy : b[k]? = some y) (hne : x ≠ y) : a < b ↔ x.toNat < y.toNat := by
  have ea : a = a.take k ++ x :: a.drop (k + 1) := by rw [← drop_cons hx, List.take_append_drop]
  have eb : b = a.take k ++ y :: b.drop (k + 1) := by rw [ht, ← drop_cons hy, List.take_append_drop]
  rw [ea, eb]
  generalize a.take k = c
  induction c with
  | nil =>
    simp only [List.nil_append, List.cons_lt_cons_iff]
    constructor
    · rintro (h | ⟨h, _⟩)
      · exact UInt8.lt_iff_toNat_lt.1 h
      · exact absurd h hne
    · intro h; exact .inl (UInt8.lt_iff_toNat_lt.2 h)
  | cons z c ih =>
    simp only [List.cons_append, List.cons_lt_cons_iff]
    refine Iff.trans ?_ ih
    constructor
    · rintro (h | ⟨_, h⟩)
      · exact absurd h (UInt8.lt_irrefl _)
      · exact h
    · intro h; exact .inr ⟨trivial, h⟩
theorem less_pre {a b : List UInt8} {k : Nat} (ht : a.take k = b.take k) (hk : k = a.length ∨ k = b.length) (hka : k ≤ a.length) (hkb : k ≤ b.length) : a < b ↔ a.length < b.length := by
  have lt_app : ∀ (c : List UInt8) (x : UInt8) (d : List UInt8), c < c ++ x :: d := by
    intro c x d
    induction c with
    | nil => exact List.nil_lt_cons _ _
    | cons z c ih => exact List.cons_lt_cons_iff.2 (.inr ⟨rfl, ih⟩)
  rcases hk with rfl | rfl
  · rw [List.take_length] at ht
    have e : b = a ++ b.drop a.length := by
      have h := (List.take_append_drop a.length b).symm
      rwa [← ht] at h
    cases hd : b.drop a.length with
    | nil =>
      have : b.length = a.length := by rw [e, hd]; simp
      constructor
      · intro h
        rw [e, hd, List.append_nil] at h
        exact absurd h (List.lt_irrefl _)
      · intro h; omega
    | cons x d =>
      rw [hd] at e
      have e1 : a < b := by rw [e]; exact lt_app a x d
      have e2 : a.length < b.length := by rw [e]; simp
      exact ⟨fun _ => e2, fun _ => e1⟩
  · rw [List.take_length] at ht
    have e : a = b ++ a.drop b.length := by
      have h := (List.take_append_drop b.length a).symm
      rwa [ht] at h
    constructor
    · intro h
      cases hd : a.drop b.length with
      | nil =>
        rw [hd, List.append_nil] at e
        rw [e] at h
        exact absurd h (List.lt_irrefl _)
      | cons x d =>
        rw [hd] at e
        have : b < a := by rw [e]; exact lt_app b x d
        exact absurd (List.lt_trans h this) (List.lt_irrefl _)
    · intro h; omega

/-! ### What PairTurns says -/
theorem rput_comm {s : List Pr} (h : Rise s) {p q : Pr} (hpq : p.1 ≠ q.1) : rput (rput s p) q = rput (rput s q) p := by
  refine rise_ext _ _ (rput_rise (rput_rise h _) _) (rput_rise (rput_rise h _) _) fun x => ?_
  simp only [mem_rput]
  constructor
  · rintro (rfl | ⟨rfl | ⟨h1, h2⟩, h3⟩)
    · exact .inr ⟨.inl rfl, fun e => hpq e.symm⟩
    · exact .inl rfl
    · exact .inr ⟨.inr ⟨h1, h3⟩, h2⟩
  · rintro (rfl | ⟨rfl | ⟨h1, h2⟩, h3⟩)
    · exact .inr ⟨.inl rfl, hpq⟩
    · exact .inl rfl
    · exact .inr ⟨.inr ⟨h1, h3⟩, h2⟩
theorem rput_twice {s : List Pr} (h : Rise s) {p q : Pr} (hpq : p.1 = q.1) : rput (rput s p) q = rput s q := by
  refine rise_ext _ _ (rput_rise (rput_rise h _) _) (rput_rise h _) fun x => ?_
  simp only [mem_rput]
  constructor
  · rintro (rfl | ⟨rfl | ⟨h1, h2⟩, h3⟩)
    · exact .inl rfl
    · exact absurd hpq h3
    · exact .inr ⟨h1, h3⟩
  · rintro (rfl | ⟨h1, h3⟩)
    · exact .inl rfl
    · exact .inr ⟨.inr ⟨h1, by rw [hpq]; exact h3⟩, h3⟩
theorem rput_back {s : List Pr} (h : Rise s) {x : Pr} (hx : x ∈ s) : rput (rdrop s x.1) x = s := by
  refine rise_ext _ _ (rput_rise (rdrop_rise h _) _) h fun y => ?_
  simp only [mem_rput, mem_rdrop]
  constructor
  · rintro (rfl | ⟨⟨h1, _⟩, _⟩)
    · exact hx
    · exact h1
  · intro hy
    by_cases e : y.1 = x.1
    · have a := (lastK_rise h x).2 hx
      have b := (lastK_rise h y).2 hy
      rw [e, a] at b
      exact .inl (Option.some.inj b).symm
    · exact .inr ⟨⟨hy, e⟩, e⟩
theorem rdrop_rput {s : List Pr} (h : Rise s) {p : Pr} (hk : hasK s p.1 = false) : rdrop (rput s p) p.1 = s := by
  refine rise_ext _ _ (rdrop_rise (rput_rise h _) _) h fun y => ?_
  simp only [mem_rput, mem_rdrop]
  constructor
  · rintro ⟨rfl | ⟨h1, _⟩, h2⟩
    · exact absurd rfl h2
    · exact h1
  · intro hy
    have : y.1 ≠ p.1 := fun e => by
      have := hasK_iff.2 ⟨y, hy, e⟩
      rw [hk] at this; cases this
    exact ⟨.inr ⟨hy, this⟩, this⟩
theorem rput_length (l : List Pr) (p : Pr) : (rput l p).length ≤ l.length + 1 := by
  have h1 : ∀ (l : List Pr), (insB p l).length = l.length + 1 := by
    intro l
    induction l with
    | nil => rfl
    | cons x l ih => unfold insB; split <;> simp [ih]
  unfold rput
  rw [h1]
  have : (rdrop l p.1).length ≤ l.length := List.length_filter_le _ _
  omega
theorem rdrop_length (l : List Pr) (k : List UInt8) : (rdrop l k).length ≤ l.length := List.length_filter_le _ _
theorem rsort_length (l : List Pr) : (rsort l).length ≤ l.length := by rw [← sortedP_eq]; exact sortedP_length l
end Go.QS
