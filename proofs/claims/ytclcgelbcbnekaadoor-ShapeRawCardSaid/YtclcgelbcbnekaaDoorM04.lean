/- Texts joined. -/
import Derived.Test.YtclcgelbcbnekaaDoorM00
import Derived.Shelf.Spec.SlicesInsertGrow
import Derived.Lib.BitFns
import Derived.Test.YtclcgelbcbnekaaDoorRows
import Derived.Shelf.Spec.TrailingZeros
set_option linter.unusedVariables false
set_option linter.unusedSimpArgs false
/- Frames: some blocks alone may turn. Copies of elements of several cells. No program. -/
set_option linter.unusedVariables false
namespace Go.QS
open Go.RowKit

/-- Of the blocks that there were those of S alone may have turned. -/
structure Only (S : Nat → Prop) (w w' : World) : Prop where
  os : w'.os = w.os
  tape : w'.tape = w.tape
  output : w'.output = w.output
  size : w.heap.size ≤ w'.heap.size
  block : ∀ k, k < w.heap.size → ¬ S k → w'.heap[k]? = w.heap[k]?

section
variable {S T : Nat → Prop} {w w' a b c : World}
theorem Only.of_ext (h : Ext w w') : Only S w w' := ⟨h.os, h.tape, h.output, h.size, fun k hk _ => h.block k hk⟩
theorem Only.refl (w : World) : Only S w w := Only.of_ext (Ext.refl w)
theorem Only.trans (h : Only S a b) (k : Only S b c) : Only S a c :=
  ⟨k.os.trans h.os, k.tape.trans h.tape, k.output.trans h.output, Nat.le_trans h.size k.size, fun i hi hn => (k.block i (Nat.lt_of_lt_of_le hi h.size) hn).trans (h.block i hi hn)⟩
/-- What turned in the second step, or is new since the first world's, counts with the first's. -/
theorem Only.trans' (h : Only S a b) (k : Only T b c) (hT : ∀ i, i < a.heap.size → T i → S i) : Only S a c :=
  ⟨k.os.trans h.os, k.tape.trans h.tape, k.output.trans h.output, Nat.le_trans h.size k.size, fun i hi hn => (k.block i (Nat.lt_of_lt_of_le hi h.size) (fun ht => hn (hT i hi ht))).trans (h.block i hi hn)⟩
theorem Only.mono (h : Only S w w') (hS : ∀ i, i < w.heap.size → S i → T i) : Only T w w' :=
  ⟨h.os, h.tape, h.output, h.size, fun i hi hn => h.block i hi fun hs => hn (hS i hi hs)⟩
theorem Only.ext (h : Only S w w') (hS : ∀ i, i < w.heap.size → ¬ S i) : Ext w w' := ⟨h.os, h.tape, h.output, h.size, fun i hi => h.block i hi (hS i hi)⟩
theorem Only.below {B : Nat} (h : Only S w w') (hw : B ≤ w.heap.size) (hS : ∀ i, S i → B ≤ i) : Below B w w' := ⟨h.os, h.tape, h.output, h.size, fun i hi => h.block i (by omega) fun hs => by have := hS i hs; omega⟩
theorem Only.of_grown {r : Option Nat} (h : w.grownBy w' r) : Only (fun k => r = some k) w w' := ⟨h.os, h.tape, h.output, h.size, fun i hi hn => h.block i hi fun e => hn e.symm⟩
theorem Only.setCell (h : Only S a w) {p : Addr} (hp : S p.block ∨ a.heap.size ≤ p.block) (u : Value) : Only S a (w.setCell p u) :=
  ⟨h.os, h.tape, h.output, Nat.le_trans h.size (by simp [World.setCell]), fun k hk hn => (Below.heap_setCell _ _ _ _ (fun e => by
    rcases hp with hp | hp
    · exact hn (e ▸ hp)
    · omega)).trans (h.block k hk hn)⟩
theorem Only.alloc (h : Only S a w) (o : Obj) : Only S a (w.alloc o) := h.trans (Only.of_ext ((Ext.refl w).alloc (Nat.le_refl _) o))
theorem Only.drew (h : Only S a w) : Only S a w.drew := ⟨h.os, h.tape, h.output, h.size, h.block⟩
theorem Only.cell (h : Only S w w') {p : Addr} {u : Value} (hu : w.cell? p = some u) (hS : ¬ S p.block) : w'.cell? p = some u :=
  (World.cell?_of_block (h.block _ (World.block_lt_of_cell? w p hu) hS)).trans hu
theorem Only.heap (h : Only S w w') {g : Nat} {o : Obj} (hg : w.heap[g]? = some o) (hS : ¬ S g) : w'.heap[g]? = some o :=
  (h.block g (Array.getElem?_eq_some_iff.1 hg).1 hS).trans hg
theorem Only.seg (h : Only S w w') {A : Option Addr} {xs : List Value} (hs : Seg w A xs) (hS : ∀ b o, A = some ⟨b, o, none⟩ → ¬ S b) : Seg w' A xs := by
  intro hne
  obtain ⟨b, o, hA, hc⟩ := hs hne
  exact ⟨b, o, hA, fun j u hu => h.cell (hc j u hu) (hS b o hA)⟩
theorem Only.own (h : Only S w w') {base n k : Nat} {e : TypeId} {v : Value} {xs : List Value} (ho : w.ownsRow base e k v n xs) (hS : ∀ b, v.ownBlock = some b → ¬ S b) : w'.ownsRow base e k v n xs := by
  refine ⟨ho.1, ?_⟩
  rcases ho.2 with h1 | ⟨g, cap, cur, h1, h2, h3, h4⟩
  · exact .inl h1
  · exact .inr ⟨g, cap, cur, h1, h2, h.heap h3 (hS g (by rw [h1]; rfl)), h4⟩
end

/-- copy: all is read before anything is written; elements of k cells. -/
theorem run_copy_cellsK {P : Program} (k : Nat) (w : World) (dT sT ty elem : TypeId) (b o dLen dCap : Nat) (a : Addr) (sLen sCap : Nat) (cs : List Value)
    (hu : P.underlying dT = some (.slice elem)) (hs : (P.info? elem).map (·.size) = some k) {q : Nat} (hq : Nat.min sLen dLen = q) (hn : cs.length = q * k)
    (hsrc : ∀ j v, cs[j]? = some v → w.cell? (a.add j) = some v) (hc : ∀ j, j < cs.length → (w.cell? ⟨b, o + j, none⟩).isSome = true) (hf : ∀ j, j < cs.length → w.frozen? ⟨b, o + j, none⟩ = false) (h1 : ∀ v ∈ cs, v.oneCell' = true) :
    (Builtin.copy_ #[dT, sT] ty #[.slice (some ⟨b, o, none⟩) dLen dCap, .slice (some a) sLen sCap]).run P w = .ok (goInt q) (w.setCells b o cs) := by
  subst hq
  have hl := run_loadCells_list (P := P) w a cs hsrc
  have hst := run_storeCells_cells (P := P) b o cs 0 w (by simpa using hc) (by simpa using hf) h1
  cases hq : P.info? elem with
  | none => simp [hq] at hs
  | some i =>
    have hi : i.size = k := by simpa [hq] using hs
    simp [Builtin.copy_, run_underlying hu, Builtin.lenOf, Builtin.firstCells, sizeOf, typeInfo, hq, hi, ← hn, hl, hst]

theorem run_fromP {P : Program} {t e : TypeId} {size bytes : Nat} (ht : P.underlying t = some (.slice e)) (hi : ∃ i z, P.info? e = some i ∧ i.zero = some z ∧ i.size = size ∧ i.bytes = bytes ∧ z.cells.size = size) (A : Option Addr) {n c i : Nat} (hin : i ≤ n) (hnc : n ≤ c) :
    ∃ A2, (∀ w, (Instr.slice t (.slice A n c) (some (.int .i64 (i : Int))) none none).run P w = .ok (.slice A2 (n - i) (c - i)) w) ∧
      ∀ (w : World) (xs : List Value), xs.length = n * size → Seg w A xs → Seg w A2 (xs.drop (i * size)) := by
  obtain ⟨inf, z, hi, hz, hs, hb, hzs⟩ := hi
  refine ⟨if c = i then A else A.map (·.add (i * size)), fun w => ?_, fun w xs hl hs => ?_⟩
  · have h1 : (0 : Int) ≤ (i : Int) := by omega
    have h2 : (i : Int) ≤ (n : Int) := by omega
    simp [Instr.slice, Instr.sliceBounds, Instr.sliceBound, asIntOf, run_underlying ht, sizeOf, typeInfo, hi, hs, hin]
  · by_cases h : c = i
    · have : xs.drop (i * size) = [] := List.drop_eq_nil_of_le (by rw [hl]; exact Nat.mul_le_mul_right _ (by omega))
      rw [this]; exact Seg.nil _ _
    · rw [if_neg h]
      intro hne
      obtain ⟨b, o, hA, hc⟩ := hs (fun e => hne (by simp [e]))
      subst hA
      have := Seg.drop (w := w) (b := b) (o := o) hs (i * size)
      obtain ⟨b', o', hA', hc'⟩ := this hne
      cases hA'
      exact ⟨b, o + i * size, by simp [Addr.add_lit], hc'⟩
namespace Nk
theorem row_set {w : World} {base : Nat} {e : TypeId} {k n : Nat} {v : Value} {xs : List Value} (h : w.ownsRow base e k v n xs) (a : Addr) (u : Value) (hne : a.block < base) : (w.setCell a u).ownsRow base e k v n xs := by
  refine ⟨h.1, ?_⟩
  rcases h.2 with h | ⟨g, cap, cur, h1, h2, h3, h4⟩
  · exact .inl h
  · exact .inr ⟨g, cap, cur, h1, h2, (Below.heap_setCell w a u g (by omega)).trans h3, h4⟩
theorem row_ext {w w' : World} {base : Nat} {e : TypeId} {k n : Nat} {v : Value} {xs : List Value} (h : w.ownsRow base e k v n xs) (hb : Ext w w') : w'.ownsRow base e k v n xs := by
  refine ⟨h.1, ?_⟩
  rcases h.2 with h | ⟨g, cap, cur, h1, h2, h3, h4⟩
  · exact .inl h
  · exact .inr ⟨g, cap, cur, h1, h2, (hb.block g (heap_lt h3)).trans h3, h4⟩

theorem own_slice {w : World} {base : Nat} {e : TypeId} {k n : Nat} {v : Value} {xs : List Value} (h : w.ownsRow base e k v n xs) : ∃ A c, v = .slice A n c := by
  rcases h.2 with ⟨rfl, rfl⟩ | ⟨g, cap, cur, h1, h2, h3, h4⟩
  · exact ⟨_, _, rfl⟩
  · exact ⟨_, _, h1⟩

theorem heap_setCells (b : Nat) (e : TypeId) (f : Nat × Nat) : ∀ (vs : List Value) (o : Nat) (w : World) (cur : Array Value), w.heap[b]? = some (.cells cur e f) → o + vs.length ≤ cur.size →
    ∃ cur', (w.setCells b o vs).heap[b]? = some (.cells cur' e f) ∧ cur'.size = cur.size ∧ cur'.toList = cur.toList.take o ++ vs ++ cur.toList.drop (o + vs.length)
  | [], o, w, cur, h, hl => ⟨cur, h, rfl, by simp⟩
  | v :: r, o, w, cur, h, hl => by
    simp only [List.length_cons] at hl
    obtain ⟨cur', h1, h2, h3⟩ := heap_setCells b e f r (o + 1) (w.setCell ⟨b, o, none⟩ v) _ (heap_set h o v) (by simp; omega)
    refine ⟨cur', h1, by simpa using h2, ?_⟩
    rw [h3]
    have ho : o < cur.toList.length := by simp; omega
    rw [Array.toList_setIfInBounds, List.take_set, List.drop_set_of_lt (by omega), List.length_cons, List.take_succ_eq_append_getElem ho, show o + 1 + r.length = o + (r.length + 1) by omega]
    have : ((cur.toList.take o) ++ [cur.toList[o]]).set o v = cur.toList.take o ++ [v] := by
      rw [List.set_append_right _ _ (by simp; omega)]
      have : o - (cur.toList.take o).length = 0 := by simp; omega
      rw [this]; rfl
    rw [this]
    simp

theorem grown_setCell' (w : World) (g j : Nat) (u : Value) : w.grownBy (w.setCell ⟨g, j, none⟩ u) (some g) :=
  ⟨rfl, rfl, rfl, by simp, fun k _ hne => Below.heap_setCell w ⟨g, j, none⟩ u k (fun h => hne (by rw [h]))⟩
theorem grown_setCells (b : Nat) : ∀ (vs : List Value) (o : Nat) (w : World), w.grownBy (w.setCells b o vs) (some b)
  | [], o, w => World.grownBy.refl w _
  | v :: r, o, w => World.grownBy.trans (grown_setCell' w b o v) (grown_setCells b r (o + 1) _)
theorem grown_ext' {w w' : World} {row : Option Nat} (hb : Ext w w') : w.grownBy w' row := ⟨hb.os, hb.tape, hb.output, hb.size, fun k hk _ => hb.block k hk⟩
theorem ext_grown {w w' : World} (hb : w.grownBy w' none) : Ext w w' := ⟨hb.os, hb.tape, hb.output, hb.size, fun k hk => hb.block k hk (by simp)⟩
theorem below_setCells {B : Nat} {a : World} (b : Nat) (hb : B ≤ b) : ∀ (vs : List Value) (o : Nat) (w : World), Below B a w → Below B a (w.setCells b o vs)
  | [], o, w, h => h
  | v :: r, o, w, h => below_setCells b hb r (o + 1) _ (h.setCell hb v)

theorem heap_new (w : World) (o : Obj) : (w.alloc o).heap[w.heap.size]? = some o := by
  simp only [World.alloc]; simp
theorem seg_of_heap {w : World} {b : Nat} {e : TypeId} {f : Nat × Nat} {cur : Array Value} (h : w.heap[b]? = some (.cells cur e f)) (j : Nat) : w.cell? ⟨b, j, none⟩ = cur[j]? := by
  simp [World.cell?, h]

/-- A row stays where a block of another type is written. -/
theorem own_other {w : World} {base n k : Nat} {e : TypeId} {v : Value} {xs : List Value} (h : w.ownsRow base e k v n xs) {c : Nat} {cs : Array Value} {T : TypeId} {f : Nat × Nat} (hc : w.heap[c]? = some (.cells cs T f)) (hT : T ≠ e) (j : Nat) (u : Value) : (w.setCell ⟨c, j, none⟩ u).ownsRow base e k v n xs := by
  refine ⟨h.1, ?_⟩
  rcases h.2 with h | ⟨g, cap, cur, h1, h2, h3, h4⟩
  · exact .inl h
  · refine .inr ⟨g, cap, cur, h1, h2, (Below.heap_setCell w _ u g (fun e1 => ?_)).trans h3, h4⟩
    subst e1
    rw [hc] at h3
    cases h3
    exact hT rfl
/-- A row of another type is another block. -/
theorem own_block_ne {w : World} {base n k : Nat} {e : TypeId} {v : Value} {xs : List Value} (h : w.ownsRow base e k v n xs) {c : Nat} {cs : Array Value} {T : TypeId} {f : Nat × Nat} (hc : w.heap[c]? = some (.cells cs T f)) (hT : T ≠ e) : v.ownBlock ≠ some c := by
  intro hv
  rcases h.2 with ⟨h, _⟩ | ⟨g, cap, cur, h1, h2, h3, h4⟩
  · rw [h] at hv; cases hv
  · rw [h1] at hv
    cases hv
    rw [hc] at h3
    cases h3
    exact hT rfl
end Nk
end Go.QS
/- The ones of a number, byte by byte. No program. -/
namespace Go.QS
open Go
theorem pa (f x : Nat) : Lib.popAux (f + 1) x = x % 2 + Lib.popAux f (x / 2) := rfl
def dig (x : Nat) : Nat := x % 2 + x / 2 % 2 + x / 4 % 2 + x / 8 % 2 + x / 16 % 2 + x / 32 % 2 + x / 64 % 2 + x / 128 % 2
theorem pop_dig (f x : Nat) : Lib.popAux (f + 8) x = dig x + Lib.popAux f (x / 256) := by
  rw [pa, pa, pa, pa, pa, pa, pa, pa]
  simp only [dig, Nat.div_div_eq_div_mul, Nat.add_assoc]
theorem pop_zero : ∀ f, Lib.popAux f 0 = 0
  | 0 => rfl
  | f + 1 => by rw [pa]; simpa using pop_zero f
theorem dig_mod (x : Nat) : dig (x % 256) = dig x := by
  unfold dig
  rw [show x % 256 % 2 = x % 2 by omega, show x % 256 / 2 % 2 = x / 2 % 2 by omega, show x % 256 / 4 % 2 = x / 4 % 2 by omega, show x % 256 / 8 % 2 = x / 8 % 2 by omega, show x % 256 / 16 % 2 = x / 16 % 2 by omega, show x % 256 / 32 % 2 = x / 32 % 2 by omega, show x % 256 / 64 % 2 = x / 64 % 2 by omega, show x % 256 / 128 % 2 = x / 128 % 2 by omega]
theorem oc_dig (x : Nat) (hx : x < 256) : Lib.onesCount x = dig x := by
  show Lib.popAux (56 + 8) x = _
  rw [pop_dig, Nat.div_eq_of_lt hx, pop_zero, Nat.add_zero]
theorem oc_split (n : Nat) (hn : n < 4294967296) : Lib.onesCount n = Lib.onesCount (n % 256) + Lib.onesCount (n / 256 % 256) + Lib.onesCount (n / 65536 % 256) + Lib.onesCount (n / 16777216) := by
  have h4 : n / 16777216 < 256 := by omega
  rw [oc_dig _ (Nat.mod_lt _ (by decide)), oc_dig _ (Nat.mod_lt _ (by decide)), oc_dig _ (Nat.mod_lt _ (by decide)), oc_dig _ h4, dig_mod, dig_mod, dig_mod]
  show Lib.popAux (32 + 8 + 8 + 8 + 8) n = _
  rw [pop_dig, pop_dig, pop_dig, pop_dig]
  simp only [Nat.div_div_eq_div_mul]
  rw [show n / (256 * 256 * 256 * 256) = 0 from Nat.div_eq_of_lt (by omega), pop_zero]
  simp only [Nat.add_zero, Nat.add_assoc]
theorem pop_int (x : Nat) (hx : x < 256) : Lib.pop8 (x : Int) = (Lib.onesCount x : Int) ∧ Lib.onesCount x ≤ 8 := ⟨Lib.pop8_eq ⟨x, hx⟩, Lib.onesCount_le8 ⟨x, hx⟩⟩
theorem pop_law (n : Nat) (hn : n < 4294967296) : (Lib.pop8 ((n : Int) / 16777216) + Lib.pop8 ((n : Int) / 65536 % 256) + Lib.pop8 ((n : Int) / 256 % 256) + Lib.pop8 ((n : Int) % 256)) % 256 = (Lib.onesCount n : Int) := by
  rw [show (n : Int) / 16777216 = ((n / 16777216 : Nat) : Int) by omega, show (n : Int) / 65536 % 256 = ((n / 65536 % 256 : Nat) : Int) by omega, show (n : Int) / 256 % 256 = ((n / 256 % 256 : Nat) : Int) by omega, show (n : Int) % 256 = ((n % 256 : Nat) : Int) by omega]
  obtain ⟨e1, l1⟩ := pop_int (n / 16777216) (by omega)
  obtain ⟨e2, l2⟩ := pop_int (n / 65536 % 256) (by omega)
  obtain ⟨e3, l3⟩ := pop_int (n / 256 % 256) (by omega)
  obtain ⟨e4, l4⟩ := pop_int (n % 256) (by omega)
  rw [e1, e2, e3, e4, oc_split n hn]
  generalize Lib.onesCount (n / 16777216) = a1 at *
  generalize Lib.onesCount (n / 65536 % 256) = a2 at *
  generalize Lib.onesCount (n / 256 % 256) = a3 at *
  generalize Lib.onesCount (n % 256) = a4 at *
  omega
end Go.QS
/- What a node's chunks have: nothing, a pair, a kid; as bits and as lists. Plain laws. No program. -/
namespace Go.QS

inductive Slot (α : Type) where
  | no
  | pr (p : Pr)
  | kid (k : α)

section
variable {α : Type}
namespace Slot
def isP : Slot α → Bool | pr _ => true | _ => false
def isK : Slot α → Bool | kid _ => true | _ => false
def getP : Slot α → Option Pr | pr p => some p | _ => none
def getK : Slot α → Option α | kid k => some k | _ => none
@[simp] theorem isP_no : (no : Slot α).isP = false := rfl
@[simp] theorem isP_pr (p : Pr) : (pr p : Slot α).isP = true := rfl
@[simp] theorem isP_kid (k : α) : (kid k : Slot α).isP = false := rfl
@[simp] theorem isK_no : (no : Slot α).isK = false := rfl
@[simp] theorem isK_pr (p : Pr) : (pr p : Slot α).isK = false := rfl
@[simp] theorem isK_kid (k : α) : (kid k : Slot α).isK = true := rfl
@[simp] theorem getP_no : (no : Slot α).getP = none := rfl
@[simp] theorem getP_pr (p : Pr) : (pr p : Slot α).getP = some p := rfl
@[simp] theorem getP_kid (k : α) : (kid k : Slot α).getP = none := rfl
@[simp] theorem getK_no : (no : Slot α).getK = none := rfl
@[simp] theorem getK_pr (p : Pr) : (pr p : Slot α).getK = none := rfl
@[simp] theorem getK_kid (k : α) : (kid k : Slot α).getK = some k := rfl
end Slot
open Slot

def prsOf (sl : List (Slot α)) : List Pr := sl.filterMap getP
def kdsOf (sl : List (Slot α)) : List α := sl.filterMap getK
def bitsOf (f : Slot α → Bool) : List (Slot α) → Nat
  | [] => 0
  | s :: r => (if f s then 1 else 0) + 2 * bitsOf f r
abbrev dataOf (sl : List (Slot α)) : Nat := bitsOf isP sl
abbrev nodesOf (sl : List (Slot α)) : Nat := bitsOf isK sl
/-- With nothing. -/
def sl0 (α : Type) : List (Slot α) := List.replicate 32 .no
@[simp] theorem sl0_length : (sl0 α).length = 32 := by simp [sl0]

theorem bitsOf_lt (f : Slot α → Bool) : ∀ sl : List (Slot α), bitsOf f sl < 2 ^ sl.length
  | [] => by simp [bitsOf]
  | s :: r => by
    have := bitsOf_lt f r
    simp only [bitsOf, List.length_cons, Nat.pow_succ]
    split <;> omega
theorem bits32 (f : Slot α → Bool) {sl : List (Slot α)} (h : sl.length = 32) : bitsOf f sl < 4294967296 := by
  have := bitsOf_lt f sl
  rw [h] at this
  exact this
theorem bitsOf_bit (f : Slot α → Bool) : ∀ (sl : List (Slot α)) (i : Nat), (bitsOf f sl).testBit i = (match sl[i]? with | some s => f s | none => false)
  | [], i => by simp [bitsOf]
  | s :: r, 0 => by
    simp only [bitsOf, List.getElem?_cons_zero, Nat.testBit_zero]
    cases f s <;> simp <;> omega
  | s :: r, i + 1 => by
    have h := bitsOf_bit f r i
    have e : (bitsOf f (s :: r)) / 2 = bitsOf f r := by
      simp only [bitsOf]
      split <;> omega
    rw [Nat.testBit_succ, e, h, List.getElem?_cons_succ]
theorem bit_at (f : Slot α → Bool) {sl : List (Slot α)} {i : Nat} {s : Slot α} (h : sl[i]? = some s) : (bitsOf f sl).testBit i = f s := by rw [bitsOf_bit, h]
theorem bitsOf_mod (f : Slot α → Bool) : ∀ (sl : List (Slot α)) (i : Nat), bitsOf f sl % 2 ^ i = bitsOf f (sl.take i)
  | [], i => by simp [bitsOf]
  | s :: r, 0 => by simp [bitsOf, Nat.mod_one]
  | s :: r, i + 1 => by
    have h := bitsOf_mod f r i
    rw [List.take_succ_cons]
    simp only [bitsOf]
    rw [← h, Nat.pow_succ, Nat.mul_comm (2 ^ i) 2]
    have hp : 0 < 2 ^ i := Nat.two_pow_pos i
    generalize 2 ^ i = m at hp ⊢
    generalize bitsOf f r = x
    have e : ∀ b, b < 2 → (b + 2 * x) % (2 * m) = b + 2 * (x % m) := fun b hb => by
      have h1 := Nat.div_add_mod x m
      have h2 := Nat.mod_lt x hp
      have : b + 2 * x = (b + 2 * (x % m)) + 2 * m * (x / m) := by
        rw [Nat.mul_assoc]; omega
      rw [this, Nat.add_mul_mod_self_left, Nat.mod_eq_of_lt (by omega)]
    split
    · exact e 1 (by decide)
    · exact e 0 (by decide)
theorem pop_bits (f : Slot α → Bool) : ∀ (n : Nat) (sl : List (Slot α)), sl.length ≤ n → Lib.popAux n (bitsOf f sl) = (sl.filter f).length
  | n, [], _ => by
    simp only [bitsOf, List.filter_nil, List.length_nil]
    exact pop_zero n
  | 0, s :: r, h => by simp at h
  | n + 1, s :: r, h => by
    have ih := pop_bits f n r (by simpa using h)
    have e : (bitsOf f (s :: r)) / 2 = bitsOf f r := by
      simp only [bitsOf]
      split <;> omega
    have e2 : (bitsOf f (s :: r)) % 2 = if f s then 1 else 0 := by
      simp only [bitsOf]
      split <;> omega
    rw [pa, e, e2, ih, List.filter_cons]
    split
    · rw [List.length_cons]; omega
    · omega
theorem ones_bits (f : Slot α → Bool) {sl : List (Slot α)} (h : sl.length ≤ 64) : Lib.onesCount (bitsOf f sl) = (sl.filter f).length := pop_bits f 64 sl h
theorem prsOf_no (r : List (Slot α)) : prsOf (.no :: r) = prsOf r := rfl
theorem prsOf_pr (p : Pr) (r : List (Slot α)) : prsOf (.pr p :: r) = p :: prsOf r := rfl
theorem prsOf_kid (k : α) (r : List (Slot α)) : prsOf (.kid k :: r) = prsOf r := rfl
theorem kdsOf_no (r : List (Slot α)) : kdsOf (.no :: r) = kdsOf r := rfl
theorem kdsOf_pr (p : Pr) (r : List (Slot α)) : kdsOf (.pr p :: r) = kdsOf r := rfl
theorem kdsOf_kid (k : α) (r : List (Slot α)) : kdsOf (.kid k :: r) = k :: kdsOf r := rfl
theorem filter_isP : ∀ sl : List (Slot α), (sl.filter isP).length = (prsOf sl).length
  | [] => rfl
  | s :: r => by
    have ih := filter_isP r
    cases s <;> simp only [List.filter_cons, isP_no, isP_pr, isP_kid, prsOf_no, prsOf_pr, prsOf_kid, List.length_cons, if_true, Bool.false_eq_true, if_false, ih]
theorem filter_isK : ∀ sl : List (Slot α), (sl.filter isK).length = (kdsOf sl).length
  | [] => rfl
  | s :: r => by
    have ih := filter_isK r
    cases s <;> simp only [List.filter_cons, isK_no, isK_pr, isK_kid, kdsOf_no, kdsOf_pr, kdsOf_kid, List.length_cons, if_true, Bool.false_eq_true, if_false, ih]
theorem prsOf_append (a b : List (Slot α)) : prsOf (a ++ b) = prsOf a ++ prsOf b := by simp [prsOf]
theorem kdsOf_append (a b : List (Slot α)) : kdsOf (a ++ b) = kdsOf a ++ kdsOf b := by simp [kdsOf]
theorem prsOf_len (sl : List (Slot α)) : (prsOf sl).length ≤ sl.length := List.length_filterMap_le ..
theorem kdsOf_len (sl : List (Slot α)) : (kdsOf sl).length ≤ sl.length := List.length_filterMap_le ..
theorem both_len : ∀ sl : List (Slot α), (prsOf sl).length + (kdsOf sl).length ≤ sl.length
  | [] => by simp [prsOf, kdsOf]
  | s :: r => by
    have ih := both_len r
    cases s <;> simp only [prsOf_no, prsOf_pr, prsOf_kid, kdsOf_no, kdsOf_pr, kdsOf_kid, List.length_cons] <;> omega
/-- A place, cut out. -/
theorem slot_cut {sl : List (Slot α)} {i : Nat} {s : Slot α} (h : sl[i]? = some s) : sl = sl.take i ++ s :: sl.drop (i + 1) := by
  obtain ⟨hl, he⟩ := List.getElem?_eq_some_iff.1 h
  subst he
  simp
theorem slot_set {sl : List (Slot α)} {i : Nat} (h : i < sl.length) (s : Slot α) : sl.set i s = sl.take i ++ s :: sl.drop (i + 1) := by
  rw [List.set_eq_take_append_cons_drop, if_pos h]

/-- How many pairs (kids) lie ahead of a place. -/
def rkP (sl : List (Slot α)) (i : Nat) : Nat := (prsOf (sl.take i)).length
def rkK (sl : List (Slot α)) (i : Nat) : Nat := (kdsOf (sl.take i)).length
theorem rkP_le (sl : List (Slot α)) (i : Nat) : rkP sl i ≤ (prsOf sl).length := by
  unfold rkP
  conv => rhs; rw [← List.take_append_drop i sl, prsOf_append, List.length_append]
  omega
theorem rkK_le (sl : List (Slot α)) (i : Nat) : rkK sl i ≤ (kdsOf sl).length := by
  unfold rkK
  conv => rhs; rw [← List.take_append_drop i sl, kdsOf_append, List.length_append]
  omega
theorem rk_data {sl : List (Slot α)} (h : sl.length ≤ 64) (i : Nat) : Lib.onesCount (dataOf sl % 2 ^ i) = rkP sl i := by
  rw [bitsOf_mod, ones_bits _ (by rw [List.length_take]; omega), filter_isP]; rfl
theorem rk_nodes {sl : List (Slot α)} (h : sl.length ≤ 64) (i : Nat) : Lib.onesCount (nodesOf sl % 2 ^ i) = rkK sl i := by
  rw [bitsOf_mod, ones_bits _ (by rw [List.length_take]; omega), filter_isK]; rfl
theorem prs_at {sl : List (Slot α)} {i : Nat} {p : Pr} (h : sl[i]? = some (.pr p)) : (prsOf sl)[rkP sl i]? = some p := by
  have e := congrArg prsOf (slot_cut h)
  rw [prsOf_append] at e
  rw [e]
  unfold rkP
  rw [List.getElem?_append_right (Nat.le_refl _), Nat.sub_self]
  rfl
theorem kds_at {sl : List (Slot α)} {i : Nat} {k : α} (h : sl[i]? = some (.kid k)) : (kdsOf sl)[rkK sl i]? = some k := by
  have e := congrArg kdsOf (slot_cut h)
  rw [kdsOf_append] at e
  rw [e]
  unfold rkK
  rw [List.getElem?_append_right (Nat.le_refl _), Nat.sub_self]
  rfl
theorem take_set_lt (sl : List (Slot α)) (i : Nat) (s : Slot α) : (sl.set i s).take i = sl.take i := by
  rw [List.take_set, List.set_eq_of_length_le (by simp; omega)]
theorem rkP_set (sl : List (Slot α)) (i : Nat) (s : Slot α) : rkP (sl.set i s) i = rkP sl i := by unfold rkP; rw [take_set_lt]
theorem rkK_set (sl : List (Slot α)) (i : Nat) (s : Slot α) : rkK (sl.set i s) i = rkK sl i := by unfold rkK; rw [take_set_lt]
private theorem cut_take {β : Type} (a b : List β) : (a ++ b).take a.length = a ∧ (a ++ b).drop a.length = b := by simp
theorem prs_cut (sl : List (Slot α)) (i : Nat) : (prsOf sl).take (rkP sl i) = prsOf (sl.take i) ∧ (prsOf sl).drop (rkP sl i) = prsOf (sl.drop i) := by
  have := cut_take (prsOf (sl.take i)) (prsOf (sl.drop i))
  rwa [← prsOf_append, List.take_append_drop] at this
theorem kds_cut (sl : List (Slot α)) (i : Nat) : (kdsOf sl).take (rkK sl i) = kdsOf (sl.take i) ∧ (kdsOf sl).drop (rkK sl i) = kdsOf (sl.drop i) := by
  have := cut_take (kdsOf (sl.take i)) (kdsOf (sl.drop i))
  rwa [← kdsOf_append, List.take_append_drop] at this
theorem drop_cut {sl : List (Slot α)} {i : Nat} {s : Slot α} (h : sl[i]? = some s) : sl.drop i = s :: sl.drop (i + 1) := by
  obtain ⟨hl, he⟩ := List.getElem?_eq_some_iff.1 h
  rw [List.drop_eq_getElem_cons hl, he]
theorem get_lt {sl : List (Slot α)} {i : Nat} {s : Slot α} (h : sl[i]? = some s) : i < sl.length := (List.getElem?_eq_some_iff.1 h).1

/-! ### A place set -/
theorem prs_set_pp {sl : List (Slot α)} {i : Nat} {q : Pr} (h : sl[i]? = some (.pr q)) (p : Pr) : prsOf (sl.set i (.pr p)) = (prsOf sl).set (rkP sl i) p := by
  have hc := prs_cut sl i
  rw [drop_cut h] at hc
  have hd : (prsOf sl).drop (rkP sl i) = q :: prsOf (sl.drop (i + 1)) := hc.2
  have hlt : rkP sl i < (prsOf sl).length := (List.getElem?_eq_some_iff.1 (prs_at h)).1
  have hd1 : (prsOf sl).drop (rkP sl i + 1) = prsOf (sl.drop (i + 1)) := by
    have := congrArg (List.drop 1) hd
    rwa [List.drop_drop] at this
  rw [slot_set (get_lt h), prsOf_append, List.set_eq_take_append_cons_drop, if_pos hlt, hc.1, hd1]
  rfl
theorem kds_set_kk {sl : List (Slot α)} {i : Nat} {q : α} (h : sl[i]? = some (.kid q)) (k : α) : kdsOf (sl.set i (.kid k)) = (kdsOf sl).set (rkK sl i) k := by
  have hc := kds_cut sl i
  rw [drop_cut h] at hc
  have hd : (kdsOf sl).drop (rkK sl i) = q :: kdsOf (sl.drop (i + 1)) := hc.2
  have hlt : rkK sl i < (kdsOf sl).length := (List.getElem?_eq_some_iff.1 (kds_at h)).1
  have hd1 : (kdsOf sl).drop (rkK sl i + 1) = kdsOf (sl.drop (i + 1)) := by
    have := congrArg (List.drop 1) hd
    rwa [List.drop_drop] at this
  rw [slot_set (get_lt h), kdsOf_append, List.set_eq_take_append_cons_drop, if_pos hlt, hc.1, hd1]
  rfl
theorem prs_set_np {sl : List (Slot α)} {i : Nat} (h : sl[i]? = some .no) (p : Pr) : prsOf (sl.set i (.pr p)) = (prsOf sl).take (rkP sl i) ++ p :: (prsOf sl).drop (rkP sl i) := by
  have hc := prs_cut sl i
  rw [slot_set (get_lt h), prsOf_append, hc.1, hc.2, drop_cut h]
  rfl
theorem kds_set_nk {sl : List (Slot α)} {i : Nat} (h : sl[i]? = some .no) (k : α) : kdsOf (sl.set i (.kid k)) = (kdsOf sl).take (rkK sl i) ++ k :: (kdsOf sl).drop (rkK sl i) := by
  have hc := kds_cut sl i
  rw [slot_set (get_lt h), kdsOf_append, hc.1, hc.2, drop_cut h]
  rfl
theorem prs_set_pn {sl : List (Slot α)} {i : Nat} {q : Pr} (h : sl[i]? = some (.pr q)) {s : Slot α} (hs : s.getP = none) : prsOf (sl.set i s) = (prsOf sl).take (rkP sl i) ++ (prsOf sl).drop (rkP sl i + 1) := by
  have hc := prs_cut sl i
  rw [drop_cut h] at hc
  have hd1 : (prsOf sl).drop (rkP sl i + 1) = prsOf (sl.drop (i + 1)) := by
    have := congrArg (List.drop 1) hc.2
    rwa [List.drop_drop] at this
  rw [slot_set (get_lt h), prsOf_append, hc.1, hd1]
  simp [prsOf, hs]
theorem kds_set_kn {sl : List (Slot α)} {i : Nat} {q : α} (h : sl[i]? = some (.kid q)) {s : Slot α} (hs : s.getK = none) : kdsOf (sl.set i s) = (kdsOf sl).take (rkK sl i) ++ (kdsOf sl).drop (rkK sl i + 1) := by
  have hc := kds_cut sl i
  rw [drop_cut h] at hc
  have hd1 : (kdsOf sl).drop (rkK sl i + 1) = kdsOf (sl.drop (i + 1)) := by
    have := congrArg (List.drop 1) hc.2
    rwa [List.drop_drop] at this
  rw [slot_set (get_lt h), kdsOf_append, hc.1, hd1]
  simp [kdsOf, hs]
/-- Neither had, nor has, a pair there. -/
theorem prs_set_nn {sl : List (Slot α)} {i : Nat} {a s : Slot α} (h : sl[i]? = some a) (ha : a.getP = none) (hs : s.getP = none) : prsOf (sl.set i s) = prsOf sl := by
  conv => rhs; rw [slot_cut h]
  rw [slot_set (get_lt h), prsOf_append, prsOf_append]
  simp [prsOf, hs, ha]
theorem kds_set_nn {sl : List (Slot α)} {i : Nat} {a s : Slot α} (h : sl[i]? = some a) (ha : a.getK = none) (hs : s.getK = none) : kdsOf (sl.set i s) = kdsOf sl := by
  conv => rhs; rw [slot_cut h]
  rw [slot_set (get_lt h), kdsOf_append, kdsOf_append]
  simp [kdsOf, hs, ha]
theorem getP_isP {s : Slot α} (h : s.isP = false) : s.getP = none := by cases s <;> simp_all
theorem getK_isK {s : Slot α} (h : s.isK = false) : s.getK = none := by cases s <;> simp_all
theorem bits_set_on (f : Slot α → Bool) {sl : List (Slot α)} {i : Nat} (hi : i < sl.length) {s : Slot α} (hs : f s = true) : bitsOf f (sl.set i s) = bitsOf f sl ||| 2 ^ i := by
  apply Nat.eq_of_testBit_eq
  intro j
  rw [Nat.testBit_or, Nat.testBit_two_pow, bitsOf_bit, bitsOf_bit, List.getElem?_set]
  by_cases e : i = j
  · subst e; simp [hi, hs]
  · simp [e]
theorem bits_set_same (f : Slot α → Bool) {sl : List (Slot α)} {i : Nat} {a s : Slot α} (h : sl[i]? = some a) (hs : f s = f a) : bitsOf f (sl.set i s) = bitsOf f sl := by
  apply Nat.eq_of_testBit_eq
  intro j
  rw [bitsOf_bit, bitsOf_bit, List.getElem?_set]
  by_cases e : i = j
  · subst e; rw [if_pos rfl, if_pos (get_lt h), h]; exact hs
  · simp [e]
theorem bits_off (f : Slot α → Bool) {sl : List (Slot α)} {i : Nat} (hi : i < sl.length) {s : Slot α} (hs : f s = false) (j : Nat) : (bitsOf f (sl.set i s)).testBit j = ((bitsOf f sl).testBit j && decide (j ≠ i)) := by
  rw [bitsOf_bit, bitsOf_bit, List.getElem?_set]
  by_cases e : i = j
  · subst e; simp [hi, hs]
  · have e' : ¬ j = i := fun h => e h.symm
    simp [e, e']
theorem bits_zero (f : Slot α → Bool) (hf : f .no = false) : bitsOf f (sl0 α) = 0 := by
  apply Nat.eq_of_testBit_eq
  intro j
  rw [bitsOf_bit, sl0, List.getElem?_replicate]
  by_cases h : j < 32 <;> simp [h, hf]
theorem sl0_get {i : Nat} (h : i < 32) : (sl0 α)[i]? = some .no := by rw [sl0, List.getElem?_replicate, if_pos h]
theorem prs_sl0 : prsOf (sl0 α) = [] := by simp [prsOf, sl0]
theorem kds_sl0 : kdsOf (sl0 α) = [] := by simp [kdsOf, sl0]
end
end Go.QS
/- The words of the node chapter: a node's block; an inner node, a bucket in memory. -/
namespace Go.QS
open Go.RowKit Go.QS.Nk

/-- A node's block. -/
def NdAt (T : TypeId) (w : World) (g d n : Nat) (pv kv : Value) (bk : Bool) (ow : Option Addr) : Prop :=
  w.heap[g]? = some (.cells #[.int .u32 d, .int .u32 n, pv, kv, .bool bk, .pointer ow] T (0, 0))
section
variable {T PT KT : TypeId} {w w' : World} {g d n base : Nat} {pv kv : Value} {bk : Bool} {ow : Option Addr} {sl : List (Slot Nat)} {l : List Pr}
theorem NdAt.lt (h : NdAt T w g d n pv kv bk ow) : g < w.heap.size := heap_lt h
theorem NdAt.ext (h : NdAt T w g d n pv kv bk ow) (hb : Ext w w') : NdAt T w' g d n pv kv bk ow := (hb.block g h.lt).trans h
theorem NdAt.only {S : Nat → Prop} (h : NdAt T w g d n pv kv bk ow) (hb : Only S w w') (hS : ¬ S g) : NdAt T w' g d n pv kv bk ow := hb.heap h hS
theorem NdAt.cells (h : NdAt T w g d n pv kv bk ow) : w.cell? ⟨g, 0, none⟩ = some (.int .u32 d) ∧ w.cell? ⟨g, 1, none⟩ = some (.int .u32 n) ∧ w.cell? ⟨g, 2, none⟩ = some pv ∧ w.cell? ⟨g, 3, none⟩ = some kv ∧ w.cell? ⟨g, 4, none⟩ = some (.bool bk) ∧ w.cell? ⟨g, 5, none⟩ = some (.pointer ow) := by
  unfold NdAt at h
  simp [World.cell?, h]
theorem NdAt.free (h : NdAt T w g d n pv kv bk ow) (j : Nat) : w.frozen? ⟨g, j, none⟩ = false := by
  unfold NdAt at h
  simp [World.frozen?, h]
theorem NdAt.set0 (h : NdAt T w g d n pv kv bk ow) (d' : Nat) : NdAt T (w.setCell ⟨g, 0, none⟩ (.int .u32 d')) g d' n pv kv bk ow := heap_set h 0 _
theorem NdAt.set1 (h : NdAt T w g d n pv kv bk ow) (n' : Nat) : NdAt T (w.setCell ⟨g, 1, none⟩ (.int .u32 n')) g d n' pv kv bk ow := heap_set h 1 _
theorem NdAt.set2 (h : NdAt T w g d n pv kv bk ow) (v : Value) : NdAt T (w.setCell ⟨g, 2, none⟩ v) g d n v kv bk ow := heap_set h 2 _
theorem NdAt.set3 (h : NdAt T w g d n pv kv bk ow) (v : Value) : NdAt T (w.setCell ⟨g, 3, none⟩ v) g d n pv v bk ow := heap_set h 3 _
theorem NdAt.set5 (h : NdAt T w g d n pv kv bk ow) (o : Option Addr) : NdAt T (w.setCell ⟨g, 5, none⟩ (.pointer o)) g d n pv kv bk o := heap_set h 5 _
theorem NdAt.new (T : TypeId) (w : World) (hg : g = w.heap.size) : NdAt T (w.alloc (.cells #[.int .u32 d, .int .u32 n, pv, kv, .bool bk, .pointer ow] T)) g d n pv kv bk ow := by
  subst hg; simp only [NdAt, World.alloc]; simp

/-- The blocks in which a trie may lie. -/
def S9 [Zero (Nat → Prop)] : Nat → Prop := (0 : Nat → Prop)
/-- A node in memory: its bits, its pairs, its kids. -/
structure Nd [Zero (Nat → Prop)] (T : TypeId) (w : World) (g d n : Nat) (ps : List Pr) (ks : List Nat) (bk : Bool) (ow : Option Addr) (pv kv : Value) : Prop where
  node : NdAt T w g d n pv kv bk ow
  pairs : PS w pv ps
  kids : Sl w 1 kv ks.length (ptrs ks)
  nw : ∀ k, w.heap.size ≤ k → S9 k
  gS : S9 g
  pS : ∀ b, pv.ownBlock = some b → S9 b
  kS : ∀ b, kv.ownBlock = some b → S9 b
  pL : ∀ b, pv.ownBlock = some b → b < w.heap.size
  kL : ∀ b, kv.ownBlock = some b → b < w.heap.size
/-- The same, its rows being its own. -/
structure NdO (T PT KT : TypeId) (base : Nat) (w : World) (g d n : Nat) (ps : List Pr) (ks : List Nat) (bk : Bool) (ow : Option Addr) (pv kv : Value) : Prop where
  node : NdAt T w g d n pv kv bk ow
  pairs : w.ownsRow base PT 2 pv ps.length (flat ps)
  kids : w.ownsRow base KT 1 kv ks.length (ptrs ks)
variable {ps : List Pr} {ks : List Nat} [Zero (Nat → Prop)]
set_option linter.unusedSectionVars false
theorem Nd.ext (h : Nd T w g d n ps ks bk ow pv kv) (f : Ext w w') : Nd T w' g d n ps ks bk ow pv kv := ⟨h.node.ext f, h.pairs.below f, h.kids.below f, fun k hk => h.nw k (Nat.le_trans f.size hk), h.gS, h.pS, h.kS, fun b hb => Nat.lt_of_lt_of_le (h.pL b hb) f.size, fun b hb => Nat.lt_of_lt_of_le (h.kL b hb) f.size⟩
theorem NdO.nd (h : NdO T PT KT base w g d n ps ks bk ow pv kv) (hg : base ≤ g) (hw : base ≤ w.heap.size) (hn : ∀ k, base ≤ k → S9 k) : Nd T w g d n ps ks bk ow pv kv := ⟨h.node, PS.of_own h.pairs, Sl.of_own h.kids, fun k hk => hn k (Nat.le_trans hw hk), hn g hg, fun b hb => hn b (World.ownsRow.lt h.pairs b hb).1, fun b hb => hn b (World.ownsRow.lt h.kids b hb).1, fun b hb => (World.ownsRow.lt h.pairs b hb).2, fun b hb => (World.ownsRow.lt h.kids b hb).2⟩
theorem NdO.ext (h : NdO T PT KT base w g d n ps ks bk ow pv kv) (f : Ext w w') : NdO T PT KT base w' g d n ps ks bk ow pv kv := ⟨h.node.ext f, row_ext h.pairs f, row_ext h.kids f⟩

/-- An inner node of these chunks. -/
def In (T : TypeId) (w : World) (g : Nat) (sl : List (Slot Nat)) : Prop := sl.length = 32 ∧ ∃ ow pv kv, Nd T w g (dataOf sl) (nodesOf sl) (prsOf sl) (kdsOf sl) false ow pv kv
/-- A bucket of these pairs. -/
def Bk (T : TypeId) (w : World) (g : Nat) (l : List Pr) : Prop := ∃ ow pv kv, Nd T w g 0 0 l [] true ow pv kv
theorem In.ext (h : In T w g sl) (f : Ext w w') : In T w' g sl := by
  obtain ⟨h0, ow, pv, kv, h1⟩ := h
  exact ⟨h0, ow, pv, kv, h1.ext f⟩
theorem Bk.ext (h : Bk T w g l) (f : Ext w w') : Bk T w' g l := by
  obtain ⟨ow, pv, kv, h1⟩ := h
  exact ⟨ow, pv, kv, h1.ext f⟩
end
end Go.QS
/- Contracts of chunk.Bits. -/
namespace Go.Proofs.YtclcgelbcbnekaaDoor
open Go.RowKit Go.QS
set_option linter.unusedVariables false

theorem has_law (n i : Nat) (hn : n < 4294967296) : (bits BinOp.and IntKind.u32 ((n : Int) / 2 ^ i) 1 == 1) = n.testBit i := by
  have h1 : (n : Int) / 2 ^ i = ((n / 2 ^ i : Nat) : Int) := by simp
  have h2 : n / 2 ^ i ≤ n := Nat.div_le_self _ _
  have h3 := bits_and_u32_nat (n / 2 ^ i) 1 (by omega) (by decide)
  rw [h1, show (1 : Int) = ((1 : Nat) : Int) from rfl, h3, Nat.and_one_is_mod, Nat.testBit_eq_decide_div_mod_eq]
  rw [Bool.eq_iff_iff]
  simp
  omega
theorem pow_law (i : Nat) (hi : i < 32) : (2 : Int) ^ i % 4294967296 = ((2 ^ i : Nat) : Int) ∧ 2 ^ i < 4294967296 := by
  have h : 2 ^ i < 2 ^ 32 := Nat.pow_lt_pow_right (by decide) hi
  have h' : 2 ^ i < 4294967296 := h
  refine ⟨?_, h'⟩
  have e : (2 : Int) ^ i = ((2 ^ i : Nat) : Int) := by simp
  rw [e]
  generalize 2 ^ i = m at h' ⊢
  omega
/-- The set n without the number i. -/
def clr (n i : Nat) : Nat := (BitVec.ofNat 32 n &&& ~~~BitVec.ofNat 32 (2 ^ i)).toNat
theorem clr_lt (n i : Nat) : clr n i < 4294967296 := BitVec.isLt _
theorem clr_bit (n i j : Nat) (hn : n < 4294967296) : (clr n i).testBit j = (n.testBit j && decide (j ≠ i)) := by
  unfold clr
  rw [BitVec.testBit_toNat]
  simp only [BitVec.getLsbD_and, BitVec.getLsbD_not, BitVec.getLsbD_ofNat, Nat.testBit_two_pow]
  by_cases hj : j < 32
  · by_cases e : i = j
    · simp [hj, e]
    · have e' : ¬ j = i := fun h => e h.symm
      simp [hj, e, e']
  · have : n.testBit j = false := Nat.testBit_lt_two_pow (Nat.lt_of_lt_of_le hn (by
      have : 2 ^ 32 ≤ 2 ^ j := Nat.pow_le_pow_right (by decide) (by omega)
      exact this))
    simp [hj, this]
theorem without_law (n i : Nat) (hi : i < 32) : bits BinOp.andNot IntKind.u32 (n : Int) ((2 : Int) ^ i % 4294967296) = ((clr n i : Nat) : Int) := by
  rw [(pow_law i hi).1]
  show IntKind.u32.wrap ((BitVec.ofInt 32 (n : Int) &&& ~~~BitVec.ofInt 32 ((2 ^ i : Nat) : Int)).toNat : Int) = _
  rw [BitVec.ofInt_natCast, BitVec.ofInt_natCast, IntKind.wrap_u32]
  have := clr_lt n i
  unfold clr at this ⊢
  omega
theorem with_law (n i : Nat) (hn : n < 4294967296) (hi : i < 32) : bits BinOp.or IntKind.u32 (n : Int) ((2 : Int) ^ i % 4294967296) = ((n ||| 2 ^ i : Nat) : Int) := by
  rw [(pow_law i hi).1]
  exact (bits_nat .u32 32 (by decide) (fun m h0 h1 => by rw [IntKind.wrap_u32]; have h1' : m < 4294967296 := h1; omega) n (2 ^ i) hn (pow_law i hi).2).2
theorem right_c (w : World) (i : Nat) (hi : i < 32) : Calls Tryd.prog 74 #[.int .i64 (i : Int)] w fun e w' => e = .returned (.bool true) ∧ w = w' := by
  go_enter Tryd.func74, Tryd.ntmps74
  have h1 : (0 : Int) ≤ (i : Int) := by omega
  have h2 : (i : Int) < 32 := by omega
  have h3 : decide ((0 : Int) ≤ (i : Int)) = true := by simp
  have h4 : decide ((i : Int) < 32) = true := by simp; omega
  repeat' (first | go_skip | go_guarded | go_step)
  go_ret
  exact ⟨rfl, rfl⟩

theorem has_c (w : World) (n i : Nat) (hn : n < 4294967296) (hi : i < 32) : Calls Tryd.prog 41 #[.int .u32 (n : Int), .int .i64 (i : Int)] w fun e w' => e = .returned (.bool (n.testBit i)) ∧ w = w' := by
  go_enter Tryd.func41, Tryd.ntmps41
  repeat' go_step
  refine (right_c _ i hi).mono ?_
  rintro e w1 ⟨rfl, rfl⟩
  go_simp
  repeat' (first | go_skip | go_guarded | go_step)
  go_ret
  exact ⟨by rw [has_law n i hn]; rfl, rfl⟩

theorem with_c (w : World) (n i : Nat) (hn : n < 4294967296) (hi : i < 32) : Calls Tryd.prog 45 #[.int .u32 (n : Int), .int .i64 (i : Int)] w fun e w' => e = .returned (.int .u32 ((n ||| 2 ^ i : Nat) : Int)) ∧ w = w' := by
  go_enter Tryd.func45, Tryd.ntmps45
  repeat' go_step
  refine (right_c _ i hi).mono ?_
  rintro e w1 ⟨rfl, rfl⟩
  go_simp
  repeat' (first | go_skip | go_guarded | go_step)
  go_ret
  exact ⟨by rw [with_law n i hn hi]; rfl, rfl⟩
theorem without_c (w : World) (n i : Nat) (hn : n < 4294967296) (hi : i < 32) : Calls Tryd.prog 78 #[.int .u32 (n : Int), .int .i64 (i : Int)] w fun e w' => e = .returned (.int .u32 ((clr n i : Nat) : Int)) ∧ w = w' := by
  go_enter Tryd.func78, Tryd.ntmps78
  repeat' go_step
  refine (right_c _ i hi).mono ?_
  rintro e w1 ⟨rfl, rfl⟩
  go_simp
  repeat' (first | go_skip | go_guarded | go_step)
  go_ret
  exact ⟨by rw [without_law n i hi]; rfl, rfl⟩
end Go.Proofs.YtclcgelbcbnekaaDoor
