/- Radix trees as plain data, and nodes in memory that are one. No function of the program is named here. -/
import Derived.Test.YtbmakajadelckaaDoorVoc
set_option linter.unusedVariables false
set_option linter.unusedSimpArgs false
namespace Go.QS
open Go.RowKit

inductive RT where
  | node (lab : List UInt8) (val : Option (List UInt8)) (kids : List RT)
namespace RT
def lab : RT → List UInt8 | node l _ _ => l
def val : RT → Option (List UInt8) | node _ v _ => v
def kids : RT → List RT | node _ _ k => k
@[simp] theorem lab_node (l v k) : (node l v k).lab = l := rfl
@[simp] theorem val_node (l v k) : (node l v k).val = v := rfl
@[simp] theorem kids_node (l v k) : (node l v k).kids = k := rfl
/-- A label's first byte. -/
def hd (t : RT) : Nat := (t.lab.headD 0).toNat
end RT
theorem RT.eta (t : RT) : RT.node t.lab t.val t.kids = t := by cases t; rfl

def common : List UInt8 → List UInt8 → Nat
  | a :: x, b :: y => if a = b then common x y + 1 else 0
  | _, _ => 0

/-- The place of the kid that begins with a byte, or where it would be; is it there? -/
def fI (ks : List RT) (c : Nat) : Nat := (ks.takeWhile fun k => decide (k.hd < c)).length
def fH (ks : List RT) (c : Nat) : Bool := ks.any fun k => k.hd == c

/-- A branch, cut. -/
def tsplit (t : RT) (k : Nat) : RT := RT.node (t.lab.take k) none [RT.node (t.lab.drop k) t.val t.kids]

def tput : Nat → RT → List UInt8 → List UInt8 → RT × Bool × Bool
  | _, t, [], v => if t.val = some v then (t, false, false) else (RT.node t.lab (some v) t.kids, t.val.isNone, true)
  | 0, t, _ :: _, _ => (t, false, false)
  | n + 1, t, c :: key, v =>
    if fH t.kids c.toNat then
      match t.kids[fI t.kids c.toNat]? with
      | none => (t, false, false)
      | some kid =>
        let k := common (c :: key) kid.lab
        let r := tput n (if k < kid.lab.length then tsplit kid k else kid) ((c :: key).drop k) v
        if r.2.2 then (RT.node t.lab t.val (t.kids.set (fI t.kids c.toNat) r.1), r.2.1, true) else (t, false, false)
    else (RT.node t.lab t.val (t.kids.take (fI t.kids c.toNat) ++ RT.node (c :: key) (some v) [] :: t.kids.drop (fI t.kids c.toNat)), true, true)

/-! ### Nodes -/
abbrev ptr (g : Nat) : Value := .pointer (some ⟨g, 0, none⟩)
def ptrs (l : List Nat) : List Value := l.map ptr
@[simp] theorem ptrs_length (l : List Nat) : (ptrs l).length = l.length := by simp [ptrs]
@[simp] theorem ptrs_nil : ptrs [] = [] := rfl
theorem ptrs_append (a b : List Nat) : ptrs (a ++ b) = ptrs a ++ ptrs b := by simp [ptrs]
theorem ptrs_one (l : List Nat) : ∀ u ∈ ptrs l, u.oneCell' = true := by
  intro u hu
  obtain ⟨g, _, rfl⟩ := List.mem_map.1 hu
  rfl
theorem ptrs_get {l : List Nat} {i g : Nat} (h : l[i]? = some g) : (ptrs l)[i]? = some (ptr g) := by simp [ptrs, h]

/-- A node's block. -/
def NodeAt (T : TypeId) (w : World) (g : Nat) (lab : List UInt8) (val : Option (List UInt8)) (kv : Value) (ow : Option Addr) : Prop :=
  w.heap[g]? = some (.cells #[str lab, .bool val.isSome, str (val.getD []), kv, .pointer ow] T (0, 0))

section
variable {T : TypeId} {w w' : World} {g : Nat} {lab : List UInt8} {val : Option (List UInt8)} {kv : Value} {ow : Option Addr}
theorem heap_lt {o : Obj} (h : w.heap[g]? = some o) : g < w.heap.size := (Array.getElem?_eq_some_iff.1 h).1
theorem NodeAt.lt (h : NodeAt T w g lab val kv ow) : g < w.heap.size := heap_lt h
theorem NodeAt.ext (h : NodeAt T w g lab val kv ow) (hb : Ext w w') : NodeAt T w' g lab val kv ow := (hb.block g h.lt).trans h
theorem NodeAt.cells (h : NodeAt T w g lab val kv ow) : w.cell? ⟨g, 0, none⟩ = some (str lab) ∧ w.cell? ⟨g, 1, none⟩ = some (.bool val.isSome) ∧ w.cell? ⟨g, 2, none⟩ = some (str (val.getD [])) ∧ w.cell? ⟨g, 3, none⟩ = some kv ∧ w.cell? ⟨g, 4, none⟩ = some (.pointer ow) := by
  unfold NodeAt at h
  simp [World.cell?, h]
theorem NodeAt.free (h : NodeAt T w g lab val kv ow) (j : Nat) : w.frozen? ⟨g, j, none⟩ = false := by
  unfold NodeAt at h
  simp [World.frozen?, h]
theorem heap_set {cs : Array Value} {f : Nat × Nat} (h : w.heap[g]? = some (.cells cs T f)) (i : Nat) (v : Value) : (w.setCell ⟨g, i, none⟩ v).heap[g]? = some (.cells (cs.setIfInBounds i v) T f) := by
  simp [World.setCell, Array.getElem?_modify, h]
theorem NodeAt.set0 (h : NodeAt T w g lab val kv ow) (l : List UInt8) : NodeAt T (w.setCell ⟨g, 0, none⟩ (str l)) g l val kv ow := heap_set h 0 _
theorem NodeAt.set12 (h : NodeAt T w g lab val kv ow) (_ : Bool) (v : List UInt8) : NodeAt T ((w.setCell ⟨g, 1, none⟩ (.bool true)).setCell ⟨g, 2, none⟩ (str v)) g lab (some v) kv ow := heap_set (heap_set h 1 _) 2 _
theorem NodeAt.set12n (h : NodeAt T w g lab val kv ow) : NodeAt T ((w.setCell ⟨g, 1, none⟩ (.bool false)).setCell ⟨g, 2, none⟩ (str [])) g lab none kv ow := heap_set (heap_set h 1 _) 2 _
theorem NodeAt.set3 (h : NodeAt T w g lab val kv ow) (kv' : Value) : NodeAt T (w.setCell ⟨g, 3, none⟩ kv') g lab val kv' ow := heap_set h 3 _
theorem NodeAt.set4 (h : NodeAt T w g lab val kv ow) (ow' : Option Addr) : NodeAt T (w.setCell ⟨g, 4, none⟩ (.pointer ow')) g lab val kv ow' := heap_set h 4 _
theorem NodeAt.new (T : TypeId) (w : World) (hg : g = w.heap.size) : NodeAt T (w.alloc (.cells #[str lab, .bool val.isSome, str (val.getD []), kv, .pointer ow] T)) g lab val kv ow := by
  subst hg; simp only [NodeAt, World.alloc]; simp
end

/-- A node in memory is this tree. -/
inductive Rep (T : TypeId) (w : World) : Nat → RT → Prop
  | mk {g : Nat} {t : RT} {kv : Value} {ow : Option Addr} {ps : List Nat} (h : NodeAt T w g t.lab t.val kv ow) (hs : Sl w 1 kv ps.length (ptrs ps)) (hl : ps.length = t.kids.length)
      (hk : ∀ (j p : Nat) (k : RT), ps[j]? = some p → t.kids[j]? = some k → Rep T w p k) : Rep T w g t

/-- Kids in memory are these trees. -/
def Reps (T : TypeId) (w : World) (ps : List Nat) (ks : List RT) : Prop := ps.length = ks.length ∧ ∀ (j p : Nat) (k : RT), ps[j]? = some p → ks[j]? = some k → Rep T w p k

section
variable {T : TypeId} {w w' : World} {g : Nat} {t : RT} {ps : List Nat} {ks : List RT}
theorem Rep.ext (h : Rep T w g t) (hb : Ext w w') : Rep T w' g t := by
  induction h with
  | mk h hs hl _ ih => exact .mk (h.ext hb) (hs.below hb) hl ih
theorem Rep.open (h : Rep T w g t) : ∃ kv ow ps, NodeAt T w g t.lab t.val kv ow ∧ Sl w 1 kv ps.length (ptrs ps) ∧ Reps T w ps t.kids := by
  cases h with
  | mk h hs hl hk => exact ⟨_, _, _, h, hs, hl, hk⟩
theorem Rep.make {kv : Value} {ow : Option Addr} (h : NodeAt T w g t.lab t.val kv ow) (hs : Sl w 1 kv ps.length (ptrs ps)) (hk : Reps T w ps t.kids) : Rep T w g t := .mk h hs hk.1 hk.2
theorem Rep.lt (h : Rep T w g t) : g < w.heap.size := by
  cases h with
  | mk h => exact h.lt
theorem Reps.ext (h : Reps T w ps ks) (hb : Ext w w') : Reps T w' ps ks := ⟨h.1, fun j p k h1 h2 => (h.2 j p k h1 h2).ext hb⟩
theorem Reps.nil (T : TypeId) (w : World) : Reps T w [] [] := ⟨rfl, fun j p k h => by simp at h⟩
theorem Reps.set (h : Reps T w ps ks) {i p : Nat} {k : RT} (hp : Rep T w p k) : Reps T w (ps.set i p) (ks.set i k) := by
  refine ⟨by simp [h.1], fun j q t h1 h2 => ?_⟩
  rw [List.getElem?_set] at h1 h2
  split at h1
  · split at h2
    · split at h1
      · split at h2
        · cases h1; cases h2; exact hp
        · cases h2
      · cases h1
    · contradiction
  · split at h2
    · contradiction
    · exact h.2 j q t h1 h2
theorem Reps.insert (h : Reps T w ps ks) {i p : Nat} {k : RT} (hi : i ≤ ps.length) (hp : Rep T w p k) : Reps T w (ps.take i ++ p :: ps.drop i) (ks.take i ++ k :: ks.drop i) := by
  have hl := h.1
  refine ⟨by simp [hl], fun j q t h1 h2 => ?_⟩
  rw [List.getElem?_append] at h1 h2
  simp only [List.length_take, Nat.min_eq_left hi, Nat.min_eq_left (hl ▸ hi)] at h1 h2
  split at h1
  · rename_i hj
    rw [if_pos hj] at h2
    rw [List.getElem?_take_of_lt hj] at h1 h2
    exact h.2 j q t h1 h2
  · rename_i hj
    rw [if_neg hj] at h2
    obtain ⟨m, hm⟩ : ∃ m, j - i = m := ⟨_, rfl⟩
    rw [hm] at h1 h2
    cases m with
    | zero => simp at h1 h2; subst h1 h2; exact hp
    | succ m =>
      simp at h1 h2
      exact h.2 _ q t h1 h2
theorem Reps.erase (h : Reps T w ps ks) (i : Nat) : Reps T w (ps.take i ++ ps.drop (i + 1)) (ks.take i ++ ks.drop (i + 1)) := by
  have hl := h.1
  refine ⟨by simp [hl], fun j q t h1 h2 => ?_⟩
  rw [List.getElem?_append] at h1 h2
  simp only [List.length_take, ← hl] at h1 h2
  split at h1
  · rename_i hj
    rw [if_pos hj] at h2
    rw [List.getElem?_take_of_lt (by omega)] at h1 h2
    exact h.2 j q t h1 h2
  · rename_i hj
    rw [if_neg hj] at h2
    simp at h1 h2
    exact h.2 _ q t h1 h2
end
end Go.QS
