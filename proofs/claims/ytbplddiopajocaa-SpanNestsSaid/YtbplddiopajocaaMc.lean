/- Texts joined. -/
import Derived.Test.YtbplddiopajocaaMa
set_option linter.unusedVariables false
set_option linter.unusedSimpArgs false
/- Radix trees as plain data, and nodes in memory that are one. No function of the program is named here. -/
namespace Go.QS
open Go.RowKit

inductive RT where
  | node (lab : List UInt8) (val : Option (List UInt8)) (kids : List RT)
namespace RT
def lab : RT → List UInt8 | node l _ _ => l
def val : RT → Option (List UInt8) | node _ v _ => v
def kids : RT → List RT | node _ _ k => k
@[simp] theorem lab_node (l v k) : (node l v k).lab = l := rfl
@[simp] theorem val_node (l v k) : (node l v k).val = v := rfl
@[simp] theorem kids_node (l v k) : (node l v k).kids = k := rfl
/-- A label's first byte. -/
def hd (t : RT) : Nat := (t.lab.headD 0).toNat
end RT
theorem RT.eta (t : RT) : RT.node t.lab t.val t.kids = t := by cases t; rfl

def common : List UInt8 → List UInt8 → Nat
  | a :: x, b :: y => if a = b then common x y + 1 else 0
  | _, _ => 0

/-- The place of the kid that begins with a byte, or where it would be; is it there? -/
def fI (ks : List RT) (c : Nat) : Nat := (ks.takeWhile fun k => decide (k.hd < c)).length
def fH (ks : List RT) (c : Nat) : Bool := ks.any fun k => k.hd == c

/-- A branch, cut. -/
def tsplit (t : RT) (k : Nat) : RT := RT.node (t.lab.take k) none [RT.node (t.lab.drop k) t.val t.kids]

def tput : Nat → RT → List UInt8 → List UInt8 → RT × Bool × Bool
  | _, t, [], v => if t.val = some v then (t, false, false) else (RT.node t.lab (some v) t.kids, t.val.isNone, true)
  | 0, t, _ :: _, _ => (t, false, false)
  | n + 1, t, c :: key, v =>
    if fH t.kids c.toNat then
      match t.kids[fI t.kids c.toNat]? with
      | none => (t, false, false)
      | some kid =>
        let k := common (c :: key) kid.lab
        let r := tput n (if k < kid.lab.length then tsplit kid k else kid) ((c :: key).drop k) v
        if r.2.2 then (RT.node t.lab t.val (t.kids.set (fI t.kids c.toNat) r.1), r.2.1, true) else (t, false, false)
    else (RT.node t.lab t.val (t.kids.take (fI t.kids c.toNat) ++ RT.node (c :: key) (some v) [] :: t.kids.drop (fI t.kids c.toNat)), true, true)

/-! ### Nodes -/
abbrev ptr (g : Nat) : Value := .pointer (some ⟨g, 0, none⟩)
def ptrs (l : List Nat) : List Value := l.map ptr
@[simp] theorem ptrs_length (l : List Nat) : (ptrs l).length = l.length := by simp [ptrs]
@[simp] theorem ptrs_nil : ptrs [] = [] := rfl
theorem ptrs_append (a b : List Nat) : ptrs (a ++ b) = ptrs a ++ ptrs b := by simp [ptrs]
theorem ptrs_one (l : List Nat) : ∀ u ∈ ptrs l, u.oneCell' = true := by
  intro u hu
  obtain ⟨g, _, rfl⟩ := List.mem_map.1 hu
  rfl
theorem ptrs_get {l : List Nat} {i g : Nat} (h : l[i]? = some g) : (ptrs l)[i]? = some (ptr g) := by simp [ptrs, h]

/-- A node's block. -/
def NodeAt (T : TypeId) (w : World) (g : Nat) (lab : List UInt8) (val : Option (List UInt8)) (kv : Value) (ow : Option Addr) : Prop :=
  w.heap[g]? = some (.cells #[str lab, .bool val.isSome, str (val.getD []), kv, .pointer ow] T (0, 0))

section
variable {T : TypeId} {w w' : World} {g : Nat} {lab : List UInt8} {val : Option (List UInt8)} {kv : Value} {ow : Option Addr}
theorem heap_lt {o : Obj} (h : w.heap[g]? = some o) : g < w.heap.size := (Array.getElem?_eq_some_iff.1 h).1
theorem NodeAt.lt (h : NodeAt T w g lab val kv ow) : g < w.heap.size := heap_lt h
theorem NodeAt.ext (h : NodeAt T w g lab val kv ow) (hb : Ext w w') : NodeAt T w' g lab val kv ow := (hb.block g h.lt).trans h
theorem NodeAt.cells (h : NodeAt T w g lab val kv ow) : w.cell? ⟨g, 0, none⟩ = some (str lab) ∧ w.cell? ⟨g, 1, none⟩ = some (.bool val.isSome) ∧ w.cell? ⟨g, 2, none⟩ = some (str (val.getD [])) ∧ w.cell? ⟨g, 3, none⟩ = some kv ∧ w.cell? ⟨g, 4, none⟩ = some (.pointer ow) := by
  unfold NodeAt at h
  simp [World.cell?, h]
theorem NodeAt.free (h : NodeAt T w g lab val kv ow) (j : Nat) : w.frozen? ⟨g, j, none⟩ = false := by
  unfold NodeAt at h
  simp [World.frozen?, h]
theorem heap_set {cs : Array Value} {f : Nat × Nat} (h : w.heap[g]? = some (.cells cs T f)) (i : Nat) (v : Value) : (w.setCell ⟨g, i, none⟩ v).heap[g]? = some (.cells (cs.setIfInBounds i v) T f) := by
  simp [World.setCell, Array.getElem?_modify, h]
theorem NodeAt.set0 (h : NodeAt T w g lab val kv ow) (l : List UInt8) : NodeAt T (w.setCell ⟨g, 0, none⟩ (str l)) g l val kv ow := heap_set h 0 _
theorem NodeAt.set12 (h : NodeAt T w g lab val kv ow) (_ : Bool) (v : List UInt8) : NodeAt T ((w.setCell ⟨g, 1, none⟩ (.bool true)).setCell ⟨g, 2, none⟩ (str v)) g lab (some v) kv ow := heap_set (heap_set h 1 _) 2 _
theorem NodeAt.set12n (h : NodeAt T w g lab val kv ow) : NodeAt T ((w.setCell ⟨g, 1, none⟩ (.bool false)).setCell ⟨g, 2, none⟩ (str [])) g lab none kv ow := heap_set (heap_set h 1 _) 2 _
theorem NodeAt.set3 (h : NodeAt T w g lab val kv ow) (kv' : Value) : NodeAt T (w.setCell ⟨g, 3, none⟩ kv') g lab val kv' ow := heap_set h 3 _
theorem NodeAt.set4 (h : NodeAt T w g lab val kv ow) (ow' : Option Addr) : NodeAt T (w.setCell ⟨g, 4, none⟩ (.pointer ow')) g lab val kv ow' := heap_set h 4 _
theorem NodeAt.new (T : TypeId) (w : World) (hg : g = w.heap.size) : NodeAt T (w.alloc (.cells #[str lab, .bool val.isSome, str (val.getD []), kv, .pointer ow] T)) g lab val kv ow := by
  subst hg; simp only [NodeAt, World.alloc]; simp
end

/-- A node in memory is this tree. -/
inductive Rep (T : TypeId) (w : World) : Nat → RT → Prop
  | mk {g : Nat} {t : RT} {kv : Value} {ow : Option Addr} {ps : List Nat} (h : NodeAt T w g t.lab t.val kv ow) (hs : Sl w 1 kv ps.length (ptrs ps)) (hl : ps.length = t.kids.length)
      (hk : ∀ (j p : Nat) (k : RT), ps[j]? = some p → t.kids[j]? = some k → Rep T w p k) : Rep T w g t

/-- Kids in memory are these trees. -/
def Reps (T : TypeId) (w : World) (ps : List Nat) (ks : List RT) : Prop := ps.length = ks.length ∧ ∀ (j p : Nat) (k : RT), ps[j]? = some p → ks[j]? = some k → Rep T w p k

section
variable {T : TypeId} {w w' : World} {g : Nat} {t : RT} {ps : List Nat} {ks : List RT}
theorem Rep.ext (h : Rep T w g t) (hb : Ext w w') : Rep T w' g t := by
  induction h with
  | mk h hs hl _ ih => exact .mk (h.ext hb) (hs.below hb) hl ih
theorem Rep.open (h : Rep T w g t) : ∃ kv ow ps, NodeAt T w g t.lab t.val kv ow ∧ Sl w 1 kv ps.length (ptrs ps) ∧ Reps T w ps t.kids := by
  cases h with
  | mk h hs hl hk => exact ⟨_, _, _, h, hs, hl, hk⟩
theorem Rep.make {kv : Value} {ow : Option Addr} (h : NodeAt T w g t.lab t.val kv ow) (hs : Sl w 1 kv ps.length (ptrs ps)) (hk : Reps T w ps t.kids) : Rep T w g t := .mk h hs hk.1 hk.2
theorem Rep.lt (h : Rep T w g t) : g < w.heap.size := by
  cases h with
  | mk h => exact h.lt
theorem Reps.ext (h : Reps T w ps ks) (hb : Ext w w') : Reps T w' ps ks := ⟨h.1, fun j p k h1 h2 => (h.2 j p k h1 h2).ext hb⟩
theorem Reps.nil (T : TypeId) (w : World) : Reps T w [] [] := ⟨rfl, fun j p k h => by simp at h⟩
theorem Reps.set (h : Reps T w ps ks) {i p : Nat} {k : RT} (hp : Rep T w p k) : Reps T w (ps.set i p) (ks.set i k) := by
  refine ⟨by simp [h.1], fun j q t h1 h2 => ?_⟩
  rw [List.getElem?_set] at h1 h2
  split at h1
  · split at h2
    · split at h1
      · split at h2
        · cases h1; cases h2; exact hp
        · cases h2
      · cases h1
    · contradiction
  · split at h2
    · contradiction
    · exact h.2 j q t h1 h2
theorem Reps.insert (h : Reps T w ps ks) {i p : Nat} {k : RT} (hi : i ≤ ps.length) (hp : Rep T w p k) : Reps T w (ps.take i ++ p :: ps.drop i) (ks.take i ++ k :: ks.drop i) := by
  have hl := h.1
  refine ⟨by simp [hl], fun j q t h1 h2 => ?_⟩
  rw [List.getElem?_append] at h1 h2
  simp only [List.length_take, Nat.min_eq_left hi, Nat.min_eq_left (hl ▸ hi)] at h1 h2
  split at h1
  · rename_i hj
    rw [if_pos hj] at h2
    rw [List.getElem?_take_of_lt hj] at h1 h2
    exact h.2 j q t h1 h2
  · rename_i hj
    rw [if_neg hj] at h2
    obtain ⟨m, hm⟩ : ∃ m, j - i = m := ⟨_, rfl⟩
    rw [hm] at h1 h2
    cases m with
    | zero => simp at h1 h2; subst h1 h2; exact hp
    | succ m =>
      simp at h1 h2
      exact h.2 _ q t h1 h2
theorem Reps.erase (h : Reps T w ps ks) (i : Nat) : Reps T w (ps.take i ++ ps.drop (i + 1)) (ks.take i ++ ks.drop (i + 1)) := by
  have hl := h.1
  refine ⟨by simp [hl], fun j q t h1 h2 => ?_⟩
  rw [List.getElem?_append] at h1 h2
  simp only [List.length_take, ← hl] at h1 h2
  split at h1
  · rename_i hj
    rw [if_pos hj] at h2
    rw [List.getElem?_take_of_lt (by omega)] at h1 h2
    exact h.2 j q t h1 h2
  · rename_i hj
    rw [if_neg hj] at h2
    simp at h1 h2
    exact h.2 _ q t h1 h2
end
end Go.QS
/- Plain laws of kids in order: where one is, or would be. No program. -/
namespace Go.QS

/-- Labels' first bytes rise. -/
def Heads (ks : List RT) : Prop := ks.Pairwise fun a b => a.hd < b.hd

theorem fI_cons (x : RT) (l : List RT) (c : Nat) : fI (x :: l) c = if x.hd < c then fI l c + 1 else 0 := by
  unfold fI
  rw [List.takeWhile_cons]
  by_cases h : x.hd < c <;> simp [h]
theorem fI_nil (c : Nat) : fI [] c = 0 := rfl
theorem fI_le (l : List RT) (c : Nat) : fI l c ≤ l.length := (List.takeWhile_sublist _).length_le

theorem fI_first : ∀ {l : List RT} {c i : Nat}, i ≤ l.length → (∀ t q, t < i → l[t]? = some q → q.hd < c) → (∀ q, l[i]? = some q → ¬ q.hd < c) → i = fI l c
  | [], c, i, h, _, _ => by simpa [fI] using h
  | x :: l, c, 0, _, _, h => by
    rw [fI_cons, if_neg (h x rfl)]
  | x :: l, c, i + 1, hi, h1, h2 => by
    rw [fI_cons, if_pos (h1 0 x (Nat.zero_lt_succ _) rfl), ← fI_first (by simpa using hi) (fun t q ht hq => h1 (t + 1) q (Nat.succ_lt_succ ht) hq) (fun q hq => h2 q hq)]

theorem fI_lt {l : List RT} {c t : Nat} {q : RT} (ht : t < fI l c) (hq : l[t]? = some q) : q.hd < c := by
  induction l generalizing t with
  | nil => cases hq
  | cons x l ih =>
    rw [fI_cons] at ht
    split at ht
    · cases t with
      | zero => cases hq; assumption
      | succ t => exact ih (Nat.lt_of_succ_lt_succ ht) hq
    · omega

theorem heads_cons {x : RT} {l : List RT} : Heads (x :: l) ↔ (∀ q ∈ l, x.hd < q.hd) ∧ Heads l := List.pairwise_cons

theorem fI_ge {l : List RT} {c t : Nat} {q : RT} (hs : Heads l) (ht : fI l c ≤ t) (hq : l[t]? = some q) : c ≤ q.hd := by
  induction l generalizing t with
  | nil => cases hq
  | cons x l ih =>
    rw [heads_cons] at hs
    rw [fI_cons] at ht
    split at ht
    · cases t with
      | zero => omega
      | succ t => exact ih hs.2 (by omega) hq
    · rename_i hx
      cases t with
      | zero => cases hq; omega
      | succ t => have := hs.1 q (List.mem_of_getElem? hq); omega

theorem fH_iff {l : List RT} {c : Nat} : fH l c = true ↔ ∃ q ∈ l, q.hd = c := by simp [fH]

theorem fH_at {l : List RT} {c : Nat} (hs : Heads l) : fH l c = (match l[fI l c]? with | some q => q.hd == c | none => false) := by
  cases h : l[fI l c]? with
  | none =>
    rw [Bool.eq_false_iff]
    intro hc
    obtain ⟨q, hq, e⟩ := fH_iff.1 hc
    obtain ⟨t, ht⟩ := List.getElem?_of_mem hq
    have h1 := (List.getElem?_eq_some_iff.1 ht).1
    have h2 := List.getElem?_eq_none_iff.1 h
    have := fI_lt (show t < fI l c by omega) ht
    omega
  | some q =>
    show fH l c = (q.hd == c)
    rw [Bool.eq_iff_iff, fH_iff, beq_iff_eq]
    constructor
    · rintro ⟨p, hp, e⟩
      obtain ⟨t, ht⟩ := List.getElem?_of_mem hp
      rcases Nat.lt_trichotomy t (fI l c) with h1 | h1 | h1
      · have := fI_lt h1 ht; omega
      · subst h1; rw [ht] at h; cases h; exact e
      · have hq := fI_ge hs (Nat.le_refl _) h
        obtain ⟨e1, e2⟩ := List.getElem?_eq_some_iff.1 h
        obtain ⟨e3, e4⟩ := List.getElem?_eq_some_iff.1 ht
        have := List.pairwise_iff_getElem.1 hs _ _ e1 e3 h1
        rw [e2, e4] at this
        omega
    · intro e
      exact ⟨q, List.mem_of_getElem? h, e⟩
end Go.QS
/- Plain laws: kids that are as they must be. No program. -/
namespace Go.QS

/-- Kids as they must be, below a way that has room for so many bytes. -/
inductive Kd : Nat → List RT → Prop
  | nil (N : Nat) : Kd N []
  | cons {N : Nat} {t : RT} {r : List RT} (h1 : t.lab ≠ []) (h2 : t.lab.length ≤ N) (h3 : t.val.isSome = true ∨ 2 ≤ t.kids.length) (h4 : Kd (N - t.lab.length) t.kids) (h5 : ∀ q ∈ r, t.hd < q.hd) (h6 : Kd N r) : Kd N (t :: r)

def Br (N : Nat) (t : RT) : Prop := t.lab ≠ [] ∧ t.lab.length ≤ N ∧ (t.val.isSome = true ∨ 2 ≤ t.kids.length) ∧ Kd (N - t.lab.length) t.kids

theorem kd_iff : ∀ {N : Nat} {ks : List RT}, Kd N ks ↔ Heads ks ∧ ∀ k ∈ ks, Br N k
  | N, [] => ⟨fun _ => ⟨List.Pairwise.nil, fun k h => by cases h⟩, fun _ => .nil N⟩
  | N, t :: r => by
    rw [heads_cons]
    constructor
    · intro h
      cases h with
      | cons h1 h2 h3 h4 h5 h6 =>
        obtain ⟨i1, i2⟩ := kd_iff.1 h6
        refine ⟨⟨h5, i1⟩, fun k hk => ?_⟩
        rcases List.mem_cons.1 hk with rfl | hk
        · exact ⟨h1, h2, h3, h4⟩
        · exact i2 k hk
    · rintro ⟨⟨h5, h6⟩, h⟩
      obtain ⟨h1, h2, h3, h4⟩ := h t (List.mem_cons_self ..)
      exact .cons h1 h2 h3 h4 h5 (kd_iff.2 ⟨h6, fun k hk => h k (List.mem_cons_of_mem _ hk)⟩)

theorem Kd.heads {N : Nat} {ks : List RT} (h : Kd N ks) : Heads ks := (kd_iff.1 h).1
theorem Kd.br {N : Nat} {ks : List RT} (h : Kd N ks) {k : RT} (hk : k ∈ ks) : Br N k := (kd_iff.1 h).2 k hk
theorem Kd.ne {N : Nat} {ks : List RT} (h : Kd N ks) : ∀ k ∈ ks, k.lab ≠ [] := fun _ hk => (h.br hk).1

theorem RT.hd_lt (k : RT) : k.hd < 256 := UInt8.toNat_lt _
theorem heads_len : ∀ (n : Nat) (ks : List RT), Heads ks → (∀ k ∈ ks, n ≤ k.hd) → ks.length + n ≤ 256 ∨ ks = []
  | n, [], _, _ => .inr rfl
  | n, t :: r, h, hn => by
    rw [heads_cons] at h
    have h1 := hn t (List.mem_cons_self ..)
    rcases heads_len (t.hd + 1) r h.2 (fun k hk => h.1 k hk) with h2 | rfl
    · left; simp; omega
    · left; have := RT.hd_lt t; simp; omega
theorem Kd.len {N : Nat} {ks : List RT} (h : Kd N ks) : ks.length ≤ 256 := by
  rcases heads_len 0 ks h.heads (fun k _ => Nat.zero_le _) with h | rfl
  · omega
  · simp

theorem Kd.one {N : Nat} {t : RT} (h : Br N t) : Kd N [t] := .cons h.1 h.2.1 h.2.2.1 h.2.2.2 (fun q hq => by cases hq) (.nil N)

theorem tsplit_kd {N k : Nat} {t : RT} (h : Br N t) (hk : k < t.lab.length) : Kd (N - k) (tsplit t k).kids := by
  obtain ⟨h1, h2, h3, h4⟩ := h
  refine Kd.one ⟨?_, ?_, h3, ?_⟩
  · intro e
    have := congrArg List.length e
    simp at this; omega
  · simp; omega
  · simp only [RT.lab_node, RT.kids_node, List.length_drop]
    rwa [show N - k - (t.lab.length - k) = N - t.lab.length by omega]

theorem hd_eq {t : RT} {c : UInt8} {l : List UInt8} (h : t.lab = c :: l) : t.hd = c.toNat := by simp [RT.hd, h]
theorem hd_lab {t : RT} {c : UInt8} (hne : t.lab ≠ []) (h : t.hd = c.toNat) : ∃ l, t.lab = c :: l := by
  obtain ⟨x, l, hl⟩ := List.exists_cons_of_ne_nil hne
  rw [hd_eq hl] at h
  exact ⟨l, by rw [hl, UInt8.toNat_inj.1 h]⟩
theorem common_pos {c : UInt8} {a b : List UInt8} : common (c :: a) (c :: b) = common a b + 1 := by simp [common]

/-- The kid that a byte leads to. -/
theorem fH_get {ks : List RT} {c : Nat} (hs : Heads ks) (h : fH ks c = true) : ∃ k, ks[fI ks c]? = some k ∧ k.hd = c := by
  rw [fH_at hs] at h
  cases hq : ks[fI ks c]? with
  | none => rw [hq] at h; cases h
  | some q =>
    rw [hq] at h
    exact ⟨q, rfl, by simpa using h⟩
end Go.QS
/- Plain laws: the pairs of a tree; what put does to them. No program. -/
namespace Go.QS

def ownP : Option (List UInt8) → List Pr
  | some v => [([], v)]
  | none => []
def pre (l : List UInt8) (x : List Pr) : List Pr := x.map fun p => (l ++ p.1, p.2)
mutual
/-- The pairs from a node on, behind its label. -/
def RT.prs : RT → List Pr
  | .node _ val kids => ownP val ++ belows kids
def belows : List RT → List Pr
  | [] => []
  | t :: r => pre t.lab t.prs ++ belows r
end
theorem below_eq (t : RT) : t.prs = ownP t.val ++ belows t.kids := by cases t; rfl
theorem belows_nil : belows [] = [] := rfl
theorem belows_cons (t : RT) (r : List RT) : belows (t :: r) = pre t.lab t.prs ++ belows r := rfl
theorem belows_append (a b : List RT) : belows (a ++ b) = belows a ++ belows b := by
  induction a with
  | nil => rfl
  | cons t a ih => simp [belows_cons, ih]
theorem mem_ownP {q : Pr} {val : Option (List UInt8)} : q ∈ ownP val ↔ q.1 = [] ∧ val = some q.2 := by
  obtain ⟨k, v⟩ := q
  cases val with
  | none => simp [ownP]
  | some u => simp [ownP]; exact fun _ => eq_comm
theorem mem_pre {q : Pr} {l : List UInt8} {x : List Pr} : q ∈ pre l x ↔ ∃ p ∈ x, q = (l ++ p.1, p.2) := by
  simp only [pre, List.mem_map]
  constructor
  · rintro ⟨p, h, e⟩; exact ⟨p, h, e.symm⟩
  · rintro ⟨p, h, e⟩; exact ⟨p, h, e.symm⟩
theorem mem_belows {q : Pr} {ks : List RT} : q ∈ belows ks ↔ ∃ k ∈ ks, q ∈ pre k.lab k.prs := by
  induction ks with
  | nil => simp [belows_nil]
  | cons t r ih => simp [belows_cons, ih]
theorem mem_below {q : Pr} {t : RT} : q ∈ t.prs ↔ (q.1 = [] ∧ t.val = some q.2) ∨ q ∈ belows t.kids := by
  rw [below_eq, List.mem_append, mem_ownP]

theorem pre_head {k : RT} {q : Pr} (hne : k.lab ≠ []) (h : q ∈ pre k.lab k.prs) : ∃ c l, q.1 = c :: l ∧ c.toNat = k.hd := by
  obtain ⟨p, _, rfl⟩ := mem_pre.1 h
  obtain ⟨c, l, hl⟩ := List.exists_cons_of_ne_nil hne
  exact ⟨c, l ++ p.1, by simp [hl], (hd_eq hl).symm⟩

theorem Kd.key_ne {N : Nat} {ks : List RT} (h : Kd N ks) {q : Pr} (hq : q ∈ belows ks) : q.1 ≠ [] := by
  obtain ⟨k, hk, hq⟩ := mem_belows.1 hq
  obtain ⟨c, l, e, _⟩ := pre_head (h.ne k hk) hq
  rw [e]; simp

theorem pre_pre (a b : List UInt8) (x : List Pr) : pre a (pre b x) = pre (a ++ b) x := by simp [pre]
theorem tsplit_pre (t : RT) (k : Nat) : pre (tsplit t k).lab (tsplit t k).prs = pre t.lab t.prs := by
  rw [below_eq (tsplit t k)]
  simp only [tsplit, RT.lab_node, RT.val_node, RT.kids_node, ownP, List.nil_append, belows_cons, belows_nil, List.append_nil]
  rw [pre_pre, List.take_append_drop]
  congr 1
  rw [below_eq, below_eq]; rfl

theorem set_cut {α : Type} {l : List α} {i : Nat} {x y : α} (h : l[i]? = some x) : l.set i y = l.take i ++ y :: l.drop (i + 1) ∧ l = l.take i ++ x :: l.drop (i + 1) := by
  obtain ⟨hi, rfl⟩ := List.getElem?_eq_some_iff.1 h
  refine ⟨List.set_eq_take_append_cons_drop .. |>.trans (by rw [if_pos hi]), ?_⟩
  rw [List.getElem_cons_drop, List.take_append_drop]

theorem common_take : ∀ (a b : List UInt8), a.take (common a b) = b.take (common a b)
  | [], b => by simp [common]
  | a :: x, [] => by simp [common]
  | a :: x, b :: y => by
    unfold common
    split
    · rename_i h; subst h; simp [common_take x y]
    · simp
theorem common_next : ∀ (a b : List UInt8) {x y : UInt8} {l m : List UInt8}, a.drop (common a b) = x :: l → b.drop (common a b) = y :: m → x ≠ y
  | [], b, x, y, l, m, h, _ => by simp [common] at h
  | a :: p, [], x, y, l, m, _, h => by simp [common] at h
  | a :: p, b :: q, x, y, l, m, h1, h2 => by
    unfold common at h1 h2
    by_cases e : a = b
    · rw [if_pos e] at h1 h2
      simp only [List.drop_succ_cons] at h1 h2
      exact common_next p q h1 h2
    · rw [if_neg e] at h1 h2
      simp at h1 h2
      rw [← h1.1, ← h2.1]; exact e
theorem common_le' : ∀ (a b : List UInt8), common a b ≤ a.length ∧ common a b ≤ b.length
  | [], b => by simp [common]
  | a :: x, [] => by simp [common]
  | a :: x, b :: y => by
    have := common_le' x y
    unfold common
    split <;> simp <;> omega

structure TOK (N : Nat) (t : RT) (key v : List UInt8) (r : RT × Bool × Bool) : Prop where
  lab : r.1.lab = t.lab
  kd : Kd N r.1.kids
  mem : ∀ q, q ∈ r.1.prs ↔ q = (key, v) ∨ (q ∈ t.prs ∧ q.1 ≠ key)
  add : r.2.1 = true ↔ ∀ u, (key, u) ∉ t.prs
  ch : r.2.2 = true ↔ (key, v) ∉ t.prs
  same : r.2.2 = false → r.1 = t
  val : t.val.isSome = true → r.1.val.isSome = true
  len : t.kids.length ≤ r.1.kids.length

theorem heads_mid {A B : List RT} {x y : RT} (h : Heads (A ++ x :: B)) (e : y.hd = x.hd) : Heads (A ++ y :: B) := by
  unfold Heads at *
  rw [List.pairwise_append, List.pairwise_cons] at *
  obtain ⟨h1, ⟨h2, h3⟩, h4⟩ := h
  refine ⟨h1, ⟨fun q hq => by rw [e]; exact h2 q hq, h3⟩, fun a ha b hb => ?_⟩
  rcases List.mem_cons.1 hb with rfl | hb
  · rw [e]; exact h4 a ha x (List.mem_cons_self ..)
  · exact h4 a ha b (List.mem_cons_of_mem _ hb)

theorem tput_nil_val (n : Nat) (t : RT) (v : List UInt8) : (tput n t [] v).1.val = some v := by
  by_cases h : t.val = some v <;> cases n <;> simp [tput, h]
theorem tput_ins {n : Nat} {t : RT} {c : UInt8} {key v : List UInt8} (hf : fH t.kids c.toNat = false) :
    tput (n + 1) t (c :: key) v = (RT.node t.lab t.val (t.kids.take (fI t.kids c.toNat) ++ RT.node (c :: key) (some v) [] :: t.kids.drop (fI t.kids c.toNat)), true, true) := by
  unfold tput
  rw [if_neg (by rw [hf]; simp)]
theorem tput_go' {n : Nat} {t kid : RT} {c : UInt8} {key v : List UInt8} (hf : fH t.kids c.toNat = true) (hkid : t.kids[fI t.kids c.toNat]? = some kid) {k : Nat} {kid' : RT} (hk : k = common (c :: key) kid.lab) (hkid' : kid' = if k < kid.lab.length then tsplit kid k else kid) {r : RT × Bool × Bool} (hr : r = tput n kid' ((c :: key).drop k) v) :
    tput (n + 1) t (c :: key) v = (if r.2.2 then (RT.node t.lab t.val (t.kids.set (fI t.kids c.toNat) r.1), r.2.1, true) else (t, false, false)) := by
  subst hr hkid' hk
  conv => lhs; unfold tput
  rw [if_pos hf, hkid]

theorem not_head {N : Nat} {ks : List RT} (h : Kd N ks) {c : UInt8} {key : List UInt8} (hf : ∀ k ∈ ks, k.hd ≠ c.toNat) {q : Pr} (hq : q ∈ belows ks) : q.1 ≠ c :: key := by
  obtain ⟨k, hk, hq⟩ := mem_belows.1 hq
  obtain ⟨d, l, e, hd⟩ := pre_head (h.ne k hk) hq
  intro e2
  rw [e] at e2
  cases e2
  exact hf k hk hd.symm

theorem tput_ok : ∀ (n N : Nat) (t : RT) (key v : List UInt8), key.length ≤ n → Kd N t.kids → key.length ≤ N → TOK N t key v (tput n t key v)
  | n, N, t, [], v, _, hk, _ => by
    have hown : ∀ u, ([], u) ∈ t.prs ↔ t.val = some u := by
      intro u
      rw [mem_below]
      constructor
      · rintro (⟨_, h⟩ | h)
        · exact h
        · exact absurd rfl (hk.key_ne h)
      · intro h; exact .inl ⟨rfl, h⟩
    by_cases hv : t.val = some v
    · have e : tput n t [] v = (t, false, false) := by cases n <;> simp [tput, hv]
      rw [e]
      refine ⟨rfl, hk, fun q => ?_, ?_, ?_, fun _ => rfl, fun h => h, Nat.le_refl _⟩
      · constructor
        · intro h
          by_cases e : q.1 = []
          · left
            obtain ⟨a, b⟩ := q
            simp only at e; subst e
            have := (hown b).1 h
            rw [hv] at this
            cases this; rfl
          · exact .inr ⟨h, e⟩
        · rintro (rfl | ⟨h, _⟩)
          · exact (hown v).2 hv
          · exact h
      · constructor
        · intro h; cases h
        · intro h; exact absurd ((hown v).2 hv) (h v)
      · constructor
        · intro h; cases h
        · intro h; exact absurd ((hown v).2 hv) h
    · have e : tput n t [] v = (RT.node t.lab (some v) t.kids, t.val.isNone, true) := by cases n <;> simp [tput, hv]
      rw [e]
      refine ⟨rfl, hk, fun q => ?_, ?_, ?_, (fun h => by cases h), fun _ => rfl, Nat.le_refl _⟩
      · rw [mem_below, mem_below]
        simp only [RT.val_node, RT.kids_node]
        constructor
        · rintro (⟨h1, h2⟩ | h)
          · left
            obtain ⟨a, b⟩ := q
            simp only at h1 h2; cases h2; subst h1; rfl
          · exact .inr ⟨.inr h, hk.key_ne h⟩
        · rintro (rfl | ⟨h1 | h1, h2⟩)
          · exact .inl ⟨rfl, rfl⟩
          · exact absurd h1.1 h2
          · exact .inr h1
      · simp only [hown, Option.isNone_iff_eq_none]
        constructor
        · intro h u e; rw [h] at e; cases e
        · intro h
          cases hh : t.val with
          | none => rfl
          | some u => exact absurd hh (h u)
      · simp only [hown]
        exact ⟨fun _ => hv, fun _ => by simp⟩
  | 0, N, t, c :: key, v, hn, _, _ => by simp at hn
  | n + 1, N, t, c :: key, v, hn, hk, hkl => by
    by_cases hf : fH t.kids c.toNat = true
    · obtain ⟨kid, hkid, hhd⟩ := fH_get hk.heads hf
      have hbr := hk.br (List.mem_of_getElem? hkid)
      obtain ⟨k, hkk⟩ : ∃ k, k = common (c :: key) kid.lab := ⟨_, rfl⟩
      obtain ⟨kid', hkid'⟩ : ∃ kid', kid' = if k < kid.lab.length then tsplit kid k else kid := ⟨_, rfl⟩
      obtain ⟨r, hr⟩ : ∃ r, r = tput n kid' ((c :: key).drop k) v := ⟨_, rfl⟩
      rw [tput_go' hf hkid hkk hkid' hr]
      have hkle := common_le' (c :: key) kid.lab
      rw [← hkk] at hkle
      have hk1 : 1 ≤ k := by
        obtain ⟨l, hl⟩ := hd_lab hbr.1 hhd
        rw [hkk, hl, common_pos]; omega
      have hct := common_take (c :: key) kid.lab
      rw [← hkk] at hct
      have hlab : kid'.lab = (c :: key).take k := by
        rw [hkid', hct]
        split
        · rfl
        · rw [List.take_of_length_le (by omega)]
      have hpre : pre kid'.lab kid'.prs = pre kid.lab kid.prs := by
        rw [hkid']
        split
        · exact tsplit_pre kid k
        · rfl
      have hkd' : Kd (N - k) kid'.kids := by
        rw [hkid']
        split
        · rename_i h; exact tsplit_kd hbr h
        · have : k = kid.lab.length := by omega
          rw [this]; exact hbr.2.2.2
      have hdl := List.length_drop (i := k) (l := c :: key)
      have ih := tput_ok n (N - k) kid' ((c :: key).drop k) v (by omega) hkd' (by omega)
      rw [← hr] at ih
      have hhd' : kid'.hd = kid.hd := by
        obtain ⟨k0, rfl⟩ : ∃ k0, k = k0 + 1 := ⟨k - 1, by omega⟩
        rw [hd_eq (hlab.trans List.take_succ_cons), hhd]
      have hwt : r.2.2 = true → r.1.val.isSome = true ∨ 2 ≤ r.1.kids.length := by
        intro hc
        by_cases hlt : k < kid.lab.length
        · rw [if_pos hlt] at hkid'
          cases hd : (c :: key).drop k with
          | nil => left; rw [hr, hd, tput_nil_val]; rfl
          | cons x l =>
            right
            obtain ⟨y, m, hm⟩ := List.exists_cons_of_ne_nil (show kid.lab.drop k ≠ [] by intro e; have := congrArg List.length e; simp at this; omega)
            have hxy := common_next (c :: key) kid.lab (by rw [← hkk]; exact hd) (by rw [← hkk]; exact hm)
            have hf' : fH kid'.kids x.toNat = false := by
              rw [Bool.eq_false_iff]
              intro h
              obtain ⟨q, hq, e⟩ := fH_iff.1 h
              rw [hkid'] at hq
              simp [tsplit] at hq
              subst hq
              rw [hd_eq (t := RT.node (kid.lab.drop k) kid.val kid.kids) hm] at e
              exact hxy (UInt8.toNat_inj.1 e.symm)
            obtain ⟨n0, rfl⟩ : ∃ n0, n = n0 + 1 := ⟨n - 1, by rw [hd] at hdl; simp at hdl hn; omega⟩
            rw [hr, hd, tput_ins hf']
            simp only [RT.kids_node, List.length_append, List.length_cons, List.length_take, List.length_drop]
            rw [hkid']
            simp [tsplit]
            omega
        · rw [if_neg hlt] at hkid'
          rcases hbr.2.2.1 with h | h
          · left; exact ih.val (by rw [hkid']; exact h)
          · right; have := ih.len; rw [hkid'] at this; omega
      have hkey : ∀ u, (c :: key, u) ∈ t.prs ↔ ((c :: key).drop k, u) ∈ kid'.prs := by
        intro u
        rw [mem_below]
        constructor
        · rintro (⟨h, _⟩ | h)
          · cases h
          · obtain ⟨q, hq, hm⟩ := mem_belows.1 h
            obtain ⟨d, l, e, hd⟩ := pre_head (hk.ne q hq) hm
            cases e
            have hqk : q = kid := by
              obtain ⟨j, hj⟩ := List.getElem?_of_mem hq
              obtain ⟨e1, e2⟩ := List.getElem?_eq_some_iff.1 hj
              obtain ⟨e3, e4⟩ := List.getElem?_eq_some_iff.1 hkid
              rcases Nat.lt_trichotomy j (fI t.kids c.toNat) with h | h | h
              · have := List.pairwise_iff_getElem.1 hk.heads _ _ e1 e3 h
                rw [e2, e4] at this; omega
              · subst h; rw [hkid] at hj; exact (Option.some.inj hj).symm
              · have := List.pairwise_iff_getElem.1 hk.heads _ _ e3 e1 h
                rw [e2, e4] at this; omega
            subst hqk
            rw [← hpre] at hm
            obtain ⟨p, hp, e⟩ := mem_pre.1 hm
            rw [hlab] at e
            simp only [Prod.mk.injEq] at e
            obtain ⟨e1, rfl⟩ := e
            have : (c :: key).drop k = p.1 := by
              have h2 := List.take_append_drop k (c :: key)
              rw [e1] at h2 ⊢
              rw [List.drop_left' (by rw [List.length_take]; have := congrArg List.length e1; simp at this; omega)]
            rw [this]; exact hp
        · intro h
          right
          refine mem_belows.2 ⟨kid, List.mem_of_getElem? hkid, ?_⟩
          rw [← hpre]
          refine mem_pre.2 ⟨_, h, ?_⟩
          rw [hlab, List.take_append_drop]
      cases hc : r.2.2 with
      | false =>
        rw [if_neg (by simp)]
        have hin : (c :: key, v) ∈ t.prs := (hkey v).2 (by
          have := ih.ch
          rw [hc] at this
          exact Classical.not_not.1 fun h => by have := this.2 h; cases this)
        have huniq : ∀ q ∈ t.prs, q.1 = c :: key → q = (c :: key, v) := by
          intro q hq e
          obtain ⟨a, b⟩ := q
          simp only at e; subst e
          have h1 := (hkey b).1 hq
          have h2 := (ih.mem ((c :: key).drop k, b)).1 (by rw [ih.same hc]; exact h1)
          rcases h2 with h2 | ⟨_, h2⟩
          · cases h2; rfl
          · exact absurd rfl h2
        refine ⟨rfl, hk, fun q => ?_, ?_, ?_, fun _ => rfl, fun h => h, Nat.le_refl _⟩
        · constructor
          · intro h
            by_cases e : q.1 = c :: key
            · exact .inl (huniq q h e)
            · exact .inr ⟨h, e⟩
          · rintro (rfl | ⟨h, _⟩)
            · exact hin
            · exact h
        · constructor
          · intro h; cases h
          · intro h; exact absurd hin (h v)
        · constructor
          · intro h; cases h
          · intro h; exact absurd hin h
      | true =>
        rw [if_pos rfl]
        obtain ⟨hs1, hs2⟩ := set_cut (y := r.1) hkid
        obtain ⟨A, hA⟩ : ∃ A, A = t.kids.take (fI t.kids c.toNat) := ⟨_, rfl⟩
        obtain ⟨B, hB⟩ : ∃ B, B = t.kids.drop (fI t.kids c.toNat + 1) := ⟨_, rfl⟩
        rw [← hA, ← hB] at hs1 hs2
        have hrl : r.1.lab = (c :: key).take k := ih.lab.trans hlab
        have hrhd : r.1.hd = kid.hd := by
          unfold RT.hd at *
          rw [hrl, ← hlab]; exact hhd'
        have hother : ∀ q ∈ belows A ++ belows B, q.1 ≠ c :: key := by
          intro q hq e
          have : q ∈ belows (A ++ B) := by rw [belows_append]; exact hq
          obtain ⟨x, hx, hm⟩ := mem_belows.1 this
          have hxt : x ∈ t.kids := by rw [hs2]; rcases List.mem_append.1 hx with h | h <;> simp [h]
          obtain ⟨d, l, e', hd⟩ := pre_head (hk.ne x hxt) hm
          rw [e] at e'; cases e'
          have hh := hk.heads
          rw [hs2] at hh
          unfold Heads at hh
          rw [List.pairwise_append, List.pairwise_cons] at hh
          obtain ⟨_, ⟨h2, _⟩, h4⟩ := hh
          rcases List.mem_append.1 hx with h | h
          · have := h4 x h kid (List.mem_cons_self ..); omega
          · have := h2 x h; omega
        refine ⟨rfl, ?_, fun q => ?_, ?_, ?_, (fun h => by cases h), fun h => h, ?_⟩
        · simp only [RT.kids_node]
          rw [hs1]
          have hh := hk.heads
          rw [hs2] at hh
          refine kd_iff.2 ⟨heads_mid hh hrhd, fun x hx => ?_⟩
          rcases List.mem_append.1 hx with h | h
          · exact hk.br (by rw [hs2]; simp [h])
          · rcases List.mem_cons.1 h with rfl | h
            · refine ⟨?_, ?_, hwt hc, ?_⟩
              · rw [hrl]; intro e; have := congrArg List.length e; simp at this; omega
              · rw [hrl, List.length_take]; omega
              · have : r.1.lab.length = k := by rw [hrl, List.length_take]; omega
                rw [this]; exact ih.kd
            · exact hk.br (by rw [hs2]; simp [h])
        · rw [mem_below, mem_below]
          simp only [RT.val_node, RT.kids_node]
          rw [hs1]
          conv => rhs; rw [hs2]
          simp only [belows_append, belows_cons, List.mem_append]
          have hr1 : q ∈ pre r.1.lab r.1.prs ↔ q = (c :: key, v) ∨ (q ∈ pre kid.lab kid.prs ∧ q.1 ≠ c :: key) := by
            rw [← hpre, mem_pre, mem_pre, hrl, hlab]
            constructor
            · rintro ⟨p, hp, rfl⟩
              rcases (ih.mem p).1 hp with rfl | ⟨h1, h2⟩
              · left; simp only [List.take_append_drop]
              · right
                refine ⟨⟨p, h1, rfl⟩, fun e => h2 ?_⟩
                simp only at e
                have h3 := List.take_append_drop k (c :: key)
                rw [← e] at h3
                have hl : ((c :: key).take k).length = k := by rw [List.length_take]; omega
                have h4 : ((c :: key).take k ++ p.1).drop k = p.1 := List.drop_left' hl
                rw [e] at h4
                exact h4.symm
            · rintro (rfl | ⟨⟨p, hp, rfl⟩, h2⟩)
              · exact ⟨((c :: key).drop k, v), (ih.mem _).2 (.inl rfl), by simp only [List.take_append_drop]⟩
              · refine ⟨p, (ih.mem p).2 (.inr ⟨hp, fun e => h2 ?_⟩), rfl⟩
                simp only [e, List.take_append_drop]
          rw [hr1]
          have ho : ∀ x, x ∈ belows A ∨ x ∈ belows B → x.1 ≠ c :: key := fun x hx => hother x (by rw [List.mem_append]; exact hx)
          constructor
          · rintro (⟨h1, h2⟩ | h | h | h)
            · right; exact ⟨.inl ⟨h1, h2⟩, by rw [h1]; simp⟩
            · right; exact ⟨.inr (.inl h), ho q (.inl h)⟩
            · rcases h with h | ⟨h1, h2⟩
              · exact .inl h
              · exact .inr ⟨.inr (.inr (.inl h1)), h2⟩
            · right; exact ⟨.inr (.inr (.inr h)), ho q (.inr h)⟩
          · rintro (h | ⟨h1 | h1 | h1 | h1, h2⟩)
            · exact .inr (.inr (.inl (.inl h)))
            · exact .inl h1
            · exact .inr (.inl h1)
            · exact .inr (.inr (.inl (.inr ⟨h1, h2⟩)))
            · exact .inr (.inr (.inr h1))
        · simp only
          rw [ih.add]
          exact ⟨fun h u hu => h u ((hkey u).1 hu), fun h u hu => h u ((hkey u).2 hu)⟩
        · simp only
          have := ih.ch
          rw [hc] at this
          exact ⟨fun _ h => (this.1 rfl) ((hkey v).1 h), fun _ => by simp⟩
        · simp
    · have hf' : fH t.kids c.toNat = false := by simpa using hf
      rw [tput_ins hf']
      have hno : ∀ k ∈ t.kids, k.hd ≠ c.toNat := by
        intro k hkm e
        exact hf (fH_iff.2 ⟨k, hkm, e⟩)
      have hnk : ∀ q ∈ t.prs, q.1 ≠ c :: key := by
        intro q hq
        rcases mem_below.1 hq with ⟨h, _⟩ | h
        · rw [h]; simp
        · exact not_head hk hno h
      obtain ⟨i, hi⟩ : ∃ i, i = fI t.kids c.toNat := ⟨_, rfl⟩
      have hle := fI_le t.kids c.toNat
      rw [← hi] at hle ⊢
      have hlf : (RT.node (c :: key) (some v) []).hd = c.toNat := hd_eq rfl
      refine ⟨rfl, ?_, fun q => ?_, ?_, ?_, (fun h => by cases h), fun h => h, ?_⟩
      · simp only [RT.kids_node]
        refine kd_iff.2 ⟨?_, fun x hx => ?_⟩
        · have hh := hk.heads
          rw [← List.take_append_drop i t.kids] at hh
          unfold Heads at hh ⊢
          rw [List.pairwise_append] at hh ⊢
          rw [List.pairwise_cons]
          obtain ⟨h1, h2, h3⟩ := hh
          refine ⟨h1, ⟨fun q hq => ?_, h2⟩, fun a ha b hb => ?_⟩
          · rw [hlf]
            obtain ⟨j, hj⟩ := List.getElem?_of_mem hq
            rw [List.getElem?_drop] at hj
            have := fI_ge hk.heads (show fI t.kids c.toNat ≤ i + j by omega) hj
            have := hno q (List.mem_of_getElem? hj)
            omega
          · rcases List.mem_cons.1 hb with rfl | hb
            · rw [hlf]
              obtain ⟨j, hj⟩ := List.getElem?_of_mem ha
              rw [List.getElem?_take] at hj
              split at hj
              · exact fI_lt (by omega) hj
              · cases hj
            · exact h3 a ha b hb
        · rcases List.mem_append.1 hx with h | h
          · exact hk.br (List.mem_of_mem_take h)
          · rcases List.mem_cons.1 h with rfl | h
            · exact ⟨by simp, by simpa using hkl, .inl (by simp), .nil _⟩
            · exact hk.br (List.mem_of_mem_drop h)
      · have hb : t.prs = ownP t.val ++ (belows (t.kids.take i) ++ belows (t.kids.drop i)) := by rw [← belows_append, List.take_append_drop, below_eq]
        have hq2 : q ∈ t.prs ∧ q.1 ≠ c :: key ↔ q ∈ t.prs := ⟨fun h => h.1, fun h => ⟨h, hnk q h⟩⟩
        rw [hq2, below_eq, hb]
        simp only [RT.val_node, RT.kids_node, belows_append, belows_cons, List.mem_append]
        have : q ∈ pre (RT.node (c :: key) (some v) []).lab (RT.node (c :: key) (some v) []).prs ↔ q = (c :: key, v) := by
          rw [below_eq]; simp [pre, ownP, belows_nil]
        rw [this]
        constructor
        · rintro (h | h | h | h)
          · exact .inr (.inl h)
          · exact .inr (.inr (.inl h))
          · exact .inl h
          · exact .inr (.inr (.inr h))
        · rintro (h | h | h | h)
          · exact .inr (.inr (.inl h))
          · exact .inl h
          · exact .inr (.inl h)
          · exact .inr (.inr (.inr h))
      · simp only [true_iff]
        exact fun u hu => hnk _ hu rfl
      · simp only [true_iff]
        exact fun hu => hnk _ hu rfl
      · simp; omega
end Go.QS
/- Plain laws: the pairs of a tree rise; put in a tree is put in its list. No program. -/
namespace Go.QS

theorem app_lt (l : List UInt8) (a b : List UInt8) : l ++ a < l ++ b ↔ a < b := by
  induction l with
  | nil => rfl
  | cons x l ih => rw [List.cons_append, List.cons_append, List.cons_lt_cons_iff, ih]; simp
theorem rise_pre {l : List UInt8} {x : List Pr} (h : Rise x) : Rise (pre l x) := by
  unfold Rise pre at *
  rw [List.pairwise_map]
  exact h.imp fun h => (app_lt l _ _).2 h
theorem rise_append {a b : List Pr} (ha : Rise a) (hb : Rise b) (h : ∀ p ∈ a, ∀ q ∈ b, p.1 < q.1) : Rise (a ++ b) := by
  unfold Rise at *
  exact List.pairwise_append.2 ⟨ha, hb, h⟩
theorem nil_lt {a : List UInt8} (h : a ≠ []) : [] < a := by
  obtain ⟨x, l, rfl⟩ := List.exists_cons_of_ne_nil h
  exact List.nil_lt_cons _ _
theorem head_lt {x y : UInt8} {a b : List UInt8} (h : x.toNat < y.toNat) : x :: a < y :: b := by
  rw [List.cons_lt_cons_iff]
  exact .inl (UInt8.lt_iff_toNat_lt.2 h)

theorem prs_rise_of {N : Nat} {t : RT} (hk : Kd N t.kids) (h : Rise (belows t.kids)) : Rise t.prs := by
  rw [below_eq]
  refine rise_append ?_ h ?_
  · cases t.val <;> simp [ownP, Rise]
  · intro p hp q hq
    rw [(mem_ownP.1 hp).1]
    exact nil_lt (hk.key_ne hq)

theorem Kd.rise {N : Nat} {ks : List RT} (h : Kd N ks) : Rise (belows ks) := by
  induction h with
  | nil N => exact rise_nil
  | @cons N t r h1 h2 h3 h4 h5 h6 ih4 ih6 =>
    rw [belows_cons]
    refine rise_append (rise_pre (prs_rise_of h4 ih4)) ih6 ?_
    intro p hp q hq
    obtain ⟨c, l, e, hc⟩ := pre_head h1 hp
    obtain ⟨k, hk, hq⟩ := mem_belows.1 hq
    obtain ⟨d, m, e', hd⟩ := pre_head (h6.ne k hk) hq
    rw [e, e']
    exact head_lt (by rw [hc, hd]; exact h5 k hk)

theorem Kd.prs_rise {N : Nat} {t : RT} (h : Kd N t.kids) : Rise t.prs := prs_rise_of h h.rise

theorem tput_prs {n N : Nat} {t : RT} {key v : List UInt8} (hn : key.length ≤ n) (hk : Kd N t.kids) (hkl : key.length ≤ N) : (tput n t key v).1.prs = rput t.prs (key, v) := by
  have h := tput_ok n N t key v hn hk hkl
  refine rise_ext _ _ h.kd.prs_rise (rput_rise hk.prs_rise _) fun p => ?_
  rw [h.mem, mem_rput]
theorem tput_add {n N : Nat} {t : RT} {key v : List UInt8} (hn : key.length ≤ n) (hk : Kd N t.kids) (hkl : key.length ≤ N) : (tput n t key v).2.1 = !hasK t.prs key := by
  have h := tput_ok n N t key v hn hk hkl
  rw [Bool.eq_iff_iff, h.add]
  simp only [Bool.not_eq_true', Bool.eq_false_iff]
  rw [Ne, hasK_iff]
  constructor
  · rintro h ⟨q, hq, e⟩
    exact h q.2 (by rw [← e]; exact hq)
  · intro h u hu
    exact h ⟨_, hu, rfl⟩

/-- A tree of pairs, one by one. -/
def treeOf (l : List Pr) : RT := l.foldl (fun t p => (tput p.1.length t p.1 p.2).1) (RT.node [] none [])
/-- A pair that isn't too long. -/
def cutP (p : Pr) : Pr := (p.1.take 40, p.2.take 40)
theorem treeOf_snoc (l : List Pr) (p : Pr) : treeOf (l ++ [p]) = (tput p.1.length (treeOf l) p.1 p.2).1 := by simp [treeOf]
theorem treeOf_ok (l : List Pr) (h : ∀ p ∈ l, p.1.length ≤ 40) : (treeOf l).lab = [] ∧ Kd 40 (treeOf l).kids ∧ (treeOf l).prs = rsort l := by
  induction l using snoc_ind with
  | h0 => exact ⟨rfl, .nil _, rfl⟩
  | h1 l p ih =>
    obtain ⟨h1, h2, h3⟩ := ih fun q hq => h q (by simp [hq])
    have hp := h p (by simp)
    have ok := tput_ok p.1.length 40 (treeOf l) p.1 p.2 (Nat.le_refl _) h2 hp
    rw [treeOf_snoc, rsort_snoc]
    refine ⟨ok.lab.trans h1, ok.kd, ?_⟩
    rw [tput_prs (Nat.le_refl _) h2 hp, h3]
end Go.QS
/- Plain law: kids that are as they must be are told by their pairs. No program. -/
namespace Go.QS

theorem prs_ne {N : Nat} {t : RT} (h : Br N t) : t.prs ≠ [] := by
  obtain ⟨_, _, h3, h4⟩ := h
  rw [below_eq]
  rcases h3 with h3 | h3
  · cases hv : t.val with
    | none => rw [hv] at h3; cases h3
    | some v => simp [ownP]
  · cases hk : t.kids with
    | nil => rw [hk] at h3; simp at h3
    | cons k r =>
      rw [hk] at h4
      have hb := h4.br (List.mem_cons_self ..)
      have := prs_ne hb
      intro e
      rw [belows_cons] at e
      have e2 := (List.append_eq_nil_iff.1 e).2
      have e3 := (List.append_eq_nil_iff.1 e2).1
      simp only [pre, List.map_eq_nil_iff] at e3
      exact this e3
termination_by SizeOf.sizeOf t
decreasing_by
  obtain ⟨a, b, c⟩ := t
  simp only [RT.kids_node] at hk
  subst hk
  simp
  omega

/-- All that all keys of a branch begin with is what its label begins with. -/
theorem common_lab {N : Nat} {t : RT} (h : Br N t) {l : List UInt8} (hl : ∀ q ∈ pre t.lab t.prs, q.1.take l.length = l) : t.lab.take l.length = l := by
  obtain ⟨h1, h2, h3, h4⟩ := h
  by_cases hv : t.val.isSome = true
  · obtain ⟨v, hv⟩ := Option.isSome_iff_exists.1 hv
    have : (t.lab ++ [], v) ∈ pre t.lab t.prs := mem_pre.2 ⟨([], v), mem_below.2 (.inl ⟨rfl, hv⟩), rfl⟩
    have := hl _ this
    simpa using this
  · have h3' : 2 ≤ t.kids.length := by
      rcases h3 with h | h
      · exact absurd h hv
      · exact h
    obtain ⟨a, ha⟩ := get_of_lt t.kids (show 0 < t.kids.length by omega)
    obtain ⟨b, hb⟩ := get_of_lt t.kids (show 1 < t.kids.length by omega)
    have hab : a.hd < b.hd := by
      obtain ⟨e1, e2⟩ := List.getElem?_eq_some_iff.1 ha
      obtain ⟨e3, e4⟩ := List.getElem?_eq_some_iff.1 hb
      have := List.pairwise_iff_getElem.1 h4.heads _ _ e1 e3 (by decide)
      rwa [e2, e4] at this
    have key : ∀ k ∈ t.kids, ∃ c m v, (t.lab ++ c :: m, v) ∈ pre t.lab t.prs ∧ c.toNat = k.hd := by
      intro k hk
      obtain ⟨q, hq⟩ := List.exists_mem_of_ne_nil _ (prs_ne (h4.br hk))
      have hm : (k.lab ++ q.1, q.2) ∈ pre k.lab k.prs := mem_pre.2 ⟨q, hq, rfl⟩
      obtain ⟨c, m, e, hc⟩ := pre_head (h4.ne k hk) hm
      simp only at e
      exact ⟨c, m, q.2, mem_pre.2 ⟨(k.lab ++ q.1, q.2), mem_below.2 (.inr (mem_belows.2 ⟨k, hk, hm⟩)), by simp only [e]⟩, hc⟩
    obtain ⟨c, m, v, hm1, hc1⟩ := key a (List.mem_of_getElem? ha)
    obtain ⟨d, m', v', hm2, hc2⟩ := key b (List.mem_of_getElem? hb)
    have e1 := hl _ hm1
    have e2 := hl _ hm2
    simp only at e1 e2
    rcases Nat.lt_or_ge t.lab.length l.length with hlt | hge
    · exfalso
      have g1 : (t.lab ++ c :: m)[t.lab.length]? = l[t.lab.length]? := by
        rw [← e1, List.getElem?_take_of_lt hlt]
      have g2 : (t.lab ++ d :: m')[t.lab.length]? = l[t.lab.length]? := by
        rw [← e2, List.getElem?_take_of_lt hlt]
      rw [← g1] at g2
      simp at g2
      rw [g2] at hc2
      omega
    · rw [List.take_append_of_le_length hge] at e1
      exact e1

theorem lab_eq {N N' : Nat} {t t' : RT} (h : Br N t) (h' : Br N' t') (e : pre t.lab t.prs = pre t'.lab t'.prs) : t.lab = t'.lab := by
  have k1 : t.lab.take t'.lab.length = t'.lab := by
    refine common_lab h fun q hq => ?_
    rw [e] at hq
    obtain ⟨p, _, rfl⟩ := mem_pre.1 hq
    exact List.take_left' rfl
  have k2 : t'.lab.take t.lab.length = t.lab := by
    refine common_lab h' fun q hq => ?_
    rw [← e] at hq
    obtain ⟨p, _, rfl⟩ := mem_pre.1 hq
    exact List.take_left' rfl
  have l1 := congrArg List.length k1
  have l2 := congrArg List.length k2
  simp only [List.length_take] at l1 l2
  rw [← k1, List.take_of_length_le (by omega)]

theorem pre_inj {l : List UInt8} {x y : List Pr} (h : pre l x = pre l y) : x = y := by
  unfold pre at h
  refine (List.map_inj_right ?_).1 h
  rintro ⟨a, b⟩ ⟨c, d⟩ e
  simp at e
  exact Prod.ext e.1 e.2

def fstB (q : Pr) : Nat := (q.1.headD 0).toNat
theorem fstB_pre {k : RT} (hne : k.lab ≠ []) {q : Pr} (h : q ∈ pre k.lab k.prs) : fstB q = k.hd := by
  obtain ⟨c, l, e, hc⟩ := pre_head hne h
  simp [fstB, e, hc]
theorem kd_part {N : Nat} {t : RT} {r : List RT} (h : Kd N (t :: r)) : (belows (t :: r)).filter (fun q => fstB q == t.hd) = pre t.lab t.prs ∧ (belows (t :: r)).filter (fun q => fstB q != t.hd) = belows r := by
  cases h with
  | cons h1 h2 h3 h4 h5 h6 =>
    rw [belows_cons, List.filter_append, List.filter_append]
    have a1 : ∀ q ∈ pre t.lab t.prs, fstB q = t.hd := fun q hq => fstB_pre h1 hq
    have a2 : ∀ q ∈ belows r, fstB q ≠ t.hd := by
      intro q hq
      obtain ⟨k, hk, hm⟩ := mem_belows.1 hq
      rw [fstB_pre (h6.ne k hk) hm]
      have := h5 k hk
      omega
    constructor
    · rw [List.filter_eq_self.2 (fun q hq => by simp [a1 q hq]), List.filter_eq_nil_iff.2 (fun q hq => by simp [a2 q hq]), List.append_nil]
    · rw [List.filter_eq_nil_iff.2 (fun q hq => by simp [a1 q hq]), List.filter_eq_self.2 (fun q hq => by simp [a2 q hq]), List.nil_append]

theorem own_split {v v' : Option (List UInt8)} {x x' : List Pr} (hx : ∀ q ∈ x, q.1 ≠ []) (hx' : ∀ q ∈ x', q.1 ≠ []) (e : ownP v ++ x = ownP v' ++ x') : v = v' ∧ x = x' := by
  cases v with
  | none =>
    cases v' with
    | none => exact ⟨rfl, by simpa [ownP] using e⟩
    | some b =>
      simp only [ownP, List.nil_append, List.cons_append] at e
      exact absurd rfl (hx ([], b) (by rw [e]; simp))
  | some a =>
    cases v' with
    | none =>
      simp only [ownP, List.nil_append, List.cons_append] at e
      exact absurd rfl (hx' ([], a) (by rw [← e]; simp))
    | some b =>
      simp only [ownP, List.cons_append, List.nil_append, List.cons.injEq, Prod.mk.injEq, true_and] at e
      exact ⟨by rw [e.1], e.2⟩

theorem kd_uniq : ∀ (ks ks' : List RT) (N N' : Nat), Kd N ks → Kd N' ks' → belows ks = belows ks' → ks = ks'
  | [], [], _, _, _, _, _ => rfl
  | [], t' :: r', _, N', _, h', e => by
    have := prs_ne (h'.br (List.mem_cons_self ..))
    rw [belows_nil, belows_cons] at e
    have := (List.append_eq_nil_iff.1 e.symm).1
    simp only [pre, List.map_eq_nil_iff] at this
    contradiction
  | t :: r, [], N, _, h, _, e => by
    have := prs_ne (h.br (List.mem_cons_self ..))
    rw [belows_nil, belows_cons] at e
    have := (List.append_eq_nil_iff.1 e).1
    simp only [pre, List.map_eq_nil_iff] at this
    contradiction
  | .node lab val kids :: r, t' :: r', N, N', h, h', e => by
    have hb := h.br (List.mem_cons_self ..)
    have hb' := h'.br (List.mem_cons_self ..)
    have hhd : (RT.node lab val kids).hd = t'.hd := by
      obtain ⟨q, hq⟩ := List.exists_cons_of_ne_nil (prs_ne hb)
      obtain ⟨q', hq'⟩ := List.exists_cons_of_ne_nil (prs_ne hb')
      obtain ⟨x, hx⟩ := hq
      obtain ⟨x', hx'⟩ := hq'
      rw [belows_cons, belows_cons, hx, hx'] at e
      simp only [pre, List.map_cons, List.cons_append, List.cons.injEq] at e
      have f1 := fstB_pre (k := RT.node lab val kids) hb.1 (q := ((RT.node lab val kids).lab ++ q.1, q.2)) (by rw [hx]; simp [pre])
      have f2 := fstB_pre (k := t') hb'.1 (q := (t'.lab ++ q'.1, q'.2)) (by rw [hx']; simp [pre])
      rw [← f1, ← f2, e.1]
    obtain ⟨p1, p2⟩ := kd_part h
    obtain ⟨p1', p2'⟩ := kd_part h'
    rw [e, hhd, p1'] at p1
    rw [e, hhd, p2'] at p2
    have hlab := lab_eq hb hb' p1.symm
    rw [hlab] at p1
    have hprs := pre_inj p1
    rw [below_eq, below_eq (RT.node lab val kids)] at hprs
    obtain ⟨hv, hk⟩ := own_split (fun q hq => hb'.2.2.2.key_ne hq) (fun q hq => hb.2.2.2.key_ne hq) hprs
    have hkk := kd_uniq kids t'.kids _ _ hb.2.2.2 hb'.2.2.2 hk.symm
    have hrr := kd_uniq r r' N N' (by cases h with | cons h1 h2 h3 h4 h5 h6 => exact h6) (by cases h' with | cons h1 h2 h3 h4 h5 h6 => exact h6) p2.symm
    rw [hrr]
    congr 1
    rw [← RT.eta t', ← hlab, hv, ← hkk]
    rfl

/-- A root is told by its pairs. -/
theorem root_uniq {N N' : Nat} {t t' : RT} (hl : t.lab = t'.lab) (h : Kd N t.kids) (h' : Kd N' t'.kids) (e : t.prs = t'.prs) : t = t' := by
  rw [below_eq, below_eq t'] at e
  obtain ⟨hv, hk⟩ := own_split (fun q hq => h.key_ne hq) (fun q hq => h'.key_ne hq) e
  rw [← RT.eta t, ← RT.eta t', hl, hv, kd_uniq _ _ _ _ h h' hk]
end Go.QS
/- Plain law: a branch put together of its label, its own pair and its kids (for the document's tree). No program. -/
namespace Go.QS

theorem asm {N : Nat} {l : List Pr} {lab : List UInt8} {val : Option (List UInt8)} {ks : List RT} (hne : l ≠ []) (hr : Rise l) (h1 : lab ≠ []) (hN : lab.length ≤ N)
    (hp : ∀ p ∈ l, p.1.take lab.length = lab) (hv : ∀ v, val = some v ↔ (lab, v) ∈ l) (hk : Kd (N - lab.length) ks)
    (hb : ∀ q, q ∈ belows ks ↔ q.1 ≠ [] ∧ (lab ++ q.1, q.2) ∈ l) (hmax : ∀ c, ∃ p ∈ l, p.1.take (lab.length + 1) ≠ lab ++ [c]) :
    Br N (RT.node lab val ks) ∧ pre lab (RT.node lab val ks).prs = l := by
  have hsplit : ∀ p ∈ l, p.1 = lab ++ p.1.drop lab.length := fun p h => by
    conv => rhs; lhs; rw [← hp p h]
    exact (List.take_append_drop _ _).symm
  constructor
  · refine ⟨h1, hN, ?_, hk⟩
    by_cases hs : val.isSome = true
    · exact .inl hs
    · right
      have hvn : val = none := by
        cases hv' : val with
        | none => rfl
        | some v => rw [hv'] at hs; exact absurd rfl hs
      have hlong : ∀ p ∈ l, p.1.drop lab.length ≠ [] := by
        intro p h e
        have e1 := hsplit p h
        rw [e, List.append_nil] at e1
        have := (hv p.2).2 (by rw [← e1]; exact h)
        rw [hvn] at this; cases this
      have hin : ∀ p ∈ l, (p.1.drop lab.length, p.2) ∈ belows ks := fun p h => (hb _).2 ⟨hlong p h, by rw [← hsplit p h]; exact h⟩
      obtain ⟨p, hpl⟩ := List.exists_mem_of_ne_nil l hne
      show 2 ≤ ks.length
      rcases ks with _ | ⟨k, _ | ⟨k2, r⟩⟩
      · have := hin p hpl
        rw [belows_nil] at this; cases this
      · obtain ⟨c, m, hkl⟩ := List.exists_cons_of_ne_nil (hk.ne k (List.mem_singleton_self k))
        obtain ⟨q, hq, hqn⟩ := hmax c
        exfalso
        apply hqn
        have := hin q hq
        rw [belows_cons, belows_nil, List.append_nil] at this
        obtain ⟨x, _, e⟩ := mem_pre.1 this
        simp only [Prod.mk.injEq] at e
        rw [hsplit q hq, e.1, hkl, List.take_append, List.take_of_length_le (Nat.le_succ _)]
        simp
      · simp
  · refine rise_ext _ _ (rise_pre (prs_rise_of hk hk.rise)) hr fun q => ?_
    rw [mem_pre]
    constructor
    · rintro ⟨p, hpp, rfl⟩
      rcases mem_below.1 hpp with ⟨e1, e2⟩ | h
      · simp only [RT.val_node] at e2
        rw [e1, List.append_nil]
        exact (hv p.2).1 e2
      · exact ((hb p).1 h).2
    · intro h
      refine ⟨(q.1.drop lab.length, q.2), ?_, ?_⟩
      · by_cases e : q.1.drop lab.length = []
        · refine mem_below.2 (.inl ⟨e, (hv q.2).2 ?_⟩)
          have e1 := hsplit q h
          rw [e, List.append_nil] at e1
          rw [← e1]; exact h
        · exact mem_below.2 (.inr ((hb _).2 ⟨e, by rw [← hsplit q h]; exact h⟩))
      · show q = (lab ++ q.1.drop lab.length, q.2)
        rw [← hsplit q h]
end Go.QS
/- Plain laws: what drop does to a tree. No program. -/
namespace Go.QS

/-- What is left of a branch. -/
def tmend (t : RT) : Option RT :=
  if t.val.isSome = true ∨ 2 ≤ t.kids.length then some t
  else match t.kids with
    | [] => none
    | k :: _ => some (RT.node (t.lab ++ k.lab) k.val k.kids)
def tdrop : Nat → RT → List UInt8 → RT × Bool
  | _, t, [] => if t.val.isSome then (RT.node t.lab none t.kids, true) else (t, false)
  | 0, t, _ :: _ => (t, false)
  | n + 1, t, c :: key =>
    if fH t.kids c.toNat then
      match t.kids[fI t.kids c.toNat]? with
      | none => (t, false)
      | some kid =>
        if (c :: key).take kid.lab.length == kid.lab then
          let r := tdrop n kid ((c :: key).drop kid.lab.length)
          if r.2 then (RT.node t.lab t.val (match tmend r.1 with | none => t.kids.take (fI t.kids c.toNat) ++ t.kids.drop (fI t.kids c.toNat + 1) | some k => t.kids.set (fI t.kids c.toNat) k), true) else (t, false)
        else (t, false)
    else (t, false)

structure DOK (N : Nat) (t : RT) (key : List UInt8) (r : RT × Bool) : Prop where
  lab : r.1.lab = t.lab
  kd : Kd N r.1.kids
  mem : ∀ q, q ∈ r.1.prs ↔ (q ∈ t.prs ∧ q.1 ≠ key)
  gone : r.2 = true ↔ ∃ u, (key, u) ∈ t.prs
  same : r.2 = false → r.1 = t

theorem DOK.no {N : Nat} {t : RT} {key : List UInt8} (hk : Kd N t.kids) (h : ∀ q ∈ t.prs, q.1 ≠ key) : DOK N t key (t, false) :=
  ⟨rfl, hk, fun q => ⟨fun hq => ⟨hq, h q hq⟩, fun hq => hq.1⟩, ⟨fun h => by (cases h), fun ⟨u, hu⟩ => absurd rfl (h _ hu)⟩, fun _ => rfl⟩

theorem kid_of {N : Nat} {t kid : RT} {c : UInt8} {i : Nat} (hk : Kd N t.kids) (hkid : t.kids[i]? = some kid) (hhd : kid.hd = c.toNat) {q : Pr} {key : List UInt8} (hq : q ∈ t.prs) (e : q.1 = c :: key) : q ∈ pre kid.lab kid.prs := by
  rcases mem_below.1 hq with ⟨h, _⟩ | h
  · rw [e] at h; cases h
  · obtain ⟨x, hx, hm⟩ := mem_belows.1 h
    obtain ⟨d, l, e', hd⟩ := pre_head (hk.ne x hx) hm
    rw [e] at e'; cases e'
    have hxk : x = kid := by
      obtain ⟨j, hj⟩ := List.getElem?_of_mem hx
      obtain ⟨e1, e2⟩ := List.getElem?_eq_some_iff.1 hj
      obtain ⟨e3, e4⟩ := List.getElem?_eq_some_iff.1 hkid
      rcases Nat.lt_trichotomy j i with h | h | h
      · have := List.pairwise_iff_getElem.1 hk.heads _ _ e1 e3 h
        rw [e2, e4] at this; omega
      · subst h; rw [hkid] at hj; exact (Option.some.inj hj).symm
      · have := List.pairwise_iff_getElem.1 hk.heads _ _ e3 e1 h
        rw [e2, e4] at this; omega
    subst hxk
    exact hm

theorem pre_key {l key : List UInt8} (hb : key.take l.length = l) {x : List Pr} {q : Pr} : q ∈ pre l x ∧ q.1 = key ↔ ∃ p ∈ x, p.1 = key.drop l.length ∧ q = (l ++ p.1, p.2) := by
  constructor
  · rintro ⟨h, e⟩
    obtain ⟨p, hp, rfl⟩ := mem_pre.1 h
    refine ⟨p, hp, ?_, rfl⟩
    rw [← e]
    exact (List.drop_left' rfl).symm
  · rintro ⟨p, hp, e, rfl⟩
    refine ⟨mem_pre.2 ⟨p, hp, rfl⟩, ?_⟩
    show l ++ p.1 = key
    rw [e]
    conv => lhs; lhs; rw [← hb]
    exact List.take_append_drop _ _

theorem tmend_ok {N : Nat} {t : RT} (h1 : t.lab ≠ []) (h2 : t.lab.length ≤ N) (h4 : Kd (N - t.lab.length) t.kids) :
    match tmend t with
    | none => t.prs = []
    | some k => Br N k ∧ k.hd = t.hd ∧ pre k.lab k.prs = pre t.lab t.prs := by
  unfold tmend
  by_cases h : t.val.isSome = true ∨ 2 ≤ t.kids.length
  · rw [if_pos h]
    exact ⟨⟨h1, h2, h, h4⟩, rfl, rfl⟩
  · rw [if_neg h]
    have hv : t.val = none := by
      cases hv : t.val with
      | none => rfl
      | some v => exact absurd (.inl (by rw [hv]; rfl)) h
    cases hk : t.kids with
    | nil =>
      show t.prs = []
      rw [below_eq, hv, hk]; rfl
    | cons k r =>
      have hr : r = [] := by
        cases r with
        | nil => rfl
        | cons a b => exact absurd (.inr (by rw [hk]; simp)) h
      subst hr
      rw [hk] at h4
      have hb := h4.br (List.mem_singleton_self k)
      refine ⟨⟨?_, ?_, hb.2.2.1, ?_⟩, ?_, ?_⟩
      · simp only [RT.lab_node]
        intro e
        exact h1 (List.append_eq_nil_iff.1 e).1
      · simp only [RT.lab_node, List.length_append]; have := hb.2.1; omega
      · simp only [RT.lab_node, RT.kids_node, List.length_append]
        have := hb.2.2.2
        rwa [Nat.sub_sub] at this
      · obtain ⟨x, l, hl⟩ := List.exists_cons_of_ne_nil h1
        simp [RT.hd, hl]
      · have e1 : t.prs = pre k.lab k.prs := by rw [below_eq, hv, hk]; simp [ownP, belows_cons, belows_nil]
        have e2 : (RT.node (t.lab ++ k.lab) k.val k.kids).prs = k.prs := by rw [below_eq, below_eq k]; rfl
        rw [e1, pre_pre, e2]; rfl

theorem tdrop_ok : ∀ (n N : Nat) (t : RT) (key : List UInt8), key.length ≤ n → Kd N t.kids → DOK N t key (tdrop n t key)
  | n, N, t, [], _, hk => by
    have hown : ∀ u, ([], u) ∈ t.prs ↔ t.val = some u := by
      intro u
      rw [mem_below]
      constructor
      · rintro (⟨_, h⟩ | h)
        · exact h
        · exact absurd rfl (hk.key_ne h)
      · intro h; exact .inl ⟨rfl, h⟩
    cases hv : t.val with
    | none =>
      have e : tdrop n t [] = (t, false) := by cases n <;> simp [tdrop, hv]
      rw [e]
      refine DOK.no hk fun q hq e => ?_
      obtain ⟨a, b⟩ := q
      simp only at e; subst e
      have := (hown b).1 hq
      rw [hv] at this; cases this
    | some v =>
      have e : tdrop n t [] = (RT.node t.lab none t.kids, true) := by cases n <;> simp [tdrop, hv]
      rw [e]
      refine ⟨rfl, hk, fun q => ?_, ?_, fun h => by (cases h)⟩
      · rw [mem_below, mem_below]
        simp only [RT.val_node, RT.kids_node]
        constructor
        · rintro (⟨_, h⟩ | h)
          · cases h
          · exact ⟨.inr h, hk.key_ne h⟩
        · rintro ⟨h1 | h1, h2⟩
          · exact absurd h1.1 h2
          · exact .inr h1
      · exact ⟨fun _ => ⟨v, (hown v).2 hv⟩, fun _ => by simp⟩
  | 0, N, t, c :: key, hn, _ => by simp at hn
  | n + 1, N, t, c :: key, hn, hk => by
    by_cases hf : fH t.kids c.toNat = true
    · obtain ⟨kid, hkid, hhd⟩ := fH_get hk.heads hf
      have hbr := hk.br (List.mem_of_getElem? hkid)
      have hkey1 : ∀ q ∈ t.prs, q.1 = c :: key → q ∈ pre kid.lab kid.prs := fun q hq e => kid_of hk hkid hhd hq e
      by_cases hb : (c :: key).take kid.lab.length = kid.lab
      · obtain ⟨r, hr⟩ : ∃ r, r = tdrop n kid ((c :: key).drop kid.lab.length) := ⟨_, rfl⟩
        have e0 : tdrop (n + 1) t (c :: key) = (if r.2 then (RT.node t.lab t.val (match tmend r.1 with | none => t.kids.take (fI t.kids c.toNat) ++ t.kids.drop (fI t.kids c.toNat + 1) | some k => t.kids.set (fI t.kids c.toNat) k), true) else (t, false)) := by
          subst hr
          conv => lhs; unfold tdrop
          rw [if_pos hf, hkid]
          simp only
          rw [if_pos (by rw [beq_iff_eq]; exact hb)]
        rw [e0]
        have hl1 : 1 ≤ kid.lab.length := List.length_pos_iff.2 hbr.1
        have hdl := List.length_drop (i := kid.lab.length) (l := c :: key)
        have ih := tdrop_ok n (N - kid.lab.length) kid ((c :: key).drop kid.lab.length) (by simp at hdl hn ⊢; omega) hbr.2.2.2
        rw [← hr] at ih
        have hkin : ∀ u, (c :: key, u) ∈ t.prs ↔ ((c :: key).drop kid.lab.length, u) ∈ kid.prs := by
          intro u
          constructor
          · intro h
            obtain ⟨p, hp, e1, e2⟩ := (pre_key hb).1 ⟨hkey1 _ h rfl, rfl⟩
            simp only [Prod.mk.injEq] at e2
            obtain ⟨_, rfl⟩ := e2
            rw [← e1]; exact hp
          · intro h
            refine mem_below.2 (.inr (mem_belows.2 ⟨kid, List.mem_of_getElem? hkid, ?_⟩))
            have := ((pre_key hb (x := kid.prs) (q := (c :: key, u))).2 ⟨_, h, rfl, ?_⟩).1
            · exact this
            · simp only [Prod.mk.injEq, and_true]
              conv => rhs; lhs; rw [← hb]
              exact (List.take_append_drop _ _).symm
        cases hc : r.2 with
        | false =>
          rw [if_neg (by simp)]
          refine DOK.no hk fun q hq e => ?_
          have : ∃ u, ((c :: key).drop kid.lab.length, u) ∈ kid.prs := ⟨q.2, (hkin q.2).1 (by rw [← e]; exact hq)⟩
          have := ih.gone.2 this
          rw [hc] at this; cases this
        | true =>
          rw [if_pos rfl]
          obtain ⟨_, hs2⟩ := set_cut (y := kid) hkid
          obtain ⟨A, hA⟩ : ∃ A, A = t.kids.take (fI t.kids c.toNat) := ⟨_, rfl⟩
          obtain ⟨B, hB⟩ : ∃ B, B = t.kids.drop (fI t.kids c.toNat + 1) := ⟨_, rfl⟩
          rw [← hA, ← hB] at hs2
          have hhh := hk.heads
          rw [hs2] at hhh
          have hother : ∀ q, (q ∈ belows A ∨ q ∈ belows B) → q.1 ≠ c :: key := by
            intro q hq e
            have : q ∈ belows (A ++ B) := by rw [belows_append, List.mem_append]; exact hq
            obtain ⟨x, hx, hm⟩ := mem_belows.1 this
            have hxt : x ∈ t.kids := by rw [hs2]; rcases List.mem_append.1 hx with h | h <;> simp [h]
            obtain ⟨d, l, e', hd⟩ := pre_head (hk.ne x hxt) hm
            rw [e] at e'; cases e'
            have hh := hhh
            unfold Heads at hh
            rw [List.pairwise_append, List.pairwise_cons] at hh
            obtain ⟨_, ⟨h2, _⟩, h4⟩ := hh
            rcases List.mem_append.1 hx with h | h
            · have := h4 x h kid (List.mem_cons_self ..); omega
            · have := h2 x h; omega
          have hmid : ∀ q, q ∈ pre kid.lab r.1.prs ↔ q ∈ pre kid.lab kid.prs ∧ q.1 ≠ c :: key := by
            intro q
            rw [mem_pre, mem_pre]
            constructor
            · rintro ⟨p, hp, rfl⟩
              obtain ⟨h1, h2⟩ := (ih.mem p).1 hp
              refine ⟨⟨p, h1, rfl⟩, fun e => h2 ?_⟩
              simp only at e
              rw [← e]
              exact (List.drop_left' rfl).symm
            · rintro ⟨⟨p, hp, rfl⟩, h2⟩
              refine ⟨p, (ih.mem p).2 ⟨hp, fun e => h2 ?_⟩, rfl⟩
              simp only [e]
              conv => lhs; lhs; rw [← hb]
              exact List.take_append_drop _ _
          have hrl := ih.lab
          have hm := tmend_ok (N := N) (t := r.1) (by rw [hrl]; exact hbr.1) (by rw [hrl]; exact hbr.2.1) (by rw [hrl]; exact ih.kd)
          have hgone : (true = true ↔ ∃ u, (c :: key, u) ∈ t.prs) := by
            refine ⟨fun _ => ?_, fun _ => rfl⟩
            obtain ⟨u, hu⟩ := ih.gone.1 hc
            exact ⟨u, (hkin u).2 hu⟩
          have hmt : ∀ q, q ∈ t.prs ↔ (q.1 = [] ∧ t.val = some q.2) ∨ q ∈ belows A ∨ q ∈ pre kid.lab kid.prs ∨ q ∈ belows B := by
            intro q
            rw [mem_below]
            conv => lhs; rw [hs2]
            simp only [belows_append, belows_cons, List.mem_append]
          cases hmd : tmend r.1 with
          | none =>
            rw [hmd] at hm
            simp only at hm
            refine ⟨rfl, ?_, fun q => ?_, hgone, fun h => by (cases h)⟩
            · show Kd N (t.kids.take _ ++ t.kids.drop _)
              rw [← hA, ← hB]
              refine kd_iff.2 ⟨?_, fun x hx => hk.br (by rw [hs2]; rcases List.mem_append.1 hx with h | h <;> simp [h])⟩
              unfold Heads at hhh ⊢
              rw [List.pairwise_append, List.pairwise_cons] at hhh
              rw [List.pairwise_append]
              exact ⟨hhh.1, hhh.2.1.2, fun a ha b hb' => hhh.2.2 a ha b (List.mem_cons_of_mem _ hb')⟩
            · rw [mem_below, hmt]
              show (q.1 = [] ∧ t.val = some q.2) ∨ q ∈ belows (t.kids.take _ ++ t.kids.drop _) ↔ _
              rw [← hA, ← hB, belows_append, List.mem_append]
              have hz := hmid q
              rw [hm] at hz
              simp only [pre, List.map_nil, List.not_mem_nil, false_iff, not_and] at hz
              constructor
              · rintro (⟨h1, h2⟩ | h | h)
                · exact ⟨.inl ⟨h1, h2⟩, by rw [h1]; simp⟩
                · exact ⟨.inr (.inl h), hother q (.inl h)⟩
                · exact ⟨.inr (.inr (.inr h)), hother q (.inr h)⟩
              · rintro ⟨h1 | h1 | h1 | h1, h2⟩
                · exact .inl h1
                · exact .inr (.inl h1)
                · exact absurd h2 (hz h1)
                · exact .inr (.inr h1)
          | some k =>
            rw [hmd] at hm
            obtain ⟨hm1, hm2, hm3⟩ := hm
            obtain ⟨hs1, _⟩ := set_cut (y := k) hkid
            rw [← hA, ← hB] at hs1
            have hkhd : k.hd = kid.hd := by rw [hm2]; unfold RT.hd; rw [hrl]
            refine ⟨rfl, ?_, fun q => ?_, hgone, fun h => by (cases h)⟩
            · show Kd N (t.kids.set _ k)
              rw [hs1]
              refine kd_iff.2 ⟨heads_mid hhh hkhd, fun x hx => ?_⟩
              rcases List.mem_append.1 hx with h | h
              · exact hk.br (by rw [hs2]; simp [h])
              · rcases List.mem_cons.1 h with rfl | h
                · exact hm1
                · exact hk.br (by rw [hs2]; simp [h])
            · rw [mem_below, hmt]
              show (q.1 = [] ∧ t.val = some q.2) ∨ q ∈ belows (t.kids.set _ k) ↔ _
              rw [hs1, belows_append, belows_cons, List.mem_append, List.mem_append, hm3, hrl, hmid]
              constructor
              · rintro (⟨h1, h2⟩ | h | ⟨h1, h2⟩ | h)
                · exact ⟨.inl ⟨h1, h2⟩, by rw [h1]; simp⟩
                · exact ⟨.inr (.inl h), hother q (.inl h)⟩
                · exact ⟨.inr (.inr (.inl h1)), h2⟩
                · exact ⟨.inr (.inr (.inr h)), hother q (.inr h)⟩
              · rintro ⟨h1 | h1 | h1 | h1, h2⟩
                · exact .inl h1
                · exact .inr (.inl h1)
                · exact .inr (.inr (.inl ⟨h1, h2⟩))
                · exact .inr (.inr (.inr h1))
      · have e0 : tdrop (n + 1) t (c :: key) = (t, false) := by
          conv => lhs; unfold tdrop
          rw [if_pos hf, hkid]
          simp only
          rw [if_neg (by rw [beq_iff_eq]; exact hb)]
        rw [e0]
        refine DOK.no hk fun q hq e => hb ?_
        obtain ⟨p, _, rfl⟩ := mem_pre.1 (hkey1 q hq e)
        simp only at e
        rw [← e]
        exact List.take_left' rfl
    · have e0 : tdrop (n + 1) t (c :: key) = (t, false) := by
        conv => lhs; unfold tdrop
        rw [if_neg hf]
      rw [e0]
      refine DOK.no hk fun q hq e => ?_
      rcases mem_below.1 hq with ⟨h, _⟩ | h
      · rw [h] at e; cases e
      · exact not_head hk (fun k hkm e => hf (fH_iff.2 ⟨k, hkm, e⟩)) h e

theorem tdrop_prs {n N : Nat} {t : RT} {key : List UInt8} (hn : key.length ≤ n) (hk : Kd N t.kids) : (tdrop n t key).1.prs = rdrop t.prs key := by
  have h := tdrop_ok n N t key hn hk
  refine rise_ext _ _ h.kd.prs_rise (rdrop_rise hk.prs_rise _) fun p => ?_
  rw [h.mem, mem_rdrop]
end Go.QS
/- Plain laws: what a key leads to, in a tree and in its list. No program. -/
namespace Go.QS

/-- A key's value in a list. -/
def getL (key : List UInt8) (x : List Pr) : Option (List UInt8) := (x.find? fun p => p.1 == key).map fun p => p.2
theorem getL_iff : ∀ {x : List Pr}, Rise x → ∀ {key v : List UInt8}, getL key x = some v ↔ (key, v) ∈ x
  | [], _, key, v => by simp [getL]
  | p :: x, h, key, v => by
    have h' := rise_cons.1 h
    unfold getL
    rw [List.find?_cons]
    by_cases hp : p.1 = key
    · have e : (p.1 == key) = true := by simp [hp]
      rw [e]
      simp only [Option.map_some, Option.some.injEq, List.mem_cons]
      constructor
      · intro hv; left; rw [← hp, ← hv]
      · rintro (hv | hv)
        · rw [← hv]
        · exact absurd hp (k_ne (h'.1 _ hv))
    · have e : (p.1 == key) = false := by simpa using hp
      rw [e]
      show getL key x = some v ↔ _
      rw [getL_iff h'.2, List.mem_cons]
      constructor
      · exact .inr
      · rintro (hv | hv)
        · rw [← hv] at hp; exact absurd rfl hp
        · exact hv
theorem getL_none {x : List Pr} {key : List UInt8} (h : ∀ p ∈ x, p.1 ≠ key) : getL key x = none := by
  unfold getL
  rw [List.find?_eq_none.2 (fun p hp => by simpa using h p hp)]
  rfl
theorem opt_ext {α : Type} {a b : Option α} (h : ∀ v, a = some v ↔ b = some v) : a = b := by
  cases a with
  | none =>
    cases b with
    | none => rfl
    | some v => exact absurd ((h v).2 rfl) (by simp)
  | some v => exact ((h v).1 rfl).symm

theorem tget_nil {N : Nat} {t : RT} (hk : Kd N t.kids) : getL [] t.prs = t.val := by
  refine opt_ext fun v => ?_
  rw [getL_iff hk.prs_rise, mem_below]
  constructor
  · rintro (⟨_, h⟩ | h)
    · exact h
    · exact absurd rfl (hk.key_ne h)
  · intro h; exact .inl ⟨rfl, h⟩
theorem tget_no {N : Nat} {t : RT} {c : UInt8} {key : List UInt8} (hk : Kd N t.kids) (hf : fH t.kids c.toNat = false) : getL (c :: key) t.prs = none := by
  refine getL_none fun p hp => ?_
  rcases mem_below.1 hp with ⟨h, _⟩ | h
  · rw [h]; simp
  · refine not_head hk (c := c) (key := key) (fun k hk2 e => ?_) h
    rw [Bool.eq_false_iff] at hf
    exact hf (fH_iff.2 ⟨k, hk2, e⟩)
theorem tget_go {N i : Nat} {t kid : RT} {c : UInt8} {key : List UInt8} (hk : Kd N t.kids) (hkid : t.kids[i]? = some kid) (hhd : kid.hd = c.toNat) :
    getL (c :: key) t.prs = if (c :: key).take kid.lab.length == kid.lab then getL ((c :: key).drop kid.lab.length) kid.prs else none := by
  have hbr := hk.br (List.mem_of_getElem? hkid)
  by_cases hb : ((c :: key).take kid.lab.length == kid.lab) = true
  · rw [if_pos hb]
    refine opt_ext fun v => ?_
    rw [getL_iff hk.prs_rise, getL_iff hbr.2.2.2.prs_rise]
    have hpk := fun q : Pr => pre_key (x := kid.prs) (l := kid.lab) (key := c :: key) (q := q) (by simpa using hb)
    constructor
    · intro h
      obtain ⟨p, hp, e1, e2⟩ := (hpk (c :: key, v)).1 ⟨kid_of hk hkid hhd h rfl, rfl⟩
      have ev : p.2 = v := (congrArg Prod.snd e2).symm
      rw [← e1, ← ev]
      exact hp
    · intro h
      obtain ⟨hm, _⟩ := (hpk (kid.lab ++ (c :: key).drop kid.lab.length, v)).2 ⟨_, h, rfl, rfl⟩
      have e : kid.lab ++ (c :: key).drop kid.lab.length = c :: key := by
        have := beq_iff_eq.1 hb
        conv => lhs; lhs; rw [← this]
        rw [List.take_append_drop]
      rw [e] at hm
      exact mem_below.2 (.inr (mem_belows.2 ⟨kid, List.mem_of_getElem? hkid, hm⟩))
  · rw [if_neg hb]
    refine getL_none fun p hp e => hb ?_
    have hm := kid_of hk hkid hhd hp e
    obtain ⟨q, _, rfl⟩ := mem_pre.1 hm
    simp only at e
    rw [← e, beq_iff_eq]
    exact List.take_left
end Go.QS
/- Plain: how a tree looks, byte by byte; is it as it must be? No program. -/
namespace Go.QS

/-- A number in two bytes, the lowest first. -/
def twoB (n : Nat) : List UInt8 := [UInt8.ofNat n, UInt8.ofNat (n / 256)]
def textB (s : List UInt8) : List UInt8 := twoB s.length ++ s
def valB : Option (List UInt8) → List UInt8
  | some v => 1 :: textB v
  | none => [0]
def vlen : Option (List UInt8) → Nat
  | some v => 2 + v.length
  | none => 0
/-- What stands ahead of a node's kids. -/
def headB (lab : List UInt8) (val : Option (List UInt8)) (k : Nat) : List UInt8 := textB lab ++ valB val ++ twoB k
mutual
def RT.shp : RT → List UInt8
  | .node lab val kids => headB lab val kids.length ++ shps kids
def shps : List RT → List UInt8
  | [] => []
  | t :: r => t.shp ++ shps r
end
theorem shp_eq (t : RT) : t.shp = headB t.lab t.val t.kids.length ++ shps t.kids := by cases t; rfl
theorem shps_nil : shps [] = [] := rfl
theorem shps_cons (t : RT) (r : List RT) : shps (t :: r) = t.shp ++ shps r := rfl
theorem shps_append (a b : List RT) : shps (a ++ b) = shps a ++ shps b := by
  induction a with
  | nil => rfl
  | cons t a ih => simp [shps_cons, ih]
theorem shps_snoc {ks : List RT} {j : Nat} {k : RT} (h : ks[j]? = some k) : shps (ks.take (j + 1)) = shps (ks.take j) ++ k.shp := by
  rw [take_snoc h, shps_append, shps_cons, shps_nil, List.append_nil]
theorem shps_le (ks : List RT) (j : Nat) : (shps (ks.take j)).length ≤ (shps ks).length := by
  conv => rhs; rw [← List.take_append_drop j ks]
  rw [shps_append, List.length_append]
  omega
theorem textB_len (s : List UInt8) : (textB s).length = 2 + s.length := by simp [textB, twoB]; omega
theorem headB_len (lab : List UInt8) (val : Option (List UInt8)) (k : Nat) : (headB lab val k).length = 5 + lab.length + vlen val := by
  unfold headB
  cases val <;> simp [textB_len, twoB, valB, vlen] <;> omega

theorem shps_ge (ks : List RT) : 5 * ks.length ≤ (shps ks).length := by
  induction ks with
  | nil => simp
  | cons t r ih =>
    rw [shps_cons, List.length_append, shp_eq, List.length_append, headB_len, List.length_cons]
    omega
theorem u8_mod {a b : Nat} (h : UInt8.ofNat a = UInt8.ofNat b) : a % 256 = b % 256 := by
  have := congrArg UInt8.toNat h
  simpa using this
theorem twoB_inj {a b : Nat} (ha : a < 65536) (hb : b < 65536) (h : twoB a = twoB b) : a = b := by
  simp only [twoB, List.cons.injEq, and_true] at h
  have h1 := u8_mod h.1
  have h2 := u8_mod h.2
  omega
theorem text_cut {a b x y : List UInt8} (ha : a.length < 65536) (hb : b.length < 65536) (h : textB a ++ x = textB b ++ y) : a = b ∧ x = y := by
  unfold textB at h
  rw [List.append_assoc, List.append_assoc] at h
  obtain ⟨h1, h2⟩ := List.append_inj h (by simp [twoB])
  have hl := twoB_inj ha hb h1
  exact List.append_inj h2 hl

/-- Trees whose texts are not too long, nor have too many kids. -/
inductive Sml : RT → Prop
  | mk {t : RT} (h1 : t.lab.length < 65536) (h2 : ∀ v, t.val = some v → v.length < 65536) (h3 : t.kids.length < 65536) (h4 : ∀ k ∈ t.kids, Sml k) : Sml t

/-- No node has too many kids. -/
inductive Wide : RT → Prop
  | mk {t : RT} (h1 : t.kids.length ≤ 1000000) (h2 : ∀ k ∈ t.kids, Wide k) : Wide t
theorem Wide.open {t : RT} (h : Wide t) : t.kids.length ≤ 1000000 ∧ ∀ k ∈ t.kids, Wide k := by
  cases h with
  | mk h1 h2 => exact ⟨h1, h2⟩
theorem Sml.wide {t : RT} (h : Sml t) : Wide t := by
  induction h with
  | mk h1 h2 h3 h4 ih => exact .mk (by omega) ih

theorem head_cut {lab lab' : List UInt8} {val val' : Option (List UInt8)} {k k' : Nat} {x y : List UInt8} (h1 : lab.length < 65536) (h1' : lab'.length < 65536) (h2 : ∀ v, val = some v → v.length < 65536) (h2' : ∀ v, val' = some v → v.length < 65536) (h3 : k < 65536) (h3' : k' < 65536)
    (h : headB lab val k ++ x = headB lab' val' k' ++ y) : lab = lab' ∧ val = val' ∧ k = k' ∧ x = y := by
  unfold headB at h
  rw [List.append_assoc, List.append_assoc, List.append_assoc, List.append_assoc] at h
  obtain ⟨e1, h⟩ := text_cut h1 h1' h
  have two : ∀ {p q : List UInt8}, twoB k ++ p = twoB k' ++ q → k = k' ∧ p = q := by
    intro p q h
    obtain ⟨a, b⟩ := List.append_inj h (by simp [twoB])
    exact ⟨twoB_inj h3 h3' a, b⟩
  cases val with
  | none =>
    cases val' with
    | none =>
      simp only [valB, List.cons_append, List.nil_append, List.cons.injEq, true_and] at h
      exact ⟨e1, rfl, two h⟩
    | some v' => simp [valB] at h
  | some v =>
    cases val' with
    | none => simp [valB] at h
    | some v' =>
      simp only [valB, List.cons_append, List.cons.injEq, true_and] at h
      obtain ⟨e2, h⟩ := text_cut (h2 v rfl) (h2' v' rfl) h
      exact ⟨e1, by rw [e2], two h⟩

mutual
theorem shp_cut : ∀ (t t' : RT) (x y : List UInt8), Sml t → Sml t' → t.shp ++ x = t'.shp ++ y → t = t' ∧ x = y
  | .node lab val kids, t', x, y, h, h', e => by
    obtain ⟨a1, a2, a3, a4⟩ := h
    obtain ⟨b1, b2, b3, b4⟩ := h'
    rw [shp_eq, shp_eq t', List.append_assoc, List.append_assoc] at e
    obtain ⟨e1, e2, e3, e4⟩ := head_cut a1 b1 a2 b2 a3 b3 e
    obtain ⟨e5, e6⟩ := shps_cut kids t'.kids x y a4 b4 e3 e4
    refine ⟨?_, e6⟩
    rw [← RT.eta t', ← e1, ← e2, ← e5]
    rfl
theorem shps_cut : ∀ (ks ks' : List RT) (x y : List UInt8), (∀ k ∈ ks, Sml k) → (∀ k ∈ ks', Sml k) → ks.length = ks'.length → shps ks ++ x = shps ks' ++ y → ks = ks' ∧ x = y
  | [], ks', x, y, _, _, hl, e => by
    obtain rfl : ks' = [] := List.eq_nil_of_length_eq_zero hl.symm
    exact ⟨rfl, e⟩
  | t :: r, [], x, y, _, _, hl, _ => by simp at hl
  | t :: r, t' :: r', x, y, h, h', hl, e => by
    rw [shps_cons, shps_cons, List.append_assoc, List.append_assoc] at e
    obtain ⟨e1, e2⟩ := shp_cut t t' _ _ (h t (List.mem_cons_self ..)) (h' t' (List.mem_cons_self ..)) e
    obtain ⟨e3, e4⟩ := shps_cut r r' x y (fun k hk => h k (List.mem_cons_of_mem _ hk)) (fun k hk => h' k (List.mem_cons_of_mem _ hk)) (by simpa using hl) e2
    exact ⟨by rw [e1, e3], e4⟩
end
theorem shp_inj {t t' : RT} (h : Sml t) (h' : Sml t') : t.shp = t'.shp ↔ t = t' := by
  constructor
  · intro e
    exact (shp_cut t t' [] [] h h' (by simpa using e)).1
  · rintro rfl; rfl

/-! ### As it must be -/
def headsB : List RT → Bool
  | [] => true
  | [_] => true
  | a :: b :: r => decide (a.hd < b.hd) && headsB (b :: r)
/-- Labels that are there, of first bytes that rise. -/
def risesB (ks : List RT) : Bool := (ks.all fun k => !k.lab.isEmpty) && headsB ks
mutual
def RT.brB : RT → Bool
  | .node _ val kids => risesB kids && (val.isSome || decide (2 ≤ kids.length)) && brsB kids
def brsB : List RT → Bool
  | [] => true
  | t :: r => t.brB && brsB r
end
def RT.canB (t : RT) : Bool := t.lab.isEmpty && risesB t.kids && brsB t.kids
theorem brB_eq (t : RT) : t.brB = (risesB t.kids && (t.val.isSome || decide (2 ≤ t.kids.length)) && brsB t.kids) := by cases t; rfl
theorem brsB_iff (ks : List RT) : brsB ks = true ↔ ∀ k ∈ ks, k.brB = true := by
  induction ks with
  | nil => simp [brsB]
  | cons t r ih => simp [brsB, ih]
theorem headsB_iff : ∀ (ks : List RT), headsB ks = true ↔ Heads ks
  | [] => by simp [headsB, Heads]
  | [a] => by simp [headsB, Heads]
  | a :: b :: r => by
    rw [headsB, Bool.and_eq_true, decide_eq_true_eq, headsB_iff (b :: r), heads_cons (x := a)]
    constructor
    · rintro ⟨h1, h2⟩
      refine ⟨fun q hq => ?_, h2⟩
      rcases List.mem_cons.1 hq with rfl | hq
      · exact h1
      · exact Nat.lt_trans h1 ((heads_cons.1 h2).1 q hq)
    · rintro ⟨h1, h2⟩
      exact ⟨h1 b (List.mem_cons_self ..), h2⟩
theorem risesB_iff (ks : List RT) : risesB ks = true ↔ (∀ k ∈ ks, k.lab ≠ []) ∧ Heads ks := by
  rw [risesB, Bool.and_eq_true, headsB_iff, List.all_eq_true]
  simp

/-- No key is longer than so. -/
inductive Dp : Nat → List RT → Prop
  | mk {N : Nat} {ks : List RT} (h : ∀ k ∈ ks, k.lab.length ≤ N) (h' : ∀ k ∈ ks, Dp (N - k.lab.length) k.kids) : Dp N ks
theorem kd_of : ∀ (N : Nat) (ks : List RT), Dp N ks → risesB ks = true → brsB ks = true → Kd N ks := by
  intro N ks h
  induction h with
  | @mk N ks h h' ih =>
    intro h1 h2
    obtain ⟨r1, r2⟩ := (risesB_iff ks).1 h1
    refine kd_iff.2 ⟨r2, fun k hk => ?_⟩
    have hb := (brsB_iff ks).1 h2 k hk
    rw [brB_eq, Bool.and_eq_true, Bool.and_eq_true, Bool.or_eq_true, decide_eq_true_eq] at hb
    exact ⟨r1 k hk, h k hk, hb.1.2, ih k hk hb.1.1 hb.2⟩
theorem Kd.dp {N : Nat} {ks : List RT} (h : Kd N ks) : Dp N ks := by
  induction h with
  | nil N => exact .mk (fun k hk => by cases hk) (fun k hk => by cases hk)
  | @cons N t r h1 h2 h3 h4 h5 h6 ih4 ih6 =>
    cases ih6 with
    | mk a b =>
      refine .mk (fun k hk => ?_) (fun k hk => ?_)
      · rcases List.mem_cons.1 hk with rfl | hk
        · exact h2
        · exact a k hk
      · rcases List.mem_cons.1 hk with rfl | hk
        · exact ih4
        · exact b k hk
theorem Kd.risesB {N : Nat} {ks : List RT} (h : Kd N ks) : risesB ks = true := (risesB_iff ks).2 ⟨fun k hk => h.ne k hk, h.heads⟩
theorem Kd.brsB {N : Nat} {ks : List RT} (h : Kd N ks) : brsB ks = true := by
  induction h with
  | nil N => rfl
  | @cons N t r h1 h2 h3 h4 h5 h6 ih4 ih6 =>
    rw [QS.brsB, brB_eq, ih4, ih6, h4.risesB, Bool.true_and, Bool.and_true, Bool.and_true, Bool.or_eq_true, decide_eq_true_eq]
    exact h3
theorem Kd.canB {N : Nat} {t : RT} (hl : t.lab = []) (h : Kd N t.kids) : t.canB = true := by
  unfold RT.canB
  rw [h.risesB, h.brsB, hl]; rfl

/-! ### How long -/
def cntsT (ks : List RT) : Nat := (belows ks).length
theorem prs_pos {N : Nat} {t : RT} (h : Br N t) : 1 ≤ t.prs.length := List.length_pos_iff.2 (prs_ne h)
/-- A tree of keys and values of at most 40 bytes. -/
theorem shps_len {N : Nat} {ks : List RT} (h : Kd N ks) (hN : N ≤ 40) (hv : ∀ q ∈ belows ks, q.2.length ≤ 40) : (shps ks).length + 87 * ks.length ≤ 174 * (belows ks).length := by
  induction h with
  | nil N => simp [shps_nil, belows_nil]
  | @cons N t r h1 h2 h3 h4 h5 h6 ih4 ih6 =>
    have hv1 : ∀ q ∈ belows r, q.2.length ≤ 40 := fun q hq => hv q (by rw [belows_cons]; exact List.mem_append.2 (.inr hq))
    have hv2 : ∀ q ∈ t.prs, q.2.length ≤ 40 := fun q hq => hv (t.lab ++ q.1, q.2) (by rw [belows_cons]; exact List.mem_append.2 (.inl (mem_pre.2 ⟨q, hq, rfl⟩)))
    have i6 := ih6 hN hv1
    have i4 := ih4 (by omega) (fun q hq => hv2 q (mem_below.2 (.inr hq)))
    rw [shps_cons, shp_eq, belows_cons, List.length_append, List.length_append, List.length_append, headB_len, List.length_cons]
    have hp : (pre t.lab t.prs).length = (ownP t.val).length + (belows t.kids).length := by rw [below_eq]; simp [pre]
    rw [hp]
    cases hval : t.val with
    | none =>
      rw [hval] at h3
      have h3 : 2 ≤ t.kids.length := by simpa using h3
      simp only [ownP, List.length_nil, vlen]
      omega
    | some v =>
      have := hv2 ([], v) (mem_below.2 (.inl ⟨rfl, hval⟩))
      simp only [ownP, List.length_cons, List.length_nil, vlen]
      simp only at this
      omega
theorem shp_len {N : Nat} {t : RT} (h : Kd N t.kids) (hN : N ≤ 40) (hl : t.lab.length ≤ 40) (hv : ∀ q ∈ t.prs, q.2.length ≤ 40) : t.shp.length ≤ 87 + 174 * t.prs.length := by
  have := shps_len h hN (fun q hq => hv q (mem_below.2 (.inr hq)))
  rw [shp_eq, List.length_append, headB_len, below_eq t, List.length_append]
  cases hval : t.val with
  | none => simp only [ownP, List.length_nil, vlen]; omega
  | some v =>
    have := hv ([], v) (mem_below.2 (.inl ⟨rfl, hval⟩))
    simp only [ownP, List.length_cons, List.length_nil, vlen]
    simp only at this
    omega
theorem Kd.sml {N : Nat} {ks : List RT} (h : Kd N ks) (hN : N ≤ 40) (hv : ∀ q ∈ belows ks, q.2.length ≤ 40) : ∀ k ∈ ks, Sml k := by
  induction h with
  | nil N => intro k hk; cases hk
  | @cons N t r h1 h2 h3 h4 h5 h6 ih4 ih6 =>
    intro k hk
    rcases List.mem_cons.1 hk with rfl | hk
    · have hv2 : ∀ q ∈ k.prs, q.2.length ≤ 40 := fun q hq => hv (k.lab ++ q.1, q.2) (by rw [belows_cons]; exact List.mem_append.2 (.inl (mem_pre.2 ⟨q, hq, rfl⟩)))
      refine .mk (by omega) (fun v hval => ?_) (by have := h4.len; omega) (ih4 (by omega) fun q hq => hv2 q (mem_below.2 (.inr hq)))
      have := hv2 ([], v) (mem_below.2 (.inl ⟨rfl, hval⟩))
      simp only at this; omega
    · exact ih6 hN (fun q hq => hv q (by rw [belows_cons]; exact List.mem_append.2 (.inr hq))) k hk
theorem root_sml {N : Nat} {t : RT} (h : Kd N t.kids) (hN : N ≤ 40) (hl : t.lab.length ≤ 40) (hv : ∀ q ∈ t.prs, q.2.length ≤ 40) : Sml t := by
  refine .mk (by omega) (fun v hval => ?_) (by have := h.len; omega) (h.sml hN fun q hq => hv q (mem_below.2 (.inr hq)))
  have := hv ([], v) (mem_below.2 (.inl ⟨rfl, hval⟩))
  simp only at this; omega
end Go.QS
/- Plain: the document's tree of a list: groups by first bytes, branches by what all keys begin with. No program. -/
namespace Go.QS

/-- How many bytes all keys begin with, as the document finds them. -/
def cmn (k0 : List UInt8) (l : List Pr) : Nat := l.foldl (fun n p => if common k0 p.1 < n then common k0 p.1 else n) k0.length
theorem cmn_nil (k0 : List UInt8) : cmn k0 [] = k0.length := rfl
theorem cmn_snoc (k0 : List UInt8) (l : List Pr) (p : Pr) : cmn k0 (l ++ [p]) = if common k0 p.1 < cmn k0 l then common k0 p.1 else cmn k0 l := by unfold cmn; rw [List.foldl_append]; rfl
theorem cmn_ok (k0 : List UInt8) (l : List Pr) : cmn k0 l ≤ k0.length ∧ (∀ p ∈ l, cmn k0 l ≤ common k0 p.1) ∧ (cmn k0 l = k0.length ∨ ∃ p ∈ l, common k0 p.1 = cmn k0 l) := by
  induction l using snoc_ind with
  | h0 => exact ⟨Nat.le_refl _, fun p h => (by cases h), .inl rfl⟩
  | h1 l p ih =>
    obtain ⟨h1, h2, h3⟩ := ih
    rw [cmn_snoc]
    split
    · rename_i hlt
      refine ⟨by omega, fun q hq => ?_, .inr ⟨p, by simp, rfl⟩⟩
      rcases List.mem_append.1 hq with hq | hq
      · have := h2 q hq; omega
      · rw [List.mem_singleton] at hq; rw [hq]; exact Nat.le_refl _
    · rename_i hge
      refine ⟨h1, fun q hq => ?_, ?_⟩
      · rcases List.mem_append.1 hq with hq | hq
        · exact h2 q hq
        · rw [List.mem_singleton] at hq; rw [hq]; omega
      · rcases h3 with h3 | ⟨q, hq, h3⟩
        · exact .inl h3
        · exact .inr ⟨q, List.mem_append.2 (.inl hq), h3⟩

/-- What is left of the pairs that are longer. -/
def restL (n : Nat) (l : List Pr) : List Pr := (l.filter fun p => p.1.length != n).map fun p => (p.1.drop n, p.2)
theorem restL_nil (n : Nat) : restL n [] = [] := rfl
theorem restL_snoc (n : Nat) (l : List Pr) (p : Pr) : restL n (l ++ [p]) = if p.1.length = n then restL n l else restL n l ++ [(p.1.drop n, p.2)] := by
  unfold restL
  rw [List.filter_append, List.map_append]
  by_cases h : p.1.length = n <;> simp [h]
theorem restL_len (n : Nat) (l : List Pr) : (restL n l).length ≤ l.length := by
  unfold restL
  rw [List.length_map]
  exact List.length_filter_le _ _
/-- The value of the pair that is just so long (the last one's). -/
def valL (n : Nat) (l : List Pr) : Option (List UInt8) := l.foldl (fun v p => if p.1.length = n then some p.2 else v) none
theorem valL_nil (n : Nat) : valL n [] = none := rfl
theorem valL_snoc (n : Nat) (l : List Pr) (p : Pr) : valL n (l ++ [p]) = if p.1.length = n then some p.2 else valL n l := by simp [valL]
theorem valL_iff {n : Nat} {lab : List UInt8} (hn : lab.length = n) : ∀ {l : List Pr}, Rise l → (∀ p ∈ l, p.1.take n = lab) → ∀ v, valL n l = some v ↔ (lab, v) ∈ l := by
  intro l
  induction l using snoc_ind with
  | h0 => intro _ _ v; simp [valL]
  | h1 l p ih =>
    intro hr hp v
    have hr' : Rise l ∧ ∀ q ∈ l, q.1 < p.1 := by
      unfold Rise at hr ⊢
      rw [List.pairwise_append] at hr
      exact ⟨hr.1, fun q hq => hr.2.2 q hq p (List.mem_singleton_self p)⟩
    have ih := ih hr'.1 (fun q hq => hp q (by simp [hq])) v
    have hpl := hp p (by simp)
    rw [valL_snoc]
    split
    · rename_i hl
      have hlab : p.1 = lab := by rw [← hpl, List.take_of_length_le (by omega)]
      simp only [Option.some.injEq, List.mem_append, List.mem_singleton]
      constructor
      · intro h; right; rw [← hlab, ← h]
      · rintro (h | h)
        · have := hr'.2 _ h
          simp only at this
          rw [hlab] at this
          exact absurd this (k_irrefl _)
        · rw [← h]
    · rename_i hl
      rw [ih]
      simp only [List.mem_append, List.mem_singleton]
      constructor
      · exact .inl
      · rintro (h | h)
        · exact h
        · rw [← h] at hl; exact absurd hn hl

theorem drop_lt {n : Nat} {lab a b : List UInt8} (ha : a.take n = lab) (hb : b.take n = lab) (h : a < b) : a.drop n < b.drop n := by
  rw [← List.take_append_drop n a, ← List.take_append_drop n b, ha, hb] at h
  exact (app_lt lab _ _).1 h
theorem restL_rise {n : Nat} {lab : List UInt8} {l : List Pr} (hr : Rise l) (hp : ∀ p ∈ l, p.1.take n = lab) : Rise (restL n l) := by
  unfold Rise restL at *
  rw [List.pairwise_map]
  have h2 := List.Pairwise.sublist (List.filter_sublist (p := fun p : Pr => p.1.length != n) (l := l)) hr
  refine List.Pairwise.imp_of_mem (fun {a b} ha hb h => ?_) h2
  exact drop_lt (hp a (List.mem_filter.1 ha).1) (hp b (List.mem_filter.1 hb).1) h
theorem restL_mem {n : Nat} {lab : List UInt8} (hn : lab.length = n) {l : List Pr} (hp : ∀ p ∈ l, p.1.take n = lab) (q : Pr) : q ∈ restL n l ↔ q.1 ≠ [] ∧ (lab ++ q.1, q.2) ∈ l := by
  unfold restL
  simp only [List.mem_map, List.mem_filter, bne_iff_ne]
  constructor
  · rintro ⟨p, ⟨h1, h2⟩, rfl⟩
    have e : lab ++ p.1.drop n = p.1 := by rw [← hp p h1, List.take_append_drop]
    refine ⟨?_, by simp only; rw [e]; exact h1⟩
    intro e2
    simp only at e2
    rw [e2, List.append_nil] at e
    exact h2 (by rw [← e]; exact hn)
  · rintro ⟨h1, h2⟩
    refine ⟨_, ⟨h2, ?_⟩, ?_⟩
    · simp only [List.length_append]
      have : 0 < q.1.length := List.length_pos_iff.2 h1
      omega
    · simp only
      rw [List.drop_left' hn]

theorem cmn_pos {k0 u0 : List UInt8} {l : List Pr} (h0 : l[0]? = some (k0, u0)) {x : UInt8} (hx : ∀ p ∈ l, ∃ m, p.1 = x :: m) : 0 < cmn k0 l := by
  obtain ⟨c1, c2, c3⟩ := cmn_ok k0 l
  have hm0 : (k0, u0) ∈ l := List.mem_of_getElem? h0
  obtain ⟨m0, hm⟩ := hx _ hm0
  simp only at hm
  rcases c3 with c3 | ⟨p, hp, c3⟩
  · rw [c3, hm]; simp
  · obtain ⟨m, hm'⟩ := hx p hp
    rw [← c3, hm, hm', common_pos]; omega
theorem cmn_take {k0 u0 : List UInt8} {l : List Pr} (h0 : l[0]? = some (k0, u0)) : ∀ p ∈ l, p.1.take (cmn k0 l) = k0.take (cmn k0 l) := by
  intro p hp
  have h1 := common_take k0 p.1
  have h2 := (cmn_ok k0 l).2.1 p hp
  have := congrArg (List.take (cmn k0 l)) h1
  rw [List.take_take, List.take_take, Nat.min_eq_left h2] at this
  exact this.symm
/-- A branch of pairs that begin alike. -/
theorem branch_ok {N : Nat} {k0 : List UInt8} {u0 : List UInt8} {l : List Pr} {ks : List RT} (h0 : l[0]? = some (k0, u0)) (hr : Rise l) {x : UInt8} (hx : ∀ p ∈ l, ∃ m, p.1 = x :: m) (hN : ∀ p ∈ l, p.1.length ≤ N)
    (hk : Kd (N - cmn k0 l) ks) (hb : belows ks = restL (cmn k0 l) l) :
    0 < cmn k0 l ∧ cmn k0 l ≤ k0.length ∧ Br N (RT.node (k0.take (cmn k0 l)) (valL (cmn k0 l) l) ks) ∧ pre (k0.take (cmn k0 l)) (RT.node (k0.take (cmn k0 l)) (valL (cmn k0 l) l) ks).prs = l := by
  obtain ⟨c1, c2, c3⟩ := cmn_ok k0 l
  have hm0 : (k0, u0) ∈ l := List.mem_of_getElem? h0
  obtain ⟨m0, hm⟩ := hx _ hm0
  simp only at hm
  have hpos : 0 < cmn k0 l := by
    rcases c3 with c3 | ⟨p, hp, c3⟩
    · rw [c3, hm]; simp
    · obtain ⟨m, hm'⟩ := hx p hp
      rw [← c3, hm, hm', common_pos]; omega
  have hlen : (k0.take (cmn k0 l)).length = cmn k0 l := by rw [List.length_take]; omega
  have htake : ∀ p ∈ l, p.1.take (cmn k0 l) = k0.take (cmn k0 l) := by
    intro p hp
    have h1 := common_take k0 p.1
    have h2 := c2 p hp
    have := congrArg (List.take (cmn k0 l)) h1
    rw [List.take_take, List.take_take, Nat.min_eq_left h2] at this
    exact this.symm
  have := asm (N := N) (l := l) (lab := k0.take (cmn k0 l)) (val := valL (cmn k0 l) l) (ks := ks) (List.ne_nil_of_mem hm0) hr
    (by intro e; rw [e] at hlen; simp at hlen; omega) (by rw [hlen]; exact Nat.le_trans c1 (hN _ hm0)) (by rw [hlen]; exact htake)
    (valL_iff hlen hr htake) (by rw [hlen]; exact hk) (by intro q; rw [hb]; exact restL_mem hlen htake q)
    (by
      intro c
      rw [hlen]
      rcases c3 with c3 | ⟨p, hp, c3⟩
      · refine ⟨_, hm0, ?_⟩
        intro e
        have := congrArg List.length e
        simp only [List.length_take, List.length_append, List.length_cons, List.length_nil] at this
        omega
      · by_cases hn : cmn k0 l = k0.length
        · refine ⟨_, hm0, ?_⟩
          intro e
          have := congrArg List.length e
          simp only [List.length_take, List.length_append, List.length_cons, List.length_nil] at this
          omega
        · by_cases e1 : p.1.take (cmn k0 l + 1) = k0.take (cmn k0 l) ++ [c]
          · refine ⟨_, hm0, ?_⟩
            intro e2
            simp only at e2
            have g1 : p.1.drop (cmn k0 l) = c :: p.1.drop (cmn k0 l + 1) := by
              have := congrArg (List.drop (cmn k0 l)) e1
              rw [List.drop_left' hlen, List.drop_take] at this
              rcases hd : p.1.drop (cmn k0 l) with _ | ⟨y, r⟩
              · rw [hd] at this; simp at this
              · rw [hd] at this
                simp at this
                rw [this]
                have := congrArg (List.drop 1) hd
                rw [List.drop_drop] at this
                simpa using this.symm
            have g2 : k0.drop (cmn k0 l) = c :: k0.drop (cmn k0 l + 1) := by
              have := congrArg (List.drop (cmn k0 l)) e2
              rw [List.drop_left' hlen, List.drop_take] at this
              rcases hd : k0.drop (cmn k0 l) with _ | ⟨y, r⟩
              · rw [hd] at this; simp at this
              · rw [hd] at this
                simp at this
                rw [this]
                have := congrArg (List.drop 1) hd
                rw [List.drop_drop] at this
                simpa using this.symm
            rw [← c3] at g1 g2
            exact common_next k0 p.1 g2 g1 rfl
          · exact ⟨p, hp, e1⟩)
  exact ⟨hpos, c1, this.1, this.2⟩

/-! ### Groups -/
theorem fstB_le {p q : Pr} (hp : p.1 ≠ []) (hq : q.1 ≠ []) (h : p.1 < q.1) : fstB p ≤ fstB q := by
  obtain ⟨a, x, ha⟩ := List.exists_cons_of_ne_nil hp
  obtain ⟨b, y, hb⟩ := List.exists_cons_of_ne_nil hq
  rw [ha, hb, List.cons_lt_cons_iff] at h
  unfold fstB
  rw [ha, hb]
  rcases h with h | ⟨h, _⟩
  · have := UInt8.lt_iff_toNat_lt.1 h
    simp; omega
  · simp [h]
/-- All ahead of a place begin lower than all from it on. -/
def Part (l : List Pr) (i : Nat) : Prop := ∀ p ∈ l.take i, ∀ q ∈ l.drop i, fstB p < fstB q
theorem rise_le {l : List Pr} (hr : Rise l) (hne : ∀ p ∈ l, p.1 ≠ []) {i j : Nat} {p q : Pr} (hi : l[i]? = some p) (hj : l[j]? = some q) (hij : i ≤ j) : fstB p ≤ fstB q := by
  rcases Nat.lt_or_eq_of_le hij with h | rfl
  · obtain ⟨e1, e2⟩ := List.getElem?_eq_some_iff.1 hi
    obtain ⟨e3, e4⟩ := List.getElem?_eq_some_iff.1 hj
    have := List.pairwise_iff_getElem.1 hr _ _ e1 e3 h
    rw [e2, e4] at this
    exact fstB_le (hne p (List.mem_of_getElem? hi)) (hne q (List.mem_of_getElem? hj)) this
  · rw [hi] at hj; cases hj; exact Nat.le_refl _
theorem part_next {l : List Pr} (hr : Rise l) (hne : ∀ p ∈ l, p.1 ≠ []) {i k : Nat} (hik : i ≤ k) (hP : Part l i) {a : Pr} (ha : l[i]? = some a) (hs : ∀ j q, i ≤ j → j < k → l[j]? = some q → fstB q = fstB a)
    (hend : ∀ q, l[k]? = some q → fstB q ≠ fstB a) : Part l k := by
  intro p hp q hq
  obtain ⟨jp, hjp⟩ := List.getElem?_of_mem hp
  obtain ⟨jq, hjq⟩ := List.getElem?_of_mem hq
  rw [List.getElem?_drop] at hjq
  have hjk : jp < k := by
    have := (List.getElem?_eq_some_iff.1 hjp).1
    rw [List.length_take] at this; omega
  rw [List.getElem?_take_of_lt hjk] at hjp
  have hkl : k < l.length := by have := (List.getElem?_eq_some_iff.1 hjq).1; omega
  obtain ⟨b, hb⟩ := get_of_lt l hkl
  have h1 := rise_le hr hne hb hjq (by omega)
  have h2 := rise_le hr hne ha hb hik
  have h3 := hend b hb
  rcases Nat.lt_or_ge jp i with h | h
  · have := hP p (List.mem_of_getElem? (i := jp) (by rw [List.getElem?_take_of_lt h]; exact hjp)) a (List.mem_of_getElem? (i := 0) (by rw [List.getElem?_drop]; exact ha))
    omega
  · have := hs jp p h hjk hjp
    omega
theorem kd_snoc {N : Nat} {ks : List RT} {t : RT} (h : Kd N ks) (ht : Br N t) (hlt : ∀ k ∈ ks, k.hd < t.hd) : Kd N (ks ++ [t]) := by
  rw [kd_iff] at h ⊢
  refine ⟨?_, fun k hk => ?_⟩
  · unfold Heads at *
    exact List.pairwise_append.2 ⟨h.1, List.pairwise_singleton _ _, fun a ha b hb => by rw [List.mem_singleton] at hb; rw [hb]; exact hlt a ha⟩
  · rcases List.mem_append.1 hk with hk | hk
    · exact h.2 k hk
    · rw [List.mem_singleton] at hk; rw [hk]; exact ht
theorem seg_split {α : Type} {l : List α} {i k : Nat} (hik : i ≤ k) : l.take k = l.take i ++ (l.drop i).take (k - i) := by
  conv => lhs; rw [show k = i + (k - i) by omega]
  rw [List.take_add]
/-- One group more. -/
theorem group_ok {N : Nat} {l : List Pr} (hne : ∀ p ∈ l, p.1 ≠ []) {i k : Nat} (hik : i < k) {a : Pr} (ha : l[i]? = some a) (hP : Part l i) {ks : List RT} {t : RT} (hk : Kd N ks) (hb : belows ks = l.take i) (ht : Br N t) (hpre : pre t.lab t.prs = (l.drop i).take (k - i)) :
    Kd N (ks ++ [t]) ∧ belows (ks ++ [t]) = l.take k := by
  have hma : a ∈ pre t.lab t.prs := by
    rw [hpre]
    exact List.mem_of_getElem? (i := 0) (by rw [List.getElem?_take_of_lt (by omega), List.getElem?_drop]; exact ha)
  have hta := fstB_pre ht.1 hma
  constructor
  · refine kd_snoc hk ht fun x hx => ?_
    obtain ⟨q, hq⟩ := List.exists_mem_of_ne_nil _ (prs_ne (hk.br hx))
    have hmq : (x.lab ++ q.1, q.2) ∈ pre x.lab x.prs := mem_pre.2 ⟨q, hq, rfl⟩
    have h1 := fstB_pre (hk.br hx).1 hmq
    have h2 : (x.lab ++ q.1, q.2) ∈ l.take i := by rw [← hb]; exact mem_belows.2 ⟨x, hx, hmq⟩
    have := hP _ h2 a (List.mem_of_getElem? (i := 0) (by rw [List.getElem?_drop]; exact ha))
    omega
  · rw [belows_append, hb, belows_cons, belows_nil, List.append_nil, hpre, ← seg_split (by omega)]
end Go.QS
