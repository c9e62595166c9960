/- Texts joined. -/
import Derived.Test.YtigoffdehdobiaaGreatM23
import Derived.Test.YtigoffdehdobiaaGreatM22
import Derived.Test.YtigoffdehdobiaaGreatRows
import Derived.Test.YtigoffdehdobiaaGreatM08
import Derived.Deep.RegionHeld3
import Derived.Deep.DeepCutAuto
import Derived.Deep.LoopGhost
set_option linter.unusedVariables false
set_option linter.unusedSimpArgs false
/- Plain: the document's tree of a list: groups by first bytes, branches by what all keys begin with. No program. -/
namespace Go.QS

/-- How many bytes all keys begin with, as the document finds them. -/
def cmn (k0 : List UInt8) (l : List Pr) : Nat := l.foldl (fun n p => if common k0 p.1 < n then common k0 p.1 else n) k0.length
theorem cmn_nil (k0 : List UInt8) : cmn k0 [] = k0.length := rfl
theorem cmn_snoc (k0 : List UInt8) (l : List Pr) (p : Pr) : cmn k0 (l ++ [p]) = if common k0 p.1 < cmn k0 l then common k0 p.1 else cmn k0 l := by unfold cmn; rw [List.foldl_append]; rfl
theorem cmn_ok (k0 : List UInt8) (l : List Pr) : cmn k0 l ≤ k0.length ∧ (∀ p ∈ l, cmn k0 l ≤ common k0 p.1) ∧ (cmn k0 l = k0.length ∨ ∃ p ∈ l, common k0 p.1 = cmn k0 l) := by
  induction l using snoc_ind with
  | h0 => exact ⟨Nat.le_refl _, fun p h => (by cases h), .inl rfl⟩
  | h1 l p ih =>
    obtain ⟨h1, h2, h3⟩ := ih
    rw [cmn_snoc]
    split
    · rename_i hlt
      refine ⟨by omega, fun q hq => ?_, .inr ⟨p, by simp, rfl⟩⟩
      rcases List.mem_append.1 hq with hq | hq
      · have := h2 q hq; omega
      · rw [List.mem_singleton] at hq; rw [hq]; exact Nat.le_refl _
    · rename_i hge
      refine ⟨h1, fun q hq => ?_, ?_⟩
      · rcases List.mem_append.1 hq with hq | hq
        · exact h2 q hq
        · rw [List.mem_singleton] at hq; rw [hq]; omega
      · rcases h3 with h3 | ⟨q, hq, h3⟩
        · exact .inl h3
        · exact .inr ⟨q, List.mem_append.2 (.inl hq), h3⟩

/-- What is left of the pairs that are longer. -/
def restL (n : Nat) (l : List Pr) : List Pr := (l.filter fun p => p.1.length != n).map fun p => (p.1.drop n, p.2)
theorem restL_nil (n : Nat) : restL n [] = [] := rfl
theorem restL_snoc (n : Nat) (l : List Pr) (p : Pr) : restL n (l ++ [p]) = if p.1.length = n then restL n l else restL n l ++ [(p.1.drop n, p.2)] := by
  unfold restL
  rw [List.filter_append, List.map_append]
  by_cases h : p.1.length = n <;> simp [h]
theorem restL_len (n : Nat) (l : List Pr) : (restL n l).length ≤ l.length := by
  unfold restL
  rw [List.length_map]
  exact List.length_filter_le _ _
/-- The value of the pair that is just so long (the last one's). -/
def valL (n : Nat) (l : List Pr) : Option (List UInt8) := l.foldl (fun v p => if p.1.length = n then some p.2 else v) none
theorem valL_nil (n : Nat) : valL n [] = none := rfl
theorem valL_snoc (n : Nat) (l : List Pr) (p : Pr) : valL n (l ++ [p]) = if p.1.length = n then some p.2 else valL n l := by simp [valL]
theorem valL_iff {n : Nat} {lab : List UInt8} (hn : lab.length = n) : ∀ {l : List Pr}, Rise l → (∀ p ∈ l, p.1.take n = lab) → ∀ v, valL n l = some v ↔ (lab, v) ∈ l := by
  intro l
  induction l using snoc_ind with
  | h0 => intro _ _ v; simp [valL]
  | h1 l p ih =>
    intro hr hp v
    have hr' : Rise l ∧ ∀ q ∈ l, q.1 < p.1 := by
      unfold Rise at hr ⊢
      rw [List.pairwise_append] at hr
      exact ⟨hr.1, fun q hq => hr.2.2 q hq p (List.mem_singleton_self p)⟩
    have ih := ih hr'.1 (fun q hq => hp q (by simp [hq])) v
    have hpl := hp p (by simp)
    rw [valL_snoc]
    split
    · rename_i hl
      have hlab : p.1 = lab := by rw [← hpl, List.take_of_length_le (by omega)]
      simp only [Option.some.injEq, List.mem_append, List.mem_singleton]
      constructor
      · intro h; right; rw [← hlab, ← h]
      · rintro (h | h)
        · have := hr'.2 _ h
          simp only at this
          rw [hlab] at this
          exact absurd this (k_irrefl _)
        · rw [← h]
    · rename_i hl
      rw [ih]
      simp only [List.mem_append, List.mem_singleton]
      constructor
      · exact .inl
      · rintro (h | h)
        · exact h
        · rw [← h] at hl; exact absurd hn hl

theorem drop_lt {n : Nat} {lab a b : List UInt8} (ha : a.take n = lab) (hb : b.take n = lab) (h : a < b) : a.drop n < b.drop n := by
  rw [← List.take_append_drop n a, ← List.take_append_drop n b, ha, hb] at h
  exact (app_lt lab _ _).1 h
theorem restL_rise {n : Nat} {lab : List UInt8} {l : List Pr} (hr : Rise l) (hp : ∀ p ∈ l, p.1.take n = lab) : Rise (restL n l) := by
  unfold Rise restL at *
  rw [List.pairwise_map]
  have h2 := List.Pairwise.sublist (List.filter_sublist (p := fun p : Pr => p.1.length != n) (l := l)) hr
  refine List.Pairwise.imp_of_mem (fun {a b} ha hb h => ?_) h2
  exact drop_lt (hp a (List.mem_filter.1 ha).1) (hp b (List.mem_filter.1 hb).1) h
theorem restL_mem {n : Nat} {lab : List UInt8} (hn : lab.length = n) {l : List Pr} (hp : ∀ p ∈ l, p.1.take n = lab) (q : Pr) : q ∈ restL n l ↔ q.1 ≠ [] ∧ (lab ++ q.1, q.2) ∈ l := by
  unfold restL
  simp only [List.mem_map, List.mem_filter, bne_iff_ne]
  constructor
  · rintro ⟨p, ⟨h1, h2⟩, rfl⟩
    have e : lab ++ p.1.drop n = p.1 := by rw [← hp p h1, List.take_append_drop]
    refine ⟨?_, by simp only; rw [e]; exact h1⟩
    intro e2
    simp only at e2
    rw [e2, List.append_nil] at e
    exact h2 (by rw [← e]; exact hn)
  · rintro ⟨h1, h2⟩
    refine ⟨_, ⟨h2, ?_⟩, ?_⟩
    · simp only [List.length_append]
      have : 0 < q.1.length := List.length_pos_iff.2 h1
      omega
    · simp only
      rw [List.drop_left' hn]

theorem cmn_pos {k0 u0 : List UInt8} {l : List Pr} (h0 : l[0]? = some (k0, u0)) {x : UInt8} (hx : ∀ p ∈ l, ∃ m, p.1 = x :: m) : 0 < cmn k0 l := by
  obtain ⟨c1, c2, c3⟩ := cmn_ok k0 l
  have hm0 : (k0, u0) ∈ l := List.mem_of_getElem? h0
  obtain ⟨m0, hm⟩ := hx _ hm0
  simp only at hm
  rcases c3 with c3 | ⟨p, hp, c3⟩
  · rw [c3, hm]; simp
  · obtain ⟨m, hm'⟩ := hx p hp
    rw [← c3, hm, hm', common_pos]; omega
theorem cmn_take {k0 u0 : List UInt8} {l : List Pr} (h0 : l[0]? = some (k0, u0)) : ∀ p ∈ l, p.1.take (cmn k0 l) = k0.take (cmn k0 l) := by
  intro p hp
  have h1 := common_take k0 p.1
  have h2 := (cmn_ok k0 l).2.1 p hp
  have := congrArg (List.take (cmn k0 l)) h1
  rw [List.take_take, List.take_take, Nat.min_eq_left h2] at this
  exact this.symm
/-- A branch of pairs that begin alike. -/
theorem branch_ok {N : Nat} {k0 : List UInt8} {u0 : List UInt8} {l : List Pr} {ks : List RT} (h0 : l[0]? = some (k0, u0)) (hr : Rise l) {x : UInt8} (hx : ∀ p ∈ l, ∃ m, p.1 = x :: m) (hN : ∀ p ∈ l, p.1.length ≤ N)
    (hk : Kd (N - cmn k0 l) ks) (hb : belows ks = restL (cmn k0 l) l) :
    0 < cmn k0 l ∧ cmn k0 l ≤ k0.length ∧ Br N (RT.node (k0.take (cmn k0 l)) (valL (cmn k0 l) l) ks) ∧ pre (k0.take (cmn k0 l)) (RT.node (k0.take (cmn k0 l)) (valL (cmn k0 l) l) ks).prs = l := by
  obtain ⟨c1, c2, c3⟩ := cmn_ok k0 l
  have hm0 : (k0, u0) ∈ l := List.mem_of_getElem? h0
  obtain ⟨m0, hm⟩ := hx _ hm0
  simp only at hm
  have hpos : 0 < cmn k0 l := by
    rcases c3 with c3 | ⟨p, hp, c3⟩
    · rw [c3, hm]; simp
    · obtain ⟨m, hm'⟩ := hx p hp
      rw [← c3, hm, hm', common_pos]; omega
  have hlen : (k0.take (cmn k0 l)).length = cmn k0 l := by rw [List.length_take]; omega
  have htake : ∀ p ∈ l, p.1.take (cmn k0 l) = k0.take (cmn k0 l) := by
    intro p hp
    have h1 := common_take k0 p.1
    have h2 := c2 p hp
    have := congrArg (List.take (cmn k0 l)) h1
    rw [List.take_take, List.take_take, Nat.min_eq_left h2] at this
    exact this.symm
  have := asm (N := N) (l := l) (lab := k0.take (cmn k0 l)) (val := valL (cmn k0 l) l) (ks := ks) (List.ne_nil_of_mem hm0) hr
    (by intro e; rw [e] at hlen; simp at hlen; omega) (by rw [hlen]; exact Nat.le_trans c1 (hN _ hm0)) (by rw [hlen]; exact htake)
    (valL_iff hlen hr htake) (by rw [hlen]; exact hk) (by intro q; rw [hb]; exact restL_mem hlen htake q)
    (by
      intro c
      rw [hlen]
      rcases c3 with c3 | ⟨p, hp, c3⟩
      · refine ⟨_, hm0, ?_⟩
        intro e
        have := congrArg List.length e
        simp only [List.length_take, List.length_append, List.length_cons, List.length_nil] at this
        omega
      · by_cases hn : cmn k0 l = k0.length
        · refine ⟨_, hm0, ?_⟩
          intro e
          have := congrArg List.length e
          simp only [List.length_take, List.length_append, List.length_cons, List.length_nil] at this
          omega
        · by_cases e1 : p.1.take (cmn k0 l + 1) = k0.take (cmn k0 l) ++ [c]
          · refine ⟨_, hm0, ?_⟩
            intro e2
            simp only at e2
            have g1 : p.1.drop (cmn k0 l) = c :: p.1.drop (cmn k0 l + 1) := by
              have := congrArg (List.drop (cmn k0 l)) e1
              rw [List.drop_left' hlen, List.drop_take] at this
              rcases hd : p.1.drop (cmn k0 l) with _ | ⟨y, r⟩
              · rw [hd] at this; simp at this
              · rw [hd] at this
                simp at this
                rw [this]
                have := congrArg (List.drop 1) hd
                rw [List.drop_drop] at this
                simpa using this.symm
            have g2 : k0.drop (cmn k0 l) = c :: k0.drop (cmn k0 l + 1) := by
              have := congrArg (List.drop (cmn k0 l)) e2
              rw [List.drop_left' hlen, List.drop_take] at this
              rcases hd : k0.drop (cmn k0 l) with _ | ⟨y, r⟩
              · rw [hd] at this; simp at this
              · rw [hd] at this
                simp at this
                rw [this]
                have := congrArg (List.drop 1) hd
                rw [List.drop_drop] at this
                simpa using this.symm
            rw [← c3] at g1 g2
            exact common_next k0 p.1 g2 g1 rfl
          · exact ⟨p, hp, e1⟩)
  exact ⟨hpos, c1, this.1, this.2⟩

/-! ### Groups -/
theorem fstB_le {p q : Pr} (hp : p.1 ≠ []) (hq : q.1 ≠ []) (h : p.1 < q.1) : fstB p ≤ fstB q := by
  obtain ⟨a, x, ha⟩ := List.exists_cons_of_ne_nil hp
  obtain ⟨b, y, hb⟩ := List.exists_cons_of_ne_nil hq
  rw [ha, hb, List.cons_lt_cons_iff] at h
  unfold fstB
  rw [ha, hb]
  rcases h with h | ⟨h, _⟩
  · have := UInt8.lt_iff_toNat_lt.1 h
    simp; omega
  · simp [h]
/-- All ahead of a place begin lower than all from it on. -/
def Part (l : List Pr) (i : Nat) : Prop := ∀ p ∈ l.take i, ∀ q ∈ l.drop i, fstB p < fstB q
theorem rise_le {l : List Pr} (hr : Rise l) (hne : ∀ p ∈ l, p.1 ≠ []) {i j : Nat} {p q : Pr} (hi : l[i]? = some p) (hj : l[j]? = some q) (hij : i ≤ j) : fstB p ≤ fstB q := by
  rcases Nat.lt_or_eq_of_le hij with h | rfl
  · obtain ⟨e1, e2⟩ := List.getElem?_eq_some_iff.1 hi
    obtain ⟨e3, e4⟩ := List.getElem?_eq_some_iff.1 hj
    have := List.pairwise_iff_getElem.1 hr _ _ e1 e3 h
    rw [e2, e4] at this
    exact fstB_le (hne p (List.mem_of_getElem? hi)) (hne q (List.mem_of_getElem? hj)) this
  · rw [hi] at hj; cases hj; exact Nat.le_refl _
theorem part_next {l : List Pr} (hr : Rise l) (hne : ∀ p ∈ l, p.1 ≠ []) {i k : Nat} (hik : i ≤ k) (hP : Part l i) {a : Pr} (ha : l[i]? = some a) (hs : ∀ j q, i ≤ j → j < k → l[j]? = some q → fstB q = fstB a)
    (hend : ∀ q, l[k]? = some q → fstB q ≠ fstB a) : Part l k := by
  intro p hp q hq
  obtain ⟨jp, hjp⟩ := List.getElem?_of_mem hp
  obtain ⟨jq, hjq⟩ := List.getElem?_of_mem hq
  rw [List.getElem?_drop] at hjq
  have hjk : jp < k := by
    have := (List.getElem?_eq_some_iff.1 hjp).1
    rw [List.length_take] at this; omega
  rw [List.getElem?_take_of_lt hjk] at hjp
  have hkl : k < l.length := by have := (List.getElem?_eq_some_iff.1 hjq).1; omega
  obtain ⟨b, hb⟩ := get_of_lt l hkl
  have h1 := rise_le hr hne hb hjq (by omega)
  have h2 := rise_le hr hne ha hb hik
  have h3 := hend b hb
  rcases Nat.lt_or_ge jp i with h | h
  · have := hP p (List.mem_of_getElem? (i := jp) (by rw [List.getElem?_take_of_lt h]; exact hjp)) a (List.mem_of_getElem? (i := 0) (by rw [List.getElem?_drop]; exact ha))
    omega
  · have := hs jp p h hjk hjp
    omega
theorem kd_snoc {N : Nat} {ks : List RT} {t : RT} (h : Kd N ks) (ht : Br N t) (hlt : ∀ k ∈ ks, k.hd < t.hd) : Kd N (ks ++ [t]) := by
  rw [kd_iff] at h ⊢
  refine ⟨?_, fun k hk => ?_⟩
  · unfold Heads at *
    exact List.pairwise_append.2 ⟨h.1, List.pairwise_singleton _ _, fun a ha b hb => by rw [List.mem_singleton] at hb; rw [hb]; exact hlt a ha⟩
  · rcases List.mem_append.1 hk with hk | hk
    · exact h.2 k hk
    · rw [List.mem_singleton] at hk; rw [hk]; exact ht
theorem seg_split {α : Type} {l : List α} {i k : Nat} (hik : i ≤ k) : l.take k = l.take i ++ (l.drop i).take (k - i) := by
  conv => lhs; rw [show k = i + (k - i) by omega]
  rw [List.take_add]
/-- One group more. -/
theorem group_ok {N : Nat} {l : List Pr} (hne : ∀ p ∈ l, p.1 ≠ []) {i k : Nat} (hik : i < k) {a : Pr} (ha : l[i]? = some a) (hP : Part l i) {ks : List RT} {t : RT} (hk : Kd N ks) (hb : belows ks = l.take i) (ht : Br N t) (hpre : pre t.lab t.prs = (l.drop i).take (k - i)) :
    Kd N (ks ++ [t]) ∧ belows (ks ++ [t]) = l.take k := by
  have hma : a ∈ pre t.lab t.prs := by
    rw [hpre]
    exact List.mem_of_getElem? (i := 0) (by rw [List.getElem?_take_of_lt (by omega), List.getElem?_drop]; exact ha)
  have hta := fstB_pre ht.1 hma
  constructor
  · refine kd_snoc hk ht fun x hx => ?_
    obtain ⟨q, hq⟩ := List.exists_mem_of_ne_nil _ (prs_ne (hk.br hx))
    have hmq : (x.lab ++ q.1, q.2) ∈ pre x.lab x.prs := mem_pre.2 ⟨q, hq, rfl⟩
    have h1 := fstB_pre (hk.br hx).1 hmq
    have h2 : (x.lab ++ q.1, q.2) ∈ l.take i := by rw [← hb]; exact mem_belows.2 ⟨x, hx, hmq⟩
    have := hP _ h2 a (List.mem_of_getElem? (i := 0) (by rw [List.getElem?_drop]; exact ha))
    omega
  · rw [belows_append, hb, belows_cons, belows_nil, List.append_nil, hpre, ← seg_split (by omega)]
end Go.QS
/- The document's trees in memory; contract: its Common. -/
namespace Go.QS
open Go.RowKit

/-- A node of the document's. -/
def TreeAt (T : TypeId) (w : World) (g : Nat) (lab : List UInt8) (val : Option (List UInt8)) (kv : Value) : Prop :=
  w.heap[g]? = some (.cells #[str lab, .bool val.isSome, str (val.getD []), kv] T (0, 0))
section
variable {T TP : TypeId} {w w' : World} {g base : Nat} {lab : List UInt8} {val : Option (List UInt8)} {kv : Value} {t : RT} {ps : List Nat} {ks : List RT}
theorem TreeAt.lt (h : TreeAt T w g lab val kv) : g < w.heap.size := heap_lt h
theorem TreeAt.ext (h : TreeAt T w g lab val kv) (hb : Ext w w') : TreeAt T w' g lab val kv := (hb.block g h.lt).trans h
theorem TreeAt.cells (h : TreeAt T w g lab val kv) : w.cell? ⟨g, 0, none⟩ = some (str lab) ∧ w.cell? ⟨g, 1, none⟩ = some (.bool val.isSome) ∧ w.cell? ⟨g, 2, none⟩ = some (str (val.getD [])) ∧ w.cell? ⟨g, 3, none⟩ = some kv := by
  unfold TreeAt at h
  simp [World.cell?, h]
theorem TreeAt.free (h : TreeAt T w g lab val kv) (j : Nat) : w.frozen? ⟨g, j, none⟩ = false := by
  unfold TreeAt at h
  simp [World.frozen?, h]
theorem TreeAt.set12 (h : TreeAt T w g lab val kv) (v : List UInt8) : TreeAt T ((w.setCell ⟨g, 1, none⟩ (.bool true)).setCell ⟨g, 2, none⟩ (str v)) g lab (some v) kv := heap_set (heap_set h 1 _) 2 _
theorem TreeAt.set3 (h : TreeAt T w g lab val kv) (kv' : Value) : TreeAt T (w.setCell ⟨g, 3, none⟩ kv') g lab val kv' := heap_set h 3 _
theorem TreeAt.new (T : TypeId) (w : World) (hg : g = w.heap.size) : TreeAt T (w.alloc (.cells #[str lab, .bool val.isSome, str (val.getD []), kv] T)) g lab val kv := by
  subst hg; simp only [TreeAt, World.alloc]; simp

theorem own_keep {n : Nat} {xs : List Value} {v : Value} {e : TypeId} {k : Nat} (h : w.ownsRow base e k v n xs) (hk : ∀ b, v.ownBlock = some b → w'.heap[b]? = w.heap[b]?) : w'.ownsRow base e k v n xs := by
  refine ⟨h.1, ?_⟩
  rcases h.2 with h | ⟨g, cap, cur, h1, h2, h3, h4⟩
  · exact .inl h
  · exact .inr ⟨g, cap, cur, h1, h2, (hk g (by rw [h1]; rfl)).trans h3, h4⟩
theorem own_base' {b b' n k : Nat} {e : TypeId} {v : Value} {xs : List Value} (h : w.ownsRow b' e k v n xs) (hb : b ≤ b') : w.ownsRow b e k v n xs := by
  refine ⟨h.1, ?_⟩
  rcases h.2 with h | ⟨g, cap, cur, h1, h2, h3⟩
  · exact .inl h
  · exact .inr ⟨g, cap, cur, h1, Nat.le_trans hb h2, h3⟩

/-- A node of the document's in memory is this tree, and lies in these blocks alone. -/
inductive RepS (T TP : TypeId) (S : Nat → Prop) (w : World) : Nat → RT → Prop
  | mk {g : Nat} {t : RT} {kv : Value} {ps : List Nat} (h : TreeAt T w g t.lab t.val kv) (hb : S g) (hs : w.ownsRow 0 TP 1 kv ps.length (ptrs ps)) (hS : ∀ b, kv.ownBlock = some b → S b) (hl : ps.length = t.kids.length)
      (hk : ∀ (j p : Nat) (k : RT), ps[j]? = some p → t.kids[j]? = some k → RepS T TP S w p k) : RepS T TP S w g t
def RepsS (T TP : TypeId) (S : Nat → Prop) (w : World) (ps : List Nat) (ks : List RT) : Prop := ps.length = ks.length ∧ ∀ (j p : Nat) (k : RT), ps[j]? = some p → ks[j]? = some k → RepS T TP S w p k
variable {S S' : Nat → Prop}
theorem RepS.keep (h : RepS T TP S w g t) (hk : ∀ b, S b → b < w.heap.size → w'.heap[b]? = w.heap[b]?) : RepS T TP S w' g t := by
  induction h with
  | mk h hb hs hS hl _ ih => exact .mk ((hk _ hb h.lt).trans h) hb (own_keep hs fun b hb => hk b (hS b hb) (hs.lt b hb).2) hS hl ih
theorem RepS.mono (h : RepS T TP S w g t) (hs : ∀ b, b < w.heap.size → S b → S' b) : RepS T TP S' w g t := by
  induction h with
  | mk h hb hs' hS hl _ ih => exact .mk h (hs _ h.lt hb) hs' (fun b hb => hs b (hs'.lt b hb).2 (hS b hb)) hl ih
theorem RepS.ext (h : RepS T TP S w g t) (f : Ext w w') : RepS T TP S w' g t := h.keep fun b _ hb => f.block b hb
theorem RepsS.keep (h : RepsS T TP S w ps ks) (hk : ∀ b, S b → b < w.heap.size → w'.heap[b]? = w.heap[b]?) : RepsS T TP S w' ps ks := ⟨h.1, fun j p k h1 h2 => (h.2 j p k h1 h2).keep hk⟩
theorem RepsS.mono (h : RepsS T TP S w ps ks) (hs : ∀ b, b < w.heap.size → S b → S' b) : RepsS T TP S' w ps ks := ⟨h.1, fun j p k h1 h2 => (h.2 j p k h1 h2).mono hs⟩
theorem RepsS.ext (h : RepsS T TP S w ps ks) (f : Ext w w') : RepsS T TP S w' ps ks := h.keep fun b _ hb => f.block b hb
theorem RepsS.nil : RepsS T TP S w [] [] := ⟨rfl, fun j p k h => by simp at h⟩
theorem RepsS.snoc {p : Nat} {k : RT} (h : RepsS T TP S w ps ks) (hp : RepS T TP S w p k) : RepsS T TP S w (ps ++ [p]) (ks ++ [k]) := by
  refine ⟨by simp [h.1], fun j q t h1 h2 => ?_⟩
  rw [List.getElem?_append] at h1 h2
  have hl := h.1
  split at h1
  · rename_i hj
    rw [if_pos (by omega)] at h2
    exact h.2 j q t h1 h2
  · rename_i hj
    rw [if_neg (by omega)] at h2
    obtain ⟨m, hm⟩ : ∃ m, j - ps.length = m := ⟨_, rfl⟩
    rw [hm] at h1
    rw [← hl, hm] at h2
    cases m with
    | zero => simp at h1 h2; subst h1 h2; exact hp
    | succ m => simp at h1
theorem RepS.open (h : RepS T TP S w g t) : ∃ kv ps, TreeAt T w g t.lab t.val kv ∧ w.ownsRow 0 TP 1 kv ps.length (ptrs ps) ∧ RepsS T TP S w ps t.kids := by
  cases h with
  | mk h hb hs hS hl hk => exact ⟨_, _, h, hs, hl, hk⟩

/-- The same, from a base on. -/
abbrev RepD (T TP : TypeId) (base : Nat) (w : World) (g : Nat) (t : RT) : Prop := RepS T TP (fun b => base ≤ b) w g t
abbrev RepsD (T TP : TypeId) (base : Nat) (w : World) (ps : List Nat) (ks : List RT) : Prop := RepsS T TP (fun b => base ≤ b) w ps ks
theorem RepD.mk (h : TreeAt T w g t.lab t.val kv) (hb : base ≤ g) (hs : w.ownsRow base TP 1 kv ps.length (ptrs ps)) (hl : ps.length = t.kids.length)
    (hk : ∀ (j p : Nat) (k : RT), ps[j]? = some p → t.kids[j]? = some k → RepD T TP base w p k) : RepD T TP base w g t :=
  RepS.mk h hb (own_base' hs (Nat.zero_le _)) (fun b hb => (hs.lt b hb).1) hl hk
theorem repD_set (h : RepD T TP base w g t) (a : Addr) (u : Value) (ha : a.block < base) : RepD T TP base (w.setCell a u) g t := h.keep fun b hb _ => Below.heap_setCell w a u b (by omega)
theorem repD_mono {b' : Nat} (h : RepD T TP base w g t) (hb : b' ≤ base) : RepD T TP b' w g t := RepS.mono h fun b _ h => Nat.le_trans hb h
theorem repsD_mono {b' : Nat} (h : RepsD T TP base w ps ks) (hb : b' ≤ base) : RepsD T TP b' w ps ks := RepsS.mono h fun b _ h => Nat.le_trans hb h
end

/-- append at a step of a region that draws its order. -/
theorem step_appE {P : Program} {W w : World} {ops : Array Oper} {o : Oper} {a : Act} {K : Act → World → Prop} {Q : Exit → Act → World → Prop} {E : Prop} (hgd : o.guard = none) (s x : Operand) (t : TypeId)
    (ho : o.op = .call { callee := .builtin .append, args := #[s, x], argTypes := #[t, t] })
    (e : TypeId) (size bytes : Nat) (ht : P.underlying t = some (.slice e)) (hi : ∃ i z, P.info? e = some i ∧ i.zero = some z ∧ i.size = size ∧ i.bytes = bytes ∧ z.cells.size = size) (hsz : 0 < size)
    (v : Value) (n : Nat) (xs : List Value) (hs : a.eval s = v) (hown : w.ownsRow W.heap.size e size v n xs) (hb : Below W.heap.size W w)
    (A : Option Addr) (m c : Nat) (news : List Value) (hx : a.eval x = .slice A m c) (hl : news.length = m * size) (hr : Seg w A news) (h1 : ∀ u ∈ news, u.oneCell' = true)
    (h63 : n + m ≤ maxLen) (hbytes : (n + m) * bytes ≤ 140737488355328)
    (h : ∀ v' w', w'.ownsRow W.heap.size e size v' (n + m) (xs ++ news) → Below W.heap.size W w' → w.grownBy w' v.ownBlock → K (a.put o.dst v') w') :
    if Region.wanted o (yielded ops a.tmps) = true then Oper.wp P o a w K Q else E := by
  have hw : Region.wanted o (yielded ops a.tmps) = true := by simp [Region.wanted, hgd]
  rw [if_pos hw]
  obtain ⟨i, z, hi, hz, hsize, hby, hzs⟩ := hi
  obtain ⟨v', w', hrun, h2, h3, h4⟩ := run_app (P := P) w W.heap.size t o.type e i z size bytes ht hi hz hsize hby hzs hsz v n xs hown A m c news hl hr h1 h63 hbytes hb.size
  unfold Oper.wp execOp
  simp only [ho, resolve, invoke, builtin, Sem.run_bind, Sem.run_pure, Result.andThen_ok, List.map_toArray, List.map_cons, List.map_nil, hs, hx, hrun]
  exact h v' w' h2 (hb.grown h3 hb.size fun k hk => (hown.lt k hk).1) h3
/-- The same, of a row from a base on; what it says of the world is that it has grown. -/
theorem step_appB {P : Program} {w : World} {ops : Array Oper} {o : Oper} {a : Act} {K : Act → World → Prop} {Q : Exit → Act → World → Prop} {E : Prop} (hgd : o.guard = none) (s x : Operand) (t : TypeId)
    (ho : o.op = .call { callee := .builtin .append, args := #[s, x], argTypes := #[t, t] }) (base : Nat)
    (e : TypeId) (size bytes : Nat) (ht : P.underlying t = some (.slice e)) (hi : ∃ i z, P.info? e = some i ∧ i.zero = some z ∧ i.size = size ∧ i.bytes = bytes ∧ z.cells.size = size) (hsz : 0 < size)
    (v : Value) (n : Nat) (xs : List Value) (hs : a.eval s = v) (hown : w.ownsRow base e size v n xs)
    (A : Option Addr) (m c : Nat) (news : List Value) (hx : a.eval x = .slice A m c) (hl : news.length = m * size) (hr : Seg w A news) (h1 : ∀ u ∈ news, u.oneCell' = true)
    (h63 : n + m ≤ maxLen) (hbytes : (n + m) * bytes ≤ 140737488355328) (hbase : base ≤ w.heap.size)
    (h : ∀ v' w', w'.ownsRow base e size v' (n + m) (xs ++ news) → w.grownBy w' v.ownBlock → (∀ g, v.ownBlock = some g → base ≤ g) → K (a.put o.dst v') w') :
    if Region.wanted o (yielded ops a.tmps) = true then Oper.wp P o a w K Q else E := by
  have hw : Region.wanted o (yielded ops a.tmps) = true := by simp [Region.wanted, hgd]
  rw [if_pos hw]
  obtain ⟨i, z, hi, hz, hsize, hby, hzs⟩ := hi
  obtain ⟨v', w', hrun, h2, h3, h4⟩ := run_app (P := P) w base t o.type e i z size bytes ht hi hz hsize hby hzs hsz v n xs hown A m c news hl hr h1 h63 hbytes hbase
  unfold Oper.wp execOp
  simp only [ho, resolve, invoke, builtin, Sem.run_bind, Sem.run_pure, Result.andThen_ok, List.map_toArray, List.map_cons, List.map_nil, hs, hx, hrun]
  exact h v' w' h2 h3 (fun k hk => (hown.lt k hk).1)
end Go.QS
namespace Go.Proofs.YtigoffdehdobiaaGreat
open Go.RowKit Go.QS
set_option linter.unusedVariables false

end Go.Proofs.YtigoffdehdobiaaGreat
