/- Texts joined. -/
import Derived.Test.YtclcgelbcbnekaaDoorM03
import Derived.Test.YtclcgelbcbnekaaDoorRows
import Derived.Test.YtclcgelbcbnekaaDoorM00
import Derived.Deep.RegionHeld3
import Derived.Shelf.Spec.SlicesInsertGrow
import Derived.Test.YtclcgelbcbnekaaDoorM02
import Derived.Deep.LoopGhost
set_option linter.unusedVariables false
set_option linter.unusedSimpArgs false
/- Plain law: a branch put together of its label, its own pair and its kids (for the document's tree). No program. -/
namespace Go.QS

theorem asm {N : Nat} {l : List Pr} {lab : List UInt8} {val : Option (List UInt8)} {ks : List RT} (hne : l ≠ []) (hr : Rise l) (h1 : lab ≠ []) (hN : lab.length ≤ N)
    (hp : ∀ p ∈ l, p.1.take lab.length = lab) (hv : ∀ v, val = some v ↔ (lab, v) ∈ l) (hk : Kd (N - lab.length) ks)
    (hb : ∀ q, q ∈ belows ks ↔ q.1 ≠ [] ∧ (lab ++ q.1, q.2) ∈ l) (hmax : ∀ c, ∃ p ∈ l, p.1.take (lab.length + 1) ≠ lab ++ [c]) :
    Br N (RT.node lab val ks) ∧ pre lab (RT.node lab val ks).prs = l := by
  have hsplit : ∀ p ∈ l, p.1 = lab ++ p.1.drop lab.length := fun p h => by
    conv => rhs; lhs; rw [← hp p h]
    exact (List.take_append_drop _ _).symm
  constructor
  · refine ⟨h1, hN, ?_, hk⟩
    by_cases hs : val.isSome = true
    · exact .inl hs
    · right
      have hvn : val = none := by
        cases hv' : val with
        | none => rfl
        | some v => rw [hv'] at hs; exact absurd rfl hs
      have hlong : ∀ p ∈ l, p.1.drop lab.length ≠ [] := by
        intro p h e
        have e1 := hsplit p h
        rw [e, List.append_nil] at e1
        have := (hv p.2).2 (by rw [← e1]; exact h)
        rw [hvn] at this; cases this
      have hin : ∀ p ∈ l, (p.1.drop lab.length, p.2) ∈ belows ks := fun p h => (hb _).2 ⟨hlong p h, by rw [← hsplit p h]; exact h⟩
      obtain ⟨p, hpl⟩ := List.exists_mem_of_ne_nil l hne
      show 2 ≤ ks.length
      rcases ks with _ | ⟨k, _ | ⟨k2, r⟩⟩
      · have := hin p hpl
        rw [belows_nil] at this; cases this
      · obtain ⟨c, m, hkl⟩ := List.exists_cons_of_ne_nil (hk.ne k (List.mem_singleton_self k))
        obtain ⟨q, hq, hqn⟩ := hmax c
        exfalso
        apply hqn
        have := hin q hq
        rw [belows_cons, belows_nil, List.append_nil] at this
        obtain ⟨x, _, e⟩ := mem_pre.1 this
        simp only [Prod.mk.injEq] at e
        rw [hsplit q hq, e.1, hkl, List.take_append, List.take_of_length_le (Nat.le_succ _)]
        simp
      · simp
  · refine rise_ext _ _ (rise_pre (prs_rise_of hk hk.rise)) hr fun q => ?_
    rw [mem_pre]
    constructor
    · rintro ⟨p, hpp, rfl⟩
      rcases mem_below.1 hpp with ⟨e1, e2⟩ | h
      · simp only [RT.val_node] at e2
        rw [e1, List.append_nil]
        exact (hv p.2).1 e2
      · exact ((hb p).1 h).2
    · intro h
      refine ⟨(q.1.drop lab.length, q.2), ?_, ?_⟩
      · by_cases e : q.1.drop lab.length = []
        · refine mem_below.2 (.inl ⟨e, (hv q.2).2 ?_⟩)
          have e1 := hsplit q h
          rw [e, List.append_nil] at e1
          rw [← e1]; exact h
        · exact mem_below.2 (.inr ((hb _).2 ⟨e, by rw [← hsplit q h]; exact h⟩))
      · show q = (lab ++ q.1.drop lab.length, q.2)
        rw [← hsplit q h]
end Go.QS
/- Plain: the document's tree of a list: groups by first bytes, branches by what all keys begin with. No program. -/
namespace Go.QS

/-- How many bytes all keys begin with, as the document finds them. -/
def cmn (k0 : List UInt8) (l : List Pr) : Nat := l.foldl (fun n p => if common k0 p.1 < n then common k0 p.1 else n) k0.length
theorem cmn_nil (k0 : List UInt8) : cmn k0 [] = k0.length := rfl
theorem cmn_snoc (k0 : List UInt8) (l : List Pr) (p : Pr) : cmn k0 (l ++ [p]) = if common k0 p.1 < cmn k0 l then common k0 p.1 else cmn k0 l := by unfold cmn; rw [List.foldl_append]; rfl
theorem cmn_ok (k0 : List UInt8) (l : List Pr) : cmn k0 l ≤ k0.length ∧ (∀ p ∈ l, cmn k0 l ≤ common k0 p.1) ∧ (cmn k0 l = k0.length ∨ ∃ p ∈ l, common k0 p.1 = cmn k0 l) := by
  induction l using snoc_ind with
  | h0 => exact ⟨Nat.le_refl _, fun p h => (by cases h), .inl rfl⟩
  | h1 l p ih =>
    obtain ⟨h1, h2, h3⟩ := ih
    rw [cmn_snoc]
    split
    · rename_i hlt
      refine ⟨by omega, fun q hq => ?_, .inr ⟨p, by simp, rfl⟩⟩
      rcases List.mem_append.1 hq with hq | hq
      · have := h2 q hq; omega
      · rw [List.mem_singleton] at hq; rw [hq]; exact Nat.le_refl _
    · rename_i hge
      refine ⟨h1, fun q hq => ?_, ?_⟩
      · rcases List.mem_append.1 hq with hq | hq
        · exact h2 q hq
        · rw [List.mem_singleton] at hq; rw [hq]; omega
      · rcases h3 with h3 | ⟨q, hq, h3⟩
        · exact .inl h3
        · exact .inr ⟨q, List.mem_append.2 (.inl hq), h3⟩

/-- What is left of the pairs that are longer. -/
def restL (n : Nat) (l : List Pr) : List Pr := (l.filter fun p => p.1.length != n).map fun p => (p.1.drop n, p.2)
theorem restL_nil (n : Nat) : restL n [] = [] := rfl
theorem restL_snoc (n : Nat) (l : List Pr) (p : Pr) : restL n (l ++ [p]) = if p.1.length = n then restL n l else restL n l ++ [(p.1.drop n, p.2)] := by
  unfold restL
  rw [List.filter_append, List.map_append]
  by_cases h : p.1.length = n <;> simp [h]
theorem restL_len (n : Nat) (l : List Pr) : (restL n l).length ≤ l.length := by
  unfold restL
  rw [List.length_map]
  exact List.length_filter_le _ _
/-- The value of the pair that is just so long (the last one's). -/
def valL (n : Nat) (l : List Pr) : Option (List UInt8) := l.foldl (fun v p => if p.1.length = n then some p.2 else v) none
theorem valL_nil (n : Nat) : valL n [] = none := rfl
theorem valL_snoc (n : Nat) (l : List Pr) (p : Pr) : valL n (l ++ [p]) = if p.1.length = n then some p.2 else valL n l := by simp [valL]
theorem valL_iff {n : Nat} {lab : List UInt8} (hn : lab.length = n) : ∀ {l : List Pr}, Rise l → (∀ p ∈ l, p.1.take n = lab) → ∀ v, valL n l = some v ↔ (lab, v) ∈ l := by
  intro l
  induction l using snoc_ind with
  | h0 => intro _ _ v; simp [valL]
  | h1 l p ih =>
    intro hr hp v
    have hr' : Rise l ∧ ∀ q ∈ l, q.1 < p.1 := by
      unfold Rise at hr ⊢
      rw [List.pairwise_append] at hr
      exact ⟨hr.1, fun q hq => hr.2.2 q hq p (List.mem_singleton_self p)⟩
    have ih := ih hr'.1 (fun q hq => hp q (by simp [hq])) v
    have hpl := hp p (by simp)
    rw [valL_snoc]
    split
    · rename_i hl
      have hlab : p.1 = lab := by rw [← hpl, List.take_of_length_le (by omega)]
      simp only [Option.some.injEq, List.mem_append, List.mem_singleton]
      constructor
      · intro h; right; rw [← hlab, ← h]
      · rintro (h | h)
        · have := hr'.2 _ h
          simp only at this
          rw [hlab] at this
          exact absurd this (k_irrefl _)
        · rw [← h]
    · rename_i hl
      rw [ih]
      simp only [List.mem_append, List.mem_singleton]
      constructor
      · exact .inl
      · rintro (h | h)
        · exact h
        · rw [← h] at hl; exact absurd hn hl

theorem drop_lt {n : Nat} {lab a b : List UInt8} (ha : a.take n = lab) (hb : b.take n = lab) (h : a < b) : a.drop n < b.drop n := by
  rw [← List.take_append_drop n a, ← List.take_append_drop n b, ha, hb] at h
  exact (app_lt lab _ _).1 h
theorem restL_rise {n : Nat} {lab : List UInt8} {l : List Pr} (hr : Rise l) (hp : ∀ p ∈ l, p.1.take n = lab) : Rise (restL n l) := by
  unfold Rise restL at *
  rw [List.pairwise_map]
  have h2 := List.Pairwise.sublist (List.filter_sublist (p := fun p : Pr => p.1.length != n) (l := l)) hr
  refine List.Pairwise.imp_of_mem (fun {a b} ha hb h => ?_) h2
  exact drop_lt (hp a (List.mem_filter.1 ha).1) (hp b (List.mem_filter.1 hb).1) h
theorem restL_mem {n : Nat} {lab : List UInt8} (hn : lab.length = n) {l : List Pr} (hp : ∀ p ∈ l, p.1.take n = lab) (q : Pr) : q ∈ restL n l ↔ q.1 ≠ [] ∧ (lab ++ q.1, q.2) ∈ l := by
  unfold restL
  simp only [List.mem_map, List.mem_filter, bne_iff_ne]
  constructor
  · rintro ⟨p, ⟨h1, h2⟩, rfl⟩
    have e : lab ++ p.1.drop n = p.1 := by rw [← hp p h1, List.take_append_drop]
    refine ⟨?_, by simp only; rw [e]; exact h1⟩
    intro e2
    simp only at e2
    rw [e2, List.append_nil] at e
    exact h2 (by rw [← e]; exact hn)
  · rintro ⟨h1, h2⟩
    refine ⟨_, ⟨h2, ?_⟩, ?_⟩
    · simp only [List.length_append]
      have : 0 < q.1.length := List.length_pos_iff.2 h1
      omega
    · simp only
      rw [List.drop_left' hn]

theorem cmn_pos {k0 u0 : List UInt8} {l : List Pr} (h0 : l[0]? = some (k0, u0)) {x : UInt8} (hx : ∀ p ∈ l, ∃ m, p.1 = x :: m) : 0 < cmn k0 l := by
  obtain ⟨c1, c2, c3⟩ := cmn_ok k0 l
  have hm0 : (k0, u0) ∈ l := List.mem_of_getElem? h0
  obtain ⟨m0, hm⟩ := hx _ hm0
  simp only at hm
  rcases c3 with c3 | ⟨p, hp, c3⟩
  · rw [c3, hm]; simp
  · obtain ⟨m, hm'⟩ := hx p hp
    rw [← c3, hm, hm', common_pos]; omega
theorem cmn_take {k0 u0 : List UInt8} {l : List Pr} (h0 : l[0]? = some (k0, u0)) : ∀ p ∈ l, p.1.take (cmn k0 l) = k0.take (cmn k0 l) := by
  intro p hp
  have h1 := common_take k0 p.1
  have h2 := (cmn_ok k0 l).2.1 p hp
  have := congrArg (List.take (cmn k0 l)) h1
  rw [List.take_take, List.take_take, Nat.min_eq_left h2] at this
  exact this.symm
/-- A branch of pairs that begin alike. -/
theorem branch_ok {N : Nat} {k0 : List UInt8} {u0 : List UInt8} {l : List Pr} {ks : List RT} (h0 : l[0]? = some (k0, u0)) (hr : Rise l) {x : UInt8} (hx : ∀ p ∈ l, ∃ m, p.1 = x :: m) (hN : ∀ p ∈ l, p.1.length ≤ N)
    (hk : Kd (N - cmn k0 l) ks) (hb : belows ks = restL (cmn k0 l) l) :
    0 < cmn k0 l ∧ cmn k0 l ≤ k0.length ∧ Br N (RT.node (k0.take (cmn k0 l)) (valL (cmn k0 l) l) ks) ∧ pre (k0.take (cmn k0 l)) (RT.node (k0.take (cmn k0 l)) (valL (cmn k0 l) l) ks).prs = l := by
  obtain ⟨c1, c2, c3⟩ := cmn_ok k0 l
  have hm0 : (k0, u0) ∈ l := List.mem_of_getElem? h0
  obtain ⟨m0, hm⟩ := hx _ hm0
  simp only at hm
  have hpos : 0 < cmn k0 l := by
    rcases c3 with c3 | ⟨p, hp, c3⟩
    · rw [c3, hm]; simp
    · obtain ⟨m, hm'⟩ := hx p hp
      rw [← c3, hm, hm', common_pos]; omega
  have hlen : (k0.take (cmn k0 l)).length = cmn k0 l := by rw [List.length_take]; omega
  have htake : ∀ p ∈ l, p.1.take (cmn k0 l) = k0.take (cmn k0 l) := by
    intro p hp
    have h1 := common_take k0 p.1
    have h2 := c2 p hp
    have := congrArg (List.take (cmn k0 l)) h1
    rw [List.take_take, List.take_take, Nat.min_eq_left h2] at this
    exact this.symm
  have := asm (N := N) (l := l) (lab := k0.take (cmn k0 l)) (val := valL (cmn k0 l) l) (ks := ks) (List.ne_nil_of_mem hm0) hr
    (by intro e; rw [e] at hlen; simp at hlen; omega) (by rw [hlen]; exact Nat.le_trans c1 (hN _ hm0)) (by rw [hlen]; exact htake)
    (valL_iff hlen hr htake) (by rw [hlen]; exact hk) (by intro q; rw [hb]; exact restL_mem hlen htake q)
    (by
      intro c
      rw [hlen]
      rcases c3 with c3 | ⟨p, hp, c3⟩
      · refine ⟨_, hm0, ?_⟩
        intro e
        have := congrArg List.length e
        simp only [List.length_take, List.length_append, List.length_cons, List.length_nil] at this
        omega
      · by_cases hn : cmn k0 l = k0.length
        · refine ⟨_, hm0, ?_⟩
          intro e
          have := congrArg List.length e
          simp only [List.length_take, List.length_append, List.length_cons, List.length_nil] at this
          omega
        · by_cases e1 : p.1.take (cmn k0 l + 1) = k0.take (cmn k0 l) ++ [c]
          · refine ⟨_, hm0, ?_⟩
            intro e2
            simp only at e2
            have g1 : p.1.drop (cmn k0 l) = c :: p.1.drop (cmn k0 l + 1) := by
              have := congrArg (List.drop (cmn k0 l)) e1
              rw [List.drop_left' hlen, List.drop_take] at this
              rcases hd : p.1.drop (cmn k0 l) with _ | ⟨y, r⟩
              · rw [hd] at this; simp at this
              · rw [hd] at this
                simp at this
                rw [this]
                have := congrArg (List.drop 1) hd
                rw [List.drop_drop] at this
                simpa using this.symm
            have g2 : k0.drop (cmn k0 l) = c :: k0.drop (cmn k0 l + 1) := by
              have := congrArg (List.drop (cmn k0 l)) e2
              rw [List.drop_left' hlen, List.drop_take] at this
              rcases hd : k0.drop (cmn k0 l) with _ | ⟨y, r⟩
              · rw [hd] at this; simp at this
              · rw [hd] at this
                simp at this
                rw [this]
                have := congrArg (List.drop 1) hd
                rw [List.drop_drop] at this
                simpa using this.symm
            rw [← c3] at g1 g2
            exact common_next k0 p.1 g2 g1 rfl
          · exact ⟨p, hp, e1⟩)
  exact ⟨hpos, c1, this.1, this.2⟩

/-! ### Groups -/
theorem fstB_le {p q : Pr} (hp : p.1 ≠ []) (hq : q.1 ≠ []) (h : p.1 < q.1) : fstB p ≤ fstB q := by
  obtain ⟨a, x, ha⟩ := List.exists_cons_of_ne_nil hp
  obtain ⟨b, y, hb⟩ := List.exists_cons_of_ne_nil hq
  rw [ha, hb, List.cons_lt_cons_iff] at h
  unfold fstB
  rw [ha, hb]
  rcases h with h | ⟨h, _⟩
  · have := UInt8.lt_iff_toNat_lt.1 h
    simp; omega
  · simp [h]
/-- All ahead of a place begin lower than all from it on. -/
def Part (l : List Pr) (i : Nat) : Prop := ∀ p ∈ l.take i, ∀ q ∈ l.drop i, fstB p < fstB q
theorem rise_le {l : List Pr} (hr : Rise l) (hne : ∀ p ∈ l, p.1 ≠ []) {i j : Nat} {p q : Pr} (hi : l[i]? = some p) (hj : l[j]? = some q) (hij : i ≤ j) : fstB p ≤ fstB q := by
  rcases Nat.lt_or_eq_of_le hij with h | rfl
  · obtain ⟨e1, e2⟩ := List.getElem?_eq_some_iff.1 hi
    obtain ⟨e3, e4⟩ := List.getElem?_eq_some_iff.1 hj
    have := List.pairwise_iff_getElem.1 hr _ _ e1 e3 h
    rw [e2, e4] at this
    exact fstB_le (hne p (List.mem_of_getElem? hi)) (hne q (List.mem_of_getElem? hj)) this
  · rw [hi] at hj; cases hj; exact Nat.le_refl _
theorem part_next {l : List Pr} (hr : Rise l) (hne : ∀ p ∈ l, p.1 ≠ []) {i k : Nat} (hik : i ≤ k) (hP : Part l i) {a : Pr} (ha : l[i]? = some a) (hs : ∀ j q, i ≤ j → j < k → l[j]? = some q → fstB q = fstB a)
    (hend : ∀ q, l[k]? = some q → fstB q ≠ fstB a) : Part l k := by
  intro p hp q hq
  obtain ⟨jp, hjp⟩ := List.getElem?_of_mem hp
  obtain ⟨jq, hjq⟩ := List.getElem?_of_mem hq
  rw [List.getElem?_drop] at hjq
  have hjk : jp < k := by
    have := (List.getElem?_eq_some_iff.1 hjp).1
    rw [List.length_take] at this; omega
  rw [List.getElem?_take_of_lt hjk] at hjp
  have hkl : k < l.length := by have := (List.getElem?_eq_some_iff.1 hjq).1; omega
  obtain ⟨b, hb⟩ := get_of_lt l hkl
  have h1 := rise_le hr hne hb hjq (by omega)
  have h2 := rise_le hr hne ha hb hik
  have h3 := hend b hb
  rcases Nat.lt_or_ge jp i with h | h
  · have := hP p (List.mem_of_getElem? (i := jp) (by rw [List.getElem?_take_of_lt h]; exact hjp)) a (List.mem_of_getElem? (i := 0) (by rw [List.getElem?_drop]; exact ha))
    omega
  · have := hs jp p h hjk hjp
    omega
theorem kd_snoc {N : Nat} {ks : List RT} {t : RT} (h : Kd N ks) (ht : Br N t) (hlt : ∀ k ∈ ks, k.hd < t.hd) : Kd N (ks ++ [t]) := by
  rw [kd_iff] at h ⊢
  refine ⟨?_, fun k hk => ?_⟩
  · unfold Heads at *
    exact List.pairwise_append.2 ⟨h.1, List.pairwise_singleton _ _, fun a ha b hb => by rw [List.mem_singleton] at hb; rw [hb]; exact hlt a ha⟩
  · rcases List.mem_append.1 hk with hk | hk
    · exact h.2 k hk
    · rw [List.mem_singleton] at hk; rw [hk]; exact ht
theorem seg_split {α : Type} {l : List α} {i k : Nat} (hik : i ≤ k) : l.take k = l.take i ++ (l.drop i).take (k - i) := by
  conv => lhs; rw [show k = i + (k - i) by omega]
  rw [List.take_add]
/-- One group more. -/
theorem group_ok {N : Nat} {l : List Pr} (hne : ∀ p ∈ l, p.1 ≠ []) {i k : Nat} (hik : i < k) {a : Pr} (ha : l[i]? = some a) (hP : Part l i) {ks : List RT} {t : RT} (hk : Kd N ks) (hb : belows ks = l.take i) (ht : Br N t) (hpre : pre t.lab t.prs = (l.drop i).take (k - i)) :
    Kd N (ks ++ [t]) ∧ belows (ks ++ [t]) = l.take k := by
  have hma : a ∈ pre t.lab t.prs := by
    rw [hpre]
    exact List.mem_of_getElem? (i := 0) (by rw [List.getElem?_take_of_lt (by omega), List.getElem?_drop]; exact ha)
  have hta := fstB_pre ht.1 hma
  constructor
  · refine kd_snoc hk ht fun x hx => ?_
    obtain ⟨q, hq⟩ := List.exists_mem_of_ne_nil _ (prs_ne (hk.br hx))
    have hmq : (x.lab ++ q.1, q.2) ∈ pre x.lab x.prs := mem_pre.2 ⟨q, hq, rfl⟩
    have h1 := fstB_pre (hk.br hx).1 hmq
    have h2 : (x.lab ++ q.1, q.2) ∈ l.take i := by rw [← hb]; exact mem_belows.2 ⟨x, hx, hmq⟩
    have := hP _ h2 a (List.mem_of_getElem? (i := 0) (by rw [List.getElem?_drop]; exact ha))
    omega
  · rw [belows_append, hb, belows_cons, belows_nil, List.append_nil, hpre, ← seg_split (by omega)]
end Go.QS
/- Contracts of the small functions of the radix chapter, without a token. -/
namespace Go.Proofs.YtclcgelbcbnekaaDoor
open Go.RowKit Go.QS
set_option linter.unusedVariables false

theorem liveR_nil (w : World) : Calls Tryd.prog 51 #[.pointer none] w fun e w' => e = .returned (.bool false) ∧ w = w' := by
  go_enter Tryd.func51, Tryd.ntmps51
  repeat' (first | go_skip | go_guarded | go_step)
  go_ret
  exact ⟨rfl, rfl⟩

end Go.Proofs.YtclcgelbcbnekaaDoor
/- Contracts: a node of one's own (no token), a leaf. -/
namespace Go.Proofs.YtclcgelbcbnekaaDoor
open Go.RowKit Go.QS
set_option linter.unusedVariables false

theorem row_set {w : World} {base : Nat} {e : TypeId} {k n : Nat} {v : Value} {xs : List Value} (h : w.ownsRow base e k v n xs) (a : Addr) (u : Value) (hne : a.block < base) : (w.setCell a u).ownsRow base e k v n xs := by
  refine ⟨h.1, ?_⟩
  rcases h.2 with h | ⟨g, cap, cur, h1, h2, h3, h4⟩
  · exact .inl h
  · exact .inr ⟨g, cap, cur, h1, h2, (Below.heap_setCell w a u g (by omega)).trans h3, h4⟩
theorem row_ext {w w' : World} {base : Nat} {e : TypeId} {k n : Nat} {v : Value} {xs : List Value} (h : w.ownsRow base e k v n xs) (hb : Ext w w') : w'.ownsRow base e k v n xs := by
  refine ⟨h.1, ?_⟩
  rcases h.2 with h | ⟨g, cap, cur, h1, h2, h3, h4⟩
  · exact .inl h
  · exact .inr ⟨g, cap, cur, h1, h2, (hb.block g (heap_lt h3)).trans h3, h4⟩

theorem own_slice {w : World} {base : Nat} {e : TypeId} {k n : Nat} {v : Value} {xs : List Value} (h : w.ownsRow base e k v n xs) : ∃ A c, v = .slice A n c := by
  rcases h.2 with ⟨rfl, rfl⟩ | ⟨g, cap, cur, h1, h2, h3, h4⟩
  · exact ⟨_, _, rfl⟩
  · exact ⟨_, _, h1⟩

end Go.Proofs.YtclcgelbcbnekaaDoor
/- Contracts: slices.Insert at the slices of nodes: its four roads. -/
namespace Go.Proofs.YtclcgelbcbnekaaDoor
open Go.RowKit Go.QS Go.Lib Go.Shelf
set_option linter.unusedVariables false

end Go.Proofs.YtclcgelbcbnekaaDoor
/- Contract: slices.Insert at the slices of nodes, of a row of one's own. -/
namespace Go.Proofs.YtclcgelbcbnekaaDoor
open Go.RowKit Go.QS Go.Lib
set_option linter.unusedVariables false

theorem heap_setCells (b : Nat) (e : TypeId) (f : Nat × Nat) : ∀ (vs : List Value) (o : Nat) (w : World) (cur : Array Value), w.heap[b]? = some (.cells cur e f) → o + vs.length ≤ cur.size →
    ∃ cur', (w.setCells b o vs).heap[b]? = some (.cells cur' e f) ∧ cur'.size = cur.size ∧ cur'.toList = cur.toList.take o ++ vs ++ cur.toList.drop (o + vs.length)
  | [], o, w, cur, h, hl => ⟨cur, h, rfl, by simp⟩
  | v :: r, o, w, cur, h, hl => by
    simp only [List.length_cons] at hl
    obtain ⟨cur', h1, h2, h3⟩ := heap_setCells b e f r (o + 1) (w.setCell ⟨b, o, none⟩ v) _ (heap_set h o v) (by simp; omega)
    refine ⟨cur', h1, by simpa using h2, ?_⟩
    rw [h3]
    have ho : o < cur.toList.length := by simp; omega
    rw [Array.toList_setIfInBounds, List.take_set, List.drop_set_of_lt (by omega), List.length_cons, List.take_succ_eq_append_getElem ho, show o + 1 + r.length = o + (r.length + 1) by omega]
    have : ((cur.toList.take o) ++ [cur.toList[o]]).set o v = cur.toList.take o ++ [v] := by
      rw [List.set_append_right _ _ (by simp; omega)]
      have : o - (cur.toList.take o).length = 0 := by simp; omega
      rw [this]; rfl
    rw [this]
    simp

theorem grown_setCell' (w : World) (g j : Nat) (u : Value) : w.grownBy (w.setCell ⟨g, j, none⟩ u) (some g) :=
  ⟨rfl, rfl, rfl, by simp, fun k _ hne => Below.heap_setCell w ⟨g, j, none⟩ u k (fun h => hne (by rw [h]))⟩
theorem grown_setCells (b : Nat) : ∀ (vs : List Value) (o : Nat) (w : World), w.grownBy (w.setCells b o vs) (some b)
  | [], o, w => World.grownBy.refl w _
  | v :: r, o, w => World.grownBy.trans (grown_setCell' w b o v) (grown_setCells b r (o + 1) _)
theorem grown_ext' {w w' : World} {row : Option Nat} (hb : Ext w w') : w.grownBy w' row := ⟨hb.os, hb.tape, hb.output, hb.size, fun k hk _ => hb.block k hk⟩
theorem ext_grown {w w' : World} (hb : w.grownBy w' none) : Ext w w' := ⟨hb.os, hb.tape, hb.output, hb.size, fun k hk => hb.block k hk (by simp)⟩
theorem below_setCells {B : Nat} {a : World} (b : Nat) (hb : B ≤ b) : ∀ (vs : List Value) (o : Nat) (w : World), Below B a w → Below B a (w.setCells b o vs)
  | [], o, w, h => h
  | v :: r, o, w, h => below_setCells b hb r (o + 1) _ (h.setCell hb v)

theorem heap_new (w : World) (o : Obj) : (w.alloc o).heap[w.heap.size]? = some o := by
  simp only [World.alloc]; simp
theorem seg_of_heap {w : World} {b : Nat} {e : TypeId} {f : Nat × Nat} {cur : Array Value} (h : w.heap[b]? = some (.cells cur e f)) (j : Nat) : w.cell? ⟨b, j, none⟩ = cur[j]? := by
  simp [World.cell?, h]

end Go.Proofs.YtclcgelbcbnekaaDoor
/- Contract: where a kid is, or would be. -/
namespace Go.Proofs.YtclcgelbcbnekaaDoor
open Go.RowKit Go.QS
set_option linter.unusedVariables false

theorem hd_cons {x : UInt8} {l : List UInt8} {k : RT} (h : k.lab = x :: l) : k.hd = x.toNat := by simp [RT.hd, h]
theorem hd_lt (k : RT) : k.hd < 256 := UInt8.toNat_lt _

end Go.Proofs.YtclcgelbcbnekaaDoor
/- Contracts: beginnings that are alike; begins with. -/
namespace Go.Proofs.YtclcgelbcbnekaaDoor
open Go.RowKit Go.QS
set_option linter.unusedVariables false

theorem common_le : ∀ (a b : List UInt8), common a b ≤ a.length ∧ common a b ≤ b.length
  | [], b => by simp [common]
  | a :: x, [] => by simp [common]
  | a :: x, b :: y => by
    have := common_le x y
    unfold common
    split <;> simp <;> omega
theorem common_at : ∀ {a b : List UInt8} {k : Nat}, k ≤ a.length → k ≤ b.length → a.take k = b.take k → (k = a.length ∨ k = b.length ∨ a[k]? ≠ b[k]?) → common a b = k
  | [], b, k, h, _, _, _ => by simp at h; subst h; simp [common]
  | a :: x, [], k, _, h, _, _ => by simp at h; subst h; simp [common]
  | a :: x, b :: y, 0, _, _, _, h => by
    have : a ≠ b := by
      intro e
      rcases h with h | h | h
      · simp at h
      · simp at h
      · simp [e] at h
    simp [common, this]
  | a :: x, b :: y, k + 1, h1, h2, h3, h4 => by
    simp only [List.take_succ_cons, List.cons.injEq] at h3
    obtain ⟨rfl, h3⟩ := h3
    have := common_at (a := x) (b := y) (k := k) (by simpa using h1) (by simpa using h2) h3 (by simpa using h4)
    simp [common, this]

def begins (s p : List UInt8) : Bool := s.take p.length == p
theorem begins_short {s p : List UInt8} (h : ¬ p.length ≤ s.length) : begins s p = false := by
  unfold begins
  rw [beq_eq_false_iff_ne]
  intro e
  have := congrArg List.length e
  simp at this
  omega

end Go.Proofs.YtclcgelbcbnekaaDoor
