/- Texts joined. -/
import Derived.Test.YtclcgelbcbnekaaMa
import Derived.Test.YtclcgelbcbnekaaBb
import Derived.Test.YtclcgelbcbnekaaBh
set_option linter.unusedVariables false
set_option linter.unusedSimpArgs false
/- What comes and goes again: plain laws of lists. No program. -/
namespace Go.QS

/-- The keys of K are those by which Y is more than X. -/
def Gone (X Y : List Pr) (K : List (List UInt8)) : Prop := ∀ q : Pr, (q ∈ Y ∧ q.1 ∉ K) ↔ q ∈ X
theorem Gone.nil (X : List Pr) : Gone X X [] := fun q => by simp
theorem Gone.put {X Y : List Pr} {K : List (List UInt8)} {p : Pr} (hn : hasK X p.1 = false) (h : Gone X Y K) : Gone X (rput Y p) (K ++ [p.1]) := by
  have hx : ∀ q ∈ X, q.1 ≠ p.1 := by
    intro q hq e
    have : hasK X p.1 = true := hasK_iff.2 ⟨q, hq, e⟩
    rw [hn] at this; cases this
  intro q
  rw [mem_rput, List.mem_append, List.mem_singleton]
  constructor
  · rintro ⟨h1, h2⟩
    have h3 : q.1 ∉ K := fun h => h2 (.inl h)
    have h4 : q.1 ≠ p.1 := fun h => h2 (.inr h)
    rcases h1 with rfl | ⟨h1, _⟩
    · exact absurd rfl h4
    · exact (h q).1 ⟨h1, h3⟩
  · intro hq
    have := (h q).2 hq
    refine ⟨.inr ⟨this.1, hx q hq⟩, ?_⟩
    rintro (h | h)
    · exact this.2 h
    · exact hx q hq h
theorem mem_swap {α : Type} {K : List α} {i j : Nat} {a b : α} (hi : K[i]? = some a) (hj : K[j]? = some b) (k : α) : k ∈ (K.set i b).set j a ↔ k ∈ K := by
  have hil := (List.getElem?_eq_some_iff.1 hi).1
  have hjl := (List.getElem?_eq_some_iff.1 hj).1
  simp only [List.mem_iff_getElem?]
  constructor
  · rintro ⟨n, hn⟩
    by_cases h1 : j = n
    · rw [List.getElem?_set, if_pos h1] at hn
      rw [if_pos (by simpa using hjl)] at hn
      cases hn
      exact ⟨i, hi⟩
    · rw [List.getElem?_set_ne h1] at hn
      by_cases h2 : i = n
      · rw [List.getElem?_set, if_pos h2, if_pos hil] at hn
        cases hn
        exact ⟨j, hj⟩
      · rw [List.getElem?_set_ne h2] at hn
        exact ⟨n, hn⟩
  · rintro ⟨n, hn⟩
    by_cases h1 : n = i
    · subst h1
      rw [hi] at hn
      cases hn
      refine ⟨j, ?_⟩
      rw [List.getElem?_set, if_pos rfl, if_pos (by simpa using hjl)]
    · by_cases h2 : n = j
      · subst h2
        rw [hj] at hn
        cases hn
        refine ⟨i, ?_⟩
        by_cases h3 : n = i
        · exact absurd h3 h1
        · rw [List.getElem?_set_ne h3, List.getElem?_set, if_pos rfl, if_pos hil]
      · refine ⟨n, ?_⟩
        rw [List.getElem?_set_ne (fun e => h2 e.symm), List.getElem?_set_ne (fun e => h1 e.symm)]
        exact hn
/-- So far gone. -/
def GoneTo (Y Z : List Pr) (K : List (List UInt8)) : Prop := ∀ q : Pr, q ∈ Z ↔ q ∈ Y ∧ q.1 ∉ K
theorem GoneTo.nil (Y : List Pr) : GoneTo Y Y [] := fun q => by simp
theorem GoneTo.drop {Y Z : List Pr} {K : List (List UInt8)} (h : GoneTo Y Z K) (k : List UInt8) : GoneTo Y (rdrop Z k) (K ++ [k]) := by
  intro q
  rw [mem_rdrop, h q, List.mem_append, List.mem_singleton]
  constructor
  · rintro ⟨⟨h1, h2⟩, h3⟩
    exact ⟨h1, fun h => h.elim h2 h3⟩
  · rintro ⟨h1, h2⟩
    exact ⟨⟨h1, fun h => h2 (.inl h)⟩, fun h => h2 (.inr h)⟩
theorem gone_end {X Y Z : List Pr} {K L : List (List UInt8)} (hX : Rise X) (hZ : Rise Z) (h1 : Gone X Y K) (h2 : ∀ k, k ∈ L ↔ k ∈ K) (h3 : GoneTo Y Z L) : Z = X :=
  rise_ext Z X hZ hX fun q => by rw [h3 q, h2, h1 q]
end Go.QS
/- In which order pairs come says nothing: plain laws of lists. No program. -/
namespace Go.QS

/-- So far, at most so many, cut. -/
def cutM (N : Nat) (l : List Pr) (i : Nat) : List Pr := ((l.take i).take N).map fun p => (p.1.take 40, p.2.take 40)
theorem cutM_zero (N : Nat) (l : List Pr) : cutM N l 0 = [] := by simp [cutM]
theorem cutM_step {N : Nat} {l : List Pr} {i : Nat} {p : Pr} (h : l[i]? = some p) (hi : i < N) : cutM N l (i + 1) = cutM N l i ++ [(p.1.take 40, p.2.take 40)] := by
  unfold cutM
  have hl : i < l.length := (List.getElem?_eq_some_iff.1 h).1
  have e1 : ((l.take i ++ [p]).take N) = l.take i ++ [p] := List.take_of_length_le (by simp; omega)
  have e2 : (l.take i).take N = l.take i := List.take_of_length_le (by simp; omega)
  rw [take_snoc h, e1, e2, List.map_append]
  rfl
theorem cutM_stay {N : Nat} {l : List Pr} {i : Nat} (hi : N ≤ i) : cutM N l (i + 1) = cutM N l i := by
  unfold cutM
  rw [List.take_take, List.take_take, show min N (i + 1) = N by omega, show min N i = N by omega]
theorem cutM_length (N : Nat) (l : List Pr) (i : Nat) : (cutM N l i).length ≤ N := by simp [cutM]; omega
theorem cutM_short {N : Nat} {l : List Pr} {i : Nat} {q : Pr} (h : q ∈ cutM N l i) : q.1.length ≤ 40 ∧ q.2.length ≤ 40 := by
  obtain ⟨p, _, rfl⟩ := List.mem_map.1 h
  simp; omega

/-- Pairs that rise, put one behind the other. -/
theorem rput_take {X : List Pr} (hr : Rise X) {i : Nat} {p : Pr} (h : X[i]? = some p) : rput (X.take i) p = X.take (i + 1) := by
  have hri : ∀ j, Rise (X.take j) := fun j => List.Pairwise.sublist (List.take_sublist j X) hr
  refine rise_ext _ _ (rput_rise (hri i) p) (hri (i + 1)) fun q => ?_
  rw [mem_rput, take_snoc h, List.mem_append, List.mem_singleton]
  constructor
  · rintro (rfl | ⟨h1, _⟩)
    · exact .inr rfl
    · exact .inl h1
  · rintro (h1 | rfl)
    · refine .inr ⟨h1, fun e => ?_⟩
      have hp := hri (i + 1)
      rw [take_snoc h] at hp
      have := (List.pairwise_append.1 hp).2.2 q h1 p (by simp)
      rw [e] at this
      exact k_irrefl _ this
    · exact .inl rfl

/-- Pairs put, of which no two unlike have one key. -/
theorem mem_puts {M0 : List Pr} : ∀ (L : List Pr), (∀ p ∈ L, ∀ q ∈ L, p.1 = q.1 → p = q) → ∀ q, q ∈ L.foldl rput M0 ↔ q ∈ L ∨ (q ∈ M0 ∧ ∀ p ∈ L, p.1 ≠ q.1) := by
  intro L
  induction L using snoc_ind with
  | h0 => intro _ q; simp
  | h1 L x ih =>
    intro hu q
    rw [List.foldl_append]
    simp only [List.foldl_cons, List.foldl_nil]
    rw [mem_rput, ih (fun p hp q hq => hu p (by simp [hp]) q (by simp [hq])) q]
    simp only [List.mem_append, List.mem_singleton]
    constructor
    · rintro (rfl | ⟨h1 | ⟨h1, h2⟩, h3⟩)
      · exact .inl (.inr rfl)
      · exact .inl (.inl h1)
      · refine .inr ⟨h1, fun p hp => ?_⟩
        rcases hp with hp | rfl
        · exact h2 p hp
        · exact fun e => h3 e.symm
    · rintro ((h1 | h1) | ⟨h1, h2⟩)
      · by_cases e : q.1 = x.1
        · exact .inl (hu q (by simp [h1]) x (by simp) e)
        · exact .inr ⟨.inl h1, e⟩
      · exact .inl h1
      · exact .inr ⟨.inr ⟨h1, fun p hp => h2 p (.inl hp)⟩, fun e => h2 x (.inr rfl) e.symm⟩

/-- What came and went, and what came in another order. -/
theorem order_end {X Tn M0 M2 : List Pr} {K : List UInt8 → Prop} (hX : Rise X) (hM : Rise M2) (hT : ∀ q, q ∈ Tn ↔ q ∈ X) (h0 : ∀ q ∈ M0, K q.1)
    (h1 : ∀ q ∈ X, q ∈ Tn.foldl rput M0 → q ∈ M2) (h2 : ∀ q ∈ M2, q ∈ Tn.foldl rput M0) (h3 : ∀ q ∈ M2, K q.1 → hasK X q.1 = true) : M2 = X := by
  have huX : ∀ p ∈ X, ∀ q ∈ X, p.1 = q.1 → p = q := by
    intro p hp q hq e
    obtain ⟨i, hi⟩ := List.mem_iff_getElem?.1 hp
    obtain ⟨j, hj⟩ := List.mem_iff_getElem?.1 hq
    have hil := (List.getElem?_eq_some_iff.1 hi)
    have hjl := (List.getElem?_eq_some_iff.1 hj)
    obtain ⟨hi1, hi2⟩ := hil
    obtain ⟨hj1, hj2⟩ := hjl
    rcases Nat.lt_trichotomy i j with h | h | h
    · have := List.pairwise_iff_getElem.1 hX i j hi1 hj1 h
      rw [hi2, hj2, e] at this
      exact absurd this (k_irrefl _)
    · subst h; rw [hi] at hj; exact Option.some.inj hj
    · have := List.pairwise_iff_getElem.1 hX j i hj1 hi1 h
      rw [hi2, hj2, e] at this
      exact absurd this (k_irrefl _)
  have hu : ∀ p ∈ Tn, ∀ q ∈ Tn, p.1 = q.1 → p = q := fun p hp q hq e => huX p ((hT p).1 hp) q ((hT q).1 hq) e
  refine rise_ext _ _ hM hX fun q => ⟨fun hq => ?_, fun hq => h1 q hq ((mem_puts Tn hu q).2 (.inl ((hT q).2 hq)))⟩
  rcases (mem_puts Tn hu q).1 (h2 q hq) with h | ⟨h, hn⟩
  · exact (hT q).1 h
  · obtain ⟨p, hp, e⟩ := hasK_iff.1 (h3 q hq (h0 q h))
    exact absurd e (hn p ((hT p).2 hp))
end Go.QS
/- Nodes and tries stay where no block of theirs turns. -/
namespace Go.QS
open Go.RowKit Go.QS.Nk
variable [Zero (Nat → Prop)]
set_option linter.unusedSectionVars false
theorem Sl.only9 {w w' : World} {k n : Nat} {v : Value} {xs : List Value} {T0 : Nat → Prop} (h : Sl w k v n xs) (f : Only T0 w w') (hT : ∀ b, v.ownBlock = some b → ¬ T0 b) : Sl w' k v n xs := by
  obtain ⟨A, C, rfl, h1, h2, h3, h4⟩ := h
  refine ⟨A, C, rfl, h1, h2, h3, fun hne => ?_⟩
  obtain ⟨b, o, rfl, hc⟩ := h4 hne
  exact ⟨b, o, rfl, fun j u hu => f.cell (hc j u hu) (hT b rfl)⟩
section
variable {T : TypeId} {w w' : World} {T0 : Nat → Prop} (f : Only T0 w w') (hT : ∀ b, T0 b → ¬ S9 b)
include f hT
theorem Nd.only {g d n : Nat} {ps : List Pr} {ks : List Nat} {bk : Bool} {ow : Option Addr} {pv kv : Value} (h : Nd T w g d n ps ks bk ow pv kv) : Nd T w' g d n ps ks bk ow pv kv :=
  ⟨h.node.only f (fun e => hT g e h.gS), Sl.only9 h.pairs f (fun b hb e => hT b e (h.pS b hb)), Sl.only9 h.kids f (fun b hb e => hT b e (h.kS b hb)), fun k hk => h.nw k (Nat.le_trans f.size hk), h.gS, h.pS, h.kS, fun b hb => Nat.lt_of_lt_of_le (h.pL b hb) f.size, fun b hb => Nat.lt_of_lt_of_le (h.kL b hb) f.size⟩
theorem In.only {g : Nat} {sl : List (Slot Nat)} (h : In T w g sl) : In T w' g sl := by
  obtain ⟨h0, ow, pv, kv, h1⟩ := h
  exact ⟨h0, ow, pv, kv, h1.only f hT⟩
theorem Bk.only {g : Nat} {l : List Pr} (h : Bk T w g l) : Bk T w' g l := by
  obtain ⟨ow, pv, kv, h1⟩ := h
  exact ⟨ow, pv, kv, h1.only f hT⟩
theorem TR.only {H : List UInt8 → Nat} : ∀ (k : Nat) {g : Nat} {l : List Pr}, TR T H w k g l → TR T H w' k g l
  | 0, _, _, hR => Bk.only f hT hR
  | k + 1, _, _, ⟨sl, h1, h2⟩ => ⟨sl, In.only f hT h1, fun c s hs => (h2 c s hs).mono fun _ hk => TR.only k hk⟩
end
end Go.QS
namespace Go.QS
open Go.RowKit Go.QS.Nk
section
variable {T : TypeId} {w w' : World} {T0 : Nat → Prop} {i1 i2 : Zero (Nat → Prop)}
/-- From one set of blocks to another. -/
theorem Nd.turn9 (f : Only T0 w w') (hT : ∀ b, T0 b → ¬ @S9 i1 b) (h1 : ∀ b, b < w.heap.size → @S9 i1 b → @S9 i2 b) (h2 : ∀ b, w'.heap.size ≤ b → @S9 i2 b) {g d n : Nat} {ps : List Pr} {ks : List Nat} {bk : Bool} {ow : Option Addr} {pv kv : Value} (h : @Nd i1 T w g d n ps ks bk ow pv kv) : @Nd i2 T w' g d n ps ks bk ow pv kv :=
  by
  obtain ⟨a1, a2, a3, a4, a5, a6, a7, a8, a9⟩ := h
  exact ⟨a1.only f (fun e => hT g e a5), Sl.only9 a2 f (fun b hb e => hT b e (a6 b hb)), Sl.only9 a3 f (fun b hb e => hT b e (a7 b hb)), h2, h1 g a1.lt a5, fun b hb => h1 b (a8 b hb) (a6 b hb), fun b hb => h1 b (a9 b hb) (a7 b hb), fun b hb => Nat.lt_of_lt_of_le (a8 b hb) f.size, fun b hb => Nat.lt_of_lt_of_le (a9 b hb) f.size⟩
theorem In.turn9 (f : Only T0 w w') (hT : ∀ b, T0 b → ¬ @S9 i1 b) (h1 : ∀ b, b < w.heap.size → @S9 i1 b → @S9 i2 b) (h2 : ∀ b, w'.heap.size ≤ b → @S9 i2 b) {g : Nat} {sl : List (Slot Nat)} (h : @In i1 T w g sl) : @In i2 T w' g sl := by
  obtain ⟨h0, ow, pv, kv, h3⟩ := h
  exact ⟨h0, ow, pv, kv, h3.turn9 f hT h1 h2⟩
theorem Bk.turn9 (f : Only T0 w w') (hT : ∀ b, T0 b → ¬ @S9 i1 b) (h1 : ∀ b, b < w.heap.size → @S9 i1 b → @S9 i2 b) (h2 : ∀ b, w'.heap.size ≤ b → @S9 i2 b) {g : Nat} {l : List Pr} (h : @Bk i1 T w g l) : @Bk i2 T w' g l := by
  obtain ⟨ow, pv, kv, h3⟩ := h
  exact ⟨ow, pv, kv, h3.turn9 f hT h1 h2⟩
theorem TR.turn9 (f : Only T0 w w') (hT : ∀ b, T0 b → ¬ @S9 i1 b) (h1 : ∀ b, b < w.heap.size → @S9 i1 b → @S9 i2 b) (h2 : ∀ b, w'.heap.size ≤ b → @S9 i2 b) {H : List UInt8 → Nat} : ∀ (k : Nat) {g : Nat} {l : List Pr}, @TR i1 T H w k g l → @TR i2 T H w' k g l
  | 0, _, _, hR => Bk.turn9 f hT h1 h2 hR
  | k + 1, _, _, ⟨sl, a, b⟩ => ⟨sl, In.turn9 f hT h1 h2 a, fun c s hs => (b c s hs).mono fun _ hk => TR.turn9 f hT h1 h2 k hk⟩
/-- What an extension leaves, told as a turn of no block. -/
theorem Only.none {w w' : World} (f : Ext w w') : Only (fun _ => False) w w' := Only.of_ext f
/-- All blocks but a row's. -/
abbrev SV (v : Value) : Zero (Nat → Prop) := ⟨fun k => v.ownBlock ≠ some k⟩
theorem SV.out {v : Value} {b : Nat} (h : v.ownBlock ≠ some b) : @S9 (SV v) b := h
theorem SV.not {v : Value} {b : Nat} (h : v.ownBlock = some b) : ¬ @S9 (SV v) b := fun e => e h
/-- A row grows by append: a trie that lies elsewhere stays, and lies elsewhere. -/
theorem TR.grow {v v' : Value} (hg : w.grownBy w' v.ownBlock) (hv : v'.ownBlock = v.ownBlock ∨ v'.ownBlock = some w.heap.size) (hl : ∀ b, v'.ownBlock = some b → b < w'.heap.size) {H : List UInt8 → Nat} {k g : Nat} {l : List Pr} (h : @TR (SV v) T H w k g l) : @TR (SV v') T H w' k g l :=
  TR.turn9 (Only.of_grown hg) (fun b hb => SV.not hb) (fun b hb h1 => SV.out (by
    rcases hv with e | e
    · rw [e]; exact h1
    · rw [e]; intro e2; cases e2; omega)) (fun b hb => SV.out (fun e => by have := hl b e; omega)) k h
end
end Go.QS
