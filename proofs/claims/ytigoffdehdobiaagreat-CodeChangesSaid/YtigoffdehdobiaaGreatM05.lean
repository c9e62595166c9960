/- Texts joined. -/
import Derived.Test.YtigoffdehdobiaaGreatRc
import Derived.Test.YtigoffdehdobiaaGreatM01
import Derived.Test.YtigoffdehdobiaaGreatM00
set_option linter.unusedVariables false
set_option linter.unusedSimpArgs false
/- Contract: slices.Insert at the slices of nodes, of a row of one's own. -/
namespace Go.Proofs.YtigoffdehdobiaaGreat
open Go.RowKit Go.QS Go.Lib
set_option linter.unusedVariables false

theorem heap_setCells (b : Nat) (e : TypeId) (f : Nat × Nat) : ∀ (vs : List Value) (o : Nat) (w : World) (cur : Array Value), w.heap[b]? = some (.cells cur e f) → o + vs.length ≤ cur.size →
    ∃ cur', (w.setCells b o vs).heap[b]? = some (.cells cur' e f) ∧ cur'.size = cur.size ∧ cur'.toList = cur.toList.take o ++ vs ++ cur.toList.drop (o + vs.length)
  | [], o, w, cur, h, hl => ⟨cur, h, rfl, by simp⟩
  | v :: r, o, w, cur, h, hl => by
    simp only [List.length_cons] at hl
    obtain ⟨cur', h1, h2, h3⟩ := heap_setCells b e f r (o + 1) (w.setCell ⟨b, o, none⟩ v) _ (heap_set h o v) (by simp; omega)
    refine ⟨cur', h1, by simpa using h2, ?_⟩
    rw [h3]
    have ho : o < cur.toList.length := by simp; omega
    rw [Array.toList_setIfInBounds, List.take_set, List.drop_set_of_lt (by omega), List.length_cons, List.take_succ_eq_append_getElem ho, show o + 1 + r.length = o + (r.length + 1) by omega]
    have : ((cur.toList.take o) ++ [cur.toList[o]]).set o v = cur.toList.take o ++ [v] := by
      rw [List.set_append_right _ _ (by simp; omega)]
      have : o - (cur.toList.take o).length = 0 := by simp; omega
      rw [this]; rfl
    rw [this]
    simp

theorem grown_setCell' (w : World) (g j : Nat) (u : Value) : w.grownBy (w.setCell ⟨g, j, none⟩ u) (some g) :=
  ⟨rfl, rfl, rfl, by simp, fun k _ hne => Below.heap_setCell w ⟨g, j, none⟩ u k (fun h => hne (by rw [h]))⟩
theorem grown_setCells (b : Nat) : ∀ (vs : List Value) (o : Nat) (w : World), w.grownBy (w.setCells b o vs) (some b)
  | [], o, w => World.grownBy.refl w _
  | v :: r, o, w => World.grownBy.trans (grown_setCell' w b o v) (grown_setCells b r (o + 1) _)
theorem grown_ext' {w w' : World} {row : Option Nat} (hb : Ext w w') : w.grownBy w' row := ⟨hb.os, hb.tape, hb.output, hb.size, fun k hk _ => hb.block k hk⟩
theorem ext_grown {w w' : World} (hb : w.grownBy w' none) : Ext w w' := ⟨hb.os, hb.tape, hb.output, hb.size, fun k hk => hb.block k hk (by simp)⟩
theorem below_setCells {B : Nat} {a : World} (b : Nat) (hb : B ≤ b) : ∀ (vs : List Value) (o : Nat) (w : World), Below B a w → Below B a (w.setCells b o vs)
  | [], o, w, h => h
  | v :: r, o, w, h => below_setCells b hb r (o + 1) _ (h.setCell hb v)

theorem heap_new (w : World) (o : Obj) : (w.alloc o).heap[w.heap.size]? = some o := by
  simp only [World.alloc]; simp
theorem seg_of_heap {w : World} {b : Nat} {e : TypeId} {f : Nat × Nat} {cur : Array Value} (h : w.heap[b]? = some (.cells cur e f)) (j : Nat) : w.cell? ⟨b, j, none⟩ = cur[j]? := by
  simp [World.cell?, h]

end Go.Proofs.YtigoffdehdobiaaGreat
/- Plain laws of kids in order: where one is, or would be. No program. -/
namespace Go.QS

/-- Labels' first bytes rise. -/
def Heads (ks : List RT) : Prop := ks.Pairwise fun a b => a.hd < b.hd

theorem fI_cons (x : RT) (l : List RT) (c : Nat) : fI (x :: l) c = if x.hd < c then fI l c + 1 else 0 := by
  unfold fI
  rw [List.takeWhile_cons]
  by_cases h : x.hd < c <;> simp [h]
theorem fI_nil (c : Nat) : fI [] c = 0 := rfl
theorem fI_le (l : List RT) (c : Nat) : fI l c ≤ l.length := (List.takeWhile_sublist _).length_le

theorem fI_first : ∀ {l : List RT} {c i : Nat}, i ≤ l.length → (∀ t q, t < i → l[t]? = some q → q.hd < c) → (∀ q, l[i]? = some q → ¬ q.hd < c) → i = fI l c
  | [], c, i, h, _, _ => by simpa [fI] using h
  | x :: l, c, 0, _, _, h => by
    rw [fI_cons, if_neg (h x rfl)]
  | x :: l, c, i + 1, hi, h1, h2 => by
    rw [fI_cons, if_pos (h1 0 x (Nat.zero_lt_succ _) rfl), ← fI_first (by simpa using hi) (fun t q ht hq => h1 (t + 1) q (Nat.succ_lt_succ ht) hq) (fun q hq => h2 q hq)]

theorem fI_lt {l : List RT} {c t : Nat} {q : RT} (ht : t < fI l c) (hq : l[t]? = some q) : q.hd < c := by
  induction l generalizing t with
  | nil => cases hq
  | cons x l ih =>
    rw [fI_cons] at ht
    split at ht
    · cases t with
      | zero => cases hq; assumption
      | succ t => exact ih (Nat.lt_of_succ_lt_succ ht) hq
    · omega

theorem heads_cons {x : RT} {l : List RT} : Heads (x :: l) ↔ (∀ q ∈ l, x.hd < q.hd) ∧ Heads l := List.pairwise_cons

theorem fI_ge {l : List RT} {c t : Nat} {q : RT} (hs : Heads l) (ht : fI l c ≤ t) (hq : l[t]? = some q) : c ≤ q.hd := by
  induction l generalizing t with
  | nil => cases hq
  | cons x l ih =>
    rw [heads_cons] at hs
    rw [fI_cons] at ht
    split at ht
    · cases t with
      | zero => omega
      | succ t => exact ih hs.2 (by omega) hq
    · rename_i hx
      cases t with
      | zero => cases hq; omega
      | succ t => have := hs.1 q (List.mem_of_getElem? hq); omega

theorem fH_iff {l : List RT} {c : Nat} : fH l c = true ↔ ∃ q ∈ l, q.hd = c := by simp [fH]

theorem fH_at {l : List RT} {c : Nat} (hs : Heads l) : fH l c = (match l[fI l c]? with | some q => q.hd == c | none => false) := by
  cases h : l[fI l c]? with
  | none =>
    rw [Bool.eq_false_iff]
    intro hc
    obtain ⟨q, hq, e⟩ := fH_iff.1 hc
    obtain ⟨t, ht⟩ := List.getElem?_of_mem hq
    have h1 := (List.getElem?_eq_some_iff.1 ht).1
    have h2 := List.getElem?_eq_none_iff.1 h
    have := fI_lt (show t < fI l c by omega) ht
    omega
  | some q =>
    show fH l c = (q.hd == c)
    rw [Bool.eq_iff_iff, fH_iff, beq_iff_eq]
    constructor
    · rintro ⟨p, hp, e⟩
      obtain ⟨t, ht⟩ := List.getElem?_of_mem hp
      rcases Nat.lt_trichotomy t (fI l c) with h1 | h1 | h1
      · have := fI_lt h1 ht; omega
      · subst h1; rw [ht] at h; cases h; exact e
      · have hq := fI_ge hs (Nat.le_refl _) h
        obtain ⟨e1, e2⟩ := List.getElem?_eq_some_iff.1 h
        obtain ⟨e3, e4⟩ := List.getElem?_eq_some_iff.1 ht
        have := List.pairwise_iff_getElem.1 hs _ _ e1 e3 h1
        rw [e2, e4] at this
        omega
    · intro e
      exact ⟨q, List.mem_of_getElem? h, e⟩
end Go.QS
/- The order of strings, byte by byte: laws. No program. -/
namespace Go.QS

theorem bless : ∀ (x y : List UInt8), Op.bytesLess x y = decide (x < y)
  | [], [] => by simp [Op.bytesLess]
  | _ :: _, [] => by simp [Op.bytesLess]
  | [], _ :: _ => by simp [Op.bytesLess]
  | a :: x, b :: y => by
    rw [Op.bytesLess, bless x y, Bool.eq_iff_iff]
    simp [List.cons_lt_cons_iff]

theorem k_irrefl (a : List UInt8) : ¬ a < a := List.lt_irrefl a
theorem k_trans {a b c : List UInt8} (h : a < b) (k : b < c) : a < c := List.lt_trans h k
theorem k_asymm {a b : List UInt8} (h : a < b) : ¬ b < a := fun k => k_irrefl a (k_trans h k)
theorem k_tri (a b : List UInt8) : a < b ∨ a = b ∨ b < a := by
  rcases Classical.em (a < b) with h | h
  · exact .inl h
  · rcases Classical.em (b < a) with k | k
    · exact .inr (.inr k)
    · exact .inr (.inl (List.le_antisymm (List.not_lt.1 k) (List.not_lt.1 h)))
theorem k_ne {a b : List UInt8} (h : a < b) : a ≠ b := fun e => k_irrefl a (by rw [e] at h ⊢; exact h)

/-- What cmp.Compare answers. -/
def cmpB (a b : List UInt8) : Int := if a < b then -1 else if b < a then 1 else 0
theorem cmpB_neg (a b : List UInt8) : cmpB a b < 0 ↔ a < b := by
  unfold cmpB
  by_cases h : a < b
  · simp [h]
  · by_cases k : b < a <;> simp [h, k]
theorem cmpB_zero (a b : List UInt8) : cmpB a b = 0 ↔ a = b := by
  unfold cmpB
  rcases k_tri a b with h | h | h
  · simp [h, k_ne h]
  · subst h; simp [k_irrefl]
  · simp [h, k_asymm h, (k_ne h).symm]
end Go.QS
