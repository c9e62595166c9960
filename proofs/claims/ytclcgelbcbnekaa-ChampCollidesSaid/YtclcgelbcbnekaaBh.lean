/- Texts joined. -/
import Derived.Test.YtclcgelbcbnekaaMa
import Derived.Test.YtclcgelbcbnekaaBb
import Derived.Test.YtclcgelbcbnekaaCd
import Derived.Test.YtclcgelbcbnekaaOa
import Derived.Deep.RegionWith
set_option linter.unusedVariables false
set_option linter.unusedSimpArgs false
/- Tries of hashes, plainly: a chunk's own pairs; a node in memory is the trie of a list. No program. -/
set_option linter.unusedVariables false
namespace Go.QS
open Go.RowKit Go.QS.Nk
variable [Zero (Nat → Prop)]
set_option linter.unusedSectionVars false

/-- Five bits of a hash. -/
def chk (x lv : Nat) : Nat := x / 32 ^ lv % 32
theorem chk_lt (x lv : Nat) : chk x lv < 32 := Nat.mod_lt _ (by decide)
/-- A chunk's own pairs. -/
def part (H : List UInt8 → Nat) (lv c : Nat) (l : List Pr) : List Pr := l.filter fun p => chk (H p.1) lv == c
def getL (key : List UInt8) (x : List Pr) : Option (List UInt8) := (x.find? fun p => p.1 == key).map fun p => p.2
section
variable {H : List UInt8 → Nat} {lv c : Nat} {l : List Pr} {p q : Pr} {k : List UInt8}
theorem mem_part : q ∈ part H lv c l ↔ q ∈ l ∧ chk (H q.1) lv = c := by simp [part]
theorem part_rise (h : Rise l) : Rise (part H lv c l) := List.Pairwise.filter _ h
theorem part_length : (part H lv c l).length ≤ l.length := List.length_filter_le _ _
theorem part_nil : part H lv c [] = [] := rfl
theorem part_put (h : Rise l) : part H lv (chk (H p.1) lv) (rput l p) = rput (part H lv (chk (H p.1) lv) l) p := by
  refine rise_ext _ _ (part_rise (rput_rise h p)) (rput_rise (part_rise h) p) fun q => ?_
  rw [mem_part, mem_rput, mem_rput, mem_part]
  constructor
  · rintro ⟨rfl | ⟨h1, h2⟩, h3⟩
    · exact .inl rfl
    · exact .inr ⟨⟨h1, h3⟩, h2⟩
  · rintro (rfl | ⟨⟨h1, h3⟩, h2⟩)
    · exact ⟨.inl rfl, rfl⟩
    · exact ⟨.inr ⟨h1, h2⟩, h3⟩
theorem part_put_off (h : Rise l) (hc : chk (H p.1) lv ≠ c) : part H lv c (rput l p) = part H lv c l := by
  refine rise_ext _ _ (part_rise (rput_rise h p)) (part_rise h) fun q => ?_
  rw [mem_part, mem_rput, mem_part]
  constructor
  · rintro ⟨rfl | ⟨h1, h2⟩, h3⟩
    · exact absurd h3 hc
    · exact ⟨h1, h3⟩
  · rintro ⟨h1, h3⟩
    exact ⟨.inr ⟨h1, fun e => hc (by rw [← e]; exact h3)⟩, h3⟩
theorem part_drop : part H lv c (rdrop l k) = rdrop (part H lv c l) k := by
  unfold part rdrop
  rw [List.filter_filter, List.filter_filter]
  congr 1
  funext q
  exact Bool.and_comm _ _
theorem part_drop_off (hc : chk (H k) lv ≠ c) : part H lv c (rdrop l k) = part H lv c l := by
  rw [part_drop]
  refine rdrop_self ?_
  rw [Bool.eq_false_iff]
  intro h
  obtain ⟨q, h1, h2⟩ := hasK_iff.1 h
  exact hc (by rw [← h2]; exact (mem_part.1 h1).2)
theorem part_has : hasK (part H lv (chk (H k) lv) l) k = hasK l k := by
  rw [Bool.eq_iff_iff, hasK_iff, hasK_iff]
  constructor
  · rintro ⟨q, h1, h2⟩
    exact ⟨q, (mem_part.1 h1).1, h2⟩
  · rintro ⟨q, h1, h2⟩
    exact ⟨q, mem_part.2 ⟨h1, by rw [h2]⟩, h2⟩
theorem part_get : getL k (part H lv (chk (H k) lv) l) = getL k l := by
  unfold getL part
  rw [List.find?_filter]
  congr 2
  funext q
  by_cases h : q.1 = k
  · simp [h]
  · simp [h]
theorem part_mem : p ∈ part H lv (chk (H p.1) lv) l ↔ p ∈ l := by simp [mem_part]
theorem rput_self (h : Rise l) (hp : p ∈ l) : rput l p = l := by
  refine rise_ext _ _ (rput_rise h p) h fun q => ?_
  rw [mem_rput]
  constructor
  · rintro (rfl | ⟨h1, _⟩)
    · exact hp
    · exact h1
  · intro hq
    by_cases e : q.1 = p.1
    · left
      have a := (lastK_rise h q).2 hq
      have b := (lastK_rise h p).2 hp
      rw [e] at a
      rw [a] at b
      exact Option.some.inj b
    · exact .inr ⟨hq, e⟩
theorem rput_len (h : Rise l) : l.length ≤ (rput l p).length := by
  rw [rput_cut h p]
  split
  · rename_i hk
    have := hasK_at (k := p.1) h
    have h2 : fndI l p.1 < l.length := by
      rw [hk] at this
      cases hh : l[fndI l p.1]? with
      | none => rw [hh] at this; simp at this
      | some q => exact (List.getElem?_eq_some_iff.1 hh).1
    simp only [List.length_append, List.length_take, List.length_cons, List.length_drop]
    omega
  · have := fndI_le l p.1
    simp only [List.length_append, List.length_take, List.length_cons, List.length_drop]
    omega
theorem rput_one (hk : p.1 = q.1) : rput [q] p = [p] := by
  simp [rput, rdrop, insB, hk]
theorem two_rise (hk : p.1 ≠ q.1) : Rise (rput [q] p) ∧ (rput [q] p).length = 2 ∧ ∀ x, x ∈ rput [q] p ↔ x = p ∨ x = q := by
  have hr : Rise [q] := by simp [Rise]
  refine ⟨rput_rise hr p, ?_, fun x => ?_⟩
  · have e : rdrop [q] p.1 = [q] := rdrop_self (by simp [hasK]; exact fun e => hk e.symm)
    unfold rput
    rw [e]
    simp only [insB]
    split <;> simp
  · rw [mem_rput]
    simp only [List.mem_singleton]
    constructor
    · rintro (h | ⟨h, _⟩)
      · exact .inl h
      · exact .inr h
    · rintro (h | rfl)
      · exact .inl h
      · exact .inr ⟨rfl, fun e => hk e.symm⟩
theorem has_rput : hasK (rput l p) p.1 = true := hasK_iff.2 ⟨p, mem_rput.2 (.inl rfl), rfl⟩
theorem rise_two {a b : Pr} (h : Rise [a, b]) : a.1 < b.1 := by simp [Rise] at h; exact h
theorem two_swap (hk : p.1 ≠ q.1) : rput [q] p = rput [p] q := by
  have h1 := two_rise hk
  have h2 := two_rise (fun e => hk e.symm)
  exact rise_ext _ _ h1.1 h2.1 fun x => by rw [h1.2.2, h2.2.2, or_comm]
theorem part_two_all (hk : p.1 ≠ q.1) (h1 : chk (H p.1) lv = c) (h2 : chk (H q.1) lv = c) : part H lv c (rput [q] p) = rput [q] p := by
  refine List.filter_eq_self.2 fun x hx => ?_
  rcases ((two_rise hk).2.2 x).1 hx with rfl | rfl
  · simp [h1]
  · simp [h2]
theorem part_two_none (hk : p.1 ≠ q.1) (h1 : chk (H p.1) lv ≠ c) (h2 : chk (H q.1) lv ≠ c) : part H lv c (rput [q] p) = [] := by
  refine List.filter_eq_nil_iff.2 fun x hx => ?_
  rcases ((two_rise hk).2.2 x).1 hx with rfl | rfl
  · simp [h1]
  · simp [h2]
theorem part_two_p (hk : p.1 ≠ q.1) (h1 : chk (H p.1) lv = c) (h2 : chk (H q.1) lv ≠ c) : part H lv c (rput [q] p) = [p] := by
  refine rise_ext _ _ (part_rise (two_rise hk).1) (by simp [Rise]) fun x => ?_
  rw [mem_part, (two_rise hk).2.2]
  simp only [List.mem_singleton]
  constructor
  · rintro ⟨rfl | rfl, h3⟩
    · rfl
    · exact absurd h3 h2
  · rintro rfl
    exact ⟨.inl rfl, h1⟩
end

/-- What a chunk has, of these pairs. -/
def SlotOk (R : Nat → List Pr → Prop) (s : Slot Nat) (x : List Pr) : Prop :=
  match s with
  | .no => x = []
  | .pr p => x = [p]
  | .kid k => 2 ≤ x.length ∧ R k x
theorem SlotOk.mono {R R' : Nat → List Pr → Prop} {s : Slot Nat} {x : List Pr} (h : SlotOk R s x) (hR : ∀ k, R k x → R' k x) : SlotOk R' s x := by
  cases s with
  | no => exact h
  | pr p => exact h
  | kid k => exact ⟨h.1, hR k h.2⟩
/-- A node in memory is the trie of these pairs, of so many levels more. -/
def TR (T : TypeId) (H : List UInt8 → Nat) (w : World) : Nat → Nat → List Pr → Prop
  | 0, g, l => Bk T w g l
  | f + 1, g, l => ∃ sl, In T w g sl ∧ ∀ c s, sl[c]? = some s → SlotOk (TR T H w f) s (part H (12 - f) c l)
section
variable {T : TypeId} {H : List UInt8 → Nat} {w w' : World} {g : Nat} {l : List Pr}
theorem TR.ext (h : Ext w w') : ∀ (f : Nat) {g : Nat} {l : List Pr}, TR T H w f g l → TR T H w' f g l
  | 0, _, _, hR => Bk.ext hR h
  | f + 1, _, _, ⟨sl, h1, h2⟩ => ⟨sl, h1.ext h, fun c s hs => (h2 c s hs).mono fun _ hk => TR.ext h f hk⟩
theorem TR.get {f : Nat} {sl : List (Slot Nat)} (h1 : In T w g sl) (h2 : ∀ c s, sl[c]? = some s → SlotOk (TR T H w f) s (part H (12 - f) c l)) {c : Nat} (hc : c < 32) : ∃ s, sl[c]? = some s ∧ SlotOk (TR T H w f) s (part H (12 - f) c l) := by
  obtain ⟨s, hs⟩ := get_of_lt sl (show c < sl.length by rw [h1.1]; exact hc)
  exact ⟨s, hs, h2 c s hs⟩
/-- A place turned. -/
theorem TR.turn {f i g' : Nat} {sl : List (Slot Nat)} {s : Slot Nat} {l' : List Pr} (h2 : ∀ c s, sl[c]? = some s → SlotOk (TR T H w f) s (part H (12 - f) c l)) (hE : Ext w w') (hN : In T w' g' (sl.set i s)) (hs : SlotOk (TR T H w' f) s (part H (12 - f) i l')) (ho : ∀ c, c ≠ i → part H (12 - f) c l' = part H (12 - f) c l) : TR T H w' (f + 1) g' l' := by
  refine ⟨_, hN, fun c s' hc => ?_⟩
  by_cases e : c = i
  · subst e
    rw [List.getElem?_set] at hc
    simp only [if_pos] at hc
    split at hc
    · cases hc; exact hs
    · cases hc
  · rw [List.getElem?_set_ne (fun h => e h.symm)] at hc
    rw [ho c e]
    exact (h2 c s' hc).mono fun _ hk => TR.ext hE f hk
theorem TR.none {f : Nat} (h : In T w g (sl0 Nat)) : TR T H w (f + 1) g [] := by
  refine ⟨_, h, fun c s hs => ?_⟩
  have hc := get_lt hs
  rw [sl0_length] at hc
  rw [sl0_get hc] at hs
  cases hs
  exact part_nil

/-- How many: those of the node itself, and of each kid. -/
theorem parts_len (H : List UInt8 → Nat) (lv : Nat) (l : List Pr) (n : Nat) : (l.filter fun p => decide (chk (H p.1) lv < n + 1)).length = (l.filter fun p => decide (chk (H p.1) lv < n)).length + (part H lv n l).length := by
  induction l with
  | nil => rfl
  | cons p l ih =>
    unfold part at ih ⊢
    simp only [List.filter_cons]
    rcases Nat.lt_trichotomy (chk (H p.1) lv) n with h | h | h
    · have h1 : chk (H p.1) lv < n + 1 := by omega
      have h2 : (chk (H p.1) lv == n) = false := by simp; omega
      simp only [h, h1, h2, decide_true, if_true, List.length_cons, Bool.false_eq_true, if_false, ih]; omega
    · have h1 : chk (H p.1) lv < n + 1 := by omega
      have h2 : (chk (H p.1) lv == n) = true := by simp [h]
      have h3 : ¬ chk (H p.1) lv < n := by omega
      simp only [h3, h1, h2, decide_true, decide_false, if_true, List.length_cons, Bool.false_eq_true, if_false, ih]; omega
    · have h1 : ¬ chk (H p.1) lv < n + 1 := by omega
      have h2 : (chk (H p.1) lv == n) = false := by simp; omega
      have h3 : ¬ chk (H p.1) lv < n := by omega
      simp only [h3, h1, h2, decide_false, Bool.false_eq_true, if_false, ih]
def sumL : List (List Pr) → Nat
  | [] => 0
  | x :: r => x.length + sumL r
theorem sumL_append : ∀ (a b : List (List Pr)), sumL (a ++ b) = sumL a + sumL b
  | [], b => by simp [sumL]
  | x :: a, b => by simp only [List.cons_append, sumL, sumL_append a b]; omega
/-- Kids and their lists. -/
structure KidsOk (R : Nat → List Pr → Prop) (ks : List Nat) (Ls : List (List Pr)) : Prop where
  len : ks.length = Ls.length
  ok : ∀ (i : Nat) k x, ks[i]? = some k → Ls[i]? = some x → 2 ≤ x.length ∧ R k x
theorem parts_sum {R : Nat → List Pr → Prop} {sl : List (Slot Nat)} {lv : Nat} (h2 : ∀ c s, sl[c]? = some s → SlotOk R s (part H lv c l)) : ∀ n, n ≤ sl.length → ∃ Ls, KidsOk R (kdsOf (sl.take n)) Ls ∧ (prsOf (sl.take n)).length + sumL Ls = (l.filter fun p => decide (chk (H p.1) lv < n)).length
  | 0, _ => ⟨[], ⟨by simp [kdsOf], fun i k x h => by simp [kdsOf] at h⟩, by
      have e : (l.filter fun p => decide (chk (H p.1) lv < 0)) = [] := List.filter_eq_nil_iff.2 fun p _ => by simp
      rw [e]; simp [prsOf, sumL]⟩
  | n + 1, hn => by
    obtain ⟨Ls, ⟨hk1, hk2⟩, hl⟩ := parts_sum h2 n (by omega)
    obtain ⟨s, hs⟩ := get_of_lt sl (show n < sl.length by omega)
    have ok := h2 n s hs
    rw [parts_len, take_snoc hs, kdsOf_append, prsOf_append]
    cases s with
    | no =>
      have e : part H lv n l = [] := ok
      have e1 : kdsOf [(Slot.no : Slot Nat)] = [] := rfl
      have e2 : prsOf [(Slot.no : Slot Nat)] = [] := rfl
      rw [e, e1, e2, List.append_nil, List.append_nil]
      exact ⟨Ls, ⟨hk1, hk2⟩, hl⟩
    | pr p =>
      have e : part H lv n l = [p] := ok
      have e1 : kdsOf [(Slot.pr p : Slot Nat)] = [] := rfl
      have e2 : prsOf [(Slot.pr p : Slot Nat)] = [p] := rfl
      rw [e, e1, e2, List.append_nil]
      refine ⟨Ls, ⟨hk1, hk2⟩, ?_⟩
      simp only [List.length_append, List.length_cons, List.length_nil]
      omega
    | kid k =>
      obtain ⟨h3, h4⟩ : 2 ≤ (part H lv n l).length ∧ R k (part H lv n l) := ok
      refine ⟨Ls ++ [part H lv n l], ⟨by rw [List.length_append, List.length_append, hk1]; rfl, fun i k' x ha hb => ?_⟩, ?_⟩
      · have e : kdsOf [Slot.kid k] = [k] := rfl
        rw [e] at ha
        rcases Nat.lt_trichotomy i (kdsOf (sl.take n)).length with h | h | h
        · rw [List.getElem?_append_left h] at ha
          rw [List.getElem?_append_left (by omega)] at hb
          exact hk2 i k' x ha hb
        · rw [List.getElem?_append_right (by omega), h, Nat.sub_self] at ha
          rw [List.getElem?_append_right (by omega), h, ← hk1, Nat.sub_self] at hb
          cases ha; cases hb
          exact ⟨h3, h4⟩
        · rw [List.getElem?_append_right (by omega)] at ha
          have := (List.getElem?_eq_some_iff.1 ha).1
          simp at this
          omega
      · have e : prsOf [Slot.kid k] = [] := rfl
        rw [e, sumL_append]
        simp only [sumL, List.append_nil]
        omega
theorem TR.sum {f : Nat} {sl : List (Slot Nat)} (h1 : In T w g sl) (h2 : ∀ c s, sl[c]? = some s → SlotOk (TR T H w f) s (part H (12 - f) c l)) : ∃ Ls, KidsOk (TR T H w f) (kdsOf sl) Ls ∧ (prsOf sl).length + sumL Ls = l.length := by
  obtain ⟨Ls, hk, hl⟩ := parts_sum h2 32 (by rw [h1.1]; exact Nat.le_refl _)
  have e : sl.take 32 = sl := List.take_of_length_le (by rw [h1.1]; exact Nat.le_refl _)
  rw [e] at hk hl
  refine ⟨Ls, hk, hl.trans ?_⟩
  congr 1
  exact List.filter_eq_self.2 fun p _ => by simp [chk_lt]
theorem sumL_ge {R : Nat → List Pr → Prop} {ks : List Nat} {Ls : List (List Pr)} (h : KidsOk R ks Ls) : ∀ n, n ≤ Ls.length → 2 * n ≤ sumL (Ls.take n)
  | 0, _ => Nat.zero_le _
  | n + 1, hn => by
    have ih := sumL_ge h n (by omega)
    obtain ⟨x, hx⟩ := get_of_lt Ls (show n < Ls.length by omega)
    obtain ⟨k, hk⟩ := get_of_lt ks (show n < ks.length by rw [h.len]; omega)
    have := (h.ok n k x hk hx).1
    rw [take_snoc hx, sumL_append]
    simp only [sumL]
    omega
/-- What stands alone. -/
theorem TR.alone {f : Nat} {sl : List (Slot Nat)} {p : Pr} (h1 : In T w g sl) (h2 : ∀ c s, sl[c]? = some s → SlotOk (TR T H w f) s (part H (12 - f) c [p])) : prsOf sl = [p] ∧ kdsOf sl = [] := by
  obtain ⟨Ls, hk, hl⟩ := TR.sum h1 h2
  have h3 := sumL_ge hk _ (Nat.le_refl _)
  rw [List.take_length] at h3
  have h4 := hk.len
  simp at hl
  have h5 : kdsOf sl = [] := List.eq_nil_of_length_eq_zero (by omega)
  have h6 : Ls = [] := List.eq_nil_of_length_eq_zero (by omega)
  rw [h6] at hl
  simp [sumL] at hl
  obtain ⟨q, hq⟩ := List.length_eq_one_iff.1 hl
  have h7 : q ∈ prsOf sl := by rw [hq]; simp
  obtain ⟨s, hs, hg⟩ := List.mem_filterMap.1 h7
  obtain ⟨i, hi⟩ := List.mem_iff_getElem?.1 hs
  cases s with
  | no => simp at hg
  | kid k => simp at hg
  | pr q' =>
    simp at hg
    subst hg
    have h8 : part H (12 - f) i [p] = [q'] := h2 i _ hi
    have h9 : q' ∈ part H (12 - f) i [p] := by rw [h8]; simp
    have := (mem_part.1 h9).1
    simp at this
    subst this
    exact ⟨hq, h5⟩
theorem TR.many {f : Nat} {sl : List (Slot Nat)} (h1 : In T w g sl) (h2 : ∀ c s, sl[c]? = some s → SlotOk (TR T H w f) s (part H (12 - f) c l)) (hl : 2 ≤ l.length) : ¬ (kdsOf sl = [] ∧ (prsOf sl).length = 1) := by
  rintro ⟨h3, h4⟩
  obtain ⟨Ls, hk, h5⟩ := TR.sum h1 h2
  have := hk.len
  rw [h3] at this
  have h6 : Ls = [] := List.eq_nil_of_length_eq_zero this.symm
  rw [h6] at h5
  simp [sumL] at h5
  omega
end
end Go.QS
/- Contracts: a bucket's Put and Drop, without a token; a bucket's value; an empty bucket. -/
namespace Go.Proofs.Ytclcgelbcbnekaa
open Go.RowKit Go.QS Go.QS.Nk
set_option linter.unusedVariables false
variable [Zero (Nat → Prop)]
set_option linter.unusedSectionVars false

theorem bk_fin {w x1 x3 : World} {c B : Nat} {L L' : List Pr} {ow : Option Addr} {pv kv v3 : Value} (hE : Ext w x1) (hc : w.heap.size ≤ c) (hN : NdO ND NP NK B x1 c 0 0 L [] true ow pv kv) (f : Ext x1 x3) {B2 : Nat} (r : x3.ownsRow B2 NP 2 v3 L'.length (flat L')) (hnw : ∀ k, w.heap.size ≤ k → S9 k) (hB : w.heap.size ≤ B) (hB2 : w.heap.size ≤ B2) :
    Bk ND (x3.setCell ⟨c, 2, none⟩ v3) c L' ∧ Ext w (x3.setCell ⟨c, 2, none⟩ v3) := by
  have nd := (hN.ext f)
  refine ⟨⟨ow, v3, kv, nd.node.set2 v3, PS.of_own (own_other r nd.node (by decide) 2 v3), Sl.of_own (own_other nd.kids nd.node (by decide) 2 v3), fun k hk => hnw k (Nat.le_trans hE.size (Nat.le_trans f.size (by simpa [World.setCell] using hk))), hnw c hc, fun b hb => hnw b (Nat.le_trans hB2 (World.ownsRow.lt r b hb).1), fun b hb => hnw b (Nat.le_trans hB (World.ownsRow.lt hN.kids b hb).1), fun b hb => (by have h1 := (World.ownsRow.lt r b hb).2; simpa [World.setCell] using h1), fun b hb => (by have h1 := (World.ownsRow.lt nd.kids b hb).2; simpa [World.setCell] using h1)⟩, ?_⟩
  exact (hE.trans f).setCell hc v3
set_option maxRecDepth 100000 in
set_option maxHeartbeats 2000000 in
theorem bput_c (w : World) (g : Nat) (l : List Pr) (p : Pr) (h : Bk ND w g l) (hr : Rise l) (h9 : l.length ≤ 400000000) :
    Calls Try.prog 42 #[ptr g, nil0, .agg #[str p.1, str p.2]] w fun e w' => ∃ c, e = .returned (ptr c) ∧ Bk ND w' c (rput l p) ∧ Ext w w' ∧ w.heap.size ≤ c := by
  obtain ⟨ow, pv, kv, nd⟩ := h
  have HNW := Lib.hid nd.nw
  obtain ⟨wa, hwa⟩ : ∃ x, x = w.alloc (.cells #[str p.1, str p.2] NP) := ⟨_, rfl⟩
  have hEa : Ext w wa := by rw [hwa]; exact (Ext.refl _).alloc (Nat.le_refl _) _
  obtain ⟨rb, hrb⟩ : ∃ x, x = w.heap.size := ⟨_, rfl⟩
  have hB : wa.heap[rb]? = some (.cells #[str p.1, str p.2] NP (0, 0)) := by rw [hwa, hrb]; exact heap_new w _
  have HA := Lib.hid (And.intro hwa.symm (And.intro hrb.symm (And.intro hEa (And.intro hB (nd.ext hEa)))))
  have HR := Lib.hid hr
  clear hwa hEa hrb hB nd hr
  go_enter Try.func42, Try.ntmps42
  repeat' (first | go_at_call 58 | go_skip | go_guarded | go_step)
  have hW := HA.out.1
  rw [hW, HA.out.2.1]
  clear hW
  refine (isb_c wa g true HA.out.2.2.2.2.node.cells.2.2.2.2.1).mono ?_
  rintro e w1 ⟨rfl, f1⟩
  have H1 : Hid (Ext wa w1) := Lib.hid f1
  clear f1
  go_simp
  repeat' (first | go_at_call 64 | go_skip | go_guarded | go_step)
  refine (nown_c w1 g 0 0 l [] true ow pv kv (HA.out.2.2.2.2.ext H1.out) (by omega) (by simp)).mono ?_
  rintro e x1 ⟨c, pv1, kv1, rfl, nO, hc, f1⟩
  obtain ⟨A1, C1, rfl⟩ := own_slice nO.pairs
  have hcw : w.heap.size ≤ c := by have := HA.out.2.2.1.size; have := H1.out.size; omega
  have H2 : Hid (Ext w x1 ∧ _ ∧ Ext wa x1) := Lib.hid ⟨HA.out.2.2.1.trans (H1.out.trans f1), nO, H1.out.trans f1⟩
  have e2 := nO.node.cells.2.2.1
  have ef := nO.node.free 2
  have hb := box_ext' HA.out.2.2.2.1 H2.out.2.2
  obtain ⟨b0, b1, bf⟩ := box_facts hb
  have HB := Lib.hid (And.intro hb e2)
  have HN := Lib.hid (fun x3 (f : Ext x1 x3) => (nO.node.ext f))
  clear nO f1 hb hc
  go_simp
  repeat' (go_not_at_region 4; (first | go_skip | go_guarded | go_step))
  have HC : Hid (∀ W : World, Ext x1 W → Calls Try.prog 90 #[.slice A1 l.length C1, .agg #[str p.1, str p.2]] W fun e w' => ∃ v', e = .returned v' ∧ w'.ownsRow W.heap.size NP 2 v' (rput l p).length (flat (rput l p)) ∧ Ext W w') := Lib.hid (fun W f => pput_c W _ l p (PS.of_own (H2.out.2.1.ext f).pairs) HR.out h9)
  go_region_with (go_at_call 90; refine (HC.out _ (below_drewN (Ext.refl x1) 1)).mono ?_; rintro e x3 ⟨v3, rfl, r3, f3⟩; obtain ⟨A3, C3, rfl⟩ := own_slice r3; have k3 : Hid (Ext x1 x3) := Lib.hid (Ext.trans (below_drewN (Ext.refl x1) 1) f3); have e3 := (HN.out x3 k3.out).cells.2.2.1; have ef3 := (HN.out x3 k3.out).free 2)
  all_goals
    have hfin := Lib.hid (bk_fin H2.out.1 hcw H2.out.2.1 k3.out r3 HNW.out (by have := HA.out.2.2.1.size; have := H1.out.size; omega) H2.out.1.size)
    repeat' (first | go_skip | go_guarded | go_step)
    go_ret
    exact ⟨c, rfl, hfin.out.1, hfin.out.2, hcw⟩
end Go.Proofs.Ytclcgelbcbnekaa
