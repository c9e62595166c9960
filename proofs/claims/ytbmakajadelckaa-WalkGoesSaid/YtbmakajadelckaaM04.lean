/- Texts joined. -/
import Derived.Test.YtbmakajadelckaaRows
import Derived.Test.YtbmakajadelckaaM03
import Derived.Test.YtbmakajadelckaaM02
set_option linter.unusedVariables false
set_option linter.unusedSimpArgs false
/- The words of the node chapter: a node's block; an inner node, a bucket in memory. -/
namespace Go.QS
open Go.RowKit Go.QS.Nk

/-- A node's block. -/
def NdAt (T : TypeId) (w : World) (g d n : Nat) (pv kv : Value) (bk : Bool) (ow : Option Addr) : Prop :=
  w.heap[g]? = some (.cells #[.int .u32 d, .int .u32 n, pv, kv, .bool bk, .pointer ow] T (0, 0))
section
variable {T PT KT : TypeId} {w w' : World} {g d n base : Nat} {pv kv : Value} {bk : Bool} {ow : Option Addr} {sl : List (Slot Nat)} {l : List Pr}
theorem NdAt.lt (h : NdAt T w g d n pv kv bk ow) : g < w.heap.size := heap_lt h
theorem NdAt.ext (h : NdAt T w g d n pv kv bk ow) (hb : Ext w w') : NdAt T w' g d n pv kv bk ow := (hb.block g h.lt).trans h
theorem NdAt.only {S : Nat → Prop} (h : NdAt T w g d n pv kv bk ow) (hb : Only S w w') (hS : ¬ S g) : NdAt T w' g d n pv kv bk ow := hb.heap h hS
theorem NdAt.cells (h : NdAt T w g d n pv kv bk ow) : w.cell? ⟨g, 0, none⟩ = some (.int .u32 d) ∧ w.cell? ⟨g, 1, none⟩ = some (.int .u32 n) ∧ w.cell? ⟨g, 2, none⟩ = some pv ∧ w.cell? ⟨g, 3, none⟩ = some kv ∧ w.cell? ⟨g, 4, none⟩ = some (.bool bk) ∧ w.cell? ⟨g, 5, none⟩ = some (.pointer ow) := by
  unfold NdAt at h
  simp [World.cell?, h]
theorem NdAt.free (h : NdAt T w g d n pv kv bk ow) (j : Nat) : w.frozen? ⟨g, j, none⟩ = false := by
  unfold NdAt at h
  simp [World.frozen?, h]
theorem NdAt.set0 (h : NdAt T w g d n pv kv bk ow) (d' : Nat) : NdAt T (w.setCell ⟨g, 0, none⟩ (.int .u32 d')) g d' n pv kv bk ow := heap_set h 0 _
theorem NdAt.set1 (h : NdAt T w g d n pv kv bk ow) (n' : Nat) : NdAt T (w.setCell ⟨g, 1, none⟩ (.int .u32 n')) g d n' pv kv bk ow := heap_set h 1 _
theorem NdAt.set2 (h : NdAt T w g d n pv kv bk ow) (v : Value) : NdAt T (w.setCell ⟨g, 2, none⟩ v) g d n v kv bk ow := heap_set h 2 _
theorem NdAt.set3 (h : NdAt T w g d n pv kv bk ow) (v : Value) : NdAt T (w.setCell ⟨g, 3, none⟩ v) g d n pv v bk ow := heap_set h 3 _
theorem NdAt.set5 (h : NdAt T w g d n pv kv bk ow) (o : Option Addr) : NdAt T (w.setCell ⟨g, 5, none⟩ (.pointer o)) g d n pv kv bk o := heap_set h 5 _
theorem NdAt.new (T : TypeId) (w : World) (hg : g = w.heap.size) : NdAt T (w.alloc (.cells #[.int .u32 d, .int .u32 n, pv, kv, .bool bk, .pointer ow] T)) g d n pv kv bk ow := by
  subst hg; simp only [NdAt, World.alloc]; simp

/-- A node in memory: its bits, its pairs, its kids. -/
structure Nd (T : TypeId) (w : World) (g d n : Nat) (ps : List Pr) (ks : List Nat) (bk : Bool) (ow : Option Addr) (pv kv : Value) : Prop where
  node : NdAt T w g d n pv kv bk ow
  pairs : PS w pv ps
  kids : Sl w 1 kv ks.length (ptrs ks)
/-- The same, its rows being its own. -/
structure NdO (T PT KT : TypeId) (base : Nat) (w : World) (g d n : Nat) (ps : List Pr) (ks : List Nat) (bk : Bool) (ow : Option Addr) (pv kv : Value) : Prop where
  node : NdAt T w g d n pv kv bk ow
  pairs : w.ownsRow base PT 2 pv ps.length (flat ps)
  kids : w.ownsRow base KT 1 kv ks.length (ptrs ks)
variable {ps : List Pr} {ks : List Nat}
theorem Nd.ext (h : Nd T w g d n ps ks bk ow pv kv) (f : Ext w w') : Nd T w' g d n ps ks bk ow pv kv := ⟨h.node.ext f, h.pairs.below f, h.kids.below f⟩
theorem NdO.nd (h : NdO T PT KT base w g d n ps ks bk ow pv kv) : Nd T w g d n ps ks bk ow pv kv := ⟨h.node, PS.of_own h.pairs, Sl.of_own h.kids⟩
theorem NdO.ext (h : NdO T PT KT base w g d n ps ks bk ow pv kv) (f : Ext w w') : NdO T PT KT base w' g d n ps ks bk ow pv kv := ⟨h.node.ext f, row_ext h.pairs f, row_ext h.kids f⟩

/-- An inner node of these chunks. -/
def In (T : TypeId) (w : World) (g : Nat) (sl : List (Slot Nat)) : Prop := sl.length = 32 ∧ ∃ ow pv kv, Nd T w g (dataOf sl) (nodesOf sl) (prsOf sl) (kdsOf sl) false ow pv kv
/-- A bucket of these pairs. -/
def Bk (T : TypeId) (w : World) (g : Nat) (l : List Pr) : Prop := ∃ ow pv kv, Nd T w g 0 0 l [] true ow pv kv
theorem In.ext (h : In T w g sl) (f : Ext w w') : In T w' g sl := by
  obtain ⟨h0, ow, pv, kv, h1⟩ := h
  exact ⟨h0, ow, pv, kv, h1.ext f⟩
theorem Bk.ext (h : Bk T w g l) (f : Ext w w') : Bk T w' g l := by
  obtain ⟨ow, pv, kv, h1⟩ := h
  exact ⟨ow, pv, kv, h1.ext f⟩
end
end Go.QS
/- Tries of hashes, plainly: a chunk's own pairs; a node in memory is the trie of a list. No program. -/
set_option linter.unusedVariables false
namespace Go.QS
open Go.RowKit Go.QS.Nk

/-- Five bits of a hash. -/
def chk (x lv : Nat) : Nat := x / 32 ^ lv % 32
theorem chk_lt (x lv : Nat) : chk x lv < 32 := Nat.mod_lt _ (by decide)
/-- A chunk's own pairs. -/
def part (H : List UInt8 → Nat) (lv c : Nat) (l : List Pr) : List Pr := l.filter fun p => chk (H p.1) lv == c
def getL (key : List UInt8) (x : List Pr) : Option (List UInt8) := (x.find? fun p => p.1 == key).map fun p => p.2
section
variable {H : List UInt8 → Nat} {lv c : Nat} {l : List Pr} {p q : Pr} {k : List UInt8}
theorem mem_part : q ∈ part H lv c l ↔ q ∈ l ∧ chk (H q.1) lv = c := by simp [part]
theorem part_rise (h : Rise l) : Rise (part H lv c l) := List.Pairwise.filter _ h
theorem part_length : (part H lv c l).length ≤ l.length := List.length_filter_le _ _
theorem part_nil : part H lv c [] = [] := rfl
theorem part_put (h : Rise l) : part H lv (chk (H p.1) lv) (rput l p) = rput (part H lv (chk (H p.1) lv) l) p := by
  refine rise_ext _ _ (part_rise (rput_rise h p)) (rput_rise (part_rise h) p) fun q => ?_
  rw [mem_part, mem_rput, mem_rput, mem_part]
  constructor
  · rintro ⟨rfl | ⟨h1, h2⟩, h3⟩
    · exact .inl rfl
    · exact .inr ⟨⟨h1, h3⟩, h2⟩
  · rintro (rfl | ⟨⟨h1, h3⟩, h2⟩)
    · exact ⟨.inl rfl, rfl⟩
    · exact ⟨.inr ⟨h1, h2⟩, h3⟩
theorem part_put_off (h : Rise l) (hc : chk (H p.1) lv ≠ c) : part H lv c (rput l p) = part H lv c l := by
  refine rise_ext _ _ (part_rise (rput_rise h p)) (part_rise h) fun q => ?_
  rw [mem_part, mem_rput, mem_part]
  constructor
  · rintro ⟨rfl | ⟨h1, h2⟩, h3⟩
    · exact absurd h3 hc
    · exact ⟨h1, h3⟩
  · rintro ⟨h1, h3⟩
    exact ⟨.inr ⟨h1, fun e => hc (by rw [← e]; exact h3)⟩, h3⟩
theorem part_drop : part H lv c (rdrop l k) = rdrop (part H lv c l) k := by
  unfold part rdrop
  rw [List.filter_filter, List.filter_filter]
  congr 1
  funext q
  exact Bool.and_comm _ _
theorem part_drop_off (hc : chk (H k) lv ≠ c) : part H lv c (rdrop l k) = part H lv c l := by
  rw [part_drop]
  refine rdrop_self ?_
  rw [Bool.eq_false_iff]
  intro h
  obtain ⟨q, h1, h2⟩ := hasK_iff.1 h
  exact hc (by rw [← h2]; exact (mem_part.1 h1).2)
theorem part_has : hasK (part H lv (chk (H k) lv) l) k = hasK l k := by
  rw [Bool.eq_iff_iff, hasK_iff, hasK_iff]
  constructor
  · rintro ⟨q, h1, h2⟩
    exact ⟨q, (mem_part.1 h1).1, h2⟩
  · rintro ⟨q, h1, h2⟩
    exact ⟨q, mem_part.2 ⟨h1, by rw [h2]⟩, h2⟩
theorem part_get : getL k (part H lv (chk (H k) lv) l) = getL k l := by
  unfold getL part
  rw [List.find?_filter]
  congr 2
  funext q
  by_cases h : q.1 = k
  · simp [h]
  · simp [h]
theorem part_mem : p ∈ part H lv (chk (H p.1) lv) l ↔ p ∈ l := by simp [mem_part]
theorem rput_self (h : Rise l) (hp : p ∈ l) : rput l p = l := by
  refine rise_ext _ _ (rput_rise h p) h fun q => ?_
  rw [mem_rput]
  constructor
  · rintro (rfl | ⟨h1, _⟩)
    · exact hp
    · exact h1
  · intro hq
    by_cases e : q.1 = p.1
    · left
      have a := (lastK_rise h q).2 hq
      have b := (lastK_rise h p).2 hp
      rw [e] at a
      rw [a] at b
      exact Option.some.inj b
    · exact .inr ⟨hq, e⟩
theorem rput_len (h : Rise l) : l.length ≤ (rput l p).length := by
  rw [rput_cut h p]
  split
  · rename_i hk
    have := hasK_at (k := p.1) h
    have h2 : fndI l p.1 < l.length := by
      rw [hk] at this
      cases hh : l[fndI l p.1]? with
      | none => rw [hh] at this; simp at this
      | some q => exact (List.getElem?_eq_some_iff.1 hh).1
    simp only [List.length_append, List.length_take, List.length_cons, List.length_drop]
    omega
  · have := fndI_le l p.1
    simp only [List.length_append, List.length_take, List.length_cons, List.length_drop]
    omega
theorem rput_one (hk : p.1 = q.1) : rput [q] p = [p] := by
  simp [rput, rdrop, insB, hk]
theorem two_rise (hk : p.1 ≠ q.1) : Rise (rput [q] p) ∧ (rput [q] p).length = 2 ∧ ∀ x, x ∈ rput [q] p ↔ x = p ∨ x = q := by
  have hr : Rise [q] := by simp [Rise]
  refine ⟨rput_rise hr p, ?_, fun x => ?_⟩
  · have e : rdrop [q] p.1 = [q] := rdrop_self (by simp [hasK]; exact fun e => hk e.symm)
    unfold rput
    rw [e]
    simp only [insB]
    split <;> simp
  · rw [mem_rput]
    simp only [List.mem_singleton]
    constructor
    · rintro (h | ⟨h, _⟩)
      · exact .inl h
      · exact .inr h
    · rintro (h | rfl)
      · exact .inl h
      · exact .inr ⟨rfl, fun e => hk e.symm⟩
theorem has_rput : hasK (rput l p) p.1 = true := hasK_iff.2 ⟨p, mem_rput.2 (.inl rfl), rfl⟩
theorem rise_two {a b : Pr} (h : Rise [a, b]) : a.1 < b.1 := by simp [Rise] at h; exact h
theorem two_swap (hk : p.1 ≠ q.1) : rput [q] p = rput [p] q := by
  have h1 := two_rise hk
  have h2 := two_rise (fun e => hk e.symm)
  exact rise_ext _ _ h1.1 h2.1 fun x => by rw [h1.2.2, h2.2.2, or_comm]
theorem part_two_all (hk : p.1 ≠ q.1) (h1 : chk (H p.1) lv = c) (h2 : chk (H q.1) lv = c) : part H lv c (rput [q] p) = rput [q] p := by
  refine List.filter_eq_self.2 fun x hx => ?_
  rcases ((two_rise hk).2.2 x).1 hx with rfl | rfl
  · simp [h1]
  · simp [h2]
theorem part_two_none (hk : p.1 ≠ q.1) (h1 : chk (H p.1) lv ≠ c) (h2 : chk (H q.1) lv ≠ c) : part H lv c (rput [q] p) = [] := by
  refine List.filter_eq_nil_iff.2 fun x hx => ?_
  rcases ((two_rise hk).2.2 x).1 hx with rfl | rfl
  · simp [h1]
  · simp [h2]
theorem part_two_p (hk : p.1 ≠ q.1) (h1 : chk (H p.1) lv = c) (h2 : chk (H q.1) lv ≠ c) : part H lv c (rput [q] p) = [p] := by
  refine rise_ext _ _ (part_rise (two_rise hk).1) (by simp [Rise]) fun x => ?_
  rw [mem_part, (two_rise hk).2.2]
  simp only [List.mem_singleton]
  constructor
  · rintro ⟨rfl | rfl, h3⟩
    · rfl
    · exact absurd h3 h2
  · rintro rfl
    exact ⟨.inl rfl, h1⟩
end

/-- What a chunk has, of these pairs. -/
def SlotOk (R : Nat → List Pr → Prop) (s : Slot Nat) (x : List Pr) : Prop :=
  match s with
  | .no => x = []
  | .pr p => x = [p]
  | .kid k => 2 ≤ x.length ∧ R k x
theorem SlotOk.mono {R R' : Nat → List Pr → Prop} {s : Slot Nat} {x : List Pr} (h : SlotOk R s x) (hR : ∀ k, R k x → R' k x) : SlotOk R' s x := by
  cases s with
  | no => exact h
  | pr p => exact h
  | kid k => exact ⟨h.1, hR k h.2⟩
/-- A node in memory is the trie of these pairs, of so many levels more. -/
def TR (T : TypeId) (H : List UInt8 → Nat) (w : World) : Nat → Nat → List Pr → Prop
  | 0, g, l => Bk T w g l
  | f + 1, g, l => ∃ sl, In T w g sl ∧ ∀ c s, sl[c]? = some s → SlotOk (TR T H w f) s (part H (12 - f) c l)
section
variable {T : TypeId} {H : List UInt8 → Nat} {w w' : World} {g : Nat} {l : List Pr}
theorem TR.ext (h : Ext w w') : ∀ (f : Nat) {g : Nat} {l : List Pr}, TR T H w f g l → TR T H w' f g l
  | 0, _, _, hR => Bk.ext hR h
  | f + 1, _, _, ⟨sl, h1, h2⟩ => ⟨sl, h1.ext h, fun c s hs => (h2 c s hs).mono fun _ hk => TR.ext h f hk⟩
theorem TR.get {f : Nat} {sl : List (Slot Nat)} (h1 : In T w g sl) (h2 : ∀ c s, sl[c]? = some s → SlotOk (TR T H w f) s (part H (12 - f) c l)) {c : Nat} (hc : c < 32) : ∃ s, sl[c]? = some s ∧ SlotOk (TR T H w f) s (part H (12 - f) c l) := by
  obtain ⟨s, hs⟩ := get_of_lt sl (show c < sl.length by rw [h1.1]; exact hc)
  exact ⟨s, hs, h2 c s hs⟩
/-- A place turned. -/
theorem TR.turn {f i g' : Nat} {sl : List (Slot Nat)} {s : Slot Nat} {l' : List Pr} (h2 : ∀ c s, sl[c]? = some s → SlotOk (TR T H w f) s (part H (12 - f) c l)) (hE : Ext w w') (hN : In T w' g' (sl.set i s)) (hs : SlotOk (TR T H w' f) s (part H (12 - f) i l')) (ho : ∀ c, c ≠ i → part H (12 - f) c l' = part H (12 - f) c l) : TR T H w' (f + 1) g' l' := by
  refine ⟨_, hN, fun c s' hc => ?_⟩
  by_cases e : c = i
  · subst e
    rw [List.getElem?_set] at hc
    simp only [if_pos] at hc
    split at hc
    · cases hc; exact hs
    · cases hc
  · rw [List.getElem?_set_ne (fun h => e h.symm)] at hc
    rw [ho c e]
    exact (h2 c s' hc).mono fun _ hk => TR.ext hE f hk
theorem TR.none {f : Nat} (h : In T w g (sl0 Nat)) : TR T H w (f + 1) g [] := by
  refine ⟨_, h, fun c s hs => ?_⟩
  have hc := get_lt hs
  rw [sl0_length] at hc
  rw [sl0_get hc] at hs
  cases hs
  exact part_nil

/-- How many: those of the node itself, and of each kid. -/
theorem parts_len (H : List UInt8 → Nat) (lv : Nat) (l : List Pr) (n : Nat) : (l.filter fun p => decide (chk (H p.1) lv < n + 1)).length = (l.filter fun p => decide (chk (H p.1) lv < n)).length + (part H lv n l).length := by
  induction l with
  | nil => rfl
  | cons p l ih =>
    unfold part at ih ⊢
    simp only [List.filter_cons]
    rcases Nat.lt_trichotomy (chk (H p.1) lv) n with h | h | h
    · have h1 : chk (H p.1) lv < n + 1 := by omega
      have h2 : (chk (H p.1) lv == n) = false := by simp; omega
      simp only [h, h1, h2, decide_true, if_true, List.length_cons, Bool.false_eq_true, if_false, ih]; omega
    · have h1 : chk (H p.1) lv < n + 1 := by omega
      have h2 : (chk (H p.1) lv == n) = true := by simp [h]
      have h3 : ¬ chk (H p.1) lv < n := by omega
      simp only [h3, h1, h2, decide_true, decide_false, if_true, List.length_cons, Bool.false_eq_true, if_false, ih]; omega
    · have h1 : ¬ chk (H p.1) lv < n + 1 := by omega
      have h2 : (chk (H p.1) lv == n) = false := by simp; omega
      have h3 : ¬ chk (H p.1) lv < n := by omega
      simp only [h3, h1, h2, decide_false, Bool.false_eq_true, if_false, ih]
def sumL : List (List Pr) → Nat
  | [] => 0
  | x :: r => x.length + sumL r
theorem sumL_append : ∀ (a b : List (List Pr)), sumL (a ++ b) = sumL a + sumL b
  | [], b => by simp [sumL]
  | x :: a, b => by simp only [List.cons_append, sumL, sumL_append a b]; omega
/-- Kids and their lists. -/
structure KidsOk (R : Nat → List Pr → Prop) (ks : List Nat) (Ls : List (List Pr)) : Prop where
  len : ks.length = Ls.length
  ok : ∀ (i : Nat) k x, ks[i]? = some k → Ls[i]? = some x → 2 ≤ x.length ∧ R k x
theorem parts_sum {R : Nat → List Pr → Prop} {sl : List (Slot Nat)} {lv : Nat} (h2 : ∀ c s, sl[c]? = some s → SlotOk R s (part H lv c l)) : ∀ n, n ≤ sl.length → ∃ Ls, KidsOk R (kdsOf (sl.take n)) Ls ∧ (prsOf (sl.take n)).length + sumL Ls = (l.filter fun p => decide (chk (H p.1) lv < n)).length
  | 0, _ => ⟨[], ⟨by simp [kdsOf], fun i k x h => by simp [kdsOf] at h⟩, by
      have e : (l.filter fun p => decide (chk (H p.1) lv < 0)) = [] := List.filter_eq_nil_iff.2 fun p _ => by simp
      rw [e]; simp [prsOf, sumL]⟩
  | n + 1, hn => by
    obtain ⟨Ls, ⟨hk1, hk2⟩, hl⟩ := parts_sum h2 n (by omega)
    obtain ⟨s, hs⟩ := get_of_lt sl (show n < sl.length by omega)
    have ok := h2 n s hs
    rw [parts_len, take_snoc hs, kdsOf_append, prsOf_append]
    cases s with
    | no =>
      have e : part H lv n l = [] := ok
      have e1 : kdsOf [(Slot.no : Slot Nat)] = [] := rfl
      have e2 : prsOf [(Slot.no : Slot Nat)] = [] := rfl
      rw [e, e1, e2, List.append_nil, List.append_nil]
      exact ⟨Ls, ⟨hk1, hk2⟩, hl⟩
    | pr p =>
      have e : part H lv n l = [p] := ok
      have e1 : kdsOf [(Slot.pr p : Slot Nat)] = [] := rfl
      have e2 : prsOf [(Slot.pr p : Slot Nat)] = [p] := rfl
      rw [e, e1, e2, List.append_nil]
      refine ⟨Ls, ⟨hk1, hk2⟩, ?_⟩
      simp only [List.length_append, List.length_cons, List.length_nil]
      omega
    | kid k =>
      obtain ⟨h3, h4⟩ : 2 ≤ (part H lv n l).length ∧ R k (part H lv n l) := ok
      refine ⟨Ls ++ [part H lv n l], ⟨by rw [List.length_append, List.length_append, hk1]; rfl, fun i k' x ha hb => ?_⟩, ?_⟩
      · have e : kdsOf [Slot.kid k] = [k] := rfl
        rw [e] at ha
        rcases Nat.lt_trichotomy i (kdsOf (sl.take n)).length with h | h | h
        · rw [List.getElem?_append_left h] at ha
          rw [List.getElem?_append_left (by omega)] at hb
          exact hk2 i k' x ha hb
        · rw [List.getElem?_append_right (by omega), h, Nat.sub_self] at ha
          rw [List.getElem?_append_right (by omega), h, ← hk1, Nat.sub_self] at hb
          cases ha; cases hb
          exact ⟨h3, h4⟩
        · rw [List.getElem?_append_right (by omega)] at ha
          have := (List.getElem?_eq_some_iff.1 ha).1
          simp at this
          omega
      · have e : prsOf [Slot.kid k] = [] := rfl
        rw [e, sumL_append]
        simp only [sumL, List.append_nil]
        omega
theorem TR.sum {f : Nat} {sl : List (Slot Nat)} (h1 : In T w g sl) (h2 : ∀ c s, sl[c]? = some s → SlotOk (TR T H w f) s (part H (12 - f) c l)) : ∃ Ls, KidsOk (TR T H w f) (kdsOf sl) Ls ∧ (prsOf sl).length + sumL Ls = l.length := by
  obtain ⟨Ls, hk, hl⟩ := parts_sum h2 32 (by rw [h1.1]; exact Nat.le_refl _)
  have e : sl.take 32 = sl := List.take_of_length_le (by rw [h1.1]; exact Nat.le_refl _)
  rw [e] at hk hl
  refine ⟨Ls, hk, hl.trans ?_⟩
  congr 1
  exact List.filter_eq_self.2 fun p _ => by simp [chk_lt]
theorem sumL_ge {R : Nat → List Pr → Prop} {ks : List Nat} {Ls : List (List Pr)} (h : KidsOk R ks Ls) : ∀ n, n ≤ Ls.length → 2 * n ≤ sumL (Ls.take n)
  | 0, _ => Nat.zero_le _
  | n + 1, hn => by
    have ih := sumL_ge h n (by omega)
    obtain ⟨x, hx⟩ := get_of_lt Ls (show n < Ls.length by omega)
    obtain ⟨k, hk⟩ := get_of_lt ks (show n < ks.length by rw [h.len]; omega)
    have := (h.ok n k x hk hx).1
    rw [take_snoc hx, sumL_append]
    simp only [sumL]
    omega
/-- What stands alone. -/
theorem TR.alone {f : Nat} {sl : List (Slot Nat)} {p : Pr} (h1 : In T w g sl) (h2 : ∀ c s, sl[c]? = some s → SlotOk (TR T H w f) s (part H (12 - f) c [p])) : prsOf sl = [p] ∧ kdsOf sl = [] := by
  obtain ⟨Ls, hk, hl⟩ := TR.sum h1 h2
  have h3 := sumL_ge hk _ (Nat.le_refl _)
  rw [List.take_length] at h3
  have h4 := hk.len
  simp at hl
  have h5 : kdsOf sl = [] := List.eq_nil_of_length_eq_zero (by omega)
  have h6 : Ls = [] := List.eq_nil_of_length_eq_zero (by omega)
  rw [h6] at hl
  simp [sumL] at hl
  obtain ⟨q, hq⟩ := List.length_eq_one_iff.1 hl
  have h7 : q ∈ prsOf sl := by rw [hq]; simp
  obtain ⟨s, hs, hg⟩ := List.mem_filterMap.1 h7
  obtain ⟨i, hi⟩ := List.mem_iff_getElem?.1 hs
  cases s with
  | no => simp at hg
  | kid k => simp at hg
  | pr q' =>
    simp at hg
    subst hg
    have h8 : part H (12 - f) i [p] = [q'] := h2 i _ hi
    have h9 : q' ∈ part H (12 - f) i [p] := by rw [h8]; simp
    have := (mem_part.1 h9).1
    simp at this
    subst this
    exact ⟨hq, h5⟩
theorem TR.many {f : Nat} {sl : List (Slot Nat)} (h1 : In T w g sl) (h2 : ∀ c s, sl[c]? = some s → SlotOk (TR T H w f) s (part H (12 - f) c l)) (hl : 2 ≤ l.length) : ¬ (kdsOf sl = [] ∧ (prsOf sl).length = 1) := by
  rintro ⟨h3, h4⟩
  obtain ⟨Ls, hk, h5⟩ := TR.sum h1 h2
  have := hk.len
  rw [h3] at this
  have h6 : Ls = [] := List.eq_nil_of_length_eq_zero this.symm
  rw [h6] at h5
  simp [sumL] at h5
  omega
end
end Go.QS
