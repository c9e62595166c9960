/- Texts joined. -/
import Derived.Lib.TrailingZeros
import Derived.Test.YtclcgelbcbnekaaDoorM04
import Derived.Test.YtclcgelbcbnekaaDoorM03
import Derived.Test.YtclcgelbcbnekaaDoorM05
import Derived.Deep.LoopGhost
import Derived.Deep.RegionHeld3
import Derived.Deep.DeepCutAuto
import Derived.Test.YtclcgelbcbnekaaDoorM02
set_option linter.unusedVariables false
set_option linter.unusedSimpArgs false
/- A set of bits as a list: the least one, and the rest. Plain. No program. -/
namespace Go.QS
open Go

/-- Which bits are there. -/
def bitsI (b : Nat) : List Nat := (List.range 32).filter fun i => b.testBit i
theorem odd_and (m : Nat) (j : Nat) : ((2 * m + 1) &&& (2 * m)).testBit j = (2 * m).testBit j := by
  rw [Nat.testBit_and]
  cases j with
  | zero =>
    have : (2 * m).testBit 0 = false := by rw [Nat.testBit_zero]; simp
    rw [this, Bool.and_false]
  | succ j =>
    rw [Nat.testBit_succ, Nat.testBit_succ]
    have e1 : (2 * m + 1) / 2 = m := by omega
    have e2 : 2 * m / 2 = m := by omega
    rw [e1, e2, Bool.and_self]
theorem low_bits {b : Nat} (h0 : b ≠ 0) (h : b < 4294967296) : Lib.ctz 32 b < 32 ∧ b.testBit (Lib.ctz 32 b) = true ∧ (∀ j, j < Lib.ctz 32 b → b.testBit j = false) ∧ ∀ j, (b &&& (b - 1)).testBit j = (b.testBit j && decide (j ≠ Lib.ctz 32 b)) := by
  obtain ⟨m, hm, hk⟩ := Lib.ctzFrom_spec 32 b (by omega) h
  have hc : Lib.ctz 32 b = Lib.ctzFrom 32 b := by unfold Lib.ctz; rw [if_neg h0]
  rw [hc]
  generalize Lib.ctzFrom 32 b = k at hm hk
  have hp : 0 < 2 ^ k := Nat.two_pow_pos k
  have e1 : b - 1 = 2 ^ k * (2 * m) + (2 ^ k - 1) := by
    rw [hm, Nat.mul_add, Nat.mul_one]; omega
  have t1 : ∀ j, b.testBit j = if j < k then false else (2 * m + 1).testBit (j - k) := fun j => by
    have := Nat.testBit_two_pow_mul_add (2 * m + 1) hp j
    rw [Nat.add_zero, ← hm] at this
    rw [this]; simp
  have t2 : ∀ j, (b - 1).testBit j = if j < k then (2 ^ k - 1).testBit j else (2 * m).testBit (j - k) := fun j => by
    rw [e1]; exact Nat.testBit_two_pow_mul_add (2 * m) (by omega) j
  refine ⟨hk, ?_, fun j hj => ?_, fun j => ?_⟩
  · rw [t1, if_neg (Nat.lt_irrefl k), Nat.sub_self, Nat.testBit_zero]; simp
  · rw [t1, if_pos hj]
  · rw [Nat.testBit_and, t1, t2]
    by_cases hj : j < k
    · simp [hj]
    · rw [if_neg hj, if_neg hj, ← Nat.testBit_and, odd_and]
      by_cases e : j = k
      · subst e
        rw [Nat.sub_self, Nat.testBit_zero]; simp
      · obtain ⟨i, hi⟩ : ∃ i, j - k = i + 1 := ⟨j - k - 1, by omega⟩
        rw [hi, Nat.testBit_succ, Nat.testBit_succ]
        have d1 : (2 * m + 1) / 2 = m := by omega
        have d2 : 2 * m / 2 = m := by omega
        rw [d1, d2]; simp [e]
theorem filter_first {p : Nat → Bool} {k : Nat} : ∀ {cs : List Nat}, cs.Pairwise (· < ·) → k ∈ cs → p k = true → (∀ j ∈ cs, j < k → p j = false) → cs.filter p = k :: cs.filter (fun j => p j && decide (j ≠ k))
  | [], _, hk, _, _ => by cases hk
  | c :: cs, hc, hk, hp, hl => by
    obtain ⟨h1, h2⟩ := List.pairwise_cons.1 hc
    by_cases e : c = k
    · subst e
      rw [List.filter_cons_of_pos hp, List.filter_cons_of_neg (by simp)]
      congr 1
      refine List.filter_congr fun j hj => ?_
      have := h1 j hj
      have : j ≠ c := by omega
      simp [this]
    · have hk' : k ∈ cs := by
        rcases List.mem_cons.1 hk with h | h
        · exact absurd h.symm e
        · exact h
      have hlt := h1 k hk'
      have hc0 := hl c (List.mem_cons_self ..) hlt
      rw [List.filter_cons_of_neg (by rw [hc0]; decide), List.filter_cons_of_neg (by rw [hc0]; simp)]
      exact filter_first h2 hk' hp (fun j hj => hl j (List.mem_cons_of_mem _ hj))
theorem bitsI_zero : bitsI 0 = [] := by decide
theorem bitsI_cons {b : Nat} (h0 : b ≠ 0) (h : b < 4294967296) : bitsI b = Lib.ctz 32 b :: bitsI (b &&& (b - 1)) := by
  obtain ⟨h1, h2, h3, h4⟩ := low_bits h0 h
  unfold bitsI
  rw [filter_first List.pairwise_lt_range (List.mem_range.2 h1) h2 (fun j _ hj => h3 j hj)]
  congr 1
  exact List.filter_congr fun j _ => (h4 j).symm
theorem bitsI_len (b : Nat) : (bitsI b).length ≤ 32 := by
  have := List.length_filter_le (fun i => b.testBit i) (List.range 32)
  simpa [bitsI] using this
theorem and_pred_lt {b : Nat} (h : b < 4294967296) : b &&& (b - 1) < 4294967296 := Nat.lt_of_le_of_lt Nat.and_le_left h
theorem mem_bitsI {α : Type} {q : Slot α → Bool} {sl : List (Slot α)} (h32 : sl.length = 32) {c : Nat} : c ∈ bitsI (bitsOf q sl) ↔ ∃ s, sl[c]? = some s ∧ q s = true := by
  unfold bitsI
  rw [List.mem_filter, List.mem_range, bitsOf_bit]
  constructor
  · rintro ⟨hc, h⟩
    obtain ⟨s, hs⟩ := get_of_lt sl (show c < sl.length by omega)
    rw [hs] at h
    exact ⟨s, hs, h⟩
  · rintro ⟨s, hs, h⟩
    have := (List.getElem?_eq_some_iff.1 hs).1
    exact ⟨by omega, by rw [hs]; exact h⟩
end Go.QS
/- A node's look: plain; shape.pairs of any pairs. -/
namespace Go.QS
open Go.RowKit Go.QS.Nk
variable [Zero (Nat → Prop)]
set_option linter.unusedSectionVars false
theorem wp_nameY {P : Program} {c : Code} {Q : Exit → Act → World → Prop} {a : Act} {W : World} (R : World → Prop) (hR : R W) (h : ∀ w', Hid (R w') → c.wp P Q a w') : c.wp P Q a W := h W (Lib.hid hR)
/-- A row grows: its own block alone turns; it stays there, or moves to a new one. -/
structure Gr (w : World) (v : Value) (w' : World) (v' : Value) : Prop where
  only : Only (fun k => v.ownBlock = some k) w w'
  nw : v'.ownBlock = v.ownBlock ∨ ∀ b, v'.ownBlock = some b → w.heap.size ≤ b
theorem Gr.trans {a b c : World} {u v x : Value} (h : Gr a u b v) (k : Gr b v c x) : Gr a u c x :=
  ⟨Only.trans' h.only k.only fun i hi hT => by
    rcases h.nw with e | e
    · exact e.symm.trans hT
    · have := e i hT; omega,
   by
    rcases k.nw with e | e
    · rcases h.nw with e2 | e2
      · exact .inl (e.trans e2)
      · exact .inr fun b hb => e2 b (e.symm.trans hb)
    · exact .inr fun b hb => Nat.le_trans h.only.size (e b hb)⟩
theorem Gr.of_ext {w w' : World} {v : Value} (f : Ext w w') : Gr w v w' v := ⟨Only.of_ext f, .inl rfl⟩
theorem Gr.of_app {w w' : World} {v v' : Value} (h : w.grownBy w' v.ownBlock) (hn : v'.ownBlock = v.ownBlock ∨ v'.ownBlock = some w.heap.size) : Gr w v w' v' :=
  ⟨Only.of_grown h, hn.imp id fun e b hb => by rw [e] at hb; cases hb; exact Nat.le_refl _⟩
theorem Gr.below {w w' : World} {v v' : Value} {B : Nat} (h : Gr w v w' v') (hw : B ≤ w.heap.size) (hv : ∀ k, v.ownBlock = some k → B ≤ k) : Below B w w' := h.only.below hw hv
def prB (p : Pr) : List UInt8 := textB p.1 ++ textB p.2
def prsB (l : List Pr) : List UInt8 := l.flatMap prB
theorem prsB_append (a b : List Pr) : prsB (a ++ b) = prsB a ++ prsB b := by simp [prsB]
theorem prsB_take {l : List Pr} {i : Nat} {p : Pr} (h : l[i]? = some p) : prsB (l.take (i + 1)) = prsB (l.take i) ++ prB p := by rw [take_snoc h, prsB_append]; simp [prsB]
theorem prsB_le (l : List Pr) (i : Nat) : (prsB (l.take i)).length ≤ (prsB l).length := by
  rw [← List.take_append_drop i l, prsB_append, List.take_append_drop]
  simp
end Go.QS
namespace Go.Proofs.YtclcgelbcbnekaaDoor
open Go.RowKit Go.QS Go.QS.Nk
set_option linter.unusedVariables false
variable [Zero (Nat → Prop)]
set_option linter.unusedSectionVars false
/-- So many bytes of a number, the rest of a node ahead of its kids. -/
def headB (d n : Nat) (ps : List Pr) : List UInt8 := ((0 :: layB d 4) ++ layB n 4) ++ prsB ps
def buckB (ps : List Pr) : List UInt8 := (1 :: layB ps.length 2) ++ prsB ps
/-- How a node looks, so many levels above the last one. -/
def ShAt (w : World) : Nat → Nat → List UInt8 → Prop
  | 0, g, B => (∃ ps ow pv kv, Nd ND w g 0 0 ps [] true ow pv kv ∧ ps.length ≤ 100000 ∧ B = buckB ps) ∨
      ∃ d n ps ks ow pv kv, Nd ND w g d n ps ks false ow pv kv ∧ d < 4294967296 ∧ n < 4294967296 ∧ ps.length ≤ 100000 ∧ ks.length ≤ 32 ∧ B = headB d n ps
  | f + 1, g, B => (∃ ps ow pv kv, Nd ND w g 0 0 ps [] true ow pv kv ∧ ps.length ≤ 100000 ∧ B = buckB ps) ∨
      ∃ d n ps ks ow pv kv, ∃ Bs : List (List UInt8), Nd ND w g d n ps ks false ow pv kv ∧ d < 4294967296 ∧ n < 4294967296 ∧ ps.length ≤ 100000 ∧ ks.length ≤ 32 ∧ Bs.length = ks.length ∧
        (∀ (i k : Nat) (b : List UInt8), ks[i]? = some k → Bs[i]? = some b → ShAt w f k b) ∧ B = headB d n ps ++ Bs.flatten
theorem ShAt.ext {w w' : World} (f : Ext w w') : ∀ (k : Nat) {g : Nat} {B : List UInt8}, ShAt w k g B → ShAt w' k g B
  | 0, _, _, h => by
    rcases h with ⟨ps, ow, pv, kv, h1, h2⟩ | ⟨d, n, ps, ks, ow, pv, kv, h1, h2⟩
    · exact .inl ⟨ps, ow, pv, kv, h1.ext f, h2⟩
    · exact .inr ⟨d, n, ps, ks, ow, pv, kv, h1.ext f, h2⟩
  | k + 1, _, _, h => by
    rcases h with ⟨ps, ow, pv, kv, h1, h2⟩ | ⟨d, n, ps, ks, ow, pv, kv, Bs, h1, h2, h3, h4, h5, h6, h7, h8⟩
    · exact .inl ⟨ps, ow, pv, kv, h1.ext f, h2⟩
    · exact .inr ⟨d, n, ps, ks, ow, pv, kv, Bs, h1.ext f, h2, h3, h4, h5, h6, fun i k' b e1 e2 => ShAt.ext f k (h7 i k' b e1 e2), h8⟩
theorem rowB_up {w : World} {b1 b2 : Nat} {e : TypeId} {k n : Nat} {v : Value} {xs : List Value} (h : w.ownsRow b2 e k v n xs) (hb : b1 ≤ b2) : w.ownsRow b1 e k v n xs := by
  refine ⟨h.1, ?_⟩
  rcases h.2 with h | ⟨g, cap, cur, q1, q2, q3⟩
  · exact .inl h
  · exact .inr ⟨g, cap, cur, q1, Nat.le_trans hb q2, q3⟩

set_option maxRecDepth 100000 in
theorem layO_c (B : Nat) (w : World) (v : Value) (l : List UInt8) (n k : Nat) (hr : w.ownsRow B 5 1 v l.length (encB l)) (hB : B ≤ w.heap.size) (hn : n < 18446744073709551616) (hk : k ≤ 7) (h9 : l.length + k ≤ 1000000000) :
    Calls Tryd.prog 57 #[v, .int .u64 n, .int .i64 k] w fun e w' => ∃ v', e = .returned v' ∧ w'.ownsRow B 5 1 v' (l ++ layB n k).length (encB (l ++ layB n k)) ∧ Gr w v w' v' := by
  have HR0 := Lib.hid hr
  clear hr
  go_enter Tryd.func57, Tryd.ntmps57
  repeat' (go_not_at_region 2; (first | go_skip | go_guarded | go_step))
  go_loopg [0, 9] k (fun gk v0 v9 wr => ∃ i : Nat, v9 = .int .i64 i ∧ i ≤ k ∧ k - i ≤ gk ∧ Hid (wr.ownsRow B 5 1 v0 (l ++ layB n i).length (encB (l ++ layB n i)) ∧ Gr w v wr v0))
  case atStart => exact ⟨0, rfl, Nat.zero_le _, Nat.le_refl _, Lib.hid ⟨by simpa [layB] using HR0.out, Gr.of_ext (Ext.refl _)⟩⟩
  case round =>
    obtain ⟨i, rfl, hik, hgk, HI⟩ := hrel
    rcases Nat.lt_or_ge i k with hlt | hge
    · have d1 : decide (i < k) = true := by simp [hlt]
      have hlen : (l ++ layB n i).length = l.length + i := by simp [layB_len]
      obtain ⟨N, hN⟩ : ∃ N, N = (l ++ layB n i).length := ⟨_, rfl⟩
      rw [← hN] at hlen HI
      have hin9 : i ≤ 7 := by omega
      obtain ⟨b, hbb⟩ : ∃ b, b = UInt8.ofNat (n >>> (8 * i)) := ⟨_, rfl⟩
      have hv : (n : Int) / 2 ^ (8 * i) % 256 = (b.toNat : Int) := by
        rw [hbb, Nat.shiftRight_eq_div_pow]
        simp
      have HL : Hid (l ++ layB n (i + 1) = l ++ layB n i ++ [b] ∧ N = (l ++ layB n i).length) := Lib.hid ⟨by rw [layB_snoc, hbb, List.append_assoc], hN⟩
      have hN9 : N ≤ 1000000000 := by omega
      clear hbb hN hlen
      repeat' (first | go_skip | go_guarded | (at_builtin; refine wpList_app rfl (.tmp 12) (.tmp 18) _ rfl B 5 1 1 Tryd.underlying34 infoB (by decide) _ N (encB (l ++ layB n i)) rfl (HI.out.1.alloc _) _ 1 1 [.int .u8 (b.toNat : Int)] rfl rfl (Seg.new _ [_] _ rfl) (by intro u hu; simp at hu; subst hu; rfl) (by unfold maxLen; omega) (by omega) (by have := HI.out.2.only.size; simp; omega) ?_; intro v1 w1 hown hg1 hn1) | go_step)
      have H1 : Hid (w1.ownsRow B 5 1 v1 (l ++ layB n (i + 1)).length (encB (l ++ layB n (i + 1))) ∧ Gr w v w1 v1) := Lib.hid (by
        rw [HL.out.1, List.length_append, ← HL.out.2, encB_append]
        exact ⟨hown, HI.out.2.trans ((Gr.of_ext ((Ext.refl _).alloc (Nat.le_refl _) _)).trans (Gr.of_app hg1 hn1))⟩)
      clear hown hg1 hn1
      go_roundg (k - (i + 1))
      case measure => omega
      case rel => exact ⟨i + 1, by go_num, by omega, Nat.le_refl _, H1⟩
    · obtain rfl : i = k := by omega
      have d1 : decide (i < i) = false := by simp
      repeat' (first | go_skip | go_guarded | go_step)
      go_ret
      exact ⟨_, rfl, HI.out.1, HI.out.2⟩

set_option maxRecDepth 100000 in
set_option maxHeartbeats 1000000 in
theorem spairs_c (W w : World) (v vl : Value) (l : List UInt8) (ps : List Pr) (hr : w.ownsRow W.heap.size 5 1 v l.length (encB l)) (hb : Below W.heap.size W w) (hP : PS w vl ps) (hp9 : ps.length ≤ 100000) (h9 : l.length + (prsB ps).length ≤ 1000000000) :
    Calls Tryd.prog 56 #[v, vl] w fun e w' => ∃ v', e = .returned v' ∧ w'.ownsRow W.heap.size 5 1 v' (l ++ prsB ps).length (encB (l ++ prsB ps)) ∧ Below W.heap.size W w' ∧ Ext w w' ∧ Gr w v w' v' := by
  obtain ⟨A, C, rfl, _, hnC, hC9, hs⟩ := hP
  obtain ⟨n, hn⟩ : ∃ n, n = ps.length := ⟨_, rfl⟩
  rw [← hn] at hnC ⊢
  have hn9 : n ≤ 100000 := by omega
  have HH := Lib.hid (And.intro hr (And.intro hb (And.intro hs hn)))
  clear hr hb hs hn hp9
  go_enter Tryd.func56, Tryd.ntmps56
  repeat' (go_not_at_region 2; (first | go_skip | go_guarded | go_step))
  go_loopg [0, 6, 9] n (fun gk v0 v6 v9 wr => ∃ i : Nat, v9 = .int .i64 i ∧ i ≤ n ∧ n - i ≤ gk ∧ Hid (wr.ownsRow W.heap.size 5 1 v0 (l ++ prsB (ps.take i)).length (encB (l ++ prsB (ps.take i))) ∧ Ext w wr ∧ Below W.heap.size W wr ∧ Gr w v wr v0))
  case atStart => exact ⟨0, rfl, Nat.zero_le _, by omega, Lib.hid ⟨by simpa [prsB] using HH.out.1, Ext.refl _, HH.out.2.1, Gr.of_ext (Ext.refl _)⟩⟩
  case round =>
    obtain ⟨i, rfl, hin, hgk, HI⟩ := hrel
    rcases Nat.lt_or_ge i n with hlt | hge
    · have d1 : decide (i < n) = true := by simp [hlt]
      have hi1 : (i : Int) < (n : Int) := by omega
      obtain ⟨p, hp⟩ := get_of_lt ps (show i < ps.length by have := HH.out.2.2.2; omega)
      obtain ⟨b, o, rfl, q0, q1⟩ := seg_pair (HH.out.2.2.1.below HI.out.2.1) hp
      have hT := prsB_take hp
      have hle := prsB_le ps (i + 1)
      rw [hT, List.length_append, prB, List.length_append] at hle
      have t1 : (textB p.1).length = p.1.length + 2 := by simp [textB, twoB]
      have t2 : (textB p.2).length = p.2.length + 2 := by simp [textB, twoB]
      have HT := Lib.hid hT
      clear hp hT
      repeat' (go_not_at_region 4; (first | go_skip | go_guarded | go_step))
      obtain ⟨gp, hgp⟩ : ∃ g, g = wr.heap.size := ⟨_, rfl⟩
      rw [← hgp]
      refine wp_nameY (fun w' => w'.cell? ⟨gp, 0, none⟩ = some (str p.1) ∧ w'.cell? ⟨gp, 1, none⟩ = some (str p.2) ∧ Ext wr w') ⟨by rw [World.cell?_alloc_at _ _ _ _ hgp]; rfl, by rw [World.cell?_alloc_at _ _ _ _ hgp]; rfl, (Ext.refl _).alloc (Nat.le_refl _) _⟩ ?_
      clear hgp q0 q1
      intro w1 H1
      obtain ⟨L, hL⟩ : ∃ L, L = l ++ prsB (ps.take i) := ⟨_, rfl⟩
      have hLl : L.length = l.length + (prsB (ps.take i)).length := by rw [hL, List.length_append]
      rw [← hL] at HI
      have HB : Hid (∀ X, Ext wr X → BS X u0 L) := Lib.hid (fun X f => (BS.of_own HI.out.1).below f)
      have HCc : Hid (∀ X, Ext w1 X → X.cell? ⟨gp, 0, none⟩ = some (str p.1) ∧ X.cell? ⟨gp, 1, none⟩ = some (str p.2)) := Lib.hid (fun X f => ⟨(f.cell (World.block_lt_of_cell? w1 _ H1.out.1)).trans H1.out.1, (f.cell (World.block_lt_of_cell? w1 _ H1.out.2.1)).trans H1.out.2.1⟩)
      have hd1 : Ext w1 w1.drew := (Ext.refl w1).drew
      have HL := Lib.hid hL
      clear hL
      go_region_held3 (fun w' => w'.cell? ⟨gp, 0, none⟩ = some (str p.1) ∧ w'.cell? ⟨gp, 1, none⟩ = some (str p.2))
        (first | exact HCc.out _ k3.out | exact HCc.out _ k2.out | exact HCc.out _ hd1)
        (first
          | (go_at_call 89; have hK2 := K2.out; refine (text_c _ y2 (L ++ textB p.1) p.2 (BS.of_own hK2) (by rw [List.length_append]; omega)).mono ?_; rintro e x3 ⟨y3, rfl, r3, f3⟩; have k3 : Hid (Ext w1 x3) := Lib.hid (Ext.trans k2.out f3); have K3 := Lib.hid (And.intro r3 (Ext.trans k2.out (Ext.refl x2)).size); clear f3 r3)
          | (go_at_call 89; refine (text_c _ u0 L p.1 (HB.out _ (Ext.trans H1.out.2.2 hd1)) (by omega)).mono ?_; rintro e x2 ⟨y2, rfl, r2, f2⟩; have k2 : Hid (Ext w1 x2) := Lib.hid (Ext.trans hd1 f2); have K2 := Lib.hid r2; clear f2 r2))
      have E3 : Ext w x3 := Ext.trans HI.out.2.1 (Ext.trans H1.out.2.2 k3.out)
      have hsz : W.heap.size ≤ x2.heap.size := by
        have h1 := HI.out.2.2.1.size
        have h2 := H1.out.2.2.size
        have h3 := k2.out.size
        omega
      have H4 : Hid (x3.ownsRow W.heap.size 5 1 y3 (l ++ prsB (ps.take (i + 1))).length (encB (l ++ prsB (ps.take (i + 1)))) ∧ Ext w x3 ∧ Below W.heap.size W x3 ∧ Gr w v x3 y3) := Lib.hid ⟨by
        have := rowB_up K3.out.1 hsz
        rw [HT.out, ← List.append_assoc, ← HL.out, prB, ← List.append_assoc]
        exact this, E3, HI.out.2.2.1.trans ((Ext.trans H1.out.2.2 k3.out).mono HI.out.2.2.1.size), ⟨Only.of_ext E3, .inr fun b hb => by
        have h1 := (World.ownsRow.lt K3.out.1 b hb).1
        have h2 := HI.out.2.1.size
        have h3 := H1.out.2.2.size
        have h4 := k2.out.size
        omega⟩⟩
      clear E3 hsz
      repeat' (first | go_skip | go_guarded | go_step)
      go_roundg (n - (i + 1))
      case measure => omega
      case rel => exact ⟨i + 1, by go_num, by omega, Nat.le_refl _, H4⟩
    · obtain rfl : i = n := by omega
      have d1 : decide (i < i) = false := by simp
      have hT : ps.take i = ps := List.take_of_length_le (by have := HH.out.2.2.2; omega)
      rw [hT] at HI
      repeat' (first | go_skip | go_guarded | go_step)
      go_ret
      exact ⟨_, rfl, HI.out.1, HI.out.2.2.1, HI.out.2.1, HI.out.2.2.2⟩
end Go.Proofs.YtclcgelbcbnekaaDoor
/- Tries of hashes, plainly: a chunk's own pairs; a node in memory is the trie of a list. No program. -/
set_option linter.unusedVariables false
namespace Go.QS
open Go.RowKit Go.QS.Nk
variable [Zero (Nat → Prop)]
set_option linter.unusedSectionVars false

/-- Five bits of a hash. -/
def chk (x lv : Nat) : Nat := x / 32 ^ lv % 32
theorem chk_lt (x lv : Nat) : chk x lv < 32 := Nat.mod_lt _ (by decide)
/-- A chunk's own pairs. -/
def part (H : List UInt8 → Nat) (lv c : Nat) (l : List Pr) : List Pr := l.filter fun p => chk (H p.1) lv == c
def getL (key : List UInt8) (x : List Pr) : Option (List UInt8) := (x.find? fun p => p.1 == key).map fun p => p.2
section
variable {H : List UInt8 → Nat} {lv c : Nat} {l : List Pr} {p q : Pr} {k : List UInt8}
theorem mem_part : q ∈ part H lv c l ↔ q ∈ l ∧ chk (H q.1) lv = c := by simp [part]
theorem part_rise (h : Rise l) : Rise (part H lv c l) := List.Pairwise.filter _ h
theorem part_length : (part H lv c l).length ≤ l.length := List.length_filter_le _ _
theorem part_nil : part H lv c [] = [] := rfl
theorem part_put (h : Rise l) : part H lv (chk (H p.1) lv) (rput l p) = rput (part H lv (chk (H p.1) lv) l) p := by
  refine rise_ext _ _ (part_rise (rput_rise h p)) (rput_rise (part_rise h) p) fun q => ?_
  rw [mem_part, mem_rput, mem_rput, mem_part]
  constructor
  · rintro ⟨rfl | ⟨h1, h2⟩, h3⟩
    · exact .inl rfl
    · exact .inr ⟨⟨h1, h3⟩, h2⟩
  · rintro (rfl | ⟨⟨h1, h3⟩, h2⟩)
    · exact ⟨.inl rfl, rfl⟩
    · exact ⟨.inr ⟨h1, h2⟩, h3⟩
theorem part_put_off (h : Rise l) (hc : chk (H p.1) lv ≠ c) : part H lv c (rput l p) = part H lv c l := by
  refine rise_ext _ _ (part_rise (rput_rise h p)) (part_rise h) fun q => ?_
  rw [mem_part, mem_rput, mem_part]
  constructor
  · rintro ⟨rfl | ⟨h1, h2⟩, h3⟩
    · exact absurd h3 hc
    · exact ⟨h1, h3⟩
  · rintro ⟨h1, h3⟩
    exact ⟨.inr ⟨h1, fun e => hc (by rw [← e]; exact h3)⟩, h3⟩
theorem part_drop : part H lv c (rdrop l k) = rdrop (part H lv c l) k := by
  unfold part rdrop
  rw [List.filter_filter, List.filter_filter]
  congr 1
  funext q
  exact Bool.and_comm _ _
theorem part_drop_off (hc : chk (H k) lv ≠ c) : part H lv c (rdrop l k) = part H lv c l := by
  rw [part_drop]
  refine rdrop_self ?_
  rw [Bool.eq_false_iff]
  intro h
  obtain ⟨q, h1, h2⟩ := hasK_iff.1 h
  exact hc (by rw [← h2]; exact (mem_part.1 h1).2)
theorem part_has : hasK (part H lv (chk (H k) lv) l) k = hasK l k := by
  rw [Bool.eq_iff_iff, hasK_iff, hasK_iff]
  constructor
  · rintro ⟨q, h1, h2⟩
    exact ⟨q, (mem_part.1 h1).1, h2⟩
  · rintro ⟨q, h1, h2⟩
    exact ⟨q, mem_part.2 ⟨h1, by rw [h2]⟩, h2⟩
theorem part_get : getL k (part H lv (chk (H k) lv) l) = getL k l := by
  unfold getL part
  rw [List.find?_filter]
  congr 2
  funext q
  by_cases h : q.1 = k
  · simp [h]
  · simp [h]
theorem part_mem : p ∈ part H lv (chk (H p.1) lv) l ↔ p ∈ l := by simp [mem_part]
theorem rput_self (h : Rise l) (hp : p ∈ l) : rput l p = l := by
  refine rise_ext _ _ (rput_rise h p) h fun q => ?_
  rw [mem_rput]
  constructor
  · rintro (rfl | ⟨h1, _⟩)
    · exact hp
    · exact h1
  · intro hq
    by_cases e : q.1 = p.1
    · left
      have a := (lastK_rise h q).2 hq
      have b := (lastK_rise h p).2 hp
      rw [e] at a
      rw [a] at b
      exact Option.some.inj b
    · exact .inr ⟨hq, e⟩
theorem rput_len (h : Rise l) : l.length ≤ (rput l p).length := by
  rw [rput_cut h p]
  split
  · rename_i hk
    have := hasK_at (k := p.1) h
    have h2 : fndI l p.1 < l.length := by
      rw [hk] at this
      cases hh : l[fndI l p.1]? with
      | none => rw [hh] at this; simp at this
      | some q => exact (List.getElem?_eq_some_iff.1 hh).1
    simp only [List.length_append, List.length_take, List.length_cons, List.length_drop]
    omega
  · have := fndI_le l p.1
    simp only [List.length_append, List.length_take, List.length_cons, List.length_drop]
    omega
theorem rput_one (hk : p.1 = q.1) : rput [q] p = [p] := by
  simp [rput, rdrop, insB, hk]
theorem two_rise (hk : p.1 ≠ q.1) : Rise (rput [q] p) ∧ (rput [q] p).length = 2 ∧ ∀ x, x ∈ rput [q] p ↔ x = p ∨ x = q := by
  have hr : Rise [q] := by simp [Rise]
  refine ⟨rput_rise hr p, ?_, fun x => ?_⟩
  · have e : rdrop [q] p.1 = [q] := rdrop_self (by simp [hasK]; exact fun e => hk e.symm)
    unfold rput
    rw [e]
    simp only [insB]
    split <;> simp
  · rw [mem_rput]
    simp only [List.mem_singleton]
    constructor
    · rintro (h | ⟨h, _⟩)
      · exact .inl h
      · exact .inr h
    · rintro (h | rfl)
      · exact .inl h
      · exact .inr ⟨rfl, fun e => hk e.symm⟩
theorem has_rput : hasK (rput l p) p.1 = true := hasK_iff.2 ⟨p, mem_rput.2 (.inl rfl), rfl⟩
theorem rise_two {a b : Pr} (h : Rise [a, b]) : a.1 < b.1 := by simp [Rise] at h; exact h
theorem two_swap (hk : p.1 ≠ q.1) : rput [q] p = rput [p] q := by
  have h1 := two_rise hk
  have h2 := two_rise (fun e => hk e.symm)
  exact rise_ext _ _ h1.1 h2.1 fun x => by rw [h1.2.2, h2.2.2, or_comm]
theorem part_two_all (hk : p.1 ≠ q.1) (h1 : chk (H p.1) lv = c) (h2 : chk (H q.1) lv = c) : part H lv c (rput [q] p) = rput [q] p := by
  refine List.filter_eq_self.2 fun x hx => ?_
  rcases ((two_rise hk).2.2 x).1 hx with rfl | rfl
  · simp [h1]
  · simp [h2]
theorem part_two_none (hk : p.1 ≠ q.1) (h1 : chk (H p.1) lv ≠ c) (h2 : chk (H q.1) lv ≠ c) : part H lv c (rput [q] p) = [] := by
  refine List.filter_eq_nil_iff.2 fun x hx => ?_
  rcases ((two_rise hk).2.2 x).1 hx with rfl | rfl
  · simp [h1]
  · simp [h2]
theorem part_two_p (hk : p.1 ≠ q.1) (h1 : chk (H p.1) lv = c) (h2 : chk (H q.1) lv ≠ c) : part H lv c (rput [q] p) = [p] := by
  refine rise_ext _ _ (part_rise (two_rise hk).1) (by simp [Rise]) fun x => ?_
  rw [mem_part, (two_rise hk).2.2]
  simp only [List.mem_singleton]
  constructor
  · rintro ⟨rfl | rfl, h3⟩
    · rfl
    · exact absurd h3 h2
  · rintro rfl
    exact ⟨.inl rfl, h1⟩
end

/-- What a chunk has, of these pairs. -/
def SlotOk (R : Nat → List Pr → Prop) (s : Slot Nat) (x : List Pr) : Prop :=
  match s with
  | .no => x = []
  | .pr p => x = [p]
  | .kid k => 2 ≤ x.length ∧ R k x
theorem SlotOk.mono {R R' : Nat → List Pr → Prop} {s : Slot Nat} {x : List Pr} (h : SlotOk R s x) (hR : ∀ k, R k x → R' k x) : SlotOk R' s x := by
  cases s with
  | no => exact h
  | pr p => exact h
  | kid k => exact ⟨h.1, hR k h.2⟩
/-- A node in memory is the trie of these pairs, of so many levels more. -/
def TR (T : TypeId) (H : List UInt8 → Nat) (w : World) : Nat → Nat → List Pr → Prop
  | 0, g, l => Bk T w g l
  | f + 1, g, l => ∃ sl, In T w g sl ∧ ∀ c s, sl[c]? = some s → SlotOk (TR T H w f) s (part H (12 - f) c l)
section
variable {T : TypeId} {H : List UInt8 → Nat} {w w' : World} {g : Nat} {l : List Pr}
theorem TR.ext (h : Ext w w') : ∀ (f : Nat) {g : Nat} {l : List Pr}, TR T H w f g l → TR T H w' f g l
  | 0, _, _, hR => Bk.ext hR h
  | f + 1, _, _, ⟨sl, h1, h2⟩ => ⟨sl, h1.ext h, fun c s hs => (h2 c s hs).mono fun _ hk => TR.ext h f hk⟩
theorem TR.get {f : Nat} {sl : List (Slot Nat)} (h1 : In T w g sl) (h2 : ∀ c s, sl[c]? = some s → SlotOk (TR T H w f) s (part H (12 - f) c l)) {c : Nat} (hc : c < 32) : ∃ s, sl[c]? = some s ∧ SlotOk (TR T H w f) s (part H (12 - f) c l) := by
  obtain ⟨s, hs⟩ := get_of_lt sl (show c < sl.length by rw [h1.1]; exact hc)
  exact ⟨s, hs, h2 c s hs⟩
/-- A place turned. -/
theorem TR.turn {f i g' : Nat} {sl : List (Slot Nat)} {s : Slot Nat} {l' : List Pr} (h2 : ∀ c s, sl[c]? = some s → SlotOk (TR T H w f) s (part H (12 - f) c l)) (hE : Ext w w') (hN : In T w' g' (sl.set i s)) (hs : SlotOk (TR T H w' f) s (part H (12 - f) i l')) (ho : ∀ c, c ≠ i → part H (12 - f) c l' = part H (12 - f) c l) : TR T H w' (f + 1) g' l' := by
  refine ⟨_, hN, fun c s' hc => ?_⟩
  by_cases e : c = i
  · subst e
    rw [List.getElem?_set] at hc
    simp only [if_pos] at hc
    split at hc
    · cases hc; exact hs
    · cases hc
  · rw [List.getElem?_set_ne (fun h => e h.symm)] at hc
    rw [ho c e]
    exact (h2 c s' hc).mono fun _ hk => TR.ext hE f hk
theorem TR.none {f : Nat} (h : In T w g (sl0 Nat)) : TR T H w (f + 1) g [] := by
  refine ⟨_, h, fun c s hs => ?_⟩
  have hc := get_lt hs
  rw [sl0_length] at hc
  rw [sl0_get hc] at hs
  cases hs
  exact part_nil

/-- How many: those of the node itself, and of each kid. -/
theorem parts_len (H : List UInt8 → Nat) (lv : Nat) (l : List Pr) (n : Nat) : (l.filter fun p => decide (chk (H p.1) lv < n + 1)).length = (l.filter fun p => decide (chk (H p.1) lv < n)).length + (part H lv n l).length := by
  induction l with
  | nil => rfl
  | cons p l ih =>
    unfold part at ih ⊢
    simp only [List.filter_cons]
    rcases Nat.lt_trichotomy (chk (H p.1) lv) n with h | h | h
    · have h1 : chk (H p.1) lv < n + 1 := by omega
      have h2 : (chk (H p.1) lv == n) = false := by simp; omega
      simp only [h, h1, h2, decide_true, if_true, List.length_cons, Bool.false_eq_true, if_false, ih]; omega
    · have h1 : chk (H p.1) lv < n + 1 := by omega
      have h2 : (chk (H p.1) lv == n) = true := by simp [h]
      have h3 : ¬ chk (H p.1) lv < n := by omega
      simp only [h3, h1, h2, decide_true, decide_false, if_true, List.length_cons, Bool.false_eq_true, if_false, ih]; omega
    · have h1 : ¬ chk (H p.1) lv < n + 1 := by omega
      have h2 : (chk (H p.1) lv == n) = false := by simp; omega
      have h3 : ¬ chk (H p.1) lv < n := by omega
      simp only [h3, h1, h2, decide_false, Bool.false_eq_true, if_false, ih]
def sumL : List (List Pr) → Nat
  | [] => 0
  | x :: r => x.length + sumL r
theorem sumL_append : ∀ (a b : List (List Pr)), sumL (a ++ b) = sumL a + sumL b
  | [], b => by simp [sumL]
  | x :: a, b => by simp only [List.cons_append, sumL, sumL_append a b]; omega
/-- Kids and their lists. -/
structure KidsOk (R : Nat → List Pr → Prop) (ks : List Nat) (Ls : List (List Pr)) : Prop where
  len : ks.length = Ls.length
  ok : ∀ (i : Nat) k x, ks[i]? = some k → Ls[i]? = some x → 2 ≤ x.length ∧ R k x
theorem parts_sum {R : Nat → List Pr → Prop} {sl : List (Slot Nat)} {lv : Nat} (h2 : ∀ c s, sl[c]? = some s → SlotOk R s (part H lv c l)) : ∀ n, n ≤ sl.length → ∃ Ls, KidsOk R (kdsOf (sl.take n)) Ls ∧ (prsOf (sl.take n)).length + sumL Ls = (l.filter fun p => decide (chk (H p.1) lv < n)).length
  | 0, _ => ⟨[], ⟨by simp [kdsOf], fun i k x h => by simp [kdsOf] at h⟩, by
      have e : (l.filter fun p => decide (chk (H p.1) lv < 0)) = [] := List.filter_eq_nil_iff.2 fun p _ => by simp
      rw [e]; simp [prsOf, sumL]⟩
  | n + 1, hn => by
    obtain ⟨Ls, ⟨hk1, hk2⟩, hl⟩ := parts_sum h2 n (by omega)
    obtain ⟨s, hs⟩ := get_of_lt sl (show n < sl.length by omega)
    have ok := h2 n s hs
    rw [parts_len, take_snoc hs, kdsOf_append, prsOf_append]
    cases s with
    | no =>
      have e : part H lv n l = [] := ok
      have e1 : kdsOf [(Slot.no : Slot Nat)] = [] := rfl
      have e2 : prsOf [(Slot.no : Slot Nat)] = [] := rfl
      rw [e, e1, e2, List.append_nil, List.append_nil]
      exact ⟨Ls, ⟨hk1, hk2⟩, hl⟩
    | pr p =>
      have e : part H lv n l = [p] := ok
      have e1 : kdsOf [(Slot.pr p : Slot Nat)] = [] := rfl
      have e2 : prsOf [(Slot.pr p : Slot Nat)] = [p] := rfl
      rw [e, e1, e2, List.append_nil]
      refine ⟨Ls, ⟨hk1, hk2⟩, ?_⟩
      simp only [List.length_append, List.length_cons, List.length_nil]
      omega
    | kid k =>
      obtain ⟨h3, h4⟩ : 2 ≤ (part H lv n l).length ∧ R k (part H lv n l) := ok
      refine ⟨Ls ++ [part H lv n l], ⟨by rw [List.length_append, List.length_append, hk1]; rfl, fun i k' x ha hb => ?_⟩, ?_⟩
      · have e : kdsOf [Slot.kid k] = [k] := rfl
        rw [e] at ha
        rcases Nat.lt_trichotomy i (kdsOf (sl.take n)).length with h | h | h
        · rw [List.getElem?_append_left h] at ha
          rw [List.getElem?_append_left (by omega)] at hb
          exact hk2 i k' x ha hb
        · rw [List.getElem?_append_right (by omega), h, Nat.sub_self] at ha
          rw [List.getElem?_append_right (by omega), h, ← hk1, Nat.sub_self] at hb
          cases ha; cases hb
          exact ⟨h3, h4⟩
        · rw [List.getElem?_append_right (by omega)] at ha
          have := (List.getElem?_eq_some_iff.1 ha).1
          simp at this
          omega
      · have e : prsOf [Slot.kid k] = [] := rfl
        rw [e, sumL_append]
        simp only [sumL, List.append_nil]
        omega
theorem TR.sum {f : Nat} {sl : List (Slot Nat)} (h1 : In T w g sl) (h2 : ∀ c s, sl[c]? = some s → SlotOk (TR T H w f) s (part H (12 - f) c l)) : ∃ Ls, KidsOk (TR T H w f) (kdsOf sl) Ls ∧ (prsOf sl).length + sumL Ls = l.length := by
  obtain ⟨Ls, hk, hl⟩ := parts_sum h2 32 (by rw [h1.1]; exact Nat.le_refl _)
  have e : sl.take 32 = sl := List.take_of_length_le (by rw [h1.1]; exact Nat.le_refl _)
  rw [e] at hk hl
  refine ⟨Ls, hk, hl.trans ?_⟩
  congr 1
  exact List.filter_eq_self.2 fun p _ => by simp [chk_lt]
theorem sumL_ge {R : Nat → List Pr → Prop} {ks : List Nat} {Ls : List (List Pr)} (h : KidsOk R ks Ls) : ∀ n, n ≤ Ls.length → 2 * n ≤ sumL (Ls.take n)
  | 0, _ => Nat.zero_le _
  | n + 1, hn => by
    have ih := sumL_ge h n (by omega)
    obtain ⟨x, hx⟩ := get_of_lt Ls (show n < Ls.length by omega)
    obtain ⟨k, hk⟩ := get_of_lt ks (show n < ks.length by rw [h.len]; omega)
    have := (h.ok n k x hk hx).1
    rw [take_snoc hx, sumL_append]
    simp only [sumL]
    omega
/-- What stands alone. -/
theorem TR.alone {f : Nat} {sl : List (Slot Nat)} {p : Pr} (h1 : In T w g sl) (h2 : ∀ c s, sl[c]? = some s → SlotOk (TR T H w f) s (part H (12 - f) c [p])) : prsOf sl = [p] ∧ kdsOf sl = [] := by
  obtain ⟨Ls, hk, hl⟩ := TR.sum h1 h2
  have h3 := sumL_ge hk _ (Nat.le_refl _)
  rw [List.take_length] at h3
  have h4 := hk.len
  simp at hl
  have h5 : kdsOf sl = [] := List.eq_nil_of_length_eq_zero (by omega)
  have h6 : Ls = [] := List.eq_nil_of_length_eq_zero (by omega)
  rw [h6] at hl
  simp [sumL] at hl
  obtain ⟨q, hq⟩ := List.length_eq_one_iff.1 hl
  have h7 : q ∈ prsOf sl := by rw [hq]; simp
  obtain ⟨s, hs, hg⟩ := List.mem_filterMap.1 h7
  obtain ⟨i, hi⟩ := List.mem_iff_getElem?.1 hs
  cases s with
  | no => simp at hg
  | kid k => simp at hg
  | pr q' =>
    simp at hg
    subst hg
    have h8 : part H (12 - f) i [p] = [q'] := h2 i _ hi
    have h9 : q' ∈ part H (12 - f) i [p] := by rw [h8]; simp
    have := (mem_part.1 h9).1
    simp at this
    subst this
    exact ⟨hq, h5⟩
theorem TR.many {f : Nat} {sl : List (Slot Nat)} (h1 : In T w g sl) (h2 : ∀ c s, sl[c]? = some s → SlotOk (TR T H w f) s (part H (12 - f) c l)) (hl : 2 ≤ l.length) : ¬ (kdsOf sl = [] ∧ (prsOf sl).length = 1) := by
  rintro ⟨h3, h4⟩
  obtain ⟨Ls, hk, h5⟩ := TR.sum h1 h2
  have := hk.len
  rw [h3] at this
  have h6 : Ls = [] := List.eq_nil_of_length_eq_zero this.symm
  rw [h6] at h5
  simp [sumL] at h5
  omega
end
end Go.QS
