/- Contracts: chapter 8's own few, trie. -/
import Derived.Test.YtbmakajadelckaaM41
import Derived.Test.YtbmakajadelckaaM07
import Derived.Test.YtbmakajadelckaaM26
import Derived.Laws.Rows
import Derived.Deep.LoopGhost
set_option linter.unusedVariables false
set_option linter.unusedSimpArgs false
namespace Go.QS
open Go.RowKit Go.QS.Nk
def cutL (l : List Pr) (i : Nat) : List Pr := ((l.take 40).take i).map cutP
theorem cutL_snoc {l : List Pr} {i : Nat} {p : Pr} (h : l[i]? = some p) (hi : i < 40) : cutL l (i + 1) = cutL l i ++ [cutP p] := by
  have : (l.take 40)[i]? = some p := by rw [List.getElem?_take_of_lt hi]; exact h
  rw [cutL, take_snoc this, List.map_append]; rfl
theorem cutL_past {l : List Pr} {i : Nat} (hi : 40 ≤ i) : cutL l i = cutL l 40 := by
  unfold cutL
  rw [List.take_take, List.take_take, Nat.min_eq_right hi, Nat.min_self]
theorem cutL_all {l : List Pr} {i : Nat} (hi : l.length ≤ i) : cutL l i = (l.take 40).map cutP := by
  unfold cutL
  rw [List.take_of_length_le (by rw [List.length_take]; omega)]
theorem cutL_len (l : List Pr) (i : Nat) : (cutL l i).length ≤ 40 := by
  unfold cutL
  simp only [List.length_map, List.length_take]
  omega
theorem cutL_keys (l : List Pr) (i : Nat) : ∀ p ∈ cutL l i, p.1.length ≤ 40 ∧ p.2.length ≤ 40 := by
  intro p hp
  obtain ⟨q, _, rfl⟩ := List.mem_map.1 hp
  exact cutP_short q
theorem rsort_sub (l : List Pr) : ∀ q ∈ rsort l, q ∈ l := by
  have key : ∀ (n : Nat) (l : List Pr), l.length = n → ∀ q ∈ rsort l, q ∈ l := by
    intro n
    induction n with
    | zero => intro l hl q hq; rw [List.eq_nil_of_length_eq_zero hl] at hq; simp [rsort] at hq
    | succ n ih =>
      intro l hl q hq
      rcases List.eq_nil_or_concat l with rfl | ⟨r, x, rfl⟩
      · simp at hl
      · rw [List.concat_eq_append] at hq hl ⊢
        rw [rsort_snoc] at hq
        rcases mem_rput.1 hq with rfl | ⟨h, _⟩
        · simp
        · exact List.mem_append_left _ (ih r (by simpa using hl) q h)
  exact key _ l rfl
/-- The map of the first pairs, cut. -/
def xOf (l : List Pr) : List Pr := rsort ((l.take 40).map cutP)
theorem xOf_ok (l : List Pr) : Rise (xOf l) ∧ (xOf l).length ≤ 40 ∧ ∀ q ∈ xOf l, q.1.length ≤ 40 ∧ q.2.length ≤ 40 := by
  refine ⟨rsort_rise _, ?_, fun q hq => ?_⟩
  · have := rsort_length ((l.take 40).map cutP)
    have h2 : ((l.take 40).map cutP).length ≤ 40 := by simp; omega
    unfold xOf; omega
  · obtain ⟨p, _, rfl⟩ := List.mem_map.1 (rsort_sub _ q hq)
    exact cutP_short p
end Go.QS
namespace Go.Proofs.Ytbmakajadelckaa
open Go.RowKit Go.QS Go.QS.Nk
set_option linter.unusedVariables false

set_option maxRecDepth 100000 in
theorem few08_c (w : World) (p : Pr) :
    Calls Try.prog 21 #[.agg #[str p.1, str p.2]] w fun e w' => e = .returned (.agg #[str (cutP p).1, str (cutP p).2]) ∧ Ext w w' := by
  obtain ⟨k, v⟩ := p
  simp only [cutP]
  by_cases h1 : 40 < k.length
  · have d1 : decide (40 < k.length) = true := by simp [h1]
    have b1 : (40 : Int) ≤ (k.length : Int) := by omega
    by_cases h2 : 40 < v.length
    · have d2 : decide (40 < v.length) = true := by simp [h2]
      have b2 : (40 : Int) ≤ (v.length : Int) := by omega
      go_enter Try.func21, Try.ntmps21
      repeat' (first | go_skip | go_guarded | go_step)
      (try simp only [Exit.inBlock, Exit.then]); refine bodyPost_ret_by (results_cell_row rfl _ _ _ _ _ _ _ rfl (heap_alloc2_new _ _ _) Try.underlying40 rfl (by kernel_rfl)) rfl ?_
      exact ⟨rfl, ((Ext.refl w).alloc (Nat.le_refl _) _).alloc (by simp) _⟩
    · have d2 : decide (40 < v.length) = false := by simp; omega
      have e2 : v.take 40 = v := List.take_of_length_le (by omega)
      rw [e2]
      go_enter Try.func21, Try.ntmps21
      repeat' (first | go_skip | go_guarded | go_step)
      (try simp only [Exit.inBlock, Exit.then]); refine bodyPost_ret_by (results_cell_row rfl _ _ _ _ _ _ _ rfl (heap_alloc2_new _ _ _) Try.underlying40 rfl (by kernel_rfl)) rfl ?_
      exact ⟨rfl, ((Ext.refl w).alloc (Nat.le_refl _) _).alloc (by simp) _⟩
  · have d1 : decide (40 < k.length) = false := by simp; omega
    have e1 : k.take 40 = k := List.take_of_length_le (by omega)
    rw [e1]
    by_cases h2 : 40 < v.length
    · have d2 : decide (40 < v.length) = true := by simp [h2]
      have b2 : (40 : Int) ≤ (v.length : Int) := by omega
      go_enter Try.func21, Try.ntmps21
      repeat' (first | go_skip | go_guarded | go_step)
      (try simp only [Exit.inBlock, Exit.then]); refine bodyPost_ret_by (results_cell_row rfl _ _ _ _ _ _ _ rfl (heap_alloc2_new _ _ _) Try.underlying40 rfl (by kernel_rfl)) rfl ?_
      exact ⟨rfl, ((Ext.refl w).alloc (Nat.le_refl _) _).alloc (by simp) _⟩
    · have d2 : decide (40 < v.length) = false := by simp; omega
      have e2 : v.take 40 = v := List.take_of_length_le (by omega)
      rw [e2]
      go_enter Try.func21, Try.ntmps21
      repeat' (first | go_skip | go_guarded | go_step)
      (try simp only [Exit.inBlock, Exit.then]); refine bodyPost_ret_by (results_cell_row rfl _ _ _ _ _ _ _ rfl (heap_alloc2_new _ _ _) Try.underlying40 rfl (by kernel_rfl)) rfl ?_
      exact ⟨rfl, ((Ext.refl w).alloc (Nat.le_refl _) _).alloc (by simp) _⟩
theorem box_free' {w : World} {g : Nat} {p : Pr} (h : PrAt w g p) (j : Nat) : w.frozen? ⟨g, j, none⟩ = false := by
  unfold PrAt at h
  simp [World.frozen?, h]
set_option maxRecDepth 100000 in
set_option maxHeartbeats 2000000 in
theorem own08_c (w : World) (h : Hs) : Calls Try.prog 46 #[hsV h] w fun e w' => e = .returned (hsV h) ∧ Ext w w' := by
  obtain ⟨a0, a1, mk⟩ := h
  go_enter Try.func46, Try.ntmps46
  repeat' (first | go_skip | go_guarded | go_step)
  (try simp only [Exit.inBlock, Exit.then])
  refine bodyPost_ret_by (results_cell_row rfl _ _ _ _ _ _ _ rfl (heap_alloc2_new _ _ _) Try.underlying93 rfl (by kernel_rfl)) rfl ?_
  exact ⟨rfl, ((Ext.refl w).alloc (Nat.le_refl _) _).alloc (by simp) _⟩
set_option maxRecDepth 100000 in
set_option maxHeartbeats 1000000 in
theorem trie08_c (h : Hs) (hk : h.Ok) (w : World) (v : Value) (l : List Pr) (hP : PS w v l) :
    Calls Try.prog 11 #[hsV h, v] w fun e w' => ∃ g v' v2, e = .returned (.tuple #[ptr g, v', v2]) ∧ Ext w w' ∧ TR ND h.hash w' 13 g (xOf l) ∧ PS w' v' (xOf l) ∧ Sl w' 3 v2 (walkT (trieOf h.hash 13 (xOf l)) 1).length (flatS (walkT (trieOf h.hash 13 (xOf l)) 1)) := by
  obtain ⟨A, c, rfl, hl, hn, hc, hs⟩ := hP
  obtain ⟨n, hn2⟩ : ∃ n, n = l.length := ⟨_, rfl⟩
  have hn9 : n ≤ 9223372036854775807 := by unfold maxLen at hc; omega
  rw [← hn2] at hn ⊢
  have Hn := Lib.hid (And.intro hn2 hs)
  clear hn2 hl hs
  go_enter Try.func11, Try.ntmps11
  repeat' (go_not_at_region 1; (first | go_skip | go_guarded | go_step))
  obtain ⟨gh, hgh⟩ : ∃ g, g = w.heap.size := ⟨_, rfl⟩
  rw [← hgh]
  refine wp_named (fun w' => HsAt w' gh h ∧ Ext w w') ⟨by rw [hgh]; exact heap_new w _, (Ext.refl w).alloc (Nat.le_refl _) _⟩ ?_
  clear hgh
  intro wa HW
  repeat' (first | go_at_call 12 | (go_not_at_region 4; (first | go_skip | go_guarded | go_step)))
  refine (empty_c h wa).mono ?_
  rintro e w0 ⟨g0, rfl, T0, f0⟩
  have H0 : Hid (HsAt w0 gh h ∧ Ext w w0 ∧ TR ND h.hash w0 13 g0 []) := Lib.hid ⟨HW.out.1.ext f0, HW.out.2.trans f0, T0⟩
  clear T0 f0 HW
  go_simp
  repeat' (go_not_at_region 4; (first | go_skip | go_guarded | go_step))
  go_loopg [7, 8, 9, 10, 14] n (fun gk vn vx vi vp vc wr => ∃ i g : Nat, vn = ptr g ∧ vc = .int .i64 i ∧ i ≤ n ∧ n - i ≤ gk ∧ Hid (HsAt wr gh h ∧ Ext w wr ∧ TR ND h.hash wr 13 g (rsort (cutL l i)) ∧ PS wr vx (rsort (cutL l i))))
  case atStart => exact ⟨0, g0, rfl, rfl, Nat.zero_le _, by omega, Lib.hid ⟨H0.out.1, H0.out.2.1, H0.out.2.2, Sl.nil _ _⟩⟩
  case round =>
    obtain ⟨i, g, rfl, rfl, hin, hgk, HI⟩ := hrel
    rcases Nat.lt_or_ge i n with hlt | hge
    · have d1 : decide (i < n) = true := by simp [hlt]
      obtain ⟨p, hp⟩ := get_of_lt l (show i < l.length by have := Hn.out.1; omega)
      obtain ⟨b, o, rfl, hq1, hq2⟩ := seg_pair (Hn.out.2.below HI.out.2.1) hp
      have hi1 : (i : Int) < (n : Int) := by omega
      have HP := Lib.hid hp
      clear hp
      repeat' (go_not_at_region 6; (first | go_skip | go_guarded | go_step))
      obtain ⟨gp, hgp⟩ : ∃ g, g = wr.heap.size := ⟨_, rfl⟩
      rw [← hgp]
      refine wp_named (fun w' => PrAt w' gp p ∧ HsAt w' gh h ∧ Ext w w' ∧ Ext wr w' ∧ wr.heap.size ≤ gp) ⟨by rw [hgp]; exact heap_new wr _, HI.out.1.ext ((Ext.refl _).alloc (Nat.le_refl _) _), HI.out.2.1.alloc HI.out.2.1.size _, (Ext.refl _).alloc (Nat.le_refl _) _, by omega⟩ ?_
      clear hgp hq1 hq2
      intro w1 H1
      have G5 : wr.heap.size ≤ gp := H1.out.2.2.2.2
      by_cases h40 : i < 40
      · have d2 : decide (i < 40) = true := by simp [h40]
        obtain ⟨c1, c2⟩ := H1.out.1.cells
        repeat' (first | go_at_call 21 | go_skip | go_guarded | go_step)
        refine (few08_c _ p).mono ?_
        rintro e w2 ⟨rfl, f2⟩
        obtain ⟨q, hq⟩ : ∃ q, q = cutP p := ⟨_, rfl⟩
        rw [← hq]
        have hql : q.1.length ≤ 40 := by rw [hq]; exact (cutP_short p).1
        have HQ := Lib.hid hq
        have H2 : Hid (PrAt w2 gp p ∧ HsAt w2 gh h ∧ Ext w w2 ∧ Ext wr w2) := Lib.hid ⟨H1.out.1.ext f2, H1.out.2.1.ext f2, H1.out.2.2.1.trans f2, H1.out.2.2.2.1.trans f2⟩
        clear c1 c2 f2 hq
        obtain ⟨c1, c2⟩ := H2.out.1.cells
        have cf := box_free' H2.out.1
        have hgl := heap_lt H2.out.1
        have hne : gh ≠ gp := by
          have := heap_lt HI.out.1
          omega
        go_simp
        repeat' (go_not_at_region 8; (first | go_skip | go_guarded | go_step))
        refine wp_named (fun w' => PrAt w' gp q ∧ HsAt w' gh h ∧ Ext w w' ∧ Ext wr w') ⟨?_, ?_, ?_, ?_⟩ ?_
        · exact heap_set (heap_set H2.out.1 0 _) 1 _
        · exact (Below.heap_setCell _ _ _ _ hne).trans ((Below.heap_setCell _ _ _ _ hne).trans H2.out.2.1)
        · have hle : w.heap.size ≤ gp := Nat.le_trans HI.out.2.1.size G5
          exact (H2.out.2.2.1.setCell hle _).setCell hle _
        · exact (H2.out.2.2.2.setCell G5 _).setCell G5 _
        intro w3 H3
        clear c1 c2 cf hgl H1 H2
        obtain ⟨c1, c2⟩ := H3.out.1.cells
        obtain ⟨e0, e1, e2⟩ := H3.out.2.1.cells
        have hr := rsort_rise (cutL l i)
        have hlen : (rsort (cutL l i)).length ≤ 40 := Nat.le_trans (rsort_length _) (cutL_len l i)
        have HPU := Lib.hid (cput_c h hk w3 (ptr g) _ q (Rot.of (TR.ext H3.out.2.2.2 13 HI.out.2.2.1)) hr (by omega) (fun y hy => by have := (cutL_keys l i y (rsort_sub _ y hy)).1; omega) (by omega))
        clear hr
        repeat' (first | go_at_call 13 | go_skip | go_guarded | go_step)
        refine HPU.out.mono ?_
        rintro e w4 ⟨g4, rfl, t4, f4, _⟩
        have H4 : Hid (PrAt w4 gp q ∧ HsAt w4 gh h ∧ Ext w w4 ∧ Ext wr w4 ∧ TR ND h.hash w4 13 g4 (rput (rsort (cutL l i)) q)) := Lib.hid ⟨H3.out.1.ext f4, H3.out.2.1.ext f4, H3.out.2.2.1.trans f4, H3.out.2.2.2.trans f4, t4⟩
        clear f4 t4 c1 c2 e0 e1 e2 HPU H3
        obtain ⟨c1, c2⟩ := H4.out.1.cells
        go_simp
        repeat' (first | go_at_call 32 | go_skip | go_guarded | go_step)
        refine (rput_c w4 _ (rsort (cutL l i)) q (HI.out.2.2.2.below H4.out.2.2.2.1) (by omega) (by omega)).mono ?_
        rintro e w5 ⟨v5, rfl, o5, f5⟩
        have H5 : Hid (HsAt w5 gh h ∧ Ext w w5 ∧ TR ND h.hash w5 13 g4 (rsort (cutL l (i + 1))) ∧ PS w5 v5 (rsort (cutL l (i + 1)))) := by
          rw [cutL_snoc HP.out h40, ← HQ.out, rsort_snoc]
          exact Lib.hid ⟨H4.out.2.1.ext f5, H4.out.2.2.1.trans f5, TR.ext f5 13 H4.out.2.2.2.2, PS.of_own o5⟩
        clear f5 o5 c1 c2 hql
        go_simp
        repeat' (first | go_skip | go_guarded | go_step)
        go_roundg (n - (i + 1))
        case measure => omega
        case rel => exact ⟨i + 1, g4, rfl, by go_num, by omega, Nat.le_refl _, H5⟩
      · have d2 : decide (i < 40) = false := by simp; omega
        repeat' (first | go_skip | go_guarded | go_step)
        go_roundg (n - (i + 1))
        case measure => omega
        case rel =>
          refine ⟨i + 1, g, rfl, by go_num, by omega, Nat.le_refl _, ?_⟩
          have e1 : cutL l (i + 1) = cutL l i := by rw [cutL_past (show 40 ≤ i + 1 by omega), cutL_past (show 40 ≤ i by omega)]
          rw [e1]
          exact Lib.hid ⟨H1.out.2.1, H1.out.2.2.1, TR.ext H1.out.2.2.2.1 13 HI.out.2.2.1, HI.out.2.2.2.below H1.out.2.2.2.1⟩
    · obtain rfl : i = n := by omega
      have d1 : decide (i < i) = false := by simp
      have hcx : rsort (cutL l i) = xOf l := by rw [cutL_all (by have := Hn.out.1; omega)]; rfl
      rw [hcx] at HI
      obtain ⟨X, hX⟩ : ∃ X, X = xOf l := ⟨_, rfl⟩
      obtain ⟨hXr, hXl, hXk⟩ := xOf_ok l
      rw [← hX] at HI hXr hXl hXk
      have HK := Lib.hid hXk
      have HXe := Lib.hid hX
      clear hXk hX hcx
      obtain ⟨e0, e1, e2⟩ := HI.out.1.cells
      repeat' (first | go_at_call 46 | go_skip | go_guarded | go_step)
      refine (own08_c wr h).mono ?_
      rintro e w1 ⟨rfl, f1⟩
      have H1 : Hid (Ext w w1 ∧ TR ND h.hash w1 13 g X ∧ PS w1 u8 X) := Lib.hid ⟨HI.out.2.1.trans f1, TR.ext f1 13 HI.out.2.2.1, HI.out.2.2.2.below f1⟩
      clear f1 e0 e1 e2
      go_simp
      repeat' (first | go_at_call 45 | go_skip | go_guarded | go_step)
      refine (rof6_c h hk w1 u8 X H1.out.2.2 (by omega) (fun q hq => by have := (HK.out q hq).1; omega)).mono ?_
      rintro e w2 ⟨q, rfl, f2, d2⟩
      have H2 : Hid (Ext w w2 ∧ TR ND h.hash w2 13 g X ∧ PS w2 u8 X ∧ DR h.hash w2 13 q X) := Lib.hid ⟨H1.out.1.trans f2, TR.ext f2 13 H1.out.2.1, H1.out.2.2.below f2, d2⟩
      clear f2 d2
      go_simp
      have HAL := Lib.hid (all_c 13 q X 1 H2.out.2.2.2 (by omega) (by omega) w2 (Ext.refl _))
      repeat' (first | go_at_call 44 | go_skip | go_guarded | go_step)
      refine HAL.out.mono ?_
      rintro e w3 ⟨v3, rfl, r3, f3⟩
      have H3 : Hid (Ext w w3 ∧ TR ND h.hash w3 13 g X ∧ PS w3 u8 X ∧ Sl w3 3 v3 (walkT (trieOf h.hash 13 X) 1).length (flatS (walkT (trieOf h.hash 13 X) 1))) := Lib.hid ⟨H2.out.1.trans f3, TR.ext f3 13 H2.out.2.1, H2.out.2.2.1.below f3, Sl.of_own r3⟩
      clear r3 f3
      go_simp
      repeat' (first | go_skip | go_guarded | go_step)
      go_ret3
      rw [← HXe.out]
      exact ⟨g, _, v3, rfl, H3.out.1, H3.out.2.1, H3.out.2.2.1, H3.out.2.2.2⟩
end Go.Proofs.Ytbmakajadelckaa
