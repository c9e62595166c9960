/- Contracts: chapter 6's own small functions: few, awake; lists alike. -/
import Derived.Test.YtclcgelbcbnekaaBk
import Derived.Test.YtclcgelbcbnekaaBp
import Derived.Laws.Rows
import Derived.Deep.LoopGhost
set_option linter.unusedVariables false
set_option linter.unusedSimpArgs false
namespace Go.QS
variable [Zero (Nat → Prop)]
set_option linter.unusedSectionVars false
theorem cutP_short (p : Pr) : (cutP p).1.length ≤ 40 ∧ (cutP p).2.length ≤ 40 := by simp [cutP]; omega
end Go.QS
namespace Go.Proofs.Ytclcgelbcbnekaa
open Go.RowKit Go.QS Go.QS.Nk
set_option linter.unusedVariables false
variable [Zero (Nat → Prop)]
set_option linter.unusedSectionVars false

set_option maxRecDepth 100000 in
theorem fewp_c (w : World) (p : Pr) :
    Calls Try.prog 47 #[.agg #[str p.1, str p.2]] w fun e w' => e = .returned (.agg #[str (cutP p).1, str (cutP p).2]) ∧ Ext w w' := by
  obtain ⟨k, v⟩ := p
  simp only [cutP]
  by_cases h1 : 40 < k.length
  · have d1 : decide (40 < k.length) = true := by simp [h1]
    have b1 : (40 : Int) ≤ (k.length : Int) := by omega
    by_cases h2 : 40 < v.length
    · have d2 : decide (40 < v.length) = true := by simp [h2]
      have b2 : (40 : Int) ≤ (v.length : Int) := by omega
      go_enter Try.func47, Try.ntmps47
      repeat' (first | go_skip | go_guarded | go_step)
      (try simp only [Exit.inBlock, Exit.then]); refine bodyPost_ret_by (results_cell_row rfl _ _ _ _ _ _ _ rfl (heap_alloc2_new _ _ _) Try.underlying36 rfl (by kernel_rfl)) rfl ?_
      exact ⟨rfl, ((Ext.refl w).alloc (Nat.le_refl _) _).alloc (by simp) _⟩
    · have d2 : decide (40 < v.length) = false := by simp; omega
      have e2 : v.take 40 = v := List.take_of_length_le (by omega)
      rw [e2]
      go_enter Try.func47, Try.ntmps47
      repeat' (first | go_skip | go_guarded | go_step)
      (try simp only [Exit.inBlock, Exit.then]); refine bodyPost_ret_by (results_cell_row rfl _ _ _ _ _ _ _ rfl (heap_alloc2_new _ _ _) Try.underlying36 rfl (by kernel_rfl)) rfl ?_
      exact ⟨rfl, ((Ext.refl w).alloc (Nat.le_refl _) _).alloc (by simp) _⟩
  · have d1 : decide (40 < k.length) = false := by simp; omega
    have e1 : k.take 40 = k := List.take_of_length_le (by omega)
    rw [e1]
    by_cases h2 : 40 < v.length
    · have d2 : decide (40 < v.length) = true := by simp [h2]
      have b2 : (40 : Int) ≤ (v.length : Int) := by omega
      go_enter Try.func47, Try.ntmps47
      repeat' (first | go_skip | go_guarded | go_step)
      (try simp only [Exit.inBlock, Exit.then]); refine bodyPost_ret_by (results_cell_row rfl _ _ _ _ _ _ _ rfl (heap_alloc2_new _ _ _) Try.underlying36 rfl (by kernel_rfl)) rfl ?_
      exact ⟨rfl, ((Ext.refl w).alloc (Nat.le_refl _) _).alloc (by simp) _⟩
    · have d2 : decide (40 < v.length) = false := by simp; omega
      have e2 : v.take 40 = v := List.take_of_length_le (by omega)
      rw [e2]
      go_enter Try.func47, Try.ntmps47
      repeat' (first | go_skip | go_guarded | go_step)
      (try simp only [Exit.inBlock, Exit.then]); refine bodyPost_ret_by (results_cell_row rfl _ _ _ _ _ _ _ rfl (heap_alloc2_new _ _ _) Try.underlying36 rfl (by kernel_rfl)) rfl ?_
      exact ⟨rfl, ((Ext.refl w).alloc (Nat.le_refl _) _).alloc (by simp) _⟩
theorem neqP (w : World) (p q : Pr) : (binOp .neq 36 (.agg #[str p.1, str p.2]) (.agg #[str q.1, str q.2])).run Try.prog w = .ok (.bool (decide (p ≠ q))) w := by
  obtain ⟨a, b⟩ := p
  obtain ⟨c, d⟩ := q
  simp only [go_sem]
  by_cases h1 : a = c <;> by_cases h2 : b = d <;> simp [h1, h2, go_sem]

set_option maxRecDepth 100000 in
theorem eqP_c (w : World) (va vb : Value) (la lb : List Pr) (ha : PS w va la) (hb : PS w vb lb) (h9 : la.length ≤ 1000000000) (h9b : lb.length ≤ 1000000000) :
    Calls Try.prog 107 #[va, vb] w fun e w' => e = .returned (.bool (decide (la = lb))) ∧ Ext w w' := by
  obtain ⟨A, c, rfl, hl, hn, hc, hs⟩ := ha
  obtain ⟨A', c', rfl, hl', hn', hc', hs'⟩ := hb
  by_cases hlen : la.length = lb.length
  · have HL : Hid (la.length = lb.length) := Lib.hid hlen
    have hd : ((la.length : Int) != (lb.length : Int)) = false := by rw [bne_eq_false_iff_eq]; omega
    clear hlen
    go_enter Try.func107, Try.ntmps107
    repeat' go_step
    go_loopw [13] (fun i wr => ∃ k : Nat, k ≤ la.length ∧ i = .int .i64 k ∧ Ext w wr ∧ Hid (la.take k = lb.take k)) (fun i _ => la.length - (intOf i).toNat)
    case atStart => exact ⟨0, Nat.zero_le _, rfl, Ext.refl _, Lib.hid (by simp)⟩
    case round =>
      obtain ⟨k, hk, rfl, hb, HT⟩ := hrel
      by_cases hlt : k < la.length
      · obtain ⟨p, hp⟩ := get_of_lt la hlt
        obtain ⟨q, hq⟩ := get_of_lt lb (show k < lb.length by have := HL.out; omega)
        obtain ⟨b, o, rfl, h1, h2⟩ := seg_pair (hs.below hb) hp
        obtain ⟨b', o', rfl, h1', h2'⟩ := seg_pair (hs'.below hb) hq
        have HP := Lib.hid hp
        have HQ := Lib.hid hq
        clear hp hq
        have hi1 : (k : Int) < (la.length : Int) := by omega
        have hi2 : (k : Int) < (lb.length : Int) := by have := HL.out; omega
        by_cases hpq : p = q
        · have hne : ∀ w, (binOp .neq 36 (.agg #[str p.1, str p.2]) (.agg #[str q.1, str q.2])).run Try.prog w = .ok (.bool false) w := fun w => by rw [neqP]; simp [hpq]
          have HE := Lib.hid hpq
          clear hpq
          repeat' go_step
          go_quiet (fail)
          repeat' go_step
          go_roundw
          case rel => exact ⟨k + 1, by omega, by go_num, below_drewN hb _, Lib.hid (by rw [take_snoc HP.out, take_snoc HQ.out, HT.out, HE.out])⟩
          case measure => simp [intOf]; omega
        · have hne : ∀ w, (binOp .neq 36 (.agg #[str p.1, str p.2]) (.agg #[str q.1, str q.2])).run Try.prog w = .ok (.bool true) w := fun w => by rw [neqP]; simp [hpq]
          have HE := Lib.hid hpq
          clear hpq
          repeat' go_step
          go_quiet (fail)
          repeat' go_step
          go_ret
          refine ⟨?_, below_drewN hb _⟩
          have : la ≠ lb := fun e => HE.out (by have h1 := HP.out; have h2 := HQ.out; rw [e] at h1; rw [h1] at h2; exact Option.some.inj h2)
          simp [this]
      · obtain rfl : k = la.length := by omega
        repeat' go_step
        go_ret
        refine ⟨?_, hb⟩
        have : la = lb := by have h1 := HT.out; rw [List.take_length, HL.out, List.take_length] at h1; exact h1
        simp [this]
  · have hd : ((la.length : Int) != (lb.length : Int)) = true := by rw [bne_iff_ne]; omega
    have HL := Lib.hid hlen
    clear hlen
    go_enter Try.func107, Try.ntmps107
    repeat' go_step
    go_ret
    refine ⟨?_, Ext.refl _⟩
    have : la ≠ lb := fun e => HL.out (by rw [e])
    simp [this]

set_option maxRecDepth 100000 in
theorem same_c (w : World) (va vb : Value) (la lb : List Pr) (ha : PS w va la) (hb : PS w vb lb) (h9 : la.length ≤ 1000000000) (h9b : lb.length ≤ 1000000000) :
    Calls Try.prog 62 #[va, vb] w fun e w' => e = .returned (.bool (decide (la = lb))) ∧ Ext w w' := by
  go_enter Try.func62, Try.ntmps62
  repeat' (first | (go_at_call 107; refine (eqP_c _ _ _ la lb ha hb h9 h9b).mono ?_; rintro e w' ⟨rfl, hb'⟩; go_simp) | go_step)
  go_ret
  exact ⟨rfl, hb'⟩

abbrev hsF : Hs := ⟨0, 0, 18446744073709551615⟩
theorem hsF_ok : hsF.Ok := ⟨by decide, by decide, by decide⟩
theorem full_c (w : World) : Calls Try.prog 92 #[.agg #[.int .u64 0, .int .u64 0]] w fun e w' => e = .returned (hsV hsF) ∧ Ext w w' := by
  go_enter Try.func92, Try.ntmps92
  repeat' (first | go_skip | go_guarded | go_step)
  (try simp only [Exit.inBlock, Exit.then])
  refine bodyPost_ret_by (results_cell_row rfl _ _ _ _ _ _ _ rfl (heap_alloc2_new _ _ _) Try.underlying92 rfl (by kernel_rfl)) rfl ?_
  exact ⟨rfl, ((Ext.refl w).alloc (Nat.le_refl _) _).alloc (by simp) _⟩
def pA : Pr := ([97], [49])
def pB : Pr := ([98], [50])
theorem exAB : rput [pA] pB = [pA, pB] := by decide
set_option maxRecDepth 100000 in
set_option maxHeartbeats 1000000 in
theorem awake6_g (hS9 : ∀ k, S9 k) (w : World) : Calls Try.prog 44 #[] w fun e w' => e = .returned (.bool true) ∧ Ext w w' := by
  have HS9 := Lib.hid hS9
  clear hS9
  go_enter Try.func44, Try.ntmps44
  repeat' (first | go_at_call 92 | go_skip | go_guarded | go_step)
  refine (full_c _).mono ?_
  rintro e w1 ⟨rfl, f1⟩
  obtain ⟨a, ha⟩ : ∃ a, a = w1.heap.size := ⟨_, rfl⟩
  have H1 : Hid (HsAt (w1.alloc (.cells #[.int .u64 hsF.k0, .int .u64 hsF.k1, .int .u64 hsF.mask] HT)) a hsF ∧ Ext w (w1.alloc (.cells #[.int .u64 hsF.k0, .int .u64 hsF.k1, .int .u64 hsF.mask] HT))) := Lib.hid ⟨by rw [ha]; exact heap_new w1 _, f1.trans ((Ext.refl _).alloc (Nat.le_refl _) _)⟩
  clear f1
  go_simp
  repeat' (go_not_at_region 2; (first | go_skip | go_guarded | go_step))
  rw [← ha]
  clear ha
  refine wp_named (fun w' => HsAt w' a hsF ∧ Ext w w') H1.out ?_
  intro wa HW
  clear H1
  obtain ⟨h0, h1, h2⟩ := HW.out.1.cells
  go_region_held3 (fun w' => w'.cell? ⟨a, 0, none⟩ = some (.int .u64 hsF.k0) ∧ w'.cell? ⟨a, 1, none⟩ = some (.int .u64 hsF.k1) ∧ w'.cell? ⟨a, 2, none⟩ = some (.int .u64 hsF.mask))
    (first | exact (HW.out.1.ext k3.out).cells | exact (HW.out.1.ext k2.out).cells | exact (HW.out.1.ext (below_drewN (Ext.refl _) 1)).cells)
    (first
      | (go_at_call 45; refine (empty_c hsF wa.drew (fun k _ => HS9.out k)).mono ?_; rintro e x2 ⟨g, rfl, R2, f2⟩; have k2 : Hid (Ext wa x2) := Lib.hid (Ext.trans (ext_drew (Ext.refl wa)) f2); have KR := Lib.hid R2; clear f2 R2)
      | (go_at_call 46; refine (cput_c hsF hsF_ok x2 (ptr g) [] pA (Rot.of KR.out) rise_nil (by simp) (by simp) (by decide)).mono ?_; rintro e x3 ⟨g3, rfl, R3, f3, s3⟩; have k3 : Hid (Ext wa x3) := Lib.hid (Ext.trans k2.out f3); have K3 := Lib.hid R3; clear f3 R3 s3))
  have H3 : Hid (HsAt x3 a hsF ∧ Ext w x3 ∧ TR ND hsF.hash x3 13 g3 [pA]) := Lib.hid ⟨HW.out.1.ext k3.out, HW.out.2.trans k3.out, K3.out⟩
  clear h0 h1 h2 HW KR
  obtain ⟨h0, h1, h2⟩ := H3.out.1.cells
  repeat' (first | go_at_call 46 | go_skip | go_guarded | go_step)
  refine (cput_c hsF hsF_ok x3 (ptr g3) [pA] pB (Rot.of H3.out.2.2) (by simp [Rise]) (by simp) (by simp [pA]) (by decide)).mono ?_
  rintro e x4 ⟨g4, rfl, R4, f4, s4⟩
  rw [exAB] at R4
  have H4 : Hid (HsAt x4 a hsF ∧ Ext w x4 ∧ TR ND hsF.hash x4 13 g3 [pA] ∧ TR ND hsF.hash x4 13 g4 [pA, pB]) := Lib.hid ⟨H3.out.1.ext f4, H3.out.2.1.trans f4, TR.ext f4 13 H3.out.2.2, R4⟩
  clear f4 R4 s4 h0 h1 h2 H3
  obtain ⟨h0, h1, h2⟩ := H4.out.1.cells
  go_simp
  repeat' (first | go_at_call 93 | go_skip | go_guarded | go_step)
  refine (get_c hsF hsF_ok x4 (ptr g4) [pA, pB] [98] (Rot.of H4.out.2.2.2) ((riseB_iff _).1 (by decide)) (by simp) (by decide)).mono ?_
  rintro e x5 ⟨rfl, f5⟩
  have H5 : Hid (Ext w x5 ∧ TR ND hsF.hash x5 13 g3 [pA] ∧ TR ND hsF.hash x5 13 g4 [pA, pB]) := Lib.hid ⟨H4.out.2.1.trans f5, TR.ext f5 13 H4.out.2.2.1, TR.ext f5 13 H4.out.2.2.2⟩
  clear f5 h0 h1 h2 H4
  rw [show (getL [98] [pA, pB]).getD [] = [50] from rfl, show hasK [pA, pB] [98] = true from rfl, show (!hasK [] pA.1) = true from rfl, show (!hasK [pA] pB.1) = true from rfl]
  go_simp
  repeat' (first | go_at_call 94 | go_skip | go_guarded | go_step)
  refine (lenk_c hsF 13 x5 g4 [pA, pB] H5.out.2.2 (by simp)).mono ?_
  rintro e x6 ⟨rfl, f6⟩
  have H6 : Hid (Ext w x6 ∧ TR ND hsF.hash x6 13 g3 [pA]) := Lib.hid ⟨H5.out.1.trans f6, TR.ext f6 13 H5.out.2.1⟩
  clear f6
  go_simp
  repeat' (first | go_at_call 94 | go_skip | go_guarded | go_step)
  refine (lenk_c hsF 13 x6 g3 [pA] H6.out.2 (by simp)).mono ?_
  rintro e x7 ⟨rfl, f7⟩
  have H7 := Lib.hid (H6.out.1.trans f7)
  clear f7
  go_simp
  repeat' (first | go_skip | go_guarded | go_step)
  go_ret
  exact ⟨rfl, H7.out⟩
theorem awake6_c (w : World) : Calls Try.prog 44 #[] w fun e w' => e = .returned (.bool true) ∧ Ext w w' := @awake6_g ⟨fun _ => True⟩ (fun _ => trivial) w
end Go.Proofs.Ytclcgelbcbnekaa
