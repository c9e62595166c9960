/- Contract: PairSorts. -/
import Derived.Test.YtdajhbllakmmlaaPn
import Derived.Test.YtdajhbllakmmlaaQe
namespace Go.Proofs.Ytdajhbllakmmlaa
open Go.RowKit Go.QS
set_option linter.unusedVariables false

theorem few40_c (w : World) (v : Value) (l : List Pr) (h : PS w v l) (h9 : l.length ≤ 40) :
    Calls Try.prog 9 #[v] w fun e w' => ∃ v', e = .returned v' ∧ w'.ownsRow w.heap.size 40 2 v' l.length (flat l) ∧ Ext w w' := by
  have := few_c w v l h
  rwa [List.take_of_length_le h9] at this

set_option maxRecDepth 100000 in
set_option maxHeartbeats 1000000 in
theorem pairSorts_c (w : World) (v : Value) (la : List Pr) (h0 : PS w v la) (hk9 : ∀ p ∈ la, p.1.length ≤ 9223372036854775807) : Calls Try.prog 4 #[v] w fun e w' => e = .returned (.bool true) ∧ Ext w w' := by
  go_enter Try.func4, Try.ntmps4
  repeat' go_step
  refine (awake_c _).mono ?_
  rintro e w1 ⟨rfl, b1⟩
  replace h0 := h0.below b1
  have E := b1
  clear b1
  go_simp
  repeat' go_step
  refine (few_c _ _ la h0).mono ?_
  rintro e w2 ⟨v2, rfl, o2, b2⟩
  replace h0 := h0.below b2
  replace E := Ext.trans E b2
  clear b2
  have h1 := own_to_ps o2
  clear o2
  go_simp
  clear h0
  obtain ⟨L, hL⟩ : ∃ L, L = la.take 40 := ⟨_, rfl⟩
  have h9 : L.length ≤ 40 := by rw [hL, List.length_take]; omega
  have hk : ∀ p ∈ L, p.1.length ≤ 9223372036854775807 := fun p hp => hk9 p (by rw [hL] at hp; exact List.mem_of_mem_take hp)
  rw [← hL] at h1
  clear hL hk9
  have HK := Lib.hid hk
  clear hk
  have s9 : (sortedP L).length ≤ 40 := Nat.le_trans (sortedP_length L) h9
  have r9 : (rsort L).length ≤ 40 := Nat.le_trans (rsort_length L) h9
  repeat' go_step
  refine (few40_c _ _ L h1 h9).mono ?_
  rintro e w3 ⟨v3, rfl, o3, b3⟩
  replace h1 := h1.below b3
  replace E := Ext.trans E b3
  clear b3
  have h2 := own_to_ps o3
  clear o3
  go_simp
  repeat' go_step
  refine (sorted_c _ _ L h1 (by omega)).mono ?_
  rintro e w4 ⟨v4, rfl, o4, b4⟩
  replace h1 := h1.below b4
  replace h2 := h2.below b4
  replace E := Ext.trans E b4
  clear b4
  have h3 := own_to_ps o4
  clear o4
  go_simp
  repeat' go_step
  refine (own_c _ _ (sortedP L) h3 (by omega)).mono ?_
  rintro e w5 ⟨v5, rfl, o5, b5⟩
  replace h1 := h1.below b5
  replace h2 := h2.below b5
  replace h3 := h3.below b5
  replace E := Ext.trans E b5
  clear b5
  have h4 := own_to_ps o5
  clear o5
  go_simp
  repeat' go_step
  refine (own_c _ _ L h2 (by omega)).mono ?_
  rintro e w6 ⟨v6, rfl, o6, b6⟩
  replace h1 := h1.below b6
  replace h2 := h2.below b6
  replace h3 := h3.below b6
  replace h4 := h4.below b6
  replace E := Ext.trans E b6
  clear b6
  have h5 := own_to_ps o6
  clear o6
  go_simp
  repeat' go_step
  refine (rsorted_c _ _ L h5 (by omega) HK.out).mono ?_
  rintro e w7 ⟨v7, rfl, o7, b7⟩
  replace h1 := h1.below b7
  replace h2 := h2.below b7
  replace h3 := h3.below b7
  replace h4 := h4.below b7
  replace h5 := h5.below b7
  replace E := Ext.trans E b7
  clear b7
  have h6 := own_to_ps o7
  clear o7
  go_simp
  repeat' go_step
  refine (rsame_c _ _ _ (sortedP L) (rsort L) h4 h6 (by omega) (by omega)).mono ?_
  rintro e w8 ⟨rfl, b8⟩
  replace h1 := h1.below b8
  replace h2 := h2.below b8
  replace h3 := h3.below b8
  replace h4 := h4.below b8
  replace h5 := h5.below b8
  replace h6 := h6.below b8
  replace E := Ext.trans E b8
  clear b8
  have q1 : decide (sortedP L = rsort L) = true := by simp [sortedP_eq]
  go_simp
  clear h4 h5 h6
  repeat' (first | go_skip | go_guarded | go_step)
  refine (same_c _ _ _ L L h1 h2 (by omega) (by omega)).mono ?_
  rintro e w9 ⟨rfl, b9⟩
  replace h1 := h1.below b9
  replace h2 := h2.below b9
  replace h3 := h3.below b9
  replace E := Ext.trans E b9
  clear b9
  go_simp
  repeat' (first | go_skip | go_guarded | go_step)
  refine (rises_c _ _ (sortedP L) h3 (by omega)).mono ?_
  rintro e w10 ⟨rfl, b10⟩
  replace h1 := h1.below b10
  replace h2 := h2.below b10
  replace h3 := h3.below b10
  replace E := Ext.trans E b10
  clear b10
  have q2 : riseB (sortedP L) = true := (riseB_iff _).2 (sortedP_rise L)
  go_simp
  repeat' (first | go_skip | go_guarded | go_step)
  refine (rises_c _ _ L h1 (by omega)).mono ?_
  rintro e w11 ⟨rfl, b11⟩
  replace h1 := h1.below b11
  replace h2 := h2.below b11
  replace h3 := h3.below b11
  replace E := Ext.trans E b11
  clear b11
  go_simp
  repeat' (first | go_skip | go_guarded | go_step)
  refine (own_c _ _ L h1 (by omega)).mono ?_
  rintro e w12 ⟨v12, rfl, o12, b12⟩
  replace h1 := h1.below b12
  replace h2 := h2.below b12
  replace h3 := h3.below b12
  replace E := Ext.trans E b12
  clear b12
  have h7 := own_to_ps o12
  clear o12
  go_simp
  repeat' (first | go_skip | go_guarded | go_step)
  refine (rrises_c _ _ L h7 (by omega) HK.out).mono ?_
  rintro e w13 ⟨rfl, b13⟩
  replace h1 := h1.below b13
  replace h2 := h2.below b13
  replace h3 := h3.below b13
  replace h7 := h7.below b13
  replace E := Ext.trans E b13
  clear b13
  have q3 : (riseB L == riseB L) = true := by simp
  go_simp
  repeat' (first | go_skip | go_guarded | go_step)
  refine (sorted_c _ _ (sortedP L) h3 (by omega)).mono ?_
  rintro e w14 ⟨v14, rfl, o14, b14⟩
  replace h1 := h1.below b14
  replace h2 := h2.below b14
  replace h3 := h3.below b14
  replace h7 := h7.below b14
  replace E := Ext.trans E b14
  clear b14
  have h8 := own_to_ps o14
  clear o14
  go_simp
  rw [sortedP_self (sortedP_rise L)] at h8
  repeat' (first | go_skip | go_guarded | go_step)
  refine (same_c _ _ _ (sortedP L) (sortedP L) h8 h3 (by omega) (by omega)).mono ?_
  rintro e w15 ⟨rfl, b15⟩
  replace h1 := h1.below b15
  replace h2 := h2.below b15
  replace h3 := h3.below b15
  replace h7 := h7.below b15
  replace h8 := h8.below b15
  replace E := Ext.trans E b15
  clear b15
  go_simp
  repeat' (first | go_skip | go_guarded | go_step)
  go_ret
  exact ⟨by simp, E⟩
end Go.Proofs.Ytdajhbllakmmlaa
