/- The document's example; a tree's cursor, from the beginning. -/
import Derived.Test.YtbplddiopajocaaSj
set_option linter.unusedVariables false
set_option linter.unusedSimpArgs false
namespace Go.Proofs.Ytbplddiopajocaa
open Go.RowKit Go.QS
set_option linter.unusedVariables false

theorem kd_cnt {N : Nat} {ks : List RT} (h : Kd N ks) : cnts ks + ks.length ≤ 2 * (belows ks).length ∧ ks.length ≤ (belows ks).length := by
  induction h with
  | nil N => exact ⟨by simp [cnts, belows_nil], by simp⟩
  | @cons N t r h1 h2 h3 h4 h5 h6 ih4 ih6 =>
    rw [cnts_cons, belows_cons, cnt_eq, List.length_append, List.length_cons]
    have hp : (pre t.lab t.prs).length = (ownP t.val).length + (belows t.kids).length := by rw [below_eq]; simp [pre]
    rw [hp]
    have ho : t.val.isSome = true → (ownP t.val).length = 1 := by
      intro h
      cases hv : t.val with
      | none => rw [hv] at h; cases h
      | some v => rfl
    rcases h3 with h3 | h3
    · have := ho h3; omega
    · omega

theorem tree_cnt (l : List Pr) (h : ∀ p ∈ l, p.1.length ≤ 40) : cnt (treeOf l) ≤ 1 + 2 * l.length := by
  obtain ⟨h1, h2, h3⟩ := treeOf_ok l h
  have hc := (kd_cnt h2).1
  have hl := rsort_length l
  rw [← h3, below_eq, List.length_append] at hl
  rw [cnt_eq]
  omega
theorem root_wt (l : List Pr) (h : ∀ p ∈ l, p.1.length ≤ 40) (hl : l.length ≤ 40) : wt [(treeOf l, [], false)] ≤ 1000000 := by
  have := tree_cnt l h
  simp [wt, wtW]
  omega
theorem root_good (l : List Pr) (h : ∀ p ∈ l, p.1.length ≤ 40) : Good [(treeOf l, [], false)] := by
  intro e he
  rw [List.mem_singleton] at he
  subst he
  obtain ⟨h1, h2, h3⟩ := treeOf_ok l h
  refine ⟨?_, ?_⟩
  · simp [h1]
  · simpa [h1] using h2
theorem pre_nil (x : List Pr) : pre [] x = x := by simp [pre]
theorem root_com (l : List Pr) (h : ∀ p ∈ l, p.1.length ≤ 40) (s : Sp) (back : Bool) : com s back [(treeOf l, [], false)] = if back then ((rsort l).filter fun p => s.has p.1).reverse else (rsort l).filter fun p => s.has p.1 := by
  obtain ⟨h1, h2, h3⟩ := treeOf_ok l h
  rw [com_cons, com_nil, List.append_nil]
  simp only [comW, Bool.false_eq_true, if_false]
  rw [h1, h3, List.append_nil, pre_nil]

def exA : List Pr := [([97], []), ([97, 98], []), ([98], [])]
theorem exA_cut : (exA.take 40).map cutP = exA := by decide
theorem exA_com : com (Sp.pfx [97]) true [(treeOf exA, [], false)] = [([97, 98], []), ([97], [])] := by
  rw [root_com exA (by decide)]
  decide

set_option maxRecDepth 100000 in
set_option maxHeartbeats 1000000 in
theorem awake_c (w : World) : Calls Try.prog 18 #[] w fun e w' => e = .returned (.bool true) ∧ Ext w w' := by
  go_enter Try.func18, Try.ntmps18
  repeat' (first | go_at_call 19 | go_skip | go_guarded | go_step)
  refine (tree_c _ _ exA (PS.of_own (base := 0) (e := 24) (n := 3) (own_lit (flat exA) 3 (by decide) rfl (Nat.zero_le _)))).mono ?_
  rintro e w1 ⟨g, v', rfl, f1, r1, p1⟩
  rw [exA_cut] at r1
  have E1 : Ext w w1 := ((Ext.refl w).alloc (Nat.le_refl _) _).trans (f1.mono (by simp))
  have H1 : Hid (_ ∧ _) := Lib.hid ⟨E1, r1⟩
  clear f1 r1 p1 E1
  go_simp
  repeat' (first | go_at_call 32 | go_skip | go_guarded | go_step)
  refine (prefix_c w1 [97] (by decide)).mono ?_
  rintro e w2 ⟨rfl, f2⟩
  replace H1 := Lib.hid (And.intro (Ext.trans H1.out.1 f2) (H1.out.2.ext f2))
  clear f2
  go_simp
  repeat' (first | go_at_call 23 | go_skip | go_guarded | go_step)
  refine (new_c w2 g (treeOf exA) (Sp.pfx [97]) true H1.out.2).mono ?_
  rintro e w3 ⟨c, V, rfl, hC⟩
  have HC := Lib.hid hC
  clear hC
  go_simp
  repeat' (first | go_at_call 27 | go_skip | go_guarded | go_step)
  refine (next_c w2 w3 c V _ [(treeOf exA, [], false)] (Sp.pfx [97]) true HC.out (root_good exA (by decide)) (root_wt exA (by decide) (by decide)) (by decide)).mono ?_
  rintro e w4 ⟨V4, cs4, r4, hC4, hG4, hw4, hT4, hN4, hcase⟩
  rw [exA_com] at hcase
  rcases hcase with ⟨h, _, _⟩ | ⟨p, h, rfl⟩
  · cases h
  · have hp : p = ([97, 98], []) := by injection h with h1 h2; exact h1.symm
    have hcm : com (Sp.pfx [97]) true r4 = [([97], [])] := by injection h with h1 h2; exact h2.symm
    subst hp
    have hw := root_wt exA (by decide) (by decide)
    have H4 : Hid (_ ∧ _ ∧ _ ∧ _) := Lib.hid ⟨hC4, hG4, hcm, Nat.le_trans hw4 hw⟩
    clear hC4 hG4 hw4 hT4 hN4 h hcm hw
    go_simp
    repeat' (first | go_at_call 27 | go_skip | go_guarded | go_step)
    obtain ⟨g4, hg4⟩ : ∃ g4, g4 = w4.heap.size := ⟨_, rfl⟩
    refine (next_c w2 _ c V4 cs4 r4 (Sp.pfx [97]) true (H4.out.1.keep ((Ext.refl w4).alloc (Nat.le_refl _) _)) H4.out.2.1 H4.out.2.2.2 (by decide)).mono ?_
    rintro e w5 ⟨V5, cs5, r5, hC5, hG5, hw5, hT5, hN5, hcase⟩
    rw [H4.out.2.2.1] at hcase
    rcases hcase with ⟨h, _, _⟩ | ⟨p, h, rfl⟩
    · cases h
    · have hp : p = ([97], []) := by injection h with h1 h2; exact h1.symm
      subst hp
      have hcl := heap_lt H4.out.1.cell
      have hb5 := (hT5.block w4.heap.size (by simp) (by omega) (fun e => by have := (World.ownsRow.lt H4.out.1.row _ e.symm).2; omega)).trans (heap_new w4 _)
      have hE5 : Hid (Ext w w5) := Lib.hid (Ext.trans H1.out.1 hC5.ext)
      rw [← hg4] at hb5 ⊢
      obtain ⟨k0, k1⟩ := box_cells hb5
      have hgl := heap_lt hb5
      clear hC5 hG5 hw5 hT5 hN5 h hb5 hg4
      go_simp
      repeat' (first | go_skip | go_guarded | go_step)
      go_ret
      exact ⟨rfl, hE5.out.alloc hE5.out.size _⟩
end Go.Proofs.Ytbplddiopajocaa
