/- GaugeFolds: its walk. -/
import Derived.Test.YtbmakajadelckaaWpi
set_option linter.unusedVariables false
set_option linter.unusedSimpArgs false
namespace Go.Proofs.Ytbmakajadelckaa
open Go.RowKit Go.QS Go.QS.Nk
set_option linter.unusedVariables false

set_option maxRecDepth 100000 in
set_option maxHeartbeats 2000000 in
theorem gaugeFolds_c (w : World) (h : Hs) (hk : h.Ok) (v : Value) (l : List Pr) (op : Int) (hop : -9223372036854775808 ≤ op ∧ op ≤ 9223372036854775807) (hP : PS w v l) :
    Calls Try.prog 6 #[hsV h, v, .int .i64 op] w fun e w' => e = .returned (.bool true) ∧ Ext w w' := by
  have HP := Lib.hid hP
  clear hP
  go_enter Try.func6, Try.ntmps6
  repeat' (go_not_at_region 1; (first | go_skip | go_guarded | go_step))
  obtain ⟨gh, hgh⟩ : ∃ g, g = w.heap.size := ⟨_, rfl⟩
  rw [← hgh]
  refine wp_named (fun w' => HsAt w' gh h ∧ Ext w w') ⟨by rw [hgh]; exact heap_new w _, (Ext.refl w).alloc (Nat.le_refl _) _⟩ ?_
  clear hgh
  intro wa HW
  repeat' (first | go_at_call 23 | go_skip | go_guarded | go_step)
  refine (awake09_c wa).mono ?_
  rintro e w1 ⟨rfl, f1⟩
  have H1 : Hid (HsAt w1 gh h ∧ Ext w w1) := Lib.hid ⟨HW.out.1.ext f1, HW.out.2.trans f1⟩
  clear f1 HW
  obtain ⟨c0, c1, c2⟩ := H1.out.1.cells
  go_simp
  repeat' (first | go_at_call 24 | go_skip | go_guarded | go_step)
  refine (trie09_c h hk w1 v l (HP.out.below H1.out.2)).mono ?_
  rintro e w2 ⟨g, v2, rfl, f2, t2, p2⟩
  obtain ⟨X, hX⟩ : ∃ X, X = xOf l := ⟨_, rfl⟩
  obtain ⟨hXr, hXl, hXk⟩ := xOf_ok l
  rw [← hX] at t2 p2 hXr hXl hXk
  have hR2 := TR.rep 13 t2 (by omega)
  have HF : Hid (∀ W i, Ext w2 W → Calls Try.prog 25 #[.int .i64 i, ptr g] W fun e w' => e = .returned (foldR i X) ∧ Ext W w') := Lib.hid (fun W i f => foldX_c h.hash X hXl hXk W g (hR2.ext f) i)
  have HG : Hid (∀ W i, Ext w2 W → Calls Try.prog 26 #[.int .i64 i, v2] W fun e w' => e = .returned (foldR i X) ∧ Ext W w') := Lib.hid (fun W i f => rfold_c W i v2 X (p2.below f) (by omega) (fun p hp => by have := hXk p hp; omega))
  have H2 : Hid (Ext w w2 ∧ True) := Lib.hid ⟨H1.out.2.trans f2, trivial⟩
  clear f2 t2 p2 hR2 hX hXr hXk hXl c0 c1 c2 H1
  go_simp
  repeat' (go_not_at_region 5; (first | go_skip | go_guarded | go_step))
  obtain ⟨gs, hgs⟩ : ∃ g, g = w2.heap.size := ⟨_, rfl⟩
  rw [← hgs]
  refine wp_nameW (fun w' => Ext w2 w' ∧ ∀ n ≤ 5, w'.cell? ⟨gs, n, none⟩ = some (str (nmO n))) ⟨(Ext.refl _).alloc (Nat.le_refl _) _, fun n hn => ?_⟩ ?_
  · rw [World.cell?_alloc_at _ _ _ _ hgs]
    match n, hn with
    | 0, _ => rfl
    | 1, _ => rfl
    | 2, _ => rfl
    | 3, _ => rfl
    | 4, _ => rfl
    | 5, _ => rfl
    | n + 6, h => omega
  clear hgs
  intro w3 H3
  repeat' (go_not_at_region 6; (first | go_skip | go_guarded | go_step))
  go_loopg [10, 11, 12, 13, 14, 15] 8 (fun gk v10 v11 v12 v13 v14 v15 wr => ∃ (k : Nat) (i : Int), v10 = .int .i64 i ∧ i = (k : Int) - 1 ∧ k ≤ 8 ∧ 8 - k ≤ gk ∧ Hid (Ext w3 wr))
  case atStart => exact ⟨0, -1, rfl, by omega, by omega, by omega, Lib.hid (Ext.refl _)⟩
  case round =>
    obtain ⟨k, i, rfl, hik, hk8, hgk, HI⟩ := hrel
    rcases Nat.lt_or_ge k 8 with hlt | hge
    · have e1 : i < 7 := by omega
      have e2 : -1 ≤ i := by omega
      have HIK := Lib.hid (And.intro hik hlt)
      have hgk' : 8 - (k + 1) < gk := by omega
      clear hik hk8 hgk
      repeat' (first | go_at_call 25 | go_skip | go_guarded | go_step)
      refine (HF.out wr i (Ext.trans H3.out.1 HI.out)).mono ?_
      rintro e w4 ⟨rfl, f4⟩
      have F4 : Hid (Ext w3 w4) := Lib.hid (Ext.trans HI.out f4)
      clear f4 HI
      unfold foldR
      obtain ⟨fv, hfv⟩ : ∃ fv, fv = foldN i X := ⟨_, rfl⟩
      obtain ⟨fd, hfd⟩ : ∃ fd, fd = decide (0 ≤ i ∧ i ≤ 5) := ⟨_, rfl⟩
      rw [← hfv, ← hfd]
      have HFV := Lib.hid (And.intro hfv hfd)
      clear hfv hfd
      go_simp
      repeat' (first | go_at_call 26 | go_skip | go_guarded | go_step)
      refine (HG.out w4 i (Ext.trans H3.out.1 F4.out)).mono ?_
      rintro e w5 ⟨rfl, f5⟩
      have F5 : Hid (Ext w3 w5) := Lib.hid (Ext.trans F4.out f5)
      clear f5 F4
      unfold foldR
      rw [← HFV.out.1, ← HFV.out.2]
      have HNM := Lib.hid (name_c w5 i)
      by_cases hin : 0 ≤ i ∧ i ≤ 5
      · as_aux_lemma =>
          obtain ⟨n, rfl⟩ : ∃ n : Nat, i = n := ⟨i.toNat, by omega⟩
          have hn5 : n ≤ 5 := by omega
          have hn6 : n < 6 := by omega
          have hcn := (F5.out.cell (p := ⟨gs, n, none⟩) (World.block_lt_of_cell? w3 _ (H3.out.2 n hn5))).trans (H3.out.2 n hn5)
          rw [nmI_in hn5] at HNM
          obtain ⟨nm, hnm⟩ : ∃ nm, nm = nmO n := ⟨_, rfl⟩
          rw [← hnm] at HNM hcn
          have h6 : (n : Int) < 6 := by omega
          clear hin hnm
          go_simp
          repeat' (first | go_at_call 27 | go_skip | go_guarded | go_step)
          refine HNM.out.mono ?_
          rintro e w6 ⟨rfl, f6⟩
          have F6 : Hid (Ext w3 w6) := Lib.hid (Ext.trans F5.out f6)
          clear f6 hcn
          go_simp
          repeat' (first | go_skip | go_guarded | go_step)
          go_roundg (8 - (k + 1))
          case measure => omega
          case rel => exact ⟨k + 1, (n : Int) + 1, by first | rfl | go_num, by have := HIK.out.1; omega, by have := HIK.out.2; omega, Nat.le_refl _, F6⟩
      · as_aux_lemma =>
          rw [nmI_out hin] at HNM
          by_cases h0 : 0 ≤ i
          · have h6 : ¬ (i < 6) := by omega
            clear hin
            go_simp
            repeat' (first | go_at_call 27 | go_skip | go_guarded | go_step)
            refine HNM.out.mono ?_
            rintro e w6 ⟨rfl, f6⟩
            have F6 : Hid (Ext w3 w6) := Lib.hid (Ext.trans F5.out f6)
            clear f6
            go_simp
            repeat' (first | go_skip | go_guarded | go_step)
            go_roundg (8 - (k + 1))
            case measure => omega
            case rel => exact ⟨k + 1, i + 1, by first | rfl | go_num, by have := HIK.out.1; omega, by have := HIK.out.2; omega, Nat.le_refl _, F6⟩
          · clear hin
            go_simp
            repeat' (first | go_at_call 27 | go_skip | go_guarded | go_step)
            refine HNM.out.mono ?_
            rintro e w6 ⟨rfl, f6⟩
            have F6 : Hid (Ext w3 w6) := Lib.hid (Ext.trans F5.out f6)
            clear f6
            go_simp
            repeat' (first | go_skip | go_guarded | go_step)
            go_roundg (8 - (k + 1))
            case measure => omega
            case rel => exact ⟨k + 1, i + 1, by first | rfl | go_num, by have := HIK.out.1; omega, by have := HIK.out.2; omega, Nat.le_refl _, F6⟩
    · obtain rfl : k = 8 := by omega
      have e1 : ¬ (i < 7) := by omega
      clear hik hk8 hgk hge
      repeat' (go_not_at_region 15; (first | go_skip | go_guarded | go_step))
      rename_i K hK
      refine folds_tail w2 w3 wr g op X hop HF (Lib.hid H3.out.1) HI _ _ K _ _ _ _ _ _ _ _ _ _ _ _ _ _ _ _ _ _ _ _ _ _ _ _ _ _ _ _ _ _ _ _ _ _ _ _ _ _ _ _ _ _ _ _ _ _ _ _ _ _ _ _ _ _ _ _ _ _ _ _ _ _ _ _ _ _ _ _ _ _ _ _ _ _ _ _ _ _ _ _ _ _ _ _ _ _ _ _ _ (by kernel_rfl) (by kernel_rfl) hK ?_
      intro a wx hd ht hE
      have HE := Lib.hid hE
      clear hE
      (try simp only [Exit.inBlock, Exit.then])
      repeat' go_step
      refine bodyPost_ret (results_tmp rfl _ _ _) hd ?_
      exact ⟨by rw [ht], Ext.trans H2.out.1 (Ext.trans H3.out.1 HE.out)⟩
end Go.Proofs.Ytbmakajadelckaa
