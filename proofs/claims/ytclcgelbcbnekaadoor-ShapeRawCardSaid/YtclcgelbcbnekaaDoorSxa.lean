/- Contracts: shape.put, Of at a node that holds nothing. -/
import Derived.Test.YtclcgelbcbnekaaDoorM03
import Derived.Test.YtclcgelbcbnekaaDoorM05
import Derived.Deep.LoopGhost
set_option linter.unusedVariables false
set_option linter.unusedSimpArgs false
namespace Go.Proofs.YtclcgelbcbnekaaDoor
open Go.RowKit Go.QS Go.QS.Nk
set_option linter.unusedVariables false
variable [Zero (Nat → Prop)]
set_option linter.unusedSectionVars false

abbrev No (w : World) (g : Nat) : Prop := NdAt ND w g 0 0 (.slice none 0 0) (.slice none 0 0) false none
set_option maxRecDepth 100000 in
theorem inner00_c (w : World) : Calls Tryd.prog 20 #[] w fun e w' => ∃ g, e = .returned (ptr g) ∧ No w' g ∧ Ext w w' := by
  go_enter Tryd.func20, Tryd.ntmps20
  repeat' (first | go_skip | go_guarded | go_step)
  go_ret
  exact ⟨_, rfl, NdAt.new ND w rfl, (Ext.refl _).alloc (Nat.le_refl _) _⟩
set_option maxRecDepth 100000 in
theorem empty00_c (w : World) : Calls Tryd.prog 23 #[] w fun e w' => ∃ g, e = .returned (ptr g) ∧ No w' g ∧ Ext w w' := by
  go_enter Tryd.func23, Tryd.ntmps23
  repeat' (first | go_at_call 20 | go_skip | go_guarded | go_step)
  refine (inner00_c w).mono ?_
  rintro e w1 ⟨g, rfl, hN, f1⟩
  have H1 := Lib.hid (And.intro hN f1)
  clear hN f1
  go_simp
  repeat' (first | go_skip | go_guarded | go_step)
  go_ret
  exact ⟨g, rfl, H1.out.1, H1.out.2⟩
set_option maxRecDepth 100000 in
theorem spairs0_c (w : World) (A B : Option Addr) (n c C : Nat) : Calls Tryd.prog 56 #[.slice A n c, .slice B 0 C] w fun e w' => e = .returned (.slice A n c) ∧ w' = w := by
  go_enter Tryd.func56, Tryd.ntmps56
  repeat' (go_not_at_region 2; (first | go_skip | go_guarded | go_step))
  go_loopg [0, 9] 1 (fun gk v0 v9 wr => v0 = .slice A n c ∧ v9 = .int .i64 0 ∧ wr = w)
  case atStart => exact ⟨rfl, rfl, rfl⟩
  case round =>
    obtain ⟨rfl, rfl, rfl⟩ := hrel
    repeat' (first | go_skip | go_guarded | go_step)
    go_ret
    exact ⟨rfl, rfl⟩
set_option maxRecDepth 100000 in
set_option maxHeartbeats 2000000 in
theorem put0_tail (wr : World) (g : Nat) (A6 : Option Addr) (C6 : Nat) (HN : Hid (No wr g)) (c d : Code) (K : Act → World → Prop) (Q : Exit → Act → World → Prop) (t3 t4 t5 t6 t7 t8 t9 t10 t11 t12 t13 t14 t15 t16 t17 t18 t19 t20 t21 t22 t23 t24 t25 t26 t27 t28 t29 t30 t31 t32 t33 t34 t35 t36 t37 t38 t39 t40 t41 t42 t43 t44 t45 t46 t47 t48 t49 t50 t51 t52 : Value)
    (hc : (Tryd.f30.body.bind (findR 4)) = some c) (hd : (Tryd.f30.body.bind (findT 4)) = some d)
    (hK : ∀ a w, d.wp Tryd.prog Q a w → K a w)
    (hQ : ∀ (a : Act) (wx : World), a.defers = [] → a.tmps.getD 6 undef = .slice A6 9 C6 → Ext wr wx → Q .ret a wx) :
    c.wp Tryd.prog (Exit.then K Q) { tmps := List.toArray ((.slice A6 9 C6) :: (ptr g) :: (.int .i64 0) :: t3 :: t4 :: t5 :: t6 :: t7 :: t8 :: t9 :: t10 :: t11 :: t12 :: t13 :: t14 :: t15 :: t16 :: t17 :: t18 :: t19 :: t20 :: t21 :: t22 :: t23 :: t24 :: t25 :: t26 :: t27 :: t28 :: t29 :: t30 :: t31 :: t32 :: t33 :: t34 :: t35 :: t36 :: t37 :: t38 :: t39 :: t40 :: t41 :: t42 :: t43 :: t44 :: t45 :: t46 :: t47 :: t48 :: t49 :: t50 :: t51 :: t52 :: []), defers := [] } wr := by
  change some _ = some c at hc
  cases hc
  change some _ = some d at hd
  cases hd
  have HQF := Lib.hid hQ
  clear hQ
  obtain ⟨w0, rfl⟩ : ∃ x, x = wr := ⟨_, rfl⟩
  repeat' (first | go_at_call 59 | go_skip | go_guarded | go_step)
  refine (npairs_c w0 g (.slice none 0 0) [] (HN.out).cells.2.2.1 (Sl.nil _ _) (by decide)).mono ?_
  rintro e w7 ⟨v7, rfl, r7, f7⟩
  obtain ⟨A7, C7, rfl⟩ := own_slice r7
  have F7 := Lib.hid f7
  clear r7 f7
  go_simp
  repeat' (first | go_at_call 56 | go_skip | go_guarded | go_step)
  refine (spairs0_c w7 A6 A7 9 C6 C7).mono ?_
  rintro e w8 ⟨rfl, rfl⟩
  go_simp
  repeat' (first | go_at_call 62 | go_skip | go_guarded | go_step)
  refine (nkids_c _ g (.slice none 0 0) [] (HN.out.ext F7.out).cells.2.2.2.1 (Sl.nil _ _) (by decide)).mono ?_
  rintro e w9 ⟨v9, rfl, r9, f9⟩
  obtain ⟨A9, C9, rfl⟩ := own_slice r9
  have F9 := Lib.hid (Ext.trans F7.out f9)
  clear r9 f9
  go_simp
  repeat' (go_not_at_region 8; (first | go_skip | go_guarded | go_step))
  go_loopg [0, 42] 1 (fun gk v0 v42 wr => v0 = .slice A6 9 C6 ∧ v42 = .int .i64 0 ∧ wr = w9)
  case atStart => exact ⟨rfl, rfl, rfl⟩
  case round =>
    obtain ⟨rfl, rfl, rfl⟩ := hrel
    repeat' (first | go_skip | go_guarded | go_step)
    exact HQF.out _ _ rfl rfl F9.out

set_option maxRecDepth 100000 in
set_option maxHeartbeats 1000000 in
theorem put0_c (w : World) (g : Nat) (hN : No w g) : Calls Tryd.prog 30 #[.slice none 0 0, ptr g, .int .i64 0] w fun e w' => ∃ A C, e = .returned (.slice A 9 C) ∧ Ext w w' := by
  have HN := Lib.hid hN
  clear hN
  go_enter Tryd.func30, Tryd.ntmps30
  repeat' (first | go_at_call 52 | go_skip | go_guarded | go_step)
  refine (isb_c w g false HN.out.cells.2.2.2.2.1).mono ?_
  rintro e w1 ⟨rfl, f1⟩
  have F1 := Lib.hid f1
  clear f1
  go_simp
  repeat' (first
    | (at_builtin; refine wpList_appR (W := w) rfl (.tmp 21) (.tmp 22) _ rfl Tryd.underlying34 (.slice none 0 0) [] rfl (.inl (World.ownsRow_nil _ _ _ _)) (F1.out.alloc F1.out.size _) _ 1 1 [0] rfl (by decide) rfl (Seg.new _ [.int .u8 0] _ rfl) (by decide) ?_; intro v2 w2 r2 b2; have H2 := Lib.hid (And.intro r2 b2); clear r2 b2)
    | go_at_call 60 | go_skip | go_guarded | go_step)
  refine (data_c w2 g 0 (HN.out.ext H2.out.2).cells.1).mono ?_
  rintro e w3 ⟨rfl, rfl⟩
  go_simp
  repeat' (first | go_at_call 57 | go_skip | go_guarded | go_step)
  refine (lay_c w w2 v2 ([] ++ [0]) 0 4 (.inl H2.out.1) H2.out.2 (by omega) (by omega) (by omega) (by simp)).mono ?_
  rintro e w4 ⟨v4, rfl, r4, b4⟩
  have H4 := Lib.hid (And.intro r4 b4)
  clear r4 b4
  go_simp
  repeat' (first | go_at_call 61 | go_skip | go_guarded | go_step)
  refine (nodes_c w4 g 0 (HN.out.ext H4.out.2).cells.2.1).mono ?_
  rintro e w5 ⟨rfl, rfl⟩
  go_simp
  repeat' (first | go_at_call 57 | go_skip | go_guarded | go_step)
  refine (lay_c w w4 v4 _ 0 4 (.inl H4.out.1) H4.out.2 (by omega) (by omega) (by omega) (by simp [layB_len])).mono ?_
  rintro e w6 ⟨v6, rfl, r6, b6⟩
  obtain ⟨A6, C6, rfl⟩ := own_slice r6
  have hn6 : ((([] ++ [0]) ++ layB 0 4) ++ layB 0 4).length = 9 := by simp [layB_len]
  rw [hn6] at r6 ⊢
  have H6 := Lib.hid b6
  clear r6 b6 hn6
  go_simp
  repeat' (go_not_at_region 4; (first | go_skip | go_guarded | go_step))
  rename_i K hK
  refine put0_tail w6 g A6 C6 (Lib.hid (HN.out.ext H6.out)) _ _ K _ _ _ _ _ _ _ _ _ _ _ _ _ _ _ _ _ _ _ _ _ _ _ _ _ _ _ _ _ _ _ _ _ _ _ _ _ _ _ _ _ _ _ _ _ _ _ _ _ _ _ (by kernel_rfl) (by kernel_rfl) hK ?_
  intro a wx hd ht hE
  have HE := Lib.hid hE
  clear hE
  (try simp only [Exit.inBlock, Exit.then])
  repeat' go_step
  refine bodyPost_ret (results_tmp rfl _ _ _) hd ?_
  exact ⟨A6, C6, by rw [ht], Ext.trans H6.out HE.out⟩
set_option maxRecDepth 100000 in
theorem of0_c (w : World) (g : Nat) (hN : No w g) : Calls Tryd.prog 9 #[ptr g] w fun e w' => ∃ A C, e = .returned (.slice A 9 C) ∧ Ext w w' := by
  have HP := Lib.hid (put0_c w g hN)
  clear hN
  go_enter Tryd.func9, Tryd.ntmps9
  repeat' (first | go_at_call 30 | go_skip | go_guarded | go_step)
  refine HP.out.mono ?_
  rintro e w1 ⟨A, C, rfl, f1⟩
  have F1 := Lib.hid f1
  clear f1
  go_simp
  repeat' (first | go_skip | go_guarded | go_step)
  go_ret
  exact ⟨A, C, rfl, F1.out⟩
end Go.Proofs.YtclcgelbcbnekaaDoor
