/- CodeIns: its loop, act by act: a law of its own. -/
import Derived.Test.YtkfiinmoecibcaaGreatBxc
set_option linter.unusedVariables false
set_option linter.unusedSimpArgs false
namespace Go.Proofs.YtkfiinmoecibcaaGreat
open Go.RowKit Go.QS Go.QS.Nk
set_option linter.unusedVariables false

set_option maxRecDepth 100000 in
set_option maxHeartbeats 2000000 in
theorem ins_tail (w0 wr : World) (g x m na CA C2 : Nat) (A2 AA : Option Addr) (P : List UInt8) (acts : List Ac9) (hm : m ≤ 200) (hna : na ≤ CA) (hCa : CA ≤ maxLen) (hg0 : w0.heap.size ≤ g)
    (HT : Hid (Two9 g x wr P P 0 ∧ Ext w0 wr)) (HA : Hid (m = P.length ∧ na = acts.length ∧ Seg w0 AA (encAs acts) ∧ ∀ a ∈ acts, -9223372036854775808 ≤ a.2 ∧ a.2 ≤ 9223372036854775807)) (c d : Code) (K : Act → World → Prop) (Q : Exit → Act → World → Prop) (t2 t3 t4 t7 t8 t9 t10 t11 t12 t13 t14 t15 t16 t17 t18 t19 t20 t21 t22 t23 t24 t25 t26 t27 t28 t29 t30 t31 t32 t33 t34 t35 t36 t37 t38 t39 t40 t41 t42 t43 t44 t45 t46 t47 t48 t49 t50 t51 t52 t53 t54 t55 t56 t57 t58 t59 t60 t61 t62 t63 t64 t65 t66 t67 t68 t69 t70 t71 t72 t73 t74 t75 t76 t77 t78 t79 t80 t81 t82 t83 t84 t85 t86 t87 t88 t89 t90 t91 t92 t93 t94 t95 t96 t97 t98 t99 t100 t101 t102 t103 t104 t105 t106 t107 : Value)
    (hc : (Tryz.f3.body.bind (findR 5)) = some c) (hd : (Tryz.f3.body.bind (findT 5)) = some d)
    (hK : ∀ a w, d.wp Tryz.prog Q a w → K a w)
    (hQ : ∀  (u4 u7 u8 u9 u10 u21 u22 u23 u24 u25 u26 u27 u28 u29 u30 u31 u32 u33 u34 u35 u36 u37 u38 u39 u40 u41 u42 u43 u44 u45 u46 u47 u48 u49 u50 u51 u52 u53 u54 u55 u56 u57 u58 u59 u60 u61 u62 u63 u64 u65 u66 u67 u68 u69 u70 u71 u72 u73 u74 u75 u76 u77 u78 u79 u80 u81 u82 u83 u84 u85 u86 u87 u88 u89 u90 u91 u92 u93 u94 u95 u96 u97 u98 u99 u100 u101 u102 u103 u104 u105 u106 u107 : Value) (wx : World), Ext w0 wx → Q .normal { tmps := List.toArray ((.slice A2 m C2) :: (.slice AA na CA) :: t2 :: t3 :: u4 :: (ptr g) :: (ptr x) :: u7 :: u8 :: u9 :: u10 :: t11 :: t12 :: t13 :: t14 :: t15 :: t16 :: t17 :: t18 :: t19 :: t20 :: u21 :: u22 :: u23 :: u24 :: u25 :: u26 :: u27 :: u28 :: u29 :: u30 :: u31 :: u32 :: u33 :: u34 :: u35 :: u36 :: u37 :: u38 :: u39 :: u40 :: u41 :: u42 :: u43 :: u44 :: u45 :: u46 :: u47 :: u48 :: u49 :: u50 :: u51 :: u52 :: u53 :: u54 :: u55 :: u56 :: u57 :: u58 :: u59 :: u60 :: u61 :: u62 :: u63 :: u64 :: u65 :: u66 :: u67 :: u68 :: u69 :: u70 :: u71 :: u72 :: u73 :: u74 :: u75 :: u76 :: u77 :: u78 :: u79 :: u80 :: u81 :: u82 :: u83 :: u84 :: u85 :: u86 :: u87 :: u88 :: u89 :: u90 :: u91 :: u92 :: u93 :: u94 :: u95 :: u96 :: u97 :: u98 :: u99 :: u100 :: u101 :: u102 :: u103 :: u104 :: u105 :: u106 :: u107 :: []), defers := [] } wx) :
    c.wp Tryz.prog (Exit.then K Q) { tmps := List.toArray ((.slice A2 m C2) :: (.slice AA na CA) :: t2 :: t3 :: t4 :: (ptr g) :: (ptr x) :: t7 :: t8 :: t9 :: t10 :: t11 :: t12 :: t13 :: t14 :: t15 :: t16 :: t17 :: t18 :: t19 :: t20 :: t21 :: t22 :: t23 :: t24 :: t25 :: t26 :: t27 :: t28 :: t29 :: t30 :: t31 :: t32 :: t33 :: t34 :: t35 :: t36 :: t37 :: t38 :: t39 :: t40 :: t41 :: t42 :: t43 :: t44 :: t45 :: t46 :: t47 :: t48 :: t49 :: t50 :: t51 :: t52 :: t53 :: t54 :: t55 :: t56 :: t57 :: t58 :: t59 :: t60 :: t61 :: t62 :: t63 :: t64 :: t65 :: t66 :: t67 :: t68 :: t69 :: t70 :: t71 :: t72 :: t73 :: t74 :: t75 :: t76 :: t77 :: t78 :: t79 :: t80 :: t81 :: t82 :: t83 :: t84 :: t85 :: t86 :: t87 :: t88 :: t89 :: t90 :: t91 :: t92 :: t93 :: t94 :: t95 :: t96 :: t97 :: t98 :: t99 :: t100 :: t101 :: t102 :: t103 :: t104 :: t105 :: t106 :: t107 :: []), defers := [] } wr := by
  change some _ = some c at hc
  cases hc
  change some _ = some d at hd
  cases hd
  have HQF := Lib.hid hQ
  clear hQ
  repeat' (go_not_at_region 6; (first | go_skip | go_guarded | go_step))
  have hmP : Hid (P.length ≤ 1000000000) := Lib.hid (by have := HA.out.1; omega)
  have hglt : g < x := HT.out.1.lt
  go_loopg [7, 8, 9, 10, 23] na (fun gk v7 v8 v9 v10 v23 wz => ∃ (j : Nat) (l : List UInt8) (e : Nat), v23 = .int .i64 j ∧ j ≤ na ∧ na - j ≤ gk ∧ Hid (Two9 g x wz P l e ∧ Ext w0 wz))
  case atStart => exact ⟨0, P, 0, rfl, Nat.zero_le _, by omega, HT⟩
  case round =>
    obtain ⟨j, l, e, rfl, hjn, hgk, HI⟩ := hrel
    rcases Nat.lt_or_ge j na with hlt | hge
    · have d1 : decide (j < na) = true := by simp [hlt]
      have hi1 : (j : Int) < (na : Int) := by omega
      obtain ⟨a, ha⟩ := get_of_lt acts (show j < acts.length by have := HA.out.2.1; omega)
      obtain ⟨b, o, rfl, q0, q1⟩ := seg_act (HA.out.2.2.1.below HI.out.2) ha
      have hab := HA.out.2.2.2 a (List.mem_of_getElem? ha)
      have hkd : a.1.toNat < 256 := a.1.toNat_lt
      clear ha
      repeat' (go_not_at_region 8; (first | go_skip | go_guarded | go_step))
      obtain ⟨ba, hba⟩ : ∃ b, b = wr.heap.size := ⟨_, rfl⟩
      rw [← hba]
      refine wp_name9 (fun w' => ActAt w' ba a ∧ Two9 g x w' P l e ∧ Ext w0 w' ∧ x < ba) ?_ ?_
      · have hE : ∀ o, Ext wr (wr.alloc o) := fun o => (Ext.refl _).alloc (Nat.le_refl _) _
        refine ⟨by rw [hba]; exact heap_new wr _, ⟨HI.out.1.inn.ext (hE _), HI.out.1.ref.ext (hE _), HI.out.1.lt⟩, HI.out.2.trans (hE _), ?_⟩
        obtain ⟨A, c, at', h1, _⟩ := HI.out.1.ref.ex
        rw [hba]; exact heap_lt h1
      intro w1 H1
      clear hba q0 q1
      obtain ⟨c0, c1⟩ := H1.out.1.cells
      have hxb := H1.out.2.2.2
      rcases Nat.lt_or_ge j 30 with h30 | h30
      · have d2 : ¬ (30 : Int) ≤ (j : Int) := by omega
        have d3 : decide (30 ≤ j) = false := by simp; omega
        repeat' (go_not_at_region 10; (first | go_skip | go_guarded | go_step))
        obtain ⟨d, hd⟩ : ∃ d, d = a.1.toNat % 6 := ⟨_, rfl⟩
        have hd6 : d < 6 := by rw [hd]; exact Nat.mod_lt _ (by decide)
        have hrem : ((a.1.toNat : Int)).tmod 6 = (d : Int) := by rw [hd, Int.tmod_eq_emod_of_nonneg (by omega)]; omega
        clear hd
        repeat' (go_not_at_block 2; (first | go_skip | go_guarded | go_step))
        clear c0 hrem
        refine ins_case w0 w1 g x m na CA C2 ba b o d A2 P l e a hd6 hg0 hglt hxb hmP H1 hab _ _ _ _ _ _ _ _ _ _ _ _ _ _ _ _ _ _ _ _ _ _ _ _ _ _ _ _ _ _ _ _ _ _ _ _ _ _ _ _ _ _ _ _ _ _ _ _ _ _ _ _ _ _ _ _ _ _ _ _ _ _ _ _ _ _ _ _ _ _ _ _ _ _ _ _ _ _ _ _ _ _ _ _ _ _ _ _ _ _ _ _ _ _ _ _ _ _ _ _ _ _ _ (by kernel_rfl) ?_
        intro l' e' u10 u33 u34 u35 u36 u37 u38 u39 u40 u41 u42 u43 u44 u45 u46 u47 u48 u49 u50 u51 u52 u53 u54 u55 u56 u57 u58 u59 u60 u61 u62 u63 u64 u65 u66 u67 u68 u69 u70 u71 u72 u73 u74 u75 u76 u77 u78 u79 u80 u81 u82 u83 wz h3
        have H3 := Lib.hid h3
        clear h3
        (try simp only [Exit.inBlock, Exit.then])
        obtain ⟨at', r1, r2, r3, r4⟩ := H3.out.1.ref.left
        obtain ⟨q, hq⟩ : ∃ q, q = l'.length := ⟨_, rfl⟩
        have HE : Hid (∀ n, Calls Tryz.prog 22 #[ptr g] (wz.drewN n) fun y w' => y = .returned (.int .i64 (e' : Int)) ∧ w' = wz.drewN n) := Lib.hid (fun n => (err_c (H3.out.1.inn.ext (below_drewN (Ext.refl _) n))).mono fun _ _ ⟨h1, h2⟩ => ⟨h1, h2.symm⟩)
        have HL : Hid (∀ n, Calls Tryz.prog 23 #[ptr g] (wz.drewN n) fun y w' => y = .returned (.int .i64 (q : Int)) ∧ w' = wz.drewN n) := Lib.hid (fun n => by rw [hq]; exact (left_c (H3.out.1.inn.ext (below_drewN (Ext.refl _) n))).mono fun _ _ ⟨h1, h2⟩ => ⟨h1, h2.symm⟩)
        rw [← hq, ← HA.out.1] at r4
        rw [← HA.out.1] at r3
        have hsub : (m : Int) - (at' : Int) = (q : Int) := by omega
        clear hq c1
        repeat' (go_not_at_region 24; (first | go_skip | go_guarded | go_step))
        go_quiet (first | (go_at_call 22; refine Calls.quiet_of_same (HE.out _)) | (go_at_call 23; refine Calls.quiet_of_same (HL.out _)))
        repeat' (first | go_skip | go_guarded | go_step)
        go_roundg (na - (j + 1))
        case measure => omega
        case rel => exact ⟨j + 1, l', e', by go_num, by omega, Nat.le_refl _, Lib.hid ⟨⟨H3.out.1.inn.ext (below_drewN (Ext.refl _) _), H3.out.1.ref.ext (below_drewN (Ext.refl _) _), hglt⟩, below_drewN H3.out.2 _⟩⟩
      · have d2 : (30 : Int) ≤ (j : Int) := by omega
        have d3 : decide (30 ≤ j) = true := by simp; omega
        repeat' (first | go_skip | go_guarded | go_step)
        exact HQF.out _ _ _ _ _ _ _ _ _ _ _ _ _ _ _ _ _ _ _ _ _ _ _ _ _ _ _ _ _ _ _ _ _ _ _ _ _ _ _ _ _ _ _ _ _ _ _ _ _ _ _ _ _ _ _ _ _ _ _ _ _ _ _ _ _ _ _ _ _ _ _ _ _ _ _ _ _ _ _ _ _ _ _ _ _ _ _ _ _ _ _ _ _ H1.out.2.2.1
    · obtain rfl : j = na := by omega
      have d1 : decide (j < j) = false := by simp
      repeat' (first | go_skip | go_guarded | go_step)
      exact HQF.out _ _ _ _ _ _ _ _ _ _ _ _ _ _ _ _ _ _ _ _ _ _ _ _ _ _ _ _ _ _ _ _ _ _ _ _ _ _ _ _ _ _ _ _ _ _ _ _ _ _ _ _ _ _ _ _ _ _ _ _ _ _ _ _ _ _ _ _ _ _ _ _ _ _ _ _ _ _ _ _ _ _ _ _ _ _ _ _ _ _ _ _ _ HI.out.2

end Go.Proofs.YtkfiinmoecibcaaGreat
