/- CodeNums: its last region. -/
import Derived.Test.YtigoffdehdobiaaGreatCxb
import Derived.Test.YtigoffdehdobiaaGreatM25
import Derived.Test.YtigoffdehdobiaaGreatCxa
import Derived.Deep.OwnRows
set_option linter.unusedVariables false
set_option linter.unusedSimpArgs false
namespace Go.Proofs.YtigoffdehdobiaaGreat
open Go.RowKit Go.QS Go.QS.Nk
set_option linter.unusedVariables false

theorem infoU8m : (Tryz.prog.info? 5).map (fun i => (i.zero, i.size, i.bytes)) = some (some (.int .u8 0), 1, 1) := by kernel_rfl
theorem BS.upto {w : World} {A : Option Addr} {c n : Nat} {l : List UInt8} (hs : Seg w A (encB l)) (hn : l.length ≤ n) (hnc : n ≤ c) (hc : c ≤ maxLen) {k : Nat} (hk : k ≤ l.length) : BS w (.slice A k c) (l.take k) := by
  have e : (l.take k).length = k := by rw [List.length_take]; omega
  refine ⟨A, c, by rw [e], by rw [encB_length, e]; omega, by omega, hc, ?_⟩
  rw [encB_take]; exact hs.take k

theorem wp_nameC {P : Program} {c : Code} {Q : Exit → Act → World → Prop} {a : Act} {W : World} (R : World → Prop) (hR : R W) (h : ∀ w', Hid (R w') → c.wp P Q a w') : c.wp P Q a W := h W (Lib.hid hR)
theorem sEnd_nil : ((if ([] : List UInt8) = [] then (([], 0) : St2) else sFail 9 ([], 0)) : St2).2 = 0 := rfl

set_option maxRecDepth 100000 in
set_option maxHeartbeats 2000000 in
theorem nums_11 (w w10 : World) (F s P Q : List UInt8) (n PL C2 C4 C6 b4 o4 g B : Nat) (A2 A6 : Option Addr) (hn : n < 18446744073709551616) (hFl : F.length ≤ 30) (hsl : s.length ≤ 200)
    (H : Hid (BS w10 (.slice A2 F.length C2) F ∧ BS w10 (.slice A6 PL C6) P ∧ InAt (fun b => B ≤ b ∧ b < g) g w10 Q 0 ∧ Ext w w10 ∧ w.heap.size ≤ g ∧ w10.cell? ⟨b4, o4 + F.length, none⟩ = some (.int .u8 90) ∧ Q = putNum n ++ putText s ∧ P = F ++ putNum n ++ putText s)) (c : Code) (QX : Exit → Act → World → Prop) (t3 t4 t5 t11 t15 t16 t17 t18 t19 t20 t21 t22 t23 t24 t25 t26 t27 t28 t29 t30 t31 t32 t33 t34 t35 t36 t37 t38 t39 t40 t41 t42 t43 t44 t45 t46 t47 t48 t49 t50 t51 t52 t53 t54 t55 t56 t57 t58 t59 t60 t61 t62 t63 t64 t65 t66 t67 t68 t69 t70 t71 t72 t73 t74 t75 t76 t77 t78 t79 t80 t81 t82 t83 t84 t85 t86 t87 t88 t89 t90 t91 t92 t93 t94 t95 t96 t97 t98 t99 t100 t101 t102 t103 t104 t105 t106 t107 t108 t109 t110 t111 t112 t113 t114 t115 t116 t117 t118 t119 t120 t121 t122 t123 t124 t125 t126 t127 t128 : Value)
    (hc : (Tryz.f5.body.bind (findR 11)) = some c)
    (hQ : ∀ (u53 u54 u55 u56 u57 u58 u59 u60 u61 u62 u63 u64 u65 u66 u67 u68 u69 u70 u71 u72 u73 u74 u75 u76 u77 u78 u79 u80 u81 u82 u83 u84 u85 u86 u87 u88 u89 u90 u91 u92 u93 u94 u95 u96 u97 u98 u99 u100 u101 u102 u103 u104 u105 u106 u107 u108 u109 u110 u111 u112 u113 u114 u115 u116 u117 u118 u119 u120 u121 u122 u123 u124 u125 u126 u127 u128 : Value) (wx : World), Ext w wx → QX .normal { tmps := List.toArray ((.slice A2 F.length C2) :: (.int .u64 (n : Int)) :: (str s) :: t3 :: t4 :: t5 :: (.bool true) :: (.slice (some ⟨b4, o4, none⟩) (F.length + 1) C4) :: (.slice A6 PL C6) :: (ptr g) :: (.pointer none) :: t11 :: (.int .i64 10) :: (.slice none 0 0) :: (.int .i64 10) :: t15 :: t16 :: t17 :: t18 :: t19 :: t20 :: t21 :: t22 :: t23 :: t24 :: t25 :: t26 :: t27 :: t28 :: t29 :: t30 :: t31 :: t32 :: t33 :: t34 :: t35 :: t36 :: t37 :: t38 :: t39 :: t40 :: t41 :: t42 :: t43 :: t44 :: t45 :: t46 :: t47 :: t48 :: t49 :: t50 :: t51 :: t52 :: u53 :: u54 :: u55 :: u56 :: u57 :: u58 :: u59 :: u60 :: u61 :: u62 :: u63 :: u64 :: u65 :: u66 :: u67 :: u68 :: u69 :: u70 :: u71 :: u72 :: u73 :: u74 :: u75 :: u76 :: u77 :: u78 :: u79 :: u80 :: u81 :: u82 :: u83 :: u84 :: u85 :: u86 :: u87 :: u88 :: u89 :: u90 :: u91 :: u92 :: u93 :: u94 :: u95 :: u96 :: u97 :: u98 :: u99 :: u100 :: u101 :: u102 :: u103 :: u104 :: u105 :: u106 :: u107 :: u108 :: u109 :: u110 :: u111 :: u112 :: u113 :: u114 :: u115 :: u116 :: u117 :: u118 :: u119 :: u120 :: u121 :: u122 :: u123 :: u124 :: u125 :: u126 :: u127 :: u128 :: []), defers := [] } wx) :
    c.wp Tryz.prog QX { tmps := List.toArray ((.slice A2 F.length C2) :: (.int .u64 (n : Int)) :: (str s) :: t3 :: t4 :: t5 :: (.bool false) :: (.slice (some ⟨b4, o4, none⟩) (F.length + 1) C4) :: (.slice A6 PL C6) :: (ptr g) :: (.pointer none) :: t11 :: (.int .i64 10) :: (.slice none 0 0) :: (.int .i64 10) :: t15 :: t16 :: t17 :: t18 :: t19 :: t20 :: t21 :: t22 :: t23 :: t24 :: t25 :: t26 :: t27 :: t28 :: t29 :: t30 :: t31 :: t32 :: t33 :: t34 :: t35 :: t36 :: t37 :: t38 :: t39 :: t40 :: t41 :: t42 :: t43 :: t44 :: t45 :: t46 :: t47 :: t48 :: t49 :: t50 :: t51 :: t52 :: t53 :: t54 :: t55 :: t56 :: t57 :: t58 :: t59 :: t60 :: t61 :: t62 :: t63 :: t64 :: t65 :: t66 :: t67 :: t68 :: t69 :: t70 :: t71 :: t72 :: t73 :: t74 :: t75 :: t76 :: t77 :: t78 :: t79 :: t80 :: t81 :: t82 :: t83 :: t84 :: t85 :: t86 :: t87 :: t88 :: t89 :: t90 :: t91 :: t92 :: t93 :: t94 :: t95 :: t96 :: t97 :: t98 :: t99 :: t100 :: t101 :: t102 :: t103 :: t104 :: t105 :: t106 :: t107 :: t108 :: t109 :: t110 :: t111 :: t112 :: t113 :: t114 :: t115 :: t116 :: t117 :: t118 :: t119 :: t120 :: t121 :: t122 :: t123 :: t124 :: t125 :: t126 :: t127 :: t128 :: []), defers := [] } w10 := by
  change some _ = some c at hc
  cases hc
  have HQF := Lib.hid hQ
  clear hQ
  have hi4 : (F.length : Int) < (F.length : Int) + 1 := by omega
  have hpl := putNum_len 9 n (by omega)
  have hpt := putNum_len 9 s.length (by omega)
  have HFr : Hid (BS w10 (.slice A2 F.length C2) F) := Lib.hid H.out.1
  have HPr : Hid (BS w10 (.slice A6 PL C6) P) := Lib.hid H.out.2.1
  have HI : Hid (InAt (fun b => B ≤ b ∧ b < g) g w10 Q 0) := Lib.hid H.out.2.2.1
  have EW : Hid (Ext w w10) := Lib.hid H.out.2.2.2.1
  have hgw : w.heap.size ≤ g := H.out.2.2.2.2.1
  have HCE : Hid (∀ y, Ext w10 y → y.cell? ⟨b4, o4 + F.length, none⟩ = some (.int .u8 90)) := Lib.hid (fun y f => (World.cell?_of_block (f.block b4 (World.block_lt_of_cell? w10 _ H.out.2.2.2.2.2.1))).trans H.out.2.2.2.2.2.1)
  have HQQ : Hid (Q = putNum n ++ putText s ∧ P = F ++ putNum n ++ putText s) := Lib.hid H.out.2.2.2.2.2.2
  clear H
  have HC11 := Lib.hid (cutB_c w10 _ F 30 (by decide) HFr.out)
  repeat' (first | go_at_call 7 | go_skip | go_guarded | go_step)
  refine HC11.out.mono ?_
  rintro e w11 ⟨v11, rfl, r11, f11⟩
  rw [List.take_of_length_le hFl] at r11
  have H11 := Lib.hid (And.intro r11 f11)
  clear r11 f11 HC11
  go_simp
  repeat' (first | go_at_call 22 | go_skip | go_guarded | go_step)
  refine (rnum19_c 9 w11 n (by omega) hn).mono ?_
  rintro e w12 ⟨v12, rfl, r12, f12⟩
  obtain ⟨A12, C12, rfl⟩ := own_sliceB r12
  have H12 : Hid (w12.ownsRow w10.heap.size 5 1 v11 F.length (encB F) ∧ Ext w10 w12 ∧ Seg w12 A12 (encB (putNum n))) := Lib.hid ⟨row_ext H11.out.1 f12, Ext.trans H11.out.2 f12, by obtain ⟨A, c, e, _, _, _, hs⟩ := BS.of_own r12; cases e; exact hs⟩
  clear r12 f12 H11
  go_simp
  repeat' (first | go_at_call 23 | go_skip | go_guarded | ((change wpList _ _ _ (_ :: _) _ _); at_builtin; refine wpList_appE (W := w10) rfl (.tmp 55) (.tmp 57) _ rfl 5 1 1 Tryz.underlying22 infoU8 (by decide) _ F.length (encB F) rfl (by exact H12.out.1) (by exact H12.out.2.1) _ _ _ (encB (putNum n)) rfl (by rw [encB_length, Nat.mul_one]) (by exact H12.out.2.2) (encB_one _) (by unfold maxLen; omega) (by omega) ?_; intro v13 w13 r13 f13) | go_step)
  have H13 := Lib.hid (And.intro r13 f13)
  clear r13 f13 H12
  refine (rtext19_c w13 s (by omega)).mono ?_
  rintro e w14 ⟨v14, rfl, r14, f14⟩
  obtain ⟨A14, C14, rfl⟩ := own_sliceB r14
  have H14 := Lib.hid (And.intro (row_ext H13.out.1 f14) (And.intro (Ext.trans H13.out.2 f14) (show Seg w14 A14 (encB (putText s)) by obtain ⟨A, c, e, _, _, _, hs⟩ := BS.of_own r14; cases e; exact hs)))
  clear r14 f14 H13
  have hptl : (putText s).length ≤ 210 := by rw [putText, List.length_append]; omega
  go_simp
  repeat' (first | go_at_call 13 | go_skip | go_guarded | ((change wpList _ _ _ (_ :: _) _ _); at_builtin; refine wpList_appE (W := w10) rfl (.tmp 58) (.tmp 60) _ rfl 5 1 1 Tryz.underlying22 infoU8 (by decide) _ (F.length + (putNum n).length) _ rfl (by exact H14.out.1) (by exact H14.out.2.1) _ _ _ (encB (putText s)) rfl (by rw [encB_length, Nat.mul_one]) (by exact H14.out.2.2) (encB_one _) (by unfold maxLen; omega) (by omega) ?_; intro v15 w15 r15 f15) | go_step)
  have H15 : Hid (BS w15 v15 P ∧ Ext w10 w15) := Lib.hid ⟨by
    have e1 : P.length = F.length + (putNum n).length + (putText s).length := by rw [HQQ.out.2, List.length_append, List.length_append]
    have e2 : encB P = encB F ++ encB (putNum n) ++ encB (putText s) := by rw [HQQ.out.2, encB_append, encB_append]
    unfold BS
    rw [e1, e2]
    exact Sl.of_own r15, f15⟩
  clear r15 f15 H14
  refine (rsame_c w15 _ _ P P (HPr.out.below H15.out.2) H15.out.1).mono ?_
  rintro e w16 ⟨rfl, f16⟩
  have H16 : Hid (Ext w10 w16) := Lib.hid (Ext.trans H15.out.2 f16)
  clear f16 H15
  have hc4 := HCE.out w16 H16.out
  have HN17 : Hid (Calls Tryz.prog 24 #[ptr g] w16 fun x w' => x = .returned (.int .u64 (n : Int)) ∧ InAt (fun b => B ≤ b ∧ b < g) g w' (putText s) 0 ∧ One g w16 w') := Lib.hid (by
    have := num_c (HI.out.ext H16.out)
    rw [HQQ.out.1, sNum_put n (putText s) hn] at this
    exact this)
  go_simp
  repeat' (first | go_at_call 24 | go_skip | go_guarded | go_step)
  refine HN17.out.mono ?_
  rintro e w17 ⟨rfl, i17, f17⟩
  have H17 := Lib.hid (And.intro i17 f17)
  clear i17 f17 HN17 hc4
  have HT18 : Hid (Calls Tryz.prog 25 #[ptr g, .int .i64 200, .int .i64 2] w17 fun x w' => x = .returned (str s) ∧ InAt (fun b => B ≤ b ∧ b < g) g w' [] 0 ∧ One g w17 w') := Lib.hid (by
    have := text_c H17.out.1 200 2 (by decide) (by decide)
    have e := sText_put s [] 200 2 (by omega) (by omega)
    rw [List.append_nil] at e
    rw [e] at this
    exact this)
  go_simp
  repeat' (first | go_at_call 25 | go_skip | go_guarded | go_step)
  refine HT18.out.mono ?_
  rintro e w18 ⟨rfl, i18, f18⟩
  have H18 := Lib.hid (And.intro i18 (One.trans H17.out.2 f18))
  clear i18 f18 HT18 H17
  have HE19 : Hid (Calls Tryz.prog 26 #[ptr g] w18 fun x w' => x = .returned (.int .i64 0) ∧ One g w18 w') := Lib.hid ((end_c H18.out.1).mono fun x w' h => ⟨h.1, h.2.2⟩)
  go_simp
  repeat' (first | go_at_call 26 | go_skip | go_guarded | go_step)
  refine HE19.out.mono ?_
  rintro e w19 ⟨rfl, f19⟩
  have H19 : Hid (Ext w w19) := Lib.hid (One.ext (One.trans H18.out.2 f19) (Ext.trans EW.out H16.out) hgw)
  clear f19 HE19 H18 H16
  go_simp
  repeat' (first
    | (go_at_call 27; refine (byte0_c _).mono ?_; rintro x y ⟨rfl, rfl⟩; go_simp)
    | (go_at_call 24; refine (num0_c _).mono ?_; rintro x y ⟨rfl, rfl⟩; go_simp)
    | (go_at_call 28; refine (fixed0_c _).mono ?_; rintro x y ⟨rfl, rfl⟩; go_simp)
    | (go_at_call 25; refine (text0_c _ _ _).mono ?_; rintro x y ⟨rfl, rfl⟩; go_simp)
    | (go_at_call 29; refine (left0_c _).mono ?_; rintro x y ⟨rfl, rfl⟩; go_simp)
    | (go_at_call 30; refine (err0_c _).mono ?_; rintro x y ⟨rfl, rfl⟩; go_simp)
    | (go_at_call 26; refine (end0_c _).mono ?_; rintro x y ⟨rfl, rfl⟩; go_simp)
    | go_skip | go_guarded | go_step)
  refine HQF.out _ _ _ _ _ _ _ _ _ _ _ _ _ _ _ _ _ _ _ _ _ _ _ _ _ _ _ _ _ _ _ _ _ _ _ _ _ _ _ _ _ _ _ _ _ _ _ _ _ _ _ _ _ _ _ _ _ _ _ _ _ _ _ _ _ _ _ _ _ _ _ _ _ _ _ _ _ H19.out
end Go.Proofs.YtigoffdehdobiaaGreat
