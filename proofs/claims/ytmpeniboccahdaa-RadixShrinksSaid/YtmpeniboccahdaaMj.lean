/- Texts joined. -/
import Derived.Test.YtmpeniboccahdaaWd
import Derived.Deep.LoopGhost
import Derived.BigRegion
import Derived.Test.YtmpeniboccahdaaVl
/- RadixShrinks: two keys change places: a law of its own. -/
namespace Go.Proofs.Ytmpeniboccahdaa
open Go.RowKit Go.QS
set_option linter.unusedVariables false

set_option maxRecDepth 100000 in
set_option maxHeartbeats 2000000 in
theorem shr_27 (W wr : World) (g gk n cap i j : Nat) (ki kj : List UInt8) (T : RT) (Ks : List (List UInt8)) (H : Hid (Ext W wr ∧ Rep NT wr g T ∧ ZR FS W.heap.size ST wr (.slice (some ⟨gk, 0, none⟩) n cap) (Ks.map str) ∧ n = Ks.length ∧ Ks[i]? = some ki ∧ Ks[j]? = some kj)) (hn9 : n ≤ 1000) (c : Code) (Q : Exit → Act → World → Prop) (t0 t1 t2 t3 t4 t5 t6 t7 t8 t9 t10 t11 t13 t14 t15 t16 t19 t20 t21 t22 t23 t24 t25 t26 t27 t28 t29 t30 t31 t32 t33 t34 t35 t36 t37 t38 t39 t40 t41 t42 t43 t44 t45 t46 t47 t48 t49 t50 t51 t52 t53 t54 t55 t56 t57 t58 t59 t60 t61 t62 t63 t64 t65 t66 t67 t68 t69 t70 t71 t72 t73 t74 t75 t76 t77 t78 t79 t80 t81 t82 t83 t84 t85 t86 t87 t88 t89 t90 t91 t92 t93 t94 t95 t96 t97 t98 t99 t100 t101 t102 t103 t104 t105 t106 t107 t108 t109 t110 t111 t112 t113 t114 t115 t116 t117 t118 t119 t120 t121 t122 t123 t124 t125 t126 t127 t128 t129 t130 t131 t132 t133 t134 t135 t136 t137 : Value)
    (hc : (Try.f6.body.bind (findR 27)) = some c)
    (hQ : ∀ (u102 u103 u104 u105 u106 u107 u108 u109 u110 u111 u112 u113 u114 u115 : Value) (wx : World), Ext W wx ∧ Rep NT wx g T ∧ ZR FS W.heap.size ST wx (.slice (some ⟨gk, 0, none⟩) n cap) (((Ks.set i kj).set j ki).map str) → Q .normal { tmps := List.toArray (t0 :: t1 :: t2 :: t3 :: t4 :: t5 :: t6 :: t7 :: t8 :: t9 :: t10 :: t11 :: (.slice (some ⟨gk, 0, none⟩) n cap) :: t13 :: t14 :: t15 :: t16 :: (.int .i64 i) :: (.int .i64 j) :: t19 :: t20 :: t21 :: t22 :: t23 :: t24 :: t25 :: t26 :: t27 :: t28 :: t29 :: t30 :: t31 :: t32 :: t33 :: t34 :: t35 :: t36 :: t37 :: t38 :: t39 :: t40 :: t41 :: t42 :: t43 :: t44 :: t45 :: t46 :: t47 :: t48 :: t49 :: t50 :: t51 :: t52 :: t53 :: t54 :: t55 :: t56 :: t57 :: t58 :: t59 :: t60 :: t61 :: t62 :: t63 :: t64 :: t65 :: t66 :: t67 :: t68 :: t69 :: t70 :: t71 :: t72 :: t73 :: t74 :: t75 :: t76 :: t77 :: t78 :: t79 :: t80 :: t81 :: t82 :: t83 :: t84 :: t85 :: t86 :: t87 :: t88 :: t89 :: t90 :: t91 :: t92 :: t93 :: t94 :: t95 :: t96 :: t97 :: t98 :: t99 :: t100 :: t101 :: u102 :: u103 :: u104 :: u105 :: u106 :: u107 :: u108 :: u109 :: u110 :: u111 :: u112 :: u113 :: u114 :: u115 :: t116 :: t117 :: t118 :: t119 :: t120 :: t121 :: t122 :: t123 :: t124 :: t125 :: t126 :: t127 :: t128 :: t129 :: t130 :: t131 :: t132 :: t133 :: t134 :: t135 :: t136 :: t137 :: []), defers := [] } wx) :
    c.wp Try.prog Q { tmps := List.toArray (t0 :: t1 :: t2 :: t3 :: t4 :: t5 :: t6 :: t7 :: t8 :: t9 :: t10 :: t11 :: (.slice (some ⟨gk, 0, none⟩) n cap) :: t13 :: t14 :: t15 :: t16 :: (.int .i64 i) :: (.int .i64 j) :: t19 :: t20 :: t21 :: t22 :: t23 :: t24 :: t25 :: t26 :: t27 :: t28 :: t29 :: t30 :: t31 :: t32 :: t33 :: t34 :: t35 :: t36 :: t37 :: t38 :: t39 :: t40 :: t41 :: t42 :: t43 :: t44 :: t45 :: t46 :: t47 :: t48 :: t49 :: t50 :: t51 :: t52 :: t53 :: t54 :: t55 :: t56 :: t57 :: t58 :: t59 :: t60 :: t61 :: t62 :: t63 :: t64 :: t65 :: t66 :: t67 :: t68 :: t69 :: t70 :: t71 :: t72 :: t73 :: t74 :: t75 :: t76 :: t77 :: t78 :: t79 :: t80 :: t81 :: t82 :: t83 :: t84 :: t85 :: t86 :: t87 :: t88 :: t89 :: t90 :: t91 :: t92 :: t93 :: t94 :: t95 :: t96 :: t97 :: t98 :: t99 :: t100 :: t101 :: t102 :: t103 :: t104 :: t105 :: t106 :: t107 :: t108 :: t109 :: t110 :: t111 :: t112 :: t113 :: t114 :: t115 :: t116 :: t117 :: t118 :: t119 :: t120 :: t121 :: t122 :: t123 :: t124 :: t125 :: t126 :: t127 :: t128 :: t129 :: t130 :: t131 :: t132 :: t133 :: t134 :: t135 :: t136 :: t137 :: []), defers := [] } wr := by
  change some _ = some c at hc
  cases hc
  have HQF := Lib.hid hQ
  clear hQ
  have hz0 := H.out.2.2.1
  have hnl : n = (Ks.map str).length := by rw [List.length_map]; exact H.out.2.2.2.1
  rw [hnl] at hz0
  have hx1 := hz0.get (show (Ks.map str)[i]? = some (str ki) by rw [List.getElem?_map, H.out.2.2.2.2.1]; rfl)
  have hx2 := hz0.get (show (Ks.map str)[j]? = some (str kj) by rw [List.getElem?_map, H.out.2.2.2.2.2]; rfl)
  have hfz := hz0.free
  have hil : i < (Ks.map str).length := by rw [List.length_map]; exact (List.getElem?_eq_some_iff.1 H.out.2.2.2.2.1).1
  have hjl : j < (Ks.map str).length := by rw [List.length_map]; exact (List.getElem?_eq_some_iff.1 H.out.2.2.2.2.2).1
  have hall : ∀ u ∈ Ks.map str, FS u := fun u hu => by obtain ⟨s, _, rfl⟩ := List.mem_map.1 hu; exact ⟨s, rfl⟩
  have hz1 := hz0.set hil (str kj)
  have hgb := hz0.1.lt gk rfl
  have t1 := hz0.setTurn hil hall (str kj)
  have hall1 : ∀ u ∈ (Ks.map str).set i (str kj), FS u := fun u hu => by
    rcases List.mem_or_eq_of_mem_set hu with h | h
    · exact hall u h
    · exact ⟨_, h⟩
  have hl1 : ((Ks.map str).set i (str kj)).length = (Ks.map str).length := by simp
  rw [← hl1] at hz1
  have hz2 := hz1.set (show j < ((Ks.map str).set i (str kj)).length by rw [hl1]; exact hjl) (str ki)
  have t2 := hz1.setTurn (show j < ((Ks.map str).set i (str kj)).length by rw [hl1]; exact hjl) hall1 (str ki)
  have em : ((Ks.map str).set i (str kj)).set j (str ki) = ((Ks.set i kj).set j ki).map str := by rw [List.map_set, List.map_set]
  rw [em, hl1, ← hnl] at hz2
  have HF : Hid (_ ∧ _ ∧ _) := Lib.hid ⟨(((H.out.1.setCell hgb.1 (str kj)).setCell hgb.1 (str ki)) : Below W.heap.size W ((wr.setCell ⟨gk, i, none⟩ (str kj)).setCell ⟨gk, j, none⟩ (str ki))), t2.rep fs_ptr (by decide) (t1.rep fs_ptr (by decide) H.out.2.1), hz2⟩
  have hi1 : (i : Int) < (n : Int) := by omega
  have hi2 : (j : Int) < (n : Int) := by omega
  clear hz0 hz1 hz2 t1 t2 hall hall1 hl1 em hil hjl hnl hgb
  refine Code.wp_mono (Q := fun e a w => match e with | .normal => Q .normal a w | _ => False) (fun e a w h => by cases e <;> first | exact h | exact h.elim) ?_
  by_cases hij : i = j
  · subst hij
    obtain rfl : ki = kj := Option.some.inj (H.out.2.2.2.2.1.symm.trans H.out.2.2.2.2.2)
    repeat' (first | go_skip | go_guarded | go_step)
    go_region
    repeat' (first | go_skip | go_guarded | go_step)
    exact HQF.out _ _ _ _ _ _ _ _ _ _ _ _ _ _ _ ⟨HF.out.1.drew, HF.out.2.1.ext (below_drewN (Ext.refl _) 1), HF.out.2.2.ext (below_drewN (Ext.refl _) 1)⟩
  · have q1 : i ≠ j := hij
    have q2 : j ≠ i := fun e => hij e.symm
    clear hij
    repeat' (first | go_skip | go_guarded | go_step)
    go_region
    repeat' (first | go_skip | go_guarded | go_step)
    exact HQF.out _ _ _ _ _ _ _ _ _ _ _ _ _ _ _ ⟨HF.out.1.drew, HF.out.2.1.ext (below_drewN (Ext.refl _) 1), HF.out.2.2.ext (below_drewN (Ext.refl _) 1)⟩

end Go.Proofs.Ytmpeniboccahdaa
/- RadixShrinks: keys change places: its third loop: a law of its own. -/
namespace Go.Proofs.Ytmpeniboccahdaa
open Go.RowKit Go.QS
set_option linter.unusedVariables false

theorem seg_u8 {w : World} {A : Option Addr} {l : List UInt8} (hs : Seg w A (flatE encU l)) {i : Nat} {a : UInt8} (h : l[i]? = some a) : ∃ b o, A = some ⟨b, o, none⟩ ∧ w.cell? ⟨b, o + i, none⟩ = some (.int .u8 a.toNat) := by
  obtain ⟨b, o, hA, hq⟩ := seg_el encU_len (by decide) hs h
  refine ⟨b, o, hA, ?_⟩
  have := hq 0 _ rfl
  rwa [Nat.mul_one, Nat.add_zero] at this

set_option maxRecDepth 100000 in
set_option maxHeartbeats 2000000 in
theorem shr_22 (W wr : World) (g m D : Nat) (B : Option Addr) (v12 : Value) (T : RT) (Ks : List (List UInt8)) (os : List UInt8) (H : Hid (Ext W wr ∧ Rep NT wr g T ∧ ZR FS W.heap.size ST wr v12 (Ks.map str) ∧ Seg W B (flatE encU os) ∧ m = os.length)) (hKs : Ks.length ≤ 1000) (hm9 : m ≤ 9223372036854775807) (c d : Code) (K : Act → World → Prop) (Q : Exit → Act → World → Prop) (t0 t1 t3 t4 t5 t6 t7 t8 t9 t10 t11 t13 t14 t15 t16 t17 t18 t19 t20 t21 t22 t23 t24 t25 t26 t27 t28 t29 t30 t31 t32 t33 t34 t35 t36 t37 t38 t39 t40 t41 t42 t43 t44 t45 t46 t47 t48 t49 t50 t51 t52 t53 t54 t55 t56 t57 t58 t59 t60 t61 t62 t63 t64 t65 t66 t67 t68 t69 t70 t71 t72 t73 t74 t75 t76 t77 t78 t79 t80 t81 t82 t83 t84 t85 t86 t87 t88 t89 t90 t91 t92 t93 t94 t95 t96 t97 t98 t99 t100 t101 t102 t103 t104 t105 t106 t107 t108 t109 t110 t111 t112 t113 t114 t115 t116 t117 t118 t119 t120 t121 t122 t123 t124 t125 t126 t127 t128 t129 t130 t131 t132 t133 t134 t135 t136 t137 : Value)
    (hc : (Try.f6.body.bind (findR 22)) = some c) (hd : (Try.f6.body.bind (findT 22)) = some d)
    (hK : ∀ a w, d.wp Try.prog Q a w → K a w)
    (hQ : ∀ (Ls : List (List UInt8)) (u17 u18 u81 u82 u83 u84 u85 u86 u87 u88 u89 u90 u91 u92 u93 u94 u95 u96 u97 u98 u99 u100 u101 u102 u103 u104 u105 u106 u107 u108 u109 u110 u111 u112 u113 u114 u115 u116 : Value) (wx : World), Ext W wx ∧ Rep NT wx g T ∧ ZR FS W.heap.size ST wx v12 (Ls.map str) ∧ Ls.length = Ks.length ∧ (∀ k, k ∈ Ls ↔ k ∈ Ks) → Q .normal { tmps := List.toArray (t0 :: t1 :: (.slice B m D) :: t3 :: t4 :: t5 :: t6 :: t7 :: t8 :: t9 :: t10 :: t11 :: v12 :: t13 :: t14 :: t15 :: t16 :: u17 :: u18 :: t19 :: t20 :: t21 :: t22 :: t23 :: t24 :: t25 :: t26 :: t27 :: t28 :: t29 :: t30 :: t31 :: t32 :: t33 :: t34 :: t35 :: t36 :: t37 :: t38 :: t39 :: t40 :: t41 :: t42 :: t43 :: t44 :: t45 :: t46 :: t47 :: t48 :: t49 :: t50 :: t51 :: t52 :: t53 :: t54 :: t55 :: t56 :: t57 :: t58 :: t59 :: t60 :: t61 :: t62 :: t63 :: t64 :: t65 :: t66 :: t67 :: t68 :: t69 :: t70 :: t71 :: t72 :: t73 :: t74 :: t75 :: t76 :: t77 :: t78 :: t79 :: t80 :: u81 :: u82 :: u83 :: u84 :: u85 :: u86 :: u87 :: u88 :: u89 :: u90 :: u91 :: u92 :: u93 :: u94 :: u95 :: u96 :: u97 :: u98 :: u99 :: u100 :: u101 :: u102 :: u103 :: u104 :: u105 :: u106 :: u107 :: u108 :: u109 :: u110 :: u111 :: u112 :: u113 :: u114 :: u115 :: u116 :: t117 :: t118 :: t119 :: t120 :: t121 :: t122 :: t123 :: t124 :: t125 :: t126 :: t127 :: t128 :: t129 :: t130 :: t131 :: t132 :: t133 :: t134 :: t135 :: t136 :: t137 :: []), defers := [] } wx) :
    c.wp Try.prog (Exit.then K Q) { tmps := List.toArray (t0 :: t1 :: (.slice B m D) :: t3 :: t4 :: t5 :: t6 :: t7 :: t8 :: t9 :: t10 :: t11 :: v12 :: t13 :: t14 :: t15 :: t16 :: t17 :: t18 :: t19 :: t20 :: t21 :: t22 :: t23 :: t24 :: t25 :: t26 :: t27 :: t28 :: t29 :: t30 :: t31 :: t32 :: t33 :: t34 :: t35 :: t36 :: t37 :: t38 :: t39 :: t40 :: t41 :: t42 :: t43 :: t44 :: t45 :: t46 :: t47 :: t48 :: t49 :: t50 :: t51 :: t52 :: t53 :: t54 :: t55 :: t56 :: t57 :: t58 :: t59 :: t60 :: t61 :: t62 :: t63 :: t64 :: t65 :: t66 :: t67 :: t68 :: t69 :: t70 :: t71 :: t72 :: t73 :: t74 :: t75 :: t76 :: t77 :: t78 :: t79 :: t80 :: t81 :: t82 :: t83 :: t84 :: t85 :: t86 :: t87 :: t88 :: t89 :: t90 :: t91 :: t92 :: t93 :: t94 :: t95 :: t96 :: t97 :: t98 :: t99 :: t100 :: t101 :: t102 :: t103 :: t104 :: t105 :: t106 :: t107 :: t108 :: t109 :: t110 :: t111 :: t112 :: t113 :: t114 :: t115 :: t116 :: t117 :: t118 :: t119 :: t120 :: t121 :: t122 :: t123 :: t124 :: t125 :: t126 :: t127 :: t128 :: t129 :: t130 :: t131 :: t132 :: t133 :: t134 :: t135 :: t136 :: t137 :: []), defers := [] } wr := by
  change some _ = some c at hc
  cases hc
  change some _ = some d at hd
  cases hd
  have HQF := Lib.hid hQ
  clear hQ
  obtain ⟨KA, kc, rfl⟩ := own_slice' H.out.2.2.1.1
  obtain ⟨n, hn⟩ : ∃ n, n = (Ks.map str).length := ⟨_, rfl⟩
  rw [← hn] at H HQF ⊢
  have hn9 : n ≤ 1000 := by rw [hn, List.length_map]; exact hKs
  have HN : Hid (n = Ks.length) := Lib.hid (by rw [hn, List.length_map])
  clear hn hKs
  repeat' (go_not_at_region 23; (first | go_skip | go_guarded | go_step))
  go_loopg [83] n (fun gk v83 wx => ∃ (i : Nat) (Ls : List (List UInt8)), v83 = .int .i64 i ∧ i ≤ n ∧ n - i ≤ gk ∧ Hid (Ext W wx ∧ Rep NT wx g T ∧ ZR FS W.heap.size ST wx (.slice KA n kc) (Ls.map str) ∧ Ls.length = n ∧ ∀ k, k ∈ Ls ↔ k ∈ Ks))
  case atStart => exact ⟨0, Ks, rfl, Nat.zero_le _, by omega, Lib.hid ⟨H.out.1, H.out.2.1, H.out.2.2.1, HN.out.symm, fun k => Iff.rfl⟩⟩
  case round =>
    obtain ⟨i, Ls, rfl, hin, hgk, HI⟩ := hrel
    rcases Nat.lt_or_ge i n with hlt | hge
    · have d1 : decide (i < n) = true := by simp [hlt]
      have hi1 : (i : Int) < (n : Int) := by omega
      by_cases h20 : i < m
      · have d2 : decide (i < m) = true := by simp [h20]
        have hi2 : (i : Int) < (m : Int) := by omega
        obtain ⟨c, hc⟩ := get_of_lt os (show i < os.length by have := H.out.2.2.2.2; omega)
        obtain ⟨b, o, rfl, hq⟩ := seg_u8 (H.out.2.2.2.1.below HI.out.1) hc
        clear hc
        repeat' (go_not_at_region 27; (first | go_skip | go_guarded | go_step))
        obtain ⟨j, hj⟩ : ∃ j, j = i + c.toNat % (n - i) := ⟨_, rfl⟩
        have hjn : j < n := by have := Nat.mod_lt c.toNat (show 0 < n - i by omega); omega
        have hjv : wrap64 (↑i + (wrap64 ↑c.toNat).tmod (↑n - ↑i)) = (j : Int) := by
          have hc9 := c.toNat_lt
          have e1 : wrap64 (c.toNat : Int) = c.toNat := by unfold wrap64; omega
          have e2 : ((n : Int) - (i : Int)) = ((n - i : Nat) : Int) := by omega
          rw [e1, e2, ← Int.ofNat_tmod, ← Int.natCast_add, ← hj]
          unfold wrap64; omega
        rw [hjv]
        obtain ⟨ki, hki⟩ := get_of_lt Ls (show i < Ls.length by have := HI.out.2.2.2.1; omega)
        obtain ⟨kj, hkj⟩ := get_of_lt Ls (show j < Ls.length by have := HI.out.2.2.2.1; omega)
        rcases HI.out.2.2.1.1.2 with ⟨h0, _⟩ | ⟨gb, cp, cur, h0, _⟩
        · cases h0; omega
        simp only [Value.slice.injEq] at h0
        obtain ⟨rfl, _, rfl⟩ := h0
        have HM := Lib.hid (mem_swap hki hkj)
        rename_i K hK
        refine shr_27 W _ g gb n kc i j ki kj T Ls (Lib.hid ⟨HI.out.1, HI.out.2.1, HI.out.2.2.1, HI.out.2.2.2.1.symm, hki, hkj⟩) hn9 _ _ _ _ _ _ _ _ _ _ _ _ _ _ _ _ _ _ _ _ _ _ _ _ _ _ _ _ _ _ _ _ _ _ _ _ _ _ _ _ _ _ _ _ _ _ _ _ _ _ _ _ _ _ _ _ _ _ _ _ _ _ _ _ _ _ _ _ _ _ _ _ _ _ _ _ _ _ _ _ _ _ _ _ _ _ _ _ _ _ _ _ _ _ _ _ _ _ _ _ _ _ _ _ _ _ _ _ _ _ _ _ _ _ _ _ _ _ _ _ _ _ _ _ _ _ _ _ _ _ _ _ _ _ _ _ _ (by kernel_rfl) ?_
        intro z102 z103 z104 z105 z106 z107 z108 z109 z110 z111 z112 z113 z114 z115 wy hpo
        have H6 := Lib.hid hpo
        clear hpo hki hkj
        repeat' (first | go_skip | go_guarded | go_step)
        go_roundg (n - (i + 1))
        case measure => omega
        case rel => exact ⟨i + 1, _, by go_num, by omega, Nat.le_refl _, Lib.hid ⟨H6.out.1, H6.out.2.1, H6.out.2.2, by simp; exact HI.out.2.2.2.1, fun k => (HM.out k).trans (HI.out.2.2.2.2 k)⟩⟩
      · have d2 : decide (i < m) = false := by simp; omega
        repeat' (first | go_skip | go_guarded | go_step)
        go_roundg (n - (i + 1))
        case measure => omega
        case rel => exact ⟨i + 1, Ls, by go_num, by omega, Nat.le_refl _, HI⟩
    · obtain rfl : i = n := by omega
      have d1 : decide (i < i) = false := by simp
      repeat' (first | go_skip | go_guarded | go_step)
      exact HQF.out Ls _ _ _ _ _ _ _ _ _ _ _ _ _ _ _ _ _ _ _ _ _ _ _ _ _ _ _ _ _ _ _ _ _ _ _ _ _ _ _ ⟨HI.out.1, HI.out.2.1, HI.out.2.2.1, HI.out.2.2.2.1.trans HN.out, HI.out.2.2.2.2⟩

end Go.Proofs.Ytmpeniboccahdaa
