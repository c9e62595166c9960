/- Texts joined. -/
import Derived.Test.YtclcgelbcbnekaaBt
import Derived.Deep.LoopGhost
import Derived.BigRegion
set_option linter.unusedVariables false
set_option linter.unusedSimpArgs false
/- ChampShrinks: keys change places: a law of its own; its third loop. -/
namespace Go.Proofs.Ytclcgelbcbnekaa
open Go Go.RowKit Go.QS Go.QS.Nk
set_option linter.unusedVariables false
variable [Zero (Nat → Prop)]
set_option linter.unusedSectionVars false

theorem seg_u8 {w : World} {A : Option Addr} {l : List UInt8} (hs : Seg w A (flatE encU l)) {i : Nat} {a : UInt8} (h : l[i]? = some a) : ∃ b o, A = some ⟨b, o, none⟩ ∧ w.cell? ⟨b, o + i, none⟩ = some (.int .u8 a.toNat) := by
  obtain ⟨b, o, hA, hq⟩ := seg_el encU_len (by decide) hs h
  refine ⟨b, o, hA, ?_⟩
  have := hq 0 _ rfl
  rwa [Nat.mul_one, Nat.add_zero] at this

set_option maxRecDepth 100000 in
set_option maxHeartbeats 2000000 in
theorem shr6_27 (W wr : World) (gh g gk n cap i j : Nat) (h : Hs) (ki kj : List UInt8) (Y : List Pr) (Ks : List (List UInt8)) (H : Hid (Ext W wr ∧ T6V (.slice (some ⟨gk, 0, none⟩) n cap) wr gh h g Y ∧ wr.ownsRow W.heap.size STG 1 (.slice (some ⟨gk, 0, none⟩) n cap) n (Ks.map str) ∧ n = Ks.length ∧ Ks[i]? = some ki ∧ Ks[j]? = some kj ∧ gh < W.heap.size)) (hn9 : n ≤ 1000) (c : Code) (Q : Exit → Act → World → Prop) (t0 t1 t2 t3 t4 t5 t6 t7 t8 t9 t10 t11 t12 t13 t15 t16 t17 t18 t21 t22 t23 t24 t25 t26 t27 t28 t29 t30 t31 t32 t33 t34 t35 t36 t37 t38 t39 t40 t41 t42 t43 t44 t45 t46 t47 t48 t49 t50 t51 t52 t53 t54 t55 t56 t57 t58 t59 t60 t61 t62 t63 t64 t65 t66 t67 t68 t69 t70 t71 t72 t73 t74 t75 t76 t77 t78 t79 t80 t81 t82 t83 t84 t85 t86 t87 t88 t89 t90 t91 t92 t93 t94 t95 t96 t97 t98 t99 t100 t101 t102 t103 t104 t105 t106 t107 t108 t109 t110 t111 t112 t113 t114 t115 t116 t117 t118 t119 t120 t121 t122 t123 t124 t125 t126 t127 t128 t129 t130 t131 t132 t133 t134 t135 t136 t137 t138 t139 t140 t141 t142 t143 t144 : Value)
    (hc : (Try.f8.body.bind (findR 27)) = some c)
    (hQ : ∀ (u106 u107 u108 u109 u110 u111 u112 u113 u114 u115 u116 u117 u118 u119 : Value) (wx : World), Ext W wx ∧ T6V (.slice (some ⟨gk, 0, none⟩) n cap) wx gh h g Y ∧ wx.ownsRow W.heap.size STG 1 (.slice (some ⟨gk, 0, none⟩) n cap) n (((Ks.set i kj).set j ki).map str) → Q .normal { tmps := List.toArray (t0 :: t1 :: t2 :: t3 :: t4 :: t5 :: t6 :: t7 :: t8 :: t9 :: t10 :: t11 :: t12 :: t13 :: (.slice (some ⟨gk, 0, none⟩) n cap) :: t15 :: t16 :: t17 :: t18 :: (.int .i64 i) :: (.int .i64 j) :: t21 :: t22 :: t23 :: t24 :: t25 :: t26 :: t27 :: t28 :: t29 :: t30 :: t31 :: t32 :: t33 :: t34 :: t35 :: t36 :: t37 :: t38 :: t39 :: t40 :: t41 :: t42 :: t43 :: t44 :: t45 :: t46 :: t47 :: t48 :: t49 :: t50 :: t51 :: t52 :: t53 :: t54 :: t55 :: t56 :: t57 :: t58 :: t59 :: t60 :: t61 :: t62 :: t63 :: t64 :: t65 :: t66 :: t67 :: t68 :: t69 :: t70 :: t71 :: t72 :: t73 :: t74 :: t75 :: t76 :: t77 :: t78 :: t79 :: t80 :: t81 :: t82 :: t83 :: t84 :: t85 :: t86 :: t87 :: t88 :: t89 :: t90 :: t91 :: t92 :: t93 :: t94 :: t95 :: t96 :: t97 :: t98 :: t99 :: t100 :: t101 :: t102 :: t103 :: t104 :: t105 :: u106 :: u107 :: u108 :: u109 :: u110 :: u111 :: u112 :: u113 :: u114 :: u115 :: u116 :: u117 :: u118 :: u119 :: t120 :: t121 :: t122 :: t123 :: t124 :: t125 :: t126 :: t127 :: t128 :: t129 :: t130 :: t131 :: t132 :: t133 :: t134 :: t135 :: t136 :: t137 :: t138 :: t139 :: t140 :: t141 :: t142 :: t143 :: t144 :: []), defers := [] } wx) :
    c.wp Try.prog Q { tmps := List.toArray (t0 :: t1 :: t2 :: t3 :: t4 :: t5 :: t6 :: t7 :: t8 :: t9 :: t10 :: t11 :: t12 :: t13 :: (.slice (some ⟨gk, 0, none⟩) n cap) :: t15 :: t16 :: t17 :: t18 :: (.int .i64 i) :: (.int .i64 j) :: t21 :: t22 :: t23 :: t24 :: t25 :: t26 :: t27 :: t28 :: t29 :: t30 :: t31 :: t32 :: t33 :: t34 :: t35 :: t36 :: t37 :: t38 :: t39 :: t40 :: t41 :: t42 :: t43 :: t44 :: t45 :: t46 :: t47 :: t48 :: t49 :: t50 :: t51 :: t52 :: t53 :: t54 :: t55 :: t56 :: t57 :: t58 :: t59 :: t60 :: t61 :: t62 :: t63 :: t64 :: t65 :: t66 :: t67 :: t68 :: t69 :: t70 :: t71 :: t72 :: t73 :: t74 :: t75 :: t76 :: t77 :: t78 :: t79 :: t80 :: t81 :: t82 :: t83 :: t84 :: t85 :: t86 :: t87 :: t88 :: t89 :: t90 :: t91 :: t92 :: t93 :: t94 :: t95 :: t96 :: t97 :: t98 :: t99 :: t100 :: t101 :: t102 :: t103 :: t104 :: t105 :: t106 :: t107 :: t108 :: t109 :: t110 :: t111 :: t112 :: t113 :: t114 :: t115 :: t116 :: t117 :: t118 :: t119 :: t120 :: t121 :: t122 :: t123 :: t124 :: t125 :: t126 :: t127 :: t128 :: t129 :: t130 :: t131 :: t132 :: t133 :: t134 :: t135 :: t136 :: t137 :: t138 :: t139 :: t140 :: t141 :: t142 :: t143 :: t144 :: []), defers := [] } wr := by
  change some _ = some c at hc
  cases hc
  have HQF := Lib.hid hQ
  clear hQ
  have hz0 := H.out.2.2.1
  have hnl : n = Ks.length := H.out.2.2.2.1
  have hx1 : wr.cell? ⟨gk, i, none⟩ = some (str ki) := by
    have := hz0.cells (g := gk) rfl i (str ki) (by rw [List.getElem?_map, H.out.2.2.2.2.1]; rfl)
    rw [Addr.add_lit, Nat.zero_add] at this
    exact this
  have hx2 : wr.cell? ⟨gk, j, none⟩ = some (str kj) := by
    have := hz0.cells (g := gk) rfl j (str kj) (by rw [List.getElem?_map, H.out.2.2.2.2.2.1]; rfl)
    rw [Addr.add_lit, Nat.zero_add] at this
    exact this
  have hfz : ∀ j, wr.frozen? ⟨gk, j, none⟩ = false := fun j => by
    rcases hz0.2 with ⟨h2, _⟩ | ⟨g', cap', cur', k1, k2, k3, k4⟩
    · cases h2
    · cases k1
      simp [World.frozen?, k3]
  have hgb := hz0.lt gk rfl
  obtain ⟨hz1, hg1⟩ := World.ownsRow.stored hz0 i (str kj)
  obtain ⟨hz2, hg2⟩ := World.ownsRow.stored hz1 j (str ki)
  have em : ((Ks.map str).set i (str kj)).set j (str ki) = ((Ks.set i kj).set j ki).map str := by rw [List.map_set, List.map_set]
  rw [em] at hz2
  have ht1 : T6V (.slice (some ⟨gk, 0, none⟩) n cap) (wr.setCell ⟨gk, i, none⟩ (str kj)) gh h g Y := H.out.2.1.set hg1 (fun b hb => (hz1.lt b hb).2) (fun e => by have := (hz0.lt gh e).1; have := H.out.2.2.2.2.2.2; omega)
  have ht2 : T6V (.slice (some ⟨gk, 0, none⟩) n cap) ((wr.setCell ⟨gk, i, none⟩ (str kj)).setCell ⟨gk, j, none⟩ (str ki)) gh h g Y := ht1.set hg2 (fun b hb => (hz2.lt b hb).2) (fun e => by have := (hz0.lt gh e).1; have := H.out.2.2.2.2.2.2; omega)
  have HF : Hid (_ ∧ _ ∧ _) := Lib.hid ⟨(((H.out.1.setCell hgb.1 (str kj)).setCell hgb.1 (str ki)) : Below W.heap.size W ((wr.setCell ⟨gk, i, none⟩ (str kj)).setCell ⟨gk, j, none⟩ (str ki))), ht2, hz2⟩
  have hil : i < n := by rw [hnl]; exact (List.getElem?_eq_some_iff.1 H.out.2.2.2.2.1).1
  have hjl : j < n := by rw [hnl]; exact (List.getElem?_eq_some_iff.1 H.out.2.2.2.2.2.1).1
  have hi1 : (i : Int) < (n : Int) := by omega
  have hi2 : (j : Int) < (n : Int) := by omega
  clear hz0 hz1 hz2 hg1 hg2 ht1 ht2 em hil hjl hnl hgb
  refine Code.wp_mono (Q := fun e a w => match e with | .normal => Q .normal a w | _ => False) (fun e a w h => by cases e <;> first | exact h | exact h.elim) ?_
  by_cases hij : i = j
  · subst hij
    obtain rfl : ki = kj := Option.some.inj (H.out.2.2.2.2.1.symm.trans H.out.2.2.2.2.2.1)
    repeat' (first | go_skip | go_guarded | go_step)
    go_region
    repeat' (first | go_skip | go_guarded | go_step)
    exact HQF.out _ _ _ _ _ _ _ _ _ _ _ _ _ _ _ ⟨HF.out.1.drew, HF.out.2.1.ext (below_drewN (Ext.refl _) 1), row_ext HF.out.2.2 (below_drewN (Ext.refl _) 1)⟩
  · have q1 : i ≠ j := hij
    have q2 : j ≠ i := fun e => hij e.symm
    clear hij
    repeat' (first | go_skip | go_guarded | go_step)
    go_region
    repeat' (first | go_skip | go_guarded | go_step)
    exact HQF.out _ _ _ _ _ _ _ _ _ _ _ _ _ _ _ ⟨HF.out.1.drew, HF.out.2.1.ext (below_drewN (Ext.refl _) 1), row_ext HF.out.2.2 (below_drewN (Ext.refl _) 1)⟩

set_option maxRecDepth 100000 in
set_option maxHeartbeats 2000000 in
theorem shr6_22 (W wr : World) (gh g m D : Nat) (h : Hs) (B : Option Addr) (v14 : Value) (Y : List Pr) (Ks : List (List UInt8)) (os : List UInt8) (H : Hid (Ext W wr ∧ T6V v14 wr gh h g Y ∧ RS W.heap.size wr v14 Ks ∧ Seg W B (flatE encU os) ∧ m = os.length ∧ gh < W.heap.size)) (hKs : Ks.length ≤ 1000) (hm9 : m ≤ 9223372036854775807) (c d : Code) (K : Act → World → Prop) (Q : Exit → Act → World → Prop) (t0 t1 t2 t4 t5 t6 t7 t8 t9 t10 t11 t12 t13 t15 t16 t17 t18 t19 t20 t21 t22 t23 t24 t25 t26 t27 t28 t29 t30 t31 t32 t33 t34 t35 t36 t37 t38 t39 t40 t41 t42 t43 t44 t45 t46 t47 t48 t49 t50 t51 t52 t53 t54 t55 t56 t57 t58 t59 t60 t61 t62 t63 t64 t65 t66 t67 t68 t69 t70 t71 t72 t73 t74 t75 t76 t77 t78 t79 t80 t81 t82 t83 t84 t85 t86 t87 t88 t89 t90 t91 t92 t93 t94 t95 t96 t97 t98 t99 t100 t101 t102 t103 t104 t105 t106 t107 t108 t109 t110 t111 t112 t113 t114 t115 t116 t117 t118 t119 t120 t121 t122 t123 t124 t125 t126 t127 t128 t129 t130 t131 t132 t133 t134 t135 t136 t137 t138 t139 t140 t141 t142 t143 t144 : Value)
    (hc : (Try.f8.body.bind (findR 22)) = some c) (hd : (Try.f8.body.bind (findT 22)) = some d)
    (hK : ∀ a w, d.wp Try.prog Q a w → K a w)
    (hQ : ∀ (Ls : List (List UInt8)) (u19 u20 u85 u86 u87 u88 u89 u90 u91 u92 u93 u94 u95 u96 u97 u98 u99 u100 u101 u102 u103 u104 u105 u106 u107 u108 u109 u110 u111 u112 u113 u114 u115 u116 u117 u118 u119 u120 : Value) (wx : World), Ext W wx ∧ T6V v14 wx gh h g Y ∧ RS W.heap.size wx v14 Ls ∧ Ls.length = Ks.length ∧ (∀ k, k ∈ Ls ↔ k ∈ Ks) → Q .normal { tmps := List.toArray (t0 :: t1 :: t2 :: (.slice B m D) :: t4 :: t5 :: t6 :: t7 :: t8 :: t9 :: t10 :: t11 :: t12 :: t13 :: v14 :: t15 :: t16 :: t17 :: t18 :: u19 :: u20 :: t21 :: t22 :: t23 :: t24 :: t25 :: t26 :: t27 :: t28 :: t29 :: t30 :: t31 :: t32 :: t33 :: t34 :: t35 :: t36 :: t37 :: t38 :: t39 :: t40 :: t41 :: t42 :: t43 :: t44 :: t45 :: t46 :: t47 :: t48 :: t49 :: t50 :: t51 :: t52 :: t53 :: t54 :: t55 :: t56 :: t57 :: t58 :: t59 :: t60 :: t61 :: t62 :: t63 :: t64 :: t65 :: t66 :: t67 :: t68 :: t69 :: t70 :: t71 :: t72 :: t73 :: t74 :: t75 :: t76 :: t77 :: t78 :: t79 :: t80 :: t81 :: t82 :: t83 :: t84 :: u85 :: u86 :: u87 :: u88 :: u89 :: u90 :: u91 :: u92 :: u93 :: u94 :: u95 :: u96 :: u97 :: u98 :: u99 :: u100 :: u101 :: u102 :: u103 :: u104 :: u105 :: u106 :: u107 :: u108 :: u109 :: u110 :: u111 :: u112 :: u113 :: u114 :: u115 :: u116 :: u117 :: u118 :: u119 :: u120 :: t121 :: t122 :: t123 :: t124 :: t125 :: t126 :: t127 :: t128 :: t129 :: t130 :: t131 :: t132 :: t133 :: t134 :: t135 :: t136 :: t137 :: t138 :: t139 :: t140 :: t141 :: t142 :: t143 :: t144 :: []), defers := [] } wx) :
    c.wp Try.prog (Exit.then K Q) { tmps := List.toArray (t0 :: t1 :: t2 :: (.slice B m D) :: t4 :: t5 :: t6 :: t7 :: t8 :: t9 :: t10 :: t11 :: t12 :: t13 :: v14 :: t15 :: t16 :: t17 :: t18 :: t19 :: t20 :: t21 :: t22 :: t23 :: t24 :: t25 :: t26 :: t27 :: t28 :: t29 :: t30 :: t31 :: t32 :: t33 :: t34 :: t35 :: t36 :: t37 :: t38 :: t39 :: t40 :: t41 :: t42 :: t43 :: t44 :: t45 :: t46 :: t47 :: t48 :: t49 :: t50 :: t51 :: t52 :: t53 :: t54 :: t55 :: t56 :: t57 :: t58 :: t59 :: t60 :: t61 :: t62 :: t63 :: t64 :: t65 :: t66 :: t67 :: t68 :: t69 :: t70 :: t71 :: t72 :: t73 :: t74 :: t75 :: t76 :: t77 :: t78 :: t79 :: t80 :: t81 :: t82 :: t83 :: t84 :: t85 :: t86 :: t87 :: t88 :: t89 :: t90 :: t91 :: t92 :: t93 :: t94 :: t95 :: t96 :: t97 :: t98 :: t99 :: t100 :: t101 :: t102 :: t103 :: t104 :: t105 :: t106 :: t107 :: t108 :: t109 :: t110 :: t111 :: t112 :: t113 :: t114 :: t115 :: t116 :: t117 :: t118 :: t119 :: t120 :: t121 :: t122 :: t123 :: t124 :: t125 :: t126 :: t127 :: t128 :: t129 :: t130 :: t131 :: t132 :: t133 :: t134 :: t135 :: t136 :: t137 :: t138 :: t139 :: t140 :: t141 :: t142 :: t143 :: t144 :: []), defers := [] } wr := by
  change some _ = some c at hc
  cases hc
  change some _ = some d at hd
  cases hd
  have HQF := Lib.hid hQ
  clear hQ
  have hgh0 := H.out.2.2.2.2.2
  obtain ⟨KA, kc, rfl⟩ := own_slice' H.out.2.2.1
  obtain ⟨n, hn⟩ : ∃ n, n = Ks.length := ⟨_, rfl⟩
  have H0 : Hid (Ext W wr ∧ T6V (.slice KA n kc) wr gh h g Y ∧ wr.ownsRow W.heap.size STG 1 (.slice KA n kc) n (Ks.map str) ∧ Seg W B (flatE encU os) ∧ m = os.length) := Lib.hid (by rw [hn]; exact ⟨H.out.1, H.out.2.1, H.out.2.2.1, H.out.2.2.2.1, H.out.2.2.2.2.1⟩)
  rw [← hn] at HQF ⊢
  have hn9 : n ≤ 1000 := by rw [hn]; exact hKs
  have HN : Hid (n = Ks.length) := Lib.hid hn
  clear hn hKs H
  repeat' (go_not_at_region 23; (first | go_skip | go_guarded | go_step))
  go_loopg [87] n (fun gk v87 wx => ∃ (i : Nat) (Ls : List (List UInt8)), v87 = .int .i64 i ∧ i ≤ n ∧ n - i ≤ gk ∧ Hid (Ext W wx ∧ T6V (.slice KA n kc) wx gh h g Y ∧ wx.ownsRow W.heap.size STG 1 (.slice KA n kc) n (Ls.map str) ∧ Ls.length = n ∧ ∀ k, k ∈ Ls ↔ k ∈ Ks))
  case atStart => exact ⟨0, Ks, rfl, Nat.zero_le _, by omega, Lib.hid ⟨H0.out.1, H0.out.2.1, H0.out.2.2.1, HN.out.symm, fun k => Iff.rfl⟩⟩
  case round =>
    obtain ⟨i, Ls, rfl, hin, hgk, HI⟩ := hrel
    rcases Nat.lt_or_ge i n with hlt | hge
    · have d1 : decide (i < n) = true := by simp [hlt]
      have hi1 : (i : Int) < (n : Int) := by omega
      by_cases h20 : i < m
      · have d2 : decide (i < m) = true := by simp [h20]
        have hi2 : (i : Int) < (m : Int) := by omega
        obtain ⟨c, hc⟩ := get_of_lt os (show i < os.length by have := H0.out.2.2.2.2; omega)
        obtain ⟨b, o, rfl, hq⟩ := seg_u8 (H0.out.2.2.2.1.below HI.out.1) hc
        clear hc
        repeat' (go_not_at_region 27; (first | go_skip | go_guarded | go_step))
        obtain ⟨j, hj⟩ : ∃ j, j = i + c.toNat % (n - i) := ⟨_, rfl⟩
        have hjn : j < n := by have := Nat.mod_lt c.toNat (show 0 < n - i by omega); omega
        have hjv : wrap64 (↑i + (wrap64 ↑c.toNat).tmod (↑n - ↑i)) = (j : Int) := by
          have hc9 := c.toNat_lt
          have e1 : wrap64 (c.toNat : Int) = c.toNat := by unfold wrap64; omega
          have e2 : ((n : Int) - (i : Int)) = ((n - i : Nat) : Int) := by omega
          rw [e1, e2, ← Int.ofNat_tmod, ← Int.natCast_add, ← hj]
          unfold wrap64; omega
        rw [hjv]
        clear hjv hj
        obtain ⟨ki, hki⟩ := get_of_lt Ls (show i < Ls.length by have := HI.out.2.2.2.1; omega)
        obtain ⟨kj, hkj⟩ := get_of_lt Ls (show j < Ls.length by have := HI.out.2.2.2.1; omega)
        rcases HI.out.2.2.1.2 with ⟨h0, _⟩ | ⟨gb, cp, cur, h0, _⟩
        · cases h0; omega
        simp only [Value.slice.injEq] at h0
        obtain ⟨rfl, _, rfl⟩ := h0
        have HM := Lib.hid (mem_swap hki hkj)
        rename_i K hK
        refine shr6_27 W _ gh g gb n kc i j h ki kj Y Ls (Lib.hid ⟨HI.out.1, HI.out.2.1, HI.out.2.2.1, HI.out.2.2.2.1.symm, hki, hkj, hgh0⟩) hn9 _ _ _ _ _ _ _ _ _ _ _ _ _ _ _ _ _ _ _ _ _ _ _ _ _ _ _ _ _ _ _ _ _ _ _ _ _ _ _ _ _ _ _ _ _ _ _ _ _ _ _ _ _ _ _ _ _ _ _ _ _ _ _ _ _ _ _ _ _ _ _ _ _ _ _ _ _ _ _ _ _ _ _ _ _ _ _ _ _ _ _ _ _ _ _ _ _ _ _ _ _ _ _ _ _ _ _ _ _ _ _ _ _ _ _ _ _ _ _ _ _ _ _ _ _ _ _ _ _ _ _ _ _ _ _ _ _ _ _ _ _ _ _ _ (by kernel_rfl) ?_
        intro z106 z107 z108 z109 z110 z111 z112 z113 z114 z115 z116 z117 z118 z119 wy hpo
        have H6 := Lib.hid hpo
        clear hpo hki hkj
        repeat' (first | go_skip | go_guarded | go_step)
        go_roundg (n - (i + 1))
        case measure => omega
        case rel => exact ⟨i + 1, _, by go_num, by omega, Nat.le_refl _, Lib.hid ⟨H6.out.1, H6.out.2.1, H6.out.2.2, by simp; exact HI.out.2.2.2.1, fun k => (HM.out k).trans (HI.out.2.2.2.2 k)⟩⟩
      · have d2 : decide (i < m) = false := by simp; omega
        repeat' (first | go_skip | go_guarded | go_step)
        go_roundg (n - (i + 1))
        case measure => omega
        case rel => exact ⟨i + 1, Ls, by go_num, by omega, Nat.le_refl _, HI⟩
    · obtain rfl : i = n := by omega
      have d1 : decide (i < i) = false := by simp
      repeat' (first | go_skip | go_guarded | go_step)
      refine HQF.out Ls _ _ _ _ _ _ _ _ _ _ _ _ _ _ _ _ _ _ _ _ _ _ _ _ _ _ _ _ _ _ _ _ _ _ _ _ _ _ _ ⟨HI.out.1, HI.out.2.1, ?_, HI.out.2.2.2.1, HI.out.2.2.2.2⟩
      have := HI.out.2.2.1
      unfold RS
      rw [HI.out.2.2.2.1]
      exact this

end Go.Proofs.Ytclcgelbcbnekaa
/- ChampShrinks: keys go: its fourth loop: a law of its own. -/
namespace Go.Proofs.Ytclcgelbcbnekaa
open Go Go.RowKit Go.QS Go.QS.Nk
set_option linter.unusedVariables false
variable [Zero (Nat → Prop)]
set_option linter.unusedSectionVars false

set_option maxRecDepth 100000 in
set_option maxHeartbeats 2000000 in
theorem shr6_29 (W wr : World) (gh g : Nat) (h : Hs) (hk : h.Ok) (v13 v14 : Value) (Y : List Pr) (Ks : List (List UInt8)) (H : Hid (T6V v13 wr gh h g Y ∧ (∀ k ∈ Ks, k.length ≤ 40) ∧ RS W.heap.size wr v14 Ks)) (hY : Y.length ≤ 1000) (c d : Code) (K : Act → World → Prop) (Q : Exit → Act → World → Prop) (t0 t1 t2 t3 t5 t6 t7 t8 t9 t10 t11 t12 t15 t16 t17 t18 t19 t20 t21 t22 t23 t24 t25 t26 t27 t28 t29 t30 t31 t32 t33 t34 t35 t36 t37 t38 t39 t40 t41 t42 t43 t44 t45 t46 t47 t48 t49 t50 t51 t52 t53 t54 t55 t56 t57 t58 t59 t60 t61 t62 t63 t64 t65 t66 t67 t68 t69 t70 t71 t72 t73 t74 t75 t76 t77 t78 t79 t80 t81 t82 t83 t84 t85 t86 t87 t88 t89 t90 t91 t92 t93 t94 t95 t96 t97 t98 t99 t100 t101 t102 t103 t104 t105 t106 t107 t108 t109 t110 t111 t112 t113 t114 t115 t116 t117 t118 t119 t120 t121 t122 t123 t124 t125 t126 t127 t128 t129 t130 t131 t132 t133 t134 t135 t136 t137 t138 t139 t140 t141 t142 t143 t144 : Value)
    (hc : (Try.f8.body.bind (findR 29)) = some c) (hd : (Try.f8.body.bind (findT 29)) = some d)
    (hK : ∀ a w, d.wp Try.prog Q a w → K a w)
    (hQ : ∀ (g2 : Nat) (Z : List Pr) (u22 u121 u122 u123 u124 u125 u126 u127 u128 u129 u130 u131 u132 u133 u134 : Value) (wx : World), Ext wr wx ∧ T6V v13 wx gh h g2 Z ∧ GoneTo Y Z Ks → Q .normal { tmps := List.toArray (t0 :: t1 :: t2 :: t3 :: (ptr gh) :: t5 :: t6 :: t7 :: t8 :: t9 :: t10 :: t11 :: t12 :: (ptr g2) :: v14 :: t15 :: t16 :: t17 :: t18 :: t19 :: t20 :: t21 :: u22 :: t23 :: t24 :: t25 :: t26 :: t27 :: t28 :: t29 :: t30 :: t31 :: t32 :: t33 :: t34 :: t35 :: t36 :: t37 :: t38 :: t39 :: t40 :: t41 :: t42 :: t43 :: t44 :: t45 :: t46 :: t47 :: t48 :: t49 :: t50 :: t51 :: t52 :: t53 :: t54 :: t55 :: t56 :: t57 :: t58 :: t59 :: t60 :: t61 :: t62 :: t63 :: t64 :: t65 :: t66 :: t67 :: t68 :: t69 :: t70 :: t71 :: t72 :: t73 :: t74 :: t75 :: t76 :: t77 :: t78 :: t79 :: t80 :: t81 :: t82 :: t83 :: t84 :: t85 :: t86 :: t87 :: t88 :: t89 :: t90 :: t91 :: t92 :: t93 :: t94 :: t95 :: t96 :: t97 :: t98 :: t99 :: t100 :: t101 :: t102 :: t103 :: t104 :: t105 :: t106 :: t107 :: t108 :: t109 :: t110 :: t111 :: t112 :: t113 :: t114 :: t115 :: t116 :: t117 :: t118 :: t119 :: t120 :: u121 :: u122 :: u123 :: u124 :: u125 :: u126 :: u127 :: u128 :: u129 :: u130 :: u131 :: u132 :: u133 :: u134 :: t135 :: t136 :: t137 :: t138 :: t139 :: t140 :: t141 :: t142 :: t143 :: t144 :: []), defers := [] } wx) :
    c.wp Try.prog (Exit.then K Q) { tmps := List.toArray (t0 :: t1 :: t2 :: t3 :: (ptr gh) :: t5 :: t6 :: t7 :: t8 :: t9 :: t10 :: t11 :: t12 :: (ptr g) :: v14 :: t15 :: t16 :: t17 :: t18 :: t19 :: t20 :: t21 :: t22 :: t23 :: t24 :: t25 :: t26 :: t27 :: t28 :: t29 :: t30 :: t31 :: t32 :: t33 :: t34 :: t35 :: t36 :: t37 :: t38 :: t39 :: t40 :: t41 :: t42 :: t43 :: t44 :: t45 :: t46 :: t47 :: t48 :: t49 :: t50 :: t51 :: t52 :: t53 :: t54 :: t55 :: t56 :: t57 :: t58 :: t59 :: t60 :: t61 :: t62 :: t63 :: t64 :: t65 :: t66 :: t67 :: t68 :: t69 :: t70 :: t71 :: t72 :: t73 :: t74 :: t75 :: t76 :: t77 :: t78 :: t79 :: t80 :: t81 :: t82 :: t83 :: t84 :: t85 :: t86 :: t87 :: t88 :: t89 :: t90 :: t91 :: t92 :: t93 :: t94 :: t95 :: t96 :: t97 :: t98 :: t99 :: t100 :: t101 :: t102 :: t103 :: t104 :: t105 :: t106 :: t107 :: t108 :: t109 :: t110 :: t111 :: t112 :: t113 :: t114 :: t115 :: t116 :: t117 :: t118 :: t119 :: t120 :: t121 :: t122 :: t123 :: t124 :: t125 :: t126 :: t127 :: t128 :: t129 :: t130 :: t131 :: t132 :: t133 :: t134 :: t135 :: t136 :: t137 :: t138 :: t139 :: t140 :: t141 :: t142 :: t143 :: t144 :: []), defers := [] } wr := by
  change some _ = some c at hc
  cases hc
  change some _ = some d at hd
  cases hd
  have HQF := Lib.hid hQ
  clear hQ
  obtain ⟨KA, kc, rfl, hl1, hn, hC, hs⟩ := RS.sl H.out.2.2
  obtain ⟨n, hn2⟩ : ∃ n, n = Ks.length := ⟨_, rfl⟩
  have H0 : Hid (T6V v13 wr gh h g Y ∧ (∀ k ∈ Ks, k.length ≤ 40)) := Lib.hid ⟨H.out.1, H.out.2.1⟩
  rw [← hn2] at hn HQF ⊢
  have hn9 : n ≤ 9223372036854775807 := by unfold maxLen at hC; omega
  have HS : Hid (n = Ks.length ∧ Seg wr KA (Ks.map str)) := Lib.hid ⟨hn2, hs⟩
  clear hn2 hs H hl1
  obtain ⟨wr0, rfl⟩ : ∃ x, x = wr := ⟨_, rfl⟩
  repeat' (go_not_at_region 30; (first | go_skip | go_guarded | go_step))
  go_loopg [13, 123] n (fun gk u13 u123 wx => ∃ (i g2 : Nat) (Z : List Pr), u13 = ptr g2 ∧ u123 = .int .i64 i ∧ i ≤ n ∧ n - i ≤ gk ∧ Z.length ≤ 1000 ∧ Hid (Ext wr0 wx ∧ T6V v13 wx gh h g2 Z ∧ GoneTo Y Z (Ks.take i)))
  case atStart => exact ⟨0, g, Y, rfl, rfl, Nat.zero_le _, by omega, hY, Lib.hid ⟨Ext.refl _, H0.out.1, GoneTo.nil Y⟩⟩
  case round =>
    obtain ⟨i, g2, Z, rfl, rfl, hin, hgk, hZ9, HI⟩ := hrel
    rcases Nat.lt_or_ge i n with hlt | hge
    · have d1 : decide (i < n) = true := by simp [hlt]
      have hi1 : (i : Int) < (n : Int) := by omega
      obtain ⟨k, hk0⟩ := get_of_lt Ks (show i < Ks.length by have := HS.out.1; omega)
      obtain ⟨b, o, rfl, hcl⟩ := (Seg.below HS.out.2 HI.out.1) (fun e => by have h0 := congrArg List.length e; rw [List.length_map, List.length_nil] at h0; have := HS.out.1; omega)
      have hq := hcl i (str k) (by rw [List.getElem?_map, hk0]; rfl)
      have hkl : k.length ≤ 40 := H0.out.2 k (List.mem_of_getElem? hk0)
      have HK := Lib.hid hk0
      clear hcl hk0
      obtain ⟨e0, e1, e2⟩ := HI.out.2.1.hs.cells
      repeat' (first | go_at_call 48 | go_skip | go_guarded | go_step)
      refine (HI.out.2.1.drop hk k (by omega) hkl).mono ?_
      rintro e w1 ⟨g3, b3, rfl, f1, t1⟩
      have hgt := HI.out.2.2.drop k
      rw [← take_snoc HK.out] at hgt
      have H1 : Hid (Ext wr w1 ∧ T6V v13 w1 gh h g3 (rdrop Z k) ∧ GoneTo Y (rdrop Z k) (Ks.take (i + 1))) := Lib.hid ⟨f1, t1, hgt⟩
      clear f1 t1 hgt e0 e1 e2
      go_simp
      repeat' (first | go_skip | go_guarded | go_step)
      go_roundg (n - (i + 1))
      case measure => omega
      case rel => exact ⟨i + 1, g3, _, rfl, by go_num, by omega, Nat.le_refl _, Nat.le_trans (rdrop_length _ _) hZ9, Lib.hid ⟨HI.out.1.trans H1.out.1, H1.out.2.1, H1.out.2.2⟩⟩
    · obtain rfl : i = n := by omega
      have d1 : decide (i < i) = false := by simp
      have hgt := HI.out.2.2
      rw [HS.out.1, List.take_length] at hgt
      have HT := Lib.hid hgt
      clear hgt
      repeat' (first | go_skip | go_guarded | go_step)
      exact HQF.out g2 Z _ _ _ _ _ _ _ _ _ _ _ _ _ _ _ _ ⟨HI.out.1, HI.out.2.1, HT.out⟩

end Go.Proofs.Ytclcgelbcbnekaa
