/- Texts joined. -/
import Derived.Test.YtbmakajadelckaaM42
import Derived.Deep.LoopGhost
import Derived.Test.YtbmakajadelckaaM13
import Derived.Deep.QuietTactic
set_option linter.unusedVariables false
set_option linter.unusedSimpArgs false
/- Contract: gauge.Levels. -/
namespace Go.QS
open Go.RowKit Go.QS.Nk
/-- A row that another row's turn leaves. -/
def Asd (w : World) (A : Option Addr) (xs : List Value) (rb : Option Nat) : Prop := Seg w A xs ∧ ∀ b o, A = some ⟨b, o, none⟩ → b < w.heap.size ∧ rb ≠ some b
theorem Asd.grown {w w' : World} {A : Option Addr} {xs : List Value} {rb : Option Nat} (h : Asd w A xs rb) (hg : w.grownBy w' rb) : Seg w' A xs := by
  intro hne
  obtain ⟨b, o, hA, hc⟩ := h.1 hne
  exact ⟨b, o, hA, fun j u hu => hg.cell (hc j u hu) (fun e => (h.2 b o hA).2 e.symm)⟩
theorem Asd.alloc {w : World} {A : Option Addr} {xs : List Value} {rb : Option Nat} (h : Asd w A xs rb) (o : Obj) : Asd (w.alloc o) A xs rb :=
  ⟨h.1.alloc o, fun b o' e => ⟨by have := (h.2 b o' e).1; simp; omega, (h.2 b o' e).2⟩⟩
theorem Asd.ext {w w' : World} {A : Option Addr} {xs : List Value} {rb : Option Nat} (h : Asd w A xs rb) (f : Ext w w') : Asd w' A xs rb :=
  ⟨h.1.below f, fun b o' e => ⟨Nat.lt_of_lt_of_le (h.2 b o' e).1 f.size, (h.2 b o' e).2⟩⟩
theorem Asd.grow {w w' : World} {A : Option Addr} {xs : List Value} {rb rb' : Option Nat} (h : Asd w A xs rb) (hg : w.grownBy w' rb) (hn : rb' = rb ∨ rb' = some w.heap.size) : Asd w' A xs rb' := by
  refine ⟨h.grown hg, fun b o e => ⟨Nat.lt_of_lt_of_le (h.2 b o e).1 hg.size, ?_⟩⟩
  rcases hn with rfl | rfl
  · exact (h.2 b o e).2
  · intro e2
    have := (h.2 b o e).1
    cases e2
    omega
/-- Two rows apart. -/
def Apart (u v : Value) : Prop := ∀ b, u.ownBlock = some b → v.ownBlock ≠ some b
theorem Apart.grow {w : World} {u v v' : Value} (h : Apart u v) (hu : ∀ b, u.ownBlock = some b → b < w.heap.size) (hn : v'.ownBlock = v.ownBlock ∨ v'.ownBlock = some w.heap.size) : Apart u v' := by
  intro b hb
  rcases hn with e | e
  · rw [e]; exact h b hb
  · rw [e]; intro e2
    have := hu b hb
    cases e2
    omega
theorem flat_take_le {α β : Type} (f : α → List β) (l : List α) (i : Nat) : ((l.take i).flatMap f).length ≤ (l.flatMap f).length := by
  have h : l.flatMap f = (l.take i).flatMap f ++ (l.drop i).flatMap f := by rw [← List.flatMap_append, List.take_append_drop]
  rw [h, List.length_append]; omega
theorem own_apart {w w' : World} {base n k : Nat} {e : TypeId} {u : Value} {xs : List Value} {rb : Option Nat} (ho : w.ownsRow base e k u n xs) (hg : w.grownBy w' rb) (ha : ∀ b, u.ownBlock = some b → rb ≠ some b) : w'.ownsRow base e k u n xs :=
  (Only.of_grown hg).own ho fun b hb he => ha b hb he
end Go.QS
namespace Go.Proofs.Ytbmakajadelckaa
open Go.RowKit Go.QS Go.QS.Nk
set_option linter.unusedVariables false

theorem infoInt : ∃ i z, Try.prog.info? 3 = some i ∧ i.zero = some z ∧ i.size = 1 ∧ i.bytes = 8 ∧ z.cells.size = 1 := info_of (z := .int .i64 0) (by kernel_rfl) rfl
theorem lens_one (t : WT) (n : Nat) : ∀ u ∈ lens t n, u.oneCell' = true := by
  intro u hu
  obtain ⟨j, _, rfl⟩ := List.mem_map.1 hu
  rfl

set_option maxRecDepth 100000 in
set_option maxHeartbeats 1000000 in
theorem levels_c (w : World) (g : Nat) (t : WT) (h : RepN ND w g t) (hh : htT t ≤ 1000) (hc : cntT t ≤ 1000000) :
    Calls Try.prog 29 #[ptr g] w fun e w' => ∃ v, e = .returned v ∧ w'.ownsRow w.heap.size 3 1 v (htT t) (lens t (htT t)) ∧ Ext w w' := by
  have HN := Lib.hid h
  clear h
  go_enter Try.func29, Try.ntmps29
  repeat' (first
    | (at_builtin; refine wpList_app rfl (.tmp 10) (.tmp 12) _ rfl w.heap.size 30 1 8 Try.underlying102 infoNK (by decide) _ 0 [] rfl (World.ownsRow_nil _ _ _ _) _ 1 1 [ptr g] rfl rfl (Seg.new _ [_] _ (by simp)) (by intro u hu; simp at hu; rw [hu]; rfl) (by decide) (by decide) (by simp) ?_; intro v4 w4 r4 g4 n4)
    | (go_not_at_region 5; (first | go_skip | go_guarded | go_step)))
  have g4n : (w.alloc (Obj.cells #[ptr g] 30)).grownBy w4 none := g4
  have E4 : Ext w w4 := Ext.trans ((Ext.refl w).alloc (Nat.le_refl _) _) (ext_grown g4n)
  obtain ⟨A4, C4, rfl⟩ := own_slice r4
  have hlt4 := World.ownsRow.lt r4
  obtain ⟨_, _, e4, _, hn4, hc4, hs4⟩ : Sl w4 1 (.slice A4 1 C4) 1 (ptrs [g]) := Sl.of_own r4
  cases e4
  have hT := htT_pos t
  have H4 : Hid (Ext w w4 ∧ RepNs ND w [g] (lay 0 [t]) ∧ Asd w4 A4 (ptrs [g]) none) := Lib.hid ⟨E4, RepNs.one HN.out, hs4, fun b o e => ⟨(hlt4 b (by rw [e]; rfl)).2, by simp⟩⟩
  clear r4 g4 n4 g4n E4 hlt4 hs4
  go_loopg [3, 4, 5, 7] (htT t) (fun gk v3 v4 v5 v7 wr => ∃ (k m : Nat) (kb : List Nat) (A : Option Addr) (C : Nat), v4 = .slice A m C ∧ m ≤ C ∧ C ≤ maxLen ∧ m = kb.length ∧ k ≤ htT t ∧ htT t - k ≤ gk ∧ Hid (Ext w wr ∧ RepNs ND w kb (lay k [t]) ∧ wr.ownsRow w.heap.size 3 1 v3 k (lens t k) ∧ Asd wr A (ptrs kb) v3.ownBlock))
  case atStart => exact ⟨0, 1, [g], A4, C4, rfl, hn4, hc4, rfl, Nat.zero_le _, by omega, Lib.hid ⟨H4.out.1, H4.out.2.1, World.ownsRow_nil _ _ _ _, H4.out.2.2⟩⟩
  case round =>
    obtain ⟨k, m, kb, A, C, rfl, hmC, hC9, hm, hk, hgk, HR⟩ := hrel
    have hml : m = (lay k [t]).length := by rw [hm]; exact HR.out.2.1.1
    have hm9 : m ≤ 1000000 := by have := lay_le t k; omega
    have hlay := lay_some k [t]
    have hht : htL [t] = htT t := by simp [htL]
    rcases Nat.eq_zero_or_pos m with h0 | h0
    · have hke : k = htT t := by
        have h1 : lay k [t] = [] := List.eq_nil_of_length_eq_zero (by omega)
        have h2 : ¬ k < htL [t] := fun h => hlay.2 h h1
        omega
      subst h0
      repeat' (first | go_skip | go_guarded | go_step)
      go_ret
      exact ⟨_, rfl, by rw [← hke]; exact HR.out.2.2.1, HR.out.1⟩
    · have hke : k < htT t := by
        have h1 : lay k [t] ≠ [] := fun e => by rw [e] at hml; simp at hml; omega
        have := hlay.1 h1
        omega
      have d1 : decide (0 < m) = true := by simp [h0]
      have hi1 : (0 : Int) < (m : Int) := by omega
      have HM := Lib.hid (And.intro hm hml)
      clear hm hml hlay hht
      repeat' (first
        | (at_builtin; refine wpList_app rfl (.tmp 17) (.tmp 20) _ rfl w.heap.size 3 1 8 Try.underlying72 infoInt (by decide) _ k (lens t k) rfl (row_ext HR.out.2.2.1 ((Ext.refl _).alloc (Nat.le_refl _) _)) _ 1 1 [.int .i64 (m : Int)] rfl rfl (Seg.new _ [_] _ (by simp)) (by intro u hu; simp at hu; rw [hu]; rfl) (by unfold maxLen; omega) (by omega) (by have := HR.out.1.size; simp; omega) ?_; intro v3 w5 r5 g5 n5)
        | (go_not_at_region 7; (first | go_skip | go_guarded | go_step)))
      have H5 : Hid (Ext w w5 ∧ w5.ownsRow w.heap.size 3 1 v3 (k + 1) (lens t (k + 1)) ∧ Asd w5 A (ptrs kb) v3.ownBlock) := Lib.hid (by
        have hE := HR.out.1
        refine ⟨(hE.alloc hE.size _).grown g5 (by have := hE.size; simp; omega) fun k hk => (HR.out.2.2.1.lt k hk).1, ?_, (HR.out.2.2.2.alloc _).grow g5 n5⟩
        rw [lens_succ, ← HM.out.2]
        exact r5)
      clear r5 g5 n5
      obtain ⟨xs, hxs⟩ : ∃ xs, xs = lay k [t] := ⟨_, rfl⟩
      have HX : Hid (RepNs ND w kb xs ∧ m = kb.length ∧ (xs.flatMap WT.ks).length ≤ 1000000 ∧ lay (k + 1) [t] = xs.flatMap WT.ks) := Lib.hid (by
        rw [hxs]
        refine ⟨HR.out.2.1, HM.out.1, ?_, lay_succ' _ _⟩
        rw [← lay_succ']
        exact Nat.le_trans (lay_le t (k + 1)) hc)
      clear hxs
      repeat' (go_not_at_region 9; (first | go_skip | go_guarded | go_step))
      go_loopg [5, 7, 24] m (fun gk v5 v7 v24 wx => ∃ (i : Nat) (kbn : List Nat), v24 = .int .i64 i ∧ i ≤ m ∧ m - i ≤ gk ∧ Hid (Ext w wx ∧ RepNs ND w kbn ((xs.take i).flatMap WT.ks) ∧ wx.ownsRow w.heap.size 30 1 v5 kbn.length (ptrs kbn) ∧ wx.ownsRow w.heap.size 3 1 v3 (k + 1) (lens t (k + 1)) ∧ Asd wx A (ptrs kb) v5.ownBlock ∧ Apart v3 v5))
      case atStart => exact ⟨0, [], rfl, Nat.zero_le _, by omega, Lib.hid ⟨H5.out.1, RepNs.nil _ _, World.ownsRow_nil _ _ _ _, H5.out.2.1, ⟨H5.out.2.2.1, fun b o e => ⟨(H5.out.2.2.2 b o e).1, by simp [Value.ownBlock]⟩⟩, fun b hb => by simp [Value.ownBlock]⟩⟩
      case round =>
        obtain ⟨i, kbn, rfl, him, hgk2, HI⟩ := hrel
        rcases Nat.lt_or_ge i m with hlt | hge
        · have d2 : decide (i < m) = true := by simp [hlt]
          have hi2 : (i : Int) < (m : Int) := by omega
          obtain ⟨q, hq⟩ := get_of_lt kb (show i < kb.length by have := HX.out.2.1; omega)
          obtain ⟨u, hu⟩ := get_of_lt xs (show i < xs.length by have := HX.out.1.1; have := HX.out.2.1; omega)
          obtain ⟨dn, nn, ow, pv, kv, kbu, nd, _, _, _, hk32, hrep⟩ := (HX.out.1.2 i q u hq hu).open
          obtain ⟨b', o', rfl, hcl⟩ := HI.out.2.2.2.2.1.1 (fun e => by have := ptrs_get hq; rw [e] at this; simp at this)
          have hqc := hcl i _ (ptrs_get hq)
          have hkn : kbn.length ≤ 1000000 := by
            have h1 := HI.out.2.1.1
            have h2 := flat_take_le WT.ks xs i
            have h3 := HX.out.2.2.1
            omega
          have HT : Hid ((xs.take (i + 1)).flatMap WT.ks = (xs.take i).flatMap WT.ks ++ u.ks) := Lib.hid (by rw [take_snoc hu, List.flatMap_append]; simp)
          have HND := Lib.hid (And.intro nd hrep)
          clear hcl hq hu nd hrep
          repeat' (first | go_at_call 64 | go_skip | go_guarded | go_step)
          refine (nkids_c _ q kv kbu (HND.out.1.ext HI.out.1).node.cells.2.2.2.1 (HND.out.1.ext HI.out.1).kids (by omega)).mono ?_
          rintro e w6 ⟨v6, rfl, r6, f6⟩
          obtain ⟨A6, C6, hA6, _, hn6, hc6, hs6⟩ : Sl w6 1 v6 kbu.length (ptrs kbu) := Sl.of_own r6
          subst hA6
          have H6 : Hid (Ext w w6 ∧ w6.ownsRow w.heap.size 30 1 u5 kbn.length (ptrs kbn) ∧ w6.ownsRow w.heap.size 3 1 v3 (k + 1) (lens t (k + 1)) ∧ Asd w6 (some ⟨b', o', none⟩) (ptrs kb) u5.ownBlock ∧ Seg w6 A6 (ptrs kbu)) := Lib.hid ⟨HI.out.1.trans f6, row_ext HI.out.2.2.1 f6, row_ext HI.out.2.2.2.1 f6, HI.out.2.2.2.2.1.ext f6, hs6⟩
          clear r6 f6 hs6 hqc
          go_simp
          repeat' (first
            | (at_builtin; refine wpList_app rfl (.tmp 28) (.tmp 30) _ rfl w.heap.size 30 1 8 Try.underlying102 infoNK (by decide) _ kbn.length (ptrs kbn) rfl H6.out.2.1 _ _ _ (ptrs kbu) rfl (by rw [ptrs_length, Nat.mul_one]) H6.out.2.2.2.2 (ptrs_one _) (by unfold maxLen; omega) (by omega) H6.out.1.size ?_; intro v5' w7 r7 g7 n7)
            | go_skip | go_guarded | go_step)
          go_roundg (m - (i + 1))
          case measure => omega
          case rel =>
            obtain ⟨hE6, _, ho6, ha6, _⟩ := H6.out
            refine ⟨i + 1, kbn ++ kbu, by go_num, by omega, Nat.le_refl _, Lib.hid ⟨?_, ?_, ?_, ?_, ?_, ?_⟩⟩
            · exact hE6.grown g7 hE6.size fun b hb => (H6.out.2.1.lt b hb).1
            · rw [HT.out]; exact HI.out.2.1.append HND.out.2
            · rw [List.length_append, ptrs_append]; exact r7
            · exact own_apart ho6 g7 HI.out.2.2.2.2.2
            · exact ha6.grow g7 n7
            · exact HI.out.2.2.2.2.2.grow (w := w6) (fun b hb => (World.ownsRow.lt ho6 b hb).2) n7
        · obtain rfl : i = m := by omega
          have d2 : decide (i < i) = false := by simp
          have htk : xs.take i = xs := List.take_of_length_le (by have := HX.out.1.1; have := HX.out.2.1; omega)
          have HI2 := HI.out
          rw [htk, ← HX.out.2.2.2] at HI2
          obtain ⟨A5, C5, rfl⟩ := own_slice HI2.2.2.1
          obtain ⟨_, _, e5, _, hn5, hc5, hs5⟩ : Sl _ 1 (.slice A5 kbn.length C5) kbn.length (ptrs kbn) := Sl.of_own HI2.2.2.1
          cases e5
          have hlt5 := World.ownsRow.lt HI2.2.2.1
          have HJ := Lib.hid (And.intro HI2 (And.intro hs5 hlt5))
          obtain ⟨m5, hm5⟩ : ∃ m5, m5 = kbn.length := ⟨_, rfl⟩
          rw [← hm5] at hn5 ⊢
          have Hm5 := Lib.hid hm5
          clear HI2 hs5 hlt5 hm5 htk
          repeat' (first | go_skip | go_guarded | go_step)
          go_roundg (htT t - (k + 1))
          case measure => omega
          case rel =>
            refine ⟨k + 1, m5, kbn, A5, C5, rfl, hn5, hc5, Hm5.out, hke, Nat.le_refl _, Lib.hid ⟨HJ.out.1.1, HJ.out.1.2.1, HJ.out.1.2.2.2.1, HJ.out.2.1, fun b o e => ⟨(HJ.out.2.2 b (by rw [e]; rfl)).2, fun e3 => ?_⟩⟩⟩
            exact HJ.out.1.2.2.2.2.2 b e3 (by rw [e]; rfl)
end Go.Proofs.Ytbmakajadelckaa
/- GaugeBounds: its condition: a law of its own. -/
namespace Go.Proofs.Ytbmakajadelckaa
open Go.RowKit Go.QS Go.QS.Nk
set_option linter.unusedVariables false

set_option maxRecDepth 100000 in
set_option maxHeartbeats 2000000 in
theorem bounds_12 (wr : World) (gs b o D C5 N K n M C2 : Nat) (A2 : Option Addr) (h1 : 1 ≤ D) (h14 : D ≤ 14) (hDC : D ≤ C5) (hC9 : C5 ≤ 9223372036854775807) (hM : M ≠ 1) (hKD : 0 < K ↔ D = 14) (hN9 : N ≤ 1000) (hK9 : K ≤ 1000) (hM9 : M ≤ 1000) (hn9 : n ≤ 1000)
    (hs : wr.heap[gs]? = some (.cells #[.int .i64 (N : Int), .int .i64 (K : Int), .int .i64 (n : Int), .int .i64 (D : Int), .int .i64 (M : Int)] SGT (0, 0))) (q0 : wr.cell? ⟨b, o, none⟩ = some (.int .i64 1)) (q13 : D = 14 → wr.cell? ⟨b, o + 13, none⟩ = some (.int .i64 (K : Int))) (c : Code) (Q : Exit → Act → World → Prop) (t0 t1 t2 t3 t4 t5 t6 t7 t9 t10 t14 t15 t16 t17 t18 t19 t20 t21 t22 t23 t24 t25 t26 t27 t28 t29 t30 t31 t32 t33 t34 t35 t36 t37 t38 t39 t40 t41 t42 t43 t44 t45 t46 t47 t48 t49 t50 t51 t52 t53 t54 t55 t56 t57 t58 t59 t60 t61 t62 t63 t64 t65 t66 t67 t68 t69 t70 t71 t72 t73 t74 t75 t76 t77 t78 t79 t80 t81 t82 t83 t84 t85 t86 t87 t88 t89 t90 t91 t92 t93 t94 t95 t96 t97 t98 t99 t100 t101 t102 t103 t104 t105 t106 t107 t108 t109 t110 t111 t112 t113 t114 t115 t116 t117 t118 t119 t120 t121 t122 t123 : Value)
    (hc : (Try.f7.body.bind (findR 12)) = some c)
    (hQ : ∀ (u49 u50 u51 u52 u53 u54 u55 u56 u57 u58 u59 u60 u61 u62 u63 u64 u65 u66 u67 u68 u69 u70 u71 u72 u73 u74 u75 u76 u77 u78 u79 u80 u81 u82 u83 u84 u85 u86 u87 u88 u89 u90 u91 u92 u93 u94 u95 u96 u97 u98 u99 u100 u101 u102 u103 : Value) (wx : World), (∃ m, wx = wr.drewN m) → Q .normal { tmps := List.toArray (t0 :: t1 :: t2 :: t3 :: t4 :: t5 :: t6 :: t7 :: (.slice A2 n C2) :: t9 :: t10 :: (ptr gs) :: (.slice (some ⟨b, o, none⟩) D C5) :: (.int .i64 (N : Int)) :: t14 :: t15 :: t16 :: t17 :: t18 :: t19 :: t20 :: t21 :: t22 :: t23 :: t24 :: t25 :: t26 :: t27 :: t28 :: t29 :: t30 :: t31 :: t32 :: t33 :: t34 :: t35 :: t36 :: t37 :: t38 :: t39 :: t40 :: t41 :: t42 :: t43 :: t44 :: t45 :: t46 :: t47 :: t48 :: u49 :: u50 :: u51 :: u52 :: u53 :: u54 :: u55 :: u56 :: u57 :: u58 :: u59 :: u60 :: u61 :: u62 :: u63 :: u64 :: u65 :: u66 :: u67 :: u68 :: u69 :: u70 :: u71 :: u72 :: u73 :: u74 :: u75 :: u76 :: u77 :: u78 :: u79 :: u80 :: u81 :: u82 :: u83 :: u84 :: u85 :: u86 :: u87 :: u88 :: u89 :: u90 :: u91 :: u92 :: u93 :: u94 :: u95 :: u96 :: u97 :: u98 :: u99 :: u100 :: u101 :: u102 :: u103 :: (.bool false) :: t105 :: t106 :: t107 :: t108 :: t109 :: t110 :: t111 :: t112 :: t113 :: t114 :: t115 :: t116 :: t117 :: t118 :: t119 :: t120 :: t121 :: t122 :: t123 :: []), defers := [] } wx) :
    c.wp Try.prog Q { tmps := List.toArray (t0 :: t1 :: t2 :: t3 :: t4 :: t5 :: t6 :: t7 :: (.slice A2 n C2) :: t9 :: t10 :: (ptr gs) :: (.slice (some ⟨b, o, none⟩) D C5) :: (.int .i64 (N : Int)) :: t14 :: t15 :: t16 :: t17 :: t18 :: t19 :: t20 :: t21 :: t22 :: t23 :: t24 :: t25 :: t26 :: t27 :: t28 :: t29 :: t30 :: t31 :: t32 :: t33 :: t34 :: t35 :: t36 :: t37 :: t38 :: t39 :: t40 :: t41 :: t42 :: t43 :: t44 :: t45 :: t46 :: t47 :: t48 :: t49 :: t50 :: t51 :: t52 :: t53 :: t54 :: t55 :: t56 :: t57 :: t58 :: t59 :: t60 :: t61 :: t62 :: t63 :: t64 :: t65 :: t66 :: t67 :: t68 :: t69 :: t70 :: t71 :: t72 :: t73 :: t74 :: t75 :: t76 :: t77 :: t78 :: t79 :: t80 :: t81 :: t82 :: t83 :: t84 :: t85 :: t86 :: t87 :: t88 :: t89 :: t90 :: t91 :: t92 :: t93 :: t94 :: t95 :: t96 :: t97 :: t98 :: t99 :: t100 :: t101 :: t102 :: t103 :: t104 :: t105 :: t106 :: t107 :: t108 :: t109 :: t110 :: t111 :: t112 :: t113 :: t114 :: t115 :: t116 :: t117 :: t118 :: t119 :: t120 :: t121 :: t122 :: t123 :: []), defers := [] } wr := by
  change some _ = some c at hc
  cases hc
  have HQF := Lib.hid hQ
  clear hQ
  have s0 : wr.cell? ⟨gs, 0, none⟩ = some (.int .i64 (N : Int)) := by simp [World.cell?, hs]
  have s1 : wr.cell? ⟨gs, 1, none⟩ = some (.int .i64 (K : Int)) := by simp [World.cell?, hs]
  have s2 : wr.cell? ⟨gs, 2, none⟩ = some (.int .i64 (n : Int)) := by simp [World.cell?, hs]
  have s3 : wr.cell? ⟨gs, 3, none⟩ = some (.int .i64 (D : Int)) := by simp [World.cell?, hs]
  have s4 : wr.cell? ⟨gs, 4, none⟩ = some (.int .i64 (M : Int)) := by simp [World.cell?, hs]
  have m1 : ((M : Int) == 1) = false := by simp; omega
  have d0 : (0 : Int) < (D : Int) := by omega
  have d1 : ¬ ((14 : Int) < (D : Int)) := by omega
  by_cases hK : 0 < K
  · have hD : D = 14 := hKD.1 hK
    have q := q13 hD
    have k0 : decide (0 < K) = true := by simp [hK]
    subst hD
    clear hs hM hKD q13
    refine Code.wp_mono (Q := fun e a w => match e with | .normal => Q .normal a w | _ => False) (fun e a w h => by cases e <;> first | exact h | exact h.elim) ?_
    go_quiet (fail)
    exact HQF.out _ _ _ _ _ _ _ _ _ _ _ _ _ _ _ _ _ _ _ _ _ _ _ _ _ _ _ _ _ _ _ _ _ _ _ _ _ _ _ _ _ _ _ _ _ _ _ _ _ _ _ _ _ _ _ _ ⟨_, rfl⟩
  · have hK0 : K = 0 := by omega
    have hD : D ≠ 14 := fun e => hK (hKD.2 e)
    have e14 : ((D : Int) == 14) = false := by simp; omega
    subst hK0
    clear hs hM hKD q13 hK hD
    refine Code.wp_mono (Q := fun e a w => match e with | .normal => Q .normal a w | _ => False) (fun e a w h => by cases e <;> first | exact h | exact h.elim) ?_
    go_quiet (fail)
    exact HQF.out _ _ _ _ _ _ _ _ _ _ _ _ _ _ _ _ _ _ _ _ _ _ _ _ _ _ _ _ _ _ _ _ _ _ _ _ _ _ _ _ _ _ _ _ _ _ _ _ _ _ _ _ _ _ _ _ ⟨_, rfl⟩

end Go.Proofs.Ytbmakajadelckaa
