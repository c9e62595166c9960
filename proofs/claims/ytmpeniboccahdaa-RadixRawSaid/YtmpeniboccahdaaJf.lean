/- RadixRaw: a node and the document's tree are built over the last ones: a law of its own. -/
import Derived.Test.YtmpeniboccahdaaJe
import Derived.Test.YtmpeniboccahdaaWk
import Derived.Deep.RegionHeld3
import Derived.Deep.DeepCutAuto
namespace Go.Proofs.Ytmpeniboccahdaa
open Go.RowKit Go.QS
set_option linter.unusedVariables false

theorem Seg.drew {w : World} {A : Option Addr} {xs : List Value} (h : Seg w A xs) : Seg w.drew A xs := h
theorem one_seg (w : World) (u : Value) (e : TypeId) {g : Nat} (hg : g = w.heap.size) : Seg (w.alloc (.cells #[u] e)) (some ⟨g, 0, none⟩) [u] := Seg.new w [u] e hg
theorem step_appG {P : Program} {W w : World} {ops : Array Oper} {o : Oper} {a : Act} {K : Act → World → Prop} {Q : Exit → Act → World → Prop} {E : Prop} (hgd : o.guard = none) (s x : Operand) (t : TypeId)
    (ho : o.op = .call { callee := .builtin .append, args := #[s, x], argTypes := #[t, t] })
    (e : TypeId) (size bytes : Nat) (ht : P.underlying t = some (.slice e)) (hi : ∃ i z, P.info? e = some i ∧ i.zero = some z ∧ i.size = size ∧ i.bytes = bytes ∧ z.cells.size = size) (hsz : 0 < size)
    (A0 : Option Addr) (n : Nat) (xs : List Value) (hs : a.eval s = .slice A0 n n) (hxl : xs.length = n * size) (h0 : Seg w A0 xs) (hb : Below W.heap.size W w)
    (A : Option Addr) (m c : Nat) (news : List Value) (hx : a.eval x = .slice A m c) (hm : 0 < m) (hl : news.length = m * size) (hr : Seg w A news) (h1 : ∀ u ∈ news, u.oneCell' = true)
    (h63 : n + m ≤ maxLen) (hbytes : (n + m) * bytes ≤ 140737488355328)
    (h : ∀ v' w', w'.ownsRow W.heap.size e size v' (n + m) (xs ++ news) → Below W.heap.size W w' → K (a.put o.dst v') w') :
    if Region.wanted o (yielded ops a.tmps) = true then Oper.wp P o a w K Q else E := by
  have hw : Region.wanted o (yielded ops a.tmps) = true := by simp [Region.wanted, hgd]
  rw [if_pos hw]
  obtain ⟨i, z, h2, h3, h4, h5, h6⟩ := hi
  have hne : news ≠ [] := by
    intro e; rw [e] at hl; have := Nat.mul_pos hm hsz; simp only [List.length_nil] at hl; omega
  obtain ⟨b, o', rfl, hc⟩ := hr hne
  have hc' : ∀ j u, news[j]? = some u → w.cell? ((⟨b, o', none⟩ : Addr).add j) = some u := by
    intro j u hu; rw [Addr.add_lit]; exact hc j u hu
  have hrun : ∃ v' w', (Builtin.append_ #[t, t] o.type #[.slice A0 n n, .slice (some ⟨b, o', none⟩) m c]).run P w = .ok v' w' ∧ w'.ownsRow w.heap.size e size v' (n + m) (xs ++ news) ∧ w.grownBy w' none := by
    cases A0 with
    | some b0 =>
      exact run_append_arg_grows (P := P) w t o.type e i z size bytes ht h2 h3 h4 h5 h6 hsz b0 n n xs hxl (by
        intro j u hu
        obtain ⟨b1, o1, h', hc1⟩ := h0 (fun e => by rw [e] at hu; simp at hu)
        cases h'
        rw [Addr.add_lit]
        exact hc1 j u hu) ⟨b, o', none⟩ m c news hl hc' (by omega) h63 hbytes
    | none =>
      have hn0 : n = 0 := by
        rcases Nat.eq_zero_or_pos n with h | h
        · exact h
        · have : xs ≠ [] := by
            intro e; rw [e] at hxl; have := Nat.mul_pos h hsz; simp only [List.length_nil] at hxl; omega
          obtain ⟨b, o, h', _⟩ := h0 this
          cases h'
      subst hn0
      obtain rfl : xs = [] := List.eq_nil_of_length_eq_zero (by simpa using hxl)
      obtain ⟨v', w', r0, r1, r2, _⟩ := run_append_own (P := P) w w.heap.size t o.type e i z size bytes ht h2 h3 h4 h5 h6 hsz (.slice none 0 0) 0 [] (World.ownsRow_nil w _ e size) ⟨b, o', none⟩ m c news hl hc' h1 h63 hbytes (Nat.le_refl _)
      exact ⟨v', w', r0, r1, r2⟩
  obtain ⟨v', w', hrun, r1, r2⟩ := hrun
  unfold Oper.wp execOp
  simp only [ho, resolve, invoke, builtin, Sem.run_bind, Sem.run_pure, Result.andThen_ok, List.map_toArray, List.map_cons, List.map_nil, hs, hx, hrun]
  exact h v' w' (own_base r1 hb.size) (hb.grown r2 hb.size fun k hk => by cases hk)
theorem Ext.cell' {w w' : World} {a : Addr} {u : Value} (f : Ext w w') (h : w.cell? a = some u) : w'.cell? a = some u := (f.cell (World.block_lt_of_cell? w _ h)).trans h

set_option maxRecDepth 100000 in
set_option maxHeartbeats 2000000 in
theorem raw_12 (W wr : World) (g6 m C3 C4 : Nat) (A3 A4 : Option Addr) (has : Bool) (u : UInt8) (lab val : List UInt8) (gs qs : List Nat) (ts : List RT) (H : Hid (Raws W wr (.slice A3 m C3) (.slice A4 m C4) gs qs ts ∧ wr.cell? ⟨g6, 2, none⟩ = some (.bool has) ∧ wr.cell? ⟨g6, 4, none⟩ = some (.int .u8 u.toNat))) (hm : m = gs.length) (hm9 : m ≤ 30) (hl : lab.length ≤ 40 ∧ val.length ≤ 40) (c d : Code) (K : Act → World → Prop) (Q : Exit → Act → World → Prop) (t0 t1 t2 t5 t9 t10 t11 t12 t13 t14 t15 t16 t17 t18 t19 t20 t21 t22 t23 t24 t25 t26 t27 t28 t29 t30 t31 t32 t33 t34 t35 t36 t37 t38 t39 t40 t41 t42 t43 t44 t45 t46 t47 t48 t49 t50 t51 t52 t53 t54 t55 t56 t57 t58 t59 t60 t61 t62 t63 t64 t65 t66 t67 t68 t69 t70 t71 t72 t73 t74 t75 t76 t77 t78 t79 t80 t81 t82 t83 t84 t85 t86 t87 t88 t89 t90 t91 t92 t93 t94 t95 t96 t97 t98 t99 t100 t101 t102 t103 t104 t105 t106 t107 t108 t109 t110 t111 t112 t113 t114 t115 t116 t117 t118 t119 t120 t121 t122 t123 t124 t125 t126 t127 t128 t129 : Value)
    (hc : (Try.f4.body.bind (findR 12)) = some c) (hd : (Try.f4.body.bind (findT 12)) = some d)
    (hK : ∀ a w, d.wp Try.prog Q a w → K a w)
    (hQ : ∀ (g q : Nat) (x3 x4 : Value) (u9 u10 u11 u12 u42 u43 u44 u45 u46 u47 u48 u49 u50 u51 u52 u53 u54 u55 u56 u57 u58 u59 u60 u61 u62 u63 u64 u65 u66 u67 u68 u69 u70 u71 u72 u73 u74 u75 u76 u77 u78 u79 u80 u81 u82 u83 u84 u85 u86 u87 u88 u89 u90 u91 u92 : Value) (wx : World), Raws W wx x3 x4 (gs.take (m - u.toNat % (m + 1)) ++ [g]) (qs.take (m - u.toNat % (m + 1)) ++ [q]) (ts.take (m - u.toNat % (m + 1)) ++ [RT.node lab (if has then some val else none) (ts.drop (m - u.toNat % (m + 1)))]) → Q .normal { tmps := List.toArray (t0 :: t1 :: t2 :: x3 :: x4 :: t5 :: (ptr g6) :: (str lab) :: (str val) :: u9 :: u10 :: u11 :: u12 :: t13 :: t14 :: t15 :: t16 :: t17 :: t18 :: t19 :: t20 :: t21 :: t22 :: t23 :: t24 :: t25 :: t26 :: t27 :: t28 :: t29 :: t30 :: t31 :: t32 :: t33 :: t34 :: t35 :: t36 :: t37 :: t38 :: t39 :: t40 :: t41 :: u42 :: u43 :: u44 :: u45 :: u46 :: u47 :: u48 :: u49 :: u50 :: u51 :: u52 :: u53 :: u54 :: u55 :: u56 :: u57 :: u58 :: u59 :: u60 :: u61 :: u62 :: u63 :: u64 :: u65 :: u66 :: u67 :: u68 :: u69 :: u70 :: u71 :: u72 :: u73 :: u74 :: u75 :: u76 :: u77 :: u78 :: u79 :: u80 :: u81 :: u82 :: u83 :: u84 :: u85 :: u86 :: u87 :: u88 :: u89 :: u90 :: u91 :: u92 :: t93 :: t94 :: t95 :: t96 :: t97 :: t98 :: t99 :: t100 :: t101 :: t102 :: t103 :: t104 :: t105 :: t106 :: t107 :: t108 :: t109 :: t110 :: t111 :: t112 :: t113 :: t114 :: t115 :: t116 :: t117 :: t118 :: t119 :: t120 :: t121 :: t122 :: t123 :: t124 :: t125 :: t126 :: t127 :: t128 :: t129 :: []), defers := [] } wx) :
    c.wp Try.prog (Exit.then K Q) { tmps := List.toArray (t0 :: t1 :: t2 :: (.slice A3 m C3) :: (.slice A4 m C4) :: t5 :: (ptr g6) :: (str lab) :: (str val) :: t9 :: t10 :: t11 :: t12 :: t13 :: t14 :: t15 :: t16 :: t17 :: t18 :: t19 :: t20 :: t21 :: t22 :: t23 :: t24 :: t25 :: t26 :: t27 :: t28 :: t29 :: t30 :: t31 :: t32 :: t33 :: t34 :: t35 :: t36 :: t37 :: t38 :: t39 :: t40 :: t41 :: t42 :: t43 :: t44 :: t45 :: t46 :: t47 :: t48 :: t49 :: t50 :: t51 :: t52 :: t53 :: t54 :: t55 :: t56 :: t57 :: t58 :: t59 :: t60 :: t61 :: t62 :: t63 :: t64 :: t65 :: t66 :: t67 :: t68 :: t69 :: t70 :: t71 :: t72 :: t73 :: t74 :: t75 :: t76 :: t77 :: t78 :: t79 :: t80 :: t81 :: t82 :: t83 :: t84 :: t85 :: t86 :: t87 :: t88 :: t89 :: t90 :: t91 :: t92 :: t93 :: t94 :: t95 :: t96 :: t97 :: t98 :: t99 :: t100 :: t101 :: t102 :: t103 :: t104 :: t105 :: t106 :: t107 :: t108 :: t109 :: t110 :: t111 :: t112 :: t113 :: t114 :: t115 :: t116 :: t117 :: t118 :: t119 :: t120 :: t121 :: t122 :: t123 :: t124 :: t125 :: t126 :: t127 :: t128 :: t129 :: []), defers := [] } wr := by
  change some _ = some c at hc
  cases hc
  change some _ = some d at hd
  cases hd
  have HQF := Lib.hid hQ
  clear hQ
  have hR := H.out.1
  have hC3 : m ≤ C3 ∧ C3 ≤ maxLen := by
    obtain ⟨_, _, e, _, h1, h2, _⟩ := hR.nodes
    cases e; exact ⟨by omega, h2⟩
  have hC4 : m ≤ C4 ∧ C4 ≤ maxLen := by
    obtain ⟨_, _, e, _, h1, h2, _⟩ := hR.trees
    cases e; exact ⟨by have := hR.rep.1; have := hR.doc.1; omega, h2⟩
  have hg : Seg wr A3 (ptrs gs) := by
    obtain ⟨_, _, e, _, _, _, h⟩ := hR.nodes
    cases e; exact h
  have hq : Seg wr A4 (ptrs qs) := by
    obtain ⟨_, _, e, _, _, _, h⟩ := hR.trees
    cases e; exact h
  have hql : qs.length = m := by have := hR.rep.1; have := hR.doc.1; omega
  obtain ⟨k, hk⟩ : ∃ k, k = m - u.toNat % (m + 1) := ⟨_, rfl⟩
  have hkm : k ≤ m := by omega
  obtain ⟨A5, hrun5, hseg5⟩ := run_fromB Try.underlying42 infoK A3 hkm hC3.1
  obtain ⟨A6, hrun6, hseg6⟩ := run_fromB Try.underlying43 infoD A4 hkm hC4.1
  obtain ⟨A7, hrun7, hseg7⟩ := run_toB Try.underlying42 infoK A3 hkm hC3.1
  obtain ⟨A8, hrun8, hseg8⟩ := run_toB Try.underlying43 infoD A4 hkm hC4.1
  have S5 := hseg5 wr (ptrs gs) (by rw [ptrs_length, hm, Nat.mul_one]) hg
  have S6 := hseg6 wr (ptrs qs) (by rw [ptrs_length, hql, Nat.mul_one]) hq
  have S7 := hseg7 wr (ptrs gs) (by rw [ptrs_length, hm, Nat.mul_one]) hg
  have S8 := hseg8 wr (ptrs qs) (by rw [ptrs_length, hql, Nat.mul_one]) hq
  rw [Nat.mul_one] at S5 S6 S7 S8
  have HS : Hid (Seg wr A5 (ptrs (gs.drop k)) ∧ Seg wr A6 (ptrs (qs.drop k)) ∧ Seg wr A7 (ptrs (gs.take k)) ∧ Seg wr A8 (ptrs (qs.take k))) := Lib.hid ⟨by simpa [ptrs] using S5, by simpa [ptrs] using S6, by simpa [ptrs] using S7, by simpa [ptrs] using S8⟩
  have HM : Hid (m = gs.length ∧ qs.length = m ∧ k = m - u.toNat % (m + 1)) := Lib.hid ⟨hm, hql, hk⟩
  have hgl : (gs.drop k).length = m - k := by simp [hm]
  have hqdl : (qs.drop k).length = m - k := by simp [hql]
  have HL : Hid (_ ∧ _) := Lib.hid ⟨hgl, hqdl⟩
  obtain ⟨q2, q4⟩ := H.out.2
  have hc9 := u.toNat_lt
  have b0 : (0 : Int) ≤ (k : Int) := by omega
  have b1 : (k : Int) ≤ (m : Int) := by omega
  have b2 : (k : Int) ≤ (C3 : Int) := by omega
  have b3 : (k : Int) ≤ (C4 : Int) := by omega
  obtain ⟨hC31, hC32⟩ := hC3
  obtain ⟨hC41, hC42⟩ := hC4
  unfold maxLen at hC32 hC42
  clear hg hq hql hk hm hgl hqdl hseg5 hseg6 hseg7 hseg8 S5 S6 S7 S8 hR
  repeat' (go_not_at_region 13; (first | go_skip | go_guarded | go_step))
  have hkv : wrap64 ((m : Int) - (u.toNat : Int) % ((m : Int) + 1)) = (k : Int) := by
    have h3 := HM.out.2.2
    have h1 : (u.toNat : Int) % ((m : Int) + 1) = ((u.toNat % (m + 1) : Nat) : Int) := by simp
    have h2 : u.toNat % (m + 1) ≤ m := Nat.le_of_lt_succ (Nat.mod_lt _ (Nat.succ_pos _))
    rw [h1]
    unfold wrap64
    omega
  rw [hkv]
  clear hkv
  repeat' (first | (at_builtin; refine wpList_appE (W := wr) rfl (.tmp 52) (.tmp 55) _ rfl NP 1 8 Try.underlying42 infoK (by decide) _ 1 [.pointer none] rfl (own_lit [.pointer none] 1 (by decide) rfl (Nat.le_refl _)) ((Ext.refl wr).alloc (Nat.le_refl _) _) A5 (m - k) (C3 - k) (ptrs (gs.drop k)) rfl (by rw [ptrs_length, HL.out.1, Nat.mul_one]) (HS.out.1.alloc _) (ptrs_one _) (by unfold maxLen; omega) (by omega) ?_; intro v10 w10 hown hb) | (go_not_at_region 14; (first | go_skip | go_guarded | go_step)))
  obtain ⟨A10, C10, rfl⟩ := own_slice' hown
  have H10 : Hid (Ext wr w10 ∧ Sl w10 1 (.slice A10 (1 + (m - k)) C10) ((gs.drop k).length + 1) (.pointer none :: ptrs (gs.drop k)) ∧ w10.cell? ⟨g6, 2, none⟩ = some (.bool has) ∧ Seg w10 A6 (ptrs (qs.drop k))) := Lib.hid ⟨hb, by rw [HL.out.1, Nat.add_comm]; rw [Nat.add_comm] at hown; exact Sl.of_own hown, (hb.cell (World.block_lt_of_cell? _ _ q2)).trans q2, HS.out.2.1.below hb⟩
  have c2 := H10.out.2.2.1
  clear hown hb q2 q4
  go_region_held3 (fun w' => w'.cell? ⟨g6, 2, none⟩ = some (.bool has))
    (exact (Ext.cell' (by repeat' (first | exact k11.out | exact Ext.refl _ | apply ext_alloc | apply ext_drew | exact below_drewN (Ext.refl _) _)) c2))
    ((refine step_appE (W := w10) (by rfl) (.tmp 60) (.tmp 63) _ (by rfl) DP 1 8 Try.underlying43 infoD (by decide) _ 0 [] (by rfl) (by first | exact own_lit [] 0 (by decide) rfl (Nat.le_refl _) | exact row_ext (own_lit [] 0 (by decide) rfl (Nat.le_refl _)) (by repeat' (first | exact Ext.refl _ | apply ext_alloc | apply ext_drew | exact below_drewN (Ext.refl _) _))) (by repeat' (first | exact Ext.refl _ | apply ext_alloc | apply ext_drew | exact below_drewN (Ext.refl _) _)) A6 (m - k) (C4 - k) (ptrs (qs.drop k)) (by rfl) (by rw [ptrs_length, HL.out.2, Nat.mul_one]) (H10.out.2.2.2.below (by repeat' (first | exact Ext.refl _ | apply ext_alloc | apply ext_drew | exact below_drewN (Ext.refl _) _))) (ptrs_one _) (by unfold maxLen; omega) (by omega) ?_; intro v11 w11 hown11 hb11 _; obtain ⟨A11, C11, rfl⟩ := own_slice' hown11; have k11 : Hid (Ext w10 w11) := Lib.hid hb11; have O11 := Lib.hid hown11; clear hb11 hown11))
  obtain ⟨q, hq⟩ : ∃ q, q = w11.heap.size := ⟨_, rfl⟩
  obtain ⟨w12, hw12⟩ : ∃ x, x = w11.alloc (.cells #[str lab, .bool has, str [], .slice A11 (m - k) C11] DT) := ⟨_, rfl⟩
  have hn12 : TreeAt DT w12 q lab (if has then some [] else none) (.slice A11 (m - k) C11) := by
    have := TreeAt.new (lab := lab) (val := if has then some [] else none) (kv := .slice A11 (m - k) C11) DT w11 hq
    rw [hw12]
    cases has <;> exact this
  have hw12' : w11.alloc (.cells #[str lab, .bool has, .string ⟨#[]⟩, .slice A11 (m - k) C11] DT) = w12 := hw12.symm
  rw [hw12', ← hq]
  have hE12 : Ext w11 w12 := by rw [hw12]; exact (Ext.refl _).alloc (Nat.le_refl _) _
  have O12 : Hid (w12.ownsRow w10.heap.size DP 1 (.slice A11 (m - k) C11) (m - k) (ptrs (qs.drop k)) ∧ q = w11.heap.size) := Lib.hid ⟨by have := row_ext O11.out hE12; rw [Nat.zero_add, List.nil_append] at this; exact this, hq⟩
  have c2b := Ext.cell' (k11.out.trans hE12) c2
  have c2w := H10.out.2.2.1
  have H12 : Hid (TreeAt DT w12 q lab (if has then some [] else none) (.slice A11 (m - k) C11) ∧ Ext w10 w12) := Lib.hid ⟨hn12, k11.out.trans hE12⟩
  have hlt12 : w10.heap.size ≤ q := by have := k11.out.size; omega
  clear hw12 hw12' hn12 hE12 hq c2
  repeat' (go_not_at_if 68; (first | go_skip | go_guarded | go_step))
  go_cut [11] from 67 to 72 (fun vx wx => Hid (vx = ptr q ∧ TreeAt DT wx q lab (if has then some val else none) (.slice A11 (m - k) C11) ∧ Ext w10 wx ∧ wx.ownsRow w10.heap.size DP 1 (.slice A11 (m - k) C11) (m - k) (ptrs (qs.drop k))))
  case first =>
    obtain ⟨h0, h1⟩ := H12.out
    cases has with
    | false =>
      repeat' (first | go_skip | go_guarded | go_step)
      go_meet
      exact Lib.hid ⟨rfl, h0, h1, O12.out.1⟩
    | true =>
      have h0' : TreeAt DT w12 q lab (some []) (.slice A11 (m - k) C11) := h0
      obtain ⟨x0, x1, x2, x3⟩ := h0'.cells
      have cf := h0'.free 2
      clear h0
      repeat' (first | go_skip | go_guarded | go_step)
      go_meet
      exact Lib.hid ⟨rfl, heap_set h0' 2 _, h1.setCell (p := ⟨q, 2, none⟩) hlt12 _, own_keep O12.out.1 (fun b hb => Below.heap_setCell w12 ⟨q, 2, none⟩ _ b (by
        intro e
        have h1 := (O11.out.lt b (by simpa [Value.ownBlock] using hb)).2
        have h2 := O12.out.2
        simp only at e
        omega))⟩
  case rest =>
  obtain ⟨hv11, hT, hE, hO⟩ := hcut.out
  subst hv11
  have H13 : Hid (RepS DT DP (fun _ => True) wc q (RT.node lab (if has then some val else none) (ts.drop k)) ∧ Ext wr wc) := Lib.hid ⟨RepS.mk (t := RT.node lab (if has then some val else none) (ts.drop k)) hT trivial (own_base' (by rw [HL.out.2]; exact hO) (Nat.zero_le _)) (fun _ _ => trivial) (by have := H.out.1.rep.1; have := HM.out.1; simp [HL.out.2]; omega) (fun j p t h1 h2 => (repsS_drop (H.out.1.doc.ext (H10.out.1.trans hE)) k).2 j p t h1 h2), H10.out.1.trans hE⟩
  have HMK := Lib.hid (make_c wc lab val has (.slice A10 (1 + (m - k)) C10) (gs.drop k) (ts.drop k) (H10.out.2.1.below hE) ((reps_drop H.out.1.rep k).ext H13.out.2) (by rw [HL.out.1]; omega))
  have c2c := Ext.cell' hE c2w
  have hsz := H13.out.2.size
  clear hcut hT hE hO
  repeat' (first | go_at_call 20 | go_skip | go_guarded | go_step)
  refine HMK.out.mono ?_
  rintro e wd ⟨g, rfl, rg, fg⟩
  have H14 : Hid (Rep NT wd g (RT.node lab (if has then some val else none) (ts.drop k)) ∧ RepS DT DP (fun _ => True) wd q (RT.node lab (if has then some val else none) (ts.drop k)) ∧ Ext wr wd) := Lib.hid ⟨rg, H13.out.1.ext fg, H13.out.2.trans fg⟩
  have hsd := H14.out.2.2.size
  have hgt : (gs.take k).length = k := by rw [List.length_take_of_le (by have := HM.out.1; omega)]
  have hqt : (qs.take k).length = k := by rw [List.length_take_of_le (by have := HM.out.2.1; omega)]
  have HT : Hid (_ ∧ _) := Lib.hid ⟨hgt, hqt⟩
  clear rg fg HMK c2c c2w c2b hgt hqt
  go_simp
  repeat' (go_not_at_region 18; (first | go_skip | go_guarded | go_step))
  go_region_held3 (fun w' => True) (trivial)
    (first
      | (refine step_appG (W := _) (by rfl) (.tmp 82) (.tmp 84) _ (by rfl) NP 1 8 Try.underlying42 infoK (by decide) A7 k (ptrs (gs.take k)) (by rfl) (by rw [ptrs_length, HT.out.1, Nat.mul_one]) (HS.out.2.2.1.below (H14.out.2.2.trans (by repeat' (first | exact Ext.refl _ | apply ext_alloc | apply ext_drew | exact below_drewN (Ext.refl _) _)))) (Ext.refl _) _ 1 1 [ptr g] (by rfl) (by decide) rfl (by first | exact one_seg _ _ _ (by first | rfl | simp) | exact Seg.drew (one_seg _ _ _ (by first | rfl | simp)) | exact (one_seg _ _ _ (by first | rfl | simp)).alloc _ | exact Seg.drew ((one_seg _ _ _ (by first | rfl | simp)).alloc _) | exact Seg.drew ((Seg.drew (one_seg _ _ _ (by first | rfl | simp))).alloc _) | exact (Seg.drew (one_seg _ _ _ (by first | rfl | simp))).alloc _) (ptrs_one [g]) (by unfold maxLen; omega) (by omega) ?_; intro v15 w15 hown15 hb15; obtain ⟨A15, C15, rfl⟩ := own_slice' hown15; have k15 := Lib.hid hb15; have O15 : Hid (Ext wd w15 ∧ Sl w15 1 (.slice A15 (k + 1) C15) (k + 1) (ptrs (gs.take k) ++ [ptr g])) := Lib.hid ⟨Ext.trans (by repeat' (first | exact Ext.refl _ | apply ext_alloc | apply ext_drew | exact below_drewN (Ext.refl _) _)) hb15, Sl.of_own hown15⟩; clear hb15 hown15)
      | (refine step_appG (W := _) (by rfl) (.tmp 89) (.tmp 91) _ (by rfl) DP 1 8 Try.underlying43 infoD (by decide) A8 k (ptrs (qs.take k)) (by rfl) (by rw [ptrs_length, HT.out.2, Nat.mul_one]) (HS.out.2.2.2.below ((H14.out.2.2.trans O15.out.1).trans (by repeat' (first | exact Ext.refl _ | apply ext_alloc | apply ext_drew | exact below_drewN (Ext.refl _) _)))) (Ext.refl _) _ 1 1 [ptr q] (by rfl) (by decide) rfl (by first | exact one_seg _ _ _ (by first | rfl | simp) | exact Seg.drew (one_seg _ _ _ (by first | rfl | simp)) | exact (one_seg _ _ _ (by first | rfl | simp)).below k15.out | exact (Seg.drew (one_seg _ _ _ (by first | rfl | simp))).below k15.out | exact ((one_seg _ _ _ (by first | rfl | simp)).alloc _).below k15.out | exact (Seg.drew ((one_seg _ _ _ (by first | rfl | simp)).alloc _)).below k15.out | exact (Seg.drew ((Seg.drew (one_seg _ _ _ (by first | rfl | simp))).alloc _)).below k15.out | exact ((Seg.drew (one_seg _ _ _ (by first | rfl | simp))).alloc _).below k15.out) (ptrs_one [q]) (by unfold maxLen; omega) (by omega) ?_; intro v16 w16 hown16 hb16; obtain ⟨A16, C16, rfl⟩ := own_slice' hown16; have O16 : Hid (Ext w15 w16 ∧ Sl w16 1 (.slice A16 (k + 1) C16) (k + 1) (ptrs (qs.take k) ++ [ptr q])) := Lib.hid ⟨Ext.trans (by repeat' (first | exact Ext.refl _ | apply ext_alloc | apply ext_drew | exact below_drewN (Ext.refl _) _)) hb16, Sl.of_own hown16⟩; clear hb16 hown16))
  all_goals
    have hfin : Raws W w16 (.slice A15 (k + 1) C15) (.slice A16 (k + 1) C16) (gs.take k ++ [g]) (qs.take k ++ [q]) (ts.take k ++ [RT.node lab (if has then some val else none) (ts.drop k)]) := by
      have e1 := O15.out.1.trans O16.out.1
      have e2 := H14.out.2.2.trans e1
      have h := H.out.1
      refine ⟨h.ext.trans e2, ?_, ?_, reps_snoc ((reps_take h.rep k).ext e2) (H14.out.1.ext e1), RepsS.snoc ((repsS_take h.doc k).ext e2) (H14.out.2.1.ext e1), ?_⟩
      · rw [List.length_append, HT.out.1, ptrs_append]; exact O15.out.2.below O16.out.1
      · rw [List.length_append, HT.out.2, ptrs_append]; exact O16.out.2
      · intro t ht
        rcases List.mem_append.1 ht with ht | ht
        · exact h.good t (List.mem_of_mem_take ht)
        · rw [List.mem_singleton.1 ht]
          exact .mk hl.1 (fun v hv => by
            cases has with
            | false => simp at hv
            | true => simp at hv; rw [← hv]; exact hl.2) (fun t ht => h.good t (List.mem_of_mem_drop ht))
    have HV := Lib.hid hfin
    clear hfin
    repeat' (first | go_skip | go_guarded | go_step)
    refine HQF.out g q _ _ _ _ _ _ _ _ _ _ _ _ _ _ _ _ _ _ _ _ _ _ _ _ _ _ _ _ _ _ _ _ _ _ _ _ _ _ _ _ _ _ _ _ _ _ _ _ _ _ _ _ _ _ _ _ _ _ ?_
    rw [← HM.out.2.2]
    exact HV.out

end Go.Proofs.Ytmpeniboccahdaa
