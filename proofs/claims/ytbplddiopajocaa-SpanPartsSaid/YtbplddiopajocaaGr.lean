/- Contract: SpanParts. -/
import Derived.Test.YtbplddiopajocaaGh
import Derived.Test.YtbplddiopajocaaGp
import Derived.Test.YtbplddiopajocaaGq
import Derived.Test.YtbplddiopajocaaNx
set_option linter.unusedVariables false
set_option linter.unusedSimpArgs false
namespace Go.Proofs.Ytbplddiopajocaa
open Go Go.RowKit Go.QS
set_option linter.unusedVariables false
attribute [local go_sem] Oper.semAt_some

theorem oper_appG {P : Program} {w : World} {o : Oper} {a : Act} {K : Act → World → Prop} {Q : Exit → Act → World → Prop} (hgd : o.guard = none) (s x : Operand) (t : TypeId)
    (ho : o.op = .call { callee := .builtin .append, args := #[s, x], argTypes := #[t, t] }) (base : Nat)
    (e : TypeId) (size bytes : Nat) (ht : P.underlying t = some (.slice e)) (hi : ∃ i z, P.info? e = some i ∧ i.zero = some z ∧ i.size = size ∧ i.bytes = bytes ∧ z.cells.size = size) (hsz : 0 < size)
    (v : Value) (n : Nat) (xs : List Value) (hs : a.eval s = v) (hown : w.ownsRow base e size v n xs)
    (A : Option Addr) (m c : Nat) (news : List Value) (hx : a.eval x = .slice A m c) (hl : news.length = m * size) (hr : Seg w A news) (h1 : ∀ u ∈ news, u.oneCell' = true)
    (h63 : n + m ≤ maxLen) (hbytes : (n + m) * bytes ≤ 140737488355328) (hbase : base ≤ w.heap.size)
    (h : ∀ v' w', w'.ownsRow base e size v' (n + m) (xs ++ news) → w.grownBy w' v.ownBlock → (∀ g, v.ownBlock = some g → base ≤ g) → K (a.put o.dst v') w') :
    Oper.wp P o a w K Q := by
  obtain ⟨i, z, hi, hz, hsize, hby, hzs⟩ := hi
  obtain ⟨v', w', hrun, h2, h3, h4⟩ := run_app (P := P) w base t o.type e i z size bytes ht hi hz hsize hby hzs hsz v n xs hown A m c news hl hr h1 h63 hbytes hbase
  unfold Oper.wp execOp
  simp only [ho, resolve, invoke, builtin, Sem.run_bind, Sem.run_pure, Result.andThen_ok, List.map_toArray, List.map_cons, List.map_nil, hs, hx, hrun]
  exact h v' w' h2 h3 (fun k hk => (hown.lt k hk).1)

set_option maxRecDepth 100000 in
set_option maxHeartbeats 4000000 in
theorem spanParts_c (w : World) (v : Value) (l : List Pr) (sf sa stt : List UInt8) (so : Bool) (h : PS w v l) :
    Calls Try.prog 6 #[v, str sf, str sa, str stt, .bool so] w fun e w' => e = .returned (.bool true) ∧ Ext w w' := by
  have HP : Hid (PS w v l) := Lib.hid h
  obtain ⟨L, hL⟩ : ∃ L, L = (l.take 40).map cutP := ⟨_, rfl⟩
  have hLk : ∀ p ∈ L, p.1.length ≤ 40 := by
    intro p hp
    rw [hL] at hp
    obtain ⟨q, _, rfl⟩ := List.mem_map.1 hp
    simp [cutP]; omega
  have hLl : L.length ≤ 40 := by rw [hL]; simp; omega
  have hXl := rsort_length L
  have hXr := rsort_rise L
  obtain ⟨X, hX⟩ : ∃ X, X = rsort L := ⟨_, rfl⟩
  rw [← hX] at hXl hXr
  obtain ⟨s, hs⟩ : ∃ s, s = (Sp.mk sf stt so).cut := ⟨_, rfl⟩
  have hsf : s.f.length ≤ 40 := by rw [hs]; simp [Sp.cut]; omega
  have hso : s.o = so := by rw [hs]; rfl
  obtain ⟨at', hat⟩ : ∃ at', at' = sa.take 40 := ⟨_, rfl⟩
  have hal : at'.length ≤ 40 := by rw [hat]; simp; omega
  have HCOM : Hid (∀ (s' : Sp) (back : Bool), com s' back [(treeOf L, [], false)] = if back then (X.filter fun p => s'.has p.1).reverse else X.filter fun p => s'.has p.1) := Lib.hid (fun s' back => by rw [root_com L hLk, ← hX])
  have HFL : Hid (∀ s' : Sp, (X.filter fun p => s'.has p.1).length ≤ 40) := Lib.hid (fun s' => Nat.le_trans (List.length_filter_le _ _) (by omega))
  have HL : Hid (L = (l.take 40).map cutP ∧ (∀ p ∈ L, p.1.length ≤ 40) ∧ X = rsort L ∧ Rise X) := Lib.hid ⟨hL, hLk, hX, hXr⟩
  have HS0 := Lib.hid hs
  have HAT := Lib.hid hat
  have hgood := root_good L hLk
  have hwt := root_wt L hLk hLl
  have HG := Lib.hid hgood
  obtain ⟨zf, zt, zo⟩ := s
  simp only at hsf hso
  subst hso
  clear h hL hLk hX hs hgood hat hXr
  refine calls_of_wp_marks Try.func6 rfl ?_
  simp only [Try.ntmps6, List.size_toArray, List.length_cons, List.length_nil, Nat.reduceAdd, Nat.reduceSub, Array.replicate_succ, Array.replicate_zero, List.push_toArray, List.append_toArray, List.nil_append, List.cons_append]
  repeat' (go_not_at_region 1; (first | go_skip | go_guarded | go_step))
  obtain ⟨wa, hwa⟩ : ∃ wa, wa = w.alloc (.cells #[.bool false] 4) := ⟨_, rfl⟩
  obtain ⟨gb, hgb⟩ : ∃ gb, gb = w.heap.size := ⟨_, rfl⟩
  have hEa : Ext w wa := by rw [hwa]; exact (Ext.refl _).alloc (Nat.le_refl _) _
  have hba := heap_newG w (.cells #[.bool false] 4)
  rw [← hwa, ← hgb] at hba
  have hwa' := hwa.symm
  rw [hwa', ← hgb]
  have hgle : w.heap.size ≤ gb := Nat.le_of_eq hgb.symm
  have HA : Hid (Ext w wa ∧ wa.heap[gb]? = some (.cells #[.bool false] 4 (0, 0))) := Lib.hid ⟨hEa, hba⟩
  clear hwa hgb hEa hwa' hba
  repeat' (first | go_at_call 18 | go_skip | go_guarded | go_step)
  refine (awake_c wa).mono ?_
  rintro e w1 ⟨rfl, f1⟩
  replace HA := Lib.hid (And.intro (Ext.trans HA.out.1 f1) (box_extG HA.out.2 f1))
  clear f1
  go_simp
  repeat' (first | go_at_call 19 | go_skip | go_guarded | go_step)
  refine (tree3_c w1 v l (HP.out.below HA.out.1)).mono ?_
  rintro e w2 ⟨g, v2, rfl, f2, r2, p2⟩
  rw [← HL.out.1] at r2
  replace HA := Lib.hid (And.intro (Ext.trans HA.out.1 f2) (And.intro (box_extG HA.out.2 f2) r2))
  clear f2 r2 p2
  go_simp
  repeat' (first | go_at_call 20 | go_skip | go_guarded | go_step)
  refine (short_c w2 ⟨sf, stt, zo⟩).mono ?_
  rintro e w3 ⟨rfl, f3⟩
  rw [← HS0.out]
  replace HA := Lib.hid (And.intro (Ext.trans HA.out.1 f3) (And.intro (box_extG HA.out.2.1 f3) (HA.out.2.2.ext f3)))
  clear f3
  go_simp
  repeat' (go_not_at_region 5; (first | go_skip | go_guarded | go_step))
  obtain ⟨w4, hw4⟩ : ∃ w4, w4 = w3.alloc (.cells #[str zf, str zt, .bool zo] 42) := ⟨_, rfl⟩
  obtain ⟨gs, hgs⟩ : ∃ gs, gs = w3.heap.size := ⟨_, rfl⟩
  have f4 : Ext w3 w4 := by rw [hw4]; exact (Ext.refl _).alloc (Nat.le_refl _) _
  have hb4 := heap_newG w3 (.cells #[str zf, str zt, .bool zo] 42)
  rw [← hw4, ← hgs] at hb4
  have hw4' := hw4.symm
  rw [hw4', ← hgs]
  have hgs1 : gb < gs := by rw [hgs]; exact heap_lt HA.out.2.1
  replace HA := Lib.hid (And.intro (Ext.trans HA.out.1 f4) (And.intro (box_extG HA.out.2.1 f4) (And.intro (HA.out.2.2.ext f4) hb4)))
  clear hw4 hw4' hgs f4 hb4
  have hfield := fun a x w => field0 a x w
  repeat' (first | go_at_call 29 | go_skip | go_guarded | go_step)
  refine (few1_c w4 sa).mono ?_
  rintro e w5 ⟨rfl, f5⟩
  rw [← HAT.out]
  replace HA := Lib.hid (And.intro (Ext.trans HA.out.1 f5) (And.intro (box_extG HA.out.2.1 f5) (And.intro (HA.out.2.2.1.ext f5) (box_extG HA.out.2.2.2 f5))))
  clear f5
  obtain ⟨b0, b1, b2⟩ := box3 HA.out.2.2.2
  go_simp
  repeat' (first | go_at_call 30 | go_skip | go_guarded | go_step)
  refine (shas_c w5 ⟨zf, zt, zo⟩ at').mono ?_
  rintro e w6 ⟨rfl, f6⟩
  replace HA := Lib.hid (And.intro (Ext.trans HA.out.1 f6) (And.intro (box_extG HA.out.2.1 f6) (And.intro (HA.out.2.2.1.ext f6) (box_extG HA.out.2.2.2 f6))))
  clear f6 b0 b1 b2
  cases hhas : (Sp.mk zf zt zo).has at' with
  | false =>
    have c0 : w6.cell? ⟨gb, 0, none⟩ = some (.bool false) := by rw [cellG HA.out.2.1]; rfl
    have cf := freeG HA.out.2.1 0
    have cl := heap_lt HA.out.2.1
    clear hhas
    go_simp
    repeat' (first | go_skip | go_guarded | go_step)
    refine postM_ret0 (results_box1 rfl _ _ gb (.bool true) _ _ _ rfl (heap_set HA.out.2.1 0 _) Try.underlying4 rfl) rfl ⟨rfl, ?_⟩
    exact HA.out.1.setCell hgle _
  | true =>
    have HHAS := Lib.hid hhas
    clear hhas
    obtain ⟨A1, hA1⟩ : ∃ A1, A1 = X.filter (fun p => (Sp.mk zf at' false).has p.1) := ⟨_, rfl⟩
    obtain ⟨B1, hB1⟩ : ∃ B1, B1 = X.filter (fun p => (Sp.mk at' zt zo).has p.1) := ⟨_, rfl⟩
    obtain ⟨D1, hD1⟩ : ∃ D1, D1 = X.filter (fun p => (Sp.mk zf zt zo).has p.1) := ⟨_, rfl⟩
    have hABD : A1 ++ B1 = D1 := by rw [hA1, hB1, hD1]; exact parts_meet HL.out.2.2.2 zf zt at' zo HHAS.out
    have HABD := Lib.hid hABD
    have hAl : A1.length ≤ 40 := by rw [hA1]; exact HFL.out _
    have hBl : B1.length ≤ 40 := by rw [hB1]; exact HFL.out _
    have hDl : D1.length ≤ 40 := by rw [hD1]; exact HFL.out _
    have HA1 : Hid (A1 = com ⟨zf, at', false⟩ false [(treeOf L, [], false)]) := Lib.hid (by rw [HCOM.out, hA1]; rfl)
    have HB1 : Hid (B1 = com ⟨at', zt, zo⟩ false [(treeOf L, [], false)]) := Lib.hid (by rw [HCOM.out, hB1]; rfl)
    have HD1 : Hid (D1 = com ⟨zf, zt, zo⟩ false [(treeOf L, [], false)]) := Lib.hid (by rw [HCOM.out, hD1]; rfl)
    have HY1 : Hid (D1.reverse = com ⟨zf, zt, zo⟩ true [(treeOf L, [], false)]) := Lib.hid (by rw [HCOM.out, hD1]; rfl)
    obtain ⟨n1, hn1⟩ : ∃ n1, n1 = A1.length := ⟨_, rfl⟩
    obtain ⟨n2, hn2⟩ : ∃ n2, n2 = B1.length := ⟨_, rfl⟩
    obtain ⟨m, hm⟩ : ∃ m, m = D1.length := ⟨_, rfl⟩
    have HN : Hid (n1 = A1.length ∧ n2 = B1.length ∧ m = D1.length) := Lib.hid ⟨hn1, hn2, hm⟩
    have hn19 : n1 ≤ 40 := by omega
    have hn29 : n2 ≤ 40 := by omega
    have hm9 : m ≤ 40 := by omega
    clear hA1 hB1 hD1 hABD hn1 hn2 hm
    obtain ⟨b0, b1, b2⟩ := box3 HA.out.2.2.2
    go_simp
    repeat' (first | go_at_call 25 | go_skip | go_guarded | go_step)
    refine (spairs_c w6 (some ⟨g, 0, none⟩) _ ⟨zf, at', false⟩ A1 (.root HA.out.2.2.1) HG.out hwt (by show zf.length ≤ 1000; omega) HA1.out (by omega)).mono ?_
    rintro e w7 ⟨v7, rfl, r7, f7⟩
    rw [← HN.out.1] at r7
    obtain ⟨P7, C7, rfl⟩ := own_slice r7
    have H7 : Hid (Ext w6 w7 ∧ w7.ownsRow w6.heap.size 24 2 (.slice P7 n1 C7) n1 (flat A1)) := Lib.hid ⟨f7, r7⟩
    have hv7 := World.ownsRow.lt r7
    have HV7 := Lib.hid hv7
    clear f7 r7 b0 b1 b2 hv7
    obtain ⟨b0, b1, b2⟩ := box3 (box_extG HA.out.2.2.2 H7.out.1)
    go_simp
    repeat' (first | go_at_call 25 | go_skip | go_guarded | go_step)
    refine (spairs_c w7 (some ⟨g, 0, none⟩) _ ⟨at', zt, zo⟩ B1 (.root (HA.out.2.2.1.ext H7.out.1)) HG.out hwt (by show at'.length ≤ 1000; omega) HB1.out (by omega)).mono ?_
    rintro e w8 ⟨v8, rfl, r8, f8⟩
    rw [← HN.out.2.1] at r8
    obtain ⟨P8, C8, rfl⟩ := own_slice r8
    have H8 : Hid (Ext w7 w8 ∧ w8.ownsRow w7.heap.size 24 2 (.slice P8 n2 C8) n2 (flat B1)) := Lib.hid ⟨f8, r8⟩
    clear f8 r8 b0 b1 b2
    obtain ⟨b0, b1, b2⟩ := box3 (box_extG HA.out.2.2.2 (Ext.trans H7.out.1 H8.out.1))
    go_simp
    repeat' (first | go_at_call 25 | go_skip | go_guarded | go_step)
    refine (spairs_c w8 (some ⟨g, 0, none⟩) _ ⟨zf, zt, zo⟩ D1 (.root (HA.out.2.2.1.ext (Ext.trans H7.out.1 H8.out.1))) HG.out hwt (by show zf.length ≤ 1000; omega) HD1.out (by omega)).mono ?_
    rintro e w9 ⟨v9, rfl, r9, f9⟩
    rw [← HN.out.2.2] at r9
    obtain ⟨P9, C9, rfl⟩ := own_slice r9
    clear b0 b1 b2
    go_simp
    repeat' (go_not_at_region 11; (first | go_skip | go_guarded | go_step))
    obtain ⟨wb, hwb⟩ : ∃ wb, wb = w9.alloc (.cells #[.slice P9 m C9] 22) := ⟨_, rfl⟩
    obtain ⟨g16, hg16⟩ : ∃ g16, g16 = w9.heap.size := ⟨_, rfl⟩
    have fb : Ext w9 wb := by rw [hwb]; exact (Ext.refl _).alloc (Nat.le_refl _) _
    have hbb := heap_newG w9 (.cells #[.slice P9 m C9] 22)
    rw [← hwb, ← hg16] at hbb
    have hwb' := hwb.symm
    rw [hwb', ← hg16]
    have HB : Hid (Ext w8 wb ∧ wb.ownsRow w8.heap.size 24 2 (.slice P9 m C9) m (flat D1) ∧ wb.heap[g16]? = some (.cells #[.slice P9 m C9] 22 (0, 0))) := Lib.hid ⟨Ext.trans f9 fb, row_extG r9 fb, hbb⟩
    have HN7 : Hid (∀ k, (Value.slice P7 n1 C7).ownBlock = some k → w6.heap.size ≤ k ∧ k < w8.heap.size) := Lib.hid (fun k hk => ⟨(HV7.out k hk).1, Nat.lt_of_lt_of_le (HV7.out k hk).2 H8.out.1.size⟩)
    have hg8 : w8.heap.size ≤ g16 := by rw [hg16]; exact f9.size
    clear hwb hwb' hg16 fb hbb f9 r9
    have c16 : wb.drew.cell? ⟨g16, 0, none⟩ = some (.slice P9 m C9) := by rw [cellG (box_extG HB.out.2.2 (Ext.refl wb).drew)]; rfl
    refine wp_region_noPanic ?_
    refine wp_region_T (n := 6) (S := (fun w' : World => w'.cell? ⟨g16, 0, none⟩ = some (.slice P9 m C9))) (by kernel_rfl) ?_
    change wpAnyT _ _ _ _ _ _ 6 _ _ wb.drew
    refine wpAnyT_take (i := 0) (v := ?_) rfl (by kernel_rfl) (by kernel_rfl) (by kernel_rfl) (by kernel_rfl) (fun _ _ _ h => h) (Or.inl ⟨by rfl, ?_⟩) c16 ?_
    rotate_left
    · (intro w hSw; (try dsimp only at hSw); go_simp; try with_reducible rfl)
    try simp only [Act.put, List.setIfInBounds_toArray, List.set_cons_zero, List.set_cons_succ]
    refine wpAnyT_take (i := 1) (v := ?_) rfl (by kernel_rfl) (by kernel_rfl) (by kernel_rfl) (by kernel_rfl) (fun _ _ _ h => h) (Or.inl ⟨by rfl, ?_⟩) c16 ?_
    rotate_left
    · (intro w hSw; (try dsimp only at hSw); go_simp; try with_reducible rfl)
    try simp only [Act.put, List.setIfInBounds_toArray, List.set_cons_zero, List.set_cons_succ]
    refine wpAnyT_take (i := 3) (v := ?_) rfl (by kernel_rfl) (by kernel_rfl) (by kernel_rfl) (by kernel_rfl) (fun _ _ _ h => h) (Or.inl ⟨by rfl, ?_⟩) c16 ?_
    rotate_left
    · (intro w hSw; (try dsimp only at hSw); go_simp; try with_reducible rfl)
    try simp only [Act.put, List.setIfInBounds_toArray, List.set_cons_zero, List.set_cons_succ]
    refine wpAnyT_all (rs := [2]) (by kernel_rfl) (by simp) ?_
    intro i9 hi9
    obtain rfl := List.mem_singleton.1 hi9
    refine wpOp_goK rfl rfl (fun K9 hK9 => ?_)
    have hsB : Seg wb.drew P8 (flat B1) := by
      obtain ⟨P8', C8', e8, _, _, _, hs8⟩ := Sl.of_own (row_extG H8.out.2 (Ext.trans HB.out.1 (Ext.refl wb).drew))
      injection e8 with h1
      rw [h1]; exact hs8
    refine oper_appG rfl (.tmp 55) (.tmp 56) _ rfl w6.heap.size 24 2 32 Try.underlying22 infoPr (by decide) (.slice P7 n1 C7) n1 (flat A1) rfl (row_extG H7.out.2 (Ext.trans H8.out.1 (Ext.trans HB.out.1 (Ext.refl wb).drew))) P8 n2 C8 (flat B1) rfl (by rw [flat_length, HN.out.2.1]) hsB (flat_one _) (by unfold maxLen; omega) (by omega) (Nat.le_trans H7.out.1.size (Nat.le_trans H8.out.1.size (Nat.le_trans HB.out.1.size (Ext.refl wb).drew.size))) ?_
    intro v11 w11 hown11 hg11 _
    have hE11 : Ext w6 w11 := (Ext.trans H7.out.1 (Ext.trans H8.out.1 (Ext.trans HB.out.1 (Ext.refl wb).drew))).grown hg11 (Nat.le_trans H7.out.1.size (Nat.le_trans H8.out.1.size (Nat.le_trans HB.out.1.size (Ext.refl wb).drew.size))) (fun k hk => (HN7.out k hk).1)
    have hb11 : w11.heap[g16]? = some (.cells #[.slice P9 m C9] 22 (0, 0)) := (hg11.block g16 (heap_lt (box_extG HB.out.2.2 (Ext.refl wb).drew)) (fun e => by have := (HN7.out g16 e.symm).2; omega)).trans (box_extG HB.out.2.2 (Ext.refl wb).drew)
    have hr11 : w11.ownsRow w8.heap.size 24 2 (.slice P9 m C9) m (flat D1) := row_of_heap (row_extG HB.out.2.1 (Ext.refl wb).drew) (fun k A f hk hkk => (hg11.block k (heap_lt hkk) (fun e => by
      have h1 := (HN7.out k e.symm).2
      have h2 := (World.ownsRow.lt HB.out.2.1 k hk).1
      omega)).trans hkk)
    have c11 : w11.cell? ⟨g16, 0, none⟩ = some (.slice P9 m C9) := by rw [cellG hb11]; rfl
    have hps11 : PS w11 v11 (A1 ++ B1) := PS.of_own (by rw [flat_append]; exact hown11)
    have H11 : Hid (Ext w6 w11 ∧ PS w11 (.slice P9 m C9) D1 ∧ w11.heap[g16]? = some (.cells #[.slice P9 m C9] 22 (0, 0)) ∧ PS w11 v11 (A1 ++ B1)) := Lib.hid ⟨hE11, PS.of_own hr11, hb11, hps11⟩
    refine hK9.out _ _ ⟨.inr c11, ?_⟩
    clear hK9 K9 hE11 hb11 hr11 hps11 hown11 hg11 hsB c16 H7 H8 HB HN7 HV7
    try simp only [Act.put, List.setIfInBounds_toArray, List.set_cons_zero, List.set_cons_succ]
    have hdd : decide (A1 ++ B1 = D1) = true := by rw [decide_eq_true_eq]; exact HABD.out
    have HDD := Lib.hid hdd
    clear hdd c11
    refine wpAnyT_all (rs := [4]) (by kernel_rfl) (by simp) ?_
    intro i9 hi9
    obtain rfl := List.mem_singleton.1 hi9
    refine wpOp_goK rfl rfl (fun K9 hK9 => ?_)
    go_simp
    go_at_call 31
    refine (sameG_c w11 v11 (.slice P9 m C9) (A1 ++ B1) D1 H11.out.2.2.2 H11.out.2.1 (by simp; omega) (by omega)).mono ?_
    rintro e w12 ⟨he, f12⟩
    rw [HDD.out] at he
    subst he
    replace f12 := Lib.hid f12
    have c12 : w12.cell? ⟨g16, 0, none⟩ = some (.slice P9 m C9) := by rw [cellG (box_extG H11.out.2.2.1 f12.out)]; rfl
    refine hK9.out _ _ ⟨.inr c12, ?_⟩
    clear hK9 K9
    try simp only [Act.put, List.setIfInBounds_toArray, List.set_cons_zero, List.set_cons_succ]
    refine wpAnyT_all (rs := [5]) (by kernel_rfl) (by simp) ?_
    intro i9 hi9
    obtain rfl := List.mem_singleton.1 hi9
    refine wpOp_goK rfl rfl (fun K9 hK9 => ?_)
    try go_simp
    refine hK9.out _ _ ⟨.inr c12, ?_⟩
    clear hK9 K9
    try simp only [Act.put, List.setIfInBounds_toArray, List.set_cons_zero, List.set_cons_succ]
    refine ⟨by kernel_rfl, NoPanic.normal ?_⟩
    repeat' (first | go_skip | go_guarded | (go_not_at_region 14; go_step))
    have H12 : Hid (Ext w w12 ∧ Rep NT w12 g (treeOf L) ∧ PS w12 (.slice P9 m C9) D1 ∧ w12.heap[gb]? = some (.cells #[.bool false] 4 (0, 0)) ∧ w12.heap[gs]? = some (.cells #[str zf, str zt, .bool zo] 42 (0, 0)) ∧ w12.heap[g16]? = some (.cells #[.slice P9 m C9] 22 (0, 0))) :=
      Lib.hid ⟨Ext.trans HA.out.1 (Ext.trans H11.out.1 f12.out), HA.out.2.2.1.ext (Ext.trans H11.out.1 f12.out), H11.out.2.1.below f12.out, box_extG HA.out.2.1 (Ext.trans H11.out.1 f12.out), box_extG HA.out.2.2.2 (Ext.trans H11.out.1 f12.out), box_extG H11.out.2.2.1 f12.out⟩
    clear HA H11 f12 c12 hgs1
    obtain ⟨wa, hwa⟩ : ∃ wa, wa = w12.alloc (.cells #[.int .i64 (m : Int)] 3) := ⟨_, rfl⟩
    obtain ⟨g15, hg15⟩ : ∃ g15, g15 = w12.heap.size := ⟨_, rfl⟩
    have hEa : Ext w12 wa := by rw [hwa]; exact (Ext.refl w12).alloc (Nat.le_refl _) _
    have hba := heap_newG w12 (.cells #[.int .i64 (m : Int)] 3)
    rw [← hwa, ← hg15] at hba
    have hwa' := hwa.symm
    rw [hwa', ← hg15]
    have hgle15 : w12.heap.size ≤ g15 := Nat.le_of_eq hg15.symm
    have HWA : Hid (Ext w12 wa ∧ wa.heap[g15]? = some (.cells #[.int .i64 (m : Int)] 3 (0, 0))) := Lib.hid ⟨hEa, hba⟩
    clear hwa hwa' hg15 hEa hba
    obtain ⟨b0, b1, b2⟩ := box3 (box_extG H12.out.2.2.2.2.1 HWA.out.1)
    repeat' (first
      | (go_at_call 26; refine (each_c _ (some ⟨g, 0, none⟩) ⟨zf, zt, zo⟩ true).mono ?_; rintro e w6' ⟨v6, rfl, ⟨k0, k1, k2, rfl, hk⟩, f6⟩; replace hk := Lib.hid hk; replace f6 := Lib.hid f6; go_simp)
      | go_skip | go_guarded | go_step)
    clear b0 b1 b2
    have hgle6 : w12.heap.size ≤ w6'.heap.size := Nat.le_trans HWA.out.1.size f6.out.size
    have hYl : D1.reverse.length = m := by rw [List.length_reverse]; exact HN.out.2.2.symm
    have HYL := Lib.hid hYl
    clear hYl
    refine (wpIn_wide (n := 5)).1 ?_
    refine wpIn_rangeFunc_RT (F := Fence.wide) (n := 5) rfl (by decide) (gf := 50) (lb := #[ptr k0, ptr k1, ptr k2]) rfl trivial each_enters
      (each_seq 4 (by decide) w12 _ _ ⟨zf, zt, zo⟩ true k0 k1 k2 D1.reverse (.root H12.out.2.1) HG.out hwt (by show zf.length ≤ 1000; omega) HY1.out)
      (fun k o h hk h1 h2 => stT_other h h1 h2) kpT_t (fun W l o o' hl h1 h2 h3 => kpT_b hgle6 W l o o' hl h1 h2 h3) (fun r => ⟨Ext.trans HWA.out.1 (Ext.trans f6.out (((Ext.refl w6').alloc (Nat.le_refl _) _).alloc (by simp) _)), hk.out.ext (((Ext.refl w6').alloc (Nat.le_refl _) _).alloc (by simp) _)⟩) (fun _ => rfl)
      (fun pre W => ∃ j : Nat, j + pre.length = m ∧ Ext w12 W ∧ W.heap[g15]? = some (.cells #[.int .i64 (j : Int)] 3 (0, 0)))
      (fun c pre W => c = .ret ∧ ¬ pre <+: D1.reverse)
      (fun s A B row hs hg hr => hs.imp fun j h => ⟨h.1, ext_own h.2.1 hg hgle6 (fun r e => (hr r e).1), heap_own h.2.2 hg (fun r e => (hr r e).2)⟩)
      (fun c s A B row hs hg hr => hs)
      (fun s A B hs ht => hs.imp fun j h => ⟨h.1, stT_ext ht h.2.1 (Nat.le_refl _), stT_heap ht h.2.2 (by unfold tauS; decide)⟩)
      (fun c s A B hs ht => hs)
      ⟨m, rfl, Ext.trans HWA.out.1 f6.out, box_extG HWA.out.2 f6.out⟩
      (fun T x a' W => ∃ Bx, g15 < Bx ∧ W.heap[Bx]? = some (.cells #[str x.1, str x.2] 24 (0, 0)) ∧ a' = { tmps := (T.setIfInBounds 66 (.agg #[str x.1, str x.2])).setIfInBounds 18 (ptr Bx), defers := [] })
      (fun x a' s A B row hs hg hr => hs.imp fun Bx h => ⟨h.1, heap_own h.2.1 hg (fun r e => (hr r e).2), h.2.2⟩) ?assign ?body ?done ?stop
    case assign =>
      rintro l pre x W K ⟨j, hj, h1, h2⟩ hK
      have hl := heap_lt h2
      repeat' (first | gi_guarded | gi_step)
      exact hK _ _ ((KeepsOthers.alloc _ _).from _) (KeepQ.of_ext ((Ext.refl W).alloc (Nat.le_refl _) _)) ⟨j, hj, h1.alloc h1.size _, box_extG h2 ((Ext.refl W).alloc (Nat.le_refl _) _)⟩ ⟨W.heap.size, hl, heap_newG _ _, rfl⟩
    case body =>
      rintro l pre x a' W hl _ ⟨j0, hj, h1, h2⟩ ⟨Bx, hBx, hbx, rfl⟩ hlt
      simp only [List.setIfInBounds_toArray, List.set_cons_succ, List.set_cons_zero]
      have hkm : pre.length < m := by have := HYL.out; omega
      obtain ⟨j, rfl⟩ : ∃ j, j0 = j + 1 := ⟨j0 - 1, by omega⟩
      have hjm : j < m := by omega
      obtain ⟨p, hp⟩ := get_of_lt D1 (show j < D1.length by have := HN.out.2.2; omega)
      have hpY : D1.reverse[pre.length]? = some p := by
        rw [List.getElem?_reverse (by have := HN.out.2.2; omega), show D1.length - 1 - pre.length = j by have := HN.out.2.2; omega]
        exact hp
      obtain ⟨A13', C13', e13, _, _, _, hs13⟩ := H12.out.2.2.1
      have hA13 : A13' = P9 := by injection e13 with h1; exact h1.symm
      rw [hA13] at hs13
      obtain ⟨b, o, rfl, hq1, hq2⟩ := seg_pair (hs13.below h1) hp
      have c15 : W.cell? ⟨g15, 0, none⟩ = some (.int .i64 ((j : Int) + 1)) := by rw [cellG h2]; rfl
      have f15 := freeG h2 0
      have l15 := heap_lt h2
      have c6 : W.cell? ⟨g16, 0, none⟩ = some (.slice (some ⟨b, o, none⟩) m C9) := by rw [cellG (box_extG H12.out.2.2.2.2.2 h1)]; rfl
      have x0 : W.cell? ⟨Bx, 0, none⟩ = some (str x.1) := by rw [cellG hbx]; rfl
      have x1 : W.cell? ⟨Bx, 1, none⟩ = some (str x.2) := by rw [cellG hbx]; rfl
      have hb8 := box_extG H12.out.2.2.2.1 h1
      have c8 : W.cell? ⟨gb, 0, none⟩ = some (.bool false) := by rw [cellG hb8]; rfl
      have f8 := freeG hb8 0
      have l8 := heap_lt hb8
      have HB := Lib.hid (And.intro h1 (And.intro h2 (And.intro hbx hb8)))
      have HP2 := Lib.hid hpY
      have HJ := Lib.hid hj
      have HPP := Lib.hid hp
      clear h1 h2 hbx hb8 hp hpY hs13 e13 hA13 hlt hj
      gi_step
      repeat' (gi_not_at_region 17; (first | gi_guarded | gi_step))
      obtain ⟨W2, hW2⟩ : ∃ W2, W2 = W.setCell ⟨g15, 0, none⟩ (.int .i64 (j : Int)) := ⟨_, rfl⟩
      have hW2' := hW2.symm
      first | rw [hW2'] | skip
      have hb2 : W2.heap[g15]? = some (.cells #[.int .i64 (j : Int)] 3 (0, 0)) := by rw [hW2]; exact heap_set HB.out.2.1 0 _
      have hw2 : ∀ k, k ≠ g15 → W2.heap[k]? = W.heap[k]? := fun k hk => by rw [hW2]; exact Below.heap_setCell _ _ _ k hk
      have hK2 : KpT w12.heap.size tauS W W2 := by rw [hW2]; exact kpT_box _ HB.out.2.1 0 _ hgle15 (by unfold tauS; decide)
      have hO2 : KeepsOthers W W2 := by rw [hW2]; exact KeepsOthers.setCell _ _ _
      have hE2 : Ext w12 W2 := by rw [hW2]; exact HB.out.1.setCell hgle15 _
      clear x0 x1 c15 f15 c6 c8 f8 hq1 hq2 l8 l15
      have c15 : W2.cell? ⟨g15, 0, none⟩ = some (.int .i64 (j : Int)) := by rw [cellG hb2]; rfl
      have hg6 := heap_lt H12.out.2.2.2.2.2
      have hg8 := heap_lt H12.out.2.2.2.1
      have hbx2 := (hw2 Bx (by omega)).trans HB.out.2.2.1
      have c6 : W2.cell? ⟨g16, 0, none⟩ = some (.slice (some ⟨b, o, none⟩) m C9) := by rw [cellG (box_extG H12.out.2.2.2.2.2 hE2)]; rfl
      have x0 : W2.cell? ⟨Bx, 0, none⟩ = some (str x.1) := by rw [cellG hbx2]; rfl
      have x1 : W2.cell? ⟨Bx, 1, none⟩ = some (str x.2) := by rw [cellG hbx2]; rfl
      obtain ⟨A14, C14, e14, _, _, _, hs14⟩ := H12.out.2.2.1
      have hA14 : A14 = some ⟨b, o, none⟩ := by injection e14 with h1; exact h1.symm
      rw [hA14] at hs14
      obtain ⟨b', o', e15, hq1, hq2⟩ := seg_pair (hs14.below hE2) HPP.out
      cases e15
      have hb8 := box_extG H12.out.2.2.2.1 hE2
      have c8 : W2.cell? ⟨gb, 0, none⟩ = some (.bool false) := by rw [cellG hb8]; rfl
      have f8 := freeG hb8 0
      have l8 := heap_lt hb8
      have H2 := Lib.hid (And.intro hb2 (And.intro hK2 (And.intro hO2 hE2)))
      have hj0 : ¬ ((j : Int) < 0) := by omega
      have hjm' : (j : Int) < (m : Int) := by omega
      clear hW2 hW2' hb2 hw2 hK2 hO2 hE2 hbx2 hb8 hs14 hA14 e14
      by_cases hxp : x = p
      · have hne : ∀ w, (binOp .neq 24 (.agg #[str x.1, str x.2]) (.agg #[str p.1, str p.2])).run Try.prog w = .ok (.bool false) w := fun w => by rw [neqP']; simp [hxp]
        clear hxp
        refine wpIn_region_quiet_round (F := Fence.wide) l rfl (by kernel_rfl) (by kernel_rfl) (by kernel_rfl) ?_
        repeat (gi_big_quiet_step (fail))
        refine wpQuietIn_nil ?_
        rintro _ ⟨nq, rfl⟩
        repeat' (first | gi_guarded | gi_step)
        have hd : Ext W2 (W2.drewN nq) := below_drewN (Ext.refl _) _
        exact ⟨(H2.out.2.2.1.trans ⟨hd.size, fun k o ho _ => box_extG ho hd⟩).from _, H2.out.2.1.trans (KeepQ.of_ext hd), j, by rw [List.length_append, List.length_singleton]; have := HJ.out; omega, Ext.trans H2.out.2.2.2 hd, box_extG H2.out.1 hd⟩
      · have hne : ∀ w, (binOp .neq 24 (.agg #[str x.1, str x.2]) (.agg #[str p.1, str p.2])).run Try.prog w = .ok (.bool true) w := fun w => by rw [neqP']; simp [hxp]
        have HXP := Lib.hid hxp
        clear hxp
        refine wpIn_region_quiet_round (F := Fence.wide) l rfl (by kernel_rfl) (by kernel_rfl) (by kernel_rfl) ?_
        repeat (gi_big_quiet_step (fail))
        refine wpQuietIn_nil ?_
        rintro _ ⟨nq, rfl⟩
        repeat' (first | gi_guarded | gi_step)
        have hd : Ext W2 (W2.drewN nq) := below_drewN (Ext.refl _) _
        refine ⟨((H2.out.2.2.1.trans ⟨hd.size, fun k o ho _ => box_extG ho hd⟩).trans (KeepsOthers.setCell _ _ _)).from _, rfl, ?_⟩
        rintro ⟨t, ht⟩
        have h9 := HP2.out
        rw [← ht] at h9
        simp at h9
        exact HXP.out h9
    case done =>
      rintro D xs W hD rfl ⟨j, hj, h1, h2⟩ hK
      obtain rfl : j = 0 := by have := HYL.out; omega
      have c15 : W.cell? ⟨g15, 0, none⟩ = some (.int .i64 0) := by rw [cellG h2]; rfl
      have hb8 := box_extG H12.out.2.2.2.1 h1
      have c8 : W.cell? ⟨gb, 0, none⟩ = some (.bool false) := by rw [cellG hb8]; rfl
      have f8 := freeG hb8 0
      have l8 := heap_lt hb8
      have HB := Lib.hid (And.intro h1 (And.intro hb8 hK))
      clear h1 h2 hb8 hK hj
      repeat' (first | go_skip | go_guarded | go_step)
      (try simp only [Exit.inBlock, Exit.then])
      repeat' (first | go_skip | go_guarded | go_step)
      have h5 := heap_set HB.out.2.1 0 (Value.bool true)
      have HE5 : Ext w (W.setCell ⟨gb, 0, none⟩ (.bool true)) := (Ext.trans H12.out.1 HB.out.1).setCell hgle _
      have hK5 : (W.setCell ⟨gb, 0, none⟩ (.bool true)).heap[D]? = some (.deferred (some [])) := (Below.heap_setCell _ _ _ D (fun e => by have := HB.out.2.2; rw [e, HB.out.2.1] at this; cases this)).trans HB.out.2.2
      have hg := grownBy_putObj' (W.setCell ⟨gb, 0, none⟩ (.bool true)) D (.deferred none)
      have hr : ∀ r, some D = some r → ∃ o : Obj, (W.setCell ⟨gb, 0, none⟩ (.bool true)).heap[r]? = some o ∧ o.isCells = false := fun r e => by cases e; exact ⟨_, hK5, rfl⟩
      refine postM_ret1 (results_box1 rfl _ _ gb (.bool true) _ _ _ rfl (heap_own h5 hg hr) Try.underlying4 rfl) rfl hK5 ⟨rfl, ?_⟩
      exact ext_own HE5 hg (Nat.le_trans H12.out.1.size hgle6) (fun r e => by cases e; exact hD)
    case stop =>
      rintro D c pre W hD hpre ⟨rfl, hno⟩ hK
      exact absurd hpre hno
end Go.Proofs.Ytbplddiopajocaa
