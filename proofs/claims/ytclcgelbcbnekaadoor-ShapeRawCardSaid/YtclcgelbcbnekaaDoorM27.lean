/- Texts joined. -/
import Derived.Test.YtclcgelbcbnekaaDoorM08
import Derived.Test.YtclcgelbcbnekaaDoorM25
import Derived.Test.YtclcgelbcbnekaaDoorM12
import Derived.Test.YtclcgelbcbnekaaDoorM05
import Derived.Test.YtclcgelbcbnekaaDoorM06
set_option linter.unusedVariables false
set_option linter.unusedSimpArgs false
/- Contracts: the document's Four, Pairs. -/
namespace Go.Proofs.YtclcgelbcbnekaaDoor
open Go.RowKit Go.QS Go.QS.Nk
set_option linter.unusedVariables false
variable [Zero (Nat → Prop)]
set_option linter.unusedSectionVars false

theorem layB_four (n : Nat) : layB n 4 = [UInt8.ofNat n, UInt8.ofNat (n / 256), UInt8.ofNat (n / 65536), UInt8.ofNat (n / 16777216)] := by
  simp [layB, List.range_succ, Nat.shiftRight_eq_div_pow]
set_option maxRecDepth 100000 in
theorem four_c (w : World) (n : Nat) (hn : n < 4294967296) : Calls Tryd.prog 33 #[.int .u32 n] w fun e w' => ∃ v', e = .returned v' ∧ w'.ownsRow w.heap.size 5 1 v' 4 (encB (layB n 4)) ∧ Ext w w' := by
  obtain ⟨x0, hx0⟩ : ∃ x0, x0 = UInt8.ofNat n := ⟨_, rfl⟩
  obtain ⟨x1, hx1⟩ : ∃ x1, x1 = UInt8.ofNat (n / 256) := ⟨_, rfl⟩
  obtain ⟨x2, hx2⟩ : ∃ x2, x2 = UInt8.ofNat (n / 65536) := ⟨_, rfl⟩
  obtain ⟨x3, hx3⟩ : ∃ x3, x3 = UInt8.ofNat (n / 16777216) := ⟨_, rfl⟩
  have hb0 : (n : Int) % 256 = (x0.toNat : Int) := by rw [hx0]; simp
  have hb1 : (n : Int) / 256 % 256 = (x1.toNat : Int) := by rw [hx1]; simp
  have hb2 : (n : Int) / 65536 % 256 = (x2.toNat : Int) := by rw [hx2]; simp
  have hb3 : (n : Int) / 16777216 = (x3.toNat : Int) := by rw [hx3]; simp; omega
  have HX : Hid (layB n 4 = [x0, x1, x2, x3]) := Lib.hid (by rw [hx0, hx1, hx2, hx3, layB_four])
  clear hx0 hx1 hx2 hx3
  go_enter Tryd.func33, Tryd.ntmps33
  repeat' (first | go_skip | go_guarded | go_step)
  go_ret
  refine ⟨_, rfl, ?_, (Ext.refl w).alloc (Nat.le_refl _) _⟩
  rw [HX.out]
  exact own_lit (size := 1) (encB [x0, x1, x2, x3]) 4 (by decide) rfl (Nat.le_refl _)
end Go.Proofs.YtclcgelbcbnekaaDoor
/- Contract: the document's Pairs. -/
namespace Go.Proofs.YtclcgelbcbnekaaDoor
open Go.RowKit Go.QS Go.QS.Nk
set_option linter.unusedVariables false
variable [Zero (Nat → Prop)]
set_option linter.unusedSectionVars false

abbrev R3T : TypeId := 52
theorem infoU8y : ∃ i z, Tryd.prog.info? 5 = some i ∧ i.zero = some z ∧ i.size = 1 ∧ i.bytes = 1 ∧ z.cells.size = 1 := info_of (z := .int .u8 0) (by kernel_rfl) rfl
theorem oper_appY {P : Program} {w : World} {o : Oper} {a : Act} {K : Act → World → Prop} {Q : Exit → Act → World → Prop} (s x : Operand) (t : TypeId)
    (ho : o.op = .call { callee := .builtin .append, args := #[s, x], argTypes := #[t, t] })
    (base : Nat) (e : TypeId) (size bytes : Nat) (ht : P.underlying t = some (.slice e)) (hi : ∃ i z, P.info? e = some i ∧ i.zero = some z ∧ i.size = size ∧ i.bytes = bytes ∧ z.cells.size = size) (hsz : 0 < size)
    (v : Value) (n : Nat) (xs : List Value) (hs : a.eval s = v) (hown : w.ownsRow base e size v n xs)
    (A : Option Addr) (m c : Nat) (news : List Value) (hx : a.eval x = .slice A m c) (hl : news.length = m * size) (hr : Seg w A news) (h1 : ∀ u ∈ news, u.oneCell' = true)
    (h63 : n + m ≤ maxLen) (hbytes : (n + m) * bytes ≤ 140737488355328) (hbase : base ≤ w.heap.size)
    (h : ∀ v' w', w'.ownsRow base e size v' (n + m) (xs ++ news) → w.grownBy w' v.ownBlock → (v'.ownBlock = v.ownBlock ∨ v'.ownBlock = some w.heap.size) → K (a.put o.dst v') w') : o.wp P a w K Q := by
  obtain ⟨i, z, hi, hz, hsize, hby, hzs⟩ := hi
  obtain ⟨v', w', hrun, h2, h3, h4⟩ := run_app (P := P) w base t o.type e i z size bytes ht hi hz hsize hby hzs hsz v n xs hown A m c news hl hr h1 h63 hbytes hbase
  unfold Oper.wp execOp
  simp only [ho, resolve, invoke, builtin, Sem.run_bind, Sem.run_pure, Result.andThen_ok, List.map_toArray, List.map_cons, List.map_nil, hs, hx, hrun]
  exact h v' w' h2 h3 h4
/-- A row of bytes that are being written, a pair's block beside it. -/
structure RySt (w0 w : World) (v : Value) (L : List UInt8) (g : Nat) (x : Pr) : Prop where
  row : w.ownsRow w0.heap.size 5 1 v L.length (encB L)
  ext : Ext w0 w
  box : w.heap[g]? = some (.cells #[str x.1, str x.2] R3T (0, 0))
  ne : ∀ b, v.ownBlock = some b → b ≠ g
section
variable {w0 w w' : World} {v v' : Value} {L M : List UInt8} {g : Nat} {x : Pr}
theorem RySt.ext' (h : RySt w0 w v L g x) (f : Ext w w') : RySt w0 w' v L g x := ⟨row_ext h.row f, Ext.trans h.ext f, box_extG h.box f, h.ne⟩
theorem RySt.app (h : RySt w0 w v L g x) {m : Nat} (hm : m = M.length) (r : w'.ownsRow w0.heap.size 5 1 v' (L.length + m) (encB L ++ encB M)) (k : w.grownBy w' v.ownBlock) (n : v'.ownBlock = v.ownBlock ∨ v'.ownBlock = some w.heap.size) : RySt w0 w' v' (L ++ M) g x := by
  subst hm
  refine ⟨by rw [List.length_append, encB_append]; exact r, h.ext.grown k h.ext.size (fun b hb => (World.ownsRow.lt h.row b hb).1), (k.block g (heap_lt h.box) (fun e => h.ne g e.symm rfl)).trans h.box, fun b hb => ?_⟩
  rcases n with n | n
  · exact h.ne b (by rw [← n]; exact hb)
  · rw [hb] at n
    have := Option.some.inj n
    have h2 := heap_lt h.box
    omega
end
theorem box2Y {w : World} {g : Nat} {a b : Value} {t : TypeId} {f : Nat × Nat} (h : w.heap[g]? = some (.cells #[a, b] t f)) : w.cell? ⟨g, 0, none⟩ = some a ∧ w.cell? ⟨g, 1, none⟩ = some b :=
  ⟨by rw [cellG h]; rfl, by rw [cellG h]; rfl⟩
theorem wp_nameZ {P : Program} {c : Code} {Q : Exit → Act → World → Prop} {a : Act} {W : World} (R : World → Prop) (hR : R W) (h : ∀ w', Hid (R w') → c.wp P Q a w') : c.wp P Q a W := h W (Lib.hid hR)
theorem textB_ge (s : List UInt8) : s.length ≤ (textB s).length := by rw [textB_len]; omega

set_option maxRecDepth 100000 in
set_option maxHeartbeats 2000000 in
theorem rpairs_5 (w0 wr : World) (v3 : Value) (L : List UInt8) (g : Nat) (a b : List UInt8) (nl : Nat) (HS : Hid (RySt w0 wr v3 L g (a, b) ∧ nl = L.length)) (hn9 : nl + (textB a).length + (textB b).length ≤ 90000000) (c : Code) (QX : Exit → Act → World → Prop) (t0 t1 t2 t4 t6 t7 t8 t9 t10 t11 t12 t13 t14 t15 t16 t17 t18 t19 t20 t21 t22 : Value)
    (hc : (Tryd.f32.body.bind (findR 5)) = some c)
    (hQ : ∀ (u3 u12 u13 u14 u15 u16 u17 u18 u19 u20 : Value) (wx : World), RySt w0 wx u3 (L ++ textB a ++ textB b) g (a, b) → QX .normal { tmps := List.toArray (t0 :: t1 :: t2 :: u3 :: t4 :: (ptr g) :: t6 :: t7 :: t8 :: t9 :: t10 :: t11 :: u12 :: u13 :: u14 :: u15 :: u16 :: u17 :: u18 :: u19 :: u20 :: t21 :: t22 :: []), defers := [] } wx) :
    c.wp Tryd.prog QX { tmps := List.toArray (t0 :: t1 :: t2 :: v3 :: t4 :: (ptr g) :: t6 :: t7 :: t8 :: t9 :: t10 :: t11 :: t12 :: t13 :: t14 :: t15 :: t16 :: t17 :: t18 :: t19 :: t20 :: t21 :: t22 :: []), defers := [] } wr := by
  change some _ = some c at hc
  cases hc
  have HQF := Lib.hid hQ
  clear hQ
  have hp1 := textB_ge a
  have hp2 := textB_ge b
  have HcS : Hid (∀ y : World, y.heap[g]? = wr.heap[g]? → (fun y : World => y.cell? ⟨g, 0, none⟩ = some (str a) ∧ y.cell? ⟨g, 1, none⟩ = some (str b)) y) := Lib.hid (fun y hy => by
    have hb := HS.out.1.box
    rw [← hy] at hb
    exact box2Y hb)
  have hgl := heap_lt HS.out.1.box
  refine wp_region_noPanic ?_
  refine wp_region_T (n := 9) (S := (fun y : World => y.cell? ⟨g, 0, none⟩ = some (str a) ∧ y.cell? ⟨g, 1, none⟩ = some (str b))) (by kernel_rfl) ?_
  change wpAnyT _ _ _ _ _ _ 10 _ _ wr.drew
  obtain ⟨x0, hx0⟩ : ∃ y, y = wr.drew := ⟨_, rfl⟩
  have H0 : Hid (RySt w0 x0 v3 L g (a, b)) := Lib.hid (by rw [hx0]; exact HS.out.1.ext' ((Ext.refl wr).drew))
  rw [← hx0]
  clear hx0
  have hH : (fun y : World => y.cell? ⟨g, 0, none⟩ = some (str a) ∧ y.cell? ⟨g, 1, none⟩ = some (str b)) x0 := HcS.out _ (by rw [H0.out.box, HS.out.1.box])
  refine wpAnyT_take (i := 0) (v := ?_) rfl (by kernel_rfl) (by kernel_rfl) (by kernel_rfl) (by kernel_rfl) (fun _ _ _ h => h) (Or.inl ⟨by rfl, ?_⟩) hH ?_
  rotate_left
  · (intro w hSw; (try dsimp only at hSw); go_simp; try with_reducible rfl)
  try simp only [Act.put, List.setIfInBounds_toArray, List.set_cons_zero, List.set_cons_succ]
  refine wpAnyT_take (i := 1) (v := ?_) rfl (by kernel_rfl) (by kernel_rfl) (by kernel_rfl) (by kernel_rfl) (fun _ _ _ h => h) (Or.inl ⟨by rfl, ?_⟩) hH ?_
  rotate_left
  · (intro w hSw; (try dsimp only at hSw); go_simp; try with_reducible rfl)
  try simp only [Act.put, List.setIfInBounds_toArray, List.set_cons_zero, List.set_cons_succ]
  refine wpAnyT_take (i := 2) (v := ?_) rfl (by kernel_rfl) (by kernel_rfl) (by kernel_rfl) (by kernel_rfl) (fun _ _ _ h => h) (Or.inl ⟨by rfl, ?_⟩) hH ?_
  rotate_left
  · (intro w hSw; (try dsimp only at hSw); go_simp; try with_reducible rfl)
  try simp only [Act.put, List.setIfInBounds_toArray, List.set_cons_zero, List.set_cons_succ]
  refine wpAnyT_take (i := 5) (v := ?_) rfl (by kernel_rfl) (by kernel_rfl) (by kernel_rfl) (by kernel_rfl) (fun _ _ _ h => h) (Or.inl ⟨by rfl, ?_⟩) hH ?_
  rotate_left
  · (intro w hSw; (try dsimp only at hSw); go_simp; try with_reducible rfl)
  try simp only [Act.put, List.setIfInBounds_toArray, List.set_cons_zero, List.set_cons_succ]
  refine wpAnyT_take (i := 6) (v := ?_) rfl (by kernel_rfl) (by kernel_rfl) (by kernel_rfl) (by kernel_rfl) (fun _ _ _ h => h) (Or.inl ⟨by rfl, ?_⟩) hH ?_
  rotate_left
  · (intro w hSw; (try dsimp only at hSw); go_simp; try with_reducible rfl)
  try simp only [Act.put, List.setIfInBounds_toArray, List.set_cons_zero, List.set_cons_succ]
  clear hH
  refine wpAnyT_all (rs := [3]) (by kernel_rfl) (by simp) ?_
  intro i9 hi9
  obtain rfl := List.mem_singleton.1 hi9
  refine wpOp_goK rfl rfl (fun K9 hK9 => ?_)
  go_simp
  refine (rtext_c x0 a (by omega)).mono ?_
  rintro e x1 ⟨v1, rfl, r1, f1⟩
  obtain ⟨A1, C1, rfl⟩ := own_slice r1
  have H1 : Hid (RySt w0 x1 v3 (L) g (a, b) ∧ Seg x1 A1 (encB (textB a))) := Lib.hid ⟨H0.out.ext' f1, by obtain ⟨A, c, e, _, _, _, hs⟩ := BS.of_own r1; cases e; exact hs⟩
  clear r1 f1 H0
  go_simp
  refine hK9.out _ _ ⟨.inr (HcS.out _ (by rw [H1.out.1.box, HS.out.1.box])), ?_⟩
  clear hK9 K9
  refine wpAnyT_all (rs := [4]) (by kernel_rfl) (by simp) ?_
  intro i9 hi9
  obtain rfl := List.mem_singleton.1 hi9
  refine wpOp_goK rfl rfl (fun K9 hK9 => ?_)
  refine oper_appY (.tmp 12) (.tmp 15) _ rfl w0.heap.size 5 1 1 Tryd.underlying34 infoU8y (by decide) v3 (L).length (encB (L)) rfl (by exact H1.out.1.row) _ _ _ (encB (textB a)) rfl (by rw [encB_length, Nat.mul_one]) (by exact H1.out.2) (encB_one _) (by (try simp only [List.length_append]); rw [← HS.out.2]; unfold maxLen; omega) (by (try simp only [List.length_append]); rw [← HS.out.2]; omega) H1.out.1.ext.size ?_
  intro v2 x2 r2 g2 n2
  have H2 : Hid (RySt w0 x2 v2 (L ++ textB a) g (a, b)) := Lib.hid (H1.out.1.app rfl r2 g2 n2)
  clear r2 g2 n2 H1
  refine hK9.out _ _ ⟨.inr (HcS.out _ (by rw [H2.out.box, HS.out.1.box])), ?_⟩
  clear hK9 K9
  try simp only [Act.put, List.setIfInBounds_toArray, List.set_cons_zero, List.set_cons_succ]
  refine wpAnyT_all (rs := [7]) (by kernel_rfl) (by simp) ?_
  intro i9 hi9
  obtain rfl := List.mem_singleton.1 hi9
  refine wpOp_goK rfl rfl (fun K9 hK9 => ?_)
  go_simp
  refine (rtext_c x2 b (by omega)).mono ?_
  rintro e x3 ⟨v3, rfl, r3, f3⟩
  obtain ⟨A3, C3, rfl⟩ := own_slice r3
  have H3 : Hid (RySt w0 x3 v2 (L ++ textB a) g (a, b) ∧ Seg x3 A3 (encB (textB b))) := Lib.hid ⟨H2.out.ext' f3, by obtain ⟨A, c, e, _, _, _, hs⟩ := BS.of_own r3; cases e; exact hs⟩
  clear r3 f3 H2
  go_simp
  refine hK9.out _ _ ⟨.inr (HcS.out _ (by rw [H3.out.1.box, HS.out.1.box])), ?_⟩
  clear hK9 K9
  refine wpAnyT_all (rs := [8]) (by kernel_rfl) (by simp) ?_
  intro i9 hi9
  obtain rfl := List.mem_singleton.1 hi9
  refine wpOp_goK rfl rfl (fun K9 hK9 => ?_)
  refine oper_appY (.tmp 16) (.tmp 19) _ rfl w0.heap.size 5 1 1 Tryd.underlying34 infoU8y (by decide) v2 (L ++ textB a).length (encB (L ++ textB a)) rfl (by exact H3.out.1.row) _ _ _ (encB (textB b)) rfl (by rw [encB_length, Nat.mul_one]) (by exact H3.out.2) (encB_one _) (by (try simp only [List.length_append]); rw [← HS.out.2]; unfold maxLen; omega) (by (try simp only [List.length_append]); rw [← HS.out.2]; omega) H3.out.1.ext.size ?_
  intro v4 x4 r4 g4 n4
  have H4 : Hid (RySt w0 x4 v4 (L ++ textB a ++ textB b) g (a, b)) := Lib.hid (H3.out.1.app rfl r4 g4 n4)
  clear r4 g4 n4 H3
  refine hK9.out _ _ ⟨.inr (HcS.out _ (by rw [H4.out.box, HS.out.1.box])), ?_⟩
  clear hK9 K9
  try simp only [Act.put, List.setIfInBounds_toArray, List.set_cons_zero, List.set_cons_succ]
  refine wpAnyT_tail 9 (Nat.le_refl _) rfl (by kernel_rfl) ?_
  simp only [List.drop_succ_cons, List.drop_zero]
  repeat' go_step
  refine NoPanic.normal ?_
  refine HQF.out _ _ _ _ _ _ _ _ _ _ _ H4.out


set_option maxRecDepth 100000 in
set_option maxHeartbeats 2000000 in
theorem rpairs7_c (w : World) (v : Value) (l : List Pr) (h : PS w v l) (h9 : (prsB l).length ≤ 80000000) (hl9 : l.length ≤ 1000000000) :
    Calls Tryd.prog 32 #[v] w fun e w' => ∃ v', e = .returned v' ∧ w'.ownsRow w.heap.size 5 1 v' (prsB l).length (encB (prsB l)) ∧ Ext w w' := by
  obtain ⟨A, c, rfl, _, hn, hc, hs⟩ := h
  obtain ⟨n, hn2⟩ : ∃ n, n = l.length := ⟨_, rfl⟩
  rw [← hn2] at hl9 hn ⊢
  have Hn := Lib.hid (And.intro hn2 (And.intro h9 hs))
  clear hn2 hs h9
  go_enter Tryd.func32, Tryd.ntmps32
  repeat' (go_not_at_region 3; (first | go_skip | go_guarded | go_step))
  go_loopg [3, 8] n (fun gk v3 v8 wr => ∃ j : Nat, v8 = .int .i64 j ∧ j ≤ n ∧ n - j ≤ gk ∧ Hid (wr.ownsRow w.heap.size 5 1 v3 (prsB (l.take j)).length (encB (prsB (l.take j))) ∧ Ext w wr))
  case atStart => exact ⟨0, rfl, Nat.zero_le _, Nat.le_refl _, Lib.hid ⟨World.ownsRow_nil _ _ _ _, Ext.refl _⟩⟩
  case round =>
    obtain ⟨j, rfl, hjn, hgk, HJ⟩ := hrel
    rcases Nat.lt_or_ge j n with hjl | hjg
    · have d2 : decide (j < n) = true := by simp [hjl]
      obtain ⟨⟨a, b⟩, hx⟩ := get_of_lt l (show j < l.length by have := Hn.out.1; omega)
      obtain ⟨bb, o, rfl, q0, q1⟩ := seg_pair (Seg.below Hn.out.2.2 HJ.out.2) hx
      have hi1 : (j : Int) < (n : Int) := by omega
      have HX : Hid (prsB (l.take (j + 1)) = prsB (l.take j) ++ textB a ++ textB b) := Lib.hid (by rw [prsB_take hx, prB, List.append_assoc])
      have hbl : (prsB (l.take j)).length + (textB a).length + (textB b).length ≤ 80000000 := by
        have h1 := prsB_le l (j + 1)
        rw [HX.out, List.length_append, List.length_append] at h1
        have := Hn.out.2.1
        omega
      obtain ⟨L, hL⟩ : ∃ L, L = prsB (l.take j) := ⟨_, rfl⟩
      rw [← hL] at HJ HX hbl
      clear hx hL
      repeat' (go_not_at_region 5; (first | go_skip | go_guarded | go_step))
      obtain ⟨g, hg⟩ : ∃ g, g = wr.heap.size := ⟨_, rfl⟩
      rw [← hg]
      refine wp_nameZ (fun w' => RySt w w' u3 L g (a, b)) ?_ ?_
      · have hE : Ext wr (wr.alloc (.cells #[str a, str b] R3T)) := (Ext.refl _).alloc (Nat.le_refl _) _
        exact ⟨row_ext HJ.out.1 hE, Ext.trans HJ.out.2 hE, by rw [hg]; exact heap_newG wr _, fun b hb => by have := (World.ownsRow.lt HJ.out.1 b hb).2; omega⟩
      clear hg q0 q1
      intro w3 H3
      refine rpairs_5 w w3 u3 L g a b L.length (Lib.hid ⟨H3.out, rfl⟩) (by omega) _ _ _ _ _ _ _ _ _ _ _ _ _ _ _ _ _ _ _ _ _ _ _ (by kernel_rfl) ?_
      intro u3 u12 u13 u14 u15 u16 u17 u18 u19 u20 w6 H6
      have HF : Hid (w6.ownsRow w.heap.size 5 1 u3 (prsB (l.take (j + 1))).length (encB (prsB (l.take (j + 1)))) ∧ Ext w w6) := Lib.hid (by rw [HX.out]; exact ⟨H6.row, H6.ext⟩)
      clear H6
      repeat' (first | go_skip | go_guarded | go_step)
      go_roundg (n - (j + 1))
      case measure => omega
      case rel => exact ⟨j + 1, by go_num, by omega, Nat.le_refl _, HF⟩
    · obtain rfl : n = j := by omega
      have d2 : decide (n < n) = false := by simp
      repeat' (first | go_skip | go_guarded | go_step)
      go_ret
      have := HJ.out
      rw [List.take_of_length_le (by have := Hn.out.1; omega)] at this
      exact ⟨_, rfl, this.1, this.2⟩
end Go.Proofs.YtclcgelbcbnekaaDoor
