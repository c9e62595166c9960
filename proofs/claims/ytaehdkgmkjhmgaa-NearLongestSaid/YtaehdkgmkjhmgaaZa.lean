/- Contract: NearLongest. -/
import Derived.Test.YtaehdkgmkjhmgaaYn
import Derived.Test.YtaehdkgmkjhmgaaZc
namespace Go.Proofs.Ytaehdkgmkjhmgaa
open Go.RowKit Go.QS
set_option linter.unusedVariables false

/-- Of keys that are beginnings of one key, and rise, the shorter ones are those that one of them, without its last byte, begins with. -/
theorem longL_cut {X : List Pr} (h : Rise X) {key : List UInt8} {m : Nat} {q : Pr} {c : UInt8} {l : List UInt8} (hq : (X.filter fun p => begB key p.1)[m]? = some q) (hl : q.1 = c :: l) :
    longL (q.1.take l.length) X = ((X.filter fun p => begB key p.1).take m).getLast? := by
  unfold longL
  congr 1
  obtain ⟨F, hF⟩ : ∃ F, F = X.filter fun p => begB key p.1 := ⟨_, rfl⟩
  have hFp : F.Pairwise fun a b => a.1.length < b.1.length := by
    rw [hF]
    have h1 : (X.filter fun p => begB key p.1).Pairwise fun a b => a.1 < b.1 := List.Pairwise.filter _ h
    refine List.Pairwise.imp_of_mem ?_ h1
    intro a b ha hb hab
    exact begB_len (List.mem_filter.1 ha).2 (List.mem_filter.1 hb).2 hab
  have hqb : begB key q.1 = true := (List.mem_filter.1 (List.mem_of_getElem? hq)).2
  have e1 : (X.filter fun p => begB (q.1.take l.length) p.1) = F.filter fun p => decide (p.1.length < q.1.length) := by
    rw [hF, List.filter_filter]
    refine List.filter_congr fun p _ => ?_
    rw [Bool.eq_iff_iff, Bool.and_eq_true, decide_eq_true_eq, begB_iff, begB_iff]
    have hql : q.1.length = l.length + 1 := by rw [hl]; rfl
    obtain ⟨r, hr⟩ := begB_iff.1 hqb
    constructor
    · rintro ⟨s, hs⟩
      have h2 := congrArg List.length hs
      rw [List.length_take, List.length_append] at h2
      refine ⟨by omega, s ++ q.1.drop l.length ++ r, ?_⟩
      rw [hr, ← List.append_assoc, ← List.append_assoc, ← hs, List.take_append_drop]
    · rintro ⟨h2, s, hs⟩
      refine ⟨(q.1.take l.length).drop p.1.length, ?_⟩
      have h3 : p.1 = (q.1.take l.length).take p.1.length := by
        have h4 := congrArg (List.take p.1.length) (hr.symm.trans hs)
        rw [List.take_left, List.take_append_of_le_length (by omega)] at h4
        rw [List.take_take, Nat.min_eq_left (by omega), h4]
      conv => rhs; lhs; rw [h3]
      rw [List.take_append_drop]
  rw [e1, ← hF]
  rw [← hF] at hq
  obtain ⟨hm, hq2⟩ := List.getElem?_eq_some_iff.1 hq
  have hpw := List.pairwise_iff_getElem.1 hFp
  have e2 : F = F.take m ++ F.drop m := (List.take_append_drop m F).symm
  have f1 : (F.take m).filter (fun p => decide (p.1.length < q.1.length)) = F.take m := by
    refine List.filter_eq_self.2 fun p hp => ?_
    obtain ⟨t, ht⟩ := List.getElem?_of_mem hp
    have htl : t < m := by have := (List.getElem?_eq_some_iff.1 ht).1; rw [List.length_take] at this; omega
    rw [List.getElem?_take_of_lt htl] at ht
    obtain ⟨ht1, rfl⟩ := List.getElem?_eq_some_iff.1 ht
    rw [← hq2]
    simpa using hpw t m ht1 hm htl
  have f2 : (F.drop m).filter (fun p => decide (p.1.length < q.1.length)) = [] := by
    refine List.filter_eq_nil_iff.2 fun p hp => ?_
    obtain ⟨t, ht⟩ := List.getElem?_of_mem hp
    rw [List.getElem?_drop] at ht
    obtain ⟨ht1, rfl⟩ := List.getElem?_eq_some_iff.1 ht
    rw [← hq2]
    cases t with
    | zero => simp
    | succ t => have := hpw m (m + (t + 1)) hm ht1 (by omega); simp; omega
  have f3 : F.filter (fun p => decide (p.1.length < q.1.length)) = F.take m := by
    obtain ⟨f, hf⟩ : ∃ f : Pr → Bool, f = fun p => decide (p.1.length < q.1.length) := ⟨_, rfl⟩
    rw [← hf] at f1 f2 ⊢
    conv => lhs; rw [e2]
    rw [List.filter_append, f1, f2, List.append_nil]
  exact f3

theorem drop_filter_rev {X : List Pr} {j : Nat} {q : Pr} (f : Pr → Bool) (h : X[j]? = some q) : ((X.drop j).filter f).reverse = ((X.drop (j + 1)).filter f).reverse ++ if f q then [q] else [] := by
  obtain ⟨hj, rfl⟩ := List.getElem?_eq_some_iff.1 h
  rw [← List.getElem_cons_drop hj, List.filter_cons]
  cases f X[j] <;> simp

set_option maxRecDepth 100000 in
set_option maxHeartbeats 2000000 in
theorem nearLongest_c (w : World) (v : Value) (l : List Pr) (kk : List UInt8) (h : PS w v l) : Calls Try.prog 10 #[v, str kk] w fun e w' => e = .returned (.bool true) ∧ Ext w w' := by
  have HP := Lib.hid h
  obtain ⟨k, hk⟩ : ∃ k, k = kk.take 40 := ⟨_, rfl⟩
  have hkl : k.length ≤ 40 := by rw [hk, List.length_take]; omega
  have HK := Lib.hid hk
  obtain ⟨L, hL⟩ : ∃ L, L = (l.take 40).map cutP := ⟨_, rfl⟩
  have hLk : ∀ p ∈ L, p.1.length ≤ 40 := by
    intro p hp
    rw [hL] at hp
    obtain ⟨q, _, rfl⟩ := List.mem_map.1 hp
    simp [cutP]; omega
  have hLl : L.length ≤ 40 := by rw [hL]; simp; omega
  obtain ⟨hlab, hkd, hprs⟩ := treeOf_ok L hLk
  obtain ⟨X, hX⟩ : ∃ X, X = rsort L := ⟨_, rfl⟩
  have hXl : X.length ≤ 40 := by rw [hX]; have := rsort_length L; omega
  have hXr : Rise X := by rw [hX]; exact rsort_rise L
  have hXk : ∀ p ∈ X, p.1.length ≤ 40 := by
    intro p hp
    rw [hX] at hp
    exact hLk p (lastK_mem ((mem_rsort L p).1 hp)).1
  rw [← hX] at hprs
  have HT : Hid (Rise X ∧ (∀ p ∈ X, p.1.length ≤ 40) ∧ (treeOf L).prs = X ∧ Kd 40 (treeOf L).kids ∧ (treeOf L).lab = []) := Lib.hid ⟨hXr, hXk, hprs, hkd, hlab⟩
  have HL := Lib.hid hL
  have HX := Lib.hid hX
  have hfld := fieldN
  clear h hL hLk hlab hkd hprs hX hXr hXk hk
  go_enter Try.func10, Try.ntmps10
  repeat' (first | go_at_call 34 | go_skip | go_guarded | go_step)
  refine (awakeN_c w).mono ?_
  rintro e w0 ⟨rfl, f0⟩
  have H0 := Lib.hid f0
  clear f0
  go_simp
  repeat' (first | go_at_call 35 | go_skip | go_guarded | go_step)
  refine (tree_c w0 v l (HP.out.below H0.out)).mono ?_
  rintro e w1 ⟨g, v2, rfl, f1, r1, p1⟩
  rw [← HL.out, ← HX.out] at p1
  rw [← HL.out] at r1
  obtain ⟨A, C, rfl, hXlen, hn, hc, hs⟩ := p1
  have H1 : Hid (Ext w w1 ∧ Rep NT w1 g (treeOf L) ∧ Seg w1 A (flat X)) := Lib.hid ⟨Ext.trans H0.out f1, r1, hs⟩
  obtain ⟨n, hn2⟩ : ∃ n, n = X.length := ⟨_, rfl⟩
  rw [← hn2] at hn hXl ⊢
  have Hn := Lib.hid hn2
  clear f1 r1 hs hXlen hn2
  go_simp
  repeat' (first | go_at_call 40 | go_skip | go_guarded | go_step)
  refine (fewN_c _ kk).mono ?_
  rintro e w2 ⟨rfl, f2⟩
  rw [← HK.out]
  have H2 := Lib.hid f2
  clear f2
  go_simp
  repeat' (go_not_at_region 7; (first | go_skip | go_guarded | go_step))
  go_loopg [7, 8] n (fun gk v7 v8 wr => ∃ (j : Nat) (z : Int), v8 = .int .i64 z ∧ z = (j : Int) - 1 ∧ j ≤ n ∧ j ≤ gk ∧ Hid (Ext w2 wr ∧ wr.ownsRow w2.heap.size 40 2 v7 ((X.drop j).filter fun q => begB k q.1).reverse.length (flat ((X.drop j).filter fun q => begB k q.1).reverse)))
  case atStart => exact ⟨n, _, rfl, by go_num, Nat.le_refl _, Nat.le_refl _, Lib.hid ⟨Ext.refl _, by rw [List.drop_of_length_le (by have := Hn.out; omega)]; exact World.ownsRow_nil _ _ _ _⟩⟩
  case round =>
    obtain ⟨j, z, rfl, hz, hjn, hgk, HI⟩ := hrel
    cases j with
    | succ j =>
      obtain rfl : z = (j : Int) := by omega
      clear hz
      obtain ⟨q, hq⟩ := get_of_lt X (show j < X.length by have := Hn.out; omega)
      obtain ⟨b, o, rfl, hq1, hq2⟩ := seg_pair ((H1.out.2.2.below H2.out).below HI.out.1) hq
      have hi1 : (j : Int) < (n : Int) := by omega
      have hi0 : (0 : Int) ≤ (j : Int) := by omega
      have d1 : decide ((0 : Int) ≤ (j : Int)) = true := decide_eq_true hi0
      have hql := HT.out.2.1 q (List.mem_of_getElem? hq)
      have HD := Lib.hid (drop_filter_rev (fun q => begB k q.1) hq)
      have hWl : ((X.drop (j + 1)).filter fun q => begB k q.1).reverse.length ≤ 40 := by
        rw [List.length_reverse]
        refine Nat.le_trans (List.length_filter_le _ _) ?_
        rw [List.length_drop]
        have := Hn.out
        omega
      have hown := HI.out.2
      have hEw := HI.out.1
      obtain ⟨W, hW⟩ : ∃ W, W = ((X.drop (j + 1)).filter fun q => begB k q.1).reverse := ⟨_, rfl⟩
      rw [← hW] at hown hWl HD
      have HO := Lib.hid hown
      clear hq hW HI
      by_cases hle : q.1.length ≤ k.length
      · have d2 : decide (q.1.length ≤ k.length) = true := decide_eq_true hle
        have d3 : decide ((q.1.length : Int) ≤ (k.length : Int)) = true := decide_eq_true (by omega)
        have hle2 : (q.1.length : Int) ≤ (k.length : Int) := by omega
        cases hb : begB k q.1 with
        | true =>
          have hb1 : (k.take q.1.length == q.1) = true := hb
          have hb2 : decide (k.take q.1.length = q.1) = true := by rw [decide_eq_true_eq]; exact beq_iff_eq.1 hb1
          have hb3 : k.take q.1.length = q.1 := beq_iff_eq.1 hb1
          have HB := Lib.hid hb
          clear hb
          repeat' (go_not_at_region 9; (first | go_skip | go_guarded | go_step))
          go_quiet (fail)
          have hown' := fun m => row_ext HO.out (below_drewN (Ext.refl wr) m)
          have hE' := fun m => below_drewN hEw m
          repeat' (first | (at_builtin; refine wpList_appE (W := w2) rfl (.tmp 59) (.tmp 64) _ rfl 40 2 32 Try.underlying25 infoR (by decide) _ _ _ rfl ((hown' _).alloc _) ((hE' _).alloc (hE' _).size _) _ 1 1 [str q.1, str q.2] rfl rfl (Seg.new _ [_, _] _ (by simp)) (by intro u hu; simp at hu; rcases hu with rfl | rfl <;> rfl) (by unfold maxLen; omega) (by omega) ?_; intro v5 w5' hown5 hb5) | go_step)
          go_roundg j
          case measure => omega
          case rel =>
            refine ⟨j, _, rfl, by go_num, by omega, Nat.le_refl _, Lib.hid ⟨hb5, ?_⟩⟩
            rw [HD.out, HB.out]
            simp only [if_true]
            rw [List.length_append, flat_append]
            exact hown5
        | false =>
          have hb1 : (k.take q.1.length == q.1) = false := hb
          have hb2 : decide (k.take q.1.length = q.1) = false := by rw [decide_eq_false_iff_not]; exact fun e => by rw [e] at hb1; simp at hb1
          have HB := Lib.hid hb
          clear hb
          repeat' (go_not_at_region 9; (first | go_skip | go_guarded | go_step))
          go_quiet (fail)
          repeat' (first | go_skip | go_guarded | go_step)
          go_roundg j
          case measure => omega
          case rel =>
            refine ⟨j, _, rfl, by go_num, by omega, Nat.le_refl _, Lib.hid ⟨below_drewN hEw _, ?_⟩⟩
            rw [HD.out, HB.out]
            simp only [Bool.false_eq_true, if_false, List.append_nil]
            exact row_ext HO.out (below_drewN (Ext.refl _) _)
      · have d2 : decide (q.1.length ≤ k.length) = false := decide_eq_false hle
        have d3 : decide ((q.1.length : Int) ≤ (k.length : Int)) = false := decide_eq_false (by omega)
        have HB : Hid (begB k q.1 = false) := Lib.hid (by rw [Bool.eq_false_iff]; exact fun h => hle (begB_le h))
        repeat' (go_not_at_region 9; (first | go_skip | go_guarded | go_step))
        go_quiet (fail)
        repeat' (first | go_skip | go_guarded | go_step)
        go_roundg j
        case measure => omega
        case rel =>
          refine ⟨j, _, rfl, by go_num, by omega, Nat.le_refl _, Lib.hid ⟨below_drewN hEw _, ?_⟩⟩
          rw [HD.out, HB.out]
          simp only [Bool.false_eq_true, if_false, List.append_nil]
          exact row_ext HO.out (below_drewN (Ext.refl _) _)
    | zero =>
      obtain rfl : z = -1 := by omega
      clear hz
      obtain ⟨F, hF⟩ : ∃ F, F = X.filter fun q => begB k q.1 := ⟨_, rfl⟩
      have hFl : F.length ≤ 40 := by rw [hF]; exact Nat.le_trans (List.length_filter_le _ _) (by have := Hn.out; omega)
      have hown := HI.out.2
      rw [List.drop_zero, ← hF, List.length_reverse] at hown
      obtain ⟨A7, C7, rfl⟩ := own_slice hown
      have hsg : Seg wr A7 (flat F.reverse) := by
        obtain ⟨A', C', e, _, _, _, h4⟩ := (Sl.of_own hown : Sl wr 2 _ F.length (flat F.reverse))
        cases e
        exact h4
      obtain ⟨m, hm⟩ : ∃ m, m = F.length := ⟨_, rfl⟩
      have HF : Hid (F = X.filter (fun q => begB k q.1) ∧ Ext w1 wr ∧ Seg wr A7 (flat F.reverse) ∧ m = F.length) := Lib.hid ⟨hF, Ext.trans H2.out HI.out.1, hsg, hm⟩
      rw [← hm] at hFl ⊢
      clear hF hown hsg hm HI
      repeat' (go_not_at_region 13; (first | go_skip | go_guarded | go_step))
      go_loopg [9, 69] m (fun gk v9 v69 wx => ∃ (t : Nat) (a : List UInt8), v9 = str a ∧ v69 = .int .i64 t ∧ t ≤ m ∧ m - t ≤ gk ∧ a.length ≤ 40 ∧ Hid (Ext wr wx ∧ longL a X = (F.take (m - t)).getLast?))
      case atStart => exact ⟨0, k, rfl, rfl, Nat.zero_le _, by omega, hkl, Lib.hid ⟨Ext.refl _, by rw [Nat.sub_zero, List.take_of_length_le (by have := HF.out.2.2.2; omega), HF.out.1]; rfl⟩⟩
      case round =>
        obtain ⟨t, a, rfl, rfl, htm, hgk2, ha, HJ⟩ := hrel
        rcases Nat.lt_or_ge t m with hlt | hge
        · have d1 : decide (t < m) = true := by simp [hlt]
          obtain ⟨q, hq⟩ := get_of_lt F.reverse (show t < F.reverse.length by rw [List.length_reverse]; have := HF.out.2.2.2; omega)
          obtain ⟨b, o, rfl, hq1, hq2⟩ := seg_pair (HF.out.2.2.1.below HJ.out.1) hq
          have hi1 : (t : Int) < (m : Int) := by omega
          have hqF : F[m - 1 - t]? = some q := by
            rw [List.getElem?_reverse (by have := HF.out.2.2.2; omega)] at hq
            rw [HF.out.2.2.2]; exact hq
          have hlast : longL a X = some q := by
            rw [HJ.out.2, List.getLast?_eq_getElem?, List.length_take, List.getElem?_take_of_lt (by have := HF.out.2.2.2; omega), ← hqF]
            congr 1
            have := HF.out.2.2.2
            omega
          have hql : q.1.length ≤ 40 := HT.out.2.1 q (by have := List.mem_of_getElem? hqF; rw [HF.out.1] at this; exact (List.mem_filter.1 this).1)
          have HQ : Hid (F[m - 1 - t]? = some q ∧ longL a X = some q) := Lib.hid ⟨hqF, hlast⟩
          have hne : ∀ w, (binOp .neq 40 (.agg #[str q.1, str q.2]) (.agg #[str q.1, str q.2])).run Try.prog w = .ok (.bool false) w := fun w => by rw [neqN]; simp
          clear hq hqF hlast
          repeat' (first | go_at_call 41 | go_skip | go_guarded | go_step)
          obtain ⟨wy, hwy⟩ : ∃ wy, wy = wr.alloc (.cells #[str q.1, str q.2] 40) := ⟨_, rfl⟩
          obtain ⟨yb, hyb⟩ : ∃ yb, yb = wr.heap.size := ⟨_, rfl⟩
          have hEy : Ext wr wy := by rw [hwy]; exact (Ext.refl _).alloc (Nat.le_refl _) _
          have hby := heap_new wr (.cells #[str q.1, str q.2] 40)
          rw [← hwy, ← hyb] at hby
          have hwy' := hwy.symm
          rw [hwy', ← hyb]
          have HY : Hid (Ext w1 wy ∧ Ext wr wy ∧ wy.heap[yb]? = some (.cells #[str q.1, str q.2] 40 (0, 0))) := Lib.hid ⟨Ext.trans HF.out.2.1 (Ext.trans HJ.out.1 hEy), hEy, hby⟩
          clear hwy hwy' hEy hby hyb hq1 hq2
          refine (longest_c wy (ptr g) (treeOf L) 40 a (.of (H1.out.2.1.ext HY.out.1)) HT.out.2.2.2.1 HT.out.2.2.2.2 (by decide) (by omega)).mono ?_
          rintro e w4 ⟨rfl, f4⟩
          rw [HT.out.2.2.1, HQ.out.2]
          simp only [optR]
          have hb4 := bx_ext HY.out.2.2 f4
          obtain ⟨k0, k1⟩ := bx_cells hb4
          have hyl := heap_lt hb4
          have H4 : Hid (Ext w1 w4 ∧ Ext wr w4) := Lib.hid ⟨Ext.trans HY.out.1 f4, Ext.trans HY.out.2.1 f4⟩
          clear f4 hb4
          go_simp
          obtain ⟨qk, qv⟩ := q
          simp only at k0 k1 hne hql HQ
          cases qk with
          | nil =>
            repeat' (first | go_skip | go_guarded | go_step)
            go_ret
            exact ⟨rfl, Ext.trans H1.out.1 (H4.out.1.alloc H4.out.1.size _)⟩
          | cons c l =>
            have hcut := longL_cut HT.out.1 (key := k) (m := m - 1 - t) (q := (c :: l, qv)) (by rw [← HF.out.1]; exact HQ.out.1) rfl
            have HCU := Lib.hid hcut
            have hs1 : ((((c :: l).length : Nat) : Int) - 1) = (l.length : Int) := by simp
            have hs2 : ((l.length : Int) + 1 - 1) = (l.length : Int) := by omega
            have hs3 : (l.length : Int) ≤ (((c :: l).length : Nat) : Int) := by rw [List.length_cons]; omega
            have hs4 : (l.length : Int) ≤ (l.length : Int) + 1 := by omega
            have hs0 : (0 : Int) ≤ (l.length : Int) := by omega
            obtain ⟨a2, ha2⟩ : ∃ a2, a2 = (c :: l).take l.length := ⟨_, rfl⟩
            have ha2' : (c :: l).take l.length = a2 := ha2.symm
            have ha29 : a2.length ≤ 40 := by rw [ha2, List.length_take]; omega
            have HA2 := Lib.hid ha2
            clear hcut ha2
            repeat' (first | go_skip | go_guarded | go_step)
            go_roundg (m - (t + 1))
            case measure => omega
            case rel =>
              refine ⟨t + 1, a2, rfl, by go_num, by omega, Nat.le_refl _, ha29, Lib.hid ⟨Ext.trans HJ.out.1 (H4.out.2.alloc H4.out.2.size _), ?_⟩⟩
              rw [HA2.out, HCU.out, ← HF.out.1]
              congr 2
              omega
        · obtain rfl : t = m := by omega
          have d1 : decide (t < t) = false := by simp
          have hl0 : longL a X = none := by rw [HJ.out.2, Nat.sub_self]; rfl
          have HL0 := Lib.hid hl0
          have HE := Lib.hid (Ext.trans HF.out.2.1 HJ.out.1)
          clear hl0
          repeat' (first | go_at_call 41 | go_skip | go_guarded | go_step)
          refine (longest_c wr (ptr g) (treeOf L) 40 a (.of (H1.out.2.1.ext HE.out)) HT.out.2.2.2.1 HT.out.2.2.2.2 (by decide) (by omega)).mono ?_
          rintro e w4 ⟨rfl, f4⟩
          rw [HT.out.2.2.1, HL0.out]
          simp only [optR]
          have H4 := Lib.hid (Ext.trans HE.out f4)
          clear f4
          go_simp
          repeat' (first | go_skip | go_guarded | go_step)
          go_ret
          exact ⟨rfl, Ext.trans H1.out.1 (H4.out.alloc H4.out.size _)⟩
end Go.Proofs.Ytaehdkgmkjhmgaa
