/- Contract: the document's number. -/
import Derived.Test.YtigoffdehdobiaaGreatBe
set_option linter.unusedVariables false
set_option linter.unusedSimpArgs false
namespace Go.Proofs.YtigoffdehdobiaaGreat
open Go.RowKit Go.QS
set_option linter.unusedVariables false

theorem hv_drop_le : ∀ (l : List UInt8) (j : Nat), hv (l.drop j) ≤ hv l
  | [], j => by simp
  | b :: l, 0 => by simp
  | b :: l, j + 1 => by
    have := hv_drop_le l j
    simp only [List.drop_succ_cons, hv]
    omega
theorem kd_le : ∀ (k : Nat) (l : List UInt8), kd k l ≤ k
  | 0, l => by simp [kd]
  | k + 1, [] => by simp [kd]
  | k + 1, b :: l => by
    simp only [kd]
    split
    · have := kd_le k l; omega
    · omega
theorem kd_len : ∀ (k : Nat) (l : List UInt8), kd k l ≤ l.length
  | 0, l => by simp [kd]
  | k + 1, [] => by simp [kd]
  | k + 1, b :: l => by
    simp only [kd]
    split
    · have := kd_len k l; simp; omega
    · omega
/-- The byte at a place, or 0. -/
def byteAt (l : List UInt8) (j : Nat) : Nat := match l[j]? with | some b => b.toNat | none => 0
theorem byteAt_lt (l : List UInt8) (j : Nat) : byteAt l j < 256 := by
  unfold byteAt
  split
  · rename_i b _; exact b.toNat_lt
  · omega
theorem kd_step {l : List UInt8} {j : Nat} : kd (9 - j) (l.drop j) = if j < l.length ∧ j < 9 ∧ 127 < byteAt l j then kd (9 - (j + 1)) (l.drop (j + 1)) + 1 else 0 := by
  cases h : l[j]? with
  | none =>
    have hl : l.length ≤ j := by simpa using h
    rw [if_neg (by omega), List.drop_eq_nil_of_le hl]
    cases 9 - j <;> rfl
  | some b =>
    obtain ⟨hl, he⟩ := List.getElem?_eq_some_iff.1 h
    have hd : l.drop j = b :: l.drop (j + 1) := by rw [List.drop_eq_getElem_cons hl, he]
    have hb : byteAt l j = b.toNat := by unfold byteAt; rw [h]
    rw [hd, hb]
    by_cases h9 : j < 9
    · rw [show 9 - j = (9 - (j + 1)) + 1 by omega]
      by_cases h2 : 127 < b.toNat
      · rw [kd_yes h2, if_pos ⟨hl, h9, h2⟩]
      · rw [kd_no h2, if_neg (by omega)]
    · rw [if_neg (by omega), show 9 - j = 0 by omega, kd_zero]
theorem hv_at {l : List UInt8} {j : Nat} (h : j < l.length) : hv (l.drop j) = byteAt l j % 128 + 128 * hv (l.drop (j + 1)) := by
  obtain ⟨b, hb⟩ := get_of_lt l h
  obtain ⟨hl, he⟩ := List.getElem?_eq_some_iff.1 hb
  rw [List.drop_eq_getElem_cons hl, he]
  have : byteAt l j = b.toNat := by unfold byteAt; rw [hb]
  rw [this]; rfl

theorem numK_c (K : Nat) (l : List UInt8) : numK 0 0 K l = if l.length ≤ K ∨ (K = 9 ∧ 1 < byteAt l K) ∨ (0 < K ∧ byteAt l K = 0) then none else some (hv (l.take (K + 1)), l.drop (K + 1)) := by
  unfold numK
  cases h : l[K]? with
  | none =>
    have hl : l.length ≤ K := by simpa using h
    rw [if_pos (.inl hl)]
  | some b =>
    obtain ⟨hl, _⟩ := List.getElem?_eq_some_iff.1 h
    have hb : byteAt l K = b.toNat := by unfold byteAt; rw [h]
    simp only [hb, Nat.add_zero, Nat.pow_zero, Nat.mul_one, Nat.zero_add]
    by_cases hC : (K = 9 ∧ 1 < b.toNat) ∨ (b.toNat = 0 ∧ 0 < K)
    · rw [if_pos hC, if_pos (by omega)]
    · rw [if_neg hC, if_neg (by omega)]
theorem byteAt_take {l : List UInt8} {k j : Nat} (h : j < k) : byteAt (l.take k) j = byteAt l j := by
  unfold byteAt
  rw [List.getElem?_take_of_lt h]

/-- What the document's number tells: it, and how many bytes. -/
def numD (l : List UInt8) : Nat × Nat := match numA 0 0 l with | some (n, r) => (n, l.length - r.length) | none => (0, 0)

set_option maxRecDepth 100000 in
set_option maxHeartbeats 1000000 in
theorem number_c (w : World) (v : Value) (p : List UInt8) (at' : Nat) (h : BS w v p) (hat : at' ≤ p.length) (hp9 : p.length ≤ 1000000000) :
    Calls Tryz.prog 55 #[v, .int .i64 at'] w fun x w' => x = .returned (.tuple #[.int .u64 ((numD (p.drop at')).1 : Int), .int .i64 ((numD (p.drop at')).2 : Int)]) ∧ w = w' := by
  obtain ⟨A, c, rfl, hl0, hn, hc, hs⟩ := h
  obtain ⟨l, hl⟩ : ∃ l, l = p.drop at' := ⟨_, rfl⟩
  rw [← hl]
  obtain ⟨m, hm⟩ : ∃ m, m = p.length := ⟨_, rfl⟩
  rw [← hm] at hn hat hp9 ⊢
  have hll : l.length = m - at' := by rw [hl, List.length_drop, hm]
  obtain ⟨K, hK⟩ : ∃ K, K = kd 9 l := ⟨_, rfl⟩
  have hK9 : K ≤ 9 := by rw [hK]; exact kd_le 9 l
  have hKl : K ≤ m - at' := by rw [hK, ← hll]; exact kd_len 9 l
  have HP : Hid (∀ j, at' + j < m → ∃ b o, A = some ⟨b, o, none⟩ ∧ w.cell? ⟨b, o + (at' + j), none⟩ = some (.int .u8 ((byteAt l j : Nat) : Int))) := Lib.hid (fun j hj => by
    obtain ⟨x, hx⟩ := get_of_lt p (show at' + j < p.length by omega)
    obtain ⟨b, o, e, hc⟩ := hs (by intro e; have := congrArg List.length e; rw [encB_length] at this; simp only [List.length_nil] at this; omega)
    refine ⟨b, o, e, ?_⟩
    have h1 := hc (at' + j) _ (encB_get hx)
    have h2 : byteAt l j = x.toNat := by unfold byteAt; rw [hl, List.getElem?_drop, hx]
    rw [h2]; exact h1)
  have HK : Hid (K = kd 9 l ∧ l.length = m - at') := Lib.hid ⟨hK, hll⟩
  have HNA : Hid (numA 0 0 l = numK 0 0 K l) := Lib.hid (by rw [numA_kd l 0 0 (by omega), hK])
  obtain ⟨T, hT⟩ : ∃ T, T = numD l := ⟨_, rfl⟩
  rw [← hT]
  have HT := Lib.hid hT
  clear hl hll hm hK hs hl0 hT
  go_enter Tryz.func55, Tryz.ntmps55
  repeat' (go_not_at_region 2; (first | go_skip | go_guarded | go_step))
  go_loopg [6] K (fun gk v6 wr => ∃ j k : Nat, v6 = .int .i64 k ∧ Hid (k = at' + j) ∧ j ≤ K ∧ K - j ≤ gk ∧ wr = w ∧ Hid (kd 9 l = j + kd (9 - j) (l.drop j)))
  case atStart => exact ⟨0, at', rfl, Lib.hid rfl, by omega, by omega, rfl, Lib.hid (by simp)⟩
  case round =>
    obtain ⟨j, k, rfl, HKJ, hjK, hgk, rfl, HJ⟩ := hrel
    have hstep := @kd_step l j
    obtain ⟨bj, hbj⟩ : ∃ bj, bj = byteAt l j := ⟨_, rfl⟩
    rw [← hbj, HK.out.2] at hstep
    have HSTEP := Lib.hid hstep
    have HBJ := Lib.hid hbj
    clear hstep hbj
    repeat' (go_not_at_region 2; go_step)
    go_cut [26] (fun v wx => Hid (v = .bool (decide (j < m - at' ∧ j < 9 ∧ 127 < bj)) ∧ wx = wr))
    case first =>
      by_cases h1 : j < m - at'
      · have e1 : (k : Int) < (m : Int) := by have := HKJ.out; omega
        obtain ⟨b, o, rfl, hq⟩ := HP.out j (by omega)
        rw [← HKJ.out, ← HBJ.out] at hq
        by_cases h2 : j < 9
        · have e2 : (k : Int) < (at' : Int) + 9 := by have := HKJ.out; omega
          by_cases h3 : 127 < bj
          · have e3 : (127 : Int) < (bj : Int) := by omega
            repeat' (first | go_skip | go_guarded | go_step)
            go_meet
            exact Lib.hid ⟨by rw [decide_eq_true (⟨h1, h2, h3⟩ : j < m - at' ∧ j < 9 ∧ 127 < bj)], rfl⟩
          · have e3 : ¬ (127 : Int) < (bj : Int) := by omega
            repeat' (first | go_skip | go_guarded | go_step)
            go_meet
            exact Lib.hid ⟨by rw [decide_eq_false (by omega : ¬ (j < m - at' ∧ j < 9 ∧ 127 < bj))], rfl⟩
        · have e2 : ¬ (k : Int) < (at' : Int) + 9 := by have := HKJ.out; omega
          repeat' (first | go_skip | go_guarded | go_step)
          go_meet
          exact Lib.hid ⟨by rw [decide_eq_false (by omega : ¬ (j < m - at' ∧ j < 9 ∧ 127 < bj))], rfl⟩
      · have e1 : ¬ (k : Int) < (m : Int) := by have := HKJ.out; omega
        repeat' (first | go_skip | go_guarded | go_step)
        go_meet
        exact Lib.hid ⟨by rw [decide_eq_false (by omega : ¬ (j < m - at' ∧ j < 9 ∧ 127 < bj))], rfl⟩
    case rest =>
      obtain ⟨rfl, hwc⟩ := hcut.out
      obtain rfl : wr = wc := hwc.symm
      clear hcut
      by_cases hC : j < m - at' ∧ j < 9 ∧ 127 < bj
      · have hdC : decide (j < m - at' ∧ j < 9 ∧ 127 < bj) = true := decide_eq_true hC
        rw [hdC]
        have hst := HSTEP.out
        rw [if_pos hC] at hst
        have hJ := HJ.out
        have hKo := HK.out.1
        have H2 : Hid (kd 9 l = (j + 1) + kd (9 - (j + 1)) (l.drop (j + 1))) := Lib.hid (by omega)
        have hkm : k ≤ m := by have := HKJ.out; omega
        clear hst hJ hdC
        repeat' (first | go_skip | go_guarded | go_step)
        go_roundg (K - (j + 1))
        case measure => have := H2.out; have := HK.out.1; omega
        case rel => exact ⟨j + 1, k + 1, by go_num, Lib.hid (by have := HKJ.out; omega), by have := H2.out; have := HK.out.1; omega, Nat.le_refl _, rfl, H2⟩
      · have hdC : decide (j < m - at' ∧ j < 9 ∧ 127 < bj) = false := decide_eq_false hC
        rw [hdC]
        have hst := HSTEP.out
        rw [if_neg hC] at hst
        obtain rfl : j = K := by have := HJ.out; have := HK.out.1; omega
        have HBK := HBJ
        clear hst hdC hC HSTEP HJ hgk
        --R4
        repeat' (go_not_at_region 4; go_step)
        go_cut [57] (fun v wx => Hid (v = .bool (decide (m - at' ≤ j ∨ (j = 9 ∧ 1 < bj) ∨ (0 < j ∧ bj = 0))) ∧ wx = wr))
        case first =>
          by_cases h1 : m - at' ≤ j
          · have e1 : (m : Int) ≤ (k : Int) := by have := HKJ.out; omega
            repeat' (first | go_skip | go_guarded | go_step)
            go_meet
            exact Lib.hid ⟨by rw [show decide (m - at' ≤ j ∨ (j = 9 ∧ 1 < bj) ∨ (0 < j ∧ bj = 0)) = true from decide_eq_true (by omega)], rfl⟩
          · have e1 : ¬ (m : Int) ≤ (k : Int) := by have := HKJ.out; omega
            have e1' : (k : Int) < (m : Int) := by have := HKJ.out; omega
            obtain ⟨b, o, rfl, hq⟩ := HP.out j (by omega)
            rw [← HKJ.out, ← HBJ.out] at hq
            have hb256 : bj < 256 := by rw [HBJ.out]; exact byteAt_lt _ _
            by_cases h2 : j = 9
            · have e2 : ((k : Int) == (at' : Int) + 9) = true := by rw [beq_iff_eq]; have := HKJ.out; omega
              have e2' : (k : Int) = (at' : Int) + 9 := by have := HKJ.out; omega
              have e3 : (at' : Int) < (k : Int) := by omega
              replace e2' := Lib.hid e2'
              by_cases h3 : 1 < bj
              · have e4 : (1 : Int) < (bj : Int) := by omega
                repeat' (first | go_skip | go_guarded | go_step)
                go_meet
                exact Lib.hid ⟨by rw [show decide (m - at' ≤ j ∨ (j = 9 ∧ 1 < bj) ∨ (0 < j ∧ bj = 0)) = true from decide_eq_true (by omega)], rfl⟩
              · have e4 : ¬ (1 : Int) < (bj : Int) := by omega
                by_cases h4 : bj = 0
                · have e5 : ((bj : Int) == 0) = true := by rw [beq_iff_eq]; omega
                  repeat' (first | go_skip | go_guarded | go_step)
                  go_meet
                  exact Lib.hid ⟨by rw [show decide (m - at' ≤ j ∨ (j = 9 ∧ 1 < bj) ∨ (0 < j ∧ bj = 0)) = true from decide_eq_true (by omega)], rfl⟩
                · have e5 : ((bj : Int) == 0) = false := by rw [beq_eq_false_iff_ne]; omega
                  repeat' (first | go_skip | go_guarded | go_step)
                  go_meet
                  exact Lib.hid ⟨by rw [show decide (m - at' ≤ j ∨ (j = 9 ∧ 1 < bj) ∨ (0 < j ∧ bj = 0)) = false from decide_eq_false (by omega)], rfl⟩
            · have e2 : ((k : Int) == (at' : Int) + 9) = false := by rw [beq_eq_false_iff_ne]; have := HKJ.out; omega
              by_cases h3 : 0 < j
              · have e3 : (at' : Int) < (k : Int) := by have := HKJ.out; omega
                by_cases h4 : bj = 0
                · have e5 : ((bj : Int) == 0) = true := by rw [beq_iff_eq]; omega
                  repeat' (first | go_skip | go_guarded | go_step)
                  go_meet
                  exact Lib.hid ⟨by rw [show decide (m - at' ≤ j ∨ (j = 9 ∧ 1 < bj) ∨ (0 < j ∧ bj = 0)) = true from decide_eq_true (by omega)], rfl⟩
                · have e5 : ((bj : Int) == 0) = false := by rw [beq_eq_false_iff_ne]; omega
                  repeat' (first | go_skip | go_guarded | go_step)
                  go_meet
                  exact Lib.hid ⟨by rw [show decide (m - at' ≤ j ∨ (j = 9 ∧ 1 < bj) ∨ (0 < j ∧ bj = 0)) = false from decide_eq_false (by omega)], rfl⟩
              · have e3 : ¬ (at' : Int) < (k : Int) := by have := HKJ.out; omega
                repeat' (first | go_skip | go_guarded | go_step)
                go_meet
                exact Lib.hid ⟨by rw [show decide (m - at' ≤ j ∨ (j = 9 ∧ 1 < bj) ∨ (0 < j ∧ bj = 0)) = false from decide_eq_false (by omega)], rfl⟩
        case rest =>
          obtain ⟨rfl, hwc⟩ := hcut.out
          obtain rfl : wr = wc := hwc.symm
          clear hcut
          have hnk := numK_c j l
          rw [← HBJ.out, HK.out.2] at hnk
          by_cases hC : m - at' ≤ j ∨ (j = 9 ∧ 1 < bj) ∨ (0 < j ∧ bj = 0)
          · have hdC : decide (m - at' ≤ j ∨ (j = 9 ∧ 1 < bj) ∨ (0 < j ∧ bj = 0)) = true := decide_eq_true hC
            rw [if_pos hC] at hnk
            have hTe : T = (0, 0) := by rw [HT.out]; unfold numD; rw [HNA.out, hnk]
            have HTE := Lib.hid hTe
            rw [hdC]
            clear hTe hnk hC hdC
            repeat' (first | go_skip | go_guarded | go_step)
            go_ret2
            rw [HTE.out]
            exact ⟨rfl, rfl⟩
          · have hdC : decide (m - at' ≤ j ∨ (j = 9 ∧ 1 < bj) ∨ (0 < j ∧ bj = 0)) = false := decide_eq_false hC
            rw [if_neg hC] at hnk
            have hjl : j < m - at' := by omega
            have hlt := numA_lt (HNA.out.trans hnk)
            obtain ⟨q, hq⟩ : ∃ q, q = l.take (j + 1) := ⟨_, rfl⟩
            rw [← hq] at hnk hlt
            have hTe : T = (hv q, j + 1) := by
              rw [HT.out]; unfold numD; rw [HNA.out, hnk]
              simp only [Prod.mk.injEq, true_and]
              rw [List.length_drop, HK.out.2]; omega
            have HTE := Lib.hid hTe
            have HQ : Hid (q.length = j + 1 ∧ ∀ x, x < j + 1 → byteAt q x = byteAt l x) := Lib.hid ⟨by rw [hq, List.length_take, HK.out.2]; omega, fun x hx => by rw [hq]; exact byteAt_take hx⟩
            rw [hdC]
            clear hTe hnk hC hdC hq
            have hkat : (k : Int) = (at' : Int) + ((j + 1 : Nat) : Int) - 1 := by have := HKJ.out; omega
            have HKAT := Lib.hid hkat
            clear hkat
            repeat' (go_not_at_region 8; (first | go_skip | go_guarded | go_step))
            go_loopg [7, 8] (j + 1) (fun gk v7 v8 wx => ∃ (i : Nat) (y : Int), v7 = .int .u64 ((hv (q.drop i) : Nat) : Int) ∧ v8 = .int .i64 y ∧ Hid (y = (at' : Int) + (i : Int) - 1) ∧ i ≤ j + 1 ∧ i ≤ gk ∧ wx = wr)
            case atStart => exact ⟨j + 1, (k : Int), by rw [List.drop_eq_nil_of_le (by rw [HQ.out.1]; exact Nat.le_refl _)]; rfl, rfl, HKAT, Nat.le_refl _, Nat.le_refl _, rfl⟩
            case round =>
              obtain ⟨i, y, rfl, rfl, HY, hij, hgk, rfl⟩ := hrel
              cases i with
              | zero =>
                have e1 : ¬ (at' : Int) ≤ y := by have := HY.out; omega
                rw [List.drop_zero]
                have e2 : IntKind.i64.wrap ((k : Int) - (at' : Int)) = (j : Int) := by rw [IntKind.wrap_i64]; have := HKJ.out; omega
                have e3 : (k : Int) - (at' : Int) = (j : Int) := by have := HKJ.out; omega
                repeat' (first | go_skip | go_guarded | go_step)
                go_ret2
                rw [HTE.out]
                exact ⟨rfl, rfl⟩
              | succ i =>
                have e1 : (at' : Int) ≤ y := by have := HY.out; omega
                have e2 : y < (m : Int) := by have := HY.out; omega
                have e3 : (0 : Int) ≤ y := by omega
                obtain ⟨b, o, rfl, hq⟩ := HP.out i (by omega)
                obtain ⟨z, hz⟩ : ∃ z : Nat, z = at' + i := ⟨_, rfl⟩
                rw [← hz] at hq
                have hyz : y = (z : Int) := by have := HY.out; omega
                subst hyz
                have hh := hv_at (l := q) (j := i) (by rw [HQ.out.1]; omega)
                rw [HQ.out.2 i (by omega)] at hh
                have hle := hv_drop_le q i
                obtain ⟨X, hX⟩ : ∃ X, X = hv (q.drop (i + 1)) := ⟨_, rfl⟩
                obtain ⟨Y, hY⟩ : ∃ Y, Y = hv (q.drop i) := ⟨_, rfl⟩
                obtain ⟨bi, hbi⟩ : ∃ bi, bi = byteAt l i := ⟨_, rfl⟩
                have hbi256 : bi < 256 := by rw [hbi]; exact byteAt_lt _ _
                rw [← hX, ← hY, ← hbi] at hh
                rw [← hX]
                rw [← hbi] at hq
                rw [← hY] at hle
                have HYY := Lib.hid (And.intro hY hz)
                have hY9 : Y < 18446744073709551616 := by omega
                obtain ⟨bm, hbm0⟩ : ∃ bm, bm = bi % 128 := ⟨_, rfl⟩
                have hbm : (bi : Int).tmod 128 = (bm : Int) := by rw [hbm0]; rfl
                have hbm2 : (bi : Int) % 128 = (bm : Int) := by omega
                have hs1 : 128 * (X : Int) + (bm : Int) = (Y : Int) := by omega
                have hbm9 : bm < 128 := by omega
                have hs4 : IntKind.u64.wrap (bm : Int) = (bm : Int) := by rw [IntKind.wrap_u64]; omega
                have hs2 : IntKind.u64.wrap (128 * (X : Int)) = 128 * (X : Int) := by rw [IntKind.wrap_u64]; omega
                have hs3 : IntKind.u64.wrap (Y : Int) = (Y : Int) := by rw [IntKind.wrap_u64]; omega
                clear hh hX hY hbi hz hle hbm0
                repeat' (go_not_at_region 9; (first | go_skip | go_guarded | go_step))
                repeat' (first | go_skip | go_guarded | go_step)
                go_roundg i
                case measure => omega
                case rel => exact ⟨i, (z : Int) - 1, by rw [← HYY.out.1], by go_num, Lib.hid (by have := HYY.out.2; omega), by omega, Nat.le_refl _, rfl⟩
end Go.Proofs.YtigoffdehdobiaaGreat
