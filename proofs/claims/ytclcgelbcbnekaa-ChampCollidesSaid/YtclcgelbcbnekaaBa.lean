/- Texts joined. -/
import Derived.Test.YtclcgelbcbnekaaLs
import Derived.Test.YtclcgelbcbnekaaMa
import Derived.Test.YtclcgelbcbnekaaMb
import Derived.Deep.LoopGhost
import Derived.Lib.AppendZeros
set_option linter.unusedVariables false
set_option linter.unusedSimpArgs false
/- Contracts: comparing. -/
namespace Go.Proofs.Ytclcgelbcbnekaa.Pch
open Go.RowKit Go.QS
set_option linter.unusedVariables false

set_option maxRecDepth 100000 in
theorem isnan_c (w : World) (a : List UInt8) : Calls Try.prog 171 #[str a] w fun e w' => e = .returned (.bool false) ∧ w = w' := by
  go_enter Try.func171, Try.ntmps171
  repeat' go_step
  go_ret
  exact ⟨by simp, rfl⟩

set_option maxRecDepth 100000 in
theorem compare_c (w : World) (a b : List UInt8) : Calls Try.prog 148 #[str a, str b] w fun e w' => e = .returned (.int .i64 (cmpB a b)) ∧ w = w' := by
  have hl := bless a b
  have hl' := bless b a
  rcases k_tri a b with h | h | h
  · have e1 : decide (a < b) = true := by simp [h]
    rw [e1] at hl
    have H := Lib.hid h; clear h e1 hl'
    go_enter Try.func148, Try.ntmps148
    repeat' (first | (go_at_call 171; refine (isnan_c _ _).mono ?_; rintro e w' ⟨rfl, rfl⟩; go_simp) | go_step)
    go_ret
    exact ⟨by simp [cmpB, H.out], rfl⟩
  · subst h
    have e1 : decide (a < a) = false := by simp [k_irrefl]
    rw [e1] at hl
    clear e1 hl'
    go_enter Try.func148, Try.ntmps148
    repeat' (first | (go_at_call 171; refine (isnan_c _ _).mono ?_; rintro e w' ⟨rfl, rfl⟩; go_simp) | go_step)
    go_ret
    exact ⟨by simp [cmpB, k_irrefl], rfl⟩
  · have e1 : decide (a < b) = false := by simp [k_asymm h]
    rw [e1] at hl
    have e2 : (a == b) = false := by simp [(k_ne h).symm]
    have H := Lib.hid h; have H' := Lib.hid (k_asymm h); clear h e1 hl'
    go_enter Try.func148, Try.ntmps148
    repeat' (first | (go_at_call 171; refine (isnan_c _ _).mono ?_; rintro e w' ⟨rfl, rfl⟩; go_simp) | go_step)
    go_ret
    exact ⟨by simp [cmpB, H.out, H'.out], rfl⟩

set_option maxRecDepth 100000 in
theorem order_c (w : World) (p : Pr) (b : List UInt8) : Calls Try.prog 106 #[.agg #[str p.1, str p.2], str b] w fun e w' => e = .returned (.int .i64 (cmpB p.1 b)) ∧ Ext w w' := by
  go_enter Try.func106, Try.ntmps106
  repeat' (first | (go_at_call 148; refine (compare_c _ _ _).mono ?_; rintro e w' ⟨rfl, rfl⟩; go_simp) | go_step)
  go_ret
  exact ⟨rfl, (Ext.refl _).alloc (Nat.le_refl _) _⟩

set_option maxRecDepth 100000 in
theorem less_c (w : World) (p q : Pr) : Calls Try.prog 105 #[.agg #[str p.1, str p.2], .agg #[str q.1, str q.2]] w fun e w' => e = .returned (.int .i64 (cmpB p.1 q.1)) ∧ Ext w w' := by
  go_enter Try.func105, Try.ntmps105
  repeat' (first | (go_at_call 106; refine (order_c _ p q.1).mono ?_; rintro e w' ⟨rfl, hb⟩; go_simp) | go_step)
  go_ret
  exact ⟨rfl, (((Ext.refl _).alloc (Nat.le_refl _) _).alloc (by simp) _).trans (hb.mono (by simp; omega))⟩
end Go.Proofs.Ytclcgelbcbnekaa.Pch/- Contracts: where a key is, or would be. -/
namespace Go.Proofs.Ytclcgelbcbnekaa.Pch
open Go.RowKit Go.QS
set_option linter.unusedVariables false

abbrev ordV : Value := .func (.func 106) #[] #[]

set_option maxRecDepth 100000 in
set_option maxHeartbeats 400000 in
theorem bs_c (w : World) (v : Value) (l : List Pr) (key : List UInt8) (h : PS w v l) (hr : Rise l) (h9 : l.length ≤ 1000000000) :
    Calls Try.prog 162 #[v, str key, ordV] w fun e w' => e = .returned (.tuple #[.int .i64 (fndI l key), .bool (hasK l key)]) ∧ Ext w w' := by
  obtain ⟨A, c, rfl, hl, hn, hc, hs⟩ := h
  obtain ⟨n, hn2⟩ : ∃ n, n = l.length := ⟨_, rfl⟩
  rw [← hn2] at h9 hn ⊢
  have Hn : Hid (_ ∧ _) := Lib.hid ⟨hn2, hr⟩
  clear hn2 hl hr
  go_enter Try.func162, Try.ntmps162
  repeat' go_step
  go_loopg [9, 10] n (fun gk vi vj wr => ∃ i j : Nat, vi = .int .i64 i ∧ vj = .int .i64 j ∧ i ≤ j ∧ j ≤ n ∧ j - i ≤ gk ∧ Ext w wr ∧ Hid (∀ t q, l[t]? = some q → (t < i → q.1 < key) ∧ (j ≤ t → ¬ q.1 < key)))
  case atStart => exact ⟨0, n, rfl, rfl, Nat.zero_le _, Nat.le_refl _, by omega, Ext.refl _, Lib.hid fun t q hq => ⟨fun h => by omega, fun h => by have := (List.getElem?_eq_some_iff.1 hq).1; have := Hn.out.1; omega⟩⟩
  case round =>
    obtain ⟨i, j, rfl, rfl, hij, hjn, hgk, hE, HI⟩ := hrel
    rcases Nat.lt_or_ge i j with hlt | hge
    · have d1 : decide (i < j) = true := by simp [hlt]
      obtain ⟨m, hm⟩ : ∃ m, m = (i + j) / 2 := ⟨_, rfl⟩
      have hm1 : ((i : Int) + (j : Int)) / 2 = (m : Int) := by omega
      have him : i ≤ m := by omega
      have hmj : m < j := by omega
      obtain ⟨q, hq⟩ := get_of_lt l (show m < l.length by have := Hn.out.1; omega)
      obtain ⟨b, o, rfl, hq1, hq2⟩ := seg_pair (hs.below hE) hq
      have hi1 : (m : Int) < (n : Int) := by omega
      have HH := Lib.hid hq
      clear hm hq
      repeat' go_step
      refine (order_c _ q key).mono ?_
      rintro e w1 ⟨rfl, hb1⟩
      have hE1 : Ext w w1 := Ext.trans hE hb1
      by_cases hlt : q.1 < key
      · have hc : decide (cmpB q.1 key < 0) = true := by simp [cmpB_neg, hlt]
        have HL := Lib.hid hlt
        go_simp
        repeat' go_step
        go_roundg (j - (m + 1))
        case measure => omega
        case rel =>
          refine ⟨m + 1, j, by go_num, rfl, by omega, by omega, Nat.le_refl _, hE1, Lib.hid fun t p hp => ⟨fun ht => ?_, fun ht => (HI.out t p hp).2 ht⟩⟩
          rcases Nat.lt_or_eq_of_le (Nat.le_of_lt_succ ht) with h | rfl
          · obtain ⟨e1, rfl⟩ := List.getElem?_eq_some_iff.1 hp
            obtain ⟨e2, rfl⟩ := List.getElem?_eq_some_iff.1 HH.out
            exact k_trans (List.pairwise_iff_getElem.1 Hn.out.2 _ _ e1 e2 h) HL.out
          · rw [HH.out] at hp; cases hp; exact HL.out
      · have hc : decide (cmpB q.1 key < 0) = false := by simp [cmpB_neg, hlt]
        have HL := Lib.hid hlt
        go_simp
        repeat' go_step
        go_roundg (m - i)
        case measure => omega
        case rel =>
          refine ⟨i, m, rfl, rfl, by omega, by omega, Nat.le_refl _, hE1, Lib.hid fun t p hp => ⟨fun ht => (HI.out t p hp).1 ht, fun ht => ?_⟩⟩
          rcases Nat.lt_or_eq_of_le ht with h | rfl
          · obtain ⟨e1, rfl⟩ := List.getElem?_eq_some_iff.1 hp
            obtain ⟨e2, rfl⟩ := List.getElem?_eq_some_iff.1 HH.out
            exact fun hx => HL.out (k_trans (List.pairwise_iff_getElem.1 Hn.out.2 _ _ e2 e1 h) hx)
          · rw [HH.out] at hp; cases hp; exact HL.out
    · obtain rfl : i = j := by omega
      have d1 : decide (i < i) = false := by simp
      have hfi : i = fndI l key := fnd_first (by have := Hn.out.1; omega) (fun t q ht hq => (HI.out t q hq).1 ht) (fun q hq => (HI.out i q hq).2 (Nat.le_refl _))
      have hha := hasK_at (k := key) Hn.out.2
      rw [← hfi] at hha
      have HF := Lib.hid hfi
      clear hfi
      rcases Nat.lt_or_ge i n with hlt | hge
      · have d2 : decide (i < n) = true := by simp [hlt]
        obtain ⟨q, hq⟩ := get_of_lt l (show i < l.length by have := Hn.out.1; omega)
        obtain ⟨b, o, rfl, hq1, hq2⟩ := seg_pair (hs.below hE) hq
        have hi1 : (i : Int) < (n : Int) := by omega
        rw [hq] at hha
        have HH : Hid (_ ∧ _) := Lib.hid ⟨hq, hha⟩
        clear hq hha
        repeat' (first | go_skip | go_guarded | go_step)
        refine (order_c _ q key).mono ?_
        rintro e w1 ⟨rfl, hb1⟩
        have hE1 : Ext w w1 := Ext.trans hE hb1
        have hz : (cmpB q.1 key == 0) = (q.1 == key) := by
          rw [Bool.eq_iff_iff]
          simp [cmpB_zero]
        go_simp
        repeat' (first | go_skip | go_guarded | go_step)
        go_ret2
        refine ⟨?_, hE1⟩
        rw [← HF.out, HH.out.2]
        first | rfl | simp
      · have d2 : decide (i < n) = false := by simp; omega
        have hno : l[i]? = none := List.getElem?_eq_none (by have := Hn.out.1; omega)
        rw [hno] at hha
        have HH := Lib.hid hha
        clear hha hno
        repeat' (first | go_skip | go_guarded | go_step)
        go_ret2
        refine ⟨?_, hE⟩
        rw [← HF.out, HH.out]
        rfl

set_option maxRecDepth 100000 in
theorem find_c (w : World) (v : Value) (l : List Pr) (key : List UInt8) (h : PS w v l) (hr : Rise l) (h9 : l.length ≤ 1000000000) :
    Calls Try.prog 138 #[v, str key] w fun e w' => e = .returned (.tuple #[.int .i64 (fndI l key), .bool (hasK l key)]) ∧ Ext w w' := by
  have HC := Lib.hid (bs_c w v l key h hr h9)
  clear h hr
  go_enter Try.func138, Try.ntmps138
  repeat' go_step
  refine HC.out.mono ?_
  rintro e w1 ⟨rfl, hb⟩
  go_simp
  repeat' go_step
  go_ret2
  exact ⟨rfl, hb⟩

end Go.Proofs.Ytclcgelbcbnekaa.Pch/- Contracts: Grow of nil, Concat. -/
namespace Go.Proofs.Ytclcgelbcbnekaa
open Go.RowKit Go.QS
set_option linter.unusedVariables false

set_option maxRecDepth 100000 in
theorem grow_c (w : World) (n : Nat) (h9 : n ≤ 1000000000) :
    Calls Try.prog 163 #[.slice none 0 0, .int .i64 n] w fun e w' => ∃ v', e = .returned v' ∧ w'.ownsRow w.heap.size 36 2 v' 0 [] ∧ Ext w w' := by
  obtain ⟨i, z, hi, hz, hs, hb, hzs⟩ := infoP
  rcases Nat.eq_zero_or_pos n with rfl | h0
  · go_enter Try.func163, Try.ntmps163
    clear hi hz hs hb hzs
    repeat' go_step
    go_ret
    exact ⟨_, rfl, World.ownsRow_nil _ _ _ _, Ext.refl _⟩
  · have hr := fun w : World => Lib.run_append_nil_zeros (P := Try.prog) w 22 3 22 36 i z .i64 .i64 Try.underlying22 Try.underlying3 hi hz n h0 (by omega) (by omega) (by rw [hb]; omega)
    have HZ : Hid (_ ∧ _) := Lib.hid ⟨hs, hzs⟩
    have Hr := Lib.hid hr
    clear hi hz hs hb hzs hr
    have d1 : decide (0 < n) = true := by simp [h0]
    go_enter Try.func163, Try.ntmps163
    repeat' (first | (at_builtin; refine Lib.wpList_append_run _ rfl (.tmp 20) (.tmp 21) 22 3 rfl _ _ rfl rfl _ _ (Hr.out _) ?_) | go_step)
    go_ret
    refine ⟨_, rfl, ?_, ?_⟩
    · have hm := World.ownsRow_made (base := w.heap.size) (e := 36) (size := 2) w.drew (Builtin.zeroCells z.cells n ++ Builtin.zeroCells z.cells (grownCap w n 0 36 - n)) (grownCap w n 0 36) (Nat.le_refl _)
        (grownCap_le_maxLen w n 0 _ (by unfold maxLen; omega)) (by
          have := grownCap_ge w n 0 36
          rw [Array.size_append, size_zeroCells, size_zeroCells, HZ.out.2, ← Nat.add_mul]; congr 1; omega)
      exact hm
    · exact ((Ext.refl w).drew).alloc (Nat.le_refl _) _

/-- A slice of slices of pairs. -/
def PSS (w : World) (v : Value) (ls : List (List Pr)) : Prop := ∃ A c vs, v = .slice A ls.length c ∧ Seg w A vs ∧ vs.length = ls.length ∧ ∀ (i : Nat) (u : Value) (l : List Pr), vs[i]? = some u → ls[i]? = some l → PS w u l

theorem flatten_snoc {ls : List (List Pr)} {k : Nat} {l : List Pr} (h : ls[k]? = some l) : (ls.take (k + 1)).flatten = (ls.take k).flatten ++ l := by rw [take_snoc h]; simp
theorem flatten_le (ls : List (List Pr)) (k : Nat) : (ls.take k).flatten.length ≤ ls.flatten.length := by
  have : ls.flatten = (ls.take k).flatten ++ (ls.drop k).flatten := by rw [← List.flatten_append, List.take_append_drop]
  rw [this]; simp

set_option maxRecDepth 100000 in
set_option maxHeartbeats 400000 in
theorem concat_c (w : World) (v : Value) (ls : List (List Pr)) (h : PSS w v ls) (hl9 : ls.length ≤ 1000) (h9 : ls.flatten.length ≤ 1000000000) :
    Calls Try.prog 139 #[v] w fun e w' => ∃ v', e = .returned v' ∧ w'.ownsRow w.heap.size 36 2 v' ls.flatten.length (flat ls.flatten) ∧ Ext w w' := by
  obtain ⟨A, c, vs, rfl, hs, hvl, hp⟩ := h
  obtain ⟨n, hn⟩ : ∃ n, n = ls.length := ⟨_, rfl⟩
  rw [← hn] at hl9 ⊢
  have HP : Hid (_ ∧ _ ∧ _) := Lib.hid ⟨hp, hvl, hn⟩
  clear hp hvl hn
  go_enter Try.func139, Try.ntmps139
  repeat' go_step
  go_loopg [3, 11] n (fun gk vm vk wr => ∃ k m : Nat, vk = .int .i64 k ∧ vm = .int .i64 m ∧ k ≤ n ∧ n - k ≤ gk ∧ m ≤ 1000000000 ∧ Ext w wr ∧ Hid (m = (ls.take k).flatten.length))
  case atStart => exact ⟨0, 0, rfl, rfl, Nat.zero_le _, by omega, by omega, Ext.refl _, Lib.hid (by simp)⟩
  case round =>
    obtain ⟨k, m, rfl, rfl, hkn, hgk, hm9, hE, HM⟩ := hrel
    rcases Nat.lt_or_ge k n with hlt | hge
    · have d1 : decide (k < n) = true := by simp [hlt]
      obtain ⟨hp, hvl, hn⟩ := HP.out
      obtain ⟨u, hu⟩ := get_of_lt vs (show k < vs.length by omega)
      obtain ⟨l, hl⟩ := get_of_lt ls (show k < ls.length by omega)
      obtain ⟨A', c', rfl, hl', hc', hcm', hs'⟩ := hp k u l hu hl
      obtain ⟨b, o, rfl, hat⟩ := (hs.below hE) (fun e => by rw [e] at hu; simp at hu)
      have hc1 := hat k _ hu
      have hi1 : (k : Int) < (n : Int) := by omega
      obtain ⟨m1, hm1⟩ : ∃ m1, m1 = m + l.length := ⟨_, rfl⟩
      have hs1 : (m : Int) + (l.length : Int) = (m1 : Int) := by omega
      have hm2 : m1 = (ls.take (k + 1)).flatten.length := by rw [flatten_snoc hl, List.length_append, ← HM.out, hm1]
      have hm3 : m1 ≤ 1000000000 := by rw [hm2]; exact Nat.le_trans (flatten_le _ _) h9
      have HH := Lib.hid hm2
      have d2 : ¬ ((m1 : Int) < 0) := by omega
      clear hp hvl hn hu hl hl' hs' hat hm1 hm2
      repeat' go_step
      go_roundg (n - (k + 1))
      case measure => omega
      case rel => exact ⟨k + 1, m1, by go_num, rfl, by omega, Nat.le_refl _, hm3, hE, HH⟩
    · obtain rfl : k = n := by omega
      have d1 : decide (k < k) = false := by simp
      repeat' go_step
      refine (grow_c _ m hm9).mono ?_
      rintro e w1 ⟨v1, rfl, hown, hb1⟩
      have hE1 : Ext w w1 := Ext.trans hE hb1
      have hown1 : w1.ownsRow w.heap.size 36 2 v1 0 [] := by
        refine ⟨hown.1, ?_⟩
        rcases hown.2 with h | ⟨g, cap, cur, h1, h2, h3⟩
        · exact .inl h
        · exact .inr ⟨g, cap, cur, h1, Nat.le_trans hE.size h2, h3⟩
      have HO := Lib.hid hown1
      clear hown hown1
      go_simp
      repeat' go_step
      obtain ⟨wo, rfl⟩ : ∃ wo : World, wo = w1 := ⟨_, rfl⟩
      go_loopg [6, 27] k (fun gk vm vj wr => ∃ j : Nat, vj = .int .i64 j ∧ j ≤ k ∧ k - j ≤ gk ∧ Ext w wr ∧ Hid (wr.ownsRow w.heap.size 36 2 vm (ls.take j).flatten.length (flat (ls.take j).flatten)))
      case atStart => exact ⟨0, rfl, Nat.zero_le _, by omega, hE1, Lib.hid (by simpa using HO.out)⟩
      case round =>
        obtain ⟨j, rfl, hjk, hgk2, hE2, HO2⟩ := hrel
        rcases Nat.lt_or_ge j k with hlt | hge
        · have d1 : decide (j < k) = true := by simp [hlt]
          obtain ⟨hp, hvl, hn⟩ := HP.out
          obtain ⟨u, hu⟩ := get_of_lt vs (show j < vs.length by omega)
          obtain ⟨l, hl⟩ := get_of_lt ls (show j < ls.length by omega)
          obtain ⟨A', c', rfl, hl', hc', hcm', hs'⟩ := hp j u l hu hl
          obtain ⟨b, o, rfl, hat⟩ := (hs.below hE2) (fun e => by rw [e] at hu; simp at hu)
          have hc1 := hat j _ hu
          have hi1 : (j : Int) < (k : Int) := by omega
          have hfl : (ls.take (j + 1)).flatten.length ≤ 1000000000 := Nat.le_trans (flatten_le _ _) h9
          rw [flatten_snoc hl, List.length_append] at hfl
          have HL := Lib.hid (flatten_snoc hl)
          clear hp hvl hn hu hl hat
          have hown := HO2.out
          have hs'' := hs'.below hE2
          repeat' (first | (at_builtin; refine wpList_appE (W := w) rfl (.tmp 31) (.tmp 32) _ rfl 36 2 32 Try.underlying22 infoP (by decide) _ _ _ rfl hown hE2 _ l.length c' (flat l) rfl hl' hs'' (flat_one _) (by unfold maxLen; omega) (by omega) ?_; intro v3 w3 hown3 hb3) | go_step)
          go_roundg (k - (j + 1))
          case measure => omega
          case rel => exact ⟨j + 1, by go_num, by omega, Nat.le_refl _, hb3, Lib.hid (by rw [HL.out, List.length_append, flat_append]; exact hown3)⟩
        · obtain rfl : j = k := by omega
          have d1 : decide (j < j) = false := by simp
          repeat' go_step
          go_ret
          have := HO2.out
          rw [List.take_of_length_le (by have := HP.out.2.2; omega)] at this
          exact ⟨_, rfl, this, hE2⟩
end Go.Proofs.Ytclcgelbcbnekaa
