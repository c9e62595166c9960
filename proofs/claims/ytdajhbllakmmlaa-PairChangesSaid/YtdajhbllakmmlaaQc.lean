/- Contracts: Grow of nil, Concat. -/
import Derived.Test.YtdajhbllakmmlaaQb
import Derived.Lib.AppendZeros
namespace Go.Proofs.Ytdajhbllakmmlaa
open Go.RowKit Go.QS
set_option linter.unusedVariables false

set_option maxRecDepth 100000 in
theorem grow_c (w : World) (n : Nat) (h9 : n ≤ 1000000000) :
    Calls Try.prog 35 #[.slice none 0 0, .int .i64 n] w fun e w' => ∃ v', e = .returned v' ∧ w'.ownsRow w.heap.size 40 2 v' 0 [] ∧ Ext w w' := by
  obtain ⟨i, z, hi, hz, hs, hb, hzs⟩ := infoP
  rcases Nat.eq_zero_or_pos n with rfl | h0
  · go_enter Try.func35, Try.ntmps35
    clear hi hz hs hb hzs
    repeat' go_step
    go_ret
    exact ⟨_, rfl, World.ownsRow_nil _ _ _ _, Ext.refl _⟩
  · have hr := fun w : World => Lib.run_append_nil_zeros (P := Try.prog) w 22 3 22 40 i z .i64 .i64 Try.underlying22 Try.underlying3 hi hz n h0 (by omega) (by omega) (by rw [hb]; omega)
    have HZ : Hid (_ ∧ _) := Lib.hid ⟨hs, hzs⟩
    have Hr := Lib.hid hr
    clear hi hz hs hb hzs hr
    have d1 : decide (0 < n) = true := by simp [h0]
    go_enter Try.func35, Try.ntmps35
    repeat' (first | (at_builtin; refine Lib.wpList_append_run _ rfl (.tmp 20) (.tmp 21) 22 3 rfl _ _ rfl rfl _ _ (Hr.out _) ?_) | go_step)
    go_ret
    refine ⟨_, rfl, ?_, ?_⟩
    · have hm := World.ownsRow_made (base := w.heap.size) (e := 40) (size := 2) w.drew (Builtin.zeroCells z.cells n ++ Builtin.zeroCells z.cells (grownCap w n 0 40 - n)) (grownCap w n 0 40) (Nat.le_refl _)
        (grownCap_le_maxLen w n 0 _ (by unfold maxLen; omega)) (by
          have := grownCap_ge w n 0 40
          rw [Array.size_append, size_zeroCells, size_zeroCells, HZ.out.2, ← Nat.add_mul]; congr 1; omega)
      exact hm
    · exact ((Ext.refl w).drew).alloc (Nat.le_refl _) _

/-- A slice of slices of pairs. -/
def PSS (w : World) (v : Value) (ls : List (List Pr)) : Prop := ∃ A c vs, v = .slice A ls.length c ∧ Seg w A vs ∧ vs.length = ls.length ∧ ∀ (i : Nat) (u : Value) (l : List Pr), vs[i]? = some u → ls[i]? = some l → PS w u l

theorem flatten_snoc {ls : List (List Pr)} {k : Nat} {l : List Pr} (h : ls[k]? = some l) : (ls.take (k + 1)).flatten = (ls.take k).flatten ++ l := by rw [take_snoc h]; simp
theorem flatten_le (ls : List (List Pr)) (k : Nat) : (ls.take k).flatten.length ≤ ls.flatten.length := by
  have : ls.flatten = (ls.take k).flatten ++ (ls.drop k).flatten := by rw [← List.flatten_append, List.take_append_drop]
  rw [this]; simp

set_option maxRecDepth 100000 in
set_option maxHeartbeats 400000 in
theorem concat_c (w : World) (v : Value) (ls : List (List Pr)) (h : PSS w v ls) (hl9 : ls.length ≤ 1000) (h9 : ls.flatten.length ≤ 1000000000) :
    Calls Try.prog 31 #[v] w fun e w' => ∃ v', e = .returned v' ∧ w'.ownsRow w.heap.size 40 2 v' ls.flatten.length (flat ls.flatten) ∧ Ext w w' := by
  obtain ⟨A, c, vs, rfl, hs, hvl, hp⟩ := h
  obtain ⟨n, hn⟩ : ∃ n, n = ls.length := ⟨_, rfl⟩
  rw [← hn] at hl9 ⊢
  have HP : Hid (_ ∧ _ ∧ _) := Lib.hid ⟨hp, hvl, hn⟩
  clear hp hvl hn
  go_enter Try.func31, Try.ntmps31
  repeat' go_step
  go_loopg [3, 11] n (fun gk vm vk wr => ∃ k m : Nat, vk = .int .i64 k ∧ vm = .int .i64 m ∧ k ≤ n ∧ n - k ≤ gk ∧ m ≤ 1000000000 ∧ Ext w wr ∧ Hid (m = (ls.take k).flatten.length))
  case atStart => exact ⟨0, 0, rfl, rfl, Nat.zero_le _, by omega, by omega, Ext.refl _, Lib.hid (by simp)⟩
  case round =>
    obtain ⟨k, m, rfl, rfl, hkn, hgk, hm9, hE, HM⟩ := hrel
    rcases Nat.lt_or_ge k n with hlt | hge
    · have d1 : decide (k < n) = true := by simp [hlt]
      obtain ⟨hp, hvl, hn⟩ := HP.out
      obtain ⟨u, hu⟩ := get_of_lt vs (show k < vs.length by omega)
      obtain ⟨l, hl⟩ := get_of_lt ls (show k < ls.length by omega)
      obtain ⟨A', c', rfl, hl', hc', hcm', hs'⟩ := hp k u l hu hl
      obtain ⟨b, o, rfl, hat⟩ := (hs.below hE) (fun e => by rw [e] at hu; simp at hu)
      have hc1 := hat k _ hu
      have hi1 : (k : Int) < (n : Int) := by omega
      obtain ⟨m1, hm1⟩ : ∃ m1, m1 = m + l.length := ⟨_, rfl⟩
      have hs1 : (m : Int) + (l.length : Int) = (m1 : Int) := by omega
      have hm2 : m1 = (ls.take (k + 1)).flatten.length := by rw [flatten_snoc hl, List.length_append, ← HM.out, hm1]
      have hm3 : m1 ≤ 1000000000 := by rw [hm2]; exact Nat.le_trans (flatten_le _ _) h9
      have HH := Lib.hid hm2
      have d2 : ¬ ((m1 : Int) < 0) := by omega
      clear hp hvl hn hu hl hl' hs' hat hm1 hm2
      repeat' go_step
      go_roundg (n - (k + 1))
      case measure => omega
      case rel => exact ⟨k + 1, m1, by go_num, rfl, by omega, Nat.le_refl _, hm3, hE, HH⟩
    · obtain rfl : k = n := by omega
      have d1 : decide (k < k) = false := by simp
      repeat' go_step
      refine (grow_c _ m hm9).mono ?_
      rintro e w1 ⟨v1, rfl, hown, hb1⟩
      have hE1 : Ext w w1 := Ext.trans hE hb1
      have hown1 : w1.ownsRow w.heap.size 40 2 v1 0 [] := by
        refine ⟨hown.1, ?_⟩
        rcases hown.2 with h | ⟨g, cap, cur, h1, h2, h3⟩
        · exact .inl h
        · exact .inr ⟨g, cap, cur, h1, Nat.le_trans hE.size h2, h3⟩
      have HO := Lib.hid hown1
      clear hown hown1
      go_simp
      repeat' go_step
      obtain ⟨wo, rfl⟩ : ∃ wo : World, wo = w1 := ⟨_, rfl⟩
      go_loopg [6, 27] k (fun gk vm vj wr => ∃ j : Nat, vj = .int .i64 j ∧ j ≤ k ∧ k - j ≤ gk ∧ Ext w wr ∧ Hid (wr.ownsRow w.heap.size 40 2 vm (ls.take j).flatten.length (flat (ls.take j).flatten)))
      case atStart => exact ⟨0, rfl, Nat.zero_le _, by omega, hE1, Lib.hid (by simpa using HO.out)⟩
      case round =>
        obtain ⟨j, rfl, hjk, hgk2, hE2, HO2⟩ := hrel
        rcases Nat.lt_or_ge j k with hlt | hge
        · have d1 : decide (j < k) = true := by simp [hlt]
          obtain ⟨hp, hvl, hn⟩ := HP.out
          obtain ⟨u, hu⟩ := get_of_lt vs (show j < vs.length by omega)
          obtain ⟨l, hl⟩ := get_of_lt ls (show j < ls.length by omega)
          obtain ⟨A', c', rfl, hl', hc', hcm', hs'⟩ := hp j u l hu hl
          obtain ⟨b, o, rfl, hat⟩ := (hs.below hE2) (fun e => by rw [e] at hu; simp at hu)
          have hc1 := hat j _ hu
          have hi1 : (j : Int) < (k : Int) := by omega
          have hfl : (ls.take (j + 1)).flatten.length ≤ 1000000000 := Nat.le_trans (flatten_le _ _) h9
          rw [flatten_snoc hl, List.length_append] at hfl
          have HL := Lib.hid (flatten_snoc hl)
          clear hp hvl hn hu hl hat
          have hown := HO2.out
          have hs'' := hs'.below hE2
          repeat' (first | (at_builtin; refine wpList_appE (W := w) rfl (.tmp 31) (.tmp 32) _ rfl 40 2 32 Try.underlying22 infoP (by decide) _ _ _ rfl hown hE2 _ l.length c' (flat l) rfl hl' hs'' (flat_one _) (by unfold maxLen; omega) (by omega) ?_; intro v3 w3 hown3 hb3) | go_step)
          go_roundg (k - (j + 1))
          case measure => omega
          case rel => exact ⟨j + 1, by go_num, by omega, Nat.le_refl _, hb3, Lib.hid (by rw [HL.out, List.length_append, flat_append]; exact hown3)⟩
        · obtain rfl : j = k := by omega
          have d1 : decide (j < j) = false := by simp
          repeat' go_step
          go_ret
          have := HO2.out
          rw [List.take_of_length_le (by have := HP.out.2.2; omega)] at this
          exact ⟨_, rfl, this, hE2⟩
end Go.Proofs.Ytdajhbllakmmlaa
