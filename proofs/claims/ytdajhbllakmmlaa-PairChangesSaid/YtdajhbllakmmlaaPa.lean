/- Contracts of the small functions of the pair chapter. -/
import Derived.Test.YtdajhbllakmmlaaRows
import Derived.Test.YtdajhbllakmmlaaVoc
namespace Go.Proofs.Ytdajhbllakmmlaa
open Go.RowKit Go.QS
set_option linter.unusedVariables false

abbrev zP : Value := .agg #[.string ⟨#[]⟩, .string ⟨#[]⟩]
theorem infoP : ∃ i z, Try.prog.info? 40 = some i ∧ i.zero = some z ∧ i.size = 2 ∧ i.bytes = 32 ∧ z.cells.size = 2 := info_of (z := zP) (by kernel_rfl) rfl
theorem infoR : ∃ i z, Try.prog.info? 48 = some i ∧ i.zero = some z ∧ i.size = 2 ∧ i.bytes = 32 ∧ z.cells.size = 2 := info_of (z := zP) (by kernel_rfl) rfl

set_option maxRecDepth 100000 in
theorem few_c (w : World) (v : Value) (l : List Pr) (h : PS w v l) :
    Calls Try.prog 9 #[v] w fun e w' => ∃ v', e = .returned v' ∧ w'.ownsRow w.heap.size 40 2 v' (l.take 40).length (flat (l.take 40)) ∧ Ext w w' := by
  obtain ⟨A, c, rfl, hl, hn, hc, hs⟩ := h
  have H : Hid ((l.take 40).length = min 40 l.length) := Lib.hid (List.length_take)
  rcases Nat.lt_or_ge 40 l.length with h40 | h40
  all_goals
    go_enter Try.func9, Try.ntmps9
    repeat' (first | (refine wpList_appE (W := w) rfl (.tmp 3) (.tmp 8) _ rfl 40 2 32 Try.underlying22 infoP (by decide) _ 0 [] rfl (own_lit [] 0 (by decide) rfl (Nat.le_refl _)) ((Ext.refl w).alloc (Nat.le_refl _) _) _ _ c (flat (l.take 40)) rfl (by rw [flat_length, H.out]; omega) (by rw [flat_take]; exact (hs.alloc _).take _) (flat_one _) (by unfold maxLen; omega) (by omega) ?_; intro v1 w1 hown hb) | go_step)
    go_ret
    refine ⟨_, rfl, ?_, hb⟩
    have e : (l.take 40).length = 0 + min 40 l.length := by rw [H.out, Nat.zero_add]
    rw [e]
    first | (rw [Nat.min_eq_left (by omega)]; exact hown) | (rw [Nat.min_eq_right (by omega)]; exact hown)

set_option maxRecDepth 100000 in
theorem own_c (w : World) (v : Value) (l : List Pr) (h : PS w v l) (hn9 : l.length ≤ 1000000000) :
    Calls Try.prog 12 #[v] w fun e w' => ∃ v', e = .returned v' ∧ w'.ownsRow w.heap.size 48 2 v' l.length (flat l) ∧ Ext w w' := by
  obtain ⟨A, c, rfl, hl, hn, hc, hs⟩ := h
  go_enter Try.func12, Try.ntmps12
  repeat' go_step
  go_loopw [3, 8] (fun v i wr => ∃ k : Nat, k ≤ l.length ∧ i = .int .i64 k ∧ wr.ownsRow w.heap.size 48 2 v k (flat (l.take k)) ∧ Ext w wr)
                 (fun _ i _ => l.length - (intOf i).toNat)
  case atStart => exact ⟨0, Nat.zero_le _, rfl, World.ownsRow_nil _ _ _ _, Ext.refl _⟩
  case round =>
    obtain ⟨k, hk, rfl, hown, hb⟩ := hrel
    by_cases hlt : k < l.length
    · obtain ⟨⟨pk, pv⟩, hp⟩ := get_of_lt l hlt
      obtain ⟨b, o, rfl, h1, h2⟩ := seg_pair (hs.below hb) hp
      have H : Hid (flat (l.take (k + 1)) = flat (l.take k) ++ [str pk, str pv]) := Lib.hid (by rw [take_snoc hp, flat_append]; rfl)
      clear hp
      repeat' (first | (at_builtin; (refine wpList_appE (W := w) rfl (.tmp 12) (.tmp 14) _ rfl 48 2 32 Try.underlying27 infoR (by decide) _ k _ rfl ((hown.alloc _).alloc _) ((hb.alloc hb.size _).alloc (by simp; have := hb.size; omega) _) _ 1 1 [str pk, str pv] rfl rfl (Seg.new _ [_, _] _ (by simp)) (by intro u hu; simp at hu; rcases hu with rfl | rfl <;> rfl) (by unfold maxLen; omega) (by omega) ?_); intro v1 w1 hown1 hb1) | go_step)
      go_roundw
      case rel => exact ⟨k + 1, by omega, by go_num, by rw [H.out]; exact hown1, hb1⟩
      case measure => simp [intOf]; omega
    · obtain rfl : k = l.length := by omega
      repeat' go_step
      go_ret
      rw [List.take_length] at hown
      exact ⟨_, rfl, hown, hb⟩
end Go.Proofs.Ytdajhbllakmmlaa
