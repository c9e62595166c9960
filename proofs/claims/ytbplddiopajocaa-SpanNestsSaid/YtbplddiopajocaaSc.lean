/- Contracts: the least above all that begin so; the span of a beginning. -/
import Derived.Test.YtbplddiopajocaaSb
import Derived.BigRegion
set_option linter.unusedVariables false
set_option linter.unusedSimpArgs false
namespace Go.Proofs.Ytbplddiopajocaa
open Go.RowKit Go.QS
set_option linter.unusedVariables false

/-- Without the greatest bytes at its end. -/
def trim (s : List UInt8) : Nat := (s.reverse.dropWhile fun b => b == 255).length
def abv (s : List UInt8) : List UInt8 × Bool :=
  match s[trim s - 1]? with
  | some x => if trim s = 0 then ([], false) else (s.take (trim s - 1) ++ [x + 1], true)
  | none => ([], false)

theorem trim_snoc (s : List UInt8) (x : UInt8) : trim (s ++ [x]) = if x = 255 then trim s else s.length + 1 := by
  unfold trim
  rw [List.reverse_append, List.reverse_singleton, List.singleton_append, List.dropWhile_cons]
  by_cases h : x = 255
  · simp [h]
  · simp [h]
theorem trim_le (s : List UInt8) : trim s ≤ s.length := by
  have := (List.dropWhile_sublist (l := s.reverse) fun b => b == 255).length_le
  simpa [trim] using this
theorem trim_at {s : List UInt8} : ∀ {n : Nat}, n ≤ s.length → (∀ j x, n ≤ j → s[j]? = some x → x = 255) → (∀ x, 0 < n → s[n - 1]? = some x → x ≠ 255) → trim s = n := by
  induction s using snoc_ind with
  | h0 => intro n hn _ _; simp at hn; subst hn; rfl
  | h1 s x ih =>
    intro n hn h1 h2
    rw [trim_snoc]
    by_cases hx : x = 255
    · rw [if_pos hx]
      have hns : n ≤ s.length := by
        rcases Nat.lt_or_ge s.length n with h | h
        · have : n = s.length + 1 := by simp at hn; omega
          subst this
          exact absurd hx (h2 x (by omega) (by simp))
        · exact h
      refine ih hns (fun j y hj hy => h1 j y hj ?_) (fun y hn0 hy => h2 y hn0 ?_)
      · rw [List.getElem?_append_left (List.getElem?_eq_some_iff.1 hy).1]; exact hy
      · rw [List.getElem?_append_left (List.getElem?_eq_some_iff.1 hy).1]; exact hy
    · rw [if_neg hx]
      rcases Nat.lt_or_ge s.length n with h | h
      · simp at hn; omega
      · exact absurd (h1 s.length x h (by simp)) hx

set_option maxRecDepth 100000 in
theorem above_c (w : World) (s : List UInt8) (hs : s.length ≤ 1000000) :
    Calls Try.prog 55 #[str s] w fun e w' => e = .returned (.tuple #[str (abv s).1, .bool (abv s).2]) ∧ Ext w w' := by
  go_enter Try.func55, Try.ntmps55
  repeat' (go_not_at_region 2; go_step)
  go_loopg [4] s.length (fun gk v4 wr => ∃ n : Nat, v4 = .int .i64 n ∧ n ≤ s.length ∧ n ≤ gk ∧ w = wr ∧ Hid (∀ j x, n ≤ j → s[j]? = some x → x = 255))
  case atStart => exact ⟨s.length, rfl, Nat.le_refl _, Nat.le_refl _, rfl, Lib.hid fun j x h hx => by have := (List.getElem?_eq_some_iff.1 hx).1; omega⟩
  case round =>
    obtain ⟨n, rfl, hn, hgk, rfl, HI⟩ := hrel
    rcases Nat.eq_zero_or_pos n with h0 | h0
    · subst h0
      have HT : Hid (trim s = 0) := Lib.hid (trim_at hn HI.out (fun x h => by omega))
      repeat' (first | go_skip | go_guarded | go_step)
      go_ret2
      refine ⟨?_, Ext.refl _⟩
      have : abv s = ([], false) := by
        unfold abv; rw [HT.out]; split <;> simp
      rw [this]; rfl
    · obtain ⟨m, rfl⟩ : ∃ m, n = m + 1 := ⟨n - 1, by omega⟩
      obtain ⟨x, hx⟩ := get_of_lt s (show m < s.length by omega)
      have i1 := idx_str Try.underlying9 hx
      have hs1 : (((m + 1 : Nat) : Int) - 1) = (m : Int) := by omega
      have hs2 : ((m : Int) + 1 - 1) = (m : Int) := by omega
      have hd0 : decide (0 < m + 1) = true := by simp
      have HX := Lib.hid hx
      clear hx
      by_cases hff : x = 255
      · have he : ((x.toNat : Int) == 255) = true := by rw [hff]; rfl
        have HF := Lib.hid hff
        clear hff
        repeat' (first | go_skip | go_guarded | go_step)
        go_roundg m
        case measure => omega
        case rel =>
          refine ⟨m, by go_num, by omega, Nat.le_refl _, rfl, Lib.hid fun j y hj hy => ?_⟩
          rcases Nat.lt_or_eq_of_le hj with h | rfl
          · exact HI.out j y h hy
          · rw [HX.out] at hy; cases hy; exact HF.out
      · have he : ((x.toNat : Int) == 255) = false := by
          rw [beq_eq_false_iff_ne]
          intro e
          have : x.toNat = 255 := by omega
          exact hff (UInt8.toNat_inj.1 this)
        have HT : Hid (trim s = m + 1) := Lib.hid (trim_at hn HI.out (fun y _ hy => by rw [Nat.add_sub_cancel, HX.out] at hy; cases hy; exact hff))
        have hne0 : (((m + 1 : Nat) : Int) == 0) = false := by rw [beq_eq_false_iff_ne]; omega
        have hb1 : (m : Int) ≤ (s.length : Int) := by omega
        clear hff
        have hx9 : x.toNat < 255 := by
          have := UInt8.toNat_lt x
          have : x.toNat ≠ 255 := fun e => by rw [e] at he; simp at he
          omega
        have hx1 : (x + 1).toNat = x.toNat + 1 := by
          rw [UInt8.toNat_add]; show (x.toNat + 1) % 256 = _; omega
        have hconv : (convert 64 9 (.slice (some ⟨w.heap.size, 0, none⟩) 1 1)).run Try.prog (w.alloc (.cells #[.int .u8 ((x.toNat : Int) + 1)] 5)).drew = .ok (str [x + 1]) (w.alloc (.cells #[.int .u8 ((x.toNat : Int) + 1)] 5)).drew := by
          have hcell : Value.int .u8 ((x.toNat : Int) + 1) = .int .u8 ((x + 1).toNat : Int) := by rw [hx1]; rfl
          rw [hcell]
          refine conv_bs Try.underlying64 Try.underlying5 Try.underlying9 (l := [x + 1]) ?_
          exact ⟨_, _, rfl, rfl, Nat.le_refl _, by decide, (Seg.new w [.int .u8 ((x + 1).toNat : Int)] _ rfl).below (Ext.refl _).drew⟩
        have HX1 := Lib.hid hx1
        clear hx1
        repeat' (go_not_at_region 6; (first | go_skip | go_guarded | go_step))
        go_region
        repeat' go_step
        go_ret2
        refine ⟨?_, ((Ext.refl w).alloc (Nat.le_refl _) _).drew⟩
        have : abv s = (s.take m ++ [x + 1], true) := by
          unfold abv
          rw [HT.out, Nat.add_sub_cancel, HX.out]
          simp
        rw [this]
        have hba := bs_append (s.take m) [x + 1]
        show Ending.returned (.tuple #[.string (bs (s.take m) ++ bs [x + 1]), .bool true]) = .returned (.tuple #[.string (bs (s.take m ++ [x + 1])), .bool true])
        rw [hba]

/-- The span of a beginning. -/
def Sp.pfx (p : List UInt8) : Sp := ⟨p, (abv p).1, !(abv p).2⟩

set_option maxRecDepth 100000 in
theorem prefix_c (w : World) (s : List UInt8) (hs : s.length ≤ 1000000) :
    Calls Try.prog 32 #[str s] w fun e w' => e = .returned (Sp.pfx s).v ∧ Ext w w' := by
  have HA := Lib.hid (above_c (w.alloc (.cells #[.string ⟨#[]⟩, .string ⟨#[]⟩, .bool false] 42)) s hs)
  obtain ⟨r, hr⟩ : ∃ r, r = abv s := ⟨_, rfl⟩
  unfold Sp.pfx
  rw [← hr] at HA ⊢
  obtain ⟨a, b⟩ := r
  clear hr
  go_enter Try.func32, Try.ntmps32
  repeat' (first | go_at_call 55 | go_skip | go_guarded | go_step)
  refine HA.out.mono ?_
  rintro e w1 ⟨rfl, f1⟩
  obtain ⟨g, hg⟩ : ∃ g, g = w.heap.size := ⟨_, rfl⟩
  have b1 := box_ext (heap_new w _) f1
  rw [← hg] at b1 ⊢
  have hc : w1.cell? ⟨g, 0, none⟩ = some (.string ⟨#[]⟩) ∧ w1.cell? ⟨g, 1, none⟩ = some (.string ⟨#[]⟩) ∧ w1.cell? ⟨g, 2, none⟩ = some (.bool false) := by simp [World.cell?, b1]
  obtain ⟨c1, c2, c3⟩ := hc
  have cf := box_free b1
  have F1 : Hid (_ ∧ _ ∧ _) := Lib.hid ⟨Ext.trans ((Ext.refl w).alloc (Nat.le_refl _) _) f1, b1, (show w.heap.size ≤ g by omega)⟩
  clear f1 b1 hg
  go_simp
  repeat' (first | go_skip | go_guarded | go_step)
  obtain ⟨k1, k2, k3⟩ := F1.out
  (try simp only [Exit.inBlock, Exit.then]); refine bodyPost_ret_by (results_cell_row rfl _ _ _ _ _ _ _ rfl (heap_set (heap_set (heap_set k2 0 _) 1 _) 2 _) Try.underlying42 rfl (by kernel_rfl)) rfl ?_
  exact ⟨rfl, ((k1.setCell k3 _).setCell k3 _).setCell k3 _⟩
end Go.Proofs.Ytbplddiopajocaa
