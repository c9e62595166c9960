/- Texts joined. -/
import Derived.Test.YtigoffdehdobiaaGreatM05
import Derived.Test.YtigoffdehdobiaaGreatM07
import Derived.Deep.LoopGhost
set_option linter.unusedVariables false
set_option linter.unusedSimpArgs false
/- Contract: where a kid is, or would be. -/
namespace Go.Proofs.YtigoffdehdobiaaGreat
open Go.RowKit Go.QS
set_option linter.unusedVariables false

theorem hd_cons {x : UInt8} {l : List UInt8} {k : RT} (h : k.lab = x :: l) : k.hd = x.toNat := by simp [RT.hd, h]
theorem hd_lt (k : RT) : k.hd < 256 := UInt8.toNat_lt _

end Go.Proofs.YtigoffdehdobiaaGreat
/- Contracts: beginnings that are alike; begins with. -/
namespace Go.Proofs.YtigoffdehdobiaaGreat
open Go.RowKit Go.QS
set_option linter.unusedVariables false

theorem common_le : ∀ (a b : List UInt8), common a b ≤ a.length ∧ common a b ≤ b.length
  | [], b => by simp [common]
  | a :: x, [] => by simp [common]
  | a :: x, b :: y => by
    have := common_le x y
    unfold common
    split <;> simp <;> omega
theorem common_at : ∀ {a b : List UInt8} {k : Nat}, k ≤ a.length → k ≤ b.length → a.take k = b.take k → (k = a.length ∨ k = b.length ∨ a[k]? ≠ b[k]?) → common a b = k
  | [], b, k, h, _, _, _ => by simp at h; subst h; simp [common]
  | a :: x, [], k, _, h, _, _ => by simp at h; subst h; simp [common]
  | a :: x, b :: y, 0, _, _, _, h => by
    have : a ≠ b := by
      intro e
      rcases h with h | h | h
      · simp at h
      · simp at h
      · simp [e] at h
    simp [common, this]
  | a :: x, b :: y, k + 1, h1, h2, h3, h4 => by
    simp only [List.take_succ_cons, List.cons.injEq] at h3
    obtain ⟨rfl, h3⟩ := h3
    have := common_at (a := x) (b := y) (k := k) (by simpa using h1) (by simpa using h2) h3 (by simpa using h4)
    simp [common, this]

set_option maxRecDepth 100000 in
theorem common_c (w : World) (a b : List UInt8) (ha : a.length ≤ 9223372036854775807) (hb : b.length ≤ 9223372036854775807) :
    Calls Tryz.prog 96 #[str a, str b] w fun e w' => e = .returned (.int .i64 (common a b)) ∧ Ext w w' := by
  obtain ⟨n, hn⟩ : ∃ n, n = min a.length b.length := ⟨_, rfl⟩
  have hmin : min (a.length : Int) (b.length : Int) = (n : Int) := by omega
  have hna : n ≤ a.length := by omega
  have hnb : n ≤ b.length := by omega
  have Hn := Lib.hid hn
  clear hn
  go_enter Tryz.func96, Tryz.ntmps96
  repeat' go_step
  go_loopg [6, 13] n (fun gk v6 vk wr => ∃ k : Nat, vk = .int .i64 k ∧ k ≤ n ∧ n - k ≤ gk ∧ Ext w wr ∧ Hid (a.take k = b.take k))
  case atStart => exact ⟨0, rfl, Nat.zero_le _, Nat.le_refl _, Ext.refl _, Lib.hid rfl⟩
  case round =>
    obtain ⟨k, rfl, hkn, hgk, hE, HT⟩ := hrel
    by_cases h1 : k < n
    · have d1 : decide (k < n) = true := by simp [h1]
      obtain ⟨x, hx⟩ := get_of_lt a (show k < a.length by omega)
      obtain ⟨y, hy⟩ := get_of_lt b (show k < b.length by omega)
      have i1 := idx_str Tryz.underlying9 hx
      have i2 := idx_str Tryz.underlying9 hy
      have HX : Hid (_ ∧ _) := Lib.hid ⟨hx, hy⟩
      clear hx hy
      by_cases hxy : x = y
      · subst hxy
        have hne : ((x.toNat : Int) != (x.toNat : Int)) = false := by simp
        repeat' (first | go_skip | go_guarded | go_step)
        go_quiet (fail)
        repeat' go_step
        go_roundg (n - (k + 1))
        case measure => omega
        case rel => exact ⟨k + 1, by go_num, by omega, Nat.le_refl _, below_drewN hE _, Lib.hid (by rw [take_snoc HX.out.1, take_snoc HX.out.2, HT.out])⟩
      · have hxy' : x.toNat ≠ y.toNat := fun e => hxy (UInt8.toNat_inj.1 e)
        have hne : ((x.toNat : Int) != (y.toNat : Int)) = true := by rw [bne_iff_ne]; omega
        have hne' : (x.toNat != y.toNat) = true := by rw [bne_iff_ne]; exact hxy'
        have HL : Hid (common a b = k) := Lib.hid (common_at (by omega) (by omega) HT.out (.inr (.inr (by rw [HX.out.1, HX.out.2]; exact fun e => hxy (Option.some.inj e)))))
        clear hxy hxy'
        repeat' (first | go_skip | go_guarded | go_step)
        go_quiet (fail)
        repeat' go_step
        go_ret
        refine ⟨?_, below_drewN hE _⟩
        rw [HL.out]; rfl
    · obtain rfl : k = n := by omega
      have d1 : decide (k < k) = false := by simp
      have HL : Hid (common a b = k) := Lib.hid (common_at hna hnb HT.out (by have := Hn.out; omega))
      repeat' (first | go_skip | go_guarded | go_step)
      go_ret
      refine ⟨?_, hE⟩
      rw [HL.out]; rfl

def begins (s p : List UInt8) : Bool := s.take p.length == p
theorem begins_short {s p : List UInt8} (h : ¬ p.length ≤ s.length) : begins s p = false := by
  unfold begins
  rw [beq_eq_false_iff_ne]
  intro e
  have := congrArg List.length e
  simp at this
  omega

set_option maxRecDepth 100000 in
theorem begins_c (w : World) (s p : List UInt8) (hs : s.length ≤ 9223372036854775807) (hp : p.length ≤ 9223372036854775807) :
    Calls Tryz.prog 164 #[str s, str p] w fun e w' => e = .returned (.bool (begins s p)) ∧ w = w' := by
  have h1 : Calls Tryz.prog 167 #[str s, str p] w fun e w' => e = .returned (.bool (begins s p)) ∧ w = w' := by
    by_cases hl : p.length ≤ s.length
    · have hd : decide ((p.length : Int) ≤ (s.length : Int)) = true := by simp; omega
      go_enter Tryz.func167, Tryz.ntmps167
      repeat' (first | go_skip | go_guarded | go_step)
      go_ret
      exact ⟨rfl, rfl⟩
    · have hd : decide ((p.length : Int) ≤ (s.length : Int)) = false := by simp; omega
      go_enter Tryz.func167, Tryz.ntmps167
      repeat' (first | go_skip | go_guarded | go_step)
      go_ret
      exact ⟨by rw [begins_short hl]; rfl, rfl⟩
  have H1 := Lib.hid h1
  clear h1
  have h2 : Calls Tryz.prog 166 #[str s, str p] w fun e w' => e = .returned (.bool (begins s p)) ∧ w = w' := by
    go_enter Tryz.func166, Tryz.ntmps166
    repeat' (first | (go_at_call 167; refine H1.out.mono ?_; rintro e w1 ⟨rfl, rfl⟩; go_simp) | go_skip | go_guarded | go_step)
    go_ret
    exact ⟨rfl, rfl⟩
  have H2 := Lib.hid h2
  clear h2
  go_enter Tryz.func164, Tryz.ntmps164
  repeat' (first | (go_at_call 166; refine H2.out.mono ?_; rintro e w1 ⟨rfl, rfl⟩; go_simp) | go_skip | go_guarded | go_step)
  go_ret
  exact ⟨rfl, rfl⟩
end Go.Proofs.YtigoffdehdobiaaGreat
/- Contract: a branch, cut where its label and a key part. -/
namespace Go.Proofs.YtigoffdehdobiaaGreat
open Go.RowKit Go.QS
set_option linter.unusedVariables false

theorem cell_far {w : World} {g h i j : Nat} {v u : Value} (hne : h ≠ g) (hc : w.cell? ⟨g, j, none⟩ = some u) : (w.setCell ⟨h, i, none⟩ v).cell? ⟨g, j, none⟩ = some u := by
  rw [World.cell?_setCell_other _ _ _ _ (by intro e; cases e; exact hne rfl)]; exact hc

theorem NodeAt.far {T : TypeId} {w : World} {g h i : Nat} {lab : List UInt8} {val : Option (List UInt8)} {kv v : Value} {ow : Option Addr} (n : NodeAt T w g lab val kv ow) (hne : h ≠ g) : NodeAt T (w.setCell ⟨h, i, none⟩ v) g lab val kv ow :=
  (Below.heap_setCell w ⟨h, i, none⟩ v g (fun e => hne e.symm)).trans n

end Go.Proofs.YtigoffdehdobiaaGreat
