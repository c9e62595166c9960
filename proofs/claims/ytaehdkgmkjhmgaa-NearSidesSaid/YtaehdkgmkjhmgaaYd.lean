/- Contract: how a label lies to what is left of a key. -/
import Derived.Test.YtaehdkgmkjhmgaaYb
import Derived.OpenShut
import Derived.JoinedCond
import Derived.Deep.DeepCutAuto
namespace Go.Proofs.Ytaehdkgmkjhmgaa
open Go.RowKit Go.QS
set_option linter.unusedVariables false

theorem common_get (lab key : List UInt8) (h1 : common lab key ≠ lab.length) : common lab key < lab.length := by
  have := (common_le lab key).1
  omega
set_option maxRecDepth 100000 in
theorem turn_c (w : World) (lab key : List UInt8) (h1 : lab.length ≤ 100000) (h2 : key.length ≤ 100000) :
    Calls Try.prog 75 #[str lab, str key] w fun e w' => e = .returned (.int .i64 (trn lab key)) ∧ Ext w w' := by
  have hc := common_le lab key
  have HT := Lib.hid (trn_common lab key)
  obtain ⟨k, hk⟩ : ∃ k, k = common lab key := ⟨_, rfl⟩
  have HC := Lib.hid (common_c w lab key (by omega) (by omega))
  rw [← hk] at HC HT hc
  clear hk
  go_enter Try.func75, Try.ntmps75
  repeat' (first | go_at_call 86 | go_skip | go_guarded | go_step)
  refine HC.out.mono ?_
  rintro e x1 ⟨rfl, f1⟩
  have F1 := Lib.hid f1
  clear f1
  go_simp
  by_cases e1 : k = lab.length
  · have d1 : decide (k = lab.length) = true := by simp [e1]
    repeat' (first | go_skip | go_guarded | go_step)
    go_ret
    refine ⟨?_, F1.out⟩
    rw [HT.out, if_pos e1]
    rfl
  · have d1 : decide (k = lab.length) = false := by simp [e1]
    have hkl : (k : Int) < (lab.length : Int) := by omega
    repeat' (go_not_at_region 4; (first | go_skip | go_guarded | go_step))
    by_cases e2 : k = key.length
    · have d2 : decide (k = key.length) = true := by simp [e2]
      have b2 : ((k : Int) == (key.length : Int)) = true := by simp; omega
      first | (go_quiet (fail)) | skip
      repeat' (first | go_skip | go_guarded | go_step)
      go_ret
      refine ⟨?_, below_drewN F1.out _⟩
      rw [HT.out, if_neg e1, if_pos e2]
      rfl
    · have d2 : decide (k = key.length) = false := by simp [e2]
      have b2 : ((k : Int) == (key.length : Int)) = false := by simp; omega
      have hkk : (k : Int) < (key.length : Int) := by omega
      obtain ⟨x, hx⟩ := get_of_lt lab (show k < lab.length by omega)
      obtain ⟨y, hy⟩ := get_of_lt key (show k < key.length by omega)
      have i1 := idx_str Try.underlying9 hx
      have i2 := idx_str Try.underlying9 hy
      have HX : Hid (_ ∧ _) := Lib.hid ⟨hx, hy⟩
      clear hx hy
      by_cases h3 : y < x
      · have h4 : y.toNat < x.toNat := UInt8.lt_iff_toNat_lt.1 h3
        have d3 : decide (y.toNat < x.toNat) = true := by simp [h4]
        have d4 : decide ((y.toNat : Int) < (x.toNat : Int)) = true := by simp; omega
        have H3 := Lib.hid h3
        clear h3 h4
        repeat' (first | go_skip | go_guarded | go_step)
        go_quiet (fail)
        repeat' (first | go_skip | go_guarded | go_step)
        go_ret
        refine ⟨?_, below_drewN F1.out _⟩
        rw [HT.out, if_neg e1, if_neg e2, if_pos (by rw [HX.out.1, HX.out.2]; exact H3.out)]
        rfl
      · have h4 : ¬ y.toNat < x.toNat := fun h => h3 (UInt8.lt_iff_toNat_lt.2 h)
        have d3 : decide (y.toNat < x.toNat) = false := by simp; omega
        have d4 : decide ((y.toNat : Int) < (x.toNat : Int)) = false := by simp; omega
        have H3 := Lib.hid h3
        clear h3 h4
        repeat' (first | go_skip | go_guarded | go_step)
        go_quiet (fail)
        repeat' (first | go_skip | go_guarded | go_step)
        go_ret
        refine ⟨?_, below_drewN F1.out _⟩
        rw [HT.out, if_neg e1, if_neg e2, if_neg (by rw [HX.out.1, HX.out.2]; exact H3.out)]
        rfl
end Go.Proofs.Ytaehdkgmkjhmgaa
