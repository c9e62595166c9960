/- Contract: NearNil. -/
import Derived.Test.YtaehdkgmkjhmgaaYm
import Derived.Test.YtaehdkgmkjhmgaaYr
import Derived.Test.YtaehdkgmkjhmgaaYs
namespace Go.Proofs.Ytaehdkgmkjhmgaa
open Go.RowKit Go.QS
set_option linter.unusedVariables false

theorem fieldN (a x : Value) (w : World) : (Instr.field 29 (.agg #[a, x]) 0).run Try.prog w = .ok a w := by
  unfold Instr.field
  simp [go_sem, asAgg]
theorem fewN_c (w : World) (k : List UInt8) : Calls Try.prog 40 #[.agg #[str k, .string ⟨#[]⟩]] w fun e w' => e = .returned (.agg #[str (k.take 40), .string ⟨#[]⟩]) ∧ Ext w w' := by
  refine (fewp_c w (k, [])).mono ?_
  rintro e w' ⟨rfl, f⟩
  exact ⟨rfl, f⟩

set_option maxRecDepth 100000 in
set_option maxHeartbeats 2000000 in
theorem nearNil_c (w : World) (kk : List UInt8) (i : Int) : Calls Try.prog 14 #[str kk, .int .i64 i] w fun e w' => e = .returned (.bool true) ∧ Ext w w' := by
  obtain ⟨k, hk⟩ : ∃ k, k = kk.take 40 := ⟨_, rfl⟩
  have hkl : k.length ≤ 40 := by rw [hk, List.length_take]; omega
  have HK := Lib.hid hk
  clear hk
  have hfld := fieldN
  have hp0 : (RT.node [] none []).prs = [] := rfl
  have hnn := nearL_nil
  have hpf : ∀ d, pick d [] = none := by intro d; cases d <;> rfl
  have hlg : ∀ k, longL k [] = none := fun _ => rfl
  have hrk : ∀ k, rankL k [] = 0 := fun _ => rfl
  have hat : ∀ i, atI [] i = none := by intro i; unfold atI; split <;> simp
  go_enter Try.func14, Try.ntmps14
  repeat' (first | go_at_call 34 | go_skip | go_guarded | go_step)
  refine (awakeN_c w).mono ?_
  rintro e w0 ⟨rfl, f0⟩
  have HE := Lib.hid f0
  clear f0
  go_simp
  repeat' (first | go_at_call 40 | go_skip | go_guarded | go_step)
  refine (fewN_c _ kk).mono ?_
  rintro e w1 ⟨rfl, f1⟩
  rw [← HK.out]
  replace HE := Lib.hid (Ext.trans HE.out f1)
  clear f1
  go_simp
  repeat' (first
    | (go_at_call 36; refine (min_c _ (.pointer none) (RT.node [] none []) 0 (.inl ⟨rfl, rfl⟩) (.nil 0) rfl (by decide)).mono ?_; rintro e x ⟨rfl, f⟩; simp only [hp0, hnn, hpf, hlg, hrk, hat, optR]; replace HE := Lib.hid (show Ext w x from Ext.trans (by first | exact HE.out | exact HE.out.alloc HE.out.size _) f); clear f; go_simp)
    | (go_at_call 38; refine (max_c _ (.pointer none) (RT.node [] none []) 0 (.inl ⟨rfl, rfl⟩) (.nil 0) rfl (by decide)).mono ?_; rintro e x ⟨rfl, f⟩; simp only [hp0, hnn, hpf, hlg, hrk, hat, optR]; replace HE := Lib.hid (show Ext w x from Ext.trans (by first | exact HE.out | exact HE.out.alloc HE.out.size _) f); clear f; go_simp)
    | (go_at_call 46; refine (floor_c _ (.pointer none) (RT.node [] none []) 0 (.inl ⟨rfl, rfl⟩) (.nil 0) rfl (by decide) k (by omega)).mono ?_; rintro e x ⟨rfl, f⟩; simp only [hp0, hnn, hpf, hlg, hrk, hat, optR]; replace HE := Lib.hid (show Ext w x from Ext.trans (by first | exact HE.out | exact HE.out.alloc HE.out.size _) f); clear f; go_simp)
    | (go_at_call 47; refine (ceil_c _ (.pointer none) (RT.node [] none []) 0 (.inl ⟨rfl, rfl⟩) (.nil 0) rfl (by decide) k (by omega)).mono ?_; rintro e x ⟨rfl, f⟩; simp only [hp0, hnn, hpf, hlg, hrk, hat, optR]; replace HE := Lib.hid (show Ext w x from Ext.trans (by first | exact HE.out | exact HE.out.alloc HE.out.size _) f); clear f; go_simp)
    | (go_at_call 39; refine (below_c _ (.pointer none) (RT.node [] none []) 0 (.inl ⟨rfl, rfl⟩) (.nil 0) rfl (by decide) k (by omega)).mono ?_; rintro e x ⟨rfl, f⟩; simp only [hp0, hnn, hpf, hlg, hrk, hat, optR]; replace HE := Lib.hid (show Ext w x from Ext.trans (by first | exact HE.out | exact HE.out.alloc HE.out.size _) f); clear f; go_simp)
    | (go_at_call 37; refine (above_c _ (.pointer none) (RT.node [] none []) 0 (.inl ⟨rfl, rfl⟩) (.nil 0) rfl (by decide) k (by omega)).mono ?_; rintro e x ⟨rfl, f⟩; simp only [hp0, hnn, hpf, hlg, hrk, hat, optR]; replace HE := Lib.hid (show Ext w x from Ext.trans (by first | exact HE.out | exact HE.out.alloc HE.out.size _) f); clear f; go_simp)
    | (go_at_call 41; refine (longest_c _ (.pointer none) (RT.node [] none []) 0 k (.inl ⟨rfl, rfl⟩) (.nil 0) rfl (by decide) (by omega)).mono ?_; rintro e x ⟨rfl, f⟩; simp only [hp0, hnn, hpf, hlg, hrk, hat, optR]; replace HE := Lib.hid (show Ext w x from Ext.trans (by first | exact HE.out | exact HE.out.alloc HE.out.size _) f); clear f; go_simp)
    | (go_at_call 42; refine (nth_c _ (.pointer none) (RT.node [] none []) 0 i (.inl ⟨rfl, rfl⟩) (.nil 0) rfl (by decide) (by decide)).mono ?_; rintro e x ⟨rfl, f⟩; simp only [hp0, hnn, hpf, hlg, hrk, hat, optR]; replace HE := Lib.hid (show Ext w x from Ext.trans (by first | exact HE.out | exact HE.out.alloc HE.out.size _) f); clear f; go_simp)
    | (go_at_call 45; refine (rank_c _ (.pointer none) (RT.node [] none []) 0 k (.inl ⟨rfl, rfl⟩) (.nil 0) (by decide) (by omega) (by decide)).mono ?_; rintro e x ⟨rfl, f⟩; simp only [hp0, hnn, hpf, hlg, hrk, hat, optR]; replace HE := Lib.hid (show Ext w x from Ext.trans (by first | exact HE.out | exact HE.out.alloc HE.out.size _) f); clear f; go_simp)
    | go_skip | go_guarded | go_step)
  go_ret
  exact ⟨rfl, by first | exact HE.out | exact HE.out.alloc HE.out.size _⟩
end Go.Proofs.Ytaehdkgmkjhmgaa
