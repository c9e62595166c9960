/- Contract: radix.Put, without a token. -/
import Derived.Test.YtbplddiopajocaaRj
set_option linter.unusedVariables false
set_option linter.unusedSimpArgs false
namespace Go.Proofs.Ytbplddiopajocaa
open Go.RowKit Go.QS
set_option linter.unusedVariables false

theorem keep2 {w w' : World} {g1 g2 i1 i2 : Nat} {u1 u2 : Value} (f : Ext w w') (h : w.cell? ⟨g1, i1, none⟩ = some u1 ∧ w.cell? ⟨g2, i2, none⟩ = some u2) : w'.cell? ⟨g1, i1, none⟩ = some u1 ∧ w'.cell? ⟨g2, i2, none⟩ = some u2 :=
  ⟨(f.cell (World.block_lt_of_cell? w _ h.1)).trans h.1, (f.cell (World.block_lt_of_cell? w _ h.2)).trans h.2⟩

set_option maxRecDepth 100000 in
theorem putR_c (w : World) (N g : Nat) (t : RT) (p : Pr) (h : Rep NT w g t) (hk : Kd N t.kids) (hkl : p.1.length ≤ N) (hN : N ≤ 1000) :
    Calls Try.prog 11 #[.pointer none, ptr g, .agg #[str p.1, str p.2]] w fun e w' => ∃ g', e = .returned (.tuple #[ptr g', .bool (tput p.1.length t p.1 p.2).2.1]) ∧ Ext w w' ∧ Rep NT w' g' (tput p.1.length t p.1 p.2).1 ∧ ((tput p.1.length t p.1 p.2).2.2 = false → g' = g) ∧ ((tput p.1.length t p.1 p.2).2.2 = true → w.heap.size ≤ g') := by
  have HC := Lib.hid (fun W (hW : Ext w W) => putk_c p.1.length N g t p.1 p.2 W (Nat.le_refl _) (h.ext hW) hk hkl hN)
  obtain ⟨r, hr⟩ : ∃ r, r = tput p.1.length t p.1 p.2 := ⟨_, rfl⟩
  rw [← hr] at HC ⊢
  obtain ⟨k, v⟩ := p
  obtain ⟨r1, ra, rc⟩ := r
  clear h hk hkl hr
  go_enter Try.func11, Try.ntmps11
  repeat' (go_not_at_region 1; (first | go_skip | go_guarded | go_step))
  obtain ⟨wa, hwa⟩ : ∃ wa, wa = w.alloc (.cells #[str k, str v] 24) := ⟨_, rfl⟩
  have hEa : Ext w wa := by rw [hwa]; exact (Ext.refl w).alloc (Nat.le_refl _) _
  have hB : wa.cell? ⟨w.heap.size, 0, none⟩ = some (str k) ∧ wa.cell? ⟨w.heap.size, 1, none⟩ = some (str v) := by
    rw [hwa]
    exact ⟨by rw [World.cell?_alloc_at _ _ _ _ rfl]; rfl, by rw [World.cell?_alloc_at _ _ _ _ rfl]; rfl⟩
  obtain ⟨g4, hg4⟩ : ∃ g, g = w.heap.size := ⟨_, rfl⟩
  rw [← hwa, ← hg4]
  rw [← hg4] at hB
  have hw4 : w.heap.size ≤ g4 := by omega
  replace hB := Lib.hid hB
  replace hEa := Lib.hid hEa
  clear hwa hg4
  obtain ⟨c1, c2⟩ := hB.out
  go_region_held3 (fun w' => w'.cell? ⟨g4, 0, none⟩ = some (str k) ∧ w'.cell? ⟨g4, 1, none⟩ = some (str v))
    (first | exact keep2 k2.out hB.out | exact keep2 (below_drewN (Ext.refl _) 1) hB.out)
    (first
      | (go_at_call 43; refine (some_c _ g).mono ?_; rintro e x1 ⟨rfl, rfl⟩)
      | (go_at_call 44; refine (HC.out _ (hEa.out.drew)).mono ?_; rintro e x2 ⟨g2, rfl, f2, R2, s2, n2⟩; have k2 : Hid (Ext wa x2) := Lib.hid (Ext.trans (below_drewN (Ext.refl _) 1) f2); have K2 : Hid (_ ∧ _ ∧ _ ∧ _) := Lib.hid ⟨f2, R2, s2, n2⟩; clear f2 R2 s2 n2))
  repeat' (first | go_skip | go_guarded | go_step)
  go_ret2
  obtain ⟨f2, R2, s2, n2⟩ := K2.out
  exact ⟨g2, rfl, Ext.trans hEa.out k2.out, R2, s2, fun h => Nat.le_trans hEa.out.size (n2 h)⟩
end Go.Proofs.Ytbplddiopajocaa
