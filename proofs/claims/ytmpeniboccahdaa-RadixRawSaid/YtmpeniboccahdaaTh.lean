/- Contracts: Put and Drop of a root, or of none (no token). -/
import Derived.Test.YtmpeniboccahdaaTg
import Derived.Test.YtmpeniboccahdaaRl
import Derived.Test.YtmpeniboccahdaaDd
namespace Go.Proofs.Ytmpeniboccahdaa
open Go.RowKit Go.QS
set_option linter.unusedVariables false

set_option maxRecDepth 100000 in
theorem putV_c (w : World) (v : Value) (N : Nat) (t : RT) (p : Pr) (h : Root w v t) (hk : Kd N t.kids) (hkl : p.1.length ≤ N) (hN : N ≤ 1000) :
    Calls Try.prog 13 #[.pointer none, v, .agg #[str p.1, str p.2]] w fun e w' => ∃ g', e = .returned (.tuple #[ptr g', .bool (tput p.1.length t p.1 p.2).2.1]) ∧ Ext w w' ∧ Rep NT w' g' (tput p.1.length t p.1 p.2).1 := by
  have HC := Lib.hid (fun (W : World) (g : Nat) (hR : Rep NT W g t) => putk_c p.1.length N g t p.1 p.2 W (Nat.le_refl _) hR hk hkl hN)
  obtain ⟨r, hr⟩ : ∃ r, r = tput p.1.length t p.1 p.2 := ⟨_, rfl⟩
  rw [← hr] at HC ⊢
  obtain ⟨k, u⟩ := p
  obtain ⟨r1, ra, rc⟩ := r
  have HS := Lib.hid h
  clear h hk hkl hr
  go_enter Try.func13, Try.ntmps13
  repeat' (go_not_at_region 1; (first | go_skip | go_guarded | go_step))
  obtain ⟨wa, hwa⟩ : ∃ wa, wa = w.alloc (.cells #[str k, str u] 24) := ⟨_, rfl⟩
  have hEa : Ext w wa := by rw [hwa]; exact (Ext.refl w).alloc (Nat.le_refl _) _
  have hB : wa.cell? ⟨w.heap.size, 0, none⟩ = some (str k) ∧ wa.cell? ⟨w.heap.size, 1, none⟩ = some (str u) := by
    rw [hwa]
    exact ⟨by rw [World.cell?_alloc_at _ _ _ _ rfl]; rfl, by rw [World.cell?_alloc_at _ _ _ _ rfl]; rfl⟩
  obtain ⟨g4, hg4⟩ : ∃ g, g = w.heap.size := ⟨_, rfl⟩
  rw [← hwa, ← hg4]
  rw [← hg4] at hB
  have hw4 : w.heap.size ≤ g4 := by omega
  replace hB := Lib.hid hB
  replace hEa := Lib.hid hEa
  clear hwa hg4
  obtain ⟨c1, c2⟩ := hB.out
  go_region_held3 (fun w' => w'.cell? ⟨g4, 0, none⟩ = some (str k) ∧ w'.cell? ⟨g4, 1, none⟩ = some (str u))
    (first | exact keep2 k2.out hB.out | exact keep2 k1.out hB.out | exact keep2 (below_drewN (Ext.refl _) 1) hB.out)
    (first
      | (go_at_call 43; refine (HS.out _ (Ext.trans hEa.out (below_drewN (Ext.refl _) 1))).mono ?_; rintro e x1 ⟨g, rfl, f1, R1⟩; have k1 : Hid (Ext wa x1) := Lib.hid (Ext.trans (below_drewN (Ext.refl _) 1) f1); have KR : Hid (Rep NT x1 g t) := Lib.hid R1; clear f1 R1)
      | (go_at_call 44; refine (HC.out _ g KR.out).mono ?_; rintro e x2 ⟨g2, rfl, f2, R2, s2, n2⟩; have k2 : Hid (Ext wa x2) := Lib.hid (Ext.trans k1.out f2); have K2 : Hid (_ ∧ _) := Lib.hid ⟨f2, R2⟩; clear f2 R2 s2 n2))
  repeat' (first | go_skip | go_guarded | go_step)
  go_ret2
  exact ⟨g2, rfl, Ext.trans hEa.out k2.out, K2.out.2⟩

set_option maxRecDepth 100000 in
theorem dropV_c (w : World) (v : Value) (N : Nat) (t : RT) (key : List UInt8) (h : Root w v t) (hk : Kd N t.kids) (hkl : key.length ≤ 1000) (hN : N ≤ 1000) :
    Calls Try.prog 16 #[.pointer none, v, str key] w fun e w' => ∃ g', e = .returned (.tuple #[ptr g', .bool (tdrop key.length t key).2]) ∧ Ext w w' ∧ Rep NT w' g' (tdrop key.length t key).1 := by
  have HC := Lib.hid (fun (W : World) (g : Nat) (hR : Rep NT W g t) => dropk_c key.length N g t key W (Nat.le_refl _) hR hk hkl hN)
  have HS := Lib.hid (h w (Ext.refl w))
  obtain ⟨r, hr⟩ : ∃ r, r = tdrop key.length t key := ⟨_, rfl⟩
  rw [← hr] at HC ⊢
  obtain ⟨r1, rb⟩ := r
  clear h hk hkl hr
  go_enter Try.func16, Try.ntmps16
  repeat' (first | go_at_call 43 | go_skip | go_guarded | go_step)
  refine HS.out.mono ?_
  rintro e x1 ⟨g, rfl, f1, R1⟩
  have H0 := Lib.hid (And.intro f1 R1)
  clear f1 R1
  go_simp
  repeat' (first | go_at_call 46 | go_skip | go_guarded | go_step)
  refine (HC.out x1 g H0.out.2).mono ?_
  rintro e w1 ⟨g1, rfl, f1, R1, hs⟩
  have H1 : Hid (Ext w w1 ∧ Rep NT w1 g1 r1) := Lib.hid ⟨H0.out.1.trans f1, R1⟩
  clear f1 R1 hs
  go_simp
  repeat' (first | go_skip | go_guarded | go_step)
  go_ret2
  exact ⟨g1, rfl, H1.out.1, H1.out.2⟩
end Go.Proofs.Ytmpeniboccahdaa
