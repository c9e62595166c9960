/- Contract: the near laws' at. -/
import Derived.Test.YtaehdkgmkjhmgaaZe
namespace Go.Proofs.Ytaehdkgmkjhmgaa
open Go.RowKit Go.QS
set_option linter.unusedVariables false

/-- Which kind is which. -/
theorem near_kind (kind : Nat) (d i : Bool) (hd : d = decide (kind = 0 ∨ kind = 2)) (hi : i = decide (kind = 0 ∨ kind = 1)) (hk : kind < 4) {x : List Pr} (h : Rise x) (key : List UInt8) : nearL d i key x = atI x (nearI x key kind) := by
  subst hd hi
  exact near_doc h key kind hk

set_option maxRecDepth 100000 in
set_option maxHeartbeats 1000000 in
theorem at12_c (w : World) (v : Value) (t : RT) (N : Nat) (key : List UInt8) (kind : Nat) (hkd : kind < 4) (h : RepO w v t) (hk : Kd N t.kids) (hlab : t.lab = []) (hN : N ≤ 1000) (hkey : key.length ≤ 1000) (hr : Rise t.prs) :
    Calls Try.prog 50 #[v, str key, .int .i64 kind] w fun e w' => e = .returned (optR (atI t.prs (nearI t.prs key kind))) ∧ Ext w w' := by
  have H := Lib.hid h
  have HK := Lib.hid hk
  have HR := Lib.hid hr
  clear h hk hr
  obtain ⟨o, ho⟩ : ∃ o, o = atI t.prs (nearI t.prs key kind) := ⟨_, rfl⟩
  rw [← ho]
  have HO := Lib.hid ho
  clear ho
  have hfin : kind = 0 ∨ kind = 1 ∨ kind = 2 ∨ kind = 3 := by omega
  obtain ⟨ra, rv, rc, hlit⟩ := optR_lit o
  have HL := Lib.hid hlit
  clear hlit
  go_enter Try.func50, Try.ntmps50
  repeat' (go_not_at_region 1; (first | go_skip | go_guarded | go_step))
  obtain ⟨wa, hwa⟩ : ∃ wa, wa = w.alloc zp := ⟨_, rfl⟩
  obtain ⟨rb, hrb⟩ : ∃ rb, rb = w.heap.size := ⟨_, rfl⟩
  have hEa : Ext w wa := by rw [hwa]; exact (Ext.refl w).alloc (Nat.le_refl _) _
  have hba := heap_new w zp
  have hwa' : w.alloc (.cells #[.string ⟨#[]⟩, .string ⟨#[]⟩] 29) = wa := hwa.symm
  rw [← hwa, ← hrb] at hba
  rw [hwa', ← hrb]
  have hrl : w.heap.size ≤ rb := by omega
  have HA : Hid (Ext w wa ∧ wa.heap[rb]? = some (.cells #[.string ⟨#[]⟩, .string ⟨#[]⟩] 29 (0, 0))) := Lib.hid ⟨hEa, hba⟩
  clear hwa hrb hEa hba hwa'
  rcases hfin with rfl | rfl | rfl | rfl
  · have HN := Lib.hid ((near_kind 0 true true (by decide) (by decide) (by decide) HR.out key).trans HO.out.symm)
    repeat' (first | go_at_call 46 | go_skip | go_guarded | go_step)
    refine (floor_c wa v t N (H.out.ext HA.out.1) HK.out hlab hN key hkey).mono ?_
    rintro e w4 ⟨rfl, f4⟩
    rw [HN.out, HL.out]
    have hb4 := bx_ext HA.out.2 f4
    obtain ⟨c0, c1⟩ := bx_cells hb4
    have cf := bx_free hb4
    have H4 : Hid (_ ∧ Ext w w4) := Lib.hid ⟨hb4, Ext.trans HA.out.1 f4⟩
    have hrl4 := heap_lt hb4
    clear f4 hb4
    go_simp
    repeat' (first | go_skip | go_guarded | go_step)
    (try simp only [Exit.inBlock, Exit.then])
    refine bodyPost_ret_by (results_ct rfl _ _ _ _ _ _ _ rfl (heap_set (heap_set H4.out.1 0 _) 1 _) Try.underlying29 rfl (by kernel_rfl)) rfl ?_
    refine ⟨?_, (H4.out.2.setCell hrl _).setCell hrl _⟩
    rw [HL.out]
    rfl
  · have HN := Lib.hid ((near_kind 1 false true (by decide) (by decide) (by decide) HR.out key).trans HO.out.symm)
    repeat' (first | go_at_call 47 | go_skip | go_guarded | go_step)
    refine (ceil_c wa v t N (H.out.ext HA.out.1) HK.out hlab hN key hkey).mono ?_
    rintro e w4 ⟨rfl, f4⟩
    rw [HN.out, HL.out]
    have hb4 := bx_ext HA.out.2 f4
    obtain ⟨c0, c1⟩ := bx_cells hb4
    have cf := bx_free hb4
    have H4 : Hid (_ ∧ Ext w w4) := Lib.hid ⟨hb4, Ext.trans HA.out.1 f4⟩
    have hrl4 := heap_lt hb4
    clear f4 hb4
    go_simp
    repeat' (first | go_skip | go_guarded | go_step)
    (try simp only [Exit.inBlock, Exit.then])
    refine bodyPost_ret_by (results_ct rfl _ _ _ _ _ _ _ rfl (heap_set (heap_set H4.out.1 0 _) 1 _) Try.underlying29 rfl (by kernel_rfl)) rfl ?_
    refine ⟨?_, (H4.out.2.setCell hrl _).setCell hrl _⟩
    rw [HL.out]
    rfl
  · have HN := Lib.hid ((near_kind 2 true false (by decide) (by decide) (by decide) HR.out key).trans HO.out.symm)
    repeat' (first | go_at_call 39 | go_skip | go_guarded | go_step)
    refine (below_c wa v t N (H.out.ext HA.out.1) HK.out hlab hN key hkey).mono ?_
    rintro e w4 ⟨rfl, f4⟩
    rw [HN.out, HL.out]
    have hb4 := bx_ext HA.out.2 f4
    obtain ⟨c0, c1⟩ := bx_cells hb4
    have cf := bx_free hb4
    have H4 : Hid (_ ∧ Ext w w4) := Lib.hid ⟨hb4, Ext.trans HA.out.1 f4⟩
    have hrl4 := heap_lt hb4
    clear f4 hb4
    go_simp
    repeat' (first | go_skip | go_guarded | go_step)
    (try simp only [Exit.inBlock, Exit.then])
    refine bodyPost_ret_by (results_ct rfl _ _ _ _ _ _ _ rfl (heap_set (heap_set H4.out.1 0 _) 1 _) Try.underlying29 rfl (by kernel_rfl)) rfl ?_
    refine ⟨?_, (H4.out.2.setCell hrl _).setCell hrl _⟩
    rw [HL.out]
    rfl
  · have HN := Lib.hid ((near_kind 3 false false (by decide) (by decide) (by decide) HR.out key).trans HO.out.symm)
    repeat' (first | go_at_call 37 | go_skip | go_guarded | go_step)
    refine (above_c wa v t N (H.out.ext HA.out.1) HK.out hlab hN key hkey).mono ?_
    rintro e w4 ⟨rfl, f4⟩
    rw [HN.out, HL.out]
    have hb4 := bx_ext HA.out.2 f4
    obtain ⟨c0, c1⟩ := bx_cells hb4
    have cf := bx_free hb4
    have H4 : Hid (_ ∧ Ext w w4) := Lib.hid ⟨hb4, Ext.trans HA.out.1 f4⟩
    have hrl4 := heap_lt hb4
    clear f4 hb4
    go_simp
    repeat' (first | go_skip | go_guarded | go_step)
    (try simp only [Exit.inBlock, Exit.then])
    refine bodyPost_ret_by (results_ct rfl _ _ _ _ _ _ _ rfl (heap_set (heap_set H4.out.1 0 _) 1 _) Try.underlying29 rfl (by kernel_rfl)) rfl ?_
    refine ⟨?_, (H4.out.2.setCell hrl _).setCell hrl _⟩
    rw [HL.out]
    rfl
end Go.Proofs.Ytaehdkgmkjhmgaa
