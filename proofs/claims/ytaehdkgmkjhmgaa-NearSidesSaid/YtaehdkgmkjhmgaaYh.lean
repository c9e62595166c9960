/- Contracts: the least and the greatest; Floor to Above. -/
import Derived.Test.YtaehdkgmkjhmgaaYg
namespace Go.Proofs.Ytaehdkgmkjhmgaa
open Go.RowKit Go.QS
set_option linter.unusedVariables false

theorem opre_nil (o : Option Pr) : opre [] o = o := by cases o <;> rfl
set_option maxRecDepth 100000 in
theorem min_c (w : World) (v : Value) (t : RT) (N : Nat) (h : RepO w v t) (hk : Kd N t.kids) (hlab : t.lab = []) (hN : N ≤ 1000) :
    Calls Try.prog 36 #[v] w fun e w' => e = .returned (optR (pick false t.prs)) ∧ Ext w w' := by
  have H := Lib.hid h
  have HK := Lib.hid hk
  clear h hk
  go_enter Try.func36, Try.ntmps36
  repeat' (first | go_at_call 69 | go_skip | go_guarded | go_step)
  obtain ⟨wa, hwa⟩ : ∃ wa, wa = w.alloc zp := ⟨_, rfl⟩
  obtain ⟨rb, hrb⟩ : ∃ rb, rb = w.heap.size := ⟨_, rfl⟩
  have hEa : Ext w wa := by rw [hwa]; exact (Ext.refl w).alloc (Nat.le_refl _) _
  have hba := heap_new w zp
  rw [← hwa, ← hrb] at hba
  have hwa' : w.alloc (.cells #[.string ⟨#[]⟩, .string ⟨#[]⟩] 29) = wa := hwa.symm
  rw [hwa', ← hrb]
  have HA : Hid (wa.heap[rb]? = some (.cells #[.string ⟨#[]⟩, .string ⟨#[]⟩] 29 (0, 0)) ∧ Ext w wa ∧ w.heap.size ≤ rb) := Lib.hid ⟨hba, hEa, by omega⟩
  clear hwa hba hEa hrb hwa'
  refine (first_c N wa v t [] (H.out.ext HA.out.2.1) HK.out (by rw [hlab]; simpa using hN)).mono ?_
  rintro e x4 ⟨rfl, f4⟩
  rw [hlab, List.append_nil, opre_nil]
  obtain ⟨ra, rv, rc, hlit⟩ := optR_lit (pick false t.prs)
  rw [hlit]
  have HL := Lib.hid hlit
  have hb4 := bx_ext HA.out.1 f4
  obtain ⟨c0, c1⟩ := bx_cells hb4
  have cf := bx_free hb4
  have H4 : Hid (_ ∧ Ext w x4 ∧ _) := Lib.hid ⟨hb4, Ext.trans HA.out.2.1 f4, HA.out.2.2⟩
  have hrl4 := heap_lt hb4
  clear f4 hb4 hlit
  go_simp
  repeat' (first | go_skip | go_guarded | go_step)
  (try simp only [Exit.inBlock, Exit.then])
  refine bodyPost_ret_by (results_ct rfl _ _ _ _ _ _ _ rfl (heap_set (heap_set H4.out.1 0 _) 1 _) Try.underlying29 rfl (by kernel_rfl)) rfl ?_
  refine ⟨?_, (H4.out.2.1.setCell H4.out.2.2 _).setCell H4.out.2.2 _⟩
  rw [HL.out]
  rfl

set_option maxRecDepth 100000 in
theorem max_c (w : World) (v : Value) (t : RT) (N : Nat) (h : RepO w v t) (hk : Kd N t.kids) (hlab : t.lab = []) (hN : N ≤ 1000) :
    Calls Try.prog 38 #[v] w fun e w' => e = .returned (optR (pick true t.prs)) ∧ Ext w w' := by
  have H := Lib.hid h
  have HK := Lib.hid hk
  clear h hk
  go_enter Try.func38, Try.ntmps38
  repeat' (first | go_at_call 71 | go_skip | go_guarded | go_step)
  obtain ⟨wa, hwa⟩ : ∃ wa, wa = w.alloc zp := ⟨_, rfl⟩
  obtain ⟨rb, hrb⟩ : ∃ rb, rb = w.heap.size := ⟨_, rfl⟩
  have hEa : Ext w wa := by rw [hwa]; exact (Ext.refl w).alloc (Nat.le_refl _) _
  have hba := heap_new w zp
  rw [← hwa, ← hrb] at hba
  have hwa' : w.alloc (.cells #[.string ⟨#[]⟩, .string ⟨#[]⟩] 29) = wa := hwa.symm
  rw [hwa', ← hrb]
  have HA : Hid (wa.heap[rb]? = some (.cells #[.string ⟨#[]⟩, .string ⟨#[]⟩] 29 (0, 0)) ∧ Ext w wa ∧ w.heap.size ≤ rb) := Lib.hid ⟨hba, hEa, by omega⟩
  clear hwa hba hEa hrb hwa'
  refine (last_c N wa v t [] (H.out.ext HA.out.2.1) HK.out (by rw [hlab]; simpa using hN)).mono ?_
  rintro e x4 ⟨rfl, f4⟩
  rw [hlab, List.append_nil, opre_nil]
  obtain ⟨ra, rv, rc, hlit⟩ := optR_lit (pick true t.prs)
  rw [hlit]
  have HL := Lib.hid hlit
  have hb4 := bx_ext HA.out.1 f4
  obtain ⟨c0, c1⟩ := bx_cells hb4
  have cf := bx_free hb4
  have H4 : Hid (_ ∧ Ext w x4 ∧ _) := Lib.hid ⟨hb4, Ext.trans HA.out.2.1 f4, HA.out.2.2⟩
  have hrl4 := heap_lt hb4
  clear f4 hb4 hlit
  go_simp
  repeat' (first | go_skip | go_guarded | go_step)
  (try simp only [Exit.inBlock, Exit.then])
  refine bodyPost_ret_by (results_ct rfl _ _ _ _ _ _ _ rfl (heap_set (heap_set H4.out.1 0 _) 1 _) Try.underlying29 rfl (by kernel_rfl)) rfl ?_
  refine ⟨?_, (H4.out.2.1.setCell H4.out.2.2 _).setCell H4.out.2.2 _⟩
  rw [HL.out]
  rfl

set_option maxRecDepth 100000 in
theorem floor_c (w : World) (v : Value) (t : RT) (N : Nat) (h : RepO w v t) (hk : Kd N t.kids) (hlab : t.lab = []) (hN : N ≤ 1000) (key : List UInt8) (hkey : key.length ≤ 1000) :
    Calls Try.prog 46 #[v, str key] w fun e w' => e = .returned (optR (nearL true true key t.prs)) ∧ Ext w w' := by
  have H := Lib.hid h
  have HK := Lib.hid hk
  clear h hk
  go_enter Try.func46, Try.ntmps46
  repeat' (first | go_at_call 70 | go_skip | go_guarded | go_step)
  obtain ⟨wa, hwa⟩ : ∃ wa, wa = w.alloc zp := ⟨_, rfl⟩
  obtain ⟨rb, hrb⟩ : ∃ rb, rb = w.heap.size := ⟨_, rfl⟩
  have hEa : Ext w wa := by rw [hwa]; exact (Ext.refl w).alloc (Nat.le_refl _) _
  have hba := heap_new w zp
  rw [← hwa, ← hrb] at hba
  have hwa' : w.alloc (.cells #[.string ⟨#[]⟩, .string ⟨#[]⟩] 29) = wa := hwa.symm
  rw [hwa', ← hrb]
  have HA : Hid (wa.heap[rb]? = some (.cells #[.string ⟨#[]⟩, .string ⟨#[]⟩] 29 (0, 0)) ∧ Ext w wa ∧ w.heap.size ≤ rb) := Lib.hid ⟨hba, hEa, by omega⟩
  clear hwa hba hEa hrb hwa'
  refine (seek_c N wa true true v t [] key (H.out.ext HA.out.2.1) HK.out (by rw [hlab]; simpa using hN) hkey).mono ?_
  rintro e x4 ⟨rfl, f4⟩
  rw [hlab, List.append_nil, opre_nil]
  obtain ⟨ra, rv, rc, hlit⟩ := optR_lit (nearL true true key t.prs)
  rw [hlit]
  have HL := Lib.hid hlit
  have hb4 := bx_ext HA.out.1 f4
  obtain ⟨c0, c1⟩ := bx_cells hb4
  have cf := bx_free hb4
  have H4 : Hid (_ ∧ Ext w x4 ∧ _) := Lib.hid ⟨hb4, Ext.trans HA.out.2.1 f4, HA.out.2.2⟩
  have hrl4 := heap_lt hb4
  clear f4 hb4 hlit
  go_simp
  repeat' (first | go_skip | go_guarded | go_step)
  (try simp only [Exit.inBlock, Exit.then])
  refine bodyPost_ret_by (results_ct rfl _ _ _ _ _ _ _ rfl (heap_set (heap_set H4.out.1 0 _) 1 _) Try.underlying29 rfl (by kernel_rfl)) rfl ?_
  refine ⟨?_, (H4.out.2.1.setCell H4.out.2.2 _).setCell H4.out.2.2 _⟩
  rw [HL.out]
  rfl

set_option maxRecDepth 100000 in
theorem ceil_c (w : World) (v : Value) (t : RT) (N : Nat) (h : RepO w v t) (hk : Kd N t.kids) (hlab : t.lab = []) (hN : N ≤ 1000) (key : List UInt8) (hkey : key.length ≤ 1000) :
    Calls Try.prog 47 #[v, str key] w fun e w' => e = .returned (optR (nearL false true key t.prs)) ∧ Ext w w' := by
  have H := Lib.hid h
  have HK := Lib.hid hk
  clear h hk
  go_enter Try.func47, Try.ntmps47
  repeat' (first | go_at_call 70 | go_skip | go_guarded | go_step)
  obtain ⟨wa, hwa⟩ : ∃ wa, wa = w.alloc zp := ⟨_, rfl⟩
  obtain ⟨rb, hrb⟩ : ∃ rb, rb = w.heap.size := ⟨_, rfl⟩
  have hEa : Ext w wa := by rw [hwa]; exact (Ext.refl w).alloc (Nat.le_refl _) _
  have hba := heap_new w zp
  rw [← hwa, ← hrb] at hba
  have hwa' : w.alloc (.cells #[.string ⟨#[]⟩, .string ⟨#[]⟩] 29) = wa := hwa.symm
  rw [hwa', ← hrb]
  have HA : Hid (wa.heap[rb]? = some (.cells #[.string ⟨#[]⟩, .string ⟨#[]⟩] 29 (0, 0)) ∧ Ext w wa ∧ w.heap.size ≤ rb) := Lib.hid ⟨hba, hEa, by omega⟩
  clear hwa hba hEa hrb hwa'
  refine (seek_c N wa false true v t [] key (H.out.ext HA.out.2.1) HK.out (by rw [hlab]; simpa using hN) hkey).mono ?_
  rintro e x4 ⟨rfl, f4⟩
  rw [hlab, List.append_nil, opre_nil]
  obtain ⟨ra, rv, rc, hlit⟩ := optR_lit (nearL false true key t.prs)
  rw [hlit]
  have HL := Lib.hid hlit
  have hb4 := bx_ext HA.out.1 f4
  obtain ⟨c0, c1⟩ := bx_cells hb4
  have cf := bx_free hb4
  have H4 : Hid (_ ∧ Ext w x4 ∧ _) := Lib.hid ⟨hb4, Ext.trans HA.out.2.1 f4, HA.out.2.2⟩
  have hrl4 := heap_lt hb4
  clear f4 hb4 hlit
  go_simp
  repeat' (first | go_skip | go_guarded | go_step)
  (try simp only [Exit.inBlock, Exit.then])
  refine bodyPost_ret_by (results_ct rfl _ _ _ _ _ _ _ rfl (heap_set (heap_set H4.out.1 0 _) 1 _) Try.underlying29 rfl (by kernel_rfl)) rfl ?_
  refine ⟨?_, (H4.out.2.1.setCell H4.out.2.2 _).setCell H4.out.2.2 _⟩
  rw [HL.out]
  rfl

set_option maxRecDepth 100000 in
theorem below_c (w : World) (v : Value) (t : RT) (N : Nat) (h : RepO w v t) (hk : Kd N t.kids) (hlab : t.lab = []) (hN : N ≤ 1000) (key : List UInt8) (hkey : key.length ≤ 1000) :
    Calls Try.prog 39 #[v, str key] w fun e w' => e = .returned (optR (nearL true false key t.prs)) ∧ Ext w w' := by
  have H := Lib.hid h
  have HK := Lib.hid hk
  clear h hk
  go_enter Try.func39, Try.ntmps39
  repeat' (first | go_at_call 70 | go_skip | go_guarded | go_step)
  obtain ⟨wa, hwa⟩ : ∃ wa, wa = w.alloc zp := ⟨_, rfl⟩
  obtain ⟨rb, hrb⟩ : ∃ rb, rb = w.heap.size := ⟨_, rfl⟩
  have hEa : Ext w wa := by rw [hwa]; exact (Ext.refl w).alloc (Nat.le_refl _) _
  have hba := heap_new w zp
  rw [← hwa, ← hrb] at hba
  have hwa' : w.alloc (.cells #[.string ⟨#[]⟩, .string ⟨#[]⟩] 29) = wa := hwa.symm
  rw [hwa', ← hrb]
  have HA : Hid (wa.heap[rb]? = some (.cells #[.string ⟨#[]⟩, .string ⟨#[]⟩] 29 (0, 0)) ∧ Ext w wa ∧ w.heap.size ≤ rb) := Lib.hid ⟨hba, hEa, by omega⟩
  clear hwa hba hEa hrb hwa'
  refine (seek_c N wa true false v t [] key (H.out.ext HA.out.2.1) HK.out (by rw [hlab]; simpa using hN) hkey).mono ?_
  rintro e x4 ⟨rfl, f4⟩
  rw [hlab, List.append_nil, opre_nil]
  obtain ⟨ra, rv, rc, hlit⟩ := optR_lit (nearL true false key t.prs)
  rw [hlit]
  have HL := Lib.hid hlit
  have hb4 := bx_ext HA.out.1 f4
  obtain ⟨c0, c1⟩ := bx_cells hb4
  have cf := bx_free hb4
  have H4 : Hid (_ ∧ Ext w x4 ∧ _) := Lib.hid ⟨hb4, Ext.trans HA.out.2.1 f4, HA.out.2.2⟩
  have hrl4 := heap_lt hb4
  clear f4 hb4 hlit
  go_simp
  repeat' (first | go_skip | go_guarded | go_step)
  (try simp only [Exit.inBlock, Exit.then])
  refine bodyPost_ret_by (results_ct rfl _ _ _ _ _ _ _ rfl (heap_set (heap_set H4.out.1 0 _) 1 _) Try.underlying29 rfl (by kernel_rfl)) rfl ?_
  refine ⟨?_, (H4.out.2.1.setCell H4.out.2.2 _).setCell H4.out.2.2 _⟩
  rw [HL.out]
  rfl

set_option maxRecDepth 100000 in
theorem above_c (w : World) (v : Value) (t : RT) (N : Nat) (h : RepO w v t) (hk : Kd N t.kids) (hlab : t.lab = []) (hN : N ≤ 1000) (key : List UInt8) (hkey : key.length ≤ 1000) :
    Calls Try.prog 37 #[v, str key] w fun e w' => e = .returned (optR (nearL false false key t.prs)) ∧ Ext w w' := by
  have H := Lib.hid h
  have HK := Lib.hid hk
  clear h hk
  go_enter Try.func37, Try.ntmps37
  repeat' (first | go_at_call 70 | go_skip | go_guarded | go_step)
  obtain ⟨wa, hwa⟩ : ∃ wa, wa = w.alloc zp := ⟨_, rfl⟩
  obtain ⟨rb, hrb⟩ : ∃ rb, rb = w.heap.size := ⟨_, rfl⟩
  have hEa : Ext w wa := by rw [hwa]; exact (Ext.refl w).alloc (Nat.le_refl _) _
  have hba := heap_new w zp
  rw [← hwa, ← hrb] at hba
  have hwa' : w.alloc (.cells #[.string ⟨#[]⟩, .string ⟨#[]⟩] 29) = wa := hwa.symm
  rw [hwa', ← hrb]
  have HA : Hid (wa.heap[rb]? = some (.cells #[.string ⟨#[]⟩, .string ⟨#[]⟩] 29 (0, 0)) ∧ Ext w wa ∧ w.heap.size ≤ rb) := Lib.hid ⟨hba, hEa, by omega⟩
  clear hwa hba hEa hrb hwa'
  refine (seek_c N wa false false v t [] key (H.out.ext HA.out.2.1) HK.out (by rw [hlab]; simpa using hN) hkey).mono ?_
  rintro e x4 ⟨rfl, f4⟩
  rw [hlab, List.append_nil, opre_nil]
  obtain ⟨ra, rv, rc, hlit⟩ := optR_lit (nearL false false key t.prs)
  rw [hlit]
  have HL := Lib.hid hlit
  have hb4 := bx_ext HA.out.1 f4
  obtain ⟨c0, c1⟩ := bx_cells hb4
  have cf := bx_free hb4
  have H4 : Hid (_ ∧ Ext w x4 ∧ _) := Lib.hid ⟨hb4, Ext.trans HA.out.2.1 f4, HA.out.2.2⟩
  have hrl4 := heap_lt hb4
  clear f4 hb4 hlit
  go_simp
  repeat' (first | go_skip | go_guarded | go_step)
  (try simp only [Exit.inBlock, Exit.then])
  refine bodyPost_ret_by (results_ct rfl _ _ _ _ _ _ _ rfl (heap_set (heap_set H4.out.1 0 _) 1 _) Try.underlying29 rfl (by kernel_rfl)) rfl ?_
  refine ⟨?_, (H4.out.2.1.setCell H4.out.2.2 _).setCell H4.out.2.2 _⟩
  rw [HL.out]
  rfl

end Go.Proofs.Ytaehdkgmkjhmgaa
