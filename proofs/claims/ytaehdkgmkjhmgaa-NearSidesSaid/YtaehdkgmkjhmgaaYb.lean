/- Contracts: a node's parts, be it nil or not; the least and the greatest of a tree; how a label lies to a key. -/
import Derived.Test.YtaehdkgmkjhmgaaYc
import Derived.Test.YtaehdkgmkjhmgaaRf
import Derived.Laws.ResultCell
import Derived.Laws.Rows
namespace Go.Proofs.Ytaehdkgmkjhmgaa
open Go.RowKit Go.QS
set_option linter.unusedVariables false

theorem bx_cells {w : World} {g : Nat} {a b : Value} {t : TypeId} {f : Nat × Nat} (h : w.heap[g]? = some (.cells #[a, b] t f)) : w.cell? ⟨g, 0, none⟩ = some a ∧ w.cell? ⟨g, 1, none⟩ = some b := by
  simp [World.cell?, h]
theorem bx_free {w : World} {g : Nat} {cs : Array Value} {t : TypeId} (h : w.heap[g]? = some (.cells cs t (0, 0))) (j : Nat) : w.frozen? ⟨g, j, none⟩ = false := by
  simp [World.frozen?, h]
theorem bx_ext {w w' : World} {g : Nat} {o : Obj} (h : w.heap[g]? = some o) (f : Ext w w') : w'.heap[g]? = some o := (f.block g (heap_lt h)).trans h
theorem results_ct {P : Program} {fn : Func} {p u : Tmp} {ty : TypeId} (h : fn.results = #[.cell p ty, .tmp u]) (tmps : Array Value) (w : World) (g : Nat) (t : TypeId) (cs : Array Value) (fr : Nat × Nat) (d : TypeDesc)
    (hp : tmps.getD p undef = .pointer (some ⟨g, 0, none⟩)) (hg : w.heap[g]? = some (.cells cs t fr)) (hu : P.underlying ty = some d) (hd : (match d with | .struct _ | .array _ _ => true | _ => false) = true) (hi : (P.info? ty).map (·.size) = some cs.size) :
    (results fn tmps).run P w = .ok (.tuple #[.agg cs, tmps.getD u undef]) w := by
  rw [results_cell_tmp h, hp]
  simp [asAddr, run_loadVar_row w g t ty cs fr d hg hu hd hi, Result.andThen]

/-- A node in memory, or nil: it is this tree. -/
def RepO (w : World) (v : Value) (t : RT) : Prop := (v = .pointer none ∧ t = RT.node [] none []) ∨ ∃ g, v = ptr g ∧ Rep NT w g t
theorem RepO.ext {w w' : World} {v : Value} {t : RT} (h : RepO w v t) (f : Ext w w') : RepO w' v t := by
  rcases h with h | ⟨g, h, r⟩
  · exact .inl h
  · exact .inr ⟨g, h, r.ext f⟩
theorem RepO.of {w : World} {g : Nat} {t : RT} (h : Rep NT w g t) : RepO w (ptr g) t := .inr ⟨g, rfl, h⟩

theorem labelO_c (w : World) (v : Value) (t : RT) (h : RepO w v t) : Calls Try.prog 62 #[v] w fun e w' => e = .returned (str t.lab) ∧ w = w' := by
  rcases h with ⟨rfl, rfl⟩ | ⟨g, rfl, r⟩
  · go_enter Try.func62, Try.ntmps62
    repeat' (first | go_skip | go_guarded | go_step)
    go_ret
    exact ⟨rfl, rfl⟩
  · obtain ⟨kv, ow, ps, nd, _, _⟩ := r.open
    exact label_c w g _ nd.cells.1
theorem valueO_c (w : World) (v : Value) (t : RT) (h : RepO w v t) : Calls Try.prog 63 #[v] w fun e w' => e = .returned (.tuple #[str (t.val.getD []), .bool t.val.isSome]) ∧ Ext w w' := by
  rcases h with ⟨rfl, rfl⟩ | ⟨g, rfl, r⟩
  · go_enter Try.func63, Try.ntmps63
    repeat' (first | go_skip | go_guarded | go_step)
    go_ret2
    exact ⟨rfl, Ext.refl _⟩
  · obtain ⟨kv, ow, ps, nd, _, _⟩ := r.open
    exact value_c w g _ _ nd.cells.2.1 nd.cells.2.2.1
theorem kidsO_c (w : World) (v : Value) (t : RT) (N : Nat) (h : RepO w v t) (hk : Kd N t.kids) : Calls Try.prog 72 #[v] w fun e w' => ∃ A C ps, e = .returned (.slice A ps.length C) ∧ Seg w' A (ptrs ps) ∧ Reps NT w' ps t.kids ∧ Ext w w' := by
  rcases h with ⟨rfl, rfl⟩ | ⟨g, rfl, r⟩
  · go_enter Try.func72, Try.ntmps72
    repeat' (first | go_skip | go_guarded | go_step)
    go_ret
    exact ⟨none, 0, [], rfl, Seg.nil _ _, Reps.nil _ _, Ext.refl _⟩
  · obtain ⟨kv, ow, ps, nd, sl, rp⟩ := r.open
    have hl := hk.len
    refine (kids_c w g kv ps nd.cells.2.2.2.1 sl (by have := rp.1; omega)).mono ?_
    rintro e w1 ⟨v1, rfl, r1, f1⟩
    obtain ⟨A, C, rfl, _, _, _, hs⟩ := (Sl.of_own r1 : Sl w1 1 v1 ps.length (ptrs ps))
    exact ⟨A, C, ps, rfl, hs, rp.ext f1, f1⟩

/-- What is handed back: a pair, and whether there is one. -/
def optR : Option Pr → Value
  | none => .tuple #[.agg #[str [], str []], .bool false]
  | some p => .tuple #[.agg #[str p.1, str p.2], .bool true]
theorem optR_lit (o : Option Pr) : ∃ a b c, optR o = .tuple #[.agg #[str a, str b], .bool c] := by
  cases o with
  | none => exact ⟨_, _, _, rfl⟩
  | some p => exact ⟨_, _, _, rfl⟩

set_option maxRecDepth 100000 in
set_option maxHeartbeats 1000000 in
theorem first_c : ∀ (N : Nat) (w : World) (v : Value) (t : RT) (ah : List UInt8), RepO w v t → Kd N t.kids → ah.length + t.lab.length + N ≤ 1000 →
    Calls Try.prog 69 #[v, str ah] w fun e w' => e = .returned (optR (opre (ah ++ t.lab) (pick false t.prs))) ∧ Ext w w' := by
  intro N
  induction N using Nat.strongRecOn with
  | ind N ih =>
  intro w v t ah h hk hl
  have H := Lib.hid h
  have HK := Lib.hid hk
  have HI := Lib.hid ih
  obtain ⟨key, hkey⟩ : ∃ key, key = ah ++ t.lab := ⟨_, rfl⟩
  rw [← hkey]
  have hkl : key.length + N ≤ 1000 := by rw [hkey, List.length_append]; exact hl
  have hclt : (9223372036854775807 < ah.length + t.lab.length) = False := by simp; omega
  have hclm : (maxLen < ah.length + t.lab.length) = False := by unfold maxLen; simp; omega
  have hcat : bs ah ++ bs t.lab = bs key := by rw [bs_append, hkey]
  have hk9 := hk.len
  clear ih h hk hkey
  go_enter Try.func69, Try.ntmps69
  repeat' (first | go_at_call 62 | go_skip | go_guarded | go_step)
  obtain ⟨wa, hwa⟩ : ∃ wa, wa = w.alloc (.cells #[.string ⟨#[]⟩, .string ⟨#[]⟩] 29) := ⟨_, rfl⟩
  obtain ⟨rb, hrb⟩ : ∃ rb, rb = w.heap.size := ⟨_, rfl⟩
  have hEa : Ext w wa := by rw [hwa]; exact (Ext.refl w).alloc (Nat.le_refl _) _
  have hba := heap_new w (.cells #[.string ⟨#[]⟩, .string ⟨#[]⟩] 29)
  rw [← hwa, ← hrb] at hba
  rw [← hwa, ← hrb]
  have HA : Hid (wa.heap[rb]? = some (.cells #[.string ⟨#[]⟩, .string ⟨#[]⟩] 29 (0, 0)) ∧ Ext w wa ∧ w.heap.size ≤ rb) := Lib.hid ⟨hba, hEa, by omega⟩
  clear hwa hba hEa hrb
  refine (labelO_c wa v t (H.out.ext HA.out.2.1)).mono ?_
  rintro e x1 ⟨rfl, rfl⟩
  go_simp
  repeat' (first | go_at_call 63 | go_skip | go_guarded | go_step)
  refine (valueO_c wa v t (H.out.ext HA.out.2.1)).mono ?_
  rintro e x2 ⟨rfl, f2⟩
  have hb2 := bx_ext HA.out.1 f2
  obtain ⟨c0, c1⟩ := bx_cells hb2
  have cf := bx_free hb2
  have hrl := heap_lt hb2
  have H2 : Hid (_ ∧ Ext w x2 ∧ _) := Lib.hid ⟨hb2, Ext.trans HA.out.2.1 f2, HA.out.2.2⟩
  clear f2 hb2
  cases hv : t.val with
  | some u =>
    have hR : pick false t.prs = some ([], u) := head_own hv
    have HR := Lib.hid hR
    clear hR hv
    simp only [Option.getD_some, Option.isSome_some]
    go_simp
    repeat' (first | go_skip | go_guarded | go_step)
    (try simp only [Exit.inBlock, Exit.then])
    refine bodyPost_ret_by (results_ct rfl _ _ _ _ _ _ _ rfl (heap_set (heap_set H2.out.1 0 _) 1 _) Try.underlying29 rfl (by kernel_rfl)) rfl ?_
    refine ⟨?_, (H2.out.2.1.setCell H2.out.2.2 _).setCell H2.out.2.2 _⟩
    rw [HR.out]
    simp [opre, optR]
  | none =>
    have HV := Lib.hid hv
    clear hv
    simp only [Option.getD_none, Option.isSome_none]
    go_simp
    repeat' (first | go_at_call 72 | go_skip | go_guarded | go_step)
    refine (kidsO_c x2 v t N (H.out.ext H2.out.2.1) HK.out).mono ?_
    rintro e x3 ⟨A, C, ps, rfl, hs, hr, f3⟩
    have hb3 := bx_ext H2.out.1 f3
    have H3 : Hid (_ ∧ Ext w x3 ∧ _ ∧ _) := Lib.hid ⟨hb3, Ext.trans H2.out.2.1 f3, H2.out.2.2, hr⟩
    have hrl3 := heap_lt hb3
    clear f3 hb3 c0 c1 cf hr hrl
    cases ps with
    | nil =>
      have hkn : t.kids = [] := List.eq_nil_of_length_eq_zero H3.out.2.2.2.1.symm
      have HR := Lib.hid (head_no HV.out hkn)
      obtain ⟨c0, c1⟩ := bx_cells H3.out.1
      have cf := bx_free H3.out.1
      simp only [List.length_nil]
      go_simp
      repeat' (first | go_skip | go_guarded | go_step)
      refine wp_loop_once ?_
      repeat' (first | go_skip | go_guarded | go_step)
      (try simp only [Exit.inBlock, Exit.then])
      refine bodyPost_ret_by (results_ct rfl _ _ _ _ _ _ _ rfl (heap_set (heap_set H3.out.1 0 _) 1 _) Try.underlying29 rfl (by kernel_rfl)) rfl ?_
      refine ⟨?_, (H3.out.2.1.setCell H3.out.2.2.1 _).setCell H3.out.2.2.1 _⟩
      rw [HR.out]
      rfl
    | cons p ps =>
      cases hkk : t.kids with
      | nil => have := H3.out.2.2.2.1; rw [hkk] at this; simp at this
      | cons k r =>
        obtain ⟨b, o, rfl, hcl⟩ := hs (by simp [ptrs])
        have hq := hcl 0 (ptr p) rfl
        rw [Nat.add_zero] at hq
        have hbk := HK.out.br (k := k) (by rw [hkk]; exact List.mem_cons_self ..)
        have hpk := H3.out.2.2.2.2 0 p k rfl (by rw [hkk]; rfl)
        have hll : 0 < k.lab.length := List.length_pos_iff.2 hbk.1
        have hln := hbk.2.1
        have HR := Lib.hid (And.intro hbk (head_kid HV.out hkk (br_ne N hbk)))
        have HP := Lib.hid hpk
        have hpl : (0 : Int) < ((p :: ps).length : Int) := by simp only [List.length_cons]; omega
        have hpl2 : 0 < (p :: ps).length := by simp
        obtain ⟨m, hm⟩ : ∃ m, m = (p :: ps).length := ⟨_, rfl⟩
        have hm2 : m ≤ 256 := by have := H3.out.2.2.2.1; omega
        rw [← hm] at hpl hpl2 ⊢
        have d0 : decide (0 < m) = true := by simp [hpl2]
        clear hbk hpk hcl hs hkk hm
        go_simp
        repeat' (first | go_skip | go_guarded | go_step)
        refine wp_loop_once ?_
        repeat' (first | go_at_call 69 | go_skip | go_guarded | go_step)
        refine (HI.out (N - k.lab.length) (by omega) x3 (ptr p) k key (.of HP.out) HR.out.1.2.2.2 (by omega)).mono ?_
        rintro e x4 ⟨rfl, f4⟩
        obtain ⟨ra, rv, rc, hlit⟩ := optR_lit (opre (key ++ k.lab) (pick false k.prs))
        rw [hlit]
        have HL := Lib.hid hlit
        have hb4 := bx_ext H3.out.1 f4
        obtain ⟨c0, c1⟩ := bx_cells hb4
        have cf := bx_free hb4
        have H4 : Hid (_ ∧ Ext w x4 ∧ _) := Lib.hid ⟨hb4, Ext.trans H3.out.2.1 f4, H3.out.2.2.1⟩
        have hrl4 := heap_lt hb4
        clear f4 hb4 hlit
        go_simp
        repeat' (first | go_skip | go_guarded | go_step)
        (try simp only [Exit.inBlock, Exit.then])
        refine bodyPost_ret_by (results_ct rfl _ _ _ _ _ _ _ rfl (heap_set (heap_set H4.out.1 0 _) 1 _) Try.underlying29 rfl (by kernel_rfl)) rfl ?_
        refine ⟨?_, (H4.out.2.1.setCell H4.out.2.2 _).setCell H4.out.2.2 _⟩
        rw [HR.out.2, opre_opre, HL.out]
        rfl

set_option maxRecDepth 100000 in
set_option maxHeartbeats 1000000 in
theorem last_c : ∀ (N : Nat) (w : World) (v : Value) (t : RT) (ah : List UInt8), RepO w v t → Kd N t.kids → ah.length + t.lab.length + N ≤ 1000 →
    Calls Try.prog 71 #[v, str ah] w fun e w' => e = .returned (optR (opre (ah ++ t.lab) (pick true t.prs))) ∧ Ext w w' := by
  intro N
  induction N using Nat.strongRecOn with
  | ind N ih =>
  intro w v t ah h hk hl
  have H := Lib.hid h
  have HK := Lib.hid hk
  have HI := Lib.hid ih
  obtain ⟨key, hkey⟩ : ∃ key, key = ah ++ t.lab := ⟨_, rfl⟩
  rw [← hkey]
  have hkl : key.length + N ≤ 1000 := by rw [hkey, List.length_append]; exact hl
  have hclt : (9223372036854775807 < ah.length + t.lab.length) = False := by simp; omega
  have hclm : (maxLen < ah.length + t.lab.length) = False := by unfold maxLen; simp; omega
  have hcat : bs ah ++ bs t.lab = bs key := by rw [bs_append, hkey]
  have hk9 := hk.len
  clear ih h hk hkey
  go_enter Try.func71, Try.ntmps71
  repeat' (first | go_at_call 62 | go_skip | go_guarded | go_step)
  obtain ⟨wa, hwa⟩ : ∃ wa, wa = w.alloc (.cells #[.string ⟨#[]⟩, .string ⟨#[]⟩] 29) := ⟨_, rfl⟩
  obtain ⟨rb, hrb⟩ : ∃ rb, rb = w.heap.size := ⟨_, rfl⟩
  have hEa : Ext w wa := by rw [hwa]; exact (Ext.refl w).alloc (Nat.le_refl _) _
  have hba := heap_new w (.cells #[.string ⟨#[]⟩, .string ⟨#[]⟩] 29)
  rw [← hwa, ← hrb] at hba
  rw [← hwa, ← hrb]
  have HA : Hid (wa.heap[rb]? = some (.cells #[.string ⟨#[]⟩, .string ⟨#[]⟩] 29 (0, 0)) ∧ Ext w wa ∧ w.heap.size ≤ rb) := Lib.hid ⟨hba, hEa, by omega⟩
  clear hwa hba hEa hrb
  refine (labelO_c wa v t (H.out.ext HA.out.2.1)).mono ?_
  rintro e x1 ⟨rfl, rfl⟩
  go_simp
  repeat' (first | go_at_call 72 | go_skip | go_guarded | go_step)
  refine (kidsO_c wa v t N (H.out.ext HA.out.2.1) HK.out).mono ?_
  rintro e x3 ⟨A, C, ps, rfl, hs, hr, f3⟩
  have hb3 := bx_ext HA.out.1 f3
  have H3 : Hid (_ ∧ Ext w x3 ∧ _ ∧ _) := Lib.hid ⟨hb3, Ext.trans HA.out.2.1 f3, HA.out.2.2, hr⟩
  have hrl3 := heap_lt hb3
  clear f3 hb3 hr
  rcases List.eq_nil_or_concat ps with rfl | ⟨ps1, p, rfl⟩
  · have hkn : t.kids = [] := List.eq_nil_of_length_eq_zero H3.out.2.2.2.1.symm
    have HR := Lib.hid (last_own hkn)
    simp only [List.length_nil]
    go_simp
    repeat' (first | go_at_call 63 | go_skip | go_guarded | go_step)
    refine (valueO_c x3 v t (H.out.ext H3.out.2.1)).mono ?_
    rintro e x2 ⟨rfl, f2⟩
    have hb2 := bx_ext H3.out.1 f2
    obtain ⟨c0, c1⟩ := bx_cells hb2
    have cf := bx_free hb2
    have hrl := heap_lt hb2
    have H2 : Hid (_ ∧ Ext w x2 ∧ _) := Lib.hid ⟨hb2, Ext.trans H3.out.2.1 f2, H3.out.2.2.1⟩
    clear f2 hb2
    cases hv : t.val with
    | some u =>
      have HV := Lib.hid hv
      clear hv
      simp only [Option.getD_some, Option.isSome_some]
      go_simp
      repeat' (first | go_skip | go_guarded | go_step)
      (try simp only [Exit.inBlock, Exit.then])
      refine bodyPost_ret_by (results_ct rfl _ _ _ _ _ _ _ rfl (heap_set (heap_set H2.out.1 0 _) 1 _) Try.underlying29 rfl (by kernel_rfl)) rfl ?_
      refine ⟨?_, (H2.out.2.1.setCell H2.out.2.2 _).setCell H2.out.2.2 _⟩
      rw [HR.out, HV.out]
      simp [opre, optR]
    | none =>
      have HV := Lib.hid hv
      clear hv
      simp only [Option.getD_none, Option.isSome_none]
      go_simp
      repeat' (first | go_skip | go_guarded | go_step)
      (try simp only [Exit.inBlock, Exit.then])
      refine bodyPost_ret_by (results_ct rfl _ _ _ _ _ _ _ rfl (heap_set (heap_set H2.out.1 0 _) 1 _) Try.underlying29 rfl (by kernel_rfl)) rfl ?_
      refine ⟨?_, (H2.out.2.1.setCell H2.out.2.2 _).setCell H2.out.2.2 _⟩
      rw [HR.out, HV.out]
      rfl
  · rw [List.concat_eq_append] at hs H3 ⊢
    rcases List.eq_nil_or_concat t.kids with hkk | ⟨r, k, hkk⟩
    · have := H3.out.2.2.2.1; rw [hkk] at this; simp at this
    · rw [List.concat_eq_append] at hkk
      have hlen : ps1.length = r.length := by have := H3.out.2.2.2.1; rw [hkk] at this; simpa using this
      obtain ⟨b, o, rfl, hcl⟩ := hs (by simp [ptrs])
      have hq := hcl ps1.length (ptr p) (ptrs_get (by simp))
      have hbk := HK.out.br (k := k) (by rw [hkk]; simp)
      have hpk := H3.out.2.2.2.2 ps1.length p k (by simp) (by rw [hkk, hlen]; simp)
      have hll : 0 < k.lab.length := List.length_pos_iff.2 hbk.1
      have hln := hbk.2.1
      have HR := Lib.hid (And.intro hbk (last_kid hkk (br_ne N hbk)))
      have HP := Lib.hid hpk
      have hm2 : ps1.length + 1 ≤ 256 := by have := H3.out.2.2.2.1; simp at this; omega
      have hml : (ps1 ++ [p]).length = ps1.length + 1 := by simp
      rw [hml]
      obtain ⟨m, hm⟩ : ∃ m, m = ps1.length := ⟨_, rfl⟩
      rw [← hm] at hm2 hq ⊢
      have d0 : decide (0 < m + 1) = true := by simp
      have hs1 : (((m + 1 : Nat) : Int) - 1) = (m : Int) := by omega
      have hs2 : ((m : Int) + 1 - 1) = (m : Int) := by omega
      have hi1 : (m : Int) < ((m + 1 : Nat) : Int) := by omega
      clear hbk hpk hcl hs hkk hm hml hlen
      go_simp
      repeat' (first | go_at_call 71 | go_skip | go_guarded | go_step)
      refine (HI.out (N - k.lab.length) (by omega) x3 (ptr p) k key (.of HP.out) HR.out.1.2.2.2 (by omega)).mono ?_
      rintro e x4 ⟨rfl, f4⟩
      obtain ⟨ra, rv, rc, hlit⟩ := optR_lit (opre (key ++ k.lab) (pick true k.prs))
      rw [hlit]
      have HL := Lib.hid hlit
      have hb4 := bx_ext H3.out.1 f4
      obtain ⟨c0, c1⟩ := bx_cells hb4
      have cf := bx_free hb4
      have H4 : Hid (_ ∧ Ext w x4 ∧ _) := Lib.hid ⟨hb4, Ext.trans H3.out.2.1 f4, H3.out.2.2.1⟩
      have hrl4 := heap_lt hb4
      clear f4 hb4 hlit
      go_simp
      repeat' (first | go_skip | go_guarded | go_step)
      (try simp only [Exit.inBlock, Exit.then])
      refine bodyPost_ret_by (results_ct rfl _ _ _ _ _ _ _ rfl (heap_set (heap_set H4.out.1 0 _) 1 _) Try.underlying29 rfl (by kernel_rfl)) rfl ?_
      refine ⟨?_, (H4.out.2.1.setCell H4.out.2.2 _).setCell H4.out.2.2 _⟩
      rw [HR.out.2, opre_opre, HL.out]
      rfl

end Go.Proofs.Ytaehdkgmkjhmgaa
