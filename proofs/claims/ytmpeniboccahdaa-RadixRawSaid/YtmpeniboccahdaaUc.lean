/- Contract: a branch of the document's tree, of its groups. -/
import Derived.Test.YtmpeniboccahdaaUb
namespace Go.Proofs.Ytmpeniboccahdaa
open Go.RowKit Go.QS
set_option linter.unusedVariables false

def GroupsOK (N : Nat) : Prop := ∀ (w : World) (v : Value) (l : List Pr), PS w v l → Rise l → (∀ p ∈ l, p.1 ≠ [] ∧ p.1.length ≤ N) → l.length ≤ 1000000 →
  Calls Try.prog 79 #[v] w fun e w' => ∃ v' qs ks, e = .returned v' ∧ w'.ownsRow w.heap.size DP 1 v' qs.length (ptrs qs) ∧ RepsD DT DP w.heap.size w' qs ks ∧ Kd N ks ∧ belows ks = l ∧ Ext w w'
def BranchOK (N : Nat) : Prop := ∀ (w : World) (v : Value) (l : List Pr) (x : UInt8), PS w v l → Rise l → l ≠ [] → (∀ p ∈ l, (∃ m, p.1 = x :: m) ∧ p.1.length ≤ N) → l.length ≤ 1000000 →
  Calls Try.prog 89 #[v] w fun e w' => ∃ q t, e = .returned (ptr q) ∧ RepD DT DP w.heap.size w' q t ∧ Br N t ∧ pre t.lab t.prs = l ∧ Ext w w'

theorem keep3' {w w' : World} {g1 g2 i1 i2 : Nat} {u1 u2 : Value} (f : Ext w w') (h : w.cell? ⟨g1, i1, none⟩ = some u1 ∧ w.cell? ⟨g2, i2, none⟩ = some u2) : w'.cell? ⟨g1, i1, none⟩ = some u1 ∧ w'.cell? ⟨g2, i2, none⟩ = some u2 :=
  ⟨(f.cell (World.block_lt_of_cell? w _ h.1)).trans h.1, (f.cell (World.block_lt_of_cell? w _ h.2)).trans h.2⟩

theorem own_slice' {w : World} {base : Nat} {e : TypeId} {k n : Nat} {v : Value} {xs : List Value} (h : w.ownsRow base e k v n xs) : ∃ A c, v = .slice A n c := by
  rcases h.2 with ⟨rfl, rfl⟩ | ⟨g, cap, cur, h1, h2, h3, h4⟩
  · exact ⟨_, _, rfl⟩
  · exact ⟨_, _, h1⟩
theorem arm3 {T : TypeId} {w wa X w3 : World} {g7 g10 : Nat} {lab : List UInt8} {val : Option (List UInt8)} {kv v8 : Value} {o : Obj} (hX : Ext wa X) (hg : X.grownBy w3 v8.ownBlock) (hrow : ∀ g, v8.ownBlock = some g → g7 + 1 ≤ g ∧ g < g10)
    (hw : Ext w wa) (hw7 : w.heap.size ≤ g7) (T7 : TreeAt T wa g7 lab val kv) (hB : wa.heap[g10]? = some o) : Ext w w3 ∧ TreeAt T w3 g7 lab val kv ∧ w3.heap[g10]? = some o := by
  refine ⟨(hw.trans hX).grown hg (hw.trans hX).size (fun k hk => by have := hrow k hk; omega), ?_, ?_⟩
  · have h := T7.ext hX
    exact (hg.block g7 h.lt (fun e => by have := hrow g7 e.symm; omega)).trans h
  · have h := (hX.block g10 (heap_lt hB)).trans hB
    exact (hg.block g10 (heap_lt h) (fun e => by have := hrow g10 e.symm; omega)).trans h
theorem ext_alloc' {a b : World} (h : Ext a b) (o : Obj) : Ext a (b.alloc o) := h.alloc h.size o
theorem ext_drew' {a b : World} (h : Ext a b) : Ext a b.drew := h.drew
theorem box_cells' {w : World} {g : Nat} {a b : Value} {t : TypeId} {f : Nat × Nat} (h : w.heap[g]? = some (.cells #[a, b] t f)) : w.cell? ⟨g, 0, none⟩ = some a ∧ w.cell? ⟨g, 1, none⟩ = some b := by
  simp [World.cell?, h]

set_option maxRecDepth 100000 in
set_option maxHeartbeats 2000000 in
theorem branchD_c (N : Nat) (hN9 : N ≤ 1000000) (IH : ∀ M, M < N → GroupsOK M) : BranchOK N := by
  intro w v l x h hr hne hx h9
  have HIH := Lib.hid IH
  obtain ⟨A, C, rfl, hl, hn, hC, hs⟩ := h
  obtain ⟨⟨k0, u0⟩, hp0⟩ := get_of_lt l (List.length_pos_iff.2 hne)
  obtain ⟨m, hm⟩ : ∃ m, m = l.length := ⟨_, rfl⟩
  rw [← hm] at hn h9 ⊢
  have hpos : 0 < m := by rw [hm]; exact List.length_pos_iff.2 hne
  obtain ⟨b, o, rfl, hq0, hq0'⟩ := seg_pair hs hp0
  simp only [Nat.zero_mul, Nat.add_zero] at hq0
  clear hq0'
  have hkl : k0.length ≤ N := (hx _ (List.mem_of_getElem? hp0)).2
  have HL : Hid (m = l.length ∧ Rise l ∧ (∀ p ∈ l, (∃ m, p.1 = x :: m) ∧ p.1.length ≤ N) ∧ l[0]? = some (k0, u0) ∧ Seg w (some ⟨b, o, none⟩) (flat l)) := Lib.hid ⟨hm, hr, hx, hp0, hs⟩
  have HQ := Lib.hid hq0
  have hi0 : (0 : Int) < (m : Int) := by omega
  clear IH hl hr hne hx hm hs hp0
  go_enter Try.func89, Try.ntmps89
  repeat' (go_not_at_region 3; (first | go_skip | go_guarded | go_step))
  go_loopg [3, 5, 6, 18] m (fun gk v3 v5 v6 v18 wr => ∃ j c : Nat, v18 = .int .i64 j ∧ v3 = .int .i64 c ∧ j ≤ m ∧ m - j ≤ gk ∧ Ext w wr ∧ Hid (c = cmn k0 (l.take j)))
  case atStart => exact ⟨0, k0.length, rfl, rfl, Nat.zero_le _, Nat.le_refl _, Ext.refl _, Lib.hid rfl⟩
  case round =>
    obtain ⟨j, c, rfl, rfl, hjm, hgk, hE, HI⟩ := hrel
    have hcl : c ≤ k0.length := by have := (cmn_ok k0 (l.take j)).1; have := HI.out; omega
    rcases Nat.lt_or_ge j m with hlt | hge
    · have d1 : decide (j < m) = true := by simp [hlt]
      obtain ⟨p, hp⟩ := get_of_lt l (show j < l.length by have := HL.out.1; omega)
      obtain ⟨b2, o2, hbo, hq1, hq2⟩ := seg_pair (HL.out.2.2.2.2.below hE) hp
      cases hbo
      have hi1 : (j : Int) < (m : Int) := by omega
      have HP : Hid (cmn k0 (l.take (j + 1)) = if common k0 p.1 < c then common k0 p.1 else c) := Lib.hid (by rw [take_snoc hp, cmn_snoc, ← HI.out])
      have hpl : p.1.length ≤ 1000000 := Nat.le_trans (HL.out.2.2.1 p (List.mem_of_getElem? hp)).2 hN9
      have hk0 := (hE.cell (World.block_lt_of_cell? w _ HQ.out)).trans HQ.out
      have HCM := Lib.hid (fun W => rcommonU_c W k0 p.1 (by omega) (by omega))
      obtain ⟨cm, hcm⟩ : ∃ cm, cm = common k0 p.1 := ⟨_, rfl⟩
      rw [← hcm] at HP HCM
      clear hp hcm
      repeat' (go_not_at_region 5; (first | go_skip | go_guarded | go_step))
      obtain ⟨wa, hwa⟩ : ∃ wa, wa = wr.alloc (.cells #[str p.1, str p.2] 33) := ⟨_, rfl⟩
      have hwa' : wr.alloc (.cells #[Value.string (bs p.1), Value.string (bs p.2)] 33) = wa := hwa.symm
      obtain ⟨g5, hg5⟩ : ∃ g, g = wr.heap.size := ⟨_, rfl⟩
      rw [hwa', ← hg5]
      have hEa : Ext wr wa := by rw [hwa]; exact (Ext.refl wr).alloc (Nat.le_refl _) _
      have hB : wa.cell? ⟨b, o, none⟩ = some (str k0) ∧ wa.cell? ⟨g5, 0, none⟩ = some (str p.1) := by
        refine ⟨(hEa.cell (World.block_lt_of_cell? wr _ hk0)).trans hk0, ?_⟩
        rw [hwa, hg5, World.cell?_alloc_at _ _ _ _ rfl]; rfl
      have HB := Lib.hid hB
      have HEA : Hid (Ext w wa) := Lib.hid (hE.trans hEa)
      obtain ⟨hb1, hb2⟩ := hB
      clear hwa hwa' hg5 hEa hk0 hq1 hq2
      go_region_held3 (fun w' => w'.cell? ⟨b, o, none⟩ = some (str k0) ∧ w'.cell? ⟨g5, 0, none⟩ = some (str p.1))
        (first | exact keep3' k2.out HB.out | exact keep3' (below_drewN (Ext.refl _) 1) HB.out)
        (first
          | (go_at_call 95; refine (HCM.out _).mono ?_; rintro e x2 ⟨rfl, f2⟩; have k2 : Hid (Ext wa x2) := Lib.hid (Ext.trans (below_drewN (Ext.refl _) 1) f2); clear f2))
      have HE2 : Hid (Ext w x2) := Lib.hid (HEA.out.trans k2.out)
      by_cases hcc : cm < c
      · have d2 : decide (cm < c) = true := by simp [hcc]
        rw [if_pos hcc] at HP
        repeat' (first | go_skip | go_guarded | go_step)
        go_roundg (m - (j + 1))
        case measure => omega
        case rel => exact ⟨j + 1, cm, by go_num, by go_num, by omega, Nat.le_refl _, HE2.out, Lib.hid HP.out.symm⟩
      · have d2 : decide (cm < c) = false := by simp; omega
        rw [if_neg hcc] at HP
        repeat' (first | go_skip | go_guarded | go_step)
        go_roundg (m - (j + 1))
        case measure => omega
        case rel => exact ⟨j + 1, c, by go_num, by go_num, by omega, Nat.le_refl _, HE2.out, Lib.hid HP.out.symm⟩
    · obtain rfl : j = m := by omega
      have d1 : decide (j < j) = false := by simp
      have hIc := HI.out
      rw [List.take_of_length_le (by have := HL.out.1; omega)] at hIc
      have HI2 := Lib.hid hIc
      have hk0 := (hE.cell (World.block_lt_of_cell? w _ HQ.out)).trans HQ.out
      have hic1 : (c : Int) ≤ (k0.length : Int) := by omega
      have hic0 : (0 : Int) ≤ (c : Int) := by omega
      obtain ⟨lab, hlab⟩ : ∃ lab, lab = k0.take c := ⟨_, rfl⟩
      have hlab' : (k0.take c) = lab := hlab.symm
      have HLB := Lib.hid hlab
      clear hlab
      have HCL := Lib.hid hcl
      clear hIc hcl
      repeat' (go_not_at_region 12; (first | go_skip | go_guarded | go_step))
      have hcl := HCL.out
      have hcmn := cmn_ok k0 l
      have hcN : c ≤ N := by omega
      have hT7 : TreeAt DT (wr.alloc (.cells #[str lab, .bool false, str [], .slice none 0 0] DT)) wr.heap.size lab none (.slice none 0 0) := TreeAt.new (val := none) DT wr rfl
      obtain ⟨g7, hg7⟩ : ∃ g, g = wr.heap.size := ⟨_, rfl⟩
      have hw7 : w.heap.size ≤ g7 := by rw [hg7]; exact hE.size
      obtain ⟨w7, hw7'⟩ : ∃ w7, w7 = wr.alloc (.cells #[str lab, .bool false, str [], .slice none 0 0] DT) := ⟨_, rfl⟩
      have hww : wr.alloc (.cells #[Value.string (bs lab), Value.bool false, Value.string ⟨#[]⟩, Value.slice none 0 0] DT) = w7 := hw7'.symm
      have hE7 : Ext w w7 := by rw [hw7']; exact hE.alloc hE.size _
      have hs7 : g7 + 1 ≤ w7.heap.size := by rw [hw7', hg7]; simp
      rw [← hw7', ← hg7] at hT7
      rw [hww, ← hg7]
      have H7 : Hid (Ext w w7 ∧ TreeAt DT w7 g7 lab none (.slice none 0 0)) := Lib.hid ⟨hE7, hT7⟩
      clear hT7 hww hw7' hE7 hg7 hk0 hcl hcmn hic1 hic0 hlab' hE
      go_loopg [8, 10, 44] j (fun gk v8 v10 v44 wq => ∃ i : Nat, v44 = .int .i64 i ∧ i ≤ j ∧ j - i ≤ gk ∧ g7 + 1 ≤ wq.heap.size ∧ Hid (Ext w wq ∧ TreeAt DT wq g7 lab (valL c (l.take i)) (.slice none 0 0) ∧ wq.ownsRow (g7 + 1) 33 2 v8 (restL c (l.take i)).length (flat (restL c (l.take i)))))
      case atStart => exact ⟨0, rfl, Nat.zero_le _, Nat.le_refl _, hs7, Lib.hid ⟨H7.out.1, H7.out.2, World.ownsRow_nil _ _ _ _⟩⟩
      case round =>
        obtain ⟨i, rfl, hij, hgk2, hsz, HJ⟩ := hrel
        rcases Nat.lt_or_ge i j with hlt | hge2
        · have d1 : decide (i < j) = true := by simp [hlt]
          obtain ⟨p, hp⟩ := get_of_lt l (show i < l.length by have := HL.out.1; omega)
          obtain ⟨b2, o2, hbo, hq1, hq2⟩ := seg_pair (HL.out.2.2.2.2.below HJ.out.1) hp
          cases hbo
          have hi1 : (i : Int) < (j : Int) := by omega
          have hpl : p.1.length ≤ 1000000 := Nat.le_trans (HL.out.2.2.1 p (List.mem_of_getElem? hp)).2 hN9
          have hcp : c ≤ p.1.length := by
            have h1 := (cmn_ok k0 l).2.1 p (List.mem_of_getElem? hp)
            have h2 := (common_le' k0 p.1).2
            have := HI2.out
            omega
          have HV : Hid (valL c (l.take (i + 1)) = if p.1.length = c then some p.2 else valL c (l.take i)) := Lib.hid (by rw [take_snoc hp, valL_snoc])
          have HR : Hid (restL c (l.take (i + 1)) = if p.1.length = c then restL c (l.take i) else restL c (l.take i) ++ [(p.1.drop c, p.2)]) := Lib.hid (by rw [take_snoc hp, restL_snoc])
          have hrl : (restL c (l.take i)).length ≤ 1000000 := Nat.le_trans (restL_len _ _) (by rw [List.length_take]; omega)
          obtain ⟨wa, hwa⟩ : ∃ wa, wa = wr.alloc (.cells #[str p.1, str p.2] 33) := ⟨_, rfl⟩
          have hwa' : wr.alloc (.cells #[Value.string (bs p.1), Value.string (bs p.2)] 33) = wa := hwa.symm
          have hEa : Ext wr wa := by rw [hwa]; exact (Ext.refl wr).alloc (Nat.le_refl _) _
          obtain ⟨g10, hg10⟩ : ∃ g, g = wr.heap.size := ⟨_, rfl⟩
          have hB : wa.heap[g10]? = some (.cells #[str p.1, str p.2] 33 (0, 0)) := by rw [hwa, hg10]; exact heap_new wr _
          have hg710 : g7 < g10 := by omega
          have HA : Hid (Ext w wa ∧ TreeAt DT wa g7 lab (valL c (l.take i)) (.slice none 0 0) ∧ wa.ownsRow (g7 + 1) 33 2 u8 (restL c (l.take i)).length (flat (restL c (l.take i))) ∧ wa.heap[g10]? = some (.cells #[str p.1, str p.2] 33 (0, 0))) := Lib.hid ⟨HJ.out.1.trans hEa, HJ.out.2.1.ext hEa, row_ext HJ.out.2.2 hEa, hB⟩
          obtain ⟨e1, e2⟩ := box_cells' hB
          have hsa : g7 + 1 ≤ wa.heap.size := Nat.le_trans hsz hEa.size
          have HWA : Hid (wa = wr.alloc (.cells #[str p.1, str p.2] 33) ∧ g10 = wr.heap.size) := Lib.hid ⟨hwa, hg10⟩
          clear hp hB hEa
          by_cases hcc : p.1.length = c
          · have d2 : (p.1.length == c) = true := by simp [hcc]
            rw [if_pos hcc] at HV HR
            clear hcc hwa hg10 e1 e2
            repeat' (go_not_at_region 14; (first | go_skip | go_guarded | go_step))
            rw [show wr.heap.size = g10 from HWA.out.2.symm]
            clear hwa'
            obtain ⟨e1, e2⟩ := box_cells' HA.out.2.2.2
            obtain ⟨t0, t1, t2, t3⟩ := HA.out.2.1.cells
            have tf := HA.out.2.1.free
            repeat' (go_not_at_region 15; (first | go_skip | go_guarded | go_step))
            have hn1 : ¬ g7 = g10 := by omega
            have hn2 : ¬ g10 = g7 := by omega
            go_region
            repeat' (first | go_skip | go_guarded | go_step)
            go_roundg (j - (i + 1))
            case measure => omega
            case rel =>
              refine ⟨i + 1, by go_num, by omega, Nat.le_refl _, by simpa using hsa, ?_⟩
              rw [HV.out, HR.out]
              refine Lib.hid ⟨((HA.out.1.setCell hw7 _).setCell hw7 _).drew, ((HA.out.2.1.set12 p.2).ext (ext_drew' (Ext.refl _))), ?_⟩
              exact row_ext (row_set (row_set HA.out.2.2.1 _ _ (Nat.lt_succ_self _)) _ _ (Nat.lt_succ_self _)) (ext_drew' (Ext.refl _))
          · have d2 : (p.1.length == c) = false := by simp [hcc]
            rw [if_neg hcc] at HV HR
            have HRW : Hid (∀ g, u8.ownBlock = some g → g7 + 1 ≤ g ∧ g < g10) := Lib.hid (fun g hg => ⟨(HJ.out.2.2.lt g hg).1, by rw [hg10]; exact (HJ.out.2.2.lt g hg).2⟩)
            have hic0 : (0 : Int) ≤ (c : Int) := by omega
            have hic1 : (c : Int) ≤ (p.1.length : Int) := by omega
            have hdr : List.take (p.1.length - c) (p.1.drop c) = p.1.drop c := List.take_of_length_le (by simp)
            clear hcc hwa hg10 e1 e2 hcp
            repeat' (go_not_at_region 14; (first | go_skip | go_guarded | go_step))
            rw [show wr.heap.size = g10 from HWA.out.2.symm]
            clear hwa'
            obtain ⟨e1, e2⟩ := box_cells' HA.out.2.2.2
            repeat' (go_not_at_region 16; (first | go_skip | go_guarded | go_step))
            go_region_held3 (fun w' => w'.cell? ⟨g10, 0, none⟩ = some (str p.1) ∧ w'.cell? ⟨g10, 1, none⟩ = some (str p.2))
              (first | exact box_cells' k3.out.2.2 | exact keep3' (by repeat' (first | exact Ext.refl _ | apply ext_alloc' | exact below_drewN (Ext.refl _) _ | apply ext_drew')) (box_cells' HA.out.2.2.2))
              ((refine step_appB (by rfl) (.tmp 61) (.tmp 69) _ (by rfl) (g7 + 1) 33 2 32 Try.underlying28 infoRU (by decide) _ _ _ (by rfl) (row_ext HA.out.2.2.1 (by repeat' (first | exact Ext.refl _ | apply ext_alloc' | exact below_drewN (Ext.refl _) _ | apply ext_drew'))) _ 1 1 [str (p.1.drop c), str p.2] (by rfl) (by rfl) (Seg.new _ [_, _] _ (by rfl)) (by intro u hu; simp at hu; rcases hu with rfl | rfl <;> rfl) (by unfold maxLen; omega) (by omega) (by simp; omega) ?_; intro v3 w3 hown3 hg3 hbs3; have k3 : Hid (_ ∧ _ ∧ _) := Lib.hid (arm3 (by repeat' (first | exact Ext.refl _ | apply ext_alloc' | exact below_drewN (Ext.refl _) _ | apply ext_drew')) hg3 HRW.out HA.out.1 hw7 HA.out.2.1 HA.out.2.2.2); have HO3 := Lib.hid hown3; clear hown3 hg3 hbs3))
            repeat' (first | go_skip | go_guarded | go_step)
            go_roundg (j - (i + 1))
            case measure => omega
            case rel =>
              refine ⟨i + 1, by go_num, by omega, Nat.le_refl _, by have := heap_lt k3.out.2.1; omega, ?_⟩
              rw [HV.out, HR.out, List.length_append, flat_append]
              exact Lib.hid ⟨k3.out.1, k3.out.2.1, HO3.out⟩
        · obtain rfl : i = j := by omega
          have d1 : decide (i < i) = false := by simp
          have hT : l.take i = l := List.take_of_length_le (by have := HL.out.1; omega)
          have hJ := HJ.out
          rw [hT] at hJ
          have HT := Lib.hid hJ.2.1
          have hceq : c = cmn k0 l := HI2.out
          have hcp := cmn_pos HL.out.2.2.2.1 (fun p hp => (HL.out.2.2.1 p hp).1)
          rw [← hceq] at hcp
          have htk := cmn_take HL.out.2.2.2.1
          rw [← hceq] at htk
          have hlen : (k0.take c).length = c := by have := HCL.out; rw [List.length_take]; omega
          have hrr := restL_rise HL.out.2.1 htk
          have hrk : ∀ p ∈ restL c l, p.1 ≠ [] ∧ p.1.length ≤ N - c := by
            intro p hp
            have := (restL_mem hlen htk p).1 hp
            refine ⟨this.1, ?_⟩
            have h2 := (HL.out.2.2.1 _ this.2).2
            simp only [List.length_append] at h2
            omega
          have hrl := restL_len c l
          have HC := Lib.hid (HIH.out (N - c) (by omega) wr u8 (restL c l) (PS.of_own hJ.2.2) hrr hrk (by have := HL.out.1; omega))
          obtain ⟨t0, t1, t2, t3⟩ := hJ.2.1.cells
          clear hceq htk hlen hrr hrk hrl hT hJ
          repeat' (first | go_at_call 79 | go_skip | go_guarded | go_step)
          refine HC.out.mono ?_
          rintro e w9 ⟨v9, qs, ks, rfl, o9, r9, k9, b9, f9⟩
          obtain ⟨A9, c9, rfl⟩ := own_slice' o9
          have T9 := HT.out.ext f9
          obtain ⟨s0, s1, s2, s3⟩ := T9.cells
          have sf := T9.free
          have H9 := Lib.hid (And.intro o9 (And.intro r9 (And.intro k9 (And.intro b9 (And.intro f9 T9)))))
          clear o9 r9 k9 b9 f9 T9 t0 t1 t2 t3
          go_simp
          repeat' (first | go_skip | go_guarded | go_step)
          go_ret
          obtain ⟨o9, r9, k9, b9, f9, T9⟩ := H9.out
          have hceq : c = cmn k0 l := HI2.out
          rw [hceq] at k9 b9
          have hbr := branch_ok (N := N) HL.out.2.2.2.1 HL.out.2.1 (fun p hp => (HL.out.2.2.1 p hp).1) (fun p hp => (HL.out.2.2.1 p hp).2) k9 b9
          rw [← hceq, ← HLB.out] at hbr
          have hf : ∀ (a : Addr) (u : Value) (bl : Nat), wr.heap.size ≤ bl → bl < w9.heap.size → a.block = g7 → (w9.setCell a u).heap[bl]? = w9.heap[bl]? := fun a u bl h1 h2 h3 => Below.heap_setCell w9 a u bl (by omega)
          refine ⟨g7, RT.node lab (valL c l) ks, rfl, RepD.mk (t := RT.node lab (valL c l) ks) (T9.set3 _) hw7 (own_base' (row_set o9 ⟨g7, 3, none⟩ _ (by show g7 < wr.heap.size; omega)) HJ.out.1.size) r9.1 (fun jj p k h1 h2 => repD_mono (repD_set (r9.2 jj p k h1 h2) ⟨g7, 3, none⟩ _ (by show g7 < wr.heap.size; omega)) HJ.out.1.size), hbr.2.2.1, hbr.2.2.2, (HJ.out.1.trans f9).setCell hw7 _⟩
end Go.Proofs.Ytmpeniboccahdaa
