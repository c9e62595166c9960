/- Contracts: how a tree looks, byte by byte; are two alike? -/
import Derived.Test.YtmpeniboccahdaaTb
import Derived.Test.YtmpeniboccahdaaMe
import Derived.Deep.RegionHeld3
import Derived.Deep.DeepCutAuto
namespace Go.Proofs.Ytmpeniboccahdaa
open Go.RowKit Go.QS
set_option linter.unusedVariables false

theorem kid_size {t k : RT} (h : k ∈ t.kids) : SizeOf.sizeOf k < SizeOf.sizeOf t := by
  obtain ⟨a, b, c⟩ := t
  have := List.sizeOf_lt_of_mem h
  simp only [RT.kids_node] at this
  simp; omega

def headB_len' (lab : List UInt8) (val : Option (List UInt8)) : Nat := 5 + lab.length + vlen val
theorem byte_len (n : Nat) : (n : Int) % 256 = ((UInt8.ofNat n).toNat : Int) := by simp
theorem keep_n {w w' : World} {g : Nat} {u0 u1 u2 u3 : Value} (f : Ext w w') (h : w.cell? ⟨g, 0, none⟩ = some u0 ∧ w.cell? ⟨g, 1, none⟩ = some u1 ∧ w.cell? ⟨g, 2, none⟩ = some u2 ∧ w.cell? ⟨g, 3, none⟩ = some u3) :
    w'.cell? ⟨g, 0, none⟩ = some u0 ∧ w'.cell? ⟨g, 1, none⟩ = some u1 ∧ w'.cell? ⟨g, 2, none⟩ = some u2 ∧ w'.cell? ⟨g, 3, none⟩ = some u3 :=
  ⟨(f.cell (World.block_lt_of_cell? w _ h.1)).trans h.1, (f.cell (World.block_lt_of_cell? w _ h.2.1)).trans h.2.1, (f.cell (World.block_lt_of_cell? w _ h.2.2.1)).trans h.2.2.1, (f.cell (World.block_lt_of_cell? w _ h.2.2.2)).trans h.2.2.2⟩

theorem ext_alloc {a b : World} (h : Ext a b) (o : Obj) : Ext a (b.alloc o) := h.alloc h.size o
theorem ext_drew {a b : World} (h : Ext a b) : Ext a b.drew := h.drew
theorem bs_of_own {W w : World} {v : Value} {l : List UInt8} (h : w.ownsRow W.heap.size 5 1 v l.length (encB l)) : BS w v l := BS.of_own h

set_option maxRecDepth 100000 in
set_option maxHeartbeats 1000000 in
theorem shaped_c : ∀ (N : Nat) (w : World) (g : Nat) (t : RT) (v : Value) (l : List UInt8), SizeOf.sizeOf t < N → Rep NT w g t → BS w v l → l.length + t.shp.length ≤ 1000000000 →
    Calls Try.prog 48 #[ptr g, v] w fun e w' => ∃ v', e = .returned v' ∧ w'.ownsRow w.heap.size 5 1 v' (l ++ t.shp).length (encB (l ++ t.shp)) ∧ Ext w w' := by
  intro N
  induction N with
  | zero => intro w g t v l h; omega
  | succ N ih =>
  intro w g t v l hN h hv h9
  have IH := Lib.hid ih
  clear ih
  obtain ⟨kv, ow, ps, nd, sl, rp⟩ := h.open
  have hcells := nd.cells
  obtain ⟨lab, val, kids⟩ := t
  simp only [RT.lab_node, RT.val_node, RT.kids_node] at *
  have hlen : (RT.node lab val kids).shp.length = 5 + lab.length + vlen val + (shps kids).length := by
    rw [shp_eq, List.length_append, headB_len]; rfl
  rw [hlen] at h9
  obtain ⟨A, c, rfl, hn, hc, hs⟩ := sl_full hv
  obtain ⟨KA, kn, kc, rfl⟩ : ∃ A n c, kv = .slice A n c := by obtain ⟨A, c, rfl, _⟩ := sl; exact ⟨_, _, _, rfl⟩
  have hkn : kn = ps.length ∧ ps.length ≤ kc ∧ kc ≤ maxLen ∧ Seg w KA (ptrs ps) := by
    obtain ⟨A, c, e, _, h1, h2, h3⟩ := sl
    cases e
    exact ⟨rfl, h1, h2, h3⟩
  obtain ⟨rfl, hk1, hk2, hk3⟩ := hkn
  obtain ⟨c0, c1, c2, c3, c4⟩ := hcells
  have HN : Hid ((w.cell? ⟨g, 0, none⟩ = some (str lab) ∧ w.cell? ⟨g, 1, none⟩ = some (.bool val.isSome) ∧ w.cell? ⟨g, 2, none⟩ = some (str (val.getD [])) ∧ w.cell? ⟨g, 3, none⟩ = some (.slice KA ps.length kc)) ∧ Seg w KA (ptrs ps) ∧ Reps NT w ps kids) := Lib.hid ⟨⟨c0, c1, c2, c3⟩, hk3, rp⟩
  have HT := Lib.hid (text_c w _ l lab hv (by omega))
  have hsz : ∀ k ∈ kids, SizeOf.sizeOf k < N := fun k hk => by have := kid_size (t := RT.node lab val kids) hk; omega
  have HSZ := Lib.hid hsz
  clear hlen nd sl rp hs hk3 hv h c1 c2 c3 c4 hN hsz
  go_enter Try.func48, Try.ntmps48
  repeat' (first | go_at_call 76 | go_skip | go_guarded | go_step)
  refine HT.out.mono ?_
  rintro e w1 ⟨v1, rfl, h1, f1⟩
  have H1 := Lib.hid (And.intro h1 f1)
  have hN1 := keep_n f1 HN.out.1
  obtain ⟨c0, c1, c2, c3⟩ := hN1
  have hl1 : (l ++ textB lab).length = l.length + (2 + lab.length) := by rw [List.length_append, textB_len]
  clear h1 f1
  go_simp
  repeat' (go_not_at_if 16; (first | go_skip | go_guarded | go_step))
  have HL1 := Lib.hid (And.intro c0 (And.intro c1 (And.intro c2 c3)))
  go_cut [1] (fun vx wx => Hid (wx.ownsRow w.heap.size 5 1 vx (l ++ textB lab ++ valB val).length (encB (l ++ textB lab ++ valB val)) ∧ Ext w wx))
  case first =>
    cases val with
    | none =>
      have d1 : (none : Option (List UInt8)).isSome = false := rfl
      repeat' (first | go_skip | go_guarded | (at_builtin; refine wpList_appR (W := w) rfl (.tmp 25) (.tmp 26) _ rfl Try.underlying52 _ _ rfl (.inl (row_ext H1.out.1 (ext_alloc (Ext.refl _) _))) (ext_alloc H1.out.2 _) _ 1 1 [0] rfl (by decide) rfl (Seg.new _ [_] _ rfl) (by omega) ?_; intro v2 w2 hown hb2) | go_step)
      go_meet
      exact Lib.hid ⟨hown, hb2⟩
    | some v =>
      have d1 : (some v).isSome = true := rfl
      have h9' : l.length + (2 + lab.length) + 1 + v.length + 2 ≤ 1000000000 := by simp only [vlen] at h9; omega
      repeat' (go_not_at_region 3; (first | go_skip | go_guarded | go_step))
      have c2' : w1.cell? ⟨g, 2, none⟩ = some (str v) := c2
      have HC2 : Hid (w.cell? ⟨g, 2, none⟩ = some (str v)) := Lib.hid HN.out.1.2.2.1
      go_region_held3 (fun w' => w'.cell? ⟨g, 2, none⟩ = some (str v)) (first | exact (k3.out.cell (World.block_lt_of_cell? w _ HC2.out)).trans HC2.out | exact (k2.out.cell (World.block_lt_of_cell? w _ HC2.out)).trans HC2.out | go_keep)
        (first
         | (refine step_appR (W := w) (by rfl) (.tmp 17) (.tmp 18) _ (by rfl) Try.underlying52 _ (l ++ textB lab) (by rfl) (.inl (row_ext H1.out.1 (by repeat' (first | exact Ext.refl _ | apply ext_alloc | apply ext_drew)))) (H1.out.2.trans (by repeat' (first | exact Ext.refl _ | apply ext_alloc | apply ext_drew))) _ 1 1 [1] (by rfl) (by decide) (by rfl) (Seg.new _ [_] _ (by rfl)) (by omega) ?_; intro v2 w2 hown2 hb2; have k2 : Hid (Ext w w2) := Lib.hid hb2; have HO2 := Lib.hid hown2; clear hown2 hb2)
         | (go_at_call 76; refine (text_c w2 v2 (l ++ textB lab ++ [1]) v (BS.of_own HO2.out) (by have := textB_len lab; simp only [List.length_append, List.length_singleton]; omega)).mono ?_; rintro e w3 ⟨v3, rfl, hown3, hb3⟩; have k3 : Hid (Ext w w3) := Lib.hid (k2.out.trans hb3); have HO3 := Lib.hid hown3; clear hown3 hb3))
      repeat' (first | go_skip | go_guarded | go_step)
      go_meet
      have e : l ++ textB lab ++ valB (some v) = l ++ textB lab ++ [1] ++ textB v := by simp [valB]
      rw [e]
      exact Lib.hid ⟨own_base HO3.out k2.out.size, k3.out⟩
  case rest =>
  have hl2 : (l ++ textB lab ++ valB val).length = l.length + (2 + lab.length) + (1 + vlen val) := by rw [List.length_append, hl1]; cases val <;> simp [valB, vlen, textB_len]; omega
  obtain ⟨L2, hL2⟩ : ∃ L2, L2 = l ++ textB lab ++ valB val := ⟨_, rfl⟩
  rw [← hL2] at hcut hl2
  have HL2 := Lib.hid hL2
  clear hL2
  obtain ⟨hown2, f2⟩ := hcut.out
  have H2 := Lib.hid (And.intro hown2 f2)
  obtain ⟨A2, c2', rfl⟩ := own_slice hown2
  have hN2 := keep_n f2 HN.out.1
  obtain ⟨c0, c1, c2, c3⟩ := hN2
  clear hown2 f2 hcut
  have hkm : ps.length < 9223372036854775808 := by unfold maxLen at hk2; omega
  obtain ⟨x0, hx0⟩ : ∃ x0, x0 = UInt8.ofNat ps.length := ⟨_, rfl⟩
  obtain ⟨x1, hx1⟩ : ∃ x1, x1 = UInt8.ofNat (ps.length / 256) := ⟨_, rfl⟩
  have hb0 : IntKind.u8.wrap (ps.length : Int) = (x0.toNat : Int) := by rw [IntKind.wrap_u8, hx0]; simp
  have hb1 : IntKind.u8.wrap ((ps.length : Int) / 256) = (x1.toNat : Int) := by rw [IntKind.wrap_u8, hx1]; simp
  have HX : Hid (twoB ps.length = [x0, x1]) := Lib.hid (by rw [hx0, hx1]; rfl)
  have h29 : L2.length + 2 ≤ 1000000000 := by omega
  have HLL := Lib.hid hl2
  clear hx0 hx1 hl2 hl1
  go_simp
  repeat' (go_not_at_region 5; (first | go_skip | go_guarded | go_step))
  go_region_held3 (fun w' => w'.cell? ⟨g, 3, none⟩ = some (.slice KA ps.length kc)) (first | exact (k3.out.cell (World.block_lt_of_cell? w _ HN.out.1.2.2.2)).trans HN.out.1.2.2.2 | go_keep)
    ((refine step_appR (W := w) (by rfl) (.tmp 28) (.tmp 42) _ (by rfl) Try.underlying52 _ L2 (by rfl) (.inl (row_ext H2.out.1 (by repeat' (first | exact Ext.refl _ | apply ext_alloc | apply ext_drew)))) (H2.out.2.trans (by repeat' (first | exact Ext.refl _ | apply ext_alloc | apply ext_drew))) _ 2 2 [x0, x1] (by rfl) (by decide) (by rfl) (Seg.new _ [_, _] _ (by rfl)) (by omega) ?_; intro v3 w3 hown3 hb3; have k3 : Hid (Ext w w3) := Lib.hid hb3; have HO3 := Lib.hid hown3; clear hown3 hb3))
  have H3 : Hid (w3.ownsRow w.heap.size 5 1 v3 (L2 ++ twoB ps.length).length (encB (L2 ++ twoB ps.length)) ∧ Ext w w3) := by rw [HX.out]; exact Lib.hid ⟨HO3.out, k3.out⟩
  have hN3 := keep_n k3.out HN.out.1
  obtain ⟨c0, c1, c2, c3⟩ := hN3
  have hl3 : l.length + headB_len' lab val + (shps kids).length ≤ 1000000000 := by unfold headB_len'; omega
  have HE3 : Hid (l ++ headB lab val kids.length = L2 ++ twoB ps.length) := Lib.hid (by rw [HL2.out, HN.out.2.2.1]; simp [headB])
  clear hb0 hb1 h29
  repeat' (go_not_at_region 7; (first | go_skip | go_guarded | go_step))
  obtain ⟨m, hm⟩ : ∃ m, m = ps.length := ⟨_, rfl⟩
  rw [← hm] at hkm ⊢
  have HM := Lib.hid hm
  clear hm
  go_loopg [1, 6, 49] m (fun gk v1 v6 v49 wr => ∃ j : Nat, v49 = .int .i64 j ∧ j ≤ m ∧ m - j ≤ gk ∧ Hid (wr.ownsRow w.heap.size 5 1 v1 (l ++ headB lab val kids.length ++ shps (kids.take j)).length (encB (l ++ headB lab val kids.length ++ shps (kids.take j))) ∧ Ext w wr))
  case atStart => exact ⟨0, rfl, Nat.zero_le _, Nat.le_refl _, Lib.hid (by rw [HE3.out, List.take_zero, shps_nil, List.append_nil]; exact H3.out)⟩
  case round =>
    obtain ⟨j, rfl, hjm, hgk, HI⟩ := hrel
    rcases Nat.lt_or_ge j m with hlt | hge
    · have d1 : decide (j < m) = true := by simp [hlt]
      obtain ⟨p, hp⟩ := get_of_lt ps (show j < ps.length by have := HM.out; omega)
      obtain ⟨k, hkk⟩ := get_of_lt kids (show j < kids.length by have := HM.out; have := HN.out.2.2.1; omega)
      obtain ⟨b, o, hKA, hcl⟩ := (Seg.below HN.out.2.1 HI.out.2) (fun e => by have := ptrs_get hp; rw [e] at this; simp at this)
      subst hKA
      have hq := hcl j _ (ptrs_get hp)
      have hi1 : (j : Int) < (m : Int) := by omega
      have hbd := shps_le kids (j + 1)
      rw [shps_snoc hkk, List.length_append] at hbd
      have HC := Lib.hid (IH.out wr p k _ _ (HSZ.out k (List.mem_of_getElem? hkk)) ((HN.out.2.2.2 j p k hp hkk).ext HI.out.2) (BS.of_own HI.out.1) (by rw [List.length_append, List.length_append, headB_len]; unfold headB_len' at hl3; omega))
      have HS2 := Lib.hid (shps_snoc hkk)
      clear hcl hp hkk hbd
      repeat' (first | go_at_call 48 | go_skip | go_guarded | go_step)
      refine HC.out.mono ?_
      rintro e x5 ⟨v5, rfl, h5, f5⟩
      have H5 : Hid (x5.ownsRow w.heap.size 5 1 v5 (l ++ headB lab val kids.length ++ shps (kids.take (j + 1))).length (encB (l ++ headB lab val kids.length ++ shps (kids.take (j + 1)))) ∧ Ext w x5) := by
        rw [HS2.out, ← List.append_assoc]
        exact Lib.hid ⟨own_base h5 HI.out.2.size, HI.out.2.trans f5⟩
      clear h5 f5
      go_simp
      repeat' (first | go_skip | go_guarded | go_step)
      go_roundg (m - (j + 1))
      case measure => omega
      case rel => exact ⟨j + 1, by go_num, by omega, Nat.le_refl _, H5⟩
    · obtain rfl : j = m := by omega
      have d1 : decide (j < j) = false := by simp
      repeat' (first | go_skip | go_guarded | go_step)
      go_ret
      have h := HI.out
      rw [List.take_of_length_le (by have := HM.out; have := HN.out.2.2.1; omega)] at h
      refine ⟨_, rfl, ?_, h.2⟩
      rw [shp_eq, ← List.append_assoc]
      exact h.1

theorem shape_c (w : World) (g : Nat) (t : RT) (h : Rep NT w g t) (h9 : t.shp.length ≤ 1000000000) :
    Calls Try.prog 23 #[ptr g] w fun e w' => ∃ v', e = .returned v' ∧ w'.ownsRow w.heap.size 5 1 v' t.shp.length (encB t.shp) ∧ Ext w w' := by
  have HC := Lib.hid (shaped_c _ w g t (.slice none 0 0) [] (Nat.lt_succ_self _) h (Sl.nil _ _) (by simpa using h9))
  rw [List.nil_append] at HC
  clear h
  go_enter Try.func23, Try.ntmps23
  repeat' (first | go_at_call 48 | go_skip | go_guarded | go_step)
  refine HC.out.mono ?_
  rintro e w1 ⟨v1, rfl, h1, f1⟩
  have H1 := Lib.hid (And.intro h1 f1)
  clear h1 f1
  go_simp
  repeat' (first | go_skip | go_guarded | go_step)
  go_ret
  exact ⟨_, rfl, H1.out.1, H1.out.2⟩
theorem shape_nil (w : World) : Calls Try.prog 23 #[.pointer none] w fun e w' => e = .returned (.slice none 0 0) ∧ w = w' := by
  go_enter Try.func23, Try.ntmps23
  repeat' (first | go_skip | go_guarded | go_step)
  go_ret
  exact ⟨rfl, rfl⟩

/-- A root, or none, and how it looks. -/
inductive Shp (w : World) : Value → List UInt8 → Prop
  | nil : Shp w (.pointer none) []
  | of {g : Nat} {t : RT} (h : Rep NT w g t) (h9 : t.shp.length ≤ 1000000000) : Shp w (ptr g) t.shp
theorem Shp.ext {w w' : World} {v : Value} {l : List UInt8} (h : Shp w v l) (f : Ext w w') : Shp w' v l := by
  cases h with
  | nil => exact .nil
  | of h h9 => exact .of (h.ext f) h9
theorem shapeO_c (w : World) (v : Value) (l : List UInt8) (h : Shp w v l) : Calls Try.prog 23 #[v] w fun e w' => ∃ v', e = .returned v' ∧ BS w' v' l ∧ Ext w w' := by
  cases h with
  | nil =>
    refine (shape_nil w).mono ?_
    rintro e w1 ⟨rfl, rfl⟩
    exact ⟨_, rfl, Sl.nil _ _, Ext.refl _⟩
  | of h h9 =>
    refine (shape_c w _ _ h h9).mono ?_
    rintro e w1 ⟨v1, rfl, h1, f1⟩
    exact ⟨_, rfl, BS.of_own h1, f1⟩
end Go.Proofs.Ytmpeniboccahdaa
