/- Contracts: the document's All and Canon of any tree. -/
import Derived.Test.YtmpeniboccahdaaUj
import Derived.Test.YtmpeniboccahdaaJa
import Derived.Test.YtmpeniboccahdaaKq
import Derived.Test.YtmpeniboccahdaaLs
import Derived.Deep.LoopGhost
namespace Go.Proofs.Ytmpeniboccahdaa
open Go.RowKit Go.QS
set_option linter.unusedVariables false

theorem pre_append (a : List UInt8) (x y : List Pr) : pre a (x ++ y) = pre a x ++ pre a y := by simp [pre]
theorem pre_len (a : List UInt8) (x : List Pr) : (pre a x).length = x.length := by simp [pre]
theorem belows_snoc {ks : List RT} {j : Nat} {k : RT} (h : ks[j]? = some k) : belows (ks.take (j + 1)) = belows (ks.take j) ++ pre k.lab k.prs := by
  rw [take_snoc h, belows_append, belows_cons, belows_nil, List.append_nil]

set_option maxRecDepth 100000 in
set_option maxHeartbeats 2000000 in
theorem all_c (S : Nat → Prop) : ∀ (N : Nat) (w : World) (g : Nat) (t : RT) (a : List UInt8), SizeOf.sizeOf t < N → RepS DT DP S w g t → Gd t → a.length + 41 * t.cnt ≤ 1000000 →
    Calls Try.prog 55 #[ptr g, str a] w fun e w' => ∃ v', e = .returned v' ∧ w'.ownsRow w.heap.size 33 2 v' (pre (a ++ t.lab) t.prs).length (flat (pre (a ++ t.lab) t.prs)) ∧ Ext w w' := by
  intro N
  induction N with
  | zero => intro w g t a h; omega
  | succ N ih =>
  intro w g t a hN h hG h9
  have IH := Lib.hid ih
  clear ih
  obtain ⟨kv, ps, nd, sl, rp⟩ := h.open
  have hcells := nd.cells
  obtain ⟨lab, val, kids⟩ := t
  have hgo := hG.open
  rw [below_eq]
  simp only [RT.lab_node, RT.val_node, RT.kids_node] at *
  have hcnt : (RT.node lab val kids).cnt = 1 + cnts kids := rfl
  rw [hcnt] at h9
  obtain ⟨KA, kc, rfl, _, hk1, hk2, hk3⟩ := Sl.of_own sl
  obtain ⟨c0, c1, c2, c3⟩ := hcells
  have HN : Hid ((w.cell? ⟨g, 0, none⟩ = some (str lab) ∧ w.cell? ⟨g, 1, none⟩ = some (.bool val.isSome) ∧ w.cell? ⟨g, 2, none⟩ = some (str (val.getD [])) ∧ w.cell? ⟨g, 3, none⟩ = some (.slice KA ps.length kc)) ∧ Seg w KA (ptrs ps) ∧ RepsS DT DP S w ps kids) := Lib.hid ⟨⟨c0, c1, c2, c3⟩, hk3, rp⟩
  have hsz : ∀ k ∈ kids, SizeOf.sizeOf k < N := fun k hk => by have := kid_size (t := RT.node lab val kids) hk; omega
  have hcm : ∀ k ∈ kids, k.cnt ≤ cnts kids := fun k hk => cnts_mem hk
  have HSZ : Hid ((∀ k ∈ kids, SizeOf.sizeOf k < N) ∧ (∀ k ∈ kids, Gd k) ∧ ∀ k ∈ kids, k.cnt ≤ cnts kids) := Lib.hid ⟨hsz, hgo.2.2, hcm⟩
  have hl40 : lab.length ≤ 40 := hgo.1
  have hpk := rp.1
  have hcl := cnts_len kids
  have hpl : ps.length ≤ 1000000 := by omega
  have hov : (9223372036854775807 < a.length + lab.length) = False := by rw [eq_iff_iff, iff_false]; omega
  clear nd sl rp hk3 h c2 c3 hN hsz hpk hG hgo hcm hcnt hcl
  go_enter Try.func55, Try.ntmps55
  obtain ⟨key, hkey⟩ : ∃ k, k = a ++ lab := ⟨_, rfl⟩
  have HK := Lib.hid hkey
  repeat' (go_not_at_if 18; (first | go_skip | go_guarded | go_step))
  have hkl : key.length = a.length + lab.length := by rw [hkey, List.length_append]
  have hk9 : key.length ≤ a.length + 40 := by omega
  rw [bs_append, ← hkey]
  clear hkey hkl hov c0
  go_cut [5] (fun vx wx => Hid (wx.ownsRow w.heap.size 33 2 vx (pre key (ownP val)).length (flat (pre key (ownP val))) ∧ Ext w wx))
  case first =>
    cases val with
    | none =>
      have d1 : (none : Option (List UInt8)).isSome = false := rfl
      repeat' (first | go_skip | go_guarded | go_step)
      go_meet
      exact Lib.hid ⟨World.ownsRow_nil _ _ _ _, Ext.refl _⟩
    | some v =>
      have d1 : (some v).isSome = true := rfl
      have c2 : w.cell? ⟨g, 2, none⟩ = some (str v) := HN.out.1.2.2.1
      repeat' (first | (at_builtin; refine wpList_appE (W := w) rfl (.tmp 19) (.tmp 26) _ rfl 33 2 32 Try.underlying28 infoR (by decide) _ _ _ rfl (World.ownsRow_nil _ _ _ _) (ext_alloc (Ext.refl _) _) _ 1 1 [str key, str v] rfl rfl (Seg.new _ [_, _] _ rfl) (by intro u hu; simp at hu; rcases hu with rfl | rfl <;> rfl) (by unfold maxLen; omega) (by omega) ?_; intro v2 w2 hown hb2) | go_skip | go_guarded | go_step)
      go_meet
      have e : pre key (ownP (some v)) = [(key, v)] := by simp [pre, ownP]
      rw [e]
      exact Lib.hid ⟨hown, hb2⟩
  case rest =>
  obtain ⟨L2, hL2⟩ : ∃ L, L = pre key (ownP val) := ⟨_, rfl⟩
  have hL29 : L2.length ≤ 1 := by rw [hL2, pre_len]; cases val <;> simp [ownP]
  rw [← hL2] at hcut
  obtain ⟨hown2, f2⟩ := hcut.out
  have H2 := Lib.hid (And.intro hown2 (And.intro f2 hL2))
  have hN2 := keep_n f2 HN.out.1
  obtain ⟨c0, c1, c2, c3⟩ := hN2
  clear hown2 f2 hcut hL2
  obtain ⟨m, hm⟩ : ∃ m, m = ps.length := ⟨_, rfl⟩
  rw [← hm] at c3 hpl
  have HM := Lib.hid hm
  clear hm
  repeat' (go_not_at_region 6; (first | go_skip | go_guarded | go_step))
  go_loopg [5, 33] m (fun gk v5 v33 wr => ∃ j : Nat, v33 = .int .i64 j ∧ j ≤ m ∧ m - j ≤ gk ∧ Hid (wr.ownsRow w.heap.size 33 2 v5 (L2 ++ pre key (belows (kids.take j))).length (flat (L2 ++ pre key (belows (kids.take j)))) ∧ Ext w wr))
  case atStart => exact ⟨0, rfl, Nat.zero_le _, Nat.le_refl _, Lib.hid (by rw [List.take_zero, belows_nil, show pre key [] = [] from rfl, List.append_nil]; exact ⟨H2.out.1, H2.out.2.1⟩)⟩
  case round =>
    obtain ⟨j, rfl, hjm, hgk, HI⟩ := hrel
    rcases Nat.lt_or_ge j m with hlt | hge
    · have d1 : decide (j < m) = true := by simp [hlt]
      obtain ⟨p, hp⟩ := get_of_lt ps (show j < ps.length by have := HM.out; omega)
      obtain ⟨k, hkk⟩ := get_of_lt kids (show j < kids.length by have := HM.out; have := HN.out.2.2.1; omega)
      obtain ⟨b, o, hKA, hcl⟩ := (Seg.below HN.out.2.1 HI.out.2) (fun e => by have := ptrs_get hp; rw [e] at this; simp at this)
      subst hKA
      have hq := hcl j _ (ptrs_get hp)
      have hi1 : (j : Int) < (m : Int) := by omega
      have hmem := List.mem_of_getElem? hkk
      have hkc := HSZ.out.2.2 k hmem
      have HC := Lib.hid (IH.out wr p k key (HSZ.out.1 k hmem) ((HN.out.2.2.2 j p k hp hkk).ext HI.out.2) (HSZ.out.2.1 k hmem) (by omega))
      have hgp := (gd_prs k (HSZ.out.2.1 k hmem)).1
      have hbl := (gds_prs (kids.take j) (fun x hx => HSZ.out.2.1 x (List.mem_of_mem_take hx))).1
      have hcc := cnts_cut kids j
      have HS2 : Hid (L2 ++ pre key (belows (kids.take (j + 1))) = L2 ++ pre key (belows (kids.take j)) ++ pre (key ++ k.lab) k.prs) := Lib.hid (by rw [belows_snoc hkk, pre_append, pre_pre, List.append_assoc])
      obtain ⟨L5, hL5⟩ : ∃ L, L = L2 ++ pre key (belows (kids.take j)) := ⟨_, rfl⟩
      have h5l : L5.length ≤ 1 + cnts kids := by rw [hL5, List.length_append, pre_len]; omega
      obtain ⟨Lk, hLk⟩ : ∃ L, L = pre (key ++ k.lab) k.prs := ⟨_, rfl⟩
      have hkl9 : Lk.length ≤ cnts kids := by rw [hLk, pre_len]; omega
      have HI5 := HI.out
      rw [← hL5] at HI5 HS2
      rw [← hLk] at HC HS2
      have HJ : Hid (_ ∧ _) := Lib.hid HI5
      clear hcl hp hkk hL5 HI hLk HI5 hmem hgp hbl hcc hkc
      repeat' (first | go_at_call 55 | go_skip | go_guarded | go_step)
      refine HC.out.mono ?_
      rintro e x5 ⟨v5, rfl, h5, f5⟩
      obtain ⟨A5, C5, rfl⟩ := own_slice' h5
      have H5 := Lib.hid (And.intro h5 f5)
      have HP := Lib.hid (PS.of_own h5)
      obtain ⟨A6, C6, he6, hl6, _, _, hs6⟩ := HP.out
      simp only [Value.slice.injEq] at he6
      obtain ⟨rfl, _, rfl⟩ := he6
      have HS6 := Lib.hid (And.intro hl6 hs6)
      clear h5 f5 hl6 hs6
      go_simp
      repeat' (first | (at_builtin; refine wpList_appE (W := w) rfl (.tmp 37) (.tmp 40) _ rfl 33 2 32 Try.underlying28 infoR (by decide) _ _ _ rfl (row_ext HJ.out.1 H5.out.2) (HJ.out.2.trans H5.out.2) _ _ _ (flat Lk) rfl HS6.out.1 HS6.out.2 (flat_one _) (by unfold maxLen; omega) (by omega) ?_; intro v6 w6 hown6 hb6) | go_skip | go_guarded | go_step)
      have H6 : Hid (w6.ownsRow w.heap.size 33 2 v6 (L2 ++ pre key (belows (kids.take (j + 1)))).length (flat (L2 ++ pre key (belows (kids.take (j + 1))))) ∧ Ext w w6) := Lib.hid (by rw [HS2.out, List.length_append, flat_append]; exact ⟨hown6, hb6⟩)
      clear hown6 hb6
      repeat' (first | go_skip | go_guarded | go_step)
      go_roundg (m - (j + 1))
      case measure => omega
      case rel => exact ⟨j + 1, by go_num, by omega, Nat.le_refl _, H6⟩
    · obtain rfl : j = m := by omega
      have d1 : decide (j < j) = false := by simp
      have ht : kids.take j = kids := List.take_of_length_le (by have := HM.out; have := HN.out.2.2.1; omega)
      have hI := HI.out
      rw [ht, H2.out.2.2, ← pre_append, HK.out] at hI
      have HE := Lib.hid hI
      clear hI ht
      repeat' (first | go_skip | go_guarded | go_step)
      go_ret
      exact ⟨_, rfl, HE.out⟩

set_option maxRecDepth 100000 in
set_option maxHeartbeats 2000000 in
theorem rcanon_c (S : Nat → Prop) (w : World) (g : Nat) (t : RT) (h : RepS DT DP S w g t) (hG : Gd t) (hc : t.cnt ≤ 20) :
    Calls Try.prog 26 #[ptr g] w fun e w' => e = .returned (.bool t.canB) ∧ Ext w w' := by
  have hgp := gd_prs t hG
  have hlab := hG.open.1
  have hs9 := gd_shp t hG
  have H := Lib.hid (And.intro h (And.intro hG hc))
  have hA := all_c S _ w g t [] (Nat.lt_succ_self _) h hG (by simp; omega)
  obtain ⟨l, hl⟩ : ∃ l, l = pre t.lab t.prs := ⟨_, rfl⟩
  rw [show ([] : List UInt8) ++ t.lab = t.lab from rfl, ← hl] at hA
  have HA := Lib.hid hA
  have hll : l.length ≤ 20 := by rw [hl, pre_len]; omega
  have hlk : ∀ p ∈ l, p.1.length ≤ 1000 ∧ p.2.length ≤ 40 := by
    intro p hp
    rw [hl] at hp
    obtain ⟨q, hq, rfl⟩ := mem_pre.1 hp
    have := hgp.2 q hq
    simp only [List.length_append]
    omega
  have HL := Lib.hid (And.intro hl hlk)
  clear h hG hA hl hlk hgp hlab
  go_enter Try.func26, Try.ntmps26
  repeat' (first | go_at_call 55 | go_skip | go_guarded | go_step)
  refine HA.out.mono ?_
  rintro e w1 ⟨v1, rfl, o1, f1⟩
  have H1 : Hid (PS w1 v1 l ∧ Ext w w1) := Lib.hid ⟨PS.of_own o1, f1⟩
  clear o1 f1 HA
  go_simp
  repeat' (first | go_at_call 56 | go_skip | go_guarded | go_step)
  refine (Pch.rrises_c w1 v1 l H1.out.1 (by omega) (fun p hp => by have := (HL.out.2 p hp).1; omega)).mono ?_
  rintro e w2 ⟨rfl, f2⟩
  have H2 : Hid (PS w2 v1 l ∧ Ext w w2) := Lib.hid ⟨H1.out.1.below f2, H1.out.2.trans f2⟩
  clear f2 H1
  cases hr : riseB l with
  | false =>
    have hn : ¬ Rise l := fun hh => by have := (riseB_iff l).2 hh; rw [hr] at this; cases this
    have hcf := canon_no H.out.2.1 H.out.2.2 (by rw [← HL.out.1]; exact hn)
    have HCF := Lib.hid hcf
    clear hcf hn
    go_simp
    repeat' (first | go_skip | go_guarded | go_step)
    go_ret
    exact ⟨by rw [HCF.out]; rfl, H2.out.2⟩
  | true =>
    have HR : Hid (Rise l) := Lib.hid ((riseB_iff l).1 hr)
    clear hr
    go_simp
    repeat' (first | go_at_call 24 | go_skip | go_guarded | go_step)
    refine (rshape_c S _ w2 g t (Nat.lt_succ_self _) (H.out.1.ext H2.out.2) (by omega)).mono ?_
    rintro e w3 ⟨v3, rfl, o3, f3⟩
    have H3 := Lib.hid (And.intro (bs_of_own o3) (And.intro (H2.out.2.trans f3) (H2.out.1.below f3)))
    obtain ⟨A3, C3, rfl⟩ := own_slice' o3
    clear o3 f3
    go_simp
    repeat' (first | go_at_call 57 | go_skip | go_guarded | go_step)
    refine (rof_c 1000 (by decide) w3 v1 l H3.out.2.2 HR.out (fun p hp => (HL.out.2 p hp).1) (by omega)).mono ?_
    rintro e w4 ⟨q, u, rfl, r4, lu, ku, pu, f4⟩
    have hul := shp_lenW ku (Nat.le_refl _) (by rw [lu]; simp) (fun p hp => by rw [pu] at hp; exact (HL.out.2 p hp).2)
    have H4 := Lib.hid (And.intro r4 (And.intro (H3.out.2.1.trans f4) (Sl.below H3.out.1 f4)))
    have hcl := canon_law H.out.2.1 H.out.2.2 lu ku (pu.trans HL.out.1)
    have HCL := Lib.hid hcl
    have hu9 : u.shp.length ≤ 10000000 := by rw [pu] at hul; omega
    clear r4 f4 hul lu ku pu hcl
    go_simp
    repeat' (first | go_at_call 24 | go_skip | go_guarded | go_step)
    refine (rshape_c _ _ w4 q u (Nat.lt_succ_self _) H4.out.1 hu9).mono ?_
    rintro e w5 ⟨v5, rfl, o5, f5⟩
    have H5 := Lib.hid (And.intro (bs_of_own o5) (And.intro (H4.out.2.1.trans f5) (Sl.below H4.out.2.2 f5)))
    obtain ⟨A5, C5, rfl⟩ := own_slice' o5
    clear o5 f5
    go_simp
    repeat' (first | go_at_call 22 | go_skip | go_guarded | go_step)
    refine (rsame_c w5 _ _ t.shp u.shp H5.out.2.2 H5.out.1).mono ?_
    rintro e w6 ⟨rfl, f6⟩
    have H6 := Lib.hid (H5.out.2.1.trans f6)
    clear f6
    go_simp
    repeat' (first | go_skip | go_guarded | go_step)
    go_ret
    exact ⟨by rw [HCL.out]; rfl, H6.out⟩
end Go.Proofs.Ytmpeniboccahdaa
