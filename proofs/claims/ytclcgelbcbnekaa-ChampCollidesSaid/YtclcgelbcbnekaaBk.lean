/- Texts joined. -/
import Derived.Test.YtclcgelbcbnekaaCn
import Derived.Test.YtclcgelbcbnekaaCj
import Derived.Test.YtclcgelbcbnekaaCm
import Derived.Test.YtclcgelbcbnekaaBs
set_option linter.unusedVariables false
set_option linter.unusedSimpArgs false
/- Contracts: champ's Len; Put and Drop of a root, or none. -/
namespace Go.Proofs.Ytclcgelbcbnekaa
open Go.RowKit Go.QS Go.QS.Nk
set_option linter.unusedVariables false
variable [Zero (Nat → Prop)]
set_option linter.unusedSectionVars false

theorem sumL_take_le (Ls : List (List Pr)) (n : Nat) : sumL (Ls.take n) ≤ sumL Ls := by
  have := sumL_append (Ls.take n) (Ls.drop n)
  rw [List.take_append_drop] at this
  omega
set_option maxRecDepth 100000 in
set_option maxHeartbeats 1000000 in
theorem len_go (h : Hs) (f : Nat) (w : World) (g : Nat) (ps : List Pr) (ks : List Nat) (Ls : List (List Pr)) (d : Nat) (hS : Says w g d ps ks) (hk : ks.length = Ls.length) (h9 : ps.length + sumL Ls ≤ 400000000) (hk9 : ks.length ≤ 32)
    (ih : ∀ (j : Nat) k x, ks[j]? = some k → Ls[j]? = some x → ∀ W, Ext w W → Calls Try.prog 94 #[ptr k] W fun e w' => e = .returned (.int .i64 x.length) ∧ Ext W w') :
    Calls Try.prog 94 #[ptr g] w fun e w' => e = .returned (.int .i64 ((ps.length + sumL Ls : Nat) : Int)) ∧ Ext w w' := by
  have HS := Lib.hid hS
  have HP : Hid (∀ W, Ext w W → Calls Try.prog 38 #[ptr g] W fun e w' => ∃ v', e = .returned v' ∧ w'.ownsRow W.heap.size NP 2 v' ps.length (flat ps) ∧ Ext W w') := Lib.hid (fun W f => by
    obtain ⟨n, bk, ow, pv, kv, nd, _⟩ := says_ext HS.out f
    exact npairs_c W g pv ps nd.node.cells.2.2.1 nd.pairs (by omega))
  have HKC : Hid (∀ W, Ext w W → Calls Try.prog 39 #[ptr g] W fun e w' => ∃ v', e = .returned v' ∧ w'.ownsRow W.heap.size NK 1 v' ks.length (ptrs ks) ∧ Ext W w') := Lib.hid (fun W f => by
    obtain ⟨n, bk, ow, pv, kv, nd, _⟩ := says_ext HS.out f
    exact nkids_c W g kv ks nd.node.cells.2.2.2.1 nd.kids (by omega))
  have HK := Lib.hid hk
  have IH := Lib.hid ih
  obtain ⟨m, hm⟩ : ∃ m, m = ks.length := ⟨_, rfl⟩
  obtain ⟨n, hn⟩ : ∃ n, n = ps.length := ⟨_, rfl⟩
  have hm9 : m ≤ 32 := by omega
  have hn9 : n + sumL Ls ≤ 400000000 := by omega
  rw [← hn]
  have HM := Lib.hid (And.intro hm hn)
  clear hS hk ih hm hn h9 hk9
  go_enter Try.func94, Try.ntmps94
  repeat' (first | go_at_call 38 | go_skip | go_guarded | go_step)
  refine (HP.out w (Ext.refl w)).mono ?_
  rintro e w1 ⟨v1, rfl, o1, f1⟩
  obtain ⟨A1, c1, rfl, _, hn1, hc1, _⟩ := PS.of_own o1
  rw [← HM.out.2] at hn1 ⊢
  have H1 := Lib.hid f1
  clear f1 o1
  go_simp
  repeat' (first | go_at_call 39 | go_skip | go_guarded | go_step)
  refine (HKC.out w1 H1.out).mono ?_
  rintro e w2 ⟨v2, rfl, o2, f2⟩
  obtain ⟨A2, c2, rfl, _, hn2, hc2, hs2⟩ := Sl.of_own o2
  rw [← HM.out.1] at hn2 ⊢
  have H2 := Lib.hid (And.intro (H1.out.trans f2) hs2)
  clear f2 o2 hs2
  go_simp
  repeat' (first | go_skip | go_guarded | go_step)
  go_loopg [3, 12] m (fun gk v3 v12 wr => ∃ j : Nat, v12 = .int .i64 j ∧ v3 = .int .i64 ((n + sumL (Ls.take j) : Nat) : Int) ∧ j ≤ m ∧ m - j ≤ gk ∧ Hid (Ext w2 wr))
  case atStart => exact ⟨0, rfl, by simp [sumL], Nat.zero_le _, Nat.le_refl _, Lib.hid (Ext.refl _)⟩
  case round =>
    obtain ⟨j, rfl, rfl, hjm, hgk, HE⟩ := hrel
    have hle := sumL_take_le Ls j
    rcases Nat.lt_or_ge j m with hlt | hge
    · have d1 : decide (j < m) = true := by simp [hlt]
      have hi1 : (j : Int) < (m : Int) := by omega
      obtain ⟨k, hkk⟩ := get_of_lt ks (show j < ks.length by have := HM.out.1; omega)
      obtain ⟨x, hx⟩ := get_of_lt Ls (show j < Ls.length by have := HM.out.1; have := HK.out; omega)
      obtain ⟨b, o, rfl, hcl⟩ := H2.out.2.below HE.out (fun e => by have := ptrs_get hkk; rw [e] at this; simp at this)
      have hc := hcl _ _ (ptrs_get hkk)
      have hst : sumL (Ls.take (j + 1)) = sumL (Ls.take j) + x.length := by
        rw [take_snoc hx, sumL_append]; simp [sumL]
      have hle2 := sumL_take_le Ls (j + 1)
      obtain ⟨y, hy⟩ : ∃ y, y = n + sumL (Ls.take j) := ⟨_, rfl⟩
      have hyx : n + sumL (Ls.take (j + 1)) = y + x.length := by omega
      have hyb : y + x.length ≤ 400000000 := by omega
      have HIH := Lib.hid (IH.out j k x hkk hx wr (H2.out.1.trans HE.out))
      have HY := Lib.hid (And.intro hyx hx)
      rw [← hy]
      clear hst hle2 hcl hy hyx hle hkk
      repeat' (first | go_at_call 94 | go_skip | go_guarded | go_step)
      refine HIH.out.mono ?_
      rintro e w3 ⟨rfl, f3⟩
      have H3 := Lib.hid (HE.out.trans f3)
      clear f3
      go_simp
      repeat' (first | go_skip | go_guarded | go_step)
      go_roundg (m - (j + 1))
      case measure => omega
      case rel => exact ⟨j + 1, by go_num, by rw [HY.out.1]; go_num, by omega, Nat.le_refl _, H3⟩
    · obtain rfl : j = m := by omega
      have d1 : decide (j < j) = false := by simp
      have he : Ls.take j = Ls := List.take_of_length_le (by have := HM.out.1; have := HK.out; omega)
      rw [he]
      repeat' (first | go_skip | go_guarded | go_step)
      go_ret
      exact ⟨rfl, H2.out.1.trans HE.out⟩
theorem sumL_mem {Ls : List (List Pr)} {j : Nat} {x : List Pr} (h : Ls[j]? = some x) : x.length ≤ sumL Ls := by
  have h1 := sumL_take_le Ls (j + 1)
  rw [take_snoc h, sumL_append] at h1
  simp only [sumL] at h1
  omega
theorem lenk_c (h : Hs) : ∀ (f : Nat) (w : World) (g : Nat) (l : List Pr), TR ND h.hash w f g l → l.length ≤ 400000000 → Calls Try.prog 94 #[ptr g] w fun e w' => e = .returned (.int .i64 l.length) ∧ Ext w w'
  | 0, w, g, l, hT, h9 => by
    obtain ⟨ow, pv, kv, nd⟩ := hT
    have := len_go h 0 w g l [] [] 0 ⟨0, true, ow, pv, kv, nd, by decide⟩ rfl (by simpa [sumL] using h9) (by simp) (fun j k x h => by simp at h)
    simpa [sumL] using this
  | f + 1, w, g, l, hT, h9 => by
    obtain ⟨sl, hN, hs⟩ := hT
    obtain ⟨Ls, hk, hl⟩ := TR.sum hN hs
    have hz := in_sizes hN
    have h32 := hN.1
    have hkl := kdsOf_len sl
    obtain ⟨h0, ow, pv, kv, nd⟩ := id hN
    have := len_go h f w g _ _ Ls _ ⟨_, false, ow, pv, kv, nd, hz.2⟩ hk.len (by omega) (by omega) (fun j k x h1 h2 W hW => lenk_c h f W k x (TR.ext hW f (hk.ok j k x h1 h2).2) (by have := sumL_mem h2; omega))
    rw [hl] at this
    exact this
end Go.Proofs.Ytclcgelbcbnekaa
/- Contracts: champ's Put and Drop of a root, or none. -/
namespace Go.Proofs.Ytclcgelbcbnekaa
open Go.RowKit Go.QS Go.QS.Nk
set_option linter.unusedVariables false
variable [Zero (Nat → Prop)]
set_option linter.unusedSectionVars false

abbrev HT : TypeId := 92
def HsAt (w : World) (g : Nat) (h : Hs) : Prop := w.heap[g]? = some (.cells #[.int .u64 h.k0, .int .u64 h.k1, .int .u64 h.mask] HT (0, 0))
theorem HsAt.ext {w w' : World} {g : Nat} {h : Hs} (H : HsAt w g h) (f : Ext w w') : HsAt w' g h := (f.block g (heap_lt H)).trans H
theorem HsAt.cells {w : World} {g : Nat} {h : Hs} (H : HsAt w g h) : w.cell? ⟨g, 0, none⟩ = some (.int .u64 h.k0) ∧ w.cell? ⟨g, 1, none⟩ = some (.int .u64 h.k1) ∧ w.cell? ⟨g, 2, none⟩ = some (.int .u64 h.mask) := by
  unfold HsAt at H
  simp [World.cell?, H]
theorem boxesH (w : World) (h : Hs) (p : Pr) {a b : Nat} (ha : a = w.heap.size) (hb : b = a + 1) : (HsAt ((w.alloc (.cells #[.int .u64 h.k0, .int .u64 h.k1, .int .u64 h.mask] HT)).alloc (.cells #[str p.1, str p.2] NP)) a h ∧ PrAt ((w.alloc (.cells #[.int .u64 h.k0, .int .u64 h.k1, .int .u64 h.mask] HT)).alloc (.cells #[str p.1, str p.2] NP)) b p) ∧ Ext w ((w.alloc (.cells #[.int .u64 h.k0, .int .u64 h.k1, .int .u64 h.mask] HT)).alloc (.cells #[str p.1, str p.2] NP)) := by
  refine ⟨⟨?_, ?_⟩, ((Ext.refl w).alloc (Nat.le_refl _) _).alloc (by simp) _⟩
  · rw [ha]; exact HsAt.ext (heap_new w _) ((Ext.refl _).alloc (Nat.le_refl _) _)
  · have := PrAt.new (w.alloc (.cells #[.int .u64 h.k0, .int .u64 h.k1, .int .u64 h.mask] HT)) p
    rw [show b = (w.alloc (.cells #[.int .u64 h.k0, .int .u64 h.k1, .int .u64 h.mask] HT)).heap.size by rw [hb, ha]; simp]
    exact this
theorem zfacts {w : World} {g : Nat} {a0 a1 a2 a3 a4 a5 : Value} {t : TypeId} (h : w.heap[g]? = some (.cells #[a0, a1, a2, a3, a4, a5] t (0, 0))) : w.cell? ⟨g, 0, none⟩ = some a0 ∧ w.cell? ⟨g, 1, none⟩ = some a1 ∧ w.cell? ⟨g, 2, none⟩ = some a2 ∧ w.cell? ⟨g, 3, none⟩ = some a3 ∧ w.cell? ⟨g, 4, none⟩ = some a4 ∧ w.cell? ⟨g, 5, none⟩ = some a5 ∧ (∀ j, w.frozen? ⟨g, j, none⟩ = false) := by
  simp [World.cell?, World.frozen?, h]
theorem six_ext {w x1 : World} {u0 u1 u2 u3 u4 u5 : Value} (h : Ext w x1) {o : Obj} (_hb : x1.heap[w.heap.size]? = some o) : Ext w ((((((x1.setCell ⟨w.heap.size, 0, none⟩ u0).setCell ⟨w.heap.size, 1, none⟩ u1).setCell ⟨w.heap.size, 2, none⟩ u2).setCell ⟨w.heap.size, 3, none⟩ u3).setCell ⟨w.heap.size, 4, none⟩ u4).setCell ⟨w.heap.size, 5, none⟩ u5) :=
  (((((h.setCell (Nat.le_refl _) _).setCell (Nat.le_refl _) _).setCell (Nat.le_refl _) _).setCell (Nat.le_refl _) _).setCell (Nat.le_refl _) _).setCell (Nat.le_refl _) _
theorem s5 {w : World} {a b : Nat} {h : Hs} {p : Pr} (H : HsAt w a h ∧ PrAt w b p) : w.cell? ⟨a, 0, none⟩ = some (.int .u64 h.k0) ∧ w.cell? ⟨a, 1, none⟩ = some (.int .u64 h.k1) ∧ w.cell? ⟨a, 2, none⟩ = some (.int .u64 h.mask) ∧ w.cell? ⟨b, 0, none⟩ = some (str p.1) := by
  obtain ⟨h0, h1, h2⟩ := H.1.cells
  exact ⟨h0, h1, h2, H.2.cells.1⟩
theorem s8 {w : World} {c b : Nat} {h : Hs} {p : Pr} {k : List UInt8} {x : Nat} (H : WkAt w c h k x ∧ PrAt w b p) : w.cell? ⟨c, 0, none⟩ = some (.int .u64 h.k0) ∧ w.cell? ⟨c, 1, none⟩ = some (.int .u64 h.k1) ∧ w.cell? ⟨c, 2, none⟩ = some (.int .u64 h.mask) ∧ w.cell? ⟨c, 3, none⟩ = some nil0 ∧ w.cell? ⟨c, 4, none⟩ = some (str k) ∧ w.cell? ⟨c, 5, none⟩ = some (.int .u64 x) ∧ w.cell? ⟨b, 0, none⟩ = some (str p.1) ∧ w.cell? ⟨b, 1, none⟩ = some (str p.2) := by
  obtain ⟨h0, h1, h2, h3, h4, h5⟩ := H.1.cells
  exact ⟨h0, h1, h2, h3, h4, h5, H.2.cells.1, H.2.cells.2⟩
theorem sx {w w' : World} {a b : Nat} {h : Hs} {p : Pr} (H : HsAt w a h ∧ PrAt w b p) (f : Ext w w') : HsAt w' a h ∧ PrAt w' b p := ⟨H.1.ext f, H.2.ext f⟩

set_option maxRecDepth 100000 in
set_option maxHeartbeats 400000 in
theorem cput_c (h : Hs) (hk : h.Ok) (w : World) (v : Value) (l : List Pr) (p : Pr) (hR : Rot h w v l) (hr : Rise l) (h9 : l.length ≤ 400000000) (hq : ∀ q ∈ l, q.1.length ≤ 1000000) (hp : p.1.length ≤ 1000000) :
    Calls Try.prog 46 #[hsV h, nil0, v, prV p] w fun e w' => ∃ g', e = .returned (.tuple #[ptr g', .bool (!hasK l p.1)]) ∧ TR ND h.hash w' 13 g' (rput l p) ∧ Ext w w' ∧ ∀ g, v = ptr g → p ∈ l → g' = g := by
  obtain ⟨x, hx⟩ : ∃ x, x = h.hash p.1 := ⟨_, rfl⟩
  have HH0 := fun W => hash_c W h p.1 hk (by omega)
  have HP0 := fun W g (hT : TR ND h.hash W 13 g l) => putk_c h hk 13 W g l p 0 rfl hT hr h9 hq hp
  unfold PutOk at HP0
  rw [← hx] at HH0 HP0
  have HH := Lib.hid HH0
  have HP := Lib.hid HP0
  have HS := Lib.hid hR
  obtain ⟨th, hth⟩ : ∃ th, th = !hasK l p.1 := ⟨_, rfl⟩
  rw [← hth] at HP ⊢
  clear HH0 HP0 hx hth hR hr hq
  obtain ⟨a, ha⟩ : ∃ a, a = w.heap.size := ⟨_, rfl⟩
  obtain ⟨b, hb⟩ : ∃ b, b = a + 1 := ⟨_, rfl⟩
  have HAB := Lib.hid (boxesH w h p ha hb)
  go_enter Try.func46, Try.ntmps46
  repeat' (go_not_at_region 1; (first | go_skip | go_guarded | go_step))
  rw [← ha, ← hb]
  clear ha hb
  refine wp_named (fun w' => (HsAt w' a h ∧ PrAt w' b p) ∧ Ext w w') HAB.out ?_
  intro wa HW
  clear HAB
  obtain ⟨h0, h1, h2, p0⟩ := s5 HW.out.1
  have cutok : True := trivial
  go_cut [10] (fun v10 wx => Hid (∃ c, v10 = ptr c ∧ WkAt wx c h p.1 x ∧ PrAt wx b p ∧ Ext w wx))
  case first =>
    refine wp_region_noPanic ?_
    refine wp_region_T (n := 10) (S := (fun w' : World => w'.cell? ⟨a, 0, none⟩ = some (.int .u64 h.k0) ∧ w'.cell? ⟨a, 1, none⟩ = some (.int .u64 h.k1) ∧ w'.cell? ⟨a, 2, none⟩ = some (.int .u64 h.mask) ∧ w'.cell? ⟨b, 0, none⟩ = some (str p.1))) (by kernel_rfl) ?_
    change wpAnyT _ _ _ _ _ _ 11 _ _ wa.drew
    have hH : (fun w' : World => w'.cell? ⟨a, 0, none⟩ = some (.int .u64 h.k0) ∧ w'.cell? ⟨a, 1, none⟩ = some (.int .u64 h.k1) ∧ w'.cell? ⟨a, 2, none⟩ = some (.int .u64 h.mask) ∧ w'.cell? ⟨b, 0, none⟩ = some (str p.1)) wa.drew := s5 (sx HW.out.1 (ext_drew (Ext.refl wa)))
    refine wpAnyT_take (i := 0) (v := ?_) rfl (by kernel_rfl) (by kernel_rfl) (by kernel_rfl) (by kernel_rfl) (fun _ _ _ h => h) (Or.inl ⟨by rfl, ?_⟩) hH ?_
    rotate_left
    · (intro w hSw; (try dsimp only at hSw); obtain ⟨s0, s1, s2, s3⟩ := hSw; go_simp; try with_reducible rfl)
    try simp only [Act.put, List.setIfInBounds_toArray, List.set_cons_zero, List.set_cons_succ]
    refine wpAnyT_take (i := 1) (v := ?_) rfl (by kernel_rfl) (by kernel_rfl) (by kernel_rfl) (by kernel_rfl) (fun _ _ _ h => h) (Or.inl ⟨by rfl, ?_⟩) hH ?_
    rotate_left
    · (intro w hSw; (try dsimp only at hSw); obtain ⟨s0, s1, s2, s3⟩ := hSw; go_simp; try with_reducible rfl)
    try simp only [Act.put, List.setIfInBounds_toArray, List.set_cons_zero, List.set_cons_succ]
    refine wpAnyT_take (i := 2) (v := ?_) rfl (by kernel_rfl) (by kernel_rfl) (by kernel_rfl) (by kernel_rfl) (fun _ _ _ h => h) (Or.inl ⟨by rfl, ?_⟩) hH ?_
    rotate_left
    · (intro w hSw; (try dsimp only at hSw); obtain ⟨s0, s1, s2, s3⟩ := hSw; go_simp; try with_reducible rfl)
    try simp only [Act.put, List.setIfInBounds_toArray, List.set_cons_zero, List.set_cons_succ]
    refine wpAnyT_take (i := 3) (v := ?_) rfl (by kernel_rfl) (by kernel_rfl) (by kernel_rfl) (by kernel_rfl) (fun _ _ _ h => h) (Or.inl ⟨by rfl, ?_⟩) hH ?_
    rotate_left
    · (intro w hSw; (try dsimp only at hSw); obtain ⟨s0, s1, s2, s3⟩ := hSw; go_simp; try with_reducible rfl)
    try simp only [Act.put, List.setIfInBounds_toArray, List.set_cons_zero, List.set_cons_succ]
    refine wpAnyT_take (i := 4) (v := ?_) rfl (by kernel_rfl) (by kernel_rfl) (by kernel_rfl) (by kernel_rfl) (fun _ _ _ h => h) (Or.inl ⟨by rfl, ?_⟩) hH ?_
    rotate_left
    · (intro w hSw; (try dsimp only at hSw); obtain ⟨s0, s1, s2, s3⟩ := hSw; go_simp; try with_reducible rfl)
    try simp only [Act.put, List.setIfInBounds_toArray, List.set_cons_zero, List.set_cons_succ]
    refine wpAnyT_take (i := 5) (v := ?_) rfl (by kernel_rfl) (by kernel_rfl) (by kernel_rfl) (by kernel_rfl) (fun _ _ _ h => h) (Or.inl ⟨by rfl, ?_⟩) hH ?_
    rotate_left
    · (intro w hSw; (try dsimp only at hSw); obtain ⟨s0, s1, s2, s3⟩ := hSw; go_simp; try with_reducible rfl)
    try simp only [Act.put, List.setIfInBounds_toArray, List.set_cons_zero, List.set_cons_succ]
    refine wpAnyT_take (i := 6) (v := ?_) rfl (by kernel_rfl) (by kernel_rfl) (by kernel_rfl) (by kernel_rfl) (fun _ _ _ h => h) (Or.inl ⟨by rfl, ?_⟩) hH ?_
    rotate_left
    · (intro w hSw; (try dsimp only at hSw); obtain ⟨s0, s1, s2, s3⟩ := hSw; go_simp; try with_reducible rfl)
    try simp only [Act.put, List.setIfInBounds_toArray, List.set_cons_zero, List.set_cons_succ]
    refine wpAnyT_all (rs := [7, 9]) (by kernel_rfl) (by simp) ?_
    intro i9 hi9
    simp only [List.mem_cons, List.not_mem_nil, or_false] at hi9
    rcases hi9 with rfl | rfl
    · refine wpOp_goK rfl rfl (fun K9 hK9 => ?_)
      go_simp
      refine (HH.out _).mono ?_
      rintro e x1 ⟨rfl, f1⟩
      have k1 : Hid (Ext wa x1) := Lib.hid (Ext.trans (ext_drew (Ext.refl wa)) f1)
      clear f1
      go_simp
      refine hK9.out _ _ ⟨.inr (s5 (sx HW.out.1 k1.out)), ?_⟩
      clear hK9 K9 hH
      have hH : (fun w' : World => w'.cell? ⟨a, 0, none⟩ = some (.int .u64 h.k0) ∧ w'.cell? ⟨a, 1, none⟩ = some (.int .u64 h.k1) ∧ w'.cell? ⟨a, 2, none⟩ = some (.int .u64 h.mask) ∧ w'.cell? ⟨b, 0, none⟩ = some (str p.1)) x1 := s5 (sx HW.out.1 k1.out)
      refine wpAnyT_take (i := 8) (v := ?_) rfl (by kernel_rfl) (by kernel_rfl) (by kernel_rfl) (by kernel_rfl) (fun _ _ _ h => h) (Or.inl ⟨by rfl, ?_⟩) hH ?_
      rotate_left
      · (intro w hSw; (try dsimp only at hSw); obtain ⟨s0, s1, s2, s3⟩ := hSw; go_simp; try with_reducible rfl)
      try simp only [Act.put, List.setIfInBounds_toArray, List.set_cons_zero, List.set_cons_succ]
      refine wpAnyT_all (rs := [9]) (by kernel_rfl) (by simp) ?_
      intro i9 hi9
      obtain rfl := List.mem_singleton.1 hi9
      refine wpOp_goK rfl rfl (fun K9 hK9 => ?_)
      go_simp
      refine hK9.out _ _ ⟨.inr (s5 (sx HW.out.1 (ext_alloc k1.out _))), ?_⟩
      clear hK9 K9 hH
      refine wpAnyT_tail 10 (Nat.le_refl _) rfl (by kernel_rfl) ?_
      simp only [List.drop_succ_cons, List.drop_zero]
      repeat' go_step
      refine NoPanic.normal ?_
      repeat' go_step
      go_meet
      exact Lib.hid ⟨x1.heap.size, rfl, heap_new x1 _, (HW.out.1.2.ext k1.out).ext (ext_alloc (Ext.refl x1) _), ext_alloc (HW.out.2.trans k1.out) _⟩
    · refine wpOp_goK rfl rfl (fun K9 hK9 => ?_)
      go_simp
      refine hK9.out _ _ ⟨.inr (s5 (sx HW.out.1 (ext_alloc (ext_drew (Ext.refl wa)) _))), ?_⟩
      clear hK9 K9 hH
      refine wpAnyT_all (rs := [7]) (by kernel_rfl) (by simp) ?_
      intro i9 hi9
      obtain rfl := List.mem_singleton.1 hi9
      refine wpOp_goK rfl rfl (fun K9 hK9 => ?_)
      go_simp
      refine (HH.out _).mono ?_
      rintro e x1 ⟨rfl, f1⟩
      have k1 : Hid (Ext wa x1) := Lib.hid (Ext.trans (ext_alloc (ext_drew (Ext.refl wa)) _) f1)
      have KB : Hid (x1.heap[wa.heap.size]? = some (.cells #[.int .u64 0, .int .u64 0, .int .u64 0, .pointer none, .string ⟨#[]⟩, .int .u64 0] WK (0, 0))) := Lib.hid ((f1.block _ (by simp)).trans (heap_new wa.drew _))
      obtain ⟨z0, z1, z2, z3, z4, z5, zf⟩ := zfacts KB.out
      clear f1
      go_simp
      refine hK9.out _ _ ⟨.inr (s5 (sx HW.out.1 k1.out)), ?_⟩
      clear hK9 K9
      have hH : (fun w' : World => w'.cell? ⟨a, 0, none⟩ = some (.int .u64 h.k0) ∧ w'.cell? ⟨a, 1, none⟩ = some (.int .u64 h.k1) ∧ w'.cell? ⟨a, 2, none⟩ = some (.int .u64 h.mask) ∧ w'.cell? ⟨b, 0, none⟩ = some (str p.1)) x1 := s5 (sx HW.out.1 k1.out)
      refine wpAnyT_take (i := 8) (v := ?_) rfl (by kernel_rfl) (by kernel_rfl) (by kernel_rfl) (by kernel_rfl) (fun _ _ _ h => h) (Or.inl ⟨by rfl, ?_⟩) hH ?_
      rotate_left
      · (intro w hSw; (try dsimp only at hSw); obtain ⟨s0, s1, s2, s3⟩ := hSw; go_simp; try with_reducible rfl)
      try simp only [Act.put, List.setIfInBounds_toArray, List.set_cons_zero, List.set_cons_succ]
      refine wpAnyT_tail 10 (Nat.le_refl _) rfl (by kernel_rfl) ?_
      simp only [List.drop_succ_cons, List.drop_zero]
      repeat' go_step
      refine NoPanic.normal ?_
      repeat' go_step
      go_meet
      exact Lib.hid ⟨wa.heap.size, rfl, heap_set (heap_set (heap_set (heap_set (heap_set (heap_set KB.out 0 _) 1 _) 2 _) 3 _) 4 _) 5 _, HW.out.1.2.ext (six_ext k1.out KB.out), HW.out.2.trans (six_ext k1.out KB.out)⟩
  case rest =>
  obtain ⟨c, rfl, hC⟩ := hcut.out
  have H2 := Lib.hid hC
  clear hcut hC h0 h1 h2 p0 HW HH
  obtain ⟨h0, h1, h2, h3, h4, h5, p0, p1⟩ := s8 ⟨H2.out.1, H2.out.2.1⟩
  repeat' (go_not_at_region 2; (first | go_skip | go_guarded | go_step))
  go_region_held3 (fun w' => w'.cell? ⟨c, 0, none⟩ = some (.int .u64 h.k0) ∧ w'.cell? ⟨c, 1, none⟩ = some (.int .u64 h.k1) ∧ w'.cell? ⟨c, 2, none⟩ = some (.int .u64 h.mask) ∧ w'.cell? ⟨c, 3, none⟩ = some nil0 ∧ w'.cell? ⟨c, 4, none⟩ = some (str p.1) ∧ w'.cell? ⟨c, 5, none⟩ = some (.int .u64 x) ∧ w'.cell? ⟨b, 0, none⟩ = some (str p.1) ∧ w'.cell? ⟨b, 1, none⟩ = some (str p.2))
    (first | exact s8 ⟨H2.out.1.ext k3.out, H2.out.2.1.ext k3.out⟩ | exact s8 ⟨H2.out.1.ext k2.out, H2.out.2.1.ext k2.out⟩ | exact s8 ⟨H2.out.1.ext (below_drewN (Ext.refl _) 1), H2.out.2.1.ext (below_drewN (Ext.refl _) 1)⟩)
    (first
      | (go_at_call 97; refine (HS.out wc.drew (H2.out.2.2.trans (ext_drew (Ext.refl wc)))).mono ?_; rintro e x2 ⟨g, rfl, f2, R2, S2⟩; have k2 : Hid (Ext wc x2) := Lib.hid (Ext.trans (ext_drew (Ext.refl wc)) f2); have KR := Lib.hid (And.intro R2 S2); clear f2 R2 S2)
      | (go_at_call 96; refine (HP.out x2 g KR.out.1).mono ?_; rintro e x3 ⟨g3, ch, rfl, R3, f3, s3, c3⟩; have k3 : Hid (Ext wc x3) := Lib.hid (Ext.trans k2.out f3); have K3 := Lib.hid (And.intro R3 s3); clear f3 R3 s3 c3))
  repeat' (first | go_skip | go_guarded | go_step)
  go_ret2
  exact ⟨g3, rfl, K3.out.1, H2.out.2.2.trans k3.out, fun g0 e hm => (K3.out.2 hm).trans (KR.out.2 g0 e)⟩


set_option maxRecDepth 100000 in
set_option maxHeartbeats 400000 in
theorem cdrop_c (h : Hs) (hk : h.Ok) (w : World) (v : Value) (l : List Pr) (key : List UInt8) (hR : Rot h w v l) (hr : Rise l) (h9 : l.length ≤ 400000000) (hp : key.length ≤ 1000000) :
    Calls Try.prog 48 #[hsV h, nil0, v, str key] w fun e w' => ∃ g', e = .returned (.tuple #[ptr g', .bool (hasK l key)]) ∧ TR ND h.hash w' 13 g' (rdrop l key) ∧ Ext w w' ∧ ∀ g, v = ptr g → hasK l key = false → g' = g := by
  obtain ⟨x, hx⟩ : ∃ x, x = h.hash key := ⟨_, rfl⟩
  have HH0 := fun W => hash_c W h key hk (by omega)
  have HP0 := fun W g (hT : TR ND h.hash W 13 g l) => dropk_c h hk 13 W g l key 0 rfl hT hr h9 hp
  unfold DropOk at HP0
  rw [← hx] at HH0 HP0
  have HH := Lib.hid HH0
  have HP := Lib.hid HP0
  have HS := Lib.hid hR
  obtain ⟨th, hth⟩ : ∃ th, th = hasK l key := ⟨_, rfl⟩
  rw [← hth] at HP ⊢
  clear HH0 HP0 hx hth hR hr
  obtain ⟨a, ha⟩ : ∃ a, a = w.heap.size := ⟨_, rfl⟩
  have HAB : Hid (HsAt (w.alloc (.cells #[.int .u64 h.k0, .int .u64 h.k1, .int .u64 h.mask] HT)) a h ∧ Ext w (w.alloc (.cells #[.int .u64 h.k0, .int .u64 h.k1, .int .u64 h.mask] HT))) := Lib.hid ⟨by rw [ha]; exact heap_new w _, (Ext.refl w).alloc (Nat.le_refl _) _⟩
  go_enter Try.func48, Try.ntmps48
  repeat' (first | go_at_call 97 | go_skip | go_guarded | go_step)
  rw [← ha]
  clear ha
  refine calls_named (fun w' => HsAt w' a h ∧ Ext w w') HAB.out ?_
  intro wa HW
  clear HAB
  refine (HS.out wa HW.out.2).mono ?_
  rintro e w1 ⟨g, rfl, f1, R1, s1⟩
  have H1 : Hid (HsAt w1 a h ∧ Ext w w1) := Lib.hid ⟨HW.out.1.ext f1, HW.out.2.trans f1⟩
  have KR := Lib.hid (And.intro R1 s1)
  clear f1 R1 s1 HW
  obtain ⟨h0, h1, h2⟩ := H1.out.1.cells
  go_simp
  repeat' (go_not_at_region 2; (first | go_skip | go_guarded | go_step))
  go_region_held3 (fun w' => w'.cell? ⟨a, 0, none⟩ = some (.int .u64 h.k0) ∧ w'.cell? ⟨a, 1, none⟩ = some (.int .u64 h.k1) ∧ w'.cell? ⟨a, 2, none⟩ = some (.int .u64 h.mask))
    (first | exact (H1.out.1.ext k3.out).cells | exact (H1.out.1.ext k2.out).cells | exact (H1.out.1.ext (below_drewN (Ext.refl _) 1)).cells)
    (first
      | (go_at_call 95; refine (HH.out w1.drew).mono ?_; rintro e x2 ⟨rfl, f2⟩; have k2 : Hid (Ext w1 x2) := Lib.hid (Ext.trans (ext_drew (Ext.refl w1)) f2); clear f2)
      | (go_at_call 98; refine (HP.out x2 g (TR.ext k2.out 13 KR.out.1)).mono ?_; rintro e x3 ⟨g3, rfl, R3, f3, s3⟩; have k3 : Hid (Ext w1 x3) := Lib.hid (Ext.trans k2.out f3); have K3 := Lib.hid (And.intro R3 s3); clear f3 R3 s3))
  repeat' (first | go_skip | go_guarded | go_step)
  go_ret2
  exact ⟨g3, rfl, K3.out.1, H1.out.2.trans k3.out, fun g0 e hm => (K3.out.2 hm).trans (KR.out.2 g0 e)⟩
end Go.Proofs.Ytclcgelbcbnekaa
