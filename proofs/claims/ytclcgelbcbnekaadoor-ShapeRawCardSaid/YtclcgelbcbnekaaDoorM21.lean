/- Texts joined. -/
import Derived.Test.YtclcgelbcbnekaaDoorM20
import Derived.Test.YtclcgelbcbnekaaDoorCi
import Derived.Test.YtclcgelbcbnekaaDoorCn
import Derived.Test.YtclcgelbcbnekaaDoorCj
import Derived.Test.YtclcgelbcbnekaaDoorM12
set_option linter.unusedVariables false
set_option linter.unusedSimpArgs false
/- Contracts: champ's drop, case by case. -/
namespace Go.Proofs.YtclcgelbcbnekaaDoor
open Go.RowKit Go.QS Go.QS.Nk
set_option linter.unusedVariables false
variable [Zero (Nat → Prop)]
set_option linter.unusedSectionVars false

theorem boxes1 (w : World) (h : Hs) (k : List UInt8) (x : Nat) {a : Nat} (ha : a = w.heap.size) : WkAt (w.alloc (.cells #[.int .u64 h.k0, .int .u64 h.k1, .int .u64 h.mask, nil0, str k, .int .u64 x] WK)) a h k x ∧ Ext w (w.alloc (.cells #[.int .u64 h.k0, .int .u64 h.k1, .int .u64 h.mask, nil0, str k, .int .u64 x] WK)) := by
  refine ⟨?_, (Ext.refl w).alloc (Nat.le_refl _) _⟩
  rw [ha]; exact WkAt.new w h k x
theorem rdrop_len {l : List Pr} (h : Rise l) (k : List UInt8) : l.length ≤ (rdrop l k).length + 1 := by
  cases hb : hasK l k with
  | false => rw [rdrop_self hb]; omega
  | true =>
    rw [rdrop_cut h hb]
    have := fndI_le l k
    simp only [List.length_append, List.length_take, List.length_drop]
    omega
theorem slot_drop {H : List UInt8 → Nat} {lv : Nat} {l : List Pr} {k : List UInt8} {q : Pr} {i : Nat} (hi : i = chk (H k) lv) (h1 : Go.QS.part H lv i l = [q]) : (hasK l k = true ↔ q.1 = k) := by
  rw [← part_has (H := H) (lv := lv), ← hi, h1]; simp [hasK]

end Go.Proofs.YtclcgelbcbnekaaDoor
/- Contract: champ's drop. -/
namespace Go.Proofs.YtclcgelbcbnekaaDoor
open Go.RowKit Go.QS Go.QS.Nk
set_option linter.unusedVariables false
variable [Zero (Nat → Prop)]
set_option linter.unusedSectionVars false

end Go.Proofs.YtclcgelbcbnekaaDoor
/- Contracts: champ's Len; Put and Drop of a root, or none. -/
namespace Go.Proofs.YtclcgelbcbnekaaDoor
open Go.RowKit Go.QS Go.QS.Nk
set_option linter.unusedVariables false
variable [Zero (Nat → Prop)]
set_option linter.unusedSectionVars false

theorem sumL_take_le (Ls : List (List Pr)) (n : Nat) : sumL (Ls.take n) ≤ sumL Ls := by
  have := sumL_append (Ls.take n) (Ls.drop n)
  rw [List.take_append_drop] at this
  omega
theorem sumL_mem {Ls : List (List Pr)} {j : Nat} {x : List Pr} (h : Ls[j]? = some x) : x.length ≤ sumL Ls := by
  have h1 := sumL_take_le Ls (j + 1)
  rw [take_snoc h, sumL_append] at h1
  simp only [sumL] at h1
  omega
end Go.Proofs.YtclcgelbcbnekaaDoor
/- Contracts: champ's Put and Drop of a root, or none. -/
namespace Go.Proofs.YtclcgelbcbnekaaDoor
open Go.RowKit Go.QS Go.QS.Nk
set_option linter.unusedVariables false
variable [Zero (Nat → Prop)]
set_option linter.unusedSectionVars false

abbrev HT : TypeId := 26
def HsAt (w : World) (g : Nat) (h : Hs) : Prop := w.heap[g]? = some (.cells #[.int .u64 h.k0, .int .u64 h.k1, .int .u64 h.mask] HT (0, 0))
theorem HsAt.ext {w w' : World} {g : Nat} {h : Hs} (H : HsAt w g h) (f : Ext w w') : HsAt w' g h := (f.block g (heap_lt H)).trans H
theorem HsAt.cells {w : World} {g : Nat} {h : Hs} (H : HsAt w g h) : w.cell? ⟨g, 0, none⟩ = some (.int .u64 h.k0) ∧ w.cell? ⟨g, 1, none⟩ = some (.int .u64 h.k1) ∧ w.cell? ⟨g, 2, none⟩ = some (.int .u64 h.mask) := by
  unfold HsAt at H
  simp [World.cell?, H]
theorem boxesH (w : World) (h : Hs) (p : Pr) {a b : Nat} (ha : a = w.heap.size) (hb : b = a + 1) : (HsAt ((w.alloc (.cells #[.int .u64 h.k0, .int .u64 h.k1, .int .u64 h.mask] HT)).alloc (.cells #[str p.1, str p.2] NP)) a h ∧ PrAt ((w.alloc (.cells #[.int .u64 h.k0, .int .u64 h.k1, .int .u64 h.mask] HT)).alloc (.cells #[str p.1, str p.2] NP)) b p) ∧ Ext w ((w.alloc (.cells #[.int .u64 h.k0, .int .u64 h.k1, .int .u64 h.mask] HT)).alloc (.cells #[str p.1, str p.2] NP)) := by
  refine ⟨⟨?_, ?_⟩, ((Ext.refl w).alloc (Nat.le_refl _) _).alloc (by simp) _⟩
  · rw [ha]; exact HsAt.ext (heap_new w _) ((Ext.refl _).alloc (Nat.le_refl _) _)
  · have := PrAt.new (w.alloc (.cells #[.int .u64 h.k0, .int .u64 h.k1, .int .u64 h.mask] HT)) p
    rw [show b = (w.alloc (.cells #[.int .u64 h.k0, .int .u64 h.k1, .int .u64 h.mask] HT)).heap.size by rw [hb, ha]; simp]
    exact this
theorem zfacts {w : World} {g : Nat} {a0 a1 a2 a3 a4 a5 : Value} {t : TypeId} (h : w.heap[g]? = some (.cells #[a0, a1, a2, a3, a4, a5] t (0, 0))) : w.cell? ⟨g, 0, none⟩ = some a0 ∧ w.cell? ⟨g, 1, none⟩ = some a1 ∧ w.cell? ⟨g, 2, none⟩ = some a2 ∧ w.cell? ⟨g, 3, none⟩ = some a3 ∧ w.cell? ⟨g, 4, none⟩ = some a4 ∧ w.cell? ⟨g, 5, none⟩ = some a5 ∧ (∀ j, w.frozen? ⟨g, j, none⟩ = false) := by
  simp [World.cell?, World.frozen?, h]
theorem six_ext {w x1 : World} {u0 u1 u2 u3 u4 u5 : Value} (h : Ext w x1) {o : Obj} (_hb : x1.heap[w.heap.size]? = some o) : Ext w ((((((x1.setCell ⟨w.heap.size, 0, none⟩ u0).setCell ⟨w.heap.size, 1, none⟩ u1).setCell ⟨w.heap.size, 2, none⟩ u2).setCell ⟨w.heap.size, 3, none⟩ u3).setCell ⟨w.heap.size, 4, none⟩ u4).setCell ⟨w.heap.size, 5, none⟩ u5) :=
  (((((h.setCell (Nat.le_refl _) _).setCell (Nat.le_refl _) _).setCell (Nat.le_refl _) _).setCell (Nat.le_refl _) _).setCell (Nat.le_refl _) _).setCell (Nat.le_refl _) _
theorem s5 {w : World} {a b : Nat} {h : Hs} {p : Pr} (H : HsAt w a h ∧ PrAt w b p) : w.cell? ⟨a, 0, none⟩ = some (.int .u64 h.k0) ∧ w.cell? ⟨a, 1, none⟩ = some (.int .u64 h.k1) ∧ w.cell? ⟨a, 2, none⟩ = some (.int .u64 h.mask) ∧ w.cell? ⟨b, 0, none⟩ = some (str p.1) := by
  obtain ⟨h0, h1, h2⟩ := H.1.cells
  exact ⟨h0, h1, h2, H.2.cells.1⟩
theorem s8 {w : World} {c b : Nat} {h : Hs} {p : Pr} {k : List UInt8} {x : Nat} (H : WkAt w c h k x ∧ PrAt w b p) : w.cell? ⟨c, 0, none⟩ = some (.int .u64 h.k0) ∧ w.cell? ⟨c, 1, none⟩ = some (.int .u64 h.k1) ∧ w.cell? ⟨c, 2, none⟩ = some (.int .u64 h.mask) ∧ w.cell? ⟨c, 3, none⟩ = some nil0 ∧ w.cell? ⟨c, 4, none⟩ = some (str k) ∧ w.cell? ⟨c, 5, none⟩ = some (.int .u64 x) ∧ w.cell? ⟨b, 0, none⟩ = some (str p.1) ∧ w.cell? ⟨b, 1, none⟩ = some (str p.2) := by
  obtain ⟨h0, h1, h2, h3, h4, h5⟩ := H.1.cells
  exact ⟨h0, h1, h2, h3, h4, h5, H.2.cells.1, H.2.cells.2⟩
theorem sx {w w' : World} {a b : Nat} {h : Hs} {p : Pr} (H : HsAt w a h ∧ PrAt w b p) (f : Ext w w') : HsAt w' a h ∧ PrAt w' b p := ⟨H.1.ext f, H.2.ext f⟩

set_option maxRecDepth 100000 in
set_option maxHeartbeats 400000 in
theorem cput_c (h : Hs) (hk : h.Ok) (w : World) (v : Value) (l : List Pr) (p : Pr) (hR : Rot h w v l) (hr : Rise l) (h9 : l.length ≤ 400000000) (hq : ∀ q ∈ l, q.1.length ≤ 1000000) (hp : p.1.length ≤ 1000000) :
    Calls Tryd.prog 24 #[hsV h, nil0, v, prV p] w fun e w' => ∃ g', e = .returned (.tuple #[ptr g', .bool (!hasK l p.1)]) ∧ TR ND h.hash w' 13 g' (rput l p) ∧ Ext w w' ∧ ∀ g, v = ptr g → p ∈ l → g' = g := by
  obtain ⟨x, hx⟩ : ∃ x, x = h.hash p.1 := ⟨_, rfl⟩
  have HH0 := fun W => hash_c W h p.1 hk (by omega)
  have HP0 := fun W g (hT : TR ND h.hash W 13 g l) => putk_c h hk 13 W g l p 0 rfl hT hr h9 hq hp
  unfold PutOk at HP0
  rw [← hx] at HH0 HP0
  have HH := Lib.hid HH0
  have HP := Lib.hid HP0
  have HS := Lib.hid hR
  obtain ⟨th, hth⟩ : ∃ th, th = !hasK l p.1 := ⟨_, rfl⟩
  rw [← hth] at HP ⊢
  clear HH0 HP0 hx hth hR hr hq
  obtain ⟨a, ha⟩ : ∃ a, a = w.heap.size := ⟨_, rfl⟩
  obtain ⟨b, hb⟩ : ∃ b, b = a + 1 := ⟨_, rfl⟩
  have HAB := Lib.hid (boxesH w h p ha hb)
  go_enter Tryd.func24, Tryd.ntmps24
  repeat' (go_not_at_region 1; (first | go_skip | go_guarded | go_step))
  rw [← ha, ← hb]
  clear ha hb
  refine wp_named (fun w' => (HsAt w' a h ∧ PrAt w' b p) ∧ Ext w w') HAB.out ?_
  intro wa HW
  clear HAB
  obtain ⟨h0, h1, h2, p0⟩ := s5 HW.out.1
  have cutok : True := trivial
  go_cut [10] (fun v10 wx => Hid (∃ c, v10 = ptr c ∧ WkAt wx c h p.1 x ∧ PrAt wx b p ∧ Ext w wx))
  case first =>
    refine wp_region_noPanic ?_
    refine wp_region_T (n := 10) (S := (fun w' : World => w'.cell? ⟨a, 0, none⟩ = some (.int .u64 h.k0) ∧ w'.cell? ⟨a, 1, none⟩ = some (.int .u64 h.k1) ∧ w'.cell? ⟨a, 2, none⟩ = some (.int .u64 h.mask) ∧ w'.cell? ⟨b, 0, none⟩ = some (str p.1))) (by kernel_rfl) ?_
    change wpAnyT _ _ _ _ _ _ 11 _ _ wa.drew
    have hH : (fun w' : World => w'.cell? ⟨a, 0, none⟩ = some (.int .u64 h.k0) ∧ w'.cell? ⟨a, 1, none⟩ = some (.int .u64 h.k1) ∧ w'.cell? ⟨a, 2, none⟩ = some (.int .u64 h.mask) ∧ w'.cell? ⟨b, 0, none⟩ = some (str p.1)) wa.drew := s5 (sx HW.out.1 (ext_drew (Ext.refl wa)))
    refine wpAnyT_take (i := 0) (v := ?_) rfl (by kernel_rfl) (by kernel_rfl) (by kernel_rfl) (by kernel_rfl) (fun _ _ _ h => h) (Or.inl ⟨by rfl, ?_⟩) hH ?_
    rotate_left
    · (intro w hSw; (try dsimp only at hSw); obtain ⟨s0, s1, s2, s3⟩ := hSw; go_simp; try with_reducible rfl)
    try simp only [Act.put, List.setIfInBounds_toArray, List.set_cons_zero, List.set_cons_succ]
    refine wpAnyT_take (i := 1) (v := ?_) rfl (by kernel_rfl) (by kernel_rfl) (by kernel_rfl) (by kernel_rfl) (fun _ _ _ h => h) (Or.inl ⟨by rfl, ?_⟩) hH ?_
    rotate_left
    · (intro w hSw; (try dsimp only at hSw); obtain ⟨s0, s1, s2, s3⟩ := hSw; go_simp; try with_reducible rfl)
    try simp only [Act.put, List.setIfInBounds_toArray, List.set_cons_zero, List.set_cons_succ]
    refine wpAnyT_take (i := 2) (v := ?_) rfl (by kernel_rfl) (by kernel_rfl) (by kernel_rfl) (by kernel_rfl) (fun _ _ _ h => h) (Or.inl ⟨by rfl, ?_⟩) hH ?_
    rotate_left
    · (intro w hSw; (try dsimp only at hSw); obtain ⟨s0, s1, s2, s3⟩ := hSw; go_simp; try with_reducible rfl)
    try simp only [Act.put, List.setIfInBounds_toArray, List.set_cons_zero, List.set_cons_succ]
    refine wpAnyT_take (i := 3) (v := ?_) rfl (by kernel_rfl) (by kernel_rfl) (by kernel_rfl) (by kernel_rfl) (fun _ _ _ h => h) (Or.inl ⟨by rfl, ?_⟩) hH ?_
    rotate_left
    · (intro w hSw; (try dsimp only at hSw); obtain ⟨s0, s1, s2, s3⟩ := hSw; go_simp; try with_reducible rfl)
    try simp only [Act.put, List.setIfInBounds_toArray, List.set_cons_zero, List.set_cons_succ]
    refine wpAnyT_take (i := 4) (v := ?_) rfl (by kernel_rfl) (by kernel_rfl) (by kernel_rfl) (by kernel_rfl) (fun _ _ _ h => h) (Or.inl ⟨by rfl, ?_⟩) hH ?_
    rotate_left
    · (intro w hSw; (try dsimp only at hSw); obtain ⟨s0, s1, s2, s3⟩ := hSw; go_simp; try with_reducible rfl)
    try simp only [Act.put, List.setIfInBounds_toArray, List.set_cons_zero, List.set_cons_succ]
    refine wpAnyT_take (i := 5) (v := ?_) rfl (by kernel_rfl) (by kernel_rfl) (by kernel_rfl) (by kernel_rfl) (fun _ _ _ h => h) (Or.inl ⟨by rfl, ?_⟩) hH ?_
    rotate_left
    · (intro w hSw; (try dsimp only at hSw); obtain ⟨s0, s1, s2, s3⟩ := hSw; go_simp; try with_reducible rfl)
    try simp only [Act.put, List.setIfInBounds_toArray, List.set_cons_zero, List.set_cons_succ]
    refine wpAnyT_take (i := 6) (v := ?_) rfl (by kernel_rfl) (by kernel_rfl) (by kernel_rfl) (by kernel_rfl) (fun _ _ _ h => h) (Or.inl ⟨by rfl, ?_⟩) hH ?_
    rotate_left
    · (intro w hSw; (try dsimp only at hSw); obtain ⟨s0, s1, s2, s3⟩ := hSw; go_simp; try with_reducible rfl)
    try simp only [Act.put, List.setIfInBounds_toArray, List.set_cons_zero, List.set_cons_succ]
    refine wpAnyT_all (rs := [7, 9]) (by kernel_rfl) (by simp) ?_
    intro i9 hi9
    simp only [List.mem_cons, List.not_mem_nil, or_false] at hi9
    rcases hi9 with rfl | rfl
    · refine wpOp_goK rfl rfl (fun K9 hK9 => ?_)
      go_simp
      refine (HH.out _).mono ?_
      rintro e x1 ⟨rfl, f1⟩
      have k1 : Hid (Ext wa x1) := Lib.hid (Ext.trans (ext_drew (Ext.refl wa)) f1)
      clear f1
      go_simp
      refine hK9.out _ _ ⟨.inr (s5 (sx HW.out.1 k1.out)), ?_⟩
      clear hK9 K9 hH
      have hH : (fun w' : World => w'.cell? ⟨a, 0, none⟩ = some (.int .u64 h.k0) ∧ w'.cell? ⟨a, 1, none⟩ = some (.int .u64 h.k1) ∧ w'.cell? ⟨a, 2, none⟩ = some (.int .u64 h.mask) ∧ w'.cell? ⟨b, 0, none⟩ = some (str p.1)) x1 := s5 (sx HW.out.1 k1.out)
      refine wpAnyT_take (i := 8) (v := ?_) rfl (by kernel_rfl) (by kernel_rfl) (by kernel_rfl) (by kernel_rfl) (fun _ _ _ h => h) (Or.inl ⟨by rfl, ?_⟩) hH ?_
      rotate_left
      · (intro w hSw; (try dsimp only at hSw); obtain ⟨s0, s1, s2, s3⟩ := hSw; go_simp; try with_reducible rfl)
      try simp only [Act.put, List.setIfInBounds_toArray, List.set_cons_zero, List.set_cons_succ]
      refine wpAnyT_all (rs := [9]) (by kernel_rfl) (by simp) ?_
      intro i9 hi9
      obtain rfl := List.mem_singleton.1 hi9
      refine wpOp_goK rfl rfl (fun K9 hK9 => ?_)
      go_simp
      refine hK9.out _ _ ⟨.inr (s5 (sx HW.out.1 (ext_alloc k1.out _))), ?_⟩
      clear hK9 K9 hH
      refine wpAnyT_tail 10 (Nat.le_refl _) rfl (by kernel_rfl) ?_
      simp only [List.drop_succ_cons, List.drop_zero]
      repeat' go_step
      refine NoPanic.normal ?_
      repeat' go_step
      go_meet
      exact Lib.hid ⟨x1.heap.size, rfl, heap_new x1 _, (HW.out.1.2.ext k1.out).ext (ext_alloc (Ext.refl x1) _), ext_alloc (HW.out.2.trans k1.out) _⟩
    · refine wpOp_goK rfl rfl (fun K9 hK9 => ?_)
      go_simp
      refine hK9.out _ _ ⟨.inr (s5 (sx HW.out.1 (ext_alloc (ext_drew (Ext.refl wa)) _))), ?_⟩
      clear hK9 K9 hH
      refine wpAnyT_all (rs := [7]) (by kernel_rfl) (by simp) ?_
      intro i9 hi9
      obtain rfl := List.mem_singleton.1 hi9
      refine wpOp_goK rfl rfl (fun K9 hK9 => ?_)
      go_simp
      refine (HH.out _).mono ?_
      rintro e x1 ⟨rfl, f1⟩
      have k1 : Hid (Ext wa x1) := Lib.hid (Ext.trans (ext_alloc (ext_drew (Ext.refl wa)) _) f1)
      have KB : Hid (x1.heap[wa.heap.size]? = some (.cells #[.int .u64 0, .int .u64 0, .int .u64 0, .pointer none, .string ⟨#[]⟩, .int .u64 0] WK (0, 0))) := Lib.hid ((f1.block _ (by simp)).trans (heap_new wa.drew _))
      obtain ⟨z0, z1, z2, z3, z4, z5, zf⟩ := zfacts KB.out
      clear f1
      go_simp
      refine hK9.out _ _ ⟨.inr (s5 (sx HW.out.1 k1.out)), ?_⟩
      clear hK9 K9
      have hH : (fun w' : World => w'.cell? ⟨a, 0, none⟩ = some (.int .u64 h.k0) ∧ w'.cell? ⟨a, 1, none⟩ = some (.int .u64 h.k1) ∧ w'.cell? ⟨a, 2, none⟩ = some (.int .u64 h.mask) ∧ w'.cell? ⟨b, 0, none⟩ = some (str p.1)) x1 := s5 (sx HW.out.1 k1.out)
      refine wpAnyT_take (i := 8) (v := ?_) rfl (by kernel_rfl) (by kernel_rfl) (by kernel_rfl) (by kernel_rfl) (fun _ _ _ h => h) (Or.inl ⟨by rfl, ?_⟩) hH ?_
      rotate_left
      · (intro w hSw; (try dsimp only at hSw); obtain ⟨s0, s1, s2, s3⟩ := hSw; go_simp; try with_reducible rfl)
      try simp only [Act.put, List.setIfInBounds_toArray, List.set_cons_zero, List.set_cons_succ]
      refine wpAnyT_tail 10 (Nat.le_refl _) rfl (by kernel_rfl) ?_
      simp only [List.drop_succ_cons, List.drop_zero]
      repeat' go_step
      refine NoPanic.normal ?_
      repeat' go_step
      go_meet
      exact Lib.hid ⟨wa.heap.size, rfl, heap_set (heap_set (heap_set (heap_set (heap_set (heap_set KB.out 0 _) 1 _) 2 _) 3 _) 4 _) 5 _, HW.out.1.2.ext (six_ext k1.out KB.out), HW.out.2.trans (six_ext k1.out KB.out)⟩
  case rest =>
  obtain ⟨c, rfl, hC⟩ := hcut.out
  have H2 := Lib.hid hC
  clear hcut hC h0 h1 h2 p0 HW HH
  obtain ⟨h0, h1, h2, h3, h4, h5, p0, p1⟩ := s8 ⟨H2.out.1, H2.out.2.1⟩
  repeat' (go_not_at_region 2; (first | go_skip | go_guarded | go_step))
  go_region_held3 (fun w' => w'.cell? ⟨c, 0, none⟩ = some (.int .u64 h.k0) ∧ w'.cell? ⟨c, 1, none⟩ = some (.int .u64 h.k1) ∧ w'.cell? ⟨c, 2, none⟩ = some (.int .u64 h.mask) ∧ w'.cell? ⟨c, 3, none⟩ = some nil0 ∧ w'.cell? ⟨c, 4, none⟩ = some (str p.1) ∧ w'.cell? ⟨c, 5, none⟩ = some (.int .u64 x) ∧ w'.cell? ⟨b, 0, none⟩ = some (str p.1) ∧ w'.cell? ⟨b, 1, none⟩ = some (str p.2))
    (first | exact s8 ⟨H2.out.1.ext k3.out, H2.out.2.1.ext k3.out⟩ | exact s8 ⟨H2.out.1.ext k2.out, H2.out.2.1.ext k2.out⟩ | exact s8 ⟨H2.out.1.ext (below_drewN (Ext.refl _) 1), H2.out.2.1.ext (below_drewN (Ext.refl _) 1)⟩)
    (first
      | (go_at_call 49; refine (HS.out wc.drew (H2.out.2.2.trans (ext_drew (Ext.refl wc)))).mono ?_; rintro e x2 ⟨g, rfl, f2, R2, S2⟩; have k2 : Hid (Ext wc x2) := Lib.hid (Ext.trans (ext_drew (Ext.refl wc)) f2); have KR := Lib.hid (And.intro R2 S2); clear f2 R2 S2)
      | (go_at_call 48; refine (HP.out x2 g KR.out.1).mono ?_; rintro e x3 ⟨g3, ch, rfl, R3, f3, s3, c3⟩; have k3 : Hid (Ext wc x3) := Lib.hid (Ext.trans k2.out f3); have K3 := Lib.hid (And.intro R3 s3); clear f3 R3 s3 c3))
  repeat' (first | go_skip | go_guarded | go_step)
  go_ret2
  exact ⟨g3, rfl, K3.out.1, H2.out.2.2.trans k3.out, fun g0 e hm => (K3.out.2 hm).trans (KR.out.2 g0 e)⟩


end Go.Proofs.YtclcgelbcbnekaaDoor
