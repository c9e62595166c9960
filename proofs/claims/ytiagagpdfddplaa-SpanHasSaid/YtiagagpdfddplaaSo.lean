/- Contracts: the document's Has; SpanHas. -/
import Derived.Test.YtiagagpdfddplaaSl
namespace Go.Proofs.Ytiagagpdfddplaa
open Go.RowKit Go.QS
set_option linter.unusedVariables false

set_option maxRecDepth 100000 in
set_option maxHeartbeats 2000000 in
theorem rhas_c (w : World) (s : Sp) (k : List UInt8) (hk : k.length ≤ 9223372036854775807) :
    Calls Try.prog 9 #[str s.f, str s.t, .bool s.o, str k] w fun e w' => e = .returned (.bool (s.has k)) ∧ Ext w w' := by
  obtain ⟨f, t, o⟩ := s
  unfold Sp.has
  have H1 := Lib.hid (fun W => less_c' W k f hk)
  have H2 := Lib.hid (fun W => less_c' W k t hk)
  clear hk
  cases h1 : decide (k < f) with
  | true =>
    rw [h1] at H1
    go_enter Try.func9, Try.ntmps9
    repeat' (first | (go_at_call 17; refine (H1.out _).mono ?_; rintro e w1 ⟨rfl, f1⟩; replace f1 := Lib.hid f1; go_simp) | go_skip | go_guarded | go_step)
    go_ret
    exact ⟨rfl, f1.out⟩
  | false =>
    rw [h1] at H1
    cases o with
    | true =>
      go_enter Try.func9, Try.ntmps9
      repeat' (first | (go_at_call 17; refine (H1.out _).mono ?_; rintro e w1 ⟨rfl, f1⟩; replace f1 := Lib.hid f1; go_simp) | go_skip | go_guarded | go_step)
      go_ret
      exact ⟨rfl, f1.out⟩
    | false =>
      cases h2 : decide (k < t) <;> rw [h2] at H2 <;>
      · go_enter Try.func9, Try.ntmps9
        repeat' (first | go_at_call 17 | go_skip | go_guarded | go_step)
        refine (H1.out _).mono ?_
        rintro e w1 ⟨rfl, f1⟩
        replace f1 := Lib.hid f1
        go_simp
        repeat' (first | go_at_call 17 | go_skip | go_guarded | go_step)
        refine (H2.out _).mono ?_
        rintro e w2 ⟨rfl, f2⟩
        replace f2 := Lib.hid f2
        go_simp
        repeat' (first | go_skip | go_guarded | go_step)
        go_ret
        exact ⟨rfl, Ext.trans f1.out f2.out⟩

theorem keep3 {w w' : World} {g : Nat} {u0 u1 u2 : Value} (f : Ext w w') (h : w.cell? ⟨g, 0, none⟩ = some u0 ∧ w.cell? ⟨g, 1, none⟩ = some u1 ∧ w.cell? ⟨g, 2, none⟩ = some u2) : w'.cell? ⟨g, 0, none⟩ = some u0 ∧ w'.cell? ⟨g, 1, none⟩ = some u1 ∧ w'.cell? ⟨g, 2, none⟩ = some u2 :=
  ⟨(f.cell (World.block_lt_of_cell? w _ h.1)).trans h.1, (f.cell (World.block_lt_of_cell? w _ h.2.1)).trans h.2.1, (f.cell (World.block_lt_of_cell? w _ h.2.2)).trans h.2.2⟩

set_option maxRecDepth 100000 in
set_option maxHeartbeats 2000000 in
theorem spanHas_c (w : World) (s : Sp) (k : List UInt8) : Calls Try.prog 3 #[s.v, str k] w fun e w' => e = .returned (.bool true) ∧ Ext w w' := by
  have HSH := Lib.hid (fun W => short_c W s)
  obtain ⟨z, hz⟩ : ∃ z, z = s.cut := ⟨_, rfl⟩
  rw [← hz] at HSH
  obtain ⟨f, t, o⟩ := s
  obtain ⟨zf, zt, zo⟩ := z
  clear hz
  go_enter Try.func3, Try.ntmps3
  repeat' (first | go_at_call 5 | go_skip | go_guarded | go_step)
  obtain ⟨g1, hg1⟩ : ∃ c, c = w.heap.size := ⟨_, rfl⟩
  refine (awake_c _).mono ?_
  rintro e w1 ⟨rfl, f1⟩
  have b1 := box_ext (heap_new w _) f1
  rw [← hg1] at b1 ⊢
  have hl1 : w.heap.size ≤ g1 := by omega
  have H1 : Hid (Ext w w1 ∧ w1.heap[g1]? = some (.cells #[str f, str t, .bool o] 23 (0, 0))) := Lib.hid ⟨Ext.trans ((Ext.refl w).alloc (Nat.le_refl _) _) f1, b1⟩
  obtain ⟨c0, c1, c2⟩ := box3 b1
  clear f1 b1 hg1
  go_simp
  repeat' (first | go_at_call 6 | go_skip | go_guarded | go_step)
  refine (HSH.out _).mono ?_
  rintro e w2 ⟨rfl, f2⟩
  replace H1 := Lib.hid (And.intro (Ext.trans H1.out.1 f2) (box_ext H1.out.2 f2))
  clear f2 c0 c1 c2
  have hfld := field0
  go_simp
  repeat' (first | go_at_call 7 | go_skip | go_guarded | go_step)
  refine (few1_c _ k).mono ?_
  rintro e w3 ⟨rfl, f3⟩
  replace H1 := Lib.hid (And.intro (Ext.trans H1.out.1 f3) (box_ext H1.out.2 f3))
  obtain ⟨c0, c1, c2⟩ := box3 H1.out.2
  have cf := box_free H1.out.2
  clear f3
  go_simp
  repeat' (go_not_at_region 4; (first | go_skip | go_guarded | go_step))
  obtain ⟨x4, hx4⟩ : ∃ x4, x4 = ((w3.setCell ⟨g1, 0, none⟩ (str zf)).setCell ⟨g1, 1, none⟩ (str zt)).setCell ⟨g1, 2, none⟩ (.bool zo) := ⟨_, rfl⟩
  have H4 : Hid (Ext w x4 ∧ x4.heap[g1]? = some (.cells #[str zf, str zt, .bool zo] 23 (0, 0))) := by
    rw [hx4]
    exact Lib.hid ⟨((H1.out.1.setCell hl1 _).setCell hl1 _).setCell hl1 _, heap_set (heap_set (heap_set H1.out.2 0 _) 1 _) 2 _⟩
  have hx4' := hx4.symm
  rw [show ((w3.setCell ⟨g1, 0, none⟩ (Value.string (bs zf))).setCell ⟨g1, 1, none⟩ (Value.string (bs zt))).setCell ⟨g1, 2, none⟩ (Value.bool zo) = x4 from hx4']
  clear hx4 hx4' c0 c1 c2 cf
  have hb := Lib.hid (box3 H4.out.2)
  obtain ⟨c0, c1, c2⟩ := hb.out
  have hkl : (k.take 40).length ≤ 9223372036854775807 := by simp; omega
  go_region_held3 (fun w' => w'.cell? ⟨g1, 0, none⟩ = some (str zf) ∧ w'.cell? ⟨g1, 1, none⟩ = some (str zt) ∧ w'.cell? ⟨g1, 2, none⟩ = some (.bool zo))
    (first | exact keep3 k2.out hb.out | exact keep3 k1.out hb.out | exact keep3 (below_drewN (Ext.refl _) 1) hb.out)
    (first
      | (go_at_call 8; refine (shas_c _ ⟨zf, zt, zo⟩ (k.take 40)).mono ?_; rintro e x5 ⟨rfl, f5⟩; have k1 : Hid (Ext x4 x5) := Lib.hid (Ext.trans (below_drewN (Ext.refl _) 1) f5))
      | (go_at_call 9; refine (rhas_c _ ⟨zf, zt, zo⟩ (k.take 40) hkl).mono ?_; rintro e x6 ⟨rfl, f6⟩; have k2 : Hid (Ext x4 x6) := Lib.hid (Ext.trans k1.out f6)))
  repeat' go_step
  go_ret
  refine ⟨?_, Ext.trans H4.out.1 k2.out⟩
  simp
end Go.Proofs.Ytiagagpdfddplaa
