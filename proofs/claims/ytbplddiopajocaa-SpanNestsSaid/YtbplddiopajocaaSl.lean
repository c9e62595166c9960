/- Contracts: short; the document's Has; SpanHas. -/
import Derived.Test.YtbplddiopajocaaSk
set_option linter.unusedVariables false
set_option linter.unusedSimpArgs false
namespace Go.Proofs.Ytbplddiopajocaa
open Go.RowKit Go.QS
set_option linter.unusedVariables false

/-- A span of keys that aren't too long. -/
def Sp.cut (s : Sp) : Sp := ⟨s.f.take 40, s.t.take 40, s.o⟩
theorem box3 {w : World} {g : Nat} {a b d : Value} {t : TypeId} {f : Nat × Nat} (h : w.heap[g]? = some (.cells #[a, b, d] t f)) : w.cell? ⟨g, 0, none⟩ = some a ∧ w.cell? ⟨g, 1, none⟩ = some b ∧ w.cell? ⟨g, 2, none⟩ = some d := by
  simp [World.cell?, h]

theorem field0 (a x : Value) (w : World) : (Instr.field 24 (.agg #[a, x]) 0).run Try.prog w = .ok a w := by
  unfold Instr.field
  simp [go_sem, asAgg]

theorem few1_c (w : World) (k : List UInt8) : Calls Try.prog 29 #[.agg #[str k, .string ⟨#[]⟩]] w fun e w' => e = .returned (.agg #[str (k.take 40), .string ⟨#[]⟩]) ∧ Ext w w' := by
  refine (fewp_c w (k, [])).mono ?_
  rintro e w' ⟨rfl, f⟩
  exact ⟨rfl, f⟩

set_option maxRecDepth 100000 in
set_option maxHeartbeats 1000000 in
theorem short_c (w : World) (s : Sp) : Calls Try.prog 20 #[s.v] w fun e w' => e = .returned s.cut.v ∧ Ext w w' := by
  obtain ⟨f, t, o⟩ := s
  go_enter Try.func20, Try.ntmps20
  repeat' (go_not_at_region 1; (first | go_skip | go_guarded | go_step))
  obtain ⟨wa, hwa⟩ : ∃ wa, wa = (w.alloc (.cells #[str f, str t, .bool o] 42)).alloc (.cells #[.string ⟨#[]⟩, .string ⟨#[]⟩, .bool false] 42) := ⟨_, rfl⟩
  have hEa : Ext w wa := by rw [hwa]; exact ((Ext.refl w).alloc (Nat.le_refl _) _).alloc (by simp) _
  obtain ⟨g1, hg1⟩ : ∃ c, c = w.heap.size := ⟨_, rfl⟩
  obtain ⟨g2, hg2⟩ : ∃ c, c = w.heap.size + 1 := ⟨_, rfl⟩
  have hb1 : wa.heap[g1]? = some (.cells #[str f, str t, .bool o] 42 (0, 0)) := by
    rw [hwa, hg1]; exact (Below.heap_alloc (w.alloc _) _ _ (by simp)).trans (heap_new w _)
  have hb2 : wa.heap[g2]? = some (.cells #[.string ⟨#[]⟩, .string ⟨#[]⟩, .bool false] 42 (0, 0)) := by rw [hwa, hg2]; exact heap_alloc2_new _ _ _
  have hne : g2 ≠ g1 := by omega
  rw [← hwa, ← hg2, ← hg1]
  have hl1 : w.heap.size ≤ g1 := by omega
  have hl2 : w.heap.size ≤ g2 := by omega
  have HB : Hid (∀ x, Ext wa x → (x.cell? ⟨g1, 0, none⟩ = some (str f) ∧ x.cell? ⟨g1, 1, none⟩ = some (str t) ∧ x.cell? ⟨g1, 2, none⟩ = some (.bool o)) ∧ ∀ j, x.frozen? ⟨g1, j, none⟩ = false) := Lib.hid fun x hx => ⟨box3 (box_ext hb1 hx), box_free (box_ext hb1 hx)⟩
  have HW : Hid (wa.heap[g1]? = some (.cells #[str f, str t, .bool o] 42 (0, 0)) ∧ wa.heap[g2]? = some (.cells #[.string ⟨#[]⟩, .string ⟨#[]⟩, .bool false] 42 (0, 0)) ∧ Ext w wa) := Lib.hid ⟨hb1, hb2, hEa⟩
  obtain ⟨⟨c0, c1, c2⟩, cf⟩ := HB.out wa (Ext.refl _)
  have hfld := field0
  clear hwa hg1 hg2 hb1 hb2 hEa
  go_region_with (go_at_call 29; refine (few1_c _ _).mono ?_; rintro e y ⟨rfl, fy⟩; have Ey : Ext wa y := (by first | exact Ext.trans (Ext.refl wa).drew fy | exact Ext.trans (by assumption) fy); obtain ⟨⟨cy0, cy1, cy2⟩, cyf⟩ := HB.out y Ey)
  all_goals
    have k1 := box_ext HW.out.1 Ey
    have k2 := box_ext HW.out.2.1 Ey
    obtain ⟨e0, e1, e2⟩ := box3 k2
    have ef := box_free k2
    have HE : Hid (_ ∧ _ ∧ Ext w y) := Lib.hid ⟨k1, k2, Ext.trans HW.out.2.2 Ey⟩
    have hne' : ¬ g1 = g2 := fun e => hne e.symm
    clear k1 k2 Ey fy
    repeat' (first | go_skip | go_guarded | go_step)
    (try simp only [Exit.inBlock, Exit.then])
    obtain ⟨k1, k2, kE⟩ := HE.out
    refine bodyPost_ret_by (results_cell_row rfl _ _ _ _ _ _ _ rfl (heap_set (heap_set (heap_set ((Below.heap_setCell _ _ _ g2 hne).trans ((Below.heap_setCell _ _ _ g2 hne).trans k2)) 0 _) 1 _) 2 _) Try.underlying42 rfl (by kernel_rfl)) rfl ?_
    exact ⟨rfl, ((((kE.setCell hl1 _).setCell hl1 _).setCell hl2 _).setCell hl2 _).setCell hl2 _⟩

end Go.Proofs.Ytbplddiopajocaa
