/- Contracts: a new cursor; does it tell just these? -/
import Derived.Test.YtbplddiopajocaaSh
set_option linter.unusedVariables false
set_option linter.unusedSimpArgs false
namespace Go.Proofs.Ytbplddiopajocaa
open Go.RowKit Go.QS
set_option linter.unusedVariables false

set_option maxRecDepth 100000 in
set_option maxHeartbeats 1000000 in
theorem new_c (w : World) (g : Nat) (t : RT) (s : Sp) (back : Bool) (h : Rep NT w g t) :
    Calls Try.prog 23 #[ptr g, s.v, .bool back] w fun e w' => ∃ c V, e = .returned (ptr c) ∧ CurAt w w' c V [(g, [], false)] [(t, [], false)] s back := by
  obtain ⟨f, tt, o⟩ := s
  have HR := Lib.hid h
  clear h
  go_enter Try.func23, Try.ntmps23
  repeat' (go_not_at_region 3; (first | go_skip | go_guarded | go_step))
  obtain ⟨wa, hwa⟩ : ∃ wa, wa = (w.alloc (.cells #[str f, str tt, .bool o] 42)).alloc (.cells #[.slice none 0 0, str f, str tt, .bool o, .bool back] 99) := ⟨_, rfl⟩
  have hEa : Ext w wa := by rw [hwa]; exact ((Ext.refl w).alloc (Nat.le_refl _) _).alloc (by simp) _
  obtain ⟨c, hc⟩ : ∃ c, c = w.heap.size + 1 := ⟨_, rfl⟩
  have hba : wa.heap[c]? = some (.cells #[.slice none 0 0, str f, str tt, .bool o, .bool back] 99 (0, 0)) := by rw [hwa, hc]; exact heap_alloc2_new _ _ _
  have hsz : wa.heap.size = c + 1 := by rw [hwa, hc]; simp
  rw [← hwa, ← hc]
  have c0 : wa.cell? ⟨c, 0, none⟩ = some (.slice none 0 0) := by simp [World.cell?, hba]
  have cf := box_free hba 0
  have HA : Hid (wa.heap[c]? = some (.cells #[.slice none 0 0, str f, str tt, .bool o, .bool back] 99 (0, 0)) ∧ Ext w wa ∧ w.heap.size ≤ c ∧ wa.heap.size = c + 1) := Lib.hid ⟨hba, hEa, by omega, hsz⟩
  have hcl : c < wa.heap.size := by omega
  clear hwa hba hc hEa hsz
  repeat' (first | (at_builtin; refine wpList_app rfl (.tmp 18) (.tmp 21) _ rfl (c + 1) 101 3 32 Try.underlying97 infoW (by decide) (.slice none 0 0) 0 [] rfl (World.ownsRow_nil _ _ _ _) _ 1 1 [ptr g, .string ⟨#[]⟩, .bool false] rfl rfl (Seg.new _ [_, _, _] _ (by simp)) (by intro u hu; simp at hu; rcases hu with rfl | rfl | rfl <;> rfl) (by decide) (by decide) (by simp; omega) ?_; intro v5 w5 hown5 hg5 hn5; obtain ⟨A5, C5, rfl⟩ := own_slice hown5; have c5 : w5.cell? ⟨c, 0, none⟩ = some (.slice none 0 0) := hg5.cell (a := ⟨c, 0, none⟩) (by rw [World.cell?_alloc_past _ _ _ hcl]; exact c0) (fun e => by cases e); have f5 : w5.frozen? ⟨c, 0, none⟩ = false := (hg5.frozen_far ⟨c, 0, none⟩ (by simp; omega) (fun e => by cases e)).trans (by rw [World.frozen?_alloc_past _ _ _ hcl]; exact cf); replace hown5 := Lib.hid hown5; replace hg5 := Lib.hid hg5) | go_step)
  go_ret
  have hE5 : Ext wa w5 := Ext.trans ((Ext.refl _).alloc (Nat.le_refl _) _) (ext_grown hg5.out)
  refine ⟨c, _, rfl, heap_set (box_ext HA.out.1 hE5) 0 _, ?_, Wks.one (c := (g, [], false)) (s := (t, [], false)) HR.out rfl, ?_, HA.out.2.2.1⟩
  · have := hown5.out
    exact row_set this _ _ (Nat.lt_succ_self _)
  · exact (Ext.trans HA.out.2.1 hE5).setCell HA.out.2.2.1 _

set_option maxRecDepth 100000 in
theorem neqR' (w : World) (p q : Pr) : (binOp .neq 33 (.agg #[str p.1, str p.2]) (.agg #[str q.1, str q.2])).run Try.prog w = .ok (.bool (decide (p ≠ q))) w := by
  obtain ⟨a, b⟩ := p
  obtain ⟨c, d⟩ := q
  simp only [go_sem]
  by_cases h1 : a = c <;> by_cases h2 : b = d <;> simp [h1, h2, go_sem]
end Go.Proofs.Ytbplddiopajocaa
