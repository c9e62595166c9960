/- Texts joined. -/
import Derived.Test.YtigoffdehdobiaaGreatSh
set_option linter.unusedVariables false
set_option linter.unusedSimpArgs false
/- Contracts: a new cursor; does it tell just these? -/
namespace Go.Proofs.YtigoffdehdobiaaGreat
open Go.RowKit Go.QS
set_option linter.unusedVariables false

set_option maxRecDepth 100000 in
set_option maxHeartbeats 1000000 in
theorem new_c (w : World) (g : Nat) (t : RT) (s : Sp) (back : Bool) (h : Rep NT w g t) :
    Calls Tryz.prog 138 #[ptr g, s.v, .bool back] w fun e w' => ∃ c V, e = .returned (ptr c) ∧ CurAt w w' c V [(g, [], false)] [(t, [], false)] s back := by
  obtain ⟨f, tt, o⟩ := s
  have HR := Lib.hid h
  clear h
  go_enter Tryz.func138, Tryz.ntmps138
  repeat' (go_not_at_region 3; (first | go_skip | go_guarded | go_step))
  obtain ⟨wa, hwa⟩ : ∃ wa, wa = (w.alloc (.cells #[str f, str tt, .bool o] 144)).alloc (.cells #[.slice none 0 0, str f, str tt, .bool o, .bool back] 208) := ⟨_, rfl⟩
  have hEa : Ext w wa := by rw [hwa]; exact ((Ext.refl w).alloc (Nat.le_refl _) _).alloc (by simp) _
  obtain ⟨c, hc⟩ : ∃ c, c = w.heap.size + 1 := ⟨_, rfl⟩
  have hba : wa.heap[c]? = some (.cells #[.slice none 0 0, str f, str tt, .bool o, .bool back] 208 (0, 0)) := by rw [hwa, hc]; exact heap_alloc2_new _ _ _
  have hsz : wa.heap.size = c + 1 := by rw [hwa, hc]; simp
  rw [← hwa, ← hc]
  have c0 : wa.cell? ⟨c, 0, none⟩ = some (.slice none 0 0) := by simp [World.cell?, hba]
  have cf := box_free hba 0
  have HA : Hid (wa.heap[c]? = some (.cells #[.slice none 0 0, str f, str tt, .bool o, .bool back] 208 (0, 0)) ∧ Ext w wa ∧ w.heap.size ≤ c ∧ wa.heap.size = c + 1) := Lib.hid ⟨hba, hEa, by omega, hsz⟩
  have hcl : c < wa.heap.size := by omega
  clear hwa hba hc hEa hsz
  repeat' (first | (at_builtin; refine wpList_app rfl (.tmp 18) (.tmp 21) _ rfl (c + 1) 210 3 32 Tryz.underlying206 infoW (by decide) (.slice none 0 0) 0 [] rfl (World.ownsRow_nil _ _ _ _) _ 1 1 [ptr g, .string ⟨#[]⟩, .bool false] rfl rfl (Seg.new _ [_, _, _] _ (by simp)) (by intro u hu; simp at hu; rcases hu with rfl | rfl | rfl <;> rfl) (by decide) (by decide) (by simp; omega) ?_; intro v5 w5 hown5 hg5 hn5; obtain ⟨A5, C5, rfl⟩ := own_slice hown5; have c5 : w5.cell? ⟨c, 0, none⟩ = some (.slice none 0 0) := hg5.cell (a := ⟨c, 0, none⟩) (by rw [World.cell?_alloc_past _ _ _ hcl]; exact c0) (fun e => by cases e); have f5 : w5.frozen? ⟨c, 0, none⟩ = false := (hg5.frozen_far ⟨c, 0, none⟩ (by simp; omega) (fun e => by cases e)).trans (by rw [World.frozen?_alloc_past _ _ _ hcl]; exact cf); replace hown5 := Lib.hid hown5; replace hg5 := Lib.hid hg5) | go_step)
  go_ret
  have hE5 : Ext wa w5 := Ext.trans ((Ext.refl _).alloc (Nat.le_refl _) _) (ext_grown hg5.out)
  refine ⟨c, _, rfl, heap_set (box_ext HA.out.1 hE5) 0 _, ?_, Wks.one (c := (g, [], false)) (s := (t, [], false)) HR.out rfl, ?_, HA.out.2.2.1⟩
  · have := hown5.out
    exact row_set this _ _ (Nat.lt_succ_self _)
  · exact (Ext.trans HA.out.2.1 hE5).setCell HA.out.2.2.1 _

end Go.Proofs.YtigoffdehdobiaaGreat
/- Contract: does a cursor tell just these, and then no more? -/
namespace Go.Proofs.YtigoffdehdobiaaGreat
open Go.RowKit Go.QS
set_option linter.unusedVariables false

set_option maxRecDepth 100000 in
theorem neqP' (w : World) (p q : Pr) : (binOp .neq 70 (.agg #[str p.1, str p.2]) (.agg #[str q.1, str q.2])).run Tryz.prog w = .ok (.bool (decide (p ≠ q))) w := by
  obtain ⟨a, b⟩ := p
  obtain ⟨c, d⟩ := q
  simp only [go_sem]
  by_cases h1 : a = c <;> by_cases h2 : b = d <;> simp [h1, h2, go_sem]

end Go.Proofs.YtigoffdehdobiaaGreat
/- The document's example; a tree's cursor, from the beginning. -/
namespace Go.Proofs.YtigoffdehdobiaaGreat
open Go.RowKit Go.QS
set_option linter.unusedVariables false

theorem kd_cnt {N : Nat} {ks : List RT} (h : Kd N ks) : cnts ks + ks.length ≤ 2 * (belows ks).length ∧ ks.length ≤ (belows ks).length := by
  induction h with
  | nil N => exact ⟨by simp [cnts, belows_nil], by simp⟩
  | @cons N t r h1 h2 h3 h4 h5 h6 ih4 ih6 =>
    rw [cnts_cons, belows_cons, cnt_eq, List.length_append, List.length_cons]
    have hp : (pre t.lab t.prs).length = (ownP t.val).length + (belows t.kids).length := by rw [below_eq]; simp [pre]
    rw [hp]
    have ho : t.val.isSome = true → (ownP t.val).length = 1 := by
      intro h
      cases hv : t.val with
      | none => rw [hv] at h; cases h
      | some v => rfl
    rcases h3 with h3 | h3
    · have := ho h3; omega
    · omega

theorem tree_cnt (l : List Pr) (h : ∀ p ∈ l, p.1.length ≤ 40) : cnt (treeOf l) ≤ 1 + 2 * l.length := by
  obtain ⟨h1, h2, h3⟩ := treeOf_ok l h
  have hc := (kd_cnt h2).1
  have hl := rsort_length l
  rw [← h3, below_eq, List.length_append] at hl
  rw [cnt_eq]
  omega
theorem root_wt (l : List Pr) (h : ∀ p ∈ l, p.1.length ≤ 40) (hl : l.length ≤ 40) : wt [(treeOf l, [], false)] ≤ 1000000 := by
  have := tree_cnt l h
  simp [wt, wtW]
  omega
theorem root_good (l : List Pr) (h : ∀ p ∈ l, p.1.length ≤ 40) : Good [(treeOf l, [], false)] := by
  intro e he
  rw [List.mem_singleton] at he
  subst he
  obtain ⟨h1, h2, h3⟩ := treeOf_ok l h
  refine ⟨?_, ?_⟩
  · simp [h1]
  · simpa [h1] using h2
theorem pre_nil (x : List Pr) : pre [] x = x := by simp [pre]
theorem root_com (l : List Pr) (h : ∀ p ∈ l, p.1.length ≤ 40) (s : Sp) (back : Bool) : com s back [(treeOf l, [], false)] = if back then ((rsort l).filter fun p => s.has p.1).reverse else (rsort l).filter fun p => s.has p.1 := by
  obtain ⟨h1, h2, h3⟩ := treeOf_ok l h
  rw [com_cons, com_nil, List.append_nil]
  simp only [comW, Bool.false_eq_true, if_false]
  rw [h1, h3, List.append_nil, pre_nil]

def exA : List Pr := [([97], []), ([97, 98], []), ([98], [])]
theorem exA_cut : (exA.take 40).map cutP = exA := by decide
theorem exA_com : com (Sp.pfx [97]) true [(treeOf exA, [], false)] = [([97, 98], []), ([97], [])] := by
  rw [root_com exA (by decide)]
  decide

end Go.Proofs.YtigoffdehdobiaaGreat
/- Contracts: short; the document's Has; SpanHas. -/
namespace Go.Proofs.YtigoffdehdobiaaGreat
open Go.RowKit Go.QS
set_option linter.unusedVariables false

/-- A span of keys that aren't too long. -/
def Sp.cut (s : Sp) : Sp := ⟨s.f.take 40, s.t.take 40, s.o⟩
theorem box3 {w : World} {g : Nat} {a b d : Value} {t : TypeId} {f : Nat × Nat} (h : w.heap[g]? = some (.cells #[a, b, d] t f)) : w.cell? ⟨g, 0, none⟩ = some a ∧ w.cell? ⟨g, 1, none⟩ = some b ∧ w.cell? ⟨g, 2, none⟩ = some d := by
  simp [World.cell?, h]

theorem field0 (a x : Value) (w : World) : (Instr.field 70 (.agg #[a, x]) 0).run Tryz.prog w = .ok a w := by
  unfold Instr.field
  simp [go_sem, asAgg]

end Go.Proofs.YtigoffdehdobiaaGreat
