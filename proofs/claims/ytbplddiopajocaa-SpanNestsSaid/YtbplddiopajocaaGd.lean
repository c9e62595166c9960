/- Contracts: slices.AppendSeq and slices.Collect over an iterator that keeps its state in cells of its own. -/
import Derived.Test.YtbplddiopajocaaGb
import Derived.Test.YtbplddiopajocaaMe
import Derived.RangeFuncNested
import Derived.RangeFuncCalls
import Derived.Sort.LoopGhostIn
set_option linter.unusedVariables false
set_option linter.unusedSimpArgs false
namespace Go.Proofs.Ytbplddiopajocaa
open Go Go.RowKit Go.QS
set_option linter.unusedVariables false
attribute [local go_sem] Oper.semAt_some

abbrev encPr (p : Pr) : Array Value := #[.agg #[str p.1, str p.2]]
theorem infoPr : ∃ i z, Try.prog.info? 24 = some i ∧ i.zero = some z ∧ i.size = 2 ∧ i.bytes = 32 ∧ z.cells.size = 2 := info_of (z := .agg #[.string ⟨#[]⟩, .string ⟨#[]⟩]) (by kernel_rfl) rfl

set_option maxRecDepth 100000 in
set_option maxHeartbeats 2000000 in
theorem appendSeq_c (w : World) (τ : TypeId → Prop) (hτ1 : ¬ τ 24) (hτ2 : ¬ τ 22) (gf : Nat) (lb : Array Value) (eg : ∀ args w, (callFunc gf args).run Try.prog w = .ok (.enter gf args) w)
    (L : List Pr) (hL9 : L.length ≤ 1000000) (Sp : List Pr → Prop) (hseq : SeqR Fence.wide 4 Try.prog gf lb encPr (StT w.heap.size τ) (KpT w.heap.size τ) (fun xs => xs = L) Sp L.length (fun W => Ext w W)) :
    Calls Try.prog 74 #[.slice none 0 0, .func (.func gf) #[] lb] w fun e w' => ∃ v', e = .returned v' ∧ w'.ownsRow w.heap.size 24 2 v' L.length (flat L) ∧ Ext w w' := by
  have HS := Lib.hid hseq
  clear hseq
  refine calls_of_wp_marks Try.func74 rfl ?_
  simp only [Try.ntmps74, List.size_toArray, List.length_cons, List.length_nil, Nat.reduceAdd, Nat.reduceSub, Array.replicate_succ, Array.replicate_zero, List.push_toArray, List.append_toArray, List.nil_append, List.cons_append]
  repeat' (first | go_skip | go_guarded | go_step)
  obtain ⟨wa, hwa⟩ : ∃ wa, wa = w.alloc (.cells #[.slice none 0 0] 22) := ⟨_, rfl⟩
  obtain ⟨gb, hgb⟩ : ∃ gb, gb = w.heap.size := ⟨_, rfl⟩
  have hEa : Ext w wa := by rw [hwa]; exact (Ext.refl w).alloc (Nat.le_refl _) _
  have hba := heap_newG w (.cells #[.slice none 0 0] 22)
  have hsz : wa.heap.size = gb + 1 := by rw [hwa, hgb]; simp
  rw [← hwa, ← hgb] at hba
  have hwa' := hwa.symm
  have hgle : w.heap.size ≤ gb := Nat.le_of_eq hgb.symm
  have hwle : w.heap.size ≤ wa.heap.size := by omega
  rw [hwa', ← hgb]
  clear hwa hwa' hgb
  refine (wpIn_wide (n := 5)).1 ?_
  refine wpIn_rangeFunc_R (F := Fence.wide) (n := 5) rfl (by decide) (gf := gf) (lb := lb) rfl trivial eg HS.out
    (fun k o h hk h1 h2 => stT_other h h1 h2) kpT_t (fun W l o o' hl h1 h2 h3 => kpT_b hwle W l o o' hl h1 h2 h3) (fun r => (hEa.alloc (by omega) _).alloc (by simp; omega) _) (fun _ => rfl)
    (fun pre W => (∃ v, W.heap[gb]? = some (.cells #[v] 22 (0, 0)) ∧ W.ownsRow w.heap.size 24 2 v pre.length (flat pre)) ∧ Ext w W)
    (fun _ _ _ => False)
    (fun s A B row hs hg hr => ?hI) (fun _ s A B row hs hg hr => hs) (fun s A B hs ht => ?hIs) (fun _ _ _ _ h _ => h) ⟨⟨_, hba, World.ownsRow_nil _ _ _ _⟩, hEa⟩
    (fun x a' W => ∃ Bx, gb < Bx ∧ W.heap[Bx]? = some (.cells #[str x.1, str x.2] 24 (0, 0)) ∧ a' = { tmps := #[.slice none 0 0, .func (.func gf) #[] lb, ptr gb, undef, .slice none 0 0, ptr Bx, .func (.func gf) #[] lb, .agg #[str x.1, str x.2], undef, undef, undef, undef, undef], defers := [] })
    (fun x a' s A B row hs hg hr => ?hAx) ?assign ?body ?done ?stop
  case hI =>
    obtain ⟨⟨v, h1, h2⟩, h3⟩ := hs
    have hr' : ∀ r, row = some r → ∃ o : Obj, A.heap[r]? = some o ∧ o.isCells = false := fun r e => (hr r e).2
    exact ⟨⟨v, heap_own h1 hg hr', row_own h2 hg hr'⟩, ext_own h3 hg hwle (fun r e => (hr r e).1)⟩
  case hIs =>
    obtain ⟨⟨v, h1, h2⟩, h3⟩ := hs
    exact ⟨⟨v, stT_heap ht h1 hτ2, row_stT h2 ht hτ1⟩, stT_ext ht h3 (Nat.le_refl _)⟩
  case hAx =>
    obtain ⟨Bx, h1, h2, h3⟩ := hs
    exact ⟨Bx, h1, heap_own h2 hg (fun r e => (hr r e).2), h3⟩
  case assign =>
    rintro l pre x W K ⟨⟨v, h1, h2⟩, h3⟩ hK
    have hl := heap_lt h1
    repeat' (first | gi_guarded | gi_step)
    refine hK _ _ ((KeepsOthers.alloc _ _).from _) (KeepQ.of_ext ((Ext.refl W).alloc (Nat.le_refl _) _)) ⟨⟨v, box_extG h1 ((Ext.refl W).alloc (Nat.le_refl _) _), row_extG h2 ((Ext.refl W).alloc (Nat.le_refl _) _)⟩, h3.alloc h3.size _⟩ ⟨W.heap.size, hl, heap_newG _ _, rfl⟩
  case body =>
    rintro l pre x a' W hl ⟨r, hr⟩ ⟨⟨v, h1, h2⟩, h3⟩ ⟨Bx, hBx, hbx, rfl⟩ hlt
    have hl1 := heap_lt h1
    have c0 : W.cell? ⟨gb, 0, none⟩ = some v := by simp [World.cell?, h1]
    have cf : W.frozen? ⟨gb, 0, none⟩ = false := by simp [World.frozen?, h1]
    have x0 : W.cell? ⟨Bx, 0, none⟩ = some (str x.1) := by simp [World.cell?, hbx]
    have x1 : W.cell? ⟨Bx, 1, none⟩ = some (str x.2) := by simp [World.cell?, hbx]
    have hne : v.ownBlock ≠ some gb := fun e => by
      obtain ⟨_, A, f, h⟩ := row_is h2 e
      rw [h1] at h; cases h
    have hvb : ∀ k, v.ownBlock = some k → w.heap.size ≤ k ∧ ∀ o, W.heap[k]? = some o → ¬ inT τ o ∧ o.isCells = true := fun k e => by
      obtain ⟨hb, A, f, h⟩ := row_is h2 e
      exact ⟨hb, fun o ho => by rw [h] at ho; cases ho; exact ⟨not_inT hτ1, rfl⟩⟩
    have hvl : ∀ k, v.ownBlock = some k → k < W.heap.size := fun k e => by
      obtain ⟨hb, A, f, h⟩ := row_is h2 e
      exact heap_lt h
    have hvs : ∃ A C, v = .slice A pre.length C := by
      rcases h2.2 with ⟨rfl, e⟩ | ⟨g, cap, cur, rfl, _⟩
      · exact ⟨none, 0, by rw [e]⟩
      · exact ⟨_, _, rfl⟩
    have HI := Lib.hid (And.intro h1 (And.intro h2 (And.intro h3 (And.intro hne (And.intro hvb hvl)))))
    clear h1 h2 h3 hr hbx hne hvb hvl
    obtain ⟨Av, Cv, rfl⟩ := hvs
    repeat' (first
      | (gi_at_builtin; refine wpListIn_app rfl (.tmp 8) (.tmp 10) _ rfl w.heap.size 24 2 32 Try.underlying22 infoPr (by decide) (.slice Av pre.length Cv) pre.length (flat pre) rfl (row_extG HI.out.2.1 ((Ext.refl W).alloc (Nat.le_refl _) _)) _ 1 1 [str x.1, str x.2] rfl rfl (Seg.new _ [_, _] _ rfl) (by intro u hu; simp at hu; rcases hu with rfl | rfl <;> rfl) (by unfold maxLen; omega) (by omega) (by have := HI.out.2.2.1.size; simp; omega) ?_
         intro v5 w5 hown5 hg5 hn5
         have h5 : w5.heap[gb]? = some (.cells #[_] 22 (0, 0)) := (hg5.block gb (by simp; omega) (fun e => HI.out.2.2.2.1 e.symm)).trans (box_extG HI.out.1 ((Ext.refl W).alloc (Nat.le_refl _) _))
         have hl5 := heap_lt h5
         have c5 : w5.cell? ⟨gb, 0, none⟩ = some (.slice Av pre.length Cv) := by simp [World.cell?, h5]
         have f5 : w5.frozen? ⟨gb, 0, none⟩ = false := by simp [World.frozen?, h5]
         obtain ⟨A5, C5, rfl⟩ : ∃ A C, v5 = .slice A (pre.length + 1) C := by
           rcases hown5.2 with ⟨rfl, e⟩ | ⟨g, cap, cur, rfl, _⟩
           · omega
           · exact ⟨_, _, rfl⟩
         have H5 := Lib.hid (And.intro h5 (And.intro hown5 (And.intro hg5 hn5)))
         clear h5 hown5 hg5 hn5)
      | gi_guarded | gi_step)
    have hWa : Ext W (W.alloc (.cells #[str x.1, str x.2] 24)) := (Ext.refl W).alloc (Nat.le_refl _) _
    have hvb' : ∀ k, (Value.slice Av pre.length Cv).ownBlock = some k → w.heap.size ≤ k ∧ ∀ o, (W.alloc (.cells #[str x.1, str x.2] 24)).heap[k]? = some o → ¬ inT τ o ∧ o.isCells = true := fun k e =>
      ⟨(HI.out.2.2.2.2.1 k e).1, fun o ho => (HI.out.2.2.2.2.1 k e).2 o ((hWa.block k (HI.out.2.2.2.2.2 k e)).symm.trans ho)⟩
    refine ⟨(((KeepsOthers.alloc W _).trans (KeepsOthers.of_grownBy H5.out.2.2.1 (fun j o e ho => ((hvb' j e).2 o ho).2))).trans (KeepsOthers.setCell _ _ _)).from _,
      ((KeepQ.of_ext hWa).trans (kpT_grown H5.out.2.2.1 (fun k e => ⟨(hvb' k e).1, fun o ho => ((hvb' k e).2 o ho).1⟩))).trans (kpT_box _ H5.out.1 0 _ hgle hτ2), ⟨_, heap_set H5.out.1 0 _, ?_⟩,
      (((HI.out.2.2.1.alloc HI.out.2.2.1.size _).grown H5.out.2.2.1 (by have := HI.out.2.2.1.size; simp; omega) (fun k e => (hvb' k e).1))).setCell hgle _⟩
    rw [List.length_append, flat_append, flat_cons, flat_nil]
    refine row_of_heap H5.out.2.1 (fun g A f e hg => (Below.heap_setCell _ _ _ g ?_).trans hg)
    intro e2
    subst e2
    rw [H5.out.1] at hg; cases hg
  case done =>
    rintro D xs W hD rfl ⟨⟨v, h1, h2⟩, h3⟩ hK
    have hl1 := heap_lt h1
    have c0 : W.cell? ⟨gb, 0, none⟩ = some v := by simp [World.cell?, h1]
    have HI := Lib.hid (And.intro h1 (And.intro h2 h3))
    have HK := Lib.hid hK
    clear h1 h2 h3 hK
    repeat' (first | go_skip | go_guarded | go_step)
    have hg := grownBy_putObj' W D (.deferred none)
    have hr : ∀ r, some D = some r → ∃ o : Obj, W.heap[r]? = some o ∧ o.isCells = false := fun r e => by cases e; exact ⟨_, HK.out, rfl⟩
    exact postM_ret1 (results_tmp rfl _ _ _) rfl HK.out ⟨_, rfl, row_own HI.out.2.1 hg hr, ext_own HI.out.2.2 hg hwle (fun r e => by cases e; exact hD)⟩
  case stop =>
    rintro D c pre W _ _ h
    exact h.elim

theorem collect_c (w : World) (τ : TypeId → Prop) (hτ1 : ¬ τ 24) (hτ2 : ¬ τ 22) (gf : Nat) (lb : Array Value) (eg : ∀ args w, (callFunc gf args).run Try.prog w = .ok (.enter gf args) w)
    (L : List Pr) (hL9 : L.length ≤ 1000000) (Sp : List Pr → Prop) (hseq : SeqR Fence.wide 4 Try.prog gf lb encPr (StT w.heap.size τ) (KpT w.heap.size τ) (fun xs => xs = L) Sp L.length (fun W => Ext w W)) :
    Calls Try.prog 49 #[.func (.func gf) #[] lb] w fun e w' => ∃ v', e = .returned v' ∧ w'.ownsRow w.heap.size 24 2 v' L.length (flat L) ∧ Ext w w' := by
  have HS := Lib.hid (appendSeq_c w τ hτ1 hτ2 gf lb eg L hL9 Sp hseq)
  clear hseq
  go_enter Try.func49, Try.ntmps49
  repeat' (first | (go_at_call 74; refine HS.out.mono ?_; rintro e w1 ⟨v1, rfl, h1, h2⟩; replace h1 := Lib.hid h1; replace h2 := Lib.hid h2; go_simp) | go_skip | go_guarded | go_step)
  go_ret
  exact ⟨_, rfl, h1.out, h2.out⟩
end Go.Proofs.Ytbplddiopajocaa
