/- Texts joined. -/
import Derived.Test.YtbmakajadelckaaM54
import Derived.Test.YtbmakajadelckaaM28
import Derived.Test.YtbmakajadelckaaM51
import Derived.Test.YtbmakajadelckaaM50
import Derived.Test.YtbmakajadelckaaM05
import Derived.Deep.DeepCutAuto
import Derived.Deep.LoopGhost
set_option linter.unusedVariables false
set_option linter.unusedSimpArgs false
/- Contracts: slices.AppendSeq and slices.Collect over an iterator whose own blocks may be rows of the same type. -/
namespace Go.QS
open Go Go.RowKit
/-- A box that holds a slice. -/
def PwC (T : TypeId) (gb : Nat) (W : World) : Prop := ∃ v, W.heap[gb]? = some (.cells #[v] T (0, 0))
/-- The box, and the row that it names. -/
def BxC (T : TypeId) (gb : Nat) (W : World) (k : Nat) : Prop := k = gb ∨ ∃ v, W.heap[gb]? = some (.cells #[v] T (0, 0)) ∧ v.ownBlock = some k
section
variable {T : TypeId} {gb B : Nat} {w w' w5 : World}
theorem bxC_same (h : w'.heap[gb]? = w.heap[gb]?) (k : Nat) (hk : BxC T gb w' k) : BxC T gb w k := hk.imp id fun ⟨v, h1, h2⟩ => ⟨v, h.symm.trans h1, h2⟩
theorem bxC_ext {v : Value} (h : w.heap[gb]? = some (.cells #[v] T (0, 0))) (f : Ext w w') (k : Nat) (hk : BxC T gb w' k) : BxC T gb w k := bxC_same (f.block gb (heap_lt h)) k hk
theorem pwC_ext (h : PwC T gb w) (f : Ext w w') : PwC T gb w' := by
  obtain ⟨v, h⟩ := h
  exact ⟨v, box_extG h f⟩
theorem bxC_put {w0 : World} (hg : gb < w0.heap.size) (W : World) (l : Nat) (o o' : Obj) (hl : w0.heap.size ≤ l) (_ : W.heap[l]? = some o) (_ : o.isCells = false) (k : Nat) (hk : BxC T gb (W.putObj l o') k) : BxC T gb W k :=
  bxC_same (World.putObj_heap_other (by omega)) k hk
theorem pwC_put {w0 : World} {W : World} {l : Nat} {o o' : Obj} (_ : w0.heap.size ≤ l) (h : W.heap[l]? = some o) (hc : o.isCells = false) (p : PwC T gb W) : PwC T gb (W.putObj l o') := by
  obtain ⟨v, hv⟩ := p
  refine ⟨v, (World.putObj_heap_other ?_).trans hv⟩
  intro e
  subst e
  rw [h] at hv; cases hv; cases hc
theorem bxC_new (h : w.heap[gb]? = some (.cells #[.slice none 0 0] T (0, 0))) (hg : gb < w.heap.size) (k : Nat) (hk : BxC T gb w k) : k < w.heap.size := by
  rcases hk with rfl | ⟨v, h1, h2⟩
  · exact hg
  · rw [h] at h1; cases h1; cases h2
theorem bxC_st {τ : TypeId → Prop} (hT : ¬ τ T) (h : PwC T gb w) (f : StT B τ w w') (k : Nat) (hk : BxC T gb w' k) : BxC T gb w k := by
  obtain ⟨v, h⟩ := h
  exact bxC_same ((stT_heap f h hT).trans h.symm) k hk
theorem pwC_st {τ : TypeId → Prop} (hT : ¬ τ T) (h : PwC T gb w) (f : StT B τ w w') : PwC T gb w' := by
  obtain ⟨v, h⟩ := h
  exact ⟨v, stT_heap f h hT⟩
/-- A row grows, and its box names it. -/
theorem KpO.of_append {v v5 : Value} (hgb : w.heap[gb]? = some (.cells #[v] T (0, 0))) (hB : B ≤ gb) (hv : ∀ k, v.ownBlock = some k → B ≤ k) (hne : v.ownBlock ≠ some gb) (hg : w.grownBy w5 v.ownBlock) (hn : v5.ownBlock = v.ownBlock ∨ v5.ownBlock = some w.heap.size) (hl : ∀ k, v5.ownBlock = some k → k < w5.heap.size) :
    KpO B (BxC T gb) w (w5.setCell ⟨gb, 0, none⟩ v5) := by
  have hs : (w5.setCell ⟨gb, 0, none⟩ v5).heap.size = w5.heap.size := by simp [World.setCell]
  have hg5 : w5.heap[gb]? = some (.cells #[v] T (0, 0)) := (hg.block gb (heap_lt hgb) (fun e => hne e.symm)).trans hgb
  have hgf : (w5.setCell ⟨gb, 0, none⟩ v5).heap[gb]? = some (.cells #[v5] T (0, 0)) := heap_set hg5 0 _
  have hbx : ∀ k, BxC T gb (w5.setCell ⟨gb, 0, none⟩ v5) k → k = gb ∨ v5.ownBlock = some k := fun k hk => hk.imp id fun ⟨u, h1, h2⟩ => by
    rw [hgf] at h1; cases h1; exact h2
  refine ⟨hg.os, hg.tape, hg.output, by rw [hs]; exact hg.size, fun k o hk ho => ?_, fun k A T' f hk hnb => ?_, fun k hk => ?_, fun hlt k hk => ?_⟩
  · refine (Below.heap_setCell w5 ⟨gb, 0, none⟩ v5 k (fun (e : k = gb) => by omega)).trans ((hg.block k (heap_lt ho) (fun e => ?_)).trans ho)
    have := hv k e.symm; omega
  · refine (Below.heap_setCell w5 ⟨gb, 0, none⟩ v5 k (fun (e : k = gb) => hnb (.inl e))).trans ((hg.block k (heap_lt hk) (fun e => ?_)).trans hk)
    exact hnb (.inr ⟨v, hgb, e.symm⟩)
  · rcases hbx k hk with e | e
    · exact .inl (.inl e)
    · rcases hn with n | n
      · exact .inl (.inr ⟨v, hgb, n.symm.trans e⟩)
      · rw [n] at e; cases e; exact .inr (Nat.le_refl _)
  · rw [hs]
    rcases hbx k hk with rfl | e
    · exact heap_lt hg5
    · exact hl k e
end
end Go.QS
namespace Go.Proofs.Ytbmakajadelckaa
open Go Go.RowKit Go.QS
set_option linter.unusedVariables false
attribute [local go_sem] Oper.semAt_some

set_option maxRecDepth 100000 in
set_option maxHeartbeats 2000000 in
theorem appendSeqP_c (w : World) (τ : TypeId → Prop) (hτ1 : ¬ τ 40) (hτ2 : ¬ τ 27) (gf : Nat) (lb : Array Value) (eg : ∀ args w, (callFunc gf args).run Try.prog w = .ok (.enter gf args) w)
    (L : List Pr) (hL9 : L.length ≤ 1000000) (Sp : List Pr → Prop) (hseq : ∀ gb, w.heap.size ≤ gb → SeqR Fence.wide 4 Try.prog gf lb encPr (StT w.heap.size τ) (fun A B => KpO w.heap.size (BxC 27 gb) A B ∧ (PwC 27 gb A → PwC 27 gb B)) (fun xs => xs = L) Sp L.length (fun W => Ext w W ∧ PwC 27 gb W ∧ ∀ k, BxC 27 gb W k → k < W.heap.size)) :
    Calls Try.prog 88 #[.slice none 0 0, .func (.func gf) #[] lb] w fun e w' => ∃ v', e = .returned v' ∧ w'.ownsRow w.heap.size 40 2 v' L.length (flat L) ∧ Ext w w' := by
  have HS := Lib.hid hseq
  clear hseq
  refine calls_of_wp_marks Try.func88 rfl ?_
  simp only [Try.ntmps88, List.size_toArray, List.length_cons, List.length_nil, Nat.reduceAdd, Nat.reduceSub, Array.replicate_succ, Array.replicate_zero, List.push_toArray, List.append_toArray, List.nil_append, List.cons_append]
  repeat' (first | go_skip | go_guarded | go_step)
  obtain ⟨wa, hwa⟩ : ∃ wa, wa = w.alloc (.cells #[.slice none 0 0] 27) := ⟨_, rfl⟩
  obtain ⟨gb, hgb⟩ : ∃ gb, gb = w.heap.size := ⟨_, rfl⟩
  have hEa : Ext w wa := by rw [hwa]; exact (Ext.refl w).alloc (Nat.le_refl _) _
  have hba := heap_newG w (.cells #[.slice none 0 0] 27)
  have hsz : wa.heap.size = gb + 1 := by rw [hwa, hgb]; simp
  rw [← hwa, ← hgb] at hba
  have hwa' := hwa.symm
  have hgle : w.heap.size ≤ gb := Nat.le_of_eq hgb.symm
  have hwle : w.heap.size ≤ wa.heap.size := by omega
  have hgal : gb < wa.heap.size := by omega
  rw [hwa', ← hgb]
  clear hwa hwa' hgb
  refine (wpIn_wide (n := 5)).1 ?_
  refine wpIn_rangeFunc_R (F := Fence.wide) (n := 5) rfl (by decide) (gf := gf) (lb := lb) rfl trivial eg (HS.out gb hgle)
    (fun k o h hk h1 h2 => stT_other h h1 h2) (fun h k => ⟨kpO_t h.1 k.1, fun p => k.2 (h.2 p)⟩) (fun W l o o' hl h1 h2 h3 => ⟨kpO_b hwle (bxC_put hgal) W l o o' hl h1 h2 h3, pwC_put hl h1 h2⟩)
    (fun r => by
      have hx := ((Ext.refl wa).alloc (Nat.le_refl _) (.deferred (some []))).alloc (by simp) (.loop r)
      exact ⟨Ext.trans hEa hx, ⟨_, box_extG hba hx⟩, bxC_new (box_extG hba hx) (by simp; omega)⟩) (fun _ => rfl)
    (fun pre W => (∃ v, W.heap[gb]? = some (.cells #[v] 27 (0, 0)) ∧ W.ownsRow w.heap.size 40 2 v pre.length (flat pre)) ∧ Ext w W)
    (fun _ _ _ => False)
    (fun s A B row hs hg hr => ?hI) (fun _ s A B row hs hg hr => hs) (fun s A B hs ht => ?hIs) (fun _ _ _ _ h _ => h) ⟨⟨_, hba, World.ownsRow_nil _ _ _ _⟩, hEa⟩
    (fun x a' W => ∃ Bx, gb < Bx ∧ W.heap[Bx]? = some (.cells #[str x.1, str x.2] 40 (0, 0)) ∧ a' = { tmps := #[.slice none 0 0, .func (.func gf) #[] lb, ptr gb, undef, .slice none 0 0, ptr Bx, .func (.func gf) #[] lb, .agg #[str x.1, str x.2], undef, undef, undef, undef, undef], defers := [] })
    (fun x a' s A B row hs hg hr => ?hAx) ?assign ?body ?done ?stop
  case hI =>
    obtain ⟨⟨v, h1, h2⟩, h3⟩ := hs
    have hr' : ∀ r, row = some r → ∃ o : Obj, A.heap[r]? = some o ∧ o.isCells = false := fun r e => (hr r e).2
    exact ⟨⟨v, heap_own h1 hg hr', row_own h2 hg hr'⟩, ext_own h3 hg hwle (fun r e => (hr r e).1)⟩
  case hIs =>
    obtain ⟨⟨v, h1, h2⟩, h3⟩ := hs
    exact ⟨⟨v, stT_heap ht h1 hτ2, row_stT h2 ht hτ1⟩, stT_ext ht h3 (Nat.le_refl _)⟩
  case hAx =>
    obtain ⟨Bx, h1, h2, h3⟩ := hs
    exact ⟨Bx, h1, heap_own h2 hg (fun r e => (hr r e).2), h3⟩
  case assign =>
    rintro l pre x W K ⟨⟨v, h1, h2⟩, h3⟩ hK
    have hl := heap_lt h1
    repeat' (first | gi_guarded | gi_step)
    refine hK _ _ ((KeepsOthers.alloc _ _).from _) ⟨KpO.of_ext ((Ext.refl W).alloc (Nat.le_refl _) _) (fun k hk => .inl (bxC_ext h1 ((Ext.refl W).alloc (Nat.le_refl _) _) k hk)), fun p => pwC_ext p ((Ext.refl W).alloc (Nat.le_refl _) _)⟩ ⟨⟨v, box_extG h1 ((Ext.refl W).alloc (Nat.le_refl _) _), row_extG h2 ((Ext.refl W).alloc (Nat.le_refl _) _)⟩, h3.alloc h3.size _⟩ ⟨W.heap.size, hl, heap_newG _ _, rfl⟩
  case body =>
    rintro l pre x a' W hl ⟨r, hr⟩ ⟨⟨v, h1, h2⟩, h3⟩ ⟨Bx, hBx, hbx, rfl⟩ hlt
    have hl1 := heap_lt h1
    have c0 : W.cell? ⟨gb, 0, none⟩ = some v := by simp [World.cell?, h1]
    have cf : W.frozen? ⟨gb, 0, none⟩ = false := by simp [World.frozen?, h1]
    have x0 : W.cell? ⟨Bx, 0, none⟩ = some (str x.1) := by simp [World.cell?, hbx]
    have x1 : W.cell? ⟨Bx, 1, none⟩ = some (str x.2) := by simp [World.cell?, hbx]
    have hne : v.ownBlock ≠ some gb := fun e => by
      obtain ⟨_, A, f, h⟩ := row_is h2 e
      rw [h1] at h; cases h
    have hvb : ∀ k, v.ownBlock = some k → w.heap.size ≤ k ∧ ∀ o, W.heap[k]? = some o → ¬ inT τ o ∧ o.isCells = true := fun k e => by
      obtain ⟨hb, A, f, h⟩ := row_is h2 e
      exact ⟨hb, fun o ho => by rw [h] at ho; cases ho; exact ⟨not_inT hτ1, rfl⟩⟩
    have hvl : ∀ k, v.ownBlock = some k → k < W.heap.size := fun k e => by
      obtain ⟨hb, A, f, h⟩ := row_is h2 e
      exact heap_lt h
    have hvs : ∃ A C, v = .slice A pre.length C := by
      rcases h2.2 with ⟨rfl, e⟩ | ⟨g, cap, cur, rfl, _⟩
      · exact ⟨none, 0, by rw [e]⟩
      · exact ⟨_, _, rfl⟩
    have HI := Lib.hid (And.intro h1 (And.intro h2 (And.intro h3 (And.intro hne (And.intro hvb hvl)))))
    clear h1 h2 h3 hr hbx hne hvb hvl
    obtain ⟨Av, Cv, rfl⟩ := hvs
    repeat' (first
      | (gi_at_builtin; refine wpListIn_app rfl (.tmp 8) (.tmp 10) _ rfl w.heap.size 40 2 32 Try.underlying27 infoPr (by decide) (.slice Av pre.length Cv) pre.length (flat pre) rfl (row_extG HI.out.2.1 ((Ext.refl W).alloc (Nat.le_refl _) _)) _ 1 1 [str x.1, str x.2] rfl rfl (Seg.new _ [_, _] _ rfl) (by intro u hu; simp at hu; rcases hu with rfl | rfl <;> rfl) (by unfold maxLen; omega) (by omega) (by have := HI.out.2.2.1.size; simp; omega) ?_
         intro v5 w5 hown5 hg5 hn5
         have h5 : w5.heap[gb]? = some (.cells #[_] 27 (0, 0)) := (hg5.block gb (by simp; omega) (fun e => HI.out.2.2.2.1 e.symm)).trans (box_extG HI.out.1 ((Ext.refl W).alloc (Nat.le_refl _) _))
         have hl5 := heap_lt h5
         have c5 : w5.cell? ⟨gb, 0, none⟩ = some (.slice Av pre.length Cv) := by simp [World.cell?, h5]
         have f5 : w5.frozen? ⟨gb, 0, none⟩ = false := by simp [World.frozen?, h5]
         obtain ⟨A5, C5, rfl⟩ : ∃ A C, v5 = .slice A (pre.length + 1) C := by
           rcases hown5.2 with ⟨rfl, e⟩ | ⟨g, cap, cur, rfl, _⟩
           · omega
           · exact ⟨_, _, rfl⟩
         have H5 := Lib.hid (And.intro h5 (And.intro hown5 (And.intro hg5 hn5)))
         clear h5 hown5 hg5 hn5)
      | gi_guarded | gi_step)
    have hWa : Ext W (W.alloc (.cells #[str x.1, str x.2] 40)) := (Ext.refl W).alloc (Nat.le_refl _) _
    have hvb' : ∀ k, (Value.slice Av pre.length Cv).ownBlock = some k → w.heap.size ≤ k ∧ ∀ o, (W.alloc (.cells #[str x.1, str x.2] 40)).heap[k]? = some o → ¬ inT τ o ∧ o.isCells = true := fun k e =>
      ⟨(HI.out.2.2.2.2.1 k e).1, fun o ho => (HI.out.2.2.2.2.1 k e).2 o ((hWa.block k (HI.out.2.2.2.2.2 k e)).symm.trans ho)⟩
    have hbA := box_extG HI.out.1 hWa
    have hap := KpO.of_append (B := w.heap.size) hbA hgle (fun k e => (hvb' k e).1) HI.out.2.2.2.1 H5.out.2.2.1 H5.out.2.2.2 (fun k e => (World.ownsRow.lt H5.out.2.1 k e).2)
    have hKp : KpO w.heap.size (BxC 27 gb) W (w5.setCell ⟨gb, 0, none⟩ (.slice A5 (pre.length + 1) C5)) ∧ (PwC 27 gb W → PwC 27 gb (w5.setCell ⟨gb, 0, none⟩ (.slice A5 (pre.length + 1) C5))) :=
      ⟨(KpO.of_ext hWa (fun k hk => .inl (bxC_ext HI.out.1 hWa k hk))).trans hap, fun _ => ⟨_, heap_set H5.out.1 0 _⟩⟩
    refine ⟨(((KeepsOthers.alloc W _).trans (KeepsOthers.of_grownBy H5.out.2.2.1 (fun j o e ho => ((hvb' j e).2 o ho).2))).trans (KeepsOthers.setCell _ _ _)).from _,
hKp, ⟨_, heap_set H5.out.1 0 _, ?_⟩,
      (((HI.out.2.2.1.alloc HI.out.2.2.1.size _).grown H5.out.2.2.1 (by have := HI.out.2.2.1.size; simp; omega) (fun k e => (hvb' k e).1))).setCell hgle _⟩
    rw [List.length_append, flat_append, flat_cons, flat_nil]
    refine row_of_heap H5.out.2.1 (fun g A f e hg => (Below.heap_setCell _ _ _ g ?_).trans hg)
    intro e2
    subst e2
    rw [H5.out.1] at hg; cases hg
  case done =>
    rintro D xs W hD rfl ⟨⟨v, h1, h2⟩, h3⟩ hK
    have hl1 := heap_lt h1
    have c0 : W.cell? ⟨gb, 0, none⟩ = some v := by simp [World.cell?, h1]
    have HI := Lib.hid (And.intro h1 (And.intro h2 h3))
    have HK := Lib.hid hK
    clear h1 h2 h3 hK
    repeat' (first | go_skip | go_guarded | go_step)
    have hg := grownBy_putObj' W D (.deferred none)
    have hr : ∀ r, some D = some r → ∃ o : Obj, W.heap[r]? = some o ∧ o.isCells = false := fun r e => by cases e; exact ⟨_, HK.out, rfl⟩
    exact postM_ret1 (results_tmp rfl _ _ _) rfl HK.out ⟨_, rfl, row_own HI.out.2.1 hg hr, ext_own HI.out.2.2 hg hwle (fun r e => by cases e; exact hD)⟩
  case stop =>
    rintro D c pre W _ _ h
    exact h.elim

theorem collectP_c (w : World) (τ : TypeId → Prop) (hτ1 : ¬ τ 40) (hτ2 : ¬ τ 27) (gf : Nat) (lb : Array Value) (eg : ∀ args w, (callFunc gf args).run Try.prog w = .ok (.enter gf args) w)
    (L : List Pr) (hL9 : L.length ≤ 1000000) (Sp : List Pr → Prop) (hseq : ∀ gb, w.heap.size ≤ gb → SeqR Fence.wide 4 Try.prog gf lb encPr (StT w.heap.size τ) (fun A B => KpO w.heap.size (BxC 27 gb) A B ∧ (PwC 27 gb A → PwC 27 gb B)) (fun xs => xs = L) Sp L.length (fun W => Ext w W ∧ PwC 27 gb W ∧ ∀ k, BxC 27 gb W k → k < W.heap.size)) :
    Calls Try.prog 53 #[.func (.func gf) #[] lb] w fun e w' => ∃ v', e = .returned v' ∧ w'.ownsRow w.heap.size 40 2 v' L.length (flat L) ∧ Ext w w' := by
  have HS := Lib.hid (appendSeqP_c w τ hτ1 hτ2 gf lb eg L hL9 Sp hseq)
  clear hseq
  go_enter Try.func53, Try.ntmps53
  repeat' (first | (go_at_call 88; refine HS.out.mono ?_; rintro e w1 ⟨v1, rfl, h1, h2⟩; replace h1 := Lib.hid h1; replace h2 := Lib.hid h2; go_simp) | go_skip | go_guarded | go_step)
  go_ret
  exact ⟨_, rfl, h1.out, h2.out⟩
end Go.Proofs.Ytbmakajadelckaa
/- Contract: walk.Sorted of any trie. -/
namespace Go.Proofs.Ytbmakajadelckaa
open Go Go.RowKit Go.QS Go.QS.Nk
set_option linter.unusedVariables false

set_option maxRecDepth 100000 in
theorem wsortedT_c (w : World) (p0 : Option Addr) (t : WT) (hr : RootW w (.pointer p0) t) (hw : wtB [(t.ps, t.ks)] ≤ 1000000) (L : List Pr) (hL : L = (walkT t 1).map Prod.fst) (h9 : L.length ≤ 1000000) :
    Calls Try.prog 19 #[.pointer p0] w fun e w' => ∃ v', e = .returned v' ∧ w'.ownsRow w.heap.size 40 2 v' (sortedP L).length (flat (sortedP L)) ∧ Ext w w' := by
  have HR := Lib.hid (And.intro hr hL)
  clear hr hL
  go_enter Try.func19, Try.ntmps19
  repeat' (first | go_at_call 18 | go_skip | go_guarded | go_step)
  refine (wall_c w p0).mono ?_
  rintro e w1 ⟨k0, rfl, hb, f1⟩
  have HC := Lib.hid (collectP_c w1 tauW tauW_ne.2 tauW_ne.1 52 #[ptr k0] all_enters L h9 (fun pre => pre <+: L) (fun gb hgb =>
    (allP_seq 4 (by decide) w1 (.pointer p0) t k0 L (PwC 27 gb) (BxC 27 gb) (HR.out.1.ext' f1) hw HR.out.2 (fun A B hp hs => pwC_st tauW_ne.1 hp hs) (fun A B hp hs => bxC_st tauW_ne.1 hp hs)).pre fun W hW => ⟨hW.1, Ext.cell' hW.1 hb, hW.2.1, hW.2.2⟩))
  have H1 := Lib.hid f1
  clear f1 hb
  go_simp
  repeat' (first | go_at_call 53 | go_skip | go_guarded | go_step)
  refine HC.out.mono ?_
  rintro e w2 ⟨v2, rfl, r2, f2⟩
  have HS := Lib.hid (Pch.sorted_c w2 v2 L (PS.of_own r2) (by omega))
  have H2 := Lib.hid (H1.out.trans f2)
  clear r2 f2 HC
  go_simp
  repeat' (first | go_at_call 36 | go_skip | go_guarded | go_step)
  refine HS.out.mono ?_
  rintro e w3 ⟨v3, rfl, r3, f3⟩
  have H3 : Hid (w3.ownsRow w.heap.size 40 2 v3 (sortedP L).length (flat (sortedP L)) ∧ Ext w w3) := Lib.hid ⟨own_up r3 H2.out.size, H2.out.trans f3⟩
  obtain ⟨A, C, rfl⟩ := own_slice r3
  clear r3 f3
  go_simp
  repeat' (first | go_skip | go_guarded | go_step)
  go_ret
  exact ⟨_, rfl, H3.out.1, H3.out.2⟩
end Go.Proofs.Ytbmakajadelckaa
/- Plain: pairs in any order are sorted back; the keys of a walk. -/
namespace Go.QS
open Go.RowKit Go.QS.Nk
/-- Pairs that rise, in any order, are sorted back. -/
theorem rsort_same {X L : List Pr} (hX : Rise X) (hm : ∀ k, k ∈ L ↔ k ∈ X) : rsort L = X := by
  refine rise_ext _ _ (rsort_rise L) hX fun p => ?_
  rw [mem_rsort]
  constructor
  · intro h; exact (hm p).1 (lastK_mem h).1
  · intro h
    have hp := (hm p).2 h
    cases e : lastK L p.1 with
    | none =>
      unfold lastK at e
      rw [List.getLast?_eq_none_iff] at e
      have : p ∈ L.filter (fun q => q.1 == p.1) := List.mem_filter.2 ⟨hp, by simp⟩
      rw [e] at this; cases this
    | some q =>
      obtain ⟨h1, h2⟩ := lastK_mem e
      have h3 := (hm q).1 h1
      have h4 : lastK X p.1 = some p := (lastK_rise hX p).2 h
      have h5 : lastK X q.1 = some q := (lastK_rise hX q).2 h3
      rw [h2, h4] at h5
      exact h5.symm
theorem walk_nodup (H : List UInt8 → Nat) {X : List Pr} (hX : Rise X) (d : Nat) : (((walkT (trieOf H 13 X) d).map Prod.fst).map Prod.fst).Nodup := by
  have hp := ((walk_perm H 13 X d).map Prod.fst)
  refine hp.nodup_iff.2 ?_
  refine List.pairwise_map.2 (hX.imp fun {a b} hab e => ?_)
  rw [e] at hab
  exact absurd hab (by simp)
theorem nodup_take {α : Type} {l : List α} (h : l.Nodup) {i : Nat} {x : α} (hx : l[i]? = some x) : x ∉ l.take i := by
  intro hm
  obtain ⟨j, hj⟩ := List.mem_iff_getElem?.1 hm
  have hji : j < i := by
    have := (List.getElem?_eq_some_iff.1 hj).1
    simp at this; omega
  rw [List.getElem?_take_of_lt hji] at hj
  have := (List.getElem?_inj (List.getElem?_eq_some_iff.1 hj).1 h).1 (hj.trans hx.symm)
  omega
end Go.QS
/- WalkGoes: behind its range over a function: a law of its own. -/
namespace Go.Proofs.Ytbmakajadelckaa
open Go Go.RowKit Go.QS Go.QS.Nk
set_option linter.unusedVariables false

theorem neqP8 (p : Pr) (w : World) : (binOp .neq 36 (.agg #[str p.1, str p.2]) (.agg #[str p.1, str p.2])).run Try.prog w = .ok (.bool false) w := neqS p w

set_option maxRecDepth 100000 in
set_option maxHeartbeats 2000000 in
theorem goes_tail (wr : World) (g g6 n Cx : Nat) (Ax : Option Addr) (dl : List Deferred) (H : List UInt8 → Nat) (X : List Pr) (hn40 : n ≤ 40) (hcx : Cx ≤ maxLen) (hnx : n ≤ Cx)
    (HH : Hid (RepN ND wr g (trieOf H 13 X) ∧ Seg wr Ax (flat X) ∧ n = X.length ∧ Rise X ∧ X.length ≤ 40)) (h6 : wr.heap[g6]? = some (.cells #[.bool false] 4 (0, 0))) (c d : Code) (K : Act → World → Prop) (Q : Exit → Act → World → Prop) (t0 t1 t2 t3 t4 t5 t9 t10 t11 t12 t13 t14 t15 t16 t17 t18 t19 t20 t21 t22 t23 t24 t25 t26 t27 t28 t29 t30 t31 t32 t33 t34 t35 t36 t37 t38 t39 t40 t41 t42 t43 t44 t45 t46 t47 t48 t49 t50 t51 t52 t53 t54 t55 t56 t57 t58 t59 t60 t61 t62 t63 t64 t65 t66 t67 t68 t69 t70 t71 t72 t73 t74 t75 t76 t77 t78 t79 t80 t81 t82 t83 t84 t85 t86 t87 : Value)
    (hc : (Try.f4.body.bind (findR 15)) = some c) (hd : (Try.f4.body.bind (findT 15)) = some d)
    (hK : ∀ a w, d.wp Try.prog Q a w → K a w)
    (hQ : ∀ (a : Act) (wx W' : World), a.defers = dl → a.tmps.getD 6 undef = ptr g6 → Ext wr W' → wx = W'.setCell ⟨g6, 0, none⟩ (.bool true) → Q .ret a wx) :
    c.wp Try.prog (Exit.then K Q) { tmps := List.toArray (t0 :: t1 :: t2 :: t3 :: t4 :: t5 :: (ptr g6) :: (ptr g) :: (.slice Ax n Cx) :: t9 :: t10 :: t11 :: t12 :: t13 :: t14 :: t15 :: t16 :: t17 :: t18 :: t19 :: t20 :: t21 :: t22 :: t23 :: t24 :: t25 :: t26 :: t27 :: t28 :: t29 :: t30 :: t31 :: t32 :: t33 :: t34 :: t35 :: t36 :: t37 :: t38 :: t39 :: t40 :: t41 :: t42 :: t43 :: t44 :: t45 :: t46 :: t47 :: t48 :: t49 :: t50 :: t51 :: t52 :: t53 :: t54 :: t55 :: t56 :: t57 :: t58 :: t59 :: t60 :: t61 :: t62 :: t63 :: t64 :: t65 :: t66 :: t67 :: t68 :: t69 :: t70 :: t71 :: t72 :: t73 :: t74 :: t75 :: t76 :: t77 :: t78 :: t79 :: t80 :: t81 :: t82 :: t83 :: t84 :: t85 :: t86 :: t87 :: []), defers := dl } wr := by
  change some _ = some c at hc
  cases hc
  change some _ = some d at hd
  cases hd
  have HQF := Lib.hid hQ
  clear hQ
  obtain ⟨w0, rfl⟩ : ∃ x, x = wr := ⟨_, rfl⟩
  have HB := Lib.hid h6
  have hwt : wtB [((trieOf H 13 X).ps, (trieOf H 13 X).ks)] ≤ 1000000 := by
    have h1 := cnt_trie H 13 X
    have h2 := cntT_eq (trieOf H 13 X)
    have h3 := HH.out.2.2.2.2
    simp only [wtB]
    omega
  have hp := walk_perm H 13 X 1
  have hsort : sortedP ((walkT (trieOf H 13 X) 1).map Prod.fst) = X := by rw [sortedP_eq]; exact rsort_same HH.out.2.2.2.1 (fun k => hp.mem_iff)
  have HS := Lib.hid (wsortedT_c w0 (some ⟨g, 0, none⟩) _ (.inr ⟨g, rfl, HH.out.1⟩) hwt _ rfl (by rw [hp.length_eq]; have := HH.out.2.2.2.2; omega))
  rw [hsort] at HS
  clear h6 hwt hp hsort
  repeat' (first | go_at_call 19 | go_skip | go_guarded | go_step)
  refine HS.out.mono ?_
  rintro e w1 ⟨v1, rfl, r1, f1⟩
  rw [← HH.out.2.2.1] at r1
  obtain ⟨A1, C1, rfl⟩ := own_slice r1
  obtain ⟨A1', C1', e1, _, hn1, hC1, hs1⟩ := Sl.of_own r1
  obtain ⟨rfl, rfl⟩ : A1' = A1 ∧ C1' = C1 := by injection e1 with h1 h2 h3; exact ⟨h1.symm, h3.symm⟩
  have H1 : Hid (Seg w1 A1' (flat X) ∧ Seg w1 Ax (flat X) ∧ Ext w0 w1) := Lib.hid ⟨hs1, HH.out.2.1.below f1, f1⟩
  clear r1 e1 hs1 f1 HS
  go_simp
  repeat' (go_not_at_region 19; (first | go_skip | go_guarded | go_step))
  go_loopg [13, 75] n (fun gk v13 v75 wx => ∃ (i : Nat), v75 = .int .i64 i ∧ i ≤ n ∧ n - i ≤ gk ∧ Hid (Ext w1 wx))
  case atStart => exact ⟨0, rfl, Nat.zero_le _, by omega, Lib.hid (Ext.refl _)⟩
  case round =>
    obtain ⟨i, rfl, hin, hgk, HI⟩ := hrel
    rcases Nat.lt_or_ge i n with hlt | hge
    · have d1 : decide (i < n) = true := by simp [hlt]
      have hi1 : (i : Int) < (n : Int) := by omega
      obtain ⟨p, hp⟩ := get_of_lt X (show i < X.length by have := HH.out.2.2.1; omega)
      obtain ⟨b, o, rfl, hq1, hq2⟩ := seg_pair (H1.out.1.below HI.out) hp
      obtain ⟨b', o', rfl, hq3, hq4⟩ := seg_pair (H1.out.2.1.below HI.out) hp
      have hne := neqP8 p
      clear hp
      repeat' (go_not_at_region 21; (first | go_skip | go_guarded | go_step))
      go_quiet (fail)
      repeat' (first | go_skip | go_guarded | go_step)
      go_roundg (n - (i + 1))
      case measure => omega
      case rel => exact ⟨i + 1, by go_num, by omega, Nat.le_refl _, Lib.hid (below_drewN HI.out _)⟩
    · obtain rfl : i = n := by omega
      have d1 : decide (i < i) = false := by simp
      have E2 := Lib.hid (Ext.trans H1.out.2.2 HI.out)
      have hb := box_extG HB.out E2.out
      have b6 : wr.cell? ⟨g6, 0, none⟩ = some (.bool false) := by rw [cellG hb]; rfl
      have bf := freeG hb 0
      have bl := heap_lt hb
      clear hb
      repeat' (first | go_skip | go_guarded | go_step)
      exact HQF.out _ _ wr rfl rfl E2.out rfl

end Go.Proofs.Ytbmakajadelckaa
