/- Texts joined. -/
import Derived.Test.YtbmakajadelckaaM27
import Derived.Sort.Row
import Derived.RangeFuncNested
import Derived.RangeFuncCalls
import Derived.Sort.LoopGhostIn
import Derived.Test.YtbmakajadelckaaM26
set_option linter.unusedVariables false
set_option linter.unusedSimpArgs false
/- What a round keeps beside an iterator that keeps its state in cells: all cells but the body's own blocks, which a predicate on the world tells. No program. -/
namespace Go.QS
open Go Go.RowKit

/-- All that lay ahead of B stays, all cells stay but the blocks of Bx; these turn to new blocks alone. -/
structure KpO (B : Nat) (Bx : World → Nat → Prop) (w w' : World) : Prop where
  os : w'.os = w.os
  tape : w'.tape = w.tape
  output : w'.output = w.output
  size : w.heap.size ≤ w'.heap.size
  old : ∀ k o, k < B → w.heap[k]? = some o → w'.heap[k]? = some o
  blk : ∀ k A T f, w.heap[k]? = some (.cells A T f) → ¬ Bx w k → w'.heap[k]? = some (.cells A T f)
  bx : ∀ k, Bx w' k → Bx w k ∨ w.heap.size ≤ k
  lt : (∀ k, Bx w k → k < w.heap.size) → ∀ k, Bx w' k → k < w'.heap.size

section
variable {B : Nat} {Bx : World → Nat → Prop} {a b c w w' : World}
theorem KpO.trans (h : KpO B Bx a b) (k : KpO B Bx b c) : KpO B Bx a c :=
  ⟨k.os.trans h.os, k.tape.trans h.tape, k.output.trans h.output, Nat.le_trans h.size k.size, fun i o hi ho => k.old i o hi (h.old i o hi ho),
   fun i A T f hi hn => k.blk i A T f (h.blk i A T f hi hn) fun hb => (h.bx i hb).elim hn fun hs => by have := heap_lt hi; omega,
   fun i hi => (k.bx i hi).elim (fun hb => h.bx i hb) fun hs => .inr (Nat.le_trans h.size hs), fun hl => k.lt (h.lt hl)⟩
theorem kpO_t {A B' C : World} (h : KpO B Bx A B') (k : KpO B Bx B' C) : KpO B Bx A C := h.trans k
theorem KpO.ext (h : KpO B Bx w w') {W : World} (he : Ext W w) (hB : W.heap.size ≤ B) : Ext W w' :=
  ⟨h.os.trans he.os, h.tape.trans he.tape, h.output.trans he.output, Nat.le_trans he.size h.size, fun k hk => by
    obtain ⟨o, ho⟩ : ∃ o, w.heap[k]? = some o := ⟨_, Array.getElem?_eq_getElem (Nat.lt_of_lt_of_le hk he.size)⟩
    exact (h.old k o (by omega) ho).trans (ho.symm.trans (he.block k hk))⟩
theorem kpO_b {W0 : World} (hB : B ≤ W0.heap.size) (hbx : ∀ (W : World) (l : Nat) (o o' : Obj), W0.heap.size ≤ l → W.heap[l]? = some o → o.isCells = false → ∀ k, Bx (W.putObj l o') k → Bx W k) (W : World) (l : Nat) (o o' : Obj) (hl : W0.heap.size ≤ l) (h : W.heap[l]? = some o) (hc : o.isCells = false) (_ : o.isWalk = false) : KpO B Bx W (W.putObj l o') := by
  have hg := grownBy_putObj' W l o'
  refine ⟨hg.os, hg.tape, hg.output, hg.size, fun k o1 hk ho => (hg.block k (heap_lt ho) (fun e => by cases e; omega)).trans ho, fun k A T f hk hn => (hg.block k (heap_lt hk) (fun e => ?_)).trans hk, fun k hk => .inl (hbx W l o o' hl h hc k hk), fun hlt k hk => Nat.lt_of_lt_of_le (hlt k (hbx W l o o' hl h hc k hk)) hg.size⟩
  cases e
  rw [h] at hk; cases hk; cases hc
/-- A store into one block of Bx; new blocks. -/
theorem KpO.of_ext (h : Ext w w') (hbx : ∀ k, Bx w' k → Bx w k ∨ (w.heap.size ≤ k ∧ k < w'.heap.size)) : KpO B Bx w w' :=
  ⟨h.os, h.tape, h.output, h.size, fun k o _ ho => (h.block k (heap_lt ho)).trans ho, fun k A T f hk _ => (h.block k (heap_lt hk)).trans hk, fun k hk => (hbx k hk).imp id And.left, fun hl k hk => (hbx k hk).elim (fun hb => Nat.lt_of_lt_of_le (hl k hb) h.size) And.right⟩
theorem KpO.of_grown {row : Option Nat} (h : w.grownBy w' row) (hr : ∀ k, row = some k → B ≤ k ∧ Bx w k) (hbx : ∀ k, Bx w' k → Bx w k ∨ (w.heap.size ≤ k ∧ k < w'.heap.size)) : KpO B Bx w w' :=
  ⟨h.os, h.tape, h.output, h.size, fun k o hk ho => (h.block k (heap_lt ho) (fun e => by have := (hr k e.symm).1; omega)).trans ho, fun k A T f hk hn => (h.block k (heap_lt hk) (fun e => hn (hr k e.symm).2)).trans hk,
   fun k hk => (hbx k hk).imp id And.left, fun hl k hk => (hbx k hk).elim (fun hb => Nat.lt_of_lt_of_le (hl k hb) h.size) And.right⟩
theorem KpO.of_set {g j : Nat} {v : Value} (hg : g < w.heap.size) (hB : B ≤ g) (hb : Bx w g) (hbx : ∀ k, Bx (w.setCell ⟨g, j, none⟩ v) k → Bx w k) : KpO B Bx w (w.setCell ⟨g, j, none⟩ v) :=
  ⟨rfl, rfl, rfl, by simp [World.setCell], fun k o hk ho => (Below.heap_setCell w _ v k (fun (e : k = g) => by omega)).trans ho, fun k A T f hk hn => (Below.heap_setCell w _ v k (fun (e : k = g) => hn (by rw [e]; exact hb))).trans hk,
   fun k hk => .inl (hbx k hk), fun hl k hk => by have := hl k (hbx k hk); simpa [World.setCell] using this⟩
/-- A row of one's own stays beside a round. -/
theorem row_kpO {base n : Nat} {e : TypeId} {k : Nat} {v : Value} {xs : List Value} (h : w.ownsRow base e k v n xs) (hs : KpO B Bx w w') (he : ∀ g, v.ownBlock = some g → ¬ Bx w g) : w'.ownsRow base e k v n xs :=
  row_of_heap h fun _ _ _ ho hg => hs.blk _ _ _ _ hg (he _ ho)
theorem cell_kpO {g j : Nat} {u : Value} (hu : w.cell? ⟨g, j, none⟩ = some u) (hs : KpO B Bx w w') (he : ¬ Bx w g) : w'.cell? ⟨g, j, none⟩ = some u := by
  obtain ⟨A, T, f, h1, h2⟩ := Sort.cells_of_cell? hu
  have := hs.blk _ _ _ _ h1 he
  simp [World.cell?, this, h2]
/-- A slice stays where the blocks that it reads do. -/
theorem sl_kpO {k n : Nat} {v : Value} {xs : List Value} (h : Sl w k v n xs) (hs : KpO B Bx w w') (he : ∀ g, v.ownBlock = some g → ¬ Bx w g) : Sl w' k v n xs := by
  obtain ⟨A, C, rfl, h1, h2, h3, h4⟩ := h
  refine ⟨A, C, rfl, h1, h2, h3, fun hne => ?_⟩
  obtain ⟨b, o, rfl, hc⟩ := h4 hne
  exact ⟨b, o, rfl, fun j u hu => cell_kpO (hc j u hu) hs (he b rfl)⟩
end
end Go.QS
/- Contracts: slices.AppendSeq and slices.Collect over an iterator that keeps its state in cells of its own. -/
namespace Go.Proofs.Ytbmakajadelckaa
open Go Go.RowKit Go.QS
set_option linter.unusedVariables false
attribute [local go_sem] Oper.semAt_some

abbrev encPr (p : Pr) : Array Value := #[.agg #[str p.1, str p.2]]
theorem infoPr : ∃ i z, Try.prog.info? 40 = some i ∧ i.zero = some z ∧ i.size = 2 ∧ i.bytes = 32 ∧ z.cells.size = 2 := info_of (z := .agg #[.string ⟨#[]⟩, .string ⟨#[]⟩]) (by kernel_rfl) rfl

set_option maxRecDepth 100000 in
set_option maxHeartbeats 2000000 in
theorem appendSeq_c (w : World) (τ : TypeId → Prop) (hτ1 : ¬ τ 40) (hτ2 : ¬ τ 27) (gf : Nat) (lb : Array Value) (eg : ∀ args w, (callFunc gf args).run Try.prog w = .ok (.enter gf args) w)
    (L : List Pr) (hL9 : L.length ≤ 1000000) (Sp : List Pr → Prop) (hseq : SeqR Fence.wide 4 Try.prog gf lb encPr (StT w.heap.size τ) (KpT w.heap.size τ) (fun xs => xs = L) Sp L.length (fun W => Ext w W)) :
    Calls Try.prog 88 #[.slice none 0 0, .func (.func gf) #[] lb] w fun e w' => ∃ v', e = .returned v' ∧ w'.ownsRow w.heap.size 40 2 v' L.length (flat L) ∧ Ext w w' := by
  have HS := Lib.hid hseq
  clear hseq
  refine calls_of_wp_marks Try.func88 rfl ?_
  simp only [Try.ntmps88, List.size_toArray, List.length_cons, List.length_nil, Nat.reduceAdd, Nat.reduceSub, Array.replicate_succ, Array.replicate_zero, List.push_toArray, List.append_toArray, List.nil_append, List.cons_append]
  repeat' (first | go_skip | go_guarded | go_step)
  obtain ⟨wa, hwa⟩ : ∃ wa, wa = w.alloc (.cells #[.slice none 0 0] 27) := ⟨_, rfl⟩
  obtain ⟨gb, hgb⟩ : ∃ gb, gb = w.heap.size := ⟨_, rfl⟩
  have hEa : Ext w wa := by rw [hwa]; exact (Ext.refl w).alloc (Nat.le_refl _) _
  have hba := heap_newG w (.cells #[.slice none 0 0] 27)
  have hsz : wa.heap.size = gb + 1 := by rw [hwa, hgb]; simp
  rw [← hwa, ← hgb] at hba
  have hwa' := hwa.symm
  have hgle : w.heap.size ≤ gb := Nat.le_of_eq hgb.symm
  have hwle : w.heap.size ≤ wa.heap.size := by omega
  rw [hwa', ← hgb]
  clear hwa hwa' hgb
  refine (wpIn_wide (n := 5)).1 ?_
  refine wpIn_rangeFunc_R (F := Fence.wide) (n := 5) rfl (by decide) (gf := gf) (lb := lb) rfl trivial eg HS.out
    (fun k o h hk h1 h2 => stT_other h h1 h2) kpT_t (fun W l o o' hl h1 h2 h3 => kpT_b hwle W l o o' hl h1 h2 h3) (fun r => (hEa.alloc (by omega) _).alloc (by simp; omega) _) (fun _ => rfl)
    (fun pre W => (∃ v, W.heap[gb]? = some (.cells #[v] 27 (0, 0)) ∧ W.ownsRow w.heap.size 40 2 v pre.length (flat pre)) ∧ Ext w W)
    (fun _ _ _ => False)
    (fun s A B row hs hg hr => ?hI) (fun _ s A B row hs hg hr => hs) (fun s A B hs ht => ?hIs) (fun _ _ _ _ h _ => h) ⟨⟨_, hba, World.ownsRow_nil _ _ _ _⟩, hEa⟩
    (fun x a' W => ∃ Bx, gb < Bx ∧ W.heap[Bx]? = some (.cells #[str x.1, str x.2] 40 (0, 0)) ∧ a' = { tmps := #[.slice none 0 0, .func (.func gf) #[] lb, ptr gb, undef, .slice none 0 0, ptr Bx, .func (.func gf) #[] lb, .agg #[str x.1, str x.2], undef, undef, undef, undef, undef], defers := [] })
    (fun x a' s A B row hs hg hr => ?hAx) ?assign ?body ?done ?stop
  case hI =>
    obtain ⟨⟨v, h1, h2⟩, h3⟩ := hs
    have hr' : ∀ r, row = some r → ∃ o : Obj, A.heap[r]? = some o ∧ o.isCells = false := fun r e => (hr r e).2
    exact ⟨⟨v, heap_own h1 hg hr', row_own h2 hg hr'⟩, ext_own h3 hg hwle (fun r e => (hr r e).1)⟩
  case hIs =>
    obtain ⟨⟨v, h1, h2⟩, h3⟩ := hs
    exact ⟨⟨v, stT_heap ht h1 hτ2, row_stT h2 ht hτ1⟩, stT_ext ht h3 (Nat.le_refl _)⟩
  case hAx =>
    obtain ⟨Bx, h1, h2, h3⟩ := hs
    exact ⟨Bx, h1, heap_own h2 hg (fun r e => (hr r e).2), h3⟩
  case assign =>
    rintro l pre x W K ⟨⟨v, h1, h2⟩, h3⟩ hK
    have hl := heap_lt h1
    repeat' (first | gi_guarded | gi_step)
    refine hK _ _ ((KeepsOthers.alloc _ _).from _) (KeepQ.of_ext ((Ext.refl W).alloc (Nat.le_refl _) _)) ⟨⟨v, box_extG h1 ((Ext.refl W).alloc (Nat.le_refl _) _), row_extG h2 ((Ext.refl W).alloc (Nat.le_refl _) _)⟩, h3.alloc h3.size _⟩ ⟨W.heap.size, hl, heap_newG _ _, rfl⟩
  case body =>
    rintro l pre x a' W hl ⟨r, hr⟩ ⟨⟨v, h1, h2⟩, h3⟩ ⟨Bx, hBx, hbx, rfl⟩ hlt
    have hl1 := heap_lt h1
    have c0 : W.cell? ⟨gb, 0, none⟩ = some v := by simp [World.cell?, h1]
    have cf : W.frozen? ⟨gb, 0, none⟩ = false := by simp [World.frozen?, h1]
    have x0 : W.cell? ⟨Bx, 0, none⟩ = some (str x.1) := by simp [World.cell?, hbx]
    have x1 : W.cell? ⟨Bx, 1, none⟩ = some (str x.2) := by simp [World.cell?, hbx]
    have hne : v.ownBlock ≠ some gb := fun e => by
      obtain ⟨_, A, f, h⟩ := row_is h2 e
      rw [h1] at h; cases h
    have hvb : ∀ k, v.ownBlock = some k → w.heap.size ≤ k ∧ ∀ o, W.heap[k]? = some o → ¬ inT τ o ∧ o.isCells = true := fun k e => by
      obtain ⟨hb, A, f, h⟩ := row_is h2 e
      exact ⟨hb, fun o ho => by rw [h] at ho; cases ho; exact ⟨not_inT hτ1, rfl⟩⟩
    have hvl : ∀ k, v.ownBlock = some k → k < W.heap.size := fun k e => by
      obtain ⟨hb, A, f, h⟩ := row_is h2 e
      exact heap_lt h
    have hvs : ∃ A C, v = .slice A pre.length C := by
      rcases h2.2 with ⟨rfl, e⟩ | ⟨g, cap, cur, rfl, _⟩
      · exact ⟨none, 0, by rw [e]⟩
      · exact ⟨_, _, rfl⟩
    have HI := Lib.hid (And.intro h1 (And.intro h2 (And.intro h3 (And.intro hne (And.intro hvb hvl)))))
    clear h1 h2 h3 hr hbx hne hvb hvl
    obtain ⟨Av, Cv, rfl⟩ := hvs
    repeat' (first
      | (gi_at_builtin; refine wpListIn_app rfl (.tmp 8) (.tmp 10) _ rfl w.heap.size 40 2 32 Try.underlying27 infoPr (by decide) (.slice Av pre.length Cv) pre.length (flat pre) rfl (row_extG HI.out.2.1 ((Ext.refl W).alloc (Nat.le_refl _) _)) _ 1 1 [str x.1, str x.2] rfl rfl (Seg.new _ [_, _] _ rfl) (by intro u hu; simp at hu; rcases hu with rfl | rfl <;> rfl) (by unfold maxLen; omega) (by omega) (by have := HI.out.2.2.1.size; simp; omega) ?_
         intro v5 w5 hown5 hg5 hn5
         have h5 : w5.heap[gb]? = some (.cells #[_] 27 (0, 0)) := (hg5.block gb (by simp; omega) (fun e => HI.out.2.2.2.1 e.symm)).trans (box_extG HI.out.1 ((Ext.refl W).alloc (Nat.le_refl _) _))
         have hl5 := heap_lt h5
         have c5 : w5.cell? ⟨gb, 0, none⟩ = some (.slice Av pre.length Cv) := by simp [World.cell?, h5]
         have f5 : w5.frozen? ⟨gb, 0, none⟩ = false := by simp [World.frozen?, h5]
         obtain ⟨A5, C5, rfl⟩ : ∃ A C, v5 = .slice A (pre.length + 1) C := by
           rcases hown5.2 with ⟨rfl, e⟩ | ⟨g, cap, cur, rfl, _⟩
           · omega
           · exact ⟨_, _, rfl⟩
         have H5 := Lib.hid (And.intro h5 (And.intro hown5 (And.intro hg5 hn5)))
         clear h5 hown5 hg5 hn5)
      | gi_guarded | gi_step)
    have hWa : Ext W (W.alloc (.cells #[str x.1, str x.2] 40)) := (Ext.refl W).alloc (Nat.le_refl _) _
    have hvb' : ∀ k, (Value.slice Av pre.length Cv).ownBlock = some k → w.heap.size ≤ k ∧ ∀ o, (W.alloc (.cells #[str x.1, str x.2] 40)).heap[k]? = some o → ¬ inT τ o ∧ o.isCells = true := fun k e =>
      ⟨(HI.out.2.2.2.2.1 k e).1, fun o ho => (HI.out.2.2.2.2.1 k e).2 o ((hWa.block k (HI.out.2.2.2.2.2 k e)).symm.trans ho)⟩
    refine ⟨(((KeepsOthers.alloc W _).trans (KeepsOthers.of_grownBy H5.out.2.2.1 (fun j o e ho => ((hvb' j e).2 o ho).2))).trans (KeepsOthers.setCell _ _ _)).from _,
      ((KeepQ.of_ext hWa).trans (kpT_grown H5.out.2.2.1 (fun k e => ⟨(hvb' k e).1, fun o ho => ((hvb' k e).2 o ho).1⟩))).trans (kpT_box _ H5.out.1 0 _ hgle hτ2), ⟨_, heap_set H5.out.1 0 _, ?_⟩,
      (((HI.out.2.2.1.alloc HI.out.2.2.1.size _).grown H5.out.2.2.1 (by have := HI.out.2.2.1.size; simp; omega) (fun k e => (hvb' k e).1))).setCell hgle _⟩
    rw [List.length_append, flat_append, flat_cons, flat_nil]
    refine row_of_heap H5.out.2.1 (fun g A f e hg => (Below.heap_setCell _ _ _ g ?_).trans hg)
    intro e2
    subst e2
    rw [H5.out.1] at hg; cases hg
  case done =>
    rintro D xs W hD rfl ⟨⟨v, h1, h2⟩, h3⟩ hK
    have hl1 := heap_lt h1
    have c0 : W.cell? ⟨gb, 0, none⟩ = some v := by simp [World.cell?, h1]
    have HI := Lib.hid (And.intro h1 (And.intro h2 h3))
    have HK := Lib.hid hK
    clear h1 h2 h3 hK
    repeat' (first | go_skip | go_guarded | go_step)
    have hg := grownBy_putObj' W D (.deferred none)
    have hr : ∀ r, some D = some r → ∃ o : Obj, W.heap[r]? = some o ∧ o.isCells = false := fun r e => by cases e; exact ⟨_, HK.out, rfl⟩
    exact postM_ret1 (results_tmp rfl _ _ _) rfl HK.out ⟨_, rfl, row_own HI.out.2.1 hg hr, ext_own HI.out.2.2 hg hwle (fun r e => by cases e; exact hD)⟩
  case stop =>
    rintro D c pre W _ _ h
    exact h.elim

theorem collect_c (w : World) (τ : TypeId → Prop) (hτ1 : ¬ τ 40) (hτ2 : ¬ τ 27) (gf : Nat) (lb : Array Value) (eg : ∀ args w, (callFunc gf args).run Try.prog w = .ok (.enter gf args) w)
    (L : List Pr) (hL9 : L.length ≤ 1000000) (Sp : List Pr → Prop) (hseq : SeqR Fence.wide 4 Try.prog gf lb encPr (StT w.heap.size τ) (KpT w.heap.size τ) (fun xs => xs = L) Sp L.length (fun W => Ext w W)) :
    Calls Try.prog 53 #[.func (.func gf) #[] lb] w fun e w' => ∃ v', e = .returned v' ∧ w'.ownsRow w.heap.size 40 2 v' L.length (flat L) ∧ Ext w w' := by
  have HS := Lib.hid (appendSeq_c w τ hτ1 hτ2 gf lb eg L hL9 Sp hseq)
  clear hseq
  go_enter Try.func53, Try.ntmps53
  repeat' (first | (go_at_call 88; refine HS.out.mono ?_; rintro e w1 ⟨v1, rfl, h1, h2⟩; replace h1 := Lib.hid h1; replace h2 := Lib.hid h2; go_simp) | go_skip | go_guarded | go_step)
  go_ret
  exact ⟨_, rfl, h1.out, h2.out⟩
end Go.Proofs.Ytbmakajadelckaa
/- Contracts: a walk of no trie: the cursor's methods, All's iterator. -/
namespace Go.Proofs.Ytbmakajadelckaa
open Go.RowKit Go.QS Go.QS.Nk
set_option linter.unusedVariables false

set_option maxRecDepth 100000 in
theorem wnext_nil (w : World) : Calls Try.prog 15 #[nil0] w fun e w' => e = .returned (.tuple #[.agg #[str [], str []], .bool false]) ∧ Ext w w' := by
  go_enter Try.func15, Try.ntmps15
  repeat' (first | go_skip | go_guarded | go_step)
  (try simp only [Exit.inBlock, Exit.then])
  refine bodyPost_ret_by (results_rowT rfl _ _ _ _ _ _ _ rfl (heap_newG w _) Try.underlying40 rfl (by kernel_rfl)) rfl ?_
  exact ⟨rfl, (Ext.refl w).alloc (Nat.le_refl _) _⟩
set_option maxRecDepth 100000 in
theorem wcopy_nil (w : World) : Calls Try.prog 22 #[nil0] w fun e w' => e = .returned nil0 ∧ Ext w w' := by
  go_enter Try.func22, Try.ntmps22
  repeat' (first | go_skip | go_guarded | go_step)
  go_ret
  exact ⟨rfl, Ext.refl _⟩
set_option maxRecDepth 100000 in
theorem wdepth_nil (w : World) : Calls Try.prog 17 #[nil0] w fun e w' => e = .returned (.int .i64 0) ∧ Ext w w' := by
  go_enter Try.func17, Try.ntmps17
  repeat' (first | go_skip | go_guarded | go_step)
  go_ret
  exact ⟨rfl, Ext.refl _⟩
set_option maxRecDepth 100000 in
set_option maxHeartbeats 1000000 in
/-- All's iterator of no trie asks nothing. -/
theorem alln_c (w : World) (y : Value) (k0 : Nat) (hk : w.cell? ⟨k0, 0, none⟩ = some nil0) :
    Calls Try.prog 52 #[y, ptr k0] w fun e w' => (∃ v, e = .returned v) ∧ Ext w w' := by
  have HN := Lib.hid (wnew_c w nil0 (.mk false [] []) (.inl ⟨rfl, rfl⟩))
  have hkl := World.block_lt_of_cell? w _ hk
  go_enter Try.func52, Try.ntmps52
  repeat' (first | go_at_call 14 | go_skip | go_guarded | go_step)
  refine HN.out.mono ?_
  rintro e w1 ⟨c, V, m, rfl, hC, f1⟩
  have HX := Lib.hid (wnext_c w w1 c V [m] [([], [])] 0 hC (by decide))
  have HF := Lib.hid f1
  clear hC f1 HN hk hkl
  go_simp
  repeat' (go_not_at_region 1; (first | go_skip | go_guarded | go_step))
  go_loopg [] 1 (fun gk wr => wr = w1)
  case atStart => exact rfl
  case round =>
    subst hrel
    repeat' (first | go_at_call 15 | go_skip | go_guarded | go_step)
    refine HX.out.mono ?_
    rintro e w2 ⟨V2, ms2, st2, d2, hC2, hwt2, hT2, hN2, ⟨hz, rfl, _, _⟩ | ⟨p', hcom, rfl⟩⟩
    · have H2 := Lib.hid hC2.ext
      clear hC2 hT2 hN2 hwt2 hz HX
      go_simp
      repeat' (first | go_skip | go_guarded | go_step)
      first | refine bodyPost_ret (results_none rfl _ _ _) rfl ?_ | refine bodyPost_end (results_none rfl _ _ _) rfl ?_
      exact ⟨⟨_, rfl⟩, H2.out.alloc H2.out.size _⟩
    · simp [comB, walkL] at hcom
theorem all_enters : ∀ args w, (callFunc 52 args).run Try.prog w = .ok (.enter 52 args) w := enters_of Try.func52 (by kernel_rfl) rfl
theorem alln_seq (n : Nat) (W0 : World) (τ : TypeId → Prop) (k0 : Nat) (Kp : World → World → Prop) :
    SeqR Fence.wide n Try.prog 52 #[ptr k0] encPr (StT W0.heap.size τ) Kp (fun xs => xs = []) (fun pre => False) 0 (fun W => W.cell? ⟨k0, 0, none⟩ = some nil0) := by
  intro l J Jx W hW hJ _ _ h0
  refine callsIn_wide.2 ((alln_c W _ k0 hW).mono ?_)
  rintro e w' ⟨h1, h2⟩
  exact ⟨h1, .inl ⟨[], rfl, hJ _ _ _ h0 (KeepQ.of_ext h2)⟩⟩
set_option maxRecDepth 100000 in
theorem walln_c (w : World) : Calls Try.prog 18 #[nil0] w fun e w' => ∃ k0, e = .returned (.func (.func 52) #[] #[ptr k0]) ∧ w'.cell? ⟨k0, 0, none⟩ = some nil0 ∧ Ext w w' := by
  go_enter Try.func18, Try.ntmps18
  repeat' (first | go_skip | go_guarded | go_step)
  go_ret
  exact ⟨w.heap.size, rfl, by rw [World.cell?_alloc_at _ _ _ _ rfl]; rfl, (Ext.refl w).alloc (Nat.le_refl _) _⟩
end Go.Proofs.Ytbmakajadelckaa
