/- Texts joined. -/
import Derived.Test.YtbmakajadelckaaM27
import Derived.RangeFuncNested
import Derived.RangeFuncCalls
import Derived.Sort.LoopGhostIn
import Derived.Test.YtbmakajadelckaaM26
import Derived.Test.YtbmakajadelckaaM07
import Derived.Test.YtbmakajadelckaaM06
import Derived.Deep.LoopGhost
set_option linter.unusedVariables false
set_option linter.unusedSimpArgs false
/- Contracts: slices.AppendSeq and slices.Collect over an iterator that keeps its state in cells of its own. -/
namespace Go.Proofs.Ytbmakajadelckaa
open Go Go.RowKit Go.QS
set_option linter.unusedVariables false
attribute [local go_sem] Oper.semAt_some

abbrev encPr (p : Pr) : Array Value := #[.agg #[str p.1, str p.2]]
theorem infoPr : ∃ i z, Try.prog.info? 40 = some i ∧ i.zero = some z ∧ i.size = 2 ∧ i.bytes = 32 ∧ z.cells.size = 2 := info_of (z := .agg #[.string ⟨#[]⟩, .string ⟨#[]⟩]) (by kernel_rfl) rfl

set_option maxRecDepth 100000 in
set_option maxHeartbeats 2000000 in
theorem appendSeq_c (w : World) (τ : TypeId → Prop) (hτ1 : ¬ τ 40) (hτ2 : ¬ τ 27) (gf : Nat) (lb : Array Value) (eg : ∀ args w, (callFunc gf args).run Try.prog w = .ok (.enter gf args) w)
    (L : List Pr) (hL9 : L.length ≤ 1000000) (Sp : List Pr → Prop) (hseq : SeqR Fence.wide 4 Try.prog gf lb encPr (StT w.heap.size τ) (KpT w.heap.size τ) (fun xs => xs = L) Sp L.length (fun W => Ext w W)) :
    Calls Try.prog 88 #[.slice none 0 0, .func (.func gf) #[] lb] w fun e w' => ∃ v', e = .returned v' ∧ w'.ownsRow w.heap.size 40 2 v' L.length (flat L) ∧ Ext w w' := by
  have HS := Lib.hid hseq
  clear hseq
  refine calls_of_wp_marks Try.func88 rfl ?_
  simp only [Try.ntmps88, List.size_toArray, List.length_cons, List.length_nil, Nat.reduceAdd, Nat.reduceSub, Array.replicate_succ, Array.replicate_zero, List.push_toArray, List.append_toArray, List.nil_append, List.cons_append]
  repeat' (first | go_skip | go_guarded | go_step)
  obtain ⟨wa, hwa⟩ : ∃ wa, wa = w.alloc (.cells #[.slice none 0 0] 27) := ⟨_, rfl⟩
  obtain ⟨gb, hgb⟩ : ∃ gb, gb = w.heap.size := ⟨_, rfl⟩
  have hEa : Ext w wa := by rw [hwa]; exact (Ext.refl w).alloc (Nat.le_refl _) _
  have hba := heap_newG w (.cells #[.slice none 0 0] 27)
  have hsz : wa.heap.size = gb + 1 := by rw [hwa, hgb]; simp
  rw [← hwa, ← hgb] at hba
  have hwa' := hwa.symm
  have hgle : w.heap.size ≤ gb := Nat.le_of_eq hgb.symm
  have hwle : w.heap.size ≤ wa.heap.size := by omega
  rw [hwa', ← hgb]
  clear hwa hwa' hgb
  refine (wpIn_wide (n := 5)).1 ?_
  refine wpIn_rangeFunc_R (F := Fence.wide) (n := 5) rfl (by decide) (gf := gf) (lb := lb) rfl trivial eg HS.out
    (fun k o h hk h1 h2 => stT_other h h1 h2) kpT_t (fun W l o o' hl h1 h2 h3 => kpT_b hwle W l o o' hl h1 h2 h3) (fun r => (hEa.alloc (by omega) _).alloc (by simp; omega) _) (fun _ => rfl)
    (fun pre W => (∃ v, W.heap[gb]? = some (.cells #[v] 27 (0, 0)) ∧ W.ownsRow w.heap.size 40 2 v pre.length (flat pre)) ∧ Ext w W)
    (fun _ _ _ => False)
    (fun s A B row hs hg hr => ?hI) (fun _ s A B row hs hg hr => hs) (fun s A B hs ht => ?hIs) (fun _ _ _ _ h _ => h) ⟨⟨_, hba, World.ownsRow_nil _ _ _ _⟩, hEa⟩
    (fun x a' W => ∃ Bx, gb < Bx ∧ W.heap[Bx]? = some (.cells #[str x.1, str x.2] 40 (0, 0)) ∧ a' = { tmps := #[.slice none 0 0, .func (.func gf) #[] lb, ptr gb, undef, .slice none 0 0, ptr Bx, .func (.func gf) #[] lb, .agg #[str x.1, str x.2], undef, undef, undef, undef, undef], defers := [] })
    (fun x a' s A B row hs hg hr => ?hAx) ?assign ?body ?done ?stop
  case hI =>
    obtain ⟨⟨v, h1, h2⟩, h3⟩ := hs
    have hr' : ∀ r, row = some r → ∃ o : Obj, A.heap[r]? = some o ∧ o.isCells = false := fun r e => (hr r e).2
    exact ⟨⟨v, heap_own h1 hg hr', row_own h2 hg hr'⟩, ext_own h3 hg hwle (fun r e => (hr r e).1)⟩
  case hIs =>
    obtain ⟨⟨v, h1, h2⟩, h3⟩ := hs
    exact ⟨⟨v, stT_heap ht h1 hτ2, row_stT h2 ht hτ1⟩, stT_ext ht h3 (Nat.le_refl _)⟩
  case hAx =>
    obtain ⟨Bx, h1, h2, h3⟩ := hs
    exact ⟨Bx, h1, heap_own h2 hg (fun r e => (hr r e).2), h3⟩
  case assign =>
    rintro l pre x W K ⟨⟨v, h1, h2⟩, h3⟩ hK
    have hl := heap_lt h1
    repeat' (first | gi_guarded | gi_step)
    refine hK _ _ ((KeepsOthers.alloc _ _).from _) (KeepQ.of_ext ((Ext.refl W).alloc (Nat.le_refl _) _)) ⟨⟨v, box_extG h1 ((Ext.refl W).alloc (Nat.le_refl _) _), row_extG h2 ((Ext.refl W).alloc (Nat.le_refl _) _)⟩, h3.alloc h3.size _⟩ ⟨W.heap.size, hl, heap_newG _ _, rfl⟩
  case body =>
    rintro l pre x a' W hl ⟨r, hr⟩ ⟨⟨v, h1, h2⟩, h3⟩ ⟨Bx, hBx, hbx, rfl⟩ hlt
    have hl1 := heap_lt h1
    have c0 : W.cell? ⟨gb, 0, none⟩ = some v := by simp [World.cell?, h1]
    have cf : W.frozen? ⟨gb, 0, none⟩ = false := by simp [World.frozen?, h1]
    have x0 : W.cell? ⟨Bx, 0, none⟩ = some (str x.1) := by simp [World.cell?, hbx]
    have x1 : W.cell? ⟨Bx, 1, none⟩ = some (str x.2) := by simp [World.cell?, hbx]
    have hne : v.ownBlock ≠ some gb := fun e => by
      obtain ⟨_, A, f, h⟩ := row_is h2 e
      rw [h1] at h; cases h
    have hvb : ∀ k, v.ownBlock = some k → w.heap.size ≤ k ∧ ∀ o, W.heap[k]? = some o → ¬ inT τ o ∧ o.isCells = true := fun k e => by
      obtain ⟨hb, A, f, h⟩ := row_is h2 e
      exact ⟨hb, fun o ho => by rw [h] at ho; cases ho; exact ⟨not_inT hτ1, rfl⟩⟩
    have hvl : ∀ k, v.ownBlock = some k → k < W.heap.size := fun k e => by
      obtain ⟨hb, A, f, h⟩ := row_is h2 e
      exact heap_lt h
    have hvs : ∃ A C, v = .slice A pre.length C := by
      rcases h2.2 with ⟨rfl, e⟩ | ⟨g, cap, cur, rfl, _⟩
      · exact ⟨none, 0, by rw [e]⟩
      · exact ⟨_, _, rfl⟩
    have HI := Lib.hid (And.intro h1 (And.intro h2 (And.intro h3 (And.intro hne (And.intro hvb hvl)))))
    clear h1 h2 h3 hr hbx hne hvb hvl
    obtain ⟨Av, Cv, rfl⟩ := hvs
    repeat' (first
      | (gi_at_builtin; refine wpListIn_app rfl (.tmp 8) (.tmp 10) _ rfl w.heap.size 40 2 32 Try.underlying27 infoPr (by decide) (.slice Av pre.length Cv) pre.length (flat pre) rfl (row_extG HI.out.2.1 ((Ext.refl W).alloc (Nat.le_refl _) _)) _ 1 1 [str x.1, str x.2] rfl rfl (Seg.new _ [_, _] _ rfl) (by intro u hu; simp at hu; rcases hu with rfl | rfl <;> rfl) (by unfold maxLen; omega) (by omega) (by have := HI.out.2.2.1.size; simp; omega) ?_
         intro v5 w5 hown5 hg5 hn5
         have h5 : w5.heap[gb]? = some (.cells #[_] 27 (0, 0)) := (hg5.block gb (by simp; omega) (fun e => HI.out.2.2.2.1 e.symm)).trans (box_extG HI.out.1 ((Ext.refl W).alloc (Nat.le_refl _) _))
         have hl5 := heap_lt h5
         have c5 : w5.cell? ⟨gb, 0, none⟩ = some (.slice Av pre.length Cv) := by simp [World.cell?, h5]
         have f5 : w5.frozen? ⟨gb, 0, none⟩ = false := by simp [World.frozen?, h5]
         obtain ⟨A5, C5, rfl⟩ : ∃ A C, v5 = .slice A (pre.length + 1) C := by
           rcases hown5.2 with ⟨rfl, e⟩ | ⟨g, cap, cur, rfl, _⟩
           · omega
           · exact ⟨_, _, rfl⟩
         have H5 := Lib.hid (And.intro h5 (And.intro hown5 (And.intro hg5 hn5)))
         clear h5 hown5 hg5 hn5)
      | gi_guarded | gi_step)
    have hWa : Ext W (W.alloc (.cells #[str x.1, str x.2] 40)) := (Ext.refl W).alloc (Nat.le_refl _) _
    have hvb' : ∀ k, (Value.slice Av pre.length Cv).ownBlock = some k → w.heap.size ≤ k ∧ ∀ o, (W.alloc (.cells #[str x.1, str x.2] 40)).heap[k]? = some o → ¬ inT τ o ∧ o.isCells = true := fun k e =>
      ⟨(HI.out.2.2.2.2.1 k e).1, fun o ho => (HI.out.2.2.2.2.1 k e).2 o ((hWa.block k (HI.out.2.2.2.2.2 k e)).symm.trans ho)⟩
    refine ⟨(((KeepsOthers.alloc W _).trans (KeepsOthers.of_grownBy H5.out.2.2.1 (fun j o e ho => ((hvb' j e).2 o ho).2))).trans (KeepsOthers.setCell _ _ _)).from _,
      ((KeepQ.of_ext hWa).trans (kpT_grown H5.out.2.2.1 (fun k e => ⟨(hvb' k e).1, fun o ho => ((hvb' k e).2 o ho).1⟩))).trans (kpT_box _ H5.out.1 0 _ hgle hτ2), ⟨_, heap_set H5.out.1 0 _, ?_⟩,
      (((HI.out.2.2.1.alloc HI.out.2.2.1.size _).grown H5.out.2.2.1 (by have := HI.out.2.2.1.size; simp; omega) (fun k e => (hvb' k e).1))).setCell hgle _⟩
    rw [List.length_append, flat_append, flat_cons, flat_nil]
    refine row_of_heap H5.out.2.1 (fun g A f e hg => (Below.heap_setCell _ _ _ g ?_).trans hg)
    intro e2
    subst e2
    rw [H5.out.1] at hg; cases hg
  case done =>
    rintro D xs W hD rfl ⟨⟨v, h1, h2⟩, h3⟩ hK
    have hl1 := heap_lt h1
    have c0 : W.cell? ⟨gb, 0, none⟩ = some v := by simp [World.cell?, h1]
    have HI := Lib.hid (And.intro h1 (And.intro h2 h3))
    have HK := Lib.hid hK
    clear h1 h2 h3 hK
    repeat' (first | go_skip | go_guarded | go_step)
    have hg := grownBy_putObj' W D (.deferred none)
    have hr : ∀ r, some D = some r → ∃ o : Obj, W.heap[r]? = some o ∧ o.isCells = false := fun r e => by cases e; exact ⟨_, HK.out, rfl⟩
    exact postM_ret1 (results_tmp rfl _ _ _) rfl HK.out ⟨_, rfl, row_own HI.out.2.1 hg hr, ext_own HI.out.2.2 hg hwle (fun r e => by cases e; exact hD)⟩
  case stop =>
    rintro D c pre W _ _ h
    exact h.elim

theorem collect_c (w : World) (τ : TypeId → Prop) (hτ1 : ¬ τ 40) (hτ2 : ¬ τ 27) (gf : Nat) (lb : Array Value) (eg : ∀ args w, (callFunc gf args).run Try.prog w = .ok (.enter gf args) w)
    (L : List Pr) (hL9 : L.length ≤ 1000000) (Sp : List Pr → Prop) (hseq : SeqR Fence.wide 4 Try.prog gf lb encPr (StT w.heap.size τ) (KpT w.heap.size τ) (fun xs => xs = L) Sp L.length (fun W => Ext w W)) :
    Calls Try.prog 53 #[.func (.func gf) #[] lb] w fun e w' => ∃ v', e = .returned v' ∧ w'.ownsRow w.heap.size 40 2 v' L.length (flat L) ∧ Ext w w' := by
  have HS := Lib.hid (appendSeq_c w τ hτ1 hτ2 gf lb eg L hL9 Sp hseq)
  clear hseq
  go_enter Try.func53, Try.ntmps53
  repeat' (first | (go_at_call 88; refine HS.out.mono ?_; rintro e w1 ⟨v1, rfl, h1, h2⟩; replace h1 := Lib.hid h1; replace h2 := Lib.hid h2; go_simp) | go_skip | go_guarded | go_step)
  go_ret
  exact ⟨_, rfl, h1.out, h2.out⟩
end Go.Proofs.Ytbmakajadelckaa
/- Contracts: a walk of no trie: the cursor's methods, All's iterator. -/
namespace Go.Proofs.Ytbmakajadelckaa
open Go.RowKit Go.QS Go.QS.Nk
set_option linter.unusedVariables false

set_option maxRecDepth 100000 in
theorem wnext_nil (w : World) : Calls Try.prog 15 #[nil0] w fun e w' => e = .returned (.tuple #[.agg #[str [], str []], .bool false]) ∧ Ext w w' := by
  go_enter Try.func15, Try.ntmps15
  repeat' (first | go_skip | go_guarded | go_step)
  (try simp only [Exit.inBlock, Exit.then])
  refine bodyPost_ret_by (results_rowT rfl _ _ _ _ _ _ _ rfl (heap_newG w _) Try.underlying40 rfl (by kernel_rfl)) rfl ?_
  exact ⟨rfl, (Ext.refl w).alloc (Nat.le_refl _) _⟩
set_option maxRecDepth 100000 in
theorem wcopy_nil (w : World) : Calls Try.prog 22 #[nil0] w fun e w' => e = .returned nil0 ∧ Ext w w' := by
  go_enter Try.func22, Try.ntmps22
  repeat' (first | go_skip | go_guarded | go_step)
  go_ret
  exact ⟨rfl, Ext.refl _⟩
set_option maxRecDepth 100000 in
theorem wdepth_nil (w : World) : Calls Try.prog 17 #[nil0] w fun e w' => e = .returned (.int .i64 0) ∧ Ext w w' := by
  go_enter Try.func17, Try.ntmps17
  repeat' (first | go_skip | go_guarded | go_step)
  go_ret
  exact ⟨rfl, Ext.refl _⟩
set_option maxRecDepth 100000 in
set_option maxHeartbeats 1000000 in
/-- All's iterator of no trie asks nothing. -/
theorem alln_c (w : World) (y : Value) (k0 : Nat) (hk : w.cell? ⟨k0, 0, none⟩ = some nil0) :
    Calls Try.prog 52 #[y, ptr k0] w fun e w' => (∃ v, e = .returned v) ∧ Ext w w' := by
  have HN := Lib.hid (wnew_c w nil0 (.mk false [] []) (.inl ⟨rfl, rfl⟩))
  have hkl := World.block_lt_of_cell? w _ hk
  go_enter Try.func52, Try.ntmps52
  repeat' (first | go_at_call 14 | go_skip | go_guarded | go_step)
  refine HN.out.mono ?_
  rintro e w1 ⟨c, V, m, rfl, hC, f1⟩
  have HX := Lib.hid (wnext_c w w1 c V [m] [([], [])] 0 hC (by decide))
  have HF := Lib.hid f1
  clear hC f1 HN hk hkl
  go_simp
  repeat' (go_not_at_region 1; (first | go_skip | go_guarded | go_step))
  go_loopg [] 1 (fun gk wr => wr = w1)
  case atStart => exact rfl
  case round =>
    subst hrel
    repeat' (first | go_at_call 15 | go_skip | go_guarded | go_step)
    refine HX.out.mono ?_
    rintro e w2 ⟨V2, ms2, st2, d2, hC2, hwt2, hT2, hN2, ⟨hz, rfl, _, _⟩ | ⟨p', hcom, rfl⟩⟩
    · have H2 := Lib.hid hC2.ext
      clear hC2 hT2 hN2 hwt2 hz HX
      go_simp
      repeat' (first | go_skip | go_guarded | go_step)
      first | refine bodyPost_ret (results_none rfl _ _ _) rfl ?_ | refine bodyPost_end (results_none rfl _ _ _) rfl ?_
      exact ⟨⟨_, rfl⟩, H2.out.alloc H2.out.size _⟩
    · simp [comB, walkL] at hcom
theorem all_enters : ∀ args w, (callFunc 52 args).run Try.prog w = .ok (.enter 52 args) w := enters_of Try.func52 (by kernel_rfl) rfl
theorem alln_seq (n : Nat) (W0 : World) (τ : TypeId → Prop) (k0 : Nat) (Kp : World → World → Prop) :
    SeqR Fence.wide n Try.prog 52 #[ptr k0] encPr (StT W0.heap.size τ) Kp (fun xs => xs = []) (fun pre => False) 0 (fun W => W.cell? ⟨k0, 0, none⟩ = some nil0) := by
  intro l J Jx W hW hJ _ _ h0
  refine callsIn_wide.2 ((alln_c W _ k0 hW).mono ?_)
  rintro e w' ⟨h1, h2⟩
  exact ⟨h1, .inl ⟨[], rfl, hJ _ _ _ h0 (KeepQ.of_ext h2)⟩⟩
set_option maxRecDepth 100000 in
theorem walln_c (w : World) : Calls Try.prog 18 #[nil0] w fun e w' => ∃ k0, e = .returned (.func (.func 52) #[] #[ptr k0]) ∧ w'.cell? ⟨k0, 0, none⟩ = some nil0 ∧ Ext w w' := by
  go_enter Try.func18, Try.ntmps18
  repeat' (first | go_skip | go_guarded | go_step)
  go_ret
  exact ⟨w.heap.size, rfl, by rw [World.cell?_alloc_at _ _ _ _ rfl]; rfl, (Ext.refl w).alloc (Nat.le_refl _) _⟩
end Go.Proofs.Ytbmakajadelckaa
/- Contracts: blocks that change places. -/
namespace Go.Proofs.Ytbmakajadelckaa.Pch
open Go.RowKit Go.QS
set_option linter.unusedVariables false

set_option maxRecDepth 100000 in
set_option maxHeartbeats 400000 in
theorem swap_c (base : Nat) (W : World) (cv : Value) (g cap n a b m : Nat) (P U M V S : List Pr) (hR : Rw base 40 W g cap (P ++ (U ++ (M ++ (V ++ S))))) (hn : n = (P ++ (U ++ (M ++ (V ++ S)))).length) (ha : a = P.length) (hb : b = P.length + (U.length + M.length)) (hm : m = U.length) (hmv : m = V.length) (h9 : n ≤ 1000000000) :
    Calls Try.prog 140 #[.slice (some ⟨g, 0, none⟩) n cap, .int .i64 a, .int .i64 b, .int .i64 m, cv] W fun e w' => e = .returned (.tuple #[]) ∧ Rw base 40 w' g cap (P ++ (V ++ (M ++ (U ++ S)))) ∧ W.grownBy w' (some g) := by
  have hbm : b + m ≤ n := by subst hn hb; rw [hmv]; simp; omega
  have hab : a + m ≤ b := by omega
  have HA : Hid (_ ∧ _ ∧ _ ∧ _ ∧ _ ∧ _) := Lib.hid ⟨hR, hn, ha, hb, hm, hmv⟩
  clear hR hn ha hb hm hmv
  go_enter Try.func140, Try.ntmps140
  repeat' go_step
  go_loopg [10] m (fun gk i wr => ∃ k : Nat, k + gk = m ∧ i = .int .i64 k ∧ Hid (Rw base 40 wr g cap (sw P U M V S k) ∧ W.grownBy wr (some g)))
  case atStart =>
    obtain ⟨hR, hn, ha, hb, hm, hmv⟩ := HA.out
    exact ⟨0, by omega, rfl, Lib.hid ⟨by rw [sw_zero]; exact hR, World.grownBy.refl _ _⟩⟩
  case round =>
    obtain ⟨k, hk, rfl, HR⟩ := hrel
    have Hk := Lib.hid hk
    by_cases hlt : k < m
    · obtain ⟨hR, hn, ha, hb, hm, hmv⟩ := HA.out
      obtain ⟨u, hu⟩ := get_of_lt U (show k < U.length by omega)
      obtain ⟨v, hv⟩ := get_of_lt V (show k < V.length by omega)
      have hg := sw_get (P := P) (M := M) (S := S) hu hv
      obtain ⟨p, hp⟩ : ∃ p, p = a + k := ⟨_, rfl⟩
      obtain ⟨q, hq⟩ : ∃ q, q = b + k := ⟨_, rfl⟩
      rw [← hb, ← ha, ← hp, ← hq] at hg
      obtain ⟨hx1, hx2⟩ := HR.out.1.get hg.1
      obtain ⟨hy1, hy2⟩ := HR.out.1.get hg.2
      have hst := sw_step (P := P) (M := M) (S := S) hu hv
      rw [← hb, ← ha, ← hp, ← hq] at hst
      have hfz := HR.out.1.free
      have hs1 : IntKind.i64.wrap ((a : Int) + (k : Int)) = (p : Int) := by rw [hp]; exact IntWalk.i64_in _ (by omega)
      have hs2 : IntKind.i64.wrap ((b : Int) + (k : Int)) = (q : Int) := by rw [hq]; exact IntWalk.i64_in _ (by omega)
      have hi1 : (p : Int) < (n : Int) := by omega
      have hi2 : (q : Int) < (n : Int) := by omega
      have q1 : p ≠ q := by omega
      have q2 : q ≠ p := by omega
      have q3 : p * 2 + 1 ≠ q * 2 := by omega
      have q4 : q * 2 + 1 ≠ p * 2 := by omega
      have q5 : p * 2 ≠ q * 2 + 1 := by omega
      have q6 : q * 2 ≠ p * 2 + 1 := by omega
      have hd : decide (k < m) = true := by simp [hlt]
      have HH : Hid (_ ∧ _ ∧ _) := Lib.hid ⟨hst, hp, hq⟩
      clear hR hn ha hb hm hmv hu hv hg hst hp hq hk
      repeat' go_step
      go_region
      repeat' go_step
      go_roundg (gk - 1)
      case measure => have := Hk.out; omega
      case rel =>
        refine ⟨k + 1, by have := Hk.out; omega, by go_num, Lib.hid ⟨?_, (HR.out.2.trans (grown_swap wr g _ _ _ _ _ _ _ _)).trans (grown_ext (below_drewN (Ext.refl _) 1))⟩⟩
        rw [← HH.out.1]
        exact (HR.out.1.swap _ _ _ _).drew
    · have hd : decide (k < m) = false := by simp; omega
      have e : k = m := by omega
      have HE := Lib.hid e
      clear hk e
      repeat' go_step
      refine bodyPost_end (results_none rfl _ _ _) rfl ⟨rfl, ?_⟩
      obtain ⟨hR, hn, ha, hb, hm, hmv⟩ := HA.out
      have := HR.out
      rw [HE.out, hm, sw_end _ _ _ _ _ (by omega)] at this
      exact this
end Go.Proofs.Ytbmakajadelckaa.Pch/- Contracts: a row turned round a place. -/
namespace Go.Proofs.Ytbmakajadelckaa.Pch
open Go.RowKit Go.QS
set_option linter.unusedVariables false

set_option maxRecDepth 100000 in
set_option maxHeartbeats 400000 in
theorem rotate_c (base : Nat) (W : World) (cv : Value) (g cap n a m b : Nat) (P U V S : List Pr) (hR : Rw base 40 W g cap (P ++ (U ++ (V ++ S)))) (hn : n = (P ++ (U ++ (V ++ S))).length) (ha : a = P.length) (hm : m = P.length + U.length) (hb : b = P.length + (U.length + V.length)) (hU : 0 < U.length) (hV : 0 < V.length) (h9 : n ≤ 1000000000) :
    Calls Try.prog 136 #[.slice (some ⟨g, 0, none⟩) n cap, .int .i64 a, .int .i64 m, .int .i64 b, cv] W fun e w' => e = .returned (.tuple #[]) ∧ Rw base 40 w' g cap (P ++ (V ++ (U ++ S))) ∧ W.grownBy w' (some g) := by
  have hbn : b ≤ n := by subst hn hb; simp
  have hmb : m ≤ b := by omega
  have ham : a ≤ m := by omega
  obtain ⟨i0, hi0⟩ : ∃ i, i = U.length := ⟨_, rfl⟩
  obtain ⟨j0, hj0⟩ : ∃ j, j = V.length := ⟨_, rfl⟩
  have hs1 : (m : Int) - (a : Int) = (i0 : Int) := by omega
  have hs2 : (b : Int) - (m : Int) = (j0 : Int) := by omega
  have HA : Hid (_ ∧ _ ∧ _ ∧ _ ∧ _ ∧ _ ∧ _ ∧ _ ∧ _) := Lib.hid ⟨hR, hn, ha, hb, hm, hU, hV, hi0, hj0⟩
  clear hR hn ha hb hm hU hV hi0 hj0
  go_enter Try.func136, Try.ntmps136
  repeat' go_step
  go_loopg [10, 11] (i0 + j0) (fun gk vi vj wr => ∃ (P' U' V' S' : List Pr) (i j : Nat), vi = .int .i64 i ∧ vj = .int .i64 j ∧ i + j ≤ gk ∧ i ≤ m ∧ m + j ≤ n ∧ Hid (Rw base 40 wr g cap (P' ++ (U' ++ (V' ++ S'))) ∧ W.grownBy wr (some g) ∧
    i = U'.length ∧ j = V'.length ∧ m = P'.length + U'.length ∧ 0 < U'.length ∧ 0 < V'.length ∧ P' ++ (V' ++ (U' ++ S')) = P ++ (V ++ (U ++ S)) ∧ n = (P' ++ (U' ++ (V' ++ S'))).length))
  case atStart =>
    obtain ⟨hR, hn, ha, hb, hm, hU, hV, hi0, hj0⟩ := HA.out
    exact ⟨P, U, V, S, i0, j0, rfl, rfl, Nat.le_refl _, by omega, by omega, Lib.hid ⟨hR, World.grownBy.refl _ _, hi0, hj0, hm, hU, hV, rfl, hn⟩⟩
  case round =>
    obtain ⟨P', U', V', S', i, j, rfl, rfl, hgk, him, hjn, HR⟩ := hrel
    obtain ⟨hR, hG, hi, hj, hm, hU, hV, hT, hn⟩ := HR.out
    obtain ⟨p, hp⟩ : ∃ p, p = P'.length := ⟨_, rfl⟩
    rcases Nat.lt_trichotomy i j with hij | hij | hij
    · have t1 : ((i : Int) != (j : Int)) = true := by rw [bne_iff_ne]; omega
      have t2 : decide (j < i) = false := by simp; omega
      obtain ⟨q, hq⟩ : ∃ q, q = P'.length + (U'.length + (V'.take (j - i)).length) := ⟨_, rfl⟩
      have hlt : (V'.take (j - i)).length = j - i := List.length_take_of_le (by omega)
      have s1 : (m : Int) - (i : Int) = (p : Int) := by omega
      have s2 : (m : Int) + (j : Int) - (i : Int) = (q : Int) := by omega
      have s3 : (j : Int) - (i : Int) = ((j - i : Nat) : Int) := by omega
      have hc := swap_c base wr cv g cap n p q i P' U' (V'.take (j - i)) (V'.drop (j - i)) S' (by rw [← List.append_assoc (V'.take _), List.take_append_drop]; exact hR) (by rw [hn]; congr 2; rw [← List.append_assoc (V'.take _), List.take_append_drop]) hp hq hi (by simp; omega) h9
      have HC := Lib.hid hc
      have HS := Lib.hid s3
      have hq9 : i < j := hij
      clear hR hG hi hj hm hU hV hT hn hp hij hq hlt hc s3
      repeat' (first | (go_at_call 140; refine HC.out.mono ?_; rintro e w1 ⟨rfl, H1⟩; replace H1 := Lib.hid H1; go_simp) | go_step)
      obtain ⟨hR, hG, hi, hj, hm, hU, hV, hT, hn⟩ := HR.out
      go_roundg (i + (j - i))
      case measure => omega
      case rel =>
        refine ⟨P', V'.drop (j - i), V'.take (j - i), U' ++ S', i, j - i, rfl, by rw [← HS.out], Nat.le_refl _, by omega, by omega, Lib.hid ⟨?_, hG.trans H1.out.2, by simp <;> omega, by simp <;> omega, by simp <;> omega, by simp <;> omega, by simp <;> omega, ?_, ?_⟩⟩
        · simpa using H1.out.1
        · rw [← hT, ← List.append_assoc (V'.take _), List.take_append_drop]
        · rw [hn]; simp <;> omega
    · have t1 : ((i : Int) != (j : Int)) = false := by rw [bne_eq_false_iff_eq]; omega
      have s1 : (m : Int) - (i : Int) = (p : Int) := by omega
      have hc := swap_c base wr cv g cap n p m i P' U' [] V' S' (by simpa using hR) (by rw [hn]; simp) hp (by simpa using hm) hi (by omega) h9
      have HC := Lib.hid hc
      clear hR hG hi hj hm hU hV hT hn hp hij hc
      repeat' (first | (go_at_call 140; refine HC.out.mono ?_; rintro e w1 ⟨rfl, H1⟩; replace H1 := Lib.hid H1; go_simp) | go_step)
      obtain ⟨hR, hG, hi, hj, hm, hU, hV, hT, hn⟩ := HR.out
      refine bodyPost_end (results_none rfl _ _ _) rfl ⟨rfl, ?_, hG.trans H1.out.2⟩
      rw [← hT]
      simpa using H1.out.1
    · have t1 : ((i : Int) != (j : Int)) = true := by rw [bne_iff_ne]; omega
      have t2 : decide (j < i) = true := by simp; omega
      have hlt : (U'.take j).length = j := List.length_take_of_le (by omega)
      have s1 : (m : Int) - (i : Int) = (p : Int) := by omega
      have s3 : (i : Int) - (j : Int) = ((i - j : Nat) : Int) := by omega
      have hc := swap_c base wr cv g cap n p m j P' (U'.take j) (U'.drop j) V' S' (by rw [← List.append_assoc (U'.take _), List.take_append_drop]; exact hR) (by rw [hn]; congr 2; rw [← List.append_assoc (U'.take _), List.take_append_drop]) hp (by simp; omega) hlt.symm hj h9
      have HC := Lib.hid hc
      have HS := Lib.hid s3
      have hq9 : j < i := hij
      clear hR hG hi hj hm hU hV hT hn hp hij hlt hc s3
      repeat' (first | (go_at_call 140; refine HC.out.mono ?_; rintro e w1 ⟨rfl, H1⟩; replace H1 := Lib.hid H1; go_simp) | go_step)
      obtain ⟨hR, hG, hi, hj, hm, hU, hV, hT, hn⟩ := HR.out
      go_roundg (i - j + j)
      case measure => omega
      case rel =>
        refine ⟨P' ++ V', U'.drop j, U'.take j, S', i - j, j, by rw [← HS.out], rfl, Nat.le_refl _, by omega, by omega, Lib.hid ⟨?_, hG.trans H1.out.2, by simp <;> omega, by simp <;> omega, by simp <;> omega, by simp <;> omega, by simp <;> omega, ?_, ?_⟩⟩
        · simpa using H1.out.1
        · rw [← hT, List.append_assoc, ← List.append_assoc (U'.take _), List.take_append_drop]
        · rw [hn]; simp <;> omega
end Go.Proofs.Ytbmakajadelckaa.Pch