/- Texts joined. -/
import Derived.Test.YtigoffdehdobiaaGreatM02
import Derived.Test.YtigoffdehdobiaaGreatM13
import Derived.RangeFuncNested
import Derived.RangeFuncCalls
import Derived.Sort.LoopGhostIn
import Derived.Test.YtigoffdehdobiaaGreatM04
set_option linter.unusedVariables false
set_option linter.unusedSimpArgs false
/- Contract: the iterator of span.Each: it tells the pairs to come, one by one, and turns its own blocks alone. -/
namespace Go.Proofs.YtigoffdehdobiaaGreat
open Go Go.RowKit Go.QS
set_option linter.unusedVariables false
attribute [local go_sem] Oper.semAt_some

/-- The types of the blocks that a cursor turns. -/
def tauS (T : TypeId) : Prop := T = CT ∨ T = WT
theorem CurAt.kp {W0 w w' : World} {c : Nat} {V : Value} {cs : List Wk} {st : List Wn} {s : Sp} {back : Bool} (h : CurAt W0 w c V cs st s back) (k : KpT W0.heap.size tauS w w') : CurAt W0 w' c V cs st s back :=
  ⟨kpT_heap k h.cell (.inl rfl), row_kpT h.row k (.inr rfl), h.wks, kpT_ext k h.ext (Nat.le_refl _), h.le⟩
theorem CurAt.step {W0 w w' : World} {c : Nat} {V : Value} {cs : List Wk} {st : List Wn} {s : Sp} {back : Bool} (h : CurAt W0 w c V cs st s back) (k : Two c V.ownBlock w w') : StT W0.heap.size tauS w w' := by
  refine stT_of k.os k.tape k.output k.size fun j hj => ?_
  by_cases e : j = c
  · subst e
    exact .inl ⟨h.le, _, h.cell, _, _, _, rfl, .inl rfl⟩
  · by_cases e2 : V.ownBlock = some j
    · obtain ⟨h1, A, f, h2⟩ := row_is h.row e2
      exact .inl ⟨by have := h.le; omega, _, h2, _, _, _, rfl, .inr rfl⟩
    · exact .inr (k.block j hj e (fun e' => e2 e'.symm))

/-- A root, or none, and the work that it is. -/
inductive RootAt (W0 : World) : Option Addr → List Wn → Prop
  | nil : RootAt W0 none []
  | root {g : Nat} {t : RT} (h : Rep NT W0 g t) : RootAt W0 (some ⟨g, 0, none⟩) [(t, [], false)]
theorem RootAt.ext {W0 W1 : World} {p0 : Option Addr} {r0 : List Wn} (h : RootAt W0 p0 r0) (f : Ext W0 W1) : RootAt W1 p0 r0 := by
  cases h with
  | nil => exact .nil
  | root h => exact .root (h.ext f)

set_option maxRecDepth 100000 in
theorem newn_c (w : World) (s : Sp) (back : Bool) :
    Calls Tryz.prog 138 #[.pointer none, s.v, .bool back] w fun e w' => ∃ c, e = .returned (ptr c) ∧ CurAt w w' c (.slice none 0 0) [] [] s back := by
  obtain ⟨f, tt, o⟩ := s
  go_enter Tryz.func138, Tryz.ntmps138
  repeat' (first | go_skip | go_guarded | go_step)
  go_ret
  have e1 : Ext w (w.alloc (.cells #[str f, str tt, .bool o] 144)) := (Ext.refl w).alloc (Nat.le_refl _) _
  have h1 := heap_newG (w.alloc (.cells #[str f, str tt, .bool o] 144)) (.cells #[.slice none 0 0, str f, str tt, .bool o, .bool back] CT)
  rw [World.size_alloc] at h1
  refine ⟨_, rfl, h1, World.ownsRow_nil _ _ _ _, Wks.nil _, e1.alloc e1.size _, Nat.le_succ _⟩

theorem newR_c (W0 w : World) (p0 : Option Addr) (r0 : List Wn) (s : Sp) (back : Bool) (h : RootAt W0 p0 r0) (hW : Ext W0 w) :
    Calls Tryz.prog 138 #[.pointer p0, s.v, .bool back] w fun e w' => ∃ c V cs, e = .returned (ptr c) ∧ CurAt W0 w' c V cs r0.reverse s back ∧ Ext w w' := by
  cases h with
  | nil =>
    refine (newn_c w s back).mono ?_
    rintro e w1 ⟨c, rfl, hC⟩
    exact ⟨c, _, _, rfl, ⟨hC.cell, hC.row, Wks.nil _, Ext.trans hW hC.ext, Nat.le_trans hW.size hC.le⟩, hC.ext⟩
  | @root g t h =>
    refine (new_c w g t s back (h.ext hW)).mono ?_
    rintro e w1 ⟨c, V, rfl, hC⟩
    exact ⟨c, _, _, rfl, ⟨hC.cell, hC.row, Wks.one (c := (g, [], false)) (s := (t, [], false)) h rfl, Ext.trans hW hC.ext, Nat.le_trans hW.size hC.le⟩, hC.ext⟩

/-- The boxes that span.Each's closure holds. -/
structure EachBx (W : World) (k0 k1 k2 : Nat) (p0 : Option Addr) (s : Sp) (back : Bool) : Prop where
  b0 : W.cell? ⟨k0, 0, none⟩ = some (.pointer p0)
  b1 : W.heap[k1]? = some (.cells #[str s.f, str s.t, .bool s.o] 144 (0, 0))
  b2 : W.cell? ⟨k2, 0, none⟩ = some (.bool back)
theorem EachBx.ext {W W' : World} {k0 k1 k2 : Nat} {p0 : Option Addr} {s : Sp} {back : Bool} (h : EachBx W k0 k1 k2 p0 s back) (f : Ext W W') : EachBx W' k0 k1 k2 p0 s back :=
  ⟨(f.cell (p := ⟨k0, 0, none⟩) (World.block_lt_of_cell? W _ h.b0)).trans h.b0, box_extG h.b1 f, (f.cell (p := ⟨k2, 0, none⟩) (World.block_lt_of_cell? W _ h.b2)).trans h.b2⟩

set_option maxRecDepth 100000 in
set_option maxHeartbeats 2000000 in
theorem each1_in (n : Nat) (hn : 1 ≤ n) (W0 : World) (p0 : Option Addr) (r0 : List Wn) (s : Sp) (back : Bool) (k0 k1 k2 : Nat) (L : List Pr) (hr : RootAt W0 p0 r0) (hG : Good r0) (hw : wt r0 ≤ 1000000) (hs9 : s.f.length ≤ 1000) (hL : L = com s back r0)
    (l : Nat) (J Jx : List Pr → World → Prop) (W : World) (hW : Ext W0 W) (hbx : EachBx W k0 k1 k2 p0 s back) (hJ : ∀ s A B, J s A → StT W0.heap.size tauS A B → J s B)
    (hY : ∀ pre (x : Pr) W1, J pre W1 → pre.length < L.length → YieldAt Fence.wide (n - 1) Tryz.prog l #[.agg #[str x.1, str x.2]] W1 fun e W' =>
      (e = .returned (.bool true) ∧ J (pre ++ [x]) W' ∧ KpT W0.heap.size tauS W1 W') ∨ (e = .returned (.bool false) ∧ Jx (pre ++ [x]) W'))
    (h0 : J [] W) :
    CallsIn Fence.wide n Tryz.prog 137 #[.func (.yield l) #[] #[], ptr k0, ptr k1, ptr k2] W fun e W' => (∃ v, e = .returned v) ∧ ((∃ xs, xs = L ∧ J xs W') ∨ (∃ pre, pre <+: L ∧ Jx pre W')) := by
  obtain ⟨f, tt, o⟩ := s
  obtain ⟨b0, hb1, b2⟩ := hbx
  obtain ⟨b10, b11, b12⟩ := box3 hb1
  have HR := Lib.hid hr
  have HL := Lib.hid hL
  have HG := Lib.hid hG
  have HJ0 := Lib.hid h0
  simp only at b10 b11 b12 hs9
  clear hr hL hb1 hG h0
  refine callsIn_of_wp Tryz.func137 rfl trivial ?_ rfl
  simp only [Tryz.ntmps137, List.size_toArray, List.length_cons, List.length_nil, Nat.reduceAdd, Nat.reduceSub, Array.replicate_succ, Array.replicate_zero, List.push_toArray, List.append_toArray, List.nil_append, List.cons_append]
  repeat' (first | (refine ⟨trivial, ?_⟩; gi_at_call 138; refine (callsIn_wide.2 (newR_c W0 W p0 r0 ⟨f, tt, o⟩ back HR.out hW)).mono ?_; rintro e w1 ⟨c, V, cs0, rfl, hC, hE⟩; replace hC := Lib.hid hC; replace hE := Lib.hid hE; go_simp) | gi_guarded | gi_step)
  have HJ1 : Hid (J [] w1) := Lib.hid (hJ _ _ _ HJ0.out (KeepQ.of_ext hE.out))
  clear b0 b2 b10 b11 b12
  gi_loopg [] (com ⟨f, tt, o⟩ back r0).length (fun gk wr => ∃ (V1 : Value) (cs1 : List Wk) (r1 : List Wn) (pre : List Pr), (com ⟨f, tt, o⟩ back r1).length ≤ gk ∧ wt r1 ≤ 1000000 ∧ Hid (CurAt W0 wr c V1 cs1 r1.reverse ⟨f, tt, o⟩ back ∧ Good r1 ∧ L = pre ++ com ⟨f, tt, o⟩ back r1 ∧ J pre wr))
  case atStart => exact ⟨V, _, r0, [], Nat.le_refl _, hw, Lib.hid ⟨hC.out, HG.out, by rw [HL.out]; rfl, HJ1.out⟩⟩
  case round =>
    obtain ⟨V1, cs1, r1, pre, hgk, hr9, HI⟩ := hrel
    repeat' (first | gi_guarded | gi_step)
    refine ⟨trivial, ?_⟩
    gi_at_call 139
    refine (callsIn_wide.2 (next_c W0 wr c V1 cs1 r1 ⟨f, tt, o⟩ back HI.out.1 HI.out.2.1 hr9 hs9)).mono ?_
    rintro e w2 ⟨V2, cs2, r2, hC2, hG2, hw2, hT2, hN2, hcase⟩
    have hS2 := HI.out.1.step hT2
    have hJ2 := hJ _ _ _ HI.out.2.2.2 hS2
    rcases hcase with ⟨hc0, rfl, hc1⟩ | ⟨p, hc0, rfl⟩
    · have HE : Hid (J L (w2.alloc (.cells #[str [], str []] 70))) := Lib.hid (by
        have h1 := HI.out.2.2.1
        rw [hc0, List.append_nil] at h1
        rw [h1]
        exact hJ _ _ _ hJ2 (KeepQ.of_ext ((Ext.refl _).alloc (Nat.le_refl _) _)))
      clear hc0 hc1 hC2 hG2 hT2 hN2 hS2 hJ2 hgk
      go_simp
      repeat' (first | gi_guarded | gi_step)
      refine ⟨fun _ _ => trivial, ?_⟩
      repeat' (first | gi_guarded | gi_step)
      (try simp only [Exit.inBlock, Exit.then])
      refine ⟨rfl, _, results_none rfl _ _ _, ⟨_, rfl⟩, .inl ⟨_, rfl, HE.out⟩⟩
    · have hJ3 := hJ _ _ _ hJ2 (KeepQ.of_ext ((Ext.refl w2).alloc (Nat.le_refl _) (.cells #[str p.1, str p.2] 70)))
      have hpre : L = (pre ++ [p]) ++ com ⟨f, tt, o⟩ back r2 := by rw [HI.out.2.2.1, hc0]; simp
      obtain ⟨fn, tmps, assign, body, hy, hR⟩ := hY pre p _ hJ3 (by rw [hpre]; simp)
      have hlen : (com ⟨f, tt, o⟩ back r1).length = (com ⟨f, tt, o⟩ back r2).length + 1 := by rw [hc0]; rfl
      have H2 := Lib.hid (And.intro hC2 (And.intro hG2 hpre))
      have HR2 := Lib.hid hR
      clear hc0 hC2 hG2 hT2 hN2 hS2 hJ2 hJ3 hpre hR
      go_simp
      repeat' (first | gi_guarded | gi_step)
      refine HR2.out.mono ?_
      rintro e W3 (⟨rfl, hJ3, hk3⟩ | ⟨rfl, hJx3⟩)
      · have hC3 := (H2.out.1.keep ((Ext.refl w2).alloc (Nat.le_refl _) (.cells #[str p.1, str p.2] 70))).kp hk3
        have H3 := Lib.hid (And.intro hC3 hJ3)
        clear hC3 hJ3 hk3 hy
        go_simp
        repeat' (first | gi_guarded | gi_step)
        gi_roundg ((com ⟨f, tt, o⟩ back r2).length)
        case measure => omega
        case rel => exact ⟨V2, cs2, r2, pre ++ [p], Nat.le_refl _, by omega, Lib.hid ⟨H3.out.1, H2.out.2.1, H2.out.2.2, H3.out.2⟩⟩
      · have H3 := Lib.hid hJx3
        clear hJx3 hy
        go_simp
        repeat' (first | gi_guarded | gi_step)
        (try simp only [Exit.inBlock, Exit.then])
        refine ⟨rfl, _, results_none rfl _ _ _, ⟨_, rfl⟩, .inr ⟨_, ⟨_, H2.out.2.2.symm⟩, H3.out⟩⟩

/-- span.Each's iterator over a tree: as the law of a range over a function wants it. -/
theorem each_seq (n : Nat) (hn : 1 ≤ n) (W0 : World) (p0 : Option Addr) (r0 : List Wn) (s : Sp) (back : Bool) (k0 k1 k2 : Nat) (L : List Pr) (hr : RootAt W0 p0 r0) (hG : Good r0) (hw : wt r0 ≤ 1000000) (hs9 : s.f.length ≤ 1000) (hL : L = com s back r0) :
    SeqR Fence.wide n Tryz.prog 137 #[ptr k0, ptr k1, ptr k2] (fun p : Pr => #[.agg #[str p.1, str p.2]]) (StT W0.heap.size tauS) (KpT W0.heap.size tauS) (fun xs => xs = L) (fun pre => pre <+: L) L.length (fun W => Ext W0 W ∧ EachBx W k0 k1 k2 p0 s back) :=
  fun l J Jx W hW hJ _ hY h0 => each1_in n hn W0 p0 r0 s back k0 k1 k2 L hr hG hw hs9 hL l J Jx W hW.1 hW.2 hJ hY h0
theorem each_enters : ∀ args w, (callFunc 137 args).run Tryz.prog w = .ok (.enter 137 args) w := enters_of Tryz.func137 (by kernel_rfl) rfl
theorem tauS_pr : ¬ tauS 70 := by unfold tauS; decide
theorem tauS_prs : ¬ tauS 71 := by unfold tauS; decide
end Go.Proofs.YtigoffdehdobiaaGreat
/- Contracts: slices.AppendSeq and slices.Collect over an iterator that keeps its state in cells of its own. -/
namespace Go.Proofs.YtigoffdehdobiaaGreat
open Go Go.RowKit Go.QS
set_option linter.unusedVariables false
attribute [local go_sem] Oper.semAt_some

abbrev encPr (p : Pr) : Array Value := #[.agg #[str p.1, str p.2]]
theorem infoPr : ∃ i z, Tryz.prog.info? 70 = some i ∧ i.zero = some z ∧ i.size = 2 ∧ i.bytes = 32 ∧ z.cells.size = 2 := info_of (z := .agg #[.string ⟨#[]⟩, .string ⟨#[]⟩]) (by kernel_rfl) rfl

set_option maxRecDepth 100000 in
set_option maxHeartbeats 2000000 in
theorem appendSeq_c (w : World) (τ : TypeId → Prop) (hτ1 : ¬ τ 70) (hτ2 : ¬ τ 71) (gf : Nat) (lb : Array Value) (eg : ∀ args w, (callFunc gf args).run Tryz.prog w = .ok (.enter gf args) w)
    (L : List Pr) (hL9 : L.length ≤ 1000000) (Sp : List Pr → Prop) (hseq : SeqR Fence.wide 4 Tryz.prog gf lb encPr (StT w.heap.size τ) (KpT w.heap.size τ) (fun xs => xs = L) Sp L.length (fun W => Ext w W)) :
    Calls Tryz.prog 136 #[.slice none 0 0, .func (.func gf) #[] lb] w fun e w' => ∃ v', e = .returned v' ∧ w'.ownsRow w.heap.size 70 2 v' L.length (flat L) ∧ Ext w w' := by
  have HS := Lib.hid hseq
  clear hseq
  refine calls_of_wp_marks Tryz.func136 rfl ?_
  simp only [Tryz.ntmps136, List.size_toArray, List.length_cons, List.length_nil, Nat.reduceAdd, Nat.reduceSub, Array.replicate_succ, Array.replicate_zero, List.push_toArray, List.append_toArray, List.nil_append, List.cons_append]
  repeat' (first | go_skip | go_guarded | go_step)
  obtain ⟨wa, hwa⟩ : ∃ wa, wa = w.alloc (.cells #[.slice none 0 0] 71) := ⟨_, rfl⟩
  obtain ⟨gb, hgb⟩ : ∃ gb, gb = w.heap.size := ⟨_, rfl⟩
  have hEa : Ext w wa := by rw [hwa]; exact (Ext.refl w).alloc (Nat.le_refl _) _
  have hba := heap_newG w (.cells #[.slice none 0 0] 71)
  have hsz : wa.heap.size = gb + 1 := by rw [hwa, hgb]; simp
  rw [← hwa, ← hgb] at hba
  have hwa' := hwa.symm
  have hgle : w.heap.size ≤ gb := Nat.le_of_eq hgb.symm
  have hwle : w.heap.size ≤ wa.heap.size := by omega
  rw [hwa', ← hgb]
  clear hwa hwa' hgb
  refine (wpIn_wide (n := 5)).1 ?_
  refine wpIn_rangeFunc_R (F := Fence.wide) (n := 5) rfl (by decide) (gf := gf) (lb := lb) rfl trivial eg HS.out
    (fun k o h hk h1 h2 => stT_other h h1 h2) kpT_t (fun W l o o' hl h1 h2 h3 => kpT_b hwle W l o o' hl h1 h2 h3) (fun r => (hEa.alloc (by omega) _).alloc (by simp; omega) _) (fun _ => rfl)
    (fun pre W => (∃ v, W.heap[gb]? = some (.cells #[v] 71 (0, 0)) ∧ W.ownsRow w.heap.size 70 2 v pre.length (flat pre)) ∧ Ext w W)
    (fun _ _ _ => False)
    (fun s A B row hs hg hr => ?hI) (fun _ s A B row hs hg hr => hs) (fun s A B hs ht => ?hIs) (fun _ _ _ _ h _ => h) ⟨⟨_, hba, World.ownsRow_nil _ _ _ _⟩, hEa⟩
    (fun x a' W => ∃ Bx, gb < Bx ∧ W.heap[Bx]? = some (.cells #[str x.1, str x.2] 70 (0, 0)) ∧ a' = { tmps := #[.slice none 0 0, .func (.func gf) #[] lb, ptr gb, undef, .slice none 0 0, ptr Bx, .func (.func gf) #[] lb, .agg #[str x.1, str x.2], undef, undef, undef, undef, undef], defers := [] })
    (fun x a' s A B row hs hg hr => ?hAx) ?assign ?body ?done ?stop
  case hI =>
    obtain ⟨⟨v, h1, h2⟩, h3⟩ := hs
    have hr' : ∀ r, row = some r → ∃ o : Obj, A.heap[r]? = some o ∧ o.isCells = false := fun r e => (hr r e).2
    exact ⟨⟨v, heap_own h1 hg hr', row_own h2 hg hr'⟩, ext_own h3 hg hwle (fun r e => (hr r e).1)⟩
  case hIs =>
    obtain ⟨⟨v, h1, h2⟩, h3⟩ := hs
    exact ⟨⟨v, stT_heap ht h1 hτ2, row_stT h2 ht hτ1⟩, stT_ext ht h3 (Nat.le_refl _)⟩
  case hAx =>
    obtain ⟨Bx, h1, h2, h3⟩ := hs
    exact ⟨Bx, h1, heap_own h2 hg (fun r e => (hr r e).2), h3⟩
  case assign =>
    rintro l pre x W K ⟨⟨v, h1, h2⟩, h3⟩ hK
    have hl := heap_lt h1
    repeat' (first | gi_guarded | gi_step)
    refine hK _ _ ((KeepsOthers.alloc _ _).from _) (KeepQ.of_ext ((Ext.refl W).alloc (Nat.le_refl _) _)) ⟨⟨v, box_extG h1 ((Ext.refl W).alloc (Nat.le_refl _) _), row_extG h2 ((Ext.refl W).alloc (Nat.le_refl _) _)⟩, h3.alloc h3.size _⟩ ⟨W.heap.size, hl, heap_newG _ _, rfl⟩
  case body =>
    rintro l pre x a' W hl ⟨r, hr⟩ ⟨⟨v, h1, h2⟩, h3⟩ ⟨Bx, hBx, hbx, rfl⟩ hlt
    have hl1 := heap_lt h1
    have c0 : W.cell? ⟨gb, 0, none⟩ = some v := by simp [World.cell?, h1]
    have cf : W.frozen? ⟨gb, 0, none⟩ = false := by simp [World.frozen?, h1]
    have x0 : W.cell? ⟨Bx, 0, none⟩ = some (str x.1) := by simp [World.cell?, hbx]
    have x1 : W.cell? ⟨Bx, 1, none⟩ = some (str x.2) := by simp [World.cell?, hbx]
    have hne : v.ownBlock ≠ some gb := fun e => by
      obtain ⟨_, A, f, h⟩ := row_is h2 e
      rw [h1] at h; cases h
    have hvb : ∀ k, v.ownBlock = some k → w.heap.size ≤ k ∧ ∀ o, W.heap[k]? = some o → ¬ inT τ o ∧ o.isCells = true := fun k e => by
      obtain ⟨hb, A, f, h⟩ := row_is h2 e
      exact ⟨hb, fun o ho => by rw [h] at ho; cases ho; exact ⟨not_inT hτ1, rfl⟩⟩
    have hvl : ∀ k, v.ownBlock = some k → k < W.heap.size := fun k e => by
      obtain ⟨hb, A, f, h⟩ := row_is h2 e
      exact heap_lt h
    have hvs : ∃ A C, v = .slice A pre.length C := by
      rcases h2.2 with ⟨rfl, e⟩ | ⟨g, cap, cur, rfl, _⟩
      · exact ⟨none, 0, by rw [e]⟩
      · exact ⟨_, _, rfl⟩
    have HI := Lib.hid (And.intro h1 (And.intro h2 (And.intro h3 (And.intro hne (And.intro hvb hvl)))))
    clear h1 h2 h3 hr hbx hne hvb hvl
    obtain ⟨Av, Cv, rfl⟩ := hvs
    repeat' (first
      | (gi_at_builtin; refine wpListIn_app rfl (.tmp 8) (.tmp 10) _ rfl w.heap.size 70 2 32 Tryz.underlying71 infoPr (by decide) (.slice Av pre.length Cv) pre.length (flat pre) rfl (row_extG HI.out.2.1 ((Ext.refl W).alloc (Nat.le_refl _) _)) _ 1 1 [str x.1, str x.2] rfl rfl (Seg.new _ [_, _] _ rfl) (by intro u hu; simp at hu; rcases hu with rfl | rfl <;> rfl) (by unfold maxLen; omega) (by omega) (by have := HI.out.2.2.1.size; simp; omega) ?_
         intro v5 w5 hown5 hg5 hn5
         have h5 : w5.heap[gb]? = some (.cells #[_] 71 (0, 0)) := (hg5.block gb (by simp; omega) (fun e => HI.out.2.2.2.1 e.symm)).trans (box_extG HI.out.1 ((Ext.refl W).alloc (Nat.le_refl _) _))
         have hl5 := heap_lt h5
         have c5 : w5.cell? ⟨gb, 0, none⟩ = some (.slice Av pre.length Cv) := by simp [World.cell?, h5]
         have f5 : w5.frozen? ⟨gb, 0, none⟩ = false := by simp [World.frozen?, h5]
         obtain ⟨A5, C5, rfl⟩ : ∃ A C, v5 = .slice A (pre.length + 1) C := by
           rcases hown5.2 with ⟨rfl, e⟩ | ⟨g, cap, cur, rfl, _⟩
           · omega
           · exact ⟨_, _, rfl⟩
         have H5 := Lib.hid (And.intro h5 (And.intro hown5 (And.intro hg5 hn5)))
         clear h5 hown5 hg5 hn5)
      | gi_guarded | gi_step)
    have hWa : Ext W (W.alloc (.cells #[str x.1, str x.2] 70)) := (Ext.refl W).alloc (Nat.le_refl _) _
    have hvb' : ∀ k, (Value.slice Av pre.length Cv).ownBlock = some k → w.heap.size ≤ k ∧ ∀ o, (W.alloc (.cells #[str x.1, str x.2] 70)).heap[k]? = some o → ¬ inT τ o ∧ o.isCells = true := fun k e =>
      ⟨(HI.out.2.2.2.2.1 k e).1, fun o ho => (HI.out.2.2.2.2.1 k e).2 o ((hWa.block k (HI.out.2.2.2.2.2 k e)).symm.trans ho)⟩
    refine ⟨(((KeepsOthers.alloc W _).trans (KeepsOthers.of_grownBy H5.out.2.2.1 (fun j o e ho => ((hvb' j e).2 o ho).2))).trans (KeepsOthers.setCell _ _ _)).from _,
      ((KeepQ.of_ext hWa).trans (kpT_grown H5.out.2.2.1 (fun k e => ⟨(hvb' k e).1, fun o ho => ((hvb' k e).2 o ho).1⟩))).trans (kpT_box _ H5.out.1 0 _ hgle hτ2), ⟨_, heap_set H5.out.1 0 _, ?_⟩,
      (((HI.out.2.2.1.alloc HI.out.2.2.1.size _).grown H5.out.2.2.1 (by have := HI.out.2.2.1.size; simp; omega) (fun k e => (hvb' k e).1))).setCell hgle _⟩
    rw [List.length_append, flat_append, flat_cons, flat_nil]
    refine row_of_heap H5.out.2.1 (fun g A f e hg => (Below.heap_setCell _ _ _ g ?_).trans hg)
    intro e2
    subst e2
    rw [H5.out.1] at hg; cases hg
  case done =>
    rintro D xs W hD rfl ⟨⟨v, h1, h2⟩, h3⟩ hK
    have hl1 := heap_lt h1
    have c0 : W.cell? ⟨gb, 0, none⟩ = some v := by simp [World.cell?, h1]
    have HI := Lib.hid (And.intro h1 (And.intro h2 h3))
    have HK := Lib.hid hK
    clear h1 h2 h3 hK
    repeat' (first | go_skip | go_guarded | go_step)
    have hg := grownBy_putObj' W D (.deferred none)
    have hr : ∀ r, some D = some r → ∃ o : Obj, W.heap[r]? = some o ∧ o.isCells = false := fun r e => by cases e; exact ⟨_, HK.out, rfl⟩
    exact postM_ret1 (results_tmp rfl _ _ _) rfl HK.out ⟨_, rfl, row_own HI.out.2.1 hg hr, ext_own HI.out.2.2 hg hwle (fun r e => by cases e; exact hD)⟩
  case stop =>
    rintro D c pre W _ _ h
    exact h.elim

theorem collect_c (w : World) (τ : TypeId → Prop) (hτ1 : ¬ τ 70) (hτ2 : ¬ τ 71) (gf : Nat) (lb : Array Value) (eg : ∀ args w, (callFunc gf args).run Tryz.prog w = .ok (.enter gf args) w)
    (L : List Pr) (hL9 : L.length ≤ 1000000) (Sp : List Pr → Prop) (hseq : SeqR Fence.wide 4 Tryz.prog gf lb encPr (StT w.heap.size τ) (KpT w.heap.size τ) (fun xs => xs = L) Sp L.length (fun W => Ext w W)) :
    Calls Tryz.prog 113 #[.func (.func gf) #[] lb] w fun e w' => ∃ v', e = .returned v' ∧ w'.ownsRow w.heap.size 70 2 v' L.length (flat L) ∧ Ext w w' := by
  have HS := Lib.hid (appendSeq_c w τ hτ1 hτ2 gf lb eg L hL9 Sp hseq)
  clear hseq
  go_enter Tryz.func113, Tryz.ntmps113
  repeat' (first | (go_at_call 136; refine HS.out.mono ?_; rintro e w1 ⟨v1, rfl, h1, h2⟩; replace h1 := Lib.hid h1; replace h2 := Lib.hid h2; go_simp) | go_skip | go_guarded | go_step)
  go_ret
  exact ⟨_, rfl, h1.out, h2.out⟩
end Go.Proofs.YtigoffdehdobiaaGreat
