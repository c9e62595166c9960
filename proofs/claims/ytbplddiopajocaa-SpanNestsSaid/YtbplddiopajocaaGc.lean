/- Contract: the iterator of span.Each: it tells the pairs to come, one by one, and turns its own blocks alone. -/
import Derived.Test.YtbplddiopajocaaGb
import Derived.Test.YtbplddiopajocaaSl
import Derived.RangeFuncNested
import Derived.RangeFuncCalls
import Derived.Sort.LoopGhostIn
set_option linter.unusedVariables false
set_option linter.unusedSimpArgs false
namespace Go.Proofs.Ytbplddiopajocaa
open Go Go.RowKit Go.QS
set_option linter.unusedVariables false
attribute [local go_sem] Oper.semAt_some

/-- The types of the blocks that a cursor turns. -/
def tauS (T : TypeId) : Prop := T = CT ∨ T = WT
theorem CurAt.kp {W0 w w' : World} {c : Nat} {V : Value} {cs : List Wk} {st : List Wn} {s : Sp} {back : Bool} (h : CurAt W0 w c V cs st s back) (k : KpT W0.heap.size tauS w w') : CurAt W0 w' c V cs st s back :=
  ⟨kpT_heap k h.cell (.inl rfl), row_kpT h.row k (.inr rfl), h.wks, kpT_ext k h.ext (Nat.le_refl _), h.le⟩
theorem CurAt.step {W0 w w' : World} {c : Nat} {V : Value} {cs : List Wk} {st : List Wn} {s : Sp} {back : Bool} (h : CurAt W0 w c V cs st s back) (k : Two c V.ownBlock w w') : StT W0.heap.size tauS w w' := by
  refine stT_of k.os k.tape k.output k.size fun j hj => ?_
  by_cases e : j = c
  · subst e
    exact .inl ⟨h.le, _, h.cell, _, _, _, rfl, .inl rfl⟩
  · by_cases e2 : V.ownBlock = some j
    · obtain ⟨h1, A, f, h2⟩ := row_is h.row e2
      exact .inl ⟨by have := h.le; omega, _, h2, _, _, _, rfl, .inr rfl⟩
    · exact .inr (k.block j hj e (fun e' => e2 e'.symm))

/-- A root, or none, and the work that it is. -/
inductive RootAt (W0 : World) : Option Addr → List Wn → Prop
  | nil : RootAt W0 none []
  | root {g : Nat} {t : RT} (h : Rep NT W0 g t) : RootAt W0 (some ⟨g, 0, none⟩) [(t, [], false)]
theorem RootAt.ext {W0 W1 : World} {p0 : Option Addr} {r0 : List Wn} (h : RootAt W0 p0 r0) (f : Ext W0 W1) : RootAt W1 p0 r0 := by
  cases h with
  | nil => exact .nil
  | root h => exact .root (h.ext f)

set_option maxRecDepth 100000 in
theorem newn_c (w : World) (s : Sp) (back : Bool) :
    Calls Try.prog 23 #[.pointer none, s.v, .bool back] w fun e w' => ∃ c, e = .returned (ptr c) ∧ CurAt w w' c (.slice none 0 0) [] [] s back := by
  obtain ⟨f, tt, o⟩ := s
  go_enter Try.func23, Try.ntmps23
  repeat' (first | go_skip | go_guarded | go_step)
  go_ret
  have e1 : Ext w (w.alloc (.cells #[str f, str tt, .bool o] 42)) := (Ext.refl w).alloc (Nat.le_refl _) _
  have h1 := heap_newG (w.alloc (.cells #[str f, str tt, .bool o] 42)) (.cells #[.slice none 0 0, str f, str tt, .bool o, .bool back] CT)
  rw [World.size_alloc] at h1
  refine ⟨_, rfl, h1, World.ownsRow_nil _ _ _ _, Wks.nil _, e1.alloc e1.size _, Nat.le_succ _⟩

theorem newR_c (W0 w : World) (p0 : Option Addr) (r0 : List Wn) (s : Sp) (back : Bool) (h : RootAt W0 p0 r0) (hW : Ext W0 w) :
    Calls Try.prog 23 #[.pointer p0, s.v, .bool back] w fun e w' => ∃ c V cs, e = .returned (ptr c) ∧ CurAt W0 w' c V cs r0.reverse s back ∧ Ext w w' := by
  cases h with
  | nil =>
    refine (newn_c w s back).mono ?_
    rintro e w1 ⟨c, rfl, hC⟩
    exact ⟨c, _, _, rfl, ⟨hC.cell, hC.row, Wks.nil _, Ext.trans hW hC.ext, Nat.le_trans hW.size hC.le⟩, hC.ext⟩
  | @root g t h =>
    refine (new_c w g t s back (h.ext hW)).mono ?_
    rintro e w1 ⟨c, V, rfl, hC⟩
    exact ⟨c, _, _, rfl, ⟨hC.cell, hC.row, Wks.one (c := (g, [], false)) (s := (t, [], false)) h rfl, Ext.trans hW hC.ext, Nat.le_trans hW.size hC.le⟩, hC.ext⟩

/-- The boxes that span.Each's closure holds. -/
structure EachBx (W : World) (k0 k1 k2 : Nat) (p0 : Option Addr) (s : Sp) (back : Bool) : Prop where
  b0 : W.cell? ⟨k0, 0, none⟩ = some (.pointer p0)
  b1 : W.heap[k1]? = some (.cells #[str s.f, str s.t, .bool s.o] 42 (0, 0))
  b2 : W.cell? ⟨k2, 0, none⟩ = some (.bool back)
theorem EachBx.ext {W W' : World} {k0 k1 k2 : Nat} {p0 : Option Addr} {s : Sp} {back : Bool} (h : EachBx W k0 k1 k2 p0 s back) (f : Ext W W') : EachBx W' k0 k1 k2 p0 s back :=
  ⟨(f.cell (p := ⟨k0, 0, none⟩) (World.block_lt_of_cell? W _ h.b0)).trans h.b0, box_extG h.b1 f, (f.cell (p := ⟨k2, 0, none⟩) (World.block_lt_of_cell? W _ h.b2)).trans h.b2⟩

set_option maxRecDepth 100000 in
set_option maxHeartbeats 2000000 in
theorem each1_in (n : Nat) (hn : 1 ≤ n) (W0 : World) (p0 : Option Addr) (r0 : List Wn) (s : Sp) (back : Bool) (k0 k1 k2 : Nat) (L : List Pr) (hr : RootAt W0 p0 r0) (hG : Good r0) (hw : wt r0 ≤ 1000000) (hs9 : s.f.length ≤ 1000) (hL : L = com s back r0)
    (l : Nat) (J Jx : List Pr → World → Prop) (W : World) (hW : Ext W0 W) (hbx : EachBx W k0 k1 k2 p0 s back) (hJ : ∀ s A B, J s A → StT W0.heap.size tauS A B → J s B)
    (hY : ∀ pre (x : Pr) W1, J pre W1 → pre.length < L.length → YieldAt Fence.wide (n - 1) Try.prog l #[.agg #[str x.1, str x.2]] W1 fun e W' =>
      (e = .returned (.bool true) ∧ J (pre ++ [x]) W' ∧ KpT W0.heap.size tauS W1 W') ∨ (e = .returned (.bool false) ∧ Jx (pre ++ [x]) W'))
    (h0 : J [] W) :
    CallsIn Fence.wide n Try.prog 50 #[.func (.yield l) #[] #[], ptr k0, ptr k1, ptr k2] W fun e W' => (∃ v, e = .returned v) ∧ ((∃ xs, xs = L ∧ J xs W') ∨ (∃ pre, pre <+: L ∧ Jx pre W')) := by
  obtain ⟨f, tt, o⟩ := s
  obtain ⟨b0, hb1, b2⟩ := hbx
  obtain ⟨b10, b11, b12⟩ := box3 hb1
  have HR := Lib.hid hr
  have HL := Lib.hid hL
  have HG := Lib.hid hG
  have HJ0 := Lib.hid h0
  simp only at b10 b11 b12 hs9
  clear hr hL hb1 hG h0
  refine callsIn_of_wp Try.func50 rfl trivial ?_ rfl
  simp only [Try.ntmps50, List.size_toArray, List.length_cons, List.length_nil, Nat.reduceAdd, Nat.reduceSub, Array.replicate_succ, Array.replicate_zero, List.push_toArray, List.append_toArray, List.nil_append, List.cons_append]
  repeat' (first | (refine ⟨trivial, ?_⟩; gi_at_call 23; refine (callsIn_wide.2 (newR_c W0 W p0 r0 ⟨f, tt, o⟩ back HR.out hW)).mono ?_; rintro e w1 ⟨c, V, cs0, rfl, hC, hE⟩; replace hC := Lib.hid hC; replace hE := Lib.hid hE; go_simp) | gi_guarded | gi_step)
  have HJ1 : Hid (J [] w1) := Lib.hid (hJ _ _ _ HJ0.out (KeepQ.of_ext hE.out))
  clear b0 b2 b10 b11 b12
  gi_loopg [] (com ⟨f, tt, o⟩ back r0).length (fun gk wr => ∃ (V1 : Value) (cs1 : List Wk) (r1 : List Wn) (pre : List Pr), (com ⟨f, tt, o⟩ back r1).length ≤ gk ∧ wt r1 ≤ 1000000 ∧ Hid (CurAt W0 wr c V1 cs1 r1.reverse ⟨f, tt, o⟩ back ∧ Good r1 ∧ L = pre ++ com ⟨f, tt, o⟩ back r1 ∧ J pre wr))
  case atStart => exact ⟨V, _, r0, [], Nat.le_refl _, hw, Lib.hid ⟨hC.out, HG.out, by rw [HL.out]; rfl, HJ1.out⟩⟩
  case round =>
    obtain ⟨V1, cs1, r1, pre, hgk, hr9, HI⟩ := hrel
    repeat' (first | gi_guarded | gi_step)
    refine ⟨trivial, ?_⟩
    gi_at_call 27
    refine (callsIn_wide.2 (next_c W0 wr c V1 cs1 r1 ⟨f, tt, o⟩ back HI.out.1 HI.out.2.1 hr9 hs9)).mono ?_
    rintro e w2 ⟨V2, cs2, r2, hC2, hG2, hw2, hT2, hN2, hcase⟩
    have hS2 := HI.out.1.step hT2
    have hJ2 := hJ _ _ _ HI.out.2.2.2 hS2
    rcases hcase with ⟨hc0, rfl, hc1⟩ | ⟨p, hc0, rfl⟩
    · have HE : Hid (J L (w2.alloc (.cells #[str [], str []] 24))) := Lib.hid (by
        have h1 := HI.out.2.2.1
        rw [hc0, List.append_nil] at h1
        rw [h1]
        exact hJ _ _ _ hJ2 (KeepQ.of_ext ((Ext.refl _).alloc (Nat.le_refl _) _)))
      clear hc0 hc1 hC2 hG2 hT2 hN2 hS2 hJ2 hgk
      go_simp
      repeat' (first | gi_guarded | gi_step)
      refine ⟨fun _ _ => trivial, ?_⟩
      repeat' (first | gi_guarded | gi_step)
      (try simp only [Exit.inBlock, Exit.then])
      refine ⟨rfl, _, results_none rfl _ _ _, ⟨_, rfl⟩, .inl ⟨_, rfl, HE.out⟩⟩
    · have hJ3 := hJ _ _ _ hJ2 (KeepQ.of_ext ((Ext.refl w2).alloc (Nat.le_refl _) (.cells #[str p.1, str p.2] 24)))
      have hpre : L = (pre ++ [p]) ++ com ⟨f, tt, o⟩ back r2 := by rw [HI.out.2.2.1, hc0]; simp
      obtain ⟨fn, tmps, assign, body, hy, hR⟩ := hY pre p _ hJ3 (by rw [hpre]; simp)
      have hlen : (com ⟨f, tt, o⟩ back r1).length = (com ⟨f, tt, o⟩ back r2).length + 1 := by rw [hc0]; rfl
      have H2 := Lib.hid (And.intro hC2 (And.intro hG2 hpre))
      have HR2 := Lib.hid hR
      clear hc0 hC2 hG2 hT2 hN2 hS2 hJ2 hJ3 hpre hR
      go_simp
      repeat' (first | gi_guarded | gi_step)
      refine HR2.out.mono ?_
      rintro e W3 (⟨rfl, hJ3, hk3⟩ | ⟨rfl, hJx3⟩)
      · have hC3 := (H2.out.1.keep ((Ext.refl w2).alloc (Nat.le_refl _) (.cells #[str p.1, str p.2] 24))).kp hk3
        have H3 := Lib.hid (And.intro hC3 hJ3)
        clear hC3 hJ3 hk3 hy
        go_simp
        repeat' (first | gi_guarded | gi_step)
        gi_roundg ((com ⟨f, tt, o⟩ back r2).length)
        case measure => omega
        case rel => exact ⟨V2, cs2, r2, pre ++ [p], Nat.le_refl _, by omega, Lib.hid ⟨H3.out.1, H2.out.2.1, H2.out.2.2, H3.out.2⟩⟩
      · have H3 := Lib.hid hJx3
        clear hJx3 hy
        go_simp
        repeat' (first | gi_guarded | gi_step)
        (try simp only [Exit.inBlock, Exit.then])
        refine ⟨rfl, _, results_none rfl _ _ _, ⟨_, rfl⟩, .inr ⟨_, ⟨_, H2.out.2.2.symm⟩, H3.out⟩⟩

/-- span.Each's iterator over a tree: as the law of a range over a function wants it. -/
theorem each_seq (n : Nat) (hn : 1 ≤ n) (W0 : World) (p0 : Option Addr) (r0 : List Wn) (s : Sp) (back : Bool) (k0 k1 k2 : Nat) (L : List Pr) (hr : RootAt W0 p0 r0) (hG : Good r0) (hw : wt r0 ≤ 1000000) (hs9 : s.f.length ≤ 1000) (hL : L = com s back r0) :
    SeqR Fence.wide n Try.prog 50 #[ptr k0, ptr k1, ptr k2] (fun p : Pr => #[.agg #[str p.1, str p.2]]) (StT W0.heap.size tauS) (KpT W0.heap.size tauS) (fun xs => xs = L) (fun pre => pre <+: L) L.length (fun W => Ext W0 W ∧ EachBx W k0 k1 k2 p0 s back) :=
  fun l J Jx W hW hJ _ hY h0 => each1_in n hn W0 p0 r0 s back k0 k1 k2 L hr hG hw hs9 hL l J Jx W hW.1 hW.2 hJ hY h0
theorem each_enters : ∀ args w, (callFunc 50 args).run Try.prog w = .ok (.enter 50 args) w := enters_of Try.func50 (by kernel_rfl) rfl
theorem tauS_pr : ¬ tauS 24 := by unfold tauS; decide
theorem tauS_prs : ¬ tauS 22 := by unfold tauS; decide
end Go.Proofs.Ytbplddiopajocaa
