/- Texts joined. -/
import Derived.Test.YtbmakajadelckaaM54
import Derived.Test.YtbmakajadelckaaM26
import Derived.Test.YtbmakajadelckaaM28
import Derived.RangeFuncNested
import Derived.RangeFuncCalls
import Derived.Sort.LoopGhostIn
set_option linter.unusedVariables false
set_option linter.unusedSimpArgs false
/- Contract: the iterator of walk.All: it tells the walk, pair by pair, and turns its own blocks alone. -/
namespace Go.QS
open Go Go.RowKit Go.QS.Nk
/-- No block of Bx is one of a cursor's. -/
def AvB (Bx : World → Nat → Prop) (w : World) (c : Nat) (V : Value) (ms : List Fm) : Prop :=
  ∀ b, Bx w b → b < w.heap.size ∧ b ≠ c ∧ V.ownBlock ≠ some b ∧ ∀ (i : Nat) (m : Fm), ms[i]? = some m → ¬ FrB m b
section
variable {Bx : World → Nat → Prop} {T CT FT : TypeId} {W0 w w' : World} {c d : Nat} {V V' : Value} {ms ms' : List Fm} {st : List Fp}
theorem CurW.kpo (h : CurW T CT FT W0 w c V ms st d) (ha : AvB Bx w c V ms) (k : KpO W0.heap.size Bx w w') : CurW T CT FT W0 w' c V ms st d ∧ AvB Bx w' c V ms := by
  refine ⟨⟨k.blk _ _ _ _ h.cell (fun e => (ha c e).2.1 rfl), row_kpO h.row k (fun g e hb => (ha g hb).2.2.1 e), h.len, fun i m s hm hs => ?_, k.ext h.ext (Nat.le_refl _), h.le, h.ne⟩, fun b hb => ?_⟩
  · obtain ⟨kb, h1, h2, h3, h4, h5, h6⟩ := h.fr i m s hm hs
    refine ⟨kb, sl_kpO h1 k (fun g e hb => (ha g hb).2.2.2 i m hm (.inl e)), sl_kpO h2 k (fun g e hb => (ha g hb).2.2.2 i m hm (.inr e)), h3, h4, h5, fun b hb => ?_⟩
    obtain ⟨e1, e2, e3⟩ := h6 b hb
    exact ⟨Nat.lt_of_lt_of_le e1 k.size, e2, e3⟩
  · have hl := k.lt (fun b hb => (ha b hb).1) b hb
    rcases k.bx b hb with hb' | hs
    · obtain ⟨_, e2, e3, e4⟩ := ha b hb'
      exact ⟨hl, e2, e3, e4⟩
    · refine ⟨hl, fun e => ?_, fun e => ?_, fun i m hm hf => ?_⟩
      · have := heap_lt h.cell; omega
      · have := (World.ownsRow.lt h.row b e).2; omega
      · obtain ⟨s, hs'⟩ := get_of_lt st (show i < st.length by have := (List.getElem?_eq_some_iff.1 hm).1; have := h.len; omega)
        obtain ⟨kb, _, _, _, _, _, h6⟩ := h.fr i m s hm hs'
        have := (h6 b hf).1; omega
/-- A step of the cursor turns blocks of its own types alone. -/
theorem CurW.step {τ : TypeId → Prop} (h : CurW T CT FT W0 w c V ms st d) (k : TwoW c V w w') (h1 : τ CT) (h2 : τ FT) : StT W0.heap.size τ w w' := by
  refine stT_of k.os k.tape k.output k.size fun j hj => ?_
  by_cases e : j = c
  · subst e
    exact .inl ⟨h.le, _, h.cell, _, _, _, rfl, h1⟩
  · by_cases e2 : V.ownBlock = some j
    · obtain ⟨h3, A, f, h4⟩ := row_is h.row e2
      exact .inl ⟨h3, _, h4, _, _, _, rfl, h2⟩
    · exact .inr (k.block j hj (fun e' => e'.elim e e2))
theorem AvB.next {d' : Nat} {st' : List Fp} (ha : AvB Bx w c V ms) (hT : TwoW c V w w') (hN : NewW w V V') (hb : ∀ b, Bx w' b → Bx w b) (hm : ∀ (i : Nat) (m : Fm), ms'[i]? = some m → ∀ b, FrB m b → ¬ Bx w b) : AvB Bx w' c V' ms' := by
  intro b hbx
  obtain ⟨e1, e2, e3, _⟩ := ha b (hb b hbx)
  refine ⟨Nat.lt_of_lt_of_le e1 hT.size, e2, fun e => ?_, fun i m hmi hf => hm i m hmi b hf (hb b hbx)⟩
  rcases hN with n | n
  · exact e3 (n.symm.trans e)
  · have := n b e; omega
theorem AvB.same (ha : AvB Bx w c V ms) (hs : w.heap.size ≤ w'.heap.size) (hb : ∀ b, Bx w' b → Bx w b) : AvB Bx w' c V ms := fun b hbx => by
  obtain ⟨e1, e2⟩ := ha b (hb b hbx)
  exact ⟨Nat.lt_of_lt_of_le e1 hs, e2⟩
end
end Go.QS
namespace Go.Proofs.Ytbmakajadelckaa
open Go Go.RowKit Go.QS Go.QS.Nk
set_option linter.unusedVariables false
attribute [local go_sem] Oper.semAt_some

/-- The types of the blocks that a cursor turns. -/
def tauW (T : TypeId) : Prop := T = WCT ∨ T = WFT
theorem RootW.ext' {w w' : World} {v : Value} {t : WT} (h : RootW w v t) (f : Ext w w') : RootW w' v t := by
  rcases h with h | ⟨g, e, h⟩
  · exact .inl h
  · exact .inr ⟨g, e, h.ext f⟩

theorem of_root0 {W0 w : World} (f0 : Ext W0 w) {v : Value} {t : WT} (h : RootW W0 v t) :
    Calls Try.prog 51 #[v] w fun e w' => ∃ v1 v2 kb, e = .returned (.agg #[v1, v2]) ∧ w'.ownsRow w.heap.size NP 2 v1 t.ps.length (flat t.ps) ∧ w'.ownsRow w.heap.size NK 1 v2 kb.length (ptrs kb) ∧ RepNs ND W0 kb t.ks ∧ kb.length ≤ 32 ∧ t.ps.length ≤ 1000000 ∧ Ext w w' := by
  rcases h with ⟨rfl, rfl⟩ | ⟨g, rfl, h⟩
  · refine (of_nil w).mono ?_
    rintro e w' ⟨v1, v2, rfl, r1, r2, f⟩
    exact ⟨v1, v2, [], rfl, r1, r2, RepNs.nil _ _, by simp, by simp, f⟩
  · exact of_c W0 w f0 g t h

set_option maxRecDepth 100000 in
set_option maxHeartbeats 1000000 in
theorem wnew0_c (W0 w : World) (f0 : Ext W0 w) (v : Value) (t : WT) (h : RootW W0 v t) :
    Calls Try.prog 14 #[v] w fun e w' => ∃ c V m, e = .returned (ptr c) ∧ Cur W0 w' c V [m] [(t.ps, t.ks)] 0 ∧ Ext w w' ∧ w.heap.size ≤ c ∧ (∀ b, V.ownBlock = some b → w.heap.size ≤ b) ∧ ∀ b, FrB m b → w.heap.size ≤ b := by
  have HO := Lib.hid (of_root0 f0 h)
  clear h
  go_enter Try.func14, Try.ntmps14
  repeat' (first | go_at_call 51 | go_skip | go_guarded | go_step)
  refine HO.out.mono ?_
  rintro e w1 ⟨v1, v2, kb, rfl, r1, r2, hr, hk9, hp9, f1⟩
  obtain ⟨A1, C1, rfl⟩ := own_slice r1
  obtain ⟨A2, C2, rfl⟩ := own_slice r2
  have H1 := Lib.hid (And.intro r1 (And.intro r2 (And.intro hr f1)))
  clear r1 r2 hr f1 HO
  go_simp
  repeat' (first | go_skip | go_guarded | go_step)
  go_ret
  obtain ⟨r1, r2, hr, f1⟩ := H1.out
  obtain ⟨w2, hw2⟩ : ∃ x, x = w1.alloc (.cells #[.slice A1 t.ps.length C1, .slice A2 kb.length C2] WFT) := ⟨_, rfl⟩
  have E2 : Ext w1 w2 := by rw [hw2]; exact (Ext.refl _).alloc (Nat.le_refl _) _
  have hs2 : w2.heap.size = w1.heap.size + 1 := by rw [hw2]; simp
  have hb2 : w2.heap[w1.heap.size]? = some (.cells #[.slice A1 t.ps.length C1, .slice A2 kb.length C2] WFT (0, 0)) := by rw [hw2]; exact heap_new w1 _
  obtain ⟨w3, hw3⟩ : ∃ x, x = w2.alloc (.cells #[.slice (some ⟨w1.heap.size, 0, none⟩) 1 1, .int .i64 0] WCT) := ⟨_, rfl⟩
  have E3 : Ext w2 w3 := by rw [hw3]; exact (Ext.refl _).alloc (Nat.le_refl _) _
  have hb3 : w3.heap[w2.heap.size]? = some (.cells #[.slice (some ⟨w1.heap.size, 0, none⟩) 1 1, .int .i64 0] WCT (0, 0)) := by rw [hw3]; exact heap_new w2 _
  have hs1 := f1.size
  have hs0 := f0.size
  have E13 : Ext w1 w3 := Ext.trans E2 E3
  have q1 := World.ownsRow.lt r1
  have q2 := World.ownsRow.lt r2
  have hst : Cur W0 w3 w2.heap.size (.slice (some ⟨w1.heap.size, 0, none⟩) 1 1) [(.slice A1 t.ps.length C1, .slice A2 kb.length C2)] [(t.ps, t.ks)] 0 := by
    refine ⟨hb3, ?_, rfl, fun i m s a b => ?_, Ext.trans f0 (Ext.trans f1 E13), by omega, ?_⟩
    · refine row_ext ?_ E3
      refine ⟨rfl, .inr ⟨w1.heap.size, 1, #[.slice A1 t.ps.length C1, .slice A2 kb.length C2], rfl, by omega, hb2, Nat.le_refl _, by decide, by simp, rfl⟩⟩
    · match i with
      | 0 =>
        simp at a b
        subst a b
        refine ⟨kb, (PS.of_own r1).below E13, (Sl.of_own r2).below E13, hr, hp9, by omega, fun b hb => ?_⟩
        have hlt : b < w1.heap.size := by
          rcases hb with hb | hb
          · exact (q1 b hb).2
          · exact (q2 b hb).2
        have := E13.size
        refine ⟨by omega, by omega, fun e => ?_⟩
        have e' : w1.heap.size = b := by simpa [Value.ownBlock] using e
        omega
      | i + 1 => simp at a
    · intro e
      have e' : w1.heap.size = w2.heap.size := by simpa [Value.ownBlock] using e
      omega
  have hE : Ext w w3 := Ext.trans f1 E13
  refine ⟨w2.heap.size, .slice (some ⟨w1.heap.size, 0, none⟩) 1 1, (.slice A1 t.ps.length C1, .slice A2 kb.length C2), by rw [hs2]; simp, by rw [hw3, hw2] at hst; rw [hw2]; exact hst, by rw [hw3, hw2] at hE; exact hE, by omega, fun b e => ?_, fun b hb => ?_⟩
  · have e' : w1.heap.size = b := by simpa [Value.ownBlock] using e
    omega
  · rcases hb with hb | hb
    · exact (q1 b hb).1
    · exact (q2 b hb).1

set_option maxRecDepth 100000 in
set_option maxHeartbeats 2000000 in
theorem all1_in (n : Nat) (hn : 1 ≤ n) (W0 : World) (v : Value) (t : WT) (k0 N0 : Nat) (L : List Pr) (Bx : World → Nat → Prop) (hr : RootW W0 v t) (hw : wtB [(t.ps, t.ks)] ≤ 1000000) (hL : L = (walkT t 1).map Prod.fst)
    (hBs : ∀ A B, N0 ≤ A.heap.size → StT W0.heap.size tauW A B → ∀ k, Bx B k → Bx A k)
    (l : Nat) (J Jx : List Pr → World → Prop) (W : World) (hW : Ext W0 W) (hk0 : W.cell? ⟨k0, 0, none⟩ = some v) (hN0 : N0 ≤ W.heap.size) (hBl : ∀ k, Bx W k → k < W.heap.size) (hJ : ∀ s A B, J s A → StT W0.heap.size tauW A B → J s B)
    (hY : ∀ pre (x : Pr) W1, J pre W1 → pre.length < L.length → pre ++ [x] <+: L → YieldAt Fence.wide (n - 1) Try.prog l (encPr x) W1 fun e W' =>
      (e = .returned (.bool true) ∧ J (pre ++ [x]) W' ∧ KpO W0.heap.size Bx W1 W') ∨ (e = .returned (.bool false) ∧ Jx (pre ++ [x]) W'))
    (h0 : J [] W) :
    CallsIn Fence.wide n Try.prog 52 #[.func (.yield l) #[] #[], ptr k0] W fun e W' => (∃ v, e = .returned v) ∧ ((∃ xs, xs = L ∧ J xs W') ∨ (∃ pre, pre <+: L ∧ Jx pre W')) := by
  have HR := Lib.hid hr
  have HL := Lib.hid hL
  have HJ0 := Lib.hid h0
  have HB := Lib.hid (And.intro hBl hBs)
  clear hr hL h0 hBl hBs
  refine callsIn_of_wp Try.func52 rfl trivial ?_ rfl
  simp only [Try.ntmps52, List.size_toArray, List.length_cons, List.length_nil, Nat.reduceAdd, Nat.reduceSub, Array.replicate_succ, Array.replicate_zero, List.push_toArray, List.append_toArray, List.nil_append, List.cons_append]
  repeat' (first | (refine ⟨trivial, ?_⟩; gi_at_call 14; refine (callsIn_wide.2 (wnew0_c W0 W hW v t HR.out)).mono ?_; rintro e w1 ⟨c, V, m0, rfl, hC, hE, hc1, hc2, hc3⟩; replace hC := Lib.hid (And.intro hC (And.intro hc1 (And.intro hc2 hc3))); clear hc1 hc2 hc3; replace hE := Lib.hid hE; go_simp) | gi_guarded | gi_step)
  have HJ1 : Hid (J [] w1) := Lib.hid (hJ _ _ _ HJ0.out (KeepQ.of_ext hE.out))
  have HA1 : Hid (AvB Bx w1 c V [m0]) := Lib.hid (fun b hb => by
    have h1 := HB.out.1 b (HB.out.2 W w1 hN0 (KeepQ.of_ext hE.out) b hb)
    have h2 := hE.out.size
    refine ⟨by omega, by have := hC.out.2.1; omega, fun e => by have := hC.out.2.2.1 b e; omega, fun i m hm hf => ?_⟩
    match i with
    | 0 => simp at hm; subst hm; have := hC.out.2.2.2 b hf; omega
    | i + 1 => simp at hm)
  have hNW : N0 ≤ w1.heap.size := Nat.le_trans hN0 hE.out.size
  clear hk0
  gi_loopg [] (comB [(t.ps, t.ks)] 1).length (fun gk wr => ∃ (V1 : Value) (ms1 : List Fm) (st1 : List Fp) (d1 : Nat) (pre : List Pr), (comB st1 1).length ≤ gk ∧ wtB st1 ≤ wtB [(t.ps, t.ks)] ∧ Hid (Cur W0 wr c V1 ms1 st1 d1 ∧ AvB Bx wr c V1 ms1 ∧ L = pre ++ (comB st1 1).map Prod.fst ∧ J pre wr ∧ N0 ≤ wr.heap.size))
  case atStart => exact ⟨V, [m0], _, 0, [], Nat.le_refl _, Nat.le_refl _, Lib.hid ⟨hC.out.1, HA1.out, by rw [HL.out, com_one]; rfl, HJ1.out, hNW⟩⟩
  case round =>
    obtain ⟨V1, ms1, st1, d1, pre, hgk, hwt, HI⟩ := hrel
    repeat' (first | gi_guarded | gi_step)
    refine ⟨trivial, ?_⟩
    gi_at_call 15
    refine (callsIn_wide.2 (wnextZ_c (Bx wr) W0 wr c V1 ms1 st1 d1 HI.out.1 (by omega) (fun k hk => (HI.out.2.1 k hk).1) (fun i m hm b hf hb => (HI.out.2.1 b hb).2.2.2 i m hm hf))).mono ?_
    rintro e w2 ⟨V2, ms2, st2, d2, hC2, hwt2, hT2, hN2, hcase, hZ2⟩
    have hS2 := HI.out.1.step (τ := tauW) hT2 (.inl rfl) (.inr rfl)
    have hJ2 := hJ _ _ _ HI.out.2.2.2.1 hS2
    have hb2 := HB.out.2 wr w2 HI.out.2.2.2.2 hS2
    have hA2 : AvB Bx w2 c V2 ms2 := AvB.next (d' := 0) (st' := []) HI.out.2.1 hT2 hN2 hb2 hZ2
    have hn2 : N0 ≤ w2.heap.size := Nat.le_trans HI.out.2.2.2.2 hT2.size
    rcases hcase with ⟨hc0, rfl, hc1, _⟩ | ⟨p, hc0, rfl⟩
    · have HE : Hid (J L (w2.alloc (.cells #[str [], str []] 40))) := Lib.hid (by
        have h1 := HI.out.2.2.1
        rw [hc0, List.map_nil, List.append_nil] at h1
        rw [h1]
        exact hJ _ _ _ hJ2 (KeepQ.of_ext ((Ext.refl _).alloc (Nat.le_refl _) _)))
      clear hc0 hc1 hC2 hT2 hN2 hS2 hJ2 hgk hb2 hA2 hZ2
      go_simp
      repeat' (first | gi_guarded | gi_step)
      refine ⟨fun _ _ => trivial, ?_⟩
      repeat' (first | gi_guarded | gi_step)
      (try simp only [Exit.inBlock, Exit.then])
      refine ⟨rfl, _, results_none rfl _ _ _, ⟨_, rfl⟩, .inl ⟨_, rfl, HE.out⟩⟩
    · have hxa : Ext w2 (w2.alloc (.cells #[str p.1, str p.2] 40)) := (Ext.refl w2).alloc (Nat.le_refl _) _
      have hJ3 := hJ _ _ _ hJ2 (KeepQ.of_ext hxa)
      have hA3 := AvB.same hA2 hxa.size (HB.out.2 _ _ hn2 (KeepQ.of_ext hxa))
      have hpre : L = (pre ++ [p]) ++ (comB st2 1).map Prod.fst := by rw [HI.out.2.2.1, hc0]; simp
      obtain ⟨fn, tmps, assign, body, hy, hR⟩ := hY pre p _ hJ3 (by rw [hpre]; simp) ⟨_, hpre.symm⟩
      have hlen : (comB st1 1).length = (comB st2 1).length + 1 := by rw [hc0]; rfl
      have H2 := Lib.hid (And.intro (hC2.keep hxa) (And.intro hA3 (And.intro hpre (Nat.le_trans hn2 hxa.size))))
      have HR2 := Lib.hid hR
      clear hc0 hC2 hT2 hN2 hS2 hJ2 hJ3 hpre hR hb2 hA2 hZ2 hA3 hxa
      go_simp
      repeat' (first | gi_guarded | gi_step)
      refine HR2.out.mono ?_
      rintro e W3 (⟨rfl, hJ3, hk3⟩ | ⟨rfl, hJx3⟩)
      · have hC3 := H2.out.1.kpo H2.out.2.1 hk3
        have H3 := Lib.hid (And.intro hC3 (And.intro hJ3 (Nat.le_trans H2.out.2.2.2 hk3.size)))
        clear hC3 hJ3 hk3 hy
        go_simp
        repeat' (first | gi_guarded | gi_step)
        gi_roundg ((comB st2 1).length)
        case measure => omega
        case rel => exact ⟨V2, ms2, st2, d2, pre ++ [p], Nat.le_refl _, by omega, Lib.hid ⟨H3.out.1.1, H3.out.1.2, H2.out.2.2.1, H3.out.2.1, H3.out.2.2⟩⟩
      · have H3 := Lib.hid hJx3
        clear hJx3 hy
        go_simp
        repeat' (first | gi_guarded | gi_step)
        (try simp only [Exit.inBlock, Exit.then])
        refine ⟨rfl, _, results_none rfl _ _ _, ⟨_, rfl⟩, .inr ⟨_, ⟨_, H2.out.2.2.1.symm⟩, H3.out⟩⟩

/-- walk.All's iterator over a trie: as the law of a range over a function wants it. -/
theorem all_seq (n : Nat) (hn : 1 ≤ n) (W0 : World) (v : Value) (t : WT) (k0 N0 : Nat) (L : List Pr) (Bx : World → Nat → Prop) (hr : RootW W0 v t) (hw : wtB [(t.ps, t.ks)] ≤ 1000000) (hL : L = (walkT t 1).map Prod.fst)
    (hBs : ∀ A B, N0 ≤ A.heap.size → StT W0.heap.size tauW A B → ∀ k, Bx B k → Bx A k) :
    SeqR Fence.wide n Try.prog 52 #[ptr k0] encPr (StT W0.heap.size tauW) (KpO W0.heap.size Bx) (fun xs => xs = L) (fun pre => pre <+: L) L.length (fun W => Ext W0 W ∧ W.cell? ⟨k0, 0, none⟩ = some v ∧ N0 ≤ W.heap.size ∧ ∀ k, Bx W k → k < W.heap.size) :=
  fun l J Jx W hW hJ _ hY h0 => all1_in n hn W0 v t k0 N0 L Bx hr hw hL hBs l J Jx W hW.1 hW.2.1 hW.2.2.1 hW.2.2.2 hJ (fun pre x W1 h1 h2 _ => hY pre x W1 h1 h2) h0
/-- The same, where all pairs are known to be so. -/
theorem all_seqQ (n : Nat) (hn : 1 ≤ n) (W0 : World) (v : Value) (t : WT) (k0 N0 : Nat) (L : List Pr) (Bx : World → Nat → Prop) (Q : Pr → Prop) (hQ : ∀ p ∈ L, Q p) (hr : RootW W0 v t) (hw : wtB [(t.ps, t.ks)] ≤ 1000000) (hL : L = (walkT t 1).map Prod.fst)
    (hBs : ∀ A B, N0 ≤ A.heap.size → StT W0.heap.size tauW A B → ∀ k, Bx B k → Bx A k) :
    SeqR Fence.wide n Try.prog 52 #[ptr k0] (fun x : { p : Pr // Q p } => encPr x.1) (StT W0.heap.size tauW) (KpO W0.heap.size Bx) (fun xs => xs.map Subtype.val = L) (fun pre => pre.map Subtype.val <+: L) L.length (fun W => Ext W0 W ∧ W.cell? ⟨k0, 0, none⟩ = some v ∧ N0 ≤ W.heap.size ∧ ∀ k, Bx W k → k < W.heap.size) := by
  intro l J Jx W hW hJ _ hY h0
  refine (all1_in n hn W0 v t k0 N0 L Bx hr hw hL hBs l (fun xs W => ∃ ys : List { p : Pr // Q p }, ys.map Subtype.val = xs ∧ J ys W) (fun xs W => ∃ ys : List { p : Pr // Q p }, ys.map Subtype.val = xs ∧ Jx ys W) W hW.1 hW.2.1 hW.2.2.1 hW.2.2.2 ?_ ?_ ⟨[], rfl, h0⟩).mono ?_
  · rintro s A B ⟨ys, e, h⟩ hst
    exact ⟨ys, e, hJ _ _ _ h hst⟩
  · rintro pre x W1 ⟨ys, rfl, h⟩ hlen ⟨r, hr⟩
    have hx : Q x := hQ x (by rw [← hr]; simp)
    obtain ⟨fn, tmps, assign, body, hy, hR⟩ := hY ys ⟨x, hx⟩ W1 h (by simpa using hlen)
    refine ⟨fn, tmps, assign, body, hy, hR.mono ?_⟩
    rintro e W' (⟨h1, h2, h3⟩ | ⟨h1, h2⟩)
    · exact .inl ⟨h1, ⟨_, by simp, h2⟩, h3⟩
    · exact .inr ⟨h1, _, by simp, h2⟩
  · rintro e W' ⟨h1, (⟨xs, rfl, ys, h2, h3⟩ | ⟨pre, h2, ys, rfl, h3⟩)⟩
    · exact ⟨h1, .inl ⟨ys, h2, h3⟩⟩
    · exact ⟨h1, .inr ⟨ys, h2, h3⟩⟩
theorem tauW_ne : ¬ tauW 27 ∧ ¬ tauW 40 := by unfold tauW; decide
set_option maxRecDepth 100000 in
theorem wall_c (w : World) (p0 : Option Addr) : Calls Try.prog 18 #[.pointer p0] w fun e w' => ∃ k0, e = .returned (.func (.func 52) #[] #[ptr k0]) ∧ w'.cell? ⟨k0, 0, none⟩ = some (.pointer p0) ∧ Ext w w' := by
  go_enter Try.func18, Try.ntmps18
  repeat' (first | go_skip | go_guarded | go_step)
  go_ret
  exact ⟨w.heap.size, rfl, by rw [World.cell?_alloc_at _ _ _ _ rfl]; rfl, (Ext.refl w).alloc (Nat.le_refl _) _⟩
end Go.Proofs.Ytbmakajadelckaa
/- Contract: the iterator of walk.All, for a body whose own blocks a predicate on the world tells. -/
namespace Go.Proofs.Ytbmakajadelckaa
open Go Go.RowKit Go.QS Go.QS.Nk
set_option linter.unusedVariables false
attribute [local go_sem] Oper.semAt_some

set_option maxRecDepth 100000 in
set_option maxHeartbeats 2000000 in
theorem all1P_in (n : Nat) (hn : 1 ≤ n) (W0 : World) (v : Value) (t : WT) (k0 : Nat) (L : List Pr) (Pw : World → Prop) (Bx : World → Nat → Prop) (hr : RootW W0 v t) (hw : wtB [(t.ps, t.ks)] ≤ 1000000) (hL : L = (walkT t 1).map Prod.fst)
    (hPs : ∀ A B, Pw A → StT W0.heap.size tauW A B → Pw B) (hBs : ∀ A B, Pw A → StT W0.heap.size tauW A B → ∀ k, Bx B k → Bx A k)
    (l : Nat) (J Jx : List Pr → World → Prop) (W : World) (hW : Ext W0 W) (hk0 : W.cell? ⟨k0, 0, none⟩ = some v) (hN0 : Pw W) (hBl : ∀ k, Bx W k → k < W.heap.size) (hJ : ∀ s A B, J s A → StT W0.heap.size tauW A B → J s B)
    (hY : ∀ pre (x : Pr) W1, J pre W1 → pre.length < L.length → pre ++ [x] <+: L → YieldAt Fence.wide (n - 1) Try.prog l (encPr x) W1 fun e W' =>
      (e = .returned (.bool true) ∧ J (pre ++ [x]) W' ∧ KpO W0.heap.size Bx W1 W' ∧ (Pw W1 → Pw W')) ∨ (e = .returned (.bool false) ∧ Jx (pre ++ [x]) W'))
    (h0 : J [] W) :
    CallsIn Fence.wide n Try.prog 52 #[.func (.yield l) #[] #[], ptr k0] W fun e W' => (∃ v, e = .returned v) ∧ ((∃ xs, xs = L ∧ J xs W') ∨ (∃ pre, pre <+: L ∧ Jx pre W')) := by
  have HR := Lib.hid hr
  have HL := Lib.hid hL
  have HJ0 := Lib.hid h0
  have HB := Lib.hid (And.intro hBl hBs)
  clear hr hL h0 hBl hBs
  refine callsIn_of_wp Try.func52 rfl trivial ?_ rfl
  simp only [Try.ntmps52, List.size_toArray, List.length_cons, List.length_nil, Nat.reduceAdd, Nat.reduceSub, Array.replicate_succ, Array.replicate_zero, List.push_toArray, List.append_toArray, List.nil_append, List.cons_append]
  repeat' (first | (refine ⟨trivial, ?_⟩; gi_at_call 14; refine (callsIn_wide.2 (wnew0_c W0 W hW v t HR.out)).mono ?_; rintro e w1 ⟨c, V, m0, rfl, hC, hE, hc1, hc2, hc3⟩; replace hC := Lib.hid (And.intro hC (And.intro hc1 (And.intro hc2 hc3))); clear hc1 hc2 hc3; replace hE := Lib.hid hE; go_simp) | gi_guarded | gi_step)
  have HJ1 : Hid (J [] w1) := Lib.hid (hJ _ _ _ HJ0.out (KeepQ.of_ext hE.out))
  have HA1 : Hid (AvB Bx w1 c V [m0]) := Lib.hid (fun b hb => by
    have h1 := HB.out.1 b (HB.out.2 W w1 hN0 (KeepQ.of_ext hE.out) b hb)
    have h2 := hE.out.size
    refine ⟨by omega, by have := hC.out.2.1; omega, fun e => by have := hC.out.2.2.1 b e; omega, fun i m hm hf => ?_⟩
    match i with
    | 0 => simp at hm; subst hm; have := hC.out.2.2.2 b hf; omega
    | i + 1 => simp at hm)
  have hNW : Pw w1 := hPs _ _ hN0 (KeepQ.of_ext hE.out)
  clear hk0
  gi_loopg [] (comB [(t.ps, t.ks)] 1).length (fun gk wr => ∃ (V1 : Value) (ms1 : List Fm) (st1 : List Fp) (d1 : Nat) (pre : List Pr), (comB st1 1).length ≤ gk ∧ wtB st1 ≤ wtB [(t.ps, t.ks)] ∧ Hid (Cur W0 wr c V1 ms1 st1 d1 ∧ AvB Bx wr c V1 ms1 ∧ L = pre ++ (comB st1 1).map Prod.fst ∧ J pre wr ∧ Pw wr))
  case atStart => exact ⟨V, [m0], _, 0, [], Nat.le_refl _, Nat.le_refl _, Lib.hid ⟨hC.out.1, HA1.out, by rw [HL.out, com_one]; rfl, HJ1.out, hNW⟩⟩
  case round =>
    obtain ⟨V1, ms1, st1, d1, pre, hgk, hwt, HI⟩ := hrel
    repeat' (first | gi_guarded | gi_step)
    refine ⟨trivial, ?_⟩
    gi_at_call 15
    refine (callsIn_wide.2 (wnextZ_c (Bx wr) W0 wr c V1 ms1 st1 d1 HI.out.1 (by omega) (fun k hk => (HI.out.2.1 k hk).1) (fun i m hm b hf hb => (HI.out.2.1 b hb).2.2.2 i m hm hf))).mono ?_
    rintro e w2 ⟨V2, ms2, st2, d2, hC2, hwt2, hT2, hN2, hcase, hZ2⟩
    have hS2 := HI.out.1.step (τ := tauW) hT2 (.inl rfl) (.inr rfl)
    have hJ2 := hJ _ _ _ HI.out.2.2.2.1 hS2
    have hb2 := HB.out.2 wr w2 HI.out.2.2.2.2 hS2
    have hA2 : AvB Bx w2 c V2 ms2 := AvB.next (d' := 0) (st' := []) HI.out.2.1 hT2 hN2 hb2 hZ2
    have hn2 : Pw w2 := hPs _ _ HI.out.2.2.2.2 hS2
    rcases hcase with ⟨hc0, rfl, hc1, _⟩ | ⟨p, hc0, rfl⟩
    · have HE : Hid (J L (w2.alloc (.cells #[str [], str []] 40))) := Lib.hid (by
        have h1 := HI.out.2.2.1
        rw [hc0, List.map_nil, List.append_nil] at h1
        rw [h1]
        exact hJ _ _ _ hJ2 (KeepQ.of_ext ((Ext.refl _).alloc (Nat.le_refl _) _)))
      clear hc0 hc1 hC2 hT2 hN2 hS2 hJ2 hgk hb2 hA2 hZ2
      go_simp
      repeat' (first | gi_guarded | gi_step)
      refine ⟨fun _ _ => trivial, ?_⟩
      repeat' (first | gi_guarded | gi_step)
      (try simp only [Exit.inBlock, Exit.then])
      refine ⟨rfl, _, results_none rfl _ _ _, ⟨_, rfl⟩, .inl ⟨_, rfl, HE.out⟩⟩
    · have hxa : Ext w2 (w2.alloc (.cells #[str p.1, str p.2] 40)) := (Ext.refl w2).alloc (Nat.le_refl _) _
      have hJ3 := hJ _ _ _ hJ2 (KeepQ.of_ext hxa)
      have hA3 := AvB.same hA2 hxa.size (HB.out.2 _ _ hn2 (KeepQ.of_ext hxa))
      have hpre : L = (pre ++ [p]) ++ (comB st2 1).map Prod.fst := by rw [HI.out.2.2.1, hc0]; simp
      obtain ⟨fn, tmps, assign, body, hy, hR⟩ := hY pre p _ hJ3 (by rw [hpre]; simp) ⟨_, hpre.symm⟩
      have hlen : (comB st1 1).length = (comB st2 1).length + 1 := by rw [hc0]; rfl
      have H2 := Lib.hid (And.intro (hC2.keep hxa) (And.intro hA3 (And.intro hpre (hPs _ _ hn2 (KeepQ.of_ext hxa)))))
      have HR2 := Lib.hid hR
      clear hc0 hC2 hT2 hN2 hS2 hJ2 hJ3 hpre hR hb2 hA2 hZ2 hA3 hxa
      go_simp
      repeat' (first | gi_guarded | gi_step)
      refine HR2.out.mono ?_
      rintro e W3 (⟨rfl, hJ3, hk3, hp3⟩ | ⟨rfl, hJx3⟩)
      · have hC3 := H2.out.1.kpo H2.out.2.1 hk3
        have H3 := Lib.hid (And.intro hC3 (And.intro hJ3 (hp3 H2.out.2.2.2)))
        clear hC3 hJ3 hk3 hp3 hy
        go_simp
        repeat' (first | gi_guarded | gi_step)
        gi_roundg ((comB st2 1).length)
        case measure => omega
        case rel => exact ⟨V2, ms2, st2, d2, pre ++ [p], Nat.le_refl _, by omega, Lib.hid ⟨H3.out.1.1, H3.out.1.2, H2.out.2.2.1, H3.out.2.1, H3.out.2.2⟩⟩
      · have H3 := Lib.hid hJx3
        clear hJx3 hy
        go_simp
        repeat' (first | gi_guarded | gi_step)
        (try simp only [Exit.inBlock, Exit.then])
        refine ⟨rfl, _, results_none rfl _ _ _, ⟨_, rfl⟩, .inr ⟨_, ⟨_, H2.out.2.2.1.symm⟩, H3.out⟩⟩

theorem allP_seq (n : Nat) (hn : 1 ≤ n) (W0 : World) (v : Value) (t : WT) (k0 : Nat) (L : List Pr) (Pw : World → Prop) (Bx : World → Nat → Prop) (hr : RootW W0 v t) (hw : wtB [(t.ps, t.ks)] ≤ 1000000) (hL : L = (walkT t 1).map Prod.fst)
    (hPs : ∀ A B, Pw A → StT W0.heap.size tauW A B → Pw B) (hBs : ∀ A B, Pw A → StT W0.heap.size tauW A B → ∀ k, Bx B k → Bx A k) :
    SeqR Fence.wide n Try.prog 52 #[ptr k0] encPr (StT W0.heap.size tauW) (fun A B => KpO W0.heap.size Bx A B ∧ (Pw A → Pw B)) (fun xs => xs = L) (fun pre => pre <+: L) L.length (fun W => Ext W0 W ∧ W.cell? ⟨k0, 0, none⟩ = some v ∧ Pw W ∧ ∀ k, Bx W k → k < W.heap.size) :=
  fun l J Jx W hW hJ _ hY h0 => all1P_in n hn W0 v t k0 L Pw Bx hr hw hL hPs hBs l J Jx W hW.1 hW.2.1 hW.2.2.1 hW.2.2.2 hJ (fun pre x W1 h1 h2 _ => hY pre x W1 h1 h2) h0
end Go.Proofs.Ytbmakajadelckaa
