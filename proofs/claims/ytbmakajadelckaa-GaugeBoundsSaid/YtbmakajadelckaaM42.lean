/- Texts joined. -/
import Derived.Test.YtbmakajadelckaaM41
import Derived.Test.YtbmakajadelckaaM07
import Derived.Test.YtbmakajadelckaaM05
import Derived.Laws.Rows
import Derived.Deep.LoopGhost
import Derived.Test.YtbmakajadelckaaM09
import Derived.Deep.DeepCutAuto
import Derived.Deep.QuietTactic
set_option linter.unusedVariables false
set_option linter.unusedSimpArgs false
/- Contracts: chapter 9's own few, trie. -/
namespace Go.QS
open Go.RowKit Go.QS.Nk
def cutL (l : List Pr) (i : Nat) : List Pr := ((l.take 40).take i).map cutP
theorem cutL_snoc {l : List Pr} {i : Nat} {p : Pr} (h : l[i]? = some p) (hi : i < 40) : cutL l (i + 1) = cutL l i ++ [cutP p] := by
  have : (l.take 40)[i]? = some p := by rw [List.getElem?_take_of_lt hi]; exact h
  rw [cutL, take_snoc this, List.map_append]; rfl
theorem cutL_past {l : List Pr} {i : Nat} (hi : 40 ≤ i) : cutL l i = cutL l 40 := by
  unfold cutL
  rw [List.take_take, List.take_take, Nat.min_eq_right hi, Nat.min_self]
theorem cutL_all {l : List Pr} {i : Nat} (hi : l.length ≤ i) : cutL l i = (l.take 40).map cutP := by
  unfold cutL
  rw [List.take_of_length_le (by rw [List.length_take]; omega)]
theorem cutL_len (l : List Pr) (i : Nat) : (cutL l i).length ≤ 40 := by
  unfold cutL
  simp only [List.length_map, List.length_take]
  omega
theorem cutL_keys (l : List Pr) (i : Nat) : ∀ p ∈ cutL l i, p.1.length ≤ 40 ∧ p.2.length ≤ 40 := by
  intro p hp
  obtain ⟨q, _, rfl⟩ := List.mem_map.1 hp
  exact cutP_short q
theorem rsort_sub (l : List Pr) : ∀ q ∈ rsort l, q ∈ l := by
  have key : ∀ (n : Nat) (l : List Pr), l.length = n → ∀ q ∈ rsort l, q ∈ l := by
    intro n
    induction n with
    | zero => intro l hl q hq; rw [List.eq_nil_of_length_eq_zero hl] at hq; simp [rsort] at hq
    | succ n ih =>
      intro l hl q hq
      rcases List.eq_nil_or_concat l with rfl | ⟨r, x, rfl⟩
      · simp at hl
      · rw [List.concat_eq_append] at hq hl ⊢
        rw [rsort_snoc] at hq
        rcases mem_rput.1 hq with rfl | ⟨h, _⟩
        · simp
        · exact List.mem_append_left _ (ih r (by simpa using hl) q h)
  exact key _ l rfl
/-- The map of the first pairs, cut. -/
def xOf (l : List Pr) : List Pr := rsort ((l.take 40).map cutP)
theorem xOf_ok (l : List Pr) : Rise (xOf l) ∧ (xOf l).length ≤ 40 ∧ ∀ q ∈ xOf l, q.1.length ≤ 40 ∧ q.2.length ≤ 40 := by
  refine ⟨rsort_rise _, ?_, fun q hq => ?_⟩
  · have := rsort_length ((l.take 40).map cutP)
    have h2 : ((l.take 40).map cutP).length ≤ 40 := by simp; omega
    unfold xOf; omega
  · obtain ⟨p, _, rfl⟩ := List.mem_map.1 (rsort_sub _ q hq)
    exact cutP_short p
end Go.QS
namespace Go.Proofs.Ytbmakajadelckaa
open Go.RowKit Go.QS Go.QS.Nk
set_option linter.unusedVariables false

set_option maxRecDepth 100000 in
theorem few09_c (w : World) (p : Pr) :
    Calls Try.prog 60 #[.agg #[str p.1, str p.2]] w fun e w' => e = .returned (.agg #[str (cutP p).1, str (cutP p).2]) ∧ Ext w w' := by
  obtain ⟨k, v⟩ := p
  simp only [cutP]
  by_cases h1 : 40 < k.length
  · have d1 : decide (40 < k.length) = true := by simp [h1]
    have b1 : (40 : Int) ≤ (k.length : Int) := by omega
    by_cases h2 : 40 < v.length
    · have d2 : decide (40 < v.length) = true := by simp [h2]
      have b2 : (40 : Int) ≤ (v.length : Int) := by omega
      go_enter Try.func60, Try.ntmps60
      repeat' (first | go_skip | go_guarded | go_step)
      (try simp only [Exit.inBlock, Exit.then]); refine bodyPost_ret_by (results_cell_row rfl _ _ _ _ _ _ _ rfl (heap_alloc2_new _ _ _) Try.underlying40 rfl (by kernel_rfl)) rfl ?_
      exact ⟨rfl, ((Ext.refl w).alloc (Nat.le_refl _) _).alloc (by simp) _⟩
    · have d2 : decide (40 < v.length) = false := by simp; omega
      have e2 : v.take 40 = v := List.take_of_length_le (by omega)
      rw [e2]
      go_enter Try.func60, Try.ntmps60
      repeat' (first | go_skip | go_guarded | go_step)
      (try simp only [Exit.inBlock, Exit.then]); refine bodyPost_ret_by (results_cell_row rfl _ _ _ _ _ _ _ rfl (heap_alloc2_new _ _ _) Try.underlying40 rfl (by kernel_rfl)) rfl ?_
      exact ⟨rfl, ((Ext.refl w).alloc (Nat.le_refl _) _).alloc (by simp) _⟩
  · have d1 : decide (40 < k.length) = false := by simp; omega
    have e1 : k.take 40 = k := List.take_of_length_le (by omega)
    rw [e1]
    by_cases h2 : 40 < v.length
    · have d2 : decide (40 < v.length) = true := by simp [h2]
      have b2 : (40 : Int) ≤ (v.length : Int) := by omega
      go_enter Try.func60, Try.ntmps60
      repeat' (first | go_skip | go_guarded | go_step)
      (try simp only [Exit.inBlock, Exit.then]); refine bodyPost_ret_by (results_cell_row rfl _ _ _ _ _ _ _ rfl (heap_alloc2_new _ _ _) Try.underlying40 rfl (by kernel_rfl)) rfl ?_
      exact ⟨rfl, ((Ext.refl w).alloc (Nat.le_refl _) _).alloc (by simp) _⟩
    · have d2 : decide (40 < v.length) = false := by simp; omega
      have e2 : v.take 40 = v := List.take_of_length_le (by omega)
      rw [e2]
      go_enter Try.func60, Try.ntmps60
      repeat' (first | go_skip | go_guarded | go_step)
      (try simp only [Exit.inBlock, Exit.then]); refine bodyPost_ret_by (results_cell_row rfl _ _ _ _ _ _ _ rfl (heap_alloc2_new _ _ _) Try.underlying40 rfl (by kernel_rfl)) rfl ?_
      exact ⟨rfl, ((Ext.refl w).alloc (Nat.le_refl _) _).alloc (by simp) _⟩
theorem box_free' {w : World} {g : Nat} {p : Pr} (h : PrAt w g p) (j : Nat) : w.frozen? ⟨g, j, none⟩ = false := by
  unfold PrAt at h
  simp [World.frozen?, h]
set_option maxRecDepth 100000 in
set_option maxHeartbeats 1000000 in
theorem trie09_c (h : Hs) (hk : h.Ok) (w : World) (v : Value) (l : List Pr) (hP : PS w v l) :
    Calls Try.prog 24 #[hsV h, v] w fun e w' => ∃ g v', e = .returned (.tuple #[ptr g, v']) ∧ Ext w w' ∧ TR ND h.hash w' 13 g (xOf l) ∧ PS w' v' (xOf l) := by
  obtain ⟨A, c, rfl, hl, hn, hc, hs⟩ := hP
  obtain ⟨n, hn2⟩ : ∃ n, n = l.length := ⟨_, rfl⟩
  have hn9 : n ≤ 9223372036854775807 := by unfold maxLen at hc; omega
  rw [← hn2] at hn ⊢
  have Hn := Lib.hid (And.intro hn2 hs)
  clear hn2 hl hs
  go_enter Try.func24, Try.ntmps24
  repeat' (go_not_at_region 1; (first | go_skip | go_guarded | go_step))
  obtain ⟨gh, hgh⟩ : ∃ g, g = w.heap.size := ⟨_, rfl⟩
  rw [← hgh]
  refine wp_named (fun w' => HsAt w' gh h ∧ Ext w w') ⟨by rw [hgh]; exact heap_new w _, (Ext.refl w).alloc (Nat.le_refl _) _⟩ ?_
  clear hgh
  intro wa HW
  repeat' (first | go_at_call 12 | (go_not_at_region 4; (first | go_skip | go_guarded | go_step)))
  refine (empty_c h wa).mono ?_
  rintro e w0 ⟨g0, rfl, T0, f0⟩
  have H0 : Hid (HsAt w0 gh h ∧ Ext w w0 ∧ TR ND h.hash w0 13 g0 []) := Lib.hid ⟨HW.out.1.ext f0, HW.out.2.trans f0, T0⟩
  clear T0 f0 HW
  go_simp
  repeat' (go_not_at_region 4; (first | go_skip | go_guarded | go_step))
  go_loopg [6, 7, 8, 9, 13] n (fun gk vn vx vi vp vc wr => ∃ i g : Nat, vn = ptr g ∧ vc = .int .i64 i ∧ i ≤ n ∧ n - i ≤ gk ∧ Hid (HsAt wr gh h ∧ Ext w wr ∧ TR ND h.hash wr 13 g (rsort (cutL l i)) ∧ PS wr vx (rsort (cutL l i))))
  case atStart => exact ⟨0, g0, rfl, rfl, Nat.zero_le _, by omega, Lib.hid ⟨H0.out.1, H0.out.2.1, H0.out.2.2, Sl.nil _ _⟩⟩
  case round =>
    obtain ⟨i, g, rfl, rfl, hin, hgk, HI⟩ := hrel
    rcases Nat.lt_or_ge i n with hlt | hge
    · have d1 : decide (i < n) = true := by simp [hlt]
      obtain ⟨p, hp⟩ := get_of_lt l (show i < l.length by have := Hn.out.1; omega)
      obtain ⟨b, o, rfl, hq1, hq2⟩ := seg_pair (Hn.out.2.below HI.out.2.1) hp
      have hi1 : (i : Int) < (n : Int) := by omega
      have HP := Lib.hid hp
      clear hp
      repeat' (go_not_at_region 6; (first | go_skip | go_guarded | go_step))
      obtain ⟨gp, hgp⟩ : ∃ g, g = wr.heap.size := ⟨_, rfl⟩
      rw [← hgp]
      refine wp_named (fun w' => PrAt w' gp p ∧ HsAt w' gh h ∧ Ext w w' ∧ Ext wr w' ∧ wr.heap.size ≤ gp) ⟨by rw [hgp]; exact heap_new wr _, HI.out.1.ext ((Ext.refl _).alloc (Nat.le_refl _) _), HI.out.2.1.alloc HI.out.2.1.size _, (Ext.refl _).alloc (Nat.le_refl _) _, by omega⟩ ?_
      clear hgp hq1 hq2
      intro w1 H1
      have G5 : wr.heap.size ≤ gp := H1.out.2.2.2.2
      by_cases h40 : i < 40
      · have d2 : decide (i < 40) = true := by simp [h40]
        obtain ⟨c1, c2⟩ := H1.out.1.cells
        repeat' (first | go_at_call 60 | go_skip | go_guarded | go_step)
        refine (few09_c _ p).mono ?_
        rintro e w2 ⟨rfl, f2⟩
        obtain ⟨q, hq⟩ : ∃ q, q = cutP p := ⟨_, rfl⟩
        rw [← hq]
        have hql : q.1.length ≤ 40 := by rw [hq]; exact (cutP_short p).1
        have HQ := Lib.hid hq
        have H2 : Hid (PrAt w2 gp p ∧ HsAt w2 gh h ∧ Ext w w2 ∧ Ext wr w2) := Lib.hid ⟨H1.out.1.ext f2, H1.out.2.1.ext f2, H1.out.2.2.1.trans f2, H1.out.2.2.2.1.trans f2⟩
        clear c1 c2 f2 hq
        obtain ⟨c1, c2⟩ := H2.out.1.cells
        have cf := box_free' H2.out.1
        have hgl := heap_lt H2.out.1
        have hne : gh ≠ gp := by
          have := heap_lt HI.out.1
          omega
        go_simp
        repeat' (go_not_at_region 8; (first | go_skip | go_guarded | go_step))
        refine wp_named (fun w' => PrAt w' gp q ∧ HsAt w' gh h ∧ Ext w w' ∧ Ext wr w') ⟨?_, ?_, ?_, ?_⟩ ?_
        · exact heap_set (heap_set H2.out.1 0 _) 1 _
        · exact (Below.heap_setCell _ _ _ _ hne).trans ((Below.heap_setCell _ _ _ _ hne).trans H2.out.2.1)
        · have hle : w.heap.size ≤ gp := Nat.le_trans HI.out.2.1.size G5
          exact (H2.out.2.2.1.setCell hle _).setCell hle _
        · exact (H2.out.2.2.2.setCell G5 _).setCell G5 _
        intro w3 H3
        clear c1 c2 cf hgl H1 H2
        obtain ⟨c1, c2⟩ := H3.out.1.cells
        obtain ⟨e0, e1, e2⟩ := H3.out.2.1.cells
        have hr := rsort_rise (cutL l i)
        have hlen : (rsort (cutL l i)).length ≤ 40 := Nat.le_trans (rsort_length _) (cutL_len l i)
        have HPU := Lib.hid (cput_c h hk w3 (ptr g) _ q (Rot.of (TR.ext H3.out.2.2.2 13 HI.out.2.2.1)) hr (by omega) (fun y hy => by have := (cutL_keys l i y (rsort_sub _ y hy)).1; omega) (by omega))
        clear hr
        repeat' (first | go_at_call 13 | go_skip | go_guarded | go_step)
        refine HPU.out.mono ?_
        rintro e w4 ⟨g4, rfl, t4, f4, _⟩
        have H4 : Hid (PrAt w4 gp q ∧ HsAt w4 gh h ∧ Ext w w4 ∧ Ext wr w4 ∧ TR ND h.hash w4 13 g4 (rput (rsort (cutL l i)) q)) := Lib.hid ⟨H3.out.1.ext f4, H3.out.2.1.ext f4, H3.out.2.2.1.trans f4, H3.out.2.2.2.trans f4, t4⟩
        clear f4 t4 c1 c2 e0 e1 e2 HPU H3
        obtain ⟨c1, c2⟩ := H4.out.1.cells
        go_simp
        repeat' (first | go_at_call 32 | go_skip | go_guarded | go_step)
        refine (rput_c w4 _ (rsort (cutL l i)) q (HI.out.2.2.2.below H4.out.2.2.2.1) (by omega) (by omega)).mono ?_
        rintro e w5 ⟨v5, rfl, o5, f5⟩
        have H5 : Hid (HsAt w5 gh h ∧ Ext w w5 ∧ TR ND h.hash w5 13 g4 (rsort (cutL l (i + 1))) ∧ PS w5 v5 (rsort (cutL l (i + 1)))) := by
          rw [cutL_snoc HP.out h40, ← HQ.out, rsort_snoc]
          exact Lib.hid ⟨H4.out.2.1.ext f5, H4.out.2.2.1.trans f5, TR.ext f5 13 H4.out.2.2.2.2, PS.of_own o5⟩
        clear f5 o5 c1 c2 hql
        go_simp
        repeat' (first | go_skip | go_guarded | go_step)
        go_roundg (n - (i + 1))
        case measure => omega
        case rel => exact ⟨i + 1, g4, rfl, by go_num, by omega, Nat.le_refl _, H5⟩
      · have d2 : decide (i < 40) = false := by simp; omega
        repeat' (first | go_skip | go_guarded | go_step)
        go_roundg (n - (i + 1))
        case measure => omega
        case rel =>
          refine ⟨i + 1, g, rfl, by go_num, by omega, Nat.le_refl _, ?_⟩
          have e1 : cutL l (i + 1) = cutL l i := by rw [cutL_past (show 40 ≤ i + 1 by omega), cutL_past (show 40 ≤ i by omega)]
          rw [e1]
          exact Lib.hid ⟨H1.out.2.1, H1.out.2.2.1, TR.ext H1.out.2.2.2.1 13 HI.out.2.2.1, HI.out.2.2.2.below H1.out.2.2.2.1⟩
    · obtain rfl : i = n := by omega
      have d1 : decide (i < i) = false := by simp
      have hcx : rsort (cutL l i) = xOf l := by rw [cutL_all (by have := Hn.out.1; omega)]; rfl
      rw [hcx] at HI
      repeat' (first | go_skip | go_guarded | go_step)
      go_ret2
      exact ⟨g, _, rfl, HI.out.2.1, HI.out.2.2.1, HI.out.2.2.2⟩
end Go.Proofs.Ytbmakajadelckaa
/- Contract: how much there is in a trie: gauge's add, Of. -/
namespace Go.Proofs.Ytbmakajadelckaa
open Go.RowKit Go.QS Go.QS.Nk
set_option linter.unusedVariables false

abbrev SGT : TypeId := 70
abbrev stC (s : St5) : Array Value := #[.int .i64 (s.n : Int), .int .i64 (s.k : Int), .int .i64 (s.p : Int), .int .i64 (s.d : Int), .int .i64 (s.m : Int)]
def StatAt (w : World) (b : Nat) (s : St5) : Prop := w.heap[b]? = some (.cells (stC s) SGT (0, 0))
theorem StatAt.cells {w : World} {b : Nat} {s : St5} (h : StatAt w b s) : w.cell? ⟨b, 0, none⟩ = some (.int .i64 (s.n : Int)) ∧ w.cell? ⟨b, 1, none⟩ = some (.int .i64 (s.k : Int)) ∧ w.cell? ⟨b, 2, none⟩ = some (.int .i64 (s.p : Int)) ∧ w.cell? ⟨b, 3, none⟩ = some (.int .i64 (s.d : Int)) ∧ w.cell? ⟨b, 4, none⟩ = some (.int .i64 (s.m : Int)) ∧ ∀ j, w.frozen? ⟨b, j, none⟩ = false := by
  unfold StatAt at h
  refine ⟨?_, ?_, ?_, ?_, ?_, fun j => ?_⟩ <;> simp [World.cell?, World.frozen?, h]
theorem StatAt.ext {w w' : World} {b : Nat} {s : St5} (h : StatAt w b s) (f : Ext w w') : StatAt w' b s := (f.block b (heap_lt h)).trans h
/-- One block turns alone. -/
abbrev Onl (b : Nat) (w w' : World) : Prop := Only (fun k => k = b) w w'
theorem Onl.of_ext {b : Nat} {w w' : World} (f : Ext w w') : Onl b w w' := Only.of_ext f
theorem Onl.setB {b : Nat} {a w : World} (h : Onl b a w) (j : Nat) (u : Value) : Onl b a (w.setCell ⟨b, j, none⟩ u) := Only.setCell h (.inl rfl) u

theorem Onl.ext {b : Nat} {W w w' : World} (h : Onl b w w') (f : Ext W w) (hb : W.heap.size ≤ b) : Ext W w' := ⟨h.os.trans f.os, h.tape.trans f.tape, h.output.trans f.output, Nat.le_trans f.size h.size, fun k hk => (h.block k (Nat.lt_of_lt_of_le hk f.size) (by omega)).trans (f.block k hk)⟩

def AddOk (W0 : World) (g : Nat) (t : WT) : Prop := ∀ (w : World) (b d : Nat) (s : St5), Ext W0 w → W0.heap.size ≤ b → StatAt w b s → s.n + cntT t ≤ 1000000000 → s.k + bksT t ≤ 1000000000 → s.p + prsT t ≤ 1000000000 → 1 ≤ d → d + htT t ≤ 1000000000 →
  Calls Try.prog 63 #[ptr b, ptr g, .int .i64 (d : Int)] w fun e w' => e = .returned (.tuple #[]) ∧ StatAt w' b (stT t d s) ∧ Onl b w w'

set_option maxRecDepth 100000 in
set_option maxHeartbeats 1000000 in
theorem add_c {W0 : World} {g : Nat} {t : WT} (h : RepN ND W0 g t) : AddOk W0 g t := by
  induction h with
  | mk h hd hn h9 hl hl9 hk ih =>
  rename_i g t d0 n0 ow pv kv kb
  intro w b d s hE hb hS h1 h2 h3 hd1 h4
  have HN := Lib.hid h
  have HI := Lib.hid (And.intro ih (And.intro hl hE))
  have HS := Lib.hid hS
  have hbl : b < w.heap.size := heap_lt hS
  clear h ih hk hS
  go_enter Try.func63, Try.ntmps63
  repeat' (first | go_at_call 43 | go_skip | go_guarded | go_step)
  have HNE := HN.out.ext HI.out.2.2
  refine (npairs_c w g pv t.ps HNE.node.cells.2.2.1 HNE.pairs (by omega)).mono ?_
  rintro e w1 ⟨v1, rfl, r1, f1⟩
  obtain ⟨A1, C1, rfl⟩ := own_slice r1
  have hb1 : ∀ k, (Value.slice A1 t.ps.length C1).ownBlock = some k → w.heap.size ≤ k := fun k hk => (World.ownsRow.lt r1 k hk).1
  obtain ⟨c0, c1, c2, c3, c4, cf⟩ := (HS.out.ext f1).cells
  have hN1 := HNE.node.cells
  have hbl1 : b < w1.heap.size := Nat.lt_of_lt_of_le hbl f1.size
  have H1 := Lib.hid (And.intro r1 f1)
  obtain ⟨n, hn⟩ : ∃ n, n = t.ps.length := ⟨_, rfl⟩
  rw [← hn]
  have hn9 : n ≤ 1000000 := by omega
  have Hn := Lib.hid hn
  have e1 := cntT_eq t
  have e2 := prsT_eq t
  have e3 := htT_eq t
  have e4 := bksT_eq t
  clear r1 f1 HNE hN1 hn
  go_simp
  repeat' (go_not_at_region 5; (first | go_skip | go_guarded | go_step))
  obtain ⟨s1, hs1⟩ : ∃ s1 : St5, s1 = ⟨s.n + 1, s.k, s.p + n, max s.d d, s.m⟩ := ⟨_, rfl⟩
  refine wp_nameW (fun w' => StatAt w' b s1 ∧ Ext W0 w' ∧ Onl b w w') ⟨?_, ?_, ?_⟩ ?_
  · have := heap_set (heap_set (heap_set (HS.out.ext H1.out.2) 0 (.int .i64 ((s.n : Int) + 1))) 2 (.int .i64 ((s.p : Int) + (n : Int)))) 3 (.int .i64 (max (s.d : Int) (d : Int)))
    refine this.trans ?_
    rw [hs1]
    simp only [stC]
    rw [show ((max s.d d : Nat) : Int) = max (s.d : Int) (d : Int) by omega]
    rfl
  · exact (((hE.trans H1.out.2).setCell hb _).setCell hb _).setCell hb _
  · exact ((Onl.of_ext H1.out.2).setB 0 _).setB 2 _ |>.setB 3 _
  intro w2 H2
  clear c0 c1 c2 c3 c4 cf H1 hbl1 hb1
  obtain ⟨hS2, hE2, hO2⟩ := H2.out
  obtain ⟨c0, c1, c2, c3, c4, cf⟩ := hS2.cells
  have hbl2 : b < w2.heap.size := heap_lt hS2
  have HN2 := HN.out.ext hE2
  have hi5 := isb_c w2 g t.b HN2.node.cells.2.2.2.2.1
  have HI5 := Lib.hid hi5
  clear hS2 hE2 hO2 HN2 hi5
  repeat' (first | go_at_call 38 | go_skip | go_guarded | go_step)
  refine HI5.out.mono ?_
  rintro e w3 ⟨rfl, f3⟩
  clear c0 c1 c2 c3 c4 cf
  have H3 : Hid (StatAt w3 b s1 ∧ Ext W0 w3 ∧ Onl b w w3) := Lib.hid ⟨H2.out.1.ext f3, H2.out.2.1.trans f3, H2.out.2.2.trans (Only.of_ext f3)⟩
  clear f3 H2 HI5 hbl2
  obtain ⟨c0, c1, c2, c3, c4, cf⟩ := H3.out.1.cells
  have hbl3 : b < w3.heap.size := heap_lt H3.out.1
  obtain ⟨s2, hs2⟩ : ∃ s2 : St5, s2 = ⟨s1.n, s1.k + (if t.b then 1 else 0), s1.p, s1.d, if t.b then max s1.m n else s1.m⟩ := ⟨_, rfl⟩
  have HS1 := Lib.hid hs1
  have hk9 : s1.k ≤ 1000000000 := by rw [hs1]; show s.k ≤ _; omega
  clear hs1
  go_simp
  repeat' (go_not_at_if 39; (first | go_skip | go_guarded | go_step))
  go_cut [] (fun wx => Hid (StatAt wx b s2 ∧ Ext W0 wx ∧ Onl b w wx))
  case first =>
    cases ht : t.b with
    | true =>
      rw [ht] at hs2
      simp only [if_true] at hs2
      repeat' (first | go_skip | go_guarded | go_step)
      go_meet
      refine Lib.hid ⟨?_, (H3.out.2.1.setCell hb _).setCell hb _, (H3.out.2.2.setB 1 _).setB 4 _⟩
      have := heap_set (heap_set H3.out.1 1 (.int .i64 ((s1.k : Int) + 1))) 4 (.int .i64 (max (s1.m : Int) (n : Int)))
      refine this.trans ?_
      rw [hs2]
      simp only [stC]
      rw [show ((max s1.m n : Nat) : Int) = max (s1.m : Int) (n : Int) by omega]
      rfl
    | false =>
      rw [ht] at hs2
      simp only [Bool.false_eq_true, if_false, Nat.add_zero] at hs2
      repeat' (first | go_skip | go_guarded | go_step)
      go_meet
      rw [hs2]
      exact H3
  case rest =>
    have hfin : ∀ ts : List WT, ts = t.ks → stL ts (d + 1) s2 = stT t d s := by
      intro ts hts
      subst hts
      have h1 := HS1.out
      have hx := cntT_eq t
      have hm := mostT_eq t
      have hn := Hn.out
      simp only [stL, stT, hs2, h1]
      rw [hx, e2, e4, e3, hm]
      have hd' : (if t.ks = [] then 0 else d + 1 - 1 + htL t.ks) = if t.ks = [] then 0 else d + htL t.ks := by split <;> omega
      rw [hd']
      have hz : t.ks = [] → htL t.ks = 0 := fun e => by rw [e]; rfl
      congr 1
      · omega
      · omega
      · omega
      · split
        · rename_i he; have := hz he; omega
        · omega
      · cases t.b <;> simp <;> omega
    have hs2b : s2.n = s.n + 1 ∧ s2.k = s.k + (if t.b then 1 else 0) ∧ s2.p = s.p + t.ps.length ∧ s2.d = max s.d d := by
      rw [hs2, HS1.out]
      exact ⟨rfl, rfl, by rw [← Hn.out], rfl⟩
    have HF := Lib.hid hfin
    have HB2 := Lib.hid hs2b
    clear hfin hs2b hs2 c0 c1 c2 c3 c4 cf hbl3 H3
    have HNc := HN.out.ext hcut.out.2.1
    have hk5 := nkids_c wc g kv kb HNc.node.cells.2.2.2.1 HNc.kids (by omega)
    have HK5 := Lib.hid hk5
    clear HNc hk5
    repeat' (first | go_at_call 64 | go_skip | go_guarded | go_step)
    refine HK5.out.mono ?_
    rintro e w4 ⟨v4, rfl, r4, f4⟩
    have hlt4 := World.ownsRow.lt r4
    obtain ⟨A4, C4, hA4, _, hn4, hc4, hs4⟩ : Sl w4 1 v4 kb.length (ptrs kb) := Sl.of_own r4
    subst hA4
    obtain ⟨m, hm⟩ : ∃ m, m = kb.length := ⟨_, rfl⟩
    rw [← hm] at hn4 ⊢
    have hm9 : m ≤ 32 := by omega
    have hA : ∀ b' o, A4 = some ⟨b', o, none⟩ → ¬ (b' = b) := by
      intro b' o e hb'
      have h1 := hlt4 b' (by rw [e]; rfl)
      have h2 := heap_lt hcut.out.1
      omega
    have H4 : Hid (StatAt w4 b s2 ∧ Ext W0 w4 ∧ Onl b w w4 ∧ Seg w4 A4 (ptrs kb)) := Lib.hid ⟨hcut.out.1.ext f4, hcut.out.2.1.trans f4, hcut.out.2.2.trans (Only.of_ext f4), hs4⟩
    have HAb := Lib.hid hA
    have Hm := Lib.hid hm
    clear hlt4 hs4 r4 f4 hA hm HK5 hcut
    go_simp
    repeat' (go_not_at_region 9; (first | go_skip | go_guarded | go_step))
    go_loopg [8, 60] m (fun gk v8 v60 wr => ∃ i : Nat, v60 = .int .i64 i ∧ i ≤ m ∧ m - i ≤ gk ∧ Hid (StatAt wr b (stL (t.ks.take i) (d + 1) s2) ∧ Ext W0 wr ∧ Onl b w wr ∧ Seg wr A4 (ptrs kb)))
    case atStart => exact ⟨0, rfl, Nat.zero_le _, by omega, Lib.hid (by rw [List.take_zero, stL_nil]; exact H4.out)⟩
    case round =>
      obtain ⟨i, rfl, him, hgk, HR⟩ := hrel
      rcases Nat.lt_or_ge i m with hlt | hge
      · have d1 : decide (i < m) = true := by simp [hlt]
        have hi1 : (i : Int) < (m : Int) := by omega
        obtain ⟨k, hk⟩ := get_of_lt kb (show i < kb.length by have := Hm.out; omega)
        obtain ⟨u, hu⟩ := get_of_lt t.ks (show i < t.ks.length by have := HI.out.2.1; have := Hm.out; omega)
        obtain ⟨q1, q2, q3, q4⟩ := cntL_at hu
        obtain ⟨z1, z2, z3, z4⟩ := HB2.out
        have hcall := HI.out.1 i k u hk hu wr b (d + 1) (stL (t.ks.take i) (d + 1) s2) HR.out.2.1 hb HR.out.1 (by simp only [stL]; omega) (by simp only [stL]; omega) (by simp only [stL]; omega) (by omega) (by omega)
        rw [← stL_snoc, ← take_snoc hu] at hcall
        obtain ⟨b', o', rfl, hcl⟩ := HR.out.2.2.2 (fun e => by have := ptrs_get hk; rw [e] at this; simp at this)
        have hq := hcl i _ (ptrs_get hk)
        have HC := Lib.hid hcall
        clear hcall hcl hk hu q1 q2 q3 q4 z1 z2 z3 z4
        repeat' (first | go_at_call 63 | go_skip | go_guarded | go_step)
        refine HC.out.mono ?_
        rintro e w5 ⟨rfl, s5, o5⟩
        have H5 : Hid (StatAt w5 b (stL (t.ks.take (i + 1)) (d + 1) s2) ∧ Ext W0 w5 ∧ Onl b w w5 ∧ Seg w5 (some ⟨b', o', none⟩) (ptrs kb)) := Lib.hid ⟨s5, Onl.ext o5 HR.out.2.1 hb, HR.out.2.2.1.trans o5, o5.seg HR.out.2.2.2 HAb.out⟩
        clear s5 o5 hq
        go_simp
        repeat' (first | go_skip | go_guarded | go_step)
        go_roundg (m - (i + 1))
        case measure => omega
        case rel => exact ⟨i + 1, by go_num, by omega, Nat.le_refl _, H5⟩
      · obtain rfl : i = m := by omega
        have d1 : decide (i < i) = false := by simp
        have ht : t.ks.take i = t.ks := List.take_of_length_le (by have := HI.out.2.1; have := Hm.out; omega)
        repeat' (first | go_skip | go_guarded | go_step)
        (try simp only [Exit.inBlock, Exit.then])
        first | refine bodyPost_ret (results_none rfl _ _ _) rfl ?_ | refine bodyPost_end (results_none rfl _ _ _) rfl ?_
        have hfin := HR.out.1
        rw [ht, HF.out _ rfl] at hfin
        exact ⟨rfl, hfin, HR.out.2.2.1⟩
end Go.Proofs.Ytbmakajadelckaa
/- Contract: gauge.Of. -/
namespace Go.Proofs.Ytbmakajadelckaa
open Go.RowKit Go.QS Go.QS.Nk
set_option linter.unusedVariables false

abbrev st0 : St5 := ⟨0, 0, 0, 0, 0⟩
abbrev zSt : Obj := .cells #[.int .i64 0, .int .i64 0, .int .i64 0, .int .i64 0, .int .i64 0] SGT
theorem StatAt.new (w : World) : StatAt (w.alloc zSt) w.heap.size st0 := heap_new w _
theorem results_rowG {P : Program} {fn : Func} {p : Tmp} {ty : TypeId} (h : fn.results = #[.cell p ty]) (tmps : Array Value) (w : World) (g : Nat) (t : TypeId) (cs : Array Value) (fr : Nat × Nat) (d : TypeDesc)
    (hp : tmps.getD p undef = .pointer (some ⟨g, 0, none⟩)) (hg : w.heap[g]? = some (.cells cs t fr)) (hu : P.underlying ty = some d) (hd : (match d with | .struct _ | .array _ _ => true | _ => false) = true) (hi : (P.info? ty).map (·.size) = some cs.size) :
    (results fn tmps).run P w = .ok (.agg cs) w := results_cell_row h tmps w g t cs fr d hp hg hu hd hi
set_option maxRecDepth 100000 in
set_option maxHeartbeats 1000000 in
theorem gof_c (w : World) (g : Nat) (t : WT) (h : RepN ND w g t) (h1 : cntT t ≤ 1000000000) (h2 : bksT t ≤ 1000000000) (h3 : prsT t ≤ 1000000000) (h4 : htT t ≤ 1000000) :
    Calls Try.prog 28 #[ptr g] w fun e w' => e = .returned (.agg (stC (stT t 1 st0))) ∧ Ext w w' := by
  have HA := Lib.hid (add_c h)
  clear h
  go_enter Try.func28, Try.ntmps28
  repeat' (go_not_at_region 2; (first | go_skip | go_guarded | go_step))
  obtain ⟨a, ha⟩ : ∃ a, a = w.heap.size := ⟨_, rfl⟩
  obtain ⟨b, hb⟩ : ∃ b, b = a + 1 := ⟨_, rfl⟩
  rw [← ha, ← hb]
  refine wp_nameW (fun w' => StatAt w' a st0 ∧ StatAt w' b st0 ∧ Ext w w' ∧ w.heap.size ≤ a) ⟨?_, ?_, ?_, ?_⟩ ?_
  · rw [ha]; exact (StatAt.new w).ext ((Ext.refl _).alloc (Nat.le_refl _) _)
  · have := StatAt.new (w.alloc zSt)
    rw [show b = (w.alloc zSt).heap.size by rw [hb, ha]; simp]
    exact this
  · exact ((Ext.refl w).alloc (Nat.le_refl _) _).alloc (by simp) _
  · omega
  have hab : a ≠ b := by omega
  have hbw : w.heap.size ≤ b := by omega
  clear ha hb
  intro w1 H1
  have HC := Lib.hid (HA.out w1 b 1 st0 H1.out.2.2.1 hbw H1.out.2.1 (by simpa using h1) (by simpa using h2) (by simpa using h3) (Nat.le_refl _) (by omega))
  repeat' (first | go_at_call 63 | go_skip | go_guarded | go_step)
  refine HC.out.mono ?_
  rintro e w2 ⟨rfl, s2, o2⟩
  have H2 : Hid (StatAt w2 a st0 ∧ StatAt w2 b (stT t 1 st0) ∧ Ext w w2) := Lib.hid ⟨o2.heap H1.out.1 hab, s2, o2.ext H1.out.2.2.1 hbw⟩
  clear s2 o2 HC
  obtain ⟨a0, a1, a2, a3, a4, af⟩ := H2.out.1.cells
  obtain ⟨c0, c1, c2, c3, c4, cf⟩ := H2.out.2.1.cells
  have hal := heap_lt H2.out.1
  go_simp
  repeat' (first | go_skip | go_guarded | go_step)
  (try simp only [Exit.inBlock, Exit.then])
  trace_state
  refine bodyPost_ret_by (results_rowG rfl _ _ _ _ _ _ _ rfl (heap_set (heap_set (heap_set (heap_set (heap_set H2.out.1 0 _) 1 _) 2 _) 3 _) 4 _) Try.underlying70 rfl (by kernel_rfl)) rfl ?_
  have hle : w.heap.size ≤ a := H1.out.2.2.2
  exact ⟨rfl, ((((H2.out.2.2.setCell hle _).setCell hle _).setCell hle _).setCell hle _).setCell hle _⟩
end Go.Proofs.Ytbmakajadelckaa
/- Contracts: rows of numbers alike; chapter 9's awake; the law's hasher. -/
namespace Go.QS
open Go.RowKit Go.QS.Nk
def pa9 : Pr := ([97], [])
def pb9 : Pr := ([98], [])
theorem st_example : stT (trieOf (fun _ => 0) 13 [pa9, pb9]) 1 ⟨0, 0, 0, 0, 0⟩ = ⟨14, 1, 2, 14, 2⟩ := by
  have h1 : cntT (trieOf (fun _ => 0) 13 [pa9, pb9]) = 14 := by decide +kernel
  have h2 : bksT (trieOf (fun _ => 0) 13 [pa9, pb9]) = 1 := by decide +kernel
  have h3 : prsT (trieOf (fun _ => 0) 13 [pa9, pb9]) = 2 := by decide +kernel
  have h4 : htT (trieOf (fun _ => 0) 13 [pa9, pb9]) = 14 := by decide +kernel
  have h5 : mostT (trieOf (fun _ => 0) 13 [pa9, pb9]) = 2 := by decide +kernel
  simp [stT, h1, h2, h3, h4, h5]
theorem put_ab9 : rput [pa9] pb9 = [pa9, pb9] := by decide +kernel
theorem put_a9 : rput [] pa9 = [pa9] := by decide +kernel
end Go.QS
namespace Go.Proofs.Ytbmakajadelckaa
open Go.RowKit Go.QS Go.QS.Nk
set_option linter.unusedVariables false

abbrev hs0 : Hs := ⟨0, 0, 0⟩
theorem hs0_ok : hs0.Ok := ⟨by decide, by decide, by decide⟩
theorem hs0_hash : hs0.hash = fun _ => 0 := by funext s; simp [Hs.hash]
def ints (l : List Int) : List Value := l.map fun n => .int .i64 n
theorem ints_get {l : List Int} {i : Nat} {n : Int} (h : l[i]? = some n) : (ints l)[i]? = some (.int .i64 n) := by simp [ints, h]
theorem lens_ints (t : WT) (n : Nat) : lens t n = ints ((List.range n).map fun j => (((lay j [t]).length : Nat) : Int)) := by simp [lens, ints]
set_option maxRecDepth 100000 in
set_option maxHeartbeats 1000000 in
theorem awake09_c (w : World) : Calls Try.prog 23 #[] w fun e w' => e = .returned (.bool true) ∧ Ext w w' := by
  have hp1 := cput_c hs0 hs0_ok w nil0 [] pa9 (Rot.nil _ _) rise_nil (by simp) (by simp) (by decide)
  rw [put_a9] at hp1
  have HP1 := Lib.hid hp1
  clear hp1
  go_enter Try.func23, Try.ntmps23
  repeat' (first | go_at_call 13 | go_skip | go_guarded | go_step)
  refine HP1.out.mono ?_
  rintro e w1 ⟨g1, rfl, t1, f1, _⟩
  have hp2 := cput_c hs0 hs0_ok w1 (ptr g1) [pa9] pb9 (Rot.of t1) (by simp [Rise]) (by simp) (by simp [pa9]) (by decide)
  rw [put_ab9] at hp2
  have HP2 := Lib.hid hp2
  have H1 := Lib.hid f1
  clear hp2 t1 f1 HP1
  go_simp
  repeat' (first | go_at_call 13 | go_skip | go_guarded | go_step)
  refine HP2.out.mono ?_
  rintro e w2 ⟨g2, rfl, t2, f2, _⟩
  have H2 := Lib.hid (Ext.trans H1.out f2)
  have hR := TR.rep 13 t2 (by simp)
  rw [hs0_hash] at hR
  have e1 := congrArg St5.n st_example
  have e2 := congrArg St5.k st_example
  have e3 := congrArg St5.p st_example
  have e4 := congrArg St5.d st_example
  simp only [stT, Nat.zero_add] at e1 e2 e3 e4
  have hg := gof_c w2 g2 _ hR (by omega) (by omega) (by omega) (by have := ht_trie (fun _ => 0) 13 [pa9, pb9]; omega)
  rw [st_example] at hg
  have HG := Lib.hid hg
  clear hg hR t2 f2 e1 e2 e3 e4 HP2
  go_simp
  repeat' (first | go_at_call 28 | go_skip | go_guarded | go_step)
  refine HG.out.mono ?_
  rintro e w3 ⟨rfl, f3⟩
  have H3 := Lib.hid (Ext.trans H2.out f3)
  clear f3 HG
  go_simp
  repeat' (first | go_skip | go_guarded | go_step)
  go_ret
  exact ⟨rfl, H3.out⟩
end Go.Proofs.Ytbmakajadelckaa
