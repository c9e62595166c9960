/- Contract: a gauge's Fold: through all pairs. -/
import Derived.Test.YtbmakajadelckaaWpa
import Derived.Test.YtbmakajadelckaaWpd
set_option linter.unusedVariables false
set_option linter.unusedSimpArgs false
namespace Go.QS
open Go Go.RowKit
theorem nil_eq {P : Program} {T : TypeId} {d : TypeDesc} (hu : P.underlying T = some d) (hd : (match d with | .func .. => true | _ => false) = true) (gf : Nat) (lb : Array Value) (W : World) : (binOp .eql T (.func (.func gf) #[] lb) .nilFunc).run P W = .ok (.bool false) W := by
  cases d <;> simp at hd
  have h : ∀ n : Nat, (Op.equalIn (n + 1) T (.func (.func gf) #[] lb) .nilFunc).run P W = .ok false W := fun n => by simp [Op.equalIn, run_underlying hu]
  simp only [binOp]
  simp [Op.equal, Op.maxDepth, h 9999]
theorem nil_eq2 {P : Program} {T : TypeId} {d : TypeDesc} (hu : P.underlying T = some d) (hd : (match d with | .func .. => true | _ => false) = true) (W : World) : (binOp .eql T .nilFunc .nilFunc).run P W = .ok (.bool true) W := by
  cases d <;> simp at hd
  have h : ∀ n : Nat, (Op.equalIn (n + 1) T .nilFunc .nilFunc).run P W = .ok true W := fun n => by simp [Op.equalIn, run_underlying hu]
  simp only [binOp]
  simp [Op.equal, Op.maxDepth, h 9999]
end Go.QS
namespace Go.Proofs.Ytbmakajadelckaa
open Go Go.RowKit Go.QS Go.QS.Nk
set_option linter.unusedVariables false
attribute [local go_sem] Oper.semAt_some

/-- What Fold tells. -/
def foldN (op : Int) (L : List Pr) : Nat := if 0 ≤ op ∧ op ≤ 5 then foldP op.toNat L else 0
def foldR (op : Int) (L : List Pr) : Value := .tuple #[.int .u64 (foldN op L : Int), .bool (decide (0 ≤ op ∧ op ≤ 5))]

set_option maxRecDepth 100000 in
set_option maxHeartbeats 2000000 in
theorem fold_c (w : World) (op : Int) (p0 : Option Addr) (t : WT) (hr : RootW w (.pointer p0) t) (hw : wtB [(t.ps, t.ks)] ≤ 1000000) (L : List Pr) (hL : L = (walkT t 1).map Prod.fst) (hk : ∀ p ∈ L, p.1.length ≤ 1000 ∧ p.2.length ≤ 1000) :
    Calls Try.prog 25 #[.int .i64 op, .pointer p0] w fun e w' => e = .returned (foldR op L) ∧ Ext w w' := by
  have HR := Lib.hid (And.intro hr (And.intro hL hk))
  clear hr hL hk
  refine calls_of_wp_marks Try.func25 rfl ?_
  simp only [Try.ntmps25, List.size_toArray, List.length_cons, List.length_nil, Nat.reduceAdd, Nat.reduceSub, Array.replicate_succ, Array.replicate_zero, List.push_toArray, List.append_toArray, List.nil_append, List.cons_append]
  repeat' (first | go_at_call 61 | go_skip | go_guarded | go_step)
  refine (ops_c w op).mono ?_
  rintro e w1 ⟨dv, rfl, f1, ⟨ho1, ho2, hD⟩ | ⟨hno, rfl⟩⟩
  · obtain ⟨gf, lb, rfl, eg, hD⟩ := hD
    have hop : 0 ≤ op ∧ op ≤ 5 := ⟨ho1, ho2⟩
    obtain ⟨k, hkop⟩ : ∃ k, k = op.toNat := ⟨_, rfl⟩
    rw [← hkop] at hD
    have HO := Lib.hid (And.intro hop hkop)
    have HD := Lib.hid hD
    have HF1 := Lib.hid f1
    have hnil : ∀ W, (binOp .eql 118 (.func (.func gf) #[] lb) .nilFunc).run Try.prog W = .ok (.bool false) W := fun W => nil_eq Try.underlying118 rfl gf lb W
    obtain ⟨nm, hnm⟩ : ∃ nm, nm = nmI op := ⟨_, rfl⟩
    rw [← hnm]
    clear f1 hD hop hkop ho1 ho2 hnm
    go_simp
    repeat' (go_not_at_region 2; (first | go_skip | go_guarded | go_step))
    obtain ⟨g7, hg7⟩ : ∃ g, g = w1.heap.size := ⟨_, rfl⟩
    rw [← hg7]
    refine wp_nameW (fun w' => w'.heap[g7]? = some (.cells #[.func (.func gf) #[] lb] 118 (0, 0)) ∧ Ext w1 w' ∧ w1.heap.size ≤ g7) ⟨by rw [hg7]; exact heap_new w1 _, (Ext.refl _).alloc (Nat.le_refl _) _, by omega⟩ ?_
    clear hg7
    intro w2 H2
    have c7 : w2.cell? ⟨g7, 0, none⟩ = some (.func (.func gf) #[] lb) := by rw [cellG H2.out.1]; rfl
    repeat' (go_not_at_region 5; (first | go_skip | go_guarded | go_step))
    obtain ⟨g8, hg8⟩ : ∃ g, g = w2.heap.size := ⟨_, rfl⟩
    rw [← hg8]
    refine wp_nameW (fun w' => w'.heap[g8]? = some (.cells #[.int .u64 0] 22 (0, 0)) ∧ Ext w2 w' ∧ g7 < g8) ⟨by rw [hg8]; exact heap_new w2 _, (Ext.refl _).alloc (Nat.le_refl _) _, by rw [hg8]; exact heap_lt H2.out.1⟩ ?_
    clear hg8 c7
    intro w3 H3
    repeat' (first | go_at_call 18 | (go_not_at_region 6; (first | go_skip | go_guarded | go_step)))
    refine (wall_c w3 p0).mono ?_
    rintro e w4 ⟨k0, rfl, hk0, f4⟩
    have hE4 : Ext w1 w4 := Ext.trans H2.out.2.1 (Ext.trans H3.out.2.1 f4)
    have H4 : Hid (w4.heap[g7]? = some (.cells #[.func (.func gf) #[] lb] 118 (0, 0)) ∧ w4.heap[g8]? = some (.cells #[.int .u64 0] 22 (0, 0)) ∧ w4.cell? ⟨k0, 0, none⟩ = some (.pointer p0) ∧ Ext w1 w4) :=
      Lib.hid ⟨box_extG H2.out.1 (Ext.trans H3.out.2.1 f4), box_extG H3.out.1 f4, hk0, hE4⟩
    have hle7 : w1.heap.size ≤ g7 := H2.out.2.2
    have h78 : g7 < g8 := H3.out.2.2
    have hle8 : w1.heap.size ≤ g8 := by omega
    have hle4 : w1.heap.size ≤ w4.heap.size := hE4.size
    have hg8l : g8 < w4.heap.size := heap_lt H4.out.2.1
    clear hk0 f4 hE4 H2 H3 hnil
    go_simp
    repeat' (first | go_skip | go_guarded | go_step)
    refine (wpIn_wide (n := 5)).1 ?_
    refine wpIn_rangeFunc_RT (F := Fence.wide) (n := 5) rfl (by decide) (gf := 52) (lb := #[ptr k0]) rfl trivial all_enters
      (all_seqQ 4 (by decide) w1 (.pointer p0) t k0 0 L (fun _ b => b = g8) (fun p => p.1.length ≤ 1000 ∧ p.2.length ≤ 1000) HR.out.2.2 (HR.out.1.ext' HF1.out) hw HR.out.2.1 (fun A B _ _ k hk => hk))
      (fun k o h hk h1 h2 => stT_other h h1 h2) kpO_t (fun W l o o' hl h1 h2 h3 => kpO_b hle4 (fun _ _ _ _ _ _ _ k hk => hk) W l o o' hl h1 h2 h3)
      (fun r => ⟨Ext.trans H4.out.2.2.2 (((Ext.refl w4).alloc (Nat.le_refl _) _).alloc (by simp) _), Ext.cell' (((Ext.refl w4).alloc (Nat.le_refl _) _).alloc (by simp) _) H4.out.2.2.1, Nat.zero_le _, fun k hk => by subst hk; simp; omega⟩) (fun _ => rfl)
      (fun pre W => Ext w1 W ∧ W.heap[g7]? = some (.cells #[.func (.func gf) #[] lb] 118 (0, 0)) ∧ W.heap[g8]? = some (.cells #[.int .u64 (foldP k (pre.map Subtype.val) : Int)] 22 (0, 0)))
      (fun _ _ _ => False)
      (fun s A B row hs hg hr => ⟨ext_own hs.1 hg hle4 (fun r e => (hr r e).1), heap_own hs.2.1 hg (fun r e => (hr r e).2), heap_own hs.2.2 hg (fun r e => (hr r e).2)⟩) (fun _ s A B row hs hg hr => hs)
      (fun s A B hs ht => ⟨stT_ext ht hs.1 (Nat.le_refl _), stT_heap ht hs.2.1 (by unfold tauW; decide), stT_heap ht hs.2.2 (by unfold tauW; decide)⟩) (fun _ _ _ _ h _ => h)
      ⟨H4.out.2.2.2, H4.out.1, H4.out.2.1⟩
      (fun T x a' W => ∃ Bx, g8 < Bx ∧ W.heap[Bx]? = some (.cells #[str x.1.1, str x.1.2] 40 (0, 0)) ∧ a' = { tmps := (T.setIfInBounds 19 (.agg #[str x.1.1, str x.1.2])).setIfInBounds 9 (ptr Bx), defers := [] })
      (fun x a' s A B row hs hg hr => hs.imp fun Bx h => ⟨h.1, heap_own h.2.1 hg (fun r e => (hr r e).2), h.2.2⟩) ?assign ?body ?done ?stop
    case assign =>
      rintro l pre ⟨x, hx⟩ W K hI hK
      have hl := heap_lt hI.2.2
      have hxe : Ext W (W.alloc (.cells #[str x.1, str x.2] 40)) := (Ext.refl W).alloc (Nat.le_refl _) _
      repeat' (first | gi_guarded | gi_step)
      exact hK _ _ ((KeepsOthers.alloc _ _).from _) (KpO.of_ext hxe (fun k hk => .inl hk)) ⟨Ext.trans hI.1 hxe, box_extG hI.2.1 hxe, box_extG hI.2.2 hxe⟩ ⟨W.heap.size, hl, heap_newG _ _, rfl⟩
    case body =>
      rintro l pre z a' W hl _ ⟨h1, h2, h3⟩ ⟨Bx, hBx, hbx, rfl⟩ hlt
      simp only [List.setIfInBounds_toArray, List.set_cons_succ, List.set_cons_zero]
      obtain ⟨n, hn⟩ : ∃ n, n = foldP k (pre.map Subtype.val) := ⟨_, rfl⟩
      have hn9 : n < 18446744073709551616 := by
        rw [hn]
        refine foldP_lt _ _ fun p hp => ?_
        obtain ⟨y, _, rfl⟩ := List.mem_map.1 hp
        have := y.2.1
        have := y.2.2
        omega
      rw [← hn] at h3
      have c7 : W.cell? ⟨g7, 0, none⟩ = some (.func (.func gf) #[] lb) := by rw [cellG h2]; rfl
      have c8 : W.cell? ⟨g8, 0, none⟩ = some (.int .u64 (n : Int)) := by rw [cellG h3]; rfl
      have x0 : W.cell? ⟨Bx, 0, none⟩ = some (str z.1.1) := by rw [cellG hbx]; rfl
      have x1 : W.cell? ⟨Bx, 1, none⟩ = some (str z.1.2) := by rw [cellG hbx]; rfl
      have HC := Lib.hid (HD.out W h1 n z.1 hn9 z.2.1 z.2.2)
      have HB := Lib.hid (And.intro h1 (And.intro h2 (And.intro h3 hn)))
      clear h1 h2 h3 hn hlt hbx
      repeat' (first | gi_guarded | gi_step)
      refine ⟨trivial, CallsIn.inRound l ((callsIn_wide.2 HC.out).mono ?_)⟩
      rintro e W2 ⟨rfl, f2⟩
      have HB2 := Lib.hid (And.intro (Ext.trans HB.out.1 f2) (And.intro (box_extG HB.out.2.1 f2) (And.intro (box_extG HB.out.2.2.1 f2) f2)))
      have b8 : W2.cell? ⟨g8, 0, none⟩ = some (.int .u64 (n : Int)) := by rw [cellG HB2.out.2.2.1]; rfl
      have bf := freeG HB2.out.2.2.1 0
      have hl8 := heap_lt HB2.out.2.2.1
      clear c7 c8 x0 x1 f2
      go_simp
      repeat' (first | gi_guarded | gi_step)
      have hkp : KpO w1.heap.size (fun _ b => b = g8) W (W2.setCell ⟨g8, 0, none⟩ (.int .u64 (stp k n z.1 : Int))) :=
        (KpO.of_ext HB2.out.2.2.2 (fun k hk => .inl hk)).trans (KpO.of_set hl8 hle8 rfl (fun k hk => hk))
      refine ⟨?_, hkp, HB2.out.1.setCell hle8 _, (Below.heap_setCell W2 ⟨g8, 0, none⟩ _ g7 (fun (e : g7 = g8) => by omega)).trans HB2.out.2.1, ?_⟩
      · refine ⟨by simpa using HB2.out.2.2.2.size, fun j o' _ hj ho => ?_⟩
        exact (KeepsOthers.setCell W2 ⟨g8, 0, none⟩ _).same j o' (box_extG hj HB2.out.2.2.2) ho
      · rw [List.map_append, List.map_cons, List.map_nil, foldP_snoc, ← HB.out.2.2.2]
        exact heap_set HB2.out.2.2.1 0 _
    case done =>
      rintro D xs W hD hxs ⟨h1, h2, h3⟩ hK
      rw [hxs] at h3
      obtain ⟨n, hn⟩ : ∃ n, n = foldP k L := ⟨_, rfl⟩
      rw [← hn] at h3
      have c8 : W.cell? ⟨g8, 0, none⟩ = some (.int .u64 (n : Int)) := by rw [cellG h3]; rfl
      have HI := Lib.hid (And.intro h1 (And.intro hn hK))
      clear h1 h2 h3 hK hn hxs
      repeat' (first | go_skip | go_guarded | go_step)
      have hg := grownBy_putObj' W D (.deferred none)
      refine postM_ret1 (results_tmp2 rfl _ _ _) rfl HI.out.2.2 ⟨?_, ext_own (Ext.trans HF1.out HI.out.1) hg HF1.out.size (fun r e => by cases e; omega)⟩
      have hO := HO.out
      unfold foldR foldN
      rw [if_pos hO.1, decide_eq_true hO.1, ← hO.2, ← HI.out.2.1]
      rfl
    case stop =>
      rintro D c pre W _ _ h
      exact h.elim
  · have hnil : ∀ W, (binOp .eql 118 .nilFunc .nilFunc).run Try.prog W = .ok (.bool true) W := fun W => nil_eq2 Try.underlying118 rfl W
    have HO := Lib.hid hno
    have HF1 := Lib.hid f1
    clear hno f1
    go_simp
    repeat' (first | go_skip | go_guarded | go_step)
    refine postM_ret0 (results_tmp2 rfl _ _ _) rfl ⟨?_, Ext.trans HF1.out ((Ext.refl _).alloc (Nat.le_refl _) _)⟩
    unfold foldR foldN
    rw [if_neg HO.out, decide_eq_false HO.out]
    rfl
end Go.Proofs.Ytbmakajadelckaa
