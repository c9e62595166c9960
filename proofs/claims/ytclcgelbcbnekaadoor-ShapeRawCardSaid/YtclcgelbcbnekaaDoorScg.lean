/- Contract: shape.canon at an inner node. -/
import Derived.Test.YtclcgelbcbnekaaDoorScf
set_option linter.unusedVariables false
set_option linter.unusedSimpArgs false
namespace Go.QS
open Go Go.RowKit
variable [Zero (Nat → Prop)]
set_option linter.unusedSectionVars false
theorem wpIn_nameS {F : Fence} {n : Nat} {P : Program} {c : Code} {Q : Exit → Act → World → Prop} {a : Act} {W : World} (R : World → Prop) (hR : R W) (h : ∀ w', Hid (R w') → c.wpIn F n P Q a w') : c.wpIn F n P Q a W := h W (Lib.hid hR)
theorem keepsF_ext {B : Nat} {w w' : World} (f : Ext w w') : KeepsFrom B w w' := ⟨f.size, fun j o _ hj _ => box_extG hj f⟩
theorem keepsF_others {B : Nat} {a b c : World} (f : Ext a b) (k : KeepsOthers b c) : KeepsFrom B a c := (keepsF_ext f).trans (k.from B)
theorem sum_le {cnt : Nat → Nat} {M : Nat} (h : ∀ c, cnt c ≤ M) : ∀ l : List Nat, (l.map cnt).sum ≤ l.length * M
  | [] => by simp
  | c :: l => by
    have := sum_le h l
    have := h c
    rw [List.map_cons, List.sum_cons, List.length_cons, Nat.succ_mul]; omega
end Go.QS
namespace Go.Proofs.YtclcgelbcbnekaaDoor
open Go Go.RowKit Go.QS Go.QS.Nk
set_option linter.unusedVariables false
variable [Zero (Nat → Prop)]
set_option linter.unusedSectionVars false
attribute [local go_sem] Oper.semAt_some

theorem BxC.stB {gh g B : Nat} {h : Hs} {v : Value} {w w' : World} (H : BxC gh g h v w) (k : StT B tauB w w') : BxC gh g h v w' :=
  H.stT k (by unfold tauB; decide) (by unfold tauB; decide) (by unfold tauB; decide) (by unfold tauB; decide) (by unfold tauB; decide)
theorem tauB_int : ¬ tauB 3 := by unfold tauB; decide
/-- A return with one record of deferred calls, with two. -/
theorem can_ret1 {w z : World} {gh D : Nat} {a : Int} {b : Bool} {R : Ending → World → Prop} {tmps : Array Value} (h3 : z.heap[gh + 3]? = some (.cells #[.int .i64 a] 3 (0, 0))) (h4 : z.heap[gh + 4]? = some (.cells #[.bool b] 4 (0, 0)))
    (t6 : tmps.getD 6 undef = .pointer (some ⟨gh + 3, 0, none⟩)) (t7 : tmps.getD 7 undef = .pointer (some ⟨gh + 4, 0, none⟩)) (hD : z.heap[D]? = some (.deferred (some []))) (hE : Ext w z) (hwD : w.heap.size ≤ D)
    (hR : ∀ z', Ext w z' → R (.returned (.tuple #[.int .i64 a, .bool b])) z') : postM Tryd.prog Tryd.f34 R .ret { tmps := tmps, defers := [{ target := .collected D, args := #[] }] } z := by
  have hg := grownBy_putObj' z D (.deferred none)
  have hr : ∀ r, some D = some r → ∃ o : Obj, z.heap[r]? = some o ∧ o.isCells = false := fun r e => by cases e; exact ⟨_, hD, rfl⟩
  refine postM_ret1 (results_box2 rfl _ _ (gh + 3) (gh + 4) (.int .i64 a) (.bool b) _ _ _ _ _ _ t6 (heap_own h3 hg hr) Tryd.underlying3 rfl t7 (heap_own h4 hg hr) Tryd.underlying4 rfl) rfl hD (hR _ ?_)
  exact ext_own hE hg (Nat.le_refl _) (fun r e => by cases e; exact hwD)
theorem can_ret2 {w z : World} {gh D E : Nat} {a : Int} {b : Bool} {R : Ending → World → Prop} {tmps : Array Value} (h3 : z.heap[gh + 3]? = some (.cells #[.int .i64 a] 3 (0, 0))) (h4 : z.heap[gh + 4]? = some (.cells #[.bool b] 4 (0, 0)))
    (t6 : tmps.getD 6 undef = .pointer (some ⟨gh + 3, 0, none⟩)) (t7 : tmps.getD 7 undef = .pointer (some ⟨gh + 4, 0, none⟩)) (hD : z.heap[D]? = some (.deferred (some []))) (hEE : z.heap[E]? = some (.deferred (some []))) (hne : D ≠ E) (hE : Ext w z) (hwD : w.heap.size ≤ D) (hwE : w.heap.size ≤ E)
    (hR : ∀ z', Ext w z' → R (.returned (.tuple #[.int .i64 a, .bool b])) z') : postM Tryd.prog Tryd.f34 R .ret { tmps := tmps, defers := [{ target := .collected E, args := #[] }, { target := .collected D, args := #[] }] } z := by
  have hg2 := grownBy_putObj' z E (.deferred none)
  have hr2 : ∀ r, some E = some r → ∃ o : Obj, z.heap[r]? = some o ∧ o.isCells = false := fun r e => by cases e; exact ⟨_, hEE, rfl⟩
  have hd1' : (z.putObj E (.deferred none)).heap[D]? = some (.deferred (some [])) := (World.putObj_heap_other hne).trans hD
  have hg1 := grownBy_putObj' (z.putObj E (.deferred none)) D (.deferred none)
  have hr1 : ∀ r, some D = some r → ∃ o : Obj, (z.putObj E (.deferred none)).heap[r]? = some o ∧ o.isCells = false := fun r e => by cases e; exact ⟨_, hd1', rfl⟩
  refine postM_ret2 (D := D) (E := E) (results_box2 rfl _ _ (gh + 3) (gh + 4) (.int .i64 a) (.bool b) _ _ _ _ _ _ t6 (heap_own (heap_own h3 hg2 hr2) hg1 hr1) Tryd.underlying3 rfl t7 (heap_own (heap_own h4 hg2 hr2) hg1 hr1) Tryd.underlying4 rfl) rfl hEE hd1' (hR _ ?_)
  exact ext_own (ext_own hE hg2 (Nat.le_refl _) (fun r e => by cases e; exact hwE)) hg1 (Nat.le_refl _) (fun r e => by cases e; exact hwD)

set_option maxRecDepth 100000 in
set_option maxHeartbeats 4000000 in
theorem canon_in (w : World) (h : Hs) (hk : h.Ok) (g : Nat) (sl : List (Slot Nat)) (hN : In ND w g sl) (hT : Tab32 w) (hkey : ∀ (c : Nat) p, sl[c]? = some (.pr p) → p.1.length ≤ 1000000) (way : List Nat) (v : Value) (hn13 : way.length ≤ 13) (hS : Sl w 1 v way.length (wayV way))
    (okc : Nat → Prop) (cnt : Nat → Nat) (hcnt : ∀ c, cnt c ≤ 1000000000)
    (hC : way.length < 13 → ∀ (c q : Nat), sl[c]? = some (.kid q) → ∀ W v', Ext w W → Sl W 1 v' (way.length + 1) (wayV (way ++ [c])) → Calls Tryd.prog 34 #[hsV h, ptr q, v'] W (CanR W (okc c) (cnt c))) :
    Calls Tryd.prog 34 #[hsV h, ptr g, v] w (CanR w (way.length < 13 ∧ (∀ (c : Nat) p, sl[c]? = some (.pr p) → Leads (h.hash p.1) (way ++ [c])) ∧ ∀ (c q : Nat), sl[c]? = some (.kid q) → okc c ∧ 2 ≤ cnt c) ((prsOf sl).length + ((bitsI (nodesOf sl)).map cnt).sum)) := by
  have HIn := Lib.hid hN
  obtain ⟨h32, ow, pv, kv, nd⟩ := hN
  have HN := Lib.hid nd
  obtain ⟨A, C, rfl, hx1, hnC, hC9, hs⟩ := hS
  obtain ⟨n, hn⟩ : ∃ n, n = way.length := ⟨_, rfl⟩
  rw [← hn] at hnC hn13 hC ⊢
  obtain ⟨OK, hOK⟩ : ∃ x, x = (n < 13 ∧ (∀ (c : Nat) p, sl[c]? = some (.pr p) → Leads (h.hash p.1) (way ++ [c])) ∧ ∀ (c q : Nat), sl[c]? = some (.kid q) → okc c ∧ 2 ≤ cnt c) := ⟨_, rfl⟩
  obtain ⟨TOT, hTOT⟩ : ∃ x, x = (prsOf sl).length + ((bitsI (nodesOf sl)).map cnt).sum := ⟨_, rfl⟩
  rw [← hOK, ← hTOT]
  have HOK := Lib.hid hOK
  have HS : Hid (Seg w A (wayV way) ∧ n = way.length) := Lib.hid ⟨hs, hn⟩
  have HKy := Lib.hid hkey
  have HCC := Lib.hid hC
  have HTb := Lib.hid hT
  have hp32 : (prsOf sl).length ≤ 32 := by have := prsOf_len sl; omega
  have hd9 := bits32 Slot.isP h32
  have hn9 := bits32 Slot.isK h32
  have h0w := hT.pos
  clear nd hx1 hs hn hkey hC hT hOK
  refine calls_of_wp_marks Tryd.func34 rfl ?_
  simp only [Tryd.ntmps34, List.size_toArray, List.length_cons, List.length_nil, Nat.reduceAdd, Nat.reduceSub, Array.replicate_succ, Array.replicate_zero, List.push_toArray, List.append_toArray, List.nil_append, List.cons_append]
  repeat' (go_not_at_region 1; (first | go_skip | go_guarded | go_step))
  obtain ⟨gh, hgh⟩ : ∃ g, g = w.heap.size := ⟨_, rfl⟩
  rw [← hgh]
  refine wp_nameS (fun w' => BxC gh g h (.slice A n C) w' ∧ Ext w w' ∧ w.heap.size ≤ gh) ⟨(bxC_new w h g _ hgh).1, (bxC_new w h g _ hgh).2, by omega⟩ ?_
  clear hgh
  intro w1 H1
  have hgw : w.heap.size ≤ gh := H1.out.2.2
  have c1 : w1.cell? ⟨gh + 1, 0, none⟩ = some (ptr g) := by rw [cellG H1.out.1.b1]; rfl
  repeat' (first | go_at_call 59 | go_skip | go_guarded | go_step)
  refine (npairs_c w1 g pv (prsOf sl) (HN.out.node.ext H1.out.2.1).cells.2.2.1 (HN.out.pairs.below H1.out.2.1) (by omega)).mono ?_
  rintro e w2 ⟨v2, rfl, r2, f2⟩
  obtain ⟨A2, C2, rfl⟩ := own_slice r2
  have H2 : Hid (BxC gh g h (.slice A n C) w2 ∧ Ext w w2 ∧ PS w2 (.slice A2 (prsOf sl).length C2) (prsOf sl)) := Lib.hid ⟨H1.out.1.ext f2, Ext.trans H1.out.2.1 f2, PS.of_own r2⟩
  clear r2 f2 c1 H1
  have c1 : w2.cell? ⟨gh + 1, 0, none⟩ = some (ptr g) := by rw [cellG H2.out.1.b1]; rfl
  go_simp
  repeat' (first | go_at_call 52 | go_skip | go_guarded | go_step)
  refine (isb_c w2 g false (HN.out.node.ext H2.out.2.1).cells.2.2.2.2.1).mono ?_
  rintro e w3 ⟨rfl, f3⟩
  obtain ⟨np, hnp⟩ : ∃ m, m = (prsOf sl).length := ⟨_, rfl⟩
  rw [← hnp] at hp32 hTOT ⊢
  have HTOT := Lib.hid hTOT
  have H3 : Hid (BxC gh g h (.slice A n C) w3 ∧ Ext w w3) := Lib.hid ⟨H2.out.1.ext f3, Ext.trans H2.out.2.1 f3⟩
  clear f3 c1 H2 hnp hTOT
  have c2 : w3.cell? ⟨gh + 1 + 1, 0, none⟩ = some (.slice A n C) := by rw [cellG H3.out.1.b2]; rfl
  go_simp
  by_cases h13 : n < 13
  · have d13a : decide ((13 : Int) ≤ (n : Int)) = false := by simp; omega
    have d13b : decide (13 ≤ n) = false := by simp; omega
    have d13c : ¬ (13 : Int) ≤ (n : Int) := by omega
    repeat' (go_not_at_region 15; (first | go_skip | go_guarded | go_step))
    obtain ⟨g11, hg11⟩ : ∃ g, g = w3.heap.size := ⟨_, rfl⟩
    rw [← hg11]
    refine wp_nameS (fun w' => w'.heap[g11]? = some (.cells #[.int .i64 (np : Int)] 3 (0, 0)) ∧ Ext w3 w' ∧ w3.heap.size ≤ g11) ⟨by rw [hg11]; exact heap_newG w3 _, (Ext.refl _).alloc (Nat.le_refl _) _, by omega⟩ ?_
    have hgl4 : gh + 4 < g11 := by have := heap_lt H3.out.1.b4; omega
    have hg11w : w.heap.size ≤ g11 := by omega
    clear hg11 c2 d13a d13b d13c
    intro w4 H4
    have H5 : Hid (BxC gh g h (.slice A n C) w4 ∧ Ext w w4 ∧ w4.heap[g11]? = some (.cells #[.int .i64 (np : Int)] 3 (0, 0))) := Lib.hid ⟨H3.out.1.ext H4.out.2.1, Ext.trans H3.out.2 H4.out.2.1, H4.out.1⟩
    clear H4 H3
    have c2 : w4.cell? ⟨gh + 1 + 1, 0, none⟩ = some (.slice A n C) := by rw [cellG H5.out.1.b2]; rfl
    have f2 := freeG H5.out.1.b2 0
    have l2 := heap_lt H5.out.1.b2
    repeat' (go_not_at_region 16; (first | go_skip | go_guarded | go_step))
    obtain ⟨w5, hw5⟩ : ∃ x, x = w4.setCell ⟨gh + 1 + 1, 0, none⟩ (.slice A n n) := ⟨_, rfl⟩
    have hw54 : ∀ j, j ≠ gh + 2 → w5.heap[j]? = w4.heap[j]? := fun j hj => by rw [hw5]; exact Below.heap_setCell w4 ⟨gh + 2, 0, none⟩ _ j hj
    have H6 : Hid (BxC gh g h (.slice A n n) w5 ∧ Ext w w5 ∧ w5.heap[g11]? = some (.cells #[.int .i64 (np : Int)] 3 (0, 0))) := Lib.hid ⟨⟨(hw54 _ (by omega)).trans H5.out.1.b0, (hw54 _ (by omega)).trans H5.out.1.b1, by rw [hw5]; exact heap_set H5.out.1.b2 0 _, (hw54 _ (by omega)).trans H5.out.1.b3, (hw54 _ (by omega)).trans H5.out.1.b4⟩, by rw [hw5]; exact H5.out.2.1.setCell (show w.heap.size ≤ gh + 2 by omega) _, (hw54 _ (by omega)).trans H5.out.2.2⟩
    rw [← hw5]
    clear hw54 c2 f2 l2 H5 hw5
    have c1 : w5.cell? ⟨gh + 1, 0, none⟩ = some (ptr g) := by rw [cellG H6.out.1.b1]; rfl
    repeat' (first | go_at_call 60 | go_skip | go_guarded | go_step)
    refine (data_c w5 g (dataOf sl) (HN.out.node.ext H6.out.2.1).cells.1).mono ?_
    rintro e w6 ⟨rfl, rfl⟩
    go_simp
    repeat' (first | go_at_call 66 | go_skip | go_guarded | go_step)
    refine (ballB_c w.heap.size w5 (dataOf sl) (HTb.out.ext H6.out.2.1) h0w H6.out.2.1.size).mono ?_
    rintro e w7 ⟨k1, rfl, hk1, f7⟩
    have H7 : Hid ((BxC gh g h (.slice A n n) w7 ∧ Ext w w7 ∧ w7.heap[g11]? = some (.cells #[.int .i64 (np : Int)] 3 (0, 0))) ∧ BitsAt w.heap.size k1 (dataOf sl) w7) := Lib.hid ⟨⟨H6.out.1.ext f7, Ext.trans H6.out.2.1 f7, box_extG H6.out.2.2 f7⟩, hk1⟩
    have hw7 : w.heap.size ≤ w7.heap.size := H7.out.1.2.1.size
    clear c1 f7 hk1 H6
    go_simp
    repeat' (first | go_skip | go_guarded | go_step)
    refine (wpIn_wide (n := 5)).1 ?_
    refine wpIn_rangeFunc_RT (F := Fence.wide) (n := 5) rfl (by decide) (gf := 90) (lb := #[ptr k1]) rfl trivial ball_enters
      (bits_seqQ 4 (by decide) w.heap.size k1 (dataOf sl) hd9)
      (fun k o hst hk h1 h2 => stT_other hst h1 h2) kpT_t (fun W l o o' hl h1 h2 h3 => kpT_b hw7 W l o o' hl h1 h2 h3)
      (fun r => H7.out.2.ext (((Ext.refl w7).alloc (Nat.le_refl _) _).alloc (by simp) _)) (fun _ => rfl)
      (fun pre W => BxC gh g h (.slice A n n) W ∧ Ext w W ∧ W.heap[g11]? = some (.cells #[.int .i64 (np : Int)] 3 (0, 0)) ∧ ∀ c ∈ pre.map Subtype.val, ∀ p, sl[c]? = some (.pr p) → Leads (h.hash p.1) (way ++ [c]))
      (fun c pre W => c = .ret ∧ ¬ OK ∧ BxC gh g h (.slice A n n) W ∧ Ext w W)
      (fun s A' B row hs hg hr => ⟨hs.1.own hg (fun r e => (hr r e).2), ext_own hs.2.1 hg hw7 (fun r e => (hr r e).1), heap_own hs.2.2.1 hg (fun r e => (hr r e).2), hs.2.2.2⟩)
      (fun c s A' B row hs hg hr => ⟨hs.1, hs.2.1, hs.2.2.1.own hg (fun r e => (hr r e).2), ext_own hs.2.2.2 hg hw7 (fun r e => (hr r e).1)⟩)
      (fun s A' B hs ht => ⟨hs.1.stB ht, stT_ext ht hs.2.1 (Nat.le_refl _), stT_heap ht hs.2.2.1 tauB_int, hs.2.2.2⟩)
      (fun c s A' B hs ht => ⟨hs.1, hs.2.1, hs.2.2.1.stB ht, stT_ext ht hs.2.2.2 (Nat.le_refl _)⟩)
      ⟨H7.out.1.1, H7.out.1.2.1, H7.out.1.2.2, fun c hc => by cases hc⟩
      (fun T x a' W => a' = { tmps := (T.setIfInBounds 62 (.int .i64 (x.1 : Int))).setIfInBounds 12 (.int .i64 (x.1 : Int)), defers := [] })
      (fun x a' s A' B row hs hg hr => hs) ?assign ?body ?done ?stop
    case assign =>
      rintro l pre x W K hI hK
      repeat' (first | gi_guarded | gi_step)
      exact hK _ _ (KeepsFrom.refl _ _) (KeepQ.refl _) hI rfl
    case body =>
      rintro l pre ⟨c, hc⟩ a' W hl _ hI0 rfl hlt
      simp only [List.setIfInBounds_toArray, List.set_cons_succ, List.set_cons_zero]
      obtain ⟨s0, hs0, hsp⟩ := (mem_bitsI h32).1 hc
      obtain ⟨p, rfl⟩ : ∃ p, s0 = .pr p := by
        cases s0 with
        | pr p => exact ⟨p, rfl⟩
        | no => cases hsp
        | kid k => cases hsp
      have HI := Lib.hid hI0
      have HS0 := Lib.hid hs0
      have c1 : W.cell? ⟨gh + 1, 0, none⟩ = some (ptr g) := by rw [cellG HI.out.1.b1]; rfl
      obtain ⟨pk, pv'⟩ := p
      have hp9 : pk.length ≤ 1000000 := HKy.out c _ hs0
      clear hI0 hs0 hsp
      repeat' (first | (refine ⟨trivial, ?_⟩; gi_at_call 67; refine (callsIn_wide.2 (pair_yes W g c sl (pk, pv') (HIn.out.ext HI.out.2.1) HS0.out)).mono ?_; rintro e w8 ⟨rfl, f8⟩; go_simp) | (gi_not_at_region 19; (first | gi_guarded | gi_step)))
      obtain ⟨gp, hgp⟩ : ∃ g, g = w8.heap.size := ⟨_, rfl⟩
      rw [← hgp]
      refine wpIn_nameS (fun w' => w'.cell? ⟨gp, 0, none⟩ = some (str pk) ∧ Ext W w') ⟨by rw [World.cell?_alloc_at _ _ _ _ hgp]; rfl, f8.alloc f8.size _⟩ ?_
      clear hgp c1 f8
      intro w9 H9
      have HB9 := HI.out.1.ext H9.out.2
      have HE9 := Ext.trans HI.out.2.1 H9.out.2
      refine canon_19 l _ w9 h hk gh _ gp c A n way pk HS.out.2 h13 HB9.b0 (by rw [cellG HB9.b2]; rfl) (HS.out.1.below HE9) H9.out.1 hp9 _ _ _ _ _ _ _ _ _ _ _ _ _ _ _ _ _ _ _ _ _ _ _ _ _ _ _ _ _ _ _ _ _ _ _ _ _ _ _ _ _ _ _ _ _ _ _ _ _ _ _ _ _ _ _ _ _ _ _ _ _ _ _ _ _ _ _ _ _ _ _ _ _ _ _ _ _ _ _ _ _ _ _ _ _ _ _ _ _ _ _ _ _ _ _ _ _ _ _ _ _ _ _ _ _ _ _ (by kernel_rfl) ?_
      intro u69 u70 u71 u72 u73 u74 u75 u76 u77 u78 w10 HL
      have EW : Hid (Ext W w10) := Lib.hid (Ext.trans H9.out.2 HL.2)
      obtain ⟨hLL, _⟩ := HL
      clear HB9 HE9 H9
      have HB10 := Lib.hid (HI.out.1.ext EW.out)
      have HE10 := Lib.hid (Ext.trans HI.out.2.1 EW.out)
      rcases hLL with ⟨hL, rfl⟩ | ⟨hL, rfl⟩
      · have HL := Lib.hid hL
        clear hL
        repeat' (first | gi_guarded | gi_step)
        refine ⟨keepsF_ext EW.out, KeepQ.of_ext EW.out, HB10.out, HE10.out, box_extG HI.out.2.2.1 EW.out, fun c' hc' p' hp' => ?_⟩
        rw [List.map_append, List.mem_append] at hc'
        rcases hc' with hc' | hc'
        · exact HI.out.2.2.2 c' hc' p' hp'
        · have e : c' = c := by simpa using hc'
          subst e
          rw [HS0.out] at hp'; cases hp'; exact HL.out
      · have HNo : Hid (¬ OK) := Lib.hid (fun ho => by rw [HOK.out] at ho; exact hL (ho.2.1 c (pk, pv') HS0.out))
        clear hL
        have c3 : w10.cell? ⟨gh + 1 + 1 + 1, 0, none⟩ = some (.int .i64 0) := by rw [cellG HB10.out.b3]; rfl
        have c4 : w10.cell? ⟨gh + 1 + 1 + 1 + 1, 0, none⟩ = some (.bool false) := by rw [cellG HB10.out.b4]; rfl
        have f3' := freeG HB10.out.b3 0
        have f4' := freeG HB10.out.b4 0
        have l3' := heap_lt HB10.out.b3
        have l4' := heap_lt HB10.out.b4
        repeat' (first | gi_guarded | gi_step)
        obtain ⟨_, _, hzE, hzo, hzk⟩ := bx_res HB10.out HE10.out hgw 0 false (z := _) rfl
        exact ⟨keepsF_others EW.out hzk, rfl, HNo.out, BxC.res HB10.out HE10.out hgw rfl, hzE⟩
    case stop =>
      rintro D cc pre W hD hpre ⟨rfl, hno, q1, q2⟩ hKD
      refine wpIn_ret ?_
      (try simp only [Exit.inBlock, Exit.then])
      exact can_ret1 q1.b3 q1.b4 rfl rfl hKD q2 (Nat.le_trans hw7 hD) (fun z' f => ⟨.inr ⟨hno, rfl⟩, f⟩)
    case done =>
      rintro D1 xs x8 hD1 hxs ⟨p1, p2, p3, p4⟩ hKD1
      rw [hxs] at p4
      have HL1 : Hid (∀ (c : Nat) p, sl[c]? = some (.pr p) → Leads (h.hash p.1) (way ++ [c])) := Lib.hid (fun c p hp => p4 c ((mem_bitsI h32).2 ⟨_, hp, rfl⟩) p hp)
      have H8 : Hid ((BxC gh g h (.slice A n n) x8 ∧ Ext w x8 ∧ x8.heap[g11]? = some (.cells #[.int .i64 (np : Int)] 3 (0, 0))) ∧ x8.heap[D1]? = some (.deferred (some []))) := Lib.hid ⟨⟨p1, p2, p3⟩, hKD1⟩
      clear p1 p2 p3 p4 hKD1 hxs H7
      have c1 : x8.cell? ⟨gh + 1, 0, none⟩ = some (ptr g) := by rw [cellG H8.out.1.1.b1]; rfl
      repeat' (first | go_at_call 61 | go_skip | go_guarded | go_step)
      refine (nodes_c x8 g (nodesOf sl) (HN.out.node.ext H8.out.1.2.1).cells.2.1).mono ?_
      rintro e w9 ⟨rfl, rfl⟩
      go_simp
      repeat' (first | go_at_call 66 | go_skip | go_guarded | go_step)
      refine (ballB_c w.heap.size x8 (nodesOf sl) (HTb.out.ext H8.out.1.2.1) h0w H8.out.1.2.1.size).mono ?_
      rintro e x9 ⟨k2, rfl, hk2, f9⟩
      have H9 : Hid ((BxC gh g h (.slice A n n) x9 ∧ Ext w x9 ∧ x9.heap[g11]? = some (.cells #[.int .i64 (np : Int)] 3 (0, 0)) ∧ x9.heap[D1]? = some (.deferred (some []))) ∧ BitsAt w.heap.size k2 (nodesOf sl) x9) := Lib.hid ⟨⟨H8.out.1.1.ext f9, Ext.trans H8.out.1.2.1 f9, box_extG H8.out.1.2.2 f9, box_extG H8.out.2 f9⟩, hk2⟩
      have hw9 : w.heap.size ≤ x9.heap.size := H9.out.1.2.1.size
      have hD19 : D1 < x9.heap.size := heap_lt H9.out.1.2.2.2
      clear c1 f9 hk2 H8
      go_simp
      repeat' (first | go_skip | go_guarded | go_step)
      refine (wpIn_wide (n := 5)).1 ?_
      refine wpIn_rangeFunc_RT (F := Fence.wide) (n := 5) rfl (by decide) (gf := 90) (lb := #[ptr k2]) rfl trivial ball_enters
        (bits_seqQ 4 (by decide) w.heap.size k2 (nodesOf sl) hn9)
        (fun k o hst hk h1 h2 => stT_other hst h1 h2) kpT_t (fun W l o o' hl h1 h2 h3 => kpT_b hw9 W l o o' hl h1 h2 h3)
        (fun r => H9.out.2.ext (((Ext.refl x9).alloc (Nat.le_refl _) _).alloc (by simp) _)) (fun _ => rfl)
        (fun pre W => BxC gh g h (.slice A n n) W ∧ Ext w W ∧ W.heap[g11]? = some (.cells #[.int .i64 ((np + ((pre.map Subtype.val).map cnt).sum : Nat) : Int)] 3 (0, 0)) ∧ W.heap[D1]? = some (.deferred (some [])) ∧ ∀ c ∈ pre.map Subtype.val, okc c ∧ 2 ≤ cnt c)
        (fun c pre W => c = .ret ∧ ¬ OK ∧ BxC gh g h (.slice A n n) W ∧ Ext w W ∧ W.heap[D1]? = some (.deferred (some [])))
        (fun s A' B row hs hg hr => ⟨hs.1.own hg (fun r e => (hr r e).2), ext_own hs.2.1 hg hw9 (fun r e => (hr r e).1), heap_own hs.2.2.1 hg (fun r e => (hr r e).2), (hg.block D1 (heap_lt hs.2.2.2.1) (fun e => by have := (hr D1 e.symm).1; omega)).trans hs.2.2.2.1, hs.2.2.2.2⟩)
        (fun c s A' B row hs hg hr => ⟨hs.1, hs.2.1, hs.2.2.1.own hg (fun r e => (hr r e).2), ext_own hs.2.2.2.1 hg hw9 (fun r e => (hr r e).1), (hg.block D1 (heap_lt hs.2.2.2.2) (fun e => by have := (hr D1 e.symm).1; omega)).trans hs.2.2.2.2⟩)
        (fun s A' B hs ht => ⟨hs.1.stB ht, stT_ext ht hs.2.1 (Nat.le_refl _), stT_heap ht hs.2.2.1 tauB_int, stT_other ht hs.2.2.2.1 rfl, hs.2.2.2.2⟩)
        (fun c s A' B hs ht => ⟨hs.1, hs.2.1, hs.2.2.1.stB ht, stT_ext ht hs.2.2.2.1 (Nat.le_refl _), stT_other ht hs.2.2.2.2 rfl⟩)
        ⟨H9.out.1.1, H9.out.1.2.1, H9.out.1.2.2.1, H9.out.1.2.2.2, fun c hc => by cases hc⟩
        (fun T x a' W => a' = { tmps := (T.setIfInBounds 82 (.int .i64 (x.1 : Int))).setIfInBounds 15 (.int .i64 (x.1 : Int)), defers := [] })
        (fun x a' s A' B row hs hg hr => hs) ?assign ?body ?done ?stop
      case assign =>
        rintro l pre x W K hI hK
        repeat' (first | gi_guarded | gi_step)
        exact hK _ _ (KeepsFrom.refl _ _) (KeepQ.refl _) hI rfl
      case body =>
        rintro l pre ⟨c, hc⟩ a' W hl _ hI0 rfl hlt
        simp only [List.setIfInBounds_toArray, List.set_cons_succ, List.set_cons_zero]
        obtain ⟨s0, hs0, hsp⟩ := (mem_bitsI h32).1 hc
        obtain ⟨q, rfl⟩ : ∃ q, s0 = .kid q := by
          cases s0 with
          | kid k => exact ⟨k, rfl⟩
          | no => cases hsp
          | pr p => cases hsp
        have HI := Lib.hid hI0
        have HS0 := Lib.hid hs0
        have c1 : W.cell? ⟨gh + 1, 0, none⟩ = some (ptr g) := by rw [cellG HI.out.1.b1]; rfl
        obtain ⟨S, hS⟩ : ∃ S, S = np + ((pre.map Subtype.val).map cnt).sum := ⟨_, rfl⟩
        have hS9 : S ≤ 34000000000 := by
          have h1 := sum_le hcnt (pre.map Subtype.val)
          rw [List.length_map] at h1
          have h2 : pre.length * 1000000000 ≤ 33 * 1000000000 := Nat.mul_le_mul_right _ (by omega)
          omega
        have HSS := Lib.hid hS
        have hc9 := hcnt c
        clear hI0 hs0 hsp hS
        repeat' (first | (refine ⟨trivial, ?_⟩; gi_at_call 68; refine (callsIn_wide.2 (kid_yes W g c sl q (HIn.out.ext HI.out.2.1) HS0.out)).mono ?_; rintro e w8 ⟨rfl, f8⟩; go_simp) | (gi_not_at_region 24; (first | gi_guarded | gi_step)))
        have f8' := Lib.hid f8
        clear c1 f8
        have HB8 := HI.out.1.ext f8'.out
        have HE8 := Ext.trans HI.out.2.1 f8'.out
        refine canon_24 l _ w8 h hk gh _ c q A n way (okc c) (cnt c) HS.out.2 h13 HB8.b0 (by rw [cellG HB8.b2]; rfl) (HS.out.1.below HE8) (fun W' v' f hS' => HCC.out h13 c q HS0.out W' v' (Ext.trans HE8 f) hS') _ _ _ _ _ _ _ _ _ _ _ _ _ _ _ _ _ _ _ _ _ _ _ _ _ _ _ _ _ _ _ _ _ _ _ _ _ _ _ _ _ _ _ _ _ _ _ _ _ _ _ _ _ _ _ _ _ _ _ _ _ _ _ _ _ _ _ _ _ _ _ _ _ _ _ _ _ _ _ _ _ _ _ _ _ _ _ _ _ _ _ _ _ _ _ _ _ _ _ _ _ _ _ _ _ _ _ (by kernel_rfl) ?_
        intro u18 u19 u89 u90 u91 u92 u93 u94 u95 u96 u97 u98 w10 HL
        have EW : Hid (Ext W w10) := Lib.hid (Ext.trans f8'.out HL.2)
        obtain ⟨hLL, _⟩ := HL
        clear HB8 HE8 f8'
        have HB10 := Lib.hid (HI.out.1.ext EW.out)
        have HE10 := Lib.hid (Ext.trans HI.out.2.1 EW.out)
        obtain ⟨k, hkk⟩ : ∃ k, k = cnt c := ⟨_, rfl⟩
        rw [← hkk] at hLL hc9
        have HKK := Lib.hid hkk
        clear hkk
        rcases hLL with ⟨hL, rfl, rfl⟩ | ⟨hL, rfl, rfl⟩
        · have HL := Lib.hid hL
          clear hL
          by_cases h2 : 2 ≤ k
          · have d2 : decide ((k : Int) < 2) = false := by simp; omega
            have d2' : decide (k < 2) = false := by simp; omega
            have c11 : w10.cell? ⟨g11, 0, none⟩ = some (.int .i64 (S : Int)) := by rw [cellG (box_extG HI.out.2.2.1 EW.out), HSS.out]; rfl
            have f11 := freeG (box_extG HI.out.2.2.1 EW.out) 0
            have l11 := heap_lt (box_extG HI.out.2.2.1 EW.out)
            repeat' (first | gi_guarded | gi_step)
            have hg11 := box_extG HI.out.2.2.1 EW.out
            refine ⟨keepsF_others EW.out (KeepsOthers.setCell _ _ _), (KeepQ.of_ext EW.out).trans (kpT_box _ hg11 0 _ hg11w tauB_int), ?_, HE10.out.setCell hg11w _, ?_, ?_, fun c' hc' => ?_⟩
            · have hne : ∀ j, j ≠ g11 → (w10.setCell ⟨g11, 0, none⟩ (.int .i64 ((S : Int) + (k : Int)))).heap[j]? = w10.heap[j]? := fun j hj => Below.heap_setCell _ ⟨g11, 0, none⟩ _ j hj
              exact ⟨(hne _ (by omega)).trans HB10.out.b0, (hne _ (by omega)).trans HB10.out.b1, (hne _ (by omega)).trans HB10.out.b2, (hne _ (by omega)).trans HB10.out.b3, (hne _ (by omega)).trans HB10.out.b4⟩
            · have := heap_set hg11 0 (.int .i64 ((S : Int) + (k : Int)))
              have e : np + (((pre ++ [(⟨c, hc⟩ : { c : Nat // c ∈ bitsI (nodesOf sl) })]).map Subtype.val).map cnt).sum = S + k := by rw [HSS.out, HKK.out]; simp; omega
              rw [e]
              simpa using this
            · refine (Below.heap_setCell _ ⟨g11, 0, none⟩ _ D1 (fun e => ?_)).trans (box_extG HI.out.2.2.2.1 EW.out)
              have e' : D1 = g11 := e
              have h1 := HI.out.2.2.2.1
              rw [e', HI.out.2.2.1] at h1; cases h1
            · rw [List.map_append, List.mem_append] at hc'
              rcases hc' with hc' | hc'
              · exact HI.out.2.2.2.2 c' hc'
              · have e : c' = c := by simpa using hc'
                subst e
                exact ⟨HL.out, by rw [← HKK.out]; exact h2⟩
          · have d2 : decide ((k : Int) < 2) = true := by simp; omega
            have d2' : decide (k < 2) = true := by simp; omega
            have HNo : Hid (¬ OK) := Lib.hid (fun ho => by rw [HOK.out] at ho; have := (ho.2.2 c q HS0.out).2; rw [← HKK.out] at this; omega)
            have c3 : w10.cell? ⟨gh + 1 + 1 + 1, 0, none⟩ = some (.int .i64 0) := by rw [cellG HB10.out.b3]; rfl
            have c4 : w10.cell? ⟨gh + 1 + 1 + 1 + 1, 0, none⟩ = some (.bool false) := by rw [cellG HB10.out.b4]; rfl
            have f3' := freeG HB10.out.b3 0
            have f4' := freeG HB10.out.b4 0
            have l3' := heap_lt HB10.out.b3
            have l4' := heap_lt HB10.out.b4
            repeat' (first | gi_guarded | gi_step)
            obtain ⟨_, _, hzE, hzo, hzk⟩ := bx_res HB10.out HE10.out hgw 0 false (z := _) rfl
            exact ⟨keepsF_others EW.out hzk, rfl, HNo.out, BxC.res HB10.out HE10.out hgw rfl, hzE, (hzo _ (fun e => by have h1 := HI.out.2.2.2.1; rw [e, HI.out.1.b3] at h1; cases h1) (fun e => by have h1 := HI.out.2.2.2.1; rw [e, HI.out.1.b4] at h1; cases h1)).trans (box_extG HI.out.2.2.2.1 EW.out)⟩
        · have HNo : Hid (¬ OK) := Lib.hid (fun ho => by rw [HOK.out] at ho; exact hL (ho.2.2 c q HS0.out).1)
          clear hL
          have c3 : w10.cell? ⟨gh + 1 + 1 + 1, 0, none⟩ = some (.int .i64 0) := by rw [cellG HB10.out.b3]; rfl
          have c4 : w10.cell? ⟨gh + 1 + 1 + 1 + 1, 0, none⟩ = some (.bool false) := by rw [cellG HB10.out.b4]; rfl
          have f3' := freeG HB10.out.b3 0
          have f4' := freeG HB10.out.b4 0
          have l3' := heap_lt HB10.out.b3
          have l4' := heap_lt HB10.out.b4
          repeat' (first | gi_guarded | gi_step)
          obtain ⟨_, _, hzE, hzo, hzk⟩ := bx_res HB10.out HE10.out hgw 0 false (z := _) rfl
          exact ⟨keepsF_others EW.out hzk, rfl, HNo.out, BxC.res HB10.out HE10.out hgw rfl, hzE, (hzo _ (fun e => by have h1 := HI.out.2.2.2.1; rw [e, HI.out.1.b3] at h1; cases h1) (fun e => by have h1 := HI.out.2.2.2.1; rw [e, HI.out.1.b4] at h1; cases h1)).trans (box_extG HI.out.2.2.2.1 EW.out)⟩
      case stop =>
        rintro D cc pre W hD hpre ⟨rfl, hno, q1, q2, q3⟩ hKD
        refine wpIn_ret ?_
        (try simp only [Exit.inBlock, Exit.then])
        exact can_ret2 q1.b3 q1.b4 rfl rfl q3 hKD (by omega) q2 (Nat.le_trans hw7 hD1) (Nat.le_trans hw9 hD) (fun z' f => ⟨.inr ⟨hno, rfl⟩, f⟩)
      case done =>
        rintro D2 xs z1 hD2 hxs ⟨p1, p2, p3, p4, p5⟩ hKD2
        rw [hxs] at p3 p5
        have HY : Hid OK := Lib.hid (by
          rw [HOK.out]
          exact ⟨h13, HL1.out, fun c q hq => p5 c ((mem_bitsI h32).2 ⟨_, hq, rfl⟩)⟩)
        rw [← HTOT.out] at p3
        have H10 := Lib.hid (And.intro p1 (And.intro p2 (And.intro p3 p4)))
        have HKD2 := Lib.hid hKD2
        have HHD2 := Lib.hid hD2
        clear p1 p2 p3 p4 p5 hKD2 hxs
        (try simp only [Exit.inBlock, Exit.then])
        have c11 : z1.cell? ⟨g11, 0, none⟩ = some (.int .i64 (TOT : Int)) := by rw [cellG H10.out.2.2.1]; rfl
        have c3 : z1.cell? ⟨gh + 1 + 1 + 1, 0, none⟩ = some (.int .i64 0) := by rw [cellG H10.out.1.b3]; rfl
        have c4 : z1.cell? ⟨gh + 1 + 1 + 1 + 1, 0, none⟩ = some (.bool false) := by rw [cellG H10.out.1.b4]; rfl
        have f3' := freeG H10.out.1.b3 0
        have f4' := freeG H10.out.1.b4 0
        have l3' := heap_lt H10.out.1.b3
        have l4' := heap_lt H10.out.1.b4
        repeat' (first | go_skip | go_guarded | go_step)
        obtain ⟨zz, hzz⟩ : ∃ x, x = (z1.setCell ⟨gh + 1 + 1 + 1, 0, none⟩ (.int .i64 (TOT : Int))).setCell ⟨gh + 1 + 1 + 1 + 1, 0, none⟩ (.bool true) := ⟨_, rfl⟩
        obtain ⟨hz3, hz4, hzE, hzo, _⟩ := bx_res H10.out.1 H10.out.2.1 hgw (TOT : Int) true hzz
        rw [← hzz]
        have hd : ∀ (D : Nat), z1.heap[D]? = some (.deferred (some [])) → zz.heap[D]? = some (.deferred (some [])) := fun D hD => (hzo D (fun e => by rw [e, H10.out.1.b3] at hD; cases hD) (fun e => by rw [e, H10.out.1.b4] at hD; cases hD)).trans hD
        exact can_ret2 hz3 hz4 rfl rfl (hd _ H10.out.2.2.2) (hd _ HKD2.out) (by omega) hzE (Nat.le_trans hw7 hD1) (Nat.le_trans hw9 hD2) (fun z' f => ⟨.inl ⟨HY.out, rfl⟩, f⟩)
  · have d13a : decide ((13 : Int) ≤ (n : Int)) = true := by simp; omega
    have d13b : decide (13 ≤ n) = true := by simp; omega
    have d13c : (13 : Int) ≤ (n : Int) := by omega
    have HNo : Hid (¬ OK) := Lib.hid (fun ho => by rw [HOK.out] at ho; exact h13 ho.1)
    have c3 : w3.cell? ⟨gh + 1 + 1 + 1, 0, none⟩ = some (.int .i64 0) := by rw [cellG H3.out.1.b3]; rfl
    have c4 : w3.cell? ⟨gh + 1 + 1 + 1 + 1, 0, none⟩ = some (.bool false) := by rw [cellG H3.out.1.b4]; rfl
    have f3' := freeG H3.out.1.b3 0
    have f4' := freeG H3.out.1.b4 0
    have l3' := heap_lt H3.out.1.b3
    have l4' := heap_lt H3.out.1.b4
    repeat' (first | go_skip | go_guarded | go_step)
    obtain ⟨zz, hzz⟩ : ∃ x, x = (w3.setCell ⟨gh + 1 + 1 + 1, 0, none⟩ (.int .i64 0)).setCell ⟨gh + 1 + 1 + 1 + 1, 0, none⟩ (.bool false) := ⟨_, rfl⟩
    obtain ⟨hz3, hz4, hzE, _, _⟩ := bx_res H3.out.1 H3.out.2 hgw 0 false hzz
    rw [← hzz]
    refine postM_ret0 (results_box2 rfl _ _ (gh + 3) (gh + 4) (.int .i64 0) (.bool false) _ _ _ _ _ _ rfl hz3 Tryd.underlying3 rfl rfl hz4 Tryd.underlying4 rfl) rfl ?_
    exact ⟨.inr ⟨HNo.out, rfl⟩, hzE⟩
end Go.Proofs.YtclcgelbcbnekaaDoor
