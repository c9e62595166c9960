/- Texts joined. -/
import Derived.Test.YtclcgelbcbnekaaDoorM13
import Derived.Test.YtclcgelbcbnekaaDoorM05
import Derived.Deep.RegionWith
set_option linter.unusedVariables false
set_option linter.unusedSimpArgs false
/- Contracts: with a pair, and without one. -/
namespace Go.Proofs.YtclcgelbcbnekaaDoor
open Go.RowKit Go.QS
set_option linter.unusedVariables false
variable [Zero (Nat → Prop)]
set_option linter.unusedSectionVars false

theorem run_from {P : Program} {t e : TypeId} {size : Nat} (ht : P.underlying t = some (.slice e)) (hi : ∃ i z, P.info? e = some i ∧ i.zero = some z ∧ i.size = size ∧ i.bytes = 32 ∧ z.cells.size = size) (A : Option Addr) {n c i : Nat} (hin : i ≤ n) (hnc : n ≤ c) :
    ∃ A2, (∀ w, (Instr.slice t (.slice A n c) (some (.int .i64 (i : Int))) none none).run P w = .ok (.slice A2 (n - i) (c - i)) w) ∧
      ∀ (w : World) (xs : List Value), xs.length = n * size → Seg w A xs → Seg w A2 (xs.drop (i * size)) := by
  obtain ⟨inf, z, hi, hz, hs, hb, hzs⟩ := hi
  refine ⟨if c = i then A else A.map (·.add (i * size)), fun w => ?_, fun w xs hl hs => ?_⟩
  · have h1 : (0 : Int) ≤ (i : Int) := by omega
    have h2 : (i : Int) ≤ (n : Int) := by omega
    simp [Instr.slice, Instr.sliceBounds, Instr.sliceBound, asIntOf, run_underlying ht, sizeOf, typeInfo, hi, hs, hin]
  · by_cases h : c = i
    · have : xs.drop (i * size) = [] := List.drop_eq_nil_of_le (by rw [hl]; exact Nat.mul_le_mul_right _ (by omega))
      rw [this]; exact Seg.nil _ _
    · rw [if_neg h]
      intro hne
      obtain ⟨b, o, hA, hc⟩ := hs (fun e => hne (by simp [e]))
      subst hA
      have := Seg.drop (w := w) (b := b) (o := o) hs (i * size)
      obtain ⟨b', o', hA', hc'⟩ := this hne
      cases hA'
      exact ⟨b, o + i * size, by simp [Addr.add_lit], hc'⟩

theorem own_up {w : World} {base base' : Nat} {e : TypeId} {k n : Nat} {v : Value} {xs : List Value} (h : w.ownsRow base' e k v n xs) (hb : base ≤ base') : w.ownsRow base e k v n xs := by
  refine ⟨h.1, ?_⟩
  rcases h.2 with h | ⟨g, cap, cur, h1, h2, h3⟩
  · exact .inl h
  · exact .inr ⟨g, cap, cur, h1, Nat.le_trans hb h2, h3⟩

/-- The three parts that Put joins. -/
theorem join_c (w w1 : World) (A A2 : Option Addr) (n c i i1 : Nat) (l : List Pr) (p : Pr) (hE : Ext w w1) (hc : c ≤ maxLen) (hn : n ≤ c) (hin : i ≤ n) (hi1 : i1 ≤ n) (hnl : n = l.length) (h9 : n ≤ 400000000) (hs : Seg w A (flat l)) (hs2 : Seg w A2 ((flat l).drop (i1 * 2))) :
    Calls Tryd.prog 88 #[Value.slice (some { block := w1.heap.size + 1, off := 0 }) 3 3] ((w1.alloc (Obj.cells #[str p.1, str p.2] 45)).alloc (Obj.cells #[Value.slice A i c, Value.slice (some { block := w1.heap.size, off := 0 }) 1 1, Value.slice A2 (n - i1) (c - i1)] 43)).drew fun e w' => ∃ v', e = .returned v' ∧ w'.ownsRow w.heap.size 45 2 v' (l.take i ++ p :: l.drop i1).length (flat (l.take i ++ p :: l.drop i1)) ∧ Ext w w' := by
  have hE1 : Ext w (w1.alloc (Obj.cells #[str p.1, str p.2] 45)) := hE.alloc hE.size _
  have hE2 : Ext w ((w1.alloc (Obj.cells #[str p.1, str p.2] 45)).alloc (Obj.cells #[Value.slice A i c, Value.slice (some { block := w1.heap.size, off := 0 }) 1 1, Value.slice A2 (n - i1) (c - i1)] 43)).drew := (hE1.alloc hE1.size _).drew
  have e1 : (l.take i).length = i := List.length_take_of_le (by omega)
  have e2 : (l.drop i1).length = n - i1 := by rw [List.length_drop, ← hnl]
  refine (concat_c _ _ [l.take i, [p], l.drop i1] ⟨_, _, [Value.slice A i c, Value.slice (some { block := w1.heap.size, off := 0 }) 1 1, Value.slice A2 (n - i1) (c - i1)], rfl, (Seg.new _ [Value.slice A i c, Value.slice (some { block := w1.heap.size, off := 0 }) 1 1, Value.slice A2 (n - i1) (c - i1)] 43 (by simp)).below (below_drewN (Ext.refl _) 1), rfl, ?_⟩ (by simp) (by simp; omega)).mono ?_
  · intro j u l' hu hl'
    match j with
    | 0 =>
      simp at hu hl'
      subst hu hl'
      refine ⟨A, c, by rw [e1], by rw [flat_length], by omega, hc, ?_⟩
      rw [flat_take]
      exact (hs.below hE2).take _
    | 1 =>
      simp at hu hl'
      subst hu hl'
      have h0 : PS (w1.alloc (Obj.cells #[str p.1, str p.2] 45)) (Value.slice (some { block := w1.heap.size, off := 0 }) 1 1) [p] :=
        PS.of_own (base := 0) (e := 45) (n := 1) (own_lit (flat [p]) 1 (by decide) rfl (Nat.zero_le _))
      exact PS.below h0 (((Ext.refl _).alloc (Nat.le_refl _) _).drew)
    | 2 =>
      simp at hu hl'
      subst hu hl'
      refine ⟨A2, c - i1, by rw [e2], by rw [flat_length], by omega, by omega, ?_⟩
      rw [flat_drop]
      exact hs2.below hE2
    | j + 3 => simp at hu
  · rintro e w2 ⟨v2, rfl, hown, hb2⟩
    refine ⟨v2, rfl, ?_, Ext.trans hE2 hb2⟩
    simp only [List.flatten_cons, List.flatten_nil, List.append_nil, List.singleton_append] at hown
    exact own_up hown hE2.size

set_option maxRecDepth 100000 in
set_option maxHeartbeats 400000 in
theorem pput_c (w : World) (v : Value) (l : List Pr) (p : Pr) (h : PS w v l) (hr : Rise l) (h9 : l.length ≤ 400000000) :
    Calls Tryd.prog 53 #[v, .agg #[str p.1, str p.2]] w fun e w' => ∃ v', e = .returned v' ∧ w'.ownsRow w.heap.size 45 2 v' (rput l p).length (flat (rput l p)) ∧ Ext w w' := by
  have HF := Lib.hid (fun W (hW : Ext w W) => Pch.find_c W v l p.1 (h.below hW) hr (by omega))
  have hfl := fndI_le l p.1
  have H0 : Hid (_ ∧ _) := Lib.hid ⟨h, hr⟩
  obtain ⟨A, c, rfl, hl, hn, hc, hs⟩ := h
  obtain ⟨i, hi⟩ : ∃ i, i = fndI l p.1 := ⟨_, rfl⟩
  rw [← hi] at HF hfl
  obtain ⟨n, hn2⟩ : ∃ n, n = l.length := ⟨_, rfl⟩
  rw [← hn2] at h9 hn hfl HF
  have Hn : Hid (_ ∧ _ ∧ _) := Lib.hid ⟨hn2, hi, hl⟩
  have hin : hasK l p.1 = true → i < n := by
    intro hk
    rw [hi, hn2]
    rcases Nat.lt_or_ge (fndI l p.1) l.length with h | h
    · exact h
    · have := hasK_at (k := p.1) H0.out.2
      rw [List.getElem?_eq_none h, hk] at this
      cases this
  obtain ⟨A1, hrun1, hseg1⟩ := run_from Tryd.underlying43 infoP A hfl hn
  have b0 : (i : Int) ≤ (c : Int) := by omega
  cases hk : hasK l p.1 with
  | false =>
    rw [hk] at HF
    have HK : Hid (rput l p = l.take i ++ p :: l.drop i) := Lib.hid (by rw [rput_cut H0.out.2, ← hi, hk]; rfl)
    have HS := Lib.hid (hseg1 w (flat l) (by rw [Hn.out.2.2, ← hn2]) hs)
    rw [← hn2]
    clear hi hn2 hseg1 hin hk
    go_enter Tryd.func53, Tryd.ntmps53
    repeat' go_step
    refine (HF.out _ ((Ext.refl w).alloc (Nat.le_refl _) _)).mono ?_
    rintro e w1 ⟨rfl, hb⟩
    have hE : Ext w w1 := Ext.trans ((Ext.refl w).alloc (Nat.le_refl _) _) hb
    have hc1 : w1.cell? ⟨w.heap.size, 0, none⟩ = some (str p.1) := (hb.cell (p := ⟨w.heap.size, 0, none⟩) (by simp)).trans (by rw [World.cell?_alloc_at _ _ _ _ rfl]; rfl)
    have hc2 : w1.cell? ⟨w.heap.size, 1, none⟩ = some (str p.2) := (hb.cell (p := ⟨w.heap.size, 1, none⟩) (by simp)).trans (by rw [World.cell?_alloc_at _ _ _ _ rfl]; rfl)
    clear hb
    go_simp
    repeat' go_step
    have HC := Lib.hid (join_c w w1 A A1 n c i i l p hE hc hn hfl hfl Hn.out.1 h9 hs HS.out)
    go_region_with ((go_at_call 88; refine HC.out.mono ?_; rintro e w2 ⟨v2, rfl, hown, hb2⟩))
    repeat' go_step
    go_ret
    refine ⟨_, rfl, ?_, hb2⟩
    rw [HK.out]
    exact hown
  | true =>
    have hin := hin hk
    rw [hk] at HF
    obtain ⟨i1, hi1⟩ : ∃ i1, i1 = i + 1 := ⟨_, rfl⟩
    have hi1n : i1 ≤ n := by omega
    have HK : Hid (rput l p = l.take i ++ p :: l.drop i1) := Lib.hid (by rw [rput_cut H0.out.2, ← hi, hk, hi1]; rfl)
    obtain ⟨A2, hrun2, hseg2⟩ := run_from Tryd.underlying43 infoP A hi1n hn
    have HS := Lib.hid (hseg2 w (flat l) (by rw [Hn.out.2.2, ← hn2]) hs)
    have hs1 : (i : Int) + 1 = (i1 : Int) := by omega
    rw [← hn2]
    clear hi hn2 hseg1 hseg2 hk hi1
    go_enter Tryd.func53, Tryd.ntmps53
    repeat' go_step
    refine (HF.out _ ((Ext.refl w).alloc (Nat.le_refl _) _)).mono ?_
    rintro e w1 ⟨rfl, hb⟩
    have hE : Ext w w1 := Ext.trans ((Ext.refl w).alloc (Nat.le_refl _) _) hb
    have hc1 : w1.cell? ⟨w.heap.size, 0, none⟩ = some (str p.1) := (hb.cell (p := ⟨w.heap.size, 0, none⟩) (by simp)).trans (by rw [World.cell?_alloc_at _ _ _ _ rfl]; rfl)
    have hc2 : w1.cell? ⟨w.heap.size, 1, none⟩ = some (str p.2) := (hb.cell (p := ⟨w.heap.size, 1, none⟩) (by simp)).trans (by rw [World.cell?_alloc_at _ _ _ _ rfl]; rfl)
    clear hb
    go_simp
    repeat' go_step
    have HC := Lib.hid (join_c w w1 A A2 n c i i1 l p hE hc hn hfl hi1n Hn.out.1 h9 hs HS.out)
    go_region_with ((go_at_call 88; refine HC.out.mono ?_; rintro e w2 ⟨v2, rfl, hown, hb2⟩))
    repeat' go_step
    go_ret
    refine ⟨_, rfl, ?_, hb2⟩
    rw [HK.out]
    exact hown
end Go.Proofs.YtclcgelbcbnekaaDoor
/- Contracts: a chunk's pair, where there is none; a chunk's kid. -/
namespace Go.Proofs.YtclcgelbcbnekaaDoor
open Go.RowKit Go.QS Go.QS.Nk
set_option linter.unusedVariables false
variable [Zero (Nat → Prop)]
set_option linter.unusedSectionVars false

theorem no_facts {w : World} {g i : Nat} {sl : List (Slot Nat)} {s : Slot Nat} (h : In ND w g sl) (hs : sl[i]? = some s) : ∃ d n : Nat, d < 4294967296 ∧ n < 4294967296 ∧ i < 32 ∧ Hid (d.testBit i = s.isP ∧ n.testBit i = s.isK) ∧ Hid (w.cell? ⟨g, 0, none⟩ = some (.int .u32 d) ∧ w.cell? ⟨g, 1, none⟩ = some (.int .u32 n)) := by
  have hi : i < 32 := by have := get_lt hs; rw [h.1] at this; exact this
  have hz := in_sizes h
  obtain ⟨h32, ow, pv, kv, nd⟩ := h
  exact ⟨_, _, hz.1, hz.2, hi, Lib.hid ⟨bit_at Slot.isP hs, bit_at Slot.isK hs⟩, Lib.hid ⟨nd.node.cells.1, nd.node.cells.2.1⟩⟩

set_option maxRecDepth 100000 in
set_option maxHeartbeats 1000000 in
theorem pair_noD (w : World) (v : Value) (d : Nat) (i : Int) (hC : Hid (∀ w', Ext w w' → Calls Tryd.prog 60 #[v] w' fun e w'' => e = .returned (.int .u32 d) ∧ w' = w'')) (hH : Hid (∀ w', Ext w w' → Calls Tryd.prog 41 #[.int .u32 d, .int .i64 i] w' fun e w'' => e = .returned (.bool false) ∧ Ext w' w'')) :
    Calls Tryd.prog 67 #[v, .int .i64 i] w fun e w' => e = .returned (.tuple #[.agg #[str [], str []], .bool false]) ∧ Ext w w' := by
  obtain ⟨wa, rb, hwa, hrb, hba, hEa, hle⟩ := box_first w
  have HW := Lib.hid (And.intro hwa hrb)
  have HA := Lib.hid (And.intro hba (And.intro hEa hle))
  clear hwa hrb hba hEa hle
  go_enter Tryd.func67, Tryd.ntmps67
  repeat' (first | go_at_call 60 | go_skip | go_guarded | go_step)
  rw [HW.out.1, ← HW.out.2]
  refine (hC.out wa HA.out.2.1).mono ?_
  rintro e w1 ⟨rfl, rfl⟩
  go_simp
  repeat' (first | go_at_call 41 | go_skip | go_guarded | go_step)
  refine (hH.out wa HA.out.2.1).mono ?_
  rintro e w2 ⟨rfl, f2⟩
  have k2 := Lib.hid (And.intro (box_ext' HA.out.1 f2) f2)
  obtain ⟨hc0, hc1, hfr⟩ := box_facts k2.out.1
  clear f2
  go_simp
  repeat' (first | go_skip | go_guarded | go_step)
  (try simp only [Exit.inBlock, Exit.then])
  refine bodyPost_ret_by (results_ct rfl _ _ _ _ _ _ _ rfl (heap_set (heap_set k2.out.1 0 _) 1 _) Tryd.underlying45 rfl (by kernel_rfl)) rfl ?_
  exact ⟨rfl, ((HA.out.2.1.trans k2.out.2).setCell HA.out.2.2 _).setCell HA.out.2.2 _⟩
theorem pair_no (w : World) (g i : Nat) (sl : List (Slot Nat)) (s : Slot Nat) (h : In ND w g sl) (hs : sl[i]? = some s) (hp : s.isP = false) : Calls Tryd.prog 67 #[ptr g, .int .i64 i] w fun e w' => e = .returned (.tuple #[.agg #[str [], str []], .bool false]) ∧ Ext w w' := by
  obtain ⟨d, n, hd9, hn9, hi, HB, HC⟩ := no_facts h hs
  refine pair_noD w (ptr g) d i (Lib.hid fun w' f => data_c w' g d ((f.cell (World.block_lt_of_cell? w _ HC.out.1)).trans HC.out.1)) (Lib.hid fun w' f => (has_c w' d i hd9 hi).mono ?_)
  rintro e w'' ⟨rfl, rfl⟩
  exact ⟨by rw [HB.out.1, hp], Ext.refl _⟩
theorem pair_any (w : World) (g i : Nat) (sl : List (Slot Nat)) (s : Slot Nat) (h : In ND w g sl) (hs : sl[i]? = some s) : Calls Tryd.prog 67 #[ptr g, .int .i64 i] w fun e w' => e = .returned (pairV s) ∧ Ext w w' := by
  cases s with
  | pr p => exact pair_yes w g i sl p h hs
  | no => exact pair_no w g i sl _ h hs rfl
  | kid k => exact pair_no w g i sl _ h hs rfl

/-! ### Kids -/
theorem kid_facts {w : World} {g i : Nat} {sl : List (Slot Nat)} {k : Nat} (h : In ND w g sl) (hs : sl[i]? = some (.kid k)) : ∃ d b o n c r, d < 4294967296 ∧ i < 32 ∧ n ≤ 32 ∧ r < n ∧ n ≤ c ∧ Hid (d.testBit i = true ∧ rnk d i = r) ∧
    Hid (w.cell? ⟨g, 1, none⟩ = some (.int .u32 d) ∧ w.cell? ⟨g, 3, none⟩ = some (.slice (some ⟨b, o, none⟩) n c) ∧ w.cell? ⟨b, o + r, none⟩ = some (ptr k) ∧ w.cell? ⟨g, 1, none⟩ = some (.int .u32 d)) := by
  have hi : i < 32 := by have := get_lt hs; rw [h.1] at this; exact this
  have hd9 := (in_sizes h).2
  have hbit := bit_at Slot.isK hs
  have hrk := rk_nodes (sl := sl) (by rw [h.1]; decide) i
  obtain ⟨h32, ow, pv, kv, nd⟩ := h
  obtain ⟨PA, pc, rfl, hpl, hpn, hpc, hps⟩ := nd.kids
  have hat := ptrs_get (kds_at hs)
  obtain ⟨b, o, rfl, hcl⟩ := hps (fun e => by rw [e] at hat; simp at hat)
  have hp32 := kdsOf_len sl
  rw [h32] at hp32
  exact ⟨_, b, o, _, pc, rkK sl i, hd9, hi, hp32, (List.getElem?_eq_some_iff.1 (kds_at hs)).1, hpn, Lib.hid ⟨hbit, hrk⟩, Lib.hid ⟨nd.node.cells.2.1, nd.node.cells.2.2.2.1, hcl _ _ hat, nd.node.cells.2.1⟩⟩
set_option maxRecDepth 100000 in
set_option maxHeartbeats 1000000 in
theorem kid_yes (w : World) (g i : Nat) (sl : List (Slot Nat)) (k : Nat) (h : In ND w g sl) (hs : sl[i]? = some (.kid k)) : Calls Tryd.prog 68 #[ptr g, .int .i64 i] w fun e w' => e = .returned (.tuple #[ptr k, .bool true]) ∧ Ext w w' := by
  obtain ⟨d, b, o, n, pc, r, hd9, hi, hn9, hrn, hnc, HB, HK⟩ := kid_facts h hs
  clear h hs
  have hri : (r : Int) < (n : Int) := by omega
  have hr0 : (0 : Int) ≤ (r : Int) := by omega
  go_enter Tryd.func68, Tryd.ntmps68
  repeat' (first | go_at_call 61 | go_skip | go_guarded | go_step)
  refine (nodes_c w g d HK.out.1).mono ?_
  rintro e w1 ⟨rfl, rfl⟩
  go_simp
  repeat' (first | go_at_call 41 | go_skip | go_guarded | go_step)
  refine (has_c w d i hd9 hi).mono ?_
  rintro e w1 ⟨rfl, rfl⟩
  rw [HB.out.1]
  obtain ⟨q0, q1, q2, _⟩ := HK.out
  go_simp
  repeat' (go_not_at_region 3; (first | go_skip | go_guarded | go_step))
  go_region_held3 (fun w' => w'.cell? ⟨g, 1, none⟩ = some (.int .u32 d) ∧ w'.cell? ⟨g, 3, none⟩ = some (.slice (some ⟨b, o, none⟩) n pc) ∧ w'.cell? ⟨b, o + r, none⟩ = some (ptr k) ∧ w'.cell? ⟨g, 1, none⟩ = some (.int .u32 d))
    (first | exact keep4c k1.out HK.out | exact keep4c (below_drewN (Ext.refl _) 1) HK.out)
    ((go_at_call 42; refine (rank_c _ d i hd9 hi).mono ?_; rintro e x1 ⟨rfl, f1⟩; rw [HB.out.2]; have k1 : Hid (Ext w x1) := Lib.hid (Ext.trans (below_drewN (Ext.refl _) 1) f1); clear f1))
  repeat' (first | go_skip | go_guarded | go_step)
  go_ret2
  exact ⟨rfl, k1.out⟩
theorem kid_noD (w : World) (v : Value) (d : Nat) (i : Int) (hC : Hid (∀ w', Ext w w' → Calls Tryd.prog 61 #[v] w' fun e w'' => e = .returned (.int .u32 d) ∧ w' = w'')) (hH : Hid (∀ w', Ext w w' → Calls Tryd.prog 41 #[.int .u32 d, .int .i64 i] w' fun e w'' => e = .returned (.bool false) ∧ Ext w' w'')) :
    Calls Tryd.prog 68 #[v, .int .i64 i] w fun e w' => e = .returned (.tuple #[.pointer none, .bool false]) ∧ Ext w w' := by
  go_enter Tryd.func68, Tryd.ntmps68
  repeat' (first | go_at_call 61 | go_skip | go_guarded | go_step)
  refine (hC.out w (Ext.refl _)).mono ?_
  rintro e w1 ⟨rfl, rfl⟩
  go_simp
  repeat' (first | go_at_call 41 | go_skip | go_guarded | go_step)
  refine (hH.out w (Ext.refl _)).mono ?_
  rintro e w2 ⟨rfl, f2⟩
  have k2 := Lib.hid f2
  clear f2
  go_simp
  repeat' (first | go_skip | go_guarded | go_step)
  go_ret2
  exact ⟨rfl, k2.out⟩
theorem kid_no (w : World) (g i : Nat) (sl : List (Slot Nat)) (s : Slot Nat) (h : In ND w g sl) (hs : sl[i]? = some s) (hp : s.isK = false) : Calls Tryd.prog 68 #[ptr g, .int .i64 i] w fun e w' => e = .returned (.tuple #[.pointer none, .bool false]) ∧ Ext w w' := by
  obtain ⟨d, n, hd9, hn9, hi, HB, HC⟩ := no_facts h hs
  refine kid_noD w (ptr g) n i (Lib.hid fun w' f => nodes_c w' g n ((f.cell (World.block_lt_of_cell? w _ HC.out.2)).trans HC.out.2)) (Lib.hid fun w' f => (has_c w' n i hn9 hi).mono ?_)
  rintro e w'' ⟨rfl, rfl⟩
  exact ⟨by rw [HB.out.2, hp], Ext.refl _⟩
theorem kid_any (w : World) (g i : Nat) (sl : List (Slot Nat)) (s : Slot Nat) (h : In ND w g sl) (hs : sl[i]? = some s) : Calls Tryd.prog 68 #[ptr g, .int .i64 i] w fun e w' => e = .returned (kidV s) ∧ Ext w w' := by
  cases s with
  | pr p => exact kid_no w g i sl _ h hs rfl
  | no => exact kid_no w g i sl _ h hs rfl
  | kid k => exact kid_yes w g i sl k h hs

/-- Has of no bits. -/
theorem has_zero (w : World) (i : Int) : Calls Tryd.prog 41 #[.int .u32 0, .int .i64 i] w fun e w' => e = .returned (.bool false) ∧ Ext w w' := by
  by_cases h : 0 ≤ i ∧ i < 32
  · obtain ⟨j, rfl⟩ := Int.eq_ofNat_of_zero_le h.1
    refine (has_c w 0 j (by decide) (by omega)).mono ?_
    rintro e w' ⟨rfl, rfl⟩
    exact ⟨by simp, Ext.refl _⟩
  · have hr : Calls Tryd.prog 74 #[.int .i64 i] w fun e w' => e = .returned (.bool false) ∧ w = w' := by
      by_cases h0 : 0 ≤ i
      · have h3 : decide ((0 : Int) ≤ i) = true := by simp; omega
        have h4 : decide (i < 32) = false := by simp; omega
        go_enter Tryd.func74, Tryd.ntmps74
        repeat' (first | go_skip | go_guarded | go_step)
        go_ret
        exact ⟨rfl, rfl⟩
      · have h3 : decide ((0 : Int) ≤ i) = false := by simp; omega
        go_enter Tryd.func74, Tryd.ntmps74
        repeat' (first | go_skip | go_guarded | go_step)
        go_ret
        exact ⟨rfl, rfl⟩
    have HR := Lib.hid hr
    clear hr h
    go_enter Tryd.func41, Tryd.ntmps41
    repeat' go_step
    refine HR.out.mono ?_
    rintro e w1 ⟨rfl, rfl⟩
    go_simp
    repeat' (first | go_skip | go_guarded | go_step)
    go_ret
    exact ⟨rfl, Ext.refl _⟩
theorem pair_z (w : World) (i : Int) : Calls Tryd.prog 67 #[nil0, .int .i64 i] w fun e w' => e = .returned (.tuple #[.agg #[str [], str []], .bool false]) ∧ Ext w w' :=
  pair_noD w nil0 0 i (Lib.hid fun w' f => data_nil w') (Lib.hid fun w' f => has_zero w' i)
theorem kid_z (w : World) (i : Int) : Calls Tryd.prog 68 #[nil0, .int .i64 i] w fun e w' => e = .returned (.tuple #[.pointer none, .bool false]) ∧ Ext w w' :=
  kid_noD w nil0 0 i (Lib.hid fun w' f => nodes_nil w') (Lib.hid fun w' f => has_zero w' i)
end Go.Proofs.YtclcgelbcbnekaaDoor
/- Contract: a node of one's own, without a token: one like it. -/
namespace Go.Proofs.YtclcgelbcbnekaaDoor
open Go.RowKit Go.QS Go.QS.Nk
set_option linter.unusedVariables false
variable [Zero (Nat → Prop)]
set_option linter.unusedSectionVars false

theorem keep2n {w w' : World} {a1 a2 : Addr} {u1 u2 : Value} (f : Ext w w') (h : w.cell? a1 = some u1 ∧ w.cell? a2 = some u2) : w'.cell? a1 = some u1 ∧ w'.cell? a2 = some u2 :=
  ⟨(f.cell (World.block_lt_of_cell? w _ h.1)).trans h.1, (f.cell (World.block_lt_of_cell? w _ h.2)).trans h.2⟩

set_option maxRecDepth 100000 in
set_option maxHeartbeats 1000000 in
theorem nown_c (w : World) (g d n : Nat) (ps : List Pr) (ks : List Nat) (bk : Bool) (ow : Option Addr) (pv kv : Value) (h : Nd ND w g d n ps ks bk ow pv kv) (hp9 : ps.length ≤ 1000000000) (hk9 : ks.length ≤ 1000000000) :
    Calls Tryd.prog 40 #[ptr g, nil0] w fun e w' => ∃ c pv' kv', e = .returned (ptr c) ∧ NdO ND NP NK w.heap.size w' c d n ps ks bk none pv' kv' ∧ w.heap.size ≤ c ∧ Ext w w' := by
  obtain ⟨PA, pc, rfl, hpl, hpn, hpc, hps⟩ := h.pairs
  obtain ⟨KA, kc, rfl, hkl, hkn, hkc, hks⟩ := h.kids
  obtain ⟨c0, c1, c2, c3, c4, c5⟩ := h.node.cells
  obtain ⟨wa, hwa⟩ : ∃ x, x = w.alloc (.cells #[.int .u32 d, .int .u32 n, .slice PA ps.length pc, .slice KA ks.length kc, .bool bk, .pointer ow] ND) := ⟨_, rfl⟩
  obtain ⟨c, hc⟩ : ∃ c, c = w.heap.size := ⟨_, rfl⟩
  have hn : NdAt ND wa c d n (.slice PA ps.length pc) (.slice KA ks.length kc) bk ow := by rw [hwa]; exact NdAt.new ND w hc
  have hE : Ext w wa := by rw [hwa]; exact (Ext.refl _).alloc (Nat.le_refl _) _
  have HA := Lib.hid (And.intro hn (And.intro hE (show w.heap.size ≤ c by omega)))
  have HS := Lib.hid (And.intro (h.ext hE).pairs (h.ext hE).kids)
  have HK := Lib.hid (And.intro c2 c3)
  have HW := Lib.hid (And.intro hwa.symm hc.symm)
  have HB := Lib.hid hE.size
  have hgc : Hid (g ≠ c) := Lib.hid (by have := h.node.lt; omega)
  clear h hpl hps hkl hks hwa hn hE hc
  go_enter Tryd.func40, Tryd.ntmps40
  repeat' (first | (go_at_call 71; refine (owned_nil _ _ (.inr ⟨_, rfl⟩)).mono ?_; rintro e w1 ⟨rfl, rfl⟩; go_simp) | (go_not_at_region 4; (first | go_skip | go_guarded | go_step)))
  have hW := HW.out.1
  rw [hW, HW.out.2]
  clear hW
  obtain ⟨q2, q3⟩ := keep2n HA.out.2.1 HK.out
  have HQ : Hid (_ ∧ _) := Lib.hid (And.intro q2 q3)
  go_region_held3 (fun w' => w'.cell? ⟨g, 2, none⟩ = some (.slice PA ps.length pc) ∧ w'.cell? ⟨g, 3, none⟩ = some (.slice KA ks.length kc))
    (first | exact keep2n (((HA.out.2.1.trans (k1.out.1.trans k2.out.1)).setCell HA.out.2.2 _).setCell HA.out.2.2 _) HK.out | exact keep2n ((HA.out.2.1.trans (k1.out.1.trans k2.out.1)).setCell HA.out.2.2 _) HK.out | exact keep2n (HA.out.2.1.trans (k1.out.1.trans k2.out.1)) HK.out | exact keep2n (HA.out.2.1.trans k1.out.1) HK.out | exact keep2n (HA.out.2.1.trans (below_drewN (Ext.refl _) 1)) HK.out)
    (first
      | (go_at_call 72; refine (pclone_c _ _ ps (PS.below HS.out.1 (by repeat' (first | exact Ext.refl _ | apply ext_alloc | apply ext_drew | exact below_drewN (Ext.refl _) _))) hp9).mono ?_; rintro e x1 ⟨v1, rfl, o1, f1⟩; obtain ⟨A1, C1, rfl⟩ := own_slice o1; have k1 : Hid (Ext wa x1 ∧ x1.ownsRow w.heap.size NP 2 (.slice A1 ps.length C1) ps.length (flat ps)) := Lib.hid ⟨Ext.trans (by repeat' (first | exact Ext.refl _ | apply ext_alloc | apply ext_drew | exact below_drewN (Ext.refl _) _)) f1, own_base o1 HB.out⟩; clear o1 f1)
      | (go_at_call 73; refine (kclone_c _ _ ks (Sl.below HS.out.2 (k1.out.1.trans (by repeat' (first | exact Ext.refl _ | apply ext_alloc | apply ext_drew | exact below_drewN (Ext.refl _) _)))) hk9).mono ?_; rintro e x2 ⟨v2, rfl, o2, f2⟩; obtain ⟨A2, C2, rfl⟩ := own_slice o2; have k2 : Hid (Ext x1 x2 ∧ x2.ownsRow w.heap.size NK 1 (.slice A2 ks.length C2) ks.length (ptrs ks)) := Lib.hid ⟨Ext.trans (by repeat' (first | exact Ext.refl _ | apply ext_alloc | apply ext_drew | exact below_drewN (Ext.refl _) _)) f2, own_base o2 (Nat.le_trans HB.out k1.out.1.size)⟩; have H2 := Lib.hid (HA.out.1.ext (k1.out.1.trans k2.out.1)); obtain ⟨z0, z1, z2, z3, z4, z5⟩ := H2.out.cells; have zf := H2.out.free; clear o2 f2 z0 z1 z4))
  repeat' (first | (go_at_call 51; refine (live_nil _).mono ?_; rintro e w1 ⟨rfl, rfl⟩; go_simp) | go_skip | go_guarded | go_step)
  go_ret
  have hle := HA.out.2.2
  have r1 := k2.out.1
  have e3 := HA.out.2.1.trans (k1.out.1.trans k2.out.1)
  refine ⟨c, _, _, rfl, ⟨((H2.out.set2 _).set3 _).set5 none, ?_, ?_⟩, hle, ((e3.setCell hle _).setCell hle _).setCell hle _⟩
  · exact own_other (own_other (own_other (row_ext k1.out.2 k2.out.1) H2.out (by decide) 2 _) (H2.out.set2 _) (by decide) 3 _) ((H2.out.set2 _).set3 _) (by decide) 5 _
  · exact own_other (own_other (own_other k2.out.2 H2.out (by decide) 2 _) (H2.out.set2 _) (by decide) 3 _) ((H2.out.set2 _).set3 _) (by decide) 5 _
end Go.Proofs.YtclcgelbcbnekaaDoor
