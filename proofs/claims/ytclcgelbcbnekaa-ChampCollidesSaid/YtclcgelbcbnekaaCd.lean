/- Contracts: with a pair, and without one. -/
import Derived.Test.YtclcgelbcbnekaaBa
import Derived.Test.YtclcgelbcbnekaaNn
import Derived.Deep.RegionWith
set_option linter.unusedVariables false
set_option linter.unusedSimpArgs false
namespace Go.Proofs.Ytclcgelbcbnekaa
open Go.RowKit Go.QS
set_option linter.unusedVariables false
variable [Zero (Nat → Prop)]
set_option linter.unusedSectionVars false

theorem run_from {P : Program} {t e : TypeId} {size : Nat} (ht : P.underlying t = some (.slice e)) (hi : ∃ i z, P.info? e = some i ∧ i.zero = some z ∧ i.size = size ∧ i.bytes = 32 ∧ z.cells.size = size) (A : Option Addr) {n c i : Nat} (hin : i ≤ n) (hnc : n ≤ c) :
    ∃ A2, (∀ w, (Instr.slice t (.slice A n c) (some (.int .i64 (i : Int))) none none).run P w = .ok (.slice A2 (n - i) (c - i)) w) ∧
      ∀ (w : World) (xs : List Value), xs.length = n * size → Seg w A xs → Seg w A2 (xs.drop (i * size)) := by
  obtain ⟨inf, z, hi, hz, hs, hb, hzs⟩ := hi
  refine ⟨if c = i then A else A.map (·.add (i * size)), fun w => ?_, fun w xs hl hs => ?_⟩
  · have h1 : (0 : Int) ≤ (i : Int) := by omega
    have h2 : (i : Int) ≤ (n : Int) := by omega
    simp [Instr.slice, Instr.sliceBounds, Instr.sliceBound, asIntOf, run_underlying ht, sizeOf, typeInfo, hi, hs, hin]
  · by_cases h : c = i
    · have : xs.drop (i * size) = [] := List.drop_eq_nil_of_le (by rw [hl]; exact Nat.mul_le_mul_right _ (by omega))
      rw [this]; exact Seg.nil _ _
    · rw [if_neg h]
      intro hne
      obtain ⟨b, o, hA, hc⟩ := hs (fun e => hne (by simp [e]))
      subst hA
      have := Seg.drop (w := w) (b := b) (o := o) hs (i * size)
      obtain ⟨b', o', hA', hc'⟩ := this hne
      cases hA'
      exact ⟨b, o + i * size, by simp [Addr.add_lit], hc'⟩

theorem own_up {w : World} {base base' : Nat} {e : TypeId} {k n : Nat} {v : Value} {xs : List Value} (h : w.ownsRow base' e k v n xs) (hb : base ≤ base') : w.ownsRow base e k v n xs := by
  refine ⟨h.1, ?_⟩
  rcases h.2 with h | ⟨g, cap, cur, h1, h2, h3⟩
  · exact .inl h
  · exact .inr ⟨g, cap, cur, h1, Nat.le_trans hb h2, h3⟩

set_option maxRecDepth 100000 in
set_option maxHeartbeats 400000 in
theorem pdrop_c (w : World) (v : Value) (l : List Pr) (key : List UInt8) (h : PS w v l) (hr : Rise l) (h9 : l.length ≤ 400000000) :
    Calls Try.prog 91 #[v, str key] w fun e w' => ∃ v', e = .returned v' ∧ w'.ownsRow w.heap.size 36 2 v' (rdrop l key).length (flat (rdrop l key)) ∧ Ext w w' := by
  have HF := Lib.hid (Pch.find_c w v l key h hr (by omega))
  have hfl := fndI_le l key
  have H0 : Hid (_ ∧ _) := Lib.hid ⟨h, hr⟩
  obtain ⟨A, c, rfl, hl, hn, hc, hs⟩ := h
  obtain ⟨i, hi⟩ : ∃ i, i = fndI l key := ⟨_, rfl⟩
  rw [← hi] at HF hfl
  obtain ⟨n, hn2⟩ : ∃ n, n = l.length := ⟨_, rfl⟩
  rw [← hn2] at h9 hn hfl HF
  have Hn : Hid (_ ∧ _ ∧ _) := Lib.hid ⟨hn2, hi, hl⟩
  clear hl hr
  cases hk : hasK l key with
  | false =>
    rw [hk] at HF
    have HK := Lib.hid (rdrop_self hk)
    rw [← hn2]
    clear hk hi hn2
    go_enter Try.func91, Try.ntmps91
    repeat' go_step
    refine HF.out.mono ?_
    rintro e w1 ⟨rfl, hb⟩
    go_simp
    repeat' go_step
    refine (pclone_c w1 _ l (by rw [Hn.out.1]; exact H0.out.1.below hb) (by have := Hn.out.1; omega)).mono ?_
    rintro e w2 ⟨v2, rfl, hown, hb2⟩
    go_simp
    repeat' go_step
    go_ret
    refine ⟨_, rfl, ?_, Ext.trans hb hb2⟩
    rw [HK.out]
    exact own_up hown hb.size
  | true =>
    rw [hk] at HF
    have hin : i < n := by
      rw [hi, hn2]
      rcases Nat.lt_or_ge (fndI l key) l.length with h | h
      · exact h
      · have := hasK_at (k := key) H0.out.2
        rw [List.getElem?_eq_none h, hk] at this
        cases this
    obtain ⟨i1, hi1⟩ : ∃ i1, i1 = i + 1 := ⟨_, rfl⟩
    have HK := Lib.hid (rdrop_cut H0.out.2 hk)
    obtain ⟨A2, hrun, hseg⟩ := run_from Try.underlying22 infoP A (show i1 ≤ n by omega) hn
    have HS := Lib.hid (hseg w (flat l) (by rw [Hn.out.2.2, ← hn2]) hs)
    have hs1 : IntKind.i64.wrap ((i : Int) + 1) = (i1 : Int) := by rw [show (i : Int) + 1 = (i1 : Int) by omega]; exact IntWalk.i64_in _ (by omega)
    have HI := Lib.hid hi1
    have b0 : (i : Int) ≤ (c : Int) := by omega
    rw [← hn2]
    clear hk hi hn2 hseg hi1
    go_enter Try.func91, Try.ntmps91
    repeat' go_step
    refine HF.out.mono ?_
    rintro e w1 ⟨rfl, hb⟩
    go_simp
    repeat' go_step
    go_still_tail 7, (by kernel_rfl)
    change wpList _ _ _ _ _ w1.drew
    repeat' (first | go_skip | go_guarded | go_step)
    have hE1 : Ext w (w1.alloc (.cells #[Value.slice A i c, Value.slice A2 (n - i1) (c - i1)] 22)).drew := (hb.alloc hb.size _).drew
    refine (concat_c _ _ [l.take i, l.drop i1] ⟨_, _, [Value.slice A i c, Value.slice A2 (n - i1) (c - i1)], rfl, (Seg.new w1 [Value.slice A i c, Value.slice A2 (n - i1) (c - i1)] 22 rfl).below (below_drewN (Ext.refl _) 1), rfl, ?_⟩ (by simp) (by
      have := Hn.out.1
      simp; omega)).mono ?_
    · intro j u l' hu hl'
      match j with
      | 0 =>
        simp at hu hl'
        subst hu hl'
        have e : (l.take i).length = i := List.length_take_of_le (by have := Hn.out.1; omega)
        refine ⟨A, c, by rw [e], by rw [flat_length], by omega, hc, ?_⟩
        rw [flat_take]
        exact (hs.below hE1).take _
      | 1 =>
        simp at hu hl'
        subst hu hl'
        have e : (l.drop i1).length = n - i1 := by rw [List.length_drop, ← Hn.out.1]
        refine ⟨A2, c - i1, by rw [e], by rw [flat_length], by omega, by omega, ?_⟩
        rw [flat_drop]
        exact HS.out.below hE1
      | j + 2 => simp at hu
    · rintro e w2 ⟨v2, rfl, hown, hb2⟩
      have HO := Lib.hid hown
      clear hown
      go_simp
      repeat' go_step
      go_ret
      refine ⟨_, rfl, ?_, Ext.trans hE1 hb2⟩
      rw [HK.out, ← Hn.out.2.1, ← HI.out]
      have := HO.out
      simp only [List.flatten_cons, List.flatten_nil, List.append_nil] at this
      exact own_up this hE1.size

/-- The three parts that Put joins. -/
theorem join_c (w w1 : World) (A A2 : Option Addr) (n c i i1 : Nat) (l : List Pr) (p : Pr) (hE : Ext w w1) (hc : c ≤ maxLen) (hn : n ≤ c) (hin : i ≤ n) (hi1 : i1 ≤ n) (hnl : n = l.length) (h9 : n ≤ 400000000) (hs : Seg w A (flat l)) (hs2 : Seg w A2 ((flat l).drop (i1 * 2))) :
    Calls Try.prog 139 #[Value.slice (some { block := w1.heap.size + 1, off := 0 }) 3 3] ((w1.alloc (Obj.cells #[str p.1, str p.2] 36)).alloc (Obj.cells #[Value.slice A i c, Value.slice (some { block := w1.heap.size, off := 0 }) 1 1, Value.slice A2 (n - i1) (c - i1)] 22)).drew fun e w' => ∃ v', e = .returned v' ∧ w'.ownsRow w.heap.size 36 2 v' (l.take i ++ p :: l.drop i1).length (flat (l.take i ++ p :: l.drop i1)) ∧ Ext w w' := by
  have hE1 : Ext w (w1.alloc (Obj.cells #[str p.1, str p.2] 36)) := hE.alloc hE.size _
  have hE2 : Ext w ((w1.alloc (Obj.cells #[str p.1, str p.2] 36)).alloc (Obj.cells #[Value.slice A i c, Value.slice (some { block := w1.heap.size, off := 0 }) 1 1, Value.slice A2 (n - i1) (c - i1)] 22)).drew := (hE1.alloc hE1.size _).drew
  have e1 : (l.take i).length = i := List.length_take_of_le (by omega)
  have e2 : (l.drop i1).length = n - i1 := by rw [List.length_drop, ← hnl]
  refine (concat_c _ _ [l.take i, [p], l.drop i1] ⟨_, _, [Value.slice A i c, Value.slice (some { block := w1.heap.size, off := 0 }) 1 1, Value.slice A2 (n - i1) (c - i1)], rfl, (Seg.new _ [Value.slice A i c, Value.slice (some { block := w1.heap.size, off := 0 }) 1 1, Value.slice A2 (n - i1) (c - i1)] 22 (by simp)).below (below_drewN (Ext.refl _) 1), rfl, ?_⟩ (by simp) (by simp; omega)).mono ?_
  · intro j u l' hu hl'
    match j with
    | 0 =>
      simp at hu hl'
      subst hu hl'
      refine ⟨A, c, by rw [e1], by rw [flat_length], by omega, hc, ?_⟩
      rw [flat_take]
      exact (hs.below hE2).take _
    | 1 =>
      simp at hu hl'
      subst hu hl'
      have h0 : PS (w1.alloc (Obj.cells #[str p.1, str p.2] 36)) (Value.slice (some { block := w1.heap.size, off := 0 }) 1 1) [p] :=
        PS.of_own (base := 0) (e := 36) (n := 1) (own_lit (flat [p]) 1 (by decide) rfl (Nat.zero_le _))
      exact PS.below h0 (((Ext.refl _).alloc (Nat.le_refl _) _).drew)
    | 2 =>
      simp at hu hl'
      subst hu hl'
      refine ⟨A2, c - i1, by rw [e2], by rw [flat_length], by omega, by omega, ?_⟩
      rw [flat_drop]
      exact hs2.below hE2
    | j + 3 => simp at hu
  · rintro e w2 ⟨v2, rfl, hown, hb2⟩
    refine ⟨v2, rfl, ?_, Ext.trans hE2 hb2⟩
    simp only [List.flatten_cons, List.flatten_nil, List.append_nil, List.singleton_append] at hown
    exact own_up hown hE2.size

set_option maxRecDepth 100000 in
set_option maxHeartbeats 400000 in
theorem pput_c (w : World) (v : Value) (l : List Pr) (p : Pr) (h : PS w v l) (hr : Rise l) (h9 : l.length ≤ 400000000) :
    Calls Try.prog 90 #[v, .agg #[str p.1, str p.2]] w fun e w' => ∃ v', e = .returned v' ∧ w'.ownsRow w.heap.size 36 2 v' (rput l p).length (flat (rput l p)) ∧ Ext w w' := by
  have HF := Lib.hid (fun W (hW : Ext w W) => Pch.find_c W v l p.1 (h.below hW) hr (by omega))
  have hfl := fndI_le l p.1
  have H0 : Hid (_ ∧ _) := Lib.hid ⟨h, hr⟩
  obtain ⟨A, c, rfl, hl, hn, hc, hs⟩ := h
  obtain ⟨i, hi⟩ : ∃ i, i = fndI l p.1 := ⟨_, rfl⟩
  rw [← hi] at HF hfl
  obtain ⟨n, hn2⟩ : ∃ n, n = l.length := ⟨_, rfl⟩
  rw [← hn2] at h9 hn hfl HF
  have Hn : Hid (_ ∧ _ ∧ _) := Lib.hid ⟨hn2, hi, hl⟩
  have hin : hasK l p.1 = true → i < n := by
    intro hk
    rw [hi, hn2]
    rcases Nat.lt_or_ge (fndI l p.1) l.length with h | h
    · exact h
    · have := hasK_at (k := p.1) H0.out.2
      rw [List.getElem?_eq_none h, hk] at this
      cases this
  obtain ⟨A1, hrun1, hseg1⟩ := run_from Try.underlying22 infoP A hfl hn
  have b0 : (i : Int) ≤ (c : Int) := by omega
  cases hk : hasK l p.1 with
  | false =>
    rw [hk] at HF
    have HK : Hid (rput l p = l.take i ++ p :: l.drop i) := Lib.hid (by rw [rput_cut H0.out.2, ← hi, hk]; rfl)
    have HS := Lib.hid (hseg1 w (flat l) (by rw [Hn.out.2.2, ← hn2]) hs)
    rw [← hn2]
    clear hi hn2 hseg1 hin hk
    go_enter Try.func90, Try.ntmps90
    repeat' go_step
    refine (HF.out _ ((Ext.refl w).alloc (Nat.le_refl _) _)).mono ?_
    rintro e w1 ⟨rfl, hb⟩
    have hE : Ext w w1 := Ext.trans ((Ext.refl w).alloc (Nat.le_refl _) _) hb
    have hc1 : w1.cell? ⟨w.heap.size, 0, none⟩ = some (str p.1) := (hb.cell (p := ⟨w.heap.size, 0, none⟩) (by simp)).trans (by rw [World.cell?_alloc_at _ _ _ _ rfl]; rfl)
    have hc2 : w1.cell? ⟨w.heap.size, 1, none⟩ = some (str p.2) := (hb.cell (p := ⟨w.heap.size, 1, none⟩) (by simp)).trans (by rw [World.cell?_alloc_at _ _ _ _ rfl]; rfl)
    clear hb
    go_simp
    repeat' go_step
    have HC := Lib.hid (join_c w w1 A A1 n c i i l p hE hc hn hfl hfl Hn.out.1 h9 hs HS.out)
    go_region_with ((go_at_call 139; refine HC.out.mono ?_; rintro e w2 ⟨v2, rfl, hown, hb2⟩))
    repeat' go_step
    go_ret
    refine ⟨_, rfl, ?_, hb2⟩
    rw [HK.out]
    exact hown
  | true =>
    have hin := hin hk
    rw [hk] at HF
    obtain ⟨i1, hi1⟩ : ∃ i1, i1 = i + 1 := ⟨_, rfl⟩
    have hi1n : i1 ≤ n := by omega
    have HK : Hid (rput l p = l.take i ++ p :: l.drop i1) := Lib.hid (by rw [rput_cut H0.out.2, ← hi, hk, hi1]; rfl)
    obtain ⟨A2, hrun2, hseg2⟩ := run_from Try.underlying22 infoP A hi1n hn
    have HS := Lib.hid (hseg2 w (flat l) (by rw [Hn.out.2.2, ← hn2]) hs)
    have hs1 : (i : Int) + 1 = (i1 : Int) := by omega
    rw [← hn2]
    clear hi hn2 hseg1 hseg2 hk hi1
    go_enter Try.func90, Try.ntmps90
    repeat' go_step
    refine (HF.out _ ((Ext.refl w).alloc (Nat.le_refl _) _)).mono ?_
    rintro e w1 ⟨rfl, hb⟩
    have hE : Ext w w1 := Ext.trans ((Ext.refl w).alloc (Nat.le_refl _) _) hb
    have hc1 : w1.cell? ⟨w.heap.size, 0, none⟩ = some (str p.1) := (hb.cell (p := ⟨w.heap.size, 0, none⟩) (by simp)).trans (by rw [World.cell?_alloc_at _ _ _ _ rfl]; rfl)
    have hc2 : w1.cell? ⟨w.heap.size, 1, none⟩ = some (str p.2) := (hb.cell (p := ⟨w.heap.size, 1, none⟩) (by simp)).trans (by rw [World.cell?_alloc_at _ _ _ _ rfl]; rfl)
    clear hb
    go_simp
    repeat' go_step
    have HC := Lib.hid (join_c w w1 A A2 n c i i1 l p hE hc hn hfl hi1n Hn.out.1 h9 hs HS.out)
    go_region_with ((go_at_call 139; refine HC.out.mono ?_; rintro e w2 ⟨v2, rfl, hown, hb2⟩))
    repeat' go_step
    go_ret
    refine ⟨_, rfl, ?_, hb2⟩
    rw [HK.out]
    exact hown
end Go.Proofs.Ytclcgelbcbnekaa
