/- Texts joined. -/
import Derived.Test.YtbmakajadelckaaM08
import Derived.Deep.RegionWith
set_option linter.unusedVariables false
set_option linter.unusedSimpArgs false
/- Contracts: a node's pairs, kids; a chunk's pair, kid; how many. -/
namespace Go.Proofs.Ytbmakajadelckaa
open Go.RowKit Go.QS Go.QS.Nk
set_option linter.unusedVariables false

set_option maxRecDepth 100000 in
theorem pclone_c (w : World) (v : Value) (l : List Pr) (h : PS w v l) (h9 : l.length ≤ 1000000000) :
    Calls Try.prog 73 #[v] w fun e w' => ∃ v', e = .returned v' ∧ w'.ownsRow w.heap.size NP 2 v' l.length (flat l) ∧ Ext w w' := by
  obtain ⟨A, c, rfl, hl, hn, hc, hs⟩ := h
  have hnil := fun w : World => Lib.run_eql_slice_nil (P := Try.prog) w 27 40 A l.length c 0 0 Try.underlying27
  cases A with
  | none =>
    have hl0 : l = [] := by
      cases l with
      | nil => rfl
      | cons p l => obtain ⟨b, o, h, _⟩ := hs (by simp [flat_cons]); cases h
    subst hl0
    have hnil := fun w : World => Lib.run_eql_slice_nil (P := Try.prog) w 27 40 none 0 c 0 0 Try.underlying27
    go_enter Try.func73, Try.ntmps73
    repeat' go_step
    go_ret
    exact ⟨_, rfl, World.ownsRow_nil _ _ _ _, Ext.refl _⟩
  | some a =>
    go_enter Try.func73, Try.ntmps73
    repeat' (first | (at_builtin; refine wpList_appE (W := w) rfl (.tmp 5) (.tmp 6) _ rfl 40 2 32 Try.underlying27 infoNP (by decide) _ 0 [] rfl (own_lit [] 0 (by decide) rfl (Nat.le_refl _)) ((Ext.refl w).alloc (Nat.le_refl _) _) _ _ c (flat l) rfl hl (hs.alloc _) (flat_one _) (by unfold maxLen; omega) (by omega) ?_; intro v1 w1 hown hb) | go_step)
    go_ret
    refine ⟨_, rfl, ?_, hb⟩
    simpa using hown
set_option maxRecDepth 100000 in
theorem kclone_c (w : World) (v : Value) (l : List Nat) (h : Sl w 1 v l.length (ptrs l)) (h9 : l.length ≤ 1000000000) :
    Calls Try.prog 98 #[v] w fun e w' => ∃ v', e = .returned v' ∧ w'.ownsRow w.heap.size NK 1 v' l.length (ptrs l) ∧ Ext w w' := by
  obtain ⟨A, c, rfl, hl, hn, hc, hs⟩ := h
  have hnil := fun w : World => Lib.run_eql_slice_nil (P := Try.prog) w 102 30 A l.length c 0 0 Try.underlying102
  cases A with
  | none =>
    have hl0 : l = [] := by
      cases l with
      | nil => rfl
      | cons p l => obtain ⟨b, o, h, _⟩ := hs (by simp [ptrs]); cases h
    subst hl0
    have hnil := fun w : World => Lib.run_eql_slice_nil (P := Try.prog) w 102 30 none 0 c 0 0 Try.underlying102
    go_enter Try.func98, Try.ntmps98
    repeat' go_step
    go_ret
    exact ⟨_, rfl, World.ownsRow_nil _ _ _ _, Ext.refl _⟩
  | some a =>
    go_enter Try.func98, Try.ntmps98
    repeat' (first | (at_builtin; refine wpList_appE (W := w) rfl (.tmp 5) (.tmp 6) _ rfl 30 1 8 Try.underlying102 infoNK (by decide) _ 0 [] rfl (own_lit [] 0 (by decide) rfl (Nat.le_refl _)) ((Ext.refl w).alloc (Nat.le_refl _) _) _ _ c (ptrs l) rfl hl (hs.alloc _) (ptrs_one _) (by unfold maxLen; omega) (by omega) ?_; intro v1 w1 hown hb) | go_step)
    go_ret
    refine ⟨_, rfl, ?_, hb⟩
    simpa using hown

theorem npairs_c (w : World) (g : Nat) (pv : Value) (l : List Pr) (hg : w.cell? ⟨g, 2, none⟩ = some pv) (h : PS w pv l) (h9 : l.length ≤ 1000000000) : Calls Try.prog 43 #[ptr g] w fun e w' => ∃ v', e = .returned v' ∧ w'.ownsRow w.heap.size NP 2 v' l.length (flat l) ∧ Ext w w' := by
  have HC := Lib.hid (pclone_c w pv l h h9)
  clear h
  go_enter Try.func43, Try.ntmps43
  repeat' (first | (go_at_call 73; refine HC.out.mono ?_; rintro e w1 ⟨v1, rfl, h1, h2⟩; go_simp) | go_skip | go_guarded | go_step)
  go_ret
  exact ⟨_, rfl, h1, h2⟩
theorem nkids_c (w : World) (g : Nat) (kv : Value) (l : List Nat) (hg : w.cell? ⟨g, 3, none⟩ = some kv) (h : Sl w 1 kv l.length (ptrs l)) (h9 : l.length ≤ 1000000000) : Calls Try.prog 64 #[ptr g] w fun e w' => ∃ v', e = .returned v' ∧ w'.ownsRow w.heap.size NK 1 v' l.length (ptrs l) ∧ Ext w w' := by
  have HC := Lib.hid (kclone_c w kv l h h9)
  clear h
  go_enter Try.func64, Try.ntmps64
  repeat' (first | (go_at_call 98; refine HC.out.mono ?_; rintro e w1 ⟨v1, rfl, h1, h2⟩; go_simp) | go_skip | go_guarded | go_step)
  go_ret
  exact ⟨_, rfl, h1, h2⟩
theorem nlen_c (w : World) (g n m c1 c2 : Nat) (A1 A2 : Option Addr) (h1 : w.cell? ⟨g, 2, none⟩ = some (.slice A1 n c1)) (h2 : w.cell? ⟨g, 3, none⟩ = some (.slice A2 m c2)) (h9 : n + m ≤ 1000000000) : Calls Try.prog 37 #[ptr g] w fun e w' => e = .returned (.int .i64 ((n + m : Nat) : Int)) ∧ Ext w w' := by
  go_enter Try.func37, Try.ntmps37
  repeat' (first | go_skip | go_guarded | go_step)
  have hs1 : IntKind.i64.wrap ((n : Int) + (m : Int)) = (n : Int) + (m : Int) := IntWalk.i64_in _ (by omega)
  go_quiet (fail)
  repeat' (first | go_skip | go_guarded | go_step)
  go_ret
  exact ⟨by rw [Int.natCast_add]; rfl, below_drewN (Ext.refl _) _⟩

/-- What a chunk's pair, or kid, is told as. -/
def pairV : Slot Nat → Value
  | .pr p => .tuple #[.agg #[str p.1, str p.2], .bool true]
  | _ => .tuple #[.agg #[str [], str []], .bool false]
def kidV : Slot Nat → Value
  | .kid k => .tuple #[ptr k, .bool true]
  | _ => .tuple #[.pointer none, .bool false]

theorem in_sizes {T : TypeId} {w : World} {g : Nat} {sl : List (Slot Nat)} (h : In T w g sl) : dataOf sl < 4294967296 ∧ nodesOf sl < 4294967296 := ⟨bits32 _ h.1, bits32 _ h.1⟩

/-- The box of a pair that is handed back, made first. -/
theorem box_first (w : World) : ∃ wa rb, w.alloc (.cells #[.string ⟨#[]⟩, .string ⟨#[]⟩] NP) = wa ∧ rb = w.heap.size ∧ wa.heap[rb]? = some (.cells #[.string ⟨#[]⟩, .string ⟨#[]⟩] NP (0, 0)) ∧ Ext w wa ∧ w.heap.size ≤ rb :=
  ⟨_, _, rfl, rfl, heap_new w _, (Ext.refl w).alloc (Nat.le_refl _) _, Nat.le_refl _⟩
theorem box_facts {w : World} {g : Nat} {a b : Value} {t : TypeId} (h : w.heap[g]? = some (.cells #[a, b] t (0, 0))) : w.cell? ⟨g, 0, none⟩ = some a ∧ w.cell? ⟨g, 1, none⟩ = some b ∧ (∀ j, w.frozen? ⟨g, j, none⟩ = false) :=
  ⟨by simp [World.cell?, h], by simp [World.cell?, h], fun j => by simp [World.frozen?, h]⟩
/-- What is known of a node's pairs, at a chunk that has one. -/
theorem pair_facts {w : World} {g i : Nat} {sl : List (Slot Nat)} {p : Pr} (h : In ND w g sl) (hs : sl[i]? = some (.pr p)) : ∃ d b o n c r, d < 4294967296 ∧ i < 32 ∧ n ≤ 32 ∧ r < n ∧ n ≤ c ∧ Hid (d.testBit i = true ∧ rnk d i = r) ∧
    Hid (w.cell? ⟨g, 0, none⟩ = some (.int .u32 d) ∧ w.cell? ⟨g, 2, none⟩ = some (.slice (some ⟨b, o, none⟩) n c) ∧ w.cell? ⟨b, o + r * 2, none⟩ = some (str p.1) ∧ w.cell? ⟨b, o + r * 2 + 1, none⟩ = some (str p.2)) := by
  have hi : i < 32 := by have := get_lt hs; rw [h.1] at this; exact this
  have hd9 := (in_sizes h).1
  have hbit := bit_at Slot.isP hs
  have hrk := rk_data (sl := sl) (by rw [h.1]; decide) i
  obtain ⟨h32, ow, pv, kv, nd⟩ := h
  obtain ⟨PA, pc, rfl, hpl, hpn, hpc, hps⟩ := nd.pairs
  have hat := prs_at hs
  obtain ⟨b, o, rfl, k0, k1⟩ := seg_pair hps hat
  have hp32 := prsOf_len sl
  rw [h32] at hp32
  exact ⟨_, b, o, _, pc, rkP sl i, hd9, hi, hp32, (List.getElem?_eq_some_iff.1 hat).1, hpn, Lib.hid ⟨hbit, hrk⟩, Lib.hid ⟨nd.node.cells.1, nd.node.cells.2.2.1, k0, k1⟩⟩
theorem keep4c {w w' : World} {a1 a2 a3 a4 : Addr} {u1 u2 u3 u4 : Value} (f : Ext w w') (h : w.cell? a1 = some u1 ∧ w.cell? a2 = some u2 ∧ w.cell? a3 = some u3 ∧ w.cell? a4 = some u4) : w'.cell? a1 = some u1 ∧ w'.cell? a2 = some u2 ∧ w'.cell? a3 = some u3 ∧ w'.cell? a4 = some u4 :=
  ⟨(f.cell (World.block_lt_of_cell? w _ h.1)).trans h.1, (f.cell (World.block_lt_of_cell? w _ h.2.1)).trans h.2.1, (f.cell (World.block_lt_of_cell? w _ h.2.2.1)).trans h.2.2.1, (f.cell (World.block_lt_of_cell? w _ h.2.2.2)).trans h.2.2.2⟩
theorem box_ext' {w w' : World} {g : Nat} {o : Obj} (h : w.heap[g]? = some o) (f : Ext w w') : w'.heap[g]? = some o := (f.block g (heap_lt h)).trans h

set_option maxRecDepth 100000 in
set_option maxHeartbeats 1000000 in
theorem pair_yes (w : World) (g i : Nat) (sl : List (Slot Nat)) (p : Pr) (h : In ND w g sl) (hs : sl[i]? = some (.pr p)) : Calls Try.prog 84 #[ptr g, .int .i64 i] w fun e w' => e = .returned (.tuple #[.agg #[str p.1, str p.2], .bool true]) ∧ Ext w w' := by
  obtain ⟨d, b, o, n, pc, r, hd9, hi, hn9, hrn, hnc, HB, HK0⟩ := pair_facts h hs
  clear h hs
  obtain ⟨wa, rb, hwa, hrb, hba, hEa, hle⟩ := box_first w
  have HW := Lib.hid (And.intro hwa hrb)
  have HA := Lib.hid (And.intro hba (And.intro hEa hle))
  have HK := Lib.hid (keep4c hEa HK0.out)
  have HK1 := Lib.hid HK0.out
  have hri : (r : Int) < (n : Int) := by omega
  clear hwa hrb hba hEa hle HK0
  go_enter Try.func84, Try.ntmps84
  repeat' (first | go_at_call 39 | go_skip | go_guarded | go_step)
  rw [HW.out.1, ← HW.out.2]
  refine (data_c wa g d HK.out.1).mono ?_
  rintro e w1 ⟨rfl, rfl⟩
  go_simp
  repeat' (first | go_at_call 77 | go_skip | go_guarded | go_step)
  refine (has_c wa d i hd9 hi).mono ?_
  rintro e w1 ⟨rfl, rfl⟩
  rw [HB.out.1]
  obtain ⟨hc0, hc1, hfr⟩ := box_facts HA.out.1
  obtain ⟨q0, q1, q2, q3⟩ := HK.out
  go_simp
  repeat' (go_not_at_region 3; (first | go_skip | go_guarded | go_step))
  have hr0 : (0 : Int) ≤ (r : Int) := by omega
  go_region_held3 (fun w' => w'.cell? ⟨g, 0, none⟩ = some (.int .u32 d) ∧ w'.cell? ⟨g, 2, none⟩ = some (.slice (some ⟨b, o, none⟩) n pc) ∧ w'.cell? ⟨b, o + r * 2, none⟩ = some (str p.1) ∧ w'.cell? ⟨b, o + r * 2 + 1, none⟩ = some (str p.2))
    (first | exact keep4c (((HA.out.2.1.trans k1.out).setCell HA.out.2.2 _).setCell HA.out.2.2 _) HK1.out | exact keep4c k1.out HK.out | exact keep4c (below_drewN (Ext.refl _) 1) HK.out)
    ((go_at_call 58; refine (rank_c _ d i hd9 hi).mono ?_; rintro e x1 ⟨rfl, f1⟩; rw [HB.out.2]; have k1 : Hid (Ext wa x1) := Lib.hid (Ext.trans (below_drewN (Ext.refl _) 1) f1); have k2 := Lib.hid (box_ext' HA.out.1 k1.out); obtain ⟨hd0, hd1, hdf⟩ := box_facts k2.out; clear f1))
  repeat' (first | go_skip | go_guarded | go_step)
  (try simp only [Exit.inBlock, Exit.then])
  refine bodyPost_ret_by (results_ct rfl _ _ _ _ _ _ _ rfl (heap_set (heap_set k2.out 0 _) 1 _) Try.underlying40 rfl (by kernel_rfl)) rfl ?_
  exact ⟨rfl, ((HA.out.2.1.trans k1.out).setCell HA.out.2.2 _).setCell HA.out.2.2 _⟩
end Go.Proofs.Ytbmakajadelckaa
/- Contracts: with a pair, and without one. -/
namespace Go.Proofs.Ytbmakajadelckaa
open Go.RowKit Go.QS
set_option linter.unusedVariables false

theorem run_from {P : Program} {t e : TypeId} {size : Nat} (ht : P.underlying t = some (.slice e)) (hi : ∃ i z, P.info? e = some i ∧ i.zero = some z ∧ i.size = size ∧ i.bytes = 32 ∧ z.cells.size = size) (A : Option Addr) {n c i : Nat} (hin : i ≤ n) (hnc : n ≤ c) :
    ∃ A2, (∀ w, (Instr.slice t (.slice A n c) (some (.int .i64 (i : Int))) none none).run P w = .ok (.slice A2 (n - i) (c - i)) w) ∧
      ∀ (w : World) (xs : List Value), xs.length = n * size → Seg w A xs → Seg w A2 (xs.drop (i * size)) := by
  obtain ⟨inf, z, hi, hz, hs, hb, hzs⟩ := hi
  refine ⟨if c = i then A else A.map (·.add (i * size)), fun w => ?_, fun w xs hl hs => ?_⟩
  · have h1 : (0 : Int) ≤ (i : Int) := by omega
    have h2 : (i : Int) ≤ (n : Int) := by omega
    simp [Instr.slice, Instr.sliceBounds, Instr.sliceBound, asIntOf, run_underlying ht, sizeOf, typeInfo, hi, hs, hin]
  · by_cases h : c = i
    · have : xs.drop (i * size) = [] := List.drop_eq_nil_of_le (by rw [hl]; exact Nat.mul_le_mul_right _ (by omega))
      rw [this]; exact Seg.nil _ _
    · rw [if_neg h]
      intro hne
      obtain ⟨b, o, hA, hc⟩ := hs (fun e => hne (by simp [e]))
      subst hA
      have := Seg.drop (w := w) (b := b) (o := o) hs (i * size)
      obtain ⟨b', o', hA', hc'⟩ := this hne
      cases hA'
      exact ⟨b, o + i * size, by simp [Addr.add_lit], hc'⟩

theorem own_up {w : World} {base base' : Nat} {e : TypeId} {k n : Nat} {v : Value} {xs : List Value} (h : w.ownsRow base' e k v n xs) (hb : base ≤ base') : w.ownsRow base e k v n xs := by
  refine ⟨h.1, ?_⟩
  rcases h.2 with h | ⟨g, cap, cur, h1, h2, h3⟩
  · exact .inl h
  · exact .inr ⟨g, cap, cur, h1, Nat.le_trans hb h2, h3⟩

set_option maxRecDepth 100000 in
set_option maxHeartbeats 400000 in
theorem pdrop_c (w : World) (v : Value) (l : List Pr) (key : List UInt8) (h : PS w v l) (hr : Rise l) (h9 : l.length ≤ 400000000) :
    Calls Try.prog 120 #[v, str key] w fun e w' => ∃ v', e = .returned v' ∧ w'.ownsRow w.heap.size 40 2 v' (rdrop l key).length (flat (rdrop l key)) ∧ Ext w w' := by
  have HF := Lib.hid (Pch.find_c w v l key h hr (by omega))
  have hfl := fndI_le l key
  have H0 : Hid (_ ∧ _) := Lib.hid ⟨h, hr⟩
  obtain ⟨A, c, rfl, hl, hn, hc, hs⟩ := h
  obtain ⟨i, hi⟩ : ∃ i, i = fndI l key := ⟨_, rfl⟩
  rw [← hi] at HF hfl
  obtain ⟨n, hn2⟩ : ∃ n, n = l.length := ⟨_, rfl⟩
  rw [← hn2] at h9 hn hfl HF
  have Hn : Hid (_ ∧ _ ∧ _) := Lib.hid ⟨hn2, hi, hl⟩
  clear hl hr
  cases hk : hasK l key with
  | false =>
    rw [hk] at HF
    have HK := Lib.hid (rdrop_self hk)
    rw [← hn2]
    clear hk hi hn2
    go_enter Try.func120, Try.ntmps120
    repeat' go_step
    refine HF.out.mono ?_
    rintro e w1 ⟨rfl, hb⟩
    go_simp
    repeat' go_step
    refine (pclone_c w1 _ l (by rw [Hn.out.1]; exact H0.out.1.below hb) (by have := Hn.out.1; omega)).mono ?_
    rintro e w2 ⟨v2, rfl, hown, hb2⟩
    go_simp
    repeat' go_step
    go_ret
    refine ⟨_, rfl, ?_, Ext.trans hb hb2⟩
    rw [HK.out]
    exact own_up hown hb.size
  | true =>
    rw [hk] at HF
    have hin : i < n := by
      rw [hi, hn2]
      rcases Nat.lt_or_ge (fndI l key) l.length with h | h
      · exact h
      · have := hasK_at (k := key) H0.out.2
        rw [List.getElem?_eq_none h, hk] at this
        cases this
    obtain ⟨i1, hi1⟩ : ∃ i1, i1 = i + 1 := ⟨_, rfl⟩
    have HK := Lib.hid (rdrop_cut H0.out.2 hk)
    obtain ⟨A2, hrun, hseg⟩ := run_from Try.underlying27 infoP A (show i1 ≤ n by omega) hn
    have HS := Lib.hid (hseg w (flat l) (by rw [Hn.out.2.2, ← hn2]) hs)
    have hs1 : IntKind.i64.wrap ((i : Int) + 1) = (i1 : Int) := by rw [show (i : Int) + 1 = (i1 : Int) by omega]; exact IntWalk.i64_in _ (by omega)
    have HI := Lib.hid hi1
    have b0 : (i : Int) ≤ (c : Int) := by omega
    rw [← hn2]
    clear hk hi hn2 hseg hi1
    go_enter Try.func120, Try.ntmps120
    repeat' go_step
    refine HF.out.mono ?_
    rintro e w1 ⟨rfl, hb⟩
    go_simp
    repeat' go_step
    go_still_tail 7, (by kernel_rfl)
    change wpList _ _ _ _ _ w1.drew
    repeat' (first | go_skip | go_guarded | go_step)
    have hE1 : Ext w (w1.alloc (.cells #[Value.slice A i c, Value.slice A2 (n - i1) (c - i1)] 27)).drew := (hb.alloc hb.size _).drew
    refine (concat_c _ _ [l.take i, l.drop i1] ⟨_, _, [Value.slice A i c, Value.slice A2 (n - i1) (c - i1)], rfl, (Seg.new w1 [Value.slice A i c, Value.slice A2 (n - i1) (c - i1)] 27 rfl).below (below_drewN (Ext.refl _) 1), rfl, ?_⟩ (by simp) (by
      have := Hn.out.1
      simp; omega)).mono ?_
    · intro j u l' hu hl'
      match j with
      | 0 =>
        simp at hu hl'
        subst hu hl'
        have e : (l.take i).length = i := List.length_take_of_le (by have := Hn.out.1; omega)
        refine ⟨A, c, by rw [e], by rw [flat_length], by omega, hc, ?_⟩
        rw [flat_take]
        exact (hs.below hE1).take _
      | 1 =>
        simp at hu hl'
        subst hu hl'
        have e : (l.drop i1).length = n - i1 := by rw [List.length_drop, ← Hn.out.1]
        refine ⟨A2, c - i1, by rw [e], by rw [flat_length], by omega, by omega, ?_⟩
        rw [flat_drop]
        exact HS.out.below hE1
      | j + 2 => simp at hu
    · rintro e w2 ⟨v2, rfl, hown, hb2⟩
      have HO := Lib.hid hown
      clear hown
      go_simp
      repeat' go_step
      go_ret
      refine ⟨_, rfl, ?_, Ext.trans hE1 hb2⟩
      rw [HK.out, ← Hn.out.2.1, ← HI.out]
      have := HO.out
      simp only [List.flatten_cons, List.flatten_nil, List.append_nil] at this
      exact own_up this hE1.size

/-- The three parts that Put joins. -/
theorem join_c (w w1 : World) (A A2 : Option Addr) (n c i i1 : Nat) (l : List Pr) (p : Pr) (hE : Ext w w1) (hc : c ≤ maxLen) (hn : n ≤ c) (hin : i ≤ n) (hi1 : i1 ≤ n) (hnl : n = l.length) (h9 : n ≤ 400000000) (hs : Seg w A (flat l)) (hs2 : Seg w A2 ((flat l).drop (i1 * 2))) :
    Calls Try.prog 128 #[Value.slice (some { block := w1.heap.size + 1, off := 0 }) 3 3] ((w1.alloc (Obj.cells #[str p.1, str p.2] 40)).alloc (Obj.cells #[Value.slice A i c, Value.slice (some { block := w1.heap.size, off := 0 }) 1 1, Value.slice A2 (n - i1) (c - i1)] 27)).drew fun e w' => ∃ v', e = .returned v' ∧ w'.ownsRow w.heap.size 40 2 v' (l.take i ++ p :: l.drop i1).length (flat (l.take i ++ p :: l.drop i1)) ∧ Ext w w' := by
  have hE1 : Ext w (w1.alloc (Obj.cells #[str p.1, str p.2] 40)) := hE.alloc hE.size _
  have hE2 : Ext w ((w1.alloc (Obj.cells #[str p.1, str p.2] 40)).alloc (Obj.cells #[Value.slice A i c, Value.slice (some { block := w1.heap.size, off := 0 }) 1 1, Value.slice A2 (n - i1) (c - i1)] 27)).drew := (hE1.alloc hE1.size _).drew
  have e1 : (l.take i).length = i := List.length_take_of_le (by omega)
  have e2 : (l.drop i1).length = n - i1 := by rw [List.length_drop, ← hnl]
  refine (concat_c _ _ [l.take i, [p], l.drop i1] ⟨_, _, [Value.slice A i c, Value.slice (some { block := w1.heap.size, off := 0 }) 1 1, Value.slice A2 (n - i1) (c - i1)], rfl, (Seg.new _ [Value.slice A i c, Value.slice (some { block := w1.heap.size, off := 0 }) 1 1, Value.slice A2 (n - i1) (c - i1)] 27 (by simp)).below (below_drewN (Ext.refl _) 1), rfl, ?_⟩ (by simp) (by simp; omega)).mono ?_
  · intro j u l' hu hl'
    match j with
    | 0 =>
      simp at hu hl'
      subst hu hl'
      refine ⟨A, c, by rw [e1], by rw [flat_length], by omega, hc, ?_⟩
      rw [flat_take]
      exact (hs.below hE2).take _
    | 1 =>
      simp at hu hl'
      subst hu hl'
      have h0 : PS (w1.alloc (Obj.cells #[str p.1, str p.2] 40)) (Value.slice (some { block := w1.heap.size, off := 0 }) 1 1) [p] :=
        PS.of_own (base := 0) (e := 40) (n := 1) (own_lit (flat [p]) 1 (by decide) rfl (Nat.zero_le _))
      exact PS.below h0 (((Ext.refl _).alloc (Nat.le_refl _) _).drew)
    | 2 =>
      simp at hu hl'
      subst hu hl'
      refine ⟨A2, c - i1, by rw [e2], by rw [flat_length], by omega, by omega, ?_⟩
      rw [flat_drop]
      exact hs2.below hE2
    | j + 3 => simp at hu
  · rintro e w2 ⟨v2, rfl, hown, hb2⟩
    refine ⟨v2, rfl, ?_, Ext.trans hE2 hb2⟩
    simp only [List.flatten_cons, List.flatten_nil, List.append_nil, List.singleton_append] at hown
    exact own_up hown hE2.size

set_option maxRecDepth 100000 in
set_option maxHeartbeats 400000 in
theorem pput_c (w : World) (v : Value) (l : List Pr) (p : Pr) (h : PS w v l) (hr : Rise l) (h9 : l.length ≤ 400000000) :
    Calls Try.prog 111 #[v, .agg #[str p.1, str p.2]] w fun e w' => ∃ v', e = .returned v' ∧ w'.ownsRow w.heap.size 40 2 v' (rput l p).length (flat (rput l p)) ∧ Ext w w' := by
  have HF := Lib.hid (fun W (hW : Ext w W) => Pch.find_c W v l p.1 (h.below hW) hr (by omega))
  have hfl := fndI_le l p.1
  have H0 : Hid (_ ∧ _) := Lib.hid ⟨h, hr⟩
  obtain ⟨A, c, rfl, hl, hn, hc, hs⟩ := h
  obtain ⟨i, hi⟩ : ∃ i, i = fndI l p.1 := ⟨_, rfl⟩
  rw [← hi] at HF hfl
  obtain ⟨n, hn2⟩ : ∃ n, n = l.length := ⟨_, rfl⟩
  rw [← hn2] at h9 hn hfl HF
  have Hn : Hid (_ ∧ _ ∧ _) := Lib.hid ⟨hn2, hi, hl⟩
  have hin : hasK l p.1 = true → i < n := by
    intro hk
    rw [hi, hn2]
    rcases Nat.lt_or_ge (fndI l p.1) l.length with h | h
    · exact h
    · have := hasK_at (k := p.1) H0.out.2
      rw [List.getElem?_eq_none h, hk] at this
      cases this
  obtain ⟨A1, hrun1, hseg1⟩ := run_from Try.underlying27 infoP A hfl hn
  have b0 : (i : Int) ≤ (c : Int) := by omega
  cases hk : hasK l p.1 with
  | false =>
    rw [hk] at HF
    have HK : Hid (rput l p = l.take i ++ p :: l.drop i) := Lib.hid (by rw [rput_cut H0.out.2, ← hi, hk]; rfl)
    have HS := Lib.hid (hseg1 w (flat l) (by rw [Hn.out.2.2, ← hn2]) hs)
    rw [← hn2]
    clear hi hn2 hseg1 hin hk
    go_enter Try.func111, Try.ntmps111
    repeat' go_step
    refine (HF.out _ ((Ext.refl w).alloc (Nat.le_refl _) _)).mono ?_
    rintro e w1 ⟨rfl, hb⟩
    have hE : Ext w w1 := Ext.trans ((Ext.refl w).alloc (Nat.le_refl _) _) hb
    have hc1 : w1.cell? ⟨w.heap.size, 0, none⟩ = some (str p.1) := (hb.cell (p := ⟨w.heap.size, 0, none⟩) (by simp)).trans (by rw [World.cell?_alloc_at _ _ _ _ rfl]; rfl)
    have hc2 : w1.cell? ⟨w.heap.size, 1, none⟩ = some (str p.2) := (hb.cell (p := ⟨w.heap.size, 1, none⟩) (by simp)).trans (by rw [World.cell?_alloc_at _ _ _ _ rfl]; rfl)
    clear hb
    go_simp
    repeat' go_step
    have HC := Lib.hid (join_c w w1 A A1 n c i i l p hE hc hn hfl hfl Hn.out.1 h9 hs HS.out)
    go_region_with ((go_at_call 128; refine HC.out.mono ?_; rintro e w2 ⟨v2, rfl, hown, hb2⟩))
    repeat' go_step
    go_ret
    refine ⟨_, rfl, ?_, hb2⟩
    rw [HK.out]
    exact hown
  | true =>
    have hin := hin hk
    rw [hk] at HF
    obtain ⟨i1, hi1⟩ : ∃ i1, i1 = i + 1 := ⟨_, rfl⟩
    have hi1n : i1 ≤ n := by omega
    have HK : Hid (rput l p = l.take i ++ p :: l.drop i1) := Lib.hid (by rw [rput_cut H0.out.2, ← hi, hk, hi1]; rfl)
    obtain ⟨A2, hrun2, hseg2⟩ := run_from Try.underlying27 infoP A hi1n hn
    have HS := Lib.hid (hseg2 w (flat l) (by rw [Hn.out.2.2, ← hn2]) hs)
    have hs1 : (i : Int) + 1 = (i1 : Int) := by omega
    rw [← hn2]
    clear hi hn2 hseg1 hseg2 hk hi1
    go_enter Try.func111, Try.ntmps111
    repeat' go_step
    refine (HF.out _ ((Ext.refl w).alloc (Nat.le_refl _) _)).mono ?_
    rintro e w1 ⟨rfl, hb⟩
    have hE : Ext w w1 := Ext.trans ((Ext.refl w).alloc (Nat.le_refl _) _) hb
    have hc1 : w1.cell? ⟨w.heap.size, 0, none⟩ = some (str p.1) := (hb.cell (p := ⟨w.heap.size, 0, none⟩) (by simp)).trans (by rw [World.cell?_alloc_at _ _ _ _ rfl]; rfl)
    have hc2 : w1.cell? ⟨w.heap.size, 1, none⟩ = some (str p.2) := (hb.cell (p := ⟨w.heap.size, 1, none⟩) (by simp)).trans (by rw [World.cell?_alloc_at _ _ _ _ rfl]; rfl)
    clear hb
    go_simp
    repeat' go_step
    have HC := Lib.hid (join_c w w1 A A2 n c i i1 l p hE hc hn hfl hi1n Hn.out.1 h9 hs HS.out)
    go_region_with ((go_at_call 128; refine HC.out.mono ?_; rintro e w2 ⟨v2, rfl, hown, hb2⟩))
    repeat' go_step
    go_ret
    refine ⟨_, rfl, ?_, hb2⟩
    rw [HK.out]
    exact hown
end Go.Proofs.Ytbmakajadelckaa
