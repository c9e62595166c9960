/- Texts joined. -/
import Derived.Test.YtigoffdehdobiaaGreatM15
import Derived.Deep.LoopGhost
import Derived.Test.YtigoffdehdobiaaGreatM07
import Derived.Test.YtigoffdehdobiaaGreatM08
import Derived.Deep.RegionHeld3
set_option linter.unusedVariables false
set_option linter.unusedSimpArgs false
/- Contract: radix.Make, of kids none of which is nil. -/
namespace Go.Proofs.YtigoffdehdobiaaGreat
open Go.RowKit Go.QS
set_option linter.unusedVariables false

set_option maxRecDepth 100000 in
set_option maxHeartbeats 2000000 in
theorem make2_c (w : World) (lab val : List UInt8) (has : Bool) (vk : Value) (ps : List Nat) (ks : List RT) (hk : Sl w 1 vk ps.length (ptrs ps)) (hr : Reps NT w ps ks) (hp9 : ps.length ≤ 1000) :
    Calls Tryz.prog 60 #[str lab, .bool has, str val, vk] w fun e w' => ∃ g, e = .returned (ptr g) ∧ Rep NT w' g (RT.node lab (if has then some val else none) ks) ∧ Ext w w' := by
  obtain ⟨A, C, rfl, _, hn, hC, hs⟩ := hk
  obtain ⟨n, hn2⟩ : ∃ n, n = ps.length := ⟨_, rfl⟩
  have hn9 : n ≤ 1000 := by omega
  rw [← hn2] at hn ⊢
  have HN : Hid (n = ps.length ∧ Seg w A (ptrs ps) ∧ Reps NT w ps ks) := Lib.hid ⟨hn2, hs, hr⟩
  clear hn2 hs hr
  obtain ⟨val', hval⟩ : ∃ v, v = (if has then some val else none) := ⟨_, rfl⟩
  have HV : Hid ((if has then some val else none) = val' ∧ has = val'.isSome ∧ (has = true → val = val'.getD [])) := Lib.hid (by cases has <;> simp [hval])
  clear hval
  go_enter Tryz.func60, Tryz.ntmps60
  repeat' (go_not_at_if 16; (first | go_skip | go_guarded | go_step))
  obtain ⟨wa, hwa⟩ : ∃ x, x = w.alloc (.cells #[str lab, .bool has, str [], .slice none 0 0, .pointer none] NT) := ⟨_, rfl⟩
  obtain ⟨g, hg⟩ : ∃ g, g = w.heap.size := ⟨_, rfl⟩
  have hnd : NodeAt NT wa g lab (if has then some [] else none) (.slice none 0 0) none := by
    have := NodeAt.new (lab := lab) (val := if has then some [] else none) (kv := .slice none 0 0) (ow := none) NT w hg
    rw [hwa]
    cases has <;> exact this
  have hE0 : Ext w wa := by rw [hwa]; exact (Ext.refl _).alloc (Nat.le_refl _) _
  have hwa' : w.alloc (.cells #[Value.string (bs lab), .bool has, .string ⟨#[]⟩, .slice none 0 0, .pointer none] NT) = wa := hwa.symm
  rw [hwa', ← hg]
  have H0 : Hid (NodeAt NT wa g lab (if has then some [] else none) (.slice none 0 0) none ∧ Ext w wa ∧ w.heap.size ≤ g) := Lib.hid ⟨hnd, hE0, by omega⟩
  clear hwa hwa' hg hnd hE0
  go_cut [9] (fun vx wx => Hid (vx = ptr g ∧ NodeAt NT wx g lab val' (.slice none 0 0) none ∧ Ext w wx))
  case first =>
    obtain ⟨h0, h1, h2⟩ := H0.out
    cases has with
    | false =>
      have hv := Lib.hid (show val' = none from HV.out.1.symm)
      repeat' (first | go_skip | go_guarded | go_step)
      go_meet
      exact Lib.hid ⟨rfl, by rw [hv.out]; exact h0, h1⟩
    | true =>
      have hv := Lib.hid (show val' = some val from HV.out.1.symm)
      have h0' : NodeAt NT wa g lab (some []) (.slice none 0 0) none := h0
      obtain ⟨c0, c1, c2, c3, c4⟩ := h0'.cells
      have cf := h0'.free 2
      clear h0
      repeat' (first | go_skip | go_guarded | go_step)
      go_meet
      exact Lib.hid ⟨rfl, by rw [hv.out]; exact heap_set h0' 2 _, h1.setCell (p := ⟨g, 2, none⟩) h2 _⟩
  case rest =>
  obtain ⟨hv9, hnd, hE⟩ := hcut.out
  subst hv9
  have H1 : Hid (NodeAt NT wc g lab val' (.slice none 0 0) none ∧ Ext w wc ∧ w.heap.size ≤ g) := Lib.hid ⟨hnd, hE, H0.out.2.2⟩
  clear hcut hnd hE H0
  repeat' (go_not_at_region 5; (first | go_skip | go_guarded | go_step))
  go_loopg [23] n (fun gk v23 wx => ∃ (i : Nat) (kv : Value), v23 = .int .i64 i ∧ i ≤ n ∧ n - i ≤ gk ∧ Hid (NodeAt NT wx g lab val' kv none ∧ wx.ownsRow (g + 1) 55 1 kv (ps.take i).length (ptrs (ps.take i)) ∧ Ext w wx))
  case atStart => exact ⟨0, _, rfl, Nat.zero_le _, by omega, Lib.hid ⟨H1.out.1, by simpa using World.ownsRow_nil _ _ _ _, H1.out.2.1⟩⟩
  case round =>
    obtain ⟨i, kv, rfl, hin, hgk, HI⟩ := hrel
    rcases Nat.lt_or_ge i n with hlt | hge
    · have d1 : decide (i < n) = true := by simp [hlt]
      have hi1 : (i : Int) < (n : Int) := by omega
      · obtain ⟨j, hj⟩ : ∃ j, j = i := ⟨_, rfl⟩
        obtain ⟨p, hp⟩ := get_of_lt ps (show j < ps.length by have := HN.out.1; omega)
        obtain ⟨b, o, rfl, hcl⟩ := (HN.out.2.1.below HI.out.2.2) (fun e => by have := ptrs_get hp; rw [e] at this; simp at this)
        have hq : wr.cell? ⟨b, o + i, none⟩ = some (ptr p) := hcl i _ (by
          rw [← hj]
          exact ptrs_get hp)
        have HP := Lib.hid (And.intro hp hj)
        obtain ⟨nd, ow, eE⟩ := HI.out
        rw [← hj] at ow
        obtain ⟨Lj, hLj⟩ : ∃ L, L = ps.take j := ⟨_, rfl⟩
        have HLj := Lib.hid hLj
        rw [← hLj] at ow
        have hjl : Lj.length ≤ 1000 := by rw [hLj]; simp; omega
        obtain ⟨KA, kc, rfl⟩ := own_sliceB ow
        obtain ⟨c0, c1, c2, c3, c4⟩ := nd.cells
        have HO : Hid (NodeAt NT wr g lab val' _ none ∧ wr.ownsRow (g + 1) 55 1 _ Lj.length (ptrs Lj) ∧ Ext w wr) := Lib.hid ⟨nd, ow, eE⟩
        have hsz : g + 1 ≤ (wr.alloc (.cells #[ptr p] 55)).heap.size := by have := nd.lt; simp; omega
        clear hcl hp hj HI nd ow eE c0 c1 c2 c4 hLj
        repeat' (first
          | (at_builtin; refine wpList_app rfl (.tmp 33) (.tmp 35) _ rfl (g + 1) 55 1 8 Tryz.underlying110 infoK (by decide) _ _ _ rfl (row_ext HO.out.2.1 ((Ext.refl _).alloc (Nat.le_refl _) _)) _ 1 1 [ptr p] rfl rfl (Seg.new _ [_] _ rfl) (by intro u hu; simp at hu; subst hu; rfl) (by unfold maxLen; omega) (by omega) hsz ?_
             intro v5 w5 hown5 hg5 _
             obtain ⟨A5, C5, rfl⟩ := own_sliceB hown5
             have nd5 : NodeAt NT w5 g lab val' _ none := (hg5.block g (by have := HO.out.1.lt; simp; omega) (by
               intro e
               have hlt := HO.out.2.1.lt g e.symm
               omega)).trans (HO.out.1.ext ((Ext.refl _).alloc (Nat.le_refl _) _))
             have e5 : Ext w w5 := Below.grown (HO.out.2.2.alloc HO.out.2.2.size _) hg5 (by have := HO.out.2.2.size; simp; omega) (fun k hk => by
               have := HO.out.2.1.lt k hk
               have := H1.out.2.2
               omega)
             obtain ⟨x0, x1, x2, x3, x4⟩ := nd5.cells
             have cf := nd5.free 3
             have H5 := Lib.hid (And.intro hown5 (And.intro nd5 e5))
             clear hown5 hg5 nd5 e5 x0 x1 x2 x4)
          | go_skip | go_guarded | go_step)
        go_roundg (n - (i + 1))
        case measure => omega
        case rel =>
          refine ⟨i + 1, _, by go_num, by omega, Nat.le_refl _, Lib.hid ⟨H5.out.2.1.set3 _, ?_, H5.out.2.2.setCell (p := ⟨g, 3, none⟩) H1.out.2.2 _⟩⟩
          have e : ps.take (i + 1) = Lj ++ [p] := by
            rw [HLj.out]
            rw [show i + 1 = j + 1 by have := HP.out.2; omega]
            exact take_snoc HP.out.1
          rw [e, ptrs_append, List.length_append]
          exact row_set H5.out.1 ⟨g, 3, none⟩ _ (Nat.lt_succ_self _)
    · obtain rfl : i = n := by omega
      have d1 : decide (i < i) = false := by simp
      have e : ps.take i = ps := List.take_of_length_le (by have := HN.out.1; omega)
      have hI := HI.out
      rw [e] at hI
      have HE : Hid (Rep NT wr g (RT.node lab val' ks) ∧ Ext w wr) := Lib.hid ⟨Rep.make (t := RT.node lab val' ks) hI.1 (Sl.of_own hI.2.1) (HN.out.2.2.ext hI.2.2), hI.2.2⟩
      clear hI e
      repeat' (first | go_skip | go_guarded | go_step)
      go_ret
      exact ⟨g, rfl, by rw [HV.out.1]; exact HE.out.1, HE.out.2⟩
end Go.Proofs.YtigoffdehdobiaaGreat
/- Contracts: build.kids' own function, slices.IndexFunc with it. -/
namespace Go.Proofs.YtigoffdehdobiaaGreat
open Go.RowKit Go.QS
set_option linter.unusedVariables false

set_option maxRecDepth 100000 in
theorem kfn_c (W : World) (x : Pr) (a b fr : Nat) (c d : UInt8) (ha : W.cell? ⟨a, 0, none⟩ = some (.int .i64 (fr : Int))) (hb : W.cell? ⟨b, 0, none⟩ = some (.int .u8 (c.toNat : Int))) (hx : x.1[fr]? = some d) (hla : a < W.heap.size) (hlb : b < W.heap.size) :
    Calls Tryz.prog 75 #[.agg #[str x.1, str x.2], ptr a, ptr b] W fun e w' => e = .returned (.bool (decide (d ≠ c))) ∧ Ext W w' := by
  obtain ⟨s1, s2⟩ := x
  simp only at hx
  have i1 := idx_str Tryz.underlying9 hx
  have HX := Lib.hid hx
  clear hx
  have hEA : Ext W (W.alloc (.cells #[str s1, str s2] 70)) := (Ext.refl W).alloc (Nat.le_refl _) _
  have HEA := Lib.hid hEA
  clear hEA
  by_cases hxy : d = c
  · subst hxy
    have hne : ((d.toNat : Int) != (d.toNat : Int)) = false := by simp
    go_enter Tryz.func75, Tryz.ntmps75
    repeat' (first | go_skip | go_guarded | go_step)
    go_quiet (fail)
    repeat' go_step
    go_ret
    exact ⟨by simp, below_drewN HEA.out _⟩
  · have hxy' : d.toNat ≠ c.toNat := fun e => hxy (UInt8.toNat_inj.1 e)
    have hne : ((d.toNat : Int) != (c.toNat : Int)) = true := by rw [bne_iff_ne]; omega
    have hne' : (d.toNat != c.toNat) = true := by rw [bne_iff_ne]; exact hxy'
    have HD : Hid (decide (d ≠ c) = true) := Lib.hid (by simp [hxy])
    rw [HD.out]
    clear hxy hxy'
    go_enter Tryz.func75, Tryz.ntmps75
    repeat' (first | go_skip | go_guarded | go_step)
    go_quiet (fail)
    repeat' go_step
    go_ret
    exact ⟨rfl, below_drewN HEA.out _⟩

abbrev kfnV (a b : Nat) : Value := .func (.func 75) #[] #[ptr a, ptr b]

/-- Where the first key with another byte lies; none: all have it. -/
def kfirst (fr : Nat) (c : UInt8) (l : List Pr) : Nat := (l.takeWhile fun p => p.1[fr]? == some c).length

theorem kfirst_at {fr : Nat} {c d : UInt8} : ∀ {l : List Pr} {j : Nat} {p : Pr}, (∀ i, i < j → ∃ p, l[i]? = some p ∧ p.1[fr]? = some c) → l[j]? = some p → p.1[fr]? = some d → d ≠ c → kfirst fr c l = j
  | [], j, p, _, hp, _, _ => by simp at hp
  | q :: l, 0, p, _, hp, hd, hne => by
    simp at hp; subst hp
    unfold kfirst
    rw [List.takeWhile_cons_of_neg]
    · rfl
    · rw [hd]; simpa using hne
  | q :: l, j + 1, p, hi, hp, hd, hne => by
    obtain ⟨q', e1, e2⟩ := hi 0 (Nat.succ_pos _)
    simp at e1; subst e1
    have ih := kfirst_at (l := l) (j := j) (p := p) (fun i h => by simpa using hi (i + 1) (Nat.succ_lt_succ h)) (by simpa using hp) hd hne
    unfold kfirst at ih ⊢
    rw [List.takeWhile_cons_of_pos (by rw [e2]; simp), List.length_cons, ih]
theorem kfirst_all {fr : Nat} {c : UInt8} : ∀ {l : List Pr}, (∀ i, i < l.length → ∃ p, l[i]? = some p ∧ p.1[fr]? = some c) → kfirst fr c l = l.length
  | [], _ => rfl
  | q :: l, hi => by
    obtain ⟨q', e1, e2⟩ := hi 0 (Nat.succ_pos _)
    simp at e1; subst e1
    have ih := kfirst_all (fr := fr) (c := c) (l := l) (fun i h => by simpa using hi (i + 1) (Nat.succ_lt_succ h))
    unfold kfirst at ih ⊢
    rw [List.takeWhile_cons_of_pos (by rw [e2]; simp), List.length_cons, ih, List.length_cons]

set_option maxRecDepth 100000 in
theorem idxk_c (w : World) (v : Value) (l : List Pr) (a b fr : Nat) (c : UInt8) (h : PS w v l) (ha : w.cell? ⟨a, 0, none⟩ = some (.int .i64 (fr : Int))) (hb : w.cell? ⟨b, 0, none⟩ = some (.int .u8 (c.toNat : Int)))
    (hal : ∀ p ∈ l, fr < p.1.length) :
    Calls Tryz.prog 74 #[v, kfnV a b] w fun e w' => e = .returned (.int .i64 (if kfirst fr c l < l.length then (kfirst fr c l : Int) else -1)) ∧ Ext w w' := by
  obtain ⟨A, C, rfl, _, hn, hC, hs⟩ := h
  obtain ⟨m, hm⟩ : ∃ m, m = l.length := ⟨_, rfl⟩
  rw [← hm] at hn ⊢
  have hm9 : m ≤ 9223372036854775807 := by unfold maxLen at hC; omega
  have HN : Hid (m = l.length ∧ Seg w A (flat l) ∧ w.cell? ⟨a, 0, none⟩ = some (.int .i64 (fr : Int)) ∧ w.cell? ⟨b, 0, none⟩ = some (.int .u8 (c.toNat : Int)) ∧ (∀ p ∈ l, fr < p.1.length)) := Lib.hid ⟨hm, hs, ha, hb, hal⟩
  have hla := World.block_lt_of_cell? w _ ha
  have hlb := World.block_lt_of_cell? w _ hb
  obtain ⟨K, hK⟩ : ∃ K, K = kfirst fr c l := ⟨_, rfl⟩
  rw [← hK]
  have HKK := Lib.hid hK
  clear hm hs ha hb hal hK
  go_enter Tryz.func74, Tryz.ntmps74
  repeat' (go_not_at_region 2; (first | go_skip | go_guarded | go_step))
  go_loopg [5, 8] m (fun gk v5 v8 wr => ∃ j : Nat, v8 = .int .i64 j ∧ j ≤ m ∧ m - j ≤ gk ∧ Ext w wr ∧ Hid (∀ i, i < j → ∃ p, l[i]? = some p ∧ p.1[fr]? = some c))
  case atStart => exact ⟨0, rfl, Nat.zero_le _, Nat.le_refl _, Ext.refl _, Lib.hid (fun i hi => absurd hi (Nat.not_lt_zero _))⟩
  case round =>
    obtain ⟨j, rfl, hjm, hgk, hE, HI⟩ := hrel
    rcases Nat.lt_or_ge j m with hlt | hge
    · have d1 : decide (j < m) = true := by simp [hlt]
      obtain ⟨p, hp⟩ := get_of_lt l (show j < l.length by have := HN.out.1; omega)
      obtain ⟨d, hd⟩ := get_of_lt p.1 (HN.out.2.2.2.2 p (List.mem_of_getElem? hp))
      obtain ⟨bb, o, hA, q1, q2⟩ := seg_pair (Seg.below HN.out.2.1 hE) hp
      subst hA
      have hi1 : (j : Int) < (m : Int) := by omega
      have HC := Lib.hid (kfn_c wr p a b fr c d ((World.cell?_of_block (hE.block a hla)).trans HN.out.2.2.1) ((World.cell?_of_block (hE.block b hlb)).trans HN.out.2.2.2.1) hd (Nat.lt_of_lt_of_le hla hE.size) (Nat.lt_of_lt_of_le hlb hE.size))
      have HP := Lib.hid (And.intro hp hd)
      clear hp hd
      repeat' (first | go_skip | go_guarded | go_step)
      refine HC.out.mono ?_
      rintro e w1 ⟨rfl, f1⟩
      have HE1 : Hid (Ext w w1) := Lib.hid (hE.trans f1)
      clear f1
      by_cases hdc : d = c
      · have HD := Lib.hid hdc
        have hf : decide (d ≠ c) = false := by simp [hdc]
        rw [hf]
        clear hf hdc
        go_simp
        repeat' (first | go_skip | go_guarded | go_step)
        go_roundg (m - (j + 1))
        case measure => omega
        case rel =>
          refine ⟨j + 1, by go_num, by omega, Nat.le_refl _, HE1.out, Lib.hid (fun i hi => ?_)⟩
          rcases Nat.lt_or_ge i j with h | h
          · exact HI.out i h
          · obtain rfl : i = j := by omega
            exact ⟨p, HP.out.1, by rw [HP.out.2, HD.out]⟩
      · have hK : K = j := by rw [HKK.out]; exact kfirst_at HI.out HP.out.1 HP.out.2 hdc
        have HK2 := Lib.hid hK
        have hf : decide (d ≠ c) = true := by simp [hdc]
        rw [hf]
        clear hf hdc hK
        go_simp
        repeat' (first | go_skip | go_guarded | go_step)
        go_ret
        rw [HK2.out, if_pos hlt]
        exact ⟨rfl, HE1.out⟩
    · obtain rfl : j = m := by omega
      have d1 : decide (j < j) = false := by simp
      repeat' (first | go_skip | go_guarded | go_step)
      go_ret
      have hK : K = j := by rw [HKK.out, HN.out.1]; exact kfirst_all (fun i hi => HI.out i (by have := HN.out.1; omega))
      rw [hK, if_neg (Nat.lt_irrefl _)]
      exact ⟨rfl, hE⟩
end Go.Proofs.YtigoffdehdobiaaGreat
/- Contracts: build.kids of no pair, build.branch of one pair. -/
namespace Go.Proofs.YtigoffdehdobiaaGreat
open Go.RowKit Go.QS
set_option linter.unusedVariables false

theorem common_self : ∀ a : List UInt8, common a a = a.length
  | [] => by simp [common]
  | x :: a => by simp [common, common_self a]

set_option maxRecDepth 100000 in
theorem kids0_c (w : World) (A : Option Addr) (c : Nat) (fr : Int) :
    Calls Tryz.prog 61 #[.slice A 0 c, .int .i64 fr] w fun e w' => e = .returned (.slice none 0 0) ∧ Ext w w' := by
  have HE : Hid (Ext w (w.alloc (.cells #[.int .i64 fr] 3))) := Lib.hid ((Ext.refl w).alloc (Nat.le_refl _) _)
  go_enter Tryz.func61, Tryz.ntmps61
  repeat' (go_not_at_region 2; (first | go_skip | go_guarded | go_step))
  refine wp_loop_once ?_
  repeat' (first | go_skip | go_guarded | go_step)
  go_ret
  exact ⟨rfl, HE.out⟩

theorem infoPk : ∃ i z, Tryz.prog.info? 70 = some i ∧ i.zero = some z ∧ i.size = 2 ∧ i.bytes = 32 ∧ z.cells.size = 2 := info_of (z := .agg #[str [], str []]) (by kernel_rfl) rfl
theorem run_from1 (A : Option Addr) {n c : Nat} (hin : 1 ≤ n) (hnc : n ≤ c) :
    ∃ A2, ∀ w, (Instr.slice 71 (.slice A n c) (some (.int .i64 1)) none none).run Tryz.prog w = .ok (.slice A2 (n - 1) (c - 1)) w := by
  obtain ⟨inf, z, hi, hz, hs, hb, hzs⟩ := infoPk
  refine ⟨if c = 1 then A else A.map (·.add 2), fun w => ?_⟩
  have h1 : (1 : Int) ≤ (n : Int) := by omega
  simp [Instr.slice, Instr.sliceBounds, Instr.sliceBound, asIntOf, run_underlying Tryz.underlying71, sizeOf, typeInfo, hi, hs, hin]
  intro h; omega

set_option maxRecDepth 100000 in
set_option maxHeartbeats 1000000 in
theorem branch1_c (w : World) (v : Value) (p : Pr) (fr : Nat) (h : PS w v [p]) (hfr : fr ≤ p.1.length) (h9 : p.1.length ≤ 1000000) :
    Calls Tryz.prog 76 #[v, .int .i64 (fr : Int)] w fun e w' => ∃ g, e = .returned (ptr g) ∧ Rep NT w' g (RT.node (p.1.drop fr) (some p.2) []) ∧ Ext w w' := by
  obtain ⟨A, C, rfl, _, hn, hC, hs⟩ := h
  obtain ⟨b, o, rfl, q1, q2⟩ := seg_pair hs (i := 0) (p := p) rfl
  obtain ⟨s1, s2⟩ := p
  simp only [List.length_cons, List.length_nil, Nat.zero_mul, Nat.add_zero, Nat.zero_add] at *
  have HC := Lib.hid (common_c w s1 s1 (by omega) (by omega))
  have HQ := Lib.hid (And.intro q1 q2)
  have hw0 : IntKind.i64.wrap 0 = 0 := by decide
  have hlb := World.block_lt_of_cell? w _ q1
  have HK : Hid (∀ y, Ext w y → y.cell? ⟨b, o, none⟩ = some (str s1) ∧ y.cell? ⟨b, o + 1, none⟩ = some (str s2)) := Lib.hid (fun y hy => ⟨(World.cell?_of_block (hy.block b hlb)).trans HQ.out.1, (World.cell?_of_block (hy.block b hlb)).trans HQ.out.2⟩)
  clear hs
  go_enter Tryz.func76, Tryz.ntmps76
  repeat' (go_not_at_region 1; (first | go_skip | go_guarded | go_step))
  go_region_held3 (fun y => y.cell? ⟨b, o, none⟩ = some (str s1) ∧ y.cell? ⟨b, o + 1, none⟩ = some (str s2))
    (first | exact HK.out _ k1.out | exact HK.out _ (below_drewN (Ext.refl _) 1) | exact HK.out _ (Ext.refl _))
    (first
      | (go_at_call 96; refine (common_c _ _ _ (by omega) (by omega)).mono ?_; rintro z y1 ⟨rfl, f1⟩; have k1 : Hid (Ext w y1) := Lib.hid ((below_drewN (Ext.refl w) 1).trans f1); clear f1))
  rw [common_self]
  have hfr1 : (fr : Int) ≤ (s1.length : Int) := by omega
  have hfr0 : (0 : Int) ≤ (s1.length : Int) := by omega
  have hsub : List.take (s1.length - fr) (List.drop fr s1) = s1.drop fr := List.take_of_length_le (by simp)
  obtain ⟨A2, hA2⟩ := run_from1 (some ⟨b, o, none⟩) (Nat.le_refl 1) hn
  simp only [Nat.sub_self] at hA2
  have hKK := HK.out _ k1.out
  obtain ⟨v1, v2⟩ := hKK
  repeat' (go_not_at_region 2; (first | go_skip | go_guarded | go_step))
  go_quiet (fail)
  repeat' (go_not_at_region 4; (first | go_skip | go_guarded | go_step))
  go_quiet (fail)
  repeat' (first | go_skip | go_guarded | go_step)
  refine (kids0_c _ A2 (C - 1) _).mono ?_
  rintro e w2 ⟨rfl, f2⟩
  have hf2 := Lib.hid ((k1.out.trans (below_drewN (Ext.refl y1) _)).trans f2)
  clear f2
  go_simp
  repeat' (first | go_skip | go_guarded | go_step)
  refine (make2_c w2 (s1.drop fr) s2 true (.slice none 0 0) [] [] (Sl.nil _ _) ⟨rfl, fun j p k hj _ => by simp at hj⟩ (by simp)).mono ?_
  rintro e w3 ⟨g, rfl, r3, f3⟩
  replace r3 := Lib.hid (And.intro r3 f3)
  clear f3
  go_simp
  repeat' (first | go_skip | go_guarded | go_step)
  go_ret
  exact ⟨g, rfl, r3.out.1, hf2.out.trans r3.out.2⟩
end Go.Proofs.YtigoffdehdobiaaGreat
