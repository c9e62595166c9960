/- Texts joined. -/
import Derived.Test.YtigoffdehdobiaaGreatM15
import Derived.Test.YtigoffdehdobiaaGreatTb
import Derived.Deep.LoopGhost
import Derived.Test.YtigoffdehdobiaaGreatM11
import Derived.Test.YtigoffdehdobiaaGreatM21
import Derived.Test.YtigoffdehdobiaaGreatM22
set_option linter.unusedVariables false
set_option linter.unusedSimpArgs false
/- Contracts: code.Num, code.Text: behind whatever stands there. -/
namespace Go.Proofs.YtigoffdehdobiaaGreat
open Go.RowKit Go.QS
set_option linter.unusedVariables false

theorem putNum_len : ∀ (k n : Nat), n < 128 ^ (k + 1) → (putNum n).length ≤ k + 1
  | 0, n, h => by rw [putNum_lt (by simpa using h)]; simp
  | k + 1, n, h => by
    by_cases h1 : n < 128
    · rw [putNum_lt h1]; simp
    · rw [putNum_ge h1, List.length_cons]
      have := putNum_len k (n / 128) (by rw [Nat.pow_succ] at h; omega)
      omega

theorem or128' : ∀ k : Fin 256, bits BinOp.or IntKind.u8 ((k.val : Nat) : Int) 128 = ((k.val % 128 + 128 : Nat) : Int) := by decide +kernel
theorem or128 (k : Nat) (h : k < 256) : bits BinOp.or IntKind.u8 (k : Int) 128 = ((k % 128 + 128 : Nat) : Int) := or128' ⟨k, h⟩

set_option maxRecDepth 100000 in
set_option maxHeartbeats 1000000 in
theorem wnum_c (w : World) (v : Value) (l : List UInt8) (n : Nat) (h : BS w v l) (hn : n < 18446744073709551616) (h9 : l.length ≤ 900000000) :
    Calls Tryz.prog 18 #[v, .int .u64 (n : Int)] w fun e w' => ∃ v', e = .returned v' ∧ w'.ownsRow w.heap.size 5 1 v' (l ++ putNum n).length (encB (l ++ putNum n)) ∧ Ext w w' := by
  obtain ⟨A, c, rfl, hl, hc, hC, hs⟩ := h
  have hlen := putNum_len 9 n (by omega)
  have HL := Lib.hid (And.intro hlen h9)
  have HS : Hid (Rdy w w (.slice A l.length l.length) (l ++ [])) := Lib.hid (.inr ⟨A, by simp, by simpa using hs⟩)
  clear hs hlen
  go_enter Tryz.func18, Tryz.ntmps18
  repeat' (go_not_at_region 2; (first | go_skip | go_guarded | go_step))
  go_loopg [0, 1] n (fun gk v0 v1 wr => ∃ (m : Nat) (pre : List UInt8), v1 = .int .u64 (m : Int) ∧ m ≤ gk ∧ m ≤ n ∧ Hid (Rdy w wr v0 (l ++ pre) ∧ Ext w wr ∧ pre ++ putNum m = putNum n))
  case atStart => exact ⟨n, [], rfl, Nat.le_refl _, Nat.le_refl _, Lib.hid ⟨HS.out, Ext.refl _, rfl⟩⟩
  case round =>
    obtain ⟨m, pre, rfl, hgk, hmn, HI⟩ := hrel
    have hpl : pre.length ≤ 10 := by have := congrArg List.length HI.out.2.2; rw [List.length_append] at this; have := HL.out.1; omega
    have hlp : (l ++ pre).length ≤ 900000100 := by rw [List.length_append]; omega
    by_cases hm : m < 128
    · have d1 : ¬ (128 : Int) ≤ (m : Int) := by omega
      have d2 : ¬ 128 ≤ m := by omega
      have e1 : (m : Int) % 256 = (m : Int) := by omega
      obtain ⟨b, hb⟩ : ∃ b, b = UInt8.ofNat m := ⟨_, rfl⟩
      have hbn : (m : Int) = (b.toNat : Int) := by rw [hb]; have := ofNat_toNat (n := m) (by omega); omega
      have HB : Hid (l ++ putNum n = l ++ pre ++ [b]) := Lib.hid (by rw [← HI.out.2.2, putNum_lt hm, hb, List.append_assoc])
      have hv : Hid (∀ (x : Nat), (#[Value.int .u8 (m : Int)] : Array Value) = #[.int .u8 (b.toNat : Int)]) := Lib.hid (fun _ => by rw [hbn])
      clear hb hbn
      repeat' (first | go_skip | go_guarded | (at_builtin; rw [hv.out 0]; refine wpList_appR (W := w) rfl (.tmp 21) (.tmp 24) _ rfl Tryz.underlying22 _ (l ++ pre) rfl (HI.out.1.alloc _) (HI.out.2.1.alloc HI.out.2.1.size _) _ 1 1 [b] rfl (by decide) rfl (Seg.new _ [_] _ rfl) (by omega) ?_; intro v1 w1 hown hb1) | go_step)
      go_ret
      rw [HB.out]
      exact ⟨_, rfl, hown, hb1⟩
    · have d1 : (128 : Int) ≤ (m : Int) := by omega
      have d2 : 128 ≤ m := by omega
      obtain ⟨b, hb⟩ : ∃ b, b = UInt8.ofNat (m % 128 + 128) := ⟨_, rfl⟩
      have hbn : bits BinOp.or IntKind.u8 ((m : Int) % 256) 128 = (b.toNat : Int) := by
        have h1 := or128 (m % 256) (Nat.mod_lt _ (by decide))
        have h2 := ofNat_toNat (n := m % 128 + 128) (by omega)
        have e1 : ((m % 256 : Nat) : Int) = (m : Int) % 256 := by omega
        rw [e1] at h1
        rw [h1, hb, h2]
        omega
      obtain ⟨m2, hm2⟩ : ∃ m2, m2 = m / 128 := ⟨_, rfl⟩
      have hsh : (m : Int) / 128 = (m2 : Int) := by omega
      have hlt2 : m2 < m := by omega
      have HB : Hid (pre ++ [b] ++ putNum m2 = putNum n) := Lib.hid (by rw [← HI.out.2.2, putNum_ge hm, hb, hm2, List.append_assoc]; rfl)
      clear hb hm2
      repeat' (first | go_skip | go_guarded | (at_builtin; refine wpList_appR (W := w) rfl (.tmp 15) (.tmp 19) _ rfl Tryz.underlying22 _ (l ++ pre) rfl (HI.out.1.alloc _) (HI.out.2.1.alloc HI.out.2.1.size _) _ 1 1 [b] rfl (by decide) rfl (Seg.new _ [_] _ rfl) (by omega) ?_; intro v1 w1 hown hb1) | go_step)
      have H1 := Lib.hid (And.intro hown hb1)
      clear hown hb1
      go_roundg m2
      case measure => omega
      case rel => exact ⟨m2, pre ++ [b], rfl, Nat.le_refl _, by omega, Lib.hid ⟨.inl (by rw [← List.append_assoc]; exact H1.out.1), H1.out.2, HB.out⟩⟩

def putText (s : List UInt8) : List UInt8 := putNum s.length ++ s

set_option maxRecDepth 100000 in
theorem wtext_c (w : World) (v : Value) (l s : List UInt8) (h : BS w v l) (h9 : l.length + s.length + 20 ≤ 900000000) :
    Calls Tryz.prog 17 #[v, str s] w fun e w' => ∃ v', e = .returned v' ∧ w'.ownsRow w.heap.size 5 1 v' (l ++ putText s).length (encB (l ++ putText s)) ∧ Ext w w' := by
  have HN := Lib.hid (wnum_c w v l s.length h (by omega) (by omega))
  have hpl := putNum_len 9 s.length (by omega)
  have hl1 : (l ++ putNum s.length).length ≤ l.length + 10 := by rw [List.length_append]; omega
  clear h
  go_enter Tryz.func17, Tryz.ntmps17
  repeat' (first | go_at_call 18 | go_skip | go_guarded | go_step)
  refine HN.out.mono ?_
  rintro e w1 ⟨v1, rfl, h1, f1⟩
  have H1 := Lib.hid (And.intro h1 f1)
  clear h1 f1
  go_simp
  repeat' (first | go_skip | go_guarded | (at_builtin; refine wpList_appS (W := w) rfl (.tmp 9) (.tmp 10) _ _ rfl 5 Tryz.underlying22 Tryz.underlying9 infoB' _ _ _ rfl H1.out.1 H1.out.2 s rfl (by unfold maxLen; omega) (by omega) ?_; intro v2 w2 hown hb2) | go_step)
  go_ret
  refine ⟨_, rfl, ?_, hb2⟩
  have e : l ++ putText s = l ++ putNum s.length ++ s := by rw [putText, List.append_assoc]
  rw [e, List.length_append, encB_append]
  exact hown
end Go.Proofs.YtigoffdehdobiaaGreat
/- Contract: the span of all keys. -/
namespace Go.Proofs.YtigoffdehdobiaaGreat
open Go.RowKit Go.QS
set_option linter.unusedVariables false

theorem sall_c (w : World) : Calls Tryz.prog 92 #[] w fun e w' => e = .returned (Sp.v ⟨[], [], true⟩) ∧ Ext w w' := by
  go_enter Tryz.func92, Tryz.ntmps92
  repeat' (first | go_skip | go_guarded | go_step)
  (try simp only [Exit.inBlock, Exit.then]); refine bodyPost_ret_by (results_cell_row rfl _ _ _ _ _ _ _ rfl (heap_new _ _) Tryz.underlying144 rfl (by kernel_rfl)) rfl ?_
  exact ⟨rfl, (Ext.refl w).alloc (Nat.le_refl _) _⟩
end Go.Proofs.YtigoffdehdobiaaGreat
/- Contracts: a radix tree of one pair: its kind, its pairs, its bytes. -/
namespace Go.Proofs.YtigoffdehdobiaaGreat
open Go.RowKit Go.QS
set_option linter.unusedVariables false

abbrev P1 : Pr := ([97], [49])
abbrev T1 : RT := RT.node [] none [RT.node [97] (some [49]) []]

theorem kind1_c (w : World) (g : Nat) : Calls Tryz.prog 65 #[trV g] w fun e w' => e = .returned (.int .i64 1) ∧ Ext w w' := by
  go_enter Tryz.func65, Tryz.ntmps65
  repeat' (first | go_skip | go_guarded | go_step)
  go_ret
  exact ⟨rfl, (Ext.refl w).alloc (Nat.le_refl _) _⟩

theorem good1 : Good [((T1, [], false) : Wn)] := by
  intro e he
  rw [List.mem_singleton] at he
  subst he
  refine ⟨by decide, ?_⟩
  exact .cons (by decide) (by decide) (.inl rfl) (.nil _) (fun q hq => by cases hq) (.nil _)
theorem com1 : com ⟨[], [], true⟩ false [((T1, [], false) : Wn)] = [P1] := by decide
theorem wt1 : wt [((T1, [], false) : Wn)] ≤ 1000000 := by decide

set_option maxRecDepth 100000 in
set_option maxHeartbeats 1000000 in
theorem tpairs1_c (w : World) (g : Nat) (h : Rep NT w g T1) :
    Calls Tryz.prog 68 #[trV g] w fun e w' => ∃ v', e = .returned v' ∧ PS w' v' [P1] ∧ Ext w w' := by
  have HR := Lib.hid h
  clear h
  obtain ⟨q, hq⟩ : ∃ q, q = w.heap.size := ⟨_, rfl⟩
  obtain ⟨wa, hwa⟩ : ∃ x, x = w.alloc (.cells #[.int .i64 1, .int .u64 0, .int .u64 0, .int .u64 0, .pointer none, ptr g] TrT) := ⟨_, rfl⟩
  have hb := heap_newG w (.cells #[.int .i64 1, .int .u64 0, .int .u64 0, .int .u64 0, .pointer none, ptr g] TrT)
  rw [← hwa, ← hq] at hb
  have hE : Ext w wa := by rw [hwa]; exact (Ext.refl _).alloc (Nat.le_refl _) _
  go_enter Tryz.func68, Tryz.ntmps68
  repeat' (go_not_at_region 1; (first | go_skip | go_guarded | go_step))
  rw [← hq]
  change Code.wp _ _ _ _ (w.alloc (.cells #[.int .i64 1, .int .u64 0, .int .u64 0, .int .u64 0, .pointer none, ptr g] TrT))
  rw [← hwa]
  obtain ⟨c0, c1, c2, c3, c4, c5, _⟩ := tr6 hb
  have hql := heap_lt hb
  have HE := Lib.hid (And.intro hE hb)
  have HK : Hid (∀ y, Ext wa y → y.cell? ⟨q, 5, none⟩ = some (ptr g)) := Lib.hid (fun y hy => (World.cell?_of_block (hy.block q hql)).trans (tr6 HE.out.2).2.2.2.2.2.1)
  clear hb hE hwa hq c1 c2 c3 c4
  repeat' (go_not_at_region 2; (first | go_skip | go_guarded | go_step))
  go_region_held3 (fun y => y.cell? ⟨q, 5, none⟩ = some (ptr g))
    (first | exact HK.out _ k2.out | exact HK.out _ k1.out | exact HK.out _ (below_drewN (Ext.refl _) 1) | exact HK.out _ (Ext.refl _))
    (first
      | (go_at_call 92; refine (sall_c _).mono ?_; rintro z y1 ⟨rfl, f1⟩; have k1 : Hid (Ext wa y1) := Lib.hid ((below_drewN (Ext.refl wa) 1).trans f1); clear f1)
      | (go_at_call 91; refine (spairs_c _ _ _ ⟨[], [], true⟩ [P1] (.root (HR.out.ext (HE.out.1.trans k1.out))) good1 wt1 (by simp) com1.symm (by simp)).mono ?_; rintro z y2 ⟨v2, rfl, r2, f2⟩; have k2 : Hid (Ext wa y2) := Lib.hid (k1.out.trans f2); have R2 := Lib.hid r2; clear f2 r2))
  repeat' (first | go_skip | go_guarded | go_step)
  go_ret
  exact ⟨v2, rfl, PS.of_own R2.out, HE.out.1.trans k2.out⟩
end Go.Proofs.YtigoffdehdobiaaGreat
/- Contract: code.PutTree of a radix tree of one pair. -/
namespace Go.Proofs.YtigoffdehdobiaaGreat
open Go.RowKit Go.QS
set_option linter.unusedVariables false

set_option maxRecDepth 100000 in
set_option maxHeartbeats 1000000 in
theorem puttree1_c (w : World) (g : Nat) (h : Rep NT w g T1) :
    Calls Tryz.prog 51 #[.slice none 0 0, trV g] w fun e w' => ∃ v', e = .returned v' ∧ BS w' v' [1, 1, 1, 97, 1, 49] ∧ Ext w w' := by
  have HR := Lib.hid h
  clear h
  obtain ⟨q, hq⟩ : ∃ q, q = w.heap.size := ⟨_, rfl⟩
  obtain ⟨wa, hwa⟩ : ∃ x, x = w.alloc (.cells #[.int .i64 1, .int .u64 0, .int .u64 0, .int .u64 0, .pointer none, ptr g] TrT) := ⟨_, rfl⟩
  have hb := heap_newG w (.cells #[.int .i64 1, .int .u64 0, .int .u64 0, .int .u64 0, .pointer none, ptr g] TrT)
  rw [← hwa, ← hq] at hb
  have hE : Ext w wa := by rw [hwa]; exact (Ext.refl _).alloc (Nat.le_refl _) _
  go_enter Tryz.func51, Tryz.ntmps51
  repeat' (go_not_at_region 1; (first | go_skip | go_guarded | go_step))
  rw [← hq]
  change Code.wp _ _ _ _ (w.alloc (.cells #[.int .i64 1, .int .u64 0, .int .u64 0, .int .u64 0, .pointer none, ptr g] TrT))
  rw [← hwa]
  obtain ⟨c0, c1, c2, c3, c4, c5, _⟩ := tr6 hb
  have hql := heap_lt hb
  have HE := Lib.hid (And.intro hE hb)
  have HK : Hid (∀ y, Ext wa y → y.cell? ⟨q, 0, none⟩ = some (.int .i64 1) ∧ y.cell? ⟨q, 1, none⟩ = some (.int .u64 0) ∧ y.cell? ⟨q, 2, none⟩ = some (.int .u64 0) ∧ y.cell? ⟨q, 3, none⟩ = some (.int .u64 0) ∧ y.cell? ⟨q, 4, none⟩ = some (.pointer none) ∧ y.cell? ⟨q, 5, none⟩ = some (ptr g)) := Lib.hid (fun y hy => by
    obtain ⟨c0, c1, c2, c3, c4, c5, _⟩ := tr6 (box_extG HE.out.2 hy)
    exact ⟨c0, c1, c2, c3, c4, c5⟩)
  clear hb hE hwa hq
  go_region_held3 (fun y => y.cell? ⟨q, 0, none⟩ = some (.int .i64 1) ∧ y.cell? ⟨q, 1, none⟩ = some (.int .u64 0) ∧ y.cell? ⟨q, 2, none⟩ = some (.int .u64 0) ∧ y.cell? ⟨q, 3, none⟩ = some (.int .u64 0) ∧ y.cell? ⟨q, 4, none⟩ = some (.pointer none) ∧ y.cell? ⟨q, 5, none⟩ = some (ptr g))
    (first | exact HK.out _ (((k1.out.alloc k1.out.size _).alloc (k1.out.alloc k1.out.size _).size _).drew) | exact HK.out _ (k1.out.alloc k1.out.size _) | exact HK.out _ k1.out | exact HK.out _ (below_drewN (Ext.refl _) 1) | exact HK.out _ (Ext.refl _))
    (first
      | (go_at_call 65; refine (kind1_c _ _).mono ?_; rintro z y1 ⟨rfl, f1⟩; have k1 : Hid (Ext wa y1) := Lib.hid ((below_drewN (Ext.refl wa) 1).trans f1); clear f1))
  obtain ⟨CP, hCP⟩ : ∃ x, x = (Question.appendCap 1 0 5).cut (y1.tape y1.drawn (Question.appendCap 1 0 5)) := ⟨_, rfl⟩
  rw [← hCP]
  have hC1 : 1 ≤ CP := by rw [hCP]; exact grownCap_ge y1 1 0 _
  have hC2 : CP ≤ maxLen := by rw [hCP]; exact grownCap_le_maxLen y1 1 0 _ (by unfold maxLen; omega)
  obtain ⟨w7, hw7⟩ : ∃ x, x = ((y1.alloc (.cells #[Value.int .u8 1] 5)).alloc (.cells (#[Value.int .u8 1] ++ Builtin.zeroCells #[Value.int .u8 0] (CP - 1)) 5)).drew := ⟨_, rfl⟩
  obtain ⟨b7, hb7⟩ : ∃ x, x = y1.heap.size + 1 := ⟨_, rfl⟩
  have hh7 : w7.heap[b7]? = some (.cells (#[Value.int .u8 1] ++ Builtin.zeroCells #[Value.int .u8 0] (CP - 1)) 5 (0, 0)) := by
    have := heap_alloc_new (y1.alloc (.cells #[Value.int .u8 1] 5)) (.cells (#[Value.int .u8 1] ++ Builtin.zeroCells #[Value.int .u8 0] (CP - 1)) 5)
    have hsz : (y1.alloc (.cells #[Value.int .u8 1] 5)).heap.size = y1.heap.size + 1 := by simp
    rw [hsz] at this
    rw [hw7, hb7]
    exact this
  have hE7 : Ext y1 w7 := by rw [hw7]; exact (((Ext.refl y1).alloc (Nat.le_refl _) _).alloc ((Ext.refl y1).alloc (Nat.le_refl _) _).size _).drew
  rw [← hw7, ← hb7]
  have hS7 : BS w7 (.slice (some ⟨b7, 0, none⟩) 1 CP) [1] := by
    refine ⟨_, _, rfl, rfl, hC1, hC2, fun _ => ⟨b7, 0, rfl, fun j u hu => ?_⟩⟩
    cases j with
    | zero =>
      simp [encB] at hu
      subst hu
      rw [cellG hh7]
      exact (Array.getElem?_append_left (by simp)).trans rfl
    | succ j => simp [encB] at hu
  have H7 := Lib.hid (And.intro hS7 (k1.out.trans hE7))
  obtain ⟨c0, c1, c2, c3, c4, c5⟩ := HK.out _ H7.out.2
  clear hCP hw7 hb7 hh7 hE7 hS7 hC1 hC2
  repeat' (first | go_at_call 65 | go_skip | go_guarded | go_step)
  refine (kind1_c w7 g).mono ?_
  rintro e w8 ⟨rfl, f8⟩
  have H8 := Lib.hid (And.intro (H7.out.1.below f8) (H7.out.2.trans f8))
  obtain ⟨c0, c1, c2, c3, c4, c5⟩ := HK.out _ H8.out.2
  clear f8
  go_simp
  repeat' (first | go_at_call 68 | go_skip | go_guarded | go_step)
  refine (tpairs1_c w8 g (HR.out.ext (HE.out.1.trans H8.out.2))).mono ?_
  rintro e w9 ⟨v9, rfl, p9, f9⟩
  obtain ⟨A9, C9, rfl, _, hn9, hC9, hs9⟩ := p9
  obtain ⟨bb, o, rfl, q1, q2⟩ := seg_pair hs9 (i := 0) (p := P1) rfl
  simp only [List.length_cons, List.length_nil, Nat.zero_mul, Nat.add_zero, Nat.zero_add] at *
  have H9 := Lib.hid (And.intro (H8.out.1.below f9) (And.intro (H8.out.2.trans f9) (And.intro q1 q2)))
  have hbb := World.block_lt_of_cell? w9 _ q1
  clear f9 hs9 q1 q2
  go_simp
  repeat' (first | go_at_call 18 | go_skip | go_guarded | go_step)
  have HNm := wnum_c w9 _ [1] 1 H9.out.1 (by decide) (by simp)
  refine HNm.mono ?_
  rintro e w10 ⟨v10, rfl, r10, f10⟩
  have H10 : Hid (BS w10 v10 [1, 1] ∧ Ext wa w10) := Lib.hid ⟨by have := BS.of_own r10; rw [putNum_lt (by decide)] at this; exact this, H9.out.2.1.trans f10⟩
  have q1 : w10.cell? ⟨bb, o, none⟩ = some (str [97]) := (World.cell?_of_block (f10.block bb hbb)).trans H9.out.2.2.1
  have q2 : w10.cell? ⟨bb, o + 1, none⟩ = some (str [49]) := (World.cell?_of_block (f10.block bb hbb)).trans H9.out.2.2.2
  clear r10 f10 HNm
  go_simp
  repeat' (go_not_at_region 8; (first | go_skip | go_guarded | go_step))
  refine wp_loop_two (fun KR hKR => ?_)
  repeat' (go_not_at_region 10; (first | go_skip | go_guarded | go_step))
  obtain ⟨w11, hw11⟩ : ∃ x, x = w10.alloc (.cells #[str [97], str [49]] 70) := ⟨_, rfl⟩
  obtain ⟨b8, hb8⟩ : ∃ x, x = w10.heap.size := ⟨_, rfl⟩
  have hh := heap_newG w10 (.cells #[str [97], str [49]] 70)
  have hE11 : Ext w10 w11 := by rw [hw11]; exact (Ext.refl _).alloc (Nat.le_refl _) _
  rw [← hw11, ← hb8] at hh
  have hw11' : w10.alloc (.cells #[Value.string (bs [97]), Value.string (bs [49])] 70) = w11 := hw11.symm
  rw [hw11', ← hb8]
  have H11 := Lib.hid (And.intro (H10.out.1.below hE11) (And.intro (H10.out.2.trans hE11) hh))
  have HB : Hid (∀ y, Ext w11 y → y.cell? ⟨b8, 0, none⟩ = some (str [97]) ∧ y.cell? ⟨b8, 1, none⟩ = some (str [49])) := Lib.hid (fun y hy => by
    have := box_extG H11.out.2.2 hy
    exact ⟨by rw [cellG this]; rfl, by rw [cellG this]; rfl⟩)
  clear hw11 hw11' hb8 hh hE11 q1 q2 k1
  obtain ⟨e0, e1⟩ := HB.out _ (Ext.refl _)
  go_region_held3 (fun y => y.cell? ⟨b8, 0, none⟩ = some (str [97]) ∧ y.cell? ⟨b8, 1, none⟩ = some (str [49]))
    (first | exact HB.out _ k2.out | exact HB.out _ k1.out | exact HB.out _ (below_drewN (Ext.refl _) 1) | exact HB.out _ (Ext.refl _))
    (first
      | (go_at_call 17; have hk := k1; clear hk; refine (wtext_c _ _ [1, 1, 1, 97] [49] R1.out (by decide)).mono ?_; rintro z y3 ⟨v12, rfl, r3, f3⟩; have k2 : Hid (Ext w11 y3) := Lib.hid (k1.out.trans f3); have R2 : Hid (BS y3 v12 [1, 1, 1, 97, 1, 49]) := Lib.hid (by have := BS.of_own r3; rw [putText, putNum_lt (by decide)] at this; exact this); clear f3 r3)
      | (go_at_call 17; refine (wtext_c _ _ [1, 1] [97] (H11.out.1.below (below_drewN (Ext.refl w11) 1)) (by decide)).mono ?_; rintro z y2 ⟨v11, rfl, r2, f2⟩; have k1 : Hid (Ext w11 y2) := Lib.hid ((below_drewN (Ext.refl w11) 1).trans f2); have R1 : Hid (BS y2 v11 [1, 1, 1, 97]) := Lib.hid (by have := BS.of_own r2; rw [putText, putNum_lt (by decide)] at this; exact this); clear f2 r2))
  repeat' (first | go_skip | go_guarded | go_step)
  refine hKR.out _ _ ?_
  repeat' (first | go_skip | go_guarded | go_step)
  go_ret
  exact ⟨v12, rfl, R2.out, HE.out.1.trans (H11.out.2.1.trans k2.out)⟩
end Go.Proofs.YtigoffdehdobiaaGreat
/- Plain law: a branch put together of its label, its own pair and its kids (for the document's tree). No program. -/
namespace Go.QS

theorem asm {N : Nat} {l : List Pr} {lab : List UInt8} {val : Option (List UInt8)} {ks : List RT} (hne : l ≠ []) (hr : Rise l) (h1 : lab ≠ []) (hN : lab.length ≤ N)
    (hp : ∀ p ∈ l, p.1.take lab.length = lab) (hv : ∀ v, val = some v ↔ (lab, v) ∈ l) (hk : Kd (N - lab.length) ks)
    (hb : ∀ q, q ∈ belows ks ↔ q.1 ≠ [] ∧ (lab ++ q.1, q.2) ∈ l) (hmax : ∀ c, ∃ p ∈ l, p.1.take (lab.length + 1) ≠ lab ++ [c]) :
    Br N (RT.node lab val ks) ∧ pre lab (RT.node lab val ks).prs = l := by
  have hsplit : ∀ p ∈ l, p.1 = lab ++ p.1.drop lab.length := fun p h => by
    conv => rhs; lhs; rw [← hp p h]
    exact (List.take_append_drop _ _).symm
  constructor
  · refine ⟨h1, hN, ?_, hk⟩
    by_cases hs : val.isSome = true
    · exact .inl hs
    · right
      have hvn : val = none := by
        cases hv' : val with
        | none => rfl
        | some v => rw [hv'] at hs; exact absurd rfl hs
      have hlong : ∀ p ∈ l, p.1.drop lab.length ≠ [] := by
        intro p h e
        have e1 := hsplit p h
        rw [e, List.append_nil] at e1
        have := (hv p.2).2 (by rw [← e1]; exact h)
        rw [hvn] at this; cases this
      have hin : ∀ p ∈ l, (p.1.drop lab.length, p.2) ∈ belows ks := fun p h => (hb _).2 ⟨hlong p h, by rw [← hsplit p h]; exact h⟩
      obtain ⟨p, hpl⟩ := List.exists_mem_of_ne_nil l hne
      show 2 ≤ ks.length
      rcases ks with _ | ⟨k, _ | ⟨k2, r⟩⟩
      · have := hin p hpl
        rw [belows_nil] at this; cases this
      · obtain ⟨c, m, hkl⟩ := List.exists_cons_of_ne_nil (hk.ne k (List.mem_singleton_self k))
        obtain ⟨q, hq, hqn⟩ := hmax c
        exfalso
        apply hqn
        have := hin q hq
        rw [belows_cons, belows_nil, List.append_nil] at this
        obtain ⟨x, _, e⟩ := mem_pre.1 this
        simp only [Prod.mk.injEq] at e
        rw [hsplit q hq, e.1, hkl, List.take_append, List.take_of_length_le (Nat.le_succ _)]
        simp
      · simp
  · refine rise_ext _ _ (rise_pre (prs_rise_of hk hk.rise)) hr fun q => ?_
    rw [mem_pre]
    constructor
    · rintro ⟨p, hpp, rfl⟩
      rcases mem_below.1 hpp with ⟨e1, e2⟩ | h
      · simp only [RT.val_node] at e2
        rw [e1, List.append_nil]
        exact (hv p.2).1 e2
      · exact ((hb p).1 h).2
    · intro h
      refine ⟨(q.1.drop lab.length, q.2), ?_, ?_⟩
      · by_cases e : q.1.drop lab.length = []
        · refine mem_below.2 (.inl ⟨e, (hv q.2).2 ?_⟩)
          have e1 := hsplit q h
          rw [e, List.append_nil] at e1
          rw [← e1]; exact h
        · exact mem_below.2 (.inr ((hb _).2 ⟨e, by rw [← hsplit q h]; exact h⟩))
      · show q = (lab ++ q.1.drop lab.length, q.2)
        rw [← hsplit q h]
end Go.QS
