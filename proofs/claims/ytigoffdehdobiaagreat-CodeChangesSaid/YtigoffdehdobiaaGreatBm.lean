/- Contracts: build.kids of one pair, build.Radix of one pair. -/
import Derived.Test.YtigoffdehdobiaaGreatM16
import Derived.Test.YtigoffdehdobiaaGreatM20
import Derived.LoopN
set_option linter.unusedVariables false
set_option linter.unusedSimpArgs false
namespace Go.Proofs.YtigoffdehdobiaaGreat
open Go.RowKit Go.QS
set_option linter.unusedVariables false

theorem wp_loop_two {P : Program} {Q : Exit → Act → World → Prop} {a : Act} {w : World} {c : Code}
    (h : ∀ K : Act → World → Prop, Hid (∀ a w, c.wp P (Exit.then (fun _ _ => False) Q) a w → K a w) → c.wp P (Exit.then K Q) a w) : (Code.loop c).wp P Q a w :=
  wp_loop_rounds 2 (h (Code.rounds P c Q 1) (Lib.hid (fun _ _ h => h)))

theorem run_upto1 (A : Option Addr) {n c up : Nat} (h2 : up ≤ n) (hnc : n ≤ c) :
    ∀ w, (Instr.slice 71 (.slice A n c) none (some (.int .i64 (up : Int))) none).run Tryz.prog w = .ok (.slice A up c) w := by
  obtain ⟨inf, z, hi, hz, hs, hb, hzs⟩ := infoPk
  intro w
  have g3 : (up : Int) ≤ (c : Int) := by omega
  have g4 : up ≤ c := by omega
  simp [Instr.slice, Instr.sliceBounds, Instr.sliceBound, asIntOf, run_underlying Tryz.underlying71, sizeOf, typeInfo, hi, hs, g4]
  cases A with
  | none => simp
  | some a => intro _; simp [Addr.add]

set_option maxRecDepth 100000 in
set_option maxHeartbeats 1000000 in
theorem kids1_c (w : World) (v : Value) (p : Pr) (fr : Nat) (h : PS w v [p]) (hfr : fr < p.1.length) (h9 : p.1.length ≤ 1000000) :
    Calls Tryz.prog 61 #[v, .int .i64 (fr : Int)] w fun e w' => ∃ v' g, e = .returned v' ∧ Sl w' 1 v' 1 (ptrs [g]) ∧ Rep NT w' g (RT.node (p.1.drop fr) (some p.2) []) ∧ Ext w w' := by
  obtain ⟨A, C, rfl, _, hn, hC, hs⟩ := h
  obtain ⟨b, o, rfl, q1, q2⟩ := seg_pair hs (i := 0) (p := p) rfl
  obtain ⟨s1, s2⟩ := p
  obtain ⟨c, hc⟩ := get_of_lt s1 hfr
  have i1 := idx_str Tryz.underlying9 hc
  simp only [List.length_cons, List.length_nil, Nat.zero_mul, Nat.add_zero, Nat.zero_add] at *
  have HQ := Lib.hid (And.intro q1 (And.intro q2 (And.intro hs hc)))
  have hw0 : IntKind.i64.wrap 0 = 0 := by decide
  have hlb := World.block_lt_of_cell? w _ q1
  obtain ⟨a, ha⟩ : ∃ a, a = w.heap.size := ⟨_, rfl⟩
  obtain ⟨wa, hwa⟩ : ∃ x, x = w.alloc (.cells #[.int .i64 (fr : Int)] 3) := ⟨_, rfl⟩
  have hEa : Ext w wa := by rw [hwa]; exact (Ext.refl _).alloc (Nat.le_refl _) _
  have hba : wa.heap[a]? = some (.cells #[.int .i64 (fr : Int)] 3 (0, 0)) := by rw [hwa, ha]; exact heap_alloc_new w _
  have ca : wa.cell? ⟨a, 0, none⟩ = some (.int .i64 (fr : Int)) := by rw [cellG hba]; rfl
  have v1 : wa.cell? ⟨b, o, none⟩ = some (str s1) := (World.cell?_of_block (hEa.block b hlb)).trans q1
  have hla : a < wa.heap.size := heap_lt hba
  have hlb2 : b < wa.heap.size := Nat.lt_of_lt_of_le hlb hEa.size
  have HA := Lib.hid (And.intro hEa (And.intro hba ca))
  clear hs hc
  go_enter Tryz.func61, Tryz.ntmps61
  repeat' (go_not_at_region 2; (first | go_skip | go_guarded | go_step))
  rw [← hwa, ← ha]
  clear hwa ha hEa hba
  refine wp_loop_two (fun KR hKR => ?_)
  repeat' (go_not_at_region 3; (first | go_skip | go_guarded | go_step))
  go_region
  repeat' (first | (go_at_call 74) | go_skip | go_guarded | go_step)
  obtain ⟨b2, hb2⟩ : ∃ b2, b2 = wa.heap.size := ⟨_, rfl⟩
  obtain ⟨wb, hwb⟩ : ∃ x, x = (wa.alloc (.cells #[.int .u8 (c.toNat : Int)] 5)).drew := ⟨_, rfl⟩
  have hEb : Ext wa wb := by rw [hwb]; exact ((Ext.refl _).alloc (Nat.le_refl _) _).drew
  have hbb : wb.heap[b2]? = some (.cells #[.int .u8 (c.toNat : Int)] 5 (0, 0)) := by rw [hwb, hb2]; exact heap_alloc_new wa _
  rw [← hwb, ← hb2]
  have cb : wb.cell? ⟨b2, 0, none⟩ = some (.int .u8 (c.toNat : Int)) := by rw [cellG hbb]; rfl
  have ca2 : wb.cell? ⟨a, 0, none⟩ = some (.int .i64 (fr : Int)) := (World.cell?_of_block (hEb.block a hla)).trans HA.out.2.2
  have hP : PS wb (.slice (some ⟨b, o, none⟩) 1 C) [(s1, s2)] := ⟨_, _, rfl, rfl, hn, hC, HQ.out.2.2.1.below (HA.out.1.trans hEb)⟩
  have HB := Lib.hid (And.intro (HA.out.1.trans hEb) hP)
  have hlab : a < wb.heap.size := Nat.lt_of_lt_of_le hla hEb.size
  clear hwb hb2 hEb hbb ca v1 hla hlb2
  refine (idxk_c wb _ [(s1, s2)] a b2 fr c hP ca2 cb (by simpa using hfr)).mono ?_
  rintro e w3 ⟨rfl, f3⟩
  have hkf : kfirst fr c [(s1, s2)] = 1 := by simp [kfirst, HQ.out.2.2.2]
  rw [hkf, if_neg (by simp)]
  have ca3 : w3.cell? ⟨a, 0, none⟩ = some (.int .i64 (fr : Int)) := (World.cell?_of_block (f3.block a hlab)).trans ca2
  have HC3 := Lib.hid (And.intro (HB.out.1.trans f3) (HB.out.2.below f3))
  have hl3 : a < w3.heap.size := Nat.lt_of_lt_of_le hlab f3.size
  have HK : Hid (∀ y, Ext w3 y → y.cell? ⟨a, 0, none⟩ = some (.int .i64 (fr : Int))) := Lib.hid (fun y hy => (World.cell?_of_block (hy.block a hl3)).trans ca3)
  have hup : ∀ w, (Instr.slice 71 (.slice (some ⟨b, o, none⟩) 1 C) none (some (.int .i64 1)) none).run Tryz.prog w = .ok (.slice (some ⟨b, o, none⟩) 1 C) w := run_upto1 (some ⟨b, o, none⟩) (Nat.le_refl 1) hn
  clear f3 ca2 cb hP hkf hlab
  go_simp
  repeat' (go_not_at_region 7; (first | go_skip | go_guarded | go_step))
  go_region_held3 (fun y => y.cell? ⟨a, 0, none⟩ = some (.int .i64 (fr : Int)))
    (first | exact HK.out _ k2.out | exact HK.out _ (((k1.out.alloc k1.out.size _).alloc (k1.out.alloc k1.out.size _).size _).drew) | exact HK.out _ (k1.out.alloc k1.out.size _) | exact HK.out _ k1.out | exact HK.out _ (below_drewN (Ext.refl _) 1) | exact HK.out _ (Ext.refl _))
    (first
      | (go_at_call 76; refine (branch1_c _ _ (s1, s2) fr (HC3.out.2.below (below_drewN (Ext.refl _) 1)) (Nat.le_of_lt hfr) h9).mono ?_; rintro z y1 ⟨g, rfl, r1, f1⟩; have k1 : Hid (Ext w3 y1) := Lib.hid ((below_drewN (Ext.refl w3) 1).trans f1); have R1 := Lib.hid r1; clear r1 f1)
      | (at_builtin; refine wpList_appE (W := w3) rfl (.tmp 24) (.tmp 30) _ rfl 55 1 8 Tryz.underlying110 infoK (by decide) _ 0 [] rfl (World.ownsRow_nil _ _ _ _) (k1.out.alloc k1.out.size _) _ 1 1 [ptr g] rfl rfl (Seg.new _ [_] _ rfl) (by intro u hu; simp at hu; subst hu; rfl) (by unfold maxLen; omega) (by omega) ?_; intro v5 w5 hown5 hb5; have k2 : Hid (Ext w3 w5) := Lib.hid hb5; clear hb5))
  obtain ⟨CP, hCP⟩ : ∃ x, x = (Question.appendCap 1 0 55).cut (y1.tape y1.drawn (Question.appendCap 1 0 55)) := ⟨_, rfl⟩
  rw [← hCP]
  have hC1 : 1 ≤ CP := by rw [hCP]; exact grownCap_ge y1 1 0 _
  have hC2 : CP ≤ maxLen := by rw [hCP]; exact grownCap_le_maxLen y1 1 0 _ (by unfold maxLen; omega)
  obtain ⟨w7, hw7⟩ : ∃ x, x = ((y1.alloc (.cells #[ptr g] 55)).alloc (.cells (#[ptr g] ++ Builtin.zeroCells #[Value.pointer none] (CP - 1)) 55)).drew := ⟨_, rfl⟩
  obtain ⟨b7, hb7⟩ : ∃ x, x = y1.heap.size + 1 := ⟨_, rfl⟩
  have hh7 : w7.heap[b7]? = some (.cells (#[ptr g] ++ Builtin.zeroCells #[Value.pointer none] (CP - 1)) 55 (0, 0)) := by
    have := heap_alloc_new (y1.alloc (.cells #[ptr g] 55)) (.cells (#[ptr g] ++ Builtin.zeroCells #[Value.pointer none] (CP - 1)) 55)
    have hsz : (y1.alloc (.cells #[ptr g] 55)).heap.size = y1.heap.size + 1 := by simp
    rw [hsz] at this
    rw [hw7, hb7]
    exact this
  have hE7 : Ext y1 w7 := by rw [hw7]; exact (((Ext.refl y1).alloc (Nat.le_refl _) _).alloc ((Ext.refl y1).alloc (Nat.le_refl _) _).size _).drew
  rw [← hw7, ← hb7]
  have hS7 : Sl w7 1 (.slice (some ⟨b7, 0, none⟩) 1 CP) 1 (ptrs [g]) := by
    refine ⟨_, _, rfl, rfl, hC1, hC2, fun _ => ⟨b7, 0, rfl, fun j u hu => ?_⟩⟩
    cases j with
    | zero =>
      simp [ptrs] at hu
      subst hu
      rw [cellG hh7]
      exact (Array.getElem?_append_left (by simp)).trans rfl
    | succ j => simp [ptrs] at hu
  have H7 := Lib.hid (And.intro hS7 (And.intro (R1.out.ext hE7) (HC3.out.1.trans (k1.out.trans hE7))))
  obtain ⟨A2, hA2⟩ := run_from1 (some ⟨b, o, none⟩) (Nat.le_refl 1) hn
  simp only [Nat.sub_self] at hA2
  clear hCP hw7 hb7 hh7 hE7 hS7 hC1 hC2 hup
  repeat' (first | go_skip | go_guarded | go_step)
  refine hKR.out _ _ ?_
  repeat' (first | go_skip | go_guarded | go_step)
  go_ret
  exact ⟨_, g, rfl, H7.out.1, H7.out.2.1, H7.out.2.2⟩
end Go.Proofs.YtigoffdehdobiaaGreat
