/- ShapeTexts: its walk. -/
import Derived.Test.YtbmakajadelckaaDoorSxd
import Derived.Test.YtbmakajadelckaaDoorUf
import Derived.Test.YtbmakajadelckaaDoorFr
set_option linter.unusedVariables false
set_option linter.unusedSimpArgs false
namespace Go.QS
open Go Go.RowKit
theorem row_extS {w w' : World} {base n : Nat} {e : TypeId} {k : Nat} {v : Value} {xs : List Value} (h : w.ownsRow base e k v n xs) (f : Ext w w') : w'.ownsRow base e k v n xs := row_extG h f
theorem own_cap {w : World} {base n k C : Nat} {e : TypeId} {A : Option Addr} {xs : List Value} (h : w.ownsRow base e k (.slice A n C) n xs) : n ≤ C := by
  rcases h.2 with ⟨h0, h1⟩ | ⟨g, cap, cur, h0, _, _, h1, _⟩
  · omega
  · injection h0 with _ _ h3; omega
theorem encB_takeS (l : List UInt8) (n : Nat) : encB (l.take n) = (encB l).take n := by simp [encB, List.map_take]
end Go.QS
namespace Go.Proofs.YtbmakajadelckaaDoor
open Go Go.RowKit Go.QS Go.QS.Nk
set_option linter.unusedVariables false

theorem run_uptoS {t e : TypeId} (ht : Tryd.prog.underlying t = some (.slice e)) (hi : ∃ i z, Tryd.prog.info? e = some i ∧ i.zero = some z ∧ i.size = 1 ∧ i.bytes = 1 ∧ z.cells.size = 1) (A : Option Addr) {n c up : Nat} (h2 : up ≤ n) (hnc : n ≤ c) :
    ∀ w, (Instr.slice t (.slice A n c) none (some (.int .i64 (up : Int))) none).run Tryd.prog w = .ok (.slice A up c) w := by
  obtain ⟨inf, z, hi, hz, hs, hb, hzs⟩ := hi
  intro w
  have g3 : (up : Int) ≤ (c : Int) := by omega
  have g4 : up ≤ c := by omega
  simp [Instr.slice, Instr.sliceBounds, Instr.sliceBound, asIntOf, run_underlying ht, sizeOf, typeInfo, hi, hs, g4]
  cases A with
  | none => simp
  | some a => intro _; simp [Addr.add]

set_option maxRecDepth 100000 in
set_option maxHeartbeats 2000000 in
theorem texts_tail (wB wr : World) (k C3 : Nat) (A3 : Option Addr) (P S : List UInt8) (hkm : k ≤ 30) (hS9 : S.length ≤ 300) (HP : Hid (k = P.length)) (hbase : Ext wB wr) (H3 : Hid (Seg wr A3 (encB P) ∧ wr.ownsRow wB.heap.size 5 1 (.slice A3 k C3) k (encB P))) (c d : Code) (K : Act → World → Prop) (Q : Exit → Act → World → Prop) (t2 t3 t4 t5 t6 t7 t8 t9 t10 t11 t12 t13 t14 t15 t16 t17 t18 t19 t20 t21 t22 t23 t24 t25 t26 t27 t28 t29 t30 t31 t32 t33 t34 t35 t36 t37 t38 t39 t40 t41 t42 t43 : Value)
    (hc : (Tryd.f3.body.bind (findR 6)) = some c) (hd : (Tryd.f3.body.bind (findT 6)) = some d)
    (hK : ∀ a w, d.wp Tryd.prog Q a w → K a w)
    (hQ : ∀ (a : Act) (wx : World), a.defers = [] → a.tmps.getD 4 undef = .bool true → Ext wB wx → Q .ret a wx) :
    c.wp Tryd.prog (Exit.then K Q) { tmps := List.toArray ((.slice A3 k C3) :: (str S) :: t2 :: t3 :: t4 :: t5 :: t6 :: t7 :: t8 :: t9 :: t10 :: t11 :: t12 :: t13 :: t14 :: t15 :: t16 :: t17 :: t18 :: t19 :: t20 :: t21 :: t22 :: t23 :: t24 :: t25 :: t26 :: t27 :: t28 :: t29 :: t30 :: t31 :: t32 :: t33 :: t34 :: t35 :: t36 :: t37 :: t38 :: t39 :: t40 :: t41 :: t42 :: t43 :: []), defers := [] } wr := by
  change some _ = some c at hc
  cases hc
  change some _ = some d at hd
  cases hd
  have HQF := Lib.hid hQ
  clear hQ
  obtain ⟨w3, rfl⟩ : ∃ x, x = wr := ⟨_, rfl⟩
  repeat' (first
    | (at_builtin; refine wpList_appE (W := w3) rfl (.tmp 20) (.tmp 21) _ rfl 5 1 1 Tryd.underlying22 infoB (by decide) _ 0 [] rfl (own_lit [] 0 (by decide) rfl (Nat.le_refl _)) ((Ext.refl w3).alloc (Nat.le_refl _) _) A3 k C3 (encB P) rfl (by rw [encB_length, ← HP.out, Nat.mul_one]) (H3.out.1.alloc _) (encB_one _) (by unfold maxLen; omega) (by omega) ?_
       intro v6 w6 r6 b6
       rw [Nat.zero_add, List.nil_append] at r6
       have H6 := Lib.hid (And.intro r6 b6)
       clear r6 b6)
    | (at_builtin; refine wpList_appE (W := w3) rfl (.tmp 22) (.tmp 23) _ rfl 5 1 1 Tryd.underlying22 infoB (by decide) v6 k (encB P) rfl (H6.out.1.alloc _) (H6.out.2.alloc H6.out.2.size _) _ 1 1 [.int .u8 90] rfl rfl (Seg.new _ [_] _ rfl) (by intro u hu; simp at hu; subst hu; rfl) (by unfold maxLen; omega) (by omega) ?_
       intro v7 w7 r7 b7
       obtain ⟨A7, C7, rfl⟩ := own_slice r7
       have hrun7 := run_uptoS Tryd.underlying22 infoB A7 (n := k + 1) (c := C7) (up := k) (by omega) (own_cap r7)
       have H7 := Lib.hid (And.intro r7 b7)
       clear r7 b7)
    | go_at_call 7 | go_skip | go_guarded | go_step)
  have hB7 : BS w7 (.slice A7 k C7) P := by
    obtain ⟨A', C', e', h1, h2, h3, h4⟩ := Sl.of_own H7.out.1
    injection e' with e1 e2 e3
    refine ⟨A7, C7, by rw [← HP.out], by rw [encB_length, Nat.mul_one], by rw [← HP.out]; omega, by rw [e3]; exact h3, ?_⟩
    rw [e1]
    have := h4.take (encB P).length
    rwa [List.take_left] at this
  refine (text_c w7 _ P S hB7 (by rw [← HP.out]; omega)).mono ?_
  rintro e w8 ⟨v8, rfl, r8, f8⟩
  have H8 := Lib.hid (And.intro r8 f8)
  clear r8 f8 hB7
  go_simp
  repeat' (first | go_at_call 8 | go_skip | go_guarded | go_step)
  refine (rtext_c w8 S (by omega)).mono ?_
  rintro e w9 ⟨v9, rfl, r9, f9⟩
  obtain ⟨m, hm⟩ : ∃ m, m = (textB S).length := ⟨_, rfl⟩
  rw [← hm] at r9
  obtain ⟨A9, C9, rfl⟩ := own_slice r9
  have hs9 : Seg w9 A9 (encB (textB S)) := by
    obtain ⟨A', C', e', h1, h2, h3, h4⟩ := Sl.of_own r9
    injection e' with e1 e2 e3
    rw [e1]; exact h4
  have E39 : Ext w3 w9 := Ext.trans H7.out.2 (Ext.trans H8.out.2 f9)
  have hm9 : m ≤ 1000 := by rw [hm, textB]; simp [twoB]; omega
  have H9 : Hid (Seg w9 A9 (encB (textB S)) ∧ w9.ownsRow wB.heap.size 5 1 (.slice A3 k C3) k (encB P) ∧ m = (textB S).length ∧ Ext w3 w9 ∧ w9.ownsRow w7.heap.size 5 1 v8 (P ++ textB S).length (encB (P ++ textB S)) ∧ w9.ownsRow w3.heap.size 5 1 (.slice A7 (k + 1) C7) (k + 1) (encB P ++ [.int .u8 90])) :=
    Lib.hid ⟨hs9, row_extS H3.out.2 E39, hm, E39, row_extS H8.out.1 f9, row_extS H7.out.1 (Ext.trans H8.out.2 f9)⟩
  have h37 : w3.heap.size ≤ w7.heap.size := H7.out.2.size
  clear r9 hs9 hm f9 E39 H6 H8 hrun7
  go_simp
  repeat' (first
    | (at_builtin; refine wpList_app rfl (.tmp 31) (.tmp 33) _ rfl wB.heap.size 5 1 1 Tryd.underlying22 infoB (by decide) (.slice A3 k C3) k (encB P) rfl H9.out.2.1 A9 m C9 (encB (textB S)) rfl (by rw [encB_length, ← H9.out.2.2.1, Nat.mul_one]) H9.out.1 (encB_one _) (by unfold maxLen; omega) (by omega) (by have := H9.out.2.2.2.1.size; have := hbase.size; omega) ?_
       intro v10 w10 r10 g10 _
       have hlt3 := World.ownsRow.lt H3.out.2
       have hap : ∀ (u : Value) (b0 nn : Nat) (xs : List Value), w3.heap.size ≤ b0 → w9.ownsRow b0 5 1 u nn xs → u.ownBlock = none ∨ u.ownBlock ≠ (Value.slice A3 k C3).ownBlock := fun u b0 nn xs hb hu => by
         cases e8 : u.ownBlock with
         | none => exact .inl rfl
         | some b =>
           refine .inr (fun e => ?_)
           have h1 := (World.ownsRow.lt hu b e8).1
           have h2 := (hlt3 b e.symm).2
           omega
       have r8 := World.ownsRow.kept H9.out.2.2.2.2.1 g10 (hap _ _ _ _ h37 H9.out.2.2.2.2.1)
       have r7 := World.ownsRow.kept H9.out.2.2.2.2.2 g10 (hap _ _ _ _ (Nat.le_refl _) H9.out.2.2.2.2.2)
       have hB10 : BS w10 v10 (P ++ textB S) := by
         have h1 := Sl.of_own r10
         rw [← encB_append] at h1
         unfold BS
         rw [List.length_append, ← HP.out, ← H9.out.2.2.1]
         exact h1
       have E10 : Ext wB w10 := Below.grown (Ext.trans hbase H9.out.2.2.2.1) g10 (Ext.trans hbase H9.out.2.2.2.1).size (fun k hk => (World.ownsRow.lt H9.out.2.1 k hk).1)
       have H10 := Lib.hid (And.intro (BS.of_own r8) (And.intro hB10 (And.intro r7 E10)))
       clear r10 g10 r8 r7 hB10 E10 hap hlt3)
    | go_at_call 6 | go_skip | go_guarded | go_step)
  refine (rsame_c w10 v8 v10 _ _ H10.out.1 H10.out.2.1).mono ?_
  rintro e w11 ⟨he, f11⟩
  rw [decide_eq_true rfl] at he
  subst he
  obtain ⟨A', C', e', h1, h2, h3, h4⟩ := Sl.of_own H10.out.2.2.1
  injection e' with e1 e2 e3
  rw [← e1] at h4
  obtain ⟨b, o, rfl, hcc⟩ := h4 (by simp)
  have q0 : w11.cell? ⟨b, o + k, none⟩ = some (.int .u8 90) := (f11.cell (p := ⟨b, o + k, none⟩) (World.block_lt_of_cell? w10 _ (hcc k _ (by rw [List.getElem?_append_right (by rw [encB_length, ← HP.out]; exact Nat.le_refl _), encB_length, ← HP.out, Nat.sub_self]; rfl)))).trans (hcc k _ (by rw [List.getElem?_append_right (by rw [encB_length, ← HP.out]; exact Nat.le_refl _), encB_length, ← HP.out, Nat.sub_self]; rfl))
  have F11 := Lib.hid (Ext.trans H10.out.2.2.2 f11)
  have hk1 : (k : Int) < ((k + 1 : Nat) : Int) := by omega
  have hk2 : (k : Int) < (k : Int) + 1 := by omega
  clear hcc f11 e1 e2 e3 h1 h2 h3
  go_simp
  repeat' (first | go_skip | go_guarded | go_step)
  exact HQF.out _ _ rfl rfl F11.out


set_option maxRecDepth 100000 in
set_option maxHeartbeats 2000000 in
theorem shapeTexts_c (w : World) (v : Value) (l s : List UInt8) (h : BS w v l) :
    Calls Tryd.prog 3 #[v, str s] w fun e w' => e = .returned (.bool true) ∧ Ext w w' := by
  obtain ⟨A, c, rfl, hl, hn, hc, hs⟩ := h
  obtain ⟨P, hPdef⟩ : ∃ P, P = l.take 30 := ⟨_, rfl⟩
  obtain ⟨k, hk⟩ : ∃ k, k = P.length := ⟨_, rfl⟩
  have hk2 : k = min l.length 30 := by rw [hk, hPdef, List.length_take, Nat.min_comm]
  have hkl : k ≤ l.length := by omega
  have hkm : k ≤ 30 := by omega
  have hmin : min (l.length : Int) 30 = (k : Int) := by omega
  have hrun := run_uptoS Tryd.underlying22 infoB A (n := l.length) (c := c) hkl hn
  have hsk : Seg w A (encB P) := by rw [hPdef, encB_takeS]; exact hs.take 30
  have HP := Lib.hid (And.intro hk (And.intro hPdef hsk))
  clear hk hk2 hPdef hsk hs hl
  go_enter Tryd.func3, Tryd.ntmps3
  repeat' (first | go_at_call 5 | go_skip | go_guarded | go_step)
  refine (awake07_c w).mono ?_
  rintro e w0 ⟨rfl, f0⟩
  have F0 := Lib.hid f0
  clear f0
  go_simp
  obtain ⟨S, hS⟩ : ∃ S, S = s.take 300 := ⟨_, rfl⟩
  have hS9 : S.length ≤ 300 := by rw [hS, List.length_take]; omega
  by_cases h300 : 300 < s.length
  · have d1 : decide (300 < s.length) = true := by simp [h300]
    have b1 : (300 : Int) ≤ (s.length : Int) := by omega
    have HSS := Lib.hid hS
    clear hS
    repeat' (first
      | (at_builtin; refine wpList_appE (W := w0) rfl (.tmp 8) (.tmp 13) _ rfl 5 1 1 Tryd.underlying22 infoB (by decide) _ 0 [] rfl (own_lit [] 0 (by decide) rfl (Nat.le_refl _)) ((Ext.refl w0).alloc (Nat.le_refl _) _) A k c (encB P) rfl (by rw [encB_length, ← HP.out.1, Nat.mul_one]) ((HP.out.2.2.below F0.out).alloc _) (encB_one _) (by unfold maxLen; omega) (by omega) ?_
         intro v3 w3 hown hb
         rw [Nat.zero_add, List.nil_append] at hown
         obtain ⟨A3, C3, rfl⟩ := own_slice hown
         have H3 : Hid (Seg w3 A3 (encB P) ∧ w3.ownsRow w0.heap.size 5 1 (.slice A3 k C3) k (encB P) ∧ Ext w0 w3) := Lib.hid ⟨by
           obtain ⟨A', C', e', h1, h2, h3, h4⟩ := Sl.of_own hown
           injection e' with e1 e2 e3
           rw [e1]; exact h4, hown, hb⟩
         clear hown hb)
      | (go_not_at_region 6; (first | go_skip | go_guarded | go_step)))
    rw [← HSS.out]
    rename_i K hK
    refine texts_tail w0 w3 k C3 A3 P S hkm hS9 (Lib.hid HP.out.1) H3.out.2.2 (Lib.hid ⟨H3.out.1, H3.out.2.1⟩) _ _ K _ _ _ _ _ _ _ _ _ _ _ _ _ _ _ _ _ _ _ _ _ _ _ _ _ _ _ _ _ _ _ _ _ _ _ _ _ _ _ _ _ _ _ (by kernel_rfl) (by kernel_rfl) hK ?_
    intro a wx hd ht hE
    have HE := Lib.hid hE
    clear hE
    (try simp only [Exit.inBlock, Exit.then])
    repeat' go_step
    refine bodyPost_ret (results_tmp rfl _ _ _) hd ?_
    exact ⟨by rw [ht], Ext.trans F0.out HE.out⟩

  · have d1 : decide (300 < s.length) = false := by simp; omega
    have e1 : s.take 300 = s := List.take_of_length_le (by omega)
    rw [e1] at hS
    subst hS
    repeat' (first
      | (at_builtin; refine wpList_appE (W := w0) rfl (.tmp 8) (.tmp 13) _ rfl 5 1 1 Tryd.underlying22 infoB (by decide) _ 0 [] rfl (own_lit [] 0 (by decide) rfl (Nat.le_refl _)) ((Ext.refl w0).alloc (Nat.le_refl _) _) A k c (encB P) rfl (by rw [encB_length, ← HP.out.1, Nat.mul_one]) ((HP.out.2.2.below F0.out).alloc _) (encB_one _) (by unfold maxLen; omega) (by omega) ?_
         intro v3 w3 hown hb
         rw [Nat.zero_add, List.nil_append] at hown
         obtain ⟨A3, C3, rfl⟩ := own_slice hown
         have H3 : Hid (Seg w3 A3 (encB P) ∧ w3.ownsRow w0.heap.size 5 1 (.slice A3 k C3) k (encB P) ∧ Ext w0 w3) := Lib.hid ⟨by
           obtain ⟨A', C', e', h1, h2, h3, h4⟩ := Sl.of_own hown
           injection e' with e1 e2 e3
           rw [e1]; exact h4, hown, hb⟩
         clear hown hb)
      | (go_not_at_region 6; (first | go_skip | go_guarded | go_step)))
    rename_i K hK
    refine texts_tail w0 w3 k C3 A3 P S hkm hS9 (Lib.hid HP.out.1) H3.out.2.2 (Lib.hid ⟨H3.out.1, H3.out.2.1⟩) _ _ K _ _ _ _ _ _ _ _ _ _ _ _ _ _ _ _ _ _ _ _ _ _ _ _ _ _ _ _ _ _ _ _ _ _ _ _ _ _ _ _ _ _ _ (by kernel_rfl) (by kernel_rfl) hK ?_
    intro a wx hd ht hE
    have HE := Lib.hid hE
    clear hE
    (try simp only [Exit.inBlock, Exit.then])
    repeat' go_step
    refine bodyPost_ret (results_tmp rfl _ _ _) hd ?_
    exact ⟨by rw [ht], Ext.trans F0.out HE.out⟩

end Go.Proofs.YtbmakajadelckaaDoor
