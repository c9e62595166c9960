/- Contract: the document's trie, made. -/
import Derived.Test.YtclcgelbcbnekaaBl
set_option linter.unusedVariables false
set_option linter.unusedSimpArgs false
namespace Go.Proofs.Ytclcgelbcbnekaa
open Go.RowKit Go.QS Go.QS.Nk
set_option linter.unusedVariables false
variable [Zero (Nat → Prop)]
set_option linter.unusedSectionVars false

def OfOk (H : List UInt8 → Nat) (f : Nat) : Prop := ∀ (w : World) (v hv : Value) (l : List Pr) (lv : Nat), lv + f = 13 → PS w v l → Sl w 1 hv l.length (l.map fun p => .int .u64 (H p.1)) → l.length ≤ 100000 →
    (f = 0 → ∀ B W, KeepT B w W → PS W v l) →
    Calls Try.prog 146 #[v, hv, .int .i64 lv] w fun e w' => ∃ q, e = .returned (ptr q) ∧ Ext w w' ∧ ∀ W, KeepT w.heap.size w' W → DR H W f q l
/-- The same of a node that is no bucket: its own block may turn beside its kids. -/
def OfOkS (H : List UInt8 → Nat) (f : Nat) : Prop := ∀ (w : World) (v hv : Value) (l : List Pr) (lv : Nat), lv + (f + 1) = 13 → PS w v l → Sl w 1 hv l.length (l.map fun p => .int .u64 (H p.1)) → l.length ≤ 100000 →
    Calls Try.prog 146 #[v, hv, .int .i64 lv] w fun e w' => ∃ q A, e = .returned (ptr q) ∧ Ext w w' ∧ w.heap.size ≤ q ∧ w'.heap[q]? = some (.cells A TT (0, 0)) ∧ Zs A 32 ∧ ∀ W, KeepT (q + 1) w' W → ∀ c, c < 32 → EntOk (DR H W f) A c (Go.QS.part H lv c l)
set_option maxRecDepth 100000 in
set_option maxHeartbeats 2000000 in
theorem of_zero (H : List UInt8 → Nat) : OfOk H 0 := by
  intro w v hv l lv hlf hP hS h9 hB
  obtain rfl : lv = 13 := by omega
  have HB := Lib.hid (hB rfl)
  obtain ⟨A, c, rfl, _, _, _, _⟩ := hP
  clear hS hB
  go_enter Try.func146, Try.ntmps146
  repeat' (first | go_skip | go_guarded | go_step)
  go_ret
  have f0 := ext_alloc (Ext.refl w) (Obj.cells ((Try.zeroCells224.setIfInBounds 0 (Value.bool true)).setIfInBounds 1 (Value.slice A l.length c)) TT)
  refine ⟨_, rfl, f0, fun W hW => ?_⟩
  have hz := zs0.size
  have hq : W.heap[w.heap.size]? = _ := hW.heap (heap_new w _) (fun h => absurd h.1 (Nat.lt_irrefl _))
  refine ⟨_, _, hq, ?_, ?_, HB.out _ W (keepT_ext hW f0 (Nat.le_refl _)), fun c hc => ?_⟩
  · rw [Array.getElem?_setIfInBounds_ne (by omega), Array.getElem?_setIfInBounds_self_of_lt (by omega)]
  · rw [Array.getElem?_setIfInBounds_self_of_lt (by simp <;> omega)]
  · rw [Array.getElem?_setIfInBounds_ne (by omega), Array.getElem?_setIfInBounds_ne (by omega)]; exact zs0.is c (Nat.zero_le _) hc
set_option maxRecDepth 100000 in
set_option maxHeartbeats 4000000 in
theorem of_succS (H : List UInt8 → Nat) (hH : ∀ s, H s < 18446744073709551616) (f : Nat) (ih : OfOk H f) : OfOkS H f := by
  intro w v hv l lv hlf hP hS h9
  have hlv : lv < 13 := by omega
  have e12 : 12 - f = lv := by omega
  have d1 : ((lv : Int) == 13) = false := by rw [beq_eq_false_iff_ne]; omega
  have IH := Lib.hid ih
  have HP := Lib.hid hP
  have HS := Lib.hid hS
  obtain ⟨A, C, rfl, _, _, _, _⟩ := hP
  obtain ⟨A2, C2, rfl, _, _, _, _⟩ := hS
  clear ih
  go_enter Try.func146, Try.ntmps146
  repeat' (go_not_at_region 5; (first | go_skip | go_guarded | go_step))
  obtain ⟨q, hq⟩ : ∃ q, q = w.heap.size := ⟨_, rfl⟩
  rw [← hq]
  refine wp_named (fun w' => w'.heap[q]? = some (.cells Try.zeroCells224 TT (0, 0)) ∧ Ext w w') ⟨by rw [hq]; exact heap_new w _, (Ext.refl w).alloc (Nat.le_refl _) _⟩ ?_
  have HQ := Lib.hid hq
  clear hq
  intro wa HW
  go_loopg [8] 32 (fun gk v8 wr => ∃ c : Nat, v8 = .int .i64 c ∧ c ≤ 32 ∧ 32 - c ≤ gk ∧ Hid (∃ A, wr.heap[q]? = some (.cells A TT (0, 0)) ∧ Zs A c ∧ Ext w wr ∧ ∀ W, KeepT (q + 1) wr W → ∀ k, k < c → EntOk (DR H W f) A k (Go.QS.part H lv k l)))
  case atStart => exact ⟨0, rfl, by omega, by omega, Lib.hid ⟨_, HW.out.1, zs0, HW.out.2, fun W _ k hk => by omega⟩⟩
  case round =>
    obtain ⟨c, rfl, hc, hgk, HI⟩ := hrel
    rcases Nat.lt_or_ge c 32 with hlt | hge
    · have d2 : decide (c < 32) = true := by simp [hlt]
      repeat' (go_not_at_region 10; (first | go_skip | go_guarded | go_step))
      have d2i : decide ((c : Int) < 32) = true := by simp; omega
      simp only [d2i]
      clear d2i
      obtain ⟨wo, rfl⟩ : ∃ x, x = wr := ⟨_, rfl⟩
      go_loopg [9, 10, 26] l.length (fun gk v9 v10 v26 wq => ∃ i : Nat, v26 = .int .i64 i ∧ i ≤ l.length ∧ l.length - i ≤ gk ∧ Hid (Ext wo wq ∧ wq.ownsRow wo.heap.size RP 2 v9 (Go.QS.part H lv c (l.take i)).length (flat (Go.QS.part H lv c (l.take i))) ∧ wq.ownsRow wo.heap.size U64 1 v10 (Go.QS.part H lv c (l.take i)).length ((Go.QS.part H lv c (l.take i)).map fun p => .int .u64 (H p.1))))
      case atStart => exact ⟨0, rfl, Nat.zero_le _, by omega, Lib.hid ⟨Ext.refl _, World.ownsRow_nil _ _ _ _, World.ownsRow_nil _ _ _ _⟩⟩
      case round =>
        obtain ⟨i, rfl, hi, hgk2, HJ⟩ := hrel
        rcases Nat.lt_or_ge i l.length with hlt2 | hge2
        · have d3 : decide (i < l.length) = true := by simp [hlt2]
          have hi1 : (i : Int) < (l.length : Int) := by omega
          obtain ⟨p, hp⟩ := get_of_lt l hlt2
          have e0 : Ext w wr := by obtain ⟨_, _, _, f0, _⟩ := HI.out; exact f0.trans HJ.out.1
          obtain ⟨A', C', hA, _, _, _, hs⟩ := HP.out.below e0
          cases hA
          obtain ⟨b, o, rfl, h1, h2⟩ := seg_pair hs hp
          obtain ⟨A2', C2', hA2, _, _, _, hs2⟩ := HS.out.below e0
          cases hA2
          have hmp : (l.map fun p => Value.int .u64 (H p.1))[i]? = some (.int .u64 (H p.1)) := by rw [List.getElem?_map, hp]; rfl
          obtain ⟨bh, oh, rfl, h3⟩ := hs2 (fun e => by rw [e] at hmp; simp at hmp)
          have h3 := h3 i _ hmp
          obtain ⟨hp0, hhp⟩ : ∃ z, z = H p.1 := ⟨_, rfl⟩
          rw [← hhp] at h3
          have hbl := World.block_lt_of_cell? wr _ h3
          have hbw : bh < wo.heap.size := by
            obtain ⟨_, _, _, f0, _⟩ := HI.out
            have h3w := ((HS.out).below f0)
            obtain ⟨_, _, hAx, _, _, _, hs3⟩ := h3w
            cases hAx
            obtain ⟨_, _, e, h4⟩ := hs3 (fun e => by rw [e] at hmp; simp at hmp)
            cases e
            exact World.block_lt_of_cell? wo _ (h4 i _ hmp)
          have HL := Lib.hid (And.intro hp (And.intro e0 (And.intro h3 (And.intro hbw hhp))))
          have hx9 : hp0 < 18446744073709551616 := by rw [hhp]; exact hH _
          clear hp e0 hs hs2 hmp hbw hhp
          repeat' (go_not_at_region 12; (first | go_skip | go_guarded | go_step))
          obtain ⟨gp, hgp⟩ : ∃ g, g = wr.heap.size := ⟨_, rfl⟩
          rw [← hgp]
          refine wp_named (fun w' => w'.heap[gp]? = some (.cells #[str p.1, str p.2] RP (0, 0)) ∧ Ext wr w') ⟨by rw [hgp]; exact heap_new wr _, (Ext.refl wr).alloc (Nat.le_refl _) _⟩ ?_
          have HG := Lib.hid hgp
          clear hgp
          intro wb HB
          have h3b : wb.cell? ⟨bh, oh + i, none⟩ = some (.int .u64 hp0) := (HB.out.2.cell hbl).trans h3
          obtain ⟨g0, g1⟩ := key_cells HB.out.1
          clear h1 h2 h3
          repeat' (first | go_at_call 168 | go_skip | go_guarded | go_step)
          refine (rat_c wb hp0 lv hx9 hlv).mono ?_
          rintro e w1 ⟨rfl, rfl⟩
          go_simp
          by_cases hcc : chk hp0 lv = c
          · have d4 : (((chk hp0 lv : Nat) : Int) == (c : Int)) = true := by rw [beq_iff_eq]; omega
            have HCC := Lib.hid hcc
            clear hcc
            repeat' (go_not_at_region 13; (first | go_skip | go_guarded | go_step))
            refine of_13 wb wo.heap.size gp bh oh l.length i C2 hp0 u9 u10 (Go.QS.part H lv c (l.take i)) ((Go.QS.part H lv c (l.take i)).map fun p => .int .u64 (H p.1)) p ?_ hlt2 ?_ ?_ ?_ _ _ _ _ _ _ _ _ _ _ _ _ _ _ _ _ _ _ _ _ _ _ _ _ _ _ _ _ _ _ _ _ _ _ _ _ _ _ _ _ _ _ _ _ _ _ _ _ _ _ _ _ _ _ _ _ _ _ _ _ _ _ _ _ _ _ _ _ _ _ _ _ _ _ _ _ _ _ _ _ _ _ _ (by kernel_rfl) ?_
            · exact Lib.hid ⟨row_ext HJ.out.2.1 HB.out.2, by rw [List.length_map]; exact row_ext HJ.out.2.2 HB.out.2, g0, g1, h3b, fun e => by have := (HJ.out.2.1.lt _ e).2; have := HG.out; omega, fun e => by have := (HJ.out.2.2.lt _ e).2; have := HG.out; omega, fun e => by have := (HJ.out.2.1.lt _ e).1; have := HL.out.2.2.2.1; omega, fun e => by have := (HJ.out.2.2.lt _ e).1; have := HL.out.2.2.2.1; omega⟩
            · exact Nat.le_trans (part_length (l := l.take i)) (by rw [List.length_take]; omega)
            · rw [List.length_map]; exact Nat.le_trans (part_length (l := l.take i)) (by rw [List.length_take]; omega)
            · exact Nat.le_trans HJ.out.1.size HB.out.2.size
            · rintro u9 u10 u39 u40 u41 u42 u43 u44 u45 u46 u47 u48 u49 wx ⟨r9, r10, fo⟩
              have eX : Go.QS.part H lv c (l.take (i + 1)) = Go.QS.part H lv c (l.take i) ++ [p] := by rw [part_take HL.out.1, if_pos (by rw [← HL.out.2.2.2.2]; exact HCC.out)]
              have HX : Hid (Ext wo wx ∧ wx.ownsRow wo.heap.size RP 2 u9 (Go.QS.part H lv c (l.take (i + 1))).length (flat (Go.QS.part H lv c (l.take (i + 1)))) ∧ wx.ownsRow wo.heap.size U64 1 u10 (Go.QS.part H lv c (l.take (i + 1))).length ((Go.QS.part H lv c (l.take (i + 1))).map fun p => .int .u64 (H p.1))) := Lib.hid ⟨by
                  refine ((Only.of_ext (HJ.out.1.trans HB.out.2)).trans' fo (fun k hk hs => ?_)).ext (fun k hk hs => hs)
                  rcases hs with e | e
                  · have := (HJ.out.2.1.lt _ e).1; omega
                  · have := (HJ.out.2.2.lt _ e).1; omega, by rw [eX, List.length_append]; exact r9, by rw [eX, List.length_append, List.map_append]; rw [List.length_map, HL.out.2.2.2.2] at r10; exact r10⟩
              clear r9 r10 fo eX
              repeat' (first | go_skip | go_guarded | go_step)
              go_roundg (l.length - (i + 1))
              case measure => omega
              case rel => exact ⟨i + 1, by go_num, by omega, Nat.le_refl _, HX⟩
          · have d4 : (((chk hp0 lv : Nat) : Int) == (c : Int)) = false := by rw [beq_eq_false_iff_ne]; omega
            have HCC := Lib.hid hcc
            clear hcc
            have eX : Go.QS.part H lv c (l.take (i + 1)) = Go.QS.part H lv c (l.take i) := by rw [part_take HL.out.1, if_neg (by rw [← HL.out.2.2.2.2]; exact HCC.out), List.append_nil]
            have HX : Hid (Ext wo wb ∧ wb.ownsRow wo.heap.size RP 2 u9 (Go.QS.part H lv c (l.take (i + 1))).length (flat (Go.QS.part H lv c (l.take (i + 1)))) ∧ wb.ownsRow wo.heap.size U64 1 u10 (Go.QS.part H lv c (l.take (i + 1))).length ((Go.QS.part H lv c (l.take (i + 1))).map fun p => .int .u64 (H p.1))) := Lib.hid (by rw [eX]; exact ⟨HJ.out.1.trans HB.out.2, row_ext HJ.out.2.1 HB.out.2, row_ext HJ.out.2.2 HB.out.2⟩)
            clear eX
            repeat' (first | go_skip | go_guarded | go_step)
            go_roundg (l.length - (i + 1))
            case measure => omega
            case rel => exact ⟨i + 1, by go_num, by omega, Nat.le_refl _, HX⟩
        · obtain rfl : i = l.length := by omega
          have hJ := HJ.out
          rw [List.take_length] at hJ
          obtain ⟨f1, o9, o10⟩ := hJ
          obtain ⟨A0, hA0, hz, f0, hE⟩ := HI.out
          obtain ⟨X, hX⟩ : ∃ X, X = Go.QS.part H lv c l := ⟨_, rfl⟩
          have hX9 : X.length ≤ 100000 := by rw [hX]; exact Nat.le_trans part_length h9
          rw [← hX] at o9 o10
          have hqw : w.heap.size ≤ q := by have := HQ.out; omega
          have hqo : q < wo.heap.size := heap_lt hA0
          have HT : Hid (∀ W, KeepT (q + 1) wr W → ∀ k, k < c → EntOk (DR H W f) A0 k (Go.QS.part H lv k l)) := Lib.hid (fun W hW => hE W (keepT_ext hW f1 (by omega)))
          have hA1 : wr.heap[q]? = some (.cells A0 TT (0, 0)) := (f1.block q hqo).trans hA0
          have HD := Lib.hid (And.intro hA1 (And.intro hz (And.intro (f0.trans f1) hX)))
          match X, hX9 with
          | [], _ =>
            obtain ⟨A9, C9, rfl⟩ := own_slice o9
            have HX : Hid (∃ A, wr.heap[q]? = some (.cells A TT (0, 0)) ∧ Zs A (c + 1) ∧ Ext w wr ∧ ∀ W, KeepT (q + 1) wr W → ∀ k, k < c + 1 → EntOk (DR H W f) A k (Go.QS.part H lv k l)) := Lib.hid ⟨A0, hA1, hz.next, f0.trans f1, fun W hW => ents_no hz hlt (HT.out W hW) HD.out.2.2.2.symm⟩
            clear hA0 hE hX f1 o9 o10 f0 hz hA1
            repeat' (first | go_skip | go_guarded | go_step)
            go_roundg (32 - (c + 1))
            case measure => omega
            case rel => exact ⟨c + 1, by go_num, by omega, Nat.le_refl _, HX⟩
          | [p], _ =>
            rcases o9.2 with ⟨h, h'⟩ | ⟨g9, cap, cur, rfl, hb9, hh9, hn9, hc9, hs9, ht9⟩
            · simp at h'
            have hp1 : wr.cell? ⟨g9, 0, none⟩ = some (str p.1) ∧ wr.cell? ⟨g9, 1, none⟩ = some (str p.2) := by
              obtain ⟨A', C', e, _, _, _, hs⟩ := PS.of_own o9
              cases e
              obtain ⟨b, o, e, h1, h2⟩ := seg_pair hs (i := 0) rfl
              cases e
              exact ⟨h1, h2⟩
            have hg9 : g9 ≠ q := by omega
            have hcap : 1 ≤ cap := hn9
            have HK := Lib.hid (And.intro hp1 hg9)
            have hz0 := hz.is c (Nat.le_refl _) hlt
            have hz1 := hz.p1 c (Nat.le_refl _) hlt
            have hz2 := hz.p2 c (Nat.le_refl _) hlt
            have HZ := Lib.hid (And.intro hz0 (And.intro hz1 hz2))
            clear hA0 hE hX f1 o9 o10 f0 hz hA1 hb9 hh9 hn9 hc9 hs9 ht9 hp1 hg9 hz0 hz1 hz2
            repeat' (go_not_at_region 16; (first | go_skip | go_guarded | go_step))
            refine of_16 wr q c g9 0 cap A0 p _ _ _ hlt (Lib.hid ⟨HD.out.1, HZ.out.1, HZ.out.2.1, HZ.out.2.2, HK.out.1.1, HK.out.1.2, HK.out.2⟩) hcap _ _ _ _ _ _ _ _ _ _ _ _ _ _ _ _ _ _ _ _ _ _ _ _ _ _ _ _ _ _ _ _ _ _ _ _ _ _ _ _ _ _ _ _ _ _ _ _ _ _ _ _ _ _ _ _ _ _ _ _ _ _ _ _ _ _ _ _ _ _ _ _ _ _ _ _ _ _ _ _ _ _ _ _ _ (by kernel_rfl) ?_
            rintro u54 u55 u56 u57 u58 u59 u60 u61 u62 u63 u64 u65 u66 wx ⟨hx, fo⟩
            have HX : Hid (∃ A, wx.heap[q]? = some (.cells A TT (0, 0)) ∧ Zs A (c + 1) ∧ Ext w wx ∧ ∀ W, KeepT (q + 1) wx W → ∀ k, k < c + 1 → EntOk (DR H W f) A k (Go.QS.part H lv k l)) := Lib.hid ⟨_, hx, HD.out.2.1.setP hlt p, ((Only.of_ext HD.out.2.2.1).trans' (T := fun k => k = q) (S := fun k => k = q) fo (fun k _ hk => hk)).ext (fun k hk e => by omega), fun W hW => ents_pr HD.out.2.1 hlt (HT.out W (keepT_set hW fo (by omega) HD.out.1)) HD.out.2.2.2.symm⟩
            clear hx fo
            repeat' (first | go_skip | go_guarded | go_step)
            go_roundg (32 - (c + 1))
            case measure => omega
            case rel => exact ⟨c + 1, by go_num, by omega, Nat.le_refl _, HX⟩
          | p :: p' :: t, hX9 =>
            obtain ⟨X, hXe⟩ : ∃ X, X = p :: p' :: t := ⟨_, rfl⟩
            have hX2 : 2 ≤ X.length := by rw [hXe]; simp
            rw [← hXe] at o9 o10 HD hX9
            clear hXe hX
            obtain ⟨m, hm⟩ : ∃ m, m = X.length := ⟨_, rfl⟩
            have HC : Hid (∀ W, Ext wr W → Calls Try.prog 146 #[u9, u10, .int .i64 ((lv + 1 : Nat) : Int)] W fun e w2 => ∃ q2, e = .returned (ptr q2) ∧ Ext W w2 ∧ ∀ V, KeepT W.heap.size w2 V → DR H V f q2 X) := Lib.hid (fun W fW => by
              have r9 := row_ext o9 fW
              have r10 := row_ext o10 fW
              have h10 : Sl W 1 u10 X.length (X.map fun p => .int .u64 (H p.1)) := Sl.of_own r10
              exact IH.out W u9 u10 X (lv + 1) (by omega) (PS.of_own r9) h10 hX9 (fun _ B V hV => keepT_row hV r9))
            have HC2 : Hid (∀ W, Ext wr W → Calls Try.prog 146 #[u9, u10, .int .i64 ((lv + 1 : Nat) : Int)] W fun e w2 => ∃ q2, e = .returned (ptr q2) ∧ Ext W w2 ∧ (wr.heap.size ≤ W.heap.size → ∀ V, KeepT wr.heap.size w2 V → DR H V f q2 X)) := Lib.hid (fun W fW => (HC.out W fW).mono (fun e w2 ⟨q2, h1, h2, h3⟩ => ⟨q2, h1, h2, fun hs V hV => h3 V (keepT_mono hV hs)⟩))
            obtain ⟨A9, C9, rfl⟩ := own_slice o9
            rw [← hm] at HC HC2 hX2
            have dA : ((m : Int) == 1) = false := by rw [beq_eq_false_iff_ne]; omega
            have dB : decide (1 < m) = true := by simp; omega
            have hz0 := hz.is c (Nat.le_refl _) hlt
            have hz1 := hz.kd c (Nat.le_refl _) hlt
            have HZ := Lib.hid (And.intro hz0 hz1)
            have hqr : q < wr.heap.size := by have := f1.size; omega
            rw [← hm]
            have HM := Lib.hid hm
            clear hA0 hE f1 o9 o10 f0 hz hA1 hz0 hz1 hm HC
            repeat' (go_not_at_region 18; (first | go_skip | go_guarded | go_step))
            refine of_18 wr q c lv _ _ A0 _ _ (fun q2 w2 => Ext wr w2 ∧ ∀ V, KeepT wr.heap.size w2 V → DR H V f q2 X) hlt (by omega) (Lib.hid ⟨HD.out.1, HZ.out.1, HZ.out.2⟩) (Lib.hid (fun W fW => (HC2.out W fW).mono (fun e w2 ⟨q2, h1, h2, h3⟩ => ⟨q2, h1, h2, fW.trans h2, h3 fW.size⟩))) _ _ _ _ _ _ _ _ _ _ _ _ _ _ _ _ _ _ _ _ _ _ _ _ _ _ _ _ _ _ _ _ _ _ _ _ _ _ _ _ _ _ _ _ _ _ _ _ _ _ _ _ _ _ _ _ _ _ _ _ _ _ _ _ _ _ _ _ _ _ _ _ _ _ _ _ _ _ _ _ _ _ _ (by kernel_rfl) ?_
            rintro u70 u71 u72 u73 u74 u75 u76 u77 u78 u79 u80 u81 u82 u83 u84 wx ⟨q2, w2, f2, ⟨_, hR⟩, hx, fo⟩
            have HX : Hid (∃ A, wx.heap[q]? = some (.cells A TT (0, 0)) ∧ Zs A (c + 1) ∧ Ext w wx ∧ ∀ W, KeepT (q + 1) wx W → ∀ k, k < c + 1 → EntOk (DR H W f) A k (Go.QS.part H lv k l)) := Lib.hid ⟨_, hx, HD.out.2.1.setK hlt q2, ((Only.of_ext (HD.out.2.2.1.trans f2)).trans' (T := fun k => k = q) (S := fun k => k = q) fo (fun k _ hk => hk)).ext (fun k hk e => by omega), fun W hW => by
                have hW2 := keepT_set hW fo (by omega) ((f2.block q hqr).trans HD.out.1)
                exact ents_kid HD.out.2.1 hlt (HT.out W (keepT_ext hW2 f2 (by omega))) (by rw [← HD.out.2.2.2, ← HM.out]; exact hX2) (by rw [← HD.out.2.2.2]; exact hR W (keepT_mono hW2 (by omega)))⟩
            clear hx fo hR f2
            repeat' (first | go_skip | go_guarded | go_step)
            go_roundg (32 - (c + 1))
            case measure => omega
            case rel => exact ⟨c + 1, by go_num, by omega, Nat.le_refl _, HX⟩
    · obtain rfl : c = 32 := by omega
      repeat' (first | go_skip | go_guarded | go_step)
      go_ret
      obtain ⟨A, hA, hz, f0, hE⟩ := HI.out
      have hq := HQ.out
      exact ⟨_, A, rfl, f0, by omega, hA, hz, hE⟩
theorem of_succ (H : List UInt8 → Nat) (hH : ∀ s, H s < 18446744073709551616) (f : Nat) (ih : OfOk H f) : OfOk H (f + 1) := by
  intro w v hv l lv hlf hP hS h9 _
  refine (of_succS H hH f ih w v hv l lv hlf hP hS h9).mono ?_
  rintro e w' ⟨q, A, rfl, f0, hq, hA, hz, hE⟩
  refine ⟨q, rfl, f0, fun W hW => ?_⟩
  refine ⟨A, hW.heap hA (fun h => by omega), hz.bk, fun k hk => ?_, hz.sl⟩
  rw [show 12 - f = lv by omega]
  exact hE W (keepT_mono hW (by omega)) k hk
end Go.Proofs.Ytclcgelbcbnekaa
