/- Texts joined. -/
import Derived.Test.YtclcgelbcbnekaaDoorM33
import Derived.Test.YtclcgelbcbnekaaDoorM13
import Derived.Test.YtclcgelbcbnekaaDoorM08
import Derived.Laws.Rows
import Derived.Deep.LoopGhost
set_option linter.unusedVariables false
set_option linter.unusedSimpArgs false
/- Contract: the document's trie, made. -/
namespace Go.Proofs.YtclcgelbcbnekaaDoor
open Go.RowKit Go.QS Go.QS.Nk
set_option linter.unusedVariables false
variable [Zero (Nat → Prop)]
set_option linter.unusedSectionVars false

def OfOk (H : List UInt8 → Nat) (f : Nat) : Prop := ∀ (w : World) (v hv : Value) (l : List Pr) (lv : Nat), lv + f = 13 → PS w v l → Sl w 1 hv l.length (l.map fun p => .int .u64 (H p.1)) → l.length ≤ 100000 →
    (f = 0 → ∀ B W, KeepT B w W → PS W v l) →
    Calls Tryd.prog 38 #[v, hv, .int .i64 lv] w fun e w' => ∃ q, e = .returned (ptr q) ∧ Ext w w' ∧ ∀ W, KeepT w.heap.size w' W → DR H W f q l
/-- The same of a node that is no bucket: its own block may turn beside its kids. -/
def OfOkS (H : List UInt8 → Nat) (f : Nat) : Prop := ∀ (w : World) (v hv : Value) (l : List Pr) (lv : Nat), lv + (f + 1) = 13 → PS w v l → Sl w 1 hv l.length (l.map fun p => .int .u64 (H p.1)) → l.length ≤ 100000 →
    Calls Tryd.prog 38 #[v, hv, .int .i64 lv] w fun e w' => ∃ q A, e = .returned (ptr q) ∧ Ext w w' ∧ w.heap.size ≤ q ∧ w'.heap[q]? = some (.cells A TT (0, 0)) ∧ Zs A 32 ∧ ∀ W, KeepT (q + 1) w' W → ∀ c, c < 32 → EntOk (DR H W f) A c (Go.QS.part H lv c l)
set_option maxRecDepth 100000 in
set_option maxHeartbeats 2000000 in
theorem of_zero (H : List UInt8 → Nat) : OfOk H 0 := by
  intro w v hv l lv hlf hP hS h9 hB
  obtain rfl : lv = 13 := by omega
  have HB := Lib.hid (hB rfl)
  obtain ⟨A, c, rfl, _, _, _, _⟩ := hP
  clear hS hB
  go_enter Tryd.func38, Tryd.ntmps38
  repeat' (first | go_skip | go_guarded | go_step)
  go_ret
  have f0 := ext_alloc (Ext.refl w) (Obj.cells ((Tryd.zeroCells57.setIfInBounds 0 (Value.bool true)).setIfInBounds 1 (Value.slice A l.length c)) TT)
  refine ⟨_, rfl, f0, fun W hW => ?_⟩
  have hz := zs0.size
  have hq : W.heap[w.heap.size]? = _ := hW.heap (heap_new w _) (fun h => absurd h.1 (Nat.lt_irrefl _))
  refine ⟨_, _, hq, ?_, ?_, HB.out _ W (keepT_ext hW f0 (Nat.le_refl _)), fun c hc => ?_⟩
  · rw [Array.getElem?_setIfInBounds_ne (by omega), Array.getElem?_setIfInBounds_self_of_lt (by omega)]
  · rw [Array.getElem?_setIfInBounds_self_of_lt (by simp <;> omega)]
  · rw [Array.getElem?_setIfInBounds_ne (by omega), Array.getElem?_setIfInBounds_ne (by omega)]; exact zs0.is c (Nat.zero_le _) hc
set_option maxRecDepth 100000 in
set_option maxHeartbeats 4000000 in
theorem of_succS (H : List UInt8 → Nat) (hH : ∀ s, H s < 18446744073709551616) (f : Nat) (ih : OfOk H f) : OfOkS H f := by
  intro w v hv l lv hlf hP hS h9
  have hlv : lv < 13 := by omega
  have e12 : 12 - f = lv := by omega
  have d1 : ((lv : Int) == 13) = false := by rw [beq_eq_false_iff_ne]; omega
  have IH := Lib.hid ih
  have HP := Lib.hid hP
  have HS := Lib.hid hS
  obtain ⟨A, C, rfl, _, _, _, _⟩ := hP
  obtain ⟨A2, C2, rfl, _, _, _, _⟩ := hS
  clear ih
  go_enter Tryd.func38, Tryd.ntmps38
  repeat' (go_not_at_region 5; (first | go_skip | go_guarded | go_step))
  obtain ⟨q, hq⟩ : ∃ q, q = w.heap.size := ⟨_, rfl⟩
  rw [← hq]
  refine wp_named (fun w' => w'.heap[q]? = some (.cells Tryd.zeroCells57 TT (0, 0)) ∧ Ext w w') ⟨by rw [hq]; exact heap_new w _, (Ext.refl w).alloc (Nat.le_refl _) _⟩ ?_
  have HQ := Lib.hid hq
  clear hq
  intro wa HW
  go_loopg [8] 32 (fun gk v8 wr => ∃ c : Nat, v8 = .int .i64 c ∧ c ≤ 32 ∧ 32 - c ≤ gk ∧ Hid (∃ A, wr.heap[q]? = some (.cells A TT (0, 0)) ∧ Zs A c ∧ Ext w wr ∧ ∀ W, KeepT (q + 1) wr W → ∀ k, k < c → EntOk (DR H W f) A k (Go.QS.part H lv k l)))
  case atStart => exact ⟨0, rfl, by omega, by omega, Lib.hid ⟨_, HW.out.1, zs0, HW.out.2, fun W _ k hk => by omega⟩⟩
  case round =>
    obtain ⟨c, rfl, hc, hgk, HI⟩ := hrel
    rcases Nat.lt_or_ge c 32 with hlt | hge
    · have d2 : decide (c < 32) = true := by simp [hlt]
      repeat' (go_not_at_region 10; (first | go_skip | go_guarded | go_step))
      have d2i : decide ((c : Int) < 32) = true := by simp; omega
      simp only [d2i]
      clear d2i
      obtain ⟨wo, rfl⟩ : ∃ x, x = wr := ⟨_, rfl⟩
      go_loopg [9, 10, 26] l.length (fun gk v9 v10 v26 wq => ∃ i : Nat, v26 = .int .i64 i ∧ i ≤ l.length ∧ l.length - i ≤ gk ∧ Hid (Ext wo wq ∧ wq.ownsRow wo.heap.size RP 2 v9 (Go.QS.part H lv c (l.take i)).length (flat (Go.QS.part H lv c (l.take i))) ∧ wq.ownsRow wo.heap.size U64 1 v10 (Go.QS.part H lv c (l.take i)).length ((Go.QS.part H lv c (l.take i)).map fun p => .int .u64 (H p.1))))
      case atStart => exact ⟨0, rfl, Nat.zero_le _, by omega, Lib.hid ⟨Ext.refl _, World.ownsRow_nil _ _ _ _, World.ownsRow_nil _ _ _ _⟩⟩
      case round =>
        obtain ⟨i, rfl, hi, hgk2, HJ⟩ := hrel
        rcases Nat.lt_or_ge i l.length with hlt2 | hge2
        · have d3 : decide (i < l.length) = true := by simp [hlt2]
          have hi1 : (i : Int) < (l.length : Int) := by omega
          obtain ⟨p, hp⟩ := get_of_lt l hlt2
          have e0 : Ext w wr := by obtain ⟨_, _, _, f0, _⟩ := HI.out; exact f0.trans HJ.out.1
          obtain ⟨A', C', hA, _, _, _, hs⟩ := HP.out.below e0
          cases hA
          obtain ⟨b, o, rfl, h1, h2⟩ := seg_pair hs hp
          obtain ⟨A2', C2', hA2, _, _, _, hs2⟩ := HS.out.below e0
          cases hA2
          have hmp : (l.map fun p => Value.int .u64 (H p.1))[i]? = some (.int .u64 (H p.1)) := by rw [List.getElem?_map, hp]; rfl
          obtain ⟨bh, oh, rfl, h3⟩ := hs2 (fun e => by rw [e] at hmp; simp at hmp)
          have h3 := h3 i _ hmp
          obtain ⟨hp0, hhp⟩ : ∃ z, z = H p.1 := ⟨_, rfl⟩
          rw [← hhp] at h3
          have hbl := World.block_lt_of_cell? wr _ h3
          have hbw : bh < wo.heap.size := by
            obtain ⟨_, _, _, f0, _⟩ := HI.out
            have h3w := ((HS.out).below f0)
            obtain ⟨_, _, hAx, _, _, _, hs3⟩ := h3w
            cases hAx
            obtain ⟨_, _, e, h4⟩ := hs3 (fun e => by rw [e] at hmp; simp at hmp)
            cases e
            exact World.block_lt_of_cell? wo _ (h4 i _ hmp)
          have HL := Lib.hid (And.intro hp (And.intro e0 (And.intro h3 (And.intro hbw hhp))))
          have hx9 : hp0 < 18446744073709551616 := by rw [hhp]; exact hH _
          clear hp e0 hs hs2 hmp hbw hhp
          repeat' (go_not_at_region 12; (first | go_skip | go_guarded | go_step))
          obtain ⟨gp, hgp⟩ : ∃ g, g = wr.heap.size := ⟨_, rfl⟩
          rw [← hgp]
          refine wp_named (fun w' => w'.heap[gp]? = some (.cells #[str p.1, str p.2] RP (0, 0)) ∧ Ext wr w') ⟨by rw [hgp]; exact heap_new wr _, (Ext.refl wr).alloc (Nat.le_refl _) _⟩ ?_
          have HG := Lib.hid hgp
          clear hgp
          intro wb HB
          have h3b : wb.cell? ⟨bh, oh + i, none⟩ = some (.int .u64 hp0) := (HB.out.2.cell hbl).trans h3
          obtain ⟨g0, g1⟩ := key_cells HB.out.1
          clear h1 h2 h3
          repeat' (first | go_at_call 70 | go_skip | go_guarded | go_step)
          refine (rat_c wb hp0 lv hx9 hlv).mono ?_
          rintro e w1 ⟨rfl, rfl⟩
          go_simp
          by_cases hcc : chk hp0 lv = c
          · have d4 : (((chk hp0 lv : Nat) : Int) == (c : Int)) = true := by rw [beq_iff_eq]; omega
            have HCC := Lib.hid hcc
            clear hcc
            repeat' (go_not_at_region 13; (first | go_skip | go_guarded | go_step))
            refine of_13 wb wo.heap.size gp bh oh l.length i C2 hp0 u9 u10 (Go.QS.part H lv c (l.take i)) ((Go.QS.part H lv c (l.take i)).map fun p => .int .u64 (H p.1)) p ?_ hlt2 ?_ ?_ ?_ _ _ _ _ _ _ _ _ _ _ _ _ _ _ _ _ _ _ _ _ _ _ _ _ _ _ _ _ _ _ _ _ _ _ _ _ _ _ _ _ _ _ _ _ _ _ _ _ _ _ _ _ _ _ _ _ _ _ _ _ _ _ _ _ _ _ _ _ _ _ _ _ _ _ _ _ _ _ _ _ _ _ _ (by kernel_rfl) ?_
            · exact Lib.hid ⟨row_ext HJ.out.2.1 HB.out.2, by rw [List.length_map]; exact row_ext HJ.out.2.2 HB.out.2, g0, g1, h3b, fun e => by have := (HJ.out.2.1.lt _ e).2; have := HG.out; omega, fun e => by have := (HJ.out.2.2.lt _ e).2; have := HG.out; omega, fun e => by have := (HJ.out.2.1.lt _ e).1; have := HL.out.2.2.2.1; omega, fun e => by have := (HJ.out.2.2.lt _ e).1; have := HL.out.2.2.2.1; omega⟩
            · exact Nat.le_trans (part_length (l := l.take i)) (by rw [List.length_take]; omega)
            · rw [List.length_map]; exact Nat.le_trans (part_length (l := l.take i)) (by rw [List.length_take]; omega)
            · exact Nat.le_trans HJ.out.1.size HB.out.2.size
            · rintro u9 u10 u39 u40 u41 u42 u43 u44 u45 u46 u47 u48 u49 wx ⟨r9, r10, fo⟩
              have eX : Go.QS.part H lv c (l.take (i + 1)) = Go.QS.part H lv c (l.take i) ++ [p] := by rw [part_take HL.out.1, if_pos (by rw [← HL.out.2.2.2.2]; exact HCC.out)]
              have HX : Hid (Ext wo wx ∧ wx.ownsRow wo.heap.size RP 2 u9 (Go.QS.part H lv c (l.take (i + 1))).length (flat (Go.QS.part H lv c (l.take (i + 1)))) ∧ wx.ownsRow wo.heap.size U64 1 u10 (Go.QS.part H lv c (l.take (i + 1))).length ((Go.QS.part H lv c (l.take (i + 1))).map fun p => .int .u64 (H p.1))) := Lib.hid ⟨by
                  refine ((Only.of_ext (HJ.out.1.trans HB.out.2)).trans' fo (fun k hk hs => ?_)).ext (fun k hk hs => hs)
                  rcases hs with e | e
                  · have := (HJ.out.2.1.lt _ e).1; omega
                  · have := (HJ.out.2.2.lt _ e).1; omega, by rw [eX, List.length_append]; exact r9, by rw [eX, List.length_append, List.map_append]; rw [List.length_map, HL.out.2.2.2.2] at r10; exact r10⟩
              clear r9 r10 fo eX
              repeat' (first | go_skip | go_guarded | go_step)
              go_roundg (l.length - (i + 1))
              case measure => omega
              case rel => exact ⟨i + 1, by go_num, by omega, Nat.le_refl _, HX⟩
          · have d4 : (((chk hp0 lv : Nat) : Int) == (c : Int)) = false := by rw [beq_eq_false_iff_ne]; omega
            have HCC := Lib.hid hcc
            clear hcc
            have eX : Go.QS.part H lv c (l.take (i + 1)) = Go.QS.part H lv c (l.take i) := by rw [part_take HL.out.1, if_neg (by rw [← HL.out.2.2.2.2]; exact HCC.out), List.append_nil]
            have HX : Hid (Ext wo wb ∧ wb.ownsRow wo.heap.size RP 2 u9 (Go.QS.part H lv c (l.take (i + 1))).length (flat (Go.QS.part H lv c (l.take (i + 1)))) ∧ wb.ownsRow wo.heap.size U64 1 u10 (Go.QS.part H lv c (l.take (i + 1))).length ((Go.QS.part H lv c (l.take (i + 1))).map fun p => .int .u64 (H p.1))) := Lib.hid (by rw [eX]; exact ⟨HJ.out.1.trans HB.out.2, row_ext HJ.out.2.1 HB.out.2, row_ext HJ.out.2.2 HB.out.2⟩)
            clear eX
            repeat' (first | go_skip | go_guarded | go_step)
            go_roundg (l.length - (i + 1))
            case measure => omega
            case rel => exact ⟨i + 1, by go_num, by omega, Nat.le_refl _, HX⟩
        · obtain rfl : i = l.length := by omega
          have hJ := HJ.out
          rw [List.take_length] at hJ
          obtain ⟨f1, o9, o10⟩ := hJ
          obtain ⟨A0, hA0, hz, f0, hE⟩ := HI.out
          obtain ⟨X, hX⟩ : ∃ X, X = Go.QS.part H lv c l := ⟨_, rfl⟩
          have hX9 : X.length ≤ 100000 := by rw [hX]; exact Nat.le_trans part_length h9
          rw [← hX] at o9 o10
          have hqw : w.heap.size ≤ q := by have := HQ.out; omega
          have hqo : q < wo.heap.size := heap_lt hA0
          have HT : Hid (∀ W, KeepT (q + 1) wr W → ∀ k, k < c → EntOk (DR H W f) A0 k (Go.QS.part H lv k l)) := Lib.hid (fun W hW => hE W (keepT_ext hW f1 (by omega)))
          have hA1 : wr.heap[q]? = some (.cells A0 TT (0, 0)) := (f1.block q hqo).trans hA0
          have HD := Lib.hid (And.intro hA1 (And.intro hz (And.intro (f0.trans f1) hX)))
          match X, hX9 with
          | [], _ =>
            obtain ⟨A9, C9, rfl⟩ := own_slice o9
            have HX : Hid (∃ A, wr.heap[q]? = some (.cells A TT (0, 0)) ∧ Zs A (c + 1) ∧ Ext w wr ∧ ∀ W, KeepT (q + 1) wr W → ∀ k, k < c + 1 → EntOk (DR H W f) A k (Go.QS.part H lv k l)) := Lib.hid ⟨A0, hA1, hz.next, f0.trans f1, fun W hW => ents_no hz hlt (HT.out W hW) HD.out.2.2.2.symm⟩
            clear hA0 hE hX f1 o9 o10 f0 hz hA1
            repeat' (first | go_skip | go_guarded | go_step)
            go_roundg (32 - (c + 1))
            case measure => omega
            case rel => exact ⟨c + 1, by go_num, by omega, Nat.le_refl _, HX⟩
          | [p], _ =>
            rcases o9.2 with ⟨h, h'⟩ | ⟨g9, cap, cur, rfl, hb9, hh9, hn9, hc9, hs9, ht9⟩
            · simp at h'
            have hp1 : wr.cell? ⟨g9, 0, none⟩ = some (str p.1) ∧ wr.cell? ⟨g9, 1, none⟩ = some (str p.2) := by
              obtain ⟨A', C', e, _, _, _, hs⟩ := PS.of_own o9
              cases e
              obtain ⟨b, o, e, h1, h2⟩ := seg_pair hs (i := 0) rfl
              cases e
              exact ⟨h1, h2⟩
            have hg9 : g9 ≠ q := by omega
            have hcap : 1 ≤ cap := hn9
            have HK := Lib.hid (And.intro hp1 hg9)
            have hz0 := hz.is c (Nat.le_refl _) hlt
            have hz1 := hz.p1 c (Nat.le_refl _) hlt
            have hz2 := hz.p2 c (Nat.le_refl _) hlt
            have HZ := Lib.hid (And.intro hz0 (And.intro hz1 hz2))
            clear hA0 hE hX f1 o9 o10 f0 hz hA1 hb9 hh9 hn9 hc9 hs9 ht9 hp1 hg9 hz0 hz1 hz2
            repeat' (go_not_at_region 16; (first | go_skip | go_guarded | go_step))
            refine of_16 wr q c g9 0 cap A0 p _ _ _ hlt (Lib.hid ⟨HD.out.1, HZ.out.1, HZ.out.2.1, HZ.out.2.2, HK.out.1.1, HK.out.1.2, HK.out.2⟩) hcap _ _ _ _ _ _ _ _ _ _ _ _ _ _ _ _ _ _ _ _ _ _ _ _ _ _ _ _ _ _ _ _ _ _ _ _ _ _ _ _ _ _ _ _ _ _ _ _ _ _ _ _ _ _ _ _ _ _ _ _ _ _ _ _ _ _ _ _ _ _ _ _ _ _ _ _ _ _ _ _ _ _ _ _ _ (by kernel_rfl) ?_
            rintro u54 u55 u56 u57 u58 u59 u60 u61 u62 u63 u64 u65 u66 wx ⟨hx, fo⟩
            have HX : Hid (∃ A, wx.heap[q]? = some (.cells A TT (0, 0)) ∧ Zs A (c + 1) ∧ Ext w wx ∧ ∀ W, KeepT (q + 1) wx W → ∀ k, k < c + 1 → EntOk (DR H W f) A k (Go.QS.part H lv k l)) := Lib.hid ⟨_, hx, HD.out.2.1.setP hlt p, ((Only.of_ext HD.out.2.2.1).trans' (T := fun k => k = q) (S := fun k => k = q) fo (fun k _ hk => hk)).ext (fun k hk e => by omega), fun W hW => ents_pr HD.out.2.1 hlt (HT.out W (keepT_set hW fo (by omega) HD.out.1)) HD.out.2.2.2.symm⟩
            clear hx fo
            repeat' (first | go_skip | go_guarded | go_step)
            go_roundg (32 - (c + 1))
            case measure => omega
            case rel => exact ⟨c + 1, by go_num, by omega, Nat.le_refl _, HX⟩
          | p :: p' :: t, hX9 =>
            obtain ⟨X, hXe⟩ : ∃ X, X = p :: p' :: t := ⟨_, rfl⟩
            have hX2 : 2 ≤ X.length := by rw [hXe]; simp
            rw [← hXe] at o9 o10 HD hX9
            clear hXe hX
            obtain ⟨m, hm⟩ : ∃ m, m = X.length := ⟨_, rfl⟩
            have HC : Hid (∀ W, Ext wr W → Calls Tryd.prog 38 #[u9, u10, .int .i64 ((lv + 1 : Nat) : Int)] W fun e w2 => ∃ q2, e = .returned (ptr q2) ∧ Ext W w2 ∧ ∀ V, KeepT W.heap.size w2 V → DR H V f q2 X) := Lib.hid (fun W fW => by
              have r9 := row_ext o9 fW
              have r10 := row_ext o10 fW
              have h10 : Sl W 1 u10 X.length (X.map fun p => .int .u64 (H p.1)) := Sl.of_own r10
              exact IH.out W u9 u10 X (lv + 1) (by omega) (PS.of_own r9) h10 hX9 (fun _ B V hV => keepT_row hV r9))
            have HC2 : Hid (∀ W, Ext wr W → Calls Tryd.prog 38 #[u9, u10, .int .i64 ((lv + 1 : Nat) : Int)] W fun e w2 => ∃ q2, e = .returned (ptr q2) ∧ Ext W w2 ∧ (wr.heap.size ≤ W.heap.size → ∀ V, KeepT wr.heap.size w2 V → DR H V f q2 X)) := Lib.hid (fun W fW => (HC.out W fW).mono (fun e w2 ⟨q2, h1, h2, h3⟩ => ⟨q2, h1, h2, fun hs V hV => h3 V (keepT_mono hV hs)⟩))
            obtain ⟨A9, C9, rfl⟩ := own_slice o9
            rw [← hm] at HC HC2 hX2
            have dA : ((m : Int) == 1) = false := by rw [beq_eq_false_iff_ne]; omega
            have dB : decide (1 < m) = true := by simp; omega
            have hz0 := hz.is c (Nat.le_refl _) hlt
            have hz1 := hz.kd c (Nat.le_refl _) hlt
            have HZ := Lib.hid (And.intro hz0 hz1)
            have hqr : q < wr.heap.size := by have := f1.size; omega
            rw [← hm]
            have HM := Lib.hid hm
            clear hA0 hE f1 o9 o10 f0 hz hA1 hz0 hz1 hm HC
            repeat' (go_not_at_region 18; (first | go_skip | go_guarded | go_step))
            refine of_18 wr q c lv _ _ A0 _ _ (fun q2 w2 => Ext wr w2 ∧ ∀ V, KeepT wr.heap.size w2 V → DR H V f q2 X) hlt (by omega) (Lib.hid ⟨HD.out.1, HZ.out.1, HZ.out.2⟩) (Lib.hid (fun W fW => (HC2.out W fW).mono (fun e w2 ⟨q2, h1, h2, h3⟩ => ⟨q2, h1, h2, fW.trans h2, h3 fW.size⟩))) _ _ _ _ _ _ _ _ _ _ _ _ _ _ _ _ _ _ _ _ _ _ _ _ _ _ _ _ _ _ _ _ _ _ _ _ _ _ _ _ _ _ _ _ _ _ _ _ _ _ _ _ _ _ _ _ _ _ _ _ _ _ _ _ _ _ _ _ _ _ _ _ _ _ _ _ _ _ _ _ _ _ _ (by kernel_rfl) ?_
            rintro u70 u71 u72 u73 u74 u75 u76 u77 u78 u79 u80 u81 u82 u83 u84 wx ⟨q2, w2, f2, ⟨_, hR⟩, hx, fo⟩
            have HX : Hid (∃ A, wx.heap[q]? = some (.cells A TT (0, 0)) ∧ Zs A (c + 1) ∧ Ext w wx ∧ ∀ W, KeepT (q + 1) wx W → ∀ k, k < c + 1 → EntOk (DR H W f) A k (Go.QS.part H lv k l)) := Lib.hid ⟨_, hx, HD.out.2.1.setK hlt q2, ((Only.of_ext (HD.out.2.2.1.trans f2)).trans' (T := fun k => k = q) (S := fun k => k = q) fo (fun k _ hk => hk)).ext (fun k hk e => by omega), fun W hW => by
                have hW2 := keepT_set hW fo (by omega) ((f2.block q hqr).trans HD.out.1)
                exact ents_kid HD.out.2.1 hlt (HT.out W (keepT_ext hW2 f2 (by omega))) (by rw [← HD.out.2.2.2, ← HM.out]; exact hX2) (by rw [← HD.out.2.2.2]; exact hR W (keepT_mono hW2 (by omega)))⟩
            clear hx fo hR f2
            repeat' (first | go_skip | go_guarded | go_step)
            go_roundg (32 - (c + 1))
            case measure => omega
            case rel => exact ⟨c + 1, by go_num, by omega, Nat.le_refl _, HX⟩
    · obtain rfl : c = 32 := by omega
      repeat' (first | go_skip | go_guarded | go_step)
      go_ret
      obtain ⟨A, hA, hz, f0, hE⟩ := HI.out
      have hq := HQ.out
      exact ⟨_, A, rfl, f0, by omega, hA, hz, hE⟩
theorem of_succ (H : List UInt8 → Nat) (hH : ∀ s, H s < 18446744073709551616) (f : Nat) (ih : OfOk H f) : OfOk H (f + 1) := by
  intro w v hv l lv hlf hP hS h9 _
  refine (of_succS H hH f ih w v hv l lv hlf hP hS h9).mono ?_
  rintro e w' ⟨q, A, rfl, f0, hq, hA, hz, hE⟩
  refine ⟨q, rfl, f0, fun W hW => ?_⟩
  refine ⟨A, hW.heap hA (fun h => by omega), hz.bk, fun k hk => ?_, hz.sl⟩
  rw [show 12 - f = lv by omega]
  exact hE W (keepT_mono hW (by omega)) k hk
end Go.Proofs.YtclcgelbcbnekaaDoor
/- Contracts: the document's trie of pairs; a hasher as the document has it. -/
namespace Go.Proofs.YtclcgelbcbnekaaDoor
open Go.RowKit Go.QS Go.QS.Nk
set_option linter.unusedVariables false
variable [Zero (Nat → Prop)]
set_option linter.unusedSectionVars false

theorem of_all (H : List UInt8 → Nat) (hH : ∀ s, H s < 18446744073709551616) : ∀ f, OfOk H f
  | 0 => of_zero H
  | f + 1 => of_succ H hH f (of_all H hH f)
abbrev RH : TypeId := 40
def RhAt (w : World) (g : Nat) (h : Hs) : Prop := w.heap[g]? = some (.cells #[.int .u64 h.k0, .int .u64 h.k1, .int .u64 h.mask] RH (0, 0))
theorem RhAt.ext {w w' : World} {g : Nat} {h : Hs} (H : RhAt w g h) (f : Ext w w') : RhAt w' g h := (f.block g (heap_lt H)).trans H
theorem RhAt.cells {w : World} {g : Nat} {h : Hs} (H : RhAt w g h) : w.cell? ⟨g, 0, none⟩ = some (.int .u64 h.k0) ∧ w.cell? ⟨g, 1, none⟩ = some (.int .u64 h.k1) ∧ w.cell? ⟨g, 2, none⟩ = some (.int .u64 h.mask) := by
  unfold RhAt at H; simp [World.cell?, H]
set_option maxRecDepth 100000 in
set_option maxHeartbeats 2000000 in
theorem rof6S_c (h : Hs) (hk : h.Ok) (w : World) (v : Value) (l : List Pr) (hP : PS w v l) (h9 : l.length ≤ 100000) (hq : ∀ q ∈ l, q.1.length ≤ 1000000) :
    Calls Tryd.prog 15 #[hsV h, v, .int .i64 0] w fun e w' => ∃ q A, e = .returned (ptr q) ∧ Ext w w' ∧ w.heap.size ≤ q ∧ w'.heap[q]? = some (.cells A TT (0, 0)) ∧ Zs A 32 ∧ ∀ W, KeepT (q + 1) w' W → ∀ c, c < 32 → EntOk (DR h.hash W 12) A c (Go.QS.part h.hash 0 c l) := by
  have HP := Lib.hid hP
  obtain ⟨A, C, rfl, _, hn, hC, _⟩ := hP
  have HQ := Lib.hid hq
  clear hq
  go_enter Tryd.func15, Tryd.ntmps15
  repeat' (go_not_at_region 3; (first | go_skip | go_guarded | go_step))
  obtain ⟨g, hg⟩ : ∃ g, g = w.heap.size := ⟨_, rfl⟩
  rw [← hg]
  refine wp_named (fun w' => RhAt w' g h ∧ Ext w w') ⟨by rw [hg]; exact heap_new w _, (Ext.refl w).alloc (Nat.le_refl _) _⟩ ?_
  have HG := Lib.hid hg
  clear hg
  intro wa HW
  go_loopg [7, 12] l.length (fun gk v7 v12 wr => ∃ i : Nat, v12 = .int .i64 i ∧ i ≤ l.length ∧ l.length - i ≤ gk ∧ Hid (Ext wa wr ∧ wr.ownsRow wa.heap.size U64 1 v7 (l.take i).length ((l.take i).map fun p => .int .u64 (h.hash p.1))))
  case atStart => exact ⟨0, rfl, Nat.zero_le _, by omega, Lib.hid ⟨Ext.refl _, World.ownsRow_nil _ _ _ _⟩⟩
  case round =>
    obtain ⟨i, rfl, hi, hgk, HI⟩ := hrel
    rcases Nat.lt_or_ge i l.length with hlt | hge
    · have d1 : decide (i < l.length) = true := by simp [hlt]
      have hi1 : (i : Int) < (l.length : Int) := by omega
      obtain ⟨p, hp⟩ := get_of_lt l hlt
      obtain ⟨A', C', hA, _, _, _, hs⟩ := HP.out.below (HW.out.2.trans HI.out.1)
      cases hA
      obtain ⟨b, o, rfl, h1, h2⟩ := seg_pair hs hp
      have hpl := HQ.out p (List.mem_of_getElem? hp)
      have HE := Lib.hid (And.intro hp hpl)
      clear hs hp
      repeat' (go_not_at_region 5; (first | go_skip | go_guarded | go_step))
      obtain ⟨gp, hgp⟩ : ∃ g, g = wr.heap.size := ⟨_, rfl⟩
      rw [← hgp]
      refine wp_named (fun w' => w'.heap[gp]? = some (.cells #[str p.1, str p.2] RP (0, 0)) ∧ Ext wr w') ⟨by rw [hgp]; exact heap_new wr _, (Ext.refl wr).alloc (Nat.le_refl _) _⟩ ?_
      clear hgp h1 h2
      intro wb HB
      obtain ⟨g0, g1⟩ := key_cells HB.out.1
      obtain ⟨r0, r1, r2⟩ := (HW.out.1.ext (HI.out.1.trans HB.out.2)).cells
      repeat' (first | go_at_call 37 | go_skip | go_guarded | go_step)
      refine (rhash_c wb h p.1 hk (by omega)).mono ?_
      rintro e w1 ⟨rfl, f1⟩
      have H1 : Hid (Ext wa w1 ∧ w1.ownsRow wa.heap.size U64 1 u7 (l.take i).length ((l.take i).map fun p => .int .u64 (h.hash p.1))) := Lib.hid ⟨HI.out.1.trans (HB.out.2.trans f1), row_ext HI.out.2 (HB.out.2.trans f1)⟩
      clear f1 g0 g1 r0 r1 r2
      have hl9 : (l.take i).length ≤ 100000 := by rw [List.length_take]; omega
      go_simp
      repeat' (first | (at_builtin; refine wpList_appE (W := wa) rfl (.tmp 16) (.tmp 21) _ rfl U64 1 8 Tryd.underlying87 infoU (by decide) _ _ _ rfl (row_ext H1.out.2 (ext_alloc (Ext.refl _) _)) (ext_alloc H1.out.1 _) _ 1 1 [.int .u64 (h.hash p.1)] rfl rfl (Seg.new _ [_] _ (by simp)) (by intro u hu; simp at hu; subst hu; rfl) (by unfold maxLen; omega) (by omega) ?_; intro v5 w5 hown5 hb5) | go_skip | go_guarded | go_step)
      have HX : Hid (Ext wa w5 ∧ w5.ownsRow wa.heap.size U64 1 v5 (l.take (i + 1)).length ((l.take (i + 1)).map fun p => .int .u64 (h.hash p.1))) := Lib.hid ⟨hb5, by rw [take_snoc HE.out.1, List.length_append, List.map_append]; exact hown5⟩
      clear hb5 hown5
      go_roundg (l.length - (i + 1))
      case measure => omega
      case rel => exact ⟨i + 1, by go_num, by omega, Nat.le_refl _, HX⟩
    · obtain rfl : i = l.length := by omega
      have hI := HI.out
      rw [List.take_length] at hI
      have HO := Lib.hid (of_succS h.hash (Hs.hash_lt hk) 12 (of_all h.hash (Hs.hash_lt hk) 12) wr _ u7 l 0 rfl (HP.out.below (HW.out.2.trans hI.1)) (Sl.of_own hI.2) h9)
      clear hI
      repeat' (first | go_at_call 38 | go_skip | go_guarded | go_step)
      refine HO.out.mono ?_
      rintro e w1 ⟨q, A, rfl, f1, hd⟩
      have hsz : w.heap.size ≤ q := Nat.le_trans (HW.out.2.trans HI.out.1).size hd.1
      have H1 := Lib.hid (And.intro (HW.out.2.trans (HI.out.1.trans f1)) (And.intro hsz hd.2))
      clear f1 hd hsz
      go_simp
      repeat' (first | go_skip | go_guarded | go_step)
      go_ret
      exact ⟨q, A, rfl, H1.out.1, H1.out.2⟩
theorem rof6_c (h : Hs) (hk : h.Ok) (w : World) (v : Value) (l : List Pr) (hP : PS w v l) (h9 : l.length ≤ 100000) (hq : ∀ q ∈ l, q.1.length ≤ 1000000) :
    Calls Tryd.prog 15 #[hsV h, v, .int .i64 0] w fun e w' => ∃ q, e = .returned (ptr q) ∧ Ext w w' ∧ DR h.hash w' 13 q l := by
  refine (rof6S_c h hk w v l hP h9 hq).mono ?_
  rintro e w' ⟨q, A, rfl, f, _, hA, hz, hE⟩
  exact ⟨q, rfl, f, A, hA, hz.bk, hE w' (Only.refl w'), hz.sl⟩
end Go.Proofs.YtclcgelbcbnekaaDoor
/- Contracts: chapter 7's own few, own, trie. -/
namespace Go.QS
open Go.RowKit Go.QS.Nk
variable [Zero (Nat → Prop)]
set_option linter.unusedSectionVars false
def cutL (l : List Pr) (i : Nat) : List Pr := ((l.take 30).take i).map cutP
theorem cutL_snoc {l : List Pr} {i : Nat} {p : Pr} (h : l[i]? = some p) (hi : i < 30) : cutL l (i + 1) = cutL l i ++ [cutP p] := by
  have : (l.take 30)[i]? = some p := by rw [List.getElem?_take_of_lt hi]; exact h
  rw [cutL, take_snoc this, List.map_append]; rfl
theorem cutL_past {l : List Pr} {i : Nat} (hi : 30 ≤ i) : cutL l i = cutL l 30 := by
  unfold cutL
  rw [List.take_take, List.take_take, Nat.min_eq_right hi, Nat.min_self]
theorem cutL_all {l : List Pr} {i : Nat} (hi : l.length ≤ i) : cutL l i = (l.take 30).map cutP := by
  unfold cutL
  rw [List.take_of_length_le (by rw [List.length_take]; omega)]
theorem cutL_len (l : List Pr) (i : Nat) : (cutL l i).length ≤ 40 := by
  unfold cutL
  simp only [List.length_map, List.length_take]
  omega
theorem cutL_keys (l : List Pr) (i : Nat) : ∀ p ∈ cutL l i, p.1.length ≤ 40 ∧ p.2.length ≤ 40 := by
  intro p hp
  obtain ⟨q, _, rfl⟩ := List.mem_map.1 hp
  exact cutP_short q
theorem rsort_sub (l : List Pr) : ∀ q ∈ rsort l, q ∈ l := by
  have key : ∀ (n : Nat) (l : List Pr), l.length = n → ∀ q ∈ rsort l, q ∈ l := by
    intro n
    induction n with
    | zero => intro l hl q hq; rw [List.eq_nil_of_length_eq_zero hl] at hq; simp [rsort] at hq
    | succ n ih =>
      intro l hl q hq
      rcases List.eq_nil_or_concat l with rfl | ⟨r, x, rfl⟩
      · simp at hl
      · rw [List.concat_eq_append] at hq hl ⊢
        rw [rsort_snoc] at hq
        rcases mem_rput.1 hq with rfl | ⟨h, _⟩
        · simp
        · exact List.mem_append_left _ (ih r (by simpa using hl) q h)
  exact key _ l rfl
/-- The map of the first pairs, cut. -/
def xOf (l : List Pr) : List Pr := rsort ((l.take 30).map cutP)
theorem xOf_ok (l : List Pr) : Rise (xOf l) ∧ (xOf l).length ≤ 40 ∧ ∀ q ∈ xOf l, q.1.length ≤ 40 ∧ q.2.length ≤ 40 := by
  refine ⟨rsort_rise _, ?_, fun q hq => ?_⟩
  · have := rsort_length ((l.take 30).map cutP)
    have h2 : ((l.take 30).map cutP).length ≤ 40 := by simp; omega
    unfold xOf; omega
  · obtain ⟨p, _, rfl⟩ := List.mem_map.1 (rsort_sub _ q hq)
    exact cutP_short p
end Go.QS
namespace Go.Proofs.YtclcgelbcbnekaaDoor
open Go.RowKit Go.QS Go.QS.Nk
set_option linter.unusedVariables false
variable [Zero (Nat → Prop)]
set_option linter.unusedSectionVars false

set_option maxRecDepth 100000 in
theorem few07_c (w : World) (p : Pr) :
    Calls Tryd.prog 16 #[.agg #[str p.1, str p.2]] w fun e w' => e = .returned (.agg #[str (cutP p).1, str (cutP p).2]) ∧ Ext w w' := by
  obtain ⟨k, v⟩ := p
  simp only [cutP]
  by_cases h1 : 40 < k.length
  · have d1 : decide (40 < k.length) = true := by simp [h1]
    have b1 : (40 : Int) ≤ (k.length : Int) := by omega
    by_cases h2 : 40 < v.length
    · have d2 : decide (40 < v.length) = true := by simp [h2]
      have b2 : (40 : Int) ≤ (v.length : Int) := by omega
      go_enter Tryd.func16, Tryd.ntmps16
      repeat' (first | go_skip | go_guarded | go_step)
      (try simp only [Exit.inBlock, Exit.then]); refine bodyPost_ret_by (results_cell_row rfl _ _ _ _ _ _ _ rfl (heap_alloc2_new _ _ _) Tryd.underlying45 rfl (by kernel_rfl)) rfl ?_
      exact ⟨rfl, ((Ext.refl w).alloc (Nat.le_refl _) _).alloc (by simp) _⟩
    · have d2 : decide (40 < v.length) = false := by simp; omega
      have e2 : v.take 40 = v := List.take_of_length_le (by omega)
      rw [e2]
      go_enter Tryd.func16, Tryd.ntmps16
      repeat' (first | go_skip | go_guarded | go_step)
      (try simp only [Exit.inBlock, Exit.then]); refine bodyPost_ret_by (results_cell_row rfl _ _ _ _ _ _ _ rfl (heap_alloc2_new _ _ _) Tryd.underlying45 rfl (by kernel_rfl)) rfl ?_
      exact ⟨rfl, ((Ext.refl w).alloc (Nat.le_refl _) _).alloc (by simp) _⟩
  · have d1 : decide (40 < k.length) = false := by simp; omega
    have e1 : k.take 40 = k := List.take_of_length_le (by omega)
    rw [e1]
    by_cases h2 : 40 < v.length
    · have d2 : decide (40 < v.length) = true := by simp [h2]
      have b2 : (40 : Int) ≤ (v.length : Int) := by omega
      go_enter Tryd.func16, Tryd.ntmps16
      repeat' (first | go_skip | go_guarded | go_step)
      (try simp only [Exit.inBlock, Exit.then]); refine bodyPost_ret_by (results_cell_row rfl _ _ _ _ _ _ _ rfl (heap_alloc2_new _ _ _) Tryd.underlying45 rfl (by kernel_rfl)) rfl ?_
      exact ⟨rfl, ((Ext.refl w).alloc (Nat.le_refl _) _).alloc (by simp) _⟩
    · have d2 : decide (40 < v.length) = false := by simp; omega
      have e2 : v.take 40 = v := List.take_of_length_le (by omega)
      rw [e2]
      go_enter Tryd.func16, Tryd.ntmps16
      repeat' (first | go_skip | go_guarded | go_step)
      (try simp only [Exit.inBlock, Exit.then]); refine bodyPost_ret_by (results_cell_row rfl _ _ _ _ _ _ _ rfl (heap_alloc2_new _ _ _) Tryd.underlying45 rfl (by kernel_rfl)) rfl ?_
      exact ⟨rfl, ((Ext.refl w).alloc (Nat.le_refl _) _).alloc (by simp) _⟩
theorem box_free' {w : World} {g : Nat} {p : Pr} (h : PrAt w g p) (j : Nat) : w.frozen? ⟨g, j, none⟩ = false := by
  unfold PrAt at h
  simp [World.frozen?, h]
set_option maxRecDepth 100000 in
set_option maxHeartbeats 1000000 in
theorem trie07_c (h : Hs) (hk : h.Ok) (w : World) (v : Value) (l : List Pr) (hP : PS w v l) (hnw : ∀ k, w.heap.size ≤ k → S9 k) :
    Calls Tryd.prog 14 #[hsV h, v] w fun e w' => ∃ g v', e = .returned (.tuple #[ptr g, v']) ∧ Ext w w' ∧ TR ND h.hash w' 13 g (xOf l) ∧ PS w' v' (xOf l) := by
  obtain ⟨A, c, rfl, hl, hn, hc, hs⟩ := hP
  obtain ⟨n, hn2⟩ : ∃ n, n = l.length := ⟨_, rfl⟩
  have hn9 : n ≤ 9223372036854775807 := by unfold maxLen at hc; omega
  rw [← hn2] at hn ⊢
  have Hn := Lib.hid (And.intro hn2 hs)
  clear hn2 hl hs
  go_enter Tryd.func14, Tryd.ntmps14
  repeat' (go_not_at_region 1; (first | go_skip | go_guarded | go_step))
  obtain ⟨gh, hgh⟩ : ∃ g, g = w.heap.size := ⟨_, rfl⟩
  rw [← hgh]
  refine wp_named (fun w' => HsAt w' gh h ∧ Ext w w') ⟨by rw [hgh]; exact heap_new w _, (Ext.refl w).alloc (Nat.le_refl _) _⟩ ?_
  clear hgh
  intro wa HW
  repeat' (first | go_at_call 23 | (go_not_at_region 4; (first | go_skip | go_guarded | go_step)))
  refine (empty_c h wa (fun k hk => hnw k (Nat.le_trans HW.out.2.size hk))).mono ?_
  rintro e w0 ⟨g0, rfl, T0, f0⟩
  have H0 : Hid (HsAt w0 gh h ∧ Ext w w0 ∧ TR ND h.hash w0 13 g0 []) := Lib.hid ⟨HW.out.1.ext f0, HW.out.2.trans f0, T0⟩
  clear T0 f0 HW
  go_simp
  repeat' (go_not_at_region 4; (first | go_skip | go_guarded | go_step))
  go_loopg [6, 7, 8, 9, 13] n (fun gk vn vx vi vp vc wr => ∃ i g : Nat, vn = ptr g ∧ vc = .int .i64 i ∧ i ≤ n ∧ n - i ≤ gk ∧ Hid (HsAt wr gh h ∧ Ext w wr ∧ TR ND h.hash wr 13 g (rsort (cutL l i)) ∧ PS wr vx (rsort (cutL l i))))
  case atStart => exact ⟨0, g0, rfl, rfl, Nat.zero_le _, by omega, Lib.hid ⟨H0.out.1, H0.out.2.1, H0.out.2.2, Sl.nil _ _⟩⟩
  case round =>
    obtain ⟨i, g, rfl, rfl, hin, hgk, HI⟩ := hrel
    rcases Nat.lt_or_ge i n with hlt | hge
    · have d1 : decide (i < n) = true := by simp [hlt]
      obtain ⟨p, hp⟩ := get_of_lt l (show i < l.length by have := Hn.out.1; omega)
      obtain ⟨b, o, rfl, hq1, hq2⟩ := seg_pair (Hn.out.2.below HI.out.2.1) hp
      have hi1 : (i : Int) < (n : Int) := by omega
      have HP := Lib.hid hp
      clear hp
      repeat' (go_not_at_region 6; (first | go_skip | go_guarded | go_step))
      obtain ⟨gp, hgp⟩ : ∃ g, g = wr.heap.size := ⟨_, rfl⟩
      rw [← hgp]
      refine wp_named (fun w' => PrAt w' gp p ∧ HsAt w' gh h ∧ Ext w w' ∧ Ext wr w' ∧ wr.heap.size ≤ gp) ⟨by rw [hgp]; exact heap_new wr _, HI.out.1.ext ((Ext.refl _).alloc (Nat.le_refl _) _), HI.out.2.1.alloc HI.out.2.1.size _, (Ext.refl _).alloc (Nat.le_refl _) _, by omega⟩ ?_
      clear hgp hq1 hq2
      intro w1 H1
      have G5 : wr.heap.size ≤ gp := H1.out.2.2.2.2
      by_cases h30 : i < 30
      · have d2 : decide (i < 30) = true := by simp [h30]
        obtain ⟨c1, c2⟩ := H1.out.1.cells
        repeat' (first | go_at_call 16 | go_skip | go_guarded | go_step)
        refine (few07_c _ p).mono ?_
        rintro e w2 ⟨rfl, f2⟩
        obtain ⟨q, hq⟩ : ∃ q, q = cutP p := ⟨_, rfl⟩
        rw [← hq]
        have hql : q.1.length ≤ 40 := by rw [hq]; exact (cutP_short p).1
        have HQ := Lib.hid hq
        have H2 : Hid (PrAt w2 gp p ∧ HsAt w2 gh h ∧ Ext w w2 ∧ Ext wr w2) := Lib.hid ⟨H1.out.1.ext f2, H1.out.2.1.ext f2, H1.out.2.2.1.trans f2, H1.out.2.2.2.1.trans f2⟩
        clear c1 c2 f2 hq
        obtain ⟨c1, c2⟩ := H2.out.1.cells
        have cf := box_free' H2.out.1
        have hgl := heap_lt H2.out.1
        have hne : gh ≠ gp := by
          have := heap_lt HI.out.1
          omega
        go_simp
        repeat' (go_not_at_region 8; (first | go_skip | go_guarded | go_step))
        refine wp_named (fun w' => PrAt w' gp q ∧ HsAt w' gh h ∧ Ext w w' ∧ Ext wr w') ⟨?_, ?_, ?_, ?_⟩ ?_
        · exact heap_set (heap_set H2.out.1 0 _) 1 _
        · exact (Below.heap_setCell _ _ _ _ hne).trans ((Below.heap_setCell _ _ _ _ hne).trans H2.out.2.1)
        · have hle : w.heap.size ≤ gp := Nat.le_trans HI.out.2.1.size G5
          exact (H2.out.2.2.1.setCell hle _).setCell hle _
        · exact (H2.out.2.2.2.setCell G5 _).setCell G5 _
        intro w3 H3
        clear c1 c2 cf hgl H1 H2
        obtain ⟨c1, c2⟩ := H3.out.1.cells
        obtain ⟨e0, e1, e2⟩ := H3.out.2.1.cells
        have hr := rsort_rise (cutL l i)
        have hlen : (rsort (cutL l i)).length ≤ 40 := Nat.le_trans (rsort_length _) (cutL_len l i)
        have HPU := Lib.hid (cput_c h hk w3 (ptr g) _ q (Rot.of (TR.ext H3.out.2.2.2 13 HI.out.2.2.1)) hr (by omega) (fun y hy => by have := (cutL_keys l i y (rsort_sub _ y hy)).1; omega) (by omega))
        clear hr
        repeat' (first | go_at_call 24 | go_skip | go_guarded | go_step)
        refine HPU.out.mono ?_
        rintro e w4 ⟨g4, rfl, t4, f4, _⟩
        have H4 : Hid (PrAt w4 gp q ∧ HsAt w4 gh h ∧ Ext w w4 ∧ Ext wr w4 ∧ TR ND h.hash w4 13 g4 (rput (rsort (cutL l i)) q)) := Lib.hid ⟨H3.out.1.ext f4, H3.out.2.1.ext f4, H3.out.2.2.1.trans f4, H3.out.2.2.2.trans f4, t4⟩
        clear f4 t4 c1 c2 e0 e1 e2 HPU H3
        obtain ⟨c1, c2⟩ := H4.out.1.cells
        go_simp
        repeat' (first | go_at_call 29 | go_skip | go_guarded | go_step)
        refine (rput_c w4 _ (rsort (cutL l i)) q (HI.out.2.2.2.below H4.out.2.2.2.1) (by omega) (by omega)).mono ?_
        rintro e w5 ⟨v5, rfl, o5, f5⟩
        have H5 : Hid (HsAt w5 gh h ∧ Ext w w5 ∧ TR ND h.hash w5 13 g4 (rsort (cutL l (i + 1))) ∧ PS w5 v5 (rsort (cutL l (i + 1)))) := by
          rw [cutL_snoc HP.out h30, ← HQ.out, rsort_snoc]
          exact Lib.hid ⟨H4.out.2.1.ext f5, H4.out.2.2.1.trans f5, TR.ext f5 13 H4.out.2.2.2.2, PS.of_own o5⟩
        clear f5 o5 c1 c2 hql
        go_simp
        repeat' (first | go_skip | go_guarded | go_step)
        go_roundg (n - (i + 1))
        case measure => omega
        case rel => exact ⟨i + 1, g4, rfl, by go_num, by omega, Nat.le_refl _, H5⟩
      · have d2 : decide (i < 30) = false := by simp; omega
        repeat' (first | go_skip | go_guarded | go_step)
        go_roundg (n - (i + 1))
        case measure => omega
        case rel =>
          refine ⟨i + 1, g, rfl, by go_num, by omega, Nat.le_refl _, ?_⟩
          have e1 : cutL l (i + 1) = cutL l i := by rw [cutL_past (show 30 ≤ i + 1 by omega), cutL_past (show 30 ≤ i by omega)]
          rw [e1]
          exact Lib.hid ⟨H1.out.2.1, H1.out.2.2.1, TR.ext H1.out.2.2.2.1 13 HI.out.2.2.1, HI.out.2.2.2.below H1.out.2.2.2.1⟩
    · obtain rfl : i = n := by omega
      have d1 : decide (i < i) = false := by simp
      have hcx : rsort (cutL l i) = xOf l := by rw [cutL_all (by have := Hn.out.1; omega)]; rfl
      rw [hcx] at HI
      repeat' (first | go_skip | go_guarded | go_step)
      go_ret2
      exact ⟨g, _, rfl, HI.out.2.1, HI.out.2.2.1, HI.out.2.2.2⟩
set_option maxRecDepth 100000 in
set_option maxHeartbeats 2000000 in
theorem own07_c (w : World) (h : Hs) : Calls Tryd.prog 13 #[hsV h] w fun e w' => e = .returned (hsV h) ∧ Ext w w' := by
  obtain ⟨a0, a1, mk⟩ := h
  go_enter Tryd.func13, Tryd.ntmps13
  repeat' (first | go_skip | go_guarded | go_step)
  (try simp only [Exit.inBlock, Exit.then])
  refine bodyPost_ret_by (results_cell_row rfl _ _ _ _ _ _ _ rfl (heap_alloc2_new _ _ _) Tryd.underlying40 rfl (by kernel_rfl)) rfl ?_
  exact ⟨rfl, ((Ext.refl w).alloc (Nat.le_refl _) _).alloc (by simp) _⟩
end Go.Proofs.YtclcgelbcbnekaaDoor
