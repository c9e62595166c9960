/- RadixRaw, walked. -/
import Derived.Test.YtmpeniboccahdaaJh
import Derived.Deep.LoopGhost
namespace Go.Proofs.Ytmpeniboccahdaa
open Go.RowKit Go.QS
set_option linter.unusedVariables false

theorem box5 {w : World} {g : Nat} {a b c d e : Value} {t : TypeId} {f : Nat × Nat} (h : w.heap[g]? = some (.cells #[a, b, c, d, e] t f)) : w.cell? ⟨g, 0, none⟩ = some a ∧ w.cell? ⟨g, 1, none⟩ = some b ∧ w.cell? ⟨g, 2, none⟩ = some c ∧ w.cell? ⟨g, 3, none⟩ = some d ∧ w.cell? ⟨g, 4, none⟩ = some e := by
  simp [World.cell?, h]

set_option maxRecDepth 100000 in
set_option maxHeartbeats 2000000 in
theorem radixRaw_c (w : World) (va : Value) (L : List Rw) (ha : Sl w 5 va L.length (flatE encR L)) :
    Calls Try.prog 4 #[va] w fun e w' => e = .returned (.bool true) ∧ Ext w w' := by
  obtain ⟨A, C, rfl, _, hn, hC, hsA⟩ := ha
  obtain ⟨n, hn2⟩ : ∃ n, n = L.length := ⟨_, rfl⟩
  have hn9 : n ≤ 9223372036854775807 := by unfold maxLen at hC; omega
  rw [← hn2] at hn ⊢
  have HN : Hid (n = L.length ∧ Seg w A (flatE encR L)) := Lib.hid ⟨hn2, hsA⟩
  clear hn2 hsA
  go_enter Try.func4, Try.ntmps4
  repeat' (first | go_at_call 11 | go_skip | go_guarded | go_step)
  refine (awakeX_c w).mono ?_
  rintro e w1 ⟨rfl, f1⟩
  have H1 := Lib.hid f1
  clear f1
  go_simp
  repeat' (go_not_at_region 6; (first | go_skip | go_guarded | go_step))
  go_loopg [3, 4, 19] n (fun gk v3 v4 v19 wx => ∃ (i : Nat) (gs qs : List Nat) (ts : List RT), v19 = .int .i64 i ∧ i ≤ n ∧ n - i ≤ gk ∧ Hid (Raws w wx v3 v4 gs qs ts ∧ cnts ts ≤ i ∧ cnts ts ≤ 20))
  case atStart => exact ⟨0, _, _, _, rfl, Nat.zero_le _, by omega, Lib.hid ⟨(Raws.nil w).ext' H1.out, by simp [cnts_nil], by simp [cnts_nil]⟩⟩
  case round =>
    obtain ⟨i, gs, qs, ts, rfl, hin, hgk, HI⟩ := hrel
    rcases Nat.lt_or_ge i n with hlt | hge
    · have d1 : decide (i < n) = true := by simp [hlt]
      obtain ⟨a, hp⟩ := get_of_lt L (show i < L.length by have := HN.out.1; omega)
      obtain ⟨b, o, rfl, q0, q1, q2, q3, q4⟩ := seg_raw (HN.out.2.below HI.out.1.ext) hp
      have hi1 : (i : Int) < (n : Int) := by omega
      obtain ⟨ad, ak, ah, av, au⟩ := a
      clear hp
      by_cases h20 : i < 20
      · have d2 : decide (20 ≤ i) = false := by simp; omega
        have d2' : decide ((20 : Int) ≤ (i : Int)) = false := by simp; omega
        repeat' (go_not_at_region 8; (first | go_skip | go_guarded | go_step))
        obtain ⟨w1, hw1⟩ : ∃ x, x = wr.alloc (.cells #[Value.int IntKind.u8 ad.toNat, str ak, .bool ah, str av, Value.int IntKind.u8 au.toNat] 45) := ⟨_, rfl⟩
        obtain ⟨g6, hg6⟩ : ∃ g, g = wr.heap.size := ⟨_, rfl⟩
        have hb6 := heap_new wr (.cells #[Value.int IntKind.u8 ad.toNat, str ak, .bool ah, str av, Value.int IntKind.u8 au.toNat] 45)
        have hE1 : Ext wr w1 := by rw [hw1]; exact (Ext.refl _).alloc (Nat.le_refl _) _
        have hw1' : wr.alloc (.cells #[Value.int IntKind.u8 ad.toNat, Value.string (bs ak), .bool ah, Value.string (bs av), Value.int IntKind.u8 au.toNat] 45) = w1 := hw1.symm
        rw [← hw1, ← hg6] at hb6
        rw [hw1', ← hg6]
        have HA : Hid (Ext wr w1 ∧ w1.heap[g6]? = some (.cells #[Value.int IntKind.u8 ad.toNat, str ak, .bool ah, str av, Value.int IntKind.u8 au.toNat] 45 (0, 0))) := Lib.hid ⟨hE1, hb6⟩
        obtain ⟨e0, e1, e2, e3, e4⟩ := box5 hb6
        have HC : Hid (_ ∧ _) := Lib.hid (And.intro e1 e3)
        clear hw1 hw1' hg6 hb6 hE1 q0 q1 q2 q3 q4 e0 e1 e2 e3 e4
        repeat' (go_not_at_region 9; (first | go_skip | go_guarded | go_step))
        refine raw_9 w1 g6 ak av HC _ _ _ _ _ _ _ _ _ _ _ _ _ _ _ _ _ _ _ _ _ _ _ _ _ _ _ _ _ _ _ _ _ _ _ _ _ _ _ _ _ _ _ _ _ _ _ _ _ _ _ _ _ _ _ _ _ _ _ _ _ _ _ _ _ _ _ _ _ _ _ _ _ _ _ _ _ _ _ _ _ _ _ _ _ _ _ _ _ _ _ _ _ _ _ _ _ _ _ _ _ _ _ _ _ _ _ _ _ _ _ _ _ _ _ _ _ _ _ _ _ _ _ _ _ _ _ _ _ _ _ (by kernel_rfl) ?_
        intro y26 y27 y28 y29 y30 y31 y32 y33 y34 y35 y36 y37 w2 hE
        obtain ⟨e0, e1, e2, e3, e4⟩ := box5 (box_ext HA.out.2 hE)
        have H2 : Hid (Ext wr w2 ∧ w2.cell? ⟨g6, 2, none⟩ = some (.bool ah) ∧ w2.cell? ⟨g6, 4, none⟩ = some (.int .u8 au.toNat)) := Lib.hid ⟨HA.out.1.trans hE, e2, e4⟩
        obtain ⟨m, hm⟩ : ∃ m, m = gs.length := ⟨_, rfl⟩
        have hR := HI.out.1.ext' H2.out.1
        have hcl := cnts_len ts
        have hc20 := HI.out.2.2
        have hrl := hR.rep.1
        have hdl := hR.doc.1
        have hm9 : m ≤ 30 := by omega
        obtain ⟨A3, C3, rfl, _, _, _, _⟩ := hR.nodes
        obtain ⟨A4, C4, rfl, _, _, _, _⟩ := hR.trees
        have hql : qs.length = m := by omega
        rw [hql] at hR
        rw [hql]
        rw [← hm] at hR
        rw [← hm]
        have HR2 := Lib.hid hR
        clear hR hcl hc20 hrl hdl hql hE e1 e2 e3 e4 HA HC
        by_cases h2 : ad.toNat % 3 = 2
        · have d3 : (ad.toNat : Int) % 3 = 2 := by omega
          repeat' (go_not_at_region 12; (first | go_skip | go_guarded | go_step))
          rename_i K hK
          refine raw_12 w w2 g6 m C3 C4 A3 A4 ah au [] (cutP (([] : List UInt8), av)).2 gs qs ts (Lib.hid ⟨HR2.out, H2.out.2.1, H2.out.2.2⟩) hm hm9 ⟨Nat.zero_le _, (cutP_short _).2⟩ _ _ K _ _ _ _ _ _ _ _ _ _ _ _ _ _ _ _ _ _ _ _ _ _ _ _ _ _ _ _ _ _ _ _ _ _ _ _ _ _ _ _ _ _ _ _ _ _ _ _ _ _ _ _ _ _ _ _ _ _ _ _ _ _ _ _ _ _ _ _ _ _ _ _ _ _ _ _ _ _ _ _ _ _ _ _ _ _ _ _ _ _ _ _ _ _ _ _ _ _ _ _ _ _ _ _ _ _ _ _ _ _ _ _ _ _ _ _ _ _ _ _ _ _ _ _ _ _ (by kernel_rfl) (by kernel_rfl) hK ?_
          intro g q x3 x4 z9 z10 z11 z12 z42 z43 z44 z45 z46 z47 z48 z49 z50 z51 z52 z53 z54 z55 z56 z57 z58 z59 z60 z61 z62 z63 z64 z65 z66 z67 z68 z69 z70 z71 z72 z73 z74 z75 z76 z77 z78 z79 z80 z81 z82 z83 z84 z85 z86 z87 z88 z89 z90 z91 z92 wx hpo
          have HF : Hid (Raws w wx x3 x4 (gs.take (m - au.toNat % (m + 1)) ++ [g]) (qs.take (m - au.toNat % (m + 1)) ++ [q]) (ts.take (m - au.toNat % (m + 1)) ++ [RT.node [] (if ah then some (cutP (([] : List UInt8), av)).2 else none) (ts.drop (m - au.toNat % (m + 1)))]) ∧ cnts (ts.take (m - au.toNat % (m + 1)) ++ [RT.node [] (if ah then some (cutP (([] : List UInt8), av)).2 else none) (ts.drop (m - au.toNat % (m + 1)))]) ≤ i + 1) := Lib.hid ⟨hpo, by
            have hh := cnts_cut ts (m - au.toNat % (m + 1))
            rw [cnts_append, cnts_cons, cnts_nil, cnt_eq]
            simp only [RT.kids_node]
            have := HI.out.2.1
            omega⟩
          clear hpo
          repeat' (first | go_skip | go_guarded | go_step)
          go_roundg (n - (i + 1))
          case measure => omega
          case rel => exact ⟨i + 1, _, _, _, by go_num, by omega, Nat.le_refl _, Lib.hid ⟨HF.out.1, HF.out.2, by have := HF.out.2; omega⟩⟩
        · have d3 : ((ad.toNat : Int) % 3 = 2) = False := by rw [eq_iff_iff, iff_false]; omega
          have d3' : decide ((ad.toNat : Int) % 3 = 2) = false := by rw [decide_eq_false_iff_not]; omega
          have d3'' : ((ad.toNat : Int) % 3 == 2) = false := by rw [beq_eq_false_iff_ne]; omega
          repeat' (go_not_at_region 12; (first | go_skip | go_guarded | go_step))
          rename_i K hK
          refine raw_12 w w2 g6 m C3 C4 A3 A4 ah au (cutP (ak, av)).1 (cutP (([] : List UInt8), av)).2 gs qs ts (Lib.hid ⟨HR2.out, H2.out.2.1, H2.out.2.2⟩) hm hm9 ⟨(cutP_short _).1, (cutP_short _).2⟩ _ _ K _ _ _ _ _ _ _ _ _ _ _ _ _ _ _ _ _ _ _ _ _ _ _ _ _ _ _ _ _ _ _ _ _ _ _ _ _ _ _ _ _ _ _ _ _ _ _ _ _ _ _ _ _ _ _ _ _ _ _ _ _ _ _ _ _ _ _ _ _ _ _ _ _ _ _ _ _ _ _ _ _ _ _ _ _ _ _ _ _ _ _ _ _ _ _ _ _ _ _ _ _ _ _ _ _ _ _ _ _ _ _ _ _ _ _ _ _ _ _ _ _ _ _ _ _ _ (by kernel_rfl) (by kernel_rfl) hK ?_
          intro g q x3 x4 z9 z10 z11 z12 z42 z43 z44 z45 z46 z47 z48 z49 z50 z51 z52 z53 z54 z55 z56 z57 z58 z59 z60 z61 z62 z63 z64 z65 z66 z67 z68 z69 z70 z71 z72 z73 z74 z75 z76 z77 z78 z79 z80 z81 z82 z83 z84 z85 z86 z87 z88 z89 z90 z91 z92 wx hpo
          have HF : Hid (Raws w wx x3 x4 (gs.take (m - au.toNat % (m + 1)) ++ [g]) (qs.take (m - au.toNat % (m + 1)) ++ [q]) (ts.take (m - au.toNat % (m + 1)) ++ [RT.node (cutP (ak, av)).1 (if ah then some (cutP (([] : List UInt8), av)).2 else none) (ts.drop (m - au.toNat % (m + 1)))]) ∧ cnts (ts.take (m - au.toNat % (m + 1)) ++ [RT.node (cutP (ak, av)).1 (if ah then some (cutP (([] : List UInt8), av)).2 else none) (ts.drop (m - au.toNat % (m + 1)))]) ≤ i + 1) := Lib.hid ⟨hpo, by
            have hh := cnts_cut ts (m - au.toNat % (m + 1))
            rw [cnts_append, cnts_cons, cnts_nil, cnt_eq]
            simp only [RT.kids_node]
            have := HI.out.2.1
            omega⟩
          clear hpo
          repeat' (first | go_skip | go_guarded | go_step)
          go_roundg (n - (i + 1))
          case measure => omega
          case rel => exact ⟨i + 1, _, _, _, by go_num, by omega, Nat.le_refl _, Lib.hid ⟨HF.out.1, HF.out.2, by have := HF.out.2; omega⟩⟩
      · have d2 : decide (20 ≤ i) = true := by simp; omega
        have d2' : decide ((20 : Int) ≤ (i : Int)) = true := by simp; omega
        repeat' (go_not_at_region 20; (first | go_skip | go_guarded | go_step))
        rename_i K hK
        refine raw_20 w _ _ _ gs qs ts (Lib.hid ⟨(HI.out.1.ext' ((Ext.refl _).alloc (Nat.le_refl _) _)), HI.out.2.2⟩) _ _ K _ _ _ _ _ _ _ _ _ _ _ _ _ _ _ _ _ _ _ _ _ _ _ _ _ _ _ _ _ _ _ _ _ _ _ _ _ _ _ _ _ _ _ _ _ _ _ _ _ _ _ _ _ _ _ _ _ _ _ _ _ _ _ _ _ _ _ _ _ _ _ _ _ _ _ _ _ _ _ _ _ _ _ _ _ _ _ _ _ _ _ _ _ _ _ _ _ _ _ _ _ _ _ _ _ _ _ _ _ _ _ _ _ _ _ _ _ _ _ _ _ _ _ _ _ _ _ _ _ (by kernel_rfl) (by kernel_rfl) hK ?_
        intro z2 z13 z14 z94 z95 z96 z97 z98 z99 z100 z101 z102 z103 z104 z105 z106 z107 z108 z109 z110 z111 z112 z113 z114 z115 z116 z117 z118 z119 z120 z121 z122 z123 z124 z125 z126 z127 z128 z129 wx hE
        have HE := Lib.hid hE
        clear hE
        repeat' (first | go_skip | go_guarded | go_step)
        go_ret
        exact ⟨rfl, (HI.out.1.ext.trans (Ext.trans ((Ext.refl _).alloc (Nat.le_refl _) _) HE.out))⟩
    · obtain rfl : i = n := by omega
      have d1 : decide (i < i) = false := by simp
      repeat' (go_not_at_region 20; (first | go_skip | go_guarded | go_step))
      rename_i K hK
      refine raw_20 w _ _ _ gs qs ts (Lib.hid ⟨HI.out.1, HI.out.2.2⟩) _ _ K _ _ _ _ _ _ _ _ _ _ _ _ _ _ _ _ _ _ _ _ _ _ _ _ _ _ _ _ _ _ _ _ _ _ _ _ _ _ _ _ _ _ _ _ _ _ _ _ _ _ _ _ _ _ _ _ _ _ _ _ _ _ _ _ _ _ _ _ _ _ _ _ _ _ _ _ _ _ _ _ _ _ _ _ _ _ _ _ _ _ _ _ _ _ _ _ _ _ _ _ _ _ _ _ _ _ _ _ _ _ _ _ _ _ _ _ _ _ _ _ _ _ _ _ _ _ _ _ _ (by kernel_rfl) (by kernel_rfl) hK ?_
      intro z2 z13 z14 z94 z95 z96 z97 z98 z99 z100 z101 z102 z103 z104 z105 z106 z107 z108 z109 z110 z111 z112 z113 z114 z115 z116 z117 z118 z119 z120 z121 z122 z123 z124 z125 z126 z127 z128 z129 wx hE
      have HE := Lib.hid hE
      clear hE
      repeat' (first | go_skip | go_guarded | go_step)
      go_ret
      exact ⟨rfl, (HI.out.1.ext.trans HE.out)⟩
end Go.Proofs.Ytmpeniboccahdaa
