/- RadixVersions, walked. -/
import Derived.Test.YtmpeniboccahdaaWm
import Derived.Test.YtmpeniboccahdaaWn
import Derived.Test.YtmpeniboccahdaaVl
import Derived.Deep.LoopGhost
namespace Go.Proofs.Ytmpeniboccahdaa
open Go.RowKit Go.QS
set_option linter.unusedVariables false

theorem box4 {w : World} {g : Nat} {a b c d : Value} {t : TypeId} {f : Nat × Nat} (h : w.heap[g]? = some (.cells #[a, b, c, d] t f)) : w.cell? ⟨g, 0, none⟩ = some a ∧ w.cell? ⟨g, 1, none⟩ = some b ∧ w.cell? ⟨g, 2, none⟩ = some c ∧ w.cell? ⟨g, 3, none⟩ = some d := by
  simp [World.cell?, h]

set_option maxRecDepth 100000 in
set_option maxHeartbeats 2000000 in
theorem radixVersions_c (w : World) (va : Value) (L : List Ac) (ha : Sl w 4 va L.length (flatE encA L)) :
    Calls Try.prog 5 #[va] w fun e w' => e = .returned (.bool true) ∧ Ext w w' := by
  obtain ⟨A, C, rfl, _, hn, hC, hsA⟩ := ha
  obtain ⟨n, hn2⟩ : ∃ n, n = L.length := ⟨_, rfl⟩
  have hn9 : n ≤ 9223372036854775807 := by unfold maxLen at hC; omega
  rw [← hn2] at hn ⊢
  have HN : Hid (n = L.length ∧ Seg w A (flatE encA L)) := Lib.hid ⟨hn2, hsA⟩
  clear hn2 hsA
  go_enter Try.func5, Try.ntmps5
  repeat' (first | go_at_call 11 | go_skip | go_guarded | go_step)
  refine (awakeX_c w).mono ?_
  rintro e w1 ⟨rfl, f1⟩
  have H1 := Lib.hid f1
  clear f1
  go_simp
  repeat' (first | go_at_call 12 | go_skip | go_guarded | go_step)
  refine (emptyO_c _).mono ?_
  rintro e w0 ⟨g0, rfl, f0, r0⟩
  have H0 : Hid (Ext w w0 ∧ Rep NT w0 g0 (RT.node [] none [])) := Lib.hid ⟨H1.out.trans f0, r0⟩
  clear f0 r0
  go_simp
  repeat' (go_not_at_region 5; (first | go_skip | go_guarded | go_step))
  have HV0 := Lib.hid (Vers.start H0.out.1 H0.out.2)
  go_loopg [3, 4, 21] n (fun gk v3 v4 v21 wx => ∃ (i : Nat) (gs : List Nat) (us : List Value), v21 = .int .i64 i ∧ i ≤ n ∧ n - i ≤ gk ∧ Hid (Vers w wx v3 v4 gs us ∧ gs.length ≤ i + 1 ∧ gs.length ≤ 41 ∧ 0 < gs.length))
  case atStart => exact ⟨0, _, _, rfl, Nat.zero_le _, by omega, Lib.hid ⟨HV0.out, by simp, by simp, by simp⟩⟩
  case round =>
    obtain ⟨i, gs, us, rfl, hin, hgk, HI⟩ := hrel
    rcases Nat.lt_or_ge i n with hlt | hge
    · have d1 : decide (i < n) = true := by simp [hlt]
      obtain ⟨a, hp⟩ := get_of_lt L (show i < L.length by have := HN.out.1; omega)
      obtain ⟨b, o, rfl, q0, q1, q2, q3⟩ := seg_act (HN.out.2.below HI.out.1.ext) hp
      have hi1 : (i : Int) < (n : Int) := by omega
      obtain ⟨ad, ⟨ak, av⟩, aa⟩ := a
      clear hp
      by_cases h40 : i < 40
      · have d2 : decide (40 ≤ i) = false := by simp; omega
        have d2' : decide ((40 : Int) ≤ (i : Int)) = false := by simp; omega
        repeat' (go_not_at_region 8; (first | go_skip | go_guarded | go_step))
        obtain ⟨w1, hw1⟩ : ∃ x, x = wr.alloc (.cells #[Value.int IntKind.u8 ad.toNat, str ak, str av, Value.int IntKind.u8 aa.toNat] 61) := ⟨_, rfl⟩
        obtain ⟨g8, hg8⟩ : ∃ g, g = wr.heap.size := ⟨_, rfl⟩
        have hb8 := heap_new wr (.cells #[Value.int IntKind.u8 ad.toNat, str ak, str av, Value.int IntKind.u8 aa.toNat] 61)
        have hE1 : Ext wr w1 := by rw [hw1]; exact (Ext.refl _).alloc (Nat.le_refl _) _
        have hw1' : wr.alloc (.cells #[Value.int IntKind.u8 ad.toNat, Value.string (bs ak), Value.string (bs av), Value.int IntKind.u8 aa.toNat] 61) = w1 := hw1.symm
        rw [← hw1, ← hg8] at hb8
        rw [hw1', ← hg8]
        have HA : Hid (Ext wr w1 ∧ w1.heap[g8]? = some (.cells #[Value.int IntKind.u8 ad.toNat, str ak, str av, Value.int IntKind.u8 aa.toNat] 61 (0, 0))) := Lib.hid ⟨hE1, hb8⟩
        obtain ⟨e0, e1, e2, e3⟩ := box4 hb8
        clear hw1 hw1' hg8 hb8 hE1 q0 q1 q2 q3
        obtain ⟨gr, rc, gl, lc, hv3, hv4⟩ := HI.out.1.open HI.out.2.2.2
        subst hv3 hv4
        obtain ⟨ng, hng⟩ : ∃ ng, ng = gs.length := ⟨_, rfl⟩
        rw [← hng] at HI ⊢
        have hng0 : 0 < ng := HI.out.2.2.2
        have hng9 : ng ≤ 41 := HI.out.2.2.1
        obtain ⟨k, hk⟩ : ∃ k, k = aa.toNat % ng := ⟨_, rfl⟩
        have hkn : k < ng := by rw [hk]; exact Nat.mod_lt _ hng0
        obtain ⟨g, hg⟩ := get_of_lt gs (show k < gs.length by omega)
        obtain ⟨u, hu⟩ := get_of_lt us (show k < us.length by have := HI.out.1.len; omega)
        have HG : Hid (ng = gs.length ∧ gs[k]? = some g ∧ us[k]? = some u) := Lib.hid ⟨hng, hg, hu⟩
        clear hng hg hu
        repeat' (go_not_at_region 9; (first | go_skip | go_guarded | go_step))
        have hkv : (wrap64 ↑aa.toNat).tmod ↑ng = (k : Int) := by
          have hc9 := aa.toNat_lt
          have e1 : wrap64 (aa.toNat : Int) = aa.toNat := by unfold wrap64; omega
          rw [e1, ← Int.ofNat_tmod, ← hk]
        rw [hkv]
        clear hkv hk
        repeat' (first | go_at_call 14 | go_skip | go_guarded | go_step)
        refine (fewp_c w1 (ak, av)).mono ?_
        rintro e w2 ⟨rfl, f2⟩
        obtain ⟨p, hp⟩ : ∃ p, p = cutP (ak, av) := ⟨_, rfl⟩
        have hps : p.1.length ≤ 40 ∧ p.2.length ≤ 40 := by rw [hp]; exact cutP_short _
        rw [← hp]
        have H2 : Hid (Ext wr w2 ∧ w2.heap[g8]? = some (.cells #[Value.int IntKind.u8 ad.toNat, str ak, str av, Value.int IntKind.u8 aa.toNat] 61 (0, 0))) := Lib.hid ⟨HA.out.1.trans f2, box_ext HA.out.2 f2⟩
        clear f2 HA e0 e1 e2 e3 hp
        go_simp
        repeat' (go_not_at_region 10; (first | go_skip | go_guarded | go_step))
        obtain ⟨w3, hw3⟩ : ∃ x, x = w2.alloc (.cells #[str p.1, str p.2] 24) := ⟨_, rfl⟩
        obtain ⟨gp, hgp⟩ : ∃ g, g = w2.heap.size := ⟨_, rfl⟩
        have hbp := heap_new w2 (.cells #[str p.1, str p.2] 24)
        have hE3 : Ext w2 w3 := by rw [hw3]; exact (Ext.refl _).alloc (Nat.le_refl _) _
        have hw3' : w2.alloc (.cells #[Value.string (bs p.1), Value.string (bs p.2)] 24) = w3 := hw3.symm
        rw [← hw3, ← hgp] at hbp
        rw [hw3', ← hgp]
        have H3 := Lib.hid (And.intro (HI.out.1.ext' (H2.out.1.trans hE3)) (And.intro (box_ext H2.out.2 hE3) (show Box w3 gp p from hbp)))
        obtain ⟨e0, _, _, _⟩ := box4 H3.out.2.1
        clear hw3 hw3' hgp hbp hE3 H2
        by_cases h3 : ad.toNat % 4 = 3
        · have d3 : (ad.toNat : Int) % 4 = 3 := by omega
          repeat' (go_not_at_region 11; (first | go_skip | go_guarded | go_step))
          rename_i K hK
          refine ver_11 w w3 gr gl ng rc lc k g gp gs us u p (Lib.hid ⟨H3.out.1, HG.out.2.1, HG.out.2.2, H3.out.2.2⟩) HG.out.1 (by have := HG.out.1; have := HI.out.2; omega) hps _ _ K _ _ _ _ _ _ _ _ _ _ _ _ _ _ _ _ _ _ _ _ _ _ _ _ _ _ _ _ _ _ _ _ _ _ _ _ _ _ _ _ _ _ _ _ _ _ _ _ _ _ _ _ _ _ _ _ _ _ _ _ _ _ _ _ _ _ _ _ _ _ _ _ _ _ _ _ _ _ _ _ _ _ _ _ _ _ _ _ _ _ _ _ _ _ _ _ _ _ _ _ _ (by kernel_rfl) (by kernel_rfl) hK ?_
          intro g1 u1 v3 v4 z9 z10 z41 z42 z43 z44 z45 z46 z47 z48 z49 z50 z51 z52 z53 z54 z55 z56 z57 z58 z59 z60 z61 z62 z63 z64 wx hpo
          have H6 := Lib.hid hpo
          clear hpo
          repeat' (first | go_skip | go_guarded | go_step)
          go_roundg (n - (i + 1))
          case measure => omega
          case rel => exact ⟨i + 1, _, _, by go_num, by omega, Nat.le_refl _, Lib.hid ⟨H6.out, by have := HI.out.2; have := HG.out.1; simp; omega, by have := HI.out.2; have := HG.out.1; simp; omega, by simp⟩⟩
        · have d3 : ((ad.toNat : Int) % 4 = 3) = False := by rw [eq_iff_iff, iff_false]; omega
          have d3' : decide ((ad.toNat : Int) % 4 = 3) = false := by rw [decide_eq_false_iff_not]; omega
          have d3'' : ((ad.toNat : Int) % 4 == 3) = false := by rw [beq_eq_false_iff_ne]; omega
          repeat' (go_not_at_region 13; (first | go_skip | go_guarded | go_step))
          rename_i K hK
          refine ver_13 w w3 gr gl ng rc lc k g gp gs us u p (Lib.hid ⟨H3.out.1, HG.out.2.1, HG.out.2.2, H3.out.2.2⟩) HG.out.1 (by have := HG.out.1; have := HI.out.2; omega) hps _ _ K _ _ _ _ _ _ _ _ _ _ _ _ _ _ _ _ _ _ _ _ _ _ _ _ _ _ _ _ _ _ _ _ _ _ _ _ _ _ _ _ _ _ _ _ _ _ _ _ _ _ _ _ _ _ _ _ _ _ _ _ _ _ _ _ _ _ _ _ _ _ _ _ _ _ _ _ _ _ _ _ _ _ _ _ _ _ _ _ _ _ _ _ _ _ _ _ _ _ _ _ _ (by kernel_rfl) (by kernel_rfl) hK ?_
          intro g1 u1 v3 v4 z11 z12 z65 z66 z67 z68 z69 z70 z71 z72 z73 z74 z75 z76 z77 z78 z79 z80 z81 z82 z83 z84 z85 z86 wx hpo
          have H6 := Lib.hid hpo
          clear hpo
          repeat' (first | go_skip | go_guarded | go_step)
          go_roundg (n - (i + 1))
          case measure => omega
          case rel => exact ⟨i + 1, _, _, by go_num, by omega, Nat.le_refl _, Lib.hid ⟨H6.out, by have := HI.out.2; have := HG.out.1; simp; omega, by have := HI.out.2; have := HG.out.1; simp; omega, by simp⟩⟩
      · have d2 : decide (40 ≤ i) = true := by simp; omega
        have d2' : decide ((40 : Int) ≤ (i : Int)) = true := by simp; omega
        repeat' (go_not_at_region 16; (first | go_skip | go_guarded | go_step))
        rename_i K hK
        refine ver_16 w _ _ _ gs us (Lib.hid (HI.out.1.ext' ((Ext.refl _).alloc (Nat.le_refl _) _))) HI.out.2.2.2 (by have := HI.out.2; omega) _ _ K _ _ _ _ _ _ _ _ _ _ _ _ _ _ _ _ _ _ _ _ _ _ _ _ _ _ _ _ _ _ _ _ _ _ _ _ _ _ _ _ _ _ _ _ _ _ _ _ _ _ _ _ _ _ _ _ _ _ _ _ _ _ _ _ _ _ _ _ _ _ _ _ _ _ _ _ _ _ _ _ _ _ _ _ _ _ _ _ _ _ _ _ _ _ _ _ _ _ _ _ _ _ _ (by kernel_rfl) (by kernel_rfl) hK ?_
        intro z2 z13 z88 z89 z90 z91 z92 z93 z94 z95 z96 z97 z98 z99 z100 z101 z102 z103 wx hE
        have HE := Lib.hid hE
        clear hE
        repeat' (first | go_skip | go_guarded | go_step)
        go_ret
        exact ⟨rfl, (HI.out.1.ext.trans (Ext.trans ((Ext.refl _).alloc (Nat.le_refl _) _) HE.out))⟩
    · obtain rfl : i = n := by omega
      have d1 : decide (i < i) = false := by simp
      repeat' (go_not_at_region 16; (first | go_skip | go_guarded | go_step))
      rename_i K hK
      refine ver_16 w _ _ _ gs us (Lib.hid HI.out.1) HI.out.2.2.2 (by have := HI.out.2; omega) _ _ K _ _ _ _ _ _ _ _ _ _ _ _ _ _ _ _ _ _ _ _ _ _ _ _ _ _ _ _ _ _ _ _ _ _ _ _ _ _ _ _ _ _ _ _ _ _ _ _ _ _ _ _ _ _ _ _ _ _ _ _ _ _ _ _ _ _ _ _ _ _ _ _ _ _ _ _ _ _ _ _ _ _ _ _ _ _ _ _ _ _ _ _ _ _ _ _ _ _ _ _ _ _ _ (by kernel_rfl) (by kernel_rfl) hK ?_
      intro z2 z13 z88 z89 z90 z91 z92 z93 z94 z95 z96 z97 z98 z99 z100 z101 z102 z103 wx hE
      have HE := Lib.hid hE
      clear hE
      repeat' (first | go_skip | go_guarded | go_step)
      go_ret
      exact ⟨rfl, (HI.out.1.ext.trans HE.out)⟩
end Go.Proofs.Ytmpeniboccahdaa
