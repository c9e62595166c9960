/- ChampVersions, walked. -/
import Derived.Test.YtlgnokhfioglaaaBx
import Derived.Test.YtlgnokhfioglaaaBo
import Derived.Deep.LoopGhost
set_option linter.unusedVariables false
set_option linter.unusedSimpArgs false
namespace Go.Proofs.Ytlgnokhfioglaaa
open Go.RowKit Go.QS Go.QS.Nk
set_option linter.unusedVariables false

theorem seg_act5v {w : World} {A : Option Addr} {l : List Ac} (hs : Seg w A (flatE encA l)) {i : Nat} {a : Ac} (h : l[i]? = some a) :
    ∃ b o, A = some ⟨b, o, none⟩ ∧ w.cell? ⟨b, o + i * 5, none⟩ = some (.int .u8 a.1.toNat) ∧ w.cell? ⟨b, o + i * 5 + 1, none⟩ = some (str a.2.1.1) ∧ w.cell? ⟨b, o + i * 5 + 2, none⟩ = some (str a.2.1.2) ∧ w.cell? ⟨b, o + i * 5 + 3, none⟩ = some (.int .u8 a.2.2.1.toNat) ∧ w.cell? ⟨b, o + i * 5 + 4, none⟩ = some (.bool a.2.2.2) := by
  obtain ⟨b, o, hA, hq⟩ := seg_el encA_len (by decide) hs h
  refine ⟨b, o, hA, hq 0 _ rfl, ?_, ?_, ?_, ?_⟩
  · rw [Nat.add_assoc]; exact hq 1 _ rfl
  · rw [Nat.add_assoc]; exact hq 2 _ rfl
  · rw [Nat.add_assoc]; exact hq 3 _ rfl
  · rw [Nat.add_assoc]; exact hq 4 _ rfl
set_option maxRecDepth 100000 in
set_option maxHeartbeats 2000000 in
theorem champVersions_c (w : World) (h : Hs) (hk : h.Ok) (va : Value) (L : List Ac) (ha : Sl w 5 va L.length (flatE encA L)) :
    Calls Try.prog 8 #[hsV h, va] w fun e w' => e = .returned (.bool true) ∧ Ext w w' := by
  obtain ⟨A, C, rfl, _, hn, hC, hsA⟩ := ha
  obtain ⟨n, hn2⟩ : ∃ n, n = L.length := ⟨_, rfl⟩
  have hn9 : n ≤ 9223372036854775807 := by unfold maxLen at hC; omega
  rw [← hn2] at hn ⊢
  have HN : Hid (n = L.length ∧ Seg w A (flatE encA L)) := Lib.hid ⟨hn2, hsA⟩
  clear hn2 hsA
  go_enter Try.func8, Try.ntmps8
  repeat' (first | go_at_call 37 | go_skip | go_guarded | go_step)
  obtain ⟨gh, hgh⟩ : ∃ g, g = w.heap.size := ⟨_, rfl⟩
  rw [← hgh]
  refine calls_named (fun w' => HsAt w' gh h ∧ Ext w w') ⟨by rw [hgh]; exact heap_new w _, (Ext.refl w).alloc (Nat.le_refl _) _⟩ ?_
  clear hgh
  intro wh HW
  refine (awake6_c wh).mono ?_
  rintro e w1 ⟨rfl, f1⟩
  have H1 : Hid (HsAt w1 gh h ∧ Ext w w1) := Lib.hid ⟨HW.out.1.ext f1, HW.out.2.trans f1⟩
  clear f1
  go_simp
  repeat' (first | go_at_call 38 | go_skip | go_guarded | go_step)
  refine (empty_c h w1).mono ?_
  rintro e w0 ⟨g0, rfl, r0, f0⟩
  have H0 : Hid (Ext w w0 ∧ HsAt w0 gh h ∧ TR ND h.hash w0 13 g0 []) := Lib.hid ⟨H1.out.2.trans f0, H1.out.1.ext f0, r0⟩
  clear f0 r0
  go_simp
  repeat' (go_not_at_region 5; (first | go_skip | go_guarded | go_step))
  have HV0 := Lib.hid (Vers6.start H0.out.1 H0.out.2.1 H0.out.2.2)
  go_loopg [5, 6, 23] n (fun gk v5 v6 v23 wx => ∃ (i : Nat) (gs : List Nat) (us : List Value), v23 = .int .i64 i ∧ i ≤ n ∧ n - i ≤ gk ∧ Hid (Vers6 w wx gh h v5 v6 gs us ∧ gs.length ≤ i + 1 ∧ gs.length ≤ 31 ∧ 0 < gs.length))
  case atStart => exact ⟨0, _, _, rfl, Nat.zero_le _, by omega, Lib.hid ⟨HV0.out, by simp, by simp, by simp⟩⟩
  case round =>
    obtain ⟨i, gs, us, rfl, hin, hgk, HI⟩ := hrel
    rcases Nat.lt_or_ge i n with hlt | hge
    · have d1 : decide (i < n) = true := by simp [hlt]
      obtain ⟨a, hp⟩ := get_of_lt L (show i < L.length by have := HN.out.1; omega)
      obtain ⟨b, o, rfl, q0, q1, q2, q3, q4⟩ := seg_act5v (HN.out.2.below HI.out.1.ext) hp
      have hi1 : (i : Int) < (n : Int) := by omega
      obtain ⟨ad, ⟨ak, av⟩, aa, ao⟩ := a
      clear hp
      by_cases h40 : i < 30
      · have d2 : decide (30 ≤ i) = false := by simp; omega
        have d2' : decide ((30 : Int) ≤ (i : Int)) = false := by simp; omega
        repeat' (go_not_at_region 7; (first | go_skip | go_guarded | go_step))
        obtain ⟨g8, hg8⟩ : ∃ g, g = wr.heap.size := ⟨_, rfl⟩
        rw [← hg8]
        refine wp_named (fun w' => Ext wr w' ∧ w'.heap[g8]? = some (.cells #[Value.int IntKind.u8 ad.toNat, str ak, str av, Value.int IntKind.u8 aa.toNat, .bool ao] 78 (0, 0))) ⟨(Ext.refl _).alloc (Nat.le_refl _) _, by rw [hg8]; exact heap_new wr _⟩ ?_
        clear hg8 q0 q1 q2 q3 q4
        intro wb HA
        obtain ⟨e0, e1, e2, e3, e4⟩ := box5 HA.out.2
        obtain ⟨gr, rc, gl, lc, hv3, hv4⟩ := HI.out.1.open HI.out.2.2.2
        subst hv3 hv4
        obtain ⟨ng, hng⟩ : ∃ ng, ng = gs.length := ⟨_, rfl⟩
        rw [← hng] at HI ⊢
        have hng0 : 0 < ng := HI.out.2.2.2
        have hng9 : ng ≤ 31 := HI.out.2.2.1
        obtain ⟨k, hk9⟩ : ∃ k, k = aa.toNat % ng := ⟨_, rfl⟩
        have hkn : k < ng := by rw [hk9]; exact Nat.mod_lt _ hng0
        obtain ⟨g, hg⟩ := get_of_lt gs (show k < gs.length by omega)
        obtain ⟨u, hu⟩ := get_of_lt us (show k < us.length by have := HI.out.1.len; omega)
        have HG : Hid (ng = gs.length ∧ gs[k]? = some g ∧ us[k]? = some u) := Lib.hid ⟨hng, hg, hu⟩
        clear hng hg hu
        repeat' (go_not_at_region 9; (first | go_skip | go_guarded | go_step))
        have hkv : (wrap64 ↑aa.toNat).tmod ↑ng = (k : Int) := by
          have hc9 := aa.toNat_lt
          have e1 : wrap64 (aa.toNat : Int) = aa.toNat := by unfold wrap64; omega
          rw [e1, ← Int.ofNat_tmod, ← hk9]
        rw [hkv]
        clear hkv hk9
        repeat' (first | go_at_call 39 | go_skip | go_guarded | go_step)
        refine (fewp_c wb (ak, av)).mono ?_
        rintro e w2 ⟨rfl, f2⟩
        obtain ⟨p, hp⟩ : ∃ p, p = cutP (ak, av) := ⟨_, rfl⟩
        have hps : p.1.length ≤ 40 ∧ p.2.length ≤ 40 := by rw [hp]; exact cutP_short _
        rw [← hp]
        have H2 : Hid (Ext wr w2 ∧ w2.heap[g8]? = some (.cells #[Value.int IntKind.u8 ad.toNat, str ak, str av, Value.int IntKind.u8 aa.toNat, .bool ao] 78 (0, 0))) := Lib.hid ⟨HA.out.1.trans f2, box_ext' HA.out.2 f2⟩
        clear f2 e0 e1 e2 e3 e4 hp
        go_simp
        repeat' (go_not_at_region 10; (first | go_skip | go_guarded | go_step))
        obtain ⟨gp, hgp⟩ : ∃ g, g = w2.heap.size := ⟨_, rfl⟩
        rw [← hgp]
        refine wp_named (fun w' => Ext w2 w' ∧ PrAt w' gp p) ⟨(Ext.refl _).alloc (Nat.le_refl _) _, by rw [hgp]; exact heap_new w2 _⟩ ?_
        clear hgp
        intro w3 HB
        have H3 := Lib.hid (And.intro (HI.out.1.ext' (H2.out.1.trans HB.out.1)) (And.intro (box_ext' H2.out.2 HB.out.1) HB.out.2))
        obtain ⟨e0, _, _, _, _⟩ := box5 H3.out.2.1
        by_cases h3 : ad.toNat % 4 = 3
        · have d3 : (ad.toNat : Int) % 4 = 3 := by omega
          repeat' (go_not_at_region 11; (first | go_skip | go_guarded | go_step))
          rename_i K hK
          refine ver6_11 w w3 gh h hk gr gl ng rc lc k g gp gs us u p (Lib.hid ⟨H3.out.1, HG.out.2.1, HG.out.2.2, H3.out.2.2⟩) HG.out.1 (by have := HG.out.1; have := HI.out.2; omega) hps _ _ K _ _ _ _ _ _ _ _ _ _ _ _ _ _ _ _ _ _ _ _ _ _ _ _ _ _ _ _ _ _ _ _ _ _ _ _ _ _ _ _ _ _ _ _ _ _ _ _ _ _ _ _ _ _ _ _ _ _ _ _ _ _ _ _ _ _ _ _ _ _ _ _ _ _ _ _ _ _ _ _ _ _ _ _ _ _ _ _ _ _ _ _ _ _ _ _ _ _ _ _ _ _ _ _ _ (by kernel_rfl) (by kernel_rfl) hK ?_
          intro g1 u1 v3 v4 z11 z12 z43 z44 z45 z46 z47 z48 z49 z50 z51 z52 z53 z54 z55 z56 z57 z58 z59 z60 z61 z62 z63 z64 z65 z66 z67 wx hpo
          have H6 := Lib.hid hpo
          clear hpo
          repeat' (first | go_skip | go_guarded | go_step)
          go_roundg (n - (i + 1))
          case measure => omega
          case rel => exact ⟨i + 1, _, _, by go_num, by omega, Nat.le_refl _, Lib.hid ⟨H6.out, by have := HI.out.2; have := HG.out.1; simp; omega, by have := HI.out.2; have := HG.out.1; simp; omega, by simp⟩⟩
        · have d3 : ((ad.toNat : Int) % 4 = 3) = False := by rw [eq_iff_iff, iff_false]; omega
          have d3' : decide ((ad.toNat : Int) % 4 = 3) = false := by rw [decide_eq_false_iff_not]; omega
          have d3'' : ((ad.toNat : Int) % 4 == 3) = false := by rw [beq_eq_false_iff_ne]; omega
          repeat' (go_not_at_region 13; (first | go_skip | go_guarded | go_step))
          rename_i K hK
          refine ver6_13 w w3 gh h hk gr gl ng rc lc k g gp gs us u p (Lib.hid ⟨H3.out.1, HG.out.2.1, HG.out.2.2, H3.out.2.2⟩) HG.out.1 (by have := HG.out.1; have := HI.out.2; omega) hps _ _ K _ _ _ _ _ _ _ _ _ _ _ _ _ _ _ _ _ _ _ _ _ _ _ _ _ _ _ _ _ _ _ _ _ _ _ _ _ _ _ _ _ _ _ _ _ _ _ _ _ _ _ _ _ _ _ _ _ _ _ _ _ _ _ _ _ _ _ _ _ _ _ _ _ _ _ _ _ _ _ _ _ _ _ _ _ _ _ _ _ _ _ _ _ _ _ _ _ _ _ _ _ _ _ _ _ (by kernel_rfl) (by kernel_rfl) hK ?_
          intro g1 u1 v3 v4 z13 z14 z68 z69 z70 z71 z72 z73 z74 z75 z76 z77 z78 z79 z80 z81 z82 z83 z84 z85 z86 z87 z88 z89 z90 wx hpo
          have H6 := Lib.hid hpo
          clear hpo
          repeat' (first | go_skip | go_guarded | go_step)
          go_roundg (n - (i + 1))
          case measure => omega
          case rel => exact ⟨i + 1, _, _, by go_num, by omega, Nat.le_refl _, Lib.hid ⟨H6.out, by have := HI.out.2; have := HG.out.1; simp; omega, by have := HI.out.2; have := HG.out.1; simp; omega, by simp⟩⟩
      · have d2 : decide (30 ≤ i) = true := by simp; omega
        have d2' : decide ((30 : Int) ≤ (i : Int)) = true := by simp; omega
        repeat' (go_not_at_region 16; (first | go_skip | go_guarded | go_step))
        rename_i K hK
        refine ver6_16 w _ gh h hk _ _ gs us (Lib.hid (HI.out.1.ext' ((Ext.refl _).alloc (Nat.le_refl _) _))) HI.out.2.2.2 (by have := HI.out.2; omega) _ _ K _ _ _ _ _ _ _ _ _ _ _ _ _ _ _ _ _ _ _ _ _ _ _ _ _ _ _ _ _ _ _ _ _ _ _ _ _ _ _ _ _ _ _ _ _ _ _ _ _ _ _ _ _ _ _ _ _ _ _ _ _ _ _ _ _ _ _ _ _ _ _ _ _ _ _ _ _ _ _ _ _ _ _ _ _ _ _ _ _ _ _ _ _ _ _ _ _ _ _ _ _ _ _ _ _ _ _ (by kernel_rfl) (by kernel_rfl) hK ?_
        intro z4 z15 z92 z93 z94 z95 z96 z97 z98 z99 z100 z101 z102 z103 z104 z105 z106 z107 z108 wx hE
        have HE := Lib.hid hE
        clear hE
        repeat' (first | go_skip | go_guarded | go_step)
        go_ret
        exact ⟨rfl, (HI.out.1.ext.trans (Ext.trans ((Ext.refl _).alloc (Nat.le_refl _) _) HE.out))⟩
    · obtain rfl : i = n := by omega
      have d1 : decide (i < i) = false := by simp
      repeat' (go_not_at_region 16; (first | go_skip | go_guarded | go_step))
      rename_i K hK
      refine ver6_16 w _ gh h hk _ _ gs us (Lib.hid HI.out.1) HI.out.2.2.2 (by have := HI.out.2; omega) _ _ K _ _ _ _ _ _ _ _ _ _ _ _ _ _ _ _ _ _ _ _ _ _ _ _ _ _ _ _ _ _ _ _ _ _ _ _ _ _ _ _ _ _ _ _ _ _ _ _ _ _ _ _ _ _ _ _ _ _ _ _ _ _ _ _ _ _ _ _ _ _ _ _ _ _ _ _ _ _ _ _ _ _ _ _ _ _ _ _ _ _ _ _ _ _ _ _ _ _ _ _ _ _ _ _ _ _ _ (by kernel_rfl) (by kernel_rfl) hK ?_
      intro z4 z15 z92 z93 z94 z95 z96 z97 z98 z99 z100 z101 z102 z103 z104 z105 z106 z107 z108 wx hE
      have HE := Lib.hid hE
      clear hE
      repeat' (first | go_skip | go_guarded | go_step)
      go_ret
      exact ⟨rfl, (HI.out.1.ext.trans HE.out)⟩
end Go.Proofs.Ytlgnokhfioglaaa
