/- WalkOrders: its walk. -/
import Derived.Test.YtbmakajadelckaaWoa
import Derived.Test.YtbmakajadelckaaWoc
import Derived.Test.YtbmakajadelckaaM33
import Derived.Test.YtbmakajadelckaaWb
import Derived.Test.YtbmakajadelckaaM34
set_option linter.unusedVariables false
set_option linter.unusedSimpArgs false
namespace Go.Proofs.Ytbmakajadelckaa
open Go.RowKit Go.QS Go.QS.Nk
set_option linter.unusedVariables false

abbrev RP8 : TypeId := 36
theorem infoR8 : ∃ i z, Try.prog.info? 36 = some i ∧ i.zero = some z ∧ i.size = 2 ∧ i.bytes = 32 ∧ z.cells.size = 2 := info_of (z := .agg #[str [], str []]) (by kernel_rfl) rfl

theorem seg_u8w {w : World} {A : Option Addr} {l : List UInt8} (hs : Seg w A (flatE encU l)) {i : Nat} {a : UInt8} (h : l[i]? = some a) : ∃ b o, A = some ⟨b, o, none⟩ ∧ w.cell? ⟨b, o + i, none⟩ = some (.int .u8 a.toNat) := by
  obtain ⟨b, o, hA, hq⟩ := seg_el encU_len (by decide) hs h
  refine ⟨b, o, hA, ?_⟩
  have := hq 0 _ rfl
  rwa [Nat.mul_one, Nat.add_zero] at this

set_option maxRecDepth 100000 in
set_option maxHeartbeats 2000000 in
theorem walkOrders_c (w : World) (h : Hs) (hk : h.Ok) (v1 v2 : Value) (l : List Pr) (os : List UInt8) (hP : PS w v1 l) (hO : Sl w 1 v2 os.length (flatE encU os)) :
    Calls Try.prog 3 #[hsV h, v1, v2] w fun e w' => e = .returned (.bool true) ∧ Ext w w' := by
  obtain ⟨Bo, D, rfl, _, hno, hco, hso⟩ := hO
  obtain ⟨m, hm⟩ : ∃ m, m = os.length := ⟨_, rfl⟩
  rw [← hm] at hno ⊢
  have hm9 : m ≤ 9223372036854775807 := by unfold maxLen at hco; omega
  have HP := Lib.hid (And.intro hP (And.intro hso hm))
  clear hP hso hm
  go_enter Try.func3, Try.ntmps3
  repeat' (go_not_at_region 1; (first | go_skip | go_guarded | go_step))
  obtain ⟨gh, hgh⟩ : ∃ g, g = w.heap.size := ⟨_, rfl⟩
  rw [← hgh]
  refine wp_named (fun w' => HsAt w' gh h ∧ Ext w w') ⟨by rw [hgh]; exact heap_new w _, (Ext.refl w).alloc (Nat.le_refl _) _⟩ ?_
  clear hgh
  intro wa HW
  repeat' (first | go_at_call 10 | go_skip | go_guarded | go_step)
  refine (awake08_c wa).mono ?_
  rintro e w1 ⟨rfl, f1⟩
  have H1 : Hid (HsAt w1 gh h ∧ Ext w w1) := Lib.hid ⟨HW.out.1.ext f1, HW.out.2.trans f1⟩
  clear f1 HW
  obtain ⟨c0, c1, c2⟩ := H1.out.1.cells
  go_simp
  repeat' (first | go_at_call 11 | go_skip | go_guarded | go_step)
  refine (trie08_c h hk w1 v1 l (HP.out.1.below H1.out.2)).mono ?_
  rintro e w2 ⟨g, vx, vs, rfl, f2, t2, p2, s2⟩
  obtain ⟨X, hX⟩ : ∃ X, X = xOf l := ⟨_, rfl⟩
  obtain ⟨hXr, hXl, hXk⟩ := xOf_ok l
  rw [← hX] at t2 p2 s2 hXr hXl hXk
  obtain ⟨L, hL⟩ : ∃ L, L = walkT (trieOf h.hash 13 X) 1 := ⟨_, rfl⟩
  rw [← hL] at s2
  have hLl : L.length = X.length := by rw [hL]; exact walk_len _ _ _ _
  obtain ⟨As, Cs, rfl, _, hns, hcs, hss⟩ := s2
  obtain ⟨Ax, Cx, rfl, _, hnx, hcx, hsx⟩ := id p2
  obtain ⟨n, hn⟩ : ∃ n, n = X.length := ⟨_, rfl⟩
  rw [hLl, ← hn] at hns
  rw [← hn] at hnx
  rw [hLl]
  rw [← hn]
  have hn40 : n ≤ 40 := by omega
  have HX := Lib.hid (And.intro hXr (And.intro hXk (And.intro hL (And.intro hn (And.intro hLl hXl)))))
  have H2 : Hid (HsAt w2 gh h ∧ Ext w w2 ∧ TR ND h.hash w2 13 g X ∧ Seg w2 As (flatS L) ∧ Seg w2 Ax (flat X) ∧ Seg w2 Bo (flatE encU os)) := Lib.hid ⟨H1.out.1.ext f2, H1.out.2.trans f2, t2, hss, hsx, HP.out.2.1.below (H1.out.2.trans f2)⟩
  clear f2 t2 p2 hss hsx hX hXr hXk hXl hL hn hLl c0 c1 c2
  go_simp
  repeat' (first
    | (at_builtin; refine wpList_appE (W := w2) rfl (.tmp 29) (.tmp 30) _ rfl RP8 2 32 Try.underlying31 infoR8 (by decide) _ 0 [] rfl (own_lit [] 0 (by decide) rfl (Nat.le_refl _)) ((Ext.refl w2).alloc (Nat.le_refl _) _) _ n Cx (flat X) rfl (by rw [flat_length, ← HX.out.2.2.2.1]) (H2.out.2.2.2.2.1.alloc _) (flat_one _) (by unfold maxLen; omega) (by omega) ?_
       intro v3 w3 hown hb
       rw [Nat.zero_add, List.nil_append] at hown
       obtain ⟨A3, C3, rfl⟩ := own_slice hown
       have H3 : Hid (w3.ownsRow w2.heap.size RP8 2 (.slice A3 n C3) n (flat X) ∧ Ext w2 w3) := Lib.hid ⟨hown, hb⟩
       clear hown hb)
    | (go_not_at_region 6; (first | go_skip | go_guarded | go_step)))
  go_loopg [34] n (fun gk v34 wx => ∃ (i : Nat) (Ls : List Pr), v34 = .int .i64 i ∧ i ≤ n ∧ n - i ≤ gk ∧ Hid (Ext w2 wx ∧ wx.ownsRow w2.heap.size RP8 2 (.slice A3 n C3) n (flat Ls) ∧ Ls.length = n ∧ ∀ k, k ∈ Ls ↔ k ∈ X))
  case atStart => exact ⟨0, X, rfl, Nat.zero_le _, by omega, Lib.hid ⟨H3.out.2, H3.out.1, HX.out.2.2.2.1.symm, fun k => Iff.rfl⟩⟩
  case round =>
    obtain ⟨i, Ls, rfl, hin, hgk, HI⟩ := hrel
    rcases Nat.lt_or_ge i n with hlt | hge
    · as_aux_lemma =>
        have d1 : decide (i < n) = true := by simp [hlt]
        have hi1 : (i : Int) < (n : Int) := by omega
        by_cases h20 : i < m
        · have d2 : decide (i < m) = true := by simp [h20]
          have hi2 : (i : Int) < (m : Int) := by omega
          obtain ⟨c, hc⟩ := get_of_lt os (show i < os.length by have := HP.out.2.2; omega)
          obtain ⟨b, o, rfl, hq⟩ := seg_u8w (H2.out.2.2.2.2.2.below HI.out.1) hc
          clear hc
          repeat' (go_not_at_region 10; (first | go_skip | go_guarded | go_step))
          obtain ⟨j, hj⟩ : ∃ j, j = i + c.toNat % (n - i) := ⟨_, rfl⟩
          have hjn : j < n := by have := Nat.mod_lt c.toNat (show 0 < n - i by omega); omega
          have hjv : wrap64 (↑i + (wrap64 ↑c.toNat).tmod (↑n - ↑i)) = (j : Int) := by
            have hc9 := c.toNat_lt
            have e1 : wrap64 (c.toNat : Int) = c.toNat := by unfold wrap64; omega
            have e2 : ((n : Int) - (i : Int)) = ((n - i : Nat) : Int) := by omega
            rw [e1, e2, ← Int.ofNat_tmod, ← Int.natCast_add, ← hj]
            unfold wrap64; omega
          rw [hjv]
          clear hjv hj
          obtain ⟨ki, hki⟩ := get_of_lt Ls (show i < Ls.length by have := HI.out.2.2.1; omega)
          obtain ⟨kj, hkj⟩ := get_of_lt Ls (show j < Ls.length by have := HI.out.2.2.1; omega)
          rcases HI.out.2.1.2 with ⟨h0, _⟩ | ⟨gb, cp, cur, h0, _⟩
          · cases h0; omega
          simp only [Value.slice.injEq] at h0
          obtain ⟨rfl, _, rfl⟩ := h0
          have HM := Lib.hid (mem_swap hki hkj)
          refine ord8_10 w2 wr gb n C3 i j ki kj Ls (Lib.hid ⟨HI.out.1, HI.out.2.1, HI.out.2.2.1.symm, hki, hkj⟩) (by omega) _ _ _ _ _ _ _ _ _ _ _ _ _ _ _ _ _ _ _ _ _ _ _ _ _ _ _ _ _ _ _ _ _ _ _ _ _ _ _ _ _ _ _ _ _ _ _ _ _ _ _ _ _ _ _ _ _ _ _ _ _ _ _ _ _ _ _ _ _ _ _ _ _ _ _ _ _ _ _ _ _ _ _ _ _ _ _ _ _ _ _ _ _ _ _ _ _ _ _ _ _ _ _ _ _ _ _ _ _ _ _ _ _ _ _ _ _ _ (by kernel_rfl) ?_
          intro z53 z54 z55 z56 z57 z58 z59 z60 z61 z62 z63 z64 z65 z66 wy hpo
          have H6 := Lib.hid hpo
          clear hpo hki hkj
          repeat' (first | go_skip | go_guarded | go_step)
          go_roundg (n - (i + 1))
          case measure => omega
          case rel => exact ⟨i + 1, _, by go_num, by omega, Nat.le_refl _, Lib.hid ⟨H6.out.1, H6.out.2, by simp; exact HI.out.2.2.1, fun k => (HM.out k).trans (HI.out.2.2.2 k)⟩⟩
        · have d2 : decide (i < m) = false := by simp; omega
          repeat' (first | go_skip | go_guarded | go_step)
          go_roundg (n - (i + 1))
          case measure => omega
          case rel => exact ⟨i + 1, Ls, by go_num, by omega, Nat.le_refl _, HI⟩
    · as_aux_lemma =>
        obtain rfl : i = n := by omega
        have d1 : decide (i < i) = false := by simp
        have H4 : Hid (HsAt wr gh h ∧ Ext w2 wr ∧ Seg wr A3 (flat Ls)) := Lib.hid ⟨H2.out.1.ext HI.out.1, HI.out.1, by
          obtain ⟨A', C', e', _, _, _, hs'⟩ := Sl.of_own HI.out.2.1
          injection e' with e1 e2 e3
          rw [e1]; exact hs'⟩
        have hLs : ∀ p ∈ Ls, p.1.length ≤ 40 := fun p hp => (HX.out.2.1 p ((HI.out.2.2.2 p).1 hp)).1
        have HL := Lib.hid (And.intro hLs (And.intro (rsort_same HX.out.1 HI.out.2.2.2) HI.out.2.2.1))
        clear hLs hgk hge HI hin
        repeat' (first | go_at_call 12 | (go_not_at_region 14; (first | go_skip | go_guarded | go_step)))
        refine (empty_c h wr).mono ?_
        rintro e w4 ⟨g0, rfl, T0, f0⟩
        have H5 : Hid (HsAt w4 gh h ∧ Ext w2 w4 ∧ Seg w4 A3 (flat Ls) ∧ TR ND h.hash w4 13 g0 []) := Lib.hid ⟨H4.out.1.ext f0, H4.out.2.1.trans f0, H4.out.2.2.below f0, T0⟩
        clear T0 f0 H4
        go_simp
        repeat' (go_not_at_region 14; (first | go_skip | go_guarded | go_step))
        go_loopg [13, 15, 71] i (fun gk v13 v15 v71 wx => ∃ (j g' : Nat), v13 = ptr g' ∧ v71 = .int .i64 j ∧ j ≤ i ∧ i - j ≤ gk ∧ Hid (HsAt wx gh h ∧ Ext w4 wx ∧ TR ND h.hash wx 13 g' (rsort (Ls.take j))))
        case atStart => exact ⟨0, g0, rfl, rfl, Nat.zero_le _, by omega, Lib.hid ⟨H5.out.1, Ext.refl _, H5.out.2.2.2⟩⟩
        case round =>
          obtain ⟨j, g', rfl, rfl, hj, hgk, HI⟩ := hrel
          rcases Nat.lt_or_ge j i with hlt | hge
          · have e2 : decide (j < i) = true := by simp [hlt]
            have hj1 : (j : Int) < (i : Int) := by omega
            obtain ⟨p, hp⟩ := get_of_lt Ls (show j < Ls.length by have := HL.out.2.2; omega)
            obtain ⟨b, o, rfl, q0, q1⟩ := seg_pair (H5.out.2.2.1.below HI.out.2.1) hp
            have hpk : p.1.length ≤ 40 := HL.out.1 p (List.mem_of_getElem? hp)
            have hT1 : rsort (Ls.take (j + 1)) = rput (rsort (Ls.take j)) p := by rw [take_snoc hp, rsort_snoc]
            have HT1 := Lib.hid hT1
            clear hp hT1
            repeat' (go_not_at_region 16; (first | go_skip | go_guarded | go_step))
            obtain ⟨gp, hgp⟩ : ∃ g, g = wr.heap.size := ⟨_, rfl⟩
            rw [← hgp]
            refine wp_nameW (fun w' => w'.cell? ⟨gp, 0, none⟩ = some (str p.1) ∧ w'.cell? ⟨gp, 1, none⟩ = some (str p.2) ∧ HsAt w' gh h ∧ Ext w4 w' ∧ TR ND h.hash w' 13 g' (rsort (Ls.take j))) ⟨by rw [World.cell?_alloc_at _ _ _ _ hgp]; rfl, by rw [World.cell?_alloc_at _ _ _ _ hgp]; rfl, HI.out.1.ext ((Ext.refl _).alloc (Nat.le_refl _) _), Ext.trans HI.out.2.1 ((Ext.refl _).alloc (Nat.le_refl _) _), TR.ext ((Ext.refl _).alloc (Nat.le_refl _) _) 13 HI.out.2.2⟩ ?_
            clear hgp q0 q1
            intro x1 H6
            obtain ⟨p0, p1, _⟩ := id H6.out
            obtain ⟨s0, s1, s2⟩ := H6.out.2.2.1.cells
            have hYl : (rsort (Ls.take j)).length ≤ 40 := by
              have := rsort_length (Ls.take j)
              rw [List.length_take] at this
              omega
            have HPU := Lib.hid (cput_c h hk x1 (ptr g') (rsort (Ls.take j)) p (Rot.of H6.out.2.2.2.2) (rsort_rise _) (by omega) (fun y hy => by have := HL.out.1 y (List.mem_of_mem_take (rsort_sub _ y hy)); omega) (by omega))
            repeat' (first | go_at_call 13 | go_skip | go_guarded | go_step)
            refine HPU.out.mono ?_
            rintro e x2 ⟨g3, rfl, t3, f3, _⟩
            have H7 : Hid (HsAt x2 gh h ∧ Ext w4 x2 ∧ TR ND h.hash x2 13 g3 (rsort (Ls.take (j + 1)))) := Lib.hid ⟨H6.out.2.2.1.ext f3, Ext.trans H6.out.2.2.2.1 f3, by rw [HT1.out]; exact t3⟩
            clear t3 f3 p0 p1 s0 s1 s2 HPU
            go_simp
            repeat' (first | go_skip | go_guarded | go_step)
            go_roundg (i - (j + 1))
            case measure => omega
            case rel => exact ⟨j + 1, g3, rfl, by go_num, by omega, Nat.le_refl _, H7⟩
          · obtain rfl : j = i := by omega
            have e2 : decide (j < j) = false := by simp
            have hX : rsort (Ls.take j) = X := by rw [List.take_of_length_le (by have := HL.out.2.2; omega)]; exact HL.out.2.1
            rw [hX] at HI
            have E4 : Ext w2 wr := Ext.trans H5.out.2.1 HI.out.2.1
            have HH : Hid (RepN ND wr g (trieOf h.hash 13 X) ∧ RepN ND wr g' (trieOf h.hash 13 X) ∧ Seg wr As (flatS L) ∧ L = walkT (trieOf h.hash 13 X) 1 ∧ j = L.length ∧ Rise X ∧ X.length ≤ 40 ∧ ∀ q ∈ X, q.1.length ≤ 40) := Lib.hid ⟨TR.rep 13 (TR.ext E4 13 H2.out.2.2.1) (by have := HX.out.2.2.2.2.2; omega), TR.rep 13 HI.out.2.2 (by have := HX.out.2.2.2.2.2; omega), H2.out.2.2.2.1.below E4, HX.out.2.2.1, by have := HX.out.2.2.2.1; have := HX.out.2.2.2.2.1; omega, HX.out.1, HX.out.2.2.2.2.2, fun q hq => (HX.out.2.1 q hq).1⟩
            have HE := Lib.hid (Ext.trans H2.out.2.1 E4)
            clear hX E4 hgk hge
            repeat' (go_not_at_region 18; (first | go_skip | go_guarded | go_step))
            rename_i K hK
            refine orders_tail wr g g' j Cx Cs Ax As h.hash X L (by omega) (by omega) hcs HH _ _ K _ _ _ _ _ _ _ _ _ _ _ _ _ _ _ _ _ _ _ _ _ _ _ _ _ _ _ _ _ _ _ _ _ _ _ _ _ _ _ _ _ _ _ _ _ _ _ _ _ _ _ _ _ _ _ _ _ _ _ _ _ _ _ _ _ _ _ _ _ _ _ _ _ _ _ _ _ _ _ _ _ _ _ _ _ _ _ _ _ _ _ _ _ _ _ _ _ _ _ _ _ _ _ _ _ _ _ _ _ _ _ _ _ _ _ _ (by kernel_rfl) (by kernel_rfl) hK ?_
            intro a wx hd ht hE
            have HE2 := Lib.hid hE
            clear hE
            (try simp only [Exit.inBlock, Exit.then])
            repeat' go_step
            refine bodyPost_ret (results_tmp rfl _ _ _) hd ?_
            exact ⟨by rw [ht], Ext.trans HE.out HE2.out⟩
end Go.Proofs.Ytbmakajadelckaa
