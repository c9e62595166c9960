/- Contract: the document's example; PairSame. -/
import Derived.Test.YtdajhbllakmmlaaPm
import Derived.Test.YtdajhbllakmmlaaPb
namespace Go.Proofs.Ytdajhbllakmmlaa
open Go.RowKit Go.QS
set_option linter.unusedVariables false

def exL : List Pr := [([98], [49]), ([97], [50]), ([98], [51])]
def exS : List Pr := [([97], [50]), ([98], [51])]
theorem ex_sorted : sortedP exL = exS := by
  have h : [([97], [50]), ([98], [49]), ([98], [51])] = ssort exL := by
    refine ssort_uniq (by unfold Srt; decide) ?_
    have := (stb_swap (a := [([98], [49])]) (b := [([97], [50])]) (by decide)).append (Stb.refl [([98], [51])])
    exact this
  unfold sortedP
  rw [← h]
  decide

theorem own_to_ps {base : Nat} {e : TypeId} {w : World} {v : Value} {l : List Pr} (h : w.ownsRow base e 2 v l.length (flat l)) : PS w v l := PS.of_own h

set_option maxRecDepth 100000 in
theorem awake_c (w : World) : Calls Try.prog 8 #[] w fun e w' => e = .returned (.bool true) ∧ Ext w w' := by
  go_enter Try.func8, Try.ntmps8
  repeat' go_step
  refine (sorted_c _ _ exL (PS.of_own (base := 0) (e := 40) (n := 3) (own_lit (flat exL) 3 (by decide) rfl (Nat.zero_le _))) (by decide)).mono ?_
  rintro e w1 ⟨v1, rfl, h1, hb1⟩
  rw [ex_sorted] at h1
  have hE1 : Ext w w1 := ((Ext.refl w).alloc (Nat.le_refl _) _).trans (hb1.mono (by simp))
  obtain ⟨A1, c1, rfl, r1⟩ := (own_to_ps h1 : PS w1 v1 exS)
  have hp1 := Lib.hid (own_to_ps h1)
  clear h1 r1
  go_simp
  repeat' go_step
  refine (same_c _ _ _ exS exS (hp1.out.alloc _) (PS.of_own (base := 0) (e := 40) (n := 2) (own_lit (flat exS) 2 (by decide) rfl (Nat.zero_le _))) (by decide) (by decide)).mono ?_
  rintro e w2 ⟨rfl, hb2⟩
  have hd : decide (exS = exS) = true := by simp
  rw [hd]
  have hl : ((exS.length : Int) == 2) = true := by decide
  go_simp
  repeat' (first | go_skip | go_guarded | go_step)
  go_ret
  exact ⟨rfl, (hE1.trans ((Ext.refl w1).alloc (Nat.le_refl _) _)).trans (hb2.mono (by simp))⟩
theorem len40 (l : List Pr) : (l.take 40).length ≤ 1000000000 := by rw [List.length_take]; omega

set_option maxRecDepth 100000 in
set_option maxHeartbeats 400000 in
theorem pairSame_c (w : World) (va vb : Value) (la lb : List Pr) (s : Bool) (ha : PS w va la) (hb : PS w vb lb) : Calls Try.prog 3 #[va, vb, .bool s] w fun e w' => e = .returned (.bool true) ∧ Ext w w' := by
  go_enter Try.func3, Try.ntmps3
  repeat' go_step
  refine (awake_c _).mono ?_
  rintro e w1 ⟨rfl, b1⟩
  replace ha := ha.below b1
  replace hb := hb.below b1
  have E := b1
  clear b1
  go_simp
  repeat' go_step
  refine (few_c _ _ la ha).mono ?_
  rintro e w2 ⟨v2, rfl, o2, b2⟩
  replace ha := ha.below b2
  replace hb := hb.below b2
  replace E := Ext.trans E b2
  clear b2
  have ha1 := own_to_ps o2
  clear o2
  go_simp
  clear ha
  repeat' go_step
  refine (few_c _ _ lb hb).mono ?_
  rintro e w3 ⟨v3, rfl, o3, b3⟩
  replace hb := hb.below b3
  replace ha1 := ha1.below b3
  replace E := Ext.trans E b3
  clear b3
  have hc1 := own_to_ps o3
  clear o3
  go_simp
  clear hb
  cases s with
  | false =>
    obtain ⟨lb, hlb⟩ : ∃ l, l = lb.take 40 := ⟨_, rfl⟩
    obtain ⟨la, hla⟩ : ∃ l, l = la.take 40 := ⟨_, rfl⟩
    have h9a : la.length ≤ 40 := by rw [hla, List.length_take]; omega
    have h9b : lb.length ≤ 40 := by rw [hlb, List.length_take]; omega
    rw [← hla] at ha1
    rw [← hlb] at hc1
    clear hla hlb
    repeat' go_step
    refine (same_c _ _ _ la lb ha1 hc1 (by omega) (by omega)).mono ?_
    rintro e w4 ⟨rfl, b4⟩
    replace ha1 := ha1.below b4
    replace hc1 := hc1.below b4
    replace E := Ext.trans E b4
    clear b4
    go_simp
    repeat' go_step
    refine (own_c _ _ la ha1 (by omega)).mono ?_
    rintro e w5 ⟨v5, rfl, o5, b5⟩
    replace ha1 := ha1.below b5
    replace hc1 := hc1.below b5
    replace E := Ext.trans E b5
    clear b5
    have hx1 := own_to_ps o5
    clear o5
    go_simp
    repeat' go_step
    refine (own_c _ _ lb hc1 (by omega)).mono ?_
    rintro e w6 ⟨v6, rfl, o6, b6⟩
    replace ha1 := ha1.below b6
    replace hc1 := hc1.below b6
    replace hx1 := hx1.below b6
    replace E := Ext.trans E b6
    clear b6
    have hy1 := own_to_ps o6
    clear o6
    go_simp
    repeat' go_step
    refine (rsame_c _ _ _ la lb hx1 hy1 (by omega) (by omega)).mono ?_
    rintro e w7 ⟨rfl, b7⟩
    replace ha1 := ha1.below b7
    replace hc1 := hc1.below b7
    replace hx1 := hx1.below b7
    replace hy1 := hy1.below b7
    replace E := Ext.trans E b7
    clear b7
    go_simp
    have hq : (decide (la = lb) == decide (la = lb)) = true := by simp
    repeat' (first | go_skip | go_guarded | go_step)
    refine (same_c _ _ _ la la ha1 ha1 (by omega) (by omega)).mono ?_
    rintro e w8 ⟨rfl, b8⟩
    replace ha1 := ha1.below b8
    replace hc1 := hc1.below b8
    replace hx1 := hx1.below b8
    replace hy1 := hy1.below b8
    replace E := Ext.trans E b8
    clear b8
    go_simp
    repeat' (first | go_skip | go_guarded | go_step)
    go_ret
    exact ⟨by simp, E⟩
  | true =>
    clear hc1
    repeat' go_step
    refine (few_c _ _ (la.take 40) ha1).mono ?_
    rintro e w4 ⟨v4, rfl, o4, b4⟩
    replace ha1 := ha1.below b4
    replace E := Ext.trans E b4
    clear b4
    have hc1 := own_to_ps o4
    clear o4
    go_simp
    rw [List.take_take, Nat.min_self] at hc1
    obtain ⟨la, hla⟩ : ∃ l, l = la.take 40 := ⟨_, rfl⟩
    obtain ⟨lb, hlb⟩ : ∃ l, l = la := ⟨_, rfl⟩
    have h9a : la.length ≤ 40 := by rw [hla, List.length_take]; omega
    have h9b : lb.length ≤ 40 := by rw [hlb]; exact h9a
    rw [← hla] at ha1
    rw [← hla, ← hlb] at hc1
    have HE := Lib.hid hlb
    clear hla hlb
    repeat' go_step
    refine (same_c _ _ _ la lb ha1 hc1 (by omega) (by omega)).mono ?_
    rintro e w5 ⟨rfl, b5⟩
    replace ha1 := ha1.below b5
    replace hc1 := hc1.below b5
    replace E := Ext.trans E b5
    clear b5
    go_simp
    repeat' go_step
    refine (own_c _ _ la ha1 (by omega)).mono ?_
    rintro e w6 ⟨v6, rfl, o6, b6⟩
    replace ha1 := ha1.below b6
    replace hc1 := hc1.below b6
    replace E := Ext.trans E b6
    clear b6
    have hx1 := own_to_ps o6
    clear o6
    go_simp
    repeat' go_step
    refine (own_c _ _ lb hc1 (by omega)).mono ?_
    rintro e w7 ⟨v7, rfl, o7, b7⟩
    replace ha1 := ha1.below b7
    replace hc1 := hc1.below b7
    replace hx1 := hx1.below b7
    replace E := Ext.trans E b7
    clear b7
    have hy1 := own_to_ps o7
    clear o7
    go_simp
    repeat' go_step
    refine (rsame_c _ _ _ la lb hx1 hy1 (by omega) (by omega)).mono ?_
    rintro e w8 ⟨rfl, b8⟩
    replace ha1 := ha1.below b8
    replace hc1 := hc1.below b8
    replace hx1 := hx1.below b8
    replace hy1 := hy1.below b8
    replace E := Ext.trans E b8
    clear b8
    go_simp
    have hq : (decide (la = lb) == decide (la = lb)) = true := by simp
    repeat' (first | go_skip | go_guarded | go_step)
    refine (same_c _ _ _ la la ha1 ha1 (by omega) (by omega)).mono ?_
    rintro e w9 ⟨rfl, b9⟩
    replace ha1 := ha1.below b9
    replace hc1 := hc1.below b9
    replace hx1 := hx1.below b9
    replace hy1 := hy1.below b9
    replace E := Ext.trans E b9
    clear b9
    go_simp
    repeat' (first | go_skip | go_guarded | go_step)
    refine (same_c _ _ _ la lb ha1 hc1 (by omega) (by omega)).mono ?_
    rintro e w10 ⟨rfl, b10⟩
    replace ha1 := ha1.below b10
    replace hc1 := hc1.below b10
    replace hx1 := hx1.below b10
    replace hy1 := hy1.below b10
    replace E := Ext.trans E b10
    clear b10
    go_simp
    repeat' (first | go_skip | go_guarded | go_step)
    go_ret
    exact ⟨by simp [HE.out], E⟩
end Go.Proofs.Ytdajhbllakmmlaa
