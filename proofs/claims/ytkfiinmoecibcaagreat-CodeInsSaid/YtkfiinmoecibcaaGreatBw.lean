/- CodeIns: its walk. -/
import Derived.Test.YtkfiinmoecibcaaGreatBx
import Derived.Deep.LoopGhost
set_option linter.unusedVariables false
set_option linter.unusedSimpArgs false
namespace Go.Proofs.YtkfiinmoecibcaaGreat
open Go.RowKit Go.QS Go.QS.Nk
set_option linter.unusedVariables false

set_option maxRecDepth 100000 in
set_option maxHeartbeats 1000000 in
theorem codeins_c (w : World) (vp va : Value) (P0 : List UInt8) (acts : List Ac9) (hP : BS w vp P0) (hA : Sl w 2 va acts.length (encAs acts)) (hn : ∀ a ∈ acts, -9223372036854775808 ≤ a.2 ∧ a.2 ≤ 9223372036854775807) :
    Calls Tryz.prog 3 #[vp, va] w fun e w' => e = .returned (.bool true) ∧ Ext w w' := by
  obtain ⟨AA, CA, rfl, hla, hna, hCa, hsa⟩ := hA
  obtain ⟨na, hnaE⟩ : ∃ n, n = acts.length := ⟨_, rfl⟩
  rw [← hnaE] at hna ⊢
  have HH := Lib.hid (And.intro hP (And.intro hsa (And.intro hn hnaE)))
  clear hP hsa hn hnaE hla
  go_enter Tryz.func3, Tryz.ntmps3
  repeat' (first | go_at_call 7 | go_skip | go_guarded | go_step)
  refine (awakeC_c w).mono ?_
  rintro e w1 ⟨rfl, f1⟩
  replace f1 := Lib.hid f1
  go_simp
  repeat' (first | go_at_call 8 | go_skip | go_guarded | go_step)
  refine (cutB_c w1 vp P0 200 (by decide) (HH.out.1.below f1.out)).mono ?_
  rintro e w2 ⟨v2, rfl, r2, f2⟩
  obtain ⟨P, hPP⟩ : ∃ P, P = P0.take 200 := ⟨_, rfl⟩
  rw [← hPP] at r2
  obtain ⟨A2, C2, rfl⟩ := own_sliceB r2
  have hPl : P.length ≤ 200 := by rw [hPP, List.length_take]; omega
  have H2 := Lib.hid (And.intro r2 (f1.out.trans f2))
  clear r2 f2 hPP
  go_simp
  repeat' (first | go_at_call 8 | go_skip | go_guarded | go_step)
  refine (cutB_c w2 _ P 200 (by decide) (BS.of_own H2.out.1)).mono ?_
  rintro e w3 ⟨v3, rfl, r3, f3⟩
  rw [List.take_of_length_le hPl] at r3
  have H3 := Lib.hid (And.intro r3 f3)
  clear r3 f3
  go_simp
  repeat' (first | go_at_call 9 | go_skip | go_guarded | go_step)
  refine (of_c w3 v3 P (BS.of_own H3.out.1) (by omega)).mono ?_
  rintro e w4 ⟨g, rfl, i4, f4, hg4⟩
  have H4 := Lib.hid (And.intro i4 (And.intro f4 hg4))
  clear i4 f4 hg4
  go_simp
  repeat' (go_not_at_region 5; (first | go_skip | go_guarded | go_step))
  obtain ⟨x, hx⟩ : ∃ x, x = w4.heap.size := ⟨_, rfl⟩
  obtain ⟨w5, hw5⟩ : ∃ y, y = w4.alloc (.cells #[.slice A2 P.length C2, .int .i64 0, .int .i64 0] RfT) := ⟨_, rfl⟩
  have hg : g < x := by rw [hx]; obtain ⟨A, c, h1, _⟩ := H4.out.1.ex; exact heap_lt h1
  have hTwo : Two9 g x w5 P P 0 := by
    have hE5 : Ext w4 w5 := by rw [hw5]; exact (Ext.refl _).alloc (Nat.le_refl _) _
    refine ⟨(H4.out.1.ext hE5).weaken (fun b hb => hb.2), ?_, hg⟩
    have := RefAt.new (V := fun b => b < g) H2.out.1 (by unfold maxLen; omega) (fun b hb => by
      have h1 := (World.ownsRow.lt H2.out.1 b hb).2
      have h2 := H3.out.2.size
      have h3 := H4.out.2.2
      omega) w4 (H3.out.2.trans H4.out.2.1)
    rw [hw5, hx]; exact this
  have hE : Ext w w5 := by rw [hw5]; exact (H2.out.2.trans (H3.out.2.trans H4.out.2.1)).alloc (H2.out.2.trans (H3.out.2.trans H4.out.2.1)).size _
  rw [← hw5, ← hx]
  have H5 := Lib.hid (And.intro hTwo hE)
  have hxw : Hid (w.heap.size ≤ g) := Lib.hid (by have := H2.out.2.size; have := H3.out.2.size; have := H4.out.2.2; omega)
  clear hw5 hx hTwo hE
  rename_i K hK
  refine ins_tail w w5 g x P.length na CA C2 A2 AA P acts hPl hna hCa hxw.out (Lib.hid H5.out) (Lib.hid ⟨rfl, HH.out.2.2.2, HH.out.2.1, HH.out.2.2.1⟩) _ _ K _ _ _ _ _ _ _ _ _ _ _ _ _ _ _ _ _ _ _ _ _ _ _ _ _ _ _ _ _ _ _ _ _ _ _ _ _ _ _ _ _ _ _ _ _ _ _ _ _ _ _ _ _ _ _ _ _ _ _ _ _ _ _ _ _ _ _ _ _ _ _ _ _ _ _ _ _ _ _ _ _ _ _ _ _ _ _ _ _ _ _ _ _ _ _ _ _ _ _ _ _ _ _ _ _ (by kernel_rfl) (by kernel_rfl) hK ?_
  intro u4 u7 u8 u9 u10 u21 u22 u23 u24 u25 u26 u27 u28 u29 u30 u31 u32 u33 u34 u35 u36 u37 u38 u39 u40 u41 u42 u43 u44 u45 u46 u47 u48 u49 u50 u51 u52 u53 u54 u55 u56 u57 u58 u59 u60 u61 u62 u63 u64 u65 u66 u67 u68 u69 u70 u71 u72 u73 u74 u75 u76 u77 u78 u79 u80 u81 u82 u83 u84 u85 u86 u87 u88 u89 u90 u91 u92 u93 u94 u95 u96 u97 u98 u99 u100 u101 u102 u103 u104 u105 u106 u107 wx hE
  (try simp only [Exit.inBlock, Exit.then])
  repeat' (first | go_skip | go_guarded | go_step)
  go_ret
  exact ⟨rfl, hE⟩
end Go.Proofs.YtkfiinmoecibcaaGreat
