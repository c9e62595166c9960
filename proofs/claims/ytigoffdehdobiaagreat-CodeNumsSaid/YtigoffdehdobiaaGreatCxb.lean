/- Contracts: a nil In; the document's Num and Text; too many bytes. -/
import Derived.Test.YtigoffdehdobiaaGreatM23
import Derived.Test.YtigoffdehdobiaaGreatM24
import Derived.Test.YtigoffdehdobiaaGreatM21
set_option linter.unusedVariables false
set_option linter.unusedSimpArgs false
namespace Go.Proofs.YtigoffdehdobiaaGreat
open Go.RowKit Go.QS
set_option linter.unusedVariables false

set_option maxRecDepth 100000 in
theorem err0_c (w : World) : Calls Tryz.prog 30 #[.pointer none] w fun x w' => x = .returned (.int .i64 4) ∧ w = w' := by
  go_enter Tryz.func30, Tryz.ntmps30
  repeat' (first | go_skip | go_guarded | go_step)
  go_ret
  exact ⟨rfl, rfl⟩
set_option maxRecDepth 100000 in
theorem left0_c (w : World) : Calls Tryz.prog 29 #[.pointer none] w fun x w' => x = .returned (.int .i64 0) ∧ w = w' := by
  go_enter Tryz.func29, Tryz.ntmps29
  repeat' (first | go_skip | go_guarded | go_step)
  go_ret
  exact ⟨rfl, rfl⟩
set_option maxRecDepth 100000 in
theorem fail0_c (w : World) (k : Int) : Calls Tryz.prog 20 #[.pointer none, .int .i64 k] w fun x w' => x = .returned (.tuple #[]) ∧ w = w' := by
  go_enter Tryz.func20, Tryz.ntmps20
  repeat' (first | go_skip | go_guarded | go_step)
  (try simp only [Exit.inBlock, Exit.then])
  first | refine bodyPost_ret (results_none rfl _ _ _) rfl ?_ | refine bodyPost_end (results_none rfl _ _ _) rfl ?_
  exact ⟨rfl, rfl⟩
set_option maxRecDepth 100000 in
theorem take0_c (w : World) (n : Int) : Calls Tryz.prog 44 #[.pointer none, .int .i64 n] w fun x w' => x = .returned (.slice none 0 0) ∧ w = w' := by
  go_enter Tryz.func44, Tryz.ntmps44
  repeat' (first
    | (go_at_call 30; refine (err0_c _).mono ?_; rintro x w1 ⟨rfl, rfl⟩; go_simp)
    | go_skip | go_guarded | go_step)
  go_ret
  exact ⟨rfl, rfl⟩
set_option maxRecDepth 100000 in
theorem end0_c (w : World) : Calls Tryz.prog 26 #[.pointer none] w fun x w' => x = .returned (.int .i64 4) ∧ w = w' := by
  go_enter Tryz.func26, Tryz.ntmps26
  repeat' (first
    | (go_at_call 29; refine (left0_c _).mono ?_; rintro x w1 ⟨rfl, rfl⟩; go_simp)
    | (go_at_call 30; refine (err0_c _).mono ?_; rintro x w1 ⟨rfl, rfl⟩; go_simp)
    | go_skip | go_guarded | go_step)
  go_ret
  exact ⟨rfl, rfl⟩
set_option maxRecDepth 100000 in
theorem byte0_c (w : World) : Calls Tryz.prog 27 #[.pointer none] w fun x w' => x = .returned (.int .u8 0) ∧ w = w' := by
  go_enter Tryz.func27, Tryz.ntmps27
  repeat' (first
    | (go_at_call 44; refine (take0_c _ _).mono ?_; rintro x w1 ⟨rfl, rfl⟩; go_simp)
    | go_skip | go_guarded | go_step)
  refine wp_loop_once ?_
  repeat' (first | go_skip | go_guarded | go_step)
  go_ret
  exact ⟨rfl, rfl⟩
set_option maxRecDepth 100000 in
theorem fixed0_c (w : World) : Calls Tryz.prog 28 #[.pointer none] w fun x w' => x = .returned (.int .u64 0) ∧ w = w' := by
  go_enter Tryz.func28, Tryz.ntmps28
  repeat' (first
    | (go_at_call 44; refine (take0_c _ _).mono ?_; rintro x w1 ⟨rfl, rfl⟩; go_simp)
    | go_skip | go_guarded | go_step)
  refine wp_loop_once ?_
  repeat' (first | go_skip | go_guarded | go_step)
  go_ret
  exact ⟨rfl, rfl⟩
set_option maxRecDepth 100000 in
theorem num0_c (w : World) : Calls Tryz.prog 24 #[.pointer none] w fun x w' => x = .returned (.int .u64 0) ∧ w = w' := by
  go_enter Tryz.func24, Tryz.ntmps24
  repeat' (first
    | (go_at_call 30; refine (err0_c _).mono ?_; rintro x w1 ⟨rfl, rfl⟩; go_simp)
    | go_skip | go_guarded | go_step)
  go_ret
  exact ⟨rfl, rfl⟩
set_option maxRecDepth 100000 in
theorem text0_c (w : World) (a b : Int) : Calls Tryz.prog 25 #[.pointer none, .int .i64 a, .int .i64 b] w fun x w' => x = .returned (str []) ∧ w = w' := by
  go_enter Tryz.func25, Tryz.ntmps25
  repeat' (first
    | (go_at_call 30; refine (err0_c _).mono ?_; rintro x w1 ⟨rfl, rfl⟩; go_simp)
    | go_skip | go_guarded | go_step)
  go_ret
  exact ⟨rfl, rfl⟩

/-! ### Too many bytes -/
set_option maxRecDepth 100000 in
theorem readchanges_long (w : World) (A : Option Addr) (m c : Nat) (hm : 16777216 < m) : Calls Tryz.prog 8 #[.slice A m c] w fun e w' => e = .returned (.tuple #[.slice none 0 0, .int .i64 10]) ∧ w = w' := by
  have d1 : (16777216 : Int) < (m : Int) := by omega
  go_enter Tryz.func8, Tryz.ntmps8
  repeat' (first | go_skip | go_guarded | go_step)
  go_ret2
  exact ⟨rfl, rfl⟩
set_option maxRecDepth 100000 in
theorem readtree_long (w : World) (A : Option Addr) (m c : Nat) (hm : 16777216 < m) : Calls Tryz.prog 21 #[.slice A m c] w fun e w' => e = .returned (.tuple #[.agg #[.int .i64 0, .int .u64 0, .int .u64 0, .int .u64 0, .pointer none, .pointer none], .int .i64 10]) ∧ Ext w w' := by
  have d1 : (16777216 : Int) < (m : Int) := by omega
  go_enter Tryz.func21, Tryz.ntmps21
  repeat' (go_not_at_region 1; (first | go_skip | go_guarded | go_step))
  obtain ⟨wa, hwa⟩ : ∃ x, x = w.alloc (.cells tr0 TrT) := ⟨_, rfl⟩
  have hb := heap_newG w (.cells tr0 TrT)
  have hE : Ext w wa := by rw [hwa]; exact (Ext.refl _).alloc (Nat.le_refl _) _
  rw [← hwa] at hb ⊢
  obtain ⟨q, hq⟩ : ∃ q, q = w.heap.size := ⟨_, rfl⟩
  rw [← hq] at hb ⊢
  obtain ⟨c0, c1, c2, c3, c4, c5, f0, f1, f2, f3, f4, f5⟩ := tr6 hb
  have hlt := heap_lt hb
  have H2 := Lib.hid (And.intro hE (And.intro hb hq))
  clear hb hE hwa hq
  repeat' (first | go_skip | go_guarded | go_step)
  (try simp only [Exit.inBlock, Exit.then]); refine bodyPost_ret_by (results_ctB rfl _ _ _ _ _ _ _ rfl (heap6 H2.out.2.1 _ _ _ _ _ _) Tryz.underlying57 rfl (by kernel_rfl)) rfl ?_
  exact ⟨rfl, ext6 H2.out.1 (by rw [H2.out.2.2]; exact Nat.le_refl _) _ _ _ _ _ _⟩

/-! ### The document's Num, Text -/
set_option maxRecDepth 100000 in
theorem rnumLt_c (w : World) (n : Nat) (hn : n < 128) : Calls Tryz.prog 22 #[.int .u64 (n : Int)] w fun e w' => ∃ v', e = .returned v' ∧ w'.ownsRow w.heap.size 5 1 v' (putNum n).length (encB (putNum n)) ∧ Ext w w' := by
  obtain ⟨b, hb⟩ : ∃ b, b = UInt8.ofNat n := ⟨_, rfl⟩
  have hbn : (n : Int) = (b.toNat : Int) := by rw [hb]; have := ofNat_toNat (n := n) (by omega); omega
  have HV : Hid (encB [b] = [Value.int .u8 (n : Int)]) := Lib.hid (by rw [hbn]; rfl)
  have d1 : (n : Int) < 128 := by omega
  rw [putNum_lt hn, ← hb]
  clear hb hbn
  go_enter Tryz.func22, Tryz.ntmps22
  repeat' (first | go_skip | go_guarded | go_step)
  go_ret
  exact ⟨_, rfl, by rw [HV.out]; exact own_lit (size := 1) [Value.int .u8 (n : Int)] 1 (by decide) rfl (Nat.le_refl _), (Ext.refl w).alloc (Nat.le_refl _) _⟩
set_option maxRecDepth 100000 in
theorem rnum19_c (k : Nat) : ∀ (w : World) (n : Nat), n < 128 ^ (k + 1) → n < 18446744073709551616 → Calls Tryz.prog 22 #[.int .u64 (n : Int)] w fun e w' => ∃ v', e = .returned v' ∧ w'.ownsRow w.heap.size 5 1 v' (putNum n).length (encB (putNum n)) ∧ Ext w w' := by
  induction k with
  | zero => exact fun w n hk h64 => rnumLt_c w n (by simpa using hk)
  | succ k IH =>
    intro w n hk h64
    by_cases hn : n < 128
    · exact rnumLt_c w n hn
    obtain ⟨m, hm⟩ : ∃ m, m = n / 128 := ⟨_, rfl⟩
    obtain ⟨b, hb⟩ : ∃ b, b = UInt8.ofNat (n % 128 + 128) := ⟨_, rfl⟩
    have hpl := putNum_len 9 m (by omega)
    have hmk : m < 128 ^ (k + 1) := by rw [Nat.pow_succ] at hk; omega
    have hm64 : m < 18446744073709551616 := by omega
    have hbn : ((n : Int) % 128 + 128) % 256 = (b.toNat : Int) := by rw [hb]; have := ofNat_toNat (n := n % 128 + 128) (by omega); omega
    have hb2 : (n : Int) % 128 + 128 = (b.toNat : Int) := by omega
    have d1 : ¬ (n : Int) < 128 := by omega
    have d2 : (n : Int) / 128 = (m : Int) := by omega
    have hw : IntKind.u64.wrap (m : Int) = (m : Int) := by rw [IntKind.wrap_u64]; omega
    rw [putNum_ge hn, ← hb, ← hm]
    have HK := Lib.hid (And.intro hmk hm64)
    clear hb hm hn hk h64 hmk hm64
    go_enter Tryz.func22, Tryz.ntmps22
    repeat' (first | go_at_call 22 | go_skip | go_guarded | go_step)
    obtain ⟨wa, hwa⟩ : ∃ x, x = w.alloc (.cells #[.int .u8 (b.toNat : Int)] 5) := ⟨_, rfl⟩
    have hO : wa.ownsRow w.heap.size 5 1 (.slice (some ⟨w.heap.size, 0, none⟩) 1 1) 1 (encB [b]) := by rw [hwa]; exact own_lit (size := 1) (encB [b]) 1 (by decide) rfl (Nat.le_refl _)
    have hE : Ext w wa := by rw [hwa]; exact (Ext.refl w).alloc (Nat.le_refl _) _
    rw [← hwa]
    have HA := Lib.hid (And.intro hO hE)
    clear hO hE hwa
    refine (IH wa m HK.out.1 HK.out.2).mono ?_
    rintro e w1 ⟨v1, rfl, r1, f1⟩
    obtain ⟨A1, C1, rfl⟩ := own_sliceB r1
    have H1 := Lib.hid (And.intro (row_ext HA.out.1 f1) (And.intro (HA.out.2.trans f1) r1))
    clear r1 f1
    go_simp
    repeat' (first | go_skip | go_guarded | (at_builtin; refine wpList_appE (W := w) rfl (.tmp 12) (.tmp 15) _ rfl 5 1 1 Tryz.underlying22 infoU8 (by decide) _ _ _ rfl H1.out.1 H1.out.2.1 _ _ _ (encB (putNum m)) rfl (by rw [encB_length, Nat.mul_one]) (by obtain ⟨A, c, e, _, _, _, hs⟩ := BS.of_own H1.out.2.2; cases e; exact hs) (encB_one _) (by unfold maxLen; omega) (by omega) ?_; intro v2 w2 hown hb2) | go_step)
    go_ret
    refine ⟨_, rfl, ?_, hb2⟩
    have e2 : encB (b :: putNum m) = encB [b] ++ encB (putNum m) := rfl
    rw [Nat.add_comm, e2]
    exact hown

set_option maxRecDepth 100000 in
theorem rtext19_c (w : World) (s : List UInt8) (hs : s.length ≤ 100000000) : Calls Tryz.prog 23 #[str s] w fun e w' => ∃ v', e = .returned v' ∧ w'.ownsRow w.heap.size 5 1 v' (putText s).length (encB (putText s)) ∧ Ext w w' := by
  have hpl := putNum_len 9 s.length (by omega)
  go_enter Tryz.func23, Tryz.ntmps23
  repeat' (first | go_at_call 22 | go_skip | go_guarded | go_step)
  refine (rnum19_c 9 w s.length (by omega) (by omega)).mono ?_
  rintro e w1 ⟨v1, rfl, h1, f1⟩
  have H1 := Lib.hid (And.intro h1 f1)
  obtain ⟨A1, c1, rfl⟩ := own_sliceB h1
  clear h1 f1
  go_simp
  repeat' (first | go_skip | go_guarded | (refine wpList_bytesOf rfl (.tmp 7) _ _ 5 rfl Tryz.underlying9 Tryz.underlying22 Tryz.underlying5 s rfl ?_; intro A2 c2 w2 hseg2 f2) | (at_builtin; refine wpList_appE (W := w) rfl (.tmp 6) (.tmp 8) _ rfl 5 1 1 Tryz.underlying22 infoU8 (by decide) _ _ _ rfl (row_ext H1.out.1 f2) (H1.out.2.trans f2) _ _ _ (encB s) rfl (by rw [encB_length, Nat.mul_one]) hseg2 (encB_one _) (by unfold maxLen; omega) (by omega) ?_; intro v8 w8 hown8 hb8) | go_step)
  go_ret
  refine ⟨_, rfl, ?_, hb8⟩
  rw [putText, List.length_append, encB_append]
  exact hown8
end Go.Proofs.YtigoffdehdobiaaGreat
