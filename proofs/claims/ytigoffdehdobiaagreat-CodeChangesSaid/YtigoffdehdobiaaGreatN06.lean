/- Texts joined. -/
import Derived.Test.YtigoffdehdobiaaGreatM23
import Derived.Test.YtigoffdehdobiaaGreatM24
import Derived.Test.YtigoffdehdobiaaGreatM21
import Derived.Test.YtigoffdehdobiaaGreatCxj
import Derived.Test.YtigoffdehdobiaaGreatCxe
import Derived.Test.YtigoffdehdobiaaGreatN05
set_option linter.unusedVariables false
set_option linter.unusedSimpArgs false
/- Contracts: a nil In; the document's Num and Text; too many bytes. -/
namespace Go.Proofs.YtigoffdehdobiaaGreat
open Go.RowKit Go.QS
set_option linter.unusedVariables false

set_option maxRecDepth 100000 in
theorem err0_c (w : World) : Calls Tryz.prog 30 #[.pointer none] w fun x w' => x = .returned (.int .i64 4) ∧ w = w' := by
  go_enter Tryz.func30, Tryz.ntmps30
  repeat' (first | go_skip | go_guarded | go_step)
  go_ret
  exact ⟨rfl, rfl⟩
set_option maxRecDepth 100000 in
theorem left0_c (w : World) : Calls Tryz.prog 29 #[.pointer none] w fun x w' => x = .returned (.int .i64 0) ∧ w = w' := by
  go_enter Tryz.func29, Tryz.ntmps29
  repeat' (first | go_skip | go_guarded | go_step)
  go_ret
  exact ⟨rfl, rfl⟩
set_option maxRecDepth 100000 in
theorem fail0_c (w : World) (k : Int) : Calls Tryz.prog 20 #[.pointer none, .int .i64 k] w fun x w' => x = .returned (.tuple #[]) ∧ w = w' := by
  go_enter Tryz.func20, Tryz.ntmps20
  repeat' (first | go_skip | go_guarded | go_step)
  (try simp only [Exit.inBlock, Exit.then])
  first | refine bodyPost_ret (results_none rfl _ _ _) rfl ?_ | refine bodyPost_end (results_none rfl _ _ _) rfl ?_
  exact ⟨rfl, rfl⟩
set_option maxRecDepth 100000 in
theorem take0_c (w : World) (n : Int) : Calls Tryz.prog 44 #[.pointer none, .int .i64 n] w fun x w' => x = .returned (.slice none 0 0) ∧ w = w' := by
  go_enter Tryz.func44, Tryz.ntmps44
  repeat' (first
    | (go_at_call 30; refine (err0_c _).mono ?_; rintro x w1 ⟨rfl, rfl⟩; go_simp)
    | go_skip | go_guarded | go_step)
  go_ret
  exact ⟨rfl, rfl⟩
set_option maxRecDepth 100000 in
theorem end0_c (w : World) : Calls Tryz.prog 26 #[.pointer none] w fun x w' => x = .returned (.int .i64 4) ∧ w = w' := by
  go_enter Tryz.func26, Tryz.ntmps26
  repeat' (first
    | (go_at_call 29; refine (left0_c _).mono ?_; rintro x w1 ⟨rfl, rfl⟩; go_simp)
    | (go_at_call 30; refine (err0_c _).mono ?_; rintro x w1 ⟨rfl, rfl⟩; go_simp)
    | go_skip | go_guarded | go_step)
  go_ret
  exact ⟨rfl, rfl⟩
set_option maxRecDepth 100000 in
theorem byte0_c (w : World) : Calls Tryz.prog 27 #[.pointer none] w fun x w' => x = .returned (.int .u8 0) ∧ w = w' := by
  go_enter Tryz.func27, Tryz.ntmps27
  repeat' (first
    | (go_at_call 44; refine (take0_c _ _).mono ?_; rintro x w1 ⟨rfl, rfl⟩; go_simp)
    | go_skip | go_guarded | go_step)
  refine wp_loop_once ?_
  repeat' (first | go_skip | go_guarded | go_step)
  go_ret
  exact ⟨rfl, rfl⟩
set_option maxRecDepth 100000 in
theorem fixed0_c (w : World) : Calls Tryz.prog 28 #[.pointer none] w fun x w' => x = .returned (.int .u64 0) ∧ w = w' := by
  go_enter Tryz.func28, Tryz.ntmps28
  repeat' (first
    | (go_at_call 44; refine (take0_c _ _).mono ?_; rintro x w1 ⟨rfl, rfl⟩; go_simp)
    | go_skip | go_guarded | go_step)
  refine wp_loop_once ?_
  repeat' (first | go_skip | go_guarded | go_step)
  go_ret
  exact ⟨rfl, rfl⟩
set_option maxRecDepth 100000 in
theorem num0_c (w : World) : Calls Tryz.prog 24 #[.pointer none] w fun x w' => x = .returned (.int .u64 0) ∧ w = w' := by
  go_enter Tryz.func24, Tryz.ntmps24
  repeat' (first
    | (go_at_call 30; refine (err0_c _).mono ?_; rintro x w1 ⟨rfl, rfl⟩; go_simp)
    | go_skip | go_guarded | go_step)
  go_ret
  exact ⟨rfl, rfl⟩
set_option maxRecDepth 100000 in
theorem text0_c (w : World) (a b : Int) : Calls Tryz.prog 25 #[.pointer none, .int .i64 a, .int .i64 b] w fun x w' => x = .returned (str []) ∧ w = w' := by
  go_enter Tryz.func25, Tryz.ntmps25
  repeat' (first
    | (go_at_call 30; refine (err0_c _).mono ?_; rintro x w1 ⟨rfl, rfl⟩; go_simp)
    | go_skip | go_guarded | go_step)
  go_ret
  exact ⟨rfl, rfl⟩

/-! ### Too many bytes -/
set_option maxRecDepth 100000 in
theorem readchanges_long (w : World) (A : Option Addr) (m c : Nat) (hm : 16777216 < m) : Calls Tryz.prog 8 #[.slice A m c] w fun e w' => e = .returned (.tuple #[.slice none 0 0, .int .i64 10]) ∧ w = w' := by
  have d1 : (16777216 : Int) < (m : Int) := by omega
  go_enter Tryz.func8, Tryz.ntmps8
  repeat' (first | go_skip | go_guarded | go_step)
  go_ret2
  exact ⟨rfl, rfl⟩
set_option maxRecDepth 100000 in
theorem readtree_long (w : World) (A : Option Addr) (m c : Nat) (hm : 16777216 < m) : Calls Tryz.prog 21 #[.slice A m c] w fun e w' => e = .returned (.tuple #[.agg #[.int .i64 0, .int .u64 0, .int .u64 0, .int .u64 0, .pointer none, .pointer none], .int .i64 10]) ∧ Ext w w' := by
  have d1 : (16777216 : Int) < (m : Int) := by omega
  go_enter Tryz.func21, Tryz.ntmps21
  repeat' (go_not_at_region 1; (first | go_skip | go_guarded | go_step))
  obtain ⟨wa, hwa⟩ : ∃ x, x = w.alloc (.cells tr0 TrT) := ⟨_, rfl⟩
  have hb := heap_newG w (.cells tr0 TrT)
  have hE : Ext w wa := by rw [hwa]; exact (Ext.refl _).alloc (Nat.le_refl _) _
  rw [← hwa] at hb ⊢
  obtain ⟨q, hq⟩ : ∃ q, q = w.heap.size := ⟨_, rfl⟩
  rw [← hq] at hb ⊢
  obtain ⟨c0, c1, c2, c3, c4, c5, f0, f1, f2, f3, f4, f5⟩ := tr6 hb
  have hlt := heap_lt hb
  have H2 := Lib.hid (And.intro hE (And.intro hb hq))
  clear hb hE hwa hq
  repeat' (first | go_skip | go_guarded | go_step)
  (try simp only [Exit.inBlock, Exit.then]); refine bodyPost_ret_by (results_ctB rfl _ _ _ _ _ _ _ rfl (heap6 H2.out.2.1 _ _ _ _ _ _) Tryz.underlying57 rfl (by kernel_rfl)) rfl ?_
  exact ⟨rfl, ext6 H2.out.1 (by rw [H2.out.2.2]; exact Nat.le_refl _) _ _ _ _ _ _⟩

/-! ### The document's Num, Text -/
set_option maxRecDepth 100000 in
theorem rnumLt_c (w : World) (n : Nat) (hn : n < 128) : Calls Tryz.prog 22 #[.int .u64 (n : Int)] w fun e w' => ∃ v', e = .returned v' ∧ w'.ownsRow w.heap.size 5 1 v' (putNum n).length (encB (putNum n)) ∧ Ext w w' := by
  obtain ⟨b, hb⟩ : ∃ b, b = UInt8.ofNat n := ⟨_, rfl⟩
  have hbn : (n : Int) = (b.toNat : Int) := by rw [hb]; have := ofNat_toNat (n := n) (by omega); omega
  have HV : Hid (encB [b] = [Value.int .u8 (n : Int)]) := Lib.hid (by rw [hbn]; rfl)
  have d1 : (n : Int) < 128 := by omega
  rw [putNum_lt hn, ← hb]
  clear hb hbn
  go_enter Tryz.func22, Tryz.ntmps22
  repeat' (first | go_skip | go_guarded | go_step)
  go_ret
  exact ⟨_, rfl, by rw [HV.out]; exact own_lit (size := 1) [Value.int .u8 (n : Int)] 1 (by decide) rfl (Nat.le_refl _), (Ext.refl w).alloc (Nat.le_refl _) _⟩
set_option maxRecDepth 100000 in
theorem rnum19_c (k : Nat) : ∀ (w : World) (n : Nat), n < 128 ^ (k + 1) → n < 18446744073709551616 → Calls Tryz.prog 22 #[.int .u64 (n : Int)] w fun e w' => ∃ v', e = .returned v' ∧ w'.ownsRow w.heap.size 5 1 v' (putNum n).length (encB (putNum n)) ∧ Ext w w' := by
  induction k with
  | zero => exact fun w n hk h64 => rnumLt_c w n (by simpa using hk)
  | succ k IH =>
    intro w n hk h64
    by_cases hn : n < 128
    · exact rnumLt_c w n hn
    obtain ⟨m, hm⟩ : ∃ m, m = n / 128 := ⟨_, rfl⟩
    obtain ⟨b, hb⟩ : ∃ b, b = UInt8.ofNat (n % 128 + 128) := ⟨_, rfl⟩
    have hpl := putNum_len 9 m (by omega)
    have hmk : m < 128 ^ (k + 1) := by rw [Nat.pow_succ] at hk; omega
    have hm64 : m < 18446744073709551616 := by omega
    have hbn : ((n : Int) % 128 + 128) % 256 = (b.toNat : Int) := by rw [hb]; have := ofNat_toNat (n := n % 128 + 128) (by omega); omega
    have hb2 : (n : Int) % 128 + 128 = (b.toNat : Int) := by omega
    have d1 : ¬ (n : Int) < 128 := by omega
    have d2 : (n : Int) / 128 = (m : Int) := by omega
    have hw : IntKind.u64.wrap (m : Int) = (m : Int) := by rw [IntKind.wrap_u64]; omega
    rw [putNum_ge hn, ← hb, ← hm]
    have HK := Lib.hid (And.intro hmk hm64)
    clear hb hm hn hk h64 hmk hm64
    go_enter Tryz.func22, Tryz.ntmps22
    repeat' (first | go_at_call 22 | go_skip | go_guarded | go_step)
    obtain ⟨wa, hwa⟩ : ∃ x, x = w.alloc (.cells #[.int .u8 (b.toNat : Int)] 5) := ⟨_, rfl⟩
    have hO : wa.ownsRow w.heap.size 5 1 (.slice (some ⟨w.heap.size, 0, none⟩) 1 1) 1 (encB [b]) := by rw [hwa]; exact own_lit (size := 1) (encB [b]) 1 (by decide) rfl (Nat.le_refl _)
    have hE : Ext w wa := by rw [hwa]; exact (Ext.refl w).alloc (Nat.le_refl _) _
    rw [← hwa]
    have HA := Lib.hid (And.intro hO hE)
    clear hO hE hwa
    refine (IH wa m HK.out.1 HK.out.2).mono ?_
    rintro e w1 ⟨v1, rfl, r1, f1⟩
    obtain ⟨A1, C1, rfl⟩ := own_sliceB r1
    have H1 := Lib.hid (And.intro (row_ext HA.out.1 f1) (And.intro (HA.out.2.trans f1) r1))
    clear r1 f1
    go_simp
    repeat' (first | go_skip | go_guarded | (at_builtin; refine wpList_appE (W := w) rfl (.tmp 12) (.tmp 15) _ rfl 5 1 1 Tryz.underlying22 infoU8 (by decide) _ _ _ rfl H1.out.1 H1.out.2.1 _ _ _ (encB (putNum m)) rfl (by rw [encB_length, Nat.mul_one]) (by obtain ⟨A, c, e, _, _, _, hs⟩ := BS.of_own H1.out.2.2; cases e; exact hs) (encB_one _) (by unfold maxLen; omega) (by omega) ?_; intro v2 w2 hown hb2) | go_step)
    go_ret
    refine ⟨_, rfl, ?_, hb2⟩
    have e2 : encB (b :: putNum m) = encB [b] ++ encB (putNum m) := rfl
    rw [Nat.add_comm, e2]
    exact hown

set_option maxRecDepth 100000 in
theorem rtext19_c (w : World) (s : List UInt8) (hs : s.length ≤ 100000000) : Calls Tryz.prog 23 #[str s] w fun e w' => ∃ v', e = .returned v' ∧ w'.ownsRow w.heap.size 5 1 v' (putText s).length (encB (putText s)) ∧ Ext w w' := by
  have hpl := putNum_len 9 s.length (by omega)
  go_enter Tryz.func23, Tryz.ntmps23
  repeat' (first | go_at_call 22 | go_skip | go_guarded | go_step)
  refine (rnum19_c 9 w s.length (by omega) (by omega)).mono ?_
  rintro e w1 ⟨v1, rfl, h1, f1⟩
  have H1 := Lib.hid (And.intro h1 f1)
  obtain ⟨A1, c1, rfl⟩ := own_sliceB h1
  clear h1 f1
  go_simp
  repeat' (first | go_skip | go_guarded | (refine wpList_bytesOf rfl (.tmp 7) _ _ 5 rfl Tryz.underlying9 Tryz.underlying22 Tryz.underlying5 s rfl ?_; intro A2 c2 w2 hseg2 f2) | (at_builtin; refine wpList_appE (W := w) rfl (.tmp 6) (.tmp 8) _ rfl 5 1 1 Tryz.underlying22 infoU8 (by decide) _ _ _ rfl (row_ext H1.out.1 f2) (H1.out.2.trans f2) _ _ _ (encB s) rfl (by rw [encB_length, Nat.mul_one]) hseg2 (encB_one _) (by unfold maxLen; omega) (by omega) ?_; intro v8 w8 hown8 hb8) | go_step)
  go_ret
  refine ⟨_, rfl, ?_, hb8⟩
  rw [putText, List.length_append, encB_append]
  exact hown8
end Go.Proofs.YtigoffdehdobiaaGreat
/- The document's Changes: bytes written onto a row: the regions that draw their order, as laws of their own. -/
namespace Go.Proofs.YtigoffdehdobiaaGreat
open Go.RowKit Go.QS Go.QS.Nk
set_option linter.unusedVariables false

theorem oper_appK {P : Program} {w : World} {o : Oper} {a : Act} {K : Act → World → Prop} {Q : Exit → Act → World → Prop} (s x : Operand) (t : TypeId)
    (ho : o.op = .call { callee := .builtin .append, args := #[s, x], argTypes := #[t, t] })
    (base : Nat) (e : TypeId) (size bytes : Nat) (ht : P.underlying t = some (.slice e)) (hi : ∃ i z, P.info? e = some i ∧ i.zero = some z ∧ i.size = size ∧ i.bytes = bytes ∧ z.cells.size = size) (hsz : 0 < size)
    (v : Value) (n : Nat) (xs : List Value) (hs : a.eval s = v) (hown : w.ownsRow base e size v n xs)
    (A : Option Addr) (m c : Nat) (news : List Value) (hx : a.eval x = .slice A m c) (hl : news.length = m * size) (hr : Seg w A news) (h1 : ∀ u ∈ news, u.oneCell' = true)
    (h63 : n + m ≤ maxLen) (hbytes : (n + m) * bytes ≤ 140737488355328) (hbase : base ≤ w.heap.size)
    (h : ∀ v' w', w'.ownsRow base e size v' (n + m) (xs ++ news) → w.grownBy w' v.ownBlock → (v'.ownBlock = v.ownBlock ∨ v'.ownBlock = some w.heap.size) → K (a.put o.dst v') w') : o.wp P a w K Q := by
  obtain ⟨i, z, hi, hz, hsize, hby, hzs⟩ := hi
  obtain ⟨v', w', hrun, h2, h3, h4⟩ := run_app (P := P) w base t o.type e i z size bytes ht hi hz hsize hby hzs hsz v n xs hown A m c news hl hr h1 h63 hbytes hbase
  unfold Oper.wp execOp
  simp only [ho, resolve, invoke, builtin, Sem.run_bind, Sem.run_pure, Result.andThen_ok, List.map_toArray, List.map_cons, List.map_nil, hs, hx, hrun]
  exact h v' w' h2 h3 h4

/-- A row of bytes that are being written, a change's block beside it. -/
structure RwSt (w0 w : World) (v : Value) (L : List UInt8) (g : Nat) (x : Ch) : Prop where
  row : w.ownsRow w0.heap.size 5 1 v L.length (encB L)
  ext : Ext w0 w
  box : w.heap[g]? = some (.cells #[str x.1, str x.2.1, str x.2.2.1, .bool x.2.2.2.1, .bool x.2.2.2.2] RcT (0, 0))
  ne : ∀ b, v.ownBlock = some b → b ≠ g
section
variable {w0 w w' : World} {v v' : Value} {L M : List UInt8} {g : Nat} {x : Ch}
theorem RwSt.ext' (h : RwSt w0 w v L g x) (f : Ext w w') : RwSt w0 w' v L g x := ⟨row_ext h.row f, Ext.trans h.ext f, box_extG h.box f, h.ne⟩
theorem RwSt.app (h : RwSt w0 w v L g x) {m : Nat} (hm : m = M.length) (r : w'.ownsRow w0.heap.size 5 1 v' (L.length + m) (encB L ++ encB M)) (k : w.grownBy w' v.ownBlock) (n : v'.ownBlock = v.ownBlock ∨ v'.ownBlock = some w.heap.size) : RwSt w0 w' v' (L ++ M) g x := by
  subst hm
  refine ⟨by rw [List.length_append, encB_append]; exact r, h.ext.grown k h.ext.size (fun b hb => (World.ownsRow.lt h.row b hb).1), (k.block g (heap_lt h.box) (fun e => h.ne g e.symm rfl)).trans h.box, fun b hb => ?_⟩
  rcases n with n | n
  · exact h.ne b (by rw [← n]; exact hb)
  · rw [hb] at n
    have := Option.some.inj n
    have h2 := heap_lt h.box
    omega
end
theorem encB_one1 (t : Nat) (ht : t < 256) : encB [UInt8.ofNat t] = [.int .u8 (t : Int)] := by
  show [Value.int .u8 ((UInt8.ofNat t).toNat : Int)] = _
  rw [ofNat_toNat ht]

set_option maxRecDepth 100000 in
set_option maxHeartbeats 2000000 in
theorem rch_13 (w0 wr : World) (v5 : Value) (L : List UInt8) (g : Nat) (x : Ch) (xo : List UInt8) (nl : Nat) (HS : Hid (RwSt w0 wr v5 L g x ∧ nl = L.length)) (hx : xo = x.2.1) (hn9 : nl + (putText xo).length ≤ 90000000) (c : Code) (QX : Exit → Act → World → Prop) (t0 t1 t2 t3 t4 t6 t8 t9 t10 t11 t12 t13 t14 t15 t16 t17 t18 t19 t20 t21 t22 t23 t24 t25 t26 t27 t28 t29 t30 t31 t32 t33 t34 t35 t36 t37 t38 t39 t40 t41 t42 t43 t44 t45 t46 t47 t48 t49 t50 t51 t52 t53 t54 t55 t56 t57 t58 t59 t60 t61 t62 t63 t64 : Value)
    (hc : (Tryz.f15.body.bind (findR 13)) = some c)
    (hQ : ∀ (u5 u56 u57 u58 u59 u60 u61 u62 : Value) (wx : World), RwSt w0 wx u5 (L ++ [UInt8.ofNat 1] ++ putText xo) g x → QX .normal { tmps := List.toArray (t0 :: t1 :: t2 :: t3 :: t4 :: u5 :: t6 :: (ptr g) :: t8 :: t9 :: t10 :: t11 :: t12 :: t13 :: t14 :: t15 :: t16 :: t17 :: t18 :: t19 :: t20 :: t21 :: t22 :: t23 :: t24 :: t25 :: t26 :: t27 :: t28 :: t29 :: t30 :: t31 :: t32 :: t33 :: t34 :: t35 :: t36 :: t37 :: t38 :: t39 :: t40 :: t41 :: t42 :: t43 :: t44 :: t45 :: t46 :: t47 :: t48 :: t49 :: t50 :: t51 :: t52 :: t53 :: t54 :: t55 :: u56 :: u57 :: u58 :: u59 :: u60 :: u61 :: u62 :: t63 :: t64 :: []), defers := [] } wx) :
    c.wp Tryz.prog QX { tmps := List.toArray (t0 :: t1 :: t2 :: t3 :: t4 :: v5 :: t6 :: (ptr g) :: t8 :: t9 :: t10 :: t11 :: t12 :: t13 :: t14 :: t15 :: t16 :: t17 :: t18 :: t19 :: t20 :: t21 :: t22 :: t23 :: t24 :: t25 :: t26 :: t27 :: t28 :: t29 :: t30 :: t31 :: t32 :: t33 :: t34 :: t35 :: t36 :: t37 :: t38 :: t39 :: t40 :: t41 :: t42 :: t43 :: t44 :: t45 :: t46 :: t47 :: t48 :: t49 :: t50 :: t51 :: t52 :: t53 :: t54 :: t55 :: t56 :: t57 :: t58 :: t59 :: t60 :: t61 :: t62 :: t63 :: t64 :: []), defers := [] } wr := by
  change some _ = some c at hc
  cases hc
  have HQF := Lib.hid hQ
  clear hQ
  have hp1 := putText_ge xo
  have HX := Lib.hid hx
  clear hx
  have HcS : Hid (∀ y : World, y.heap[g]? = wr.heap[g]? → (fun y : World => y.cell? ⟨g, 1, none⟩ = some (str xo)) y) := Lib.hid (fun y hy => by
    have hb := HS.out.1.box
    rw [← hy] at hb
    obtain ⟨z0, z1, z2, z3, z4⟩ := box5C hb
    show y.cell? _ = _; rw [HX.out]; exact z1)
  have hgl := heap_lt HS.out.1.box
  refine wp_region_noPanic ?_
  refine wp_region_T (n := 7) (S := (fun y : World => y.cell? ⟨g, 1, none⟩ = some (str xo))) (by kernel_rfl) ?_
  change wpAnyT _ _ _ _ _ _ 8 _ _ wr.drew
  have hH : (fun y : World => y.cell? ⟨g, 1, none⟩ = some (str xo)) wr.drew := HcS.out _ rfl
  refine wpAnyT_take (i := 0) (v := ?_) rfl (by kernel_rfl) (by kernel_rfl) (by kernel_rfl) (by kernel_rfl) (fun _ _ _ h => h) (Or.inl ⟨by rfl, ?_⟩) hH ?_
  rotate_left
  · (intro w hSw; (try dsimp only at hSw); go_simp; try with_reducible rfl)
  try simp only [Act.put, List.setIfInBounds_toArray, List.set_cons_zero, List.set_cons_succ]
  refine wpAnyT_take (i := 3) (v := ?_) rfl (by kernel_rfl) (by kernel_rfl) (by kernel_rfl) (by kernel_rfl) (fun _ _ _ h => h) (Or.inl ⟨by rfl, ?_⟩) hH ?_
  rotate_left
  · (intro w hSw; (try dsimp only at hSw); go_simp; try with_reducible rfl)
  try simp only [Act.put, List.setIfInBounds_toArray, List.set_cons_zero, List.set_cons_succ]
  refine wpAnyT_take (i := 4) (v := ?_) rfl (by kernel_rfl) (by kernel_rfl) (by kernel_rfl) (by kernel_rfl) (fun _ _ _ h => h) (Or.inl ⟨by rfl, ?_⟩) hH ?_
  rotate_left
  · (intro w hSw; (try dsimp only at hSw); go_simp; try with_reducible rfl)
  try simp only [Act.put, List.setIfInBounds_toArray, List.set_cons_zero, List.set_cons_succ]
  clear hH
  refine wpAnyT_all (rs := [1]) (by kernel_rfl) (by simp) ?_
  intro i9 hi9
  obtain rfl := List.mem_singleton.1 hi9
  refine wpOp_goK rfl rfl (fun K9 hK9 => ?_)
  go_simp
  obtain ⟨x1, hx1⟩ : ∃ x1, x1 = (wr.alloc (.cells #[.int .u8 1] 5)).drew := ⟨_, rfl⟩
  have e1 : Ext wr x1 := by rw [hx1]; exact ext_drew (ext_alloc (Ext.refl wr) _)
  have hseg : Seg x1 (some ⟨wr.heap.size, 0, none⟩) [.int .u8 1] := by rw [hx1]; exact Seg.new wr [_] _ rfl
  rw [← hx1]
  have H1 := Lib.hid (And.intro (HS.out.1.ext' e1) (And.intro hseg e1))
  clear hx1 e1 hseg
  refine hK9.out _ _ ⟨.inr (HcS.out _ (by rw [H1.out.1.box, HS.out.1.box])), ?_⟩
  clear hK9 K9
  refine wpAnyT_all (rs := [2]) (by kernel_rfl) (by simp) ?_
  intro i9 hi9
  obtain rfl := List.mem_singleton.1 hi9
  refine wpOp_goK rfl rfl (fun K9 hK9 => ?_)
  refine oper_appK (.tmp 56) (.tmp 57) _ rfl w0.heap.size 5 1 1 Tryz.underlying22 infoU8 (by decide) v5 L.length (encB L) rfl (by exact H1.out.1.row) _ 1 1 [.int .u8 1] rfl rfl (by exact H1.out.2.1) (by simp [Value.oneCell']) (by rw [← HS.out.2]; unfold maxLen; omega) (by rw [← HS.out.2]; omega) H1.out.1.ext.size ?_
  intro v2 x2 r2 g2 n2
  have H2 : Hid (RwSt w0 x2 v2 (L ++ [UInt8.ofNat 1]) g x) := Lib.hid (H1.out.1.app (M := [UInt8.ofNat 1]) rfl (by rw [encB_one1 1 (by decide)]; exact r2) g2 n2)
  clear r2 g2 n2 H1
  refine hK9.out _ _ ⟨.inr (HcS.out _ (by rw [H2.out.box, HS.out.1.box])), ?_⟩
  clear hK9 K9
  try simp only [Act.put, List.setIfInBounds_toArray, List.set_cons_zero, List.set_cons_succ]
  refine wpAnyT_all (rs := [5]) (by kernel_rfl) (by simp) ?_
  intro i9 hi9
  obtain rfl := List.mem_singleton.1 hi9
  refine wpOp_goK rfl rfl (fun K9 hK9 => ?_)
  go_simp
  refine (rtext19_c x2 xo (by omega)).mono ?_
  rintro e x3 ⟨v3, rfl, r3, f3⟩
  obtain ⟨A3, C3, rfl⟩ := own_slice r3
  have H3 : Hid (RwSt w0 x3 v2 (L ++ [UInt8.ofNat 1]) g x ∧ Seg x3 A3 (encB (putText xo))) := Lib.hid ⟨H2.out.ext' f3, by obtain ⟨A, c, e, _, _, _, hs⟩ := BS.of_own r3; cases e; exact hs⟩
  clear r3 f3 H2
  go_simp
  refine hK9.out _ _ ⟨.inr (HcS.out _ (by rw [H3.out.1.box, HS.out.1.box])), ?_⟩
  clear hK9 K9
  refine wpAnyT_all (rs := [6]) (by kernel_rfl) (by simp) ?_
  intro i9 hi9
  obtain rfl := List.mem_singleton.1 hi9
  refine wpOp_goK rfl rfl (fun K9 hK9 => ?_)
  refine oper_appK (.tmp 58) (.tmp 61) _ rfl w0.heap.size 5 1 1 Tryz.underlying22 infoU8 (by decide) v2 (L ++ [UInt8.ofNat 1]).length (encB (L ++ [UInt8.ofNat 1])) rfl (by exact H3.out.1.row) _ _ _ (encB (putText xo)) rfl (by rw [encB_length, Nat.mul_one]) (by exact H3.out.2) (encB_one _) (by simp only [List.length_append, List.length_cons, List.length_nil]; rw [← HS.out.2]; unfold maxLen; omega) (by simp only [List.length_append, List.length_cons, List.length_nil]; rw [← HS.out.2]; omega) H3.out.1.ext.size ?_
  intro v4 x4 r4 g4 n4
  have H4 : Hid (RwSt w0 x4 v4 (L ++ [UInt8.ofNat 1] ++ putText xo) g x) := Lib.hid (H3.out.1.app rfl r4 g4 n4)
  clear r4 g4 n4 H3
  refine hK9.out _ _ ⟨.inr (HcS.out _ (by rw [H4.out.box, HS.out.1.box])), ?_⟩
  clear hK9 K9
  try simp only [Act.put, List.setIfInBounds_toArray, List.set_cons_zero, List.set_cons_succ]
  refine wpAnyT_tail 7 (Nat.le_refl _) rfl (by kernel_rfl) ?_
  simp only [List.drop_succ_cons, List.drop_zero]
  repeat' go_step
  refine NoPanic.normal ?_
  refine HQF.out _ _ _ _ _ _ _ _ _ H4.out


set_option maxRecDepth 100000 in
set_option maxHeartbeats 2000000 in
theorem rch_9 (w0 wr : World) (v5 : Value) (L : List UInt8) (g : Nat) (x : Ch) (xn : List UInt8) (nl : Nat) (HS : Hid (RwSt w0 wr v5 L g x ∧ nl = L.length)) (hx : xn = x.2.2.1) (hn9 : nl + (putText xn).length ≤ 90000000) (c : Code) (QX : Exit → Act → World → Prop) (t0 t1 t2 t3 t4 t6 t8 t9 t10 t11 t12 t13 t14 t15 t16 t17 t18 t19 t20 t21 t22 t23 t24 t25 t26 t27 t28 t29 t30 t31 t32 t33 t34 t35 t36 t37 t38 t39 t40 t41 t42 t43 t44 t45 t46 t47 t48 t49 t50 t51 t52 t53 t54 t55 t56 t57 t58 t59 t60 t61 t62 t63 t64 : Value)
    (hc : (Tryz.f15.body.bind (findR 9)) = some c)
    (hQ : ∀ (u5 u28 u29 u30 u31 u32 u33 u34 : Value) (wx : World), RwSt w0 wx u5 (L ++ [UInt8.ofNat 2] ++ putText xn) g x → QX .normal { tmps := List.toArray (t0 :: t1 :: t2 :: t3 :: t4 :: u5 :: t6 :: (ptr g) :: t8 :: t9 :: t10 :: t11 :: t12 :: t13 :: t14 :: t15 :: t16 :: t17 :: t18 :: t19 :: t20 :: t21 :: t22 :: t23 :: t24 :: t25 :: t26 :: t27 :: u28 :: u29 :: u30 :: u31 :: u32 :: u33 :: u34 :: t35 :: t36 :: t37 :: t38 :: t39 :: t40 :: t41 :: t42 :: t43 :: t44 :: t45 :: t46 :: t47 :: t48 :: t49 :: t50 :: t51 :: t52 :: t53 :: t54 :: t55 :: t56 :: t57 :: t58 :: t59 :: t60 :: t61 :: t62 :: t63 :: t64 :: []), defers := [] } wx) :
    c.wp Tryz.prog QX { tmps := List.toArray (t0 :: t1 :: t2 :: t3 :: t4 :: v5 :: t6 :: (ptr g) :: t8 :: t9 :: t10 :: t11 :: t12 :: t13 :: t14 :: t15 :: t16 :: t17 :: t18 :: t19 :: t20 :: t21 :: t22 :: t23 :: t24 :: t25 :: t26 :: t27 :: t28 :: t29 :: t30 :: t31 :: t32 :: t33 :: t34 :: t35 :: t36 :: t37 :: t38 :: t39 :: t40 :: t41 :: t42 :: t43 :: t44 :: t45 :: t46 :: t47 :: t48 :: t49 :: t50 :: t51 :: t52 :: t53 :: t54 :: t55 :: t56 :: t57 :: t58 :: t59 :: t60 :: t61 :: t62 :: t63 :: t64 :: []), defers := [] } wr := by
  change some _ = some c at hc
  cases hc
  have HQF := Lib.hid hQ
  clear hQ
  have hp2 := putText_ge xn
  have HX := Lib.hid hx
  clear hx
  have HcS : Hid (∀ y : World, y.heap[g]? = wr.heap[g]? → (fun y : World => y.cell? ⟨g, 2, none⟩ = some (str xn)) y) := Lib.hid (fun y hy => by
    have hb := HS.out.1.box
    rw [← hy] at hb
    obtain ⟨z0, z1, z2, z3, z4⟩ := box5C hb
    show y.cell? _ = _; rw [HX.out]; exact z2)
  have hgl := heap_lt HS.out.1.box
  refine wp_region_noPanic ?_
  refine wp_region_T (n := 7) (S := (fun y : World => y.cell? ⟨g, 2, none⟩ = some (str xn))) (by kernel_rfl) ?_
  change wpAnyT _ _ _ _ _ _ 8 _ _ wr.drew
  have hH : (fun y : World => y.cell? ⟨g, 2, none⟩ = some (str xn)) wr.drew := HcS.out _ rfl
  refine wpAnyT_take (i := 0) (v := ?_) rfl (by kernel_rfl) (by kernel_rfl) (by kernel_rfl) (by kernel_rfl) (fun _ _ _ h => h) (Or.inl ⟨by rfl, ?_⟩) hH ?_
  rotate_left
  · (intro w hSw; (try dsimp only at hSw); go_simp; try with_reducible rfl)
  try simp only [Act.put, List.setIfInBounds_toArray, List.set_cons_zero, List.set_cons_succ]
  refine wpAnyT_take (i := 3) (v := ?_) rfl (by kernel_rfl) (by kernel_rfl) (by kernel_rfl) (by kernel_rfl) (fun _ _ _ h => h) (Or.inl ⟨by rfl, ?_⟩) hH ?_
  rotate_left
  · (intro w hSw; (try dsimp only at hSw); go_simp; try with_reducible rfl)
  try simp only [Act.put, List.setIfInBounds_toArray, List.set_cons_zero, List.set_cons_succ]
  refine wpAnyT_take (i := 4) (v := ?_) rfl (by kernel_rfl) (by kernel_rfl) (by kernel_rfl) (by kernel_rfl) (fun _ _ _ h => h) (Or.inl ⟨by rfl, ?_⟩) hH ?_
  rotate_left
  · (intro w hSw; (try dsimp only at hSw); go_simp; try with_reducible rfl)
  try simp only [Act.put, List.setIfInBounds_toArray, List.set_cons_zero, List.set_cons_succ]
  clear hH
  refine wpAnyT_all (rs := [1]) (by kernel_rfl) (by simp) ?_
  intro i9 hi9
  obtain rfl := List.mem_singleton.1 hi9
  refine wpOp_goK rfl rfl (fun K9 hK9 => ?_)
  go_simp
  obtain ⟨x1, hx1⟩ : ∃ x1, x1 = (wr.alloc (.cells #[.int .u8 2] 5)).drew := ⟨_, rfl⟩
  have e1 : Ext wr x1 := by rw [hx1]; exact ext_drew (ext_alloc (Ext.refl wr) _)
  have hseg : Seg x1 (some ⟨wr.heap.size, 0, none⟩) [.int .u8 2] := by rw [hx1]; exact Seg.new wr [_] _ rfl
  rw [← hx1]
  have H1 := Lib.hid (And.intro (HS.out.1.ext' e1) (And.intro hseg e1))
  clear hx1 e1 hseg
  refine hK9.out _ _ ⟨.inr (HcS.out _ (by rw [H1.out.1.box, HS.out.1.box])), ?_⟩
  clear hK9 K9
  refine wpAnyT_all (rs := [2]) (by kernel_rfl) (by simp) ?_
  intro i9 hi9
  obtain rfl := List.mem_singleton.1 hi9
  refine wpOp_goK rfl rfl (fun K9 hK9 => ?_)
  refine oper_appK (.tmp 28) (.tmp 29) _ rfl w0.heap.size 5 1 1 Tryz.underlying22 infoU8 (by decide) v5 L.length (encB L) rfl (by exact H1.out.1.row) _ 1 1 [.int .u8 2] rfl rfl (by exact H1.out.2.1) (by simp [Value.oneCell']) (by rw [← HS.out.2]; unfold maxLen; omega) (by rw [← HS.out.2]; omega) H1.out.1.ext.size ?_
  intro v2 x2 r2 g2 n2
  have H2 : Hid (RwSt w0 x2 v2 (L ++ [UInt8.ofNat 2]) g x) := Lib.hid (H1.out.1.app (M := [UInt8.ofNat 2]) rfl (by rw [encB_one1 2 (by decide)]; exact r2) g2 n2)
  clear r2 g2 n2 H1
  refine hK9.out _ _ ⟨.inr (HcS.out _ (by rw [H2.out.box, HS.out.1.box])), ?_⟩
  clear hK9 K9
  try simp only [Act.put, List.setIfInBounds_toArray, List.set_cons_zero, List.set_cons_succ]
  refine wpAnyT_all (rs := [5]) (by kernel_rfl) (by simp) ?_
  intro i9 hi9
  obtain rfl := List.mem_singleton.1 hi9
  refine wpOp_goK rfl rfl (fun K9 hK9 => ?_)
  go_simp
  refine (rtext19_c x2 xn (by omega)).mono ?_
  rintro e x3 ⟨v3, rfl, r3, f3⟩
  obtain ⟨A3, C3, rfl⟩ := own_slice r3
  have H3 : Hid (RwSt w0 x3 v2 (L ++ [UInt8.ofNat 2]) g x ∧ Seg x3 A3 (encB (putText xn))) := Lib.hid ⟨H2.out.ext' f3, by obtain ⟨A, c, e, _, _, _, hs⟩ := BS.of_own r3; cases e; exact hs⟩
  clear r3 f3 H2
  go_simp
  refine hK9.out _ _ ⟨.inr (HcS.out _ (by rw [H3.out.1.box, HS.out.1.box])), ?_⟩
  clear hK9 K9
  refine wpAnyT_all (rs := [6]) (by kernel_rfl) (by simp) ?_
  intro i9 hi9
  obtain rfl := List.mem_singleton.1 hi9
  refine wpOp_goK rfl rfl (fun K9 hK9 => ?_)
  refine oper_appK (.tmp 30) (.tmp 33) _ rfl w0.heap.size 5 1 1 Tryz.underlying22 infoU8 (by decide) v2 (L ++ [UInt8.ofNat 2]).length (encB (L ++ [UInt8.ofNat 2])) rfl (by exact H3.out.1.row) _ _ _ (encB (putText xn)) rfl (by rw [encB_length, Nat.mul_one]) (by exact H3.out.2) (encB_one _) (by simp only [List.length_append, List.length_cons, List.length_nil]; rw [← HS.out.2]; unfold maxLen; omega) (by simp only [List.length_append, List.length_cons, List.length_nil]; rw [← HS.out.2]; omega) H3.out.1.ext.size ?_
  intro v4 x4 r4 g4 n4
  have H4 : Hid (RwSt w0 x4 v4 (L ++ [UInt8.ofNat 2] ++ putText xn) g x) := Lib.hid (H3.out.1.app rfl r4 g4 n4)
  clear r4 g4 n4 H3
  refine hK9.out _ _ ⟨.inr (HcS.out _ (by rw [H4.out.box, HS.out.1.box])), ?_⟩
  clear hK9 K9
  try simp only [Act.put, List.setIfInBounds_toArray, List.set_cons_zero, List.set_cons_succ]
  refine wpAnyT_tail 7 (Nat.le_refl _) rfl (by kernel_rfl) ?_
  simp only [List.drop_succ_cons, List.drop_zero]
  repeat' go_step
  refine NoPanic.normal ?_
  refine HQF.out _ _ _ _ _ _ _ _ _ H4.out


set_option maxRecDepth 100000 in
set_option maxHeartbeats 2000000 in
theorem rch_11 (w0 wr : World) (v5 : Value) (L : List UInt8) (g : Nat) (x : Ch) (xo xn : List UInt8) (nl : Nat) (HS : Hid (RwSt w0 wr v5 L g x ∧ nl = L.length)) (hx : xo = x.2.1 ∧ xn = x.2.2.1) (hn9 : nl + (putText xo).length + (putText xn).length ≤ 90000000) (c : Code) (QX : Exit → Act → World → Prop) (t0 t1 t2 t3 t4 t6 t8 t9 t10 t11 t12 t13 t14 t15 t16 t17 t18 t19 t20 t21 t22 t23 t24 t25 t26 t27 t28 t29 t30 t31 t32 t33 t34 t35 t36 t37 t38 t39 t40 t41 t42 t43 t44 t45 t46 t47 t48 t49 t50 t51 t52 t53 t54 t55 t56 t57 t58 t59 t60 t61 t62 t63 t64 : Value)
    (hc : (Tryz.f15.body.bind (findR 11)) = some c)
    (hQ : ∀ (u5 u42 u43 u44 u45 u46 u47 u48 u49 u50 u51 u52 : Value) (wx : World), RwSt w0 wx u5 (L ++ [UInt8.ofNat 3] ++ putText xo ++ putText xn) g x → QX .normal { tmps := List.toArray (t0 :: t1 :: t2 :: t3 :: t4 :: u5 :: t6 :: (ptr g) :: t8 :: t9 :: t10 :: t11 :: t12 :: t13 :: t14 :: t15 :: t16 :: t17 :: t18 :: t19 :: t20 :: t21 :: t22 :: t23 :: t24 :: t25 :: t26 :: t27 :: t28 :: t29 :: t30 :: t31 :: t32 :: t33 :: t34 :: t35 :: t36 :: t37 :: t38 :: t39 :: t40 :: t41 :: u42 :: u43 :: u44 :: u45 :: u46 :: u47 :: u48 :: u49 :: u50 :: u51 :: u52 :: t53 :: t54 :: t55 :: t56 :: t57 :: t58 :: t59 :: t60 :: t61 :: t62 :: t63 :: t64 :: []), defers := [] } wx) :
    c.wp Tryz.prog QX { tmps := List.toArray (t0 :: t1 :: t2 :: t3 :: t4 :: v5 :: t6 :: (ptr g) :: t8 :: t9 :: t10 :: t11 :: t12 :: t13 :: t14 :: t15 :: t16 :: t17 :: t18 :: t19 :: t20 :: t21 :: t22 :: t23 :: t24 :: t25 :: t26 :: t27 :: t28 :: t29 :: t30 :: t31 :: t32 :: t33 :: t34 :: t35 :: t36 :: t37 :: t38 :: t39 :: t40 :: t41 :: t42 :: t43 :: t44 :: t45 :: t46 :: t47 :: t48 :: t49 :: t50 :: t51 :: t52 :: t53 :: t54 :: t55 :: t56 :: t57 :: t58 :: t59 :: t60 :: t61 :: t62 :: t63 :: t64 :: []), defers := [] } wr := by
  change some _ = some c at hc
  cases hc
  have HQF := Lib.hid hQ
  clear hQ
  have hp1 := putText_ge xo
  have hp2 := putText_ge xn
  have HX := Lib.hid hx
  clear hx
  have HcS : Hid (∀ y : World, y.heap[g]? = wr.heap[g]? → (fun y : World => y.cell? ⟨g, 1, none⟩ = some (str xo) ∧ y.cell? ⟨g, 2, none⟩ = some (str xn)) y) := Lib.hid (fun y hy => by
    have hb := HS.out.1.box
    rw [← hy] at hb
    obtain ⟨z0, z1, z2, z3, z4⟩ := box5C hb
    exact ⟨by rw [HX.out.1]; exact z1, by rw [HX.out.2]; exact z2⟩)
  have hgl := heap_lt HS.out.1.box
  refine wp_region_noPanic ?_
  refine wp_region_T (n := 11) (S := (fun y : World => y.cell? ⟨g, 1, none⟩ = some (str xo) ∧ y.cell? ⟨g, 2, none⟩ = some (str xn))) (by kernel_rfl) ?_
  change wpAnyT _ _ _ _ _ _ 12 _ _ wr.drew
  have hH : (fun y : World => y.cell? ⟨g, 1, none⟩ = some (str xo) ∧ y.cell? ⟨g, 2, none⟩ = some (str xn)) wr.drew := HcS.out _ rfl
  refine wpAnyT_take (i := 0) (v := ?_) rfl (by kernel_rfl) (by kernel_rfl) (by kernel_rfl) (by kernel_rfl) (fun _ _ _ h => h) (Or.inl ⟨by rfl, ?_⟩) hH ?_
  rotate_left
  · (intro w hSw; (try dsimp only at hSw); go_simp; try with_reducible rfl)
  try simp only [Act.put, List.setIfInBounds_toArray, List.set_cons_zero, List.set_cons_succ]
  refine wpAnyT_take (i := 3) (v := ?_) rfl (by kernel_rfl) (by kernel_rfl) (by kernel_rfl) (by kernel_rfl) (fun _ _ _ h => h) (Or.inl ⟨by rfl, ?_⟩) hH ?_
  rotate_left
  · (intro w hSw; (try dsimp only at hSw); go_simp; try with_reducible rfl)
  try simp only [Act.put, List.setIfInBounds_toArray, List.set_cons_zero, List.set_cons_succ]
  refine wpAnyT_take (i := 4) (v := ?_) rfl (by kernel_rfl) (by kernel_rfl) (by kernel_rfl) (by kernel_rfl) (fun _ _ _ h => h) (Or.inl ⟨by rfl, ?_⟩) hH ?_
  rotate_left
  · (intro w hSw; (try dsimp only at hSw); go_simp; try with_reducible rfl)
  try simp only [Act.put, List.setIfInBounds_toArray, List.set_cons_zero, List.set_cons_succ]
  refine wpAnyT_take (i := 7) (v := ?_) rfl (by kernel_rfl) (by kernel_rfl) (by kernel_rfl) (by kernel_rfl) (fun _ _ _ h => h) (Or.inl ⟨by rfl, ?_⟩) hH ?_
  rotate_left
  · (intro w hSw; (try dsimp only at hSw); go_simp; try with_reducible rfl)
  try simp only [Act.put, List.setIfInBounds_toArray, List.set_cons_zero, List.set_cons_succ]
  refine wpAnyT_take (i := 8) (v := ?_) rfl (by kernel_rfl) (by kernel_rfl) (by kernel_rfl) (by kernel_rfl) (fun _ _ _ h => h) (Or.inl ⟨by rfl, ?_⟩) hH ?_
  rotate_left
  · (intro w hSw; (try dsimp only at hSw); go_simp; try with_reducible rfl)
  try simp only [Act.put, List.setIfInBounds_toArray, List.set_cons_zero, List.set_cons_succ]
  clear hH
  refine wpAnyT_all (rs := [1]) (by kernel_rfl) (by simp) ?_
  intro i9 hi9
  obtain rfl := List.mem_singleton.1 hi9
  refine wpOp_goK rfl rfl (fun K9 hK9 => ?_)
  go_simp
  obtain ⟨x1, hx1⟩ : ∃ x1, x1 = (wr.alloc (.cells #[.int .u8 3] 5)).drew := ⟨_, rfl⟩
  have e1 : Ext wr x1 := by rw [hx1]; exact ext_drew (ext_alloc (Ext.refl wr) _)
  have hseg : Seg x1 (some ⟨wr.heap.size, 0, none⟩) [.int .u8 3] := by rw [hx1]; exact Seg.new wr [_] _ rfl
  rw [← hx1]
  have H1 := Lib.hid (And.intro (HS.out.1.ext' e1) (And.intro hseg e1))
  clear hx1 e1 hseg
  refine hK9.out _ _ ⟨.inr (HcS.out _ (by rw [H1.out.1.box, HS.out.1.box])), ?_⟩
  clear hK9 K9
  refine wpAnyT_all (rs := [2]) (by kernel_rfl) (by simp) ?_
  intro i9 hi9
  obtain rfl := List.mem_singleton.1 hi9
  refine wpOp_goK rfl rfl (fun K9 hK9 => ?_)
  refine oper_appK (.tmp 42) (.tmp 43) _ rfl w0.heap.size 5 1 1 Tryz.underlying22 infoU8 (by decide) v5 L.length (encB L) rfl (by exact H1.out.1.row) _ 1 1 [.int .u8 3] rfl rfl (by exact H1.out.2.1) (by simp [Value.oneCell']) (by rw [← HS.out.2]; unfold maxLen; omega) (by rw [← HS.out.2]; omega) H1.out.1.ext.size ?_
  intro v2 x2 r2 g2 n2
  have H2 : Hid (RwSt w0 x2 v2 (L ++ [UInt8.ofNat 3]) g x) := Lib.hid (H1.out.1.app (M := [UInt8.ofNat 3]) rfl (by rw [encB_one1 3 (by decide)]; exact r2) g2 n2)
  clear r2 g2 n2 H1
  refine hK9.out _ _ ⟨.inr (HcS.out _ (by rw [H2.out.box, HS.out.1.box])), ?_⟩
  clear hK9 K9
  try simp only [Act.put, List.setIfInBounds_toArray, List.set_cons_zero, List.set_cons_succ]
  refine wpAnyT_all (rs := [5]) (by kernel_rfl) (by simp) ?_
  intro i9 hi9
  obtain rfl := List.mem_singleton.1 hi9
  refine wpOp_goK rfl rfl (fun K9 hK9 => ?_)
  go_simp
  refine (rtext19_c x2 xo (by omega)).mono ?_
  rintro e x3 ⟨v3, rfl, r3, f3⟩
  obtain ⟨A3, C3, rfl⟩ := own_slice r3
  have H3 : Hid (RwSt w0 x3 v2 (L ++ [UInt8.ofNat 3]) g x ∧ Seg x3 A3 (encB (putText xo))) := Lib.hid ⟨H2.out.ext' f3, by obtain ⟨A, c, e, _, _, _, hs⟩ := BS.of_own r3; cases e; exact hs⟩
  clear r3 f3 H2
  go_simp
  refine hK9.out _ _ ⟨.inr (HcS.out _ (by rw [H3.out.1.box, HS.out.1.box])), ?_⟩
  clear hK9 K9
  refine wpAnyT_all (rs := [6]) (by kernel_rfl) (by simp) ?_
  intro i9 hi9
  obtain rfl := List.mem_singleton.1 hi9
  refine wpOp_goK rfl rfl (fun K9 hK9 => ?_)
  refine oper_appK (.tmp 44) (.tmp 47) _ rfl w0.heap.size 5 1 1 Tryz.underlying22 infoU8 (by decide) v2 (L ++ [UInt8.ofNat 3]).length (encB (L ++ [UInt8.ofNat 3])) rfl (by exact H3.out.1.row) _ _ _ (encB (putText xo)) rfl (by rw [encB_length, Nat.mul_one]) (by exact H3.out.2) (encB_one _) (by simp only [List.length_append, List.length_cons, List.length_nil]; rw [← HS.out.2]; unfold maxLen; omega) (by simp only [List.length_append, List.length_cons, List.length_nil]; rw [← HS.out.2]; omega) H3.out.1.ext.size ?_
  intro v4 x4 r4 g4 n4
  have H4 : Hid (RwSt w0 x4 v4 (L ++ [UInt8.ofNat 3] ++ putText xo) g x) := Lib.hid (H3.out.1.app rfl r4 g4 n4)
  clear r4 g4 n4 H3
  refine hK9.out _ _ ⟨.inr (HcS.out _ (by rw [H4.out.box, HS.out.1.box])), ?_⟩
  clear hK9 K9
  try simp only [Act.put, List.setIfInBounds_toArray, List.set_cons_zero, List.set_cons_succ]
  refine wpAnyT_all (rs := [9]) (by kernel_rfl) (by simp) ?_
  intro i9 hi9
  obtain rfl := List.mem_singleton.1 hi9
  refine wpOp_goK rfl rfl (fun K9 hK9 => ?_)
  go_simp
  refine (rtext19_c x4 xn (by omega)).mono ?_
  rintro e x5 ⟨v5, rfl, r5, f5⟩
  obtain ⟨A5, C5, rfl⟩ := own_slice r5
  have H5 : Hid (RwSt w0 x5 v4 (L ++ [UInt8.ofNat 3] ++ putText xo) g x ∧ Seg x5 A5 (encB (putText xn))) := Lib.hid ⟨H4.out.ext' f5, by obtain ⟨A, c, e, _, _, _, hs⟩ := BS.of_own r5; cases e; exact hs⟩
  clear r5 f5 H4
  go_simp
  refine hK9.out _ _ ⟨.inr (HcS.out _ (by rw [H5.out.1.box, HS.out.1.box])), ?_⟩
  clear hK9 K9
  refine wpAnyT_all (rs := [10]) (by kernel_rfl) (by simp) ?_
  intro i9 hi9
  obtain rfl := List.mem_singleton.1 hi9
  refine wpOp_goK rfl rfl (fun K9 hK9 => ?_)
  refine oper_appK (.tmp 48) (.tmp 51) _ rfl w0.heap.size 5 1 1 Tryz.underlying22 infoU8 (by decide) v4 (L ++ [UInt8.ofNat 3] ++ putText xo).length (encB (L ++ [UInt8.ofNat 3] ++ putText xo)) rfl (by exact H5.out.1.row) _ _ _ (encB (putText xn)) rfl (by rw [encB_length, Nat.mul_one]) (by exact H5.out.2) (encB_one _) (by simp only [List.length_append, List.length_cons, List.length_nil]; rw [← HS.out.2]; unfold maxLen; omega) (by simp only [List.length_append, List.length_cons, List.length_nil]; rw [← HS.out.2]; omega) H5.out.1.ext.size ?_
  intro v6 x6 r6 g6 n6
  have H6 : Hid (RwSt w0 x6 v6 (L ++ [UInt8.ofNat 3] ++ putText xo ++ putText xn) g x) := Lib.hid (H5.out.1.app rfl r6 g6 n6)
  clear r6 g6 n6 H5
  refine hK9.out _ _ ⟨.inr (HcS.out _ (by rw [H6.out.box, HS.out.1.box])), ?_⟩
  clear hK9 K9
  try simp only [Act.put, List.setIfInBounds_toArray, List.set_cons_zero, List.set_cons_succ]
  refine wpAnyT_tail 11 (Nat.le_refl _) rfl (by kernel_rfl) ?_
  simp only [List.drop_succ_cons, List.drop_zero]
  repeat' go_step
  refine NoPanic.normal ?_
  refine HQF.out _ _ _ _ _ _ _ _ _ _ _ _ _ H6.out


end Go.Proofs.YtigoffdehdobiaaGreat
/- Contract: the document's Changes. -/
namespace Go.Proofs.YtigoffdehdobiaaGreat
open Go.RowKit Go.QS Go.QS.Nk
set_option linter.unusedVariables false

set_option maxRecDepth 100000 in
set_option maxHeartbeats 4000000 in
theorem rchanges_c (w : World) (v : Value) (l : List Ch) (h : Sl w 5 v l.length (flatE encCh l)) (h9 : l.length ≤ 1000000000) (hb9 : (putChs l).length ≤ 80000000) (hk9 : ∀ c ∈ l, c.1.length ≤ 1000000000) :
    Calls Tryz.prog 15 #[v] w fun e w' => ∃ v', e = .returned (.tuple #[v', .int .i64 (rightL l : Nat)]) ∧ w'.ownsRow w.heap.size 5 1 v' (if rightL l = 0 then putChs l else []).length (encB (if rightL l = 0 then putChs l else [])) ∧ Ext w w' := by
  have HD := Lib.hid (r17right_c w v l h h9 hk9)
  obtain ⟨A, c, rfl, _, hn, hc, hs⟩ := h
  obtain ⟨R, hR⟩ : ∃ R, R = rightL l := ⟨_, rfl⟩
  have hgood : Hid (R = 0 → ∀ c ∈ l, badCh c = false) := Lib.hid (fun h0 c hc => ((rightL_zero (by rw [← hR]; exact h0)).1 c hc).1)
  rw [← hR] at HD ⊢
  obtain ⟨X, hX⟩ : ∃ X, X = (if R = 0 then putChs l else []) := ⟨_, rfl⟩
  rw [← hX]
  obtain ⟨n, hn2⟩ : ∃ n, n = l.length := ⟨_, rfl⟩
  rw [← hn2] at h9 hn HD ⊢
  have Hn := Lib.hid (And.intro hn2 (And.intro hb9 hs))
  clear hn2 hR hs hb9 hk9
  go_enter Tryz.func15, Tryz.ntmps15
  repeat' (first | go_at_call 40 | go_skip | go_guarded | go_step)
  refine HD.out.mono ?_
  rintro x w1 ⟨rfl, f1⟩
  have H1 := Lib.hid f1
  clear f1 HD
  by_cases hR0 : R = 0
  · have d3 : ((R : Int) != 0) = false := by rw [bne_eq_false_iff_eq]; omega
    have d4 : ((R : Int) == 0) = true := by rw [beq_iff_eq]; omega
    rw [if_pos hR0] at hX
    have HX0 := Lib.hid hX
    have HR0 := Lib.hid hR0
    clear hR0 hX
    have hw : IntKind.u64.wrap (n : Int) = (n : Int) := by rw [IntKind.wrap_u64]; omega
    go_simp
    repeat' (first | go_at_call 22 | go_skip | go_guarded | go_step)
    refine (rnum19_c 9 w1 n (by omega) (by omega)).mono ?_
    rintro x w2 ⟨v2, rfl, r2, f2⟩
    have H2 : Hid (WrSt w w2 v2 (putK l 0)) := Lib.hid ⟨by rw [putK_zero, ← Hn.out.1]; exact own_base r2 H1.out.size, Ext.trans H1.out f2⟩
    clear r2 f2
    go_simp
    repeat' (go_not_at_region 6; (first | go_skip | go_guarded | go_step))
    go_loopg [5, 19] n (fun gk v5 v19 wr => ∃ j : Nat, v19 = .int .i64 j ∧ j ≤ n ∧ n - j ≤ gk ∧ Hid (WrSt w wr v5 (putK l j)))
    case atStart => exact ⟨0, rfl, Nat.zero_le _, Nat.le_refl _, H2⟩
    case round =>
      obtain ⟨j, rfl, hjn, hgk, HJ⟩ := hrel
      rcases Nat.lt_or_ge j n with hjl | hjg
      · have d2 : decide (j < n) = true := by simp [hjl]
        obtain ⟨x, hx⟩ := get_of_lt l (show j < l.length by have := Hn.out.1; omega)
        obtain ⟨b, o, rfl, q0, q1, q2, q3, q4⟩ := seg_ch (Seg.below Hn.out.2.2 HJ.out.2) hx
        have hi1 : (j : Int) < (n : Int) := by omega
        obtain ⟨xk, xo, xn, xa, xb⟩ := x
        have hbl : (putK l j).length + (putCh (xk, xo, xn, xa, xb)).length ≤ 80000000 := by
          rw [← List.length_append, ← putK_snoc hx]
          exact Nat.le_trans (putK_le l (j + 1)) Hn.out.2.1
        have HX : Hid (putK l (j + 1) = putK l j ++ putCh (xk, xo, xn, xa, xb) ∧ badCh (xk, xo, xn, xa, xb) = false) := Lib.hid ⟨putK_snoc hx, hgood.out HR0.out _ (List.mem_of_getElem? hx)⟩
        have hk1 := putText_ge xk
        have hk2 := putText_ge xo
        have hk3 := putText_ge xn
        have hpl := putCh_len xk xo xn xa xb
        clear hx
        obtain ⟨L, hL⟩ : ∃ L, L = putK l j := ⟨_, rfl⟩
        rw [← hL] at HJ HX hbl
        clear hL
        simp only at q0 q1 q2 q3 q4
        repeat' (go_not_at_region 8; (first | go_skip | go_guarded | go_step))
        obtain ⟨g, hg⟩ : ∃ g, g = wr.heap.size := ⟨_, rfl⟩
        rw [← hg]
        refine wp_nameJ (fun w' => RwSt w w' u5 L g (xk, xo, xn, xa, xb)) ?_ ?_
        · have hE : Ext wr (wr.alloc (.cells #[str xk, str xo, str xn, .bool xa, .bool xb] RcT)) := (Ext.refl _).alloc (Nat.le_refl _) _
          exact ⟨row_ext HJ.out.1 hE, Ext.trans HJ.out.2 hE, by rw [hg]; exact heap_newG wr _, fun b hb => by have := (World.ownsRow.lt HJ.out.1 b hb).2; omega⟩
        clear hg q0 q1 q2 q3 q4
        intro w3 H3
        obtain ⟨e0, e1, e2, e3, e4⟩ := box5C H3.out.box
        simp only at e0 e1 e2 e3 e4
        repeat' (first | go_at_call 23 | go_skip | go_guarded | go_step)
        refine (rtext19_c w3 xk (by omega)).mono ?_
        rintro x w4 ⟨v4, rfl, r4, f4⟩
        obtain ⟨A4, C4, rfl⟩ := own_slice r4
        have H4 : Hid (RwSt w w4 u5 L g (xk, xo, xn, xa, xb) ∧ Seg w4 A4 (encB (putText xk))) := Lib.hid ⟨H3.out.ext' f4, by obtain ⟨A, c, e, _, _, _, hs⟩ := BS.of_own r4; cases e; exact hs⟩
        clear r4 f4 e0 e1 e2 e3 e4 H3
        obtain ⟨e0, e1, e2, e3, e4⟩ := box5C H4.out.1.box
        simp only at e0 e1 e2 e3 e4
        go_simp
        repeat' (go_not_at_region 10; (first | go_skip | go_guarded | (at_builtin; refine wpList_app rfl (.tmp 23) (.tmp 26) _ rfl w.heap.size 5 1 1 Tryz.underlying22 infoU8 (by decide) u5 L.length (encB L) rfl (by exact H4.out.1.row) _ _ _ (encB (putText xk)) rfl (by rw [encB_length, Nat.mul_one]) (by exact H4.out.2) (encB_one _) (by unfold maxLen; omega) (by omega) H4.out.1.ext.size ?_; intro v5 w5 r5 g5 n5) | go_step))
        have H5 : Hid (RwSt w w5 v5 (L ++ putText xk) g (xk, xo, xn, xa, xb) ∧ (L ++ putText xk).length = L.length + (putText xk).length) := Lib.hid ⟨H4.out.1.app rfl r5 g5 n5, List.length_append⟩
        clear r5 g5 n5 e0 e1 e2 e3 e4 H4
        obtain ⟨e0, e1, e2, e3, e4⟩ := box5C H5.out.1.box
        simp only at e0 e1 e2 e3 e4
        cases xa with
        | true =>
          cases xb with
          | true =>
            simp only [if_true] at hpl
            repeat' (go_not_at_region 11; (first | go_skip | go_guarded | go_step))
            refine rch_11 w w5 v5 (L ++ putText xk) g (xk, xo, xn, true, true) xo xn (L.length + (putText xk).length) (Lib.hid ⟨H5.out.1, H5.out.2.symm⟩) ⟨rfl, rfl⟩ (by omega) _ _ _ _ _ _ _ _ _ _ _ _ _ _ _ _ _ _ _ _ _ _ _ _ _ _ _ _ _ _ _ _ _ _ _ _ _ _ _ _ _ _ _ _ _ _ _ _ _ _ _ _ _ _ _ _ _ _ _ _ _ _ _ _ _ (by kernel_rfl) ?_
            intro u5 u42 u43 u44 u45 u46 u47 u48 u49 u50 u51 u52 w6 H6
            have HF : Hid (WrSt w w6 u5 (putK l (j + 1))) := Lib.hid (by
              have e : L ++ putCh (xk, xo, xn, true, true) = L ++ putText xk ++ [UInt8.ofNat 3] ++ putText xo ++ putText xn := by simp [putCh, tellsN]
              rw [HX.out.1, e]; exact ⟨H6.row, H6.ext⟩)
            clear e0 e1 e2 e3 e4
            repeat' (first | go_skip | go_guarded | go_step)
            go_roundg (n - (j + 1))
            case measure => omega
            case rel => exact ⟨j + 1, by go_num, by omega, Nat.le_refl _, HF⟩
          | false =>
            simp only [if_true, if_false, Bool.false_eq_true] at hpl
            repeat' (go_not_at_region 13; (first | go_skip | go_guarded | go_step))
            refine rch_13 w w5 v5 (L ++ putText xk) g (xk, xo, xn, true, false) xo (L.length + (putText xk).length) (Lib.hid ⟨H5.out.1, H5.out.2.symm⟩) rfl (by omega) _ _ _ _ _ _ _ _ _ _ _ _ _ _ _ _ _ _ _ _ _ _ _ _ _ _ _ _ _ _ _ _ _ _ _ _ _ _ _ _ _ _ _ _ _ _ _ _ _ _ _ _ _ _ _ _ _ _ _ _ _ _ _ _ _ (by kernel_rfl) ?_
            intro u5 u56 u57 u58 u59 u60 u61 u62 w6 H6
            have HF : Hid (WrSt w w6 u5 (putK l (j + 1))) := Lib.hid (by
              have e : L ++ putCh (xk, xo, xn, true, false) = L ++ putText xk ++ [UInt8.ofNat 1] ++ putText xo := by simp [putCh, tellsN]
              rw [HX.out.1, e]; exact ⟨H6.row, H6.ext⟩)
            clear e0 e1 e2 e3 e4
            repeat' (first | go_skip | go_guarded | go_step)
            go_roundg (n - (j + 1))
            case measure => omega
            case rel => exact ⟨j + 1, by go_num, by omega, Nat.le_refl _, HF⟩
        | false =>
          cases xb with
          | true =>
            simp only [if_true, if_false, Bool.false_eq_true] at hpl
            repeat' (go_not_at_region 9; (first | go_skip | go_guarded | go_step))
            refine rch_9 w w5 v5 (L ++ putText xk) g (xk, xo, xn, false, true) xn (L.length + (putText xk).length) (Lib.hid ⟨H5.out.1, H5.out.2.symm⟩) rfl (by omega) _ _ _ _ _ _ _ _ _ _ _ _ _ _ _ _ _ _ _ _ _ _ _ _ _ _ _ _ _ _ _ _ _ _ _ _ _ _ _ _ _ _ _ _ _ _ _ _ _ _ _ _ _ _ _ _ _ _ _ _ _ _ _ _ _ (by kernel_rfl) ?_
            intro u5 u28 u29 u30 u31 u32 u33 u34 w6 H6
            have HF : Hid (WrSt w w6 u5 (putK l (j + 1))) := Lib.hid (by
              have e : L ++ putCh (xk, xo, xn, false, true) = L ++ putText xk ++ [UInt8.ofNat 2] ++ putText xn := by simp [putCh, tellsN]
              rw [HX.out.1, e]; exact ⟨H6.row, H6.ext⟩)
            clear e0 e1 e2 e3 e4
            repeat' (first | go_skip | go_guarded | go_step)
            go_roundg (n - (j + 1))
            case measure => omega
            case rel => exact ⟨j + 1, by go_num, by omega, Nat.le_refl _, HF⟩
          | false =>
            have := HX.out.2
            simp [badCh] at this
      · obtain rfl : n = j := by omega
        have d2 : decide (n < n) = false := by simp
        repeat' (first | go_skip | go_guarded | go_step)
        go_ret2
        have := HJ.out
        rw [putK_all l (by have := Hn.out.1; omega)] at this
        rw [HX0.out]
        exact ⟨_, by rw [HR0.out]; rfl, this.1, this.2⟩
  · have d3 : ((R : Int) != 0) = true := by rw [bne_iff_ne]; omega
    have d4 : ((R : Int) == 0) = false := by rw [beq_eq_false_iff_ne]; omega
    rw [if_neg hR0] at hX
    have HX0 := Lib.hid hX
    replace hR0 := Lib.hid hR0
    clear hX
    go_simp
    repeat' (first | go_skip | go_guarded | go_step)
    go_ret2
    rw [HX0.out]
    exact ⟨_, rfl, World.ownsRow_nil _ _ _ _, H1.out⟩
end Go.Proofs.YtigoffdehdobiaaGreat
