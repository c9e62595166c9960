/- Contract: code.Changes. -/
import Derived.Test.YtigoffdehdobiaaGreatCxd
import Derived.Test.YtigoffdehdobiaaGreatM25
set_option linter.unusedVariables false
set_option linter.unusedSimpArgs false
namespace Go.Proofs.YtigoffdehdobiaaGreat
open Go.RowKit Go.QS Go.QS.Nk
set_option linter.unusedVariables false

theorem wp_nameJ {P : Program} {c : Code} {Q : Exit → Act → World → Prop} {a : Act} {W : World} (R : World → Prop) (hR : R W) (h : ∀ w', Hid (R w') → c.wp P Q a w') : c.wp P Q a W := h W (Lib.hid hR)
/-- The bytes so far. -/
def putK (l : List Ch) (j : Nat) : List UInt8 := putNum l.length ++ (l.take j).flatMap putCh
theorem putK_zero (l : List Ch) : putK l 0 = putNum l.length := by simp [putK]
theorem putK_snoc {l : List Ch} {j : Nat} {c : Ch} (h : l[j]? = some c) : putK l (j + 1) = putK l j ++ putCh c := by
  unfold putK
  rw [take_snoc h, List.flatMap_append, List.flatMap_cons, List.flatMap_nil, List.append_nil, List.append_assoc]
theorem putK_all (l : List Ch) {j : Nat} (h : l.length ≤ j) : putK l j = putChs l := by unfold putK putChs; rw [List.take_of_length_le h]
theorem flatMap_take_le (l : List Ch) : ∀ j, ((l.take j).flatMap putCh).length ≤ (l.flatMap putCh).length := fun j => by
  conv => rhs; rw [← List.take_append_drop j l]
  rw [List.flatMap_append, List.length_append]; omega
theorem putK_le (l : List Ch) (j : Nat) : (putK l j).length ≤ (putChs l).length := by
  unfold putK putChs
  rw [List.length_append, List.length_append]
  have := flatMap_take_le l j; omega
theorem putCh_len (k o n : List UInt8) (a b : Bool) : (putCh (k, o, n, a, b)).length = (putText k).length + 1 + (if a then (putText o).length else 0) + (if b then (putText n).length else 0) := by
  cases a <;> cases b <;> simp [putCh] <;> omega
theorem putText_ge (s : List UInt8) : s.length ≤ (putText s).length := by rw [putText, List.length_append]; omega

/-- A row of bytes that are being written. -/
def WrSt (w0 w : World) (v : Value) (L : List UInt8) : Prop := w.ownsRow w0.heap.size 5 1 v L.length (encB L) ∧ Ext w0 w
theorem WrSt.text {w0 w w' : World} {v v' : Value} {L M : List UInt8} (h : WrSt w0 w v L) (r : w'.ownsRow w.heap.size 5 1 v' M.length (encB M)) (f : Ext w w') : WrSt w0 w' v' M := ⟨own_base r h.2.size, Ext.trans h.2 f⟩
theorem WrSt.ext {w0 w w' : World} {v : Value} {L : List UInt8} (h : WrSt w0 w v L) (f : Ext w w') : WrSt w0 w' v L := ⟨row_ext h.1 f, Ext.trans h.2 f⟩
/-- One byte more, in place. -/
theorem WrSt.byte {w0 w3 w4 w5 : World} {v4 v5 : Value} {L : List UInt8} {o ob : Obj} {g : Nat} (t : Nat) (ht : t < 256) (h0 : Ext w0 w3) (f4 : Ext w3 w4) (r4 : w4.ownsRow w3.heap.size 5 1 v4 L.length (encB L))
    (r5 : w5.ownsRow w3.heap.size 5 1 v5 (L.length + 1) (encB L ++ [.int .u8 (t : Int)])) (g5 : (w4.alloc o).grownBy w5 v4.ownBlock) (hg : g < w3.heap.size) (hb : w4.heap[g]? = some ob) :
    WrSt w0 w5 v5 (L ++ [UInt8.ofNat t]) ∧ w5.heap[g]? = some ob := by
  have hEa : Ext w4 (w4.alloc o) := (Ext.refl _).alloc (Nat.le_refl _) _
  have hlt : ∀ b, v4.ownBlock = some b → w3.heap.size ≤ b := fun b hb => (World.ownsRow.lt r4 b hb).1
  have hE : Ext w0 (w4.alloc o) := Ext.trans (Ext.trans h0 f4) hEa
  refine ⟨⟨?_, hE.grown g5 hE.size (fun b hb => by have := hlt b hb; have := h0.size; omega)⟩, ?_⟩
  · have e1 : (L ++ [UInt8.ofNat t]).length = L.length + 1 := by simp
    have e2 : encB (L ++ [UInt8.ofNat t]) = encB L ++ [.int .u8 (t : Int)] := by
      rw [encB_append]
      have : encB [UInt8.ofNat t] = [.int .u8 (t : Int)] := by
        show [Value.int .u8 ((UInt8.ofNat t).toNat : Int)] = _
        rw [ofNat_toNat ht]
      rw [this]
    rw [e1, e2]
    exact own_base r5 h0.size
  · have h1 := box_extG hb hEa
    exact (g5.block g (heap_lt h1) (fun e => by have := hlt g e.symm; omega)).trans h1
theorem tells_toNat (a b : Bool) : (UInt8.ofNat (tellsN a b)).toNat = tellsN a b := by cases a <;> cases b <;> rfl

set_option maxRecDepth 100000 in
set_option maxHeartbeats 4000000 in
theorem wchanges_c (w : World) (v : Value) (l : List Ch) (h : Sl w 5 v l.length (flatE encCh l)) (h9 : l.length ≤ 1000000000) (hb9 : (putChs l).length ≤ 800000000) :
    Calls Tryz.prog 12 #[v] w fun e w' => ∃ v', e = .returned (.tuple #[v', .int .i64 (rightL l : Nat)]) ∧ w'.ownsRow w.heap.size 5 1 v' (if rightL l = 0 then putChs l else []).length (encB (if rightL l = 0 then putChs l else [])) ∧ Ext w w' := by
  have HD := Lib.hid (dright_c w v l h h9)
  obtain ⟨A, c, rfl, _, hn, hc, hs⟩ := h
  obtain ⟨R, hR⟩ : ∃ R, R = rightL l := ⟨_, rfl⟩
  rw [← hR] at HD ⊢
  obtain ⟨X, hX⟩ : ∃ X, X = (if R = 0 then putChs l else []) := ⟨_, rfl⟩
  rw [← hX]
  obtain ⟨n, hn2⟩ : ∃ n, n = l.length := ⟨_, rfl⟩
  rw [← hn2] at h9 hn HD ⊢
  have Hn := Lib.hid (And.intro hn2 (And.intro hb9 hs))
  clear hn2 hR hs hb9
  go_enter Tryz.func12, Tryz.ntmps12
  repeat' (first | go_at_call 34 | go_skip | go_guarded | go_step)
  refine HD.out.mono ?_
  rintro x w1 ⟨rfl, f1⟩
  have H1 := Lib.hid f1
  clear f1 HD
  by_cases hR0 : R = 0
  · have d3 : ((R : Int) != 0) = false := by rw [bne_eq_false_iff_eq]; omega
    have d4 : ((R : Int) == 0) = true := by rw [beq_iff_eq]; omega
    rw [if_pos hR0] at hX
    have HX0 := Lib.hid hX
    have HR0 := Lib.hid hR0
    clear hR0 hX
    have hw : IntKind.u64.wrap (n : Int) = (n : Int) := by rw [IntKind.wrap_u64]; omega
    go_simp
    repeat' (first | go_at_call 18 | go_skip | go_guarded | go_step)
    refine (wnum_c w1 (.slice none 0 0) [] n (Sl.nil _ _) (by omega) (by simp)).mono ?_
    rintro x w2 ⟨v2, rfl, r2, f2⟩
    rw [List.nil_append] at r2
    have H2 : Hid (WrSt w w2 v2 (putK l 0)) := Lib.hid ⟨by rw [putK_zero, ← Hn.out.1]; exact own_base r2 H1.out.size, Ext.trans H1.out f2⟩
    clear r2 f2
    go_simp
    repeat' (go_not_at_region 6; (first | go_skip | go_guarded | go_step))
    go_loopg [5, 20] n (fun gk v5 v20 wr => ∃ j : Nat, v20 = .int .i64 j ∧ j ≤ n ∧ n - j ≤ gk ∧ Hid (WrSt w wr v5 (putK l j)))
    case atStart => exact ⟨0, rfl, Nat.zero_le _, Nat.le_refl _, H2⟩
    case round =>
      obtain ⟨j, rfl, hjn, hgk, HJ⟩ := hrel
      rcases Nat.lt_or_ge j n with hjl | hjg
      · have d2 : decide (j < n) = true := by simp [hjl]
        obtain ⟨x, hx⟩ := get_of_lt l (show j < l.length by have := Hn.out.1; omega)
        obtain ⟨b, o, rfl, q0, q1, q2, q3, q4⟩ := seg_ch (Seg.below Hn.out.2.2 HJ.out.2) hx
        have hi1 : (j : Int) < (n : Int) := by omega
        obtain ⟨xk, xo, xn, xa, xb⟩ := x
        have hbl : (putK l j).length + (putCh (xk, xo, xn, xa, xb)).length ≤ 800000000 := by
          rw [← List.length_append, ← putK_snoc hx]
          exact Nat.le_trans (putK_le l (j + 1)) Hn.out.2.1
        have HX : Hid (putK l (j + 1) = putK l j ++ putCh (xk, xo, xn, xa, xb)) := Lib.hid (putK_snoc hx)
        have hk1 := putText_ge xk
        have hk2 := putText_ge xo
        have hk3 := putText_ge xn
        have hpl := putCh_len xk xo xn xa xb
        clear hx
        obtain ⟨L, hL⟩ : ∃ L, L = putK l j := ⟨_, rfl⟩
        rw [← hL] at HJ HX hbl
        clear hL
        simp only at q0 q1 q2 q3 q4
        repeat' (go_not_at_region 8; (first | go_skip | go_guarded | go_step))
        obtain ⟨g, hg⟩ : ∃ g, g = wr.heap.size := ⟨_, rfl⟩
        rw [← hg]
        refine wp_nameJ (fun w' => WrSt w w' u5 L ∧ w'.heap[g]? = some (.cells #[str xk, str xo, str xn, .bool xa, .bool xb] ChT (0, 0))) ⟨HJ.out.ext ((Ext.refl _).alloc (Nat.le_refl _) _), by rw [hg]; exact heap_newG wr _⟩ ?_
        clear hg q0 q1 q2 q3 q4
        intro w3 H3
        obtain ⟨e0, e1, e2, e3, e4⟩ := box5C H3.out.2
        have b01 : bits BinOp.or IntKind.u8 0 1 = 1 := by kernel_rfl
        have b02 : bits BinOp.or IntKind.u8 0 2 = 2 := by kernel_rfl
        have b12 : bits BinOp.or IntKind.u8 1 2 = 3 := by kernel_rfl
        cases xa with
        | false =>
          cases xb with
          | false =>
            have HT := Lib.hid (wtext_c w3 u5 L xk (BS.of_own H3.out.1.1) (by omega))
            repeat' (first | go_at_call 17 | go_skip | go_guarded | go_step)
            refine HT.out.mono ?_
            rintro x w4 ⟨v4, rfl, r4, f4⟩
            have H4 : Hid (w4.ownsRow w3.heap.size 5 1 v4 (L ++ putText xk).length (encB (L ++ putText xk)) ∧ Ext w3 w4 ∧ w4.heap[g]? = some (.cells #[str xk, str xo, str xn, .bool false, .bool false] ChT (0, 0))) := Lib.hid ⟨r4, f4, box_extG H3.out.2 f4⟩
            clear r4 f4 HT e0 e1 e2 e3 e4
            have hg3 := heap_lt H3.out.2
            obtain ⟨e0, e1, e2, e3, e4⟩ := box5C H4.out.2.2
            go_simp
            repeat' (go_not_at_region 14; (first | go_skip | go_guarded | (at_builtin; refine wpList_app rfl (.tmp 35) (.tmp 37) _ rfl w3.heap.size 5 1 1 Tryz.underlying22 infoU8 (by decide) v4 (L ++ putText xk).length (encB (L ++ putText xk)) rfl (H4.out.1.alloc _) _ 1 1 [.int .u8 0] rfl rfl (Seg.new _ [_] _ (by simp)) (by simp [Value.oneCell']) (by rw [List.length_append]; unfold maxLen; omega) (by rw [List.length_append]; omega) (Nat.le_trans H4.out.2.1.size (by simp)) ?_; intro v5 w5 r5 g5 _) | go_step))
            have H5 : Hid (WrSt w w5 v5 (L ++ putText xk ++ [UInt8.ofNat 0]) ∧ w5.heap[g]? = some (.cells #[str xk, str xo, str xn, .bool false, .bool false] ChT (0, 0))) := Lib.hid (WrSt.byte 0 (by decide) H3.out.1.2 H4.out.2.1 H4.out.1 r5 g5 hg3 H4.out.2.2)
            clear r5 g5 e0 e1 e2 e3 e4 hg3 H4
            obtain ⟨e0, e1, e2, e3, e4⟩ := box5C H5.out.2
            have HF : Hid (WrSt w w5 v5 (putK l (j + 1))) := Lib.hid (by
              have e : L ++ putCh (xk, xo, xn, false, false) = L ++ putText xk ++ [UInt8.ofNat 0] := by simp [putCh, tellsN]
              rw [HX.out, e]; exact H5.out.1)
            repeat' (first | go_skip | go_guarded | go_step)
            go_roundg (n - (j + 1))
            case measure => omega
            case rel => exact ⟨j + 1, by go_num, by omega, Nat.le_refl _, HF⟩
          | true =>
            have HT := Lib.hid (wtext_c w3 u5 L xk (BS.of_own H3.out.1.1) (by omega))
            repeat' (first | go_at_call 17 | go_skip | go_guarded | go_step)
            refine HT.out.mono ?_
            rintro x w4 ⟨v4, rfl, r4, f4⟩
            have H4 : Hid (w4.ownsRow w3.heap.size 5 1 v4 (L ++ putText xk).length (encB (L ++ putText xk)) ∧ Ext w3 w4 ∧ w4.heap[g]? = some (.cells #[str xk, str xo, str xn, .bool false, .bool true] ChT (0, 0))) := Lib.hid ⟨r4, f4, box_extG H3.out.2 f4⟩
            clear r4 f4 HT e0 e1 e2 e3 e4
            have hg3 := heap_lt H3.out.2
            obtain ⟨e0, e1, e2, e3, e4⟩ := box5C H4.out.2.2
            go_simp
            repeat' (go_not_at_region 14; (first | go_skip | go_guarded | (at_builtin; refine wpList_app rfl (.tmp 35) (.tmp 37) _ rfl w3.heap.size 5 1 1 Tryz.underlying22 infoU8 (by decide) v4 (L ++ putText xk).length (encB (L ++ putText xk)) rfl (H4.out.1.alloc _) _ 1 1 [.int .u8 2] rfl rfl (Seg.new _ [_] _ (by simp)) (by simp [Value.oneCell']) (by rw [List.length_append]; unfold maxLen; omega) (by rw [List.length_append]; omega) (Nat.le_trans H4.out.2.1.size (by simp)) ?_; intro v5 w5 r5 g5 _) | go_step))
            have H5 : Hid (WrSt w w5 v5 (L ++ putText xk ++ [UInt8.ofNat 2]) ∧ w5.heap[g]? = some (.cells #[str xk, str xo, str xn, .bool false, .bool true] ChT (0, 0))) := Lib.hid (WrSt.byte 2 (by decide) H3.out.1.2 H4.out.2.1 H4.out.1 r5 g5 hg3 H4.out.2.2)
            clear r5 g5 e0 e1 e2 e3 e4 hg3 H4
            obtain ⟨e0, e1, e2, e3, e4⟩ := box5C H5.out.2
            have HT := Lib.hid (wtext_c w5 v5 (L ++ putText xk ++ [UInt8.ofNat 2]) xn (BS.of_own H5.out.1.1) (by simp only [List.length_append, List.length_cons, List.length_nil] at hpl hbl ⊢; simp only [if_true, if_false, Bool.false_eq_true] at hpl; omega))
            repeat' (first | go_at_call 17 | go_skip | go_guarded | go_step)
            refine HT.out.mono ?_
            rintro x w6 ⟨v6, rfl, r6, f6⟩
            have H6 : Hid (WrSt w w6 v6 (L ++ putText xk ++ [UInt8.ofNat 2] ++ putText xn) ∧ w6.heap[g]? = some (.cells #[str xk, str xo, str xn, .bool false, .bool true] ChT (0, 0))) := Lib.hid ⟨H5.out.1.text r6 f6, box_extG H5.out.2 f6⟩
            clear r6 f6 HT e0 e1 e2 e3 e4
            obtain ⟨e0, e1, e2, e3, e4⟩ := box5C H6.out.2
            go_simp
            have HF : Hid (WrSt w w6 v6 (putK l (j + 1))) := Lib.hid (by
              have e : L ++ putCh (xk, xo, xn, false, true) = L ++ putText xk ++ [UInt8.ofNat 2] ++ putText xn := by simp [putCh, tellsN]
              rw [HX.out, e]; exact H6.out.1)
            repeat' (first | go_skip | go_guarded | go_step)
            go_roundg (n - (j + 1))
            case measure => omega
            case rel => exact ⟨j + 1, by go_num, by omega, Nat.le_refl _, HF⟩
        | true =>
          cases xb with
          | false =>
            have HT := Lib.hid (wtext_c w3 u5 L xk (BS.of_own H3.out.1.1) (by omega))
            repeat' (first | go_at_call 17 | go_skip | go_guarded | go_step)
            refine HT.out.mono ?_
            rintro x w4 ⟨v4, rfl, r4, f4⟩
            have H4 : Hid (w4.ownsRow w3.heap.size 5 1 v4 (L ++ putText xk).length (encB (L ++ putText xk)) ∧ Ext w3 w4 ∧ w4.heap[g]? = some (.cells #[str xk, str xo, str xn, .bool true, .bool false] ChT (0, 0))) := Lib.hid ⟨r4, f4, box_extG H3.out.2 f4⟩
            clear r4 f4 HT e0 e1 e2 e3 e4
            have hg3 := heap_lt H3.out.2
            obtain ⟨e0, e1, e2, e3, e4⟩ := box5C H4.out.2.2
            go_simp
            repeat' (go_not_at_region 14; (first | go_skip | go_guarded | (at_builtin; refine wpList_app rfl (.tmp 35) (.tmp 37) _ rfl w3.heap.size 5 1 1 Tryz.underlying22 infoU8 (by decide) v4 (L ++ putText xk).length (encB (L ++ putText xk)) rfl (H4.out.1.alloc _) _ 1 1 [.int .u8 1] rfl rfl (Seg.new _ [_] _ (by simp)) (by simp [Value.oneCell']) (by rw [List.length_append]; unfold maxLen; omega) (by rw [List.length_append]; omega) (Nat.le_trans H4.out.2.1.size (by simp)) ?_; intro v5 w5 r5 g5 _) | go_step))
            have H5 : Hid (WrSt w w5 v5 (L ++ putText xk ++ [UInt8.ofNat 1]) ∧ w5.heap[g]? = some (.cells #[str xk, str xo, str xn, .bool true, .bool false] ChT (0, 0))) := Lib.hid (WrSt.byte 1 (by decide) H3.out.1.2 H4.out.2.1 H4.out.1 r5 g5 hg3 H4.out.2.2)
            clear r5 g5 e0 e1 e2 e3 e4 hg3 H4
            obtain ⟨e0, e1, e2, e3, e4⟩ := box5C H5.out.2
            have HT := Lib.hid (wtext_c w5 v5 (L ++ putText xk ++ [UInt8.ofNat 1]) xo (BS.of_own H5.out.1.1) (by simp only [List.length_append, List.length_cons, List.length_nil] at hpl hbl ⊢; simp only [if_true, if_false, Bool.false_eq_true] at hpl; omega))
            repeat' (first | go_at_call 17 | go_skip | go_guarded | go_step)
            refine HT.out.mono ?_
            rintro x w6 ⟨v6, rfl, r6, f6⟩
            have H6 : Hid (WrSt w w6 v6 (L ++ putText xk ++ [UInt8.ofNat 1] ++ putText xo) ∧ w6.heap[g]? = some (.cells #[str xk, str xo, str xn, .bool true, .bool false] ChT (0, 0))) := Lib.hid ⟨H5.out.1.text r6 f6, box_extG H5.out.2 f6⟩
            clear r6 f6 HT e0 e1 e2 e3 e4
            obtain ⟨e0, e1, e2, e3, e4⟩ := box5C H6.out.2
            go_simp
            have HF : Hid (WrSt w w6 v6 (putK l (j + 1))) := Lib.hid (by
              have e : L ++ putCh (xk, xo, xn, true, false) = L ++ putText xk ++ [UInt8.ofNat 1] ++ putText xo := by simp [putCh, tellsN]
              rw [HX.out, e]; exact H6.out.1)
            repeat' (first | go_skip | go_guarded | go_step)
            go_roundg (n - (j + 1))
            case measure => omega
            case rel => exact ⟨j + 1, by go_num, by omega, Nat.le_refl _, HF⟩
          | true =>
            have HT := Lib.hid (wtext_c w3 u5 L xk (BS.of_own H3.out.1.1) (by omega))
            repeat' (first | go_at_call 17 | go_skip | go_guarded | go_step)
            refine HT.out.mono ?_
            rintro x w4 ⟨v4, rfl, r4, f4⟩
            have H4 : Hid (w4.ownsRow w3.heap.size 5 1 v4 (L ++ putText xk).length (encB (L ++ putText xk)) ∧ Ext w3 w4 ∧ w4.heap[g]? = some (.cells #[str xk, str xo, str xn, .bool true, .bool true] ChT (0, 0))) := Lib.hid ⟨r4, f4, box_extG H3.out.2 f4⟩
            clear r4 f4 HT e0 e1 e2 e3 e4
            have hg3 := heap_lt H3.out.2
            obtain ⟨e0, e1, e2, e3, e4⟩ := box5C H4.out.2.2
            go_simp
            repeat' (go_not_at_region 14; (first | go_skip | go_guarded | (at_builtin; refine wpList_app rfl (.tmp 35) (.tmp 37) _ rfl w3.heap.size 5 1 1 Tryz.underlying22 infoU8 (by decide) v4 (L ++ putText xk).length (encB (L ++ putText xk)) rfl (H4.out.1.alloc _) _ 1 1 [.int .u8 3] rfl rfl (Seg.new _ [_] _ (by simp)) (by simp [Value.oneCell']) (by rw [List.length_append]; unfold maxLen; omega) (by rw [List.length_append]; omega) (Nat.le_trans H4.out.2.1.size (by simp)) ?_; intro v5 w5 r5 g5 _) | go_step))
            have H5 : Hid (WrSt w w5 v5 (L ++ putText xk ++ [UInt8.ofNat 3]) ∧ w5.heap[g]? = some (.cells #[str xk, str xo, str xn, .bool true, .bool true] ChT (0, 0))) := Lib.hid (WrSt.byte 3 (by decide) H3.out.1.2 H4.out.2.1 H4.out.1 r5 g5 hg3 H4.out.2.2)
            clear r5 g5 e0 e1 e2 e3 e4 hg3 H4
            obtain ⟨e0, e1, e2, e3, e4⟩ := box5C H5.out.2
            have HT := Lib.hid (wtext_c w5 v5 (L ++ putText xk ++ [UInt8.ofNat 3]) xo (BS.of_own H5.out.1.1) (by simp only [List.length_append, List.length_cons, List.length_nil] at hpl hbl ⊢; simp only [if_true, if_false, Bool.false_eq_true] at hpl; omega))
            repeat' (first | go_at_call 17 | go_skip | go_guarded | go_step)
            refine HT.out.mono ?_
            rintro x w6 ⟨v6, rfl, r6, f6⟩
            have H6 : Hid (WrSt w w6 v6 (L ++ putText xk ++ [UInt8.ofNat 3] ++ putText xo) ∧ w6.heap[g]? = some (.cells #[str xk, str xo, str xn, .bool true, .bool true] ChT (0, 0))) := Lib.hid ⟨H5.out.1.text r6 f6, box_extG H5.out.2 f6⟩
            clear r6 f6 HT e0 e1 e2 e3 e4
            obtain ⟨e0, e1, e2, e3, e4⟩ := box5C H6.out.2
            go_simp
            have HT := Lib.hid (wtext_c w6 v6 (L ++ putText xk ++ [UInt8.ofNat 3] ++ putText xo) xn (BS.of_own H6.out.1.1) (by simp only [List.length_append, List.length_cons, List.length_nil] at hpl hbl ⊢; simp only [if_true, if_false, Bool.false_eq_true] at hpl; omega))
            repeat' (first | go_at_call 17 | go_skip | go_guarded | go_step)
            refine HT.out.mono ?_
            rintro x w7 ⟨v7, rfl, r7, f7⟩
            have H7 : Hid (WrSt w w7 v7 (L ++ putText xk ++ [UInt8.ofNat 3] ++ putText xo ++ putText xn) ∧ w7.heap[g]? = some (.cells #[str xk, str xo, str xn, .bool true, .bool true] ChT (0, 0))) := Lib.hid ⟨H6.out.1.text r7 f7, box_extG H6.out.2 f7⟩
            clear r7 f7 HT e0 e1 e2 e3 e4
            obtain ⟨e0, e1, e2, e3, e4⟩ := box5C H7.out.2
            go_simp
            have HF : Hid (WrSt w w7 v7 (putK l (j + 1))) := Lib.hid (by
              have e : L ++ putCh (xk, xo, xn, true, true) = L ++ putText xk ++ [UInt8.ofNat 3] ++ putText xo ++ putText xn := by simp [putCh, tellsN]
              rw [HX.out, e]; exact H7.out.1)
            repeat' (first | go_skip | go_guarded | go_step)
            go_roundg (n - (j + 1))
            case measure => omega
            case rel => exact ⟨j + 1, by go_num, by omega, Nat.le_refl _, HF⟩
      · obtain rfl : n = j := by omega
        have d2 : decide (n < n) = false := by simp
        repeat' (first | go_skip | go_guarded | go_step)
        go_ret2
        have := HJ.out
        rw [putK_all l (by have := Hn.out.1; omega)] at this
        rw [HX0.out]
        exact ⟨_, by rw [HR0.out]; rfl, this.1, this.2⟩
  · have d3 : ((R : Int) != 0) = true := by rw [bne_iff_ne]; omega
    have d4 : ((R : Int) == 0) = false := by rw [beq_eq_false_iff_ne]; omega
    rw [if_neg hR0] at hX
    have HX0 := Lib.hid hX
    replace hR0 := Lib.hid hR0
    clear hX
    go_simp
    repeat' (first | go_skip | go_guarded | go_step)
    go_ret2
    rw [HX0.out]
    exact ⟨_, rfl, World.ownsRow_nil _ _ _ _, H1.out⟩
end Go.Proofs.YtigoffdehdobiaaGreat
