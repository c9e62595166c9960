/- Texts joined. -/
import Derived.Test.YtclcgelbcbnekaaDoorM27
import Derived.Deep.DeepCutAuto
import Derived.Test.YtclcgelbcbnekaaDoorM21
import Derived.Test.YtclcgelbcbnekaaDoorM02
import Derived.Laws.Rows
import Derived.Deep.LoopGhost
set_option linter.unusedVariables false
set_option linter.unusedSimpArgs false
/- The document's Of: an inner node, its kids' looks taken for granted. -/
namespace Go.Proofs.YtclcgelbcbnekaaDoor
open Go.RowKit Go.QS Go.QS.Nk
set_option linter.unusedVariables false
variable [Zero (Nat → Prop)]
set_option linter.unusedSectionVars false

abbrev TTY : TypeId := 57
theorem infoRY : ∃ i z, Tryd.prog.info? R3T = some i ∧ i.zero = some z ∧ i.size = 2 ∧ i.bytes = 32 ∧ z.cells.size = 2 := info_of (z := .agg #[.string ⟨#[]⟩, .string ⟨#[]⟩]) (by kernel_rfl) rfl
/-- A chunk of the document's node. -/
def DEnt (C : Nat → List UInt8 → Prop) (A : Array Value) (c : Nat) (s : Slot (List UInt8)) : Prop :=
  match s with
  | .no => ∃ i : Nat, A[2 + c]? = some (.int .i64 (i : Int)) ∧ i ≠ 1 ∧ i ≠ 2
  | .pr p => A[2 + c]? = some (.int .i64 1) ∧ A[34 + c * 2]? = some (str p.1) ∧ A[34 + c * 2 + 1]? = some (str p.2)
  | .kid b => A[2 + c]? = some (.int .i64 2) ∧ ∃ q, A[98 + c]? = some (ptr q) ∧ C q b
theorem bitsOf_snoc {α : Type} (p : Slot α → Bool) : ∀ {sl : List (Slot α)} {c : Nat} {s : Slot α}, sl[c]? = some s → bitsOf p (sl.take (c + 1)) = bitsOf p (sl.take c) + (if p s then 2 ^ c else 0)
  | [], c, s, h => by simp at h
  | x :: sl, 0, s, h => by
    have e : x = s := by simpa using h
    subst e
    simp [bitsOf]
  | x :: sl, c + 1, s, h => by
    have ih := bitsOf_snoc p (sl := sl) (c := c) (s := s) (by simpa using h)
    simp only [List.take_succ_cons, bitsOf, ih]
    by_cases hs : p s = true
    · simp only [hs, if_true, Nat.pow_succ]; omega
    · simp only [hs, if_false, Bool.false_eq_true]; omega
theorem prsOf_snoc {α : Type} {sl : List (Slot α)} {c : Nat} {s : Slot α} (h : sl[c]? = some s) : prsOf (sl.take (c + 1)) = prsOf (sl.take c) ++ prsOf [s] := by rw [take_snoc h, prsOf_append]
theorem kdsOf_snoc {α : Type} {sl : List (Slot α)} {c : Nat} {s : Slot α} (h : sl[c]? = some s) : kdsOf (sl.take (c + 1)) = kdsOf (sl.take c) ++ kdsOf [s] := by rw [take_snoc h, kdsOf_append]

/-- A row stays where one of another type grows. -/
theorem row_apart {w w' : World} {base base' k k' n n' : Nat} {e e' : TypeId} {v v' : Value} {xs xs' : List Value} (h : w.ownsRow base e k v n xs) (h' : w.ownsRow base' e' k' v' n' xs') (he : e ≠ e') (g : w.grownBy w' v'.ownBlock) : w'.ownsRow base e k v n xs := by
  refine ⟨h.1, ?_⟩
  rcases h.2 with h | ⟨b, cap, cur, h1, h2, h3, h4⟩
  · exact .inl h
  · refine .inr ⟨b, cap, cur, h1, h2, (g.block b (heap_lt h3) (fun hb => ?_)).trans h3, h4⟩
    rcases h'.2 with ⟨q, _⟩ | ⟨b', cap', cur', q1, q2, q3, q4⟩
    · rw [q] at hb; cases hb
    · rw [q1] at hb
      cases hb
      rw [h3] at q3
      cases q3
      exact he rfl
/-- Behind c chunks. -/
structure OfSt (W w : World) (v7 v8 : Value) (ps : List Pr) (K : List UInt8) : Prop where
  ext : Ext W w
  prs : w.ownsRow W.heap.size R3T 2 v7 ps.length (flat ps)
  kds : w.ownsRow W.heap.size 5 1 v8 K.length (encB K)

set_option maxRecDepth 100000 in
set_option maxHeartbeats 4000000 in
theorem of7_in (C : Nat → List UInt8 → Prop) (w : World) (q lv : Nat) (A : Array Value) (sl : List (Slot (List UInt8))) (KB : List UInt8) (hq : w.heap[q]? = some (.cells A TTY (0, 0))) (a0 : A[0]? = some (.bool false)) (h32 : sl.length = 32)
    (hE : ∀ c s, sl[c]? = some s → DEnt C A c s) (hlv : lv ≤ 13) (hKB : KB = if lv < 13 then (kdsOf sl).flatten else []) (h9 : (headB (dataOf sl) (nodesOf sl) (prsOf sl)).length + KB.length ≤ 70000000)
    (hC : lv < 13 → ∀ q' b, C q' b → ∀ W, Ext w W → Calls Tryd.prog 10 #[ptr q', .int .i64 ((lv : Int) + 1)] W fun e w' => ∃ v', e = .returned v' ∧ w'.ownsRow W.heap.size 5 1 v' b.length (encB b) ∧ Ext W w') :
    ∀ W, Ext w W → Calls Tryd.prog 10 #[ptr q, .int .i64 (lv : Int)] W fun e w' => ∃ v', e = .returned v' ∧ w'.ownsRow W.heap.size 5 1 v' (headB (dataOf sl) (nodesOf sl) (prsOf sl) ++ KB).length (encB (headB (dataOf sl) (nodesOf sl) (prsOf sl) ++ KB)) ∧ Ext W w' := by
  intro W fW
  have HA := Lib.hid (And.intro hq (And.intro fW (And.intro h32 (And.intro hE (And.intro hC hKB)))))
  have z00 : W.cell? ⟨q, 0, none⟩ = some (.bool false) := (cellG (box_extG hq fW) 0).trans a0
  obtain ⟨RB, hRB⟩ : ∃ RB, RB = headB (dataOf sl) (nodesOf sl) (prsOf sl) ++ KB := ⟨_, rfl⟩
  rw [← hRB]
  have HRB := Lib.hid (And.intro hRB h9)
  clear hq fW h32 hE hC hKB hRB h9
  go_enter Tryd.func10, Tryd.ntmps10
  repeat' (go_not_at_region 8; (first | go_skip | go_guarded | go_step))
  clear z00
  go_loopg [5, 6, 7, 8, 9, 10] 32 (fun gk v5 v6 v7 v8 v9 v10 wr => ∃ (c d n b np : Nat), v10 = .int .i64 c ∧ v5 = .int .u32 (d : Int) ∧ v6 = .int .u32 (n : Int) ∧ v9 = .int .u32 (b : Int) ∧ c ≤ 32 ∧ 32 - c ≤ gk ∧ b < 4294967296 ∧ (c < 32 → b = 2 ^ c) ∧
    Hid (d = dataOf (sl.take c) ∧ n = nodesOf (sl.take c) ∧ OfSt W wr v7 v8 (prsOf (sl.take c)) (if lv < 13 then (kdsOf (sl.take c)).flatten else [])))
  case atStart => exact ⟨0, 0, 0, 1, 0, rfl, rfl, rfl, rfl, Nat.zero_le _, Nat.le_refl _, by decide, fun _ => rfl, Lib.hid ⟨rfl, rfl, ⟨Ext.refl _, World.ownsRow_nil _ _ _ _, by
    have e : (if lv < 13 then (kdsOf (sl.take 0)).flatten else ([] : List UInt8)) = [] := by split <;> rfl
    rw [e]; exact World.ownsRow_nil _ _ _ _⟩⟩⟩
  case round =>
    obtain ⟨c, d, n, b, np, rfl, rfl, rfl, rfl, hc, hgk, hb9, hbc, HI⟩ := hrel
    replace hbc := Lib.hid hbc
    rcases Nat.lt_or_ge c 32 with hlt | hge
    · obtain ⟨sx, hs⟩ := get_of_lt sl (show c < sl.length by rw [HA.out.2.2.1]; exact hlt)
      have hb := hbc.out hlt
      have d1 : decide (c < 32) = true := by simp [hlt]
      have hc1 : (c : Int) < 32 := by omega
      have hc0 : (0 : Int) ≤ (c : Int) := by omega
      have hqr := box_extG (box_extG HA.out.1 HA.out.2.1) HI.out.2.2.ext
      have hent := HA.out.2.2.2.1 c sx hs
      have hD : dataOf (sl.take (c + 1)) = dataOf (sl.take c) + (if sx.isP then 2 ^ c else 0) := bitsOf_snoc Slot.isP hs
      have hN : nodesOf (sl.take (c + 1)) = nodesOf (sl.take c) + (if sx.isK then 2 ^ c else 0) := bitsOf_snoc Slot.isK hs
      have hP := prsOf_snoc hs
      have hK := kdsOf_snoc hs
      have hdl : d < 2 ^ c := by
        have := bitsOf_lt Slot.isP (sl.take c)
        rw [List.length_take, HA.out.2.2.1, Nat.min_eq_left (by omega)] at this
        rw [HI.out.1]; exact this
      have hnl : n < 2 ^ c := by
        have := bitsOf_lt Slot.isK (sl.take c)
        rw [List.length_take, HA.out.2.2.1, Nat.min_eq_left (by omega)] at this
        rw [HI.out.2.1]; exact this
      have h31 : 2 ^ c ≤ 2147483648 := Nat.pow_le_pow_right (by decide) (show c ≤ 31 by omega)
      obtain ⟨b2, hb2⟩ : ∃ b2, b2 = b * 2 % 4294967296 := ⟨_, rfl⟩
      have hw2 : IntKind.u32.wrap ((b : Int) * 2) = (b2 : Int) := by rw [IntKind.wrap_u32]; omega
      have HB2 : Hid (b2 < 4294967296 ∧ (c + 1 < 32 → b2 = 2 ^ (c + 1))) := Lib.hid ⟨by omega, fun h => by
        have h30 : 2 ^ c ≤ 1073741824 := Nat.pow_le_pow_right (by decide) (show c ≤ 30 by omega)
        rw [Nat.pow_succ, hb2, hb]; omega⟩
      cases sx with
      | no =>
        obtain ⟨i, b0, hi1, hi2⟩ := hent
        have z0 := (cellG hqr (2 + c)).trans b0
        have e1 : ((i : Int) == 1) = false := by rw [beq_eq_false_iff_ne]; omega
        have e2 : ((i : Int) == 2) = false := by rw [beq_eq_false_iff_ne]; omega
        have e1' : (i == 1) = false := by rw [beq_eq_false_iff_ne]; exact hi1
        have e2' : (i == 2) = false := by rw [beq_eq_false_iff_ne]; exact hi2
        have HN : Hid (d = dataOf (sl.take (c + 1)) ∧ n = nodesOf (sl.take (c + 1)) ∧ OfSt W wr u7 u8 (prsOf (sl.take (c + 1))) (if lv < 13 then (kdsOf (sl.take (c + 1))).flatten else [])) := Lib.hid ⟨by rw [hD, ← HI.out.1]; simp [Slot.isP], by rw [hN, ← HI.out.2.1]; simp [Slot.isK], by
          rw [hP, hK]
          have e1 : prsOf [(Slot.no : Slot (List UInt8))] = [] := rfl
          have e2 : kdsOf [(Slot.no : Slot (List UInt8))] = [] := rfl
          rw [e1, e2, List.append_nil, List.append_nil]; exact HI.out.2.2⟩
        clear hqr b0 hs hD hN hP hK hdl hnl h31 hb2 hi1 hi2 hb
        repeat' (first | go_skip | go_guarded | go_step)
        go_roundg (32 - (c + 1))
        case measure => omega
        case rel => exact ⟨c + 1, d, n, b2, 0, by go_num, rfl, rfl, rfl, by omega, Nat.le_refl _, HB2.out.1, HB2.out.2, HN⟩
      | pr p =>
        obtain ⟨b0, b1, b2'⟩ := hent
        obtain ⟨pk, pv⟩ := p
        have z0 := (cellG hqr (2 + c)).trans b0
        have z1 := (cellG hqr (34 + c * 2)).trans b1
        have z2 := (cellG hqr (34 + c * 2 + 1)).trans b2'
        simp only at z1 z2
        have hnp : (prsOf (sl.take c)).length ≤ 32 := by have := prsOf_len (sl.take c); rw [List.length_take] at this; omega
        have hw1 : IntKind.u32.wrap ((d : Int) + (b : Int)) = ((d + b : Nat) : Int) := by rw [IntKind.wrap_u32]; omega
        obtain ⟨d2, hd2⟩ : ∃ d2, d2 = d + b := ⟨_, rfl⟩
        rw [← hd2] at hw1
        have HN : Hid (d2 = dataOf (sl.take (c + 1)) ∧ n = nodesOf (sl.take (c + 1)) ∧ prsOf (sl.take (c + 1)) = prsOf (sl.take c) ++ [(pk, pv)] ∧ kdsOf (sl.take (c + 1)) = kdsOf (sl.take c)) := Lib.hid ⟨by rw [hD, ← HI.out.1, hd2, hb]; simp [Slot.isP], by rw [hN, ← HI.out.2.1]; simp [Slot.isK], by rw [hP]; rfl, by rw [hK]; exact List.append_nil _⟩
        obtain ⟨np, hnpe⟩ : ∃ np, np = (prsOf (sl.take c)).length := ⟨_, rfl⟩
        rw [← hnpe] at hnp
        have HNP := Lib.hid hnpe
        have HZ := Lib.hid b0
        clear hqr b0 b1 b2' hs hD hN hP hK hdl hnl h31 hb2 hb hd2 hnpe
        repeat' (go_not_at_region 13; (first | go_skip | go_guarded | (at_builtin; refine wpList_app rfl (.tmp 44) (.tmp 51) _ rfl W.heap.size R3T 2 32 Tryd.underlying46 infoRY (by decide) u7 np (flat (prsOf (sl.take c))) rfl (by rw [HNP.out]; exact HI.out.2.2.prs.alloc _) _ 1 1 [str pk, str pv] rfl rfl (Seg.new _ [_, _] _ (by simp)) (by intro u hu; simp at hu; rcases hu with rfl | rfl <;> rfl) (by unfold maxLen; omega) (by omega) (Nat.le_trans HI.out.2.2.ext.size (by simp)) ?_; intro v9 w9 r9 g9 _) | go_step))
        have hEa := HI.out.2.2.ext.alloc HI.out.2.2.ext.size (.cells #[str pk, str pv] R3T)
        have f9 := hEa.grown g9 hEa.size (fun b hb => (World.ownsRow.lt HI.out.2.2.prs b hb).1)
        have k9 := row_apart (HI.out.2.2.kds.alloc _) (HI.out.2.2.prs.alloc _) (by decide) g9
        have hq9 := box_extG (box_extG HA.out.1 HA.out.2.1) f9
        clear z0 z1 z2
        have z0 := (cellG hq9 (2 + c)).trans HZ.out
        have H9 : Hid (OfSt W w9 v9 u8 (prsOf (sl.take (c + 1))) (if lv < 13 then (kdsOf (sl.take (c + 1))).flatten else [])) := Lib.hid ⟨f9, by rw [HN.out.2.2.1, List.length_append, flat_append, ← HNP.out]; exact r9, by rw [HN.out.2.2.2]; exact k9⟩
        clear hq9 r9 f9 k9 g9 hEa
        repeat' (first | go_skip | go_guarded | go_step)
        go_roundg (32 - (c + 1))
        case measure => omega
        case rel => exact ⟨c + 1, d2, n, b2, 0, by go_num, rfl, rfl, rfl, by omega, Nat.le_refl _, HB2.out.1, HB2.out.2, Lib.hid ⟨HN.out.1, HN.out.2.1, H9.out⟩⟩
      | kid bb =>
        obtain ⟨b0, q', b1, hCq⟩ := hent
        have z0 := (cellG hqr (2 + c)).trans b0
        have z1 := (cellG hqr (98 + c)).trans b1
        have hw1 : IntKind.u32.wrap ((n : Int) + (b : Int)) = ((n + b : Nat) : Int) := by rw [IntKind.wrap_u32]; omega
        obtain ⟨n2, hn2⟩ : ∃ n2, n2 = n + b := ⟨_, rfl⟩
        rw [← hn2] at hw1
        have HN : Hid (d = dataOf (sl.take (c + 1)) ∧ n2 = nodesOf (sl.take (c + 1)) ∧ prsOf (sl.take (c + 1)) = prsOf (sl.take c) ∧ (kdsOf (sl.take (c + 1))).flatten = (kdsOf (sl.take c)).flatten ++ bb) := Lib.hid ⟨by rw [hD, ← HI.out.1]; simp [Slot.isP], by rw [hN, ← HI.out.2.1, hn2, hb]; simp [Slot.isK], by rw [hP]; exact List.append_nil _, by rw [hK, List.flatten_append]; simp [kdsOf, Slot.getK]⟩
        have HZ := Lib.hid (And.intro hCq hs)
        clear hqr b0 b1 hs hD hN hP hK hdl hnl h31 hb2 hb hn2 hCq
        by_cases hl13 : lv < 13
        · have d13 : (lv : Int) < 13 := by omega
          have d13' : decide ((lv : Int) < 13) = true := by simp [d13]
          have HCC := Lib.hid (HA.out.2.2.2.2.1 hl13 q' bb HZ.out.1)
          have hr8 := HI.out.2.2.kds
          rw [if_pos hl13] at hr8
          obtain ⟨K0, hK0⟩ : ∃ K0, K0 = (kdsOf (sl.take c)).flatten := ⟨_, rfl⟩
          rw [← hK0] at hr8
          have hKl : K0.length + bb.length ≤ 70000000 := by
            have h1 := HA.out.2.2.2.2.2
            rw [if_pos hl13] at h1
            have h2 : (kdsOf sl).flatten.length = KB.length := by rw [h1]
            have h3 : (kdsOf sl).flatten = (kdsOf (sl.take (c + 1))).flatten ++ (kdsOf (sl.drop (c + 1))).flatten := by
              rw [← List.flatten_append, ← kdsOf_append, List.take_append_drop]
            rw [h3, List.length_append, HN.out.2.2.2, List.length_append, ← hK0] at h2
            have := HRB.out.2
            omega
          have H8 := Lib.hid (And.intro hr8 hK0)
          replace hl13 := Lib.hid hl13
          clear hr8 hK0
          repeat' (first | go_at_call 10 | go_skip | go_guarded | go_step)
          refine (HCC.out wr (Ext.trans HA.out.2.1 HI.out.2.2.ext)).mono ?_
          rintro e w5 ⟨v5, rfl, r5, f5⟩
          obtain ⟨A5, C5, rfl⟩ := own_slice r5
          have H5 : Hid (Ext wr w5 ∧ Seg w5 A5 (encB bb) ∧ w5.ownsRow W.heap.size 5 1 u8 K0.length (encB K0) ∧ w5.ownsRow W.heap.size R3T 2 u7 (prsOf (sl.take c)).length (flat (prsOf (sl.take c)))) := Lib.hid ⟨f5, by obtain ⟨A, c, e, _, _, _, hs⟩ := BS.of_own r5; cases e; exact hs, row_ext H8.out.1 f5, row_ext HI.out.2.2.prs f5⟩
          clear r5 f5 HCC z0 z1
          go_simp
          repeat' (first | go_skip | go_guarded | (at_builtin; refine wpList_app rfl (.tmp 65) (.tmp 74) _ rfl W.heap.size 5 1 1 Tryd.underlying34 infoU8y (by decide) u8 K0.length (encB K0) rfl (by exact H5.out.2.2.1) _ _ _ (encB bb) rfl (by rw [encB_length, Nat.mul_one]) (by exact H5.out.2.1) (encB_one _) (by unfold maxLen; omega) (by omega) (Nat.le_trans HI.out.2.2.ext.size H5.out.1.size) ?_; intro v9 w9 r9 g9 _) | go_step)
          have hEa := Ext.trans HI.out.2.2.ext H5.out.1
          have H9 : Hid (OfSt W w9 u7 v9 (prsOf (sl.take (c + 1))) (if lv < 13 then (kdsOf (sl.take (c + 1))).flatten else [])) := Lib.hid ⟨hEa.grown g9 hEa.size (fun b hb => (World.ownsRow.lt H5.out.2.2.1 b hb).1), by rw [HN.out.2.2.1]; exact row_apart H5.out.2.2.2 H5.out.2.2.1 (by decide) g9, by rw [if_pos hl13.out, HN.out.2.2.2, ← H8.out.2, List.length_append, encB_append]; exact r9⟩
          clear r9 g9 hEa
          go_roundg (32 - (c + 1))
          case measure => omega
          case rel => exact ⟨c + 1, d, n2, b2, 0, by go_num, rfl, rfl, rfl, by omega, Nat.le_refl _, HB2.out.1, HB2.out.2, Lib.hid ⟨HN.out.1, HN.out.2.1, H9.out⟩⟩
        · have d13 : ¬ (lv : Int) < 13 := by omega
          have d13' : decide ((lv : Int) < 13) = false := by simp; omega
          have H9 : Hid (OfSt W wr u7 u8 (prsOf (sl.take (c + 1))) (if lv < 13 then (kdsOf (sl.take (c + 1))).flatten else [])) := Lib.hid (by
            have h := HI.out.2.2
            rw [if_neg hl13] at h ⊢
            rw [HN.out.2.2.1]; exact h)
          replace hl13 := Lib.hid hl13
          repeat' (first | go_skip | go_guarded | go_step)
          go_roundg (32 - (c + 1))
          case measure => omega
          case rel => exact ⟨c + 1, d, n2, b2, 0, by go_num, rfl, rfl, rfl, by omega, Nat.le_refl _, HB2.out.1, HB2.out.2, Lib.hid ⟨HN.out.1, HN.out.2.1, H9.out⟩⟩
    · obtain rfl : c = 32 := by omega
      have d1 : decide (32 < 32) = false := by decide
      have htk : sl.take 32 = sl := List.take_of_length_le (by have := HA.out.2.2.1; omega)
      have hI := HI.out
      rw [htk] at hI
      have hd9 : d < 4294967296 := by rw [hI.1]; exact bits32 Slot.isP HA.out.2.2.1
      have hn9 : n < 4294967296 := by rw [hI.2.1]; exact bits32 Slot.isK HA.out.2.2.1
      have HI2 := Lib.hid hI
      clear hI HI htk hbc
      have hlen : (prsB (prsOf sl)).length ≤ 70000000 ∧ (prsOf sl).length ≤ 1000000 ∧ KB.length ≤ 70000000 := by
        have h1 := HRB.out.2
        simp only [headB, List.length_append, List.length_cons] at h1
        have h2 := prsOf_len sl
        have h3 := HA.out.2.2.1
        omega
      obtain ⟨A7, C7, hv7⟩ := own_slice HI2.out.2.2.prs
      obtain ⟨A8, C8, hv8⟩ := own_slice HI2.out.2.2.kds
      rw [← HA.out.2.2.2.2.2] at HI2 hv8
      subst hv7 hv8
      have HF1 := Lib.hid (fun Wx => four_c Wx d hd9)
      have HF2 := Lib.hid (fun Wx => four_c Wx n hn9)
      obtain ⟨ps, hps⟩ : ∃ ps, ps = prsOf sl := ⟨_, rfl⟩
      rw [← hps] at HI2 hlen ⊢
      have HPS := Lib.hid hps
      obtain ⟨lp, hlp⟩ : ∃ lp, lp = (prsB ps).length := ⟨_, rfl⟩
      have hlp9 : lp ≤ 70000000 := by omega
      have hps9 := hlen.2.1
      have hKB9 := hlen.2.2
      have HLP := Lib.hid hlp
      have HL0 := Lib.hid hlen
      clear hps hlp hlen
      repeat' (first | go_at_call 33 | go_skip | go_guarded | go_step)
      obtain ⟨wa, hwa⟩ : ∃ x, x = wr.alloc (.cells #[.int .u8 0] 5) := ⟨_, rfl⟩
      have hEa : Ext wr wa := by rw [hwa]; exact (Ext.refl _).alloc (Nat.le_refl _) _
      have hOa : wa.ownsRow wr.heap.size 5 1 (.slice (some ⟨wr.heap.size, 0, none⟩) 1 1) 1 [.int .u8 0] := by rw [hwa]; exact own_lit (size := 1) [.int .u8 0] 1 (by decide) rfl (Nat.le_refl _)
      rw [← hwa]
      have Ha := Lib.hid (And.intro hEa hOa)
      clear hwa hEa hOa
      refine (HF1.out wa).mono ?_
      rintro e w5 ⟨v5, rfl, r5, f5⟩
      obtain ⟨A5, C5, rfl⟩ := own_slice r5
      have H5 : Hid (Ext wr w5 ∧ w5.ownsRow wr.heap.size 5 1 (.slice (some ⟨wr.heap.size, 0, none⟩) 1 1) 1 [.int .u8 0] ∧ Seg w5 A5 (encB (layB d 4))) := Lib.hid ⟨Ext.trans Ha.out.1 f5, row_ext Ha.out.2 f5, (by obtain ⟨A, c, e, _, _, _, hs⟩ := Sl.of_own r5; cases e; exact hs)⟩
      clear r5 f5 HF1
      go_simp
      repeat' (first | go_at_call 33 | go_skip | go_guarded | (at_builtin; refine wpList_appE (W := wr) rfl (.tmp 78) (.tmp 80) _ rfl 5 1 1 Tryd.underlying34 infoU8y (by decide) _ 1 [.int .u8 0] rfl (by exact H5.out.2.1) (by exact H5.out.1) _ 4 _ (encB (layB d 4)) rfl (by rw [encB_length, layB_len]) (by exact H5.out.2.2) (encB_one _) (by decide) (by decide) ?_; intro v6 w6 r6 f6) | go_step)
      have H6 := Lib.hid (And.intro r6 f6)
      clear r6 f6 H5
      refine (HF2.out w6).mono ?_
      rintro e w7 ⟨v7, rfl, r7, f7⟩
      obtain ⟨A9, C9, rfl⟩ := own_slice r7
      have H7 : Hid (w7.ownsRow wr.heap.size 5 1 v6 (1 + 4) ([.int .u8 0] ++ encB (layB d 4)) ∧ Ext wr w7 ∧ Seg w7 A9 (encB (layB n 4))) := Lib.hid ⟨row_ext H6.out.1 f7, Ext.trans H6.out.2 f7, (by obtain ⟨A, c, e, _, _, _, hs⟩ := Sl.of_own r7; cases e; exact hs)⟩
      clear r7 f7 HF2 H6
      go_simp
      repeat' (first | go_at_call 32 | go_skip | go_guarded | (at_builtin; refine wpList_appE (W := wr) rfl (.tmp 82) (.tmp 84) _ rfl 5 1 1 Tryd.underlying34 infoU8y (by decide) v6 (1 + 4) _ rfl (by exact H7.out.1) (by exact H7.out.2.1) _ 4 _ (encB (layB n 4)) rfl (by rw [encB_length, layB_len]) (by exact H7.out.2.2) (encB_one _) (by decide) (by decide) ?_; intro v8 w8 r8 f8) | go_step)
      have H8 := Lib.hid (And.intro r8 f8)
      clear r8 f8 H7
      refine (rpairs7_c w8 _ ps ((PS.of_own HI2.out.2.2.prs).below H8.out.2) (by have := HL0.out.1; omega) (by omega)).mono ?_
      rintro e w9 ⟨v9, rfl, r9, f9⟩
      obtain ⟨A10, C10, rfl⟩ := own_slice r9
      rw [← HLP.out] at r9
      have H9 : Hid (w9.ownsRow wr.heap.size 5 1 v8 (1 + 4 + 4) ([.int .u8 0] ++ encB (layB d 4) ++ encB (layB n 4)) ∧ Ext wr w9 ∧ Seg w9 A10 (encB (prsB ps)) ∧ Seg w9 A8 (encB KB)) := Lib.hid ⟨row_ext H8.out.1 f9, Ext.trans H8.out.2 f9, (by obtain ⟨A, c, e, _, _, _, hs⟩ := Sl.of_own r9; cases e; exact hs), (by obtain ⟨A, c, e, _, _, _, hs⟩ := (Sl.of_own HI2.out.2.2.kds).below (Ext.trans H8.out.2 f9); cases e; exact hs)⟩
      clear r9 f9 H8
      rw [← HLP.out]
      go_simp
      repeat' (go_not_at_region 21; (first | go_skip | go_guarded | (at_builtin; refine wpList_appE (W := wr) rfl (.tmp 86) (.tmp 88) _ rfl 5 1 1 Tryd.underlying34 infoU8y (by decide) v8 (1 + 4 + 4) _ rfl (by exact H9.out.1) (by exact H9.out.2.1) _ lp _ (encB (prsB ps)) rfl (by rw [encB_length, HLP.out, Nat.mul_one]) (by exact H9.out.2.2.1) (encB_one _) (by unfold maxLen; omega) (by omega) ?_; intro v10 w10 r10 f10) | go_step))
      have H10 : Hid (w10.ownsRow wr.heap.size 5 1 v10 (1 + 4 + 4 + lp) ([.int .u8 0] ++ encB (layB d 4) ++ encB (layB n 4) ++ encB (prsB ps)) ∧ Ext wr w10 ∧ Seg w10 A8 (encB KB)) := Lib.hid ⟨r10, f10, (by obtain ⟨A, c, e, _, _, _, hs⟩ := (Sl.of_own HI2.out.2.2.kds).below f10; cases e; exact hs)⟩
      clear r10 f10 H9
      repeat' (first | go_skip | go_guarded | (at_builtin; refine wpList_appE (W := wr) rfl (.tmp 90) (.tmp 91) _ rfl 5 1 1 Tryd.underlying34 infoU8y (by decide) v10 (1 + 4 + 4 + lp) _ rfl (by exact H10.out.1) (by exact H10.out.2.1) _ KB.length _ (encB KB) rfl (by rw [encB_length, Nat.mul_one]) (by exact H10.out.2.2) (encB_one _) (by unfold maxLen; omega) (by omega) ?_; intro v11 w11 r11 f11) | go_step)
      go_ret
      have e1 : RB.length = 1 + 4 + 4 + lp + KB.length := by
        rw [HRB.out.1, List.length_append, headB, List.length_append, List.length_append, List.length_cons, layB_len, layB_len, ← HPS.out, ← HLP.out]
      have e2 : encB RB = [.int .u8 0] ++ encB (layB d 4) ++ encB (layB n 4) ++ encB (prsB ps) ++ encB KB := by
        rw [HRB.out.1, headB, encB_append, encB_append, encB_append, ← HPS.out, ← HI2.out.1, ← HI2.out.2.1]; rfl
      refine ⟨_, rfl, ?_, Ext.trans HI2.out.2.2.ext f11⟩
      rw [e1, e2]
      exact own_base r11 HI2.out.2.2.ext.size
end Go.Proofs.YtclcgelbcbnekaaDoor
/- Contracts: chapter 6's own small functions: few, awake; lists alike. -/
namespace Go.QS
variable [Zero (Nat → Prop)]
set_option linter.unusedSectionVars false
theorem cutP_short (p : Pr) : (cutP p).1.length ≤ 40 ∧ (cutP p).2.length ≤ 40 := by simp [cutP]; omega
end Go.QS
namespace Go.Proofs.YtclcgelbcbnekaaDoor
open Go.RowKit Go.QS Go.QS.Nk
set_option linter.unusedVariables false
variable [Zero (Nat → Prop)]
set_option linter.unusedSectionVars false

theorem neqP (w : World) (p q : Pr) : (binOp .neq 45 (.agg #[str p.1, str p.2]) (.agg #[str q.1, str q.2])).run Tryd.prog w = .ok (.bool (decide (p ≠ q))) w := by
  obtain ⟨a, b⟩ := p
  obtain ⟨c, d⟩ := q
  simp only [go_sem]
  by_cases h1 : a = c <;> by_cases h2 : b = d <;> simp [h1, h2, go_sem]

abbrev hsF : Hs := ⟨0, 0, 18446744073709551615⟩
theorem hsF_ok : hsF.Ok := ⟨by decide, by decide, by decide⟩
def pA : Pr := ([97], [49])
def pB : Pr := ([98], [50])
theorem exAB : rput [pA] pB = [pA, pB] := by decide
end Go.Proofs.YtclcgelbcbnekaaDoor
