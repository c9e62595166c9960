/- Contract: the document's walk of a trie. -/
import Derived.Test.YtbmakajadelckaaM23
import Derived.Test.YtbmakajadelckaaM24
set_option linter.unusedVariables false
set_option linter.unusedSimpArgs false
namespace Go.QS
open Go.RowKit Go.QS.Nk
def encSt (s : Pr × Nat) : List Value := [str s.1.1, str s.1.2, .int .i64 (s.2 : Int)]
def flatS (l : List (Pr × Nat)) : List Value := l.flatMap encSt
theorem flatS_cons (s : Pr × Nat) (l : List (Pr × Nat)) : flatS (s :: l) = str s.1.1 :: str s.1.2 :: .int .i64 (s.2 : Int) :: flatS l := rfl
theorem flatS_length (l : List (Pr × Nat)) : (flatS l).length = l.length * 3 := by
  induction l with
  | nil => rfl
  | cons a l ih => rw [flatS_cons]; simp only [List.length_cons, ih]; omega
theorem flatS_append (a b : List (Pr × Nat)) : flatS (a ++ b) = flatS a ++ flatS b := by simp [flatS]
theorem flatS_one (l : List (Pr × Nat)) : ∀ u ∈ flatS l, u.oneCell' = true := by
  intro u hu
  obtain ⟨s, _, hs⟩ := List.mem_flatMap.1 hu
  simp [encSt] at hs
  rcases hs with rfl | rfl | rfl <;> rfl
theorem flatS_get : ∀ {l : List (Pr × Nat)} {i : Nat} {s : Pr × Nat}, l[i]? = some s → (flatS l)[i * 3]? = some (str s.1.1) ∧ (flatS l)[i * 3 + 1]? = some (str s.1.2) ∧ (flatS l)[i * 3 + 2]? = some (.int .i64 (s.2 : Int))
  | [], i, s, h => by simp at h
  | b :: l, 0, s, h => by
    simp at h; subst h
    exact ⟨rfl, rfl, rfl⟩
  | b :: l, i + 1, s, h => by
    have := flatS_get (l := l) (i := i) (s := s) (by simpa using h)
    rw [flatS_cons, show (i + 1) * 3 = i * 3 + 1 + 1 + 1 by omega]
    simpa using this
theorem seg_step {w : World} {A : Option Addr} {l : List (Pr × Nat)} {i : Nat} {s : Pr × Nat} (h : Seg w A (flatS l)) (hi : l[i]? = some s) :
    ∃ b o, A = some ⟨b, o, none⟩ ∧ w.cell? ⟨b, o + i * 3, none⟩ = some (str s.1.1) ∧ w.cell? ⟨b, o + i * 3 + 1, none⟩ = some (str s.1.2) ∧ w.cell? ⟨b, o + i * 3 + 2, none⟩ = some (.int .i64 (s.2 : Int)) := by
  obtain ⟨g0, g1, g2⟩ := flatS_get hi
  obtain ⟨b, o, hA, hc⟩ := h (by intro e; rw [e] at g0; simp at g0)
  exact ⟨b, o, hA, hc _ _ g0, by have := hc _ _ g1; rwa [show o + i * 3 + 1 = o + (i * 3 + 1) by omega], by have := hc _ _ g2; rwa [show o + i * 3 + 2 = o + (i * 3 + 2) by omega]⟩
theorem ones_snoc {xs : List (List Pr)} {c : Nat} {x : List Pr} (h : xs[c]? = some x) : ones (xs.take (c + 1)) = ones (xs.take c) ++ ones [x] := by
  rw [take_snoc h]; simp [ones]
theorem twos_snoc {xs : List (List Pr)} {c : Nat} {x : List Pr} (h : xs[c]? = some x) : twos (xs.take (c + 1)) = twos (xs.take c) ++ twos [x] := by
  rw [take_snoc h]; simp [twos]
theorem ones_cut (xs : List (List Pr)) (c : Nat) : ones xs = ones (xs.take c) ++ ones (xs.drop c) := by
  conv => lhs; rw [← List.take_append_drop c xs]
  simp only [ones, List.filterMap_append]
theorem twos_cut (xs : List (List Pr)) (c : Nat) : twos xs = twos (xs.take c) ++ twos (xs.drop c) := by
  conv => lhs; rw [← List.take_append_drop c xs]
  simp only [twos, List.filter_append]
theorem ones_sub (xs : List (List Pr)) (c : Nat) : (ones (xs.take c)).length ≤ (ones xs).length := by
  rw [ones_cut xs c, List.length_append]; omega
theorem walks_sub (H : List UInt8 → Nat) (f d : Nat) (xs : List (List Pr)) (c : Nat) : (walkL ((twos (xs.take c)).map (trieOf H f)) d).length ≤ (walkL ((twos xs).map (trieOf H f)) d).length := by
  rw [twos_cut xs c, List.map_append, walkL_append, List.length_append]; omega
end Go.QS
namespace Go.Proofs.Ytbmakajadelckaa
open Go.RowKit Go.QS Go.QS.Nk
set_option linter.unusedVariables false

abbrev ST8 : TypeId := 53
theorem infoST : ∃ i z, Try.prog.info? 53 = some i ∧ i.zero = some z ∧ i.size = 3 ∧ i.bytes = 40 ∧ z.cells.size = 3 := info_of (z := .agg #[str [], str [], .int .i64 0]) (by kernel_rfl) rfl
def AllR (w : World) (d q : Nat) (l : List (Pr × Nat)) : Prop := ∀ W, Ext w W → Calls Try.prog 44 #[ptr q, .int .i64 (d : Int)] W fun e w' => ∃ v, e = .returned v ∧ w'.ownsRow W.heap.size ST8 3 v l.length (flatS l) ∧ Ext W w'

set_option maxRecDepth 100000 in
set_option maxHeartbeats 2000000 in
theorem all_go (H : List UInt8 → Nat) (f : Nat) (w : World) (q d : Nat) (A : Array Value) (v : Value) (l0 : List Pr) (xs : List (List Pr)) (hq : w.heap[q]? = some (.cells A TT (0, 0))) (hv : A[1]? = some v) (hP : PS w v l0) (hx : xs.length = 32)
    (hE : ∀ (c : Nat) x, xs[c]? = some x → EntOk (fun q' y => AllR w (d + 1) q' (walkT (trieOf H f y) (d + 1))) A c x) (hd9 : d ≤ 1000000)
    (Z : List (Pr × Nat)) (hZ : Z = l0.map (fun p => (p, d)) ++ (ones xs).map (fun p => (p, d)) ++ walkL ((twos xs).map (trieOf H f)) (d + 1)) (h9 : Z.length ≤ 1000000) : AllR w d q Z := by
  intro W fW
  have hqW : W.heap[q]? = some (.cells A TT (0, 0)) := (fW.block q (heap_lt hq)).trans hq
  have z1 := cell_at hqW hv
  obtain ⟨Av, Cv, rfl, _, hnv, hcv, hsv⟩ := hP
  have hl0 : l0.length ≤ 1000000 := by rw [hZ] at h9; simp at h9; omega
  obtain ⟨n0, hn0⟩ : ∃ n, n = l0.length := ⟨_, rfl⟩
  rw [← hn0] at z1 hnv
  have HA := Lib.hid (And.intro hqW (And.intro hE (And.intro fW (And.intro hsv (And.intro hn0 hx)))))
  have HZ := Lib.hid hZ
  have hZl : n0 + (ones xs).length + (walkL ((twos xs).map (trieOf H f)) (d + 1)).length = Z.length := by rw [hZ]; simp only [List.length_append, List.length_map, hn0]
  clear hq hqW hE fW hsv hv hx hZ hn0
  go_enter Try.func44, Try.ntmps44
  repeat' (go_not_at_region 3; (first | go_skip | go_guarded | go_step))
  clear z1
  go_loopg [5, 7, 15] n0 (fun gk v5 v7 v15 wr => ∃ i : Nat, v15 = .int .i64 i ∧ i ≤ n0 ∧ n0 - i ≤ gk ∧ Hid (wr.ownsRow W.heap.size ST8 3 v5 i (flatS ((l0.take i).map fun p => (p, d))) ∧ Ext W wr))
  case atStart => exact ⟨0, rfl, Nat.zero_le _, by omega, Lib.hid ⟨World.ownsRow_nil _ _ _ _, Ext.refl _⟩⟩
  case round =>
    obtain ⟨i, rfl, hi, hgk, HI⟩ := hrel
    rcases Nat.lt_or_ge i n0 with hlt | hge
    · have d1 : decide (i < n0) = true := by simp [hlt]
      have hi1 : (i : Int) < (n0 : Int) := by omega
      obtain ⟨p, hp⟩ := get_of_lt l0 (show i < l0.length by have := HA.out.2.2.2.2.1; omega)
      obtain ⟨b, o, rfl, y0, y1⟩ := seg_pair (HA.out.2.2.2.1.below (Ext.trans HA.out.2.2.1 HI.out.2)) hp
      have HP := Lib.hid (take_snoc hp)
      clear hp
      repeat' (go_not_at_region 5; (first | go_skip | go_guarded | go_step))
      obtain ⟨gb, hgb⟩ : ∃ g, g = wr.heap.size := ⟨_, rfl⟩
      rw [← hgb]
      refine wp_nameW (fun w' => w'.heap[gb]? = some (.cells #[str p.1, str p.2] 36 (0, 0)) ∧ Ext W w' ∧ Ext wr w') ⟨by rw [hgb]; exact heap_new wr _, HI.out.2.alloc HI.out.2.size _, (Ext.refl _).alloc (Nat.le_refl _) _⟩ ?_
      clear hgb y0 y1
      intro w1 H1
      have x0 : w1.cell? ⟨gb, 0, none⟩ = some (str p.1) ∧ w1.cell? ⟨gb, 1, none⟩ = some (str p.2) := by
        have := H1.out.1
        constructor <;> simp [World.cell?, this]
      obtain ⟨x0, x1⟩ := x0
      repeat' (first
        | (at_builtin; refine wpList_appE (W := W) rfl (.tmp 19) (.tmp 23) _ rfl ST8 3 40 Try.underlying32 infoST (by decide) _ i _ rfl (row_ext HI.out.1 (Ext.trans H1.out.2.2 ((Ext.refl _).alloc (Nat.le_refl _) _))) (H1.out.2.1.alloc H1.out.2.1.size _) _ 1 1 [str p.1, str p.2, .int .i64 d] rfl rfl (Seg.new _ [_, _, _] _ (by simp)) (by intro u hu; simp at hu; rcases hu with rfl | rfl | rfl <;> rfl) (by unfold maxLen; omega) (by omega) ?_; intro v5 w2 r2 f2)
        | go_skip | go_guarded | go_step)
      have H2 : Hid (w2.ownsRow W.heap.size ST8 3 v5 (i + 1) (flatS ((l0.take (i + 1)).map fun p => (p, d))) ∧ Ext W w2) := Lib.hid ⟨by rw [HP.out, List.map_append, flatS_append]; exact r2, f2⟩
      clear r2 f2
      go_roundg (n0 - (i + 1))
      case measure => omega
      case rel => exact ⟨i + 1, by go_num, by omega, Nat.le_refl _, H2⟩
    · obtain rfl : i = n0 := by omega
      have d1 : decide (i < i) = false := by simp
      have HL : Hid (wr.ownsRow W.heap.size ST8 3 u5 (l0.map fun p => (p, d)).length (flatS (l0.map fun p => (p, d))) ∧ Ext W wr) := by
        have e := HA.out.2.2.2.2.1
        have h2 := HI.out
        rw [List.take_of_length_le (show l0.length ≤ i by omega)] at h2
        exact Lib.hid ⟨by rw [List.length_map, ← e]; exact h2.1, h2.2⟩
      obtain ⟨L0, hL0⟩ : ∃ L, L = l0.map (fun p => (p, d)) := ⟨_, rfl⟩
      rw [← hL0] at HL HZ
      have hLl : L0.length = i := by rw [hL0, List.length_map]; exact HA.out.2.2.2.2.1.symm
      clear HI hL0 hgk
      repeat' (go_not_at_region 8; (first | go_skip | go_guarded | go_step))
      go_loopg [5, 8] 32 (fun gk v5 v8 wx => ∃ c : Nat, v8 = .int .i64 c ∧ c ≤ 32 ∧ 32 - c ≤ gk ∧ Hid (wx.ownsRow W.heap.size ST8 3 v5 (L0 ++ (ones (xs.take c)).map fun p => (p, d)).length (flatS (L0 ++ (ones (xs.take c)).map fun p => (p, d))) ∧ Ext W wx))
      case atStart => exact ⟨0, rfl, Nat.zero_le _, by omega, Lib.hid ⟨by simp only [List.take_zero, ones, List.filterMap_nil, List.map_nil, List.append_nil]; exact HL.out.1, HL.out.2⟩⟩
      case round =>
        obtain ⟨c, rfl, hc, hgk, HI⟩ := hrel
        rcases Nat.lt_or_ge c 32 with hlt | hge
        · have d2 : decide (c < 32) = true := by simp [hlt]
          have hc1 : (c : Int) < 32 := by omega
          have hc0 : (0 : Int) ≤ (c : Int) := by omega
          have hqr := (HI.out.2.block q (heap_lt HA.out.1)).trans HA.out.1
          obtain ⟨x, hxc⟩ := get_of_lt xs (show c < xs.length by have := HA.out.2.2.2.2.2; omega)
          have hent := HA.out.2.1 c x hxc
          have HS := Lib.hid (ones_snoc hxc)
          have hsub := ones_sub xs (c + 1)
          have hlen : (L0 ++ (ones (xs.take c)).map fun p => (p, d)).length = i + (ones (xs.take c)).length := by rw [List.length_append, List.length_map, hLl]
          have hsub0 := ones_sub xs c
          clear hxc
          rcases hent with ⟨hx0, b0⟩ | ⟨p, hxp, b0, b1, b2⟩ | ⟨hx2, q2, b0, b1, hR⟩
          · have y0 := cell_at hqr b0
            have HN : Hid (ones (xs.take (c + 1)) = ones (xs.take c)) := Lib.hid (by rw [HS.out, hx0]; simp [ones, oneP])
            clear hqr b0
            repeat' (first | go_skip | go_guarded | go_step)
            go_roundg (32 - (c + 1))
            case measure => omega
            case rel => exact ⟨c + 1, by go_num, by omega, Nat.le_refl _, Lib.hid (by rw [HN.out]; exact HI.out)⟩
          · have y0 := cell_at hqr b0
            have y1 : wr.cell? ⟨q, 34 + c * 2, none⟩ = some (str p.1) := by have := cell_at hqr b1; rwa [show 34 + 2 * c = 34 + c * 2 by omega] at this
            have y2 : wr.cell? ⟨q, 34 + c * 2 + 1, none⟩ = some (str p.2) := by have := cell_at hqr b2; rwa [show 35 + 2 * c = 34 + c * 2 + 1 by omega] at this
            have HN : Hid (ones (xs.take (c + 1)) = ones (xs.take c) ++ [p]) := Lib.hid (by rw [HS.out, hxp]; simp [ones, oneP])
            have hn1 : (ones (xs.take c)).length + 1 ≤ (ones xs).length := by have := HN.out; rw [this, List.length_append] at hsub; exact hsub
            obtain ⟨m, hm⟩ : ∃ m, m = (L0 ++ (ones (xs.take c)).map fun p => (p, d)).length := ⟨_, rfl⟩
            rw [← hm] at HI hlen
            have hm9 : m + 1 ≤ 1000000 := by omega
            have HM := Lib.hid hm
            clear hqr b0 b1 b2 hm hlen hsub hsub0 hn1
            repeat' (first
              | (at_builtin; refine wpList_appE (W := W) rfl (.tmp 37) (.tmp 46) _ rfl ST8 3 40 Try.underlying32 infoST (by decide) _ m _ rfl (row_ext HI.out.1 ((Ext.refl _).alloc (Nat.le_refl _) _)) (HI.out.2.alloc HI.out.2.size _) _ 1 1 [str p.1, str p.2, .int .i64 d] rfl rfl (Seg.new _ [_, _, _] _ (by simp)) (by intro u hu; simp at hu; rcases hu with rfl | rfl | rfl <;> rfl) (by unfold maxLen; omega) (by omega) ?_; intro v5 w2 r2 f2)
              | go_skip | go_guarded | go_step)
            have H2 : Hid (w2.ownsRow W.heap.size ST8 3 v5 (L0 ++ (ones (xs.take (c + 1))).map fun p => (p, d)).length (flatS (L0 ++ (ones (xs.take (c + 1))).map fun p => (p, d))) ∧ Ext W w2) := Lib.hid ⟨by
              rw [HN.out, List.map_append, ← List.append_assoc, flatS_append, List.length_append, ← HM.out]; exact r2, f2⟩
            clear r2 f2
            go_roundg (32 - (c + 1))
            case measure => omega
            case rel => exact ⟨c + 1, by go_num, by omega, Nat.le_refl _, H2⟩
          · have y0 := cell_at hqr b0
            have HN : Hid (ones (xs.take (c + 1)) = ones (xs.take c)) := Lib.hid (by
              rw [HS.out]
              match x, hx2 with
              | a :: b :: r, _ => simp [ones, oneP])
            clear hqr b0 b1 hR
            repeat' (first | go_skip | go_guarded | go_step)
            go_roundg (32 - (c + 1))
            case measure => omega
            case rel => exact ⟨c + 1, by go_num, by omega, Nat.le_refl _, Lib.hid (by rw [HN.out]; exact HI.out)⟩
        · obtain rfl : c = 32 := by omega
          have d2 : decide (32 < 32) = false := by decide
          obtain ⟨L1, hL1⟩ : ∃ L, L = L0 ++ (ones xs).map (fun p => (p, d)) := ⟨_, rfl⟩
          have HL1 : Hid (wr.ownsRow W.heap.size ST8 3 u5 L1.length (flatS L1) ∧ Ext W wr) := by
            have h2 := HI.out
            rw [List.take_of_length_le (show xs.length ≤ 32 by have := HA.out.2.2.2.2.2; omega), ← hL1] at h2
            exact Lib.hid h2
          rw [← hL1] at HZ
          have hL1l : L1.length = i + (ones xs).length := by rw [hL1, List.length_append, List.length_map, hLl]
          clear HI hL1 hgk
          repeat' (go_not_at_region 13; (first | go_skip | go_guarded | go_step))
          go_loopg [5, 9] 32 (fun gk v5 v9 wx => ∃ c : Nat, v9 = .int .i64 c ∧ c ≤ 32 ∧ 32 - c ≤ gk ∧ Hid (wx.ownsRow W.heap.size ST8 3 v5 (L1 ++ walkL ((twos (xs.take c)).map (trieOf H f)) (d + 1)).length (flatS (L1 ++ walkL ((twos (xs.take c)).map (trieOf H f)) (d + 1))) ∧ Ext W wx))
          case atStart => exact ⟨0, rfl, Nat.zero_le _, by omega, Lib.hid ⟨by simp only [List.take_zero, twos, List.filter_nil, List.map_nil, walkL_nil, List.append_nil]; exact HL1.out.1, HL1.out.2⟩⟩
          case round =>
            obtain ⟨c, rfl, hc, hgk, HI⟩ := hrel
            rcases Nat.lt_or_ge c 32 with hlt | hge
            · have d2 : decide (c < 32) = true := by simp [hlt]
              have hc1 : (c : Int) < 32 := by omega
              have hc0 : (0 : Int) ≤ (c : Int) := by omega
              have hqr := (HI.out.2.block q (heap_lt HA.out.1)).trans HA.out.1
              obtain ⟨x, hxc⟩ := get_of_lt xs (show c < xs.length by have := HA.out.2.2.2.2.2; omega)
              have hent := HA.out.2.1 c x hxc
              have HS := Lib.hid (twos_snoc hxc)
              have hsub := walks_sub H f (d + 1) xs (c + 1)
              have hlen : (L1 ++ walkL ((twos (xs.take c)).map (trieOf H f)) (d + 1)).length = L1.length + (walkL ((twos (xs.take c)).map (trieOf H f)) (d + 1)).length := List.length_append
              clear hxc
              have hno : (∃ j : Nat, A[2 + c]? = some (.int .i64 (j : Int)) ∧ j ≠ 2 ∧ twos [x] = []) ∨ (∃ q2, A[2 + c]? = some (.int .i64 2) ∧ A[98 + c]? = some (ptr q2) ∧ AllR w (d + 1) q2 (walkT (trieOf H f x) (d + 1)) ∧ twos [x] = [x]) := by
                rcases hent with ⟨hx0, b0⟩ | ⟨p, hxp, b0, b1, b2⟩ | ⟨hx2, q2, b0, b1, hR⟩
                · exact .inl ⟨0, b0, by decide, by rw [hx0]; rfl⟩
                · exact .inl ⟨1, b0, by decide, by rw [hxp]; rfl⟩
                · exact .inr ⟨q2, b0, b1, hR, by simp [twos, hx2]⟩
              clear hent
              rcases hno with ⟨j, b0, hj, ht⟩ | ⟨q2, b0, b1, hR, ht⟩
              · have y0 := cell_at hqr b0
                have hj2 : ¬ ((j : Int) = 2) := by omega
                have dj : ((j : Int) == 2) = false := by rw [beq_eq_false_iff_ne]; exact hj2
                have HN : Hid (twos (xs.take (c + 1)) = twos (xs.take c)) := Lib.hid (by rw [HS.out, ht, List.append_nil])
                clear hqr b0 ht
                repeat' (first | go_skip | go_guarded | go_step)
                go_roundg (32 - (c + 1))
                case measure => omega
                case rel => exact ⟨c + 1, by go_num, by omega, Nat.le_refl _, Lib.hid (by rw [HN.out]; exact HI.out)⟩
              · have y0 := cell_at hqr b0
                have y1 := cell_at hqr b1
                obtain ⟨Y, hY⟩ : ∃ Y, Y = walkT (trieOf H f x) (d + 1) := ⟨_, rfl⟩
                rw [← hY] at hR
                have HN : Hid (walkL ((twos (xs.take (c + 1))).map (trieOf H f)) (d + 1) = walkL ((twos (xs.take c)).map (trieOf H f)) (d + 1) ++ Y) := Lib.hid (by
                  rw [HS.out, ht, List.map_append, walkL_append, hY]
                  simp [walkL])
                obtain ⟨X, hX⟩ : ∃ X, X = L1 ++ walkL ((twos (xs.take c)).map (trieOf H f)) (d + 1) := ⟨_, rfl⟩
                rw [HN.out, List.length_append] at hsub
                have hXY : X.length + Y.length ≤ 1000000 := by rw [hX, hlen]; omega
                rw [← hX] at HI
                have HX := Lib.hid hX
                have HR := Lib.hid (hR wr (Ext.trans HA.out.2.2.1 HI.out.2))
                obtain ⟨m, hm⟩ : ∃ m, m = X.length := ⟨_, rfl⟩
                obtain ⟨my, hmy⟩ : ∃ m, m = Y.length := ⟨_, rfl⟩
                rw [← hm] at HI hXY
                rw [← hmy] at HR hXY
                have HM := Lib.hid (And.intro hm hmy)
                clear hqr b0 b1 hR ht hY hX hm hmy hsub hlen
                repeat' (first | go_at_call 44 | go_skip | go_guarded | go_step)
                refine HR.out.mono ?_
                rintro e w2 ⟨v2, rfl, r2, f2⟩
                obtain ⟨A2, C2, hA2, _, hn2, hc2, hs2⟩ : Sl w2 3 v2 my (flatS Y) := Sl.of_own r2
                subst hA2
                have H2 : Hid (w2.ownsRow W.heap.size ST8 3 u5 m (flatS X) ∧ Ext W w2 ∧ Seg w2 A2 (flatS Y)) := Lib.hid ⟨row_ext HI.out.1 f2, Ext.trans HI.out.2 f2, hs2⟩
                clear r2 f2 hs2 y0 y1 HR
                go_simp
                repeat' (first
                  | (at_builtin; refine wpList_appE (W := W) rfl (.tmp 59) (.tmp 68) _ rfl ST8 3 40 Try.underlying32 infoST (by decide) _ m _ rfl H2.out.1 H2.out.2.1 _ my _ (flatS Y) rfl (by rw [flatS_length, HM.out.2]) H2.out.2.2 (flatS_one _) (by unfold maxLen; omega) (by omega) ?_; intro v5 w3 r3 f3)
                  | go_skip | go_guarded | go_step)
                have H3 : Hid (w3.ownsRow W.heap.size ST8 3 v5 (L1 ++ walkL ((twos (xs.take (c + 1))).map (trieOf H f)) (d + 1)).length (flatS (L1 ++ walkL ((twos (xs.take (c + 1))).map (trieOf H f)) (d + 1))) ∧ Ext W w3) := Lib.hid ⟨by
                  rw [HN.out, ← List.append_assoc, ← HX.out, flatS_append, List.length_append, ← HM.out.1, ← HM.out.2]; exact r3, f3⟩
                clear r3 f3
                go_roundg (32 - (c + 1))
                case measure => omega
                case rel => exact ⟨c + 1, by go_num, by omega, Nat.le_refl _, H3⟩
            · obtain rfl : c = 32 := by omega
              have d2 : decide (32 < 32) = false := by decide
              have HE : Hid (wr.ownsRow W.heap.size ST8 3 u5 Z.length (flatS Z) ∧ Ext W wr) := by
                have h2 := HI.out
                rw [List.take_of_length_le (show xs.length ≤ 32 by have := HA.out.2.2.2.2.2; omega), ← HZ.out] at h2
                exact Lib.hid h2
              repeat' (first | go_skip | go_guarded | go_step)
              go_ret
              exact ⟨_, rfl, HE.out.1, HE.out.2⟩
end Go.Proofs.Ytbmakajadelckaa
