/- Texts joined. -/
import Derived.Test.YtbmakajadelckaaM30
import Derived.Test.YtbmakajadelckaaM01
set_option linter.unusedVariables false
set_option linter.unusedSimpArgs false
/- Contracts: the stable sort of pairs. -/
namespace Go.Proofs.Ytbmakajadelckaa.Pch
open Go.RowKit Go.QS
set_option linter.unusedVariables false

theorem ins_c (base : Nat) (W : World) (g cap n a b : Nat) (l : List Pr) (hR : Rw base 40 W g cap l) (hn : n = l.length) (hab : a ≤ b) (hb : b ≤ n) (h9 : n ≤ 1000000000) :
    Calls Try.prog 121 #[.slice (some ⟨g, 0, none⟩) n cap, .int .i64 a, .int .i64 b, cmpV] W fun e w' => e = .returned (.tuple #[]) ∧ Rw base 40 w' g cap (upd l a b) ∧ W.grownBy w' (some g) :=
  insertion_c base W g cap n a b (l.take a) ((l.drop a).take (b - a)) (l.drop b) (by rw [← cut3 l hab]; exact hR) (by rw [← cut3 l hab]; exact hn) (by rw [List.length_take_of_le (by omega)])
    (by rw [List.length_take_of_le (by omega), List.length_take_of_le (by rw [List.length_drop]; omega)]; omega) h9

theorem mrg_c (base : Nat) (W : World) (g cap n a m b : Nat) (l : List Pr) (hR : Rw base 40 W g cap l) (hn : n = l.length) (ham : a < m) (hmb : m < b) (hb : b ≤ n) (h1 : Srt ((l.drop a).take (m - a))) (h2 : Srt ((l.drop m).take (b - m))) (h9 : n ≤ 1000000000) :
    Calls Try.prog 122 #[.slice (some ⟨g, 0, none⟩) n cap, .int .i64 a, .int .i64 m, .int .i64 b, cmpV] W fun e w' => e = .returned (.tuple #[]) ∧ Rw base 40 w' g cap (upd l a b) ∧ W.grownBy w' (some g) := by
  have e : (l.drop a).take (b - a) = (l.drop a).take (m - a) ++ (l.drop m).take (b - m) := by
    have : l.drop m = (l.drop a).drop (m - a) := by rw [List.drop_drop]; congr 1; omega
    rw [this, ← List.take_add]; congr 1; omega
  have e2 := cut3 l (show a ≤ b by omega)
  rw [e, List.append_assoc] at e2
  have l1 : ((l.drop a).take (m - a)).length = m - a := List.length_take_of_le (by rw [List.length_drop]; omega)
  have l2 : ((l.drop m).take (b - m)).length = b - m := List.length_take_of_le (by rw [List.length_drop]; omega)
  have l0 : (l.take a).length = a := List.length_take_of_le (by omega)
  have := sym_c _ base W g cap n a m b (l.take a) ((l.drop a).take (m - a)) ((l.drop m).take (b - m)) (l.drop b) (Nat.le_refl _) (by rw [← e2]; exact hR) (by rw [← e2]; exact hn) l0.symm (by omega) (by omega) (by omega) (by omega) h1 h2 h9
  unfold upd
  rw [e]
  exact this

set_option maxRecDepth 100000 in
set_option maxHeartbeats 400000 in
theorem stable_c (base : Nat) (W : World) (g cap n : Nat) (l : List Pr) (hR : Rw base 40 W g cap l) (hn : n = l.length) (h9 : n ≤ 1000000000) :
    Calls Try.prog 102 #[.slice (some ⟨g, 0, none⟩) n cap, .int .i64 n, cmpV] W fun e w' => e = .returned (.tuple #[]) ∧ Rw base 40 w' g cap (ssort l) ∧ W.grownBy w' (some g) := by
  have HA : Hid (_ ∧ _) := Lib.hid ⟨hR, hn⟩
  clear hR hn
  go_enter Try.func102, Try.ntmps102
  repeat' go_step
  go_loopg [7, 8] n (fun gk va vb wr => ∃ a b : Nat, va = .int .i64 a ∧ vb = .int .i64 b ∧ b = a + 20 ∧ a ≤ n ∧ n - a ≤ gk ∧ Hid (∃ t l', a = t * 20 ∧ Rw base 40 wr g cap l' ∧ W.grownBy wr (some g) ∧ n = l'.length ∧ Stb l l' ∧ Firsts t l'))
  case atStart =>
    obtain ⟨hR, hn⟩ := HA.out
    exact ⟨0, 20, rfl, rfl, rfl, Nat.zero_le _, by omega, Lib.hid ⟨0, l, rfl, hR, World.grownBy.refl _ _, hn, Stb.refl _, fun c hc => by omega⟩⟩
  case round =>
    obtain ⟨a, b, rfl, rfl, hab, han, hgk, HR⟩ := hrel
    obtain ⟨t, l', ht, hRw, hG, hl, hst, hF⟩ := HR.out
    have HB := Lib.hid hab
    have HK : Hid (_ ∧ _ ∧ _ ∧ _ ∧ _ ∧ _) := Lib.hid ⟨ht, hRw, hG, hl, hst, hF⟩
    by_cases hle : b ≤ n
    · have d1 : decide (b ≤ n) = true := by simp [hle]
      have HC := Lib.hid (ins_c base wr g cap n a b l' hRw hl (by omega) hle h9)
      have hba : a + 20 ≤ b := by omega
      clear ht hRw hG hl hst hF hab
      repeat' (first | (go_at_call 121; refine HC.out.mono ?_; rintro e w1 ⟨rfl, H1⟩; replace H1 := Lib.hid H1; go_simp) | go_step)
      go_roundg (n - b)
      case measure => omega
      case rel =>
        obtain ⟨ht, hRw, hG, hl, hst, hF⟩ := HK.out
        exact ⟨b, b + 20, rfl, by go_num, rfl, hle, Nat.le_refl _, Lib.hid ⟨t + 1, upd l' a b, by have := HB.out; omega, H1.out.1, hG.trans H1.out.2, by rw [upd_length (by omega) (by omega)]; exact hl, hst.trans (upd_stb (by omega)), hF.step ht HB.out (by omega)⟩⟩
    · have d1 : decide (b ≤ n) = false := by simp; omega
      have HC := Lib.hid (ins_c base wr g cap n a n l' hRw hl han (Nat.le_refl _) h9)
      obtain ⟨l2, hl2⟩ : ∃ l2, l2 = upd l' a n := ⟨_, rfl⟩
      have hCh : Chunks 20 l2 := by rw [hl2, hl]; exact hF.finish ht (by omega) (by omega)
      have hS2 : Stb l l2 := by rw [hl2]; exact hst.trans (upd_stb (by omega))
      have hL2 : n = l2.length := by rw [hl2, upd_length (by omega) (by omega)]; exact hl
      have HD : Hid (_ ∧ _ ∧ _ ∧ _ ∧ _) := Lib.hid ⟨hCh, hS2, hL2, hl2, hG⟩
      clear ht hRw hG hl hst hF hab hCh hS2 hL2 hl2
      repeat' (first | (go_at_call 121; refine HC.out.mono ?_; rintro e w1 ⟨rfl, H1⟩; replace H1 := Lib.hid H1; go_simp) | go_step)
      go_loopg [6] n (fun gk vs wr => ∃ bs : Nat, vs = .int .i64 bs ∧ 0 < bs ∧ bs ≤ 2000000000 ∧ n - bs ≤ gk ∧ Hid (∃ l', Rw base 40 wr g cap l' ∧ W.grownBy wr (some g) ∧ n = l'.length ∧ Stb l l' ∧ Chunks bs l'))
      case atStart =>
        obtain ⟨hCh, hS2, hL2, hl2, hG⟩ := HD.out
        exact ⟨20, rfl, by omega, by omega, by omega, Lib.hid ⟨l2, by rw [hl2]; exact H1.out.1, hG.trans H1.out.2, hL2, hS2, hCh⟩⟩
      case round =>
        obtain ⟨bs, rfl, hb0, hb9, hgk2, HR2⟩ := hrel
        obtain ⟨l3, hR3, hG3, hl3, hs3, hC3⟩ := HR2.out
        by_cases hlt : bs < n
        · have d2 : decide (bs < n) = true := by simp [hlt]
          have HK3 : Hid (_ ∧ _ ∧ _ ∧ _ ∧ _) := Lib.hid ⟨hR3, hG3, hl3, hs3, hC3⟩
          obtain ⟨b2, hb2⟩ : ∃ b2, b2 = 2 * bs := ⟨_, rfl⟩
          have hm1 : 2 * (bs : Int) = (b2 : Int) := by omega
          have hm2 : (bs : Int) * 2 = (b2 : Int) := by omega
          have HB2 := Lib.hid hb2
          have hb2a : b2 ≤ 2000000000 := by omega
          have hb2b : bs < b2 := by omega
          clear hR3 hG3 hl3 hs3 hC3 hb2
          repeat' go_step
          obtain ⟨wo, rfl⟩ : ∃ wo : World, wo = wr := ⟨_, rfl⟩
          go_loopg [7, 8] n (fun gk va vb wr => ∃ a b : Nat, va = .int .i64 a ∧ vb = .int .i64 b ∧ b = a + b2 ∧ a ≤ n ∧ n - a ≤ gk ∧ Hid (∃ t l', a = t * (2 * bs) ∧ Rw base 40 wr g cap l' ∧ W.grownBy wr (some g) ∧ n = l'.length ∧ Stb l l' ∧ Merged bs t l'))
          case atStart =>
            obtain ⟨hR3, hG3, hl3, hs3, hC3⟩ := HK3.out
            exact ⟨0, b2, rfl, rfl, by omega, Nat.zero_le _, by omega, Lib.hid ⟨0, l3, by simp, hR3, hG3, hl3, hs3, Merged.zero hC3⟩⟩
          case round =>
            obtain ⟨a, b, rfl, rfl, hab, han, hgk, HR⟩ := hrel
            obtain ⟨wo', rfl⟩ : ∃ wo' : World, wo' = wr := ⟨_, rfl⟩
            obtain ⟨t, l', ht, hRw, hG, hl, hst, hM⟩ := HR.out
            have HB := Lib.hid hab
            have HK : Hid (_ ∧ _ ∧ _ ∧ _ ∧ _ ∧ _) := Lib.hid ⟨ht, hRw, hG, hl, hst, hM⟩
            obtain ⟨m, hm⟩ : ∃ m, m = a + bs := ⟨_, rfl⟩
            have hm3 : (a : Int) + (bs : Int) = (m : Int) := by omega
            have hm4 : (b : Int) + (b2 : Int) = ((b + b2 : Nat) : Int) := by omega
            have hL := hM.left ht
            by_cases hle : b ≤ n
            · have d3 : decide (b ≤ n) = true := by simp [hle]
              have HC := Lib.hid (mrg_c base wo' g cap n a m b l' hRw hl (by omega) (by have := HB2.out; omega) hle (by rw [hm, show a + bs - a = bs by omega]; exact hL.1) (by rw [hm, show b - (a + bs) = bs by have := HB2.out; omega]; exact hL.2) h9)
              have hba : a + 2 ≤ b := by omega
              have HM4 := Lib.hid hm4
              clear ht hRw hG hl hst hM hab hm hm4 hL
              repeat' (first | (go_at_call 122; refine HC.out.mono ?_; rintro e w2 ⟨rfl, H2⟩; replace H2 := Lib.hid H2; go_simp) | go_step)
              go_roundg (n - b)
              case measure => omega
              case rel =>
                obtain ⟨ht, hRw, hG, hl, hst, hM⟩ := HK.out
                exact ⟨b, b + b2, rfl, by rw [← HM4.out], rfl, hle, Nat.le_refl _, Lib.hid ⟨t + 1, upd l' a b, by have := HB.out; have := HB2.out; rw [Nat.succ_mul]; omega, H2.out.1, hG.trans H2.out.2, by rw [upd_length (by omega) (by omega)]; exact hl, hst.trans (upd_stb (by omega)), hM.step ht (by have := HB.out; have := HB2.out; omega) (by omega)⟩⟩
            · have d3 : decide (b ≤ n) = false := by simp; omega
              by_cases hmn : m < n
              · have d4 : decide (m < n) = true := by simp [hmn]
                have HC := Lib.hid (mrg_c base wo' g cap n a m n l' hRw hl (by omega) hmn (Nat.le_refl _) (by rw [hm, show a + bs - a = bs by omega]; exact hL.1)
                  (by have := HB2.out; rw [hm]; rw [List.take_of_length_le (by rw [List.length_drop]; omega)]; have h2 := hL.2; rw [List.take_of_length_le (by rw [List.length_drop]; omega)] at h2; exact h2) h9)
                have HF := Lib.hid (show Chunks (2 * bs) (upd l' a n) by rw [hl]; exact hM.finish ht (by omega) (by have := HB2.out; omega))
                clear ht hRw hG hl hst hM hab hm hm4 hL
                repeat' (first | (go_at_call 122; refine HC.out.mono ?_; rintro e w2 ⟨rfl, H2⟩; replace H2 := Lib.hid H2; go_simp) | go_step)
                go_roundg (n - b2)
                case measure => omega
                case rel =>
                  obtain ⟨ht, hRw, hG, hl, hst, hM⟩ := HK.out
                  exact ⟨b2, rfl, by omega, by omega, Nat.le_refl _, Lib.hid ⟨upd l' a n, H2.out.1, hG.trans H2.out.2, by rw [upd_length (by omega) (by omega)]; exact hl, hst.trans (upd_stb (by omega)), by rw [HB2.out]; exact HF.out⟩⟩
              · have d4 : decide (m < n) = false := by simp; omega
                have HF := Lib.hid (show Chunks (2 * bs) l' from hM.finish' ht (by omega))
                clear ht hRw hG hl hst hM hab hm hm4 hL
                repeat' go_step
                go_roundg (n - b2)
                case measure => omega
                case rel =>
                  obtain ⟨ht, hRw, hG, hl, hst, hM⟩ := HK.out
                  exact ⟨b2, rfl, by omega, by omega, Nat.le_refl _, Lib.hid ⟨l', hRw, hG, hl, hst, by rw [HB2.out]; exact HF.out⟩⟩
        · have d2 : decide (bs < n) = false := by simp; omega
          have HZ := Lib.hid (hC3.done (l0 := l) (by omega) hs3)
          clear hR3 hG3 hl3 hs3 hC3
          repeat' go_step
          obtain ⟨l3', hR3, hG3, hl3, hs3, hC3⟩ := HR2.out
          refine bodyPost_end (results_none rfl _ _ _) rfl ⟨rfl, ?_, hG3⟩
          rw [← hC3.done (l0 := l) (by omega) hs3]
          exact hR3
end Go.Proofs.Ytbmakajadelckaa.Pch/- Contracts: a clone, and the sorted list. -/
namespace Go.Proofs.Ytbmakajadelckaa.Pch
open Go.RowKit Go.QS
set_option linter.unusedVariables false

set_option maxRecDepth 100000 in
theorem clone_c (w : World) (v : Value) (l : List Pr) (h : PS w v l) (h9 : l.length ≤ 1000000000) :
    Calls Try.prog 73 #[v] w fun e w' => ∃ v', e = .returned v' ∧ w'.ownsRow w.heap.size 40 2 v' l.length (flat l) ∧ Ext w w' := by
  obtain ⟨A, c, rfl, hl, hn, hc, hs⟩ := h
  have hnil := fun w : World => Lib.run_eql_slice_nil (P := Try.prog) w 27 40 A l.length c 0 0 Try.underlying27
  cases A with
  | none =>
    have hl0 : l = [] := by
      cases l with
      | nil => rfl
      | cons p l => obtain ⟨b, o, h, _⟩ := hs (by simp [flat_cons]); cases h
    subst hl0
    have hnil := fun w : World => Lib.run_eql_slice_nil (P := Try.prog) w 27 40 none 0 c 0 0 Try.underlying27
    go_enter Try.func73, Try.ntmps73
    repeat' go_step
    go_ret
    exact ⟨_, rfl, World.ownsRow_nil _ _ _ _, Ext.refl _⟩
  | some a =>
    go_enter Try.func73, Try.ntmps73
    repeat' (first | (at_builtin; refine wpList_appE (W := w) rfl (.tmp 5) (.tmp 6) _ rfl 40 2 32 Try.underlying27 infoP (by decide) _ 0 [] rfl (own_lit [] 0 (by decide) rfl (Nat.le_refl _)) ((Ext.refl w).alloc (Nat.le_refl _) _) _ _ c (flat l) rfl hl (hs.alloc _) (flat_one _) (by unfold maxLen; omega) (by omega) ?_; intro v1 w1 hown hb) | go_step)
    go_ret
    refine ⟨_, rfl, ?_, hb⟩
    simpa using hown

set_option maxRecDepth 100000 in
theorem ins_nil (W : World) (v : Value) : Calls Try.prog 121 #[v, .int .i64 0, .int .i64 0, cmpV] W fun e w' => e = .returned (.tuple #[]) ∧ W = w' := by
  go_enter Try.func121, Try.ntmps121
  repeat' go_step
  refine wp_loop_once ?_
  repeat' go_step
  exact bodyPost_end (results_none rfl _ _ _) rfl ⟨rfl, rfl⟩

set_option maxRecDepth 100000 in
theorem stable_nil (W : World) (v : Value) : Calls Try.prog 102 #[v, .int .i64 0, cmpV] W fun e w' => e = .returned (.tuple #[]) ∧ W = w' := by
  go_enter Try.func102, Try.ntmps102
  repeat' go_step
  refine wp_loop_once ?_
  repeat' (first | (go_at_call 121; refine (ins_nil _ _).mono ?_; rintro e w' ⟨rfl, rfl⟩; go_simp) | go_step)
  refine wp_loop_once ?_
  repeat' go_step
  exact bodyPost_end (results_none rfl _ _ _) rfl ⟨rfl, rfl⟩

/-- A row that the call owns, empty or not. -/
theorem own_cases {base : Nat} {e : TypeId} {w : World} {v : Value} {l : List Pr} (h : w.ownsRow base e 2 v l.length (flat l)) : (l = [] ∧ (v = .slice none 0 0 ∨ ∃ g cap, v = .slice (some ⟨g, 0, none⟩) 0 cap ∧ Rw base e w g cap [])) ∨ ∃ g cap, v = .slice (some ⟨g, 0, none⟩) l.length cap ∧ 0 < l.length ∧ Rw base e w g cap l := by
  rcases h.2 with ⟨rfl, h0⟩ | ⟨g, cap, cur, rfl, r⟩
  · exact .inl ⟨List.eq_nil_of_length_eq_zero h0, .inl rfl⟩
  · cases l with
    | nil => exact .inl ⟨rfl, .inr ⟨g, cap, rfl, h⟩⟩
    | cons p l => exact .inr ⟨g, cap, rfl, by simp, h⟩

set_option maxRecDepth 100000 in
theorem sortfn_c (base : Nat) (w : World) (v : Value) (l : List Pr) (h : w.ownsRow base 40 2 v l.length (flat l)) (h9 : l.length ≤ 1000000000) :
    Calls Try.prog 74 #[v, cmpV] w fun e w' => e = .returned (.tuple #[]) ∧ w'.ownsRow base 40 2 v l.length (flat (ssort l)) ∧ w.grownBy w' v.ownBlock := by
  rcases own_cases h with ⟨rfl, h1⟩ | ⟨g, cap, rfl, h1, hR⟩
  · have hv : ∃ A c, v = .slice A 0 c := by
      rcases h1 with rfl | ⟨g, cap, rfl, _⟩
      · exact ⟨_, _, rfl⟩
      · exact ⟨_, _, rfl⟩
    obtain ⟨A, c, rfl⟩ := hv
    clear h1
    go_enter Try.func74, Try.ntmps74
    repeat' (first | (go_at_call 102; refine (stable_nil _ _).mono ?_; rintro e w' ⟨rfl, rfl⟩; go_simp) | go_step)
    refine bodyPost_end (results_none rfl _ _ _) rfl ⟨rfl, ?_, World.grownBy.refl _ _⟩
    rw [ssort_nil]; exact h
  · have HC := Lib.hid (stable_c base w g cap l.length l hR rfl h9)
    clear h hR
    go_enter Try.func74, Try.ntmps74
    repeat' (first | (go_at_call 102; refine HC.out.mono ?_; rintro e w1 ⟨rfl, H1⟩; replace H1 := Lib.hid H1; go_simp) | go_step)
    refine bodyPost_end (results_none rfl _ _ _) rfl ⟨rfl, ?_, H1.out.2⟩
    have := H1.out.1
    unfold Rw at this
    rwa [ssort_length] at this
end Go.Proofs.Ytbmakajadelckaa.Pch/- Contract: the sorted list. -/
namespace Go.Proofs.Ytbmakajadelckaa.Pch
open Go.RowKit Go.QS
set_option linter.unusedVariables false

theorem keep_facts {L L' : List Pr} {k m n : Nat} {x : Pr} (hl : L'.length = n) (hd : L'.drop k = L.drop k) (hm : m ≤ k) (hk : k < n) : (L'.set m x).length = n ∧ (L'.set m x).drop (k + 1) = L.drop (k + 1) ∧ (L'.set m x).take (m + 1) = L'.take m ++ [x] := by
  refine ⟨by simpa using hl, ?_, ?_⟩
  · rw [List.drop_set_of_lt (by omega)]
    have := congrArg (List.drop 1) hd
    rwa [List.drop_drop, List.drop_drop] at this
  · rw [List.take_succ_eq_append_getElem (by rw [List.length_set]; omega)]
    simp [List.take_set_of_le]

theorem drop_next {L L' : List Pr} {k : Nat} (hd : L'.drop k = L.drop k) : L'.drop (k + 1) = L.drop (k + 1) := by
  have := congrArg (List.drop 1) hd
  rwa [List.drop_drop, List.drop_drop] at this
theorem get_of_drop {L L' : List Pr} {k j : Nat} (hd : L'.drop k = L.drop k) (hj : k ≤ j) : L'[j]? = L[j]? := by
  have := congrArg (·[j - k]?) hd
  simp only [List.getElem?_drop] at this
  rwa [show k + (j - k) = j by omega] at this

theorem own_prefix {base : Nat} {e : TypeId} {w : World} {g cap m : Nat} {L : List Pr} (h : Rw base e w g cap L) (hm : m ≤ L.length) : w.ownsRow base e 2 (.slice (some ⟨g, 0, none⟩) m cap) m (flat (L.take m)) := by
  refine ⟨by rw [flat_length, List.length_take_of_le hm], ?_⟩
  rcases h.2 with ⟨h', _⟩ | ⟨g', cap', cur, h', hb, hg, h3, h4, h5, h6⟩
  · cases h'
  · cases h'
    refine .inr ⟨g, cap, cur, rfl, hb, hg, by omega, h4, h5, ?_⟩
    rw [flat_take, ← h6, List.take_take]
    congr 1; omega

set_option maxRecDepth 100000 in
set_option maxHeartbeats 400000 in
theorem sorted_c (w : World) (v : Value) (l : List Pr) (h : PS w v l) (h9 : l.length ≤ 1000000000) :
    Calls Try.prog 36 #[v] w fun e w' => ∃ v', e = .returned v' ∧ w'.ownsRow w.heap.size 40 2 v' (sortedP l).length (flat (sortedP l)) ∧ Ext w w' := by
  have HC := Lib.hid (clone_c w v l h h9)
  clear h
  go_enter Try.func36, Try.ntmps36
  repeat' go_step
  refine HC.out.mono ?_
  rintro e w1 ⟨v1, rfl, hown, hb⟩
  replace hown := Lib.hid hown
  go_simp
  repeat' go_step
  refine (sortfn_c w.heap.size w1 v1 l hown.out h9).mono ?_
  rintro e w2 ⟨rfl, hown2, hg2⟩
  have hb2 : Ext w w2 := hb.grown hg2 hb.size (fun k hk => (hown.out.lt k hk).1)
  obtain ⟨L, hL⟩ : ∃ L, L = ssort l := ⟨_, rfl⟩
  have hLl : L.length = l.length := by rw [hL, ssort_length]
  rw [← hL, ← hLl] at hown2
  have HE : Hid (_ ∧ _) := Lib.hid ⟨hL, hLl⟩
  have hL9 : L.length ≤ 1000000000 := by omega
  clear hL hLl hg2 hown
  rcases own_cases hown2 with ⟨rfl, h1⟩ | ⟨g, cap, rfl, h1, hR⟩
  · have hv : ∃ A c, v1 = .slice A 0 c := by
      rcases h1 with rfl | ⟨g, cap, rfl, _⟩
      · exact ⟨_, _, rfl⟩
      · exact ⟨_, _, rfl⟩
    obtain ⟨A, c, rfl⟩ := hv
    replace hown2 := Lib.hid hown2
    clear h1
    go_simp
    repeat' go_step
    refine wp_loop_once ?_
    repeat' go_step
    go_ret
    have e : sortedP l = [] := by unfold sortedP; rw [← HE.out.1]; rfl
    rw [e]
    exact ⟨_, rfl, by simpa using hown2.out, hb2⟩
  · have HR := Lib.hid hR
    clear hown2 hR
    obtain ⟨n, hn⟩ : ∃ n, n = L.length := ⟨_, rfl⟩
    rw [← hn] at h1 hL9 ⊢
    have Hn := Lib.hid hn
    clear hn
    go_simp
    repeat' go_step
    go_loopg [4, 13] n (fun gk vm vk wr => ∃ m k : Nat, vm = .int .i64 m ∧ vk = .int .i64 k ∧ m ≤ k ∧ k ≤ n ∧ n - k ≤ gk ∧ Below w.heap.size w wr ∧ Hid (∃ L', Rw w.heap.size 40 wr g cap L' ∧ L'.length = n ∧ L'.drop k = L.drop k ∧ L'.take m ++ lastOf (L.drop k) = lastOf L))
    case atStart => exact ⟨0, 0, rfl, rfl, Nat.le_refl _, Nat.zero_le _, Nat.le_refl _, hb2, Lib.hid ⟨L, HR.out, Hn.out.symm, rfl, by simp⟩⟩
    case round =>
      obtain ⟨m, k, rfl, rfl, hmk, hkn, hgk, hB, HI⟩ := hrel
      obtain ⟨L', hR', hl', hd', hT'⟩ := HI.out
      by_cases hlt : k < n
      · have d1 : decide (k < n) = true := by simp [hlt]
        obtain ⟨x, hx⟩ := get_of_lt L (show k < L.length by have := Hn.out; omega)
        obtain ⟨hx1, hx2⟩ := hR'.get ((get_of_drop hd' (Nat.le_refl _)).trans hx)
        have hgl := hR'.lt
        have hgb := hR'.base_le
        have hdx := drop_cons hx
        obtain ⟨u, hu⟩ := get_of_lt L' (show m < L'.length by omega)
        obtain ⟨hu1, hu2⟩ := hR'.get hu
        have hfz := hR'.free
        obtain ⟨k1, hk1⟩ : ∃ k1, k1 = k + 1 := ⟨_, rfl⟩
        have hs1 : IntKind.i64.wrap ((k : Int) + 1) = (k1 : Int) := by rw [show (k : Int) + 1 = (k1 : Int) by omega]; exact IntWalk.i64_in _ (by omega)
        have hi1 : (k : Int) < (n : Int) := by omega
        have hi2 : (m : Int) < (n : Int) := by omega
        have HK1 := Lib.hid hk1
        have hkk : k < k1 := by omega
        by_cases hlt2 : k1 < n
        · have d2 : decide (k1 < n) = true := by simp [hlt2]
          obtain ⟨y, hy⟩ := get_of_lt L (show k1 < L.length by have := Hn.out; omega)
          obtain ⟨hy1, hy2⟩ := hR'.get ((get_of_drop hd' (show k ≤ k1 by omega)).trans hy)
          have hi3 : (k1 : Int) < (n : Int) := by omega
          have hdy := drop_cons hy
          rw [hk1] at hdy
          by_cases hxy : x.1 = y.1
          · have hq : (y.1 == x.1) = true := by simp [hxy]
            have HX : Hid (lastOf (L.drop k) = lastOf (L.drop (k + 1))) := Lib.hid (by rw [hdx, hdy, lastOf_skip hxy])
            clear hR' hl' hd' hT' hx hy hdx hdy hxy hu hk1 hu1 hu2
            repeat' go_step
            go_quiet (fail)
            repeat' go_step
            obtain ⟨L', hR', hl', hd', hT'⟩ := HI.out
            go_roundg (n - (k + 1))
            case measure => omega
            case rel => exact ⟨m, k + 1, rfl, by rw [HK1.out], by omega, by omega, by omega, below_drewN (hB.alloc hB.size _) _, Lib.hid ⟨L', (hR'.ext ((Ext.refl _).alloc (Nat.le_refl _) _)).drewN _, hl', drop_next hd', by rw [← HX.out]; exact hT'⟩⟩
          · have hq : (y.1 == x.1) = false := by simp; exact fun e => hxy e.symm
            have HX : Hid (lastOf (L.drop k) = x :: lastOf (L.drop (k + 1))) := Lib.hid (by rw [hdx, hdy, lastOf_keep hxy])
            clear hR' hl' hd' hT' hx hy hdx hdy hxy hu hk1
            repeat' go_step
            go_quiet (fail)
            repeat' go_step
            obtain ⟨L', hR', hl', hd', hT'⟩ := HI.out
            have hK := keep_facts (x := x) hl' hd' hmk hlt
            go_roundg (n - (k + 1))
            case measure => omega
            case rel =>
              refine ⟨m + 1, k + 1, by go_num, by rw [HK1.out], by omega, by omega, by omega, ?_, Lib.hid ⟨L'.set m x, ?_, hK.1, hK.2.1, by rw [hK.2.2, List.append_assoc, List.singleton_append, ← HX.out]; exact hT'⟩⟩
              · exact ((below_drewN (hB.alloc hB.size _) _).setCell hgb _).setCell hgb _
              · exact ((hR'.ext ((Ext.refl _).alloc (Nat.le_refl _) _)).drewN _).set m x
        · have d2 : decide (k1 < n) = false := by simp; omega
          have HX : Hid (lastOf (L.drop k) = x :: lastOf (L.drop (k + 1))) := Lib.hid (by rw [hdx, List.drop_eq_nil_of_le (show L.length ≤ k + 1 by have := Hn.out; omega)]; rfl)
          clear hR' hl' hd' hT' hx hdx hu hk1
          repeat' go_step
          go_quiet (fail)
          repeat' go_step
          obtain ⟨L', hR', hl', hd', hT'⟩ := HI.out
          have hK := keep_facts (x := x) hl' hd' hmk hlt
          go_roundg (n - (k + 1))
          case measure => omega
          case rel =>
            refine ⟨m + 1, k + 1, by go_num, by rw [HK1.out], by omega, by omega, by omega, ?_, Lib.hid ⟨L'.set m x, ?_, hK.1, hK.2.1, by rw [hK.2.2, List.append_assoc, List.singleton_append, ← HX.out]; exact hT'⟩⟩
            · exact ((below_drewN (hB.alloc hB.size _) _).setCell hgb _).setCell hgb _
            · exact ((hR'.ext ((Ext.refl _).alloc (Nat.le_refl _) _)).drewN _).set m x
      · have d1 : decide (k < n) = false := by simp; omega
        have e : L'.take m = sortedP l := by
          have e1 : lastOf (L.drop k) = [] := by rw [List.drop_eq_nil_of_le (by have := Hn.out; omega)]; rfl
          rw [e1, List.append_nil] at hT'
          rw [hT', HE.out.1]; rfl
        have hm2 : (L'.take m).length = m := List.length_take_of_le (by omega)
        have hcap : m ≤ cap ∧ n ≤ cap := by
          rcases hR'.2 with ⟨h, _⟩ | ⟨g', cap', cur, h, _, _, h3, _⟩
          · cases h
          · cases h; omega
        obtain ⟨hcap1, hcap2⟩ := hcap
        have HF : Hid (_ ∧ _ ∧ _ ∧ _) := Lib.hid ⟨e, hm2, hR', hl'⟩
        clear hR' hl' hd' hT' e hm2
        repeat' go_step
        go_ret
        obtain ⟨e, hm2, hR', hl'⟩ := HF.out
        refine ⟨_, rfl, ?_, hB⟩
        rw [← e, hm2]
        exact own_prefix hR' (by omega)
end Go.Proofs.Ytbmakajadelckaa.Pch