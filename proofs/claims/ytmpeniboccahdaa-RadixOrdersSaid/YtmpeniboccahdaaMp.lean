/- Texts joined. -/
import Derived.Test.YtmpeniboccahdaaKj
import Derived.Test.YtmpeniboccahdaaMn
import Derived.Test.YtmpeniboccahdaaMa
/- Contracts: the stable sort of pairs. -/
namespace Go.Proofs.Ytmpeniboccahdaa.Pch
open Go.RowKit Go.QS
set_option linter.unusedVariables false

theorem ins_c (base : Nat) (W : World) (g cap n a b : Nat) (l : List Pr) (hR : Rw base 24 W g cap l) (hn : n = l.length) (hab : a ≤ b) (hb : b ≤ n) (h9 : n ≤ 1000000000) :
    Calls Try.prog 91 #[.slice (some ⟨g, 0, none⟩) n cap, .int .i64 a, .int .i64 b, cmpV] W fun e w' => e = .returned (.tuple #[]) ∧ Rw base 24 w' g cap (upd l a b) ∧ W.grownBy w' (some g) :=
  insertion_c base W g cap n a b (l.take a) ((l.drop a).take (b - a)) (l.drop b) (by rw [← cut3 l hab]; exact hR) (by rw [← cut3 l hab]; exact hn) (by rw [List.length_take_of_le (by omega)])
    (by rw [List.length_take_of_le (by omega), List.length_take_of_le (by rw [List.length_drop]; omega)]; omega) h9

theorem mrg_c (base : Nat) (W : World) (g cap n a m b : Nat) (l : List Pr) (hR : Rw base 24 W g cap l) (hn : n = l.length) (ham : a < m) (hmb : m < b) (hb : b ≤ n) (h1 : Srt ((l.drop a).take (m - a))) (h2 : Srt ((l.drop m).take (b - m))) (h9 : n ≤ 1000000000) :
    Calls Try.prog 92 #[.slice (some ⟨g, 0, none⟩) n cap, .int .i64 a, .int .i64 m, .int .i64 b, cmpV] W fun e w' => e = .returned (.tuple #[]) ∧ Rw base 24 w' g cap (upd l a b) ∧ W.grownBy w' (some g) := by
  have e : (l.drop a).take (b - a) = (l.drop a).take (m - a) ++ (l.drop m).take (b - m) := by
    have : l.drop m = (l.drop a).drop (m - a) := by rw [List.drop_drop]; congr 1; omega
    rw [this, ← List.take_add]; congr 1; omega
  have e2 := cut3 l (show a ≤ b by omega)
  rw [e, List.append_assoc] at e2
  have l1 : ((l.drop a).take (m - a)).length = m - a := List.length_take_of_le (by rw [List.length_drop]; omega)
  have l2 : ((l.drop m).take (b - m)).length = b - m := List.length_take_of_le (by rw [List.length_drop]; omega)
  have l0 : (l.take a).length = a := List.length_take_of_le (by omega)
  have := sym_c _ base W g cap n a m b (l.take a) ((l.drop a).take (m - a)) ((l.drop m).take (b - m)) (l.drop b) (Nat.le_refl _) (by rw [← e2]; exact hR) (by rw [← e2]; exact hn) l0.symm (by omega) (by omega) (by omega) (by omega) h1 h2 h9
  unfold upd
  rw [e]
  exact this

set_option maxRecDepth 100000 in
set_option maxHeartbeats 400000 in
theorem stable_c (base : Nat) (W : World) (g cap n : Nat) (l : List Pr) (hR : Rw base 24 W g cap l) (hn : n = l.length) (h9 : n ≤ 1000000000) :
    Calls Try.prog 83 #[.slice (some ⟨g, 0, none⟩) n cap, .int .i64 n, cmpV] W fun e w' => e = .returned (.tuple #[]) ∧ Rw base 24 w' g cap (ssort l) ∧ W.grownBy w' (some g) := by
  have HA : Hid (_ ∧ _) := Lib.hid ⟨hR, hn⟩
  clear hR hn
  go_enter Try.func83, Try.ntmps83
  repeat' go_step
  go_loopg [7, 8] n (fun gk va vb wr => ∃ a b : Nat, va = .int .i64 a ∧ vb = .int .i64 b ∧ b = a + 20 ∧ a ≤ n ∧ n - a ≤ gk ∧ Hid (∃ t l', a = t * 20 ∧ Rw base 24 wr g cap l' ∧ W.grownBy wr (some g) ∧ n = l'.length ∧ Stb l l' ∧ Firsts t l'))
  case atStart =>
    obtain ⟨hR, hn⟩ := HA.out
    exact ⟨0, 20, rfl, rfl, rfl, Nat.zero_le _, by omega, Lib.hid ⟨0, l, rfl, hR, World.grownBy.refl _ _, hn, Stb.refl _, fun c hc => by omega⟩⟩
  case round =>
    obtain ⟨a, b, rfl, rfl, hab, han, hgk, HR⟩ := hrel
    obtain ⟨t, l', ht, hRw, hG, hl, hst, hF⟩ := HR.out
    have HB := Lib.hid hab
    have HK : Hid (_ ∧ _ ∧ _ ∧ _ ∧ _ ∧ _) := Lib.hid ⟨ht, hRw, hG, hl, hst, hF⟩
    by_cases hle : b ≤ n
    · have d1 : decide (b ≤ n) = true := by simp [hle]
      have HC := Lib.hid (ins_c base wr g cap n a b l' hRw hl (by omega) hle h9)
      have hba : a + 20 ≤ b := by omega
      clear ht hRw hG hl hst hF hab
      repeat' (first | (go_at_call 91; refine HC.out.mono ?_; rintro e w1 ⟨rfl, H1⟩; replace H1 := Lib.hid H1; go_simp) | go_step)
      go_roundg (n - b)
      case measure => omega
      case rel =>
        obtain ⟨ht, hRw, hG, hl, hst, hF⟩ := HK.out
        exact ⟨b, b + 20, rfl, by go_num, rfl, hle, Nat.le_refl _, Lib.hid ⟨t + 1, upd l' a b, by have := HB.out; omega, H1.out.1, hG.trans H1.out.2, by rw [upd_length (by omega) (by omega)]; exact hl, hst.trans (upd_stb (by omega)), hF.step ht HB.out (by omega)⟩⟩
    · have d1 : decide (b ≤ n) = false := by simp; omega
      have HC := Lib.hid (ins_c base wr g cap n a n l' hRw hl han (Nat.le_refl _) h9)
      obtain ⟨l2, hl2⟩ : ∃ l2, l2 = upd l' a n := ⟨_, rfl⟩
      have hCh : Chunks 20 l2 := by rw [hl2, hl]; exact hF.finish ht (by omega) (by omega)
      have hS2 : Stb l l2 := by rw [hl2]; exact hst.trans (upd_stb (by omega))
      have hL2 : n = l2.length := by rw [hl2, upd_length (by omega) (by omega)]; exact hl
      have HD : Hid (_ ∧ _ ∧ _ ∧ _ ∧ _) := Lib.hid ⟨hCh, hS2, hL2, hl2, hG⟩
      clear ht hRw hG hl hst hF hab hCh hS2 hL2 hl2
      repeat' (first | (go_at_call 91; refine HC.out.mono ?_; rintro e w1 ⟨rfl, H1⟩; replace H1 := Lib.hid H1; go_simp) | go_step)
      go_loopg [6] n (fun gk vs wr => ∃ bs : Nat, vs = .int .i64 bs ∧ 0 < bs ∧ bs ≤ 2000000000 ∧ n - bs ≤ gk ∧ Hid (∃ l', Rw base 24 wr g cap l' ∧ W.grownBy wr (some g) ∧ n = l'.length ∧ Stb l l' ∧ Chunks bs l'))
      case atStart =>
        obtain ⟨hCh, hS2, hL2, hl2, hG⟩ := HD.out
        exact ⟨20, rfl, by omega, by omega, by omega, Lib.hid ⟨l2, by rw [hl2]; exact H1.out.1, hG.trans H1.out.2, hL2, hS2, hCh⟩⟩
      case round =>
        obtain ⟨bs, rfl, hb0, hb9, hgk2, HR2⟩ := hrel
        obtain ⟨l3, hR3, hG3, hl3, hs3, hC3⟩ := HR2.out
        by_cases hlt : bs < n
        · have d2 : decide (bs < n) = true := by simp [hlt]
          have HK3 : Hid (_ ∧ _ ∧ _ ∧ _ ∧ _) := Lib.hid ⟨hR3, hG3, hl3, hs3, hC3⟩
          obtain ⟨b2, hb2⟩ : ∃ b2, b2 = 2 * bs := ⟨_, rfl⟩
          have hm1 : 2 * (bs : Int) = (b2 : Int) := by omega
          have hm2 : (bs : Int) * 2 = (b2 : Int) := by omega
          have HB2 := Lib.hid hb2
          have hb2a : b2 ≤ 2000000000 := by omega
          have hb2b : bs < b2 := by omega
          clear hR3 hG3 hl3 hs3 hC3 hb2
          repeat' go_step
          obtain ⟨wo, rfl⟩ : ∃ wo : World, wo = wr := ⟨_, rfl⟩
          go_loopg [7, 8] n (fun gk va vb wr => ∃ a b : Nat, va = .int .i64 a ∧ vb = .int .i64 b ∧ b = a + b2 ∧ a ≤ n ∧ n - a ≤ gk ∧ Hid (∃ t l', a = t * (2 * bs) ∧ Rw base 24 wr g cap l' ∧ W.grownBy wr (some g) ∧ n = l'.length ∧ Stb l l' ∧ Merged bs t l'))
          case atStart =>
            obtain ⟨hR3, hG3, hl3, hs3, hC3⟩ := HK3.out
            exact ⟨0, b2, rfl, rfl, by omega, Nat.zero_le _, by omega, Lib.hid ⟨0, l3, by simp, hR3, hG3, hl3, hs3, Merged.zero hC3⟩⟩
          case round =>
            obtain ⟨a, b, rfl, rfl, hab, han, hgk, HR⟩ := hrel
            obtain ⟨wo', rfl⟩ : ∃ wo' : World, wo' = wr := ⟨_, rfl⟩
            obtain ⟨t, l', ht, hRw, hG, hl, hst, hM⟩ := HR.out
            have HB := Lib.hid hab
            have HK : Hid (_ ∧ _ ∧ _ ∧ _ ∧ _ ∧ _) := Lib.hid ⟨ht, hRw, hG, hl, hst, hM⟩
            obtain ⟨m, hm⟩ : ∃ m, m = a + bs := ⟨_, rfl⟩
            have hm3 : (a : Int) + (bs : Int) = (m : Int) := by omega
            have hm4 : (b : Int) + (b2 : Int) = ((b + b2 : Nat) : Int) := by omega
            have hL := hM.left ht
            by_cases hle : b ≤ n
            · have d3 : decide (b ≤ n) = true := by simp [hle]
              have HC := Lib.hid (mrg_c base wo' g cap n a m b l' hRw hl (by omega) (by have := HB2.out; omega) hle (by rw [hm, show a + bs - a = bs by omega]; exact hL.1) (by rw [hm, show b - (a + bs) = bs by have := HB2.out; omega]; exact hL.2) h9)
              have hba : a + 2 ≤ b := by omega
              have HM4 := Lib.hid hm4
              clear ht hRw hG hl hst hM hab hm hm4 hL
              repeat' (first | (go_at_call 92; refine HC.out.mono ?_; rintro e w2 ⟨rfl, H2⟩; replace H2 := Lib.hid H2; go_simp) | go_step)
              go_roundg (n - b)
              case measure => omega
              case rel =>
                obtain ⟨ht, hRw, hG, hl, hst, hM⟩ := HK.out
                exact ⟨b, b + b2, rfl, by rw [← HM4.out], rfl, hle, Nat.le_refl _, Lib.hid ⟨t + 1, upd l' a b, by have := HB.out; have := HB2.out; rw [Nat.succ_mul]; omega, H2.out.1, hG.trans H2.out.2, by rw [upd_length (by omega) (by omega)]; exact hl, hst.trans (upd_stb (by omega)), hM.step ht (by have := HB.out; have := HB2.out; omega) (by omega)⟩⟩
            · have d3 : decide (b ≤ n) = false := by simp; omega
              by_cases hmn : m < n
              · have d4 : decide (m < n) = true := by simp [hmn]
                have HC := Lib.hid (mrg_c base wo' g cap n a m n l' hRw hl (by omega) hmn (Nat.le_refl _) (by rw [hm, show a + bs - a = bs by omega]; exact hL.1)
                  (by have := HB2.out; rw [hm]; rw [List.take_of_length_le (by rw [List.length_drop]; omega)]; have h2 := hL.2; rw [List.take_of_length_le (by rw [List.length_drop]; omega)] at h2; exact h2) h9)
                have HF := Lib.hid (show Chunks (2 * bs) (upd l' a n) by rw [hl]; exact hM.finish ht (by omega) (by have := HB2.out; omega))
                clear ht hRw hG hl hst hM hab hm hm4 hL
                repeat' (first | (go_at_call 92; refine HC.out.mono ?_; rintro e w2 ⟨rfl, H2⟩; replace H2 := Lib.hid H2; go_simp) | go_step)
                go_roundg (n - b2)
                case measure => omega
                case rel =>
                  obtain ⟨ht, hRw, hG, hl, hst, hM⟩ := HK.out
                  exact ⟨b2, rfl, by omega, by omega, Nat.le_refl _, Lib.hid ⟨upd l' a n, H2.out.1, hG.trans H2.out.2, by rw [upd_length (by omega) (by omega)]; exact hl, hst.trans (upd_stb (by omega)), by rw [HB2.out]; exact HF.out⟩⟩
              · have d4 : decide (m < n) = false := by simp; omega
                have HF := Lib.hid (show Chunks (2 * bs) l' from hM.finish' ht (by omega))
                clear ht hRw hG hl hst hM hab hm hm4 hL
                repeat' go_step
                go_roundg (n - b2)
                case measure => omega
                case rel =>
                  obtain ⟨ht, hRw, hG, hl, hst, hM⟩ := HK.out
                  exact ⟨b2, rfl, by omega, by omega, Nat.le_refl _, Lib.hid ⟨l', hRw, hG, hl, hst, by rw [HB2.out]; exact HF.out⟩⟩
        · have d2 : decide (bs < n) = false := by simp; omega
          have HZ := Lib.hid (hC3.done (l0 := l) (by omega) hs3)
          clear hR3 hG3 hl3 hs3 hC3
          repeat' go_step
          obtain ⟨l3', hR3, hG3, hl3, hs3, hC3⟩ := HR2.out
          refine bodyPost_end (results_none rfl _ _ _) rfl ⟨rfl, ?_, hG3⟩
          rw [← hC3.done (l0 := l) (by omega) hs3]
          exact hR3
end Go.Proofs.Ytmpeniboccahdaa.Pch/- Contracts: a clone, and the sorted list. -/
namespace Go.Proofs.Ytmpeniboccahdaa.Pch
open Go.RowKit Go.QS
set_option linter.unusedVariables false

set_option maxRecDepth 100000 in
theorem clone_c (w : World) (v : Value) (l : List Pr) (h : PS w v l) (h9 : l.length ≤ 1000000000) :
    Calls Try.prog 63 #[v] w fun e w' => ∃ v', e = .returned v' ∧ w'.ownsRow w.heap.size 24 2 v' l.length (flat l) ∧ Ext w w' := by
  obtain ⟨A, c, rfl, hl, hn, hc, hs⟩ := h
  have hnil := fun w : World => Lib.run_eql_slice_nil (P := Try.prog) w 22 24 A l.length c 0 0 Try.underlying22
  cases A with
  | none =>
    have hl0 : l = [] := by
      cases l with
      | nil => rfl
      | cons p l => obtain ⟨b, o, h, _⟩ := hs (by simp [flat_cons]); cases h
    subst hl0
    have hnil := fun w : World => Lib.run_eql_slice_nil (P := Try.prog) w 22 24 none 0 c 0 0 Try.underlying22
    go_enter Try.func63, Try.ntmps63
    repeat' go_step
    go_ret
    exact ⟨_, rfl, World.ownsRow_nil _ _ _ _, Ext.refl _⟩
  | some a =>
    go_enter Try.func63, Try.ntmps63
    repeat' (first | (at_builtin; refine wpList_appE (W := w) rfl (.tmp 5) (.tmp 6) _ rfl 24 2 32 Try.underlying22 infoP (by decide) _ 0 [] rfl (own_lit [] 0 (by decide) rfl (Nat.le_refl _)) ((Ext.refl w).alloc (Nat.le_refl _) _) _ _ c (flat l) rfl hl (hs.alloc _) (flat_one _) (by unfold maxLen; omega) (by omega) ?_; intro v1 w1 hown hb) | go_step)
    go_ret
    refine ⟨_, rfl, ?_, hb⟩
    simpa using hown

set_option maxRecDepth 100000 in
theorem ins_nil (W : World) (v : Value) : Calls Try.prog 91 #[v, .int .i64 0, .int .i64 0, cmpV] W fun e w' => e = .returned (.tuple #[]) ∧ W = w' := by
  go_enter Try.func91, Try.ntmps91
  repeat' go_step
  refine wp_loop_once ?_
  repeat' go_step
  exact bodyPost_end (results_none rfl _ _ _) rfl ⟨rfl, rfl⟩

set_option maxRecDepth 100000 in
theorem stable_nil (W : World) (v : Value) : Calls Try.prog 83 #[v, .int .i64 0, cmpV] W fun e w' => e = .returned (.tuple #[]) ∧ W = w' := by
  go_enter Try.func83, Try.ntmps83
  repeat' go_step
  refine wp_loop_once ?_
  repeat' (first | (go_at_call 91; refine (ins_nil _ _).mono ?_; rintro e w' ⟨rfl, rfl⟩; go_simp) | go_step)
  refine wp_loop_once ?_
  repeat' go_step
  exact bodyPost_end (results_none rfl _ _ _) rfl ⟨rfl, rfl⟩

/-- A row that the call owns, empty or not. -/
theorem own_cases {base : Nat} {e : TypeId} {w : World} {v : Value} {l : List Pr} (h : w.ownsRow base e 2 v l.length (flat l)) : (l = [] ∧ (v = .slice none 0 0 ∨ ∃ g cap, v = .slice (some ⟨g, 0, none⟩) 0 cap ∧ Rw base e w g cap [])) ∨ ∃ g cap, v = .slice (some ⟨g, 0, none⟩) l.length cap ∧ 0 < l.length ∧ Rw base e w g cap l := by
  rcases h.2 with ⟨rfl, h0⟩ | ⟨g, cap, cur, rfl, r⟩
  · exact .inl ⟨List.eq_nil_of_length_eq_zero h0, .inl rfl⟩
  · cases l with
    | nil => exact .inl ⟨rfl, .inr ⟨g, cap, rfl, h⟩⟩
    | cons p l => exact .inr ⟨g, cap, rfl, by simp, h⟩

set_option maxRecDepth 100000 in
theorem sortfn_c (base : Nat) (w : World) (v : Value) (l : List Pr) (h : w.ownsRow base 24 2 v l.length (flat l)) (h9 : l.length ≤ 1000000000) :
    Calls Try.prog 64 #[v, cmpV] w fun e w' => e = .returned (.tuple #[]) ∧ w'.ownsRow base 24 2 v l.length (flat (ssort l)) ∧ w.grownBy w' v.ownBlock := by
  rcases own_cases h with ⟨rfl, h1⟩ | ⟨g, cap, rfl, h1, hR⟩
  · have hv : ∃ A c, v = .slice A 0 c := by
      rcases h1 with rfl | ⟨g, cap, rfl, _⟩
      · exact ⟨_, _, rfl⟩
      · exact ⟨_, _, rfl⟩
    obtain ⟨A, c, rfl⟩ := hv
    clear h1
    go_enter Try.func64, Try.ntmps64
    repeat' (first | (go_at_call 83; refine (stable_nil _ _).mono ?_; rintro e w' ⟨rfl, rfl⟩; go_simp) | go_step)
    refine bodyPost_end (results_none rfl _ _ _) rfl ⟨rfl, ?_, World.grownBy.refl _ _⟩
    rw [ssort_nil]; exact h
  · have HC := Lib.hid (stable_c base w g cap l.length l hR rfl h9)
    clear h hR
    go_enter Try.func64, Try.ntmps64
    repeat' (first | (go_at_call 83; refine HC.out.mono ?_; rintro e w1 ⟨rfl, H1⟩; replace H1 := Lib.hid H1; go_simp) | go_step)
    refine bodyPost_end (results_none rfl _ _ _) rfl ⟨rfl, ?_, H1.out.2⟩
    have := H1.out.1
    unfold Rw at this
    rwa [ssort_length] at this
end Go.Proofs.Ytmpeniboccahdaa.Pch