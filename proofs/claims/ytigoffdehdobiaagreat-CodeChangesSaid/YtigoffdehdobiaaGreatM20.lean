/- Texts joined. -/
import Derived.Test.YtigoffdehdobiaaGreatM19
set_option linter.unusedVariables false
set_option linter.unusedSimpArgs false
/- Contracts: a clone, and the sorted list. -/
namespace Go.Proofs.YtigoffdehdobiaaGreat
open Go.RowKit Go.QS
set_option linter.unusedVariables false

set_option maxRecDepth 100000 in
theorem clone_c (w : World) (v : Value) (l : List Pr) (h : PS w v l) (h9 : l.length ≤ 1000000000) :
    Calls Tryz.prog 70 #[v] w fun e w' => ∃ v', e = .returned v' ∧ w'.ownsRow w.heap.size 70 2 v' l.length (flat l) ∧ Ext w w' := by
  obtain ⟨A, c, rfl, hl, hn, hc, hs⟩ := h
  have hnil := fun w : World => Lib.run_eql_slice_nil (P := Tryz.prog) w 71 70 A l.length c 0 0 Tryz.underlying71
  cases A with
  | none =>
    have hl0 : l = [] := by
      cases l with
      | nil => rfl
      | cons p l => obtain ⟨b, o, h, _⟩ := hs (by simp [flat_cons]); cases h
    subst hl0
    have hnil := fun w : World => Lib.run_eql_slice_nil (P := Tryz.prog) w 71 70 none 0 c 0 0 Tryz.underlying71
    go_enter Tryz.func70, Tryz.ntmps70
    repeat' go_step
    go_ret
    exact ⟨_, rfl, World.ownsRow_nil _ _ _ _, Ext.refl _⟩
  | some a =>
    go_enter Tryz.func70, Tryz.ntmps70
    repeat' (first | (at_builtin; refine wpList_appE (W := w) rfl (.tmp 5) (.tmp 6) _ rfl 70 2 32 Tryz.underlying71 infoP (by decide) _ 0 [] rfl (own_lit [] 0 (by decide) rfl (Nat.le_refl _)) ((Ext.refl w).alloc (Nat.le_refl _) _) _ _ c (flat l) rfl hl (hs.alloc _) (flat_one _) (by unfold maxLen; omega) (by omega) ?_; intro v1 w1 hown hb) | go_step)
    go_ret
    refine ⟨_, rfl, ?_, hb⟩
    simpa using hown

set_option maxRecDepth 100000 in
theorem ins_nil (W : World) (v : Value) : Calls Tryz.prog 116 #[v, .int .i64 0, .int .i64 0, cmpV] W fun e w' => e = .returned (.tuple #[]) ∧ W = w' := by
  go_enter Tryz.func116, Tryz.ntmps116
  repeat' go_step
  refine wp_loop_once ?_
  repeat' go_step
  exact bodyPost_end (results_none rfl _ _ _) rfl ⟨rfl, rfl⟩

set_option maxRecDepth 100000 in
theorem stable_nil (W : World) (v : Value) : Calls Tryz.prog 94 #[v, .int .i64 0, cmpV] W fun e w' => e = .returned (.tuple #[]) ∧ W = w' := by
  go_enter Tryz.func94, Tryz.ntmps94
  repeat' go_step
  refine wp_loop_once ?_
  repeat' (first | (go_at_call 116; refine (ins_nil _ _).mono ?_; rintro e w' ⟨rfl, rfl⟩; go_simp) | go_step)
  refine wp_loop_once ?_
  repeat' go_step
  exact bodyPost_end (results_none rfl _ _ _) rfl ⟨rfl, rfl⟩

/-- A row that the call owns, empty or not. -/
theorem own_cases {base : Nat} {e : TypeId} {w : World} {v : Value} {l : List Pr} (h : w.ownsRow base e 2 v l.length (flat l)) : (l = [] ∧ (v = .slice none 0 0 ∨ ∃ g cap, v = .slice (some ⟨g, 0, none⟩) 0 cap ∧ Rw base e w g cap [])) ∨ ∃ g cap, v = .slice (some ⟨g, 0, none⟩) l.length cap ∧ 0 < l.length ∧ Rw base e w g cap l := by
  rcases h.2 with ⟨rfl, h0⟩ | ⟨g, cap, cur, rfl, r⟩
  · exact .inl ⟨List.eq_nil_of_length_eq_zero h0, .inl rfl⟩
  · cases l with
    | nil => exact .inl ⟨rfl, .inr ⟨g, cap, rfl, h⟩⟩
    | cons p l => exact .inr ⟨g, cap, rfl, by simp, h⟩

set_option maxRecDepth 100000 in
theorem sortfn_c (base : Nat) (w : World) (v : Value) (l : List Pr) (h : w.ownsRow base 70 2 v l.length (flat l)) (h9 : l.length ≤ 1000000000) :
    Calls Tryz.prog 71 #[v, cmpV] w fun e w' => e = .returned (.tuple #[]) ∧ w'.ownsRow base 70 2 v l.length (flat (ssort l)) ∧ w.grownBy w' v.ownBlock := by
  rcases own_cases h with ⟨rfl, h1⟩ | ⟨g, cap, rfl, h1, hR⟩
  · have hv : ∃ A c, v = .slice A 0 c := by
      rcases h1 with rfl | ⟨g, cap, rfl, _⟩
      · exact ⟨_, _, rfl⟩
      · exact ⟨_, _, rfl⟩
    obtain ⟨A, c, rfl⟩ := hv
    clear h1
    go_enter Tryz.func71, Tryz.ntmps71
    repeat' (first | (go_at_call 94; refine (stable_nil _ _).mono ?_; rintro e w' ⟨rfl, rfl⟩; go_simp) | go_step)
    refine bodyPost_end (results_none rfl _ _ _) rfl ⟨rfl, ?_, World.grownBy.refl _ _⟩
    rw [ssort_nil]; exact h
  · have HC := Lib.hid (stable_c base w g cap l.length l hR rfl h9)
    clear h hR
    go_enter Tryz.func71, Tryz.ntmps71
    repeat' (first | (go_at_call 94; refine HC.out.mono ?_; rintro e w1 ⟨rfl, H1⟩; replace H1 := Lib.hid H1; go_simp) | go_step)
    refine bodyPost_end (results_none rfl _ _ _) rfl ⟨rfl, ?_, H1.out.2⟩
    have := H1.out.1
    unfold Rw at this
    rwa [ssort_length] at this
end Go.Proofs.YtigoffdehdobiaaGreat
/- Contract: the sorted list. -/
namespace Go.Proofs.YtigoffdehdobiaaGreat
open Go.RowKit Go.QS
set_option linter.unusedVariables false

theorem keep_facts {L L' : List Pr} {k m n : Nat} {x : Pr} (hl : L'.length = n) (hd : L'.drop k = L.drop k) (hm : m ≤ k) (hk : k < n) : (L'.set m x).length = n ∧ (L'.set m x).drop (k + 1) = L.drop (k + 1) ∧ (L'.set m x).take (m + 1) = L'.take m ++ [x] := by
  refine ⟨by simpa using hl, ?_, ?_⟩
  · rw [List.drop_set_of_lt (by omega)]
    have := congrArg (List.drop 1) hd
    rwa [List.drop_drop, List.drop_drop] at this
  · rw [List.take_succ_eq_append_getElem (by rw [List.length_set]; omega)]
    simp [List.take_set_of_le]

theorem drop_next {L L' : List Pr} {k : Nat} (hd : L'.drop k = L.drop k) : L'.drop (k + 1) = L.drop (k + 1) := by
  have := congrArg (List.drop 1) hd
  rwa [List.drop_drop, List.drop_drop] at this
theorem get_of_drop {L L' : List Pr} {k j : Nat} (hd : L'.drop k = L.drop k) (hj : k ≤ j) : L'[j]? = L[j]? := by
  have := congrArg (·[j - k]?) hd
  simp only [List.getElem?_drop] at this
  rwa [show k + (j - k) = j by omega] at this

theorem own_prefix {base : Nat} {e : TypeId} {w : World} {g cap m : Nat} {L : List Pr} (h : Rw base e w g cap L) (hm : m ≤ L.length) : w.ownsRow base e 2 (.slice (some ⟨g, 0, none⟩) m cap) m (flat (L.take m)) := by
  refine ⟨by rw [flat_length, List.length_take_of_le hm], ?_⟩
  rcases h.2 with ⟨h', _⟩ | ⟨g', cap', cur, h', hb, hg, h3, h4, h5, h6⟩
  · cases h'
  · cases h'
    refine .inr ⟨g, cap, cur, rfl, hb, hg, by omega, h4, h5, ?_⟩
    rw [flat_take, ← h6, List.take_take]
    congr 1; omega

set_option maxRecDepth 100000 in
set_option maxHeartbeats 400000 in
theorem sorted_c (w : World) (v : Value) (l : List Pr) (h : PS w v l) (h9 : l.length ≤ 1000000000) :
    Calls Tryz.prog 59 #[v] w fun e w' => ∃ v', e = .returned v' ∧ w'.ownsRow w.heap.size 70 2 v' (sortedP l).length (flat (sortedP l)) ∧ Ext w w' := by
  have HC := Lib.hid (clone_c w v l h h9)
  clear h
  go_enter Tryz.func59, Tryz.ntmps59
  repeat' go_step
  refine HC.out.mono ?_
  rintro e w1 ⟨v1, rfl, hown, hb⟩
  replace hown := Lib.hid hown
  go_simp
  repeat' go_step
  refine (sortfn_c w.heap.size w1 v1 l hown.out h9).mono ?_
  rintro e w2 ⟨rfl, hown2, hg2⟩
  have hb2 : Ext w w2 := hb.grown hg2 hb.size (fun k hk => (hown.out.lt k hk).1)
  obtain ⟨L, hL⟩ : ∃ L, L = ssort l := ⟨_, rfl⟩
  have hLl : L.length = l.length := by rw [hL, ssort_length]
  rw [← hL, ← hLl] at hown2
  have HE : Hid (_ ∧ _) := Lib.hid ⟨hL, hLl⟩
  have hL9 : L.length ≤ 1000000000 := by omega
  clear hL hLl hg2 hown
  rcases own_cases hown2 with ⟨rfl, h1⟩ | ⟨g, cap, rfl, h1, hR⟩
  · have hv : ∃ A c, v1 = .slice A 0 c := by
      rcases h1 with rfl | ⟨g, cap, rfl, _⟩
      · exact ⟨_, _, rfl⟩
      · exact ⟨_, _, rfl⟩
    obtain ⟨A, c, rfl⟩ := hv
    replace hown2 := Lib.hid hown2
    clear h1
    go_simp
    repeat' go_step
    refine wp_loop_once ?_
    repeat' go_step
    go_ret
    have e : sortedP l = [] := by unfold sortedP; rw [← HE.out.1]; rfl
    rw [e]
    exact ⟨_, rfl, by simpa using hown2.out, hb2⟩
  · have HR := Lib.hid hR
    clear hown2 hR
    obtain ⟨n, hn⟩ : ∃ n, n = L.length := ⟨_, rfl⟩
    rw [← hn] at h1 hL9 ⊢
    have Hn := Lib.hid hn
    clear hn
    go_simp
    repeat' go_step
    go_loopg [4, 13] n (fun gk vm vk wr => ∃ m k : Nat, vm = .int .i64 m ∧ vk = .int .i64 k ∧ m ≤ k ∧ k ≤ n ∧ n - k ≤ gk ∧ Below w.heap.size w wr ∧ Hid (∃ L', Rw w.heap.size 70 wr g cap L' ∧ L'.length = n ∧ L'.drop k = L.drop k ∧ L'.take m ++ lastOf (L.drop k) = lastOf L))
    case atStart => exact ⟨0, 0, rfl, rfl, Nat.le_refl _, Nat.zero_le _, Nat.le_refl _, hb2, Lib.hid ⟨L, HR.out, Hn.out.symm, rfl, by simp⟩⟩
    case round =>
      obtain ⟨m, k, rfl, rfl, hmk, hkn, hgk, hB, HI⟩ := hrel
      obtain ⟨L', hR', hl', hd', hT'⟩ := HI.out
      by_cases hlt : k < n
      · have d1 : decide (k < n) = true := by simp [hlt]
        obtain ⟨x, hx⟩ := get_of_lt L (show k < L.length by have := Hn.out; omega)
        obtain ⟨hx1, hx2⟩ := hR'.get ((get_of_drop hd' (Nat.le_refl _)).trans hx)
        have hgl := hR'.lt
        have hgb := hR'.base_le
        have hdx := drop_cons hx
        obtain ⟨u, hu⟩ := get_of_lt L' (show m < L'.length by omega)
        obtain ⟨hu1, hu2⟩ := hR'.get hu
        have hfz := hR'.free
        obtain ⟨k1, hk1⟩ : ∃ k1, k1 = k + 1 := ⟨_, rfl⟩
        have hs1 : IntKind.i64.wrap ((k : Int) + 1) = (k1 : Int) := by rw [show (k : Int) + 1 = (k1 : Int) by omega]; exact IntWalk.i64_in _ (by omega)
        have hi1 : (k : Int) < (n : Int) := by omega
        have hi2 : (m : Int) < (n : Int) := by omega
        have HK1 := Lib.hid hk1
        have hkk : k < k1 := by omega
        by_cases hlt2 : k1 < n
        · have d2 : decide (k1 < n) = true := by simp [hlt2]
          obtain ⟨y, hy⟩ := get_of_lt L (show k1 < L.length by have := Hn.out; omega)
          obtain ⟨hy1, hy2⟩ := hR'.get ((get_of_drop hd' (show k ≤ k1 by omega)).trans hy)
          have hi3 : (k1 : Int) < (n : Int) := by omega
          have hdy := drop_cons hy
          rw [hk1] at hdy
          by_cases hxy : x.1 = y.1
          · have hq : (y.1 == x.1) = true := by simp [hxy]
            have HX : Hid (lastOf (L.drop k) = lastOf (L.drop (k + 1))) := Lib.hid (by rw [hdx, hdy, lastOf_skip hxy])
            clear hR' hl' hd' hT' hx hy hdx hdy hxy hu hk1 hu1 hu2
            repeat' go_step
            go_quiet (fail)
            repeat' go_step
            obtain ⟨L', hR', hl', hd', hT'⟩ := HI.out
            go_roundg (n - (k + 1))
            case measure => omega
            case rel => exact ⟨m, k + 1, rfl, by rw [HK1.out], by omega, by omega, by omega, below_drewN (hB.alloc hB.size _) _, Lib.hid ⟨L', (hR'.ext ((Ext.refl _).alloc (Nat.le_refl _) _)).drewN _, hl', drop_next hd', by rw [← HX.out]; exact hT'⟩⟩
          · have hq : (y.1 == x.1) = false := by simp; exact fun e => hxy e.symm
            have HX : Hid (lastOf (L.drop k) = x :: lastOf (L.drop (k + 1))) := Lib.hid (by rw [hdx, hdy, lastOf_keep hxy])
            clear hR' hl' hd' hT' hx hy hdx hdy hxy hu hk1
            repeat' go_step
            go_quiet (fail)
            repeat' go_step
            obtain ⟨L', hR', hl', hd', hT'⟩ := HI.out
            have hK := keep_facts (x := x) hl' hd' hmk hlt
            go_roundg (n - (k + 1))
            case measure => omega
            case rel =>
              refine ⟨m + 1, k + 1, by go_num, by rw [HK1.out], by omega, by omega, by omega, ?_, Lib.hid ⟨L'.set m x, ?_, hK.1, hK.2.1, by rw [hK.2.2, List.append_assoc, List.singleton_append, ← HX.out]; exact hT'⟩⟩
              · exact ((below_drewN (hB.alloc hB.size _) _).setCell hgb _).setCell hgb _
              · exact ((hR'.ext ((Ext.refl _).alloc (Nat.le_refl _) _)).drewN _).set m x
        · have d2 : decide (k1 < n) = false := by simp; omega
          have HX : Hid (lastOf (L.drop k) = x :: lastOf (L.drop (k + 1))) := Lib.hid (by rw [hdx, List.drop_eq_nil_of_le (show L.length ≤ k + 1 by have := Hn.out; omega)]; rfl)
          clear hR' hl' hd' hT' hx hdx hu hk1
          repeat' go_step
          go_quiet (fail)
          repeat' go_step
          obtain ⟨L', hR', hl', hd', hT'⟩ := HI.out
          have hK := keep_facts (x := x) hl' hd' hmk hlt
          go_roundg (n - (k + 1))
          case measure => omega
          case rel =>
            refine ⟨m + 1, k + 1, by go_num, by rw [HK1.out], by omega, by omega, by omega, ?_, Lib.hid ⟨L'.set m x, ?_, hK.1, hK.2.1, by rw [hK.2.2, List.append_assoc, List.singleton_append, ← HX.out]; exact hT'⟩⟩
            · exact ((below_drewN (hB.alloc hB.size _) _).setCell hgb _).setCell hgb _
            · exact ((hR'.ext ((Ext.refl _).alloc (Nat.le_refl _) _)).drewN _).set m x
      · have d1 : decide (k < n) = false := by simp; omega
        have e : L'.take m = sortedP l := by
          have e1 : lastOf (L.drop k) = [] := by rw [List.drop_eq_nil_of_le (by have := Hn.out; omega)]; rfl
          rw [e1, List.append_nil] at hT'
          rw [hT', HE.out.1]; rfl
        have hm2 : (L'.take m).length = m := List.length_take_of_le (by omega)
        have hcap : m ≤ cap ∧ n ≤ cap := by
          rcases hR'.2 with ⟨h, _⟩ | ⟨g', cap', cur, h, _, _, h3, _⟩
          · cases h
          · cases h; omega
        obtain ⟨hcap1, hcap2⟩ := hcap
        have HF : Hid (_ ∧ _ ∧ _ ∧ _) := Lib.hid ⟨e, hm2, hR', hl'⟩
        clear hR' hl' hd' hT' e hm2
        repeat' go_step
        go_ret
        obtain ⟨e, hm2, hR', hl'⟩ := HF.out
        refine ⟨_, rfl, ?_, hB⟩
        rw [← e, hm2]
        exact own_prefix hR' (by omega)
end Go.Proofs.YtigoffdehdobiaaGreat
