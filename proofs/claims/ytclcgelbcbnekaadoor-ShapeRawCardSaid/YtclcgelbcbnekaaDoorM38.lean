/- Texts joined. -/
import Derived.Test.YtclcgelbcbnekaaDoorM35
import Derived.Test.YtclcgelbcbnekaaDoorM13
import Derived.Test.YtclcgelbcbnekaaDoorM39
import Derived.Deep.RegionHeld3
import Derived.Test.YtclcgelbcbnekaaDoorM33
set_option linter.unusedVariables false
set_option linter.unusedSimpArgs false
/- Contracts: the document's Sorted, All. -/
namespace Go.Proofs.YtclcgelbcbnekaaDoor
open Go.RowKit Go.QS Go.QS.Nk
set_option linter.unusedVariables false
variable [Zero (Nat → Prop)]
set_option linter.unusedSectionVars false

set_option maxRecDepth 100000 in
set_option maxHeartbeats 400000 in
theorem rsorted7_c (w : World) (v : Value) (l : List Pr) (h : PS w v l) (h9 : l.length ≤ 300000000) (hp9 : ∀ p ∈ l, p.1.length ≤ 9223372036854775807) :
    Calls Tryd.prog 36 #[v] w fun e w' => ∃ v', e = .returned v' ∧ w'.ownsRow w.heap.size 52 2 v' (rsort l).length (flat (rsort l)) ∧ Ext w w' := by
  obtain ⟨A, c, rfl, hl, hn, hc, hs⟩ := h
  obtain ⟨n, hn2⟩ : ∃ n, n = l.length := ⟨_, rfl⟩
  rw [← hn2] at h9 hn ⊢
  have Hn : Hid (_ ∧ _) := Lib.hid ⟨hn2, hp9⟩
  clear hn2 hl hp9
  go_enter Tryd.func36, Tryd.ntmps36
  repeat' go_step
  go_loopg [3, 8] n (fun gk vo vi wr => ∃ i : Nat, vi = .int .i64 i ∧ i ≤ n ∧ n - i ≤ gk ∧ Ext w wr ∧ Hid (wr.ownsRow w.heap.size 52 2 vo (rsort (l.take i)).length (flat (rsort (l.take i)))))
  case atStart => exact ⟨0, rfl, Nat.zero_le _, by omega, Ext.refl _, Lib.hid (World.ownsRow_nil _ _ _ _)⟩
  case round =>
    obtain ⟨i, rfl, hin, hgk, hE, HO⟩ := hrel
    rcases Nat.lt_or_ge i n with hlt | hge
    · have d1 : decide (i < n) = true := by simp [hlt]
      obtain ⟨q, hq⟩ := get_of_lt l (show i < l.length by have := Hn.out.1; omega)
      obtain ⟨b, o, rfl, hq1, hq2⟩ := seg_pair (hs.below hE) hq
      have hi1 : (i : Int) < (n : Int) := by omega
      have hle : (rsort (l.take i)).length ≤ i := Nat.le_trans (rsort_length _) (List.length_take_le _ _)
      have HC := Lib.hid (fun W (hW : Ext wr W) => rput_c W u3 (rsort (l.take i)) q ((PS.of_own HO.out).below hW) (by omega) (Hn.out.2 q (List.mem_of_getElem? hq)))
      have HQ : Hid (rsort (l.take (i + 1)) = rput (rsort (l.take i)) q) := Lib.hid (by rw [take_snoc hq, rsort_snoc])
      clear hq
      repeat' go_step
      refine (HC.out _ ((Ext.refl wr).alloc (Nat.le_refl _) _)).mono ?_
      rintro e w2 ⟨v2, rfl, hown, hb⟩
      have HO2 := Lib.hid hown
      have hE2 : Ext w w2 := Ext.trans (hE.alloc hE.size _) hb
      clear hown hb
      go_simp
      repeat' go_step
      go_roundg (n - (i + 1))
      case measure => omega
      case rel => exact ⟨i + 1, by go_num, by omega, Nat.le_refl _, hE2, Lib.hid (by rw [HQ.out]; exact own_up HO2.out (hE.alloc hE.size _).size)⟩
    · obtain rfl : i = n := by omega
      have d1 : decide (i < i) = false := by simp
      repeat' go_step
      go_ret
      have := HO.out
      rw [List.take_of_length_le (by have := Hn.out.1; omega)] at this
      exact ⟨_, rfl, this, hE⟩

/-- What a chunk gives. -/
def allF (is : Nat → Nat) (p : Nat → Pr) (K : Nat → List Pr) (lv c : Nat) : List Pr := if is c = 1 then [p c] else if is c = 2 then (if lv < 13 then K c else []) else []
set_option maxRecDepth 100000 in
set_option maxHeartbeats 2000000 in
theorem all7_g (w : World) (q lv : Nat) (A : Array Value) (v : Value) (l0 : List Pr) (is : Nat → Nat) (p : Nat → Pr) (K : Nat → List Pr) (R : Nat → Nat → Prop) (hq : w.heap[q]? = some (.cells A TTY (0, 0))) (a1 : A[1]? = some v) (hP : PS w v l0)
    (hE : ∀ c, c < 32 → DE (R c) A c (is c) (p c)) (hlv : lv ≤ 13) (h9 : (l0 ++ (List.range 32).flatMap (allF is p K lv)).length ≤ 1000000)
    (hC : lv < 13 → ∀ c q', c < 32 → is c = 2 → R c q' → ∀ W, Ext w W → Calls Tryd.prog 35 #[ptr q', .int .i64 ((lv : Int) + 1)] W fun e w' => ∃ v', e = .returned v' ∧ w'.ownsRow W.heap.size R3T 2 v' (K c).length (flat (K c)) ∧ Ext W w') :
    Calls Tryd.prog 35 #[ptr q, .int .i64 (lv : Int)] w fun e w' => ∃ v', e = .returned v' ∧ w'.ownsRow w.heap.size R3T 2 v' (l0 ++ (List.range 32).flatMap (allF is p K lv)).length (flat (l0 ++ (List.range 32).flatMap (allF is p K lv))) ∧ Ext w w' := by
  obtain ⟨F, hF⟩ : ∃ F, F = allF is p K lv := ⟨_, rfl⟩
  rw [← hF] at h9 ⊢
  obtain ⟨A0, C0, rfl, _, hn0, hC0, hs0⟩ := hP
  obtain ⟨n0, hn⟩ : ∃ n, n = l0.length := ⟨_, rfl⟩
  rw [← hn] at hn0 a1
  have hsub : ∀ c, c ≤ 32 → (l0 ++ (List.range c).flatMap F).length ≤ 1000000 := fun c hc => by
    refine Nat.le_trans ?_ h9
    have e : List.range 32 = List.range c ++ (List.range 32).drop c := by
      have h1 := List.take_append_drop c (List.range 32)
      rw [List.take_range, Nat.min_eq_left hc] at h1
      exact h1.symm
    rw [e, List.flatMap_append, List.length_append, List.length_append, List.length_append]; omega
  have hn9 : n0 ≤ 1000000 := by have := hsub 0 (by omega); simp at this; omega
  have z01 : w.cell? ⟨q, 1, none⟩ = some (.slice A0 n0 C0) := (cellG hq 1).trans a1
  have z01' := ext_cellS ((Ext.refl w).alloc (Nat.le_refl _) (.cells #[] 52)) z01
  have HA := Lib.hid (And.intro hq (And.intro hE (And.intro hC (And.intro hs0 (And.intro hn hF)))))
  have HS9 := Lib.hid hsub
  clear hq hE hC hs0 hn hsub h9 a1 hF
  go_enter Tryd.func35, Tryd.ntmps35
  repeat' (go_not_at_region 3; (first | go_skip | go_guarded | (at_builtin; refine wpList_appE (W := w) rfl (.tmp 7) (.tmp 11) _ rfl R3T 2 32 Tryd.underlying46 infoRY (by decide) _ 0 [] (by rfl) (own_lit (size := 2) [] 0 (by decide) rfl (Nat.le_refl _)) ((Ext.refl w).alloc (Nat.le_refl _) _) A0 n0 C0 (flat l0) (by rfl) (by rw [flat_length, HA.out.2.2.2.2.1]) (HA.out.2.2.2.1.alloc _) (flat_one _) (by unfold maxLen; omega) (by omega) ?_; intro v1 w1 r1 f1) | go_step))
  have H1 : Hid (Ext w w1 ∧ w1.ownsRow w.heap.size R3T 2 v1 (l0 ++ (List.range 0).flatMap F).length (flat (l0 ++ (List.range 0).flatMap F))) := Lib.hid ⟨f1, by simpa [HA.out.2.2.2.2.1] using r1⟩
  clear r1 f1 z01 z01'
  repeat' (go_not_at_region 3; (first | go_skip | go_guarded | go_step))
  go_loopg [5, 6] 32 (fun gk v5 v6 wr => ∃ c : Nat, v6 = .int .i64 c ∧ c ≤ 32 ∧ 32 - c ≤ gk ∧ Hid (Ext w wr ∧ wr.ownsRow w.heap.size R3T 2 v5 (l0 ++ (List.range c).flatMap F).length (flat (l0 ++ (List.range c).flatMap F))))
  case atStart => exact ⟨0, rfl, Nat.zero_le _, Nat.le_refl _, H1⟩
  case round =>
    obtain ⟨c, rfl, hc, hgk, HI⟩ := hrel
    rcases Nat.lt_or_ge c 32 with hlt | hge
    · have d1 : decide (c < 32) = true := by simp [hlt]
      have hc1 : (c : Int) < 32 := by omega
      have hc0 : (0 : Int) ≤ (c : Int) := by omega
      have hqr := box_extG HA.out.1 HI.out.1
      obtain ⟨b0, b1, b2⟩ := HA.out.2.1 c hlt
      have z0 := (cellG hqr (2 + c)).trans b0
      have hstep : l0 ++ (List.range (c + 1)).flatMap F = (l0 ++ (List.range c).flatMap F) ++ F c := by
        rw [List.range_succ, List.flatMap_append, List.append_assoc]; simp
      have hl1 := HS9.out (c + 1) hlt
      have hl0 := HS9.out c hc
      obtain ⟨L, hL⟩ : ∃ L, L = l0 ++ (List.range c).flatMap F := ⟨_, rfl⟩
      obtain ⟨nl, hnl⟩ : ∃ n, n = L.length := ⟨_, rfl⟩
      rw [← hL] at hl0 hstep
      rw [← hnl] at hl0
      have HL : Hid (w.heap.size ≤ wr.heap.size ∧ Ext w wr ∧ wr.ownsRow w.heap.size R3T 2 u5 nl (flat L)) := Lib.hid ⟨HI.out.1.size, HI.out.1, by rw [hnl, hL]; exact HI.out.2⟩
      have HSt := Lib.hid (And.intro hstep hnl)
      have hFc : F c = allF is p K lv c := by rw [HA.out.2.2.2.2.2]
      clear hL hnl hstep HI
      by_cases i1 : is c = 1
      · have e1 : F c = [p c] := by rw [hFc]; unfold allF; rw [if_pos i1]
        obtain ⟨b3, b4⟩ := b1 i1
        have z1 := (cellG hqr (34 + c * 2)).trans b3
        have z2 := (cellG hqr (34 + c * 2 + 1)).trans b4
        rw [i1] at z0
        rw [HSt.out.1, e1, List.length_append, ← HSt.out.2, List.length_singleton] at hl1
        have HF := Lib.hid e1
        have HZ0 := Lib.hid z0
        clear b0 b1 b2 b3 b4 hqr hFc e1
        repeat' (go_not_at_region 7; (first | go_skip | go_guarded | (at_builtin; refine wpList_appE (W := w) rfl (.tmp 24) (.tmp 31) _ rfl R3T 2 32 Tryd.underlying46 infoRY (by decide) u5 nl (flat L) rfl (HL.out.2.2.alloc _) (ext_alloc HL.out.2.1 _) _ 1 1 [str (p c).1, str (p c).2] rfl rfl (Seg.new _ [_, _] _ (by simp)) (by intro u hu; simp at hu; rcases hu with rfl | rfl <;> rfl) (by unfold maxLen; omega) (by omega) ?_; intro v2 w2 r2 f2) | go_step))
        have H2 : Hid (Ext w w2 ∧ w2.ownsRow w.heap.size R3T 2 v2 (l0 ++ (List.range (c + 1)).flatMap F).length (flat (l0 ++ (List.range (c + 1)).flatMap F))) := Lib.hid ⟨f2, by rw [HSt.out.1, HF.out, List.length_append, ← HSt.out.2, List.length_singleton, flat_append]; exact r2⟩
        have hq2 := box_extG HA.out.1 f2
        obtain ⟨b0, _, _⟩ := HA.out.2.1 c hlt
        clear z0 z1 z2
        have z0 := (cellG hq2 (2 + c)).trans b0
        rw [i1] at z0
        clear r2 f2 hq2 b0
        repeat' (first | go_skip | go_guarded | go_step)
        go_roundg (32 - (c + 1))
        case measure => omega
        case rel => exact ⟨c + 1, by go_num, by omega, Nat.le_refl _, H2⟩
      · have n1 : ((is c : Int) == 1) = false := by rw [beq_eq_false_iff_ne]; omega
        by_cases i2 : is c = 2
        · by_cases hl13 : lv < 13
          · have e1 : F c = K c := by rw [hFc]; unfold allF; rw [if_neg i1, if_pos i2, if_pos hl13]
            obtain ⟨q', b3, hR⟩ := b2 i2
            have z1 := (cellG hqr (98 + c)).trans b3
            rw [i2] at z0 n1
            have d13 : (lv : Int) < 13 := by omega
            have d13' : decide ((lv : Int) < 13) = true := by simp [d13]
            have d13n : decide (lv < 13) = true := by simp [hl13]
            rw [HSt.out.1, e1, List.length_append, ← HSt.out.2] at hl1
            obtain ⟨m, hm⟩ : ∃ m, m = (K c).length := ⟨_, rfl⟩
            rw [← hm] at hl1
            have HF := Lib.hid (And.intro e1 hm)
            have HCk := Lib.hid (HA.out.2.2.1 hl13 c q' hlt i2 hR wr HL.out.2.1)
            clear b0 b1 b2 b3 hqr hFc e1 hm hR
            repeat' (first | go_at_call 35 | go_skip | go_guarded | go_step)
            refine HCk.out.mono ?_
            rintro e w2 ⟨v2, rfl, r2, f2⟩
            obtain ⟨A2, C2, rfl⟩ := own_slice r2
            rw [← HF.out.2] at r2 ⊢
            have H2 : Hid (Ext w w2 ∧ w2.ownsRow w.heap.size R3T 2 u5 nl (flat L) ∧ Seg w2 A2 (flat (K c))) := Lib.hid ⟨Ext.trans HL.out.2.1 f2, row_ext HL.out.2.2 f2, (by obtain ⟨A, c', e, _, _, _, hs⟩ := Sl.of_own r2; cases e; exact hs)⟩
            clear r2 f2 z0 z1
            go_simp
            repeat' (first | go_skip | go_guarded | (at_builtin; refine wpList_appE (W := w) rfl (.tmp 44) (.tmp 53) _ rfl R3T 2 32 Tryd.underlying46 infoRY (by decide) u5 nl (flat L) rfl (by exact H2.out.2.1) (by exact H2.out.1) _ m _ (flat (K c)) rfl (by rw [flat_length, HF.out.2]) (by exact H2.out.2.2) (flat_one _) (by unfold maxLen; omega) (by omega) ?_; intro v3 w3 r3 f3) | go_step)
            have H3 : Hid (Ext w w3 ∧ w3.ownsRow w.heap.size R3T 2 v3 (l0 ++ (List.range (c + 1)).flatMap F).length (flat (l0 ++ (List.range (c + 1)).flatMap F))) := Lib.hid ⟨f3, by rw [HSt.out.1, HF.out.1, List.length_append, ← HSt.out.2, ← HF.out.2, flat_append]; exact r3⟩
            clear r3 f3
            go_roundg (32 - (c + 1))
            case measure => omega
            case rel => exact ⟨c + 1, by go_num, by omega, Nat.le_refl _, H3⟩
          · have e1 : F c = [] := by rw [hFc]; unfold allF; rw [if_neg i1, if_pos i2, if_neg hl13]
            rw [i2] at z0 n1
            have d13 : ¬ (lv : Int) < 13 := by omega
            have d13' : decide ((lv : Int) < 13) = false := by simp; omega
            have d13n : decide (lv < 13) = false := by simp; omega
            have H2 : Hid (Ext w wr ∧ wr.ownsRow w.heap.size R3T 2 u5 (l0 ++ (List.range (c + 1)).flatMap F).length (flat (l0 ++ (List.range (c + 1)).flatMap F))) := Lib.hid ⟨HL.out.2.1, by rw [HSt.out.1, e1, List.append_nil, ← HSt.out.2]; exact HL.out.2.2⟩
            clear b0 b1 b2 hqr hFc e1
            repeat' (first | go_skip | go_guarded | go_step)
            go_roundg (32 - (c + 1))
            case measure => omega
            case rel => exact ⟨c + 1, by go_num, by omega, Nat.le_refl _, H2⟩
        · have e1 : F c = [] := by rw [hFc]; unfold allF; rw [if_neg i1, if_neg i2]
          have n2 : ((is c : Int) == 2) = false := by rw [beq_eq_false_iff_ne]; omega
          have n1' : (is c == 1) = false := by rw [beq_eq_false_iff_ne]; exact i1
          have n2' : (is c == 2) = false := by rw [beq_eq_false_iff_ne]; exact i2
          obtain ⟨ic, hic⟩ : ∃ i, i = is c := ⟨_, rfl⟩
          rw [← hic] at z0 n1 n2 n1' n2'
          have H2 : Hid (Ext w wr ∧ wr.ownsRow w.heap.size R3T 2 u5 (l0 ++ (List.range (c + 1)).flatMap F).length (flat (l0 ++ (List.range (c + 1)).flatMap F))) := Lib.hid ⟨HL.out.2.1, by rw [HSt.out.1, e1, List.append_nil, ← HSt.out.2]; exact HL.out.2.2⟩
          clear b0 b1 b2 hqr hFc e1 hic i1 i2
          repeat' (first | go_skip | go_guarded | go_step)
          go_roundg (32 - (c + 1))
          case measure => omega
          case rel => exact ⟨c + 1, by go_num, by omega, Nat.le_refl _, H2⟩
    · obtain rfl : c = 32 := by omega
      have d1 : decide (32 < 32) = false := by decide
      repeat' (first | go_skip | go_guarded | go_step)
      go_ret
      exact ⟨_, rfl, HI.out.2, HI.out.1⟩
theorem all7_c : ∀ (t : NT) (lv : Nat) (w : World) (q : Nat), DN w t q → lv ≤ 13 → (allN t (13 - lv)).length ≤ 1000000 →
    Calls Tryd.prog 35 #[ptr q, .int .i64 (lv : Int)] w fun e w' => ∃ v', e = .returned v' ∧ w'.ownsRow w.heap.size R3T 2 v' (allN t (13 - lv)).length (flat (allN t (13 - lv))) ∧ Ext w w'
  | .bk l, lv, w, q, ⟨A, v, h1, h2, h3, h4, h5⟩, hlv, h9 => by
    have e : l ++ (List.range 32).flatMap (allF (fun _ => 0) (fun _ => ([], [])) (fun _ => []) lv) = allN (.bk l) (13 - lv) := by
      have e0 : ∀ n, (List.range n).flatMap (allF (fun _ => 0) (fun _ => (([] : List UInt8), ([] : List UInt8))) (fun _ => []) lv) = [] := fun n => List.flatMap_eq_nil_iff.2 fun c _ => rfl
      rw [e0, List.append_nil]; rfl
    have := all7_g w q lv A v l (fun _ => 0) (fun _ => ([], [])) (fun _ => []) (fun _ _ => False) h1 h3 h4 (fun c hc => ⟨h5 c hc, fun e => (by cases e), fun e => (by cases e)⟩) hlv (by rw [e]; exact h9) (fun _ c q' _ _ h => h.elim)
    rw [e] at this
    exact this
  | .inn is p k, lv, w, q, ⟨A, h1, h2, h3, h4⟩, hlv, h9 => by
    have e : [] ++ (List.range 32).flatMap (allF is p (fun c => allN (k c) (12 - lv)) lv) = allN (.inn is p k) (13 - lv) := by
      rw [List.nil_append]
      rcases Nat.lt_or_ge lv 13 with hl | hl
      · have e0 : 13 - lv = (12 - lv) + 1 := by omega
        rw [e0]
        show _ = (List.range 32).flatMap _
        congr 1
        funext c
        unfold allF
        rw [if_pos hl]
      · have e0 : 13 - lv = 0 := by omega
        rw [e0]
        show _ = (List.range 32).flatMap _
        congr 1
        funext c
        have hn : ¬ lv < 13 := by omega
        simp only [allF, if_neg hn]
    have hle : ∀ c, c < 32 → is c = 2 → lv < 13 → (allN (k c) (12 - lv)).length ≤ 1000000 := fun c hc i2 hl => by
      rw [← e, List.nil_append] at h9
      obtain ⟨a, b, he⟩ := List.append_of_mem (List.mem_range.2 hc)
      rw [he, List.flatMap_append, List.flatMap_cons, List.length_append, List.length_append] at h9
      have : allF is p (fun c => allN (k c) (12 - lv)) lv c = allN (k c) (12 - lv) := by unfold allF; rw [if_neg (by omega), if_pos i2, if_pos hl]
      rw [this] at h9
      omega
    have := all7_g w q lv A (.slice none 0 0) [] is p (fun c => allN (k c) (12 - lv)) (fun c q' => DN w (k c) q') h1 h3 (Sl.nil _ _) h4 hlv (by rw [e]; exact h9) (fun hl c q' hc i2 hR W f => by
      have ih := all7_c (k c) (lv + 1) W q' (hR.ext f) (by omega) (by rw [show 13 - (lv + 1) = 12 - lv by omega]; exact hle c hc i2 hl)
      rw [show 13 - (lv + 1) = 12 - lv by omega] at ih
      exact ih)
    rw [e] at this
    exact this
end Go.Proofs.YtclcgelbcbnekaaDoor
/- Contract: the document's Canon. -/
namespace Go.QS
open Go Go.RowKit Go.QS.Nk
variable [Zero (Nat → Prop)]
set_option linter.unusedSectionVars false
theorem rsort_mem : ∀ {l : List Pr}, (l.Pairwise fun p q => p.1 ≠ q.1) → ∀ x, x ∈ rsort l ↔ x ∈ l := by
  intro l
  induction l using snoc_ind with
  | h0 => intro _ x; simp [rsort]
  | h1 l q ih =>
    intro h x
    obtain ⟨h1, _, h2⟩ := List.pairwise_append.1 h
    rw [rsort_snoc, mem_rput, ih h1, List.mem_append, List.mem_singleton]
    constructor
    · rintro (rfl | ⟨h3, _⟩)
      · exact .inr rfl
      · exact .inl h3
    · rintro (h3 | rfl)
      · exact .inr ⟨h3, h2 x h3 q (List.mem_singleton_self q)⟩
      · exact .inl rfl
theorem rsort_perm {l : List Pr} (h : l.Pairwise fun p q => p.1 ≠ q.1) : (rsort l).Perm l := by
  refine (List.perm_ext_iff_of_nodup ?_ ?_).2 (rsort_mem h)
  · exact List.Pairwise.imp (fun h e => by rw [e] at h; exact List.lt_irrefl _ h) (rsort_rise l)
  · exact List.Pairwise.imp (fun h e => h (by rw [e])) h
end Go.QS
namespace Go.Proofs.YtclcgelbcbnekaaDoor
open Go Go.RowKit Go.QS Go.QS.Nk
set_option linter.unusedVariables false
variable [Zero (Nat → Prop)]
set_option linter.unusedSectionVars false

theorem allN_sm : ∀ (t : NT) (f : Nat), NSm t → PSm (allN t f)
  | .bk l, f, h => h.1
  | .inn is p k, f, h => by
    intro x hx
    obtain ⟨c, hc, hx⟩ := List.mem_flatMap.1 (show x ∈ (List.range 32).flatMap _ from hx)
    have hc' := List.mem_range.1 hc
    by_cases i1 : is c = 1
    · rw [if_pos i1] at hx
      rw [List.mem_singleton.1 hx]
      exact (h c hc').1 i1
    · rw [if_neg i1] at hx
      by_cases i2 : is c = 2
      · rw [if_pos i2] at hx
        cases f with
        | zero => cases hx
        | succ f => exact allN_sm (k c) f ((h c hc').2 i2) x hx
      · rw [if_neg i2] at hx; cases hx
/-- The document's Canon says just what canon does. -/
theorem doc_canon {H : List UInt8 → Nat} {t : NT} (hs : NSm t) (h9 : (allN t 13).length < 65536) : okN H t [] ↔ (rsort (allN t 13)).length = (allN t 13).length ∧ lookN t 13 = shp H 13 (rsort (allN t 13)) := by
  constructor
  · intro h
    have e : allN t 13 = prsN t := allN_ok t [] h
    obtain ⟨_, h2, h3⟩ := ok_look t [] h
    rw [e]
    have hp := rsort_perm h2
    exact ⟨hp.length_eq, h3 _ (rsort_rise _) hp⟩
  · rintro ⟨_, h2⟩
    have hm := allN_sm t 13 hs
    refine (look_ok H hs ⟨rsort_rise _, fun p hp => hm p (rsort_sub _ p hp), Nat.lt_of_le_of_lt (rsort_length _) h9⟩ h2).1
theorem of7Y_c (H : List UInt8 → Nat) (l : List Pr) (h9 : (shp H 13 l).length ≤ 70000000) (w : World) (q : Nat) (hR : DR H w 13 q l) :
    Calls Tryd.prog 10 #[ptr q, .int .i64 0] w fun e w' => ∃ v', e = .returned v' ∧ BS w' v' (shp H 13 l) ∧ Ext w w' := by
  have h0 := of7_c (trT H 13 l) 0 w q (DR.dn 13 hR) (by decide) (by rw [show 13 - 0 = 13 from rfl, lookN_trT]; exact h9) w (Ext.refl w)
  rw [show 13 - 0 = 13 from rfl, lookN_trT] at h0
  refine h0.mono ?_
  rintro e w' ⟨v', rfl, r, f⟩
  exact ⟨v', rfl, BS.of_own r, f⟩
set_option maxRecDepth 100000 in
set_option maxHeartbeats 4000000 in
theorem rcanon7_c (w : World) (h : Hs) (hk : h.Ok) (q : Nat) (t : NT) (hD : DN w t q) (hs : NSm t) (h9 : (allN t 13).length ≤ 60000) (hl9 : (lookN t 13).length ≤ 70000000) (hq9 : ∀ H, (shp H 13 (rsort (allN t 13))).length ≤ 70000000) :
    Calls Tryd.prog 12 #[hsV h, ptr q] w fun e w' => ((okN h.hash t [] ∧ e = .returned (.bool true)) ∨ (¬ okN h.hash t [] ∧ e = .returned (.bool false))) ∧ Ext w w' := by
  have HOK := Lib.hid (doc_canon (H := h.hash) hs (by omega))
  have HSm := Lib.hid (allN_sm t 13 hs)
  have hq9 := hq9 h.hash
  obtain ⟨L, hL⟩ : ∃ L, L = allN t 13 := ⟨_, rfl⟩
  have HAl := Lib.hid (fun W (f : Ext w W) => all7_c t 0 W q (hD.ext f) (by decide) (show (allN t (13 - 0)).length ≤ 1000000 by rw [show 13 - 0 = 13 from rfl]; omega))
  rw [show 13 - 0 = 13 from rfl, ← hL] at HAl
  rw [← hL] at HOK HSm h9 hq9
  obtain ⟨OK, hOK⟩ : ∃ x, x = okN h.hash t [] := ⟨_, rfl⟩
  rw [← hOK] at HOK ⊢
  obtain ⟨BT, hBT⟩ : ∃ B, B = lookN t 13 := ⟨_, rfl⟩
  have HO1' : Hid (∀ W, Ext w W → Calls Tryd.prog 10 #[ptr q, .int .i64 0] W fun e w' => ∃ v', e = .returned v' ∧ BS w' v' BT ∧ Ext W w') := Lib.hid (fun W f => by
    have h0 := of7_c t 0 w q hD (by decide) (by rw [show 13 - 0 = 13 from rfl]; exact hl9) W f
    rw [show 13 - 0 = 13 from rfl, ← hBT] at h0
    refine h0.mono ?_
    rintro e w' ⟨v', rfl, r, f⟩
    exact ⟨v', rfl, BS.of_own r, f⟩)
  rw [← hBT] at HOK
  clear hD hs hL hOK hBT hl9
  go_enter Tryd.func12, Tryd.ntmps12
  repeat' (go_not_at_region 1; (first | go_skip | go_guarded | go_step))
  obtain ⟨gh, hgh⟩ : ∃ g, g = w.heap.size := ⟨_, rfl⟩
  rw [← hgh]
  refine wp_nameS (fun w' => RhAt w' gh h ∧ Ext w w') ⟨by rw [hgh]; exact heap_newG w _, (Ext.refl w).alloc (Nat.le_refl _) _⟩ ?_
  clear hgh
  intro wa HW
  repeat' (first | go_at_call 35 | go_skip | go_guarded | go_step)
  refine (HAl.out wa HW.out.2).mono ?_
  rintro e w1 ⟨vL, rfl, r1, f1⟩
  have H1 : Hid (RhAt w1 gh h ∧ Ext w w1 ∧ PS w1 vL L) := Lib.hid ⟨HW.out.1.ext f1, Ext.trans HW.out.2 f1, PS.of_own r1⟩
  clear r1 f1 HAl
  go_simp
  repeat' (first | go_at_call 36 | go_skip | go_guarded | go_step)
  refine (rsorted7_c w1 vL L H1.out.2.2 (by omega) (fun p hp => by have := (HSm.out p hp).1; omega)).mono ?_
  rintro e w3 ⟨vs, rfl, r2, f2⟩
  obtain ⟨R, hR⟩ : ∃ R, R = rsort L := ⟨_, rfl⟩
  have hRl : R.length ≤ L.length := by rw [hR]; exact rsort_length L
  have HRm : Hid (∀ p ∈ R, p.1.length < 65536) := Lib.hid (fun p hp => (HSm.out p (rsort_sub L p (by rw [← hR]; exact hp))).1)
  rw [← hR] at HOK hq9 r2
  have H3 : Hid (RhAt w3 gh h ∧ Ext w w3 ∧ PS w3 vL L ∧ PS w3 vs R) := Lib.hid ⟨H1.out.1.ext f2, Ext.trans H1.out.2.1 f2, H1.out.2.2.below f2, PS.of_own r2⟩
  clear r2 f2 H1 hR
  obtain ⟨nL, hnL⟩ : ∃ n, n = L.length := ⟨_, rfl⟩
  obtain ⟨nR, hnR⟩ : ∃ n, n = R.length := ⟨_, rfl⟩
  have hvL : ∃ A C, vL = .slice A nL C := by obtain ⟨A, C, e, _⟩ := H3.out.2.2.1; exact ⟨A, C, by rw [e, hnL]⟩
  have hvR : ∃ A C, vs = .slice A nR C := by obtain ⟨A, C, e, _⟩ := H3.out.2.2.2; exact ⟨A, C, by rw [e, hnR]⟩
  obtain ⟨A1, C1, rfl⟩ := hvL
  obtain ⟨A2, C2, rfl⟩ := hvR
  rw [← hnL, ← hnR] at HOK
  rw [← hnL] at h9 hRl
  rw [← hnR] at hRl
  obtain ⟨BS2, hBS⟩ : ∃ B, B = shp h.hash 13 R := ⟨_, rfl⟩
  rw [← hBS] at HOK
  obtain ⟨sm, hsm⟩ : ∃ b, b = decide (BT = BS2) := ⟨_, rfl⟩
  have HO1 : Hid (∀ W, Ext w3 W → Calls Tryd.prog 10 #[ptr q, .int .i64 0] W fun e w' => ∃ v', e = .returned v' ∧ BS w' v' BT ∧ Ext W w') := Lib.hid (fun W f => HO1'.out W (Ext.trans H3.out.2.1 f))
  have HR6 : Hid (∀ W, Ext w3 W → Calls Tryd.prog 15 #[hsV h, .slice A2 nR C2, .int .i64 0] W fun e w' => ∃ q, e = .returned (ptr q) ∧ Ext W w' ∧ DR h.hash w' 13 q R) := Lib.hid (fun W f => rof6_c h hk W _ R (H3.out.2.2.2.below f) (by omega) (fun p hp => by have := HRm.out p hp; omega))
  have HO2 : Hid (∀ W q, DR h.hash W 13 q R → Calls Tryd.prog 10 #[ptr q, .int .i64 0] W fun e w' => ∃ v', e = .returned v' ∧ BS w' v' BS2 ∧ Ext W w') := Lib.hid (fun W q hd => by rw [hBS]; exact of7Y_c _ R hq9 W q hd)
  have HSr : Hid (∀ W v v', BS W v BT → BS W v' BS2 → Calls Tryd.prog 8 #[v, v'] W fun e w' => e = .returned (.bool sm) ∧ Ext W w') := Lib.hid (fun W v v' h1 h2 => by rw [hsm]; exact rsame_c W v v' BT BS2 h1 h2)
  have HcS : Hid (∀ W, Ext w3 W → (fun w' => w'.cell? ⟨gh, 0, none⟩ = some (.int .u64 h.k0) ∧ w'.cell? ⟨gh, 1, none⟩ = some (.int .u64 h.k1) ∧ w'.cell? ⟨gh, 2, none⟩ = some (.int .u64 h.mask)) W) := Lib.hid (fun W f => (H3.out.1.ext f).cells)
  have H4 := Lib.hid H3.out.2.1
  have HSM := Lib.hid hsm
  clear hBS hq9 H3 HO1' hnL hnR HRm HSm hsm
  go_simp
  repeat' (go_not_at_region 3; (first | go_skip | go_guarded | go_step))
  by_cases hn : nR = nL
  · subst hn
    have dn : ((nR : Int) == (nR : Int)) = true := by simp
    go_region_held3 (fun w' => w'.cell? ⟨gh, 0, none⟩ = some (.int .u64 h.k0) ∧ w'.cell? ⟨gh, 1, none⟩ = some (.int .u64 h.k1) ∧ w'.cell? ⟨gh, 2, none⟩ = some (.int .u64 h.mask))
      (first | exact HcS.out _ k4.out | exact HcS.out _ k3.out | exact HcS.out _ k2.out | exact HcS.out _ k1.out | exact HcS.out _ (ext_drew (Ext.refl _)))
      (first
        | (go_at_call 8; have mz := k3; clear mz; refine (HSr.out _ v1 v3 K3.out.1 K3.out.2).mono ?_; rintro e x4 ⟨rfl, f4⟩; have k4 : Hid (Ext w3 x4) := Lib.hid (Ext.trans k3.out f4); clear f4)
        | (go_at_call 10; have mz := k2; clear mz; refine (HO2.out _ _ K2.out.2).mono ?_; rintro e x3 ⟨v3, rfl, b3, f3⟩; have K3 := Lib.hid (And.intro (K2.out.1.below f3) b3); have k3 : Hid (Ext w3 x3) := Lib.hid (Ext.trans k2.out f3); clear f3 b3)
        | (go_at_call 15; have mz := k1; clear mz; refine (HR6.out _ k1.out).mono ?_; rintro e x2 ⟨q2, rfl, f2, d2⟩; have K2 := Lib.hid (And.intro (K1.out.below f2) d2); have k2 : Hid (Ext w3 x2) := Lib.hid (Ext.trans k1.out f2); clear f2 d2)
        | (go_at_call 10; refine (HO1.out _ (ext_drew (Ext.refl _))).mono ?_; rintro e x1 ⟨v1, rfl, b1, f1⟩; have K1 := Lib.hid b1; have k1 : Hid (Ext w3 x1) := Lib.hid (Ext.trans (ext_drew (Ext.refl _)) f1); clear f1 b1))
    have HE := Lib.hid (Ext.trans H4.out k4.out)
    have HK : Hid (OK ↔ sm = true) := Lib.hid (by rw [HOK.out, HSM.out]; simp)
    clear HO1 HR6 HO2 HSr HcS HSM HOK
    cases sm with
    | true =>
      repeat' (first | go_skip | go_guarded | go_step)
      go_ret
      exact ⟨.inl ⟨HK.out.2 rfl, rfl⟩, HE.out⟩
    | false =>
      repeat' (first | go_skip | go_guarded | go_step)
      go_ret
      exact ⟨.inr ⟨fun h => (by have := HK.out.1 h; cases this), rfl⟩, HE.out⟩
  · have dn : ((nR : Int) == (nL : Int)) = false := by rw [beq_eq_false_iff_ne]; omega
    have HNo : Hid (¬ OK) := Lib.hid (fun h => hn (HOK.out.1 h).1)
    clear HO1 HR6 HO2 HSr HOK HSM
    obtain ⟨c0, c1, c2⟩ := HcS.out w3 (Ext.refl _)
    go_quiet (fail)
    repeat' (first | go_skip | go_guarded | go_step)
    go_ret
    exact ⟨.inr ⟨HNo.out, rfl⟩, Ext.trans H4.out (below_drewN (Ext.refl _) _)⟩
end Go.Proofs.YtclcgelbcbnekaaDoor
/- ShapeBends: what is stored into the document's trie: laws of their own. -/
namespace Go.Proofs.YtclcgelbcbnekaaDoor
open Go.RowKit Go.QS Go.QS.Nk
set_option linter.unusedVariables false
variable [Zero (Nat → Prop)]
set_option linter.unusedSectionVars false

set_option maxRecDepth 100000 in
set_option maxHeartbeats 2000000 in
theorem bd_14 (wr : World) (q k gp : Nat) (A : Array Value) (p : Pr) (z0 z1 z2 : Value) (hk : k < 32) (H : Hid (wr.heap[q]? = some (.cells A TT (0, 0)) ∧ A[2 + k]? = some z0 ∧ A[34 + k * 2]? = some z1 ∧ A[34 + k * 2 + 1]? = some z2 ∧ wr.cell? ⟨gp, 0, none⟩ = some (str p.1) ∧ wr.cell? ⟨gp, 1, none⟩ = some (str p.2) ∧ gp ≠ q)) (c : Code) (Q : Exit → Act → World → Prop) (t0 t1 t2 t3 t4 t5 t6 t7 t9 t10 t11 t12 t15 t16 t17 t18 t19 t20 t21 t22 t23 t24 t25 t26 t27 t28 t29 t30 t31 t32 t33 t34 t35 t36 t37 t38 t39 t40 t41 t42 t43 t44 t45 t46 t47 t48 t49 t50 t51 t52 t53 t54 t55 t56 t57 t58 t59 t60 t61 t62 t63 t64 t65 t66 t67 t68 t69 t70 t71 t72 t73 t74 t75 t76 t77 t78 t79 t80 t81 t82 t83 t84 t85 t86 t87 t88 t89 t90 t91 t92 t93 t94 t95 t96 t97 t98 t99 t100 t101 t102 t103 t104 t105 t106 t107 t108 t109 t110 t111 t112 t113 t114 t115 t116 t117 t118 t119 t120 t121 t122 t123 t124 t125 : Value)
    (hc : (Tryd.f4.body.bind (findR 14)) = some c)
    (hQ : ∀ (u72 u73 u74 u75 u76 u77 u78 u79 u80 u81 u82 : Value) (wx : World), wx.heap[q]? = some (.cells (setP A k p) TT (0, 0)) ∧ Only (fun k => k = q) wr wx → Q .normal { tmps := List.toArray (t0 :: t1 :: t2 :: t3 :: t4 :: t5 :: t6 :: t7 :: (ptr gp) :: t9 :: t10 :: t11 :: t12 :: (ptr q) :: (.int .i64 k) :: t15 :: t16 :: t17 :: t18 :: t19 :: t20 :: t21 :: t22 :: t23 :: t24 :: t25 :: t26 :: t27 :: t28 :: t29 :: t30 :: t31 :: t32 :: t33 :: t34 :: t35 :: t36 :: t37 :: t38 :: t39 :: t40 :: t41 :: t42 :: t43 :: t44 :: t45 :: t46 :: t47 :: t48 :: t49 :: t50 :: t51 :: t52 :: t53 :: t54 :: t55 :: t56 :: t57 :: t58 :: t59 :: t60 :: t61 :: t62 :: t63 :: t64 :: t65 :: t66 :: t67 :: t68 :: t69 :: t70 :: t71 :: u72 :: u73 :: u74 :: u75 :: u76 :: u77 :: u78 :: u79 :: u80 :: u81 :: u82 :: t83 :: t84 :: t85 :: t86 :: t87 :: t88 :: t89 :: t90 :: t91 :: t92 :: t93 :: t94 :: t95 :: t96 :: t97 :: t98 :: t99 :: t100 :: t101 :: t102 :: t103 :: t104 :: t105 :: t106 :: t107 :: t108 :: t109 :: t110 :: t111 :: t112 :: t113 :: t114 :: t115 :: t116 :: t117 :: t118 :: t119 :: t120 :: t121 :: t122 :: t123 :: t124 :: t125 :: []), defers := [] } wx) :
    c.wp Tryd.prog Q { tmps := List.toArray (t0 :: t1 :: t2 :: t3 :: t4 :: t5 :: t6 :: t7 :: (ptr gp) :: t9 :: t10 :: t11 :: t12 :: (ptr q) :: (.int .i64 k) :: t15 :: t16 :: t17 :: t18 :: t19 :: t20 :: t21 :: t22 :: t23 :: t24 :: t25 :: t26 :: t27 :: t28 :: t29 :: t30 :: t31 :: t32 :: t33 :: t34 :: t35 :: t36 :: t37 :: t38 :: t39 :: t40 :: t41 :: t42 :: t43 :: t44 :: t45 :: t46 :: t47 :: t48 :: t49 :: t50 :: t51 :: t52 :: t53 :: t54 :: t55 :: t56 :: t57 :: t58 :: t59 :: t60 :: t61 :: t62 :: t63 :: t64 :: t65 :: t66 :: t67 :: t68 :: t69 :: t70 :: t71 :: t72 :: t73 :: t74 :: t75 :: t76 :: t77 :: t78 :: t79 :: t80 :: t81 :: t82 :: t83 :: t84 :: t85 :: t86 :: t87 :: t88 :: t89 :: t90 :: t91 :: t92 :: t93 :: t94 :: t95 :: t96 :: t97 :: t98 :: t99 :: t100 :: t101 :: t102 :: t103 :: t104 :: t105 :: t106 :: t107 :: t108 :: t109 :: t110 :: t111 :: t112 :: t113 :: t114 :: t115 :: t116 :: t117 :: t118 :: t119 :: t120 :: t121 :: t122 :: t123 :: t124 :: t125 :: []), defers := [] } wr := by
  change some _ = some c at hc
  cases hc
  have HQF := Lib.hid hQ
  clear hQ
  have hc1 : (k : Int) < 32 := by omega
  have hc0 : (0 : Int) ≤ (k : Int) := by omega
  obtain ⟨hq, a0, a1, a2, o0, o1, hne⟩ := H.out
  have c0 := cell_at hq a0
  have c1 := cell_at hq a1
  have c2 := cell_at hq a2
  have cf : ∀ j, wr.frozen? ⟨q, j, none⟩ = false := fun j => by simp [World.frozen?, hq]
  clear hq a0 a1 a2 hne
  refine wp_region_noPanic ?_
  refine wp_region_T (n := 13) (S := (fun w' : World => w'.cell? ⟨gp, 0, none⟩ = some (str p.1) ∧ w'.cell? ⟨gp, 1, none⟩ = some (str p.2))) (by kernel_rfl) ?_
  change wpAnyT _ _ _ _ _ _ 13 _ _ wr.drew
  have hH : (fun w' : World => w'.cell? ⟨gp, 0, none⟩ = some (str p.1) ∧ w'.cell? ⟨gp, 1, none⟩ = some (str p.2)) wr.drew := ⟨o0, o1⟩
  refine wpAnyT_take (i := 0) (v := ?_) rfl (by kernel_rfl) (by kernel_rfl) (by kernel_rfl) (by kernel_rfl) (fun _ _ _ h => h) (Or.inl ⟨by rfl, ?_⟩) hH ?_
  rotate_left
  · (intro w hSw; (try dsimp only at hSw); obtain ⟨s0, s1⟩ := hSw; go_simp; try with_reducible rfl)
  try simp only [Act.put, List.setIfInBounds_toArray, List.set_cons_zero, List.set_cons_succ]
  refine wpAnyT_take (i := 1) (v := ?_) rfl (by kernel_rfl) (by kernel_rfl) (by kernel_rfl) (by kernel_rfl) (fun _ _ _ h => h) (Or.inl ⟨by rfl, ?_⟩) hH ?_
  rotate_left
  · (intro w hSw; (try dsimp only at hSw); obtain ⟨s0, s1⟩ := hSw; go_simp; try with_reducible rfl)
  try simp only [Act.put, List.setIfInBounds_toArray, List.set_cons_zero, List.set_cons_succ]
  refine wpAnyT_take (i := 2) (v := ?_) rfl (by kernel_rfl) (by kernel_rfl) (by kernel_rfl) (by kernel_rfl) (fun _ _ _ h => h) (Or.inl ⟨by rfl, ?_⟩) hH ?_
  rotate_left
  · (intro w hSw; (try dsimp only at hSw); obtain ⟨s0, s1⟩ := hSw; go_simp; try with_reducible rfl)
  try simp only [Act.put, List.setIfInBounds_toArray, List.set_cons_zero, List.set_cons_succ]
  refine wpAnyT_take (i := 3) (v := ?_) rfl (by kernel_rfl) (by kernel_rfl) (by kernel_rfl) (by kernel_rfl) (fun _ _ _ h => h) (Or.inl ⟨by rfl, ?_⟩) hH ?_
  rotate_left
  · (intro w hSw; (try dsimp only at hSw); obtain ⟨s0, s1⟩ := hSw; go_simp; try with_reducible rfl)
  try simp only [Act.put, List.setIfInBounds_toArray, List.set_cons_zero, List.set_cons_succ]
  refine wpAnyT_take (i := 4) (v := ?_) rfl (by kernel_rfl) (by kernel_rfl) (by kernel_rfl) (by kernel_rfl) (fun _ _ _ h => h) (Or.inl ⟨by rfl, ?_⟩) hH ?_
  rotate_left
  · (intro w hSw; (try dsimp only at hSw); obtain ⟨s0, s1⟩ := hSw; go_simp; try with_reducible rfl)
  try simp only [Act.put, List.setIfInBounds_toArray, List.set_cons_zero, List.set_cons_succ]
  refine wpAnyT_take (i := 5) (v := ?_) rfl (by kernel_rfl) (by kernel_rfl) (by kernel_rfl) (by kernel_rfl) (fun _ _ _ h => h) (Or.inl ⟨by rfl, ?_⟩) hH ?_
  rotate_left
  · (intro w hSw; (try dsimp only at hSw); obtain ⟨s0, s1⟩ := hSw; go_simp; try with_reducible rfl)
  try simp only [Act.put, List.setIfInBounds_toArray, List.set_cons_zero, List.set_cons_succ]
  refine wpAnyT_take (i := 6) (v := ?_) rfl (by kernel_rfl) (by kernel_rfl) (by kernel_rfl) (by kernel_rfl) (fun _ _ _ h => h) (Or.inl ⟨by rfl, ?_⟩) hH ?_
  rotate_left
  · (intro w hSw; (try dsimp only at hSw); obtain ⟨s0, s1⟩ := hSw; go_simp; try with_reducible rfl)
  try simp only [Act.put, List.setIfInBounds_toArray, List.set_cons_zero, List.set_cons_succ]
  refine wpAnyT_take (i := 7) (v := ?_) rfl (by kernel_rfl) (by kernel_rfl) (by kernel_rfl) (by kernel_rfl) (fun _ _ _ h => h) (Or.inl ⟨by rfl, ?_⟩) hH ?_
  rotate_left
  · (intro w hSw; (try dsimp only at hSw); obtain ⟨s0, s1⟩ := hSw; go_simp; try with_reducible rfl)
  try simp only [Act.put, List.setIfInBounds_toArray, List.set_cons_zero, List.set_cons_succ]
  refine wpAnyT_take (i := 9) (v := ?_) rfl (by kernel_rfl) (by kernel_rfl) (by kernel_rfl) (by kernel_rfl) (fun _ _ _ h => h) (Or.inl ⟨by rfl, ?_⟩) hH ?_
  rotate_left
  · (intro w hSw; (try dsimp only at hSw); obtain ⟨s0, s1⟩ := hSw; go_simp; try with_reducible rfl)
  try simp only [Act.put, List.setIfInBounds_toArray, List.set_cons_zero, List.set_cons_succ]
  refine wpAnyT_take (i := 10) (v := ?_) rfl (by kernel_rfl) (by kernel_rfl) (by kernel_rfl) (by kernel_rfl) (fun _ _ _ h => h) (Or.inl ⟨by rfl, ?_⟩) hH ?_
  rotate_left
  · (intro w hSw; (try dsimp only at hSw); obtain ⟨s0, s1⟩ := hSw; go_simp; try with_reducible rfl)
  try simp only [Act.put, List.setIfInBounds_toArray, List.set_cons_zero, List.set_cons_succ]
  refine wpAnyT_one (i := 8) (by kernel_rfl) ?_
  refine wpOp_goK rfl rfl (fun K9 hK9 => ?_)
  go_simp
  have O1 : Only (fun j => j = q) wr ((wr.setCell ⟨q, 2 + k, none⟩ (.int .i64 1)).drew) := (Only.setCell (S := fun j => j = q) (p := ⟨q, 2 + k, none⟩) (Only.refl wr) (.inl rfl) _).drew
  obtain ⟨hq, a0, a1, a2, _, _, hne⟩ := H.out
  have hq1 : ((wr.setCell ⟨q, 2 + k, none⟩ (.int .i64 1)).drew).heap[q]? = some (.cells (A.setIfInBounds (2 + k) (.int .i64 1)) TT (0, 0)) := heap_set hq (2 + k) _
  refine hK9.out _ _ ⟨.inr ⟨O1.cell o0 hne, O1.cell o1 hne⟩, ?_⟩
  clear hK9 K9 hH
  have hH : (fun w' : World => w'.cell? ⟨gp, 0, none⟩ = some (str p.1) ∧ w'.cell? ⟨gp, 1, none⟩ = some (str p.2)) ((wr.setCell ⟨q, 2 + k, none⟩ (.int .i64 1)).drew) := ⟨O1.cell o0 hne, O1.cell o1 hne⟩
  obtain ⟨w1, hw1⟩ : ∃ w1, w1 = (wr.setCell ⟨q, 2 + k, none⟩ (.int .i64 1)).drew := ⟨_, rfl⟩
  rw [← hw1] at O1 hq1 hH ⊢
  clear hw1 c0 c1 c2 cf hq
  have c1 := cell_at hq1 (j := 34 + k * 2) (by rw [Array.getElem?_setIfInBounds_ne (by omega)]; exact a1)
  have c2 := cell_at hq1 (j := 34 + k * 2 + 1) (by rw [Array.getElem?_setIfInBounds_ne (by omega)]; exact a2)
  have cf : ∀ j, w1.frozen? ⟨q, j, none⟩ = false := fun j => by simp [World.frozen?, hq1]
  have H1 := Lib.hid (And.intro hq1 (And.intro O1 hne))
  clear hq1 O1 a0 a1 a2 hne
  refine wpAnyT_take (i := 11) (v := ?_) rfl (by kernel_rfl) (by kernel_rfl) (by kernel_rfl) (by kernel_rfl) (fun _ _ _ h => h) (Or.inl ⟨by rfl, ?_⟩) hH ?_
  rotate_left
  · (intro w hSw; (try dsimp only at hSw); obtain ⟨s0, s1⟩ := hSw; go_simp; try with_reducible rfl)
  try simp only [Act.put, List.setIfInBounds_toArray, List.set_cons_zero, List.set_cons_succ]
  refine wpAnyT_one (i := 12) (by kernel_rfl) ?_
  refine wpOp_goK rfl rfl (fun K9 hK9 => ?_)
  go_simp
  have O2 : Only (fun j => j = q) wr ((w1.setCell ⟨q, 34 + k * 2, none⟩ (str p.1)).setCell ⟨q, 34 + k * 2 + 1, none⟩ (str p.2)) := (H1.out.2.1.setCell (p := ⟨q, 34 + k * 2, none⟩) (.inl rfl) _).setCell (p := ⟨q, 34 + k * 2 + 1, none⟩) (.inl rfl) _
  refine hK9.out _ _ ⟨.inr ⟨O2.cell H.out.2.2.2.2.1 H1.out.2.2, O2.cell H.out.2.2.2.2.2.1 H1.out.2.2⟩, (by kernel_rfl), ?_⟩
  refine NoPanic.normal ?_
  exact HQF.out _ _ _ _ _ _ _ _ _ _ _ _ ⟨heap_set (heap_set H1.out.1 _ _) _ _, O2⟩

set_option maxRecDepth 100000 in
set_option maxHeartbeats 2000000 in
theorem bd_10 (wr : World) (q k gp : Nat) (A : Array Value) (p : Pr) (z0 z1 z2 : Value) (hk : k < 32) (H : Hid (wr.heap[q]? = some (.cells A TT (0, 0)) ∧ A[2 + k]? = some z0 ∧ A[34 + k * 2]? = some z1 ∧ A[34 + k * 2 + 1]? = some z2 ∧ wr.cell? ⟨gp, 0, none⟩ = some (str p.1) ∧ wr.cell? ⟨gp, 1, none⟩ = some (str p.2) ∧ gp ≠ q)) (c : Code) (Q : Exit → Act → World → Prop) (t0 t1 t2 t3 t4 t5 t6 t7 t9 t10 t11 t12 t13 t16 t17 t18 t19 t20 t21 t22 t23 t24 t25 t26 t27 t28 t29 t30 t31 t32 t33 t34 t35 t36 t37 t38 t39 t40 t41 t42 t43 t44 t45 t46 t47 t48 t49 t50 t51 t52 t53 t54 t55 t56 t57 t58 t59 t60 t61 t62 t63 t64 t65 t66 t67 t68 t69 t70 t71 t72 t73 t74 t75 t76 t77 t78 t79 t80 t81 t82 t83 t84 t85 t86 t87 t88 t89 t90 t91 t92 t93 t94 t95 t96 t97 t98 t99 t100 t101 t102 t103 t104 t105 t106 t107 t108 t109 t110 t111 t112 t113 t114 t115 t116 t117 t118 t119 t120 t121 t122 t123 t124 t125 : Value)
    (hc : (Tryd.f4.body.bind (findR 10)) = some c)
    (hQ : ∀ (u44 u45 u46 u47 u48 u49 u50 u51 u52 u53 u54 : Value) (wx : World), wx.heap[q]? = some (.cells (setP A k p) TT (0, 0)) ∧ Only (fun k => k = q) wr wx → Q .normal { tmps := List.toArray (t0 :: t1 :: t2 :: t3 :: t4 :: t5 :: t6 :: t7 :: (ptr gp) :: t9 :: t10 :: t11 :: t12 :: t13 :: (.int .i64 k) :: (ptr q) :: t16 :: t17 :: t18 :: t19 :: t20 :: t21 :: t22 :: t23 :: t24 :: t25 :: t26 :: t27 :: t28 :: t29 :: t30 :: t31 :: t32 :: t33 :: t34 :: t35 :: t36 :: t37 :: t38 :: t39 :: t40 :: t41 :: t42 :: t43 :: u44 :: u45 :: u46 :: u47 :: u48 :: u49 :: u50 :: u51 :: u52 :: u53 :: u54 :: t55 :: t56 :: t57 :: t58 :: t59 :: t60 :: t61 :: t62 :: t63 :: t64 :: t65 :: t66 :: t67 :: t68 :: t69 :: t70 :: t71 :: t72 :: t73 :: t74 :: t75 :: t76 :: t77 :: t78 :: t79 :: t80 :: t81 :: t82 :: t83 :: t84 :: t85 :: t86 :: t87 :: t88 :: t89 :: t90 :: t91 :: t92 :: t93 :: t94 :: t95 :: t96 :: t97 :: t98 :: t99 :: t100 :: t101 :: t102 :: t103 :: t104 :: t105 :: t106 :: t107 :: t108 :: t109 :: t110 :: t111 :: t112 :: t113 :: t114 :: t115 :: t116 :: t117 :: t118 :: t119 :: t120 :: t121 :: t122 :: t123 :: t124 :: t125 :: []), defers := [] } wx) :
    c.wp Tryd.prog Q { tmps := List.toArray (t0 :: t1 :: t2 :: t3 :: t4 :: t5 :: t6 :: t7 :: (ptr gp) :: t9 :: t10 :: t11 :: t12 :: t13 :: (.int .i64 k) :: (ptr q) :: t16 :: t17 :: t18 :: t19 :: t20 :: t21 :: t22 :: t23 :: t24 :: t25 :: t26 :: t27 :: t28 :: t29 :: t30 :: t31 :: t32 :: t33 :: t34 :: t35 :: t36 :: t37 :: t38 :: t39 :: t40 :: t41 :: t42 :: t43 :: t44 :: t45 :: t46 :: t47 :: t48 :: t49 :: t50 :: t51 :: t52 :: t53 :: t54 :: t55 :: t56 :: t57 :: t58 :: t59 :: t60 :: t61 :: t62 :: t63 :: t64 :: t65 :: t66 :: t67 :: t68 :: t69 :: t70 :: t71 :: t72 :: t73 :: t74 :: t75 :: t76 :: t77 :: t78 :: t79 :: t80 :: t81 :: t82 :: t83 :: t84 :: t85 :: t86 :: t87 :: t88 :: t89 :: t90 :: t91 :: t92 :: t93 :: t94 :: t95 :: t96 :: t97 :: t98 :: t99 :: t100 :: t101 :: t102 :: t103 :: t104 :: t105 :: t106 :: t107 :: t108 :: t109 :: t110 :: t111 :: t112 :: t113 :: t114 :: t115 :: t116 :: t117 :: t118 :: t119 :: t120 :: t121 :: t122 :: t123 :: t124 :: t125 :: []), defers := [] } wr := by
  change some _ = some c at hc
  cases hc
  have HQF := Lib.hid hQ
  clear hQ
  have hc1 : (k : Int) < 32 := by omega
  have hc0 : (0 : Int) ≤ (k : Int) := by omega
  obtain ⟨hq, a0, a1, a2, o0, o1, hne⟩ := H.out
  have c0 := cell_at hq a0
  have c1 := cell_at hq a1
  have c2 := cell_at hq a2
  have cf : ∀ j, wr.frozen? ⟨q, j, none⟩ = false := fun j => by simp [World.frozen?, hq]
  clear hq a0 a1 a2 hne
  refine wp_region_noPanic ?_
  refine wp_region_T (n := 13) (S := (fun w' : World => w'.cell? ⟨gp, 0, none⟩ = some (str p.1) ∧ w'.cell? ⟨gp, 1, none⟩ = some (str p.2))) (by kernel_rfl) ?_
  change wpAnyT _ _ _ _ _ _ 13 _ _ wr.drew
  have hH : (fun w' : World => w'.cell? ⟨gp, 0, none⟩ = some (str p.1) ∧ w'.cell? ⟨gp, 1, none⟩ = some (str p.2)) wr.drew := ⟨o0, o1⟩
  refine wpAnyT_take (i := 0) (v := ?_) rfl (by kernel_rfl) (by kernel_rfl) (by kernel_rfl) (by kernel_rfl) (fun _ _ _ h => h) (Or.inl ⟨by rfl, ?_⟩) hH ?_
  rotate_left
  · (intro w hSw; (try dsimp only at hSw); obtain ⟨s0, s1⟩ := hSw; go_simp; try with_reducible rfl)
  try simp only [Act.put, List.setIfInBounds_toArray, List.set_cons_zero, List.set_cons_succ]
  refine wpAnyT_take (i := 1) (v := ?_) rfl (by kernel_rfl) (by kernel_rfl) (by kernel_rfl) (by kernel_rfl) (fun _ _ _ h => h) (Or.inl ⟨by rfl, ?_⟩) hH ?_
  rotate_left
  · (intro w hSw; (try dsimp only at hSw); obtain ⟨s0, s1⟩ := hSw; go_simp; try with_reducible rfl)
  try simp only [Act.put, List.setIfInBounds_toArray, List.set_cons_zero, List.set_cons_succ]
  refine wpAnyT_take (i := 2) (v := ?_) rfl (by kernel_rfl) (by kernel_rfl) (by kernel_rfl) (by kernel_rfl) (fun _ _ _ h => h) (Or.inl ⟨by rfl, ?_⟩) hH ?_
  rotate_left
  · (intro w hSw; (try dsimp only at hSw); obtain ⟨s0, s1⟩ := hSw; go_simp; try with_reducible rfl)
  try simp only [Act.put, List.setIfInBounds_toArray, List.set_cons_zero, List.set_cons_succ]
  refine wpAnyT_take (i := 3) (v := ?_) rfl (by kernel_rfl) (by kernel_rfl) (by kernel_rfl) (by kernel_rfl) (fun _ _ _ h => h) (Or.inl ⟨by rfl, ?_⟩) hH ?_
  rotate_left
  · (intro w hSw; (try dsimp only at hSw); obtain ⟨s0, s1⟩ := hSw; go_simp; try with_reducible rfl)
  try simp only [Act.put, List.setIfInBounds_toArray, List.set_cons_zero, List.set_cons_succ]
  refine wpAnyT_take (i := 4) (v := ?_) rfl (by kernel_rfl) (by kernel_rfl) (by kernel_rfl) (by kernel_rfl) (fun _ _ _ h => h) (Or.inl ⟨by rfl, ?_⟩) hH ?_
  rotate_left
  · (intro w hSw; (try dsimp only at hSw); obtain ⟨s0, s1⟩ := hSw; go_simp; try with_reducible rfl)
  try simp only [Act.put, List.setIfInBounds_toArray, List.set_cons_zero, List.set_cons_succ]
  refine wpAnyT_take (i := 5) (v := ?_) rfl (by kernel_rfl) (by kernel_rfl) (by kernel_rfl) (by kernel_rfl) (fun _ _ _ h => h) (Or.inl ⟨by rfl, ?_⟩) hH ?_
  rotate_left
  · (intro w hSw; (try dsimp only at hSw); obtain ⟨s0, s1⟩ := hSw; go_simp; try with_reducible rfl)
  try simp only [Act.put, List.setIfInBounds_toArray, List.set_cons_zero, List.set_cons_succ]
  refine wpAnyT_take (i := 6) (v := ?_) rfl (by kernel_rfl) (by kernel_rfl) (by kernel_rfl) (by kernel_rfl) (fun _ _ _ h => h) (Or.inl ⟨by rfl, ?_⟩) hH ?_
  rotate_left
  · (intro w hSw; (try dsimp only at hSw); obtain ⟨s0, s1⟩ := hSw; go_simp; try with_reducible rfl)
  try simp only [Act.put, List.setIfInBounds_toArray, List.set_cons_zero, List.set_cons_succ]
  refine wpAnyT_take (i := 7) (v := ?_) rfl (by kernel_rfl) (by kernel_rfl) (by kernel_rfl) (by kernel_rfl) (fun _ _ _ h => h) (Or.inl ⟨by rfl, ?_⟩) hH ?_
  rotate_left
  · (intro w hSw; (try dsimp only at hSw); obtain ⟨s0, s1⟩ := hSw; go_simp; try with_reducible rfl)
  try simp only [Act.put, List.setIfInBounds_toArray, List.set_cons_zero, List.set_cons_succ]
  refine wpAnyT_take (i := 9) (v := ?_) rfl (by kernel_rfl) (by kernel_rfl) (by kernel_rfl) (by kernel_rfl) (fun _ _ _ h => h) (Or.inl ⟨by rfl, ?_⟩) hH ?_
  rotate_left
  · (intro w hSw; (try dsimp only at hSw); obtain ⟨s0, s1⟩ := hSw; go_simp; try with_reducible rfl)
  try simp only [Act.put, List.setIfInBounds_toArray, List.set_cons_zero, List.set_cons_succ]
  refine wpAnyT_take (i := 10) (v := ?_) rfl (by kernel_rfl) (by kernel_rfl) (by kernel_rfl) (by kernel_rfl) (fun _ _ _ h => h) (Or.inl ⟨by rfl, ?_⟩) hH ?_
  rotate_left
  · (intro w hSw; (try dsimp only at hSw); obtain ⟨s0, s1⟩ := hSw; go_simp; try with_reducible rfl)
  try simp only [Act.put, List.setIfInBounds_toArray, List.set_cons_zero, List.set_cons_succ]
  refine wpAnyT_one (i := 8) (by kernel_rfl) ?_
  refine wpOp_goK rfl rfl (fun K9 hK9 => ?_)
  go_simp
  have O1 : Only (fun j => j = q) wr ((wr.setCell ⟨q, 2 + k, none⟩ (.int .i64 1)).drew) := (Only.setCell (S := fun j => j = q) (p := ⟨q, 2 + k, none⟩) (Only.refl wr) (.inl rfl) _).drew
  obtain ⟨hq, a0, a1, a2, _, _, hne⟩ := H.out
  have hq1 : ((wr.setCell ⟨q, 2 + k, none⟩ (.int .i64 1)).drew).heap[q]? = some (.cells (A.setIfInBounds (2 + k) (.int .i64 1)) TT (0, 0)) := heap_set hq (2 + k) _
  refine hK9.out _ _ ⟨.inr ⟨O1.cell o0 hne, O1.cell o1 hne⟩, ?_⟩
  clear hK9 K9 hH
  have hH : (fun w' : World => w'.cell? ⟨gp, 0, none⟩ = some (str p.1) ∧ w'.cell? ⟨gp, 1, none⟩ = some (str p.2)) ((wr.setCell ⟨q, 2 + k, none⟩ (.int .i64 1)).drew) := ⟨O1.cell o0 hne, O1.cell o1 hne⟩
  obtain ⟨w1, hw1⟩ : ∃ w1, w1 = (wr.setCell ⟨q, 2 + k, none⟩ (.int .i64 1)).drew := ⟨_, rfl⟩
  rw [← hw1] at O1 hq1 hH ⊢
  clear hw1 c0 c1 c2 cf hq
  have c1 := cell_at hq1 (j := 34 + k * 2) (by rw [Array.getElem?_setIfInBounds_ne (by omega)]; exact a1)
  have c2 := cell_at hq1 (j := 34 + k * 2 + 1) (by rw [Array.getElem?_setIfInBounds_ne (by omega)]; exact a2)
  have cf : ∀ j, w1.frozen? ⟨q, j, none⟩ = false := fun j => by simp [World.frozen?, hq1]
  have H1 := Lib.hid (And.intro hq1 (And.intro O1 hne))
  clear hq1 O1 a0 a1 a2 hne
  refine wpAnyT_take (i := 11) (v := ?_) rfl (by kernel_rfl) (by kernel_rfl) (by kernel_rfl) (by kernel_rfl) (fun _ _ _ h => h) (Or.inl ⟨by rfl, ?_⟩) hH ?_
  rotate_left
  · (intro w hSw; (try dsimp only at hSw); obtain ⟨s0, s1⟩ := hSw; go_simp; try with_reducible rfl)
  try simp only [Act.put, List.setIfInBounds_toArray, List.set_cons_zero, List.set_cons_succ]
  refine wpAnyT_one (i := 12) (by kernel_rfl) ?_
  refine wpOp_goK rfl rfl (fun K9 hK9 => ?_)
  go_simp
  have O2 : Only (fun j => j = q) wr ((w1.setCell ⟨q, 34 + k * 2, none⟩ (str p.1)).setCell ⟨q, 34 + k * 2 + 1, none⟩ (str p.2)) := (H1.out.2.1.setCell (p := ⟨q, 34 + k * 2, none⟩) (.inl rfl) _).setCell (p := ⟨q, 34 + k * 2 + 1, none⟩) (.inl rfl) _
  refine hK9.out _ _ ⟨.inr ⟨O2.cell H.out.2.2.2.2.1 H1.out.2.2, O2.cell H.out.2.2.2.2.2.1 H1.out.2.2⟩, (by kernel_rfl), ?_⟩
  refine NoPanic.normal ?_
  exact HQF.out _ _ _ _ _ _ _ _ _ _ _ _ ⟨heap_set (heap_set H1.out.1 _ _) _ _, O2⟩

set_option maxRecDepth 100000 in
set_option maxHeartbeats 2000000 in
theorem bd_11 (wr : World) (q k q2 : Nat) (A : Array Value) (z0 z1 : Value) (hk : k < 32) (H : Hid (wr.heap[q]? = some (.cells A TT (0, 0)) ∧ A[2 + k]? = some z0 ∧ A[98 + k]? = some z1)) (c : Code) (Q : Exit → Act → World → Prop) (t0 t1 t2 t3 t4 t5 t6 t7 t8 t9 t10 t11 t12 t16 t17 t18 t19 t20 t21 t22 t23 t24 t25 t26 t27 t28 t29 t30 t31 t32 t33 t34 t35 t36 t37 t38 t39 t40 t41 t42 t43 t44 t45 t46 t47 t48 t49 t50 t51 t52 t53 t54 t55 t56 t57 t58 t59 t60 t61 t62 t63 t64 t65 t66 t67 t68 t69 t70 t71 t72 t73 t74 t75 t76 t77 t78 t79 t80 t81 t82 t83 t84 t85 t86 t87 t88 t89 t90 t91 t92 t93 t94 t95 t96 t97 t98 t99 t100 t101 t102 t103 t104 t105 t106 t107 t108 t109 t110 t111 t112 t113 t114 t115 t116 t117 t118 t119 t120 t121 t122 t123 t124 t125 : Value)
    (hc : (Tryd.f4.body.bind (findR 11)) = some c)
    (hQ : ∀ (u55 u56 u57 u58 u59 u60 u61 u62 u63 u64 u65 : Value) (wx : World), wx.heap[q]? = some (.cells (setK A k q2) TT (0, 0)) ∧ Only (fun k => k = q) wr wx → Q .normal { tmps := List.toArray (t0 :: t1 :: t2 :: t3 :: t4 :: t5 :: t6 :: t7 :: t8 :: t9 :: t10 :: t11 :: t12 :: (ptr q) :: (.int .i64 k) :: (ptr q2) :: t16 :: t17 :: t18 :: t19 :: t20 :: t21 :: t22 :: t23 :: t24 :: t25 :: t26 :: t27 :: t28 :: t29 :: t30 :: t31 :: t32 :: t33 :: t34 :: t35 :: t36 :: t37 :: t38 :: t39 :: t40 :: t41 :: t42 :: t43 :: t44 :: t45 :: t46 :: t47 :: t48 :: t49 :: t50 :: t51 :: t52 :: t53 :: t54 :: u55 :: u56 :: u57 :: u58 :: u59 :: u60 :: u61 :: u62 :: u63 :: u64 :: u65 :: t66 :: t67 :: t68 :: t69 :: t70 :: t71 :: t72 :: t73 :: t74 :: t75 :: t76 :: t77 :: t78 :: t79 :: t80 :: t81 :: t82 :: t83 :: t84 :: t85 :: t86 :: t87 :: t88 :: t89 :: t90 :: t91 :: t92 :: t93 :: t94 :: t95 :: t96 :: t97 :: t98 :: t99 :: t100 :: t101 :: t102 :: t103 :: t104 :: t105 :: t106 :: t107 :: t108 :: t109 :: t110 :: t111 :: t112 :: t113 :: t114 :: t115 :: t116 :: t117 :: t118 :: t119 :: t120 :: t121 :: t122 :: t123 :: t124 :: t125 :: []), defers := [] } wx) :
    c.wp Tryd.prog Q { tmps := List.toArray (t0 :: t1 :: t2 :: t3 :: t4 :: t5 :: t6 :: t7 :: t8 :: t9 :: t10 :: t11 :: t12 :: (ptr q) :: (.int .i64 k) :: (ptr q2) :: t16 :: t17 :: t18 :: t19 :: t20 :: t21 :: t22 :: t23 :: t24 :: t25 :: t26 :: t27 :: t28 :: t29 :: t30 :: t31 :: t32 :: t33 :: t34 :: t35 :: t36 :: t37 :: t38 :: t39 :: t40 :: t41 :: t42 :: t43 :: t44 :: t45 :: t46 :: t47 :: t48 :: t49 :: t50 :: t51 :: t52 :: t53 :: t54 :: t55 :: t56 :: t57 :: t58 :: t59 :: t60 :: t61 :: t62 :: t63 :: t64 :: t65 :: t66 :: t67 :: t68 :: t69 :: t70 :: t71 :: t72 :: t73 :: t74 :: t75 :: t76 :: t77 :: t78 :: t79 :: t80 :: t81 :: t82 :: t83 :: t84 :: t85 :: t86 :: t87 :: t88 :: t89 :: t90 :: t91 :: t92 :: t93 :: t94 :: t95 :: t96 :: t97 :: t98 :: t99 :: t100 :: t101 :: t102 :: t103 :: t104 :: t105 :: t106 :: t107 :: t108 :: t109 :: t110 :: t111 :: t112 :: t113 :: t114 :: t115 :: t116 :: t117 :: t118 :: t119 :: t120 :: t121 :: t122 :: t123 :: t124 :: t125 :: []), defers := [] } wr := by
  change some _ = some c at hc
  cases hc
  have HQF := Lib.hid hQ
  clear hQ
  have hc1 : (k : Int) < 32 := by omega
  have hc0 : (0 : Int) ≤ (k : Int) := by omega
  obtain ⟨hq, a0, a1⟩ := H.out
  have c0 := cell_at hq a0
  have c1 := cell_at hq a1
  have cf : ∀ j, wr.frozen? ⟨q, j, none⟩ = false := fun j => by simp [World.frozen?, hq]
  clear hq a0 a1
  refine wp_region_noPanic ?_
  refine wp_region_T (n := 13) (S := (fun _ : World => True)) (by kernel_rfl) ?_
  change wpAnyT _ _ _ _ _ _ 13 _ _ wr.drew
  have hH : (fun _ : World => True) wr.drew := trivial
  refine wpAnyT_take (i := 0) (v := ?_) rfl (by kernel_rfl) (by kernel_rfl) (by kernel_rfl) (by kernel_rfl) (fun _ _ _ h => h) (Or.inl ⟨by rfl, ?_⟩) hH ?_
  rotate_left
  · (intro w hSw; skip; go_simp; try with_reducible rfl)
  try simp only [Act.put, List.setIfInBounds_toArray, List.set_cons_zero, List.set_cons_succ]
  refine wpAnyT_take (i := 1) (v := ?_) rfl (by kernel_rfl) (by kernel_rfl) (by kernel_rfl) (by kernel_rfl) (fun _ _ _ h => h) (Or.inl ⟨by rfl, ?_⟩) hH ?_
  rotate_left
  · (intro w hSw; skip; go_simp; try with_reducible rfl)
  try simp only [Act.put, List.setIfInBounds_toArray, List.set_cons_zero, List.set_cons_succ]
  refine wpAnyT_take (i := 2) (v := ?_) rfl (by kernel_rfl) (by kernel_rfl) (by kernel_rfl) (by kernel_rfl) (fun _ _ _ h => h) (Or.inl ⟨by rfl, ?_⟩) hH ?_
  rotate_left
  · (intro w hSw; skip; go_simp; try with_reducible rfl)
  try simp only [Act.put, List.setIfInBounds_toArray, List.set_cons_zero, List.set_cons_succ]
  refine wpAnyT_take (i := 3) (v := ?_) rfl (by kernel_rfl) (by kernel_rfl) (by kernel_rfl) (by kernel_rfl) (fun _ _ _ h => h) (Or.inl ⟨by rfl, ?_⟩) hH ?_
  rotate_left
  · (intro w hSw; skip; go_simp; try with_reducible rfl)
  try simp only [Act.put, List.setIfInBounds_toArray, List.set_cons_zero, List.set_cons_succ]
  refine wpAnyT_take (i := 4) (v := ?_) rfl (by kernel_rfl) (by kernel_rfl) (by kernel_rfl) (by kernel_rfl) (fun _ _ _ h => h) (Or.inl ⟨by rfl, ?_⟩) hH ?_
  rotate_left
  · (intro w hSw; skip; go_simp; try with_reducible rfl)
  try simp only [Act.put, List.setIfInBounds_toArray, List.set_cons_zero, List.set_cons_succ]
  refine wpAnyT_take (i := 5) (v := ?_) rfl (by kernel_rfl) (by kernel_rfl) (by kernel_rfl) (by kernel_rfl) (fun _ _ _ h => h) (Or.inl ⟨by rfl, ?_⟩) hH ?_
  rotate_left
  · (intro w hSw; skip; go_simp; try with_reducible rfl)
  try simp only [Act.put, List.setIfInBounds_toArray, List.set_cons_zero, List.set_cons_succ]
  refine wpAnyT_take (i := 6) (v := ?_) rfl (by kernel_rfl) (by kernel_rfl) (by kernel_rfl) (by kernel_rfl) (fun _ _ _ h => h) (Or.inl ⟨by rfl, ?_⟩) hH ?_
  rotate_left
  · (intro w hSw; skip; go_simp; try with_reducible rfl)
  try simp only [Act.put, List.setIfInBounds_toArray, List.set_cons_zero, List.set_cons_succ]
  refine wpAnyT_take (i := 7) (v := ?_) rfl (by kernel_rfl) (by kernel_rfl) (by kernel_rfl) (by kernel_rfl) (fun _ _ _ h => h) (Or.inl ⟨by rfl, ?_⟩) hH ?_
  rotate_left
  · (intro w hSw; skip; go_simp; try with_reducible rfl)
  try simp only [Act.put, List.setIfInBounds_toArray, List.set_cons_zero, List.set_cons_succ]
  refine wpAnyT_take (i := 9) (v := ?_) rfl (by kernel_rfl) (by kernel_rfl) (by kernel_rfl) (by kernel_rfl) (fun _ _ _ h => h) (Or.inl ⟨by rfl, ?_⟩) hH ?_
  rotate_left
  · (intro w hSw; skip; go_simp; try with_reducible rfl)
  try simp only [Act.put, List.setIfInBounds_toArray, List.set_cons_zero, List.set_cons_succ]
  refine wpAnyT_take (i := 10) (v := ?_) rfl (by kernel_rfl) (by kernel_rfl) (by kernel_rfl) (by kernel_rfl) (fun _ _ _ h => h) (Or.inl ⟨by rfl, ?_⟩) hH ?_
  rotate_left
  · (intro w hSw; skip; go_simp; try with_reducible rfl)
  try simp only [Act.put, List.setIfInBounds_toArray, List.set_cons_zero, List.set_cons_succ]
  refine wpAnyT_one (i := 8) (by kernel_rfl) ?_
  refine wpOp_goK rfl rfl (fun K9 hK9 => ?_)
  go_simp
  have O1 : Only (fun j => j = q) wr ((wr.setCell ⟨q, 2 + k, none⟩ (.int .i64 2)).drew) := (Only.setCell (S := fun j => j = q) (p := ⟨q, 2 + k, none⟩) (Only.refl wr) (.inl rfl) _).drew
  obtain ⟨hq, a0, a1⟩ := H.out
  have hq1 : ((wr.setCell ⟨q, 2 + k, none⟩ (.int .i64 2)).drew).heap[q]? = some (.cells (A.setIfInBounds (2 + k) (.int .i64 2)) TT (0, 0)) := heap_set hq (2 + k) _
  refine hK9.out _ _ ⟨.inr trivial, ?_⟩
  clear hK9 K9 hH
  have hH : (fun _ : World => True) ((wr.setCell ⟨q, 2 + k, none⟩ (.int .i64 2)).drew) := trivial
  obtain ⟨w1, hw1⟩ : ∃ w1, w1 = (wr.setCell ⟨q, 2 + k, none⟩ (.int .i64 2)).drew := ⟨_, rfl⟩
  rw [← hw1] at O1 hq1 hH ⊢
  clear hw1 c0 c1 cf hq
  have c1 := cell_at hq1 (j := 98 + k) (by rw [Array.getElem?_setIfInBounds_ne (by omega)]; exact a1)
  have cf : ∀ j, w1.frozen? ⟨q, j, none⟩ = false := fun j => by simp [World.frozen?, hq1]
  have H1 := Lib.hid (And.intro hq1 O1)
  clear hq1 O1 a0 a1
  refine wpAnyT_take (i := 11) (v := ?_) rfl (by kernel_rfl) (by kernel_rfl) (by kernel_rfl) (by kernel_rfl) (fun _ _ _ h => h) (Or.inl ⟨by rfl, ?_⟩) hH ?_
  rotate_left
  · (intro w hSw; skip; go_simp; try with_reducible rfl)
  try simp only [Act.put, List.setIfInBounds_toArray, List.set_cons_zero, List.set_cons_succ]
  refine wpAnyT_one (i := 12) (by kernel_rfl) ?_
  refine wpOp_goK rfl rfl (fun K9 hK9 => ?_)
  go_simp
  refine hK9.out _ _ ⟨.inr trivial, (by kernel_rfl), ?_⟩
  refine NoPanic.normal ?_
  exact HQF.out _ _ _ _ _ _ _ _ _ _ _ _ ⟨heap_set H1.out.1 _ _, H1.out.2.setCell (p := ⟨q, 98 + k, none⟩) (.inl rfl) _⟩

set_option maxRecDepth 100000 in
set_option maxHeartbeats 2000000 in
theorem bd_20 (wr : World) (q k : Nat) (A : Array Value) (z0 z1 : Value) (hk : k < 32) (H : Hid (wr.heap[q]? = some (.cells A TT (0, 0)) ∧ A[2 + k]? = some z0 ∧ A[98 + k]? = some z1)) (c : Code) (Q : Exit → Act → World → Prop) (t0 t1 t2 t3 t4 t5 t6 t7 t8 t9 t10 t11 t12 t15 t16 t17 t18 t19 t20 t21 t22 t23 t24 t25 t26 t27 t28 t29 t30 t31 t32 t33 t34 t35 t36 t37 t38 t39 t40 t41 t42 t43 t44 t45 t46 t47 t48 t49 t50 t51 t52 t53 t54 t55 t56 t57 t58 t59 t60 t61 t62 t63 t64 t65 t66 t67 t68 t69 t70 t71 t72 t73 t74 t75 t76 t77 t78 t79 t80 t81 t82 t83 t84 t85 t86 t87 t88 t89 t90 t91 t92 t93 t94 t95 t96 t97 t98 t99 t100 t101 t102 t103 t104 t105 t106 t107 t108 t109 t110 t111 t112 t113 t114 t115 t116 t117 t118 t119 t120 t121 t122 t123 t124 t125 : Value)
    (hc : (Tryd.f4.body.bind (findR 20)) = some c)
    (hQ : ∀ (u99 u100 u101 u102 u103 u104 u105 u106 u107 u108 u109 u110 : Value) (wx : World), (∃ q2, wx.heap[q]? = some (.cells (setK A k q2) TT (0, 0)) ∧ wx.heap[q2]? = some (.cells Tryd.zeroCells57 TT (0, 0)) ∧ q2 ≠ q ∧ wr.heap.size ≤ q2 ∧ Only (fun k => k = q) wr wx) → Q .normal { tmps := List.toArray (t0 :: t1 :: t2 :: t3 :: t4 :: t5 :: t6 :: t7 :: t8 :: t9 :: t10 :: t11 :: t12 :: (ptr q) :: (.int .i64 k) :: t15 :: t16 :: t17 :: t18 :: t19 :: t20 :: t21 :: t22 :: t23 :: t24 :: t25 :: t26 :: t27 :: t28 :: t29 :: t30 :: t31 :: t32 :: t33 :: t34 :: t35 :: t36 :: t37 :: t38 :: t39 :: t40 :: t41 :: t42 :: t43 :: t44 :: t45 :: t46 :: t47 :: t48 :: t49 :: t50 :: t51 :: t52 :: t53 :: t54 :: t55 :: t56 :: t57 :: t58 :: t59 :: t60 :: t61 :: t62 :: t63 :: t64 :: t65 :: t66 :: t67 :: t68 :: t69 :: t70 :: t71 :: t72 :: t73 :: t74 :: t75 :: t76 :: t77 :: t78 :: t79 :: t80 :: t81 :: t82 :: t83 :: t84 :: t85 :: t86 :: t87 :: t88 :: t89 :: t90 :: t91 :: t92 :: t93 :: t94 :: t95 :: t96 :: t97 :: t98 :: u99 :: u100 :: u101 :: u102 :: u103 :: u104 :: u105 :: u106 :: u107 :: u108 :: u109 :: u110 :: t111 :: t112 :: t113 :: t114 :: t115 :: t116 :: t117 :: t118 :: t119 :: t120 :: t121 :: t122 :: t123 :: t124 :: t125 :: []), defers := [] } wx) :
    c.wp Tryd.prog Q { tmps := List.toArray (t0 :: t1 :: t2 :: t3 :: t4 :: t5 :: t6 :: t7 :: t8 :: t9 :: t10 :: t11 :: t12 :: (ptr q) :: (.int .i64 k) :: t15 :: t16 :: t17 :: t18 :: t19 :: t20 :: t21 :: t22 :: t23 :: t24 :: t25 :: t26 :: t27 :: t28 :: t29 :: t30 :: t31 :: t32 :: t33 :: t34 :: t35 :: t36 :: t37 :: t38 :: t39 :: t40 :: t41 :: t42 :: t43 :: t44 :: t45 :: t46 :: t47 :: t48 :: t49 :: t50 :: t51 :: t52 :: t53 :: t54 :: t55 :: t56 :: t57 :: t58 :: t59 :: t60 :: t61 :: t62 :: t63 :: t64 :: t65 :: t66 :: t67 :: t68 :: t69 :: t70 :: t71 :: t72 :: t73 :: t74 :: t75 :: t76 :: t77 :: t78 :: t79 :: t80 :: t81 :: t82 :: t83 :: t84 :: t85 :: t86 :: t87 :: t88 :: t89 :: t90 :: t91 :: t92 :: t93 :: t94 :: t95 :: t96 :: t97 :: t98 :: t99 :: t100 :: t101 :: t102 :: t103 :: t104 :: t105 :: t106 :: t107 :: t108 :: t109 :: t110 :: t111 :: t112 :: t113 :: t114 :: t115 :: t116 :: t117 :: t118 :: t119 :: t120 :: t121 :: t122 :: t123 :: t124 :: t125 :: []), defers := [] } wr := by
  change some _ = some c at hc
  cases hc
  have HQF := Lib.hid hQ
  clear hQ
  have hc1 : (k : Int) < 32 := by omega
  have hc0 : (0 : Int) ≤ (k : Int) := by omega
  obtain ⟨hq, a0, a1⟩ := H.out
  have c0 := cell_at hq a0
  have c1 := cell_at hq a1
  have cf : ∀ j, wr.frozen? ⟨q, j, none⟩ = false := fun j => by simp [World.frozen?, hq]
  clear hq a0 a1
  refine wp_region_noPanic ?_
  refine wp_region_T (n := 14) (S := (fun _ : World => True)) (by kernel_rfl) ?_
  change wpAnyT _ _ _ _ _ _ 14 _ _ wr.drew
  have hH : (fun _ : World => True) wr.drew := trivial
  refine wpAnyT_take (i := 0) (v := ?_) rfl (by kernel_rfl) (by kernel_rfl) (by kernel_rfl) (by kernel_rfl) (fun _ _ _ h => h) (Or.inl ⟨by rfl, ?_⟩) hH ?_
  rotate_left
  · (intro w hSw; skip; go_simp; try with_reducible rfl)
  try simp only [Act.put, List.setIfInBounds_toArray, List.set_cons_zero, List.set_cons_succ]
  refine wpAnyT_take (i := 1) (v := ?_) rfl (by kernel_rfl) (by kernel_rfl) (by kernel_rfl) (by kernel_rfl) (fun _ _ _ h => h) (Or.inl ⟨by rfl, ?_⟩) hH ?_
  rotate_left
  · (intro w hSw; skip; go_simp; try with_reducible rfl)
  try simp only [Act.put, List.setIfInBounds_toArray, List.set_cons_zero, List.set_cons_succ]
  refine wpAnyT_take (i := 2) (v := ?_) rfl (by kernel_rfl) (by kernel_rfl) (by kernel_rfl) (by kernel_rfl) (fun _ _ _ h => h) (Or.inl ⟨by rfl, ?_⟩) hH ?_
  rotate_left
  · (intro w hSw; skip; go_simp; try with_reducible rfl)
  try simp only [Act.put, List.setIfInBounds_toArray, List.set_cons_zero, List.set_cons_succ]
  refine wpAnyT_take (i := 3) (v := ?_) rfl (by kernel_rfl) (by kernel_rfl) (by kernel_rfl) (by kernel_rfl) (fun _ _ _ h => h) (Or.inl ⟨by rfl, ?_⟩) hH ?_
  rotate_left
  · (intro w hSw; skip; go_simp; try with_reducible rfl)
  try simp only [Act.put, List.setIfInBounds_toArray, List.set_cons_zero, List.set_cons_succ]
  refine wpAnyT_take (i := 4) (v := ?_) rfl (by kernel_rfl) (by kernel_rfl) (by kernel_rfl) (by kernel_rfl) (fun _ _ _ h => h) (Or.inl ⟨by rfl, ?_⟩) hH ?_
  rotate_left
  · (intro w hSw; skip; go_simp; try with_reducible rfl)
  try simp only [Act.put, List.setIfInBounds_toArray, List.set_cons_zero, List.set_cons_succ]
  refine wpAnyT_take (i := 6) (v := ?_) rfl (by kernel_rfl) (by kernel_rfl) (by kernel_rfl) (by kernel_rfl) (fun _ _ _ h => h) (Or.inl ⟨by rfl, ?_⟩) hH ?_
  rotate_left
  · (intro w hSw; skip; go_simp; try with_reducible rfl)
  try simp only [Act.put, List.setIfInBounds_toArray, List.set_cons_zero, List.set_cons_succ]
  refine wpAnyT_take (i := 7) (v := ?_) rfl (by kernel_rfl) (by kernel_rfl) (by kernel_rfl) (by kernel_rfl) (fun _ _ _ h => h) (Or.inl ⟨by rfl, ?_⟩) hH ?_
  rotate_left
  · (intro w hSw; skip; go_simp; try with_reducible rfl)
  try simp only [Act.put, List.setIfInBounds_toArray, List.set_cons_zero, List.set_cons_succ]
  refine wpAnyT_take (i := 8) (v := ?_) rfl (by kernel_rfl) (by kernel_rfl) (by kernel_rfl) (by kernel_rfl) (fun _ _ _ h => h) (Or.inl ⟨by rfl, ?_⟩) hH ?_
  rotate_left
  · (intro w hSw; skip; go_simp; try with_reducible rfl)
  try simp only [Act.put, List.setIfInBounds_toArray, List.set_cons_zero, List.set_cons_succ]
  refine wpAnyT_take (i := 10) (v := ?_) rfl (by kernel_rfl) (by kernel_rfl) (by kernel_rfl) (by kernel_rfl) (fun _ _ _ h => h) (Or.inl ⟨by rfl, ?_⟩) hH ?_
  rotate_left
  · (intro w hSw; skip; go_simp; try with_reducible rfl)
  try simp only [Act.put, List.setIfInBounds_toArray, List.set_cons_zero, List.set_cons_succ]
  refine wpAnyT_take (i := 11) (v := ?_) rfl (by kernel_rfl) (by kernel_rfl) (by kernel_rfl) (by kernel_rfl) (fun _ _ _ h => h) (Or.inl ⟨by rfl, ?_⟩) hH ?_
  rotate_left
  · (intro w hSw; skip; go_simp; try with_reducible rfl)
  try simp only [Act.put, List.setIfInBounds_toArray, List.set_cons_zero, List.set_cons_succ]
  refine wpAnyT_all (rs := [5, 9]) (by kernel_rfl) (by simp) ?_
  intro i9 hi9
  have hi9' : i9 = 5 ∨ i9 = 9 := by simpa using hi9
  clear hi9 hH
  rcases hi9' with rfl | rfl
  · refine wpOp_goK rfl rfl (fun K9 hK9 => ?_)
    go_simp
    obtain ⟨x1, hx1⟩ : ∃ y, y = (wr.alloc (.cells Tryd.zeroCells57 57)).drew := ⟨_, rfl⟩
    have fA : Ext wr x1 := by rw [hx1]; exact ext_drew ((Ext.refl _).alloc (Nat.le_refl _) _)
    obtain ⟨q2, hq2⟩ : ∃ g, g = wr.heap.size := ⟨_, rfl⟩
    have hz : x1.heap[q2]? = some (.cells Tryd.zeroCells57 TT (0, 0)) := by rw [hx1, hq2]; exact heap_new wr _
    rw [← hx1, ← hq2]
    refine hK9.out _ _ ⟨.inr trivial, ?_⟩
    clear hK9 K9 c0 c1 cf
    try simp only [Act.put, List.setIfInBounds_toArray, List.set_cons_zero, List.set_cons_succ]
    obtain ⟨hq, a0, a1⟩ := H.out
    have E1 : Ext wr x1 := fA
    have hq1 : x1.heap[q]? = some (.cells A TT (0, 0)) := (E1.block q (heap_lt hq)).trans hq
    have hne : q2 ≠ q := by have h1 := heap_lt hq; omega
    have HX := Lib.hid (And.intro E1 (And.intro hq1 (And.intro hz (And.intro hne (show wr.heap.size ≤ q2 by rw [hq2]; exact Nat.le_refl _)))))
    have c0 := cell_at hq1 a0
    have c1 := cell_at hq1 a1
    have cf : ∀ j, x1.frozen? ⟨q, j, none⟩ = false := fun j => by simp [World.frozen?, hq1]
    clear hq a0 a1 E1 hq1 hne fA hz hx1 hq2
    have hH : (fun _ : World => True) x1 := trivial
    refine wpAnyT_one (i := 9) (by kernel_rfl) ?_
    refine wpOp_goK rfl rfl (fun K9 hK9 => ?_)
    go_simp
    have hq1 := heap_set HX.out.2.1 (2 + k) (.int .i64 2)
    have O1 : Only (fun j => j = q) wr (x1.setCell ⟨q, 2 + k, none⟩ (.int .i64 2)) := (Only.of_ext (S := fun j => j = q) HX.out.1).setCell (p := ⟨q, 2 + k, none⟩) (.inl rfl) _
    have hz1 : (x1.setCell ⟨q, 2 + k, none⟩ (.int .i64 2)).heap[q2]? = some (.cells Tryd.zeroCells57 TT (0, 0)) := (Below.heap_setCell _ ⟨q, 2 + k, none⟩ _ q2 HX.out.2.2.2.1).trans HX.out.2.2.1
    obtain ⟨w1, hw1⟩ : ∃ w1, w1 = x1.setCell ⟨q, 2 + k, none⟩ (.int .i64 2) := ⟨_, rfl⟩
    refine hK9.out _ _ ⟨.inr trivial, ?_⟩
    rw [← hw1] at O1 hq1 hz1 ⊢
    clear hK9 K9 hH hw1 c0 c1 cf
    have hH : (fun _ : World => True) w1 := trivial
    have c1 := cell_at hq1 (j := 98 + k) (by rw [Array.getElem?_setIfInBounds_ne (by omega)]; exact H.out.2.2)
    have cf : ∀ j, w1.frozen? ⟨q, j, none⟩ = false := fun j => by simp [World.frozen?, hq1]
    have H1 := Lib.hid (And.intro hq1 (And.intro O1 hz1))
    clear hq1 O1 hz1
    refine wpAnyT_take (i := 12) (v := ?_) rfl (by kernel_rfl) (by kernel_rfl) (by kernel_rfl) (by kernel_rfl) (fun _ _ _ h => h) (Or.inl ⟨by rfl, ?_⟩) hH ?_
    rotate_left
    · (intro w hSw; skip; go_simp; try with_reducible rfl)
    try simp only [Act.put, List.setIfInBounds_toArray, List.set_cons_zero, List.set_cons_succ]
    refine wpAnyT_one (i := 13) (by kernel_rfl) ?_
    refine wpOp_goK rfl rfl (fun K9 hK9 => ?_)
    go_simp
    refine hK9.out _ _ ⟨.inr trivial, (by kernel_rfl), ?_⟩
    refine NoPanic.normal ?_
    exact HQF.out _ _ _ _ _ _ _ _ _ _ _ _ _ ⟨q2, heap_set H1.out.1 _ _, (Below.heap_setCell _ ⟨q, 98 + k, none⟩ _ q2 HX.out.2.2.2.1).trans H1.out.2.2, HX.out.2.2.2.1, HX.out.2.2.2.2, H1.out.2.1.setCell (p := ⟨q, 98 + k, none⟩) (.inl rfl) _⟩
  · refine wpOp_goK rfl rfl (fun K9 hK9 => ?_)
    go_simp
    have O1 : Only (fun j => j = q) wr ((wr.setCell ⟨q, 2 + k, none⟩ (.int .i64 2)).drew) := (Only.setCell (S := fun j => j = q) (p := ⟨q, 2 + k, none⟩) (Only.refl wr) (.inl rfl) _).drew
    obtain ⟨hq, a0, a1⟩ := H.out
    have hq1 : ((wr.setCell ⟨q, 2 + k, none⟩ (.int .i64 2)).drew).heap[q]? = some (.cells (A.setIfInBounds (2 + k) (.int .i64 2)) TT (0, 0)) := heap_set hq (2 + k) _
    refine hK9.out _ _ ⟨.inr trivial, ?_⟩
    clear hK9 K9
    obtain ⟨w1, hw1⟩ : ∃ w1, w1 = (wr.setCell ⟨q, 2 + k, none⟩ (.int .i64 2)).drew := ⟨_, rfl⟩
    rw [← hw1] at O1 hq1 ⊢
    have hH : (fun _ : World => True) w1 := trivial
    clear hw1 c0 c1 cf hq
    have c1 := cell_at hq1 (j := 98 + k) (by rw [Array.getElem?_setIfInBounds_ne (by omega)]; exact a1)
    have cf : ∀ j, w1.frozen? ⟨q, j, none⟩ = false := fun j => by simp [World.frozen?, hq1]
    have H1 := Lib.hid (And.intro hq1 O1)
    clear hq1 O1 a0 a1
    clear hH
    refine wpAnyT_one (i := 5) (by kernel_rfl) ?_
    refine wpOp_goK rfl rfl (fun K9 hK9 => ?_)
    go_simp
    obtain ⟨x2, hx2⟩ : ∃ y, y = w1.alloc (.cells Tryd.zeroCells57 57) := ⟨_, rfl⟩
    have fA : Ext w1 x2 := by rw [hx2]; exact (Ext.refl _).alloc (Nat.le_refl _) _
    obtain ⟨q2, hq2⟩ : ∃ g, g = w1.heap.size := ⟨_, rfl⟩
    have hz : x2.heap[q2]? = some (.cells Tryd.zeroCells57 TT (0, 0)) := by rw [hx2, hq2]; exact heap_new w1 _
    rw [← hx2, ← hq2]
    refine hK9.out _ _ ⟨.inr trivial, ?_⟩
    clear hK9 K9 c1 cf
    try simp only [Act.put, List.setIfInBounds_toArray, List.set_cons_zero, List.set_cons_succ]
    have hq1 : x2.heap[q]? = some (.cells (A.setIfInBounds (2 + k) (.int .i64 2)) TT (0, 0)) := (fA.block q (heap_lt H1.out.1)).trans H1.out.1
    have O2 : Only (fun j => j = q) wr x2 := H1.out.2.trans' (T := fun j => j = q) (Only.of_ext fA) (fun _ _ h => h)
    have hne : q2 ≠ q := by have h1 := heap_lt H1.out.1; omega
    have hle : wr.heap.size ≤ q2 := by have := H1.out.2.size; omega
    have HX := Lib.hid (And.intro hq1 (And.intro O2 (And.intro hz (And.intro hne hle))))
    have c1 := cell_at hq1 (j := 98 + k) (by rw [Array.getElem?_setIfInBounds_ne (by omega)]; exact H.out.2.2)
    have cf : ∀ j, x2.frozen? ⟨q, j, none⟩ = false := fun j => by simp [World.frozen?, hq1]
    clear hq1 O2 hne hle fA hz hx2 hq2
    have hH : (fun _ : World => True) x2 := trivial
    refine wpAnyT_take (i := 12) (v := ?_) rfl (by kernel_rfl) (by kernel_rfl) (by kernel_rfl) (by kernel_rfl) (fun _ _ _ h => h) (Or.inl ⟨by rfl, ?_⟩) hH ?_
    rotate_left
    · (intro w hSw; skip; go_simp; try with_reducible rfl)
    try simp only [Act.put, List.setIfInBounds_toArray, List.set_cons_zero, List.set_cons_succ]
    refine wpAnyT_one (i := 13) (by kernel_rfl) ?_
    refine wpOp_goK rfl rfl (fun K9 hK9 => ?_)
    go_simp
    refine hK9.out _ _ ⟨.inr trivial, (by kernel_rfl), ?_⟩
    refine NoPanic.normal ?_
    exact HQF.out _ _ _ _ _ _ _ _ _ _ _ _ _ ⟨q2, heap_set HX.out.1 _ _, (Below.heap_setCell _ ⟨q, 98 + k, none⟩ _ q2 HX.out.2.2.2.1).trans HX.out.2.2.1, HX.out.2.2.2.1, HX.out.2.2.2.2, HX.out.2.1.setCell (p := ⟨q, 98 + k, none⟩) (.inl rfl) _⟩

end Go.Proofs.YtclcgelbcbnekaaDoor
