/- Texts joined. -/
import Derived.Test.YtclcgelbcbnekaaDoorRows
import Derived.Test.YtclcgelbcbnekaaDoorM12
import Derived.Test.YtclcgelbcbnekaaDoorM00
import Derived.Test.YtclcgelbcbnekaaDoorM02
import Derived.Deep.LoopGhost
import Derived.StillTailTactics
import Derived.Lib.AppendZeros
set_option linter.unusedVariables false
set_option linter.unusedSimpArgs false
/- Contracts: the document's Less, Drop, Put. -/
namespace Go.Proofs.YtclcgelbcbnekaaDoor
open Go.RowKit Go.QS
set_option linter.unusedVariables false

abbrev zPl : Value := .agg #[.string ⟨#[]⟩, .string ⟨#[]⟩]
theorem infoP : ∃ i z, Tryd.prog.info? 45 = some i ∧ i.zero = some z ∧ i.size = 2 ∧ i.bytes = 32 ∧ z.cells.size = 2 := info_of (z := zPl) (by kernel_rfl) rfl
theorem infoR : ∃ i z, Tryd.prog.info? 52 = some i ∧ i.zero = some z ∧ i.size = 2 ∧ i.bytes = 32 ∧ z.cells.size = 2 := info_of (z := zPl) (by kernel_rfl) rfl

set_option maxRecDepth 100000 in
theorem less_c' (w : World) (a b : List UInt8) (ha : a.length ≤ 9223372036854775807) :
    Calls Tryd.prog 55 #[str a, str b] w fun e w' => e = .returned (.bool (decide (a < b))) ∧ Ext w w' := by
  go_enter Tryd.func55, Tryd.ntmps55
  repeat' go_step
  go_loopg [5] a.length (fun gk vk wr => ∃ k : Nat, vk = .int .i64 k ∧ k ≤ a.length ∧ k ≤ b.length ∧ a.length - k ≤ gk ∧ Ext w wr ∧ Hid (a.take k = b.take k))
  case atStart => exact ⟨0, rfl, Nat.zero_le _, Nat.zero_le _, Nat.le_refl _, Ext.refl _, Lib.hid rfl⟩
  case round =>
    obtain ⟨k, rfl, hka, hkb, hgk, hE, HT⟩ := hrel
    by_cases h1 : k < a.length
    · have d1 : decide (k < a.length) = true := by simp [h1]
      by_cases h2 : k < b.length
      · have d2 : decide (k < b.length) = true := by simp [h2]
        obtain ⟨x, hx⟩ := get_of_lt a h1
        obtain ⟨y, hy⟩ := get_of_lt b h2
        have i1 := idx_str Tryd.underlying9 hx
        have i2 := idx_str Tryd.underlying9 hy
        have HX : Hid (_ ∧ _) := Lib.hid ⟨hx, hy⟩
        clear hx hy
        by_cases hxy : x = y
        · subst hxy
          have hne : ((x.toNat : Int) != (x.toNat : Int)) = false := by simp
          repeat' (first | go_skip | go_guarded | go_step)
          go_quiet (fail)
          repeat' go_step
          go_roundg (a.length - (k + 1))
          case measure => omega
          case rel => exact ⟨k + 1, by go_num, by omega, by omega, Nat.le_refl _, below_drewN hE _, Lib.hid (by rw [take_snoc HX.out.1, take_snoc HX.out.2, HT.out])⟩
        · have hxy' : x.toNat ≠ y.toNat := fun e => hxy (UInt8.toNat_inj.1 e)
          have hne : ((x.toNat : Int) != (y.toNat : Int)) = true := by rw [bne_iff_ne]; omega
          have hne' : (x.toNat != y.toNat) = true := by rw [bne_iff_ne]; exact hxy'
          have HL := Lib.hid (less_at HT.out HX.out.1 HX.out.2 hxy)
          clear hxy hxy'
          repeat' (first | go_skip | go_guarded | go_step)
          go_quiet (fail)
          repeat' go_step
          go_quiet (fail)
          repeat' go_step
          go_ret
          refine ⟨?_, below_drewN (below_drewN hE _) _⟩
          have : decide (a < b) = decide (x.toNat < y.toNat) := by simp [HL.out]
          rw [this]; rfl
      · have d2 : decide (k < b.length) = false := by simp; omega
        have HL := Lib.hid (less_pre HT.out (.inr (by omega)) hka hkb)
        repeat' (first | go_skip | go_guarded | go_step)
        go_ret
        refine ⟨?_, hE⟩
        have : decide (a < b) = decide (a.length < b.length) := by simp [HL.out]
        rw [this]; rfl
    · have d1 : decide (k < a.length) = false := by simp; omega
      have HL := Lib.hid (less_pre HT.out (.inl (by omega)) hka hkb)
      repeat' (first | go_skip | go_guarded | go_step)
      go_ret
      refine ⟨?_, hE⟩
      have : decide (a < b) = decide (a.length < b.length) := by simp [HL.out]
      rw [this]; rfl

theorem rdrop_snoc {l : List Pr} {k : List UInt8} {i : Nat} {q : Pr} (h : l[i]? = some q) : rdrop (l.take (i + 1)) k = if q.1 = k then rdrop (l.take i) k else rdrop (l.take i) k ++ [q] := by
  rw [take_snoc h]
  unfold rdrop
  rw [List.filter_append]
  by_cases e : q.1 = k
  · simp [e]
  · simp [e]

set_option maxRecDepth 100000 in
set_option maxHeartbeats 400000 in
theorem rdrop_c (w : World) (v : Value) (l : List Pr) (key : List UInt8) (h : PS w v l) (h9 : l.length ≤ 400000000) :
    Calls Tryd.prog 54 #[v, str key] w fun e w' => ∃ v', e = .returned v' ∧ w'.ownsRow w.heap.size 52 2 v' (rdrop l key).length (flat (rdrop l key)) ∧ Ext w w' := by
  obtain ⟨A, c, rfl, hl, hn, hc, hs⟩ := h
  obtain ⟨n, hn2⟩ : ∃ n, n = l.length := ⟨_, rfl⟩
  rw [← hn2] at h9 hn ⊢
  have Hn := Lib.hid hn2
  clear hn2 hl
  go_enter Tryd.func54, Tryd.ntmps54
  repeat' go_step
  go_loopg [5, 10] n (fun gk vo vi wr => ∃ i : Nat, vi = .int .i64 i ∧ i ≤ n ∧ n - i ≤ gk ∧ Ext w wr ∧ Hid (wr.ownsRow w.heap.size 52 2 vo (rdrop (l.take i) key).length (flat (rdrop (l.take i) key))))
  case atStart => exact ⟨0, rfl, Nat.zero_le _, by omega, Ext.refl _, Lib.hid (World.ownsRow_nil _ _ _ _)⟩
  case round =>
    obtain ⟨i, rfl, hin, hgk, hE, HO⟩ := hrel
    rcases Nat.lt_or_ge i n with hlt | hge
    · have d1 : decide (i < n) = true := by simp [hlt]
      obtain ⟨q, hq⟩ := get_of_lt l (show i < l.length by have := Hn.out; omega)
      obtain ⟨b, o, rfl, hq1, hq2⟩ := seg_pair (hs.below hE) hq
      have hi1 : (i : Int) < (n : Int) := by omega
      have hsn := rdrop_snoc (k := key) hq
      have hle : (rdrop (l.take i) key).length ≤ i := Nat.le_trans (rdrop_length _ _) (List.length_take_le _ _)
      have hown := HO.out
      clear hq
      by_cases e : q.1 = key
      · have hne : (q.1 == key) = true := by simp [e]
        rw [if_pos e] at hsn
        have HS := Lib.hid hsn
        clear e hsn hown
        repeat' go_step
        go_roundg (n - (i + 1))
        case measure => omega
        case rel => exact ⟨i + 1, by go_num, by omega, Nat.le_refl _, hE.alloc hE.size _, Lib.hid (by rw [HS.out]; exact HO.out.alloc _)⟩
      · have hne : (q.1 == key) = false := by simp [e]
        rw [if_neg e] at hsn
        have HS := Lib.hid hsn
        clear e hsn
        repeat' (first | (at_builtin; refine wpList_appE (W := w) rfl (.tmp 18) (.tmp 20) _ rfl 52 2 32 Tryd.underlying46 infoR (by decide) _ _ _ rfl ((hown.alloc _).alloc _) ((hE.alloc hE.size _).alloc (by simp; have := hE.size; omega) _) _ 1 1 [str q.1, str q.2] rfl rfl (Seg.new _ [_, _] _ (by simp)) (by intro u hu; simp at hu; rcases hu with rfl | rfl <;> rfl) (by unfold maxLen; omega) (by omega) ?_; intro v1 w1 hown1 hb1) | go_step)
        go_roundg (n - (i + 1))
        case measure => omega
        case rel => exact ⟨i + 1, by go_num, by omega, Nat.le_refl _, hb1, Lib.hid (by rw [HS.out, List.length_append, flat_append]; exact hown1)⟩
    · obtain rfl : i = n := by omega
      have d1 : decide (i < i) = false := by simp
      repeat' go_step
      go_ret
      have := HO.out
      rw [List.take_of_length_le (by have := Hn.out; omega)] at this
      exact ⟨_, rfl, this, hE⟩

/-- Has Put found its place? -/
def plB (p : Pr) (L : List Pr) : Bool := L.any fun x => decide (p.1 < x.1)
theorem insB_pl (p : Pr) (R : List Pr) : ∀ (L : List Pr), plB p L = true → insB p (L ++ R) = insB p L ++ R
  | [], h => by cases h
  | x :: L, h => by
    by_cases hx : p.1 < x.1
    · simp [insB, hx]
    · have : plB p L = true := by
        have h' : (decide (p.1 < x.1) || plB p L) = true := h
        simpa [hx] using h'
      simp [insB, hx, insB_pl p R L this]
theorem insB_no (p : Pr) (R : List Pr) : ∀ (L : List Pr), plB p L = false → insB p (L ++ R) = L ++ insB p R
  | [], _ => rfl
  | x :: L, h => by
    have h' : (decide (p.1 < x.1) || plB p L) = false := h
    rw [Bool.or_eq_false_iff, decide_eq_false_iff_not] at h'
    simp [insB, h'.1, insB_no p R L h'.2]
theorem plB_snoc (p : Pr) (L : List Pr) (q : Pr) : plB p (L ++ [q]) = (plB p L || decide (p.1 < q.1)) := by simp [plB]
theorem insB_length (p : Pr) : ∀ (l : List Pr), (insB p l).length = l.length + 1
  | [] => rfl
  | x :: l => by unfold insB; split <;> simp [insB_length p l]
/-- Behind k rounds of Put's loop: what has been collected. -/
def putTo (p : Pr) (L : List Pr) : List Pr := if plB p L then insB p L else L
theorem putTo_length (p : Pr) (L : List Pr) : (putTo p L).length ≤ L.length + 1 := by
  unfold putTo
  split
  · rw [insB_length]; omega
  · omega
theorem putTo_pl {p q : Pr} {L : List Pr} (h : plB p L = true) : putTo p (L ++ [q]) = putTo p L ++ [q] ∧ plB p (L ++ [q]) = true := by
  have h2 : plB p (L ++ [q]) = true := by rw [plB_snoc, h]; rfl
  refine ⟨?_, h2⟩
  unfold putTo
  rw [h, h2, if_pos rfl, if_pos rfl, insB_pl p [q] L h]
theorem putTo_now {p q : Pr} {L : List Pr} (h : plB p L = false) (hq : p.1 < q.1) : putTo p (L ++ [q]) = putTo p L ++ [p, q] ∧ plB p (L ++ [q]) = true := by
  have h2 : plB p (L ++ [q]) = true := by rw [plB_snoc, h]; simp [hq]
  refine ⟨?_, h2⟩
  unfold putTo
  rw [h, h2, if_pos rfl, insB_no p [q] L h]
  simp [insB, hq]
theorem putTo_not {p q : Pr} {L : List Pr} (h : plB p L = false) (hq : ¬ p.1 < q.1) : putTo p (L ++ [q]) = putTo p L ++ [q] ∧ plB p (L ++ [q]) = false := by
  have h2 : plB p (L ++ [q]) = false := by rw [plB_snoc, h]; simp [hq]
  refine ⟨?_, h2⟩
  unfold putTo
  rw [h, h2]; rfl
theorem putTo_end {p : Pr} {L : List Pr} : insB p L = if plB p L then putTo p L else putTo p L ++ [p] := by
  unfold putTo
  cases h : plB p L with
  | true => rfl
  | false =>
    have := insB_no p [] L h
    simpa [insB] using this

theorem two_cell {w w' : World} {g : Nat} {a b : Value} {t : TypeId} (hg : g = w.heap.size) (hb : Below (w.alloc (.cells #[a, b] t)).heap.size (w.alloc (.cells #[a, b] t)) w') : w'.cell? ⟨g, 0, none⟩ = some a ∧ w'.cell? ⟨g, 1, none⟩ = some b := by
  subst hg
  exact ⟨(hb.cell (p := ⟨w.heap.size, 0, none⟩) (by simp)).trans (by rw [World.cell?_alloc_at _ _ _ _ rfl]; rfl), (hb.cell (p := ⟨w.heap.size, 1, none⟩) (by simp)).trans (by rw [World.cell?_alloc_at _ _ _ _ rfl]; rfl)⟩

theorem app_keep {w0 w w' : World} {base : Nat} {e : TypeId} {k n : Nat} {v : Value} {xs : List Value} {g j : Nat} {u : Value} (hown : w0.ownsRow base e k v n xs) (hg0 : w0.heap.size ≤ g) (hg : w.grownBy w' v.ownBlock) (hc : w.cell? ⟨g, j, none⟩ = some u) : w'.cell? ⟨g, j, none⟩ = some u :=
  hg.cell hc (fun e => by have := (hown.lt g e.symm).2; omega)

set_option maxRecDepth 100000 in
set_option maxHeartbeats 2000000 in
theorem rput_c (w : World) (v : Value) (l : List Pr) (p : Pr) (h : PS w v l) (h9 : l.length ≤ 400000000) (hp9 : p.1.length ≤ 9223372036854775807) :
    Calls Tryd.prog 29 #[v, .agg #[str p.1, str p.2]] w fun e w' => ∃ v', e = .returned v' ∧ w'.ownsRow w.heap.size 52 2 v' (rput l p).length (flat (rput l p)) ∧ Ext w w' := by
  have HC := Lib.hid (fun W (hW : Ext w W) => rdrop_c W v l p.1 (h.below hW) h9)
  obtain ⟨L, hL⟩ : ∃ L, L = rdrop l p.1 := ⟨_, rfl⟩
  have hLl : L.length ≤ 400000000 := by rw [hL]; exact Nat.le_trans (rdrop_length _ _) h9
  rw [← hL] at HC
  have HL := Lib.hid hL
  obtain ⟨A, c, rfl, hl, hn, hc, hs⟩ := h
  clear hL hl hn hc hs
  go_enter Tryd.func29, Tryd.ntmps29
  repeat' go_step
  refine (HC.out _ ((Ext.refl w).alloc (Nat.le_refl _) _)).mono ?_
  rintro e w1 ⟨v1, rfl, hown, hb⟩
  obtain ⟨hc1, hc2⟩ := two_cell rfl hb
  have hE : Ext w w1 := Ext.trans ((Ext.refl w).alloc (Nat.le_refl _) _) hb
  have hbx : w.heap.size < w1.heap.size := by have := hb.size; simp at this; omega
  obtain ⟨A1, c1, rfl, hl1, hn1, hcm1, hs1⟩ := PS.of_own hown
  have HO := Lib.hid hown
  clear hb hown
  obtain ⟨n, hn2⟩ : ∃ n, n = L.length := ⟨_, rfl⟩
  rw [← hn2] at hLl hn1 ⊢
  have Hn := Lib.hid hn2
  clear hn2 hl1
  go_simp
  repeat' go_step
  go_loopg [5, 6, 14] n (fun gk vo vb vi wr => ∃ (i : Nat) (bb : Bool), vi = .int .i64 i ∧ vb = .bool bb ∧ i ≤ n ∧ n - i ≤ gk ∧ Ext w1 wr ∧ Hid (wr.ownsRow w1.heap.size 52 2 vo (putTo p (L.take i)).length (flat (putTo p (L.take i))) ∧ bb = plB p (L.take i)))
  case atStart => exact ⟨0, false, rfl, rfl, Nat.zero_le _, by omega, Ext.refl _, Lib.hid ⟨World.ownsRow_nil _ _ _ _, rfl⟩⟩
  case round =>
    obtain ⟨i, bb, rfl, rfl, hin, hgk, hE1, HI⟩ := hrel
    have hb1 : wr.cell? ⟨w.heap.size, 0, none⟩ = some (str p.1) := (hE1.cell (p := ⟨w.heap.size, 0, none⟩) hbx).trans hc1
    have hb2 : wr.cell? ⟨w.heap.size, 1, none⟩ = some (str p.2) := (hE1.cell (p := ⟨w.heap.size, 1, none⟩) hbx).trans hc2
    have hbr : w.heap.size < wr.heap.size := Nat.lt_of_lt_of_le hbx hE1.size
    have hle : (putTo p (L.take i)).length ≤ i + 1 := Nat.le_trans (putTo_length _ _) (by have := List.length_take_le i L; omega)
    rcases Nat.lt_or_ge i n with hlt | hge
    · have d1 : decide (i < n) = true := by simp [hlt]
      obtain ⟨q, hq⟩ := get_of_lt L (show i < L.length by have := Hn.out; omega)
      obtain ⟨b, o, rfl, hq1, hq2⟩ := seg_pair (hs1.below hE1) hq
      have hi1 : (i : Int) < (n : Int) := by omega
      have HQ := Lib.hid (take_snoc hq)
      obtain ⟨hown, hbb⟩ := HI.out
      clear hq
      cases bb with
      | true =>
        have HS := Lib.hid (putTo_pl (q := q) hbb.symm)
        clear hbb
        repeat' (first | go_skip | go_guarded | (at_builtin; refine wpList_appE (W := w1) rfl (.tmp 31) (.tmp 33) _ rfl 52 2 32 Tryd.underlying46 infoR (by decide) _ _ _ rfl ((hown.alloc _).alloc _) ((hE1.alloc hE1.size _).alloc (by simp; have := hE1.size; omega) _) _ 1 1 [str q.1, str q.2] rfl rfl (Seg.new _ [_, _] _ (by simp)) (by intro u hu; simp at hu; rcases hu with rfl | rfl <;> rfl) (by unfold maxLen; omega) (by omega) ?_; intro v3 w3 hown3 hb3) | go_step)
        go_roundg (n - (i + 1))
        case measure => omega
        case rel => exact ⟨i + 1, true, by go_num, rfl, by omega, Nat.le_refl _, hb3, Lib.hid ⟨by rw [HQ.out, HS.out.1, List.length_append, flat_append]; exact hown3, by rw [HQ.out, HS.out.2]⟩⟩
      | false =>
        replace hbb := Lib.hid hbb
        repeat' (first | go_skip | go_guarded | go_step)
        refine (less_c' _ p.1 q.1 hp9).mono ?_
        rintro e w2 ⟨rfl, hbw⟩
        have hE2 : Ext w1 w2 := Ext.trans (hE1.alloc hE1.size _) hbw
        have hx1 : w2.cell? ⟨w.heap.size, 0, none⟩ = some (str p.1) := (hE2.cell (p := ⟨w.heap.size, 0, none⟩) hbx).trans hc1
        have hx2 : w2.cell? ⟨w.heap.size, 1, none⟩ = some (str p.2) := (hE2.cell (p := ⟨w.heap.size, 1, none⟩) hbx).trans hc2
        obtain ⟨hy1, hy2⟩ := two_cell rfl hbw
        have hbr2 : wr.heap.size < w2.heap.size := by have := hbw.size; simp at this; omega
        have hbr3 : w.heap.size < w2.heap.size := Nat.lt_of_lt_of_le hbx hE2.size
        have hown2 := (hown.alloc (.cells #[str q.1, str q.2] 52)).kept (row := none) (grown_ext hbw) (by cases u5.ownBlock <;> simp)
        have hown0 := hown
        clear hown hbw
        by_cases hpq : p.1 < q.1
        · have hd : decide (p.1 < q.1) = true := by simp [hpq]
          have HS := Lib.hid (putTo_now hbb.out.symm hpq)
          clear hbb hpq
          go_simp
          repeat' (first | go_skip | go_guarded | (at_builtin; (refine wpList_app rfl (.tmp 27) (.tmp 29) _ rfl w1.heap.size 52 2 32 Tryd.underlying46 infoR (by decide) _ _ _ rfl (hown2.alloc _) _ 1 1 [str p.1, str p.2] rfl rfl (Seg.new _ [_, _] _ (by simp)) (by intro u hu; simp at hu; rcases hu with rfl | rfl <;> rfl) (by unfold maxLen; omega) (by omega) (hE2.alloc hE2.size _).size ?_); intro v3 w3 hown3 hg3 _; have hE3 : Ext w1 w3 := (hE2.alloc hE2.size _).grown hg3 (hE2.alloc hE2.size _).size (fun k hk => (hown0.lt k hk).1); have hz1 := app_keep (g := wr.heap.size) (j := 0) hown0 (Nat.le_refl _) hg3 ((World.cell?_alloc_lt _ _ _ hbr2).trans hy1); have hz2 := app_keep (g := wr.heap.size) (j := 1) hown0 (Nat.le_refl _) hg3 ((World.cell?_alloc_lt _ _ _ hbr2).trans hy2); clear hg3) | (at_builtin; refine wpList_appE (W := w1) rfl (.tmp 31) (.tmp 33) _ rfl 52 2 32 Tryd.underlying46 infoR (by decide) _ _ _ rfl (hown3.alloc _) (hE3.alloc hE3.size _) _ 1 1 [str q.1, str q.2] rfl rfl (Seg.new _ [_, _] _ (by simp)) (by intro u hu; simp at hu; rcases hu with rfl | rfl <;> rfl) (by unfold maxLen; omega) (by omega) ?_; intro v4 w4 hown4 hb4) | go_step)
          go_roundg (n - (i + 1))
          case measure => omega
          case rel => exact ⟨i + 1, true, by go_num, rfl, by omega, Nat.le_refl _, hb4, Lib.hid ⟨by rw [HQ.out, HS.out.1, List.length_append, flat_append]; simpa [flat_cons] using hown4, by rw [HQ.out, HS.out.2]⟩⟩
        · have hd : decide (p.1 < q.1) = false := by simp [hpq]
          have HS := Lib.hid (putTo_not hbb.out.symm hpq)
          clear hbb hpq
          go_simp
          repeat' (first | go_skip | go_guarded | (at_builtin; refine wpList_appE (W := w1) rfl (.tmp 31) (.tmp 33) _ rfl 52 2 32 Tryd.underlying46 infoR (by decide) _ _ _ rfl (hown2.alloc _) (hE2.alloc hE2.size _) _ 1 1 [str q.1, str q.2] rfl rfl (Seg.new _ [_, _] _ (by simp)) (by intro u hu; simp at hu; rcases hu with rfl | rfl <;> rfl) (by unfold maxLen; omega) (by omega) ?_; intro v4 w4 hown4 hb4) | go_step)
          go_roundg (n - (i + 1))
          case measure => omega
          case rel => exact ⟨i + 1, false, by go_num, rfl, by omega, Nat.le_refl _, hb4, Lib.hid ⟨by rw [HQ.out, HS.out.1, List.length_append, flat_append]; exact hown4, by rw [HQ.out, HS.out.2]⟩⟩
    · obtain rfl : i = n := by omega
      have d1 : decide (i < i) = false := by simp
      obtain ⟨hown, hbb⟩ := HI.out
      have hT : L.take i = L := List.take_of_length_le (by have := Hn.out; omega)
      rw [hT] at hown hbb hle
      have hend := putTo_end (p := p) (L := L)
      have HT := Lib.hid hT
      clear hT
      cases bb with
      | true =>
        rw [← hbb, if_pos rfl] at hend
        have HN := Lib.hid hend
        clear hend hbb
        repeat' (first | go_skip | go_guarded | go_step)
        go_ret
        refine ⟨_, rfl, ?_, Ext.trans hE hE1⟩
        unfold rput
        rw [← HL.out, HN.out]
        exact own_base hown hE.size
      | false =>
        rw [← hbb] at hend
        have HN := Lib.hid hend
        clear hend hbb
        repeat' (first | go_skip | go_guarded | (at_builtin; refine wpList_appE (W := w1) rfl (.tmp 38) (.tmp 40) _ rfl 52 2 32 Tryd.underlying46 infoR (by decide) _ _ _ rfl (hown.alloc _) (hE1.alloc hE1.size _) _ 1 1 [str p.1, str p.2] rfl rfl (Seg.new _ [_, _] _ (by simp)) (by intro u hu; simp at hu; rcases hu with rfl | rfl <;> rfl) (by unfold maxLen; omega) (by omega) ?_; intro v4 w4 hown4 hb4) | go_step)
        go_ret
        refine ⟨_, rfl, ?_, Ext.trans hE hb4⟩
        unfold rput
        rw [← HL.out, HN.out, if_neg (by simp), List.length_append, flat_append]
        exact own_base hown4 hE.size

end Go.Proofs.YtclcgelbcbnekaaDoor
/- Contracts: comparing. -/
namespace Go.Proofs.YtclcgelbcbnekaaDoor.Pch
open Go.RowKit Go.QS
set_option linter.unusedVariables false

set_option maxRecDepth 100000 in
theorem isnan_c (w : World) (a : List UInt8) : Calls Tryd.prog 107 #[str a] w fun e w' => e = .returned (.bool false) ∧ w = w' := by
  go_enter Tryd.func107, Tryd.ntmps107
  repeat' go_step
  go_ret
  exact ⟨by simp, rfl⟩

set_option maxRecDepth 100000 in
theorem compare_c (w : World) (a b : List UInt8) : Calls Tryd.prog 106 #[str a, str b] w fun e w' => e = .returned (.int .i64 (cmpB a b)) ∧ w = w' := by
  have hl := bless a b
  have hl' := bless b a
  rcases k_tri a b with h | h | h
  · have e1 : decide (a < b) = true := by simp [h]
    rw [e1] at hl
    have H := Lib.hid h; clear h e1 hl'
    go_enter Tryd.func106, Tryd.ntmps106
    repeat' (first | (go_at_call 107; refine (isnan_c _ _).mono ?_; rintro e w' ⟨rfl, rfl⟩; go_simp) | go_step)
    go_ret
    exact ⟨by simp [cmpB, H.out], rfl⟩
  · subst h
    have e1 : decide (a < a) = false := by simp [k_irrefl]
    rw [e1] at hl
    clear e1 hl'
    go_enter Tryd.func106, Tryd.ntmps106
    repeat' (first | (go_at_call 107; refine (isnan_c _ _).mono ?_; rintro e w' ⟨rfl, rfl⟩; go_simp) | go_step)
    go_ret
    exact ⟨by simp [cmpB, k_irrefl], rfl⟩
  · have e1 : decide (a < b) = false := by simp [k_asymm h]
    rw [e1] at hl
    have e2 : (a == b) = false := by simp [(k_ne h).symm]
    have H := Lib.hid h; have H' := Lib.hid (k_asymm h); clear h e1 hl'
    go_enter Tryd.func106, Tryd.ntmps106
    repeat' (first | (go_at_call 107; refine (isnan_c _ _).mono ?_; rintro e w' ⟨rfl, rfl⟩; go_simp) | go_step)
    go_ret
    exact ⟨by simp [cmpB, H.out, H'.out], rfl⟩

set_option maxRecDepth 100000 in
theorem order_c (w : World) (p : Pr) (b : List UInt8) : Calls Tryd.prog 100 #[.agg #[str p.1, str p.2], str b] w fun e w' => e = .returned (.int .i64 (cmpB p.1 b)) ∧ Ext w w' := by
  go_enter Tryd.func100, Tryd.ntmps100
  repeat' (first | (go_at_call 106; refine (compare_c _ _ _).mono ?_; rintro e w' ⟨rfl, rfl⟩; go_simp) | go_step)
  go_ret
  exact ⟨rfl, (Ext.refl _).alloc (Nat.le_refl _) _⟩

end Go.Proofs.YtclcgelbcbnekaaDoor.Pch/- Contracts: where a key is, or would be. -/
namespace Go.Proofs.YtclcgelbcbnekaaDoor.Pch
open Go.RowKit Go.QS
set_option linter.unusedVariables false

abbrev ordV : Value := .func (.func 100) #[] #[]

set_option maxRecDepth 100000 in
set_option maxHeartbeats 400000 in
theorem bs_c (w : World) (v : Value) (l : List Pr) (key : List UInt8) (h : PS w v l) (hr : Rise l) (h9 : l.length ≤ 1000000000) :
    Calls Tryd.prog 99 #[v, str key, ordV] w fun e w' => e = .returned (.tuple #[.int .i64 (fndI l key), .bool (hasK l key)]) ∧ Ext w w' := by
  obtain ⟨A, c, rfl, hl, hn, hc, hs⟩ := h
  obtain ⟨n, hn2⟩ : ∃ n, n = l.length := ⟨_, rfl⟩
  rw [← hn2] at h9 hn ⊢
  have Hn : Hid (_ ∧ _) := Lib.hid ⟨hn2, hr⟩
  clear hn2 hl hr
  go_enter Tryd.func99, Tryd.ntmps99
  repeat' go_step
  go_loopg [9, 10] n (fun gk vi vj wr => ∃ i j : Nat, vi = .int .i64 i ∧ vj = .int .i64 j ∧ i ≤ j ∧ j ≤ n ∧ j - i ≤ gk ∧ Ext w wr ∧ Hid (∀ t q, l[t]? = some q → (t < i → q.1 < key) ∧ (j ≤ t → ¬ q.1 < key)))
  case atStart => exact ⟨0, n, rfl, rfl, Nat.zero_le _, Nat.le_refl _, by omega, Ext.refl _, Lib.hid fun t q hq => ⟨fun h => by omega, fun h => by have := (List.getElem?_eq_some_iff.1 hq).1; have := Hn.out.1; omega⟩⟩
  case round =>
    obtain ⟨i, j, rfl, rfl, hij, hjn, hgk, hE, HI⟩ := hrel
    rcases Nat.lt_or_ge i j with hlt | hge
    · have d1 : decide (i < j) = true := by simp [hlt]
      obtain ⟨m, hm⟩ : ∃ m, m = (i + j) / 2 := ⟨_, rfl⟩
      have hm1 : ((i : Int) + (j : Int)) / 2 = (m : Int) := by omega
      have him : i ≤ m := by omega
      have hmj : m < j := by omega
      obtain ⟨q, hq⟩ := get_of_lt l (show m < l.length by have := Hn.out.1; omega)
      obtain ⟨b, o, rfl, hq1, hq2⟩ := seg_pair (hs.below hE) hq
      have hi1 : (m : Int) < (n : Int) := by omega
      have HH := Lib.hid hq
      clear hm hq
      repeat' go_step
      refine (order_c _ q key).mono ?_
      rintro e w1 ⟨rfl, hb1⟩
      have hE1 : Ext w w1 := Ext.trans hE hb1
      by_cases hlt : q.1 < key
      · have hc : decide (cmpB q.1 key < 0) = true := by simp [cmpB_neg, hlt]
        have HL := Lib.hid hlt
        go_simp
        repeat' go_step
        go_roundg (j - (m + 1))
        case measure => omega
        case rel =>
          refine ⟨m + 1, j, by go_num, rfl, by omega, by omega, Nat.le_refl _, hE1, Lib.hid fun t p hp => ⟨fun ht => ?_, fun ht => (HI.out t p hp).2 ht⟩⟩
          rcases Nat.lt_or_eq_of_le (Nat.le_of_lt_succ ht) with h | rfl
          · obtain ⟨e1, rfl⟩ := List.getElem?_eq_some_iff.1 hp
            obtain ⟨e2, rfl⟩ := List.getElem?_eq_some_iff.1 HH.out
            exact k_trans (List.pairwise_iff_getElem.1 Hn.out.2 _ _ e1 e2 h) HL.out
          · rw [HH.out] at hp; cases hp; exact HL.out
      · have hc : decide (cmpB q.1 key < 0) = false := by simp [cmpB_neg, hlt]
        have HL := Lib.hid hlt
        go_simp
        repeat' go_step
        go_roundg (m - i)
        case measure => omega
        case rel =>
          refine ⟨i, m, rfl, rfl, by omega, by omega, Nat.le_refl _, hE1, Lib.hid fun t p hp => ⟨fun ht => (HI.out t p hp).1 ht, fun ht => ?_⟩⟩
          rcases Nat.lt_or_eq_of_le ht with h | rfl
          · obtain ⟨e1, rfl⟩ := List.getElem?_eq_some_iff.1 hp
            obtain ⟨e2, rfl⟩ := List.getElem?_eq_some_iff.1 HH.out
            exact fun hx => HL.out (k_trans (List.pairwise_iff_getElem.1 Hn.out.2 _ _ e2 e1 h) hx)
          · rw [HH.out] at hp; cases hp; exact HL.out
    · obtain rfl : i = j := by omega
      have d1 : decide (i < i) = false := by simp
      have hfi : i = fndI l key := fnd_first (by have := Hn.out.1; omega) (fun t q ht hq => (HI.out t q hq).1 ht) (fun q hq => (HI.out i q hq).2 (Nat.le_refl _))
      have hha := hasK_at (k := key) Hn.out.2
      rw [← hfi] at hha
      have HF := Lib.hid hfi
      clear hfi
      rcases Nat.lt_or_ge i n with hlt | hge
      · have d2 : decide (i < n) = true := by simp [hlt]
        obtain ⟨q, hq⟩ := get_of_lt l (show i < l.length by have := Hn.out.1; omega)
        obtain ⟨b, o, rfl, hq1, hq2⟩ := seg_pair (hs.below hE) hq
        have hi1 : (i : Int) < (n : Int) := by omega
        rw [hq] at hha
        have HH : Hid (_ ∧ _) := Lib.hid ⟨hq, hha⟩
        clear hq hha
        repeat' (first | go_skip | go_guarded | go_step)
        refine (order_c _ q key).mono ?_
        rintro e w1 ⟨rfl, hb1⟩
        have hE1 : Ext w w1 := Ext.trans hE hb1
        have hz : (cmpB q.1 key == 0) = (q.1 == key) := by
          rw [Bool.eq_iff_iff]
          simp [cmpB_zero]
        go_simp
        repeat' (first | go_skip | go_guarded | go_step)
        go_ret2
        refine ⟨?_, hE1⟩
        rw [← HF.out, HH.out.2]
        first | rfl | simp
      · have d2 : decide (i < n) = false := by simp; omega
        have hno : l[i]? = none := List.getElem?_eq_none (by have := Hn.out.1; omega)
        rw [hno] at hha
        have HH := Lib.hid hha
        clear hha hno
        repeat' (first | go_skip | go_guarded | go_step)
        go_ret2
        refine ⟨?_, hE⟩
        rw [← HF.out, HH.out]
        rfl

set_option maxRecDepth 100000 in
theorem find_c (w : World) (v : Value) (l : List Pr) (key : List UInt8) (h : PS w v l) (hr : Rise l) (h9 : l.length ≤ 1000000000) :
    Calls Tryd.prog 87 #[v, str key] w fun e w' => e = .returned (.tuple #[.int .i64 (fndI l key), .bool (hasK l key)]) ∧ Ext w w' := by
  have HC := Lib.hid (bs_c w v l key h hr h9)
  clear h hr
  go_enter Tryd.func87, Tryd.ntmps87
  repeat' go_step
  refine HC.out.mono ?_
  rintro e w1 ⟨rfl, hb⟩
  go_simp
  repeat' go_step
  go_ret2
  exact ⟨rfl, hb⟩

end Go.Proofs.YtclcgelbcbnekaaDoor.Pch/- Contracts: Grow of nil, Concat. -/
namespace Go.Proofs.YtclcgelbcbnekaaDoor
open Go.RowKit Go.QS
set_option linter.unusedVariables false

set_option maxRecDepth 100000 in
theorem grow_c (w : World) (n : Nat) (h9 : n ≤ 1000000000) :
    Calls Tryd.prog 101 #[.slice none 0 0, .int .i64 n] w fun e w' => ∃ v', e = .returned v' ∧ w'.ownsRow w.heap.size 45 2 v' 0 [] ∧ Ext w w' := by
  obtain ⟨i, z, hi, hz, hs, hb, hzs⟩ := infoP
  rcases Nat.eq_zero_or_pos n with rfl | h0
  · go_enter Tryd.func101, Tryd.ntmps101
    clear hi hz hs hb hzs
    repeat' go_step
    go_ret
    exact ⟨_, rfl, World.ownsRow_nil _ _ _ _, Ext.refl _⟩
  · have hr := fun w : World => Lib.run_append_nil_zeros (P := Tryd.prog) w 43 3 43 45 i z .i64 .i64 Tryd.underlying43 Tryd.underlying3 hi hz n h0 (by omega) (by omega) (by rw [hb]; omega)
    have HZ : Hid (_ ∧ _) := Lib.hid ⟨hs, hzs⟩
    have Hr := Lib.hid hr
    clear hi hz hs hb hzs hr
    have d1 : decide (0 < n) = true := by simp [h0]
    go_enter Tryd.func101, Tryd.ntmps101
    repeat' (first | (at_builtin; refine Lib.wpList_append_run _ rfl (.tmp 20) (.tmp 21) 43 3 rfl _ _ rfl rfl _ _ (Hr.out _) ?_) | go_step)
    go_ret
    refine ⟨_, rfl, ?_, ?_⟩
    · have hm := World.ownsRow_made (base := w.heap.size) (e := 45) (size := 2) w.drew (Builtin.zeroCells z.cells n ++ Builtin.zeroCells z.cells (grownCap w n 0 45 - n)) (grownCap w n 0 45) (Nat.le_refl _)
        (grownCap_le_maxLen w n 0 _ (by unfold maxLen; omega)) (by
          have := grownCap_ge w n 0 45
          rw [Array.size_append, size_zeroCells, size_zeroCells, HZ.out.2, ← Nat.add_mul]; congr 1; omega)
      exact hm
    · exact ((Ext.refl w).drew).alloc (Nat.le_refl _) _

/-- A slice of slices of pairs. -/
def PSS (w : World) (v : Value) (ls : List (List Pr)) : Prop := ∃ A c vs, v = .slice A ls.length c ∧ Seg w A vs ∧ vs.length = ls.length ∧ ∀ (i : Nat) (u : Value) (l : List Pr), vs[i]? = some u → ls[i]? = some l → PS w u l

theorem flatten_snoc {ls : List (List Pr)} {k : Nat} {l : List Pr} (h : ls[k]? = some l) : (ls.take (k + 1)).flatten = (ls.take k).flatten ++ l := by rw [take_snoc h]; simp
theorem flatten_le (ls : List (List Pr)) (k : Nat) : (ls.take k).flatten.length ≤ ls.flatten.length := by
  have : ls.flatten = (ls.take k).flatten ++ (ls.drop k).flatten := by rw [← List.flatten_append, List.take_append_drop]
  rw [this]; simp

set_option maxRecDepth 100000 in
set_option maxHeartbeats 400000 in
theorem concat_c (w : World) (v : Value) (ls : List (List Pr)) (h : PSS w v ls) (hl9 : ls.length ≤ 1000) (h9 : ls.flatten.length ≤ 1000000000) :
    Calls Tryd.prog 88 #[v] w fun e w' => ∃ v', e = .returned v' ∧ w'.ownsRow w.heap.size 45 2 v' ls.flatten.length (flat ls.flatten) ∧ Ext w w' := by
  obtain ⟨A, c, vs, rfl, hs, hvl, hp⟩ := h
  obtain ⟨n, hn⟩ : ∃ n, n = ls.length := ⟨_, rfl⟩
  rw [← hn] at hl9 ⊢
  have HP : Hid (_ ∧ _ ∧ _) := Lib.hid ⟨hp, hvl, hn⟩
  clear hp hvl hn
  go_enter Tryd.func88, Tryd.ntmps88
  repeat' go_step
  go_loopg [3, 11] n (fun gk vm vk wr => ∃ k m : Nat, vk = .int .i64 k ∧ vm = .int .i64 m ∧ k ≤ n ∧ n - k ≤ gk ∧ m ≤ 1000000000 ∧ Ext w wr ∧ Hid (m = (ls.take k).flatten.length))
  case atStart => exact ⟨0, 0, rfl, rfl, Nat.zero_le _, by omega, by omega, Ext.refl _, Lib.hid (by simp)⟩
  case round =>
    obtain ⟨k, m, rfl, rfl, hkn, hgk, hm9, hE, HM⟩ := hrel
    rcases Nat.lt_or_ge k n with hlt | hge
    · have d1 : decide (k < n) = true := by simp [hlt]
      obtain ⟨hp, hvl, hn⟩ := HP.out
      obtain ⟨u, hu⟩ := get_of_lt vs (show k < vs.length by omega)
      obtain ⟨l, hl⟩ := get_of_lt ls (show k < ls.length by omega)
      obtain ⟨A', c', rfl, hl', hc', hcm', hs'⟩ := hp k u l hu hl
      obtain ⟨b, o, rfl, hat⟩ := (hs.below hE) (fun e => by rw [e] at hu; simp at hu)
      have hc1 := hat k _ hu
      have hi1 : (k : Int) < (n : Int) := by omega
      obtain ⟨m1, hm1⟩ : ∃ m1, m1 = m + l.length := ⟨_, rfl⟩
      have hs1 : (m : Int) + (l.length : Int) = (m1 : Int) := by omega
      have hm2 : m1 = (ls.take (k + 1)).flatten.length := by rw [flatten_snoc hl, List.length_append, ← HM.out, hm1]
      have hm3 : m1 ≤ 1000000000 := by rw [hm2]; exact Nat.le_trans (flatten_le _ _) h9
      have HH := Lib.hid hm2
      have d2 : ¬ ((m1 : Int) < 0) := by omega
      clear hp hvl hn hu hl hl' hs' hat hm1 hm2
      repeat' go_step
      go_roundg (n - (k + 1))
      case measure => omega
      case rel => exact ⟨k + 1, m1, by go_num, rfl, by omega, Nat.le_refl _, hm3, hE, HH⟩
    · obtain rfl : k = n := by omega
      have d1 : decide (k < k) = false := by simp
      repeat' go_step
      refine (grow_c _ m hm9).mono ?_
      rintro e w1 ⟨v1, rfl, hown, hb1⟩
      have hE1 : Ext w w1 := Ext.trans hE hb1
      have hown1 : w1.ownsRow w.heap.size 45 2 v1 0 [] := by
        refine ⟨hown.1, ?_⟩
        rcases hown.2 with h | ⟨g, cap, cur, h1, h2, h3⟩
        · exact .inl h
        · exact .inr ⟨g, cap, cur, h1, Nat.le_trans hE.size h2, h3⟩
      have HO := Lib.hid hown1
      clear hown hown1
      go_simp
      repeat' go_step
      obtain ⟨wo, rfl⟩ : ∃ wo : World, wo = w1 := ⟨_, rfl⟩
      go_loopg [6, 27] k (fun gk vm vj wr => ∃ j : Nat, vj = .int .i64 j ∧ j ≤ k ∧ k - j ≤ gk ∧ Ext w wr ∧ Hid (wr.ownsRow w.heap.size 45 2 vm (ls.take j).flatten.length (flat (ls.take j).flatten)))
      case atStart => exact ⟨0, rfl, Nat.zero_le _, by omega, hE1, Lib.hid (by simpa using HO.out)⟩
      case round =>
        obtain ⟨j, rfl, hjk, hgk2, hE2, HO2⟩ := hrel
        rcases Nat.lt_or_ge j k with hlt | hge
        · have d1 : decide (j < k) = true := by simp [hlt]
          obtain ⟨hp, hvl, hn⟩ := HP.out
          obtain ⟨u, hu⟩ := get_of_lt vs (show j < vs.length by omega)
          obtain ⟨l, hl⟩ := get_of_lt ls (show j < ls.length by omega)
          obtain ⟨A', c', rfl, hl', hc', hcm', hs'⟩ := hp j u l hu hl
          obtain ⟨b, o, rfl, hat⟩ := (hs.below hE2) (fun e => by rw [e] at hu; simp at hu)
          have hc1 := hat j _ hu
          have hi1 : (j : Int) < (k : Int) := by omega
          have hfl : (ls.take (j + 1)).flatten.length ≤ 1000000000 := Nat.le_trans (flatten_le _ _) h9
          rw [flatten_snoc hl, List.length_append] at hfl
          have HL := Lib.hid (flatten_snoc hl)
          clear hp hvl hn hu hl hat
          have hown := HO2.out
          have hs'' := hs'.below hE2
          repeat' (first | (at_builtin; refine wpList_appE (W := w) rfl (.tmp 31) (.tmp 32) _ rfl 45 2 32 Tryd.underlying43 infoP (by decide) _ _ _ rfl hown hE2 _ l.length c' (flat l) rfl hl' hs'' (flat_one _) (by unfold maxLen; omega) (by omega) ?_; intro v3 w3 hown3 hb3) | go_step)
          go_roundg (k - (j + 1))
          case measure => omega
          case rel => exact ⟨j + 1, by go_num, by omega, Nat.le_refl _, hb3, Lib.hid (by rw [HL.out, List.length_append, flat_append]; exact hown3)⟩
        · obtain rfl : j = k := by omega
          have d1 : decide (j < j) = false := by simp
          repeat' go_step
          go_ret
          have := HO2.out
          rw [List.take_of_length_le (by have := HP.out.2.2; omega)] at this
          exact ⟨_, rfl, this, hE2⟩
end Go.Proofs.YtclcgelbcbnekaaDoor
