/- Contract: code.ReadChanges. -/
import Derived.Test.YtigoffdehdobiaaGreatCxf
import Derived.Test.YtigoffdehdobiaaGreatCxd
set_option linter.unusedVariables false
set_option linter.unusedSimpArgs false
namespace Go.Proofs.YtigoffdehdobiaaGreat
open Go.RowKit Go.QS Go.QS.Nk
set_option linter.unusedVariables false

theorem infoCh : ∃ i z, Tryz.prog.info? ChT = some i ∧ i.zero = some z ∧ i.size = 5 ∧ i.bytes = 56 ∧ z.cells.size = 5 := info_of (z := .agg #[.string ⟨#[]⟩, .string ⟨#[]⟩, .string ⟨#[]⟩, .bool false, .bool false]) (by kernel_rfl) rfl
theorem flatE_snoc (l : List Ch) (c : Ch) : flatE encCh (l ++ [c]) = flatE encCh l ++ encCh c := by simp [flatE]
theorem encCh_one (c : Ch) : ∀ u ∈ encCh c, u.oneCell' = true := by
  intro u hu
  simp [encCh] at hu
  rcases hu with rfl | rfl | rfl | rfl | rfl <;> rfl
/-- What is read stays where a row beside it grows. -/
theorem InAt.grown {V : Nat → Prop} {g B : Nat} {w w' : World} {l : List UInt8} {e : Nat} {r : Option Nat} (h : InAt V g w l e) (k : w.grownBy w' r) (hr : ∀ b, r = some b → B ≤ b) (hg : g < B) (hV : ∀ b, V b → b < B) : InAt V g w' l e := by
  cases r with
  | none => exact h.ext (ext_grown k)
  | some b =>
    have hb := hr b rfl
    exact h.one (x := b) ⟨k.os, k.tape, k.output, k.size, fun j hj hne => k.block j hj (fun e => hne (Option.some.inj e))⟩ (by omega) (fun x hx => by have := hV x hx; omega)
theorem row_one {g base n k : Nat} {e : TypeId} {w w' : World} {v : Value} {xs : List Value} (h : w.ownsRow base e k v n xs) (o : One g w w') (hg : g < base) : w'.ownsRow base e k v n xs := by
  refine ⟨h.1, ?_⟩
  rcases h.2 with h | ⟨b, cap, cur, h1, h2, h3, h4⟩
  · exact .inl h
  · exact .inr ⟨b, cap, cur, h1, h2, o.heap h3 (by omega), h4⟩

/-- Changes that are read, one by one: the reader, the row. -/
structure RdSt (V : Nat → Prop) (g B : Nat) (w0 w : World) (v : Value) (acc : List Ch) (s : St2) : Prop where
  inn : InAt V g w s.1 s.2
  ext : Ext w0 w
  row : w.ownsRow B ChT 5 v acc.length (flatE encCh acc)
  lt : g < B
  old : ∀ b, V b → b < B
  new : w0.heap.size ≤ g
  size : B ≤ w.heap.size

set_option maxRecDepth 100000 in
set_option maxHeartbeats 4000000 in
theorem readchanges_c (w : World) (vp : Value) (P : List UInt8) (h : BS w vp P) (h9 : P.length ≤ 16777216) :
    Calls Tryz.prog 8 #[vp] w fun x w' => ∃ v, x = .returned (.tuple #[v, .int .i64 ((readP P).2 : Nat)]) ∧ w'.ownsRow w.heap.size ChT 5 v (readP P).1.length (flatE encCh (readP P).1) ∧ Ext w w' := by
  have HC := Lib.hid (of_c w vp P h (by omega))
  obtain ⟨A, c, rfl, _⟩ := h
  obtain ⟨m, hm⟩ : ∃ m, m = P.length := ⟨_, rfl⟩
  rw [← hm] at HC ⊢
  have hm9 : m ≤ 16777216 := by omega
  have d0 : ¬ (16777216 : Int) < (m : Int) := by omega
  obtain ⟨R, hR⟩ : ∃ R, R = rdLX isP (P.length + 1) (sNum (P, 0)).1 (sNum (P, 0)).2 [] := ⟨_, rfl⟩
  obtain ⟨T, hT⟩ : ∃ T, T = readP P := ⟨_, rfl⟩
  rw [← hT]
  have HT : Hid (T = if (sEnd R.2).2 = 0 then (if rightL R.1 = 0 then (R.1, 0) else ([], rightL R.1)) else ([], (sEnd R.2).2)) := Lib.hid (by rw [hT, hR]; rfl)
  have hnum : (sNum (P, 0)).1 < 18446744073709551616 ∧ ((sNum (P, 0)).2.2 = 0 → (sNum (P, 0)).2.1.length < P.length + 1) := by
    unfold sNum
    rw [if_pos rfl]
    cases hn : numA 0 0 P with
    | none => exact ⟨by simp, fun h => by simp⟩
    | some nr =>
      obtain ⟨n, r⟩ := nr
      have := congrArg List.length (numA_iff.1 hn).1
      rw [List.length_append] at this
      exact ⟨numA_lt hn, fun _ => by show r.length < P.length + 1; omega⟩
  have HP := Lib.hid (And.intro hR (And.intro hm hnum))
  clear hR hT hm hnum h9
  go_enter Tryz.func8, Tryz.ntmps8
  repeat' (first | go_at_call 19 | go_skip | go_guarded | go_step)
  refine HC.out.mono ?_
  rintro x w1 ⟨g, rfl, i1, f1, hg1⟩
  have hgl : g < w1.heap.size := by obtain ⟨A, c, h1, _⟩ := i1.ex; exact heap_lt h1
  have H1 := Lib.hid (And.intro i1 (And.intro f1 hg1))
  clear i1 f1 hg1 HC
  have HN := Lib.hid (num_c H1.out.1)
  go_simp
  repeat' (first | go_at_call 24 | go_skip | go_guarded | go_step)
  refine HN.out.mono ?_
  rintro x w2 ⟨rfl, i2, o2⟩
  obtain ⟨B, hB⟩ : ∃ B, B = w1.heap.size := ⟨_, rfl⟩
  obtain ⟨V, hV⟩ : ∃ V : Nat → Prop, V = fun b => w.heap.size ≤ b ∧ b < g := ⟨_, rfl⟩
  rw [← hV] at i2
  have H2 : Hid (RdSt V g B w w2 (.slice none 0 0) [] (sNum (P, 0)).2) := Lib.hid ⟨i2, One.ext o2 H1.out.2.1 H1.out.2.2, World.ownsRow_nil _ _ _ _, by omega, fun b hb => by rw [hV] at hb; omega, H1.out.2.2, by rw [hB]; exact o2.size⟩
  obtain ⟨n0, hn0⟩ : ∃ n, n = (sNum (P, 0)).1 := ⟨_, rfl⟩
  rw [← hn0]
  have HN0 := Lib.hid hn0
  clear i2 o2 HN H1 hB hV hn0 hgl
  go_simp
  repeat' (go_not_at_region 6; (first | go_skip | go_guarded | go_step))
  go_loopg [5, 6] (m + 1) (fun gk v5 v6 wr => ∃ (f n : Nat) (s : St2) (acc : List Ch), v6 = .int .u64 (n : Int) ∧ f ≤ gk ∧ Hid (RdSt V g B w wr v5 acc s ∧ rdLX isP f n s acc = R ∧ (s.2 = 0 → s.1.length < f) ∧ acc.length + f ≤ m + 1 ∧ n < 18446744073709551616))
  case atStart => exact ⟨m + 1, n0, (sNum (P, 0)).2, [], rfl, Nat.le_refl _, Lib.hid ⟨H2.out, by rw [HP.out.1, HN0.out, HP.out.2.1], fun h => by rw [HP.out.2.1]; exact HP.out.2.2.2 h, by simp, by rw [HN0.out]; exact HP.out.2.2.1⟩⟩
  case round =>
    obtain ⟨f, n, s, acc, rfl, hgk, HI⟩ := hrel
    obtain ⟨sl, se⟩ := s
    have HE := Lib.hid (err_c HI.out.1.inn)
    simp only at HE
    repeat' (go_not_at_region 6; go_step)
    go_cut [22] (fun v wx => Hid (v = .bool (decide (¬ (n = 0 ∨ se ≠ 0))) ∧ wx = wr))
    case first =>
      by_cases hn : n = 0
      · have d1 : decide (0 < n) = false := by simp [hn]
        have d2 : ¬ (0 : Int) < (n : Int) := by omega
        have Hn := Lib.hid hn
        clear hn
        repeat' (first | go_skip | go_guarded | go_step)
        go_meet
        exact Lib.hid ⟨by simp [Hn.out], rfl⟩
      · have d1 : decide (0 < n) = true := by simp; omega
        have d2 : (0 : Int) < (n : Int) := by omega
        have Hn := Lib.hid hn
        clear hn
        by_cases he : se = 0
        · have d3 : ((se : Int) == 0) = true := by rw [beq_iff_eq]; omega
          have d3' : (se == 0) = true := by rw [beq_iff_eq]; omega
          have He := Lib.hid he
          clear he
          repeat' (first | (go_at_call 30; refine HE.out.mono ?_; rintro x w1 ⟨rfl, rfl⟩; go_simp) | go_skip | go_guarded | go_step)
          go_meet
          exact Lib.hid ⟨by simp [Hn.out, He.out], rfl⟩
        · have d3 : ((se : Int) == 0) = false := by rw [beq_eq_false_iff_ne]; omega
          have d3' : (se == 0) = false := by rw [beq_eq_false_iff_ne]; omega
          have He := Lib.hid he
          clear he
          repeat' (first | (go_at_call 30; refine HE.out.mono ?_; rintro x w1 ⟨rfl, rfl⟩; go_simp) | go_skip | go_guarded | go_step)
          go_meet
          exact Lib.hid ⟨by simp [He.out], rfl⟩
    case rest =>
      obtain ⟨rfl, hwc⟩ := hcut.out
      obtain rfl : wr = wc := hwc.symm
      clear hcut HE
      by_cases hst : n = 0 ∨ se ≠ 0
      · have hd : decide (¬ (n = 0 ∨ se ≠ 0)) = false := by simp [hst]
        rw [hd]
        have HR : Hid (R = (acc, (sl, se))) := Lib.hid (by rw [← HI.out.2.1, rdL_stop hst])
        have hac : acc.length ≤ m + 1 := by have := HI.out.2.2.2.1; omega
        clear hst hd
        have HEd := Lib.hid (end_c HI.out.1.inn)
        repeat' (first | go_at_call 26 | go_skip | go_guarded | go_step)
        refine HEd.out.mono ?_
        rintro x w3 ⟨rfl, i3, o3⟩
        have H3 : Hid (Ext w w3 ∧ w3.ownsRow B ChT 5 u5 acc.length (flatE encCh acc)) := Lib.hid ⟨One.ext o3 HI.out.1.ext HI.out.1.new, row_one HI.out.1.row o3 HI.out.1.lt⟩
        have hEE : ((if (sl, se).1 = [] then ((sl, se).1, (sl, se).2) else sFail 9 ((sl, se).1, (sl, se).2)) : St2).2 = (sEnd R.2).2 := by rw [HR.out]; exact end_eq sl se
        obtain ⟨E, hE⟩ : ∃ E, E = (sEnd R.2).2 := ⟨_, rfl⟩
        rw [← hE] at hEE
        rw [hEE]
        have HEE := Lib.hid hE
        clear i3 o3 HEd hE hEE
        by_cases hE0 : E = 0
        · have d1 : ((E : Int) != 0) = false := by rw [bne_eq_false_iff_eq]; omega
          have d2 : ((E : Int) == 0) = true := by rw [beq_iff_eq]; omega
          have HE0 := Lib.hid hE0
          have hwB : w.heap.size ≤ B := by have := HI.out.1.new; have := HI.out.1.lt; omega
          obtain ⟨A5, C5, hv5⟩ := own_slice H3.out.2
          subst hv5
          have HDR := Lib.hid (dright_c w3 _ acc (Sl.of_own H3.out.2) (by omega))
          obtain ⟨K, hK⟩ : ∃ K, K = rightL acc := ⟨_, rfl⟩
          rw [← hK] at HDR
          have HK := Lib.hid hK
          clear hK hE0
          go_simp
          repeat' (first | go_at_call 34 | go_skip | go_guarded | go_step)
          refine HDR.out.mono ?_
          rintro x w4 ⟨rfl, f4⟩
          have H4 := Lib.hid (And.intro (Ext.trans H3.out.1 f4) (own_base (row_ext H3.out.2 f4) hwB))
          clear f4 HDR
          by_cases hK0 : K = 0
          · have d3 : ((K : Int) != 0) = false := by rw [bne_eq_false_iff_eq]; omega
            have d4 : ((K : Int) == 0) = true := by rw [beq_iff_eq]; omega
            have HTT : Hid (T = (acc, 0)) := Lib.hid (by rw [HT.out, ← HEE.out, if_pos HE0.out, HR.out, ← HK.out, if_pos hK0])
            clear hK0
            go_simp
            repeat' (first | go_skip | go_guarded | go_step)
            go_ret2
            rw [HTT.out]
            exact ⟨_, rfl, H4.out.2, H4.out.1⟩
          · have d3 : ((K : Int) != 0) = true := by rw [bne_iff_ne]; omega
            have d4 : ((K : Int) == 0) = false := by rw [beq_eq_false_iff_ne]; omega
            have HTT : Hid (T = ([], K)) := Lib.hid (by rw [HT.out, ← HEE.out, if_pos HE0.out, HR.out, ← HK.out, if_neg hK0])
            clear hK0
            go_simp
            repeat' (first | go_skip | go_guarded | go_step)
            go_ret2
            rw [HTT.out]
            exact ⟨_, rfl, World.ownsRow_nil _ _ _ _, H4.out.1⟩
        · have d1 : ((E : Int) != 0) = true := by rw [bne_iff_ne]; omega
          have d2 : ((E : Int) == 0) = false := by rw [beq_eq_false_iff_ne]; omega
          have HTT : Hid (T = ([], E)) := Lib.hid (by rw [HT.out, ← HEE.out, if_neg hE0])
          clear hE0
          go_simp
          repeat' (first | go_skip | go_guarded | go_step)
          go_ret2
          rw [HTT.out]
          exact ⟨_, rfl, World.ownsRow_nil _ _ _ _, H3.out.1⟩
      · have hd : decide (¬ (n = 0 ∨ se ≠ 0)) = true := by simp only [decide_eq_true_eq]; exact hst
        rw [hd]
        have hf0 : se = 0 ∧ n ≠ 0 := ⟨Decidable.byContradiction fun h => hst (.inr h), fun h => hst (.inl h)⟩
        obtain ⟨f', rfl⟩ : ∃ f', f = f' + 1 := ⟨f - 1, by have := HI.out.2.2.1 hf0.1; omega⟩
        obtain ⟨q, rfl⟩ : ∃ q, n = q + 1 := ⟨n - 1, by omega⟩
        have HS : Hid (rdLX isP f' q (rdCh (sl, se)).2 (acc ++ [(rdCh (sl, se)).1]) = R ∧ ((rdCh (sl, se)).2.2 = 0 → (rdCh (sl, se)).2.1.length < f')) := Lib.hid ⟨by rw [← HI.out.2.1, rdL_step hst]; rfl, fun h => by have h1 := rdX_less h; have h2 := HI.out.2.2.1 hf0.1; simp only at h1 h2; omega⟩
        have hwq : IntKind.u64.wrap (q : Int) = (q : Int) := by have := HI.out.2.2.2.2; rw [IntKind.wrap_u64]; omega
        have hsub : IntKind.u64.wrap (((q + 1 : Nat) : Int) - 1) = (q : Int) := by have := HI.out.2.2.2.2; rw [IntKind.wrap_u64]; omega
        have hsub2 : ((q + 1 : Nat) : Int) - 1 = (q : Int) := by omega
        have hac : acc.length ≤ m + 1 := by have := HI.out.2.2.2.1; omega
        clear hst hd hf0
        have HCh := Lib.hid (change_c HI.out.1.inn (fun b hb => Nat.lt_of_lt_of_le (HI.out.1.old b hb) HI.out.1.size))
        obtain ⟨c, hc⟩ : ∃ c, c = (rdCh (sl, se)).1 := ⟨_, rfl⟩
        obtain ⟨s', hs'⟩ : ∃ s', s' = (rdCh (sl, se)).2 := ⟨_, rfl⟩
        simp only at HCh
        rw [← hc, ← hs'] at HCh HS
        clear hc hs'
        repeat' (first | go_at_call 33 | go_skip | go_guarded | go_step)
        refine HCh.out.mono ?_
        rintro x w3 ⟨rfl, i3, o3⟩
        have H3 : Hid (RdSt V g B w w3 u5 acc s') := Lib.hid ⟨i3, One.ext o3 HI.out.1.ext HI.out.1.new, row_one HI.out.1.row o3 HI.out.1.lt, HI.out.1.lt, HI.out.1.old, HI.out.1.new, Nat.le_trans HI.out.1.size o3.size⟩
        clear i3 o3 HCh
        obtain ⟨ck, co, cn, ca, cb⟩ := c
        go_simp
        repeat' (first | go_skip | go_guarded | (at_builtin; refine wpList_app rfl (.tmp 25) (.tmp 28) _ rfl B ChT 5 56 Tryz.underlying25 infoCh (by decide) u5 acc.length (flatE encCh acc) rfl (H3.out.row.alloc _) _ 1 1 (encCh (ck, co, cn, ca, cb)) rfl rfl (Seg.new _ [_, _, _, _, _] _ (by simp)) (encCh_one _) (by unfold maxLen; omega) (by omega) (Nat.le_trans H3.out.size (by simp)) ?_; intro v4 w4 r4 g4 _) | go_step)
        have hEa : Ext w3 (w3.alloc (.cells #[str ck, str co, str cn, .bool ca, .bool cb] ChT)) := (Ext.refl _).alloc (Nat.le_refl _) _
        have hlt5 : ∀ b, u5.ownBlock = some b → B ≤ b := fun b hb => (World.ownsRow.lt H3.out.row b hb).1
        have H4 : Hid (RdSt V g B w w4 v4 (acc ++ [(ck, co, cn, ca, cb)]) s') := Lib.hid
          ⟨(H3.out.inn.ext hEa).grown g4 hlt5 H3.out.lt H3.out.old, (Ext.trans H3.out.ext hEa).grown g4 (Ext.trans H3.out.ext hEa).size (fun b hb => by have := hlt5 b hb; have := H3.out.new; have := H3.out.lt; omega),
            by rw [flatE_snoc, List.length_append]; exact r4, H3.out.lt, H3.out.old, H3.out.new, Nat.le_trans H3.out.size (Nat.le_trans hEa.size g4.size)⟩
        have HI5 : Hid (acc.length + f' + 1 ≤ m + 1 ∧ q < 18446744073709551616) := Lib.hid ⟨by have := HI.out.2.2.2.1; omega, by have := HI.out.2.2.2.2; omega⟩
        clear r4 g4 hEa hlt5 HI
        go_roundg f'
        case measure => omega
        case rel => exact ⟨f', q, s', acc ++ [(ck, co, cn, ca, cb)], rfl, Nat.le_refl _, Lib.hid ⟨H4.out, HS.out.1, HS.out.2, by rw [List.length_append]; have := HI5.out.1; simp; omega, HI5.out.2⟩⟩
end Go.Proofs.YtigoffdehdobiaaGreat
