/- Contract: a node's pair and kids, pushed. -/
import Derived.Test.YtigoffdehdobiaaGreatM12
set_option linter.unusedVariables false
set_option linter.unusedSimpArgs false
namespace Go.Proofs.YtigoffdehdobiaaGreat
open Go.RowKit Go.QS
set_option linter.unusedVariables false

theorem infoW : ∃ i z, Tryz.prog.info? 210 = some i ∧ i.zero = some z ∧ i.size = 3 ∧ i.bytes = 32 ∧ z.cells.size = 3 := info_of (z := .agg #[.pointer none, .string ⟨#[]⟩, .bool false]) (by kernel_rfl) rfl

/-- A row beside the one that is appended to. -/
def Aside2 (w : World) (A : Option Addr) (xs : List Value) (rb : Option Nat) : Prop := Seg w A xs ∧ ∀ b o, A = some ⟨b, o, none⟩ → b < w.heap.size ∧ rb ≠ some b
theorem Aside2.alloc {w : World} {A : Option Addr} {xs : List Value} {rb : Option Nat} (h : Aside2 w A xs rb) (o : Obj) : Aside2 (w.alloc o) A xs rb :=
  ⟨h.1.alloc o, fun b o' e => ⟨by have := (h.2 b o' e).1; simp; omega, (h.2 b o' e).2⟩⟩
theorem Aside2.grown {w w' : World} {A : Option Addr} {xs : List Value} {rb rb' : Option Nat} (h : Aside2 w A xs rb) (hg : w.grownBy w' rb) (hn : rb' = rb ∨ rb' = some w.heap.size) : Aside2 w' A xs rb' := by
  refine ⟨fun hne => ?_, fun b o e => ⟨Nat.lt_of_lt_of_le (h.2 b o e).1 hg.size, ?_⟩⟩
  · obtain ⟨b, o, hA, hc⟩ := h.1 hne
    exact ⟨b, o, hA, fun j u hu => hg.cell (hc j u hu) (fun e => (h.2 b o hA).2 e.symm)⟩
  · rcases hn with rfl | rfl
    · exact (h.2 b o e).2
    · intro e2
      have := (h.2 b o e).1
      cases e2
      omega

set_option maxRecDepth 100000 in
set_option maxHeartbeats 1000000 in
theorem push_c (W0 w : World) (c : Nat) (V : Value) (cs : List Wk) (st : List Wn) (s : Sp) (back : Bool) (h : CurAt W0 w c V cs st s back) (g : Nat) (t : RT) (ah : List UInt8) (ow : Bool) (hr : Rep NT W0 g t)
    (hk9 : t.kids.length ≤ 1000) (hl9 : ah.length + t.lab.length ≤ 1000) (hs9 : s.f.length ≤ 1000) (hc9 : cs.length ≤ 1000000) :
    Calls Tryz.prog 150 #[ptr c, .agg #[ptr g, str ah, .bool ow]] w fun e w' => e = .returned (.tuple #[]) ∧ ∃ V' cs', CurAt W0 w' c V' cs' (st ++ pushed s back (t, ah, ow)) s back ∧ Two c V.ownBlock w w' ∧ Newer w V.ownBlock V'.ownBlock := by
  obtain ⟨kv, now, ps, nd0, sl0, rp0⟩ := hr.open
  have nd := nd0.ext h.ext
  have sl := sl0.below h.ext
  obtain ⟨lab, val, kids⟩ := t
  simp only [RT.lab_node, RT.val_node, RT.kids_node] at hk9 hl9 nd rp0
  obtain ⟨sf, stt, so⟩ := s
  simp only at hs9
  have hps : ps.length ≤ 1000 := by have := rp0.1; omega
  obtain ⟨key, hkey⟩ : ∃ key, key = ah ++ lab := ⟨_, rfl⟩
  have hkl : key.length ≤ 1000 := by rw [hkey, List.length_append]; exact hl9
  have hmax : ah.length + lab.length ≤ maxLen := by unfold maxLen; omega
  have hH := Lib.hid h
  have HK := Lib.hid hkey
  have hgl := nd.lt
  have hcl := heap_lt h.cell
  have HN : Hid (_ ∧ _ ∧ _) := Lib.hid ⟨nd, sl, rp0⟩
  have HR0 := Lib.hid hr
  have hcat : bs ah ++ bs lab = bs key := by rw [bs_append, hkey]
  have hclt : (9223372036854775807 < ah.length + lab.length) = False := by simp; omega
  have hclm : (maxLen < ah.length + lab.length) = False := by unfold maxLen; simp; omega
  clear h nd0 sl0 rp0 nd sl hr hkey
  go_enter Tryz.func150, Tryz.ntmps150
  repeat' (go_not_at_region 1; go_step)
  obtain ⟨wa, hwa⟩ : ∃ wa, wa = w.alloc (.cells #[ptr g, str ah, .bool ow] 210) := ⟨_, rfl⟩
  have hEa : Ext w wa := by rw [hwa]; exact (Ext.refl w).alloc (Nat.le_refl _) _
  have hba := heap_new w (.cells #[ptr g, str ah, .bool ow] 210)
  obtain ⟨gb, hgb⟩ : ∃ gb, gb = w.heap.size := ⟨_, rfl⟩
  rw [← hwa, ← hgb] at hba
  rw [← hwa, ← hgb]
  have HB : Hid (wa.heap[gb]? = some (.cells #[ptr g, str ah, .bool ow] 210 (0, 0)) ∧ Ext w wa ∧ w.heap.size ≤ gb) := Lib.hid ⟨hba, hEa, by omega⟩
  have hbc : ∀ x : World, Ext wa x → x.cell? ⟨gb, 0, none⟩ = some (ptr g) ∧ x.cell? ⟨gb, 1, none⟩ = some (str ah) := fun x hx => by
    have := box_ext HB.out.1 hx
    simp [World.cell?, this]
  have HC := Lib.hid hbc
  have hgbl := heap_lt hba
  obtain ⟨b0, b1⟩ := hbc wa (Ext.refl _)
  clear hwa hba hgb hEa hbc
  go_region_held3 (fun w' => w'.cell? ⟨gb, 0, none⟩ = some (ptr g) ∧ w'.cell? ⟨gb, 1, none⟩ = some (str ah))
    (first | exact HC.out _ (Ext.refl _) | exact HC.out _ (Ext.refl _).drew | exact HC.out _ (below_drewN (Ext.refl _) _))
    (first
      | (go_at_call 151; refine (label_c _ g lab (HN.out.1.ext (Ext.trans HB.out.2.1 (Ext.refl _).drew)).cells.1).mono ?_; rintro e x1 ⟨rfl, rfl⟩))
  have HE : Hid (Ext w wa.drew ∧ Ext wa wa.drew) := Lib.hid ⟨HB.out.2.1.drew, (Ext.refl _).drew⟩
  have hcc : ∀ x : World, Ext w x → x.cell? ⟨c, 0, none⟩ = some V ∧ x.cell? ⟨c, 1, none⟩ = some (str sf) ∧ x.cell? ⟨c, 2, none⟩ = some (str stt) ∧ x.cell? ⟨c, 3, none⟩ = some (.bool so) ∧ x.cell? ⟨c, 4, none⟩ = some (.bool back) := fun x hx => by
    have := box_ext hH.out.cell hx
    simp [World.cell?, this]
  have HCC := Lib.hid hcc
  obtain ⟨_, cc1, cc2, cc3, _⟩ := hcc _ HE.out.1
  clear hcc b0 b1
  obtain ⟨x0, hx0⟩ : ∃ x0, x0 = wa.drew := ⟨_, rfl⟩
  rw [← hx0] at HE cc1 cc2 cc3 ⊢
  clear hx0
  have HP := Lib.hid (spast_c x0 ⟨sf, stt, so⟩ key (by show sf.length ≤ _; omega) (by omega))
  cases hp : (Sp.past ⟨sf, stt, so⟩ key) with
  | true =>
    rw [hp] at HP
    repeat' (first | (go_at_call 159; refine HP.out.mono ?_; rintro e x2 ⟨rfl, f2⟩; replace HE := Lib.hid (And.intro (Ext.trans HE.out.1 f2) (Ext.trans HE.out.2 f2)); clear f2 cc1 cc2 cc3; go_simp) | go_skip | go_guarded | go_step)
    (try simp only [Exit.inBlock, Exit.then])
    first | refine bodyPost_ret (results_none rfl _ _ _) rfl ?_ | refine bodyPost_end (results_none rfl _ _ _) rfl ?_
    refine ⟨rfl, V, cs, ?_, Two.ext HE.out.1, Newer.refl _ _⟩
    have e0 : pushed ⟨sf, stt, so⟩ back (RT.node lab val kids, ah, ow) = [] := by
      unfold pushed
      show (if Sp.past _ (ah ++ lab) = true then _ else _) = _
      rw [← HK.out, hp]; rfl
    rw [e0, List.append_nil]
    exact hH.out.keep HE.out.1
  | false =>
    rw [hp] at HP
    have hpu : pushed ⟨sf, stt, so⟩ back (RT.node lab val kids, ah, ow) = if back then (RT.node lab val kids, ah, true) :: kids.map (fun k => (k, key, false)) else ((RT.node lab val kids, ah, true) :: kids.map (fun k => (k, key, false))).reverse := by
      unfold pushed
      show (if Sp.past _ (ah ++ lab) = true then _ else if back = true then _ :: List.map (fun k => (k, ah ++ lab, false)) kids else (_ :: List.map (fun k => (k, ah ++ lab, false)) kids).reverse) = _
      rw [← HK.out, hp]; rfl
    have HPU := Lib.hid hpu
    clear hpu hp
    repeat' (first | (go_at_call 159; refine HP.out.mono ?_; rintro e x2 ⟨rfl, f2⟩; replace HE := Lib.hid (And.intro (Ext.trans HE.out.1 f2) (Ext.trans HE.out.2 f2)); clear f2 cc1 cc2 cc3; go_simp) | go_skip | go_guarded | (go_not_at_region 3; go_step))
    obtain ⟨b0, b1⟩ := HC.out _ HE.out.2
    have hgx : gb < x2.heap.size := Nat.lt_of_lt_of_le hgbl HE.out.2.size
    repeat' (first | go_at_call 160 | go_skip | go_guarded | go_step)
    obtain ⟨x3, hx3⟩ : ∃ x3, x3 = x2.alloc (.cells #[ptr g, str ah, .bool true] 210) := ⟨_, rfl⟩
    have E3 : Ext w x3 := by rw [hx3]; exact Ext.trans HE.out.1 ((Ext.refl _).alloc (Nat.le_refl _) _)
    have E3a : Ext wa x3 := by rw [hx3]; exact Ext.trans HE.out.2 ((Ext.refl _).alloc (Nat.le_refl _) _)
    have o3 : x3.ownsRow w.heap.size WT 3 (.slice (some ⟨x2.heap.size, 0, none⟩) 1 1) 1 (flatW [(g, ah, true)]) := by rw [hx3]; exact own_lit [ptr g, str ah, .bool true] 1 (by decide) rfl HE.out.1.size
    obtain ⟨gl, hgl⟩ : ∃ gl, gl = x2.heap.size := ⟨_, rfl⟩
    have hglt : gl < x3.heap.size := by rw [hgl, hx3]; simp
    rw [← hgl] at o3 ⊢
    have hx3' := hx3.symm
    rw [hx3']
    have HX3 : Hid (Ext w x3 ∧ Ext wa x3 ∧ x3.ownsRow w.heap.size WT 3 (.slice (some ⟨gl, 0, none⟩) 1 1) 1 (flatW [(g, ah, true)])) := Lib.hid ⟨E3, E3a, o3⟩
    clear hx3 hx3' E3 E3a o3 hgl b0 b1 hgx
    refine (kids_c x3 g kv ps (HN.out.1.ext HX3.out.1).cells.2.2.2.1 (HN.out.2.1.below HX3.out.1) (by omega)).mono ?_
    rintro e x4 ⟨v4, rfl, r4, f4⟩
    have hA4 := World.ownsRow.lt r4
    obtain ⟨A4, C4, hA, hl4, hn4, hcc4, hs4⟩ := (Sl.of_own r4 : Sl x4 1 v4 ps.length (ptrs ps))
    subst hA
    have E4 : Ext w x4 := Ext.trans HX3.out.1 f4
    have HX4 : Hid (Ext w x4 ∧ x4.ownsRow w.heap.size WT 3 (.slice (some ⟨gl, 0, none⟩) 1 1) 1 (flatW [(g, ah, true)])) := Lib.hid ⟨E4, row_ext HX3.out.2.2 f4⟩
    obtain ⟨n, hn⟩ : ∃ n, n = ps.length := ⟨_, rfl⟩
    rw [← hn] at hn4 hps ⊢
    have Hn := Lib.hid hn
    have HS4 : Hid (Aside2 x4 A4 (ptrs ps) (some gl)) := by
      refine Lib.hid ⟨hs4, fun b o e => ?_⟩
      have := hA4 b (by rw [e]; rfl)
      exact ⟨this.2, fun e2 => by cases e2; omega⟩
    clear hn f4 E4 r4 hl4 hA4 hs4 hglt
    go_simp
    repeat' (go_not_at_region 5; (first | go_skip | go_guarded | go_step))
    go_loopg [5, 30] n (fun gk v5 v30 wr => ∃ i : Nat, v30 = .int .i64 i ∧ i ≤ n ∧ n - i ≤ gk ∧ Hid (Ext w wr ∧ Aside2 wr A4 (ptrs ps) v5.ownBlock ∧ wr.ownsRow w.heap.size WT 3 v5 (i + 1) (flatW ((g, ah, true) :: (ps.take i).map fun p => (p, key, false)))))
    case atStart => exact ⟨0, rfl, Nat.zero_le _, by omega, Lib.hid ⟨HX4.out.1, HS4.out, HX4.out.2⟩⟩
    case round =>
      obtain ⟨i, rfl, hin, hgk, HI⟩ := hrel
      rcases Nat.lt_or_ge i n with hlt | hge
      · have d1 : decide (i < n) = true := by simp [hlt]
        obtain ⟨p, hp⟩ := get_of_lt ps (show i < ps.length by have := Hn.out; omega)
        obtain ⟨b, o, rfl, hcl⟩ := HI.out.2.1.1 (fun e => by have := ptrs_get hp; rw [e] at this; simp at this)
        have hq := hcl i _ (ptrs_get hp)
        have hi1 : (i : Int) < (n : Int) := by omega
        have HQ := Lib.hid (take_snoc hp)
        obtain ⟨hEw, hasd, hown⟩ := HI.out
        have HAS := Lib.hid hasd
        clear hp hcl hasd
        repeat' (first | (at_builtin; refine wpList_app rfl (.tmp 34) (.tmp 38) _ rfl w.heap.size 210 3 32 Tryz.underlying206 infoW (by decide) _ _ _ rfl (hown.alloc _) _ 1 1 [ptr p, str key, .bool false] rfl rfl (Seg.new _ [_, _, _] _ (by simp)) (by intro u hu; simp at hu; rcases hu with rfl | rfl | rfl <;> rfl) (by unfold maxLen; omega) (by omega) (by have := hEw.size; simp; omega) ?_; intro v5' w5 hown5 hg5 hn5) | go_step)
        have H5 : Hid (_ ∧ _ ∧ _) := Lib.hid ⟨hown5, hg5, hn5⟩
        clear hown5 hg5 hn5
        repeat' go_step
        go_roundg (n - (i + 1))
        case measure => omega
        case rel =>
          obtain ⟨hown5, hg5, hn5⟩ := H5.out
          refine ⟨i + 1, by go_num, by omega, Nat.le_refl _, Lib.hid ⟨?_, (HAS.out.alloc _).grown hg5 hn5, ?_⟩⟩
          · exact (hEw.alloc hEw.size _).grown hg5 (by have := hEw.size; simp; omega) fun k hk => (hown.lt k hk).1
          · rw [HQ.out, List.map_append, ← List.cons_append, flatW_append]
            exact hown5
      · obtain rfl : i = n := by omega
        have d1 : decide (i < i) = false := by simp
        obtain ⟨hEw, hasd, hown⟩ := HI.out
        have ht : ps.take i = ps := List.take_of_length_le (by have := Hn.out; omega)
        rw [ht] at hown
        clear hasd
        have hA5 := own_slice hown
        obtain ⟨A5, C5, rfl⟩ := hA5
        have hseg : Seg wr A5 (flatW ((g, ah, true) :: ps.map fun p => (p, key, false))) := by
          obtain ⟨_, _, e, _, _, _, h⟩ := Sl.of_own hown
          cases e; exact h
        have fin : ∀ (L : List Wk) (y w6 : World) (A6 : Option Addr) (m6 C6 : Nat), Ext w y → Wks W0 L (pushed ⟨sf, stt, so⟩ back (RT.node lab val kids, ah, ow)) → w6.ownsRow (c + 1) WT 3 (.slice A6 m6 C6) m6 (flatW cs ++ flatW L) → m6 = cs.length + L.length → y.grownBy w6 V.ownBlock → ((Value.slice A6 m6 C6).ownBlock = V.ownBlock ∨ (Value.slice A6 m6 C6).ownBlock = some y.heap.size) →
            (Ending.returned (.tuple #[]) = .returned (.tuple #[]) ∧ ∃ V' cs', CurAt W0 (w6.setCell ⟨c, 0, none⟩ (.slice A6 m6 C6)) c V' cs' (st ++ pushed ⟨sf, stt, so⟩ back (RT.node lab val kids, ah, ow)) ⟨sf, stt, so⟩ back ∧ Two c V.ownBlock w (w6.setCell ⟨c, 0, none⟩ (.slice A6 m6 C6)) ∧ Newer w V.ownBlock V'.ownBlock) := by
          intro L y w6 A6 m6 C6 hy hw hrow hm hg hnew
          have hb := World.ownsRow.lt hH.out.row
          refine ⟨rfl, .slice A6 m6 C6, cs ++ L, ⟨?_, ?_, hH.out.wks.append hw, ?_, hH.out.le⟩, ?_, ?_⟩
          · have hc0 := box_ext hH.out.cell hy
            have hc6 := (hg.block c (heap_lt hc0) (fun e => by have := (hb _ e.symm).1; omega)).trans hc0
            exact heap_set hc6 0 _
          · have : (cs ++ L).length = m6 := by rw [List.length_append]; omega
            rw [this, flatW_append]
            exact row_set hrow _ _ (Nat.lt_succ_self _)
          · have := hH.out.le
            have hsz := hH.out.ext.size
            exact ((Ext.trans hH.out.ext hy).grown hg (Nat.le_trans hsz hy.size) fun k hk => by have := (hb k hk).1; omega).setCell this _
          · exact Two.setCell (Two.trans (Two.ext hy) (Two.grown hg) (Newer.refl _ _)) 0 _
          · rcases hnew with h | h
            · exact .inl h
            · exact .inr fun b hb' => by rw [h] at hb'; cases hb'; exact hy.size
        have FIN := Lib.hid fin
        have hwk0 : Wks W0 ((g, ah, true) :: ps.map fun p => (p, key, false)) ((RT.node lab val kids, ah, true) :: kids.map fun k => (k, key, false)) :=
          Wks.append (Wks.one (c := (g, ah, true)) (s := (RT.node lab val kids, ah, true)) HR0.out rfl) (Wks.kids HN.out.2.2 key)
        have HWK := Lib.hid hwk0
        have hll : ((g, ah, true) :: ps.map fun p => (p, key, false)).length = i + 1 := by simp; have := Hn.out; omega
        obtain ⟨L1, hL1⟩ : ∃ L1 : List Wk, L1 = (g, ah, true) :: ps.map fun p => (p, key, false) := ⟨_, rfl⟩
        rw [← hL1] at hown hseg HWK hll
        have HL1 := Lib.hid hL1
        clear fin hwk0 hL1 ht
        obtain ⟨ccy, _, _, _, ccb⟩ := HCC.out wr hEw
        have cfy : wr.frozen? ⟨c, 0, none⟩ = false := box_free (box_ext hH.out.cell hEw) 0
        have hcV : some c ≠ V.ownBlock := fun e => by have := (World.ownsRow.lt hH.out.row _ e.symm).1; omega
        cases back with
        | true =>
          have hwk : Wks W0 L1 (pushed ⟨sf, stt, so⟩ true (RT.node lab val kids, ah, ow)) := by rw [HPU.out, if_pos rfl]; exact HWK.out
          obtain ⟨L, hL⟩ : ∃ L, L = L1 := ⟨_, rfl⟩
          have hLl : L.length = i + 1 := by rw [hL]; exact hll
          rw [← hL] at hwk hseg
          have FY : Hid (Ext w wr ∧ Seg wr A5 (flatW L) ∧ Wks W0 L (pushed ⟨sf, stt, so⟩ true (RT.node lab val kids, ah, ow)) ∧ (flatW L).length = (i + 1) * 3) := Lib.hid ⟨hEw, hseg, hwk, by rw [flatW_length, hLl]⟩
          clear hwk hseg hL hown hEw
          repeat' (first | (at_builtin; refine wpList_app rfl (.tmp 52) (.tmp 53) _ rfl (c + 1) 210 3 32 Tryz.underlying206 infoW (by decide) V cs.length (flatW cs) rfl (row_ext hH.out.row FY.out.1) _ _ _ (flatW L) rfl FY.out.2.2.2 FY.out.2.1 (flatW_one _) (by unfold maxLen; omega) (by omega) (by have := FY.out.1.size; omega) ?_; intro v6 w6 hown6 hg6 hn6; obtain ⟨A6, C6, rfl⟩ := own_slice hown6; have hc6 : w6.cell? ⟨c, 0, none⟩ = some V := hg6.cell ccy hcV; have hf6 : w6.frozen? ⟨c, 0, none⟩ = false := (hg6.frozen_far ⟨c, 0, none⟩ (Nat.lt_of_lt_of_le hcl FY.out.1.size) hcV).trans cfy; replace hown6 := Lib.hid hown6; replace hg6 := Lib.hid hg6; replace hn6 := Lib.hid hn6) | go_skip | go_guarded | go_step)
          (try simp only [Exit.inBlock, Exit.then])
          first | refine bodyPost_ret (results_none rfl _ _ _) rfl ?_ | refine bodyPost_end (results_none rfl _ _ _) rfl ?_
          exact FIN.out L _ _ _ _ _ FY.out.1 FY.out.2.2.1 hown6.out (by omega) hg6.out hn6.out
        | false =>
          have hwk : Wks W0 L1.reverse (pushed ⟨sf, stt, so⟩ false (RT.node lab val kids, ah, ow)) := by rw [HPU.out, if_neg (by simp)]; exact HWK.out.reverse
          have hne1 : L1 ≠ [] := fun e => by rw [e] at hll; simp at hll
          have HRV := Lib.hid (rev_c w.heap.size wr (.slice A5 (i + 1) C5) L1 (by rw [hll]; exact hown) (by omega) hne1)
          have hb5 := World.ownsRow.lt hown
          have HB5 := Lib.hid hb5
          clear hseg hown hne1 hb5
          repeat' (first | go_at_call 161 | go_skip | go_guarded | go_step)
          refine HRV.out.mono ?_
          rintro e y ⟨rfl, ry, gy⟩
          have hEy : Ext w y := hEw.grown gy hEw.size fun k hk => (HB5.out k hk).1
          obtain ⟨L, hL⟩ : ∃ L, L = L1.reverse := ⟨_, rfl⟩
          have hLl : L.length = i + 1 := by rw [hL, List.length_reverse]; exact hll
          rw [← hL] at hwk ry
          have hseg : Seg y A5 (flatW L) := by
            rw [hll] at ry
            obtain ⟨_, _, e, _, _, _, h⟩ := Sl.of_own ry
            cases e; exact h
          have FY : Hid (Ext w y ∧ Seg y A5 (flatW L) ∧ Wks W0 L (pushed ⟨sf, stt, so⟩ false (RT.node lab val kids, ah, ow)) ∧ (flatW L).length = (i + 1) * 3) := Lib.hid ⟨hEy, hseg, hwk, by rw [flatW_length, hLl]⟩
          clear ccy ccb cfy
          obtain ⟨ccy, _, _, _, ccb⟩ := HCC.out y hEy
          have cfy : y.frozen? ⟨c, 0, none⟩ = false := box_free (box_ext hH.out.cell hEy) 0
          clear hwk hseg hL hEy ry gy hEw
          go_simp
          repeat' (first | (at_builtin; refine wpList_app rfl (.tmp 52) (.tmp 53) _ rfl (c + 1) 210 3 32 Tryz.underlying206 infoW (by decide) V cs.length (flatW cs) rfl (row_ext hH.out.row FY.out.1) _ _ _ (flatW L) rfl FY.out.2.2.2 FY.out.2.1 (flatW_one _) (by unfold maxLen; omega) (by omega) (by have := FY.out.1.size; omega) ?_; intro v6 w6 hown6 hg6 hn6; obtain ⟨A6, C6, rfl⟩ := own_slice hown6; have hc6 : w6.cell? ⟨c, 0, none⟩ = some V := hg6.cell ccy hcV; have hf6 : w6.frozen? ⟨c, 0, none⟩ = false := (hg6.frozen_far ⟨c, 0, none⟩ (Nat.lt_of_lt_of_le hcl FY.out.1.size) hcV).trans cfy; replace hown6 := Lib.hid hown6; replace hg6 := Lib.hid hg6; replace hn6 := Lib.hid hn6) | go_skip | go_guarded | go_step)
          (try simp only [Exit.inBlock, Exit.then])
          first | refine bodyPost_ret (results_none rfl _ _ _) rfl ?_ | refine bodyPost_end (results_none rfl _ _ _) rfl ?_
          exact FIN.out L _ _ _ _ _ FY.out.1 FY.out.2.2.1 hown6.out (by omega) hg6.out hn6.out
end Go.Proofs.YtigoffdehdobiaaGreat
