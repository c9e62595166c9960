/- Contract: a cursor's Next. -/
import Derived.Test.YtigoffdehdobiaaGreatSg
import Derived.Laws.ResultCell
set_option linter.unusedVariables false
set_option linter.unusedSimpArgs false
namespace Go.Proofs.YtigoffdehdobiaaGreat
open Go.RowKit Go.QS
set_option linter.unusedVariables false

theorem Two.setNew {c : Nat} {rb : Option Nat} {a w : World} (h : Two c rb a w) {p : Addr} (hp : a.heap.size ≤ p.block) (u : Value) : Two c rb a (w.setCell p u) :=
  ⟨h.os, h.tape, h.output, by simpa using h.size, fun k hk h1 h2 => (Below.heap_setCell w p u k (by omega)).trans (h.block k hk h1 h2)⟩
theorem CurAt.setFar {W0 w : World} {c : Nat} {V : Value} {cs : List Wk} {st : List Wn} {s : Sp} {back : Bool} (h : CurAt W0 w c V cs st s back) {p : Addr} (u : Value) (hc : p.block ≠ c) (hr : V.ownBlock ≠ some p.block) (hW : W0.heap.size ≤ p.block) : CurAt W0 (w.setCell p u) c V cs st s back := by
  refine ⟨(Below.heap_setCell w p u c (fun e => hc e.symm)).trans h.cell, ?_, h.wks, h.ext.setCell hW u, h.le⟩
  refine ⟨h.row.1, ?_⟩
  rcases h.row.2 with h1 | ⟨g, cap, cur, h1, h2, h3, h4⟩
  · exact .inl h1
  · subst h1
    exact .inr ⟨g, cap, cur, rfl, h2, (Below.heap_setCell w p u g (fun e => hr (by rw [e]; rfl))).trans h3, h4⟩

/-- The last work taken off. -/
theorem CurAt.pop {W0 w : World} {c : Nat} {V : Value} {cs : List Wk} {st : List Wn} {s : Sp} {back : Bool} (h : CurAt W0 w c V cs st s back) (hne : st ≠ []) :
    ∃ b m C cs1 st1 x y, V = .slice (some ⟨b, 0, none⟩) (m + 1) C ∧ cs = cs1 ++ [x] ∧ st = st1 ++ [y] ∧ cs1.length = m ∧ m + 1 ≤ C ∧ c + 1 ≤ b ∧ b < w.heap.size ∧ Rep NT W0 x.1 y.1 ∧ x.2 = y.2 ∧ Wks W0 cs1 st1 ∧
      w.cell? ⟨b, m * 3, none⟩ = some (ptr x.1) ∧ w.cell? ⟨b, m * 3 + 1, none⟩ = some (str y.2.1) ∧ w.cell? ⟨b, m * 3 + 2, none⟩ = some (.bool y.2.2) ∧
      ∀ w' : World, w'.heap[b]? = w.heap[b]? → w'.ownsRow (c + 1) WT 3 (.slice (some ⟨b, 0, none⟩) m C) cs1.length (flatW cs1) := by
  have hcne : cs ≠ [] := by
    intro e
    have := h.wks.1
    rw [e] at this
    exact hne (List.eq_nil_of_length_eq_zero this.symm)
  obtain ⟨cs1, x, st1, y, rfl, rfl, hw, hr, he⟩ := h.wks.snoc hcne
  rcases h.row.2 with ⟨_, h0⟩ | ⟨b, C, cur, h1, h2, h3, h4, h5, h6, h7⟩
  · simp at h0
  · have hl : (cs1 ++ [x]).length = cs1.length + 1 := by simp
    rw [hl] at h1 h4 h7
    have hget : ∀ r, r < 3 → w.cell? ⟨b, cs1.length * 3 + r, none⟩ = (encW x)[r]? := by
      intro r hr3
      rw [seg_of_heap h3, ← Array.getElem?_toList]
      have e1 := flatW_get (l := cs1 ++ [x]) (i := cs1.length) (p := x) (by simp) r hr3
      rw [← e1, ← h7, List.getElem?_take_of_lt (by omega)]
    refine ⟨b, cs1.length, C, cs1, st1, x, y, h1, rfl, rfl, rfl, h4, h2, heap_lt h3, hr, he, hw, hget 0 (by decide), ?_, ?_, ?_⟩
    · rw [← he]; exact hget 1 (by decide)
    · rw [← he]; exact hget 2 (by decide)
    · intro w' hw'
      refine ⟨by rw [flatW_length], .inr ⟨b, C, cur, rfl, h2, hw'.trans h3, by omega, h5, h6, ?_⟩⟩
      have h8 := congrArg (List.take (cs1.length * 3)) h7
      rw [List.take_take, Nat.min_eq_left (by omega), flatW_append, List.take_left' (flatW_length _)] at h8
      exact h8

theorem results_row_tmp {P : Program} {fn : Func} {p u : Tmp} {ty : TypeId} (h : fn.results = #[.cell p ty, .tmp u]) (tmps : Array Value) (w : World) (g : Nat) (t : TypeId) (cs : Array Value) (fr : Nat × Nat) (d : TypeDesc)
    (hp : tmps.getD p undef = .pointer (some ⟨g, 0, none⟩)) (hg : w.heap[g]? = some (.cells cs t fr)) (hu : P.underlying ty = some d) (hd : (match d with | .struct _ | .array _ _ => true | _ => false) = true) (hi : (P.info? ty).map (·.size) = some cs.size) :
    (results fn tmps).run P w = .ok (.tuple #[.agg cs, tmps.getD u undef]) w := by
  rw [results_cell_tmp h, hp]
  simp [asAddr, run_loadVar_row w g t ty cs fr d hg hu hd hi, Result.andThen]

/-- What Next hands back. -/
def NextOK (W0 w : World) (c : Nat) (V : Value) (r : List Wn) (s : Sp) (back : Bool) (e : Ending) (w' : World) : Prop :=
  ∃ V' cs' r', CurAt W0 w' c V' cs' r'.reverse s back ∧ Good r' ∧ wt r' ≤ wt r ∧ Two c V.ownBlock w w' ∧ Newer w V.ownBlock V'.ownBlock ∧
    ((com s back r = [] ∧ e = .returned (.tuple #[.agg #[str [], str []], .bool false]) ∧ com s back r' = []) ∨
     (∃ p, com s back r = p :: com s back r' ∧ e = .returned (.tuple #[.agg #[str p.1, str p.2], .bool true])))

set_option maxRecDepth 100000 in
set_option maxHeartbeats 1000000 in
theorem next_c (W0 w : World) (c : Nat) (V : Value) (cs : List Wk) (r : List Wn) (s : Sp) (back : Bool) (h : CurAt W0 w c V cs r.reverse s back) (hg : Good r) (hw9 : wt r ≤ 1000000) (hs9 : s.f.length ≤ 1000) :
    Calls Tryz.prog 139 #[ptr c] w (NextOK W0 w c V r s back) := by
  have hH := Lib.hid h
  have HG := Lib.hid hg
  have hcl := heap_lt h.cell
  have hVb := World.ownsRow.lt h.row
  have HV : Hid (∀ k, V.ownBlock = some k → c + 1 ≤ k ∧ k < w.heap.size) := Lib.hid hVb
  clear h hg hVb
  go_enter Tryz.func139, Tryz.ntmps139
  repeat' (go_not_at_region 3; (first | go_skip | go_guarded | go_step))
  obtain ⟨wa, hwa⟩ : ∃ wa, wa = w.alloc (.cells #[.string ⟨#[]⟩, .string ⟨#[]⟩] 70) := ⟨_, rfl⟩
  have hEa : Ext w wa := by rw [hwa]; exact (Ext.refl w).alloc (Nat.le_refl _) _
  have hba := heap_new w (.cells #[.string ⟨#[]⟩, .string ⟨#[]⟩] 70)
  obtain ⟨rb, hrb⟩ : ∃ rb, rb = w.heap.size := ⟨_, rfl⟩
  rw [← hwa, ← hrb] at hba
  rw [← hwa, ← hrb]
  have HA : Hid (wa.heap[rb]? = some (.cells #[.string ⟨#[]⟩, .string ⟨#[]⟩] 70 (0, 0)) ∧ Ext w wa ∧ rb = w.heap.size ∧ rb < wa.heap.size) := Lib.hid ⟨hba, hEa, hrb, heap_lt hba⟩
  have hcb : c ≠ rb := by omega
  clear hwa hba hrb hEa
  go_loopg [] (wt r) (fun gk wr => ∃ (V1 : Value) (cs1 : List Wk) (r1 : List Wn), wt r1 ≤ gk ∧ wt r1 ≤ wt r ∧ Hid (CurAt W0 wr c V1 cs1 r1.reverse s back ∧ Good r1 ∧ Two c V.ownBlock wa wr ∧ Newer wa V.ownBlock V1.ownBlock ∧ com s back r1 = com s back r))
  case atStart => exact ⟨V, cs, r, Nat.le_refl _, Nat.le_refl _, Lib.hid ⟨hH.out.keep HA.out.2.1, HG.out, Two.refl _ _ _, Newer.refl _ _, rfl⟩⟩
  case round =>
    obtain ⟨V1, cs1, r1, hgk, hwr9, HI⟩ := hrel
    cases r1 with
    | nil =>
      have hV1 := own_slice HI.out.1.row
      have hcs1 : cs1 = [] := List.eq_nil_of_length_eq_zero (by have := HI.out.1.wks.1; simpa using this)
      subst hcs1
      obtain ⟨A1, C1, rfl⟩ := hV1
      have hbr : wr.heap[rb]? = some (.cells #[.string ⟨#[]⟩, .string ⟨#[]⟩] 70 (0, 0)) := (HI.out.2.2.1.block rb HA.out.2.2.2 (fun e => hcb e.symm) (fun e => by have := (HV.out rb e.symm).2; have := HA.out.2.2.1; omega)).trans HA.out.1
      have cc0 : wr.cell? ⟨c, 0, none⟩ = some (.slice A1 ([] : List Wk).length C1) := by have := HI.out.1.cell; simp [World.cell?, this]
      obtain ⟨r0, r1⟩ := box_cells hbr
      have rf := box_free hbr
      have HBR := Lib.hid hbr
      clear hbr
      repeat' (first | go_skip | go_guarded | go_step)
      (try simp only [Exit.inBlock, Exit.then])
      refine bodyPost_ret_by (results_row_tmp rfl _ _ _ _ _ _ _ rfl (heap_set (heap_set HBR.out 0 _) 1 _) Tryz.underlying70 rfl (by kernel_rfl)) rfl ?_
      have hn := HI.out.2.2.2.1
      have hT := (((Two.ext HA.out.2.1).trans HI.out.2.2.1 (Newer.refl _ _)).setNew (p := ⟨rb, 0, none⟩) (Nat.le_of_eq HA.out.2.2.1.symm) (.string ⟨#[]⟩)).setNew (p := ⟨rb, 1, none⟩) (Nat.le_of_eq HA.out.2.2.1.symm) (.string ⟨#[]⟩)
      have hrow : (Value.slice A1 ([] : List Wk).length C1).ownBlock ≠ some rb := by
        intro e
        rcases hn with h | h
        · rw [h] at e; have := (HV.out rb e).2; have := HA.out.2.2.1; omega
        · have := h rb e; have := HA.out.2.2.2; omega
      have hW0 : W0.heap.size ≤ rb := by have := hH.out.ext.size; have := HA.out.2.2.1; omega
      refine ⟨_, [], [], (HI.out.1.setFar (p := ⟨rb, 0, none⟩) _ (fun e => hcb e.symm) hrow hW0).setFar (p := ⟨rb, 1, none⟩) _ (fun e => hcb e.symm) hrow hW0, HI.out.2.1, hwr9, hT, ?_, .inl ⟨HI.out.2.2.2.2.symm, rfl, rfl⟩⟩
      rcases hn with h | h
      · exact .inl h
      · exact .inr fun b hb => Nat.le_trans HA.out.2.1.size (h b hb)
    | cons e r1 =>
      obtain ⟨b, m, C, cs2, st2, x, y, rfl, rfl, hst, hm, hmC, hcb1, hbl, hrep, hxy, hwks, hx0, hx1, hx2, hrow⟩ := HI.out.1.pop (by simp)
      have hst2 : st2 = r1.reverse ∧ y = e := by
        rw [List.reverse_cons] at hst
        have := List.append_inj' hst rfl
        exact ⟨this.1.symm, (List.singleton_inj.1 this.2).symm⟩
      obtain ⟨rfl, rfl⟩ := hst2
      obtain ⟨g, ah', ow'⟩ := x
      obtain ⟨t, ah, ow⟩ := y
      simp only [Prod.mk.injEq] at hxy hrep hx0 hx1 hx2
      obtain ⟨rfl, rfl⟩ := hxy
      have cc0 : wr.cell? ⟨c, 0, none⟩ = some (.slice (some ⟨b, 0, none⟩) (m + 1) C) := by have := HI.out.1.cell; simp [World.cell?, this]
      have ccf : wr.frozen? ⟨c, 0, none⟩ = false := box_free HI.out.1.cell 0
      have hs1 : (((m + 1 : Nat) : Int) - 1) = (m : Int) := by omega
      have hs2 : ((m : Int) + 1 - 1) = (m : Int) := by omega
      have hi1 : (m : Int) < ((m + 1 : Nat) : Int) := by omega
      have hi2 : (m : Int) ≤ (C : Int) := by omega
      have hd0 : decide (0 < m + 1) = true := by simp
      have hcr : c < wr.heap.size := heap_lt HI.out.1.cell
      have hm9 : m ≤ 1000000 := by have := wt_len ((t, ah', ow') :: r1); have := HI.out.1.wks.1; simp at this; simp at *; omega
      have HR : Hid (_ ∧ _ ∧ _) := Lib.hid ⟨hrep, hwks, hrow⟩
      have HST := Lib.hid hst
      clear hrep hwks hrow hst
      repeat' (go_not_at_region 4; (first | go_skip | go_guarded | go_step))
      go_region
      obtain ⟨x1, hx1'⟩ : ∃ x1, x1 = (wr.alloc (.cells #[ptr g, str ah', .bool ow'] 210)).drew := ⟨_, rfl⟩
      have E1 : Ext wr x1 := by rw [hx1']; exact ((Ext.refl _).alloc (Nat.le_refl _) _).drew
      obtain ⟨gw, hgw⟩ : ∃ gw, gw = wr.heap.size := ⟨_, rfl⟩
      have hbw : x1.heap[gw]? = some (.cells #[ptr g, str ah', .bool ow'] 210 (0, 0)) := by rw [hx1', hgw]; exact heap_new wr _
      have hx1s := hx1'.symm
      change Exit.then _ _ Exit.normal _ ((wr.alloc (.cells #[ptr g, str ah', .bool ow'] 210)).drew)
      rw [hx1s, ← hgw]
      have d0 := (E1.cell (p := ⟨c, 0, none⟩) hcr).trans cc0
      have df := (E1.frozen (p := ⟨c, 0, none⟩) hcr).trans ccf
      have HX1 : Hid (Ext wr x1 ∧ x1.heap[gw]? = some (.cells #[ptr g, str ah', .bool ow'] 210 (0, 0)) ∧ wr.heap.size ≤ gw) := Lib.hid ⟨E1, hbw, by omega⟩
      clear hx1' hx1s hgw E1 hbw cc0 ccf hx0 hx1 hx2
      repeat' (go_not_at_region 5; (first | go_skip | go_guarded | go_step))
      go_region
      obtain ⟨x2, hx2'⟩ : ∃ x2, x2 = (x1.setCell ⟨c, 0, none⟩ (.slice (some ⟨b, 0, none⟩) m C)).drew := ⟨_, rfl⟩
      have H2 : Hid (CurAt W0 x2 c (.slice (some ⟨b, 0, none⟩) m C) cs2 r1.reverse s back ∧ x2.heap[gw]? = some (.cells #[ptr g, str ah', .bool ow'] 210 (0, 0)) ∧ Two c V.ownBlock wa x2 ∧ Newer wa V.ownBlock (some b) ∧ wr.heap.size ≤ x2.heap.size) := by
        obtain ⟨e1, hb1, hgw⟩ := HX1.out
        have hne : b ≠ c := by omega
        have hc1 := box_ext HI.out.1.cell e1
        have hW := HI.out.1.le
        refine Lib.hid ⟨⟨?_, ?_, HR.out.2.1, ?_, hW⟩, ?_, ?_, HI.out.2.2.2.1, ?_⟩
        · rw [hx2']; exact heap_set hc1 0 _
        · refine HR.out.2.2 x2 ?_
          rw [hx2']
          exact (Below.heap_setCell x1 ⟨c, 0, none⟩ _ b hne).trans (e1.block b hbl)
        · rw [hx2']; exact ((Ext.trans HI.out.1.ext e1).setCell hW _).drew
        · rw [hx2']
          exact (Below.heap_setCell x1 ⟨c, 0, none⟩ _ gw (by show gw ≠ c; omega)).trans hb1
        · rw [hx2']
          have := Two.setCell (HI.out.2.2.1.trans (Two.ext e1 (rb := some b)) HI.out.2.2.2.1) 0 (.slice (some ⟨b, 0, none⟩) m C)
          exact ⟨this.os, this.tape, this.output, this.size, this.block⟩
        · rw [hx2']; have := e1.size; simpa using this
      rw [← hx2']
      have hgr := HI.out.2.1 _ (List.mem_cons_self ..)
      have hwt := wt_cons (t, ah', ow') r1
      have hcs2 : cs2.length ≤ 1000000 := by omega
      have HGR : Hid (Good r1 ∧ GoodW (t, ah', ow')) := Lib.hid ⟨fun e he => HI.out.2.1 e (List.mem_cons_of_mem _ he), hgr⟩
      have hb3 : x2.cell? ⟨gw, 0, none⟩ = some (ptr g) ∧ x2.cell? ⟨gw, 1, none⟩ = some (str ah') ∧ x2.cell? ⟨gw, 2, none⟩ = some (.bool ow') := by have := H2.out.2.1; simp [World.cell?, this]
      clear hx2' d0 df hgr
      cases ow' with
      | false =>
        obtain ⟨b0, b1, b2⟩ := hb3
        have hk9 := HGR.out.2.2.len
        have hl9 := HGR.out.2.1
        have HPC := Lib.hid (push_c W0 x2 c _ cs2 r1.reverse s back H2.out.1 g t ah' false HR.out.1 (by simp only at hk9; omega) (by simp only at hl9; omega) hs9 hcs2)
        clear hk9 hl9
        repeat' (first | go_at_call 150 | go_skip | go_guarded | go_step)
        refine HPC.out.mono ?_
        rintro e x3 ⟨rfl, V3, cs3, hC3, hT3, hN3⟩
        have HC3 : Hid (_ ∧ _ ∧ _) := Lib.hid ⟨hC3, hT3, hN3⟩
        clear hC3 hT3 hN3 b0 b1 b2
        go_simp
        repeat' (first | go_skip | go_guarded | go_step)
        have hwp := wt_pushed s back t ah'
        have hwn := wt_append (pushed s back (t, ah', false)).reverse r1
        go_roundg (wt ((pushed s back (t, ah', false)).reverse ++ r1))
        case measure => omega
        case rel =>
          obtain ⟨hC3, hT3, hN3⟩ := HC3.out
          refine ⟨V3, cs3, (pushed s back (t, ah', false)).reverse ++ r1, Nat.le_refl _, by omega, Lib.hid ⟨?_, ?_, ?_, ?_, ?_⟩⟩
          · rw [List.reverse_append, List.reverse_reverse]; exact hC3
          · intro e he
            rcases List.mem_append.1 he with h | h
            · exact good_pushed HGR.out.2 e h
            · exact HGR.out.1 e h
          · exact H2.out.2.2.1.trans hT3 H2.out.2.2.2.1
          · exact H2.out.2.2.2.1.trans hN3 H2.out.2.2.1.size
          · rw [← HI.out.2.2.2.2, com_append, com_pushed, com_cons]
      | true =>
        obtain ⟨kv, now, ps, nd0, _, _⟩ := HR.out.1.open
        have hnd := nd0.ext H2.out.1.ext
        have hndl := hnd.lt
        have HND : Hid (∀ x : World, Ext x2 x → NodeAt NT x g t.lab t.val kv now) := Lib.hid fun x hx => hnd.ext hx
        have hl9 := HGR.out.2.1
        simp only at hl9
        have hmax : ah'.length + t.lab.length ≤ maxLen := by unfold maxLen; omega
        obtain ⟨key, hkey⟩ : ∃ key, key = ah' ++ t.lab := ⟨_, rfl⟩
        have hclt : (9223372036854775807 < ah'.length + t.lab.length) = False := by simp; omega
        have hclm : (maxLen < ah'.length + t.lab.length) = False := by unfold maxLen; simp; omega
        have hcat : bs ah' ++ bs t.lab = bs key := by rw [bs_append, hkey]
        have HK := Lib.hid hkey
        have hbc : ∀ x : World, Ext x2 x → x.cell? ⟨gw, 0, none⟩ = some (ptr g) ∧ x.cell? ⟨gw, 1, none⟩ = some (str ah') := fun x hx => by
          have := box_ext H2.out.2.1 hx
          simp [World.cell?, this]
        have HC := Lib.hid hbc
        obtain ⟨b0, b1, b2⟩ := hb3
        clear nd0 hnd hkey hbc
        repeat' (go_not_at_region 8; (first | go_skip | go_guarded | go_step))
        go_region_held3 (fun w' => w'.cell? ⟨gw, 0, none⟩ = some (ptr g) ∧ w'.cell? ⟨gw, 1, none⟩ = some (str ah'))
          (first | exact HC.out _ (Ext.refl _) | exact HC.out _ (Ext.refl _).drew | exact HC.out _ (below_drewN (Ext.refl _) _))
          (first
            | (go_at_call 151; refine (label_c _ g t.lab (HND.out _ (Ext.refl _).drew).cells.1).mono ?_; rintro e y1 ⟨rfl, rfl⟩))
        obtain ⟨c0, c1⟩ := HC.out _ ((Ext.refl x2).drew)
        clear b0 b1 b2
        obtain ⟨x4, hx4⟩ : ∃ x4, x4 = x2.drew := ⟨_, rfl⟩
        have HE4 : Hid (Ext x2 x4) := Lib.hid (by rw [hx4]; exact (Ext.refl x2).drew)
        rw [← hx4] at c0 c1 ⊢
        clear hx4
        repeat' (first | go_at_call 152 | go_skip | go_guarded | go_step)
        refine (value_c _ g t.val.isSome (t.val.getD []) (HND.out _ HE4.out).cells.2.1 (HND.out _ HE4.out).cells.2.2.1).mono ?_
        rintro e x5 ⟨rfl, f5⟩
        replace HE4 := Lib.hid (Ext.trans HE4.out f5)
        clear f5 c0 c1
        have hround : ∀ (x : World), Ext x2 x → comW s back (t, ah', true) = [] → ∃ (V1 : Value) (cs1 : List Wk) (r2 : List Wn), wt r2 ≤ wt r1 ∧ wt r2 ≤ wt r ∧ Hid (CurAt W0 x c V1 cs1 r2.reverse s back ∧ Good r2 ∧ Two c V.ownBlock wa x ∧ Newer wa V.ownBlock V1.ownBlock ∧ com s back r2 = com s back r) := by
          intro x hx hcw
          refine ⟨_, cs2, r1, Nat.le_refl _, by omega, Lib.hid ⟨H2.out.1.keep hx, HGR.out.1, H2.out.2.2.1.trans (Two.ext hx (rb := V.ownBlock)) (Newer.refl _ _), H2.out.2.2.2.1, ?_⟩⟩
          rw [← HI.out.2.2.2.2, com_cons, hcw, List.nil_append]
        have HRD := Lib.hid hround
        have hwlt : wt r1 < gk := by have : wtW (t, ah', true) = 1 := rfl; omega
        clear hround
        obtain ⟨vo, hvo⟩ : ∃ vo, vo = t.val := ⟨_, rfl⟩
        rw [← hvo]
        have HVO := Lib.hid hvo
        clear hvo
        cases vo with
        | none =>
          have hcw : comW s back (t, ah', true) = [] := by
            show (pre (ah' ++ t.lab) (ownP t.val)).filter _ = []
            rw [← HVO.out]; rfl
          simp only [Option.isSome_none, Option.getD_none]
          go_simp
          repeat' (first | go_skip | go_guarded | go_step)
          go_roundg (wt r1)
          case measure => omega
          case rel => exact HRD.out _ HE4.out hcw
        | some vv =>
          have hcw : comW s back (t, ah', true) = if s.has key then [(key, vv)] else [] := by
            show (pre (ah' ++ t.lab) (ownP t.val)).filter _ = _
            rw [← HVO.out, ← HK.out]
            simp only [ownP, pre, List.map_cons, List.map_nil, List.append_nil, List.filter_cons, List.filter_nil]
          have HCW := Lib.hid hcw
          clear hcw
          obtain ⟨sf, stt, so⟩ := s
          have hcc := box_ext H2.out.1.cell HE4.out
          have hcc' : x5.cell? ⟨c, 1, none⟩ = some (str sf) ∧ x5.cell? ⟨c, 2, none⟩ = some (str stt) ∧ x5.cell? ⟨c, 3, none⟩ = some (.bool so) := by simp [World.cell?, hcc]
          obtain ⟨cc1, cc2, cc3⟩ := hcc'
          clear hcc
          have HHC := Lib.hid (shas_c x5 ⟨sf, stt, so⟩ key)
          simp only [Option.isSome_some, Option.getD_some]
          cases hh : Sp.has ⟨sf, stt, so⟩ key with
          | false =>
            rw [hh] at HHC HCW
            go_simp
            repeat' (first | (go_at_call 153; refine HHC.out.mono ?_; rintro e x6 ⟨rfl, f6⟩; replace f6 := Lib.hid f6; go_simp) | go_skip | go_guarded | go_step)
            go_roundg (wt r1)
            case measure => omega
            case rel => exact HRD.out _ (Ext.trans HE4.out f6.out) HCW.out
          | true =>
            rw [hh] at HHC HCW
            go_simp
            repeat' (first | (go_at_call 153; refine HHC.out.mono ?_; rintro e x6 ⟨rfl, f6⟩; replace f6 := Lib.hid f6; go_simp) | go_skip | go_guarded | (go_not_at_region 11; go_step))
            have hT6 : Two c V.ownBlock wa x6 := H2.out.2.2.1.trans (Two.ext (Ext.trans HE4.out f6.out) (rb := V.ownBlock)) (Newer.refl _ _)
            have hbr : x6.heap[rb]? = some (.cells #[.string ⟨#[]⟩, .string ⟨#[]⟩] 70 (0, 0)) := (hT6.block rb HA.out.2.2.2 (fun e => hcb e.symm) (fun e => by have := (HV.out rb e.symm).2; have := HA.out.2.2.1; omega)).trans HA.out.1
            obtain ⟨r0, r1'⟩ := box_cells hbr
            have rf := box_free hbr
            have HBR : Hid (_ ∧ _) := Lib.hid ⟨hbr, hT6⟩
            clear hbr hT6
            repeat' (first | go_skip | go_guarded | go_step)
            (try simp only [Exit.inBlock, Exit.then])
            refine bodyPost_ret_by (results_row_tmp rfl _ _ _ _ _ _ _ rfl (heap_set (heap_set HBR.out.1 0 _) 1 _) Tryz.underlying70 rfl (by kernel_rfl)) rfl ?_
            have hn := H2.out.2.2.2.1
            have hT := (((Two.ext HA.out.2.1).trans HBR.out.2 (Newer.refl _ _)).setNew (p := ⟨rb, 0, none⟩) (Nat.le_of_eq HA.out.2.2.1.symm) (str key)).setNew (p := ⟨rb, 1, none⟩) (Nat.le_of_eq HA.out.2.2.1.symm) (str vv)
            have hrow : (Value.slice (some ⟨b, 0, none⟩) m C).ownBlock ≠ some rb := by
              intro e
              rcases hn with h | h
              · have e' : some b = some rb := e
                rw [h] at e'; have := (HV.out rb e').2; have := HA.out.2.2.1; omega
              · have := h rb e; have := HA.out.2.2.2; omega
            have hW0 : W0.heap.size ≤ rb := by have := hH.out.ext.size; have := HA.out.2.2.1; omega
            refine ⟨_, cs2, r1, ((H2.out.1.keep (Ext.trans HE4.out f6.out)).setFar (p := ⟨rb, 0, none⟩) _ (fun e => hcb e.symm) hrow hW0).setFar (p := ⟨rb, 1, none⟩) _ (fun e => hcb e.symm) hrow hW0, HGR.out.1, by omega, hT, ?_, .inr ⟨(key, vv), ?_, rfl⟩⟩
            · rcases hn with h | h
              · exact .inl h
              · exact .inr fun b hb => Nat.le_trans HA.out.2.1.size (h b hb)
            · rw [← HI.out.2.2.2.2, com_cons, HCW.out]; rfl
end Go.Proofs.YtigoffdehdobiaaGreat
