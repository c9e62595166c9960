/- Contract: a walk's Next. -/
import Derived.Test.YtbmakajadelckaaM25
import Derived.Test.YtbmakajadelckaaM09
import Derived.Deep.LoopGhost
import Derived.Deep.RegionHeld3
set_option linter.unusedVariables false
set_option linter.unusedSimpArgs false
namespace Go.Proofs.Ytbmakajadelckaa
open Go.RowKit Go.QS Go.QS.Nk
set_option linter.unusedVariables false

theorem results_rowT {P : Program} {fn : Func} {p u : Tmp} {ty : TypeId} (h : fn.results = #[.cell p ty, .tmp u]) (tmps : Array Value) (w : World) (g : Nat) (t : TypeId) (cs : Array Value) (fr : Nat × Nat) (d : TypeDesc)
    (hp : tmps.getD p undef = .pointer (some ⟨g, 0, none⟩)) (hg : w.heap[g]? = some (.cells cs t fr)) (hu : P.underlying ty = some d) (hd : (match d with | .struct _ | .array _ _ => true | _ => false) = true) (hi : (P.info? ty).map (·.size) = some cs.size) :
    (results fn tmps).run P w = .ok (.tuple #[.agg cs, tmps.getD u undef]) w := by
  rw [results_cell_tmp h, hp]
  simp [asAddr, run_loadVar_row w g t ty cs fr d hg hu hd hi, Result.andThen]

/-- What Next hands back, and that its frames lean on no block of Z, if they did not. -/
def NextZ (Z : Nat → Prop) (W0 w : World) (c : Nat) (V : Value) (st : List Fp) (e : Ending) (w' : World) : Prop :=
  ∃ V' ms' st' d', Cur W0 w' c V' ms' st' d' ∧ wtB st' ≤ wtB st ∧ TwoW c V w w' ∧ NewW w V V' ∧
    ((comB st 1 = [] ∧ e = .returned (.tuple #[.agg #[str [], str []], .bool false]) ∧ comB st' 1 = [] ∧ d' = 0) ∨
     (∃ p, comB st 1 = (p, d') :: comB st' 1 ∧ e = .returned (.tuple #[.agg #[str p.1, str p.2], .bool true]))) ∧
    ∀ (i : Nat) (m : Fm), ms'[i]? = some m → ∀ b, FrB m b → ¬ Z b
/-- What Next hands back. -/
def NextW (W0 w : World) (c : Nat) (V : Value) (st : List Fp) (e : Ending) (w' : World) : Prop :=
  ∃ V' ms' st' d', Cur W0 w' c V' ms' st' d' ∧ wtB st' ≤ wtB st ∧ TwoW c V w w' ∧ NewW w V V' ∧
    ((comB st 1 = [] ∧ e = .returned (.tuple #[.agg #[str [], str []], .bool false]) ∧ comB st' 1 = [] ∧ d' = 0) ∨
     (∃ p, comB st 1 = (p, d') :: comB st' 1 ∧ e = .returned (.tuple #[.agg #[str p.1, str p.2], .bool true])))

set_option maxRecDepth 100000 in
set_option maxHeartbeats 2000000 in
theorem wnextZ_c (Z : Nat → Prop) (W0 w : World) (c : Nat) (V : Value) (ms : List Fm) (st : List Fp) (d : Nat) (h : Cur W0 w c V ms st d) (hw9 : wtB st ≤ 1000000) (hZs : ∀ k, Z k → k < w.heap.size) (hZ : ∀ (i : Nat) (m : Fm), ms[i]? = some m → ∀ b, FrB m b → ¬ Z b) :
    Calls Try.prog 15 #[ptr c] w (NextZ Z W0 w c V st) := by
  have hH := Lib.hid h
  have HZ := Lib.hid (And.intro hZs hZ)
  clear hZs hZ
  have hcl := heap_lt h.cell
  have HV : Hid (∀ k, V.ownBlock = some k → W0.heap.size ≤ k ∧ k < w.heap.size) := Lib.hid (World.ownsRow.lt h.row)
  clear h
  go_enter Try.func15, Try.ntmps15
  repeat' (go_not_at_region 3; (first | go_skip | go_guarded | go_step))
  obtain ⟨rb, hrb⟩ : ∃ rb, rb = w.heap.size := ⟨_, rfl⟩
  rw [← hrb]
  refine wp_nameW (fun wa => wa.heap[rb]? = some (.cells #[str [], str []] NP (0, 0)) ∧ Ext w wa ∧ rb = w.heap.size ∧ rb < wa.heap.size) ⟨by rw [hrb]; exact heap_new w _, (Ext.refl w).alloc (Nat.le_refl _) _, hrb, by rw [hrb]; simp⟩ ?_
  intro wa HA
  have hcb : c ≠ rb := by omega
  clear hrb
  go_loopg [4, 5, 6] (wtB st) (fun gk v4 v5 v6 wr => ∃ (V1 : Value) (ms1 : List Fm) (st1 : List Fp), wtB st1 ≤ gk ∧ wtB st1 ≤ wtB st ∧ Hid (Cur W0 wr c V1 ms1 st1 d ∧ TwoW c V wa wr ∧ NewW wa V V1 ∧ comB st1 1 = comB st 1 ∧ ∀ (i : Nat) (m : Fm), ms1[i]? = some m → ∀ b, FrB m b → b ≠ rb ∧ ¬ Z b))
  case atStart => exact ⟨V, ms, st, Nat.le_refl _, Nat.le_refl _, Lib.hid ⟨hH.out.keep HA.out.2.1, Only.refl _, NewW.refl _ _, rfl, fun i m hm b hb => by
    have hl := hH.out.len
    obtain ⟨s, hs⟩ := get_of_lt st (show i < st.length by have := (List.getElem?_eq_some_iff.1 hm).1; omega)
    obtain ⟨kb, _, _, _, _, _, e6⟩ := hH.out.fr i m s hm hs
    have := (e6 b hb).1
    have := HA.out.2.2.1
    exact ⟨by omega, HZ.out.2 i m hm b hb⟩⟩⟩
  case round =>
    obtain ⟨V1, ms1, st1, hgk, hwr9, HI⟩ := hrel
    have hbr : wr.heap[rb]? = some (.cells #[str [], str []] NP (0, 0)) := (HI.out.2.1.block rb HA.out.2.2.2 (fun e => e.elim (fun e => hcb e.symm) (fun e => by have := (HV.out rb e).2; have := HA.out.2.2.1; omega))).trans HA.out.1
    have hV1rb : V1.ownBlock ≠ some rb := by
      intro e
      rcases HI.out.2.2.1 with n | n
      · rw [n] at e; have := (HV.out rb e).2; have := HA.out.2.2.1; omega
      · have := n rb e; have := HA.out.2.2.2; omega
    have hW0 : W0.heap.size ≤ rb := by have := hH.out.ext.size; have := HA.out.2.2.1; omega
    have HB : Hid (wr.heap[rb]? = some (.cells #[str [], str []] NP (0, 0)) ∧ V1.ownBlock ≠ some rb ∧ W0.heap.size ≤ rb) := Lib.hid ⟨hbr, hV1rb, hW0⟩
    clear hbr hV1rb hW0
    rcases List.eq_nil_or_concat st1 with rfl | ⟨st2, s, rfl⟩
    · have hm0 : ms1 = [] := List.eq_nil_of_length_eq_zero (by have := HI.out.1.len; simpa using this)
      subst hm0
      obtain ⟨A1, C1, rfl⟩ := own_slice HI.out.1.row
      have cc0 : wr.cell? ⟨c, 0, none⟩ = some (.slice A1 ([] : List Fm).length C1) := by have := HI.out.1.cell; simp [World.cell?, this]
      have cc1 : wr.cell? ⟨c, 1, none⟩ = some (.int .i64 (d : Int)) := by have := HI.out.1.cell; simp [World.cell?, this]
      have ccf : ∀ j, wr.frozen? ⟨c, j, none⟩ = false := fun j => by have := HI.out.1.cell; simp [World.frozen?, this]
      have hcr : c < wr.heap.size := heap_lt HI.out.1.cell
      have hrbl := heap_lt HB.out.1
      have b0 : wr.cell? ⟨rb, 0, none⟩ = some (str []) := by have := HB.out.1; simp [World.cell?, this]
      have b1 : wr.cell? ⟨rb, 1, none⟩ = some (str []) := by have := HB.out.1; simp [World.cell?, this]
      have bf : ∀ j, wr.frozen? ⟨rb, j, none⟩ = false := fun j => by have := HB.out.1; simp [World.frozen?, this]
      have hcb' : rb ≠ c := Ne.symm hcb
      repeat' (first | go_skip | go_guarded | go_step)
      (try simp only [Exit.inBlock, Exit.then])
      have hrbw : (wr.setCell ⟨c, 1, none⟩ (.int .i64 0)).heap[rb]? = some (.cells #[str [], str []] NP (0, 0)) := (Below.heap_setCell wr ⟨c, 1, none⟩ _ rb hcb').trans HB.out.1
      refine bodyPost_ret_by (results_rowT rfl _ _ _ _ _ _ _ rfl (heap_set (heap_set hrbw 0 _) 1 _) Try.underlying40 rfl (by kernel_rfl)) rfl ?_
      have hwrb : w.heap.size ≤ rb := by have := HA.out.2.2.1; omega
      have hT : TwoW c V w wr := (TwoW.of_ext HA.out.2.1).trans HI.out.2.1 (NewW.refl _ _)
      have hno : ∀ (i : Nat) (m : Fm), ([] : List Fm)[i]? = some m → ∀ b, FrB m b → b ≠ rb := fun i m e => by simp at e
      refine ⟨_, [], [], 0, ((HI.out.1.setD 0).setFar (p := ⟨rb, 0, none⟩) _ hcb' HB.out.2.1 hno HB.out.2.2).setFar (p := ⟨rb, 1, none⟩) _ hcb' HB.out.2.1 hno HB.out.2.2, hwr9, Only.setCell (Only.setCell (hT.setC 1 _) (.inr hwrb) _) (.inr hwrb) _, ?_, .inl ⟨HI.out.2.2.2.1.symm, rfl, rfl, rfl⟩, fun i m e => by simp at e⟩
      exact (NewW.refl w V).trans HI.out.2.2.1 HA.out.2.1.size
    · rw [List.concat_eq_append] at HI hgk hwr9
      obtain ⟨n, hn⟩ : ∃ n, st2.length = n := ⟨_, rfl⟩
      obtain ⟨g, C, ms2, m, rfl, rfl, hm2, hnC, hC9, hg0, hgl, hgc, q0, q1, gf, hF, _⟩ := HI.out.1.last hn
      obtain ⟨m1, m2⟩ := m
      obtain ⟨ps, ks⟩ := s
      obtain ⟨kb, hp, hkk, hrep, hp9, hk9, hblk⟩ := id hF
      simp only at hp hkk hrep hp9 q0 q1
      obtain ⟨Ap, Cp, rfl, _, hnp, hcp, hsp⟩ := hp
      obtain ⟨Ak, Ck, rfl, _, hnk, hck, hsk⟩ := hkk
      obtain ⟨np, hnp2⟩ : ∃ x, x = ps.length := ⟨_, rfl⟩
      obtain ⟨nk, hnk2⟩ : ∃ x, x = kb.length := ⟨_, rfl⟩
      rw [← hnp2] at hnp hp9 q0 hF
      rw [← hnk2] at hnk hk9 q1 hF
      rw [← hnp2, ← hnk2] at HI hblk
      have HF := Lib.hid (And.intro hF (And.intro hrep (And.intro hblk (And.intro hsp (And.intro hsk (And.intro hnp2 hnk2))))))
      have cc0 : wr.cell? ⟨c, 0, none⟩ = some (.slice (some ⟨g, 0, none⟩) (n + 1) C) := by have := HI.out.1.cell; simp [World.cell?, this]
      have ccf : ∀ j, wr.frozen? ⟨c, j, none⟩ = false := fun j => by have := HI.out.1.cell; simp [World.frozen?, this]
      have hcr : c < wr.heap.size := heap_lt HI.out.1.cell
      have hs1 : (((n + 1 : Nat) : Int) - 1) = (n : Int) := by omega
      have hs2 : ((n : Int) + 1 - 1) = (n : Int) := by omega
      have hi1 : (n : Int) < ((n + 1 : Nat) : Int) := by omega
      have hi2 : (n : Int) ≤ (C : Int) := by omega
      have hd0 : decide (0 < n + 1) = true := by simp
      have hn9 : n ≤ 1000000 := by have := wtB_len (st2 ++ [(ps, ks)]); rw [List.length_append, hn] at this; simp only [List.length_cons, List.length_nil] at this; omega
      have HN := Lib.hid (And.intro hn hm2)
      clear hF hrep hblk hsp hsk hnp2 hnk2 hn hm2
      repeat' (go_not_at_region 4; (first | go_skip | go_guarded | go_step))
      go_quiet (fail)
      have E1 : Ext wr (wr.drewN nq) := below_drewN (Ext.refl wr) nq
      generalize wr.drewN nq = w1 at E1 ⊢
      have d0 := (E1.cell (p := ⟨c, 0, none⟩) hcr).trans cc0
      have r0 := (E1.cell (p := ⟨g, n * 2, none⟩) hgl).trans q0
      have r1 := (E1.cell (p := ⟨g, n * 2 + 1, none⟩) hgl).trans q1
      have hcr1 : c < w1.heap.size := Nat.lt_of_lt_of_le hcr E1.size
      have hgl1 : g < w1.heap.size := Nat.lt_of_lt_of_le hgl E1.size
      have d0f : ∀ j, w1.frozen? ⟨c, j, none⟩ = false := fun j => (E1.frozen (p := ⟨c, j, none⟩) hcr).trans (ccf j)
      have r0f : ∀ j, w1.frozen? ⟨g, j, none⟩ = false := fun j => (E1.frozen (p := ⟨g, j, none⟩) hgl).trans (gf j)
      have HE := Lib.hid E1
      clear E1 cc0 ccf q0 q1 gf hcr hgl
      repeat' (go_not_at_if 41; (first | go_skip | go_guarded | go_step))
      obtain ⟨hF, hrep, hblk, hsp, hsk, hnp2, hnk2⟩ := HF.out
      cases ps with
      | cons p ps =>
        obtain ⟨k, rfl⟩ : ∃ k, np = k + 1 := ⟨ps.length, by rw [hnp2]; rfl⟩
        have hk : k = ps.length := by simpa using hnp2
        have hp0 : (0 : Int) < ((k + 1 : Nat) : Int) := by omega
        have hpd : decide (0 < k + 1) = true := by simp
        obtain ⟨b, o, rfl, z0, z1⟩ := seg_pair (hsp.below HE.out) (show (p :: ps)[0]? = some p from rfl)
        rw [Nat.zero_mul, Nat.add_zero] at z0 z1
        obtain ⟨A2, hrun0, hseg, hblk2⟩ := run_fromW (P := Try.prog) (t := 27) (e := 40) Try.underlying27 infoNP (some ⟨b, o, none⟩) (show 1 ≤ k + 1 by omega) hnp
        obtain ⟨C2, hC2⟩ : ∃ x, x = Cp - 1 := ⟨_, rfl⟩
        rw [Nat.add_sub_cancel, ← hC2] at hrun0
        have hrun : ∀ w, (Instr.slice 27 (.slice (some ⟨b, o, none⟩) (k + 1) Cp) (some (.int .i64 1)) none none).run Try.prog w = .ok (.slice A2 k C2) w := hrun0
        have hbl : b < w1.heap.size := World.block_lt_of_cell? w1 _ z0
        have HS := Lib.hid (And.intro hseg (And.intro hC2 (And.intro hk hblk2)))
        clear hrun0 hseg hC2 hk hblk2 hF hrep hblk hsp hsk hnp2 hnk2
        repeat' (go_not_at_region 8; (first | go_skip | go_guarded | go_step))
        obtain ⟨bx, hbx⟩ : ∃ b, b = w1.heap.size := ⟨_, rfl⟩
        rw [← hbx]
        refine wp_nameW (fun w2 => Ext w1 w2 ∧ w2.heap[bx]? = some (.cells #[str p.1, str p.2] NP (0, 0)) ∧ w1.heap.size ≤ bx) ⟨(Ext.refl _).alloc (Nat.le_refl _) _, by rw [hbx]; exact heap_new w1 _, by omega⟩ ?_
        clear hbx z0 z1
        intro w2 H2
        have hrb1 := Nat.lt_of_lt_of_le (heap_lt HB.out.1) HE.out.size
        have rb2 := (Ext.trans HE.out H2.out.1).block rb (heap_lt HB.out.1) |>.trans HB.out.1
        have d2 := (H2.out.1.cell (p := ⟨c, 0, none⟩) hcr1).trans d0
        have s0 := (H2.out.1.cell (p := ⟨g, n * 2, none⟩) hgl1).trans r0
        have d2f : ∀ j, w2.frozen? ⟨c, j, none⟩ = false := fun j => (H2.out.1.frozen (p := ⟨c, j, none⟩) hcr1).trans (d0f j)
        have s0f : ∀ j, w2.frozen? ⟨g, j, none⟩ = false := fun j => (H2.out.1.frozen (p := ⟨g, j, none⟩) hgl1).trans (r0f j)
        have d3 : w2.cell? ⟨c, 1, none⟩ = some (.int .i64 (d : Int)) := by
          have := ((Ext.trans HE.out H2.out.1).block c (heap_lt HI.out.1.cell)).trans HI.out.1.cell
          simp [World.cell?, this]
        have x0 : w2.cell? ⟨bx, 0, none⟩ = some (str p.1) ∧ w2.cell? ⟨bx, 1, none⟩ = some (str p.2) := by
          have := H2.out.2.1
          constructor <;> simp [World.cell?, this]
        obtain ⟨x0, x1⟩ := x0
        have y0 : w2.cell? ⟨rb, 0, none⟩ = some (str []) ∧ w2.cell? ⟨rb, 1, none⟩ = some (str []) := by constructor <;> simp [World.cell?, rb2]
        obtain ⟨y0, y1⟩ := y0
        have yf : ∀ j, w2.frozen? ⟨rb, j, none⟩ = false := fun j => by simp [World.frozen?, rb2]
        have hcr2 : c < w2.heap.size := Nat.lt_of_lt_of_le hcr1 H2.out.1.size
        have hgl2 : g < w2.heap.size := Nat.lt_of_lt_of_le hgl1 H2.out.1.size
        have hrl2 : rb < w2.heap.size := heap_lt rb2
        have hxl2 : bx < w2.heap.size := heap_lt H2.out.2.1
        have hg_rb : g ≠ rb := fun e => HB.out.2.1 (by rw [← e]; rfl)
        have hcx : c ≠ bx := by have := H2.out.2.2; omega
        have hgx : g ≠ bx := by have := H2.out.2.2; omega
        have hrx : rb ≠ bx := by have := H2.out.2.2; omega
        have n1 : rb ≠ c := Ne.symm hcb
        have n2 : c ≠ g := Ne.symm hgc
        have n3 : rb ≠ g := Ne.symm hg_rb
        have HRB := Lib.hid rb2
        clear rb2 d0 r0 r1 d0f r0f hcr1 hgl1 hrb1 hbl
        repeat' (first | go_skip | go_guarded | go_step)
        (try simp only [Exit.inBlock, Exit.then])
        have hrbw : ((w2.setCell ⟨g, n * 2, none⟩ (.slice A2 k C2)).setCell ⟨c, 1, none⟩ (.int .i64 ((n : Int) + 1))).heap[rb]? = some (.cells #[str [], str []] NP (0, 0)) := (Below.heap_setCell _ ⟨c, 1, none⟩ _ rb n1).trans ((Below.heap_setCell w2 ⟨g, n * 2, none⟩ _ rb n3).trans HRB.out)
        refine bodyPost_ret_by (results_rowT rfl _ _ _ _ _ _ _ rfl (heap_set (heap_set hrbw 0 _) 1 _) Try.underlying40 rfl (by kernel_rfl)) rfl ?_
        have hwrb : w.heap.size ≤ rb := by have := HA.out.2.2.1; omega
        have E02 := Ext.trans HE.out H2.out.1
        have hT : TwoW c V w w2 := Only.trans ((TwoW.of_ext HA.out.2.1).trans HI.out.2.1 (NewW.refl _ _)) (Only.of_ext E02)
        have hCur := HI.out.1.keep E02
        obtain ⟨kb', hpo, hko, hro, hp9', hk9', hb'⟩ := FrOk.keep HF.out.1 E02.size (fun b hb _ _ => E02.block b hb) (.inl rfl)
        have hFB : ∀ b0, FrB (.slice A2 k C2, .slice Ak nk Ck) b0 → FrB (.slice (some ⟨b, o, none⟩) (k + 1) Cp, .slice Ak nk Ck) b0 := by
          intro b0 hb0
          rcases hb0 with hb0 | hb0
          · cases A2 with
            | none => cases hb0
            | some a2 =>
              obtain ⟨a0, e0, e1⟩ := HS.out.2.2.2 a2 rfl
              cases e0
              refine .inl ?_
              rw [← hb0]
              show some b = some a2.block
              rw [← e1]
          · exact .inr hb0
        have hFn : FrOk ND W0 w2 c (some g) (.slice A2 k C2, .slice Ak nk Ck) (ps, ks) := by
          refine ⟨kb', ⟨A2, C2, by rw [HS.out.2.2.1], flat_length _, ?_, ?_, ?_⟩, hko, hro, ?_, hk9', fun b0 hb0 => hb' b0 (hFB b0 hb0)⟩
          · have h1 := HS.out.2.2.1; have h2 := HS.out.2.1; simp only; omega
          · have h2 := HS.out.2.1; omega
          · have := HS.out.1 w2 (flat (p :: ps)) (by rw [flat_length, List.length_cons, ← HS.out.2.2.1]) (HF.out.2.2.2.1.below E02)
            exact this
          · simp only [List.length_cons] at hp9'; simp only; omega
        have hC1 := hCur.setTop HN.out.1 HN.out.2 0 (.slice A2 k C2) (.inl ⟨rfl, rfl⟩) hFn
        have hC2 := hC1.setD (n + 1)
        rw [show ((n + 1 : Nat) : Int) = (n : Int) + 1 by omega] at hC2
        have hfr : ∀ (i : Nat) (m : Fm), (ms2 ++ [(.slice A2 k C2, .slice Ak nk Ck)])[i]? = some m → ∀ b0, FrB m b0 → b0 ≠ rb ∧ ¬ Z b0 := by
          intro i m hm b0 hb0
          rcases Nat.lt_or_ge i ms2.length with hi | hi
          · rw [List.getElem?_append_left hi] at hm
            exact HI.out.2.2.2.2 i m (by rw [List.getElem?_append_left hi]; exact hm) b0 hb0
          · have hin : i = ms2.length := by
              have := (List.getElem?_eq_some_iff.1 hm).1
              simp at this; omega
            subst hin
            rw [get_snoc] at hm
            cases hm
            exact HI.out.2.2.2.2 ms2.length _ (get_snoc _ _) b0 (hFB b0 hb0)
        refine ⟨_, _, _, _, (hC2.setFar (p := ⟨rb, 0, none⟩) (str p.1) n1 HB.out.2.1 (fun i m hm b hb => (hfr i m hm b hb).1) HB.out.2.2).setFar (p := ⟨rb, 1, none⟩) (str p.2) n1 HB.out.2.1 (fun i m hm b hb => (hfr i m hm b hb).1) HB.out.2.2, ?_, ?_, ?_, .inr ⟨p, ?_, rfl⟩, fun i m hm b hb => (hfr i m hm b hb).2⟩
        · rw [wtB_snoc] at hwr9 ⊢; exact hwr9
        · refine Only.setCell (Only.setCell (Only.setCell (Only.setCell hT ?_ _) (.inl (.inl rfl)) _) (.inr hwrb) _) (.inr hwrb) _
          rcases HI.out.2.2.1 with e | e
          · exact .inl (.inr (by rw [← e]; rfl))
          · exact .inr (Nat.le_trans HA.out.2.1.size (e g rfl))
        · exact (NewW.refl w V).trans HI.out.2.2.1 HA.out.2.1.size
        · rw [← HI.out.2.2.2.1, com_take, HN.out.1]
      | nil =>
        have hnp0 : np = 0 := by simpa using hnp2
        subst hnp0
        clear hF hrep hblk hsp hsk hnp2 hnk2
        repeat' (go_not_at_if 71; (first | go_skip | go_guarded | go_step))
        cases ks with
        | nil =>
          have hnk0 : nk = 0 := by
            have h1 := HF.out.2.1.1
            have h2 := HF.out.2.2.2.2.2.2
            simp at h1; rw [h1] at h2; simpa using h2
          subst hnk0
          repeat' (go_not_at_region 5; (first | go_skip | go_guarded | go_step))
          go_region
          obtain ⟨x2, hx2⟩ : ∃ x2, x2 = (w1.setCell ⟨c, 0, none⟩ (.slice (some ⟨g, 0, none⟩) n C)).drew := ⟨_, rfl⟩
          have H2 : Hid (Cur W0 x2 c (.slice (some ⟨g, 0, none⟩) n C) ms2 st2 d ∧ TwoW c V wa x2) := by
            have hC := ((HI.out.1.keep HE.out).pop HN.out.1 HN.out.2).keep (ext_drew (Ext.refl _))
            have hT : TwoW c V wa x2 := by rw [hx2]; exact ((Only.trans HI.out.2.1 (Only.of_ext HE.out)).setCell (.inl (.inl rfl)) _).drew
            rw [← hx2] at hC
            exact Lib.hid ⟨hC, hT⟩
          rw [← hx2]
          clear hx2 d0 r0 r1 d0f r0f hcr1 hgl1
          have hws := wtB_snoc st2 ([], [])
          repeat' (first | go_skip | go_guarded | go_step)
          go_roundg (wtB st2)
          case measure => omega
          case rel => exact ⟨_, ms2, st2, Nat.le_refl _, by omega, Lib.hid ⟨H2.out.1, H2.out.2, HI.out.2.2.1, by rw [← HI.out.2.2.2.1, com_pop], fun i m hm b hb => HI.out.2.2.2.2 i m (by have hi := (List.getElem?_eq_some_iff.1 hm).1; rw [List.getElem?_append_left hi]; exact hm) b hb⟩⟩
        | cons t ts =>
          obtain ⟨k0, kr, rfl⟩ : ∃ k0 kr, kb = k0 :: kr := by
            have h1 := HF.out.2.1.1
            match kb, h1 with
            | [], h => simp at h
            | k0 :: kr, _ => exact ⟨k0, kr, rfl⟩
          obtain ⟨k, rfl⟩ : ∃ k, nk = k + 1 := ⟨kr.length, by rw [HF.out.2.2.2.2.2.2]; rfl⟩
          have hk : k = kr.length := by simpa using HF.out.2.2.2.2.2.2
          have hp0 : (0 : Int) < ((k + 1 : Nat) : Int) := by omega
          have hpd : decide (0 < k + 1) = true := by simp
          obtain ⟨b, o, rfl, hcl2⟩ := (HF.out.2.2.2.2.1.below HE.out) (fun e => by cases e)
          have z0 := hcl2 0 (ptr k0) rfl
          rw [Nat.add_zero] at z0
          obtain ⟨A2, hrun0, hseg, hblk2⟩ := run_fromW (P := Try.prog) (t := 102) (e := 30) Try.underlying102 infoNK (some ⟨b, o, none⟩) (show 1 ≤ k + 1 by omega) hnk
          obtain ⟨C2, hC2⟩ : ∃ x, x = Ck - 1 := ⟨_, rfl⟩
          rw [Nat.add_sub_cancel, ← hC2] at hrun0
          have hrun : ∀ w, (Instr.slice 102 (.slice (some ⟨b, o, none⟩) (k + 1) Ck) (some (.int .i64 1)) none none).run Try.prog w = .ok (.slice A2 k C2) w := hrun0
          have hbl : b < w1.heap.size := World.block_lt_of_cell? w1 _ z0
          have HS := Lib.hid (And.intro hseg (And.intro hC2 (And.intro hk hblk2)))
          clear hrun0 hseg hC2 hk hblk2 hcl2
          repeat' (go_not_at_region 14; (first | go_skip | go_guarded | go_step))
          obtain ⟨kb', hpo, hko, hro, hp9', hk9', hb'⟩ := FrOk.keep HF.out.1 HE.out.size (fun b hb _ _ => HE.out.block b hb) (.inl rfl)
          have hFB : ∀ b0, FrB (.slice Ap 0 Cp, .slice A2 k C2) b0 → FrB (.slice Ap 0 Cp, .slice (some ⟨b, o, none⟩) (k + 1) Ck) b0 := by
            intro b0 hb0
            rcases hb0 with hb0 | hb0
            · exact .inl hb0
            · cases A2 with
              | none => cases hb0
              | some a2 =>
                obtain ⟨a0, e0, e1⟩ := HS.out.2.2.2 a2 rfl
                cases e0
                refine .inr ?_
                rw [← hb0]
                show some b = some a2.block
                rw [← e1]
          have hFn : FrOk ND W0 w1 c (some g) (.slice Ap 0 Cp, .slice A2 k C2) ([], ts) := by
            refine ⟨kr, hpo, ⟨A2, C2, by rw [HS.out.2.2.1], by simp, ?_, ?_, ?_⟩, HF.out.2.1.drop 1, by simp, ?_, fun b0 hb0 => hb' b0 (hFB b0 hb0)⟩
            · have h1 := HS.out.2.2.1; have h2 := HS.out.2.1; omega
            · have h2 := HS.out.2.1; omega
            · exact HS.out.1 w1 (ptrs (k0 :: kr)) (by rw [ptrs_length, List.length_cons, ← HS.out.2.2.1, Nat.mul_one]) (HF.out.2.2.2.2.1.below HE.out)
            · have h1 := HS.out.2.2.1; omega
          have hC1 := (HI.out.1.keep HE.out).setTop HN.out.1 HN.out.2 1 (.slice A2 k C2) (.inr ⟨rfl, rfl⟩) hFn
          have hrep := HF.out.2.1.2 0 k0 t rfl rfl
          have hT1 : TwoW c V wa (w1.setCell ⟨g, n * 2 + 1, none⟩ (.slice A2 k C2)) := by
            refine Only.setCell (Only.trans HI.out.2.1 (Only.of_ext HE.out)) ?_ _
            rcases HI.out.2.2.1 with e | e
            · exact .inl (.inr (by rw [← e]; rfl))
            · exact .inr (e g rfl)
          have hfr : ∀ (i : Nat) (m : Fm), (ms2 ++ [(.slice Ap 0 Cp, .slice A2 k C2)])[i]? = some m → ∀ b0, FrB m b0 → b0 ≠ rb ∧ ¬ Z b0 := by
            intro i m hm b0 hb0
            rcases Nat.lt_or_ge i ms2.length with hi | hi
            · rw [List.getElem?_append_left hi] at hm
              exact HI.out.2.2.2.2 i m (by rw [List.getElem?_append_left hi]; exact hm) b0 hb0
            · have hin : i = ms2.length := by
                have := (List.getElem?_eq_some_iff.1 hm).1
                simp at this; omega
              subst hin
              rw [get_snoc] at hm
              cases hm
              exact HI.out.2.2.2.2 ms2.length _ (get_snoc _ _) b0 (hFB b0 hb0)
          have HC1 := Lib.hid (And.intro hC1 (And.intro hrep (And.intro hT1 hfr)))
          have hml : (ms2 ++ [((.slice Ap 0 Cp, .slice A2 k C2) : Fm)]).length = n + 1 := by rw [List.length_append, HN.out.2]; rfl
          have hwp := wt_push st2 t ts
          have hrbw : rb < w1.heap.size := Nat.lt_of_lt_of_le (heap_lt HB.out.1) HE.out.size
          clear hpo hko hro hp9' hk9' hb' hFB hFn hC1 hrep hT1 hfr d0 r0 r1 d0f r0f hcr1 hgl1 z0 hbl
          obtain ⟨w2, hw2⟩ : ∃ x, x = w1.setCell ⟨g, n * 2 + 1, none⟩ (.slice A2 k C2) := ⟨_, rfl⟩
          rw [← hw2] at HC1 ⊢
          have hrb2 : rb < w2.heap.size := by rw [hw2]; simpa using hrbw
          clear hw2
          refine next_14 W0 w2 c k0 (n + 1) C d (some ⟨g, 0, none⟩) (ms2 ++ [(.slice Ap 0 Cp, .slice A2 k C2)]) (st2 ++ [([], ts)]) t (Lib.hid ⟨HC1.out.1, HC1.out.2.1, hml.symm⟩) (by omega) _ _ _ _ _ _ _ _ _ _ _ _ _ _ _ _ _ _ _ _ _ _ _ _ _ _ _ _ _ _ _ _ _ _ _ _ _ _ _ _ _ _ _ _ _ _ _ _ _ _ _ _ _ _ _ _ _ _ _ _ _ _ _ _ _ _ _ _ _ _ _ _ _ _ _ _ _ _ _ _ _ _ _ _ _ _ _ _ _ _ _ _ _ _ _ _ _ _ _ _ _ _ _ _ _ _ _ (by kernel_rfl) ?_
          intro u92 u93 u94 u95 u96 u97 u98 u99 u100 u101 u102 wx V' m' hCx hTx hNx hBx
          have H3 := Lib.hid (And.intro hCx (And.intro hTx (And.intro hNx hBx)))
          clear hCx hTx hNx hBx
          (try simp only [Exit.inBlock, Exit.then])
          repeat' (first | go_skip | go_guarded | go_step)
          go_roundg (wtB ((st2 ++ [([], ts)]) ++ [(t.ps, t.ks)]))
          case measure => omega
          case rel =>
            refine ⟨V', _, _, Nat.le_refl _, by omega, Lib.hid ⟨H3.out.1, HC1.out.2.2.1.trans H3.out.2.1 HI.out.2.2.1, HI.out.2.2.1.trans H3.out.2.2.1 HC1.out.2.2.1.size, by rw [← HI.out.2.2.2.1, com_push], fun i m hm b0 hb0 => ?_⟩⟩
            rcases Nat.lt_or_ge i (n + 1) with hi | hi
            · rw [List.getElem?_append_left (by omega)] at hm
              exact HC1.out.2.2.2 i m hm b0 hb0
            · have hin : i = (ms2 ++ [((.slice Ap 0 Cp, .slice A2 k C2) : Fm)]).length := by
                have := (List.getElem?_eq_some_iff.1 hm).1
                rw [List.length_append] at this
                simp only [List.length_cons, List.length_nil] at this
                omega
              subst hin
              rw [get_snoc] at hm
              cases hm
              have := H3.out.2.2.2 b0 hb0
              refine ⟨by omega, fun hz => ?_⟩
              have := HZ.out.1 b0 hz
              have := HA.out.2.2.1
              have := HC1.out.2.2.1.size
              omega
theorem wnext_c (W0 w : World) (c : Nat) (V : Value) (ms : List Fm) (st : List Fp) (d : Nat) (h : Cur W0 w c V ms st d) (hw9 : wtB st ≤ 1000000) :
    Calls Try.prog 15 #[ptr c] w (NextW W0 w c V st) := by
  refine (wnextZ_c (fun _ => False) W0 w c V ms st d h hw9 (fun _ h => h.elim) (fun _ _ _ _ _ h => h)).mono ?_
  rintro e w' ⟨V', ms', st', d', h1, h2, h3, h4, h5, _⟩
  exact ⟨V', ms', st', d', h1, h2, h3, h4, h5⟩
end Go.Proofs.Ytbmakajadelckaa
