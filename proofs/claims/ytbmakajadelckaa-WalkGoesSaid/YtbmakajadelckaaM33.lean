/- Texts joined. -/
import Derived.Test.YtbmakajadelckaaM05
import Derived.Test.YtbmakajadelckaaM18
import Derived.Test.YtbmakajadelckaaWlr
import Derived.Deep.RegionHeld3
set_option linter.unusedVariables false
set_option linter.unusedSimpArgs false
/- Small tries and hashers of the examples. -/
namespace Go.QS
open Go.RowKit Go.QS.Nk
def pa9 : Pr := ([97], [])
def pb9 : Pr := ([98], [])
theorem put_ab9 : rput [pa9] pb9 = [pa9, pb9] := by decide +kernel
theorem put_a9 : rput [] pa9 = [pa9] := by decide +kernel
end Go.QS
namespace Go.Proofs.Ytbmakajadelckaa
open Go.RowKit Go.QS Go.QS.Nk
abbrev hs0 : Hs := ⟨0, 0, 0⟩
theorem hs0_ok : hs0.Ok := ⟨by decide, by decide, by decide⟩
theorem hs0_hash : hs0.hash = fun _ => 0 := by funext s; simp [Hs.hash]
end Go.Proofs.Ytbmakajadelckaa
/- Contracts: law 8's awake; a cursor's Copy. -/
namespace Go.Proofs.Ytbmakajadelckaa
open Go.RowKit Go.QS Go.QS.Nk
set_option linter.unusedVariables false

theorem walk_example : walkT (trieOf (fun _ => 0) 13 [pa9]) 1 = [(pa9, 1)] := by decide +kernel
theorem cnt_example : cntT (trieOf (fun _ => 0) 13 [pa9]) = 1 := by decide +kernel
set_option maxRecDepth 100000 in
set_option maxHeartbeats 1000000 in
theorem awake08_c (w : World) : Calls Try.prog 10 #[] w fun e w' => e = .returned (.bool true) ∧ Ext w w' := by
  have hp1 := cput_c hs0 hs0_ok w nil0 [] pa9 (Rot.nil _ _) rise_nil (by simp) (by simp) (by decide)
  rw [put_a9] at hp1
  have HP1 := Lib.hid hp1
  clear hp1
  go_enter Try.func10, Try.ntmps10
  repeat' (first | go_at_call 13 | go_skip | go_guarded | go_step)
  refine HP1.out.mono ?_
  rintro e w1 ⟨g1, rfl, t1, f1, _⟩
  have hR := TR.rep 13 t1 (by simp)
  rw [hs0_hash] at hR
  have HR := Lib.hid (And.intro f1 hR)
  clear t1 f1 hR HP1
  go_simp
  repeat' (first | go_at_call 14 | go_skip | go_guarded | go_step)
  refine (wnew_c w1 _ _ (.inr ⟨g1, rfl, HR.out.2⟩)).mono ?_
  rintro e w2 ⟨c, V, m, rfl, hC, f2⟩
  have hw : wtB [((trieOf (fun _ => 0) 13 [pa9]).ps, (trieOf (fun _ => 0) 13 [pa9]).ks)] ≤ 1000000 := by
    have := cntT_eq (trieOf (fun _ => 0) 13 [pa9])
    rw [cnt_example] at this
    simp [wtB]; omega
  have hcom := com_one (trieOf (fun _ => 0) 13 [pa9])
  rw [walk_example] at hcom
  obtain ⟨st, hst⟩ : ∃ st, st = [((trieOf (fun _ => 0) 13 [pa9]).ps, (trieOf (fun _ => 0) 13 [pa9]).ks)] := ⟨_, rfl⟩
  rw [← hst] at hC hw hcom
  have H2 := Lib.hid (And.intro hC (And.intro hcom HR.out.1))
  clear hC hcom f2 hst HR
  have HN1 := Lib.hid (wnext_c w1 w2 c V [m] st 0 H2.out.1 hw)
  go_simp
  repeat' (first | go_at_call 15 | go_skip | go_guarded | go_step)
  refine HN1.out.mono ?_
  rintro e w3 ⟨V3, ms3, st3, d3, hC3, hw3, hT3, hN3, ⟨hz, _⟩ | ⟨p, hcom, rfl⟩⟩
  · rw [H2.out.2.1] at hz; cases hz
  · rw [H2.out.2.1] at hcom
    obtain ⟨rfl, hz3⟩ : p = pa9 ∧ comB st3 1 = [] := by
      injection hcom with h1 h2
      injection h1 with h3 h4
      exact ⟨h3.symm, h2.symm⟩
    have H3 := Lib.hid (And.intro hC3 (And.intro hz3 hC3.ext))
    clear hcom hz3 hC3 hT3 hN3 HN1
    go_simp
    repeat' (go_not_at_region 4; (first | go_skip | go_guarded | go_step))
    obtain ⟨g4, hg4⟩ : ∃ g, g = w3.heap.size := ⟨_, rfl⟩
    rw [← hg4]
    refine wp_nameW (fun w' => w'.heap[g4]? = some (.cells #[str [97], str []] NP (0, 0)) ∧ Ext w3 w' ∧ w3.heap.size ≤ g4) ⟨by rw [hg4]; exact heap_new w3 _, (Ext.refl _).alloc (Nat.le_refl _) _, by omega⟩ ?_
    clear hg4
    intro w4 H4
    have HN2 := Lib.hid (wnext_c w1 w4 c V3 ms3 st3 d3 (H3.out.1.keep H4.out.2.1) (by omega))
    repeat' (first | go_at_call 15 | go_skip | go_guarded | go_step)
    refine HN2.out.mono ?_
    rintro e w5 ⟨V5, ms5, st5, d5, hC5, hw5, hT5, hN5, ⟨_, rfl, _, _⟩ | ⟨p', hcom, rfl⟩⟩
    · have hg5 : w5.heap[g4]? = some (.cells #[str [97], str []] NP (0, 0)) := hT5.heap H4.out.1 (by
        have h1 := heap_lt H3.out.1.cell
        have h2 := H4.out.2.2
        rintro (e | e)
        · omega
        · have := (World.ownsRow.lt H3.out.1.row g4 e).2; omega)
      have hE5 : Hid (Ext w w5) := Lib.hid (Ext.trans H2.out.2.2 hC5.ext)
      have x0 : w5.cell? ⟨g4, 0, none⟩ = some (str [97]) := by simp [World.cell?, hg5]
      have hg4l : g4 < w5.heap.size := heap_lt hg5
      clear hC5 hT5 hN5 HN2 hg5
      go_simp
      repeat' (first | go_skip | go_guarded | go_step)
      go_ret
      exact ⟨rfl, hE5.out.alloc hE5.out.size _⟩
    · rw [H3.out.2.1] at hcom; cases hcom

set_option maxRecDepth 100000 in
theorem fclone_c (w : World) (v : Value) (ms : List Fm) (h : Sl w 2 v ms.length (flatF ms)) (h1 : ∀ u ∈ flatF ms, u.oneCell' = true) (h9 : ms.length ≤ 1000000000) :
    Calls Try.prog 59 #[v] w fun e w' => ∃ v', e = .returned v' ∧ w'.ownsRow w.heap.size WFT 2 v' ms.length (flatF ms) ∧ Ext w w' := by
  obtain ⟨A, c, rfl, hl, hn, hc, hs⟩ := h
  have hnil := fun w : World => Lib.run_eql_slice_nil (P := Try.prog) w 106 WFT A ms.length c 0 0 Try.underlying106
  cases A with
  | none =>
    have hl0 : ms = [] := by
      cases ms with
      | nil => rfl
      | cons p l => obtain ⟨b, o, h, _⟩ := hs (by intro e; cases e); cases h
    subst hl0
    have hnil := fun w : World => Lib.run_eql_slice_nil (P := Try.prog) w 106 WFT none 0 c 0 0 Try.underlying106
    go_enter Try.func59, Try.ntmps59
    repeat' go_step
    go_ret
    exact ⟨_, rfl, World.ownsRow_nil _ _ _ _, Ext.refl _⟩
  | some a =>
    have H1 := Lib.hid h1
    clear h1
    go_enter Try.func59, Try.ntmps59
    repeat' (first | (at_builtin; refine wpList_appE (W := w) rfl (.tmp 5) (.tmp 6) _ rfl WFT 2 48 Try.underlying106 infoWF (by decide) _ 0 [] rfl (own_lit [] 0 (by decide) rfl (Nat.le_refl _)) ((Ext.refl w).alloc (Nat.le_refl _) _) _ _ c (flatF ms) rfl hl (hs.alloc _) H1.out (by unfold maxLen; omega) (by omega) ?_; intro v1 w1 hown hb) | go_step)
    go_ret
    refine ⟨_, rfl, ?_, hb⟩
    simpa using hown
theorem flatF_one {l : List Fm} (h : ∀ m ∈ l, m.1.oneCell' = true ∧ m.2.oneCell' = true) : ∀ u ∈ flatF l, u.oneCell' = true := by
  intro u hu
  obtain ⟨m, hm, hx⟩ := List.mem_flatMap.1 hu
  simp only [List.mem_cons, List.not_mem_nil, or_false] at hx
  rcases hx with rfl | rfl
  · exact (h m hm).1
  · exact (h m hm).2

set_option maxRecDepth 100000 in
set_option maxHeartbeats 1000000 in
theorem wcopy_c {W0 w : World} {c : Nat} {V : Value} {ms : List Fm} {st : List Fp} {d : Nat} (h : Cur W0 w c V ms st d) (h9 : st.length ≤ 1000000) :
    Calls Try.prog 22 #[ptr c] w fun e w' => ∃ c2 V2, e = .returned (ptr c2) ∧ Cur W0 w' c2 V2 ms st d ∧ Ext w w' ∧ w.heap.size ≤ c2 ∧ ∀ b, V2.ownBlock = some b → w.heap.size ≤ b := by
  have c0 : w.cell? ⟨c, 0, none⟩ = some V := by have := h.cell; simp [World.cell?, this]
  have c1 : w.cell? ⟨c, 1, none⟩ = some (.int .i64 (d : Int)) := by have := h.cell; simp [World.cell?, this]
  have hone : ∀ u ∈ flatF ms, u.oneCell' = true := flatF_one fun m hm => by
    obtain ⟨i, hi⟩ := List.mem_iff_getElem?.1 hm
    obtain ⟨s, hs⟩ := get_of_lt st (show i < st.length by have := (List.getElem?_eq_some_iff.1 hi).1; have := h.len; omega)
    obtain ⟨kb, ⟨A, C, e1, _⟩, ⟨A', C', e2, _⟩, _⟩ := h.fr i m s hi hs
    rw [e1, e2]; exact ⟨rfl, rfl⟩
  have hlen : ms.length ≤ 1000000 := by rw [h.len]; exact h9
  have HC := Lib.hid (And.intro c0 c1)
  have HH := Lib.hid (And.intro h hone)
  have HK : Hid (∀ W, Ext w W → Calls Try.prog 59 #[V] W fun e w' => ∃ v', e = .returned v' ∧ w'.ownsRow W.heap.size WFT 2 v' ms.length (flatF ms) ∧ Ext W w') := Lib.hid (fun W f => fclone_c W V ms ((Sl.of_own h.row).below f) hone (by omega))
  clear h hone
  go_enter Try.func22, Try.ntmps22
  repeat' (go_not_at_region 3; (first | go_skip | go_guarded | go_step))
  go_region_held3 (fun w' => w'.cell? ⟨c, 0, none⟩ = some V ∧ w'.cell? ⟨c, 1, none⟩ = some (.int .i64 (d : Int)))
    (first | exact ⟨Ext.cell' k2.out HC.out.1, Ext.cell' k2.out HC.out.2⟩ | exact ⟨Ext.cell' (ext_alloc k2.out _) HC.out.1, Ext.cell' (ext_alloc k2.out _) HC.out.2⟩ | exact ⟨Ext.cell' (ext_drew (Ext.refl w)) HC.out.1, Ext.cell' (ext_drew (Ext.refl w)) HC.out.2⟩)
    (first
      | (go_at_call 59; refine (HK.out w.drew (ext_drew (Ext.refl w))).mono ?_; rintro e x2 ⟨v2, rfl, r2, f2⟩; obtain ⟨A2, C2, rfl⟩ := own_slice r2; have k2 : Hid (Ext w x2) := Lib.hid (Ext.trans (ext_drew (Ext.refl w)) f2); have K2 := Lib.hid r2; clear f2 r2))
  repeat' (first | go_skip | go_guarded | go_step)
  go_ret
  have hE : Ext x2 (x2.alloc (.cells #[.slice A2 ms.length C2, .int .i64 (d : Int)] WCT)) := (Ext.refl _).alloc (Nat.le_refl _) _
  have hlt := World.ownsRow.lt K2.out
  have hsz : w.heap.size ≤ x2.heap.size := k2.out.size
  have hdz : w.drew.heap.size = w.heap.size := rfl
  have hW := HH.out.1.ext.size
  refine ⟨x2.heap.size, .slice A2 ms.length C2, rfl, ⟨heap_new x2 _, row_ext (own_up K2.out (by omega)) hE, HH.out.1.len, fun i m s hm hs => ?_, Ext.trans HH.out.1.ext (Ext.trans k2.out hE), by omega, fun e => ?_⟩, Ext.trans k2.out hE, hsz, fun b hb => (hlt b hb).1⟩
  · have hf := HH.out.1.fr i m s hm hs
    have E := Ext.trans k2.out hE
    obtain ⟨kb, e1, e2, e3, e4, e5, e6⟩ := FrOk.keep hf E.size (fun b hb _ _ => E.block b hb) (.inl rfl)
    obtain ⟨_, _, _, _, _, _, z6⟩ := hf
    refine ⟨kb, e1, e2, e3, e4, e5, fun b hb => ?_⟩
    have hbw := (z6 b hb).1
    refine ⟨(e6 b hb).1, by omega, fun e => ?_⟩
    have := (hlt b e).1
    omega
  · have := (hlt _ e).2; omega
end Go.Proofs.Ytbmakajadelckaa
