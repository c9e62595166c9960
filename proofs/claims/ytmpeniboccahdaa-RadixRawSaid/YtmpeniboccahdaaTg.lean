/- Contract: radix.Get. -/
import Derived.Test.YtmpeniboccahdaaTf
namespace Go.Proofs.Ytmpeniboccahdaa
open Go.RowKit Go.QS
set_option linter.unusedVariables false

/-- A root, or none (which counts as one of no pairs). -/
def Root (w : World) (v : Value) (t : RT) : Prop := ∀ W, Ext w W → Calls Try.prog 43 #[v] W fun e w' => ∃ g, e = .returned (ptr g) ∧ Ext W w' ∧ Rep NT w' g t
set_option maxRecDepth 100000 in
set_option maxHeartbeats 1000000 in
theorem get_c (w : World) (v : Value) (N : Nat) (t : RT) (key : List UInt8) (h : Root w v t) (hk : Kd N t.kids) (hN : N ≤ 1000) (hkl : key.length ≤ 1000000) :
    Calls Try.prog 29 #[v, str key] w fun e w' => e = .returned (.tuple #[str ((getL key t.prs).getD []), .bool (getL key t.prs).isSome]) ∧ Ext w w' := by
  obtain ⟨n, hn⟩ : ∃ n, n = key.length := ⟨_, rfl⟩
  have H := Lib.hid (And.intro hk hn)
  have HS := Lib.hid (h w (Ext.refl w))
  clear h hk hn
  go_enter Try.func29, Try.ntmps29
  repeat' (first | go_at_call 43 | go_skip | go_guarded | go_step)
  refine HS.out.mono ?_
  rintro e x0 ⟨g, rfl, f0, R0⟩
  have H0 := Lib.hid (And.intro f0 R0)
  clear f0 R0
  go_simp
  repeat' (go_not_at_region 2; (first | go_skip | go_guarded | go_step))
  go_loopg [1, 6, 7, 8, 13, 29] n (fun gk v1 v6 v7 v8 v13 v29 wr => ∃ (g' : Nat) (key' : List UInt8), v1 = str key' ∧ v6 = ptr g' ∧ key'.length ≤ gk ∧ key'.length ≤ 1000000 ∧ x0 = wr ∧ Hid (∃ (t' : RT) (N' : Nat), Rep NT wr g' t' ∧ Kd N' t'.kids ∧ N' ≤ 1000 ∧ getL key t.prs = getL key' t'.prs))
  case atStart => exact ⟨g, key, rfl, rfl, by rw [H.out.2]; exact Nat.le_refl _, hkl, rfl, Lib.hid ⟨t, N, H0.out.2, H.out.1, hN, rfl⟩⟩
  case round =>
    obtain ⟨g', key', rfl, rfl, hgk, hkl', rfl, HI⟩ := hrel
    obtain ⟨t', N', hR, hK, hN', hget⟩ := HI.out
    obtain ⟨kv, ow, ps, nd, sl, rp⟩ := hR.open
    rcases key' with _ | ⟨c, key'⟩
    · have HG := Lib.hid hget
      have hv := tget_nil hK
      obtain ⟨c0, c1, c2, c3, c4⟩ := nd.cells
      have HV := Lib.hid hv
      have HVC := Lib.hid (value_c x0 g' _ _ c1 c2)
      clear hv hget nd sl rp hR hK c0 c1 c2 c3 c4
      repeat' (first | go_at_call 30 | go_skip | go_guarded | go_step)
      refine HVC.out.mono ?_
      rintro e w1 ⟨rfl, f1⟩
      have H1 := Lib.hid f1
      clear f1
      go_simp
      repeat' (first | go_skip | go_guarded | go_step)
      go_ret2
      rw [HG.out, HV.out]
      exact ⟨rfl, H0.out.1.trans H1.out⟩
    · have hidx := idx_str Try.underlying9 (a := c :: key') (k := 0) (x := c) rfl
      have hc9 : c.toNat < 256 := UInt8.toNat_lt c
      have HFC := Lib.hid (findk_c x0 g' t' c.toNat hc9 hR hK.ne hK.heads (by have := hK.len; omega))
      by_cases hf : fH t'.kids c.toNat = true
      · obtain ⟨kid, hkid, hhd⟩ := fH_get hK.heads hf
        have hgo := tget_go (key := key') hK hkid hhd
        have hb := hK.br (List.mem_of_getElem? hkid)
        rw [hf] at HFC
        obtain ⟨i, hi⟩ : ∃ i, i = fI t'.kids c.toNat := ⟨_, rfl⟩
        rw [← hi] at HFC hkid
        obtain ⟨c0, c1, c2, c3, c4⟩ := nd.cells
        obtain ⟨A, C, rfl, _, hn, hC, hs⟩ := sl
        obtain ⟨m, hm⟩ : ∃ m, m = ps.length := ⟨_, rfl⟩
        have him : i < m := by rw [hm, rp.1]; exact (List.getElem?_eq_some_iff.1 hkid).1
        have hi1 : (i : Int) < (m : Int) := by omega
        rw [← hm] at c3 hn
        have hm9 : m ≤ 9223372036854775807 := by unfold maxLen at hC; omega
        obtain ⟨p, hp⟩ := get_of_lt ps (show i < ps.length by omega)
        obtain ⟨b, o, rfl, hcl⟩ := hs (fun e => by have := ptrs_get hp; rw [e] at this; simp at this)
        have hq := hcl i _ (ptrs_get hp)
        have hRk := rp.2 i p kid hp hkid
        obtain ⟨_, _, _, ndk, _, _⟩ := hRk.open
        have k0 := ndk.cells.1
        have hCC := cutD_c x0 (c :: key') kid.lab hkl' (by have := hb.2.1; omega)
        have hll : 0 < kid.lab.length := List.length_pos_iff.2 hb.1
        have hbd : ((c :: key').take kid.lab.length == kid.lab) = begD (c :: key') kid.lab := rfl
        rw [hbd] at hgo
        cases hbg : begD (c :: key') kid.lab with
        | false =>
          rw [hbg] at hgo hCC
          have HX := Lib.hid (And.intro hget (And.intro hgo hCC))
          clear hget hgo hCC hbg hi hkid hhd hp hcl hRk ndk hb hm rp nd hR hK hf c0 c1 c2 c4 hbd
          repeat' (first | go_at_call 58 | go_skip | go_guarded | go_step)
          refine HFC.out.mono ?_
          rintro e w1 ⟨rfl, rfl⟩
          go_simp
          repeat' (first | go_at_call 59 | go_skip | go_guarded | go_step)
          refine HX.out.2.2.mono ?_
          rintro e w1 ⟨rfl, rfl⟩
          go_simp
          repeat' (first | go_skip | go_guarded | go_step)
          go_ret2
          rw [HX.out.1, HX.out.2.1]
          exact ⟨rfl, H0.out.1⟩
        | true =>
          rw [hbg] at hgo hCC
          have hle := begD_le hbg
          have hdl := List.length_drop (i := kid.lab.length) (l := c :: key')
          obtain ⟨rest, hrest⟩ : ∃ r, r = (c :: key').drop kid.lab.length := ⟨_, rfl⟩
          rw [← hrest] at hgo hCC hdl
          have HX : Hid (_ ∧ _ ∧ _) := Lib.hid (And.intro hget (And.intro hgo hCC))
          have HB := Lib.hid (And.intro hRk hb)
          have hsm1 : rest.length ≤ 1000000 := by omega
          have hsm2 : rest.length + 1 ≤ (c :: key').length := by omega
          clear hget hgo hCC hbg hi hkid hhd hp hcl hRk ndk hb hm rp nd hR hK hf c0 c1 c2 c4 hbd hrest hdl hle
          repeat' (first | go_at_call 58 | go_skip | go_guarded | go_step)
          refine HFC.out.mono ?_
          rintro e w1 ⟨rfl, rfl⟩
          go_simp
          repeat' (first | go_at_call 59 | go_skip | go_guarded | go_step)
          refine HX.out.2.2.mono ?_
          rintro e w1 ⟨rfl, rfl⟩
          go_simp
          repeat' (first | go_skip | go_guarded | go_step)
          go_roundg rest.length
          case measure => omega
          case rel => exact ⟨p, rest, rfl, rfl, Nat.le_refl _, hsm1, rfl, Lib.hid ⟨kid, N' - kid.lab.length, HB.out.1, HB.out.2.2.2.2, by omega, by rw [HX.out.1, HX.out.2.1]; rfl⟩⟩
      · have hf' : fH t'.kids c.toNat = false := by simpa using hf
        have hno := tget_no (key := key') hK hf'
        rw [hf'] at HFC
        have HX := Lib.hid (And.intro hget hno)
        clear hget hno hf hf' nd sl rp hR hK
        repeat' (first | go_at_call 58 | go_skip | go_guarded | go_step)
        refine HFC.out.mono ?_
        rintro e w1 ⟨rfl, rfl⟩
        go_simp
        repeat' (first | go_skip | go_guarded | go_step)
        go_ret2
        rw [HX.out.1, HX.out.2]
        exact ⟨rfl, H0.out.1⟩

theorem somez_c (w : World) : Calls Try.prog 43 #[.pointer none] w fun e w' => e = .returned (ptr w.heap.size) ∧ w' = w.alloc (.cells #[str [], .bool false, str [], .slice none 0 0, .pointer none] NT) := by
  go_enter Try.func43, Try.ntmps43
  repeat' (first | (go_at_call 12; refine (empty_c _).mono ?_; rintro e w0 ⟨rfl, rfl⟩; go_simp) | go_skip | go_guarded | go_step)
  go_ret
  exact ⟨rfl, rfl⟩
theorem empty_rep (w : World) : Rep NT (w.alloc (.cells #[str [], .bool false, str [], .slice none 0 0, .pointer none] NT)) w.heap.size (RT.node [] none []) :=
  Rep.make (t := RT.node [] none []) (ps := []) (NodeAt.new (lab := []) (val := none) (kv := .slice none 0 0) (ow := none) NT w rfl) (Sl.nil _ _) (Reps.nil _ _)
theorem Root.of {w : World} {g : Nat} {t : RT} (h : Rep NT w g t) : Root w (ptr g) t := fun W hW => by
  refine (some_c W g).mono ?_
  rintro e w1 ⟨rfl, rfl⟩
  exact ⟨g, rfl, Ext.refl _, h.ext hW⟩
theorem Root.nil (w : World) : Root w (.pointer none) (RT.node [] none []) := fun W hW => by
  refine (somez_c W).mono ?_
  rintro e w1 ⟨rfl, rfl⟩
  exact ⟨_, rfl, (Ext.refl _).alloc (Nat.le_refl _) _, empty_rep W⟩
theorem Root.ext {w w' : World} {v : Value} {t : RT} (h : Root w v t) (f : Ext w w') : Root w' v t := fun W hW => h W (f.trans hW)
end Go.Proofs.Ytmpeniboccahdaa
