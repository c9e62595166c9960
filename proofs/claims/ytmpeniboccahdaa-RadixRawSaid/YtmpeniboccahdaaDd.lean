/- Contract: radix.Drop (no token). -/
import Derived.Test.YtmpeniboccahdaaDc
namespace Go.Proofs.Ytmpeniboccahdaa
open Go.RowKit Go.QS
set_option linter.unusedVariables false

theorem tdrop_go {n : Nat} {t kid : RT} {c : UInt8} {key : List UInt8} (hf : fH t.kids c.toNat = true) (hkid : t.kids[fI t.kids c.toNat]? = some kid) :
    tdrop (n + 1) t (c :: key) = (if begD (c :: key) kid.lab then (if (tdrop n kid ((c :: key).drop kid.lab.length)).2 then (RT.node t.lab t.val (match tmend (tdrop n kid ((c :: key).drop kid.lab.length)).1 with | none => t.kids.take (fI t.kids c.toNat) ++ t.kids.drop (fI t.kids c.toNat + 1) | some k => t.kids.set (fI t.kids c.toNat) k), true) else (t, false)) else (t, false)) := by
  conv => lhs; unfold tdrop
  rw [if_pos hf, hkid]
  rfl

theorem dropk_c : ∀ (n N g : Nat) (t : RT) (key : List UInt8) (w : World), key.length ≤ n → Rep NT w g t → Kd N t.kids → key.length ≤ 1000 → N ≤ 1000 →
    Calls Try.prog 46 #[ptr g, .pointer none, str key] w (DropOK w g (tdrop n t key))
  | n, N, g, t, [], w, _, h, hk, _, _ => by
    have e : tdrop n t [] = if t.val.isSome then (RT.node t.lab none t.kids, true) else (t, false) := by cases n <;> simp [tdrop]
    rw [e]
    exact drop_nil w g t h hk.len
  | 0, N, g, t, c :: key, w, hn, _, _, _, _ => by simp at hn
  | n + 1, N, g, t, c :: key, w, hn, h, hk, hkl, hN => by
    by_cases hf : fH t.kids c.toNat = true
    · obtain ⟨kid, hkid, hhd⟩ := fH_get hk.heads hf
      rw [tdrop_go hf hkid]
      have hbr := hk.br (List.mem_of_getElem? hkid)
      have hll : 0 < kid.lab.length := List.length_pos_iff.2 hbr.1
      have hd := List.length_drop (i := kid.lab.length) (l := c :: key)
      have hok := tdrop_ok n (N - kid.lab.length) kid ((c :: key).drop kid.lab.length) (by omega) hbr.2.2.2
      refine drop_go w N g t kid c key _ h hk hf hkid hkl hN (by rw [hok.lab]; have := hbr.2.1; omega) hok.kd.len (fun k hk => ⟨by have := (hok.kd.br hk).2.1; omega, (hok.kd.br hk).2.2.2.len⟩) fun w' g' R => ?_
      exact dropk_c n (N - kid.lab.length) g' kid _ w' (by omega) R hbr.2.2.2 (by omega) (by omega)
    · have hf' : fH t.kids c.toNat = false := by simpa using hf
      have e : tdrop (n + 1) t (c :: key) = (t, false) := by
        unfold tdrop
        rw [if_neg hf]
      rw [e]
      exact drop_no w N g t c key h hk hf'

set_option maxRecDepth 100000 in
theorem dropR_c (w : World) (N g : Nat) (t : RT) (key : List UInt8) (h : Rep NT w g t) (hk : Kd N t.kids) (hkl : key.length ≤ 1000) (hN : N ≤ 1000) :
    Calls Try.prog 16 #[.pointer none, ptr g, str key] w (DropOK w g (tdrop key.length t key)) := by
  have HC := Lib.hid (dropk_c key.length N g t key w (Nat.le_refl _) h hk hkl hN)
  obtain ⟨r, hr⟩ : ∃ r, r = tdrop key.length t key := ⟨_, rfl⟩
  rw [← hr] at HC ⊢
  obtain ⟨r1, rb⟩ := r
  clear h hk hkl hr
  go_enter Try.func16, Try.ntmps16
  repeat' (first | (go_at_call 43; refine (some_c _ g).mono ?_; rintro e x1 ⟨rfl, rfl⟩; go_simp) | go_at_call 46 | go_skip | go_guarded | go_step)
  refine HC.out.mono ?_
  rintro e w1 ⟨g1, rfl, f1, R1, hs⟩
  have H1 : Hid (Ext w w1 ∧ Rep NT w1 g1 r1 ∧ ((r1, rb).2 = false → g1 = g)) := Lib.hid ⟨f1, R1, hs⟩
  clear f1 R1 hs
  go_simp
  repeat' (first | go_skip | go_guarded | go_step)
  go_ret2
  exact ⟨g1, rfl, H1.out.1, H1.out.2.1, H1.out.2.2⟩
end Go.Proofs.Ytmpeniboccahdaa
