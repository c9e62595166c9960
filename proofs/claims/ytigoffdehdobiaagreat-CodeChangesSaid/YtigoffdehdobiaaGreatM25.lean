/- Texts joined. -/
import Derived.Test.YtigoffdehdobiaaGreatM23
import Derived.Test.YtigoffdehdobiaaGreatM24
import Derived.Test.YtigoffdehdobiaaGreatM03
import Derived.Deep.LoopGhost
import Derived.Test.YtigoffdehdobiaaGreatM00
set_option linter.unusedVariables false
set_option linter.unusedSimpArgs false
/- Contracts: code.Tree of a radix tree of one pair, the law's awake. -/
namespace Go.Proofs.YtigoffdehdobiaaGreat
open Go.RowKit Go.QS
set_option linter.unusedVariables false

set_option maxRecDepth 100000 in
theorem ctree1_c (w : World) (g : Nat) (h : Rep NT w g T1) :
    Calls Tryz.prog 32 #[trV g] w fun e w' => ∃ v', e = .returned v' ∧ BS w' v' [1, 1, 1, 97, 1, 49] ∧ Ext w w' := by
  have HR := Lib.hid h
  clear h
  obtain ⟨wa, hwa⟩ : ∃ x, x = w.alloc (.cells #[.int .i64 1, .int .u64 0, .int .u64 0, .int .u64 0, .pointer none, ptr g] TrT) := ⟨_, rfl⟩
  have hE : Ext w wa := by rw [hwa]; exact (Ext.refl _).alloc (Nat.le_refl _) _
  go_enter Tryz.func32, Tryz.ntmps32
  repeat' (first | go_at_call 51 | go_skip | go_guarded | go_step)
  change Calls _ _ _ (w.alloc (.cells #[.int .i64 1, .int .u64 0, .int .u64 0, .int .u64 0, .pointer none, ptr g] TrT)) _
  rw [← hwa]
  have HE := Lib.hid hE
  clear hwa hE
  refine (puttree1_c wa g (HR.out.ext HE.out)).mono ?_
  rintro e w2 ⟨v2, rfl, b2, f2⟩
  have H2 := Lib.hid (And.intro b2 (HE.out.trans f2))
  clear b2 f2
  go_simp
  repeat' (first | go_skip | go_guarded | go_step)
  go_ret
  exact ⟨v2, rfl, H2.out.1, H2.out.2⟩

set_option maxRecDepth 100000 in
set_option maxHeartbeats 1000000 in
theorem awakeC_c (w : World) : Calls Tryz.prog 6 #[] w fun e w' => e = .returned (.bool true) ∧ Ext w w' := by
  go_enter Tryz.func6, Tryz.ntmps6
  repeat' (first | go_at_call 31 | go_skip | go_guarded | go_step)
  change Calls _ _ _ (w.alloc (.cells #[str [97], str [49]] 70)) _
  have hE : Ext w (w.alloc (.cells #[str [97], str [49]] 70)) := (Ext.refl _).alloc (Nat.le_refl _) _
  have hP : PS (w.alloc (.cells #[str [97], str [49]] 70)) (.slice (some ⟨w.heap.size, 0, none⟩) 1 1) [P1] := ⟨_, _, rfl, rfl, Nat.le_refl _, by unfold maxLen; omega, Seg.new _ [_, _] _ (by simp)⟩
  have HT := tree1_c _ _ P1 0 0 0 hP (by decide) (by decide) (by decide)
  obtain ⟨wa, hwa⟩ : ∃ x, x = w.alloc (.cells #[str [97], str [49]] 70) := ⟨_, rfl⟩
  rw [← hwa] at HT hE ⊢
  have HE := Lib.hid hE
  clear hwa hE hP
  refine HT.mono ?_
  rintro e w2 ⟨g, rfl, rp, f2⟩
  have H2 := Lib.hid (And.intro rp (HE.out.trans f2))
  clear rp f2 HT
  go_simp
  repeat' (first | go_at_call 32 | go_skip | go_guarded | go_step)
  have hE3 : Ext w2 (w2.alloc (.cells #[.int .i64 1, .int .u64 0, .int .u64 0, .int .u64 0, .pointer none, .pointer (some ⟨g, 0, none⟩)] TrT)) := (Ext.refl _).alloc (Nat.le_refl _) _
  have HC := ctree1_c _ g (H2.out.1.ext hE3)
  have H3 := Lib.hid (H2.out.2.trans hE3)
  clear hE3
  refine HC.mono ?_
  rintro e w4 ⟨v4, rfl, b4, f4⟩
  have H4 := Lib.hid (And.intro b4 (H3.out.trans f4))
  clear b4 f4 HC
  go_simp
  repeat' (first | go_at_call 13 | go_skip | go_guarded | go_step)
  have hE5 : Ext w4 (w4.alloc (.cells #[.int .u8 1, .int .u8 1, .int .u8 1, .int .u8 97, .int .u8 1, .int .u8 49] 5)) := (Ext.refl _).alloc (Nat.le_refl _) _
  have hB5 : BS (w4.alloc (.cells #[.int .u8 1, .int .u8 1, .int .u8 1, .int .u8 97, .int .u8 1, .int .u8 49] 5)) (.slice (some ⟨w4.heap.size, 0, none⟩) 6 6) [1, 1, 1, 97, 1, 49] := ⟨_, _, rfl, rfl, Nat.le_refl _, by unfold maxLen; omega, Seg.new _ [_, _, _, _, _, _] _ (by simp)⟩
  refine (rsame_c _ _ _ _ _ (H4.out.1.below hE5) hB5).mono ?_
  rintro e w6 ⟨rfl, f6⟩
  have H6 := Lib.hid (H4.out.2.trans (hE5.trans f6))
  clear f6 hE5 hB5
  go_simp
  repeat' (first | go_skip | go_guarded | go_step)
  go_ret
  exact ⟨rfl, H6.out⟩
end Go.Proofs.YtigoffdehdobiaaGreat
/- CodeIns: both readers side by side, act by act. Under way. -/
namespace Go.Proofs.YtigoffdehdobiaaGreat
open Go.RowKit Go.QS
set_option linter.unusedVariables false

/-- An act: what, how many. -/
abbrev Ac9 : Type := UInt8 × Int
def encAc (a : Ac9) : List Value := [.int .u8 (a.1.toNat : Int), .int .i64 a.2]

/-- Both readers, at one state. -/
structure Two9 (g x : Nat) (w : World) (P l : List UInt8) (e : Nat) : Prop where
  inn : InAt (fun b => b < g) g w l e
  ref : RefAt (fun b => b < g) x w P l e
  lt : g < x

theorem Two9.in_turn {g x : Nat} {w w' : World} {P l l' : List UInt8} {e e' : Nat} (h : Two9 g x w P l e) (hI : InAt (fun b => b < g) g w' l' e') (k : One g w w') :
    InAt (fun b => b < g) g w' l' e' ∧ RefAt (fun b => b < g) x w' P l e := ⟨hI, h.ref.one k (by have := h.lt; omega) (fun b hb => by omega)⟩
theorem Two9.ref_turn {g x : Nat} {w w' : World} {P l l' l2 : List UInt8} {e e' e2 : Nat} (hlt : g < x) (hI : InAt (fun b => b < g) g w l2 e2) (hR : RefAt (fun b => b < g) x w' P l' e') (k : One x w w') (hl : l2 = l') (he : e2 = e') :
    Two9 g x w' P l' e' := by
  subst hl he
  exact ⟨hI.one k (by omega) (fun b hb => by have : b < g := hb; omega), hR, hlt⟩
theorem InAt.weaken {V V' : Nat → Prop} {g : Nat} {w : World} {l : List UInt8} {e : Nat} (h : InAt V g w l e) (hV : ∀ b, V b → V' b) : InAt V' g w l e := by
  obtain ⟨A, c, h1, h2, h3, h4, h5⟩ := h.ex
  exact ⟨A, c, h1, h2, h3, h4, fun a ha => ⟨(h5 a ha).1, hV _ (h5 a ha).2⟩⟩
theorem RefAt.new {w : World} {v : Value} {P : List UInt8} {base : Nat} {V : Nat → Prop} (h : w.ownsRow base 5 1 v P.length (encB P)) (hc : P.length ≤ maxLen) (hV : ∀ b, v.ownBlock = some b → V b) (W : World) (f : Ext w W) :
    RefAt V W.heap.size (W.alloc (.cells #[v, .int .i64 ((0 : Nat) : Int), .int .i64 ((0 : Nat) : Int)] RfT)) P P 0 := by
  have hB := (BS.of_own h).below (f.trans ((Ext.refl W).alloc (Nat.le_refl _) (.cells #[v, .int .i64 ((0 : Nat) : Int), .int .i64 ((0 : Nat) : Int)] RfT)))
  rcases h.2 with ⟨rfl, h0⟩ | ⟨g, cap, cur, rfl, hb, hg, hn, hcap, _, _⟩
  · have hl0 : P = [] := List.length_eq_zero_iff.1 h0
    subst hl0
    exact ⟨none, 0, 0, heap_alloc_new W _, Nat.le_refl _, Nat.zero_le _, Seg.nil _ _, (fun a ha => by cases ha), Nat.le_refl _, rfl⟩
  · have hlt := heap_lt hg
    refine ⟨some ⟨g, 0, none⟩, cap, 0, heap_alloc_new W _, hn, hcap, ?_, fun a ha => ?_, Nat.zero_le _, rfl⟩
    · obtain ⟨A, c, e1, e2, e3, e4, e5⟩ := hB
      cases e1
      exact e5
    · cases ha
      exact ⟨by have := f.size; show g ≠ _; omega, hV g rfl⟩
end Go.Proofs.YtigoffdehdobiaaGreat
/- Pieces of a function's code. No program. -/
namespace Go.QS.Nk
open Go
def lead : Code → Option Nat
  | .region id _ _ => some id
  | .seq a _ => lead a
  | _ => none
def findS (n : Nat) : Code → Option Code
  | .region id ops d => if id = n then some (.region id ops d) else none
  | .seq a b => if lead a = some n then some (.seq a b) else match findS n a with | some c => some c | none => findS n b
  | .cond _ a b => match findS n a with | some c => some c | none => findS n b
  | .block _ b => findS n b
  | .loop b => findS n b
  | .scope b => findS n b
  | _ => none
def findT (n : Nat) : Code → Option Code
  | .seq a b => match a with
    | .region id _ _ => if id = n then some b else findT n b
    | _ => match findT n a with | some c => some c | none => findT n b
  | .cond _ a b => match findT n a with | some c => some c | none => findT n b
  | .block _ b => findT n b
  | .loop b => findT n b
  | .scope b => findT n b
  | _ => none
def findR (n : Nat) : Code → Option Code
  | .region id ops d => if id = n then some (.region id ops d) else none
  | .seq a b => match findR n a with | some c => some c | none => findR n b
  | .cond _ a b => match findR n a with | some c => some c | none => findR n b
  | .block _ b => findR n b
  | .loop b => findR n b
  | .scope b => findR n b
  | _ => none

end Go.QS.Nk
