/- Texts joined. -/
import Derived.Test.YtigoffdehdobiaaGreatM03
import Derived.Test.YtigoffdehdobiaaGreatM23
import Derived.Test.YtigoffdehdobiaaGreatM26
import Derived.Deep.RegionHeld3
set_option linter.unusedVariables false
set_option linter.unusedSimpArgs false
/- Changes as bytes: plain. What is written is read again, and what is read is written again. -/
namespace Go.Proofs.YtigoffdehdobiaaGreat
open Go.RowKit Go.QS
set_option linter.unusedVariables false

/-- A change: its key, what was, what is, was it, is it. -/
abbrev Ch : Type := List UInt8 × List UInt8 × List UInt8 × Bool × Bool
def encCh (c : Ch) : List Value := [str c.1, str c.2.1, str c.2.2.1, .bool c.2.2.2.1, .bool c.2.2.2.2]
theorem encCh_len (c : Ch) : (encCh c).length = 5 := rfl

def tellsN (a b : Bool) : Nat := (if a then 1 else 0) + (if b then 2 else 0)
def putCh (c : Ch) : List UInt8 :=
  putText c.1 ++ UInt8.ofNat (tellsN c.2.2.2.1 c.2.2.2.2) :: ((if c.2.2.2.1 then putText c.2.1 else []) ++ (if c.2.2.2.2 then putText c.2.2.1 else []))
def putChs (l : List Ch) : List UInt8 := putNum l.length ++ l.flatMap putCh

/-- A change that may not be. -/
def badCh (c : Ch) : Bool := (!c.2.2.2.1 && !c.2.2.2.2) || (c.2.2.2.1 && c.2.2.2.2 && decide (c.2.1 = c.2.2.1)) || (!c.2.2.2.1 && !decide (c.2.1 = [])) || (!c.2.2.2.2 && !decide (c.2.2.1 = []))
def riseCh : List Ch → Bool
  | c :: d :: l => decide (c.1 < d.1) && riseCh (d :: l)
  | _ => true
def errCh (c : Ch) : Nat := if 256 < c.1.length then 2 else if 4096 < c.2.1.length ∨ 4096 < c.2.2.1.length then 3 else 0
def firstE : List Ch → Nat
  | [] => 0
  | c :: l => if errCh c = 0 then firstE l else errCh c
def rightL (l : List Ch) : Nat := if riseCh l = true then (if l.any badCh = true then 1 else firstE l) else 13

theorem riseCh_iff : ∀ l : List Ch, riseCh l = true ↔ ∀ i c d, l[i]? = some c → l[i + 1]? = some d → c.1 < d.1
  | [] => by simp [riseCh]
  | [c] => by
    simp only [riseCh, true_iff]
    intro i c d h1 h2
    simp at h2
  | c :: d :: l => by
    simp only [riseCh, Bool.and_eq_true, decide_eq_true_eq, riseCh_iff (d :: l)]
    constructor
    · rintro ⟨h1, h2⟩ i x y hx hy
      cases i with
      | zero => simp at hx hy; subst hx hy; exact h1
      | succ i => exact h2 i x y (by simpa using hx) (by simpa using hy)
    · intro h
      exact ⟨h 0 c d rfl rfl, fun i x y hx hy => h (i + 1) x y (by simpa using hx) (by simpa using hy)⟩
theorem firstE_zero : ∀ l : List Ch, firstE l = 0 → ∀ c ∈ l, errCh c = 0
  | [], _ => by simp
  | c :: l, h => by
    simp only [firstE] at h
    split at h
    · rename_i h1
      intro d hd
      rcases List.mem_cons.1 hd with rfl | hd
      · exact h1
      · exact firstE_zero l h d hd
    · rename_i h1; exact absurd h h1
theorem firstE_take {l : List Ch} {i : Nat} {c : Ch} (h : l[i]? = some c) : firstE (l.drop i) = if errCh c = 0 then firstE (l.drop (i + 1)) else errCh c := by
  rw [List.drop_eq_getElem?_toList_append, h]; rfl
theorem rightL_zero {l : List Ch} (h : rightL l = 0) : (∀ c ∈ l, badCh c = false ∧ errCh c = 0) ∧ riseCh l = true := by
  unfold rightL at h
  split at h
  · rename_i h1
    split at h
    · cases h
    · rename_i h2
      refine ⟨fun c hc => ⟨?_, firstE_zero l h c hc⟩, h1⟩
      cases hb : badCh c with
      | false => rfl
      | true => exact absurd (List.any_eq_true.2 ⟨c, hc, hb⟩) h2
  · cases h

/-! ### Reading -/
/-- The next change, as the program reads it; as the document does. -/
def rdX (is : Nat → Bool) (s : St2) : Ch × St2 :=
  let k := sText 256 2 s
  let b := sByte k.2
  let s3 := if b.1 = 0 ∨ 3 < b.1 then sFail 9 b.2 else b.2
  let o := if b.1 % 2 = 1 then sText 4096 3 s3 else ([], s3)
  let n := if is b.1 = true then sText 4096 3 o.2 else ([], o.2)
  ((k.1, o.1, n.1, decide (b.1 % 2 = 1), is b.1), n.2)
def isP (b : Nat) : Bool := decide (b / 2 % 2 = 1)
def isD (b : Nat) : Bool := decide (1 < b)
abbrev rdCh := rdX isP
abbrev rdChD := rdX isD

theorem sText_err {most : Int} {long : Nat} {s : St2} (h : s.2 ≠ 0) : sText most long s = ([], s) := by unfold sText; rw [if_neg h]
theorem sTake_err {n : Nat} {s : St2} (h : s.2 ≠ 0) : sTake n s = ([], s) := by unfold sTake; rw [if_neg h]
theorem sByte_err {s : St2} (h : s.2 ≠ 0) : sByte s = (0, s) := by unfold sByte; rw [sTake_err h]
theorem sFail_ne {k : Nat} {s : St2} (hk : k ≠ 0) : (sFail k s).2 ≠ 0 := by
  unfold sFail
  split
  · exact hk
  · assumption

theorem isPD {b : Nat} (h : ¬ 3 < b) : isD b = isP b := by
  have : b = 0 ∨ b = 1 ∨ b = 2 ∨ b = 3 := by omega
  rcases this with rfl | rfl | rfl | rfl <;> rfl
theorem rd_same (s : St2) : (rdChD s).2 = (rdCh s).2 ∧ ((rdCh s).2.2 = 0 → (rdChD s).1 = (rdCh s).1) := by
  by_cases hb : 3 < (sByte (sText 256 2 s).2).1
  · obtain ⟨s3, hs3⟩ : ∃ s3, s3 = sFail 9 (sByte (sText 256 2 s).2).2 := ⟨_, rfl⟩
    have h9 : s3.2 ≠ 0 := by rw [hs3]; exact sFail_ne (by decide)
    have e : ∀ is : Nat → Bool, (rdX is s).2 = s3 := by
      intro is
      simp only [rdX]
      have e0 : (if (sByte (sText 256 2 s).2).1 = 0 ∨ 3 < (sByte (sText 256 2 s).2).1 then sFail 9 (sByte (sText 256 2 s).2).2 else (sByte (sText 256 2 s).2).2) = s3 := by rw [if_pos (Or.inr hb), hs3]
      rw [e0]
      have e1 : (if (sByte (sText 256 2 s).2).1 % 2 = 1 then sText 4096 3 s3 else ([], s3)) = ([], s3) := by
        split
        · exact sText_err h9
        · rfl
      rw [e1]
      split
      · rw [sText_err h9]
      · rfl
    refine ⟨by rw [e, e], fun h => absurd h ?_⟩
    rw [e]; exact h9
  · have e : isD (sByte (sText 256 2 s).2).1 = isP (sByte (sText 256 2 s).2).1 := isPD hb
    have e2 : rdChD s = rdCh s := by simp only [rdX, e]
    rw [e2]
    exact ⟨rfl, fun _ => rfl⟩

/-! ### What is written is read -/
theorem sText_put (t r : List UInt8) (most : Int) (long : Nat) (hm : (t.length : Int) ≤ most) (ht : t.length < 18446744073709551616) : sText most long (putText t ++ r, 0) = (t, (r, 0)) := by
  have h := (numA_iff (l := putText t ++ r) (v := t.length) (r := t ++ r)).2 ⟨by rw [putText, List.append_assoc], ht⟩
  unfold sText
  rw [if_pos rfl, h]
  simp only
  rw [if_neg (by omega), if_neg (by simp), List.take_left, List.drop_left]
theorem sByte_cons (b : UInt8) (r : List UInt8) : sByte (b :: r, 0) = (b.toNat, (r, 0)) := by
  unfold sByte sTake
  simp
theorem rdCh_put (c : Ch) (r : List UInt8) (hb : badCh c = false) (he : errCh c = 0) : rdCh (putCh c ++ r, 0) = (c, (r, 0)) := by
  obtain ⟨k, o, n, a, b⟩ := c
  have hk : k.length ≤ 256 ∧ o.length ≤ 4096 ∧ n.length ≤ 4096 := by
    unfold errCh at he
    split at he
    · cases he
    · split at he
      · cases he
      · simp only at *; omega
  obtain ⟨h1, h2, h3⟩ := hk
  simp only [rdX, putCh]
  rw [List.append_assoc, sText_put _ _ _ _ (by omega) (by omega)]
  simp only
  rw [List.cons_append, sByte_cons]
  cases a <;> cases b
  · simp [badCh] at hb
  · simp [badCh] at hb
    subst hb
    have e : (UInt8.ofNat (tellsN false true)).toNat = 2 := rfl
    rw [e]
    simp [isP, sText_put _ _ _ _ (show (n.length : Int) ≤ 4096 by omega) (show n.length < 18446744073709551616 by omega)]
  · simp [badCh] at hb
    subst hb
    have e : (UInt8.ofNat (tellsN true false)).toNat = 1 := rfl
    rw [e]
    simp [isP, sText_put _ _ _ _ (show (o.length : Int) ≤ 4096 by omega) (show o.length < 18446744073709551616 by omega)]
  · have e : (UInt8.ofNat (tellsN true true)).toNat = 3 := rfl
    rw [e]
    simp [isP, sText_put _ _ _ _ (show (n.length : Int) ≤ 4096 by omega) (show n.length < 18446744073709551616 by omega), sText_put _ _ _ _ (show (o.length : Int) ≤ 4096 by omega) (show o.length < 18446744073709551616 by omega)]

/-! ### What is read is written -/
theorem sText_get {most : Int} {long : Nat} {s : St2} (hl : long ≠ 0) (h : (sText most long s).2.2 = 0) : s.2 = 0 ∧ s.1 = putText (sText most long s).1 ++ (sText most long s).2.1 := by
  by_cases h0 : s.2 = 0
  · refine ⟨h0, ?_⟩
    unfold sText at h ⊢
    rw [if_pos h0] at h ⊢
    cases hn : numA 0 0 s.1 with
    | none => rw [hn] at h; simp at h
    | some nr =>
      obtain ⟨n, r⟩ := nr
      rw [hn] at h
      simp only at h ⊢
      split at h
      · exact absurd h hl
      · rename_i g1
        rw [if_neg g1]
        split at h
        · simp at h
        · rename_i g2
          rw [if_neg g2]
          have := (numA_iff.1 hn).1
          simp only
          rw [this, putText, List.length_take, Nat.min_eq_left (by omega), List.append_assoc, List.take_append_drop]
  · rw [sText_err h0] at h; exact absurd h h0
theorem sByte_get {s : St2} (h : (sByte s).2.2 = 0) : s.2 = 0 ∧ ∃ b : UInt8, s.1 = b :: (sByte s).2.1 ∧ (sByte s).1 = b.toNat := by
  by_cases h0 : s.2 = 0
  · refine ⟨h0, ?_⟩
    unfold sByte sTake at h ⊢
    rw [if_pos h0] at h ⊢
    cases hs : s.1 with
    | nil => rw [hs] at h; simp at h
    | cons b r => exact ⟨b, by simp, by simp⟩
  · rw [sByte_err h0] at h; exact absurd h h0
theorem sFail_get {k : Nat} {s : St2} (hk : k ≠ 0) : (sFail k s).2 ≠ 0 := sFail_ne hk
theorem rdCh_get {s : St2} (h : (rdCh s).2.2 = 0) : s.2 = 0 ∧ s.1 = putCh (rdCh s).1 ++ (rdCh s).2.1 := by
  obtain ⟨kk, hk⟩ : ∃ kk, kk = sText 256 2 s := ⟨_, rfl⟩
  obtain ⟨bb, hbb⟩ : ∃ bb, bb = sByte kk.2 := ⟨_, rfl⟩
  simp only [rdX] at h ⊢
  rw [← hk, ← hbb] at h ⊢
  have key : ∀ (s3 : St2) (W I : Bool), (if I = true then sText 4096 3 (if W = true then sText 4096 3 s3 else (([] : List UInt8), s3)).2 else (([] : List UInt8), (if W = true then sText 4096 3 s3 else (([] : List UInt8), s3)).2)).2.2 = 0 →
      s3.2 = 0 ∧ s3.1 = (if W = true then putText (if W = true then sText 4096 3 s3 else (([] : List UInt8), s3)).1 else []) ++ ((if I = true then putText (if I = true then sText 4096 3 (if W = true then sText 4096 3 s3 else (([] : List UInt8), s3)).2 else (([] : List UInt8), (if W = true then sText 4096 3 s3 else (([] : List UInt8), s3)).2)).1 else []) ++
        (if I = true then sText 4096 3 (if W = true then sText 4096 3 s3 else (([] : List UInt8), s3)).2 else (([] : List UInt8), (if W = true then sText 4096 3 s3 else (([] : List UInt8), s3)).2)).2.1) := by
    intro s3 W I h
    cases I with
    | false =>
      cases W with
      | false => simp at h ⊢; exact h
      | true =>
        simp at h ⊢
        exact sText_get (by decide) h
    | true =>
      cases W with
      | false =>
        simp at h ⊢
        exact sText_get (by decide) h
      | true =>
        simp at h ⊢
        obtain ⟨e1, e2⟩ := sText_get (by decide) h
        obtain ⟨e3, e4⟩ := sText_get (by decide) e1
        refine ⟨e3, ?_⟩
        rw [← e2]; exact e4
  have hd : decide (bb.1 % 2 = 1) = true ↔ bb.1 % 2 = 1 := by simp
  by_cases hb : bb.1 = 0 ∨ 3 < bb.1
  · exfalso
    rw [if_pos hb] at h
    have h9 := sFail_ne (k := 9) (s := bb.2) (by decide)
    have hk := key (sFail 9 bb.2) (decide (bb.1 % 2 = 1)) (isP bb.1)
    simp only [hd] at hk
    exact h9 (hk h).1
  · rw [if_neg hb] at h ⊢
    have hk3 := key bb.2 (decide (bb.1 % 2 = 1)) (isP bb.1)
    simp only [hd] at hk3
    obtain ⟨e1, e2⟩ := hk3 h
    have e3 : bb.2.2 = 0 := e1
    rw [hbb] at e3
    obtain ⟨e4, b, e5, e6⟩ := sByte_get e3
    rw [← hbb] at e5 e6
    rw [hk] at e4
    obtain ⟨e7, e8⟩ := sText_get (by decide) e4
    rw [← hk] at e8
    refine ⟨e7, ?_⟩
    have hte : b = UInt8.ofNat (tellsN (decide (bb.1 % 2 = 1)) (isP bb.1)) := by
      have hb2 := b.toNat_lt
      rw [← UInt8.toNat_inj, ← e6]
      have : bb.1 = 1 ∨ bb.1 = 2 ∨ bb.1 = 3 := by omega
      rcases this with h | h | h <;> rw [h] <;> rfl
    simp only [putCh]
    rw [e8, e5, ← hte, List.append_assoc, List.cons_append, List.append_assoc]
    simp only [hd]
    rw [← e2]

/-! ### All of them -/
def rdLX (is : Nat → Bool) : Nat → Nat → St2 → List Ch → List Ch × St2
  | 0, _, s, acc => (acc, s)
  | f + 1, n, s, acc => if n = 0 ∨ s.2 ≠ 0 then (acc, s) else rdLX is f (n - 1) (rdX is s).2 (acc ++ [(rdX is s).1])
theorem rdL_stop {is : Nat → Bool} {f n : Nat} {s : St2} {acc : List Ch} (h : n = 0 ∨ s.2 ≠ 0) : rdLX is f n s acc = (acc, s) := by
  cases f with
  | zero => rfl
  | succ f => simp only [rdLX]; rw [if_pos h]
theorem rdL_step {is : Nat → Bool} {f n : Nat} {s : St2} {acc : List Ch} (h : ¬ (n = 0 ∨ s.2 ≠ 0)) : rdLX is (f + 1) n s acc = rdLX is f (n - 1) (rdX is s).2 (acc ++ [(rdX is s).1]) := by
  simp only [rdLX]; rw [if_neg h]
theorem rdL_same : ∀ (f n : Nat) (s : St2) (acc acd : List Ch), (s.2 = 0 → acc = acd) →
    (rdLX isD f n s acd).2 = (rdLX isP f n s acc).2 ∧ ((rdLX isP f n s acc).2.2 = 0 → (rdLX isD f n s acd).1 = (rdLX isP f n s acc).1)
  | 0, n, s, acc, acd, h => ⟨rfl, fun h0 => (h h0).symm⟩
  | f + 1, n, s, acc, acd, h => by
    by_cases hs : n = 0 ∨ s.2 ≠ 0
    · rw [rdL_stop hs, rdL_stop hs]
      exact ⟨rfl, fun h0 => (h h0).symm⟩
    · rw [rdL_step hs, rdL_step hs]
      have h0 : s.2 = 0 := by
        by_cases h0 : s.2 = 0
        · exact h0
        · exact absurd (.inr h0) hs
      obtain ⟨e1, e2⟩ := rd_same s
      show (rdLX isD f (n - 1) (rdChD s).2 (acd ++ [(rdChD s).1])).2 = (rdLX isP f (n - 1) (rdCh s).2 (acc ++ [(rdCh s).1])).2 ∧ _
      rw [e1]
      exact rdL_same f (n - 1) (rdCh s).2 _ _ (fun hz => by rw [h h0, e2 hz])
/-- One change less of bytes, or an error. -/
theorem rdX_less {s : St2} (h0 : (rdCh s).2.2 = 0) : (rdCh s).2.1.length < s.1.length := by
  have h := (rdCh_get h0).2
  have h2 := congrArg List.length h
  rw [List.length_append] at h2
  have : 0 < (putCh (rdCh s).1).length := by simp only [putCh, List.length_append, List.length_cons]; omega
  omega
theorem rdX_less' {is : Nat → Bool} (hi : is = isP ∨ is = isD) {s : St2} (h0 : (rdX is s).2.2 = 0) : (rdX is s).2.1.length < s.1.length := by
  rcases hi with rfl | rfl
  · exact rdX_less h0
  · have e := (rd_same s).1
    have e' : (rdX isD s).2 = (rdX isP s).2 := e
    rw [e'] at h0 ⊢
    exact rdX_less h0
theorem rdL_put : ∀ (m : List Ch) (f : Nat) (r : List UInt8) (acc : List Ch), (∀ c ∈ m, badCh c = false ∧ errCh c = 0) → (m.flatMap putCh ++ r).length < f →
    rdLX isP f m.length (m.flatMap putCh ++ r, 0) acc = (acc ++ m, (r, 0))
  | [], f, r, acc, _, _ => by
    have e : rdLX isP f ([] : List Ch).length (([] : List Ch).flatMap putCh ++ r, 0) acc = (acc, (([] : List Ch).flatMap putCh ++ r, 0)) := rdL_stop (Or.inl rfl)
    rw [e]; simp
  | c :: m, 0, r, acc, _, hf => by omega
  | c :: m, f + 1, r, acc, hm, hf => by
    have h1 := hm c (List.mem_cons_self ..)
    have e : (c :: m).flatMap putCh ++ r = putCh c ++ (m.flatMap putCh ++ r) := by rw [List.flatMap_cons, List.append_assoc]
    rw [e] at hf ⊢
    rw [rdL_step (by rintro (h | h); · simp at h
                     · exact h rfl)]
    have e2 := rdCh_put c (m.flatMap putCh ++ r) h1.1 h1.2
    rw [show rdX isP (putCh c ++ (m.flatMap putCh ++ r), 0) = (c, (m.flatMap putCh ++ r, 0)) from e2]
    have hl : 0 < (putCh c).length := by simp only [putCh, List.length_append, List.length_cons]; omega
    rw [List.length_append] at hf
    have := rdL_put m f r (acc ++ [c]) (fun d hd => hm d (List.mem_cons_of_mem _ hd)) (by omega)
    rw [show (c :: m).length - 1 = m.length by simp, this, List.append_assoc]
    rfl
theorem rdL_get : ∀ (f n : Nat) (s : St2) (acc : List Ch), s.1.length < f → (rdLX isP f n s acc).2.2 = 0 →
    s.2 = 0 ∧ ∃ m : List Ch, (rdLX isP f n s acc).1 = acc ++ m ∧ m.length = n ∧ s.1 = m.flatMap putCh ++ (rdLX isP f n s acc).2.1
  | 0, n, s, acc, hf, h => by omega
  | f + 1, n, s, acc, hf, h => by
    by_cases hs : n = 0 ∨ s.2 ≠ 0
    · rw [rdL_stop hs] at h ⊢
      have h : s.2 = 0 := h
      rcases hs with rfl | hs
      · exact ⟨h, [], by simp, rfl, by simp⟩
      · exact absurd h hs
    · rw [rdL_step hs] at h ⊢
      have h0 : s.2 = 0 := by
        by_cases h0 : s.2 = 0
        · exact h0
        · exact absurd (.inr h0) hs
      have hn : n ≠ 0 := fun e => hs (.inl e)
      refine ⟨h0, ?_⟩
      by_cases hz : (rdX isP s).2.2 = 0
      · have hl := rdX_less hz
        obtain ⟨_, m, e1, e2, e3⟩ := rdL_get f (n - 1) (rdX isP s).2 _ (by have : (rdX isP s).2.1.length < s.1.length := hl; omega) h
        refine ⟨(rdX isP s).1 :: m, by rw [e1, List.append_assoc]; rfl, by simp; omega, ?_⟩
        rw [List.flatMap_cons, List.append_assoc, ← e3]
        exact (rdCh_get hz).2
      · rw [rdL_stop (.inr hz)] at h
        exact absurd h hz

def readX (is : Nat → Bool) (P : List UInt8) : List Ch × Nat :=
  let r := rdLX is (P.length + 1) (sNum (P, 0)).1 (sNum (P, 0)).2 []
  if (sEnd r.2).2 = 0 then (if rightL r.1 = 0 then (r.1, 0) else ([], rightL r.1)) else ([], (sEnd r.2).2)
abbrev readP := readX isP
theorem readX_same (P : List UInt8) : readX isD P = readP P := by
  obtain ⟨e1, e2⟩ := rdL_same (P.length + 1) (sNum (P, 0)).1 (sNum (P, 0)).2 [] [] (fun _ => rfl)
  simp only [readX]
  rw [e1]
  split
  · rename_i h
    have h0 : (rdLX isP (P.length + 1) (sNum (P, 0)).1 (sNum (P, 0)).2 []).2.2 = 0 := by
      unfold sEnd at h
      split at h
      · exact h
      · exact absurd h (sFail_ne (by decide))
    rw [e2 h0]
  · rfl
theorem sEnd_zero {s : St2} (h : (sEnd s).2 = 0) : s = ([], 0) := by
  unfold sEnd at h
  split at h
  · rename_i h1
    obtain ⟨a, b⟩ := s
    simp only at h h1
    rw [h, h1]
  · exact absurd h (sFail_ne (by decide))
theorem sNum_put (n : Nat) (r : List UInt8) (hn : n < 18446744073709551616) : sNum (putNum n ++ r, 0) = (n, (r, 0)) := by
  unfold sNum
  rw [if_pos rfl, (numA_iff (l := putNum n ++ r)).2 ⟨rfl, hn⟩]
theorem sNum_get {s : St2} (h : (sNum s).2.2 = 0) : s.2 = 0 ∧ s.1 = putNum (sNum s).1 ++ (sNum s).2.1 := by
  unfold sNum at h ⊢
  split at h
  · rename_i h0
    rw [if_pos h0]
    refine ⟨h0, ?_⟩
    cases hn : numA 0 0 s.1 with
    | none => rw [hn] at h; simp at h
    | some nr =>
      obtain ⟨n, r⟩ := nr
      exact (numA_iff.1 hn).1
  · rename_i h0; exact absurd h h0
theorem read_put (l : List Ch) (h : rightL l = 0) (hl : l.length < 18446744073709551616) : readP (putChs l) = (l, 0) := by
  have h1 := (rightL_zero h).1
  simp only [readX, putChs]
  rw [sNum_put _ _ hl]
  have := rdL_put l ((putNum l.length ++ l.flatMap putCh).length + 1) [] [] h1 (by simp only [List.length_append, List.append_nil]; omega)
  rw [List.append_nil] at this
  rw [this]
  simp [sEnd, h]
theorem put_read {P : List UInt8} {l : List Ch} (h : readP P = (l, 0)) : rightL l = 0 ∧ putChs l = P := by
  simp only [readX] at h
  split at h
  · rename_i hE
    split at h
    · rename_i hR
      have hz := sEnd_zero hE
      obtain ⟨R, hRR⟩ : ∃ R, R = rdLX isP (P.length + 1) (sNum (P, 0)).1 (sNum (P, 0)).2 [] := ⟨_, rfl⟩
      have h1 : (sNum (P, 0)).2.1.length < P.length + 1 := by
        unfold sNum
        rw [if_pos rfl]
        cases hn : numA 0 0 P with
        | none => simp
        | some nr =>
          obtain ⟨n, r⟩ := nr
          have := congrArg List.length (numA_iff.1 hn).1
          rw [List.length_append] at this
          show r.length < P.length + 1
          omega
      obtain ⟨e0, m, e1, e2, e3⟩ := rdL_get (P.length + 1) (sNum (P, 0)).1 (sNum (P, 0)).2 [] h1 (by rw [hz])
      have hl : l = m := by
        have := (Prod.mk.inj h).1
        rw [← this, e1]; rfl
      subst hl
      rw [e1] at hR
      refine ⟨hR, ?_⟩
      rw [hz, List.append_nil] at e3
      have := (sNum_get e0).2
      simp only at this
      rw [putChs, e2, ← e3]
      exact this.symm
    · rename_i hR
      have := (Prod.mk.inj h).2
      exact absurd this hR
  · rename_i hE
    have := (Prod.mk.inj h).2
    exact absurd this hE
theorem readP_err {P : List UInt8} (h : (readP P).2 ≠ 0) : (readP P).1 = [] := by
  simp only [readX] at h ⊢
  split
  · rename_i hE
    rw [if_pos hE] at h
    split
    · rename_i hR
      rw [if_pos hR] at h
      exact absurd rfl h
    · rfl
  · rfl
end Go.Proofs.YtigoffdehdobiaaGreat
/- Contracts: may a list of changes be: diff.Right. -/
namespace Go.Proofs.YtigoffdehdobiaaGreat
open Go.RowKit Go.QS
set_option linter.unusedVariables false

theorem dbs (a b : List UInt8) : decide (bs a = bs b) = decide (a = b) := by
  by_cases h : a = b
  · subst h; simp
  · have : bs a ≠ bs b := fun e => h (bs_inj e)
    simp [h, this]
theorem seg_ch {w : World} {A : Option Addr} {l : List Ch} (hs : Seg w A (flatE encCh l)) {i : Nat} {c : Ch} (h : l[i]? = some c) :
    ∃ b o, A = some ⟨b, o, none⟩ ∧ w.cell? ⟨b, o + i * 5, none⟩ = some (str c.1) ∧ w.cell? ⟨b, o + i * 5 + 1, none⟩ = some (str c.2.1) ∧ w.cell? ⟨b, o + i * 5 + 2, none⟩ = some (str c.2.2.1) ∧ w.cell? ⟨b, o + i * 5 + 3, none⟩ = some (.bool c.2.2.2.1) ∧ w.cell? ⟨b, o + i * 5 + 4, none⟩ = some (.bool c.2.2.2.2) := by
  obtain ⟨b, o, hA, hq⟩ := seg_el encCh_len (by decide) hs h
  refine ⟨b, o, hA, hq 0 _ rfl, ?_, ?_, ?_, ?_⟩
  · rw [Nat.add_assoc]; exact hq 1 _ rfl
  · rw [Nat.add_assoc]; exact hq 2 _ rfl
  · rw [Nat.add_assoc]; exact hq 3 _ rfl
  · rw [Nat.add_assoc]; exact hq 4 _ rfl
theorem box5C {w : World} {g : Nat} {a b c d e : Value} {t : TypeId} {f : Nat × Nat} (h : w.heap[g]? = some (.cells #[a, b, c, d, e] t f)) :
    w.cell? ⟨g, 0, none⟩ = some a ∧ w.cell? ⟨g, 1, none⟩ = some b ∧ w.cell? ⟨g, 2, none⟩ = some c ∧ w.cell? ⟨g, 3, none⟩ = some d ∧ w.cell? ⟨g, 4, none⟩ = some e :=
  ⟨by rw [cellG h]; rfl, by rw [cellG h]; rfl, by rw [cellG h]; rfl, by rw [cellG h]; rfl, by rw [cellG h]; rfl⟩
abbrev ChT : TypeId := 74
abbrev RcT : TypeId := 82
abbrev chV (c : Ch) : Value := .agg #[str c.1, str c.2.1, str c.2.2.1, .bool c.2.2.2.1, .bool c.2.2.2.2]

set_option maxRecDepth 100000 in
theorem chright_c (w : World) (c : Ch) : Calls Tryz.prog 54 #[chV c] w fun e w' => e = .returned (.bool (!badCh c)) ∧ Ext w w' := by
  obtain ⟨k, o, n, a, b⟩ := c
  cases a <;> cases b
  · simp only [badCh]
    go_enter Tryz.func54, Tryz.ntmps54
    repeat' (first | go_skip | go_guarded | go_step)
    go_ret
    exact ⟨rfl, (Ext.refl w).alloc (Nat.le_refl _) _⟩
  · have e : badCh (k, o, n, false, true) = !o.isEmpty := by cases o <;> simp [badCh]
    rw [e]
    clear e
    cases h : o.isEmpty with
    | false =>
      go_enter Tryz.func54, Tryz.ntmps54
      repeat' (first | go_skip | go_guarded | go_step)
      go_ret
      exact ⟨rfl, (Ext.refl w).alloc (Nat.le_refl _) _⟩
    | true =>
      go_enter Tryz.func54, Tryz.ntmps54
      repeat' (first | go_skip | go_guarded | go_step)
      go_ret
      exact ⟨rfl, (Ext.refl w).alloc (Nat.le_refl _) _⟩
  · have e : badCh (k, o, n, true, false) = !n.isEmpty := by cases n <;> simp [badCh]
    rw [e]
    clear e
    cases h : n.isEmpty with
    | false =>
      go_enter Tryz.func54, Tryz.ntmps54
      repeat' (first | go_skip | go_guarded | go_step)
      go_ret
      exact ⟨rfl, (Ext.refl w).alloc (Nat.le_refl _) _⟩
    | true =>
      go_enter Tryz.func54, Tryz.ntmps54
      repeat' (first | go_skip | go_guarded | go_step)
      go_ret
      exact ⟨rfl, (Ext.refl w).alloc (Nat.le_refl _) _⟩
  · have e : badCh (k, o, n, true, true) = (o == n) := by by_cases h : o = n <;> simp [badCh, h]
    rw [e]
    clear e
    cases h : (o == n) with
    | false =>
      go_enter Tryz.func54, Tryz.ntmps54
      repeat' (first | go_skip | go_guarded | go_step)
      go_ret
      exact ⟨rfl, (Ext.refl w).alloc (Nat.le_refl _) _⟩
    | true =>
      go_enter Tryz.func54, Tryz.ntmps54
      repeat' (first | go_skip | go_guarded | go_step)
      go_ret
      exact ⟨rfl, (Ext.refl w).alloc (Nat.le_refl _) _⟩

set_option maxRecDepth 100000 in
theorem chbad_c (w : World) (c : Ch) : Calls Tryz.prog 53 #[chV c] w fun e w' => e = .returned (.bool (badCh c)) ∧ Ext w w' := by
  have HR := Lib.hid (fun W => chright_c W c)
  obtain ⟨t, ht⟩ : ∃ t, t = badCh c := ⟨_, rfl⟩
  rw [← ht] at HR ⊢
  obtain ⟨k, o, n, a, b⟩ := c
  clear ht
  go_enter Tryz.func53, Tryz.ntmps53
  repeat' (first | go_at_call 54 | go_skip | go_guarded | go_step)
  refine (HR.out _).mono ?_
  rintro e w1 ⟨rfl, f1⟩
  have HE : Hid (Ext w w1) := Lib.hid (Ext.trans ((Ext.refl w).alloc (Nat.le_refl _) _) f1)
  clear f1
  cases t
  all_goals
    go_simp
    repeat' (first | go_skip | go_guarded | go_step)
    go_ret
    exact ⟨rfl, HE.out⟩

abbrev fnC : Value := .func (.func 53) #[] #[]
set_option maxRecDepth 100000 in
theorem chidx_c (w : World) (v : Value) (l : List Ch) (h : Sl w 5 v l.length (flatE encCh l)) :
    Calls Tryz.prog 69 #[v, fnC] w fun e w' => ∃ r : Int, e = .returned (.int .i64 r) ∧ decide (0 ≤ r) = l.any badCh ∧ Ext w w' := by
  obtain ⟨A, C, rfl, _, hn, hC, hs⟩ := h
  obtain ⟨m, hm⟩ : ∃ m, m = l.length := ⟨_, rfl⟩
  rw [← hm] at hn ⊢
  have hm9 : m ≤ 9223372036854775807 := by unfold maxLen at hC; omega
  have HN : Hid (m = l.length ∧ Seg w A (flatE encCh l)) := Lib.hid ⟨hm, hs⟩
  clear hm hs
  go_enter Tryz.func69, Tryz.ntmps69
  repeat' (go_not_at_region 2; (first | go_skip | go_guarded | go_step))
  go_loopg [5, 8] m (fun gk v5 v8 wr => ∃ j : Nat, v8 = .int .i64 j ∧ j ≤ m ∧ m - j ≤ gk ∧ Ext w wr ∧ Hid ((l.take j).any badCh = false))
  case atStart => exact ⟨0, rfl, Nat.zero_le _, Nat.le_refl _, Ext.refl _, Lib.hid rfl⟩
  case round =>
    obtain ⟨j, rfl, hjm, hgk, hE, HI⟩ := hrel
    rcases Nat.lt_or_ge j m with hlt | hge
    · have d1 : decide (j < m) = true := by simp [hlt]
      obtain ⟨c, hc⟩ := get_of_lt l (show j < l.length by have := HN.out.1; omega)
      obtain ⟨b, o, rfl, q0, q1, q2, q3, q4⟩ := seg_ch (Seg.below HN.out.2 hE) hc
      have hi1 : (j : Int) < (m : Int) := by omega
      have HC := Lib.hid (chbad_c wr c)
      have HK : Hid ((l.take (j + 1)).any badCh = badCh c) := Lib.hid (by rw [take_snoc hc, List.any_append, HI.out]; simp)
      have HM : Hid (c ∈ l) := Lib.hid (List.mem_of_getElem? hc)
      obtain ⟨t, ht⟩ : ∃ t, t = badCh c := ⟨_, rfl⟩
      rw [← ht] at HC HK
      have HT := Lib.hid ht
      clear hc ht
      repeat' (first | go_skip | go_guarded | go_step)
      refine HC.out.mono ?_
      rintro e w1 ⟨rfl, f1⟩
      have HE1 : Hid (Ext w w1) := Lib.hid (hE.trans f1)
      clear f1
      cases t with
      | true =>
        have HA : Hid (l.any badCh = true) := Lib.hid (List.any_eq_true.2 ⟨c, HM.out, HT.out.symm⟩)
        go_simp
        repeat' (first | go_skip | go_guarded | go_step)
        go_ret
        exact ⟨j, rfl, by rw [HA.out]; simp, HE1.out⟩
      | false =>
        go_simp
        repeat' (first | go_skip | go_guarded | go_step)
        go_roundg (m - (j + 1))
        case measure => omega
        case rel => exact ⟨j + 1, by go_num, by omega, Nat.le_refl _, HE1.out, HK⟩
    · obtain rfl : j = m := by omega
      have d1 : decide (j < j) = false := by simp
      repeat' (first | go_skip | go_guarded | go_step)
      go_ret
      have := HI.out
      rw [List.take_of_length_le (by have := HN.out.1; omega)] at this
      exact ⟨-1, rfl, by rw [this]; rfl, hE⟩

set_option maxRecDepth 100000 in
theorem chcont_c (w : World) (v : Value) (l : List Ch) (h : Sl w 5 v l.length (flatE encCh l)) :
    Calls Tryz.prog 52 #[v, fnC] w fun e w' => e = .returned (.bool (l.any badCh)) ∧ Ext w w' := by
  have HC := Lib.hid (chidx_c w v l h)
  obtain ⟨A, C, rfl, _⟩ := h
  obtain ⟨b, hb⟩ : ∃ b, b = l.any badCh := ⟨_, rfl⟩
  rw [← hb] at HC ⊢
  clear hb
  go_enter Tryz.func52, Tryz.ntmps52
  repeat' (first | go_at_call 69 | go_skip | go_guarded | go_step)
  refine HC.out.mono ?_
  rintro e w1 ⟨r, rfl, hr, f1⟩
  have HE := Lib.hid f1
  clear f1
  go_simp
  repeat' (first | go_skip | go_guarded | go_step)
  go_ret
  exact ⟨rfl, HE.out⟩
end Go.Proofs.YtigoffdehdobiaaGreat
