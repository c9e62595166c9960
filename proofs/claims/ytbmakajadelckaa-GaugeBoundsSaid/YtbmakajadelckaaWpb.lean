/- A gauge's ops: plain sums over pairs; contracts of the closures, of ops and Name. -/
import Derived.Test.YtbmakajadelckaaM22
import Derived.Test.YtbmakajadelckaaM18
import Derived.Test.YtbmakajadelckaaM09
import Derived.Test.YtbmakajadelckaaM13
import Derived.Test.YtbmakajadelckaaM05
import Derived.Laws.EntriesVeiled
import Derived.Deep.RegionHeld3
import Derived.Deep.DeepCutAuto
import Derived.Deep.QuietTactic
set_option linter.unusedVariables false
set_option linter.unusedSimpArgs false
namespace Go.QS
open Go.RowKit
/-- One pair more. -/
def stp (op : Nat) (n : Nat) (p : Pr) : Nat :=
  match op with
  | 0 => (n + 1) % 18446744073709551616
  | 1 => (n + p.1.length) % 18446744073709551616
  | 2 => (n + p.2.length) % 18446744073709551616
  | 3 => if p.1.length > n then p.1.length else n
  | 4 => if p.2.length > n then p.2.length else n
  | _ => (n + sipN 0 0 p.1 + 3 * sipN 0 0 p.2) % 18446744073709551616
theorem mod_comm2 (n a b : Nat) : ((n + a) % 18446744073709551616 + b) % 18446744073709551616 = ((n + b) % 18446744073709551616 + a) % 18446744073709551616 := by
  rw [Nat.mod_add_mod, Nat.mod_add_mod, Nat.add_right_comm]
theorem max_comm2 (n a b : Nat) : (if b > (if a > n then a else n) then b else (if a > n then a else n)) = (if a > (if b > n then b else n) then a else (if b > n then b else n)) := by
  by_cases h1 : a > n <;> by_cases h2 : b > n <;> by_cases h3 : b > a <;> by_cases h4 : a > b <;> simp [h1, h2, h3, h4] <;> omega
theorem stp_0 (n : Nat) (p : Pr) : stp 0 n p = (n + 1) % 18446744073709551616 := rfl
theorem stp_1 (n : Nat) (p : Pr) : stp 1 n p = (n + p.1.length) % 18446744073709551616 := rfl
theorem stp_2 (n : Nat) (p : Pr) : stp 2 n p = (n + p.2.length) % 18446744073709551616 := rfl
theorem stp_3 (n : Nat) (p : Pr) : stp 3 n p = if p.1.length > n then p.1.length else n := rfl
theorem stp_4 (n : Nat) (p : Pr) : stp 4 n p = if p.2.length > n then p.2.length else n := rfl
theorem stp_5 (op n : Nat) (p : Pr) : stp (op + 5) n p = (n + (sipN 0 0 p.1 + 3 * sipN 0 0 p.2)) % 18446744073709551616 := by
  rw [← Nat.add_assoc]; rfl
theorem stp_comm (op n : Nat) (p q : Pr) : stp op (stp op n p) q = stp op (stp op n q) p := by
  match op with
  | 0 => rw [stp_0, stp_0, stp_0, stp_0]
  | 1 => rw [stp_1, stp_1, stp_1, stp_1]; exact mod_comm2 _ _ _
  | 2 => rw [stp_2, stp_2, stp_2, stp_2]; exact mod_comm2 _ _ _
  | 3 => rw [stp_3, stp_3, stp_3, stp_3]; exact max_comm2 _ _ _
  | 4 => rw [stp_4, stp_4, stp_4, stp_4]; exact max_comm2 _ _ _
  | op + 5 => rw [stp_5, stp_5, stp_5, stp_5]; exact mod_comm2 _ _ _
theorem stp_lt (op n : Nat) (p : Pr) (hn : n < 18446744073709551616) (h1 : p.1.length < 18446744073709551616) (h2 : p.2.length < 18446744073709551616) : stp op n p < 18446744073709551616 := by
  match op with
  | 0 => rw [stp_0]; exact Nat.mod_lt _ (by decide)
  | 1 => rw [stp_1]; exact Nat.mod_lt _ (by decide)
  | 2 => rw [stp_2]; exact Nat.mod_lt _ (by decide)
  | 3 => rw [stp_3]; split <;> assumption
  | 4 => rw [stp_4]; split <;> assumption
  | op + 5 => rw [stp_5]; exact Nat.mod_lt _ (by decide)
/-- The sum over pairs. -/
def foldP (op : Nat) (l : List Pr) : Nat := l.foldl (stp op) 0
theorem foldP_snoc (op : Nat) (l : List Pr) (p : Pr) : foldP op (l ++ [p]) = stp op (foldP op l) p := by simp [foldP]
theorem foldl_perm {α β : Type} (f : β → α → β) (hf : ∀ b x y, f (f b x) y = f (f b y) x) {l m : List α} (h : l.Perm m) : ∀ b, l.foldl f b = m.foldl f b := by
  induction h with
  | nil => intro b; rfl
  | cons x _ ih => intro b; exact ih _
  | swap x y l => intro b; simp only [List.foldl_cons]; rw [hf]
  | trans _ _ i1 i2 => intro b; exact (i1 b).trans (i2 b)
theorem foldP_perm (op : Nat) {l m : List Pr} (h : l.Perm m) : foldP op l = foldP op m := foldl_perm _ (stp_comm op) h 0
theorem foldP_lt (op : Nat) (l : List Pr) (h : ∀ p ∈ l, p.1.length < 18446744073709551616 ∧ p.2.length < 18446744073709551616) : foldP op l < 18446744073709551616 := by
  have key : ∀ (l : List Pr) (n : Nat), n < 18446744073709551616 → (∀ p ∈ l, p.1.length < 18446744073709551616 ∧ p.2.length < 18446744073709551616) → l.foldl (stp op) n < 18446744073709551616 := by
    intro l
    induction l with
    | nil => intro n hn _; exact hn
    | cons p l ih =>
      intro n hn hl
      exact ih _ (stp_lt op n p hn (hl p (by simp)).1 (hl p (by simp)).2) fun q hq => hl q (by simp [hq])
  exact key l 0 (by decide) h
/-- An op's name. -/
def nmO (op : Nat) : List UInt8 :=
  match op with
  | 0 => [99, 111, 117, 110, 116]
  | 1 => [107, 101, 121, 115]
  | 2 => [118, 97, 108, 117, 101, 115]
  | 3 => [108, 111, 110, 103, 101, 115, 116]
  | 4 => [119, 105, 100, 101, 115, 116]
  | 5 => [109, 105, 120, 101, 100]
  | _ => []
end Go.QS
namespace Go.Proofs.Ytbmakajadelckaa
open Go.RowKit Go.QS Go.QS.Nk
set_option linter.unusedVariables false

/-- What a function value does: a pair more. -/
def DoOk (W : World) (dv : Value) (op : Nat) : Prop :=
  ∃ gf lb, dv = .func (.func gf) #[] lb ∧ (∀ args w, (callFunc gf args).run Try.prog w = .ok (.enter gf args) w) ∧
    ∀ W', Ext W W' → ∀ (n : Nat) (p : Pr), n < 18446744073709551616 → p.1.length ≤ 1000 → p.2.length ≤ 1000 →
      Calls Try.prog gf (#[.int .u64 (n : Int), .agg #[str p.1, str p.2]] ++ lb) W' fun e w' => e = .returned (.int .u64 (stp op n p : Nat)) ∧ Ext W' w'
theorem DoOk.ext {W W' : World} {dv : Value} {op : Nat} (h : DoOk W dv op) (f : Ext W W') : DoOk W' dv op := by
  obtain ⟨gf, lb, h1, h2, h3⟩ := h
  exact ⟨gf, lb, h1, h2, fun X fx => h3 X (Ext.trans f fx)⟩

set_option maxRecDepth 100000 in
theorem size_c (w : World) (s : List UInt8) (h9 : s.length ≤ 1000) : Calls Try.prog 90 #[str s] w fun e w' => e = .returned (.int .u64 (s.length : Int)) ∧ w' = w := by
  go_enter Try.func90, Try.ntmps90
  repeat' (first | go_skip | go_guarded | go_step)
  go_ret
  exact ⟨by go_num, rfl⟩
set_option maxRecDepth 100000 in
theorem do0_c (w : World) (n : Nat) (p : Pr) (hn : n < 18446744073709551616) : Calls Try.prog 91 #[.int .u64 (n : Int), .agg #[str p.1, str p.2]] w fun e w' => e = .returned (.int .u64 (stp 0 n p : Nat)) ∧ Ext w w' := by
  go_enter Try.func91, Try.ntmps91
  repeat' (first | go_skip | go_guarded | go_step)
  go_ret
  refine ⟨?_, (Ext.refl w).alloc (Nat.le_refl _) _⟩
  rw [stp_0]
  go_num
/-! closures -/
theorem do0_ok (w : World) : DoOk w (.func (.func 91) #[] #[]) 0 :=
  ⟨_, _, rfl, enters_of Try.func91 (by kernel_rfl) rfl, fun W _ n p hn _ _ => do0_c W n p hn⟩
set_option maxRecDepth 100000 in
theorem do1_c (w : World) (n : Nat) (p : Pr) (g : Nat) (hn : n < 18446744073709551616) (h1 : p.1.length ≤ 1000) (h2 : p.2.length ≤ 1000) (hg : w.cell? ⟨g, 0, none⟩ = some (.func (.func 90) #[] #[])) : Calls Try.prog 92 #[.int .u64 (n : Int), .agg #[str p.1, str p.2], ptr g] w fun e w' => e = .returned (.int .u64 (stp 1 n p : Nat)) ∧ Ext w w' := by
  rw [stp_1]
  go_enter Try.func92, Try.ntmps92
  repeat' (go_not_at_region 1; (first | go_skip | go_guarded | go_step))
  obtain ⟨gp, hgp⟩ : ∃ g, g = w.heap.size := ⟨_, rfl⟩
  rw [← hgp]
  refine wp_nameW (fun w' => w'.cell? ⟨g, 0, none⟩ = some (.func (.func 90) #[] #[]) ∧ Ext w w' ∧ w'.cell? ⟨gp, 0, none⟩ = some (str p.1) ∧ w'.cell? ⟨gp, 1, none⟩ = some (str p.2)) ⟨Ext.cell' ((Ext.refl w).alloc (Nat.le_refl _) _) hg, (Ext.refl w).alloc (Nat.le_refl _) _, by rw [World.cell?_alloc_at _ _ _ _ hgp]; rfl, by rw [World.cell?_alloc_at _ _ _ _ hgp]; rfl⟩ ?_
  clear hgp hg
  intro w1 H1
  obtain ⟨c0, f1, p0, p1⟩ := id H1.out
  have HS := Lib.hid (size_c w1 p.1 (by omega))
  clear f1
  repeat' (first | go_at_call 90 | go_skip | go_guarded | go_step)
  refine HS.out.mono ?_
  rintro e w2 ⟨rfl, rfl⟩
  clear c0 p0 p1
  go_simp
  repeat' (first | go_skip | go_guarded | go_step)
  go_ret
  refine ⟨?_, H1.out.2.1⟩
  go_num
theorem do1_ok (w : World) (g : Nat) (hg : w.cell? ⟨g, 0, none⟩ = some (.func (.func 90) #[] #[])) : DoOk w (.func (.func 92) #[] #[ptr g]) 1 :=
  ⟨_, _, rfl, enters_of Try.func92 (by kernel_rfl) rfl, fun W f n p hn h1 h2 => do1_c W n p g hn h1 h2 (Ext.cell' f hg)⟩
set_option maxRecDepth 100000 in
theorem do2_c (w : World) (n : Nat) (p : Pr) (g : Nat) (hn : n < 18446744073709551616) (h1 : p.1.length ≤ 1000) (h2 : p.2.length ≤ 1000) (hg : w.cell? ⟨g, 0, none⟩ = some (.func (.func 90) #[] #[])) : Calls Try.prog 93 #[.int .u64 (n : Int), .agg #[str p.1, str p.2], ptr g] w fun e w' => e = .returned (.int .u64 (stp 2 n p : Nat)) ∧ Ext w w' := by
  rw [stp_2]
  go_enter Try.func93, Try.ntmps93
  repeat' (go_not_at_region 1; (first | go_skip | go_guarded | go_step))
  obtain ⟨gp, hgp⟩ : ∃ g, g = w.heap.size := ⟨_, rfl⟩
  rw [← hgp]
  refine wp_nameW (fun w' => w'.cell? ⟨g, 0, none⟩ = some (.func (.func 90) #[] #[]) ∧ Ext w w' ∧ w'.cell? ⟨gp, 0, none⟩ = some (str p.1) ∧ w'.cell? ⟨gp, 1, none⟩ = some (str p.2)) ⟨Ext.cell' ((Ext.refl w).alloc (Nat.le_refl _) _) hg, (Ext.refl w).alloc (Nat.le_refl _) _, by rw [World.cell?_alloc_at _ _ _ _ hgp]; rfl, by rw [World.cell?_alloc_at _ _ _ _ hgp]; rfl⟩ ?_
  clear hgp hg
  intro w1 H1
  obtain ⟨c0, f1, p0, p1⟩ := id H1.out
  have HS := Lib.hid (size_c w1 p.2 (by omega))
  clear f1
  repeat' (first | go_at_call 90 | go_skip | go_guarded | go_step)
  refine HS.out.mono ?_
  rintro e w2 ⟨rfl, rfl⟩
  clear c0 p0 p1
  go_simp
  repeat' (first | go_skip | go_guarded | go_step)
  go_ret
  refine ⟨?_, H1.out.2.1⟩
  go_num
theorem do2_ok (w : World) (g : Nat) (hg : w.cell? ⟨g, 0, none⟩ = some (.func (.func 90) #[] #[])) : DoOk w (.func (.func 93) #[] #[ptr g]) 2 :=
  ⟨_, _, rfl, enters_of Try.func93 (by kernel_rfl) rfl, fun W f n p hn h1 h2 => do2_c W n p g hn h1 h2 (Ext.cell' f hg)⟩
set_option maxRecDepth 100000 in
theorem do3_c (w : World) (n : Nat) (p : Pr) (g : Nat) (hn : n < 18446744073709551616) (h1 : p.1.length ≤ 1000) (h2 : p.2.length ≤ 1000) (hg : w.cell? ⟨g, 0, none⟩ = some (.func (.func 90) #[] #[])) : Calls Try.prog 94 #[.int .u64 (n : Int), .agg #[str p.1, str p.2], ptr g] w fun e w' => e = .returned (.int .u64 (stp 3 n p : Nat)) ∧ Ext w w' := by
  by_cases hm : p.1.length > n
  · have hmx : max (n : Int) (p.1.length : Int) = (p.1.length : Int) := by omega
    rw [stp_3, if_pos hm]
    go_enter Try.func94, Try.ntmps94
    repeat' (go_not_at_region 1; (first | go_skip | go_guarded | go_step))
    obtain ⟨gp, hgp⟩ : ∃ g, g = w.heap.size := ⟨_, rfl⟩
    rw [← hgp]
    refine wp_nameW (fun w' => w'.cell? ⟨g, 0, none⟩ = some (.func (.func 90) #[] #[]) ∧ Ext w w' ∧ w'.cell? ⟨gp, 0, none⟩ = some (str p.1) ∧ w'.cell? ⟨gp, 1, none⟩ = some (str p.2)) ⟨Ext.cell' ((Ext.refl w).alloc (Nat.le_refl _) _) hg, (Ext.refl w).alloc (Nat.le_refl _) _, by rw [World.cell?_alloc_at _ _ _ _ hgp]; rfl, by rw [World.cell?_alloc_at _ _ _ _ hgp]; rfl⟩ ?_
    clear hgp hg
    intro w1 H1
    obtain ⟨c0, f1, p0, p1⟩ := id H1.out
    have HS := Lib.hid (size_c w1 p.1 (by omega))
    clear f1
    repeat' (first | go_at_call 90 | go_skip | go_guarded | go_step)
    refine HS.out.mono ?_
    rintro e w2 ⟨rfl, rfl⟩
    clear c0 p0 p1
    go_simp
    repeat' (first | go_skip | go_guarded | go_step)
    go_ret
    refine ⟨?_, H1.out.2.1⟩
    go_num
  · have hmx : max (n : Int) (p.1.length : Int) = (n : Int) := by omega
    rw [stp_3, if_neg hm]
    go_enter Try.func94, Try.ntmps94
    repeat' (go_not_at_region 1; (first | go_skip | go_guarded | go_step))
    obtain ⟨gp, hgp⟩ : ∃ g, g = w.heap.size := ⟨_, rfl⟩
    rw [← hgp]
    refine wp_nameW (fun w' => w'.cell? ⟨g, 0, none⟩ = some (.func (.func 90) #[] #[]) ∧ Ext w w' ∧ w'.cell? ⟨gp, 0, none⟩ = some (str p.1) ∧ w'.cell? ⟨gp, 1, none⟩ = some (str p.2)) ⟨Ext.cell' ((Ext.refl w).alloc (Nat.le_refl _) _) hg, (Ext.refl w).alloc (Nat.le_refl _) _, by rw [World.cell?_alloc_at _ _ _ _ hgp]; rfl, by rw [World.cell?_alloc_at _ _ _ _ hgp]; rfl⟩ ?_
    clear hgp hg
    intro w1 H1
    obtain ⟨c0, f1, p0, p1⟩ := id H1.out
    have HS := Lib.hid (size_c w1 p.1 (by omega))
    clear f1
    repeat' (first | go_at_call 90 | go_skip | go_guarded | go_step)
    refine HS.out.mono ?_
    rintro e w2 ⟨rfl, rfl⟩
    clear c0 p0 p1
    go_simp
    repeat' (first | go_skip | go_guarded | go_step)
    go_ret
    refine ⟨?_, H1.out.2.1⟩
    go_num
theorem do3_ok (w : World) (g : Nat) (hg : w.cell? ⟨g, 0, none⟩ = some (.func (.func 90) #[] #[])) : DoOk w (.func (.func 94) #[] #[ptr g]) 3 :=
  ⟨_, _, rfl, enters_of Try.func94 (by kernel_rfl) rfl, fun W f n p hn h1 h2 => do3_c W n p g hn h1 h2 (Ext.cell' f hg)⟩
set_option maxRecDepth 100000 in
theorem do4_c (w : World) (n : Nat) (p : Pr) (g : Nat) (hn : n < 18446744073709551616) (h1 : p.1.length ≤ 1000) (h2 : p.2.length ≤ 1000) (hg : w.cell? ⟨g, 0, none⟩ = some (.func (.func 90) #[] #[])) : Calls Try.prog 95 #[.int .u64 (n : Int), .agg #[str p.1, str p.2], ptr g] w fun e w' => e = .returned (.int .u64 (stp 4 n p : Nat)) ∧ Ext w w' := by
  by_cases hm : p.2.length > n
  · have hmx : max (n : Int) (p.2.length : Int) = (p.2.length : Int) := by omega
    rw [stp_4, if_pos hm]
    go_enter Try.func95, Try.ntmps95
    repeat' (go_not_at_region 1; (first | go_skip | go_guarded | go_step))
    obtain ⟨gp, hgp⟩ : ∃ g, g = w.heap.size := ⟨_, rfl⟩
    rw [← hgp]
    refine wp_nameW (fun w' => w'.cell? ⟨g, 0, none⟩ = some (.func (.func 90) #[] #[]) ∧ Ext w w' ∧ w'.cell? ⟨gp, 0, none⟩ = some (str p.1) ∧ w'.cell? ⟨gp, 1, none⟩ = some (str p.2)) ⟨Ext.cell' ((Ext.refl w).alloc (Nat.le_refl _) _) hg, (Ext.refl w).alloc (Nat.le_refl _) _, by rw [World.cell?_alloc_at _ _ _ _ hgp]; rfl, by rw [World.cell?_alloc_at _ _ _ _ hgp]; rfl⟩ ?_
    clear hgp hg
    intro w1 H1
    obtain ⟨c0, f1, p0, p1⟩ := id H1.out
    have HS := Lib.hid (size_c w1 p.2 (by omega))
    clear f1
    repeat' (first | go_at_call 90 | go_skip | go_guarded | go_step)
    refine HS.out.mono ?_
    rintro e w2 ⟨rfl, rfl⟩
    clear c0 p0 p1
    go_simp
    repeat' (first | go_skip | go_guarded | go_step)
    go_ret
    refine ⟨?_, H1.out.2.1⟩
    go_num
  · have hmx : max (n : Int) (p.2.length : Int) = (n : Int) := by omega
    rw [stp_4, if_neg hm]
    go_enter Try.func95, Try.ntmps95
    repeat' (go_not_at_region 1; (first | go_skip | go_guarded | go_step))
    obtain ⟨gp, hgp⟩ : ∃ g, g = w.heap.size := ⟨_, rfl⟩
    rw [← hgp]
    refine wp_nameW (fun w' => w'.cell? ⟨g, 0, none⟩ = some (.func (.func 90) #[] #[]) ∧ Ext w w' ∧ w'.cell? ⟨gp, 0, none⟩ = some (str p.1) ∧ w'.cell? ⟨gp, 1, none⟩ = some (str p.2)) ⟨Ext.cell' ((Ext.refl w).alloc (Nat.le_refl _) _) hg, (Ext.refl w).alloc (Nat.le_refl _) _, by rw [World.cell?_alloc_at _ _ _ _ hgp]; rfl, by rw [World.cell?_alloc_at _ _ _ _ hgp]; rfl⟩ ?_
    clear hgp hg
    intro w1 H1
    obtain ⟨c0, f1, p0, p1⟩ := id H1.out
    have HS := Lib.hid (size_c w1 p.2 (by omega))
    clear f1
    repeat' (first | go_at_call 90 | go_skip | go_guarded | go_step)
    refine HS.out.mono ?_
    rintro e w2 ⟨rfl, rfl⟩
    clear c0 p0 p1
    go_simp
    repeat' (first | go_skip | go_guarded | go_step)
    go_ret
    refine ⟨?_, H1.out.2.1⟩
    go_num
theorem do4_ok (w : World) (g : Nat) (hg : w.cell? ⟨g, 0, none⟩ = some (.func (.func 90) #[] #[])) : DoOk w (.func (.func 95) #[] #[ptr g]) 4 :=
  ⟨_, _, rfl, enters_of Try.func95 (by kernel_rfl) rfl, fun W f n p hn h1 h2 => do4_c W n p g hn h1 h2 (Ext.cell' f hg)⟩
set_option maxRecDepth 100000 in
theorem do5_c (w : World) (n : Nat) (p : Pr) (hn : n < 18446744073709551616) (h1 : p.1.length ≤ 1000) (h2 : p.2.length ≤ 1000) : Calls Try.prog 96 #[.int .u64 (n : Int), .agg #[str p.1, str p.2]] w fun e w' => e = .returned (.int .u64 (stp 5 n p : Nat)) ∧ Ext w w' := by
  have ha9 : sipN 0 0 p.1 < 18446744073709551616 := sipN_lt (by decide) (by decide) _
  have hb9 : sipN 0 0 p.2 < 18446744073709551616 := sipN_lt (by decide) (by decide) _
  have HA : Hid (∀ (W : World) (s : List UInt8), s = p.1 ∨ s = p.2 → Calls Try.prog 81 #[.agg #[.int .u64 0, .int .u64 0], str s] W fun e w' => e = .returned (.int .u64 (sipN 0 0 s)) ∧ Ext W w') := Lib.hid (fun W s hs => sum_c W 0 0 s (by decide) (by decide) (by rcases hs with rfl | rfl <;> omega))
  go_enter Try.func96, Try.ntmps96
  repeat' (go_not_at_region 1; (first | go_skip | go_guarded | go_step))
  obtain ⟨gp, hgp⟩ : ∃ g, g = w.heap.size := ⟨_, rfl⟩
  rw [← hgp]
  refine wp_nameW (fun w' => Ext w w' ∧ w'.cell? ⟨gp, 0, none⟩ = some (str p.1) ∧ w'.cell? ⟨gp, 1, none⟩ = some (str p.2)) ⟨(Ext.refl w).alloc (Nat.le_refl _) _, by rw [World.cell?_alloc_at _ _ _ _ hgp]; rfl, by rw [World.cell?_alloc_at _ _ _ _ hgp]; rfl⟩ ?_
  clear hgp
  intro w1 H1
  have HC : Hid (∀ W, Ext w1 W → W.cell? ⟨gp, 0, none⟩ = some (str p.1) ∧ W.cell? ⟨gp, 1, none⟩ = some (str p.2)) := Lib.hid (fun W f => ⟨Ext.cell' f H1.out.2.1, Ext.cell' f H1.out.2.2⟩)
  go_region_held3 (fun w' => w'.cell? ⟨gp, 0, none⟩ = some (str p.1) ∧ w'.cell? ⟨gp, 1, none⟩ = some (str p.2))
    (first | exact HC.out _ kk.out | exact HC.out _ (ext_drew (Ext.refl _)))
    ((go_at_call 81; refine (HA.out _ _ (by first | exact Or.inl rfl | exact Or.inr rfl)).mono ?_; rintro e x2 ⟨rfl, f2⟩; have kk : Hid (Ext w1 x2) := Lib.hid (Ext.trans (by first | exact kk.out | exact ext_drew (Ext.refl _)) f2); clear f2))
  repeat' (first | go_skip | go_guarded | go_step)
  go_ret
  refine ⟨?_, Ext.trans H1.out.1 kk.out⟩
  rw [stp_5 0 n p]
  refine congrArg (fun z => Ending.returned (Value.int .u64 z)) ?_
  simp only [IntKind.wrap_u64]
  omega
theorem do5_ok (w : World) : DoOk w (.func (.func 96) #[] #[]) 5 :=
  ⟨_, _, rfl, enters_of Try.func96 (by kernel_rfl) rfl, fun W _ n p hn h1 h2 => do5_c W n p hn h1 h2⟩

end Go.Proofs.Ytbmakajadelckaa
