/- Texts joined. -/
import Derived.Test.YtkfiinmoecibcaaM03
import Derived.Test.YtkfiinmoecibcaaM01
import Derived.Test.YtkfiinmoecibcaaFind
import Derived.Deep.LoopGhost
import Derived.Lib.AppendZeros
import Derived.Test.YtkfiinmoecibcaaM00
set_option linter.unusedVariables false
set_option linter.unusedSimpArgs false
/- Contracts: where a key is, or would be. -/
namespace Go.Proofs.Ytkfiinmoecibcaa.Pch
open Go.RowKit Go.QS
set_option linter.unusedVariables false

abbrev ordV : Value := .func (.func 84) #[] #[]

set_option maxRecDepth 100000 in
set_option maxHeartbeats 400000 in
theorem bs_c (w : World) (v : Value) (l : List Pr) (key : List UInt8) (h : PS w v l) (hr : Rise l) (h9 : l.length ≤ 1000000000) :
    Calls Try.prog 117 #[v, str key, ordV] w fun e w' => e = .returned (.tuple #[.int .i64 (fndI l key), .bool (hasK l key)]) ∧ Ext w w' := by
  obtain ⟨A, c, rfl, hl, hn, hc, hs⟩ := h
  obtain ⟨n, hn2⟩ : ∃ n, n = l.length := ⟨_, rfl⟩
  rw [← hn2] at h9 hn ⊢
  have Hn : Hid (_ ∧ _) := Lib.hid ⟨hn2, hr⟩
  clear hn2 hl hr
  go_enter Try.func117, Try.ntmps117
  repeat' go_step
  go_loopg [9, 10] n (fun gk vi vj wr => ∃ i j : Nat, vi = .int .i64 i ∧ vj = .int .i64 j ∧ i ≤ j ∧ j ≤ n ∧ j - i ≤ gk ∧ Ext w wr ∧ Hid (∀ t q, l[t]? = some q → (t < i → q.1 < key) ∧ (j ≤ t → ¬ q.1 < key)))
  case atStart => exact ⟨0, n, rfl, rfl, Nat.zero_le _, Nat.le_refl _, by omega, Ext.refl _, Lib.hid fun t q hq => ⟨fun h => by omega, fun h => by have := (List.getElem?_eq_some_iff.1 hq).1; have := Hn.out.1; omega⟩⟩
  case round =>
    obtain ⟨i, j, rfl, rfl, hij, hjn, hgk, hE, HI⟩ := hrel
    rcases Nat.lt_or_ge i j with hlt | hge
    · have d1 : decide (i < j) = true := by simp [hlt]
      obtain ⟨m, hm⟩ : ∃ m, m = (i + j) / 2 := ⟨_, rfl⟩
      have hm1 : ((i : Int) + (j : Int)) / 2 = (m : Int) := by omega
      have him : i ≤ m := by omega
      have hmj : m < j := by omega
      obtain ⟨q, hq⟩ := get_of_lt l (show m < l.length by have := Hn.out.1; omega)
      obtain ⟨b, o, rfl, hq1, hq2⟩ := seg_pair (hs.below hE) hq
      have hi1 : (m : Int) < (n : Int) := by omega
      have HH := Lib.hid hq
      clear hm hq
      repeat' go_step
      refine (order_c _ q key).mono ?_
      rintro e w1 ⟨rfl, hb1⟩
      have hE1 : Ext w w1 := Ext.trans hE hb1
      by_cases hlt : q.1 < key
      · have hc : decide (cmpB q.1 key < 0) = true := by simp [cmpB_neg, hlt]
        have HL := Lib.hid hlt
        go_simp
        repeat' go_step
        go_roundg (j - (m + 1))
        case measure => omega
        case rel =>
          refine ⟨m + 1, j, by go_num, rfl, by omega, by omega, Nat.le_refl _, hE1, Lib.hid fun t p hp => ⟨fun ht => ?_, fun ht => (HI.out t p hp).2 ht⟩⟩
          rcases Nat.lt_or_eq_of_le (Nat.le_of_lt_succ ht) with h | rfl
          · obtain ⟨e1, rfl⟩ := List.getElem?_eq_some_iff.1 hp
            obtain ⟨e2, rfl⟩ := List.getElem?_eq_some_iff.1 HH.out
            exact k_trans (List.pairwise_iff_getElem.1 Hn.out.2 _ _ e1 e2 h) HL.out
          · rw [HH.out] at hp; cases hp; exact HL.out
      · have hc : decide (cmpB q.1 key < 0) = false := by simp [cmpB_neg, hlt]
        have HL := Lib.hid hlt
        go_simp
        repeat' go_step
        go_roundg (m - i)
        case measure => omega
        case rel =>
          refine ⟨i, m, rfl, rfl, by omega, by omega, Nat.le_refl _, hE1, Lib.hid fun t p hp => ⟨fun ht => (HI.out t p hp).1 ht, fun ht => ?_⟩⟩
          rcases Nat.lt_or_eq_of_le ht with h | rfl
          · obtain ⟨e1, rfl⟩ := List.getElem?_eq_some_iff.1 hp
            obtain ⟨e2, rfl⟩ := List.getElem?_eq_some_iff.1 HH.out
            exact fun hx => HL.out (k_trans (List.pairwise_iff_getElem.1 Hn.out.2 _ _ e2 e1 h) hx)
          · rw [HH.out] at hp; cases hp; exact HL.out
    · obtain rfl : i = j := by omega
      have d1 : decide (i < i) = false := by simp
      have hfi : i = fndI l key := fnd_first (by have := Hn.out.1; omega) (fun t q ht hq => (HI.out t q hq).1 ht) (fun q hq => (HI.out i q hq).2 (Nat.le_refl _))
      have hha := hasK_at (k := key) Hn.out.2
      rw [← hfi] at hha
      have HF := Lib.hid hfi
      clear hfi
      rcases Nat.lt_or_ge i n with hlt | hge
      · have d2 : decide (i < n) = true := by simp [hlt]
        obtain ⟨q, hq⟩ := get_of_lt l (show i < l.length by have := Hn.out.1; omega)
        obtain ⟨b, o, rfl, hq1, hq2⟩ := seg_pair (hs.below hE) hq
        have hi1 : (i : Int) < (n : Int) := by omega
        rw [hq] at hha
        have HH : Hid (_ ∧ _) := Lib.hid ⟨hq, hha⟩
        clear hq hha
        repeat' (first | go_skip | go_guarded | go_step)
        refine (order_c _ q key).mono ?_
        rintro e w1 ⟨rfl, hb1⟩
        have hE1 : Ext w w1 := Ext.trans hE hb1
        have hz : (cmpB q.1 key == 0) = (q.1 == key) := by
          rw [Bool.eq_iff_iff]
          simp [cmpB_zero]
        go_simp
        repeat' (first | go_skip | go_guarded | go_step)
        go_ret2
        refine ⟨?_, hE1⟩
        rw [← HF.out, HH.out.2]
        first | rfl | simp
      · have d2 : decide (i < n) = false := by simp; omega
        have hno : l[i]? = none := List.getElem?_eq_none (by have := Hn.out.1; omega)
        rw [hno] at hha
        have HH := Lib.hid hha
        clear hha hno
        repeat' (first | go_skip | go_guarded | go_step)
        go_ret2
        refine ⟨?_, hE⟩
        rw [← HF.out, HH.out]
        rfl

set_option maxRecDepth 100000 in
theorem find_c (w : World) (v : Value) (l : List Pr) (key : List UInt8) (h : PS w v l) (hr : Rise l) (h9 : l.length ≤ 1000000000) :
    Calls Try.prog 99 #[v, str key] w fun e w' => e = .returned (.tuple #[.int .i64 (fndI l key), .bool (hasK l key)]) ∧ Ext w w' := by
  have HC := Lib.hid (bs_c w v l key h hr h9)
  clear h hr
  go_enter Try.func99, Try.ntmps99
  repeat' go_step
  refine HC.out.mono ?_
  rintro e w1 ⟨rfl, hb⟩
  go_simp
  repeat' go_step
  go_ret2
  exact ⟨rfl, hb⟩

end Go.Proofs.Ytkfiinmoecibcaa.Pch/- Contracts: Grow of nil, Concat. -/
namespace Go.Proofs.Ytkfiinmoecibcaa
open Go.RowKit Go.QS
set_option linter.unusedVariables false

set_option maxRecDepth 100000 in
theorem grow_c (w : World) (n : Nat) (h9 : n ≤ 1000000000) :
    Calls Try.prog 131 #[.slice none 0 0, .int .i64 n] w fun e w' => ∃ v', e = .returned v' ∧ w'.ownsRow w.heap.size 40 2 v' 0 [] ∧ Ext w w' := by
  obtain ⟨i, z, hi, hz, hs, hb, hzs⟩ := infoP
  rcases Nat.eq_zero_or_pos n with rfl | h0
  · go_enter Try.func131, Try.ntmps131
    clear hi hz hs hb hzs
    repeat' go_step
    go_ret
    exact ⟨_, rfl, World.ownsRow_nil _ _ _ _, Ext.refl _⟩
  · have hr := fun w : World => Lib.run_append_nil_zeros (P := Try.prog) w 27 3 27 40 i z .i64 .i64 Try.underlying27 Try.underlying3 hi hz n h0 (by omega) (by omega) (by rw [hb]; omega)
    have HZ : Hid (_ ∧ _) := Lib.hid ⟨hs, hzs⟩
    have Hr := Lib.hid hr
    clear hi hz hs hb hzs hr
    have d1 : decide (0 < n) = true := by simp [h0]
    go_enter Try.func131, Try.ntmps131
    repeat' (first | (at_builtin; refine Lib.wpList_append_run _ rfl (.tmp 20) (.tmp 21) 27 3 rfl _ _ rfl rfl _ _ (Hr.out _) ?_) | go_step)
    go_ret
    refine ⟨_, rfl, ?_, ?_⟩
    · have hm := World.ownsRow_made (base := w.heap.size) (e := 40) (size := 2) w.drew (Builtin.zeroCells z.cells n ++ Builtin.zeroCells z.cells (grownCap w n 0 40 - n)) (grownCap w n 0 40) (Nat.le_refl _)
        (grownCap_le_maxLen w n 0 _ (by unfold maxLen; omega)) (by
          have := grownCap_ge w n 0 40
          rw [Array.size_append, size_zeroCells, size_zeroCells, HZ.out.2, ← Nat.add_mul]; congr 1; omega)
      exact hm
    · exact ((Ext.refl w).drew).alloc (Nat.le_refl _) _

/-- A slice of slices of pairs. -/
def PSS (w : World) (v : Value) (ls : List (List Pr)) : Prop := ∃ A c vs, v = .slice A ls.length c ∧ Seg w A vs ∧ vs.length = ls.length ∧ ∀ (i : Nat) (u : Value) (l : List Pr), vs[i]? = some u → ls[i]? = some l → PS w u l

theorem flatten_snoc {ls : List (List Pr)} {k : Nat} {l : List Pr} (h : ls[k]? = some l) : (ls.take (k + 1)).flatten = (ls.take k).flatten ++ l := by rw [take_snoc h]; simp
theorem flatten_le (ls : List (List Pr)) (k : Nat) : (ls.take k).flatten.length ≤ ls.flatten.length := by
  have : ls.flatten = (ls.take k).flatten ++ (ls.drop k).flatten := by rw [← List.flatten_append, List.take_append_drop]
  rw [this]; simp

set_option maxRecDepth 100000 in
set_option maxHeartbeats 400000 in
theorem concat_c (w : World) (v : Value) (ls : List (List Pr)) (h : PSS w v ls) (hl9 : ls.length ≤ 1000) (h9 : ls.flatten.length ≤ 1000000000) :
    Calls Try.prog 120 #[v] w fun e w' => ∃ v', e = .returned v' ∧ w'.ownsRow w.heap.size 40 2 v' ls.flatten.length (flat ls.flatten) ∧ Ext w w' := by
  obtain ⟨A, c, vs, rfl, hs, hvl, hp⟩ := h
  obtain ⟨n, hn⟩ : ∃ n, n = ls.length := ⟨_, rfl⟩
  rw [← hn] at hl9 ⊢
  have HP : Hid (_ ∧ _ ∧ _) := Lib.hid ⟨hp, hvl, hn⟩
  clear hp hvl hn
  go_enter Try.func120, Try.ntmps120
  repeat' go_step
  go_loopg [3, 11] n (fun gk vm vk wr => ∃ k m : Nat, vk = .int .i64 k ∧ vm = .int .i64 m ∧ k ≤ n ∧ n - k ≤ gk ∧ m ≤ 1000000000 ∧ Ext w wr ∧ Hid (m = (ls.take k).flatten.length))
  case atStart => exact ⟨0, 0, rfl, rfl, Nat.zero_le _, by omega, by omega, Ext.refl _, Lib.hid (by simp)⟩
  case round =>
    obtain ⟨k, m, rfl, rfl, hkn, hgk, hm9, hE, HM⟩ := hrel
    rcases Nat.lt_or_ge k n with hlt | hge
    · have d1 : decide (k < n) = true := by simp [hlt]
      obtain ⟨hp, hvl, hn⟩ := HP.out
      obtain ⟨u, hu⟩ := get_of_lt vs (show k < vs.length by omega)
      obtain ⟨l, hl⟩ := get_of_lt ls (show k < ls.length by omega)
      obtain ⟨A', c', rfl, hl', hc', hcm', hs'⟩ := hp k u l hu hl
      obtain ⟨b, o, rfl, hat⟩ := (hs.below hE) (fun e => by rw [e] at hu; simp at hu)
      have hc1 := hat k _ hu
      have hi1 : (k : Int) < (n : Int) := by omega
      obtain ⟨m1, hm1⟩ : ∃ m1, m1 = m + l.length := ⟨_, rfl⟩
      have hs1 : (m : Int) + (l.length : Int) = (m1 : Int) := by omega
      have hm2 : m1 = (ls.take (k + 1)).flatten.length := by rw [flatten_snoc hl, List.length_append, ← HM.out, hm1]
      have hm3 : m1 ≤ 1000000000 := by rw [hm2]; exact Nat.le_trans (flatten_le _ _) h9
      have HH := Lib.hid hm2
      have d2 : ¬ ((m1 : Int) < 0) := by omega
      clear hp hvl hn hu hl hl' hs' hat hm1 hm2
      repeat' go_step
      go_roundg (n - (k + 1))
      case measure => omega
      case rel => exact ⟨k + 1, m1, by go_num, rfl, by omega, Nat.le_refl _, hm3, hE, HH⟩
    · obtain rfl : k = n := by omega
      have d1 : decide (k < k) = false := by simp
      repeat' go_step
      refine (grow_c _ m hm9).mono ?_
      rintro e w1 ⟨v1, rfl, hown, hb1⟩
      have hE1 : Ext w w1 := Ext.trans hE hb1
      have hown1 : w1.ownsRow w.heap.size 40 2 v1 0 [] := by
        refine ⟨hown.1, ?_⟩
        rcases hown.2 with h | ⟨g, cap, cur, h1, h2, h3⟩
        · exact .inl h
        · exact .inr ⟨g, cap, cur, h1, Nat.le_trans hE.size h2, h3⟩
      have HO := Lib.hid hown1
      clear hown hown1
      go_simp
      repeat' go_step
      obtain ⟨wo, rfl⟩ : ∃ wo : World, wo = w1 := ⟨_, rfl⟩
      go_loopg [6, 27] k (fun gk vm vj wr => ∃ j : Nat, vj = .int .i64 j ∧ j ≤ k ∧ k - j ≤ gk ∧ Ext w wr ∧ Hid (wr.ownsRow w.heap.size 40 2 vm (ls.take j).flatten.length (flat (ls.take j).flatten)))
      case atStart => exact ⟨0, rfl, Nat.zero_le _, by omega, hE1, Lib.hid (by simpa using HO.out)⟩
      case round =>
        obtain ⟨j, rfl, hjk, hgk2, hE2, HO2⟩ := hrel
        rcases Nat.lt_or_ge j k with hlt | hge
        · have d1 : decide (j < k) = true := by simp [hlt]
          obtain ⟨hp, hvl, hn⟩ := HP.out
          obtain ⟨u, hu⟩ := get_of_lt vs (show j < vs.length by omega)
          obtain ⟨l, hl⟩ := get_of_lt ls (show j < ls.length by omega)
          obtain ⟨A', c', rfl, hl', hc', hcm', hs'⟩ := hp j u l hu hl
          obtain ⟨b, o, rfl, hat⟩ := (hs.below hE2) (fun e => by rw [e] at hu; simp at hu)
          have hc1 := hat j _ hu
          have hi1 : (j : Int) < (k : Int) := by omega
          have hfl : (ls.take (j + 1)).flatten.length ≤ 1000000000 := Nat.le_trans (flatten_le _ _) h9
          rw [flatten_snoc hl, List.length_append] at hfl
          have HL := Lib.hid (flatten_snoc hl)
          clear hp hvl hn hu hl hat
          have hown := HO2.out
          have hs'' := hs'.below hE2
          repeat' (first | (at_builtin; refine wpList_appE (W := w) rfl (.tmp 31) (.tmp 32) _ rfl 40 2 32 Try.underlying27 infoP (by decide) _ _ _ rfl hown hE2 _ l.length c' (flat l) rfl hl' hs'' (flat_one _) (by unfold maxLen; omega) (by omega) ?_; intro v3 w3 hown3 hb3) | go_step)
          go_roundg (k - (j + 1))
          case measure => omega
          case rel => exact ⟨j + 1, by go_num, by omega, Nat.le_refl _, hb3, Lib.hid (by rw [HL.out, List.length_append, flat_append]; exact hown3)⟩
        · obtain rfl : j = k := by omega
          have d1 : decide (j < j) = false := by simp
          repeat' go_step
          go_ret
          have := HO2.out
          rw [List.take_of_length_le (by have := HP.out.2.2; omega)] at this
          exact ⟨_, rfl, this, hE2⟩
end Go.Proofs.Ytkfiinmoecibcaa
/- Radix trees as plain data, and nodes in memory that are one. No function of the program is named here. -/
namespace Go.QS
open Go.RowKit

inductive RT where
  | node (lab : List UInt8) (val : Option (List UInt8)) (kids : List RT)
namespace RT
def lab : RT → List UInt8 | node l _ _ => l
def val : RT → Option (List UInt8) | node _ v _ => v
def kids : RT → List RT | node _ _ k => k
@[simp] theorem lab_node (l v k) : (node l v k).lab = l := rfl
@[simp] theorem val_node (l v k) : (node l v k).val = v := rfl
@[simp] theorem kids_node (l v k) : (node l v k).kids = k := rfl
/-- A label's first byte. -/
def hd (t : RT) : Nat := (t.lab.headD 0).toNat
end RT
theorem RT.eta (t : RT) : RT.node t.lab t.val t.kids = t := by cases t; rfl

def common : List UInt8 → List UInt8 → Nat
  | a :: x, b :: y => if a = b then common x y + 1 else 0
  | _, _ => 0

/-- The place of the kid that begins with a byte, or where it would be; is it there? -/
def fI (ks : List RT) (c : Nat) : Nat := (ks.takeWhile fun k => decide (k.hd < c)).length
def fH (ks : List RT) (c : Nat) : Bool := ks.any fun k => k.hd == c

/-- A branch, cut. -/
def tsplit (t : RT) (k : Nat) : RT := RT.node (t.lab.take k) none [RT.node (t.lab.drop k) t.val t.kids]

def tput : Nat → RT → List UInt8 → List UInt8 → RT × Bool × Bool
  | _, t, [], v => if t.val = some v then (t, false, false) else (RT.node t.lab (some v) t.kids, t.val.isNone, true)
  | 0, t, _ :: _, _ => (t, false, false)
  | n + 1, t, c :: key, v =>
    if fH t.kids c.toNat then
      match t.kids[fI t.kids c.toNat]? with
      | none => (t, false, false)
      | some kid =>
        let k := common (c :: key) kid.lab
        let r := tput n (if k < kid.lab.length then tsplit kid k else kid) ((c :: key).drop k) v
        if r.2.2 then (RT.node t.lab t.val (t.kids.set (fI t.kids c.toNat) r.1), r.2.1, true) else (t, false, false)
    else (RT.node t.lab t.val (t.kids.take (fI t.kids c.toNat) ++ RT.node (c :: key) (some v) [] :: t.kids.drop (fI t.kids c.toNat)), true, true)

/-! ### Nodes -/
abbrev ptr (g : Nat) : Value := .pointer (some ⟨g, 0, none⟩)
def ptrs (l : List Nat) : List Value := l.map ptr
@[simp] theorem ptrs_length (l : List Nat) : (ptrs l).length = l.length := by simp [ptrs]
@[simp] theorem ptrs_nil : ptrs [] = [] := rfl
theorem ptrs_append (a b : List Nat) : ptrs (a ++ b) = ptrs a ++ ptrs b := by simp [ptrs]
theorem ptrs_one (l : List Nat) : ∀ u ∈ ptrs l, u.oneCell' = true := by
  intro u hu
  obtain ⟨g, _, rfl⟩ := List.mem_map.1 hu
  rfl
theorem ptrs_get {l : List Nat} {i g : Nat} (h : l[i]? = some g) : (ptrs l)[i]? = some (ptr g) := by simp [ptrs, h]

/-- A node's block. -/
def NodeAt (T : TypeId) (w : World) (g : Nat) (lab : List UInt8) (val : Option (List UInt8)) (kv : Value) (ow : Option Addr) : Prop :=
  w.heap[g]? = some (.cells #[str lab, .bool val.isSome, str (val.getD []), kv, .pointer ow] T (0, 0))

section
variable {T : TypeId} {w w' : World} {g : Nat} {lab : List UInt8} {val : Option (List UInt8)} {kv : Value} {ow : Option Addr}
theorem heap_lt {o : Obj} (h : w.heap[g]? = some o) : g < w.heap.size := (Array.getElem?_eq_some_iff.1 h).1
theorem NodeAt.lt (h : NodeAt T w g lab val kv ow) : g < w.heap.size := heap_lt h
theorem NodeAt.ext (h : NodeAt T w g lab val kv ow) (hb : Ext w w') : NodeAt T w' g lab val kv ow := (hb.block g h.lt).trans h
theorem NodeAt.cells (h : NodeAt T w g lab val kv ow) : w.cell? ⟨g, 0, none⟩ = some (str lab) ∧ w.cell? ⟨g, 1, none⟩ = some (.bool val.isSome) ∧ w.cell? ⟨g, 2, none⟩ = some (str (val.getD [])) ∧ w.cell? ⟨g, 3, none⟩ = some kv ∧ w.cell? ⟨g, 4, none⟩ = some (.pointer ow) := by
  unfold NodeAt at h
  simp [World.cell?, h]
theorem NodeAt.free (h : NodeAt T w g lab val kv ow) (j : Nat) : w.frozen? ⟨g, j, none⟩ = false := by
  unfold NodeAt at h
  simp [World.frozen?, h]
theorem heap_set {cs : Array Value} {f : Nat × Nat} (h : w.heap[g]? = some (.cells cs T f)) (i : Nat) (v : Value) : (w.setCell ⟨g, i, none⟩ v).heap[g]? = some (.cells (cs.setIfInBounds i v) T f) := by
  simp [World.setCell, Array.getElem?_modify, h]
theorem NodeAt.set0 (h : NodeAt T w g lab val kv ow) (l : List UInt8) : NodeAt T (w.setCell ⟨g, 0, none⟩ (str l)) g l val kv ow := heap_set h 0 _
theorem NodeAt.set12 (h : NodeAt T w g lab val kv ow) (_ : Bool) (v : List UInt8) : NodeAt T ((w.setCell ⟨g, 1, none⟩ (.bool true)).setCell ⟨g, 2, none⟩ (str v)) g lab (some v) kv ow := heap_set (heap_set h 1 _) 2 _
theorem NodeAt.set12n (h : NodeAt T w g lab val kv ow) : NodeAt T ((w.setCell ⟨g, 1, none⟩ (.bool false)).setCell ⟨g, 2, none⟩ (str [])) g lab none kv ow := heap_set (heap_set h 1 _) 2 _
theorem NodeAt.set3 (h : NodeAt T w g lab val kv ow) (kv' : Value) : NodeAt T (w.setCell ⟨g, 3, none⟩ kv') g lab val kv' ow := heap_set h 3 _
theorem NodeAt.set4 (h : NodeAt T w g lab val kv ow) (ow' : Option Addr) : NodeAt T (w.setCell ⟨g, 4, none⟩ (.pointer ow')) g lab val kv ow' := heap_set h 4 _
theorem NodeAt.new (T : TypeId) (w : World) (hg : g = w.heap.size) : NodeAt T (w.alloc (.cells #[str lab, .bool val.isSome, str (val.getD []), kv, .pointer ow] T)) g lab val kv ow := by
  subst hg; simp only [NodeAt, World.alloc]; simp
end

/-- A node in memory is this tree. -/
inductive Rep (T : TypeId) (w : World) : Nat → RT → Prop
  | mk {g : Nat} {t : RT} {kv : Value} {ow : Option Addr} {ps : List Nat} (h : NodeAt T w g t.lab t.val kv ow) (hs : Sl w 1 kv ps.length (ptrs ps)) (hl : ps.length = t.kids.length)
      (hk : ∀ (j p : Nat) (k : RT), ps[j]? = some p → t.kids[j]? = some k → Rep T w p k) : Rep T w g t

/-- Kids in memory are these trees. -/
def Reps (T : TypeId) (w : World) (ps : List Nat) (ks : List RT) : Prop := ps.length = ks.length ∧ ∀ (j p : Nat) (k : RT), ps[j]? = some p → ks[j]? = some k → Rep T w p k

section
variable {T : TypeId} {w w' : World} {g : Nat} {t : RT} {ps : List Nat} {ks : List RT}
theorem Rep.ext (h : Rep T w g t) (hb : Ext w w') : Rep T w' g t := by
  induction h with
  | mk h hs hl _ ih => exact .mk (h.ext hb) (hs.below hb) hl ih
theorem Rep.open (h : Rep T w g t) : ∃ kv ow ps, NodeAt T w g t.lab t.val kv ow ∧ Sl w 1 kv ps.length (ptrs ps) ∧ Reps T w ps t.kids := by
  cases h with
  | mk h hs hl hk => exact ⟨_, _, _, h, hs, hl, hk⟩
theorem Rep.make {kv : Value} {ow : Option Addr} (h : NodeAt T w g t.lab t.val kv ow) (hs : Sl w 1 kv ps.length (ptrs ps)) (hk : Reps T w ps t.kids) : Rep T w g t := .mk h hs hk.1 hk.2
theorem Rep.lt (h : Rep T w g t) : g < w.heap.size := by
  cases h with
  | mk h => exact h.lt
theorem Reps.ext (h : Reps T w ps ks) (hb : Ext w w') : Reps T w' ps ks := ⟨h.1, fun j p k h1 h2 => (h.2 j p k h1 h2).ext hb⟩
theorem Reps.nil (T : TypeId) (w : World) : Reps T w [] [] := ⟨rfl, fun j p k h => by simp at h⟩
theorem Reps.set (h : Reps T w ps ks) {i p : Nat} {k : RT} (hp : Rep T w p k) : Reps T w (ps.set i p) (ks.set i k) := by
  refine ⟨by simp [h.1], fun j q t h1 h2 => ?_⟩
  rw [List.getElem?_set] at h1 h2
  split at h1
  · split at h2
    · split at h1
      · split at h2
        · cases h1; cases h2; exact hp
        · cases h2
      · cases h1
    · contradiction
  · split at h2
    · contradiction
    · exact h.2 j q t h1 h2
theorem Reps.insert (h : Reps T w ps ks) {i p : Nat} {k : RT} (hi : i ≤ ps.length) (hp : Rep T w p k) : Reps T w (ps.take i ++ p :: ps.drop i) (ks.take i ++ k :: ks.drop i) := by
  have hl := h.1
  refine ⟨by simp [hl], fun j q t h1 h2 => ?_⟩
  rw [List.getElem?_append] at h1 h2
  simp only [List.length_take, Nat.min_eq_left hi, Nat.min_eq_left (hl ▸ hi)] at h1 h2
  split at h1
  · rename_i hj
    rw [if_pos hj] at h2
    rw [List.getElem?_take_of_lt hj] at h1 h2
    exact h.2 j q t h1 h2
  · rename_i hj
    rw [if_neg hj] at h2
    obtain ⟨m, hm⟩ : ∃ m, j - i = m := ⟨_, rfl⟩
    rw [hm] at h1 h2
    cases m with
    | zero => simp at h1 h2; subst h1 h2; exact hp
    | succ m =>
      simp at h1 h2
      exact h.2 _ q t h1 h2
theorem Reps.erase (h : Reps T w ps ks) (i : Nat) : Reps T w (ps.take i ++ ps.drop (i + 1)) (ks.take i ++ ks.drop (i + 1)) := by
  have hl := h.1
  refine ⟨by simp [hl], fun j q t h1 h2 => ?_⟩
  rw [List.getElem?_append] at h1 h2
  simp only [List.length_take, ← hl] at h1 h2
  split at h1
  · rename_i hj
    rw [if_pos hj] at h2
    rw [List.getElem?_take_of_lt (by omega)] at h1 h2
    exact h.2 j q t h1 h2
  · rename_i hj
    rw [if_neg hj] at h2
    simp at h1 h2
    exact h.2 _ q t h1 h2
end
end Go.QS
