/- Texts joined. -/
import Derived.Test.YtigoffdehdobiaaGreatTb
import Derived.Test.YtigoffdehdobiaaGreatM04
import Derived.Deep.RegionHeld3
import Derived.Deep.DeepCutAuto
import Derived.Test.YtigoffdehdobiaaGreatN03
import Derived.Lib.ConvBytes
set_option linter.unusedVariables false
set_option linter.unusedSimpArgs false
/- Contracts: how a tree looks, byte by byte; are two alike? -/
namespace Go.Proofs.YtigoffdehdobiaaGreat
open Go.RowKit Go.QS
set_option linter.unusedVariables false

theorem kid_size {t k : RT} (h : k ∈ t.kids) : SizeOf.sizeOf k < SizeOf.sizeOf t := by
  obtain ⟨a, b, c⟩ := t
  have := List.sizeOf_lt_of_mem h
  simp only [RT.kids_node] at this
  simp; omega

def headB_len' (lab : List UInt8) (val : Option (List UInt8)) : Nat := 5 + lab.length + vlen val
theorem byte_len (n : Nat) : (n : Int) % 256 = ((UInt8.ofNat n).toNat : Int) := by simp
theorem keep_n {w w' : World} {g : Nat} {u0 u1 u2 u3 : Value} (f : Ext w w') (h : w.cell? ⟨g, 0, none⟩ = some u0 ∧ w.cell? ⟨g, 1, none⟩ = some u1 ∧ w.cell? ⟨g, 2, none⟩ = some u2 ∧ w.cell? ⟨g, 3, none⟩ = some u3) :
    w'.cell? ⟨g, 0, none⟩ = some u0 ∧ w'.cell? ⟨g, 1, none⟩ = some u1 ∧ w'.cell? ⟨g, 2, none⟩ = some u2 ∧ w'.cell? ⟨g, 3, none⟩ = some u3 :=
  ⟨(f.cell (World.block_lt_of_cell? w _ h.1)).trans h.1, (f.cell (World.block_lt_of_cell? w _ h.2.1)).trans h.2.1, (f.cell (World.block_lt_of_cell? w _ h.2.2.1)).trans h.2.2.1, (f.cell (World.block_lt_of_cell? w _ h.2.2.2)).trans h.2.2.2⟩

theorem ext_alloc {a b : World} (h : Ext a b) (o : Obj) : Ext a (b.alloc o) := h.alloc h.size o
theorem ext_drew {a b : World} (h : Ext a b) : Ext a b.drew := h.drew
theorem bs_of_own {W w : World} {v : Value} {l : List UInt8} (h : w.ownsRow W.heap.size 5 1 v l.length (encB l)) : BS w v l := BS.of_own h

/-- A root, or none, and how it looks. -/
inductive Shp (w : World) : Value → List UInt8 → Prop
  | nil : Shp w (.pointer none) []
  | of {g : Nat} {t : RT} (h : Rep NT w g t) (h9 : t.shp.length ≤ 1000000000) : Shp w (ptr g) t.shp
theorem Shp.ext {w w' : World} {v : Value} {l : List UInt8} (h : Shp w v l) (f : Ext w w') : Shp w' v l := by
  cases h with
  | nil => exact .nil
  | of h h9 => exact .of (h.ext f) h9
end Go.Proofs.YtigoffdehdobiaaGreat
/- Contracts: the document's Two, Text, Same of bytes. -/
namespace Go.QS
open Go.RowKit
/-- []byte(s). -/
theorem wpList_bytesOf {P : Program} {w : World} {ops : Array Oper} {rest : List Oper} {o : Oper} {a : Act} {Q : Exit → Act → World → Prop} (hgd : o.guard = none) (x : Operand) (src dst e : TypeId)
    (ho : o.op = .convert src dst x) (hs : P.underlying src = some .string) (hd : P.underlying dst = some (.slice e)) (he : P.underlying e = some (.int .u8)) (s : List UInt8) (hx : a.eval x = str s)
    (h : ∀ A c w', Seg w' A (encB s) → Ext w w' → wpList P ops Q rest (a.put o.dst (.slice A s.length c)) w') : wpList P ops Q (o :: rest) a w :=
  wpList_plain hgd fun _ hK => by
    have hrun := Lib.run_convert_string_bytes (P := P) w src dst e (bs s) hs hd he
    unfold Oper.wp execOp
    simp only [ho, hx, str, Sem.run_bind, hrun, Result.andThen_ok, Sem.run_pure, bs_size]
    refine hK _ _ (h _ _ _ ?_ ?_)
    · intro hne
      refine ⟨_, _, rfl, fun j u hj => ?_⟩
      have hjl : j < s.length := by have := (List.getElem?_eq_some_iff.1 hj).1; rwa [encB_length] at this
      rw [Nat.zero_add, Lib.bytesWorld_cell w e (bs s) j (by simpa using hjl)]
      obtain ⟨y, hy⟩ := get_of_lt s hjl
      rw [encB_get hy] at hj
      rw [← hj]
      simp [bs, hy]
    · exact ⟨rfl, rfl, rfl, by rw [Lib.bytesWorld_size]; omega, fun k hk => Lib.bytesWorld_at_old w e (bs s) k hk⟩
end Go.QS
namespace Go.Proofs.YtigoffdehdobiaaGreat
open Go.RowKit Go.QS
set_option linter.unusedVariables false


set_option maxRecDepth 100000 in
theorem rsame_c (w : World) (v1 v2 : Value) (a b : List UInt8) (h1 : BS w v1 a) (h2 : BS w v2 b) :
    Calls Tryz.prog 13 #[v1, v2] w fun e w' => e = .returned (.bool (decide (a = b))) ∧ Ext w w' := by
  obtain ⟨A1, c1, rfl, hn1, hc1, hs1⟩ := sl_full h1
  obtain ⟨A2, c2, rfl, hn2, hc2, hs2⟩ := sl_full h2
  have ha9 : a.length ≤ 9223372036854775807 := by unfold maxLen at hc1; omega
  have hb9 : b.length ≤ 9223372036854775807 := by unfold maxLen at hc2; omega
  have HS := Lib.hid (And.intro hs1 hs2)
  clear h1 h2 hs1 hs2
  by_cases hl : a.length = b.length
  · have d1 : (a.length != b.length) = false := by simp [hl]
    have HL := Lib.hid hl
    obtain ⟨n, hn⟩ : ∃ n, n = a.length := ⟨_, rfl⟩
    obtain ⟨m, hm⟩ : ∃ m, m = b.length := ⟨_, rfl⟩
    rw [← hn, ← hm] at d1
    rw [← hn] at ha9 hn1 ⊢
    rw [← hm] at hb9 hn2 ⊢
    have HNM : Hid (n = a.length ∧ m = b.length ∧ n = m) := Lib.hid ⟨hn, hm, by omega⟩
    clear hl hn hm
    go_enter Tryz.func13, Tryz.ntmps13
    repeat' (go_not_at_region 4; (first | go_skip | go_guarded | go_step))
    go_loopg [5, 13] n (fun gk v5 v13 wr => ∃ j : Nat, v13 = .int .i64 j ∧ j ≤ n ∧ n - j ≤ gk ∧ Ext w wr ∧ Hid (a.take j = b.take j))
    case atStart => exact ⟨0, rfl, Nat.zero_le _, Nat.le_refl _, Ext.refl _, Lib.hid rfl⟩
    case round =>
      obtain ⟨j, rfl, hjn, hgk, hE, HT⟩ := hrel
      rcases Nat.lt_or_ge j n with hlt | hge
      · have d2 : decide (j < n) = true := by simp [hlt]
        obtain ⟨x, hx⟩ := get_of_lt a (show j < a.length by have := HNM.out; omega)
        obtain ⟨y, hy⟩ := get_of_lt b (show j < b.length by have := HNM.out; omega)
        obtain ⟨b1, o1, rfl, hat1⟩ := (Seg.below HS.out.1 hE) (fun e => by have := encB_get hx; rw [e] at this; simp at this)
        obtain ⟨b2, o2, rfl, hat2⟩ := (Seg.below HS.out.2 hE) (fun e => by have := encB_get hy; rw [e] at this; simp at this)
        have q1 := hat1 j _ (encB_get hx)
        have q2 := hat2 j _ (encB_get hy)
        have hi1 : (j : Int) < (n : Int) := by omega
        have hi2 : (j : Int) < (m : Int) := by have := HNM.out; omega
        have HX := Lib.hid (And.intro hx hy)
        clear hat1 hat2 hx hy
        by_cases hxy : x = y
        · subst hxy
          have hne : ((x.toNat : Int) != (x.toNat : Int)) = false := by simp
          repeat' (go_not_at_region 6; (first | go_skip | go_guarded | go_step))
          go_quiet (fail)
          repeat' (first | go_skip | go_guarded | go_step)
          go_roundg (n - (j + 1))
          case measure => omega
          case rel => exact ⟨j + 1, by go_num, by omega, Nat.le_refl _, below_drewN hE _, Lib.hid (by rw [take_snoc HX.out.1, take_snoc HX.out.2, HT.out])⟩
        · have hxy' : x.toNat ≠ y.toNat := fun e => hxy (UInt8.toNat_inj.1 e)
          have hne : ((x.toNat : Int) != (y.toNat : Int)) = true := by rw [bne_iff_ne]; omega
          have hne' : (x.toNat != y.toNat) = true := by rw [bne_iff_ne]; exact hxy'
          have HF : Hid (decide (a = b) = false) := Lib.hid (by
            simp only [decide_eq_false_iff_not]
            intro e
            have h1 := HX.out.1
            rw [e, HX.out.2] at h1
            exact hxy (Option.some.inj h1).symm)
          clear hxy hxy'
          repeat' (go_not_at_region 6; (first | go_skip | go_guarded | go_step))
          go_quiet (fail)
          repeat' (first | go_skip | go_guarded | go_step)
          go_ret
          refine ⟨?_, below_drewN hE _⟩
          rw [HF.out]; rfl
      · obtain rfl : j = n := by omega
        have d2 : decide (j < j) = false := by simp
        have HF : Hid (decide (a = b) = true) := Lib.hid (by
          have := HT.out
          rw [List.take_of_length_le (by have := HNM.out; omega), List.take_of_length_le (by have := HNM.out; omega)] at this
          simp [this])
        repeat' (first | go_skip | go_guarded | go_step)
        go_ret
        refine ⟨?_, hE⟩
        rw [HF.out]; rfl
  · have d1 : (a.length != b.length) = true := by simp [hl]
    have HF : Hid (decide (a = b) = false) := Lib.hid (by simp only [decide_eq_false_iff_not]; intro e; exact hl (by rw [e]))
    clear hl
    go_enter Tryz.func13, Tryz.ntmps13
    repeat' (first | go_skip | go_guarded | go_step)
    go_ret
    refine ⟨?_, Ext.refl _⟩
    rw [HF.out]; rfl
end Go.Proofs.YtigoffdehdobiaaGreat
