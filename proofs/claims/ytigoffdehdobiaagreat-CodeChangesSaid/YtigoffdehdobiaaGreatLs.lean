/- Contracts: the document's Less, Drop, Put. -/
import Derived.Test.YtigoffdehdobiaaGreatRows
import Derived.Test.YtigoffdehdobiaaGreatM10
import Derived.Test.YtigoffdehdobiaaGreatM04
import Derived.Test.YtigoffdehdobiaaGreatM07
import Derived.Test.YtigoffdehdobiaaGreatM05
import Derived.Deep.LoopGhost
import Derived.StillTailTactics
set_option linter.unusedVariables false
set_option linter.unusedSimpArgs false
namespace Go.Proofs.YtigoffdehdobiaaGreat
open Go.RowKit Go.QS
set_option linter.unusedVariables false

abbrev zPl : Value := .agg #[.string ⟨#[]⟩, .string ⟨#[]⟩]
theorem infoP : ∃ i z, Tryz.prog.info? 70 = some i ∧ i.zero = some z ∧ i.size = 2 ∧ i.bytes = 32 ∧ z.cells.size = 2 := info_of (z := zPl) (by kernel_rfl) rfl
set_option maxRecDepth 100000 in
theorem less_c' (w : World) (a b : List UInt8) (ha : a.length ≤ 9223372036854775807) :
    Calls Tryz.prog 56 #[str a, str b] w fun e w' => e = .returned (.bool (decide (a < b))) ∧ Ext w w' := by
  go_enter Tryz.func56, Tryz.ntmps56
  repeat' go_step
  go_loopg [5] a.length (fun gk vk wr => ∃ k : Nat, vk = .int .i64 k ∧ k ≤ a.length ∧ k ≤ b.length ∧ a.length - k ≤ gk ∧ Ext w wr ∧ Hid (a.take k = b.take k))
  case atStart => exact ⟨0, rfl, Nat.zero_le _, Nat.zero_le _, Nat.le_refl _, Ext.refl _, Lib.hid rfl⟩
  case round =>
    obtain ⟨k, rfl, hka, hkb, hgk, hE, HT⟩ := hrel
    by_cases h1 : k < a.length
    · have d1 : decide (k < a.length) = true := by simp [h1]
      by_cases h2 : k < b.length
      · have d2 : decide (k < b.length) = true := by simp [h2]
        obtain ⟨x, hx⟩ := get_of_lt a h1
        obtain ⟨y, hy⟩ := get_of_lt b h2
        have i1 := idx_str Tryz.underlying9 hx
        have i2 := idx_str Tryz.underlying9 hy
        have HX : Hid (_ ∧ _) := Lib.hid ⟨hx, hy⟩
        clear hx hy
        by_cases hxy : x = y
        · subst hxy
          have hne : ((x.toNat : Int) != (x.toNat : Int)) = false := by simp
          repeat' (first | go_skip | go_guarded | go_step)
          go_quiet (fail)
          repeat' go_step
          go_roundg (a.length - (k + 1))
          case measure => omega
          case rel => exact ⟨k + 1, by go_num, by omega, by omega, Nat.le_refl _, below_drewN hE _, Lib.hid (by rw [take_snoc HX.out.1, take_snoc HX.out.2, HT.out])⟩
        · have hxy' : x.toNat ≠ y.toNat := fun e => hxy (UInt8.toNat_inj.1 e)
          have hne : ((x.toNat : Int) != (y.toNat : Int)) = true := by rw [bne_iff_ne]; omega
          have hne' : (x.toNat != y.toNat) = true := by rw [bne_iff_ne]; exact hxy'
          have HL := Lib.hid (less_at HT.out HX.out.1 HX.out.2 hxy)
          clear hxy hxy'
          repeat' (first | go_skip | go_guarded | go_step)
          go_quiet (fail)
          repeat' go_step
          go_quiet (fail)
          repeat' go_step
          go_ret
          refine ⟨?_, below_drewN (below_drewN hE _) _⟩
          have : decide (a < b) = decide (x.toNat < y.toNat) := by simp [HL.out]
          rw [this]; rfl
      · have d2 : decide (k < b.length) = false := by simp; omega
        have HL := Lib.hid (less_pre HT.out (.inr (by omega)) hka hkb)
        repeat' (first | go_skip | go_guarded | go_step)
        go_ret
        refine ⟨?_, hE⟩
        have : decide (a < b) = decide (a.length < b.length) := by simp [HL.out]
        rw [this]; rfl
    · have d1 : decide (k < a.length) = false := by simp; omega
      have HL := Lib.hid (less_pre HT.out (.inl (by omega)) hka hkb)
      repeat' (first | go_skip | go_guarded | go_step)
      go_ret
      refine ⟨?_, hE⟩
      have : decide (a < b) = decide (a.length < b.length) := by simp [HL.out]
      rw [this]; rfl

theorem rdrop_snoc {l : List Pr} {k : List UInt8} {i : Nat} {q : Pr} (h : l[i]? = some q) : rdrop (l.take (i + 1)) k = if q.1 = k then rdrop (l.take i) k else rdrop (l.take i) k ++ [q] := by
  rw [take_snoc h]
  unfold rdrop
  rw [List.filter_append]
  by_cases e : q.1 = k
  · simp [e]
  · simp [e]

/-- Has Put found its place? -/
def plB (p : Pr) (L : List Pr) : Bool := L.any fun x => decide (p.1 < x.1)
theorem insB_pl (p : Pr) (R : List Pr) : ∀ (L : List Pr), plB p L = true → insB p (L ++ R) = insB p L ++ R
  | [], h => by cases h
  | x :: L, h => by
    by_cases hx : p.1 < x.1
    · simp [insB, hx]
    · have : plB p L = true := by
        have h' : (decide (p.1 < x.1) || plB p L) = true := h
        simpa [hx] using h'
      simp [insB, hx, insB_pl p R L this]
theorem insB_no (p : Pr) (R : List Pr) : ∀ (L : List Pr), plB p L = false → insB p (L ++ R) = L ++ insB p R
  | [], _ => rfl
  | x :: L, h => by
    have h' : (decide (p.1 < x.1) || plB p L) = false := h
    rw [Bool.or_eq_false_iff, decide_eq_false_iff_not] at h'
    simp [insB, h'.1, insB_no p R L h'.2]
theorem plB_snoc (p : Pr) (L : List Pr) (q : Pr) : plB p (L ++ [q]) = (plB p L || decide (p.1 < q.1)) := by simp [plB]
theorem insB_length (p : Pr) : ∀ (l : List Pr), (insB p l).length = l.length + 1
  | [] => rfl
  | x :: l => by unfold insB; split <;> simp [insB_length p l]
/-- Behind k rounds of Put's loop: what has been collected. -/
def putTo (p : Pr) (L : List Pr) : List Pr := if plB p L then insB p L else L
theorem putTo_length (p : Pr) (L : List Pr) : (putTo p L).length ≤ L.length + 1 := by
  unfold putTo
  split
  · rw [insB_length]; omega
  · omega
theorem putTo_pl {p q : Pr} {L : List Pr} (h : plB p L = true) : putTo p (L ++ [q]) = putTo p L ++ [q] ∧ plB p (L ++ [q]) = true := by
  have h2 : plB p (L ++ [q]) = true := by rw [plB_snoc, h]; rfl
  refine ⟨?_, h2⟩
  unfold putTo
  rw [h, h2, if_pos rfl, if_pos rfl, insB_pl p [q] L h]
theorem putTo_now {p q : Pr} {L : List Pr} (h : plB p L = false) (hq : p.1 < q.1) : putTo p (L ++ [q]) = putTo p L ++ [p, q] ∧ plB p (L ++ [q]) = true := by
  have h2 : plB p (L ++ [q]) = true := by rw [plB_snoc, h]; simp [hq]
  refine ⟨?_, h2⟩
  unfold putTo
  rw [h, h2, if_pos rfl, insB_no p [q] L h]
  simp [insB, hq]
theorem putTo_not {p q : Pr} {L : List Pr} (h : plB p L = false) (hq : ¬ p.1 < q.1) : putTo p (L ++ [q]) = putTo p L ++ [q] ∧ plB p (L ++ [q]) = false := by
  have h2 : plB p (L ++ [q]) = false := by rw [plB_snoc, h]; simp [hq]
  refine ⟨?_, h2⟩
  unfold putTo
  rw [h, h2]; rfl
theorem putTo_end {p : Pr} {L : List Pr} : insB p L = if plB p L then putTo p L else putTo p L ++ [p] := by
  unfold putTo
  cases h : plB p L with
  | true => rfl
  | false =>
    have := insB_no p [] L h
    simpa [insB] using this

theorem two_cell {w w' : World} {g : Nat} {a b : Value} {t : TypeId} (hg : g = w.heap.size) (hb : Below (w.alloc (.cells #[a, b] t)).heap.size (w.alloc (.cells #[a, b] t)) w') : w'.cell? ⟨g, 0, none⟩ = some a ∧ w'.cell? ⟨g, 1, none⟩ = some b := by
  subst hg
  exact ⟨(hb.cell (p := ⟨w.heap.size, 0, none⟩) (by simp)).trans (by rw [World.cell?_alloc_at _ _ _ _ rfl]; rfl), (hb.cell (p := ⟨w.heap.size, 1, none⟩) (by simp)).trans (by rw [World.cell?_alloc_at _ _ _ _ rfl]; rfl)⟩

theorem app_keep {w0 w w' : World} {base : Nat} {e : TypeId} {k n : Nat} {v : Value} {xs : List Value} {g j : Nat} {u : Value} (hown : w0.ownsRow base e k v n xs) (hg0 : w0.heap.size ≤ g) (hg : w.grownBy w' v.ownBlock) (hc : w.cell? ⟨g, j, none⟩ = some u) : w'.cell? ⟨g, j, none⟩ = some u :=
  hg.cell hc (fun e => by have := (hown.lt g e.symm).2; omega)

end Go.Proofs.YtigoffdehdobiaaGreat
