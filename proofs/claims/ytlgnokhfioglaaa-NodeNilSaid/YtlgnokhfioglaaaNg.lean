/- Contract: slices.Insert of one pair into a row of one's own. -/
import Derived.Test.YtlgnokhfioglaaaNf
namespace Go.Proofs.Ytlgnokhfioglaaa
open Go.RowKit Go.QS Go.QS.Nk Go.Lib
set_option linter.unusedVariables false

abbrev PP : TypeId := 36
theorem flat_in (l : List Pr) (i : Nat) (p : Pr) : flat (l.take i ++ p :: l.drop i) = (flat l).take (i * 2) ++ encP p ++ (flat l).drop (i * 2) := by
  rw [flat_append, ← flat_take, ← flat_drop]
  simp [flat]

set_option maxRecDepth 100000 in
theorem pinsert_c (base : Nat) (w : World) (v : Value) (l : List Pr) (i vb : Nat) (p : Pr) (h : w.ownsRow base PP 2 v l.length (flat l)) (hi : i ≤ l.length) (hv : w.heap[vb]? = some (.cells #[str p.1, str p.2] PP (0, 0))) (hne : v.ownBlock ≠ some vb) (h9 : l.length ≤ 1000000000) (hbase : base ≤ w.heap.size) :
    Calls Try.prog 57 #[v, .int .i64 i, .slice (some ⟨vb, 0, none⟩) 1 1] w fun e w' => ∃ v', e = .returned v' ∧ w'.ownsRow base PP 2 v' (l.take i ++ p :: l.drop i).length (flat (l.take i ++ p :: l.drop i)) ∧ w.grownBy w' v.ownBlock ∧ (v'.ownBlock = v.ownBlock ∨ v'.ownBlock = some w.heap.size) := by
  have hlen : (l.take i ++ p :: l.drop i).length = l.length + 1 := by simp; omega
  rw [hlen, flat_in]
  have hvs : ∀ j u, (encP p)[j]? = some u → w.cell? ⟨vb, 0 + j, none⟩ = some u := by
    intro j u hj
    rw [seg_of_heap hv, Nat.zero_add]
    simpa [encP] using hj
  have h1v : ∀ u ∈ encP p, u.oneCell' = true := by intro u hu; simp [encP] at hu; rcases hu with rfl | rfl <;> rfl
  have hpl := flat_length l
  have hel : (encP p).length = 2 := rfl
  rcases Nat.lt_or_ge i l.length with hin | hin
  · rcases h.2 with ⟨rfl, h0⟩ | ⟨g, cap, cur, rfl, hg, hh, hnc, hcm, hsz, htk⟩
    · omega
    · have hcs : ∀ j u, (flat l)[j]? = some u → w.cell? ⟨g, 0 + j, none⟩ = some u := by
        intro j u hj
        rw [seg_of_heap hh, Nat.zero_add, ← Array.getElem?_toList]
        rw [← htk, List.getElem?_take] at hj
        split at hj
        · exact hj
        · cases hj
      have hfz : ∀ j, w.frozen? ⟨g, j, none⟩ = false := fun j => by simp [World.frozen?, hh]
      have hsp : ∀ j, j < cap * 2 → (w.cell? ⟨g, 0 + j, none⟩).isSome = true := by
        intro j hj
        rw [seg_of_heap hh, Nat.zero_add, Array.getElem?_eq_getElem (by omega)]; rfl
      have hgw := heap_lt hh
      have hgb : vb ≠ g := fun e => hne (by rw [e]; rfl)
      have hcm' : cap ≤ 9223372036854775807 := by unfold maxLen at hcm; omega
      have hl1 : cur.toList.length = cap * 2 := by simpa using hsz
      rcases Nat.lt_or_ge cap (l.length + 1) with hroom | hroom
      · refine (pinsert_grow g 0 l.length cap i vb 0 1 1 (flat l) (encP p) w hin (by decide) hnc hroom (by omega) hpl rfl hcs hvs (flat_one _) h1v).mono ?_
        rintro e w' ⟨rfl, rfl⟩
        obtain ⟨G, hG⟩ : ∃ G, G = grownCap w (l.length + 1) cap PP := ⟨_, rfl⟩
        have hG1 : l.length + 1 ≤ G := by rw [hG]; exact grownCap_ge w _ _ _
        have hG2 : G ≤ maxLen := by rw [hG]; exact grownCap_le_maxLen w _ _ _ (by unfold maxLen; omega)
        rw [← hG]
        obtain ⟨R, hR⟩ : ∃ R : Array Value, R = ((flat l).take (i * 2)).toArray ++ Builtin.zeroCells zP.cells (l.length + 1 - i) ++ Builtin.zeroCells zP.cells (G - (l.length + 1)) := ⟨_, rfl⟩
        rw [← hR]
        have hz2 : zP.cells.size = 2 := rfl
        have hRs : R.size = G * 2 := by
          rw [hR]
          simp only [Array.size_append, size_zeroCells, hz2, List.size_toArray, List.length_take, hpl]
          omega
        have hRt : R.toList.take (i * 2) = (flat l).take (i * 2) := by
          rw [hR]
          simp only [Array.toList_append, List.append_assoc]
          rw [List.take_append_of_le_length (by simp only [List.length_take, hpl]; omega), List.take_take, Nat.min_self]
        have hR0 : ((w.alloc (.cells R PP)).drew).heap[w.heap.size]? = some (.cells R PP (0, 0)) := heap_new w _
        have hdl : ((flat l).drop (i * 2)).length = (l.length - i) * 2 := by rw [List.length_drop, hpl]; omega
        obtain ⟨c1, k1, k2, k3⟩ := heap_setCells w.heap.size PP (0, 0) (encP p) (i * 2) _ _ hR0 (by rw [hel]; omega)
        obtain ⟨c2, k4, k5, k6⟩ := heap_setCells w.heap.size PP (0, 0) ((flat l).drop (i * 2)) ((i + 1) * 2) ((((w.alloc (.cells R PP)).drew).setCells w.heap.size (i * 2) (encP p)).drew) _ k1 (by omega)
        refine ⟨_, rfl, ⟨by simp [hel]; omega, .inr ⟨w.heap.size, G, c2, rfl, hbase, k4, hG1, hG2, by omega, ?_⟩⟩, ?_, .inr rfl⟩
        · have e1 : c1.toList.take ((i + 1) * 2) = (flat l).take (i * 2) ++ encP p := by
            rw [k3, hRt]
            rw [List.take_append_of_le_length (by simp [hel]; omega)]
            rw [List.take_of_length_le (by simp [hel]; omega)]
          rw [k6, e1]
          rw [List.take_append_of_le_length (by simp [hel]; omega), List.take_of_length_le (by simp [hel]; omega)]
        · refine (grown_ext' ?_ : w.grownBy _ _)
          exact Go.QS.Nk.below_setCells _ (Nat.le_refl _) _ _ _ (Below.drew (Go.QS.Nk.below_setCells _ (Nat.le_refl _) _ _ _ ((Ext.refl w).alloc (Nat.le_refl _) _).drew))
      · refine (pinsert_shift g 0 l.length cap i vb 0 1 1 (flat l) (encP p) w hin (by decide) hroom hcm' hgb hpl rfl hcs (fun j hj => hsp j (by omega)) (fun j hj => hfz _) hvs (flat_one _) h1v PP PP 2 (cap * 2) (by simp [World.shape?, hv]) (by simp [World.shape?, hh, hsz]) (by omega) (by simp [World.frozen?, hv]) (by simp [World.frozen?, hv])).mono ?_
        rintro e w' ⟨rfl, rfl⟩
        rw [Nat.zero_add, Nat.zero_add]
        have hdl : ((flat l).drop (i * 2)).length = (l.length - i) * 2 := by rw [List.length_drop, hpl]; omega
        obtain ⟨c1, k1, k2, k3⟩ := heap_setCells g PP (0, 0) ((flat l).drop (i * 2)) ((i + 1) * 2) w.drew _ hh (by omega)
        obtain ⟨c2, k4, k5, k6⟩ := heap_setCells g PP (0, 0) (encP p) (i * 2) (w.drew.setCells g ((i + 1) * 2) ((flat l).drop (i * 2))) _ k1 (by rw [hel]; omega)
        refine ⟨_, rfl, ⟨by simp [hel]; omega, .inr ⟨g, cap, c2, rfl, hg, k4, hroom, hcm, by omega, ?_⟩⟩, ?_, .inl rfl⟩
        · have e1 : c1.toList.take (i * 2) = (flat l).take (i * 2) := by
            rw [k3, List.append_assoc, List.take_append_of_le_length (by simp; omega), List.take_take, Nat.min_eq_left (by omega), ← htk, List.take_take, Nat.min_eq_left (by omega)]
          have e2 : c1.toList.drop ((i + 1) * 2) = (flat l).drop (i * 2) ++ cur.toList.drop ((i + 1) * 2 + ((flat l).drop (i * 2)).length) := by
            rw [k3, List.append_assoc]
            exact List.drop_left' (by simp; omega)
          rw [k6, e1, hel, show i * 2 + 2 = (i + 1) * 2 by omega, e2, ← List.append_assoc, List.take_append_of_le_length (by simp [hel]; omega), List.take_of_length_le (by simp [hel]; omega)]
        · exact World.grownBy.trans (grown_ext' (Ext.refl w).drew) (World.grownBy.trans (grown_setCells g _ _ _) (grown_setCells g _ _ _))
  · have hie : i = l.length := by omega
    subst hie
    have ht : (flat l).take (l.length * 2) = flat l := List.take_of_length_le (by rw [hpl]; omega)
    have hd : (flat l).drop (l.length * 2) = [] := List.drop_eq_nil_of_le (by rw [hpl]; omega)
    rw [ht, hd, List.append_nil]
    exact pinsert_end base l.length w v (flat l) (encP p) vb h rfl hvs h1v h9 hbase
end Go.Proofs.Ytlgnokhfioglaaa
