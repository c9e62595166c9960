/- Contract: slices.Delete of one kid. -/
import Derived.Test.YtlgnokhfioglaaaNi
import Derived.Shelf.SlicesQ.Reverse
import Derived.Lib.RowBridge
import Derived.Shelf.SlicesE.Delete
namespace Go.Proofs.Ytlgnokhfioglaaa
open Go.RowKit Go.QS Go.QS.Nk Go.Shelf Go.Sort
set_option linter.unusedVariables false

def kdelRen : Go.Shelf.Ren := ⟨fun | 45 => 87 | x => x, fun | 0 => 0 | 3 => 3 | 4 => 4 | 22 => 51 | 23 => 32 | x => x, fun x => x⟩

theorem kdelLay : SlLaysE.n45 Try.prog kdelRen := {
  mixed := by kernel_rfl
  f45 := ⟨Try.f87.name, by decide, by kernel_rfl⟩
  t0 := Try.underlying0
  a0 := Try.isAgg0
  z0 := Try.sizeOf0
  v0 := Try.zeroValue0
  t3 := Try.underlying3
  a3 := Try.isAgg3
  z3 := Try.sizeOf3
  v3 := Try.zeroValue3
  t4 := Try.underlying4
  a4 := Try.isAgg4
  z4 := Try.sizeOf4
  v4 := Try.zeroValue4
  t22 := Try.underlying51
  a22 := Try.isAgg51
  z22 := Try.sizeOf51
  v22 := Try.zeroValue51
  a23 := Try.isAgg32
  z23 := Try.sizeOf32 }

def encN (o : Option Nat) : Value := .pointer (o.map fun g => ⟨g, 0, none⟩)
theorem encN_some (l : List Nat) : (l.map some).map encN = ptrs l := by
  simp only [List.map_map, ptrs]
  exact List.map_congr_left fun g _ => rfl

theorem infoK1 : ∃ i z, Try.prog.info? 32 = some i ∧ i.zero = some z ∧ i.size = 1 ∧ i.bytes = 8 ∧ z.cells.size = 1 := info_of (z := .pointer none) (by kernel_rfl) rfl

theorem kdelete_c (base : Nat) (w : World) (v : Value) (ps : List Nat) (i : Nat) (h : w.ownsRow base KP 1 v ps.length (ptrs ps)) (hi : i < ps.length) (h9 : ps.length ≤ 1000000000) :
    Calls Try.prog 87 #[v, .int .i64 i, .int .i64 ((i + 1 : Nat) : Int)] w fun e w' => ∃ v', e = .returned v' ∧ w'.ownsRow base KP 1 v' (ps.take i ++ ps.drop (i + 1)).length (ptrs (ps.take i ++ ps.drop (i + 1))) ∧ w.grownBy w' v.ownBlock ∧ v'.ownBlock = v.ownBlock := by
  rcases h.2 with ⟨rfl, h0⟩ | ⟨g, cap, cur, rfl, hg, hh, hnc, hcm, hsz, htk⟩
  · omega
  · obtain ⟨d, hd⟩ : ∃ d : Array (Option Nat), d = (ps.map some).toArray := ⟨_, rfl⟩
    have hdl : d.size = ps.length := by rw [hd]; simp
    have hdt : d.toList = ps.map some := by rw [hd]
    have hH : Holds encN w g 0 d := by
      intro j hj
      refine ⟨?_, by simp [World.frozen?, hh]⟩
      rw [Nat.zero_add, seg_of_heap hh, ← Array.getElem?_toList]
      have hj' : j < ps.length := by omega
      have e1 : (ptrs ps)[j]? = cur.toList[j]? := by rw [← htk, List.getElem?_take_of_lt (by omega)]
      rw [← e1, getElem!_pos d j hj]
      simp [ptrs, hd, encN, List.getElem?_eq_getElem hj']
    obtain ⟨i0, z0, hi0, hz0, hz1, hz2, hz3⟩ := infoK1
    have hc := AnyE.slices_Delete kdelLay encN (fun _ => rfl) none Try.zeroValue32 i0 hi0 hz1 g 0 cap i (i + 1) d w hH (by omega) (by unfold maxLen at hcm; omega) (by omega) (by omega)
    change Calls Try.prog 87 #[.slice (some ⟨g, 0, none⟩) d.size cap, .int .i64 i, .int .i64 ((i + 1 : Nat) : Int)] w _ at hc
    rw [hdl] at hc
    refine hc.mono ?_
    rintro e w' ⟨rfl, n, rfl⟩
    obtain ⟨nl, hnl⟩ : ∃ nl, nl = d.toList.take i ++ d.toList.drop (i + 1) ++ List.replicate (i + 1 - i) (none : Option Nat) := ⟨_, rfl⟩
    have hnlen : nl.length = ps.length := by rw [hnl, hdt]; simp; omega
    have hw : putRow encN (Sort.ahead w n) g 0 nl.toArray = (w.drewN n).setCells g 0 (nl.map encN) := Lib.putRow_eq_setCells encN w g 0 d nl n hH (by rw [hnlen, hdl])
    rw [← hnl, hw]
    have hcl : nl.map encN = ptrs (ps.take i ++ ps.drop (i + 1)) ++ [encN none] := by
      rw [hnl, hdt, show i + 1 - i = 1 by omega, List.map_append, List.map_append, ← List.map_take, ← List.map_drop, encN_some, encN_some, ptrs_append]
      rfl
    have hkl : (ps.take i ++ ps.drop (i + 1)).length = ps.length - 1 := by simp; omega
    obtain ⟨c1, k1, k2, k3⟩ := heap_setCells g KP (0, 0) (nl.map encN) 0 (w.drewN n) cur hh (by simp [hnlen]; omega)
    refine ⟨.slice (some ⟨g, 0, none⟩) (ps.length - 1) cap, by rw [show ps.length - (i + 1 - i) = ps.length - 1 by omega], ?_, World.grownBy.trans (grown_ext' (below_drewN (Ext.refl w) n)) (grown_setCells g _ _ _), rfl⟩
    rw [hkl]
    refine ⟨by rw [ptrs_length, hkl]; simp, .inr ⟨g, cap, c1, rfl, hg, k1, by omega, hcm, by omega, ?_⟩⟩
    rw [k3, List.take_zero, List.nil_append, hcl]
    rw [List.append_assoc, List.take_left' (by rw [ptrs_length, hkl]; simp)]
end Go.Proofs.Ytlgnokhfioglaaa
