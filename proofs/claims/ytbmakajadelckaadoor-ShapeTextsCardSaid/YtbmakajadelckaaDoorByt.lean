/- Slices of bytes that read as lists. No function of the program is named here. -/
import Derived.Test.YtbmakajadelckaaDoorVoc
import Derived.Laws.BytesArg
import Derived.Deep.OwnRows
set_option linter.unusedVariables false
set_option linter.unusedSimpArgs false
namespace Go.QS
open Go.RowKit

def encB (l : List UInt8) : List Value := l.map fun b => .int .u8 (b.toNat : Int)
theorem encB_length (l : List UInt8) : (encB l).length = l.length := by simp [encB]
theorem encB_one (l : List UInt8) : ∀ u ∈ encB l, u.oneCell' = true := by
  intro u hu
  obtain ⟨b, _, rfl⟩ := List.mem_map.1 hu
  rfl
theorem encB_append (a b : List UInt8) : encB (a ++ b) = encB a ++ encB b := by simp [encB]
theorem encB_get {l : List UInt8} {i : Nat} {b : UInt8} (h : l[i]? = some b) : (encB l)[i]? = some (.int .u8 (b.toNat : Int)) := by simp [encB, h]
/-- A slice of bytes. -/
def BS (w : World) (v : Value) (l : List UInt8) : Prop := Sl w 1 v l.length (encB l)
theorem BS.below {w w' : World} {v : Value} {l : List UInt8} (h : BS w v l) (hb : Below w.heap.size w w') : BS w' v l := Sl.below h hb
theorem BS.of_own {w : World} {base : Nat} {e : TypeId} {v : Value} {l : List UInt8} (h : w.ownsRow base e 1 v l.length (encB l)) : BS w v l := Sl.of_own h

/-- string(b). -/
theorem conv_bs {P : Program} {src e dst : TypeId} (hs : P.underlying src = some (.slice e)) (he : P.underlying e = some (.int .u8)) (hd : P.underlying dst = some .string) {w : World} {v : Value} {l : List UInt8} (h : BS w v l) :
    (convert src dst v).run P w = .ok (str l) w := by
  obtain ⟨A, c, rfl, hl, hn, hc, hseg⟩ := h
  cases l with
  | nil =>
    simp only [List.length_nil]
    cases A with
    | none => rw [run_convert_bytes_nil w src e hs he 0 c dst hd]; rfl
    | some a =>
      rw [run_convert_bytes_string w src dst e _ 0 c hs he hd]
      have hl : (loadCells a 0).run P w = .ok ([] : List Value).toArray w := by simp [loadCells, loadCellsFrom]
      have := run_bytesToString (P := P) w a 0 c [] hl
      rw [this]; rfl
  | cons x r =>
    obtain ⟨b, o, rfl, hat⟩ := hseg (by simp [encB])
    have := run_convert_bytes_arg (P := P) w src e hs he b o (x :: r).length c ((x :: r).map fun b => (b.toNat : Int)) (by simp) (fun i hi => by
      obtain ⟨y, hy⟩ := get_of_lt (x :: r) hi
      have e1 := hat i _ (encB_get hy)
      rw [e1]
      congr 2
      rw [List.getD_eq_getElem?_getD, List.getElem?_map, hy]; rfl) dst hd
    rw [this]
    congr 2
    simp only [strOfNums, bs, List.map_map]
    congr 2
    conv => rhs; rw [← List.map_id (x :: r)]
    refine List.map_congr_left fun b _ => ?_
    simp

/-- make([]byte, n). -/
theorem made_own {w : World} {e : TypeId} (n : Nat) (hn : n ≤ maxLen) {base : Nat} (hb : base ≤ w.heap.size) :
    (w.alloc (.cells (madeCells #[.int .u8 0] n) e)).ownsRow base e 1 (.slice (some ⟨w.heap.size, 0, none⟩) n n) n (encB (List.replicate n 0)) := by
  have h := World.ownsRow_lit (base := base) (e := e) (size := 1) w (madeCells #[.int .u8 0] n) n hb hn (by simp [madeCells])
  rw [toList_madeCells_one] at h
  have e2 : encB (List.replicate n 0) = List.replicate n (Value.int .u8 0) := by simp [encB]
  rw [e2]
  exact h
end Go.QS
