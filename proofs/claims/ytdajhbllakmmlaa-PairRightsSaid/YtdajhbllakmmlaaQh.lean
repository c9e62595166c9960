/- Contracts: Right; PairRights. -/
import Derived.Test.YtdajhbllakmmlaaPn
import Derived.Test.YtdajhbllakmmlaaByt
import Derived.Deep.DeepCutAuto
namespace Go.Proofs.Ytdajhbllakmmlaa
open Go.RowKit Go.QS
set_option linter.unusedVariables false

/-- What Right answers. -/
def rightN (a b : Nat) : Int := if 256 < a then 2 else if 4096 < b then 3 else 0

set_option maxRecDepth 100000 in
theorem right_c (w : World) (k v : List UInt8) : Calls Try.prog 17 #[str k, str v] w fun e w' => e = .returned (.int .i64 (rightN k.length v.length)) ∧ w = w' := by
  by_cases h1 : 256 < k.length
  · have d1 : (256 : Int) < (k.length : Int) := by omega
    have H := Lib.hid h1
    clear h1
    go_enter Try.func17, Try.ntmps17
    repeat' go_step
    all_goals go_ret
    exact ⟨by simp [rightN, H.out], rfl⟩
  · by_cases h2 : 4096 < v.length
    · have d1 : ¬ (256 : Int) < (k.length : Int) := by omega
      have d2 : (4096 : Int) < (v.length : Int) := by omega
      have H := Lib.hid h1; have H' := Lib.hid h2
      clear h1 h2
      go_enter Try.func17, Try.ntmps17
      repeat' go_step
      all_goals go_ret
      exact ⟨by simp [rightN, H.out, H'.out], rfl⟩
    · have d1 : ¬ (256 : Int) < (k.length : Int) := by omega
      have d2 : ¬ (4096 : Int) < (v.length : Int) := by omega
      have H := Lib.hid h1; have H' := Lib.hid h2
      clear h1 h2
      go_enter Try.func17, Try.ntmps17
      repeat' go_step
      all_goals go_ret
      exact ⟨by simp [rightN, H.out, H'.out], rfl⟩

set_option maxRecDepth 100000 in
theorem rright_c (w : World) (k v : List UInt8) : Calls Try.prog 18 #[str k, str v] w fun e w' => e = .returned (.int .i64 (rightN k.length v.length)) ∧ w = w' := by
  by_cases h1 : 256 < k.length
  · have d1 : (256 : Int) < (k.length : Int) := by omega
    have H := Lib.hid h1
    clear h1
    go_enter Try.func18, Try.ntmps18
    repeat' go_step
    all_goals go_ret
    exact ⟨by simp [rightN, H.out], rfl⟩
  · by_cases h2 : 4096 < v.length
    · have d1 : ¬ (256 : Int) < (k.length : Int) := by omega
      have d2 : (4096 : Int) < (v.length : Int) := by omega
      have H := Lib.hid h1; have H' := Lib.hid h2
      clear h1 h2
      go_enter Try.func18, Try.ntmps18
      repeat' go_step
      all_goals go_ret
      exact ⟨by simp [rightN, H.out, H'.out], rfl⟩
    · have d1 : ¬ (256 : Int) < (k.length : Int) := by omega
      have d2 : ¬ (4096 : Int) < (v.length : Int) := by omega
      have H := Lib.hid h1; have H' := Lib.hid h2
      clear h1 h2
      go_enter Try.func18, Try.ntmps18
      repeat' go_step
      all_goals go_ret
      exact ⟨by simp [rightN, H.out, H'.out], rfl⟩

theorem infoB : (Try.prog.info? 5).map (fun i => (i.zero, i.size, i.bytes)) = some (some (.int .u8 0), 1, 1) := by kernel_rfl

set_option maxRecDepth 100000 in
set_option maxHeartbeats 1000000 in
theorem pairRights_c (w : World) (n m : Nat) (b : UInt8) (hn : n ≤ 65535) (hm : m ≤ 65535) :
    Calls Try.prog 5 #[.int .u16 (n : Int), .int .u16 (m : Int), .int .u8 (b.toNat : Int)] w fun e w' => e = .returned (.bool true) ∧ Ext w w' := by
  obtain ⟨n1, hn1⟩ : ∃ n1, n1 = n % 300 := ⟨_, rfl⟩
  obtain ⟨m1, hm1⟩ : ∃ m1, m1 = m % 4200 := ⟨_, rfl⟩
  have mk1 := fun w : World => run_make_row' (P := Try.prog) 34 5 (.int .u8 0) 1 Try.underlying34 infoB rfl .i64 .i64 n1 (by omega) (by omega) w
  have mk2 := fun w : World => run_make_row' (P := Try.prog) 34 5 (.int .u8 0) 1 Try.underlying34 infoB rfl .i64 .i64 m1 (by omega) (by omega) w
  have r1 : (n : Int) % 300 = (n1 : Int) := by omega
  have r2 : (m : Int) % 4200 = (m1 : Int) := by omega
  have HN := Lib.hid hn1; have HM := Lib.hid hm1
  have hn9 : n1 ≤ 300 := by omega
  have hm9 : m1 ≤ 4200 := by omega
  clear hn1 hm1
  go_enter Try.func5, Try.ntmps5
  repeat' go_step
  refine (awake_c _).mono ?_
  rintro e w1 ⟨rfl, hb1⟩
  go_simp
  repeat' (go_not_at_region 3; go_step)
  go_cut [7, 8] (fun v7 v8 wx => ∃ g1 g2 : Nat, v7 = .slice (some ⟨g1, 0, none⟩) n1 n1 ∧ v8 = .slice (some ⟨g2, 0, none⟩) m1 m1 ∧ g1 ≠ g2 ∧ Ext w wx ∧
    Hid (wx.ownsRow w.heap.size 5 1 (.slice (some ⟨g1, 0, none⟩) n1 n1) n1 (encB (List.replicate n1 0)) ∧ wx.ownsRow w.heap.size 5 1 (.slice (some ⟨g2, 0, none⟩) m1 m1) m1 (encB (List.replicate m1 0))))
  case first =>
    go_region
    · repeat' go_step
      go_meet
      refine ⟨_, _, rfl, rfl, by simp, ((hb1.alloc hb1.size _).alloc (by simp; have := hb1.size; omega) _).drew, Lib.hid ⟨?_, ?_⟩⟩
      · exact (made_own n1 (by unfold maxLen; omega) hb1.size).alloc _
      · have := made_own (w := w1.alloc (Obj.cells (madeCells #[Value.int IntKind.u8 0] n1) 5)) (e := 5) m1 (by unfold maxLen; omega) (base := w.heap.size) (by simp; have := hb1.size; omega)
        rw [show (w1.alloc (Obj.cells (madeCells #[Value.int IntKind.u8 0] n1) 5)).heap.size = w1.heap.size + 1 by simp] at this
        exact this
    · repeat' go_step
      go_meet
      refine ⟨_, _, rfl, rfl, by simp, ((hb1.alloc hb1.size _).alloc (by simp; have := hb1.size; omega) _).drew, Lib.hid ⟨?_, ?_⟩⟩
      · have := made_own (w := w1.alloc (Obj.cells (madeCells #[Value.int IntKind.u8 0] m1) 5)) (e := 5) n1 (by unfold maxLen; omega) (base := w.heap.size) (by simp; have := hb1.size; omega)
        rw [show (w1.alloc (Obj.cells (madeCells #[Value.int IntKind.u8 0] m1) 5)).heap.size = w1.heap.size + 1 by simp] at this
        exact this
      · exact (made_own m1 (by unfold maxLen; omega) hb1.size).alloc _
  case rest =>
    obtain ⟨g1, g2, rfl, rfl, hg, hE, HO⟩ := hcut
    repeat' go_step
    go_loopg [24] n1 (fun gk vk wr => ∃ k : Nat, vk = .int .i64 k ∧ k ≤ n1 ∧ n1 - k ≤ gk ∧ Ext w wr ∧ Hid (∃ l : List UInt8, l.length = n1 ∧ wr.ownsRow w.heap.size 5 1 (.slice (some ⟨g1, 0, none⟩) n1 n1) n1 (encB l) ∧ wr.ownsRow w.heap.size 5 1 (.slice (some ⟨g2, 0, none⟩) m1 m1) m1 (encB (List.replicate m1 0))))
    case atStart => exact ⟨0, rfl, Nat.zero_le _, by omega, hE, Lib.hid ⟨_, by simp, HO.out.1, HO.out.2⟩⟩
    case round =>
      obtain ⟨k, rfl, hk, hgk, hE2, HL⟩ := hrel
      obtain ⟨l, hl, o1, o2⟩ := HL.out
      have HK : Hid (_ ∧ _ ∧ _) := Lib.hid ⟨hl, o1, o2⟩
      rcases Nat.lt_or_ge k n1 with hlt | hge
      · have d1 : decide (k < n1) = true := by simp [hlt]
        obtain ⟨x, hx⟩ := get_of_lt l (show k < l.length by omega)
        have hc := (World.ownsRow.cellAt o1 k (by omega)).trans (encB_get hx)
        have hf := World.ownsRow.frozenAt o1 k
        have hi1 : (k : Int) < (n1 : Int) := by omega
        have hgb := (World.ownsRow.lt o1 g1 rfl).1
        clear hl o1 o2 hx
        repeat' go_step
        go_roundg (n1 - (k + 1))
        case measure => omega
        case rel =>
          obtain ⟨hl, o1, o2⟩ := HK.out
          have h1 := (World.ownsRow.stored o1 k (.int .u8 (b.toNat : Int))).1
          have h2 : wr.grownBy (wr.setCell ⟨g1, k, none⟩ (.int .u8 (b.toNat : Int))) (some g1) := (World.ownsRow.stored o1 k (.int .u8 (b.toNat : Int))).2
          have e : (encB l).set k (.int .u8 (b.toNat : Int)) = encB (l.set k b) := by simp [encB, List.map_set]
          rw [e] at h1
          exact ⟨k + 1, by go_num, by omega, Nat.le_refl _, hE2.setCell hgb _, Lib.hid ⟨l.set k b, by simpa using hl, h1, o2.kept h2 (.inr (by simp [Value.ownBlock]; omega))⟩⟩
      · obtain rfl : k = n1 := by omega
        have d1 : decide (k < k) = false := by simp
        have hb1' : BS wr (.slice (some ⟨g1, 0, none⟩) k k) l := by rw [← hl] at o1 ⊢; exact BS.of_own o1
        have hb2' : BS wr (.slice (some ⟨g2, 0, none⟩) m1 m1) (List.replicate m1 0) := by
          have e : (List.replicate m1 (0 : UInt8)).length = m1 := by simp
          unfold BS; rw [e]; exact Sl.of_own o2
        have cv1 := conv_bs (P := Try.prog) Try.underlying34 Try.underlying5 Try.underlying9 hb1'
        have cv2 := conv_bs (P := Try.prog) Try.underlying34 Try.underlying5 Try.underlying9 hb2'
        have hr1 := fun W : World => right_c W l (List.replicate m1 0)
        have hr2 := fun W : World => rright_c W l (List.replicate m1 0)
        rw [hl, List.length_replicate] at hr1 hr2
        have HR1 := Lib.hid hr1; have HR2 := Lib.hid hr2
        clear hl o1 o2 hb1' hb2' hr1 hr2
        rcases Nat.lt_or_ge 256 k with h1 | h1
        · have q1 : (256 : Int) < (k : Int) := by omega
          have hr : rightN k m1 = 2 := by unfold rightN; rw [if_pos h1]
          rw [hr] at HR1 HR2
          clear hr
          repeat' go_step
          refine (HR1.out _).mono ?_
          rintro e w2 ⟨rfl, rfl⟩
          go_simp
          repeat' (first | go_skip | go_guarded | go_step)
          refine (HR2.out _).mono ?_
          rintro e w2 ⟨rfl, rfl⟩
          go_simp
          repeat' (first | go_skip | go_guarded | go_step)
          go_ret
          exact ⟨rfl, hE2⟩
        · rcases Nat.lt_or_ge 4096 m1 with h2 | h2
          · have q1 : ¬ (256 : Int) < (k : Int) := by omega
            have q2 : (4096 : Int) < (m1 : Int) := by omega
            have hr : rightN k m1 = 3 := by unfold rightN; rw [if_neg (by omega), if_pos h2]
            rw [hr] at HR1 HR2
            clear hr
            repeat' go_step
            refine (HR1.out _).mono ?_
            rintro e w2 ⟨rfl, rfl⟩
            go_simp
            repeat' (first | go_skip | go_guarded | go_step)
            refine (HR2.out _).mono ?_
            rintro e w2 ⟨rfl, rfl⟩
            go_simp
            repeat' (first | go_skip | go_guarded | go_step)
            go_ret
            exact ⟨rfl, hE2⟩
          · have q1 : ¬ (256 : Int) < (k : Int) := by omega
            have q2 : ¬ (4096 : Int) < (m1 : Int) := by omega
            have hr : rightN k m1 = 0 := by unfold rightN; rw [if_neg (by omega), if_neg (by omega)]
            rw [hr] at HR1 HR2
            clear hr
            repeat' go_step
            refine (HR1.out _).mono ?_
            rintro e w2 ⟨rfl, rfl⟩
            go_simp
            repeat' (first | go_skip | go_guarded | go_step)
            refine (HR2.out _).mono ?_
            rintro e w2 ⟨rfl, rfl⟩
            go_simp
            repeat' (first | go_skip | go_guarded | go_step)
            go_ret
            exact ⟨rfl, hE2⟩
end Go.Proofs.Ytdajhbllakmmlaa
