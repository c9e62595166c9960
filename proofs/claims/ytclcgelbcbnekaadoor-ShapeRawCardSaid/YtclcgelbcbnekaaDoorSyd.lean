/- Contracts: shape.put at any node; shape.Of. -/
import Derived.Test.YtclcgelbcbnekaaDoorSyc
set_option linter.unusedVariables false
set_option linter.unusedSimpArgs false
namespace Go.Proofs.YtclcgelbcbnekaaDoor
open Go.RowKit Go.QS Go.QS.Nk
set_option linter.unusedVariables false
variable [Zero (Nat → Prop)]
set_option linter.unusedSectionVars false

set_option maxRecDepth 100000 in
set_option maxHeartbeats 2000000 in
theorem sput_in (W : World) (lv g d n : Nat) (ps : List Pr) (ks : List Nat) (Bs : List (List UInt8)) (Kb : List UInt8) (ow : Option Addr) (pv kv : Value) (h : Nd ND W g d n ps ks false ow pv kv) (hd9 : d < 4294967296) (hn9 : n < 4294967296) (hp9 : ps.length ≤ 100000) (hk9 : ks.length ≤ 32) (hlv : lv ≤ 13)
    (hK9 : (lv = 13 ∧ Kb = []) ∨ (lv < 13 ∧ Kb = Bs.flatten ∧ Bs.length = ks.length ∧ Hid (∀ (i k : Nat) (b : List UInt8), ks[i]? = some k → Bs[i]? = some b → PutSh W (lv + 1) k b))) : PutSh W lv g (headB d n ps ++ Kb) := by
  intro w v l hr hb hl9
  obtain ⟨Al, Cl, rfl⟩ := own_slice hr
  have HH := Lib.hid (And.intro h (And.intro hr hb))
  have hsz := hb.size
  have hlen : (headB d n ps ++ Kb).length = 9 + (prsB ps).length + Kb.length := by simp [headB, layB_len]; omega
  have HK := Lib.hid hK9
  clear h hr hb hK9
  go_enter Tryd.func30, Tryd.ntmps30
  repeat' (first | go_at_call 52 | go_skip | go_guarded | go_step)
  refine (isb_c w g false (HH.out.1.node.ext HH.out.2.2).cells.2.2.2.2.1).mono ?_
  rintro e w1 ⟨rfl, f1⟩
  have H1 : Hid (w1.ownsRow W.heap.size 5 1 (.slice Al l.length Cl) l.length (encB l) ∧ Gr w (.slice Al l.length Cl) w1 (.slice Al l.length Cl) ∧ Below W.heap.size W w1) := Lib.hid ⟨row_ext HH.out.2.1 f1, Gr.of_ext f1, below_ext HH.out.2.2 f1 hsz⟩
  clear f1
  go_simp
  repeat' (first
    | (at_builtin; refine wpList_app rfl (.tmp 21) (.tmp 22) _ rfl W.heap.size 5 1 1 Tryd.underlying34 infoB (by decide) (.slice Al l.length Cl) l.length (encB l) rfl (H1.out.1.alloc _) _ 1 1 [.int .u8 0] rfl rfl (Seg.new _ [_] _ rfl) (by intro u hu; simp at hu; subst hu; rfl) (by unfold maxLen; omega) (by omega) (by have := H1.out.2.2.size; simp; omega) ?_
       intro v2 w2 r2 g2 n2
       have hG2 := H1.out.2.1.trans ((Gr.of_ext ((Ext.refl _).alloc (Nat.le_refl _) _)).trans (Gr.of_app g2 n2))
       have H2 : Hid (w2.ownsRow W.heap.size 5 1 v2 (l ++ [0]).length (encB (l ++ [0])) ∧ Gr w (.slice Al l.length Cl) w2 v2 ∧ Below W.heap.size W w2) := Lib.hid ⟨by rw [List.length_append, encB_append]; exact r2, hG2, PutSh.below hG2 HH.out.2.1 HH.out.2.2⟩
       clear r2 g2 n2 hG2)
    | go_at_call 60 | go_skip | go_guarded | go_step)
  refine (data_c w2 g d (HH.out.1.node.ext H2.out.2.2).cells.1).mono ?_
  rintro e w3 ⟨rfl, rfl⟩
  go_simp
  repeat' (first | go_at_call 57 | go_skip | go_guarded | go_step)
  refine (layO_c W.heap.size w2 v2 (l ++ [0]) d 4 H2.out.1 H2.out.2.2.size (by omega) (by omega) (by simp; omega)).mono ?_
  rintro e w4 ⟨v4, rfl, r4, g4⟩
  have hG4 := H2.out.2.1.trans g4
  have H4 : Hid (w4.ownsRow W.heap.size 5 1 v4 (l ++ [0] ++ layB d 4).length (encB (l ++ [0] ++ layB d 4)) ∧ Gr w (.slice Al l.length Cl) w4 v4 ∧ Below W.heap.size W w4) := Lib.hid ⟨r4, hG4, PutSh.below hG4 HH.out.2.1 HH.out.2.2⟩
  clear r4 g4 hG4 H2
  go_simp
  repeat' (first | go_at_call 61 | go_skip | go_guarded | go_step)
  refine (nodes_c w4 g n (HH.out.1.node.ext H4.out.2.2).cells.2.1).mono ?_
  rintro e w5 ⟨rfl, rfl⟩
  go_simp
  repeat' (first | go_at_call 57 | go_skip | go_guarded | go_step)
  refine (layO_c W.heap.size w4 v4 (l ++ [0] ++ layB d 4) n 4 H4.out.1 H4.out.2.2.size (by omega) (by omega) (by simp [layB_len]; omega)).mono ?_
  rintro e w6 ⟨v6, rfl, r6, g6⟩
  have hG6 := H4.out.2.1.trans g6
  obtain ⟨L, hL⟩ : ∃ L, L = l ++ [0] ++ layB d 4 ++ layB n 4 := ⟨_, rfl⟩
  have hLl : L.length = l.length + 9 := by rw [hL]; simp [layB_len]
  obtain ⟨N, hN⟩ : ∃ N, N = L.length := ⟨_, rfl⟩
  rw [← hL, ← hN] at r6
  obtain ⟨A6, C6, rfl⟩ := own_slice r6
  have H6 : Hid (w6.ownsRow W.heap.size 5 1 (.slice A6 N C6) N (encB L) ∧ Gr w (.slice Al l.length Cl) w6 (.slice A6 N C6) ∧ Below W.heap.size W w6 ∧ L = l ++ [0] ++ layB d 4 ++ layB n 4 ∧ N = L.length) := Lib.hid ⟨r6, hG6, PutSh.below hG6 HH.out.2.1 HH.out.2.2, hL, hN⟩
  have hb9 : L.length + (prsB ps).length + Kb.length ≤ 900000000 := by omega
  clear r6 g6 hG6 H4 hL hN hLl
  go_simp
  repeat' (go_not_at_region 4; (first | go_skip | go_guarded | go_step))
  rename_i K hK
  refine sput_tail W w6 lv g N C6 d n A6 L ps ks Bs Kb ow pv kv hp9 hk9 hlv (Lib.hid ⟨HH.out.1, H6.out.1, H6.out.2.2.2.2, H6.out.2.2.1⟩) hb9 HK.out _ _ K _ _ _ _ _ _ _ _ _ _ _ _ _ _ _ _ _ _ _ _ _ _ _ _ _ _ _ _ _ _ _ _ _ _ _ _ _ _ _ _ _ _ _ _ _ _ _ _ _ _ _ (by kernel_rfl) (by kernel_rfl) hK ?_
  intro a wx hd _ hE
  have HE := Lib.hid hE
  clear hE
  (try simp only [Exit.inBlock, Exit.then])
  repeat' go_step
  refine bodyPost_ret (results_tmp rfl _ _ _) hd ?_
  refine ⟨_, rfl, ?_, H6.out.2.1.trans HE.out.2⟩
  have e : l ++ (headB d n ps ++ Kb) = L ++ prsB ps ++ Kb := by rw [H6.out.2.2.2.1, headB]; simp
  rw [e]
  exact HE.out.1
/-- put at any node. -/
theorem sput_all (W : World) : ∀ (f g : Nat) (B : List UInt8), f ≤ 13 → ShAt W f g B → PutSh W (13 - f) g B
  | 0, g, B, _, h => by
    rcases h with ⟨ps, ow, pv, kv, h1, h2, rfl⟩ | ⟨d, n, ps, ks, ow, pv, kv, h1, h2, h3, h4, h5, rfl⟩
    · exact sput_bk W 13 g ps ow pv kv h1 h2 (by omega)
    · have := sput_in W 13 g d n ps ks [] [] ow pv kv h1 h2 h3 h4 h5 (by omega) (.inl ⟨rfl, rfl⟩)
      rwa [List.append_nil] at this
  | f + 1, g, B, hf, h => by
    rcases h with ⟨ps, ow, pv, kv, h1, h2, rfl⟩ | ⟨d, n, ps, ks, ow, pv, kv, Bs, h1, h2, h3, h4, h5, h6, h7, rfl⟩
    · exact sput_bk W _ g ps ow pv kv h1 h2 (by omega)
    · refine sput_in W _ g d n ps ks Bs _ ow pv kv h1 h2 h3 h4 h5 (by omega) (.inr ⟨by omega, rfl, h6, Lib.hid (fun i k b e1 e2 => ?_)⟩)
      have := sput_all W f k b (by omega) (h7 i k b e1 e2)
      rwa [show 13 - (f + 1) + 1 = 13 - f by omega]
set_option maxRecDepth 100000 in
theorem ofS_c (w : World) (g : Nat) (B : List UInt8) (h : ShAt w 13 g B) (h9 : B.length ≤ 900000000) : Calls Tryd.prog 9 #[ptr g] w fun e w' => ∃ v', e = .returned v' ∧ w'.ownsRow w.heap.size 5 1 v' B.length (encB B) ∧ Ext w w' := by
  have HP := Lib.hid (sput_all w 13 g B (Nat.le_refl _) h w (.slice none 0 0) [] (World.ownsRow_nil _ _ _ _) (Below.refl _ _) (by simpa using h9))
  clear h
  go_enter Tryd.func9, Tryd.ntmps9
  repeat' (first | go_at_call 30 | go_skip | go_guarded | go_step)
  refine HP.out.mono ?_
  rintro e w1 ⟨v1, rfl, r1, g1⟩
  rw [List.nil_append] at r1
  have H1 : Hid (w1.ownsRow w.heap.size 5 1 v1 B.length (encB B) ∧ Ext w w1) := Lib.hid ⟨r1, g1.below (Nat.le_refl _) (fun k hk => by cases hk)⟩
  clear r1 g1
  go_simp
  repeat' (first | go_skip | go_guarded | go_step)
  go_ret
  exact ⟨_, rfl, H1.out.1, H1.out.2⟩
end Go.Proofs.YtclcgelbcbnekaaDoor
