/- Contracts: chunk.Bits.All of no bits; shape.canon, Canon at a node that holds nothing; law 7's awake. -/
import Derived.Test.YtajodnldhnehcaaDoorSxa
import Derived.Test.YtajodnldhnehcaaDoorM06
import Derived.RangeFuncNested
import Derived.RangeFuncCalls
import Derived.Sort.LoopGhostIn
import Derived.Laws.EntriesVeiled
set_option linter.unusedVariables false
set_option linter.unusedSimpArgs false
namespace Go.QS
open Go Go.RowKit
theorem ext_cellS {w w' : World} {a : Addr} {u : Value} (f : Ext w w') (h : w.cell? a = some u) : w'.cell? a = some u := (f.cell (World.block_lt_of_cell? w _ h)).trans h
theorem wp_nameS {P : Program} {c : Code} {Q : Exit → Act → World → Prop} {a : Act} {W : World} (R : World → Prop) (hR : R W) (h : ∀ w', Hid (R w') → c.wp P Q a w') : c.wp P Q a W := h W (Lib.hid hR)
theorem postM_ret2 {P : Program} {fn : Func} {R : Ending → World → Prop} {a : Act} {w : World} {v : Value} {D E : Nat} (h : (results fn a.tmps).run P ((w.putObj E (.deferred none)).putObj D (.deferred none)) = .ok v ((w.putObj E (.deferred none)).putObj D (.deferred none)))
    (hd : a.defers = [{ target := .collected E, args := #[] }, { target := .collected D, args := #[] }]) (hE : w.heap[E]? = some (.deferred (some []))) (hD : (w.putObj E (.deferred none)).heap[D]? = some (.deferred (some [])))
    (hr : R (.returned v) ((w.putObj E (.deferred none)).putObj D (.deferred none))) : postM P fn R .ret a w := by
  show LeavesInM _ _ _ _ _ _ a.defers _ _
  rw [hd]
  exact ⟨by simp, .inl ⟨_, _, rfl, run_takeDeferred hE, ⟨by simp, .inl ⟨_, _, rfl, run_takeDeferred hD, ⟨v, h, hr⟩⟩⟩⟩⟩
theorem results_box2 {P : Program} {fn : Func} {p q : Tmp} {ty tz : TypeId} (h : fn.results = #[.cell p ty, .cell q tz]) (tmps : Array Value) (w : World) (g k : Nat) (v u : Value) (T U : TypeId) (f f' : Nat × Nat) (d d' : TypeDesc)
    (hp : tmps.getD p undef = .pointer (some ⟨g, 0, none⟩)) (hg : w.heap[g]? = some (.cells #[v] T f)) (hu : P.underlying ty = some d) (hd : (match d with | .struct _ | .array _ _ => true | _ => false) = false)
    (hq : tmps.getD q undef = .pointer (some ⟨k, 0, none⟩)) (hk : w.heap[k]? = some (.cells #[u] U f')) (hu' : P.underlying tz = some d') (hd' : (match d' with | .struct _ | .array _ _ => true | _ => false) = false) :
    (results fn tmps).run P w = .ok (.tuple #[v, u]) w := by
  have hp' : tmps[p]?.getD undef = .pointer (some ⟨g, 0, none⟩) := by simpa using hp
  have hq' : tmps[q]?.getD undef = .pointer (some ⟨k, 0, none⟩) := by simpa using hq
  have hagg : (isAgg ty).run P w = .ok false w := by
    unfold isAgg
    rw [Sem.run_bind, run_underlying hu w]
    cases d <;> simp_all
  have hagg' : (isAgg tz).run P w = .ok false w := by
    unfold isAgg
    rw [Sem.run_bind, run_underlying hu' w]
    cases d' <;> simp_all
  have hc : w.cell? ⟨g, 0, none⟩ = some v := by rw [cellG hg]; rfl
  have hc' : w.cell? ⟨k, 0, none⟩ = some u := by rw [cellG hk]; rfl
  simp [results, h, hp', hq', asAddr, loadVar, hagg, hagg', hc, hc', go_sem]
end Go.QS
namespace Go.Proofs.YtajodnldhnehcaaDoor
open Go Go.RowKit Go.QS Go.QS.Nk
set_option linter.unusedVariables false
attribute [local go_sem] Oper.semAt_some

set_option maxRecDepth 100000 in
theorem ball_c (w : World) (b : Nat) : Calls Tryd.prog 69 #[.int .u32 (b : Int)] w fun e w' => ∃ k0, e = .returned (.func (.func 93) #[] #[ptr k0]) ∧ w'.cell? ⟨k0, 0, none⟩ = some (.int .u32 (b : Int)) ∧ Ext w w' := by
  go_enter Tryd.func69, Tryd.ntmps69
  repeat' (first | go_skip | go_guarded | go_step)
  go_ret
  exact ⟨w.heap.size, rfl, by rw [World.cell?_alloc_at _ _ _ _ rfl]; rfl, (Ext.refl w).alloc (Nat.le_refl _) _⟩
set_option maxRecDepth 100000 in
theorem ball0_c (w : World) (y : Value) (k0 : Nat) (hk : w.cell? ⟨k0, 0, none⟩ = some (.int .u32 0)) : Calls Tryd.prog 93 #[y, ptr k0] w fun e w' => (∃ v, e = .returned v) ∧ w' = w := by
  go_enter Tryd.func93, Tryd.ntmps93
  repeat' (go_not_at_region 0; (first | go_skip | go_guarded | go_step))
  go_loopg [] 1 (fun gk wr => wr = w)
  case atStart => exact rfl
  case round =>
    subst hrel
    repeat' (first | go_skip | go_guarded | go_step)
    first | refine bodyPost_ret (results_none rfl _ _ _) rfl ?_ | refine bodyPost_end (results_none rfl _ _ _) rfl ?_
    exact ⟨⟨_, rfl⟩, rfl⟩
theorem ball_enters : ∀ args w, (callFunc 93 args).run Tryd.prog w = .ok (.enter 93 args) w := enters_of Tryd.func93 (by kernel_rfl) rfl
abbrev encI (i : Int) : Array Value := #[.int .i64 i]
theorem ball0_seq (n : Nat) (k0 : Nat) (St Kp : World → World → Prop) :
    SeqR Fence.wide n Tryd.prog 93 #[ptr k0] encI St Kp (fun xs => xs = []) (fun _ => False) 0 (fun W => W.cell? ⟨k0, 0, none⟩ = some (.int .u32 0)) := by
  intro l J Jx W hW hJ _ _ h0
  refine callsIn_wide.2 ((ball0_c W _ k0 hW).mono ?_)
  rintro e w' ⟨h1, rfl⟩
  exact ⟨h1, .inl ⟨[], rfl, h0⟩⟩

/-- canon's boxes. -/
structure BxN (gh g : Nat) (w : World) : Prop where
  b1 : w.heap[gh + 1]? = some (.cells #[ptr g] 29 (0, 0))
  b2 : w.heap[gh + 2]? = some (.cells #[.slice none 0 0] 127 (0, 0))
  b3 : w.heap[gh + 3]? = some (.cells #[.int .i64 0] 3 (0, 0))
  b4 : w.heap[gh + 4]? = some (.cells #[.bool false] 4 (0, 0))
theorem BxN.ext {gh g : Nat} {w w' : World} (H : BxN gh g w) (f : Ext w w') : BxN gh g w' := ⟨box_extG H.b1 f, box_extG H.b2 f, box_extG H.b3 f, box_extG H.b4 f⟩
theorem BxN.own {gh g : Nat} {w w' : World} {row : Option Nat} (h : BxN gh g w) (hg : w.grownBy w' row) (hr : ∀ r, row = some r → ∃ o : Obj, w.heap[r]? = some o ∧ o.isCells = false) : BxN gh g w' :=
  ⟨heap_own h.b1 hg hr, heap_own h.b2 hg hr, heap_own h.b3 hg hr, heap_own h.b4 hg hr⟩
end Go.Proofs.YtajodnldhnehcaaDoor
