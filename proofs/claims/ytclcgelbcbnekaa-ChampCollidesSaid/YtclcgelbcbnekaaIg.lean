/- ChampOrders: its words; its pairs are taken: its first loop: a law of its own. -/
import Derived.Test.YtclcgelbcbnekaaBn
import Derived.Test.YtclcgelbcbnekaaBq
import Derived.Test.YtclcgelbcbnekaaBo
import Derived.Deep.LoopGhost
import Derived.Deep.RegionHeld3
set_option linter.unusedVariables false
set_option linter.unusedSimpArgs false
namespace Go.Proofs.Ytclcgelbcbnekaa
open Go.RowKit Go.QS Go.QS.Nk
set_option linter.unusedVariables false
variable [Zero (Nat → Prop)]
set_option linter.unusedSectionVars false

/-- A hasher, and a trie of a list. -/
structure T6 (w : World) (gh : Nat) (h : Hs) (g : Nat) (X : List Pr) : Prop where
  hs : HsAt w gh h
  tr : TR ND h.hash w 13 g X
  ok : OkL X
theorem T6.ext {w w' : World} {gh g : Nat} {h : Hs} {X : List Pr} (H : T6 w gh h g X) (f : Ext w w') : T6 w' gh h g X := ⟨H.hs.ext f, TR.ext f 13 H.tr, H.ok⟩
theorem cputT {h : Hs} (hk : h.Ok) {w : World} {gh g : Nat} {X : List Pr} (H : T6 w gh h g X) (p : Pr) (hX : X.length ≤ 100000) (hp : p.1.length ≤ 40 ∧ p.2.length ≤ 40) :
    Calls Try.prog 46 #[hsV h, nil0, ptr g, prV p] w fun e w' => ∃ g' b, e = .returned (.tuple #[ptr g', .bool b]) ∧ Ext w w' ∧ T6 w' gh h g' (rput X p) :=
  (cput_c h hk w (ptr g) X p (Rot.of H.tr) H.ok.rise (by omega) H.ok.keys (by omega)).mono fun e w' ⟨g', h1, h2, h3, _⟩ => ⟨g', _, h1, h3, H.hs.ext h3, h2, H.ok.put hp⟩
theorem cdropT {h : Hs} (hk : h.Ok) {w : World} {gh g : Nat} {X : List Pr} (H : T6 w gh h g X) (k : List UInt8) (hX : X.length ≤ 100000) (hp : k.length ≤ 40) :
    Calls Try.prog 48 #[hsV h, nil0, ptr g, str k] w fun e w' => ∃ g' b, e = .returned (.tuple #[ptr g', .bool b]) ∧ Ext w w' ∧ T6 w' gh h g' (rdrop X k) :=
  (cdrop_c h hk w (ptr g) X k (Rot.of H.tr) H.ok.rise (by omega) (by omega)).mono fun e w' ⟨g', h1, h2, h3, _⟩ => ⟨g', _, h1, h3, H.hs.ext h3, h2, H.ok.drop k⟩
/-- A key of those that come and go. -/
def GoneK (l : List Pr) (k : List UInt8) : Prop := ∃ (i : Nat) (p : Pr), i < 20 ∧ l[i]? = some p ∧ k = (cutP p).1
theorem keep5c {w w' : World} {a2 a3 a4 a5 a6 : Addr} {u2 u3 u4 u5 u6 : Value} (f : Ext w w') (h : w.cell? a2 = some u2 ∧ w.cell? a3 = some u3 ∧ w.cell? a4 = some u4 ∧ w.cell? a5 = some u5 ∧ w.cell? a6 = some u6) : w'.cell? a2 = some u2 ∧ w'.cell? a3 = some u3 ∧ w'.cell? a4 = some u4 ∧ w'.cell? a5 = some u5 ∧ w'.cell? a6 = some u6 :=
  ⟨keep1c f h.1, keep1c f h.2.1, keep1c f h.2.2.1, keep1c f h.2.2.2.1, keep1c f h.2.2.2.2⟩
theorem own_slice' {w : World} {base : Nat} {e : TypeId} {k n : Nat} {v : Value} {xs : List Value} (h : w.ownsRow base e k v n xs) : ∃ A c, v = .slice A n c := own_slice h
theorem infoPx : ∃ i z, Try.prog.info? 36 = some i ∧ i.zero = some z ∧ i.size = 2 ∧ i.bytes = 32 ∧ z.cells.size = 2 := info_of (z := .agg #[str [], str []]) (by kernel_rfl) rfl
theorem infoRx : ∃ i z, Try.prog.info? 51 = some i ∧ i.zero = some z ∧ i.size = 2 ∧ i.bytes = 32 ∧ z.cells.size = 2 := info_of (z := .agg #[str [], str []]) (by kernel_rfl) rfl
end Go.Proofs.Ytclcgelbcbnekaa
