/- Words for regions that draw their order, and for worlds. -/
import Derived.Test.YtljlcigbehgohaaBase
import Derived.Deep.DeepCutAuto
import Derived.Deep.RegionHeld3
namespace Go.Pax
open Go.RowKit
/-- Blocks from B on alone have changed. -/
theorem Chg.nil_of {B : Nat} {S : List Nat} {W w w' : World} (h : Chg [] W w) (k : Chg S w w') (hB : W.heap.size ≤ B) (hS : ∀ x ∈ S, B ≤ x) : Chg [] W w' :=
  h.trans' k (by simp) (fun x hx hl => by have := hS x hx; omega)
end Go.Pax
namespace Go.Proofs.Ytljlcigbehgohaa
open Go.RowKit Go.Pax
theorem wpAnyH_weaken {P : Program} {md : Region.Mode} {ops : Array Oper} {Q : Exit → Act → World → Prop} {S T : World → Prop} (hST : ∀ w, S w → T w) :
    ∀ {fuel : Nat} {listed : Array Bool} {a : Act} {w : World}, wpAnyH P md ops Q S fuel listed a w → wpAnyH P md ops Q T fuel listed a w
  | 0, _, _, _, h => h
  | _ + 1, _, _, _, h => ⟨h.1, fun i hi => wpOp_mono (fun _ _ h' => ⟨hST _ h'.1, wpAnyH_weaken hST h'.2⟩) (h.2 i hi)⟩
end Go.Proofs.Ytljlcigbehgohaa
