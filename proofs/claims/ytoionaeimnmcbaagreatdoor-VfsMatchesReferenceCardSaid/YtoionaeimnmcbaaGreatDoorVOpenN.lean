/- A pair of uint16, as an argument. -/
import Derived.Test.YtoionaeimnmcbaaGreatDoorVOpen
namespace Go.Pax
open Go.ChangeShapes Go.WideShapes Go.ChangeAt Go.RowKit Go.Joins Go.Deep
section
variable {H : Type} {enc : TypeId × Value → H} {P : Program} {W : World}
theorem open_pair16 {t e : TypeId} {r : Reach} {b0 : Nat} {v : Value} {d : DataW H} {p : List MemPlace} (ht : P.underlying t = some (.array 2 e)) (he : P.underlying e = some (.int .u16)) (hc : P.cellsOf e = 1) (hct : P.cellsOf t = 2)
    (hv : Value.okWide P W r b0 t v) (h : DataW.Trod enc P W 0 (fun _ => true) true t v d p) : ∃ x y : Int, v = .agg #[.int .u16 x, .int .u16 y] ∧ (0 ≤ x ∧ x ≤ 65535) ∧ (0 ≤ y ∧ y ≤ 65535) := by
  simp only [Value.okWide, ht] at hv
  obtain ⟨cs, rfl, hsz, _⟩ := hv
  rw [hct] at hsz
  obtain ⟨fuel, hf⟩ := h
  obtain ⟨xs, m, _, hx, hlen, hn, hel⟩ := DataW.trod_array ht hf
  have hel0 := hel 0 (by omega)
  have hel1 := hel 1 (by omega)
  rw [hc] at hel0 hel1
  obtain ⟨cl⟩ := cs
  match cl, hsz, xs, hn with
  | [c0, c1], _, [x0, x1], _ =>
    simp only [Value.cells] at hel0 hel1
    obtain ⟨k0, e0, _, w0⟩ := DataW.trod_int he hel0
    obtain ⟨k1, e1, _, w1⟩ := DataW.trod_int he hel1
    simp at e0 e1
    subst e0 e1
    exact ⟨k0, k1, rfl, by simpa [Lit.wf, IntKind.min, IntKind.max, IntKind.signed, IntKind.bits] using w0, by simpa [Lit.wf, IntKind.min, IntKind.max, IntKind.signed, IntKind.bits] using w1⟩
end
end Go.Pax
namespace Go.Proofs.YtoionaeimnmcbaaGreatDoor
open Go.ChangeShapes Go.WideShapes Go.ChangeAt Go.RowKit Go.Pax Go.Joins Go.Deep
set_option maxRecDepth 100000 in
theorem Tryz.openN {H : Type} {enc : TypeId × Value → H} {W : World} {r : Reach} {b0 : Nat} {v : Value} {d : DataW H} {p : List MemPlace} (hv : Value.okWide Tryz.prog W r b0 23 v) (h : DataW.Trod enc Tryz.prog W 0 (fun _ => true) true 23 v d p) :
    ∃ x y : Int, v = .agg #[.int .u16 x, .int .u16 y] ∧ (0 ≤ x ∧ x ≤ 65535) ∧ (0 ≤ y ∧ y ≤ 65535) :=
  open_pair16 Tryz.underlying23 Tryz.underlying22 (by kernel_rfl) (by kernel_rfl) hv h
end Go.Proofs.YtoionaeimnmcbaaGreatDoor
