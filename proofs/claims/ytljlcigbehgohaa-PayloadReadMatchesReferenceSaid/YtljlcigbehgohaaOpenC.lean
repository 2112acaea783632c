/- One more kind of argument, opened: []int64. -/
import Derived.Test.YtljlcigbehgohaaOpenB
namespace Go.Proofs.Ytljlcigbehgohaa
open Go.ChangeShapes Go.WideShapes Go.ChangeAt Go.RowKit Go.Pax Go.Joins Go.Deep

section
variable {H : Type} {enc : TypeId × Value → H} {W : World}
set_option maxRecDepth 100000 in
theorem Try.underlying91 : Try.prog.underlying 91 = some (.slice 2) := by kernel_rfl
theorem Try.cells2 : Try.prog.cellsOf 2 = 1 := by kernel_rfl
theorem Try.bytes2 : Try.prog.bytesOf 2 = 8 := by kernel_rfl
set_option maxRecDepth 100000 in
theorem Try.openL {r : Reach} {b0 : Nat} {v : Value} {d : DataW H} {p : List MemPlace} (hv : Value.okWide Try.prog W r b0 91 v) (h : DataW.Trod enc Try.prog W 0 (fun _ => true) true 91 v d p) (hs : ∀ n ∈ d.weights Try.prog 91, n ≤ reachBytes) :
    ∃ ao cap l fp, v = .slice ao l.length cap ∧ l.length * 8 ≤ 140737488355328 ∧ Rd W fp ao (iv l) ∧ ∀ n ∈ l, -9223372036854775808 ≤ n ∧ n ≤ 9223372036854775807 := by
  obtain ⟨a, l, c, rfl⟩ := okWide_slice Try.underlying91 hv
  obtain ⟨fuel, hf⟩ := h
  obtain ⟨ao, cap, b, fp, hcs, h1, h2, h3⟩ := open_i64s Try.underlying91 Try.underlying2 Try.cells2 Try.bytes2 hf hs
  simp [Value.cells] at hcs
  obtain ⟨rfl, rfl, rfl⟩ := hcs
  exact ⟨_, _, b, fp, rfl, h1, h2, h3⟩
end
end Go.Proofs.Ytljlcigbehgohaa
