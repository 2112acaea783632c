/- More kinds of arguments, opened: slices of byte slices, of bools, of small integers. -/
import Derived.Test.YtljlcigbehgohaaOpen
import Derived.Test.YtljlcigbehgohaaSLawA
import Derived.Deep.Grids
namespace Go.Pax
open Go.ChangeShapes Go.WideShapes Go.ChangeAt Go.RowKit Go.Deep

/-- Bools, and integers of any kind, as cells. -/
def tv (l : List Bool) : List Value := l.map Value.bool
def kv (k : IntKind) (l : List Int) : List Value := l.map (Value.int k)
theorem tv_get (l : List Bool) (j : Nat) (h : j < l.length) : (tv l)[j]? = some (.bool l[j]) := by simp [tv, h]
theorem kv_get (k : IntKind) (l : List Int) (j : Nat) (h : j < l.length) : (kv k l)[j]? = some (.int k l[j]) := by simp [kv, h]

section
variable {H : Type} {enc : TypeId × Value → H} {P : Program} {W : World}

theorem weightsAll_mem {e : TypeId} : ∀ {l : List (DataW H)} {d : DataW H}, d ∈ l → ∀ n ∈ d.weights P e, n ∈ DataW.weightsAll P e l
  | d0 :: r, d, hd, n, hn => by
    simp only [DataW.weightsAll, List.mem_append]
    rcases List.mem_cons.1 hd with rfl | h
    · exact Or.inl hn
    · exact Or.inr (weightsAll_mem h n hn)

/-- [][]byte. -/
theorem open_byte_rows {t e q : TypeId} {fuel : Nat} {cs : List Value} {x : DataW H × List MemPlace} (ht : P.underlying t = some (.slice e)) (he : P.underlying e = some (.slice q)) (hq : P.underlying q = some (.int .u8))
    (hc : P.cellsOf e = 1) (hcq : P.cellsOf q = 1) (hb : P.bytesOf e = 24) (hbq : P.bytesOf q = 1)
    (h : DataW.trod enc P W 0 (fun _ => true) true fuel t cs = some x) (hs : ∀ n ∈ x.1.weights P t, n ≤ reachBytes) :
    ∃ ao cap L fp, cs = [.slice ao L.length cap] ∧ (L.length * 24 ≤ 140737488355328 ∧ ∀ b ∈ L, b.length ≤ 140737488355328) ∧ RdB W fp ao L := by
  rcases open_slice1 ht hc h with ⟨rfl, rfl⟩ | ⟨a, len, cap, m, n, V, D, Pl, rfl, hb0, hl, hm, hmm, rfl, hx⟩
  · exact ⟨none, 0, [], [], rfl, ⟨by simp, by simp⟩, [], Rd.nil _ _ _, rfl, fun i b hb => by simp at hb⟩
  simp only [if_true] at hmm
  have each : ∀ i, i < len → ∃ y : Option Addr × Nat × List UInt8 × List Nat, V i = .slice y.1 y.2.2.1.length y.2.1 ∧ y.2.2.1.length ≤ 140737488355328 ∧ y.2.2.1.length ≤ y.2.1 ∧ Rd W y.2.2.2 y.1 (bv y.2.2.1) := by
    intro i hi
    obtain ⟨ao, c, b, f, h1, h2, h3, h4⟩ := open_bytes he hq hcq hbq (hx i (by omega)).2 (fun k hk => hs k (by
      simp only [DataW.weights, ht]
      exact List.mem_cons_of_mem _ (List.mem_append_left _ (weightsAll_mem (d := D i) (List.mem_map.2 ⟨i, List.mem_range.2 hi, rfl⟩) k hk))))
    exact ⟨(ao, c, b, f), by simpa using h1, h2, h3, h4⟩
  obtain ⟨y, hy⟩ := choose_lt each
  have hreach := hs ((len + (m - len)) * 24) (by simp [DataW.weights, ht, hb])
  have hlen : ((List.range len).map fun i => (y i).2.2.1).length = len := by simp
  refine ⟨some a, cap, (List.range len).map (fun i => (y i).2.2.1), a.block :: (List.range len).flatMap (fun i => (y i).2.2.2), by rw [hlen], ⟨by rw [hlen]; simp only [reachBytes] at hreach; omega, ?_⟩, (List.range len).map V, ?_, by simp, ?_⟩
  · intro b hb'
    obtain ⟨i, hi, rfl⟩ := List.mem_map.1 hb'
    exact (hy i (List.mem_range.1 hi)).2.1
  · intro j u hu
    have hj : j < len := by have := (List.getElem?_eq_some_iff.1 hu).1; simpa using this
    simp [hj] at hu
    subst hu
    exact ⟨a, rfl, by simp, (hx j (by omega)).1⟩
  · intro i b hb'
    have hi : i < len := by have := (List.getElem?_eq_some_iff.1 hb').1; simpa using this
    simp [hi] at hb'
    subst hb'
    obtain ⟨e1, _, e3, e4⟩ := hy i hi
    exact ⟨(y i).1, (y i).2.1, by simp [hi, e1], e3, e4.mono (fun k hk => List.mem_cons_of_mem _ (List.mem_flatMap.2 ⟨i, List.mem_range.2 hi, hk⟩))⟩

/-- []bool. -/
theorem open_tvs {t e : TypeId} {fuel : Nat} {cs : List Value} {x : DataW H × List MemPlace} (ht : P.underlying t = some (.slice e)) (he : P.underlying e = some .bool) (hc : P.cellsOf e = 1) (hb : P.bytesOf e = 1)
    (h : DataW.trod enc P W 0 (fun _ => true) true fuel t cs = some x) (hs : ∀ n ∈ x.1.weights P t, n ≤ reachBytes) :
    ∃ ao cap l fp, cs = [.slice ao l.length cap] ∧ l.length ≤ 140737488355328 ∧ Rd W fp ao (tv l) := by
  rcases open_bools ht he hc h with ⟨rfl, rfl⟩ | ⟨a, len, cap, B, rfl, _, hl, hm, rfl, hcell⟩
  · exact ⟨none, 0, [], [], rfl, by simp, Rd.nil _ _ _⟩
  · have hreach := hs ((len + (cap - len)) * 1) (by simp [DataW.weights, ht, hb, boolRow])
    refine ⟨some a, cap, (List.range len).map B, [a.block], by simp, by simp only [reachBytes] at hreach; simp; omega, ?_⟩
    intro j u hu
    have hj : j < len := by have := (List.getElem?_eq_some_iff.1 hu).1; simpa [tv] using this
    refine ⟨a, rfl, by simp, ?_⟩
    rw [hcell j (by omega), ← hu]
    simp [tv, hj]

/-- Integers of any kind. -/
theorem open_kvs {t e : TypeId} {k : IntKind} {B fuel : Nat} {cs : List Value} {x : DataW H × List MemPlace} (ht : P.underlying t = some (.slice e)) (he : P.underlying e = some (.int k)) (hc : P.cellsOf e = 1) (hb : P.bytesOf e = B)
    (h : DataW.trod enc P W 0 (fun _ => true) true fuel t cs = some x) (hs : ∀ n ∈ x.1.weights P t, n ≤ reachBytes) :
    ∃ ao cap l fp, cs = [.slice ao l.length cap] ∧ (l.length * B ≤ 140737488355328 ∧ ∀ n ∈ l, (Lit.int k n).wf = true) ∧ Rd W fp ao (kv k l) := by
  rcases open_ints ht he hc h with ⟨rfl, rfl⟩ | ⟨a, len, cap, zs, rfl, _, hl, hm, hz, rfl, hcell, hwz⟩
  · exact ⟨none, 0, [], [], rfl, by simp, Rd.nil _ _ _⟩
  · simp only [if_true] at hz
    have hreach := hs (((zs.take len).length + (zs.drop len).length) * B) (by simp [DataW.weights, ht, hb, lits])
    have hlen : (zs.take len).length = len := by simp; omega
    refine ⟨some a, cap, zs.take len, [a.block], by rw [hlen], ⟨?_, ?_⟩, ?_⟩
    · have h1 : (zs.take len).length * B ≤ ((zs.take len).length + (zs.drop len).length) * B := Nat.mul_le_mul_right _ (by omega)
      simp only [reachBytes] at hreach
      omega
    · intro n hn
      exact hwz n (List.mem_of_mem_take hn)
    · intro j u hu
      have hj : j < len ∧ j < zs.length := by
        have := (List.getElem?_eq_some_iff.1 hu).1
        simp [kv] at this
        omega
      refine ⟨a, rfl, by simp, ?_⟩
      rw [hcell j hj.2, ← hu]
      simp [kv, hj.1, hj.2, List.getD]
end
end Go.Pax
namespace Go.Proofs.Ytljlcigbehgohaa
open Go.ChangeShapes Go.WideShapes Go.ChangeAt Go.RowKit Go.Pax Go.Joins
theorem Try.cells22 : Try.prog.cellsOf 22 = 1 := by kernel_rfl
theorem Try.cells4 : Try.prog.cellsOf 4 = 1 := by kernel_rfl
theorem Try.cells33 : Try.prog.cellsOf 33 = 1 := by kernel_rfl
theorem Try.bytes22 : Try.prog.bytesOf 22 = 24 := by kernel_rfl
theorem Try.bytes4 : Try.prog.bytesOf 4 = 1 := by kernel_rfl
theorem Try.bytes33 : Try.prog.bytesOf 33 = 2 := by kernel_rfl
section
variable {H : Type} {enc : TypeId × Value → H} {W : World}
set_option maxRecDepth 100000 in
theorem Try.openR {r : Reach} {b0 : Nat} {v : Value} {d : DataW H} {p : List MemPlace} (hv : Value.okWide Try.prog W r b0 45 v) (h : DataW.Trod enc Try.prog W 0 (fun _ => true) true 45 v d p) (hs : ∀ n ∈ d.weights Try.prog 45, n ≤ reachBytes) :
    ∃ ao cap L fp, v = .slice ao L.length cap ∧ (L.length * 24 ≤ 140737488355328 ∧ ∀ b ∈ L, b.length ≤ 140737488355328) ∧ RdB W fp ao L := by
  obtain ⟨a, l, c, rfl⟩ := okWide_slice Try.underlying45 hv
  obtain ⟨fuel, hf⟩ := h
  obtain ⟨ao, cap, b, fp, hcs, h1, h2⟩ := open_byte_rows Try.underlying45 Try.underlying22 Try.underlying5 Try.cells22 Try.cells5 Try.bytes22 Try.bytes5 hf hs
  simp [Value.cells] at hcs
  obtain ⟨rfl, rfl, rfl⟩ := hcs
  exact ⟨_, _, b, fp, rfl, h1, h2⟩
set_option maxRecDepth 100000 in
theorem Try.openO {r : Reach} {b0 : Nat} {v : Value} {d : DataW H} {p : List MemPlace} (hv : Value.okWide Try.prog W r b0 46 v) (h : DataW.Trod enc Try.prog W 0 (fun _ => true) true 46 v d p) (hs : ∀ n ∈ d.weights Try.prog 46, n ≤ reachBytes) :
    ∃ ao cap l fp, v = .slice ao l.length cap ∧ l.length ≤ 140737488355328 ∧ Rd W fp ao (tv l) := by
  obtain ⟨a, l, c, rfl⟩ := okWide_slice Try.underlying46 hv
  obtain ⟨fuel, hf⟩ := h
  obtain ⟨ao, cap, b, fp, hcs, h1, h2⟩ := open_tvs Try.underlying46 Try.underlying4 Try.cells4 Try.bytes4 hf hs
  simp [Value.cells] at hcs
  obtain ⟨rfl, rfl, rfl⟩ := hcs
  exact ⟨_, _, b, fp, rfl, h1, h2⟩
set_option maxRecDepth 100000 in
theorem Try.openU {r : Reach} {b0 : Nat} {v : Value} {d : DataW H} {p : List MemPlace} (hv : Value.okWide Try.prog W r b0 64 v) (h : DataW.Trod enc Try.prog W 0 (fun _ => true) true 64 v d p) (hs : ∀ n ∈ d.weights Try.prog 64, n ≤ reachBytes) :
    ∃ ao cap l fp, v = .slice ao l.length cap ∧ (l.length * 2 ≤ 140737488355328 ∧ ∀ n ∈ l, (Lit.int .u16 n).wf = true) ∧ Rd W fp ao (kv .u16 l) := by
  obtain ⟨a, l, c, rfl⟩ := okWide_slice Try.underlying64 hv
  obtain ⟨fuel, hf⟩ := h
  obtain ⟨ao, cap, b, fp, hcs, h1, h2⟩ := open_kvs Try.underlying64 Try.underlying33 Try.cells33 Try.bytes33 hf hs
  simp [Value.cells] at hcs
  obtain ⟨rfl, rfl, rfl⟩ := hcs
  exact ⟨_, _, b, fp, rfl, h1, h2⟩
end
end Go.Proofs.Ytljlcigbehgohaa
