/- One more kind of argument, opened: a slice of structs of an int, a byte slice and an int. -/
import Derived.Test.YtljlcigbehgohaaOpenB
import Derived.Deep.Slices
import Derived.Deep.Fields
import Derived.ChangeSame
namespace Go.Pax
open Go.ChangeShapes Go.WideShapes Go.ChangeAt Go.RowKit Go.Deep
structure Acted where
  kind : Int
  b : List UInt8
  n : Int
  deriving Inhabited
/-- The elements of such a slice. -/
def RdA (w : World) (fp : List Nat) (ao : Option Addr) (L : List Acted) : Prop :=
  ∀ i x, L[i]? = some x → ∃ ad a c, ao = some ad ∧ ad.block ∈ fp ∧ w.cell? ((ad.add (i * 3)).add 0) = some (.int .i64 x.kind) ∧ w.cell? ((ad.add (i * 3)).add 1) = some (.slice a x.b.length c) ∧ w.cell? ((ad.add (i * 3)).add 2) = some (.int .i64 x.n) ∧
    x.b.length ≤ c ∧ Rd w fp a (bv x.b)
theorem RdA.mono {w : World} {fp fp' : List Nat} {ao : Option Addr} {L : List Acted} (h : RdA w fp ao L) (hf : ∀ k, k ∈ fp → k ∈ fp') : RdA w fp' ao L := fun i x hx => by
  obtain ⟨ad, a, c, h1, h2, h3, h4, h5, h6, h7⟩ := h i x hx
  exact ⟨ad, a, c, h1, hf _ h2, h3, h4, h5, h6, h7.mono hf⟩
def Acted.wf (x : Acted) : Prop := (-9223372036854775808 ≤ x.kind ∧ x.kind ≤ 9223372036854775807) ∧ (-9223372036854775808 ≤ x.n ∧ x.n ≤ 9223372036854775807) ∧ x.b.length ≤ 140737488355328

section
variable {H : Type} {enc : TypeId × Value → H} {P : Program} {W : World}
theorem open_acts {t e tk tb tn q : TypeId} {f0 f1 f2 : Field} {fuel : Nat} {cs : List Value} {x : DataW H × List MemPlace} (ht : P.underlying t = some (.slice e)) (he : P.underlying e = some (.struct #[f0, f1, f2]))
    (e0 : f0.type = tk) (e1 : f1.type = tb) (e2 : f2.type = tn) (hk : P.underlying tk = some (.int .i64)) (hn : P.underlying tn = some (.int .i64)) (hbq : P.underlying tb = some (.slice q)) (hq : P.underlying q = some (.int .u8))
    (hcq : P.cellsOf q = 1) (hb1 : P.bytesOf q = 1) (hone : oneCellFields P #[f0, f1, f2] = true) (hC : P.cellsOf e = 3) {B : Nat} (hB : P.bytesOf e = B)
    (h : DataW.trod enc P W 0 (fun _ => true) true fuel t cs = some x) (hs : ∀ n ∈ x.1.weights P t, n ≤ reachBytes) :
    ∃ ao cap L fp, cs = [.slice ao L.length cap] ∧ (L.length * B ≤ 140737488355328 ∧ ∀ y ∈ L, y.wf) ∧ RdA W fp ao L := by
  rcases open_slice ht h with ⟨rfl, rfl⟩ | ⟨a, len, cap, m, n, D, Pl, rfl, hb0, hl, hm, hmm, rfl, hi⟩
  · exact ⟨none, 0, [], [], rfl, ⟨by simp, by simp⟩, fun i y hy => by simp at hy⟩
  simp only [if_true] at hmm
  have each : ∀ i, i < len → ∃ y : Acted × Option Addr × Nat × List Nat, W.cell? ((a.add (i * 3)).add 0) = some (.int .i64 y.1.kind) ∧ W.cell? ((a.add (i * 3)).add 1) = some (.slice y.2.1 y.1.b.length y.2.2.1) ∧
      W.cell? ((a.add (i * 3)).add 2) = some (.int .i64 y.1.n) ∧ y.1.b.length ≤ y.2.2.1 ∧ Rd W y.2.2.2 y.2.1 (bv y.1.b) ∧ y.1.wf := by
    intro i hil
    obtain ⟨cs', hc, ht'⟩ := hi i (by omega)
    rw [hC] at hc
    obtain ⟨ys, n', hn', hy, hlen, hyl, hf⟩ := DataW.trod_struct he ht'
    obtain ⟨_, hcl, hat⟩ := World.cells?_some hc
    simp only [Prod.mk.injEq] at hy
    have hwt : ∀ j (hj : j < 3) (f : Field), #[f0, f1, f2][j]? = some f → ∀ y : DataW H × List MemPlace, ys[j]? = some y → ∀ k ∈ y.1.weights P f.type, k ≤ reachBytes := by
      intro j hj f hfj y hyj k hk'
      refine hs k ?_
      simp only [DataW.weights, ht]
      refine List.mem_cons_of_mem _ (List.mem_append_left _ (weightsAll_mem (d := D i) (List.mem_map.2 ⟨i, List.mem_range.2 hil, rfl⟩) k ?_))
      rw [hy.1]
      simp only [DataW.weights, he]
      exact DataW.weights_mem_each (j := j) (t := f.type) (d := y.1) (by rw [List.getElem?_map, Array.getElem?_toList, hfj]; rfl) (by rw [List.getElem?_map, hyj]; rfl) k hk'
    have hfield : ∀ j (hj : j < 3) (f : Field), #[f0, f1, f2][j]? = some f → ∃ (v : Value) (y : DataW H × List MemPlace), W.cell? ((a.add (i * 3)).add j) = some v ∧ ys[j]? = some y ∧ DataW.trod enc P W 0 (fun _ => true) true n' f.type [v] = some y := by
      intro j hj f hfj
      obtain ⟨ho, hk'⟩ := hone_of hone j f hfj
      have hv : cs'[j]? = some (cs'[j]'(by omega)) := List.getElem?_eq_getElem (by omega)
      have h1 := hf j f hfj
      rw [ho, hk'] at h1
      have hone' : (cs'.drop j).take 1 = [cs'[j]'(by omega)] := by
        rw [List.drop_eq_getElem_cons (by omega)]
        rfl
      rw [hone'] at h1
      have hyl' : ys.length = 3 := hyl
      have hys : ys[j]? = some (ys[j]'(by omega)) := List.getElem?_eq_getElem (by omega)
      exact ⟨_, _, by rw [hat j hj, hv], hys, h1.trans hys⟩
    obtain ⟨v0, y0, c0, g0, t0⟩ := hfield 0 (by omega) f0 rfl
    obtain ⟨v1, y1, c1, g1, t1⟩ := hfield 1 (by omega) f1 rfl
    obtain ⟨v2, y2, c2, g2, t2⟩ := hfield 2 (by omega) f2 rfl
    rw [e0] at t0
    rw [e1] at t1
    rw [e2] at t2
    obtain ⟨k0, hk0, _, w0⟩ := DataW.trod_int hk t0
    obtain ⟨k2, hk2, _, w2⟩ := DataW.trod_int hn t2
    obtain ⟨ao, c, b, f, h1, h2, h3, h4⟩ := open_bytes hbq hq hcq hb1 t1 (fun k hk' => hwt 1 (by omega) f1 rfl y1 g1 k (by rw [e1]; exact hk'))
    simp at hk0 hk2 h1
    subst hk0 hk2 h1
    exact ⟨(⟨k0, b, k2⟩, ao, c, f), c0, c1, c2, h3, h4, by simpa [Lit.wf, IntKind.min, IntKind.max, IntKind.signed, IntKind.bits] using w0, by simpa [Lit.wf, IntKind.min, IntKind.max, IntKind.signed, IntKind.bits] using w2, h2⟩
  obtain ⟨y, hy⟩ := choose_lt each
  have hreach := hs ((len + (m - len)) * B) (by simp [DataW.weights, ht, hB])
  have hlen : ((List.range len).map fun i => (y i).1).length = len := by simp
  refine ⟨some a, cap, (List.range len).map (fun i => (y i).1), a.block :: (List.range len).flatMap (fun i => (y i).2.2.2), by rw [hlen], ⟨?_, ?_⟩, ?_⟩
  · rw [hlen]
    have h1 : len * B ≤ (len + (m - len)) * B := Nat.mul_le_mul_right _ (by omega)
    simp only [reachBytes] at hreach
    omega
  · intro z hz
    obtain ⟨i, hi', rfl⟩ := List.mem_map.1 hz
    exact (hy i (List.mem_range.1 hi')).2.2.2.2.2
  · intro i z hz
    have hi' : i < len := by have := (List.getElem?_eq_some_iff.1 hz).1; simpa using this
    simp [hi'] at hz
    subst hz
    obtain ⟨c0, c1, c2, h3, h4, _⟩ := hy i hi'
    exact ⟨a, _, _, rfl, by simp, c0, c1, c2, h3, h4.mono (fun k hk => List.mem_cons_of_mem _ (List.mem_flatMap.2 ⟨i, List.mem_range.2 hi', hk⟩))⟩
end
end Go.Pax
namespace Go.Proofs.Ytljlcigbehgohaa
open Go.ChangeShapes Go.WideShapes Go.ChangeAt Go.RowKit Go.Pax Go.Joins Go.Deep
section
variable {H : Type} {enc : TypeId × Value → H} {W : World}
set_option maxRecDepth 100000 in
theorem Try.openA {r : Reach} {b0 : Nat} {v : Value} {d : DataW H} {p : List MemPlace} (hv : Value.okWide Try.prog W r b0 80 v) (h : DataW.Trod enc Try.prog W 0 (fun _ => true) true 80 v d p) (hs : ∀ n ∈ d.weights Try.prog 80, n ≤ reachBytes) :
    ∃ ao cap L fp, v = .slice ao L.length cap ∧ (L.length * 40 ≤ 140737488355328 ∧ ∀ y ∈ L, y.wf) ∧ RdA W fp ao L := by
  obtain ⟨a, l, c, rfl⟩ := okWide_slice Try.underlying80 hv
  obtain ⟨fuel, hf⟩ := h
  obtain ⟨ao, cap, b, fp, hcs, h1, h2⟩ := open_acts (tk := 3) (tb := 22) (tn := 3) Try.underlying80 Try.underlying85 rfl rfl rfl Try.underlying3 Try.underlying3 Try.underlying22 Try.underlying5 Try.cells5 Try.bytes5 (by kernel_rfl) (by kernel_rfl) (B := 40) (by kernel_rfl) hf hs
  simp [Value.cells] at hcs
  obtain ⟨rfl, rfl, rfl⟩ := hcs
  exact ⟨_, _, b, fp, rfl, h1, h2⟩
end
end Go.Proofs.Ytljlcigbehgohaa
