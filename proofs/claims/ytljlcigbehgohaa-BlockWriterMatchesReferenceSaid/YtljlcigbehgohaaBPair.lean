/- A writer and its reference, side by side. -/
import Derived.Test.YtljlcigbehgohaaBlkA
import Derived.Test.YtljlcigbehgohaaRBlkW
import Derived.Test.YtljlcigbehgohaaOpenD
namespace Go.Pax
open Go.RowKit Go.Proofs.Ytljlcigbehgohaa
/-- The writer at r (sink p), the reference's at r2 (sink p2), in one and the same state; all above D. -/
structure WPair (D B : Nat) (w : World) (r p r2 p2 : Nat) (f1 f2 o o2 : List Nat) (err : Int) (σ : Snk) : Prop where
  a : WrtAt B w r p f1 o err σ
  b : RWrtAt w r2 p2 f2 o2 err σ
  ne : r ≠ r2 ∧ r ≠ p2 ∧ p ≠ r2 ∧ p ≠ p2
  nf : ∀ x ∈ f1, x ≠ r2 ∧ x ≠ p2
  no : ∀ g ∈ o, g ≠ r2 ∧ g ≠ p2 ∧ g ∉ f2 ∧ g ∉ o2
  n2 : r ∉ f2 ∧ r ∉ o2 ∧ p ∉ f2 ∧ p ∉ o2
  ge : (D ≤ r ∧ D ≤ p ∧ D ≤ r2 ∧ D ≤ p2) ∧ ∀ g ∈ o, D ≤ g
theorem WPair.chg {D B : Nat} {w w' : World} {r p r2 p2 : Nat} {f1 f2 o o2 : List Nat} {err : Int} {σ : Snk} (h : WPair D B w r p r2 p2 f1 f2 o o2 err σ) (k : Chg [] w w') : WPair D B w' r p r2 p2 f1 f2 o o2 err σ :=
  ⟨h.a.chg k (by simp) (by simp) (by simp) (by simp), h.b.chg k (by simp) (by simp) (by simp) (by simp), h.ne, h.nf, h.no, h.n2, h.ge⟩
theorem WPair.first {D B : Nat} {w w1 : World} {r p r2 p2 : Nat} {f1 f2 o o2 : List Nat} {err e : Int} {σ σ1 : Snk} (h : WPair D B w r p r2 p2 f1 f2 o o2 err σ) (h1 : WrtTo B w w1 r p f1 o e σ1) : RWrtAt w1 r2 p2 f2 o2 err σ := by
  obtain ⟨o1, ⟨hA, hn⟩, k1⟩ := h1
  have ne := h.ne
  have n2 := h.n2
  refine h.b.chg k1 ?_ ?_ (fun x hx hm => ?_) (fun x hx hm => ?_)
  · intro hm
    rcases List.mem_cons.1 hm with e | hm
    · omega
    · rcases List.mem_cons.1 hm with e | hm
      · omega
      · exact (h.no _ hm).1 rfl
  · intro hm
    rcases List.mem_cons.1 hm with e | hm
    · omega
    · rcases List.mem_cons.1 hm with e | hm
      · omega
      · exact (h.no _ hm).2.1 rfl
  · rcases List.mem_cons.1 hm with rfl | hm
    · exact n2.1 hx
    · rcases List.mem_cons.1 hm with rfl | hm
      · exact n2.2.2.1 hx
      · exact (h.no _ hm).2.2.1 hx
  · rcases List.mem_cons.1 hm with rfl | hm
    · exact n2.2.1 hx
    · rcases List.mem_cons.1 hm with rfl | hm
      · exact n2.2.2.2 hx
      · exact (h.no _ hm).2.2.2 hx
theorem WPair.step {D B : Nat} {w w1 w2 : World} {r p r2 p2 : Nat} {f1 f2 o o2 : List Nat} {err e : Int} {σ σ1 : Snk} (h : WPair D B w r p r2 p2 f1 f2 o o2 err σ) (_hD : D ≤ w.heap.size) (h1 : WrtTo B w w1 r p f1 o e σ1) (h2 : RWrtTo w1 w2 r2 p2 f2 o2 e σ1) :
    ∃ o' o2', WPair D B w2 r p r2 p2 f1 f2 o' o2' e σ1 := by
  obtain ⟨o1, ⟨hA, hn⟩, k1⟩ := h1
  obtain ⟨o3, ⟨hB, hm⟩, k2⟩ := h2
  have ne := h.ne
  have n2 := h.n2
  have lr := h.a.lt
  have lp := h.a.s.lt
  have lo := h.a.s.ownlt
  have lr2 := h.b.lt
  have lp2 := h.b.s.lt
  have lo1 := hA.s.ownlt
  have hs := k1.size
  have lf2 : ∀ x ∈ f2, x < w.heap.size := by obtain ⟨_, _, _, _, _, _, _, h4, _⟩ := h.b.s; exact fun x hx => (h4 x hx).2
  have lo2 : ∀ x ∈ o2, x < w.heap.size := by obtain ⟨_, _, _, _, _, _, _, _, h5⟩ := h.b.s; exact fun x hx => (h5 x hx).2
  have ge := h.ge
  refine ⟨o1, o3, hA.chg k2 (by simp; omega) (by simp; omega) (fun x hx => by have := h.nf x hx; simp; omega) (fun x hx => ?_), hB, ne, h.nf, fun g hg => ?_, ⟨n2.1, fun hr => ?_, n2.2.2.1, fun hr => ?_⟩, ge.1, fun g hg => ?_⟩
  · rcases hn x hx with h' | h'
    · have := h.no x h'; simp; omega
    · simp; omega
  · have hl1 := (lo1 g hg).2
    rcases hn g hg with h' | h'
    · have hq := h.no g h'
      refine ⟨hq.1, hq.2.1, hq.2.2.1, fun h3 => ?_⟩
      rcases hm g h3 with h4 | h4
      · exact hq.2.2.2 h4
      · omega
    · refine ⟨by omega, by omega, fun h3 => by have := lf2 g h3; omega, fun h3 => ?_⟩
      rcases hm g h3 with h4 | h4
      · have := lo2 g h4; omega
      · omega
  · rcases hm r hr with h4 | h4
    · exact n2.2.1 h4
    · omega
  · rcases hm p hr with h4 | h4
    · exact n2.2.2.2 h4
    · omega
  · rcases hn g hg with h' | h'
    · exact ge.2 g h'
    · omega
theorem WPair.quiet {D B : Nat} {W w w1 : World} {r p r2 p2 : Nat} {f1 f2 o o2 : List Nat} {err e : Int} {σ σ1 : Snk} (h : WPair D B w r p r2 p2 f1 f2 o o2 err σ) (hk : Chg [] W w) (hD : W.heap.size ≤ D) (h1 : WrtTo B w w1 r p f1 o e σ1) : Chg [] W w1 := by
  obtain ⟨o1, _, k1⟩ := h1
  exact hk.nil_of k1 hD (fun y hy => by
    rcases List.mem_cons.1 hy with rfl | hy
    · exact h.ge.1.1
    · rcases List.mem_cons.1 hy with rfl | hy
      · exact h.ge.1.2.1
      · exact h.ge.2 y hy)
theorem WPair.quiet2 {D B : Nat} {W w w1 w2 : World} {r p r2 p2 : Nat} {f1 f2 o o2 : List Nat} {err e : Int} {σ σ1 : Snk} (h : WPair D B w r p r2 p2 f1 f2 o o2 err σ) (hk : Chg [] W w1) (hD : W.heap.size ≤ D) (h2 : RWrtTo w1 w2 r2 p2 f2 o2 e σ1) : Chg [] W w2 := by
  obtain ⟨o3, _, k2⟩ := h2
  exact hk.nil_of k2 hD (by have := h.ge.1; simp; omega)
end Go.Pax
