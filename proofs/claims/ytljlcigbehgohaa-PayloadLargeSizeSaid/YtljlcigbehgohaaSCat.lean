/- What the laws of layer 05 share: writing pieces one by one; a sink beside the bytes that were written. -/
import Derived.Test.YtljlcigbehgohaaSLawB
namespace Go.Pax
open Go.RowKit
/-- All bytes, one after the other. -/
def cat (L : List (List UInt8)) : List UInt8 := L.flatten
theorem cat_take (L : List (List UInt8)) (i : Nat) (h : i < L.length) : cat (L.take (i + 1)) = cat (L.take i) ++ L[i] := by
  unfold cat
  rw [List.take_succ_eq_append_getElem h, List.flatten_append]; simp
theorem cat_all (L : List (List UInt8)) : cat (L.take L.length) = cat L := by rw [List.take_length]
theorem cat_length (L : List (List UInt8)) : (cat L).length = total L := by simp [cat, total, List.length_flatten]
/-- What a sink holds, and the error, behind writing 'x' in pieces. -/
def Pre (fail : Int) (x : List UInt8) (e : Int) (b : List UInt8) : Prop :=
  (e = 0 ∧ b = x ∧ (0 ≤ fail → (x.length : Int) ≤ fail)) ∨ (e = 11 ∧ 0 ≤ fail ∧ fail < x.length ∧ b = x.take fail.toNat)
theorem Pre.step {σ : Snk} {x : List UInt8} (h : Pre σ.fail x 0 σ.b) (hok : σ.Ok) (y : List UInt8) : Pre σ.fail (x ++ y) (σ.all y).1 (σ.all y).2.b := by
  obtain ⟨_, _, _, h4⟩ := Snk.allF_is _ σ y hok (Nat.le_refl _)
  rcases h with ⟨_, hb, hf⟩ | ⟨h0, _⟩
  · unfold Snk.all
    rcases h4 with ⟨j1, j2, j3⟩ | ⟨j1, j2, j3, j4⟩
    · refine .inl ⟨j1, by rw [j2, hb], fun h => ?_⟩
      have := j3 h
      rw [hb] at this
      simp only [List.length_append]; omega
    · rw [hb] at j3 j4
      exact .inr ⟨j1, j2, by simp only [List.length_append]; omega, j4⟩
  · simp at h0
theorem Pre.stay {fail e : Int} {x b : List UInt8} (h : Pre fail x e b) (he : e ≠ 0) (y : List UInt8) : Pre fail (x ++ y) e b := by
  rcases h with ⟨h0, _⟩ | ⟨h0, h1, h2, h3⟩
  · exact (he h0).elim
  · refine .inr ⟨h0, h1, by simp only [List.length_append]; omega, ?_⟩
    rw [h3, List.take_append_of_le_length (by omega)]
theorem Pre.det {fail e e' : Int} {x b b' : List UInt8} (h : Pre fail x e b) (h' : Pre fail x e' b') : e = e' ∧ b = b' := by
  rcases h with ⟨h0, h1, h2⟩ | ⟨h0, h1, h2, h3⟩ <;> rcases h' with ⟨g0, g1, g2⟩ | ⟨g0, g1, g2, g3⟩
  · exact ⟨by rw [h0, g0], by rw [h1, g1]⟩
  · have := h2 g1; omega
  · have := g2 h1; omega
  · exact ⟨by rw [h0, g0], by rw [h3, g3]⟩
theorem Pre.new {c : List Int} {fail : Int} : Pre fail [] 0 (Snk.mk [] c fail 0).b := .inl ⟨rfl, rfl, fun h => by simpa using h⟩
theorem Pre.len {fail e : Int} {x b : List UInt8} (h : Pre fail x e b) : b.length ≤ x.length := by
  rcases h with ⟨_, h1, _⟩ | ⟨_, _, _, h3⟩
  · rw [h1]; omega
  · rw [h3, List.length_take]; omega
theorem Snk.all_fail (σ : Snk) (h : σ.Ok) (x : List UInt8) : (σ.all x).2.fail = σ.fail := (Snk.allF_is _ σ x h (Nat.le_refl _)).2.2.1
/-- Blocks from B on alone have changed. -/
theorem Chg.nil_of {B : Nat} {S : List Nat} {W w w' : World} (h : Chg [] W w) (k : Chg S w w') (hB : W.heap.size ≤ B) (hS : ∀ x ∈ S, B ≤ x) : Chg [] W w' :=
  h.trans' k (by simp) (fun x hx hl => by have := hS x hx; omega)
end Go.Pax
namespace Go.Proofs.Ytljlcigbehgohaa
open Go.RowKit Go.Pax

/-- A sink, and a byte slice of the law's own beside it; fr: blocks that neither touches. -/
structure Cat (B : Nat) (w : World) (fr : List Nat) (p : Nat) (f1 o1 : List Nat) (σ : Snk) (v : Value) (x : List UInt8) : Prop where
  ok : σ.Ok
  s : SnkAt B w p f1 o1 σ
  own : w.ownsRow B 5 1 v x.length (bv x)
  bp : B ≤ p
  n1 : ∀ g ∈ v.ownBlock.toList, g ≠ p ∧ g ∉ f1 ∧ g ∉ o1
  fr : ∀ g ∈ fr, g ≠ p ∧ g ∉ o1 ∧ g ∉ v.ownBlock.toList ∧ g < w.heap.size
theorem Cat.ownlt {B : Nat} {w : World} {fr : List Nat} {p : Nat} {f1 o1 : List Nat} {σ : Snk} {v : Value} {x : List UInt8} (h : Cat B w fr p f1 o1 σ v x) : ∀ g ∈ v.ownBlock.toList, B ≤ g ∧ g < w.heap.size :=
  fun g hg => h.own.lt g (by simpa using hg)
theorem Cat.f1lt {B : Nat} {w : World} {fr : List Nat} {p : Nat} {f1 o1 : List Nat} {σ : Snk} {v : Value} {x : List UInt8} (h : Cat B w fr p f1 o1 σ v x) : (∀ g ∈ f1, g < w.heap.size) ∧ B ≤ w.heap.size := by
  obtain ⟨_, _, _, _, _, _, _, _, _, _, h7, h8⟩ := h.s
  exact ⟨h7, h8⟩
theorem Cat.chg {B : Nat} {w w' : World} {fr : List Nat} {p : Nat} {f1 o1 : List Nat} {σ : Snk} {v : Value} {x : List UInt8} (h : Cat B w fr p f1 o1 σ v x) (k : Chg [] w w') : Cat B w' fr p f1 o1 σ v x :=
  ⟨h.ok, h.s.chg k (by simp) (by simp) (by simp), own_chg h.own k (by simp), h.bp, h.n1, fun g hg => by
    obtain ⟨a, b, c, d⟩ := h.fr g hg
    exact ⟨a, b, c, Nat.lt_of_lt_of_le d k.size⟩⟩
theorem Cat.append {B : Nat} {w w1 : World} {fr : List Nat} {p : Nat} {f1 o1 : List Nat} {σ : Snk} {v v1 : Value} {x y : List UInt8} (h : Cat B w fr p f1 o1 σ v x) (hg : w.grownBy w1 v.ownBlock)
    (hown : w1.ownsRow B 5 1 v1 (x ++ y).length (bv (x ++ y))) (hat : v1.ownBlock = v.ownBlock ∨ v1.ownBlock = some w.heap.size) : Cat B w1 fr p f1 o1 σ v1 (x ++ y) ∧ Chg v.ownBlock.toList w w1 := by
  have k : Chg v.ownBlock.toList w w1 := (Chg.refl _ _).grown hg (fun g hg _ => by simp [hg])
  obtain ⟨hf, hB⟩ := h.f1lt
  have hnew : ∀ g ∈ v1.ownBlock.toList, g ∈ v.ownBlock.toList ∨ g = w.heap.size := by
    intro g hg
    rcases hat with e | e
    · rw [e] at hg; exact .inl hg
    · rw [e] at hg; simp at hg; exact .inr hg
  refine ⟨⟨h.ok, h.s.chg k (fun hm => (h.n1 p hm).1 rfl) (fun g hg hm => (h.n1 g hm).2.1 hg) (fun g hg hm => (h.n1 g hm).2.2 hg), hown, h.bp, ?_, ?_⟩, k⟩
  · intro g hg
    rcases hnew g hg with e | e
    · exact h.n1 g e
    · subst e
      exact ⟨by have := h.s.lt; omega, fun hm => by have := hf _ hm; omega, fun hm => by have := h.s.ownlt _ hm; omega⟩
  · intro g hg
    obtain ⟨a, b, c, d⟩ := h.fr g hg
    refine ⟨a, b, fun hm => ?_, Nat.lt_of_lt_of_le d k.size⟩
    rcases hnew g hm with e | e
    · exact c e
    · omega
theorem Cat.write {B : Nat} {w w1 : World} {fr : List Nat} {p : Nat} {f1 o1 : List Nat} {σ σ' : Snk} {v : Value} {x : List UInt8} (h : Cat B w fr p f1 o1 σ v x) (hok : σ'.Ok) (k : SnkTo B w w1 p f1 o1 σ') :
    ∃ o1', Cat B w1 fr p f1 o1' σ' v x ∧ Chg (p :: o1) w w1 := by
  obtain ⟨o1', ⟨h1, h2⟩, hk⟩ := k
  have hol := h.ownlt
  refine ⟨o1', ⟨hok, h1, own_keep h.own hk (fun g hg hm => ?_), h.bp, fun g hg => ?_, fun g hg => ?_⟩, hk⟩
  · obtain ⟨a, _, c⟩ := h.n1 g hg
    rcases List.mem_cons.1 hm with e | e
    · exact a e
    · exact c e
  · obtain ⟨a, b, c⟩ := h.n1 g hg
    refine ⟨a, b, fun hm => ?_⟩
    rcases h2 g hm with e | e
    · exact c e
    · have := hol g hg; omega
  · obtain ⟨a, b, c, d⟩ := h.fr g hg
    refine ⟨a, fun hm => ?_, c, Nat.lt_of_lt_of_le d hk.size⟩
    rcases h2 g hm with e | e
    · exact b e
    · omega
end Go.Proofs.Ytljlcigbehgohaa
