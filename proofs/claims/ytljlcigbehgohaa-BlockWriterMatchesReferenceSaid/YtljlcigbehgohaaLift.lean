/- From a walk to a row: what the arguments read as, and a law's row out of its walk. -/
import Derived.Test.YtljlcigbehgohaaBase
import Derived.ProofKit
import Derived.SizedLaws
import Derived.Lib.SmallJoins
import Derived.Deep.Slices
namespace Go.Pax
open Go.ChangeShapes Go.WideShapes Go.ChangeAt Go.RowKit

section
variable {H : Type} {enc : TypeId × Value → H} {P : Program} {W : World}

theorem Chg.to_below {w w' : World} (h : Chg [] w w') : Below w.heap.size w w' := ⟨h.os, h.tape, h.output, h.size, fun k hk => h.block k hk (by simp)⟩

theorem trodAll_below (hl : laidOutB P = true) {W' : World} (hb : Below W.heap.size W W') : ∀ {ts : List TypeId} {vs : List Value} {ds : List (DataW H)} {ps : List MemPlace},
    DataW.TrodAll enc P W 0 (fun _ => true) true ts vs ds ps → (∀ t ∈ ts, P.readableRec t = true ∧ t < P.types.size) → (∀ x ∈ ps, x.block < W.heap.size) →
    DataW.TrodAll enc P W' 0 (fun b => decide (b < W.heap.size)) true ts vs ds ps
  | [], vs, ds, ps, h, _, _ => by cases vs <;> cases ds <;> simp [DataW.TrodAll] at h ⊢; exact h
  | t :: ts, vs, ds, ps, h, hr, hlt => by
    obtain ⟨v, vs', d, ds', p, q, rfl, rfl, rfl, h0, h1⟩ := trodAll_cons h
    refine ⟨p, q, Below.trod hl (hr t (by simp)).1 (hr t (by simp)).2 h0 hb (fun x hx => hlt x (by simp [hx])), trodAll_below hl hb h1 (fun t ht => hr t (by simp [ht])) (fun x hx => hlt x (by simp [hx])), rfl⟩

/-- A LAW's ROW: the call returns true, of what was there nothing has changed. -/
theorem law_post {fn : Func} {s : ChangeSpec} {apart : Bool} {args : Array Value} {ds gs : List (DataW H)} {before : List MemPlace} {tb : TypeId} {W' : World}
    (hl : laidOutB P = true) (hv : s.vars = []) (hrt : fn.resultTypes = #[tb]) (htb : P.underlying tb = some .bool) (hr : ∀ t ∈ fn.params.toList, P.readableRec t = true ∧ t < P.types.size)
    (hspec : (s.fn H ds).results = [.lit (.bool true)] ∧ (s.fn H ds).args = ds ∧ (s.fn H ds).vars = [])
    (hW : DataW.Whole enc P fn.params.toList s.vars apart W args.toList ds gs before) (hc : Chg [] W W') :
    s.post enc P fn apart true false false W args (.bool true) W' := by
  have hW' := hW
  obtain ⟨p, q, hA, hV, rfl, hfz, hnd⟩ := hW
  rw [hv] at hV
  obtain ⟨rfl, rfl⟩ := trodVars_none hV
  have hlt : ∀ x ∈ p, x.block < W.heap.size := fun x hx => hW'.lt x (by simp [hx])
  refine ⟨ds, [], _, [], p, [], hW', ?_, ?_, ?_, hc.to_below.frame _, fun h => by cases h⟩
  · rw [List.append_nil, hspec.1, hrt]
    exact trodAll_mk1 (shut_bool htb true)
  · rw [List.append_nil, hspec.2.1]
    exact trodAll_below hl hc.to_below hA hr hlt
  · rw [List.append_nil, hspec.2.2, hv]
    exact rfl

/-- []byte. -/
theorem open_bytes {t e : TypeId} {fuel : Nat} {cs : List Value} {x : DataW H × List MemPlace} (ht : P.underlying t = some (.slice e)) (he : P.underlying e = some (.int .u8)) (hc : P.cellsOf e = 1) (hb : P.bytesOf e = 1)
    (h : DataW.trod enc P W 0 (fun _ => true) true fuel t cs = some x) (hs : ∀ n ∈ x.1.weights P t, n ≤ reachBytes) :
    ∃ ao cap b fp, cs = [.slice ao b.length cap] ∧ b.length ≤ 140737488355328 ∧ b.length ≤ cap ∧ Rd W fp ao (bv b) := by
  rcases open_ints ht he hc h with ⟨rfl, rfl⟩ | ⟨a, len, cap, zs, rfl, _, hl, hm, hz, rfl, hcell, hwz⟩
  · exact ⟨none, 0, [], [], rfl, by simp, by simp, Rd.nil _ _ _⟩
  · simp only [if_true] at hz
    have hreach := hs ((zs.take len).length * 1 + (zs.drop len).length * 1) (by simp [DataW.weights, ht, hb, lits])
    have hlen : ((zs.take len).map fun n => UInt8.ofNat n.toNat).length = len := by simp; omega
    refine ⟨some a, cap, (zs.take len).map fun n => UInt8.ofNat n.toNat, [a.block], by rw [hlen], ?_, by rw [hlen]; exact hl, ?_⟩
    · rw [hlen]; simp only [List.length_take, List.length_drop, reachBytes] at hreach; omega
    · intro j u hu
      have hj : j < len ∧ j < zs.length := by
        have := (List.getElem?_eq_some_iff.1 hu).1
        simp [bv] at this
        omega
      refine ⟨a, rfl, by simp, ?_⟩
      rw [hcell j hj.2, ← hu]
      have hw := hwz zs[j] (List.getElem_mem hj.2)
      have hr : 0 ≤ zs[j] ∧ zs[j] ≤ 255 := by simpa [Lit.wf, IntKind.min, IntKind.max, IntKind.signed, IntKind.bits] using hw
      simp [bv, hj.1, hj.2, List.getD]
      omega

/-- []int, []int64. -/
theorem open_i64s {t e : TypeId} {fuel : Nat} {cs : List Value} {x : DataW H × List MemPlace} (ht : P.underlying t = some (.slice e)) (he : P.underlying e = some (.int .i64)) (hc : P.cellsOf e = 1) (hb : P.bytesOf e = 8)
    (h : DataW.trod enc P W 0 (fun _ => true) true fuel t cs = some x) (hs : ∀ n ∈ x.1.weights P t, n ≤ reachBytes) :
    ∃ ao cap l fp, cs = [.slice ao l.length cap] ∧ l.length * 8 ≤ 140737488355328 ∧ Rd W fp ao (iv l) ∧ ∀ n ∈ l, -9223372036854775808 ≤ n ∧ n ≤ 9223372036854775807 := by
  rcases open_ints ht he hc h with ⟨rfl, rfl⟩ | ⟨a, len, cap, zs, rfl, _, hl, hm, hz, rfl, hcell, hwz⟩
  · exact ⟨none, 0, [], [], rfl, by simp, Rd.nil _ _ _, by simp⟩
  · simp only [if_true] at hz
    have hreach := hs (((zs.take len).length + (zs.drop len).length) * 8) (by simp [DataW.weights, ht, hb, lits])
    have hlen : (zs.take len).length = len := by simp; omega
    refine ⟨some a, cap, zs.take len, [a.block], by rw [hlen], ?_, ?_, ?_⟩
    · rw [hlen]; simp only [List.length_take, List.length_drop, reachBytes] at hreach; omega
    · intro j u hu
      have hj : j < len ∧ j < zs.length := by
        have := (List.getElem?_eq_some_iff.1 hu).1
        simp [iv] at this
        omega
      refine ⟨a, rfl, by simp, ?_⟩
      rw [hcell j hj.2, ← hu]
      simp [iv, hj.1, hj.2, List.getD]
    · intro n hn
      have hw := hwz n (List.mem_of_mem_take hn)
      simpa [Lit.wf, IntKind.min, IntKind.max, IntKind.signed, IntKind.bits] using hw
end
end Go.Pax
