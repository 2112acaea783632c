/- From a walk to a row: what the arguments read as, and a law's row out of its walk. The arguments of these laws, opened; the listed variables, as they lie. A pair of uint16, as an argument. WalkClassesAreInodes is proved: for every input the law returns true and changes nothing that was there. The listed package variables read as the program's text lays them (the card ties them, over the pruned copy). -/
import Derived.Test.YtfhiioopimmahaaGreatDoorRows
import Derived.ProofKit
import Derived.SizedLaws
import Derived.Lib.SmallJoins
import Derived.Deep.Slices
import Derived.Deep.Fields
import Derived.ChangeSame
import Derived.LaidMore
import Derived.OpenShut
import Derived.ChangeMaps5
import Derived.Stop.Joined
import Derived.SevenTiedAt
import Derived.Test.YtfhiioopimmahaaGreatDoorTie
import Derived.Test.YtfhiioopimmahaaGreatDoorCards
import Derived.Test.YtfhiioopimmahaaGreatDoorPI08
import Derived.Test.YtfhiioopimmahaaGreatDoorPI20
namespace Go.Pax
open Go.ChangeShapes Go.WideShapes Go.ChangeAt Go.RowKit

section
variable {H : Type} {enc : TypeId × Value → H} {P : Program} {W : World}

theorem Chg.to_below {w w' : World} (h : Chg [] w w') : Below w.heap.size w w' := ⟨h.os, h.tape, h.output, h.size, fun k hk => h.block k hk (by simp)⟩

theorem trodAll_below (hl : laidOutB P = true) {W' : World} (hb : Below W.heap.size W W') : ∀ {ts : List TypeId} {vs : List Value} {ds : List (DataW H)} {ps : List MemPlace},
    DataW.TrodAll enc P W 0 (fun _ => true) true ts vs ds ps → (∀ t ∈ ts, P.readableRec t = true ∧ t < P.types.size) → (∀ x ∈ ps, x.block < W.heap.size) →
    DataW.TrodAll enc P W' 0 (fun b => decide (b < W.heap.size)) true ts vs ds ps
  | [], vs, ds, ps, h, _, _ => by cases vs <;> cases ds <;> simp [DataW.TrodAll] at h ⊢; exact h
  | t :: ts, vs, ds, ps, h, hr, hlt => by
    obtain ⟨v, vs', d, ds', p, q, rfl, rfl, rfl, h0, h1⟩ := trodAll_cons h
    refine ⟨p, q, Below.trod hl (hr t (by simp)).1 (hr t (by simp)).2 h0 hb (fun x hx => hlt x (by simp [hx])), trodAll_below hl hb h1 (fun t ht => hr t (by simp [ht])) (fun x hx => hlt x (by simp [hx])), rfl⟩

/-- A LAW's ROW: the call returns true, of what was there nothing has changed. -/
theorem law_post {fn : Func} {s : ChangeSpec} {apart : Bool} {args : Array Value} {ds gs : List (DataW H)} {before : List MemPlace} {tb : TypeId} {W' : World}
    (hl : laidOutB P = true) (hv : s.vars = []) (hrt : fn.resultTypes = #[tb]) (htb : P.underlying tb = some .bool) (hr : ∀ t ∈ fn.params.toList, P.readableRec t = true ∧ t < P.types.size)
    (hspec : (s.fn H ds).results = [.lit (.bool true)] ∧ (s.fn H ds).args = ds ∧ (s.fn H ds).vars = [])
    (hW : DataW.Whole enc P fn.params.toList s.vars apart W args.toList ds gs before) (hc : Chg [] W W') :
    s.post enc P fn apart true false false W args (.bool true) W' := by
  have hW' := hW
  obtain ⟨p, q, hA, hV, rfl, hfz, hnd⟩ := hW
  rw [hv] at hV
  obtain ⟨rfl, rfl⟩ := trodVars_none hV
  have hlt : ∀ x ∈ p, x.block < W.heap.size := fun x hx => hW'.lt x (by simp [hx])
  refine ⟨ds, [], _, [], p, [], hW', ?_, ?_, ?_, hc.to_below.frame _, fun h => by cases h⟩
  · rw [List.append_nil, hspec.1, hrt]
    exact trodAll_mk1 (shut_bool htb true)
  · rw [List.append_nil, hspec.2.1]
    exact trodAll_below hl hc.to_below hA hr hlt
  · rw [List.append_nil, hspec.2.2, hv]
    exact rfl

/-- []byte. -/
theorem open_bytes {t e : TypeId} {fuel : Nat} {cs : List Value} {x : DataW H × List MemPlace} (ht : P.underlying t = some (.slice e)) (he : P.underlying e = some (.int .u8)) (hc : P.cellsOf e = 1) (hb : P.bytesOf e = 1)
    (h : DataW.trod enc P W 0 (fun _ => true) true fuel t cs = some x) (hs : ∀ n ∈ x.1.weights P t, n ≤ reachBytes) :
    ∃ ao cap b fp, cs = [.slice ao b.length cap] ∧ b.length ≤ 140737488355328 ∧ b.length ≤ cap ∧ Rd W fp ao (bv b) := by
  rcases open_ints ht he hc h with ⟨rfl, rfl⟩ | ⟨a, len, cap, zs, rfl, _, hl, hm, hz, rfl, hcell, hwz⟩
  · exact ⟨none, 0, [], [], rfl, by simp, by simp, Rd.nil _ _ _⟩
  · simp only [if_true] at hz
    have hreach := hs ((zs.take len).length * 1 + (zs.drop len).length * 1) (by simp [DataW.weights, ht, hb, lits])
    have hlen : ((zs.take len).map fun n => UInt8.ofNat n.toNat).length = len := by simp; omega
    refine ⟨some a, cap, (zs.take len).map fun n => UInt8.ofNat n.toNat, [a.block], by rw [hlen], ?_, by rw [hlen]; exact hl, ?_⟩
    · rw [hlen]; simp only [List.length_take, List.length_drop, reachBytes] at hreach; omega
    · intro j u hu
      have hj : j < len ∧ j < zs.length := by
        have := (List.getElem?_eq_some_iff.1 hu).1
        simp [bv] at this
        omega
      refine ⟨a, rfl, by simp, ?_⟩
      rw [hcell j hj.2, ← hu]
      have hw := hwz zs[j] (List.getElem_mem hj.2)
      have hr : 0 ≤ zs[j] ∧ zs[j] ≤ 255 := by simpa [Lit.wf, IntKind.min, IntKind.max, IntKind.signed, IntKind.bits] using hw
      simp [bv, hj.1, hj.2, List.getD]
      omega

/-- []int, []int64. -/
theorem open_i64s {t e : TypeId} {fuel : Nat} {cs : List Value} {x : DataW H × List MemPlace} (ht : P.underlying t = some (.slice e)) (he : P.underlying e = some (.int .i64)) (hc : P.cellsOf e = 1) (hb : P.bytesOf e = 8)
    (h : DataW.trod enc P W 0 (fun _ => true) true fuel t cs = some x) (hs : ∀ n ∈ x.1.weights P t, n ≤ reachBytes) :
    ∃ ao cap l fp, cs = [.slice ao l.length cap] ∧ l.length * 8 ≤ 140737488355328 ∧ Rd W fp ao (iv l) ∧ ∀ n ∈ l, -9223372036854775808 ≤ n ∧ n ≤ 9223372036854775807 := by
  rcases open_ints ht he hc h with ⟨rfl, rfl⟩ | ⟨a, len, cap, zs, rfl, _, hl, hm, hz, rfl, hcell, hwz⟩
  · exact ⟨none, 0, [], [], rfl, by simp, Rd.nil _ _ _, by simp⟩
  · simp only [if_true] at hz
    have hreach := hs (((zs.take len).length + (zs.drop len).length) * 8) (by simp [DataW.weights, ht, hb, lits])
    have hlen : (zs.take len).length = len := by simp; omega
    refine ⟨some a, cap, zs.take len, [a.block], by rw [hlen], ?_, ?_, ?_⟩
    · rw [hlen]; simp only [List.length_take, List.length_drop, reachBytes] at hreach; omega
    · intro j u hu
      have hj : j < len ∧ j < zs.length := by
        have := (List.getElem?_eq_some_iff.1 hu).1
        simp [iv] at this
        omega
      refine ⟨a, rfl, by simp, ?_⟩
      rw [hcell j hj.2, ← hu]
      simp [iv, hj.1, hj.2, List.getD]
    · intro n hn
      have hw := hwz n (List.mem_of_mem_take hn)
      simpa [Lit.wf, IntKind.min, IntKind.max, IntKind.signed, IntKind.bits] using hw
end
end Go.Pax

namespace Go.Pax
open Go.ChangeShapes Go.WideShapes Go.ChangeAt Go.RowKit Go.Deep
/-- One listed variable, out of the whole list's reading. -/
theorem laid_get {P : Program} {w : World} : ∀ {l : List (String × DataW Unit)} {ps : List MemPlace} {n : String} {d : DataW Unit}, DataW.LaidVars P w l ps → (n, d) ∈ l →
    ∃ g t cs fuel p, P.globalNamed n = some g ∧ (P.globals[g]?).map (·.type) = some t ∧ w.var? P n = some cs ∧ DataW.trod (fun _ => ()) P w 0 (fun _ => true) false fuel t cs.toList = some (d, p) ∧ ∀ x ∈ MemPlace.row ⟨g, 0, none⟩ cs.size, x ∈ ps
  | [], _, _, _, _, h => by simp at h
  | (n0, d0) :: r, ps, n, d, h, hm => by
    obtain ⟨g, t, cs, fuel, p, q, h1, h2, h3, h4, h5, rfl⟩ := h
    rcases List.mem_cons.1 hm with e | hm
    · cases e
      exact ⟨g, t, cs, fuel, p, h1, h2, h3, h4, fun x hx => by simp [hx]⟩
    · obtain ⟨g', t', cs', fuel', p', a1, a2, a3, a4, a5⟩ := laid_get h5 hm
      exact ⟨g', t', cs', fuel', p', a1, a2, a3, a4, fun x hx => by simp [a5 x hx]⟩
/-- A listed array of three strings, as it lies. -/
theorem laid_three {P : Program} {w : World} {l : List (String × DataW Unit)} {n : String} {s0 s1 s2 : List UInt8} {g t e : Nat} (h : laidMet P l w) (hm : (n, (.agg [.lit (.string s0), .lit (.string s1), .lit (.string s2)] : DataW Unit)) ∈ l)
    (hg : P.globalNamed n = some g) (ht : (P.globals[g]?).map (·.type) = some t) (hu : P.underlying t = some (.array 3 e)) (he : P.underlying e = some .string) (hc : P.cellsOf e = 1) (hct : P.cellsOf t = 3) :
    ∃ tt, w.heap[g]? = some (.cells #[.string (ba s0), .string (ba s1), .string (ba s2)] tt (0, 0)) := by
  obtain ⟨ps, hl, _, hp⟩ := h
  obtain ⟨g', t', cs, fuel, p, a1, a2, a3, a4, a5⟩ := laid_get hl hm
  obtain rfl := Option.some.inj (hg.symm.trans a1)
  obtain rfl := Option.some.inj (ht.symm.trans a2)
  obtain ⟨xs, m, _, hx, hlen, hn, hel⟩ := DataW.trod_array hu a4
  rw [hct] at hlen
  have hel0 := hel 0 (by omega)
  have hel1 := hel 1 (by omega)
  have hel2 := hel 2 (by omega)
  rw [hc] at hel0 hel1 hel2
  obtain ⟨cl⟩ := cs
  match cl, hlen, xs, hn with
  | [c0, c1, c2], _, [x0, x1, x2], _ =>
    simp only [Prod.mk.injEq, DataW.agg.injEq, List.map_cons, List.map_nil, List.cons.injEq] at hx
    obtain ⟨⟨k0, k1, k2, _⟩, _⟩ := hx
    obtain ⟨b0, e0, f0, _⟩ := DataW.trod_string he hel0
    obtain ⟨b1, e1, f1, _⟩ := DataW.trod_string he hel1
    obtain ⟨b2, e2, f2, _⟩ := DataW.trod_string he hel2
    simp at e0 e1 e2
    subst e0 e1 e2
    subst f0 f1 f2
    simp at k0 k1 k2
    have q0 : ba s0 = b0 := by rw [k0, ba_toList]
    have q1 : ba s1 = b1 := by rw [k1, ba_toList]
    have q2 : ba s2 = b2 := by rw [k2, ba_toList]
    obtain ⟨⟨c, tt, hb⟩, _⟩ := hp g 0 (a5 _ (by simp [MemPlace.row]))
    refine ⟨tt, ?_⟩
    have hv := a3
    unfold World.var? at hv
    rw [hg] at hv
    simp only [Option.bind_some, hb] at hv
    injection hv with hv
    rw [hb, hv, q0, q1, q2]

section
variable {H : Type} {enc : TypeId × Value → H} {P : Program} {W : World}
theorem weightsAll_mem {e : TypeId} : ∀ {l : List (DataW H)} {d : DataW H}, d ∈ l → ∀ n ∈ d.weights P e, n ∈ DataW.weightsAll P e l
  | d0 :: r, d, hd, n, hn => by
    simp only [DataW.weightsAll, List.mem_append]
    rcases List.mem_cons.1 hd with rfl | h
    · exact Or.inl hn
    · exact Or.inr (weightsAll_mem h n hn)
theorem open_act5 {t e ti ts tb q : TypeId} {f0 f1 f2 f3 f4 : Field} {fuel : Nat} {cs : List Value} {x : DataW H × List MemPlace} (ht : P.underlying t = some (.slice e)) (he : P.underlying e = some (.struct #[f0, f1, f2, f3, f4]))
    (e0 : f0.type = ti) (e1 : f1.type = ts) (e2 : f2.type = ti) (e3 : f3.type = tb) (e4 : f4.type = ts) (hk : P.underlying ti = some (.int .i64)) (hst : P.underlying ts = some .string) (hbq : P.underlying tb = some (.slice q)) (hq : P.underlying q = some (.int .u8))
    (hcq : P.cellsOf q = 1) (hb1 : P.bytesOf q = 1) (hone : oneCellFields P #[f0, f1, f2, f3, f4] = true) (hC : P.cellsOf e = 5) {B : Nat} (hB : P.bytesOf e = B)
    (h : DataW.trod enc P W 0 (fun _ => true) true fuel t cs = some x) (hs : ∀ n ∈ x.1.weights P t, n ≤ reachBytes) :
    ∃ ao cap L fp, cs = [.slice ao L.length cap] ∧ (L.length * B ≤ 140737488355328 ∧ ∀ y ∈ L, y.wf) ∧ RdAct W fp ao L := by
  rcases open_slice ht h with ⟨rfl, rfl⟩ | ⟨a, len, cap, m, n, D, Pl, rfl, hb0, hl, hm, hmm, rfl, hi⟩
  · exact ⟨none, 0, [], [], rfl, ⟨by simp, by simp⟩, fun i y hy => by simp at hy⟩
  simp only [if_true] at hmm
  have each : ∀ i, i < len → ∃ y : AAct × Option Addr × Nat × List Nat, W.cell? ((a.add (i * 5)).add 0) = some (.int .i64 y.1.kind) ∧ W.cell? ((a.add (i * 5)).add 1) = some (.string (ba y.1.path)) ∧
      W.cell? ((a.add (i * 5)).add 2) = some (.int .i64 y.1.mode) ∧ W.cell? ((a.add (i * 5)).add 3) = some (.slice y.2.1 y.1.data.length y.2.2.1) ∧ W.cell? ((a.add (i * 5)).add 4) = some (.string (ba y.1.target)) ∧
      y.1.data.length ≤ y.2.2.1 ∧ Rd W y.2.2.2 y.2.1 (bv y.1.data) ∧ y.1.wf := by
    intro i hil
    obtain ⟨cs', hc, ht'⟩ := hi i (by omega)
    rw [hC] at hc
    obtain ⟨ys, n', hn', hy, hlen, hyl, hf⟩ := DataW.trod_struct he ht'
    obtain ⟨_, hcl, hat⟩ := World.cells?_some hc
    simp only [Prod.mk.injEq] at hy
    have hwt : ∀ j (hj : j < 5) (f : Field), #[f0, f1, f2, f3, f4][j]? = some f → ∀ y : DataW H × List MemPlace, ys[j]? = some y → ∀ k ∈ y.1.weights P f.type, k ≤ reachBytes := by
      intro j hj f hfj y hyj k hk'
      refine hs k ?_
      simp only [DataW.weights, ht]
      refine List.mem_cons_of_mem _ (List.mem_append_left _ (weightsAll_mem (d := D i) (List.mem_map.2 ⟨i, List.mem_range.2 hil, rfl⟩) k ?_))
      rw [hy.1]
      simp only [DataW.weights, he]
      exact DataW.weights_mem_each (j := j) (t := f.type) (d := y.1) (by rw [List.getElem?_map, Array.getElem?_toList, hfj]; rfl) (by rw [List.getElem?_map, hyj]; rfl) k hk'
    have hfield : ∀ j (hj : j < 5) (f : Field), #[f0, f1, f2, f3, f4][j]? = some f → ∃ (v : Value) (y : DataW H × List MemPlace), W.cell? ((a.add (i * 5)).add j) = some v ∧ ys[j]? = some y ∧ DataW.trod enc P W 0 (fun _ => true) true n' f.type [v] = some y := by
      intro j hj f hfj
      obtain ⟨ho, hk'⟩ := hone_of hone j f hfj
      have hv : cs'[j]? = some (cs'[j]'(by omega)) := List.getElem?_eq_getElem (by omega)
      have h1 := hf j f hfj
      rw [ho, hk'] at h1
      have hone' : (cs'.drop j).take 1 = [cs'[j]'(by omega)] := by
        rw [List.drop_eq_getElem_cons (by omega)]
        rfl
      rw [hone'] at h1
      have hyl' : ys.length = 5 := hyl
      have hys : ys[j]? = some (ys[j]'(by omega)) := List.getElem?_eq_getElem (by omega)
      exact ⟨_, _, by rw [hat j hj, hv], hys, h1.trans hys⟩
    obtain ⟨v0, y0, c0, g0, t0⟩ := hfield 0 (by omega) f0 rfl
    obtain ⟨v1, y1, c1, g1, t1⟩ := hfield 1 (by omega) f1 rfl
    obtain ⟨v2, y2, c2, g2, t2⟩ := hfield 2 (by omega) f2 rfl
    obtain ⟨v3, y3, c3, g3, t3⟩ := hfield 3 (by omega) f3 rfl
    obtain ⟨v4, y4, c4, g4, t4⟩ := hfield 4 (by omega) f4 rfl
    rw [e0] at t0
    rw [e1] at t1
    rw [e2] at t2
    rw [e3] at t3
    rw [e4] at t4
    obtain ⟨k0, hk0, _, w0⟩ := DataW.trod_int hk t0
    obtain ⟨k2, hk2, _, w2⟩ := DataW.trod_int hk t2
    obtain ⟨s1, hs1, hx1, _⟩ := DataW.trod_string hst t1
    obtain ⟨s4, hs4, hx4, _⟩ := DataW.trod_string hst t4
    obtain ⟨ao, c, b, f, h1, h2, h3, h4⟩ := open_bytes hbq hq hcq hb1 t3 (fun k hk' => hwt 3 (by omega) f3 rfl y3 g3 k (by rw [e3]; exact hk'))
    have z1 : s1.data.toList.length ≤ reachBytes := hwt 1 (by omega) f1 rfl y1 g1 _ (by rw [hx1, e1]; simp [DataW.weights])
    have z4 : s4.data.toList.length ≤ reachBytes := hwt 4 (by omega) f4 rfl y4 g4 _ (by rw [hx4, e4]; simp [DataW.weights])
    simp at hk0 hk2 hs1 hs4 h1
    subst hk0 hk2 hs1 hs4 h1
    simp only [reachBytes] at z1 z4
    exact ⟨(⟨k0, s1.data.toList, k2, b, s4.data.toList⟩, ao, c, f), c0, by rw [ba_toList]; exact c1, c2, c3, by rw [ba_toList]; exact c4, h3, h4, by simpa [Lit.wf, IntKind.min, IntKind.max, IntKind.signed, IntKind.bits] using w0, by simpa [Lit.wf, IntKind.min, IntKind.max, IntKind.signed, IntKind.bits] using w2, by simp only; omega, h2, by simp only; omega⟩
  obtain ⟨y, hy⟩ := choose_lt each
  have hreach := hs ((len + (m - len)) * B) (by simp [DataW.weights, ht, hB])
  have hlen : ((List.range len).map fun i => (y i).1).length = len := by simp
  refine ⟨some a, cap, (List.range len).map (fun i => (y i).1), a.block :: (List.range len).flatMap (fun i => (y i).2.2.2), by rw [hlen], ⟨?_, ?_⟩, ?_⟩
  · rw [hlen]
    have h1 : len * B ≤ (len + (m - len)) * B := Nat.mul_le_mul_right _ (by omega)
    simp only [reachBytes] at hreach
    omega
  · intro z hz
    obtain ⟨i, hi', rfl⟩ := List.mem_map.1 hz
    exact (hy i (List.mem_range.1 hi')).2.2.2.2.2.2.2
  · intro i z hz
    have hi' : i < len := by have := (List.getElem?_eq_some_iff.1 hz).1; simpa using this
    simp [hi'] at hz
    subst hz
    obtain ⟨c0, c1, c2, c3, c4, h3, h4, _⟩ := hy i hi'
    exact ⟨a, _, _, rfl, by simp, c0, c1, c2, c3, c4, h3, h4.mono (fun k hk => List.mem_cons_of_mem _ (List.mem_flatMap.2 ⟨i, List.mem_range.2 hi', hk⟩))⟩
end
end Go.Pax
namespace Go.Proofs.YtfhiioopimmahaaGreatDoor
open Go.ChangeShapes Go.WideShapes Go.ChangeAt Go.RowKit Go.Pax Go.Joins Go.Deep

theorem Tryz.own : ownKnob Tryz.prog.godebug = none := by kernel_rfl
theorem Tryz.laidOut : laidOutB Tryz.prog = true := by kernel_rfl

theorem Tryz.vcellsI : Tryz.prog.cellsOf 3 = 1 := by kernel_rfl
theorem Tryz.vcellsB : Tryz.prog.cellsOf 5 = 1 := by kernel_rfl
theorem Tryz.vbytesI : Tryz.prog.bytesOf 3 = 8 := by kernel_rfl
theorem Tryz.vbytesB : Tryz.prog.bytesOf 5 = 1 := by kernel_rfl
theorem Tryz.vbytesS : Tryz.prog.bytesOf 9 = 16 := by kernel_rfl
theorem Tryz.vcellsS : Tryz.prog.cellsOf 9 = 1 := by kernel_rfl

theorem Tryz.readable {ts : List TypeId} (h : (ts.all fun t => Tryz.prog.readableRec t && decide (t < Tryz.prog.types.size)) = true) : ∀ t ∈ ts, Tryz.prog.readableRec t = true ∧ t < Tryz.prog.types.size := by
  intro t ht
  have := List.all_eq_true.1 h t ht
  simpa using this

section
variable {H : Type} {enc : TypeId × Value → H} {W : World}
theorem Tryz.sized {ts : List TypeId} {ds : List (DataW H)} (h : (DataW.weightsEach Tryz.prog ts ds).all (· ≤ reachBytes) = true) (j : Nat) {t : TypeId} {d : DataW H} (ht : ts[j]? = some t) (hd : ds[j]? = some d) : ∀ n ∈ d.weights Tryz.prog t, n ≤ reachBytes := by
  intro n hn
  simpa using List.all_eq_true.1 h _ (DataW.weights_mem_each ht hd n hn)

theorem Tryz.law_reads {fn : Func} {s : ChangeSpec} {apart : Bool} {args : Array Value} {ds gs : List (DataW H)} {before : List MemPlace} (hv : s.vars = [])
    (hW : DataW.Whole enc Tryz.prog fn.params.toList s.vars apart W args.toList ds gs before) (hsz : (DataW.weightsEach Tryz.checked.prog (fn.params.toList ++ s.plain.varTypes Tryz.checked.prog) (ds ++ gs)).all (· ≤ reachBytes) = true) :
    DataW.TrodAll enc Tryz.prog W 0 (fun _ => true) true fn.params.toList args.toList ds before ∧ (DataW.weightsEach Tryz.prog fn.params.toList ds).all (· ≤ reachBytes) = true := by
  obtain ⟨p, q, hA, hV, rfl, hfz, hnd⟩ := hW
  rw [hv] at hV
  obtain ⟨rfl, rfl⟩ := trodVars_none hV
  have hvt : s.plain.varTypes Tryz.checked.prog = [] := by
    have h0 : s.plain.vars = [] := hv
    unfold DataSpec.varTypes
    rw [h0]
    rfl
  rw [hvt, List.append_nil, List.append_nil] at hsz
  exact ⟨by simpa using hA, hsz⟩

set_option maxRecDepth 100000 in
theorem Tryz.openB {r : Reach} {b0 : Nat} {v : Value} {d : DataW H} {p : List MemPlace} (hv : Value.okWide Tryz.prog W r b0 43 v) (h : DataW.Trod enc Tryz.prog W 0 (fun _ => true) true 43 v d p) (hs : ∀ n ∈ d.weights Tryz.prog 43, n ≤ reachBytes) :
    ∃ ao cap b fp, v = .slice ao b.length cap ∧ b.length ≤ 140737488355328 ∧ b.length ≤ cap ∧ Rd W fp ao (bv b) := by
  obtain ⟨a, l, c, rfl⟩ := okWide_slice Tryz.underlying43 hv
  obtain ⟨fuel, hf⟩ := h
  obtain ⟨ao, cap, b, fp, hcs, h1, h2, h3⟩ := open_bytes Tryz.underlying43 Tryz.underlying5 Tryz.vcellsB Tryz.vbytesB hf hs
  simp [Value.cells] at hcs
  obtain ⟨rfl, rfl, rfl⟩ := hcs
  exact ⟨_, _, b, fp, rfl, h1, h2, h3⟩
set_option maxRecDepth 100000 in
theorem Tryz.openI {r : Reach} {b0 : Nat} {v : Value} {d : DataW H} {p : List MemPlace} (hv : Value.okWide Tryz.prog W r b0 31 v) (h : DataW.Trod enc Tryz.prog W 0 (fun _ => true) true 31 v d p) (hs : ∀ n ∈ d.weights Tryz.prog 31, n ≤ reachBytes) :
    ∃ ao cap l fp, v = .slice ao l.length cap ∧ l.length * 8 ≤ 140737488355328 ∧ Rd W fp ao (iv l) ∧ ∀ n ∈ l, -9223372036854775808 ≤ n ∧ n ≤ 9223372036854775807 := by
  obtain ⟨a, l, c, rfl⟩ := okWide_slice Tryz.underlying31 hv
  obtain ⟨fuel, hf⟩ := h
  obtain ⟨ao, cap, b, fp, hcs, h1, h2, h3⟩ := open_i64s Tryz.underlying31 Tryz.underlying3 Tryz.vcellsI Tryz.vbytesI hf hs
  simp [Value.cells] at hcs
  obtain ⟨rfl, rfl, rfl⟩ := hcs
  exact ⟨_, _, b, fp, rfl, h1, h2, h3⟩
set_option maxRecDepth 100000 in
theorem Tryz.openS {r : Reach} {b0 : Nat} {v : Value} {d : DataW H} {p : List MemPlace} (hv : Value.okWide Tryz.prog W r b0 9 v) (h : DataW.Trod enc Tryz.prog W 0 (fun _ => true) true 9 v d p) (hs : ∀ n ∈ d.weights Tryz.prog 9, n ≤ reachBytes) :
    ∃ l : List UInt8, v = .string (ba l) ∧ l.length ≤ 140737488355328 := by
  obtain ⟨s, rfl, rfl, _, _⟩ := Go.ChangeMaps.open_string Tryz.underlying9 hv h
  refine ⟨s.data.toList, by rw [ba_toList], ?_⟩
  have := hs s.data.toList.length (by simp [DataW.weights])
  simp only [reachBytes] at this
  omega
set_option maxRecDepth 100000 in
theorem Tryz.openA {r : Reach} {b0 : Nat} {v : Value} {d : DataW H} {p : List MemPlace} (hv : Value.okWide Tryz.prog W r b0 24 v) (h : DataW.Trod enc Tryz.prog W 0 (fun _ => true) true 24 v d p) (hs : ∀ n ∈ d.weights Tryz.prog 24, n ≤ reachBytes) :
    ∃ ao cap L fp, v = .slice ao L.length cap ∧ (L.length ≤ 140737488355328 ∧ ∀ y ∈ L, y.wf) ∧ RdAct W fp ao L := by
  obtain ⟨a, l, c, rfl⟩ := okWide_slice Tryz.underlying24 hv
  obtain ⟨fuel, hf⟩ := h
  obtain ⟨ao, cap, b, fp, hcs, h1, h2⟩ := open_act5 (ti := 3) (ts := 9) (tb := 43) Tryz.underlying24 Tryz.underlying53 rfl rfl rfl rfl rfl Tryz.underlying3 Tryz.underlying9 Tryz.underlying43 Tryz.underlying5 Tryz.vcellsB Tryz.vbytesB (by kernel_rfl) (by kernel_rfl) (B := 72) (by kernel_rfl) hf hs
  simp [Value.cells] at hcs
  obtain ⟨rfl, rfl, rfl⟩ := hcs
  exact ⟨_, _, b, fp, rfl, ⟨by omega, h1.2⟩, h2⟩
end
/-- The listed variable paxrec.keys, as it lies. -/
theorem Tryz.keysAt {W : World} {l : List (String × DataW Unit)} (hm : ("paxtar/paxrec.keys", (Rows.laid_paxtar_paxrec_keys : DataW Unit)) ∈ l) (h : laidMetH Tryz.prog l W) (hn : (l.all fun x => x.2.handleName?.isNone) = true) : KeysAt W := by
  rw [MakeChecks.laidMetH_plain _ _ _ hn] at h
  exact laid_three (n := "paxtar/paxrec.keys") h hm (by kernel_rfl) (t := 177) (by kernel_rfl) (e := 9) Tryz.underlying177 Tryz.underlying9 Tryz.vcellsS (by kernel_rfl)
end Go.Proofs.YtfhiioopimmahaaGreatDoor
namespace Go.Pax
open Go.ChangeShapes Go.WideShapes Go.ChangeAt Go.RowKit Go.Joins Go.Deep
section
variable {H : Type} {enc : TypeId × Value → H} {P : Program} {W : World}
theorem open_pair16 {t e : TypeId} {r : Reach} {b0 : Nat} {v : Value} {d : DataW H} {p : List MemPlace} (ht : P.underlying t = some (.array 2 e)) (he : P.underlying e = some (.int .u16)) (hc : P.cellsOf e = 1) (hct : P.cellsOf t = 2)
    (hv : Value.okWide P W r b0 t v) (h : DataW.Trod enc P W 0 (fun _ => true) true t v d p) : ∃ x y : Int, v = .agg #[.int .u16 x, .int .u16 y] ∧ (0 ≤ x ∧ x ≤ 65535) ∧ (0 ≤ y ∧ y ≤ 65535) := by
  simp only [Value.okWide, ht] at hv
  obtain ⟨cs, rfl, hsz, _⟩ := hv
  rw [hct] at hsz
  obtain ⟨fuel, hf⟩ := h
  obtain ⟨xs, m, _, hx, hlen, hn, hel⟩ := DataW.trod_array ht hf
  have hel0 := hel 0 (by omega)
  have hel1 := hel 1 (by omega)
  rw [hc] at hel0 hel1
  obtain ⟨cl⟩ := cs
  match cl, hsz, xs, hn with
  | [c0, c1], _, [x0, x1], _ =>
    simp only [Value.cells] at hel0 hel1
    obtain ⟨k0, e0, _, w0⟩ := DataW.trod_int he hel0
    obtain ⟨k1, e1, _, w1⟩ := DataW.trod_int he hel1
    simp at e0 e1
    subst e0 e1
    exact ⟨k0, k1, rfl, by simpa [Lit.wf, IntKind.min, IntKind.max, IntKind.signed, IntKind.bits] using w0, by simpa [Lit.wf, IntKind.min, IntKind.max, IntKind.signed, IntKind.bits] using w1⟩
end
end Go.Pax
namespace Go.Proofs.YtfhiioopimmahaaGreatDoor
open Go.ChangeShapes Go.WideShapes Go.ChangeAt Go.RowKit Go.Pax Go.Joins Go.Deep
set_option maxRecDepth 100000 in
theorem Tryz.openN {H : Type} {enc : TypeId × Value → H} {W : World} {r : Reach} {b0 : Nat} {v : Value} {d : DataW H} {p : List MemPlace} (hv : Value.okWide Tryz.prog W r b0 23 v) (h : DataW.Trod enc Tryz.prog W 0 (fun _ => true) true 23 v d p) :
    ∃ x y : Int, v = .agg #[.int .u16 x, .int .u16 y] ∧ (0 ≤ x ∧ x ≤ 65535) ∧ (0 ≤ y ∧ y ≤ 65535) :=
  open_pair16 Tryz.underlying23 Tryz.underlying22 (by kernel_rfl) (by kernel_rfl) hv h
end Go.Proofs.YtfhiioopimmahaaGreatDoor
namespace Go.Proofs.YtfhiioopimmahaaGreatDoor
open Go.ChangeShapes Go.WideShapes Go.ChangeAt Go.RowKit Go.Pax Go.Joins

set_option maxRecDepth 100000 in
theorem walkClassesAreInodes_opened (H : Type) (enc : TypeId × Value → H) (W : World) (base : Nat) (args : Array Value) (ds : List (DataW H)) (before : List MemPlace)
    (hval : ∀ (j : Nat) t v, Tryz.f3.params[j]? = some t → args[j]? = some v → Value.okWide Tryz.prog W .any base t v)
    (hA : DataW.TrodAll enc Tryz.prog W 0 (fun _ => true) true Tryz.f3.params.toList args.toList ds before)
    (hsz : (DataW.weightsEach Tryz.prog Tryz.f3.params.toList ds).all (· ≤ reachBytes) = true) (hkeys : KeysAt W) :
    Calls Tryz.prog 3 args W fun e W' => e = .returned (.bool true) ∧ Chg [] W W' := by
  rw [Tryz.params3] at hA hval hsz
  obtain ⟨v0, v1, d0, d1, p0, p1, rfl, rfl, rfl, h0, h1⟩ := trodAll_two hA
  obtain ⟨x0, y0, rfl, hx0, hy0⟩ := Tryz.openN (hval 0 23 v0 rfl rfl) h0
  obtain ⟨a1, c1, l1, f1, rfl, hl1, r1⟩ := Tryz.openA (hval 1 24 v1 rfl rfl) h1 (Tryz.sized hsz 1 rfl rfl)
  exact classesInodes W x0 y0 hx0 hy0 a1 c1 l1 (f1) hkeys (r1.mono (fun k hk => by simp [hk])) hl1.2 hl1.1

theorem walkClassesAreInodes_door (os : Os) (args : Array Value) : laidMetH Tryz.prog Rows.walkClassesAreInodesRow.laid ((World.doorLaid Tryz.prog 67 os).forCall (fun _ _ => 0) ⟨#[], args, []⟩).memory :=
  laidMetH_of_parts3 (fuel := 8) (laidMet_of_run' 8 (by kernel_rfl) (by kernel_rfl)) (by kernel_rfl) (by kernel_rfl)

set_option maxRecDepth 100000 in
theorem walkClassesAreInodes_lifted (os : Os) (started : os.Started) (H : Type) (enc : TypeId × Value → H) :
    ReturnsInHanded {} Tryz.checked os 3 .any (fun w args => (Rows.walkClassesAreInodesSpec.pre enc Tryz.prog Tryz.f3 [] false w args ∧ laidMetH Tryz.prog Rows.walkClassesAreInodesRow.laid w) ∧ sizedMet enc Tryz.prog Tryz.f3 (OpenSpec.ofChange Rows.walkClassesAreInodesSpec) false w args)
      (Rows.walkClassesAreInodesSpec.post enc Tryz.prog Tryz.f3 false true false false) := by
  refine returnsInHanded_of_change_and (C := Tryz.checked) (X := fun w _ => laidMetH Tryz.prog Rows.walkClassesAreInodesRow.laid w) (fun _ _ _ hh h => h.of_heap hh) Tryz.own started (by kernel_rfl) Tryz.func3
    (ChangeSpec.witness_shaped (enc := enc) (C := Tryz.checked) (os := os) (X := fun w _ => laidMetH Tryz.prog Rows.walkClassesAreInodesRow.laid w) false (World.doorLaid Tryz.prog 67 os) #[.agg #[.int .u16 0, .int .u16 0], .slice none 0 0] 8 rfl (World.shaped_of_RefB (by kernel_rfl) (by kernel_rfl)) (by kernel_rfl) (by kernel_rfl) (by kernel_rfl) (walkClassesAreInodes_door os _)) ?_
  intro W base args ds gs before hval hW _ hsz hL _
  obtain ⟨hA, hsz'⟩ := Tryz.law_reads (s := Rows.walkClassesAreInodesSpec) rfl hW hsz
  refine (walkClassesAreInodes_opened H enc W base args ds before hval hA hsz' (Tryz.keysAt (l := Rows.walkClassesAreInodesRow.laid) (List.mem_of_getElem? (i := 5) rfl) hL (by kernel_rfl))).mono fun e W' ⟨he, hc⟩ => ⟨_, he, ?_⟩
  rw [Tryz.params3] at hA
  obtain ⟨v0, v1, d0, d1, p0, p1, _, rfl, _⟩ := trodAll_two hA
  exact law_post Tryz.laidOut rfl rfl Tryz.underlying4 (by rw [Tryz.params3]; exact Tryz.readable (by kernel_rfl)) ⟨rfl, rfl, rfl⟩ hW hc

theorem walkClassesAreInodes_row : Rows.WalkClassesAreInodesSaid :=
  OpenClaim.holds_of_wide 3 Tryz.f3 rfl rfl rfl rfl rfl rfl rfl ⟨rfl, rfl, rfl, rfl, rfl⟩ rfl rfl rfl rfl rfl (by kernel_rfl) Tryz.func3 (by kernel_rfl)
    (of_decide_eq_true (by kernel_rfl)) (by unfold Func.isWrapper; rw [if_neg (of_decide_eq_false (by kernel_rfl))]; exact ⟨rfl, rfl⟩)
    (fun os started H enc _ => walkClassesAreInodes_lifted os started H enc)

theorem WalkClassesAreInodes_holds : Rows.WalkClassesAreInodesCardSaid :=
  Claim7.holds_tied_plain_at .later [] [.data, .data, .data, .sentinel, .sentinel, .widerDeep] true (true, "e1daa420078c2577f9e7183478e0595786e944dff6a4e56afc2f7b4b9f772c91") true
    walkClassesAreInodes_row (fun _ h => by cases h) (by kernel_rfl) (fun _ h => by cases h) walkClassesAreInodes_row_tie rfl ⟨rfl, rfl⟩ (by kernel_rfl) rfl
    (fun f fn hf hfn => by
      obtain rfl : f = 3 := Option.some.inj ((show Tryz.prog.funcNamed "paxtar/paxtarlaw20.WalkClassesAreInodes" = some 3 by kernel_rfl).symm.trans hf) |>.symm
      obtain rfl : fn = Tryz.f3 := (Option.some.inj (Tryz.func3.symm.trans hfn)).symm
      exact ⟨by kernel_rfl, fun j t ht => by
        rw [Tryz.params3] at ht
        have hm : t ∈ [23, 24] := by simpa using Array.mem_of_getElem? ht
        have hall : ([23, 24].all fun u => !Tryz.prog.wantsStandIn u) = true := by kernel_rfl
        exact (show Tryz.prog.wantsStandIn t = false by simpa using List.all_eq_true.1 hall t hm)⟩)
    (by kernel_rfl)
#print axioms WalkClassesAreInodes_holds
end Go.Proofs.YtfhiioopimmahaaGreatDoor
