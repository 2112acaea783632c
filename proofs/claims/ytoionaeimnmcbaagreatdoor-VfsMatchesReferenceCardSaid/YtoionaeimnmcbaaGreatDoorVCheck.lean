/- strings.Cut at one byte; paxtar/pathname.components, Check. -/
import Derived.Test.YtoionaeimnmcbaaGreatDoorVComp
import Derived.Test.YtoionaeimnmcbaaGreatDoorVShelf
import Derived.RangeFuncNested
import Derived.RangeFuncBound
import Derived.RangeFuncCalls
import Derived.RangeFuncLeaves
import Derived.Shelf.Abstract
import Derived.Shelf.RegionOpen
import Derived.WalkKit
import Derived.OwnWalkIn
import Derived.TacticsInMore
import Derived.LoopNIn
import Derived.LoopIn
namespace Go.Proofs.YtoionaeimnmcbaaGreatDoor
open Go.RowKit Go.Pax Go.Shelf

theorem ext_take (s : ByteArray) (k : Nat) : s.extract 0 k = ba (s.data.toList.take k) := by
  rw [← ba_toList (s.extract 0 k), Lib.extract_data]; simp
theorem ext_drop (s : ByteArray) (k : Nat) : s.extract k s.size = ba (s.data.toList.drop k) := by
  rw [← ba_toList (s.extract k s.size), Lib.extract_to_end]
theorem sz_len (s : ByteArray) : s.size = s.data.toList.length := by cases s; simp [ByteArray.size]

set_option maxHeartbeats 1000000 in
theorem slcut (l : List UInt8) (w : World) (hs : l.length ≤ 65536) :
    Calls Tryz.prog 102 #[.string (ba l), .string ⟨#[47]⟩] w fun e w' => e = .returned (.tuple #[.string (ba (cutL l).1), .string (ba (cutL l).2.1), .bool (cutL l).2.2]) ∧ ∃ k, w' = w.drewN k := by
  have h1 := Lib.indexByte_ge l 47
  have h2 := indexByte_lt l 47
  have hz : (ba l).size = l.length := ba_size l
  have ha := fun k => ext_take (ba l) k
  have hb := fun k => ext_drop (ba l) k
  simp only [ba_data] at ha hb
  have hcl : cutL l = if 0 ≤ Lib.indexByte l 47 then (l.take (Lib.indexByte l 47).toNat, l.drop ((Lib.indexByte l 47).toNat + 1), true) else (l, [], false) := rfl
  have hidx := Tryz.stringslite_Index_one (ba l) 47 w
  rw [ba_data] at hidx
  have HI := Lib.hid hidx
  clear hidx
  generalize Lib.indexByte l 47 = x at *
  by_cases hx : 0 ≤ x
  · obtain ⟨o, rfl⟩ : ∃ o : Nat, x = o := ⟨x.toNat, by omega⟩
    rw [if_pos hx] at hcl
    have HC := Lib.hid hcl
    have HA := Lib.hid (ha o)
    have HB := Lib.hid (hb (o + 1))
    have HZ := Lib.hid hz
    have hlt : (o : Int) < ((ba l).size : Int) := by rw [hz]; omega
    have hle : (o : Int) + 1 ≤ ((ba l).size : Int) := by omega
    have hle2 : ((ba l).size : Int) ≤ 65536 := by rw [hz]; omega
    clear hcl ha hb hz h1 h2 hs
    generalize ba l = s at *
    go_enter Tryz.func102, Tryz.ntmps102
    go_wp2_with (go_at_call 71; refine HI.out.mono ?_; rintro e w' ⟨rfl, rfl⟩)
    go_quiet (fail)
    go_wp2_with fail
    go_ret3
    rw [HC.out]
    simp only
    rw [Int.toNat_natCast, ← HA.out, ← HB.out]
    exact ⟨by simp, _, rfl⟩
  · rw [if_neg hx] at hcl
    have HC := Lib.hid hcl
    clear hcl ha hb hz h2 hs
    go_enter Tryz.func102, Tryz.ntmps102
    go_wp2_with (go_at_call 71; refine HI.out.mono ?_; rintro e w' ⟨rfl, rfl⟩)
    go_ret3
    rw [HC.out]
    exact ⟨rfl, 0, rfl⟩
set_option maxHeartbeats 1000000 in
theorem scut (l : List UInt8) (w : World) (hs : l.length ≤ 65536) :
    Calls Tryz.prog 93 #[.string (ba l), .string ⟨#[47]⟩] w fun e w' => e = .returned (.tuple #[.string (ba (cutL l).1), .string (ba (cutL l).2.1), .bool (cutL l).2.2]) ∧ ∃ k, w' = w.drewN k := by
  have HI := Lib.hid (slcut l w hs)
  generalize ba (cutL l).1 = a at *
  generalize ba (cutL l).2.1 = b at *
  generalize (cutL l).2.2 = c at *
  go_enter Tryz.func93, Tryz.ntmps93
  go_wp2_with (go_at_call 102; refine HI.out.mono ?_; rintro e w' ⟨rfl, k, rfl⟩)
  go_ret3
  exact ⟨rfl, k, rfl⟩
set_option maxHeartbeats 1000000 in
theorem components (s : ByteArray) (w : World) :
    Calls Tryz.prog 73 #[.string s] w fun e w' => e = .returned (.func (.func 92) #[] #[.pointer (some ⟨w.heap.size, 0, none⟩)]) ∧ w' = w.alloc (.cells #[.string s] 9) := by
  go_enter Tryz.func73, Tryz.ntmps73
  go_wp2
  go_ret
  exact ⟨rfl, rfl⟩

/-- How long the string is that block b holds. -/
def strAt (w : World) (b : Nat) : Nat :=
  match w.cell? ⟨b, 0, none⟩ with
  | some (.string s) => s.size
  | _ => 0
theorem strAt_eq {w : World} {b : Nat} {s : ByteArray} (h : w.cell? ⟨b, 0, none⟩ = some (.string s)) : strAt w b = s.size := by simp [strAt, h]
attribute [local go_sem] Oper.semAt_some
set_option maxRecDepth 100000 in
set_option maxHeartbeats 4000000 in
/-- The iterator: it hands the components on, one by one; its own cell b holds what is left. -/
theorem comp_in (F : Fence) (n : Nat) (h92 : F.fn 92) (h93 : ∀ k, F.fn k) (hro : F.round = none) (hw : F = Fence.wide) (hn : 1 ≤ n) (l b : Nat) (J Jx : List (List UInt8) → World → Prop)
    (hJb : ∀ pre W v, J pre W → J pre (W.setCell ⟨b, 0, none⟩ v)) (hJd : ∀ pre W k, J pre W → J pre (W.drewN k)) :
    ∀ (p : List UInt8) (done : List (List UInt8)) (W : World), p.length ≤ 65536 → W.heap[b]? = some (.cells #[.string (ba p)] 9 (0, 0)) → J done W →
    (∀ pre x W1, J pre W1 → YieldAt F (n - 1) Tryz.prog l #[.string (ba x)] W1 fun e W' =>
      (e = .returned (.bool true) ∧ J (pre ++ [x]) W' ∧ W'.heap[b]? = W1.heap[b]?) ∨ (e = .returned (.bool false) ∧ Jx (pre ++ [x]) W')) →
    CallsIn F n Tryz.prog 92 #[.func (.yield l) #[] #[], .pointer (some ⟨b, 0, none⟩)] W fun e W' =>
      (∃ v, e = .returned v) ∧ (J (done ++ compsL p) W' ∨ ∃ x rest1 rest2, compsL p = rest1 ++ x :: rest2 ∧ Jx (done ++ rest1 ++ [x]) W') := by
  intro p done W hp hb h0 hY
  refine callsIn_of_wp Tryz.func92 rfl h92 ?_ hro
  simp only [Tryz.ntmps92, List.size_toArray, List.length_cons, List.length_nil, Nat.reduceAdd, Nat.reduceSub, Array.replicate_succ, Array.replicate_zero, List.push_toArray, List.append_toArray, List.nil_append, List.cons_append]
  obtain rfl := hw
  gi_wp2
  gi_loopw [4] (fun _ wr => ∃ (q : List UInt8) (d : List (List UInt8)), q.length ≤ 65536 ∧ done ++ compsL p = d ++ compsL q ∧ (∃ r, d = done ++ r) ∧ wr.heap[b]? = some (.cells #[.string (ba q)] 9 (0, 0)) ∧ J d wr) (fun _ wr => strAt wr b)
  case atStart => exact ⟨p, done, hp, rfl, ⟨[], by simp⟩, hb, h0⟩
  case round =>
    obtain ⟨q, d, hq, hd, ⟨r, hr⟩, hb', hJ⟩ := hrel
    clear hb h0
    have hc := hb'
    have c1 := cell_heap hb' 0 rfl
    have f1 : wr.frozen? ⟨b, 0, none⟩ = false := frozen_of_row _ _ _ _ _ hb'
    have hct := scut q wr hq
    have hcc := cutL_comps q
    have hcl := cutL_len q
    have HQ := Lib.hid (And.intro hq (And.intro hd (And.intro hr (And.intro hcc hcl))))
    have HCT := Lib.hid hct
    have HB := Lib.hid hb'
    have HJ := Lib.hid hJ
    have HY := Lib.hid hY
    clear hq hd hr hcc hcl hct hb' hJ hY hc
    generalize hA : (cutL q).1 = A at *
    generalize hR : (cutL q).2.1 = R at *
    generalize hM : (cutL q).2.2 = M at *
    have HA := Lib.hid (And.intro hA (And.intro hR hM))
    clear hA hR hM
    gi_wp2_with (gi_at_call 93; refine (callsIn_wide.2 HCT.out).mono ?_; rintro e w' ⟨rfl, k, rfl⟩)
    all_goals
      obtain ⟨fn, tmps, assign, body, hy, hR⟩ := HY.out d A (wr.drewN k) (hJd _ _ _ HJ.out)
      rw [hy, Oper.uponIn_round]
      refine ⟨fun _ => hn, ?_⟩
      refine hR.mono ?_
      clear hR hy
      obtain ⟨hq, hd, hr, hcc, hcl⟩ := HQ.out
      rintro e W3 (⟨rfl, hJ3, hk3⟩ | ⟨rfl, hJx3⟩)
      · have hb3 : W3.heap[b]? = some (.cells #[.string (ba q)] 9 (0, 0)) := hk3.trans HB.out
        have c3 : W3.cell? ⟨b, 0, none⟩ = some (.string (ba q)) := cell_heap hb3 0 rfl
        have f3 : W3.frozen? ⟨b, 0, none⟩ = false := frozen_of_row _ _ _ _ _ hb3
        have HB3 := Lib.hid hb3
        have HJ3 := Lib.hid hJ3
        have HH := Lib.hid (And.intro hq (And.intro hd (And.intro hr (And.intro hcc hcl))))
        clear hb3 hJ3 hk3 hq hd hr hcc hcl c1 f1
        cases M with
        | true =>
          gi_wp2
          obtain ⟨hq, hd, hr, hcc, hcl⟩ := HH.out
          simp only [if_true] at hcc
          have hlt := hcl trivial
          have hb4 := heap_set HB3.out 0 (.string (ba R)) rfl
          have c0 : wr.cell? ⟨b, 0, none⟩ = some (.string (ba q)) := cell_heap HB.out 0 rfl
          have c4 : (W3.setCell ⟨b, 0, none⟩ (.string (ba R))).cell? ⟨b, 0, none⟩ = some (.string (ba R)) := cell_heap hb4 0 rfl
          go_roundw
          case rel => exact ⟨R, d ++ [A], by omega, by rw [hd, hcc]; simp, ⟨r ++ [A], by rw [hr]; simp⟩, hb4, hJb _ _ _ HJ3.out⟩
          case measure => rw [strAt_eq c4, strAt_eq c0, ba_size, ba_size]; exact hlt
        | false =>
          gi_wp2
          obtain ⟨hq, hd, hr, hcc, hcl⟩ := HH.out
          simp only [Bool.false_eq_true, if_false] at hcc

          refine bodyPost_ret (results_none rfl _ _ _) rfl ?_
          exact ⟨⟨_, rfl⟩, .inl (by rw [hd, hcc]; exact HJ3.out)⟩
      · gi_wp2
        refine bodyPost_ret (results_none rfl _ _ _) rfl ?_
        refine ⟨⟨_, rfl⟩, .inr ?_⟩
        have hq' : compsL q = A :: (if M = true then compsL R else []) := by rw [hcc]; split <;> rfl
        refine ⟨A, r, if M = true then compsL R else [], ?_, by rw [← hr]; exact hJx3⟩
        have := hd
        rw [hr, List.append_assoc] at this
        rw [List.append_cancel_left this, hq']

/-- A range over a path's components, whose body tests a component and leaves with 6 in block r where it is bad. -/
theorem range_comp {g : Operand} {assign body : Code} {Q : Exit → Act → World → Prop} {a : Act} {w : World} {b r : Nat} {p : List UInt8} {q : Tmp}
    (hg : a.eval g = .func (.func 92) #[] #[.pointer (some ⟨b, 0, none⟩)])
    (hp : p.length ≤ 65536) (hb : w.heap[b]? = some (.cells #[.string (ba p)] 9 (0, 0))) (hr : w.heap[r]? = some (.cells #[.int .i64 0] 33 (0, 0))) (hne : r ≠ b) (a₁ : List UInt8 → Act)
    (hassign : ∀ (l : Nat) (x : List UInt8) (W : World) (K : Act → World → Prop), K (a₁ x) W →
      assign.wpIn (Fence.wide.inRound l) 3 Tryz.prog (Exit.then K (fun _ _ _ => False)) { tmps := a.tmps.setIfInBounds q (.string (ba x)), defers := [] } W)
    (hbody : ∀ (l : Nat) (x : List UInt8) (W : World), W.heap[r]? = some (.cells #[.int .i64 0] 33 (0, 0)) → (badC x = false → body.wpIn (Fence.wide.inRound l) 3 Tryz.prog (fun e _ W' => e = .normal ∧ W' = W) (a₁ x) W) ∧
      (badC x = true → body.wpIn (Fence.wide.inRound l) 3 Tryz.prog (fun e _ W' => e = .ret ∧ W' = W.setCell ⟨r, 0, none⟩ (.int .i64 6)) (a₁ x) W))
    (hdone : ∀ (D : Nat) (W : World), w.heap.size ≤ D → (compsL p).any badC = false → Chg [b] w W → W.heap[D]? = some (.deferred (some [])) → Q .normal { a with defers := { target := .collected D, args := #[] } :: a.defers } W)
    (hstop : ∀ (D : Nat) (W : World), w.heap.size ≤ D → (compsL p).any badC = true → Chg [b, r] w W → W.heap[r]? = some (.cells #[.int .i64 6] 33 (0, 0)) → W.heap[D]? = some (.deferred (some [])) → Code.ret.wpIn Fence.wide 5 Tryz.prog Q { a with defers := { target := .collected D, args := #[] } :: a.defers } W) :
    (Code.rangeFunc g #[q] assign body).wpIn Fence.wide 5 Tryz.prog Q a w := by
  refine wpIn_rangeFunc fun fn hfn => ?_
  obtain ⟨rec, hrec⟩ : ∃ rec : LoopState → Option Code → Loop, rec = fun st pe => { state := st, pending := pe, fn, tmps := a.tmps, params := #[q], assign, body, defers := w.heap.size } := ⟨_, rfl⟩
  obtain ⟨W1, hW1⟩ : ∃ W1, (w.alloc (.deferred (some []))).alloc (.loop (rec .ready none)) = W1 := ⟨_, rfl⟩
  have hlb : b < w.heap.size := lt_of_block hb
  have hlr : r < w.heap.size := lt_of_block hr
  have hL1 : W1.heap[w.heap.size + 1]? = some (.loop (rec .ready none)) := by rw [← hW1]; exact heap_new_at (by simp)
  have hD1 : W1.heap[w.heap.size]? = some (.deferred (some [])) := by rw [← hW1]; exact heap_keep (heap_alloc_new _ _)
  have hb1 : W1.heap[b]? = some (.cells #[.string (ba p)] 9 (0, 0)) := by rw [← hW1]; exact heap_keep (heap_keep hb)
  have hr1 : W1.heap[r]? = some (.cells #[.int .i64 0] 33 (0, 0)) := by rw [← hW1]; exact heap_keep (heap_keep hr)
  have hk1 : Chg [b] w W1 := by rw [← hW1]; exact ((Chg.refl _ _).alloc _).alloc _
  refine ⟨w.heap.size + 1, [{ target := .collected w.heap.size, args := #[] }], W1, { target := .fn (.func 92) #[.pointer (some ⟨b, 0, none⟩)], args := #[.func (.yield (w.heap.size + 1)) #[] #[]] }, W1, 92,
    #[.func (.yield (w.heap.size + 1)) #[] #[]] ++ #[.pointer (some ⟨b, 0, none⟩)], W1, ?_, ?_, fun _ _ => trivial, ?_, (fun h => by cases h), ?_⟩
  · rw [← hW1, hrec]; exact run_enterLoop_outer _ _ _ _ _
  · simp only [resolve, hg]
    simp [go_sem]
  · simp [invoke, go_sem]
  · have hput : ∀ (W : World) (i : Nat) (o : Obj), i < W.heap.size → (W.putObj i o).heap[i]? = some o := fun W i o h => World.putObj_heap_same h
    have hoth : ∀ (W : World) (i j : Nat) (o : Obj), j ≠ i → (W.putObj i o).heap[j]? = W.heap[j]? := fun W i j o h => World.putObj_heap_other h
    have hkp : ∀ (S : List Nat) (W : World) (i : Nat) (o : Obj), w.heap.size ≤ i → Chg S w W → Chg S w (W.putObj i o) := fun S W i o hi h =>
      ⟨h.os, h.tape, h.output, by simpa [World.putObj] using h.size, fun k hk hS => (hoth _ _ _ _ (by omega)).trans (h.block k hk hS)⟩
    refine (comp_in Fence.wide 4 trivial (fun _ => trivial) rfl rfl (by decide) (w.heap.size + 1) b
      (fun pre W => (pre.any badC = false) ∧ W.heap[r]? = some (.cells #[.int .i64 0] 33 (0, 0)) ∧ W.heap[w.heap.size + 1]? = some (.loop (rec .ready none)) ∧ W.heap[w.heap.size]? = some (.deferred (some [])) ∧ Chg [b] w W)
      (fun pre W => (pre.any badC = true) ∧ W.heap[r]? = some (.cells #[.int .i64 6] 33 (0, 0)) ∧ W.heap[w.heap.size + 1]? = some (.loop (rec .done (some .ret))) ∧ W.heap[w.heap.size]? = some (.deferred (some [])) ∧ Chg [b, r] w W)
      ?_ (fun pre W k h => ⟨h.1, h.2.1, h.2.2.1, h.2.2.2.1, h.2.2.2.2.drewN k⟩) p [] W1 hp hb1 ⟨rfl, hr1, hL1, hD1, hk1⟩ ?_).mono ?_
    · rintro pre W v ⟨h1, h2, h3, h4, h5⟩
      have hh : ∀ i, i ≠ b → (W.setCell ⟨b, 0, none⟩ v).heap[i]? = W.heap[i]? := fun i hi => Below.heap_setCell _ _ _ _ hi
      exact ⟨h1, (hh _ hne).trans h2, (hh _ (by omega)).trans h3, (hh _ (by omega)).trans h4, h5.setCell (p := ⟨b, 0, none⟩) (fun _ => by simp) v⟩
    · rintro pre x W ⟨h1, h2, h3, h4, h5⟩
      have hlt : w.heap.size + 1 < W.heap.size := lt_of_block h3
      have hy : (Instr.yield (w.heap.size + 1) #[.string (ba x)]).run Tryz.prog W = .ok (.round (w.heap.size + 1) fn (a.tmps.setIfInBounds q (.string (ba x))) assign body) W := by
        have := run_yield (P := Tryz.prog) (args := #[.string (ba x)]) h3 (by rw [hrec]; rfl)
        rw [hrec] at this
        simpa using this
      refine ⟨fn, _, assign, body, hy, roundIn_of_wpIn hfn ?_⟩
      refine hassign _ x W _ ?_
      refine ⟨_, run_beginRound h3 (by rw [hrec]), ?_⟩
      generalize hW2 : W.putObj (w.heap.size + 1) (.loop { rec .ready none with state := .busy }) = W2
      have hl2 : W2.heap[w.heap.size + 1]? = some (.loop { rec .ready none with state := .busy }) := by rw [← hW2]; exact hput _ _ _ hlt
      have ho2 : ∀ i, i ≠ w.heap.size + 1 → W2.heap[i]? = W.heap[i]? := fun i hi => by rw [← hW2]; exact hoth _ _ _ _ hi
      have hr2 := (ho2 r (by omega)).trans h2
      have hd2 := (ho2 w.heap.size (by omega)).trans h4
      have hk2 : Chg [b] w W2 := by rw [← hW2]; exact hkp _ _ _ _ (by omega) h5
      have hlt2 : w.heap.size + 1 < W2.heap.size := lt_of_block hl2
      cases hbad : badC x with
      | false =>
        refine wpIn_mono ((hbody (w.heap.size + 1) x W2 hr2).1 hbad) ?_
        rintro e a3 W3 ⟨rfl, rfl⟩
        have hend := run_endRound (P := Tryz.prog) none hl2
        refine ⟨_, _, hend, .inl ⟨rfl, ⟨by simp [h1, hbad], (hoth _ _ _ _ (by omega)).trans hr2, ?_, (hoth _ _ _ _ (by omega)).trans hd2, hkp _ _ _ _ (by omega) hk2⟩, (hoth _ _ _ _ (by omega)).trans (ho2 b (by omega))⟩⟩
        rw [hput _ _ _ hlt2, hrec]; rfl
      | true =>
        refine wpIn_mono ((hbody (w.heap.size + 1) x W2 hr2).2 hbad) ?_
        rintro e a3 W3 ⟨rfl, rfl⟩
        have hh : ∀ i, i ≠ r → (W2.setCell ⟨r, 0, none⟩ (.int .i64 6)).heap[i]? = W2.heap[i]? := fun i hi => Below.heap_setCell _ _ _ _ hi
        have hl3 := (hh (w.heap.size + 1) (by omega)).trans hl2
        have hend := run_endRound (P := Tryz.prog) (some .ret) hl3
        have hr3 := heap_set hr2 0 (.int .i64 6) rfl
        refine ⟨_, _, hend, .inr ⟨rfl, ⟨by simp [hbad], (hoth _ _ _ _ (by omega)).trans hr3, ?_, (hoth _ _ _ _ (by omega)).trans ((hh _ (by omega)).trans hd2), hkp _ _ _ _ (by omega) ((hk2.mono (by simp)).setCell (p := ⟨r, 0, none⟩) (fun _ => by simp) _)⟩⟩⟩
        rw [hput _ _ _ (lt_of_block hl3), hrec]; rfl
    · rintro e W2 ⟨⟨v, rfl⟩, ⟨h1, h2, h3, h4, h5⟩ | ⟨x, r1, r2, hx, h1, h2, h3, h4, h5⟩⟩
      · refine ⟨none, _, by have := run_endLoop (P := Tryz.prog) h3 (by rw [hrec]; simp); rw [hrec] at this; exact this, hdone _ _ (Nat.le_refl _) (by simpa using h1) (hkp _ _ _ _ (by omega) h5) ((hoth _ _ _ _ (by omega)).trans h4)⟩
      · refine ⟨some .ret, _, by have := run_endLoop (P := Tryz.prog) h3 (by rw [hrec]; simp); rw [hrec] at this; exact this, hstop _ _ (Nat.le_refl _) ?_ (hkp _ _ _ _ (by omega) h5) ((hoth _ _ _ _ (by omega)).trans h2) ((hoth _ _ _ _ (by omega)).trans h4)⟩
        rw [hx]
        simp only [List.nil_append, List.any_append, List.any_cons, List.any_nil, Bool.or_false] at h1 ⊢
        rcases Bool.or_eq_true_iff.1 h1 with h | h <;> simp [h]

set_option maxRecDepth 100000 in
set_option maxHeartbeats 4000000 in
theorem pathCheck (s : List UInt8) (w : World) :
    Calls Tryz.prog 48 #[.string (ba s)] w fun e w' => e = .returned (.int .i64 (checkP s)) ∧ Chg [] w w' := by
  by_cases hs : 65536 < s.length
  · have hz : (65536 : Int) < ((ba s).size : Int) := by rw [ba_size]; omega
    have hr : checkP s = 7 := by unfold checkP; rw [if_pos hs]
    have HR := Lib.hid hr
    have hm : ((ba s).size : Int) ≤ 9223372036854775807 ∨ True := .inr trivial
    clear hs hr hm
    generalize ba s = S at *
    go_enter Tryz.func48, Tryz.ntmps48
    go_wp2
    exact bodyPost_ret (v := .int .i64 7) (by simp [results, Tryz.results48, go_sem]) rfl ⟨by rw [HR.out], (Chg.refl [] w).alloc _⟩
  · refine (callsIn_wide (n := 5)).1 ?_
    have hz : ((ba s).size : Int) ≤ 65536 := by rw [ba_size]; omega
    refine callsIn_of_wp_marks Tryz.func48 rfl trivial ?_ rfl
    simp only [Tryz.ntmps48, List.size_toArray, List.length_cons, List.length_nil, Nat.reduceAdd, Nat.reduceSub, Array.replicate_succ, Array.replicate_zero, List.push_toArray, List.append_toArray, List.nil_append, List.cons_append]
    have h93 : ∀ k, Fence.wide.fn k := fun _ => trivial
    gi_wp2_with (gi_at_call 73; refine (callsIn_wide.2 (components (ba s) _)).mono ?_; rintro e w' ⟨rfl, rfl⟩)
    clear h93
    obtain ⟨W1, hW1⟩ : ∃ W1, (w.alloc (.cells #[.int .i64 0] 33)).alloc (.cells #[.string (ba s)] 9) = W1 := ⟨_, rfl⟩
    have hk1 : Chg [] w W1 := by rw [← hW1]; exact ((Chg.refl _ _).alloc _).alloc _
    have hz1 : W1.heap.size = w.heap.size + 2 := by rw [← hW1]; simp
    have hb1 : W1.heap[w.heap.size + 1]? = some (.cells #[.string (ba s)] 9 (0, 0)) := by rw [← hW1]; exact heap_new_at (by simp)
    have hr1 : W1.heap[w.heap.size]? = some (.cells #[.int .i64 0] 33 (0, 0)) := by rw [← hW1]; exact heap_keep (heap_alloc_new _ _)
    rw [hW1]
    refine range_comp (b := w.heap.size + 1) (r := w.heap.size) (p := s) rfl (by rw [ba_size] at hz; omega) hb1 hr1 (by omega)
      (fun x => { tmps := #[.string (ba s), undef, .pointer (some ⟨w.heap.size, 0, none⟩), .string (ba x), .string (ba s), .int .i64 (ba s).size, .bool (decide (65536 < ((ba s).size : Int))), .string (ba s), .func (.func 92) #[] #[.pointer (some ⟨w.heap.size + 1, 0, none⟩)], .string (ba x), undef, undef, undef, undef, undef, undef, undef, undef, undef, undef, undef, undef, undef, undef, undef], defers := [] }) ?assign ?body ?done ?stop
    case assign =>
      intro l x W K hK
      gi_wp2
      exact hK
    case body =>
      intro l x W hrW
      have h93 : ∀ k, (Fence.wide.inRound l).fn k := fun _ => trivial
      have hc : W.cell? ⟨w.heap.size, 0, none⟩ = some (.int .i64 0) := cell_heap hrW 0 rfl
      have hf : W.frozen? ⟨w.heap.size, 0, none⟩ = false := frozen_of_row _ _ _ _ _ hrW
      clear hrW
      have hix := Tryz.strings_IndexByte (ba x) 0 W
      rw [ba_data] at hix
      have HIX := Lib.hid hix
      have h1 := Lib.indexByte_ge x 0
      have hl : (ba x).toList = x := by rw [ByteArray.toList_eq]; exact ba_data x
      clear hix
      by_cases hx0 : x = []
      · subst hx0
        refine ⟨fun h => by simp [badC] at h, fun _ => ?_⟩
        gi_wp2
      by_cases hx1 : x = [46]
      · subst hx1
        refine ⟨fun h => by simp [badC] at h, fun _ => ?_⟩
        gi_wp2
      by_cases hx2 : x = [46, 46]
      · subst hx2
        refine ⟨fun h => by simp [badC] at h, fun _ => ?_⟩
        gi_wp2
      have t0 : ((ba x).toList == ([] : List UInt8)) = false := by rw [hl]; simpa using hx0
      have t1 : ((ba x).toList == ([46] : List UInt8)) = false := by rw [hl]; simpa using hx1
      have t2 : ((ba x).toList == ([46, 46] : List UInt8)) = false := by rw [hl]; simpa using hx2
      have u0 : (ba x).toList ≠ [] := by rw [hl]; exact hx0
      have u1 : (ba x).toList ≠ [46] := by rw [hl]; exact hx1
      have u2 : (ba x).toList ≠ [46, 46] := by rw [hl]; exact hx2
      have hbd : badC x = decide (0 ≤ Lib.indexByte x 0) := by simp [badC, hx0, hx1, hx2]
      have HBD := Lib.hid hbd
      clear hbd hl hx0 hx1 hx2
      rw [show (Int.toNat 0).toUInt8 = 0 from rfl] at HIX
      generalize Lib.indexByte x 0 = i at *
      generalize ba x = X at *
      by_cases hi : 0 ≤ i
      · refine ⟨fun h => by rw [HBD.out] at h; simp at h; omega, fun _ => ?_⟩
        clear HBD
        gi_wp2_with (gi_at_call 74; refine (CallsIn.inRound l (callsIn_wide.2 HIX.out)).mono ?_; rintro e w' ⟨rfl, rfl⟩)
      · refine ⟨fun _ => ?_, fun h => by rw [HBD.out] at h; simp at h; omega⟩
        clear HBD
        gi_wp2_with (gi_at_call 74; refine (CallsIn.inRound l (callsIn_wide.2 HIX.out)).mono ?_; rintro e w' ⟨rfl, rfl⟩)
    case done =>
      intro D W hD hall hk hK
      have hcr : checkP s = 0 := by unfold checkP; rw [if_neg hs, hall]; rfl
      have HCR := Lib.hid hcr
      have hrW := (hk.mono (T := [w.heap.size + 1]) (by simp)).heap hr1 (by simp)
      have hc : W.cell? ⟨w.heap.size, 0, none⟩ = some (.int .i64 0) := cell_heap hrW 0 rfl
      have hf : W.frozen? ⟨w.heap.size, 0, none⟩ = false := frozen_of_row _ _ _ _ _ hrW
      have HK := Lib.hid (And.intro hk (And.intro hK hrW))
      clear hk hK hrW hcr hall
      gi_wp2
      obtain ⟨hk, hK, hrW⟩ := HK.out
      have hK' := (Below.heap_setCell W ⟨w.heap.size, 0, none⟩ (.int .i64 0) D (by simp; omega)).trans hK
      refine ⟨by simp, .inl ⟨_, _, rfl, run_takeDeferred hK', ?_⟩⟩
      have hr5 := heap_set hrW 0 (.int .i64 0) rfl
      have hr6 := (World.putObj_heap_other (w := W.setCell ⟨w.heap.size, 0, none⟩ (.int .i64 0)) (o := .deferred none) (show w.heap.size ≠ D by omega)).trans hr5
      have hc5 := cell_heap hr6 0 rfl
      refine ⟨.int .i64 0, by simp [results, Tryz.f48, go_sem, hc5], by rw [HCR.out], ?_⟩
      have hkw : Chg [w.heap.size + 1, w.heap.size] w W := (hk1.mono (by simp)).trans' hk (fun x hx _ => hx) (fun x hx hl => by simp at hx; omega)
      have hk2 := hkw.setCell (p := ⟨w.heap.size, 0, none⟩) (fun _ => by simp) (.int .i64 0)
      exact ⟨hk2.os, hk2.tape, hk2.output, by simpa [World.putObj] using hk2.size, fun k hk _ => (World.putObj_heap_other (by omega)).trans (hk2.block k hk (by simp; omega))⟩
    case stop =>
      intro D W hD hany hk hrW hK
      have hcr : checkP s = 6 := by unfold checkP; rw [if_neg hs, hany]; rfl
      have HCR := Lib.hid hcr
      have HK := Lib.hid (And.intro hk (And.intro hK hrW))
      clear hk hK hrW hcr hany
      gi_wp2
      obtain ⟨hk, hK, hrW⟩ := HK.out
      refine ⟨by simp, .inl ⟨_, _, rfl, run_takeDeferred hK, ?_⟩⟩
      have hr6 := (World.putObj_heap_other (w := W) (o := .deferred none) (show w.heap.size ≠ D by omega)).trans hrW
      have hc5 := cell_heap hr6 0 rfl
      refine ⟨.int .i64 6, by simp [results, Tryz.f48, go_sem, hc5], by rw [HCR.out], ?_⟩
      have hk2 : Chg [w.heap.size + 1, w.heap.size] w W := (hk1.mono (by simp)).trans' hk (fun x hx _ => hx) (fun x hx hl => by simp at hx; omega)
      exact ⟨hk2.os, hk2.tape, hk2.output, by simpa [World.putObj] using hk2.size, fun k hk _ => (World.putObj_heap_other (by omega)).trans (hk2.block k hk (by simp; omega))⟩
end Go.Proofs.YtoionaeimnmcbaaGreatDoor
