/- package block: the writer. A writer that was made over an empty sink: its offset is what the sink holds. -/
import Derived.Test.YtljlcigbehgohaaSLawA
import Derived.Test.YtljlcigbehgohaaHeld
namespace Go.Pax
open Go.RowKit
/-- A write through a writer: its error, and the sink. -/
def wWrite (err : Int) (σ : Snk) (x : List UInt8) : Int × Snk := if err ≠ 0 then (err, σ) else σ.all x
theorem wWrite_err {err : Int} (h : err ≠ 0) (σ : Snk) (x : List UInt8) : wWrite err σ x = (err, σ) := by unfold wWrite; rw [if_pos h]
theorem wWrite_ok (σ : Snk) (x : List UInt8) : wWrite 0 σ x = σ.all x := by unfold wWrite; rw [if_neg (by simp)]
theorem Snk.keep_fail (σ : Snk) (h : σ.Ok) (x : List UInt8) : (σ.all x).2.fail = σ.fail := (Snk.allF_is _ σ x h (Nat.le_refl _)).2.2.1
theorem wWrite_sink {err : Int} {σ : Snk} (h : σ.Ok) (x : List UInt8) : (wWrite err σ x).2.Ok ∧ (wWrite err σ x).2.b.length ≤ σ.b.length + x.length ∧ (wWrite err σ x).2.fail = σ.fail := by
  by_cases he : err = 0
  · subst he; rw [wWrite_ok]; exact ⟨Snk.ok_all h x, Snk.allF_len _ σ x h (Nat.le_refl _), σ.keep_fail h x⟩
  · rw [wWrite_err he]; exact ⟨h, Nat.le_add_right _ _, rfl⟩
/-- How many bytes of padding. -/
def padN (n : Nat) : Nat := (512 - n % 512) % 512
end Go.Pax
namespace Go.Proofs.Ytljlcigbehgohaa
open Go.RowKit Go.Pax

structure WrtAt (B : Nat) (w : World) (r p : Nat) (fp own : List Nat) (err : Int) (σ : Snk) : Prop where
  blk : w.heap[r]? = some (.cells #[.int .i64 σ.b.length, .int .i64 err, .pointer (some ⟨p, 0, none⟩)] 113 (0, 0))
  s : SnkAt B w p fp own σ
  rp : r ≠ p
  rf : r ∉ fp
  ro : r ∉ own
theorem WrtAt.chg {B : Nat} {w w' : World} {r p : Nat} {fp own S : List Nat} {err : Int} {σ : Snk} (h : WrtAt B w r p fp own err σ) (k : Chg S w w') (hr : r ∉ S) (hp : p ∉ S) (hf : ∀ x ∈ fp, x ∉ S) (ho : ∀ x ∈ own, x ∉ S) : WrtAt B w' r p fp own err σ :=
  ⟨k.heap h.blk hr, h.s.chg k hp hf ho, h.rp, h.rf, h.ro⟩
theorem WrtAt.lt {B : Nat} {w : World} {r p : Nat} {fp own : List Nat} {err : Int} {σ : Snk} (h : WrtAt B w r p fp own err σ) : r < w.heap.size := lt_of_block h.blk
/-- From w to w' the writer has come to (err, σ), and changed nothing but itself and its sink. -/
def WrtTo (B : Nat) (w w' : World) (r p : Nat) (fp own : List Nat) (err : Int) (σ : Snk) : Prop :=
  ∃ own', (WrtAt B w' r p fp own' err σ ∧ ∀ g ∈ own', g ∈ own ∨ w.heap.size ≤ g) ∧ Chg (r :: p :: own) w w'

set_option maxHeartbeats 400000 in
theorem statusFail (w : World) (r : Nat) (e : Int) (cs : Array Value) (t : TypeId) (h : w.heap[r]? = some (.cells cs t (0, 0))) (hs : 1 < cs.size) :
    Calls Try.prog 64 #[.pointer (some ⟨r, 0, none⟩), .int .i64 e] w fun ε w' => ε = .returned (.int .i64 e) ∧ w' = w.setCell ⟨r, 1, none⟩ (.int .i64 e) := by
  have c1 : w.cell? ⟨r, 1, none⟩ = some cs[1] := cell_heap h 1 (by simp [hs])
  have f1 : w.frozen? ⟨r, 1, none⟩ = false := frozen_of_row _ _ _ _ _ h
  generalize cs[1] = u at *
  clear h
  go_enter Try.func64, Try.ntmps64
  go_wp2
  go_ret
  exact ⟨rfl, rfl⟩
set_option maxHeartbeats 400000 in
theorem newWriter_none (w : World) : Calls Try.prog 47 #[.pointer none] w fun e w' => e = .returned (.pointer none) ∧ w' = w := by
  go_enter Try.func47, Try.ntmps47
  go_wp2
  go_ret
  exact ⟨rfl, rfl⟩
set_option maxHeartbeats 400000 in
theorem newWriter (w : World) (B p : Nat) (fp own : List Nat) (σ : Snk) (h : SnkAt B w p fp own σ) (hb : σ.b = []) :
    Calls Try.prog 47 #[.pointer (some ⟨p, 0, none⟩)] w fun e w' => ∃ r, e = .returned (.pointer (some ⟨r, 0, none⟩)) ∧ WrtAt B w' r p fp own 0 σ ∧ Chg [] w w' ∧ r = w.heap.size := by
  have H := Lib.hid h
  have HB := Lib.hid hb
  clear h hb
  go_enter Try.func47, Try.ntmps47
  go_wp2
  go_ret
  have h := H.out
  have k : Chg [] w (w.alloc (.cells #[.int .i64 0, .int .i64 0, .pointer (some ⟨p, 0, none⟩)] 113)) := (Chg.refl _ _).alloc _
  have hlt := h.lt
  have hol := h.ownlt
  refine ⟨w.heap.size, rfl, ⟨?_, h.chg k (by simp) (by simp) (by simp), by omega, ?_, fun hm => by have := hol _ hm; omega⟩, k, rfl⟩
  · rw [heap_alloc_new, HB.out]; rfl
  · obtain ⟨_, _, _, _, _, _, _, _, _, _, h7, _⟩ := h
    exact fun hm => by have := h7 _ hm; omega
set_option maxHeartbeats 400000 in
theorem writerWrite_none (w : World) (v : Value) : Calls Try.prog 48 #[.pointer none, v] w fun e w' => e = .returned (.int .i64 1) ∧ w' = w := by
  go_enter Try.func48, Try.ntmps48
  go_wp2
  go_ret
  exact ⟨rfl, rfl⟩
set_option maxHeartbeats 400000 in
theorem writerPad_none (w : World) : Calls Try.prog 49 #[.pointer none] w fun e w' => e = .returned (.int .i64 1) ∧ w' = w := by
  go_enter Try.func49, Try.ntmps49
  go_wp2
  go_ret
  exact ⟨rfl, rfl⟩
set_option maxHeartbeats 400000 in
theorem writerZeros_none (w : World) (v : Value) : Calls Try.prog 53 #[.pointer none, v] w fun e w' => e = .returned (.int .i64 1) ∧ w' = w := by
  go_enter Try.func53, Try.ntmps53
  go_wp2
  go_ret
  exact ⟨rfl, rfl⟩
set_option maxHeartbeats 400000 in
theorem writerOffset_none (w : World) : Calls Try.prog 50 #[.pointer none] w fun e w' => e = .returned (.int .i64 0) ∧ w' = w := by
  go_enter Try.func50, Try.ntmps50
  go_wp2
  go_ret
  exact ⟨rfl, rfl⟩
set_option maxHeartbeats 400000 in
theorem writerOffset (w : World) (B r p : Nat) (fp own : List Nat) (err : Int) (σ : Snk) (h : WrtAt B w r p fp own err σ) :
    Calls Try.prog 50 #[.pointer (some ⟨r, 0, none⟩)] w fun e w' => e = .returned (.int .i64 σ.b.length) ∧ w' = w := by
  have c0 := cell_heap h.blk 0 rfl
  clear h
  go_enter Try.func50, Try.ntmps50
  go_wp2
  go_ret
  exact ⟨rfl, rfl⟩
set_option maxHeartbeats 400000 in
theorem payBlocks (w : World) (n : Int) (h : -9223372036854775808 ≤ n ∧ n ≤ 9223372036854775807) :
    Calls Try.prog 40 #[.int .i64 n] w fun e w' => e = .returned (.int .i64 (if n ≤ 0 then 0 else (n - 1) / 512 + 1)) ∧ w' = w := by
  obtain ⟨h0, h1⟩ := h
  by_cases hn : n ≤ 0
  · go_enter Try.func40, Try.ntmps40
    go_wp2
    go_ret
    exact ⟨rfl, rfl⟩
  · go_enter Try.func40, Try.ntmps40
    go_wp2
    go_ret
    exact ⟨rfl, rfl⟩
end Go.Proofs.Ytljlcigbehgohaa
