/- package block: the reader. A reader that was made over a fresh source: its offset is the source's. -/
import Derived.Test.YtljlcigbehgohaaPayW
namespace Go.Pax
open Go.RowKit
theorem RSrc.read_ways {ρ : RSrc} (h : ρ.Ok) {n : Int} (hn : 1 ≤ n) :
    (ρ.read n = (11, [], ρ) ∧ 0 ≤ ρ.fail ∧ ρ.off = ρ.fail) ∨ (ρ.read n = (4, [], ρ) ∧ ρ.off = ρ.b.length ∧ ¬ (0 ≤ ρ.fail ∧ ρ.off = ρ.fail)) ∨
    ∃ bs ρ', ρ.read n = (0, bs, ρ') ∧ 1 ≤ bs.length ∧ (bs.length : Int) ≤ n ∧ ρ'.off = ρ.off + bs.length ∧ ρ'.b = ρ.b ∧ ρ'.fail = ρ.fail ∧ ρ'.chunks = ρ.chunks ∧ bs = (ρ.b.drop ρ.off.toNat).take bs.length ∧ ρ'.Ok := by
  by_cases h1 : 0 ≤ ρ.fail ∧ ρ.off = ρ.fail
  · left; refine ⟨?_, h1⟩; unfold RSrc.read; rw [if_neg (by omega), if_pos h1]
  by_cases h2 : (ρ.b.length : Int) ≤ ρ.off
  · right; left; refine ⟨?_, by have := h.offl; omega, h1⟩; unfold RSrc.read; rw [if_neg (by omega), if_neg h1, if_pos h2]
  right; right
  obtain ⟨b1, b2, b3, b4⟩ := RSrc.fin_bounds (n := n) h hn h1 h2
  have hok := RSrc.ok_read h n
  have h0 := h.off0
  unfold RSrc.read at hok ⊢
  rw [if_neg (by omega), if_neg h1, if_neg h2] at hok ⊢
  have hl : ((ρ.b.drop ρ.off.toNat).take (ρ.fin n - ρ.off).toNat).length = (ρ.fin n - ρ.off).toNat := by rw [List.length_take, List.length_drop]; omega
  exact ⟨_, _, rfl, by rw [hl]; omega, by rw [hl]; omega, by rw [hl]; simp only; omega, rfl, rfl, rfl, by rw [hl], hok⟩
/-- Reads until a block is full, or a read fails. -/
def nextF : Nat → List UInt8 → RSrc → Int × List UInt8 × RSrc
  | 0, acc, ρ => (0, acc, ρ)
  | f + 1, acc, ρ => if 512 ≤ acc.length then (0, acc, ρ) else if (ρ.read (512 - acc.length)).1 = 0 then nextF f (acc ++ (ρ.read (512 - acc.length)).2.1) (ρ.read (512 - acc.length)).2.2
    else ((if (ρ.read (512 - acc.length)).1 = 4 ∧ 0 < acc.length then 5 else (ρ.read (512 - acc.length)).1), [], ρ)
theorem nextF_full (f : Nat) {acc : List UInt8} (h : 512 ≤ acc.length) (ρ : RSrc) : nextF f acc ρ = (0, acc, ρ) := by
  cases f with
  | zero => rfl
  | succ f => unfold nextF; rw [if_pos h]
/-- Next: the error, the bytes, the source. -/
def rdNext (err : Int) (ρ : RSrc) : Int × List UInt8 × RSrc := if err ≠ 0 then (err, [], ρ) else nextF 512 [] ρ
theorem rdNext_err {err : Int} (h : err ≠ 0) (ρ : RSrc) : rdNext err ρ = (err, [], ρ) := by unfold rdNext; rw [if_pos h]
theorem rdNext_ok (ρ : RSrc) : rdNext 0 ρ = nextF 512 [] ρ := by unfold rdNext; rw [if_neg (by simp)]
/-- What Next comes to. -/
theorem nextF_is : ∀ (f : Nat) (acc : List UInt8) (ρ : RSrc), ρ.Ok → acc.length ≤ 512 → 512 ≤ acc.length + f →
    (nextF f acc ρ).2.2.Ok ∧ (nextF f acc ρ).2.2.b = ρ.b ∧ (nextF f acc ρ).2.2.fail = ρ.fail ∧ (nextF f acc ρ).2.2.chunks = ρ.chunks ∧
    (((nextF f acc ρ).1 = 0 ∧ ρ.off + (512 - acc.length) ≤ ρ.end0 ∧ (nextF f acc ρ).2.2.off = ρ.off + (512 - acc.length) ∧ (nextF f acc ρ).2.1 = acc ++ (ρ.b.drop ρ.off.toNat).take (512 - acc.length)) ∨
      (ρ.end0 < ρ.off + (512 - acc.length) ∧ (nextF f acc ρ).2.2.off = ρ.end0 ∧ (nextF f acc ρ).2.1 = [] ∧
        (nextF f acc ρ).1 = if 0 ≤ ρ.fail ∧ ρ.fail ≤ ρ.b.length then 11 else if 0 < acc.length + (ρ.end0 - ρ.off) then 5 else 4))
  | 0, acc, ρ, h, h1, h2 => by
    have hl : acc.length = 512 := by omega
    have h3 := h.offl
    have h4 := h.offf
    refine ⟨h, rfl, rfl, rfl, .inl ⟨rfl, ?_, ?_, ?_⟩⟩
    · unfold RSrc.end0; omega
    · simp only [nextF]; omega
    · simp [nextF, hl]
  | f + 1, acc, ρ, h, h1, h2 => by
    have h3 := h.offl
    have h4 := h.offf
    have h5 := h.off0
    by_cases hl : 512 ≤ acc.length
    · have hl : acc.length = 512 := by omega
      rw [nextF_full _ (by omega)]
      refine ⟨h, rfl, rfl, rfl, .inl ⟨rfl, ?_, ?_, ?_⟩⟩
      · unfold RSrc.end0; omega
      · simp only; omega
      · simp [hl]
    rcases ρ.read_ways h (n := 512 - acc.length) (by omega) with ⟨hr, r1, r2⟩ | ⟨hr, r1, r2⟩ | ⟨bs, ρ', hr, b1, b2, b3, b4, b5, b6, b7, b8⟩
    · have e : nextF (f + 1) acc ρ = (11, [], ρ) := by unfold nextF; rw [if_neg hl, hr]; simp
      rw [e]
      have he : ρ.end0 = ρ.off := by unfold RSrc.end0; split <;> omega
      exact ⟨h, rfl, rfl, rfl, .inr ⟨by omega, by simp only; omega, rfl, by rw [if_pos ⟨r1, by omega⟩]⟩⟩
    · have e : nextF (f + 1) acc ρ = ((if 0 < acc.length then 5 else 4), [], ρ) := by unfold nextF; rw [if_neg hl, hr]; simp
      rw [e]
      have he : ρ.end0 = ρ.off := by unfold RSrc.end0; split <;> omega
      refine ⟨h, rfl, rfl, rfl, .inr ⟨by omega, by simp only; omega, rfl, ?_⟩⟩
      simp only
      rw [if_neg (by omega : ¬ (0 ≤ ρ.fail ∧ ρ.fail ≤ ρ.b.length))]
      by_cases ha : 0 < acc.length
      · rw [if_pos ha, if_pos (by omega)]
      · rw [if_neg ha, if_neg (by omega)]
    · have e : nextF (f + 1) acc ρ = nextF f (acc ++ bs) ρ' := by conv => lhs; unfold nextF
                                                                  rw [if_neg hl, hr]; simp
      have hal : (acc ++ bs).length = acc.length + bs.length := by simp
      obtain ⟨i1, i2, i3, i4, i5⟩ := nextF_is f (acc ++ bs) ρ' b8 (by omega) (by omega)
      have hee : ρ'.end0 = ρ.end0 := by unfold RSrc.end0; rw [b4, b5]
      rw [e]
      refine ⟨i1, by rw [i2, b4], by rw [i3, b5], by rw [i4, b6], ?_⟩
      rw [hee, b3, b4, b5, hal] at i5
      rcases i5 with ⟨j1, j2, j3, j4⟩ | ⟨j1, j2, j3, j4⟩
      · refine .inl ⟨j1, by omega, by rw [j3]; omega, ?_⟩
        rw [j4, List.append_assoc, show 512 - acc.length = bs.length + (512 - (acc.length + bs.length)) by omega, List.take_add, ← b7, List.drop_drop]
        congr 4
        omega
      · refine .inr ⟨by omega, j2, j3, ?_⟩
        rw [j4]
        have : (0 < ((acc.length + bs.length : Nat) : Int) + (ρ.end0 - (ρ.off + bs.length))) ↔ (0 < (acc.length : Int) + (ρ.end0 - ρ.off)) := by omega
        simp only [this]
end Go.Pax
namespace Go.Proofs.Ytljlcigbehgohaa
open Go.RowKit Go.Pax

structure RdrAt (w : World) (r p : Nat) (fp : List Nat) (err : Int) (ρ : RSrc) : Prop where
  blk : w.heap[r]? = some (.cells #[.int .i64 ρ.off, .int .i64 err, .pointer (some ⟨p, 0, none⟩)] 110 (0, 0))
  s : SrcAt w p fp ρ.src
  rp : r ≠ p
  rf : r ∉ fp
theorem RdrAt.chg {w w' : World} {r p : Nat} {fp S : List Nat} {err : Int} {ρ : RSrc} (h : RdrAt w r p fp err ρ) (k : Chg S w w') (hr : r ∉ S) (hp : p ∉ S) (hf : ∀ x ∈ fp, x ∉ S) : RdrAt w' r p fp err ρ :=
  ⟨k.heap h.blk hr, h.s.chg k hp hf, h.rp, h.rf⟩
theorem RdrAt.lt {w : World} {r p : Nat} {fp : List Nat} {err : Int} {ρ : RSrc} (h : RdrAt w r p fp err ρ) : r < w.heap.size := lt_of_block h.blk
theorem SrcAt.tight {w : World} {p : Nat} {fp : List Nat} {σ : Src} (h : SrcAt w p fp σ) : ∃ fq, SrcAt w p fq σ ∧ ∀ k ∈ fq, k ∈ fp ∧ k < w.heap.size := by
  obtain ⟨ra, rc, ca, cc, h1, h2, h3, h4, h5⟩ := h
  obtain ⟨f1, a1, a2⟩ := h2.tight
  obtain ⟨f2, b1, b2⟩ := h3.tight
  refine ⟨f1 ++ f2, ⟨ra, rc, ca, cc, h1, a1.mono (fun k hk => List.mem_append_left _ hk), b1.mono (fun k hk => List.mem_append_right _ hk), fun hm => ?_, h5⟩, fun k hk => ?_⟩
  · rcases List.mem_append.1 hm with h | h
    · exact h4 (a2 _ h).1
    · exact h4 (b2 _ h).1
  · rcases List.mem_append.1 hk with h | h
    · exact a2 _ h
    · exact b2 _ h
theorem SrcAt.mono {w : World} {p : Nat} {fp fq : List Nat} {σ : Src} (h : SrcAt w p fq σ) (hf : ∀ k ∈ fq, k ∈ fp) (hp : p ∉ fp) : SrcAt w p fp σ := by
  obtain ⟨ra, rc, ca, cc, h1, h2, h3, h4, h5⟩ := h
  exact ⟨ra, rc, ca, cc, h1, h2.mono hf, h3.mono hf, hp, h5⟩

set_option maxHeartbeats 400000 in
theorem newReader_none (w : World) : Calls Try.prog 43 #[.pointer none] w fun e w' => e = .returned (.pointer none) ∧ w' = w := by
  go_enter Try.func43, Try.ntmps43
  go_wp2
  go_ret
  exact ⟨rfl, rfl⟩
set_option maxHeartbeats 400000 in
theorem newReader (w : World) (p : Nat) (fp : List Nat) (ρ : RSrc) (h : SrcAt w p fp ρ.src) (hb : ρ.off = 0) (hf : w.heap.size ∉ fp) :
    Calls Try.prog 43 #[.pointer (some ⟨p, 0, none⟩)] w fun e w' => ∃ r, e = .returned (.pointer (some ⟨r, 0, none⟩)) ∧ RdrAt w' r p fp 0 ρ ∧ Chg [] w w' ∧ r = w.heap.size := by
  have H := Lib.hid h
  have HB := Lib.hid hb
  clear h hb
  go_enter Try.func43, Try.ntmps43
  go_wp2
  go_ret
  have h := H.out
  have k : Chg [] w (w.alloc (.cells #[.int .i64 0, .int .i64 0, .pointer (some ⟨p, 0, none⟩)] 110)) := (Chg.refl _ _).alloc _
  have hlt := h.lt
  refine ⟨w.heap.size, rfl, ⟨?_, h.chg k (by simp) (by simp), by omega, hf⟩, k, rfl⟩
  rw [heap_alloc_new, HB.out]
set_option maxHeartbeats 400000 in
theorem readerOffset_none (w : World) : Calls Try.prog 46 #[.pointer none] w fun e w' => e = .returned (.int .i64 0) ∧ w' = w := by
  go_enter Try.func46, Try.ntmps46
  go_wp2
  go_ret
  exact ⟨rfl, rfl⟩
set_option maxHeartbeats 400000 in
theorem readerOffset (w : World) (r p : Nat) (fp : List Nat) (err : Int) (ρ : RSrc) (h : RdrAt w r p fp err ρ) :
    Calls Try.prog 46 #[.pointer (some ⟨r, 0, none⟩)] w fun e w' => e = .returned (.int .i64 ρ.off) ∧ w' = w := by
  have c0 := cell_heap h.blk 0 rfl
  clear h
  generalize ρ.off = o at *
  go_enter Try.func46, Try.ntmps46
  go_wp2
  go_ret
  exact ⟨rfl, rfl⟩
set_option maxHeartbeats 400000 in
theorem readerNext_none (w : World) : Calls Try.prog 44 #[.pointer none] w fun e w' => e = .returned (.tuple #[.slice none 0 0, .int .i64 1]) ∧ w' = w := by
  go_enter Try.func44, Try.ntmps44
  go_wp2
  go_ret2
  exact ⟨rfl, rfl⟩
end Go.Proofs.Ytljlcigbehgohaa
