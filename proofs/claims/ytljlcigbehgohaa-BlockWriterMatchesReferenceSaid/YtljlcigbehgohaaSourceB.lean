/- package source, the other ways of Read, and the counters. -/
import Derived.Test.YtljlcigbehgohaaSource
namespace Go.Proofs.Ytljlcigbehgohaa
open Go.RowKit Go.Pax

set_option maxHeartbeats 400000 in
theorem srcRead_none (w : World) (n : Int) : Calls Try.prog 25 #[.pointer none, .int .i64 n] w fun e w' => e = .returned (.tuple #[.slice none 0 0, .int .i64 1]) ∧ w' = w := by
  go_enter Try.func25, Try.ntmps25
  go_wp2
  go_ret2
  exact ⟨rfl, rfl⟩
set_option maxHeartbeats 400000 in
theorem srcRead_arg (w : World) (p : Nat) (n : Int) (h : n < 1) : Calls Try.prog 25 #[.pointer (some ⟨p, 0, none⟩), .int .i64 n] w fun e w' => e = .returned (.tuple #[.slice none 0 0, .int .i64 2]) ∧ w' = w := by
  go_enter Try.func25, Try.ntmps25
  go_wp2
  go_ret2
  exact ⟨rfl, rfl⟩
set_option maxHeartbeats 400000 in
theorem srcRead_io (w : World) (p : Nat) (n f : Int) (h : 1 ≤ n) (c2 : w.cell? ⟨p, 2, none⟩ = some (.int .i64 f)) (c3 : w.cell? ⟨p, 3, none⟩ = some (.int .i64 f)) :
    Calls Try.prog 25 #[.pointer (some ⟨p, 0, none⟩), .int .i64 n] w fun e w' => e = .returned (.tuple #[.slice none 0 0, .int .i64 11]) ∧ ∃ k, w' = w.drewN k := by
  go_enter Try.func25, Try.ntmps25
  go_wp2_with fail
  go_quiet (fail)
  go_wp2
  go_ret2
  exact ⟨rfl, _, rfl⟩
set_option maxHeartbeats 400000 in
theorem srcRead_eof (w : World) (p : Nat) (n f o : Int) (ao : Option Addr) (c : Nat) (h : 1 ≤ n) (hf : (o == f) = false) (c0 : w.cell? ⟨p, 0, none⟩ = some (.slice ao 0 c)) (c2 : w.cell? ⟨p, 2, none⟩ = some (.int .i64 f)) (c3 : w.cell? ⟨p, 3, none⟩ = some (.int .i64 o)) :
    Calls Try.prog 25 #[.pointer (some ⟨p, 0, none⟩), .int .i64 n] w fun e w' => e = .returned (.tuple #[.slice none 0 0, .int .i64 4]) ∧ ∃ k, w' = w.drewN k := by
  go_enter Try.func25, Try.ntmps25
  go_wp2_with fail
  go_quiet (fail)
  go_wp2
  go_ret2
  exact ⟨rfl, _, rfl⟩

theorem SrcAt.chg {w w' : World} {p : Nat} {fp S : List Nat} {σ : Src} (h : SrcAt w p fp σ) (k : Chg S w w') (hp : p ∉ S) (hf : ∀ x ∈ fp, x ∉ S) : SrcAt w' p fp σ := by
  obtain ⟨ra, rc, ca, cc, h1, h2, h3, h4, h5⟩ := h
  exact ⟨ra, rc, ca, cc, k.heap h1 hp, h2.chg k hf, h3.chg k hf, h4, h5⟩
theorem SrcAt.lt {w : World} {p : Nat} {fp : List Nat} {σ : Src} (h : SrcAt w p fp σ) : p < w.heap.size := by
  obtain ⟨ra, rc, ca, cc, h1, _⟩ := h
  exact lt_of_block h1

/-- The result of a read: the bytes that come back lie in new memory. -/
def GotB (w w' : World) (e : Ending) (code : Int) (b : List UInt8) : Prop :=
  ∃ ao cap, e = .returned (.tuple #[.slice ao b.length cap, .int .i64 code]) ∧ w'.ownsRow w.heap.size 5 1 (.slice ao b.length cap) b.length (bv b)

theorem srcRead (w : World) (p : Nat) (fp : List Nat) (σ : Src) (n : Int) (h : SrcAt w p fp σ) (hr : 0 ≤ σ.reads) (hl : σ.chunks.length ≤ 140737488355328) (hl2 : σ.rest.length ≤ 140737488355328) (h2 : n ≤ 9223372036854775807) :
    Calls Try.prog 25 #[.pointer (some ⟨p, 0, none⟩), .int .i64 n] w fun e w' => GotB w w' e (σ.read n).1 (σ.read n).2.1 ∧ SrcAt w' p fp (σ.read n).2.2 ∧ Chg [p] w w' := by
  have H := h
  obtain ⟨ra, rc, ca, cc, hp, hR, hC, hpf, hrc⟩ := h
  by_cases h1 : n < 1
  · refine (srcRead_arg w p n h1).mono fun e w' ⟨he, hw⟩ => ?_
    subst he; subst hw
    rw [show σ.read n = (2, [], σ) from by unfold Src.read; rw [if_pos h1]]
    exact ⟨⟨none, 0, rfl, World.ownsRow_nil _ _ _ _⟩, H, Chg.refl _ _⟩
  by_cases h3 : σ.off = σ.fail
  · refine (srcRead_io w p n σ.fail (by omega) (cell_heap hp 2 rfl) (by rw [← h3]; exact cell_heap hp 3 rfl)).mono fun e w' ⟨he, k, hw⟩ => ?_
    subst he; subst hw
    rw [show σ.read n = (11, [], σ) from by unfold Src.read; rw [if_neg h1, if_pos h3]]
    exact ⟨⟨none, 0, rfl, World.ownsRow_nil _ _ _ _⟩, H, (Chg.refl _ _).drewN k⟩
  by_cases h4 : σ.rest = []
  · refine (srcRead_eof w p n σ.fail σ.off ra rc (by omega) (by simpa using h3) (by have := cell_heap hp 0 rfl; rw [h4] at this; exact this) (cell_heap hp 2 rfl) (cell_heap hp 3 rfl)).mono fun e w' ⟨he, k, hw⟩ => ?_
    subst he; subst hw
    rw [show σ.read n = (4, [], σ) from by unfold Src.read; rw [if_neg h1, if_neg h3, if_pos h4]]
    exact ⟨⟨none, 0, rfl, World.ownsRow_nil _ _ _ _⟩, H, (Chg.refl _ _).drewN k⟩
  refine (srcRead_ok w p fp σ n H hr hl hl2 (by omega) h2 h3 h4).mono fun e w' ⟨ao, cap, he, h5, h6, h7⟩ => ?_
  rw [show σ.read n = (0, σ.rest.take (σ.k n).toNat, σ.step (σ.k n).toNat) from by unfold Src.read; rw [if_neg h1, if_neg h3, if_neg h4]]
  have hk : (σ.rest.take (σ.k n).toNat).length = (σ.k n).toNat := by
    have := h5.1
    rw [bv_length, Nat.mul_one] at this
    exact this
  refine ⟨⟨ao, cap, ?_, ?_⟩, h6, h7⟩
  · rw [hk]; exact he
  · rw [hk]; exact h5

set_option maxHeartbeats 400000 in
theorem srcOffset (w : World) (p : Nat) (fp : List Nat) (σ : Src) (h : SrcAt w p fp σ) : Calls Try.prog 26 #[.pointer (some ⟨p, 0, none⟩)] w fun e w' => e = .returned (.int .i64 σ.off) ∧ w' = w := by
  obtain ⟨ra, rc, ca, cc, hp, _⟩ := h
  have c3 : w.cell? ⟨p, 3, none⟩ = some (.int .i64 σ.off) := cell_heap hp 3 rfl
  clear hp
  go_enter Try.func26, Try.ntmps26
  go_wp2
  go_ret
  exact ⟨rfl, rfl⟩
set_option maxHeartbeats 400000 in
theorem srcReads (w : World) (p : Nat) (fp : List Nat) (σ : Src) (h : SrcAt w p fp σ) : Calls Try.prog 27 #[.pointer (some ⟨p, 0, none⟩)] w fun e w' => e = .returned (.int .i64 σ.reads) ∧ w' = w := by
  obtain ⟨ra, rc, ca, cc, hp, _⟩ := h
  have c3 : w.cell? ⟨p, 4, none⟩ = some (.int .i64 σ.reads) := cell_heap hp 4 rfl
  clear hp
  go_enter Try.func27, Try.ntmps27
  go_wp2
  go_ret
  exact ⟨rfl, rfl⟩
set_option maxHeartbeats 400000 in
theorem srcOffset_none (w : World) : Calls Try.prog 26 #[.pointer none] w fun e w' => e = .returned (.int .i64 0) ∧ w' = w := by
  go_enter Try.func26, Try.ntmps26
  go_wp2
  go_ret
  exact ⟨rfl, rfl⟩
set_option maxHeartbeats 400000 in
theorem srcReads_none (w : World) : Calls Try.prog 27 #[.pointer none] w fun e w' => e = .returned (.int .i64 0) ∧ w' = w := by
  go_enter Try.func27, Try.ntmps27
  go_wp2
  go_ret
  exact ⟨rfl, rfl⟩
end Go.Proofs.Ytljlcigbehgohaa
