/- The source and its reference, side by side: plain lists and numbers. -/
import Derived.Test.YtljlcigbehgohaaRefB
namespace Go.Pax
open Go.RowKit

/-- What always holds of a reference source. -/
structure RSrc.Ok (ρ : RSrc) : Prop where
  off0 : 0 ≤ ρ.off
  offl : ρ.off ≤ ρ.b.length
  offf : 0 ≤ ρ.fail → ρ.off ≤ ρ.fail
  reads0 : 0 ≤ ρ.reads
  readsl : ρ.reads ≤ ρ.off
  blen : ρ.b.length ≤ 140737488355328
  clen : ρ.chunks.length ≤ 140737488355328
  failr : -9223372036854775808 ≤ ρ.fail ∧ ρ.fail ≤ 9223372036854775807

/-- The state of the source that belongs to a state of the reference. -/
def RSrc.src (ρ : RSrc) : Src := ⟨ρ.b.drop ρ.off.toNat, ρ.chunks, ρ.fail, ρ.off, ρ.reads⟩

theorem RSrc.ok_new {b : List UInt8} {c : List Int} {fail : Int} (hb : b.length ≤ 140737488355328) (hc : c.length ≤ 140737488355328) (hf : -9223372036854775808 ≤ fail ∧ fail ≤ 9223372036854775807) : RSrc.Ok ⟨b, c, fail, 0, 0⟩ :=
  ⟨by simp, by simp, fun h => h, by simp, by simp, hb, hc, hf⟩

theorem RSrc.src_new (b : List UInt8) (c : List Int) (fail : Int) : (RSrc.mk b c fail 0 0).src = ⟨b, c, fail, 0, 0⟩ := rfl

theorem RSrc.fin_bounds {ρ : RSrc} (h : ρ.Ok) {n : Int} (hn : 1 ≤ n) (h1 : ¬ (0 ≤ ρ.fail ∧ ρ.off = ρ.fail)) (h2 : ¬ (ρ.b.length : Int) ≤ ρ.off) : ρ.off < ρ.fin n ∧ ρ.fin n ≤ ρ.b.length ∧ (0 ≤ ρ.fail → ρ.fin n ≤ ρ.fail) ∧ ρ.fin n - ρ.off ≤ n := by
  have hc := chunkOf_pos ρ.chunks ρ.reads
  obtain ⟨a1, a2, a3, a4, a5, a6, a7, a8⟩ := h
  unfold RSrc.fin RSrc.end0 RSrc.most imin
  by_cases hf : 0 ≤ ρ.fail
  · have := a3 hf
    have hne : ρ.off ≠ ρ.fail := fun e => h1 ⟨hf, e⟩
    refine ⟨?_, ?_, ?_, ?_⟩ <;> omega
  · refine ⟨?_, ?_, ?_, ?_⟩ <;> omega

theorem RSrc.ok_read {ρ : RSrc} (h : ρ.Ok) (n : Int) : (ρ.read n).2.2.Ok := by
  unfold RSrc.read
  split
  · exact h
  split
  · exact h
  split
  · exact h
  · rename_i h0 h1 h2
    obtain ⟨b1, b2, b3, b4⟩ := RSrc.fin_bounds (n := n) h (by omega) h1 h2
    obtain ⟨a1, a2, a3, a4, a5, a6, a7, a8⟩ := h
    have hw : wrap64 (ρ.reads + 1) = ρ.reads + 1 := by unfold wrap64; omega
    exact ⟨by simp only; omega, by simp only; omega, by simp only; omega, by simp only [hw]; omega, by simp only [hw]; omega, a6, a7, a8⟩

/-- The two read alike. -/
theorem RSrc.read_src {ρ : RSrc} (h : ρ.Ok) (n : Int) : ρ.src.read n = ((ρ.read n).1, (ρ.read n).2.1, (ρ.read n).2.2.src) := by
  have hok := h
  obtain ⟨a1, a2, a3, a4, a5, a6, a7, a8⟩ := h
  unfold Src.read RSrc.read
  by_cases h0 : n < 1
  · rw [if_pos h0, if_pos h0]
  rw [if_neg h0, if_neg h0]
  by_cases h1 : 0 ≤ ρ.fail ∧ ρ.off = ρ.fail
  · rw [if_pos h1, if_pos (by exact h1.2)]
  rw [if_neg h1, if_neg (by intro e; exact h1 ⟨by simp only [RSrc.src] at e; omega, e⟩)]
  have hlen : ρ.src.rest.length = ρ.b.length - ρ.off.toNat := by simp [RSrc.src]
  by_cases h2 : (ρ.b.length : Int) ≤ ρ.off
  · rw [if_pos h2, if_pos (List.eq_nil_of_length_eq_zero (by omega))]
  rw [if_neg h2, if_neg (by intro e; rw [e] at hlen; simp at hlen; omega)]
  obtain ⟨b1, b2, b3, b4⟩ := RSrc.fin_bounds (n := n) hok (by omega) h1 h2
  have hk : ρ.src.k n = ρ.fin n - ρ.off := by
    have hc := chunkOf_pos ρ.chunks ρ.reads
    obtain ⟨D, hD⟩ : ∃ D, D = wrap64 (ρ.fail - ρ.off) := ⟨_, rfl⟩
    obtain ⟨V, hV⟩ : ∃ V, V = chunkOf ρ.chunks ρ.reads := ⟨_, rfl⟩
    have hk0 : ρ.src.k0 n = imin (imin n V) (ρ.b.length - ρ.off.toNat : Nat) := by unfold Src.k0; rw [hlen, hV]; rfl
    have hk : ρ.src.k n = if 0 < D then imin (imin (imin n V) (ρ.b.length - ρ.off.toNat : Nat)) D else imin (imin n V) (ρ.b.length - ρ.off.toNat : Nat) := by
      rw [← hk0, hD]; rfl
    rw [hk]
    clear hk hk0
    unfold RSrc.fin RSrc.end0 RSrc.most
    rw [← hV] at hc ⊢
    by_cases hf : 0 ≤ ρ.fail
    · have := a3 hf
      have hne : ρ.off ≠ ρ.fail := fun e => h1 ⟨hf, e⟩
      have hw : D = ρ.fail - ρ.off := by rw [hD]; unfold wrap64; omega
      subst hw
      clear hD
      unfold imin
      omega
    · have hw : D ≤ 0 ∨ 4611686018427387904 ≤ D := by rw [hD]; unfold wrap64; omega
      clear hD
      unfold imin
      omega
  rw [hk]
  have hd : ρ.off.toNat + (ρ.fin n - ρ.off).toNat = (ρ.fin n).toNat := by omega
  have hw : wrap64 (ρ.off + ((ρ.fin n - ρ.off).toNat : Int)) = ρ.fin n := by unfold wrap64; omega
  simp only [RSrc.src, Src.step, List.drop_drop, hd, hw]
end Go.Pax
namespace Go.Proofs.Ytljlcigbehgohaa
open Go.RowKit Go.Pax
theorem refRead (w : World) (p : Nat) (fp : List Nat) (ρ : RSrc) (n : Int) (h : RSrcAt w p fp ρ) (hok : ρ.Ok) (h2 : n ≤ 9223372036854775807) :
    Calls Try.prog 29 #[.pointer (some ⟨p, 0, none⟩), .int .i64 n] w fun e w' => GotB w w' e (ρ.read n).1 (ρ.read n).2.1 ∧ RSrcAt w' p fp (ρ.read n).2.2 ∧ Chg [p] w w' := by
  have H := h
  obtain ⟨ra, rc, ca, cc, hp, hR, hC, hpf, hrc⟩ := h
  by_cases h1 : n < 1
  · refine (refRead_arg w p n h1).mono fun e w' ⟨he, hw⟩ => ?_
    subst he; subst hw
    rw [show ρ.read n = (2, [], ρ) from by unfold RSrc.read; rw [if_pos h1]]
    exact ⟨⟨none, 0, rfl, World.ownsRow_nil _ _ _ _⟩, H, Chg.refl _ _⟩
  by_cases h3 : 0 ≤ ρ.fail ∧ ρ.off = ρ.fail
  · refine (refRead_io w p n ρ.fail (by omega) h3.1 (cell_heap hp 2 rfl) (by rw [← h3.2]; exact cell_heap hp 3 rfl)).mono fun e w' ⟨he, k, hw⟩ => ?_
    subst he; subst hw
    rw [show ρ.read n = (11, [], ρ) from by unfold RSrc.read; rw [if_neg h1, if_pos h3]]
    exact ⟨⟨none, 0, rfl, World.ownsRow_nil _ _ _ _⟩, H, (Chg.refl _ _).drewN k⟩
  have hf : 0 ≤ ρ.fail → (ρ.off == ρ.fail) = false := fun h0 => by simp; exact fun e => h3 ⟨h0, e⟩
  by_cases h4 : (ρ.b.length : Int) ≤ ρ.off
  · refine (refRead_eof w p n ρ.fail ρ.off ra _ rc (by omega) hf h4 (cell_heap hp 0 rfl) (cell_heap hp 2 rfl) (cell_heap hp 3 rfl)).mono fun e w' ⟨he, k, hw⟩ => ?_
    subst he; subst hw
    rw [show ρ.read n = (4, [], ρ) from by unfold RSrc.read; rw [if_neg h1, if_neg h3, if_pos h4]]
    exact ⟨⟨none, 0, rfl, World.ownsRow_nil _ _ _ _⟩, H, (Chg.refl _ _).drewN k⟩
  obtain ⟨b1, b2, b3, b4⟩ := RSrc.fin_bounds (n := n) hok (by omega) h3 h4
  have o0 := hok.off0
  obtain ⟨o, ho⟩ : ∃ o : Nat, ρ.off = o := ⟨ρ.off.toNat, by omega⟩
  obtain ⟨E, hE⟩ : ∃ E : Nat, ρ.fin n = E := ⟨(ρ.fin n).toNat, by omega⟩
  refine (refRead_ok w p fp ρ n o E H hok.reads0 hok.clen hok.blen (by omega) h2 ho hf (by omega) hE (by omega) (by omega)).mono fun e w' ⟨ao, cap, he, h5, h6, h7⟩ => ?_
  rw [show ρ.read n = (0, (ρ.b.drop o).take (E - o), { ρ with off := E, reads := wrap64 (ρ.reads + 1) }) from by
    unfold RSrc.read; rw [if_neg h1, if_neg h3, if_neg h4, hE, ho]; simp]
  have hk : ((ρ.b.drop o).take (E - o)).length = E - o := by
    have := h5.1
    rw [bv_length, Nat.mul_one] at this
    exact this
  refine ⟨⟨ao, cap, ?_, ?_⟩, h6, h7⟩
  · rw [hk]; exact he
  · rw [hk]; exact h5
end Go.Proofs.Ytljlcigbehgohaa
