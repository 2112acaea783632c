/- paxtarlaw05.alive, size; a slice of byte slices. -/
import Derived.Test.YtljlcigbehgohaaRSinkB
import Derived.Test.YtljlcigbehgohaaLawA
namespace Go.Pax
open Go.RowKit
/-- A slice of byte slices. -/
def RdB (w : World) (fp : List Nat) (ao : Option Addr) (L : List (List UInt8)) : Prop :=
  ∃ rows : List Value, Rd w fp ao rows ∧ rows.length = L.length ∧ ∀ (i : Nat) (b : List UInt8), L[i]? = some b → ∃ a c, rows[i]? = some (.slice a b.length c) ∧ b.length ≤ c ∧ Rd w fp a (bv b)
theorem RdB.chg {w w' : World} {S fp : List Nat} {ao : Option Addr} {L : List (List UInt8)} (h : RdB w fp ao L) (hc : Chg S w w') (hd : ∀ k, k ∈ fp → k ∉ S) : RdB w' fp ao L := by
  obtain ⟨rows, h1, h2, h3⟩ := h
  exact ⟨rows, h1.chg hc hd, h2, fun i b hb => by
    obtain ⟨a, c, e1, e2, e3⟩ := h3 i b hb
    exact ⟨a, c, e1, e2, e3.chg hc hd⟩⟩
theorem RdB.mono {w : World} {fp fp' : List Nat} {ao : Option Addr} {L : List (List UInt8)} (h : RdB w fp ao L) (hf : ∀ k, k ∈ fp → k ∈ fp') : RdB w fp' ao L := by
  obtain ⟨rows, h1, h2, h3⟩ := h
  exact ⟨rows, h1.mono hf, h2, fun i b hb => by
    obtain ⟨a, c, e1, e2, e3⟩ := h3 i b hb
    exact ⟨a, c, e1, e2, e3.mono hf⟩⟩
theorem RdB.at {w : World} {fp : List Nat} {ao : Option Addr} {L : List (List UInt8)} (h : RdB w fp ao L) (i : Nat) (hi : i < L.length) : ∃ ad a c, ao = some ad ∧ w.cell? (ad.add i) = some (.slice a L[i].length c) ∧ L[i].length ≤ c ∧ Rd w fp a (bv L[i]) := by
  obtain ⟨rows, h1, h2, h3⟩ := h
  obtain ⟨a, c, e1, e2, e3⟩ := h3 i _ (List.getElem?_eq_getElem hi)
  obtain ⟨ad, e4, _, e5⟩ := h1 i _ e1
  exact ⟨ad, a, c, e4, e5, e2, e3⟩
def total (L : List (List UInt8)) : Nat := (L.map List.length).sum
theorem total_take (L : List (List UInt8)) (i : Nat) (h : i < L.length) : total (L.take (i + 1)) = total (L.take i) + L[i].length := by
  unfold total
  rw [List.take_succ_eq_append_getElem h, List.map_append, List.sum_append]; simp
theorem total_all (L : List (List UInt8)) : total (L.take L.length) = total L := by rw [List.take_length]
theorem total_bound (L : List (List UInt8)) (N : Nat) (h : ∀ b ∈ L, b.length ≤ N) (i : Nat) : total (L.take i) ≤ i * N := by
  induction i with
  | zero => simp [total]
  | succ i ih =>
    by_cases hi : i < L.length
    · rw [total_take L i hi]
      have := h _ (List.getElem_mem hi)
      rw [Nat.succ_mul]; omega
    · rw [List.take_of_length_le (by omega), ← List.take_of_length_le (i := i) (l := L) (by omega)]
      rw [Nat.succ_mul]; omega
/-- A footprint that is as small as can be. -/
theorem Rd.tight {w : World} {fp : List Nat} {ao : Option Addr} {xs : List Value} (h : Rd w fp ao xs) : ∃ fq, Rd w fq ao xs ∧ ∀ k ∈ fq, k ∈ fp ∧ k < w.heap.size := by
  cases xs with
  | nil => exact ⟨[], Rd.nil _ _ _, by simp⟩
  | cons x l =>
    obtain ⟨a, ha, hb, hc⟩ := h 0 x rfl
    subst ha
    have hlt := World.block_lt_of_cell? w _ hc
    rw [block_add] at hlt
    refine ⟨[a.block], fun j u hu => ?_, by simp; exact ⟨hb, hlt⟩⟩
    obtain ⟨a', ha', hb', hc'⟩ := h j u hu
    cases ha'
    exact ⟨_, rfl, by simp, hc'⟩
end Go.Pax
namespace Go.Proofs.Ytljlcigbehgohaa
open Go.RowKit Go.Pax

set_option maxHeartbeats 1000000 in
theorem sinkSize (w : World) (lo : Option Addr) (lc : Nat) (L : List (List UInt8)) (fp : List Nat) (h : RdB w fp lo L) (hl : L.length ≤ 100) (hb : ∀ b ∈ L, b.length ≤ 140737488355328) :
    Calls Try.prog 34 #[.slice lo L.length lc] w fun e w' => e = .returned (.int .i64 (total L)) ∧ w' = w := by
  have H := Lib.hid h
  have HB := Lib.hid (total_bound L _ hb)
  have HA := Lib.hid (total_all L)
  clear h hb
  generalize hN : L.length = N at *
  have HN := Lib.hid hN
  clear hN
  go_enter Try.func34, Try.ntmps34
  go_wp2_with fail
  go_loopw [3, 8] (fun s i wr => ∃ k : Nat, k ≤ N ∧ i = .int .i64 k ∧ s = .int .i64 (total (L.take k)) ∧ wr = w) (fun _ i _ => N - (intOf i).toNat)
  case atStart => exact ⟨0, Nat.zero_le _, rfl, rfl, rfl⟩
  case round =>
    obtain ⟨k, hk, rfl, rfl, rfl⟩ := hrel
    by_cases hlt : k < N
    · have hkL : k < L.length := by rw [HN.out]; exact hlt
      obtain ⟨ad, a, c, rfl, hcell, hc, hr⟩ := H.out.at k hkL
      have ht := total_take L k hkL
      have hb1 := HB.out k
      have hb2 := HB.out (k + 1)
      have hb3 : k * 140737488355328 ≤ 100 * 140737488355328 := Nat.mul_le_mul_right _ (by omega)
      have hb4 : (k + 1) * 140737488355328 ≤ 100 * 140737488355328 := Nat.mul_le_mul_right _ (by omega)
      have hs0 : ((total (L.take k) : Nat) : Int) + (L[k].length : Nat) = (total (L.take (k + 1)) : Nat) := by omega
      have hs1 : total (L.take k) ≤ 14073748835532800 := by omega
      have hs2 : total (L.take (k + 1)) ≤ 14073748835532800 := by omega
      have HS0 := Lib.hid hs0
      clear ht hb1 hb2 hb3 hb4 hr hs0
      have hs3 : L[k].length ≤ 14073748835532800 := by have := HS0.out; omega
      generalize total (L.take k) = T at *
      generalize hT2 : total (L.take (k + 1)) = T2 at *
      have HT2 := Lib.hid hT2
      clear hT2
      generalize hM : L[k].length = M at *
      clear hM
      go_wp2_with fail
      go_roundw
      case rel => exact ⟨k + 1, by omega, by go_num, by rw [HT2.out, HS0.out], trivial⟩
      case measure => simp [intOf]; omega
    · have hkk : k = N := by omega
      subst hkk
      rw [HA.out]
      go_wp2
      go_ret
      exact ⟨rfl, rfl⟩

theorem wr1 : Snk.write ⟨[], [2], -1, 0⟩ [97, 98, 99] = (2, 0, ⟨[97, 98], [2], -1, 1⟩) := by kernel_rfl
theorem wr2 : Snk.all ⟨[], [], 3, 0⟩ [97, 98, 99, 100, 101] = (11, ⟨[97, 98, 99], [], 3, 1⟩) := by kernel_rfl

set_option maxRecDepth 100000 in
set_option maxHeartbeats 1000000 in
theorem sinkAlive (w : World) : Calls Try.prog 35 #[] w fun e w' => e = .returned (.bool true) ∧ Chg [] w w' := by
  have kc := fun (w : World) (C : Array Value) (n c : Nat) => Lib.run_convert_bytes_const (P := Try.prog) w 22 5 C n c Try.underlying22 Try.underlying5
  go_enter Try.func35, Try.ntmps35
  go_wp2_with fail
  have hc0 : Chg [] w (w.alloc (.cells #[.int .i64 2] 3)) := (Chg.refl _ _).alloc _
  refine (sinkNew _ 0 _ 1 1 [2] (-1) [w.heap.size] rfl (by decide) (by simp) (Rd.row (heap_alloc_new _ _) rfl (by simp))).mono ?_
  rintro e w1 ⟨p, f1, rfl, hs1, hc1, hp1, hf1⟩
  go_wp2_with fail
  refine (sinkNew _ 0 none 0 0 [] 3 [] rfl (by decide) (by simp) (Rd.nil _ _ _)).mono ?_
  rintro e w2 ⟨q, f2, rfl, hs2, hc2, hp2, hf2⟩
  go_wp2_with fail
  refine (sinkWrite _ 0 p f1 [] [w2.heap.size] _ [97, 98, 99] _ 3 (hs1.chg (S := []) (hc2.trans ((Chg.refl [] _).alloc _)) (by simp) (by simp) (by simp)) (Snk.ok_new (by decide) (by decide)) (Rd.row (heap_alloc_new _ _) rfl (by simp)) (by decide) (by decide)).mono ?_
  rintro e w3 ⟨he3, o3, ⟨hs3, hn3⟩, hc3⟩
  rw [wr1] at he3 hs3
  subst he3
  have hk3 : Chg [p] w2 w3 := (((Chg.refl [] _).alloc _).mono (T := [p]) (by simp)).trans hc3
  have hpq : p ≠ q := by have := hs1.lt; omega
  have hq3 := hs2.chg hk3 (by simpa using Ne.symm hpq) (by intro x hx; simp; rintro rfl; have := hf2 _ hx; have := hs1.lt; omega) (by simp)
  go_wp2_with fail
  refine (sinkAll _ 0 q f2 [] [w3.heap.size] _ [97, 98, 99, 100, 101] _ 5 (hq3.chg (S := []) ((Chg.refl [] _).alloc _) (by simp) (by simp) (by simp)) (Snk.ok_new (by decide) (by decide)) (Rd.row (heap_alloc_new _ _) rfl (by simp)) (by decide) (by simp; have := hq3.lt; omega) (by decide)).mono ?_
  rintro e w4 ⟨he4, o4, ⟨hs4, hn4⟩, hc4⟩
  rw [wr2] at he4 hs4
  subst he4
  have hk4 : Chg [q] w3 w4 := (((Chg.refl [] _).alloc _).mono (T := [q]) (by simp)).trans hc4
  have hz0 : w.heap.size ≤ p := Nat.le_trans hc0.size hp1
  have hz1 : w.heap.size ≤ q := Nat.le_trans (Nat.le_trans hc0.size hc1.size) hp2
  have hfin : Chg [] w w4 := (((hc0.trans hc1).trans hc2).trans' hk3 (by simp) (U := []) (fun k hk hlt => by simp at hk; omega)).trans' hk4 (by simp) (fun k hk hlt => by simp at hk; omega)
  have hlt4 := hs4.lt
  have HS4 := Lib.hid hs4
  have HFIN := Lib.hid hfin
  clear hs1 hs2 hs3 hs4 hc0 hc1 hc2 hc3 hc4 hf1 hf2 hn3 hn4 hk3 hk4 hq3 hfin hz0 hz1
  go_wp2_with (go_at_call 32; refine (sinkBytes _ 0 q f2 o4 _ HS4.out (by decide)).mono ?_; rintro e w5 ⟨a5, c5, rfl, hown5, hgr5⟩; have v5 : (convert 22 9 (.slice a5 3 c5)).run Try.prog w5 = .ok (.string (sb [97, 98, 99])) w5 := conv_own (S := []) rfl hown5 (Chg.refl _ _) (by simp); simp only [sb] at v5)
  go_ret
  exact ⟨rfl, HFIN.out.trans (Chg.of_grown hgr5 (by simp))⟩
end Go.Proofs.Ytljlcigbehgohaa
