/- paxtarlaw19: lists of calls in memory; TooLarge. -/
import Derived.Test.YtoionaeimnmcbaaGreatDoorVLive
namespace Go.Pax
open Go.RowKit
instance : Inhabited AAct := ⟨⟨0, [], 0, [], []⟩⟩
def AAct.wf (a : AAct) : Prop := (-9223372036854775808 ≤ a.kind ∧ a.kind ≤ 9223372036854775807) ∧ (-9223372036854775808 ≤ a.mode ∧ a.mode ≤ 9223372036854775807) ∧ a.path.length ≤ 140737488355328 ∧ a.data.length ≤ 140737488355328 ∧ a.target.length ≤ 140737488355328
/-- The elements of a slice of calls. -/
def RdAct (w : World) (fp : List Nat) (ao : Option Addr) (L : List AAct) : Prop :=
  ∀ i x, L[i]? = some x → ∃ ad a c, ao = some ad ∧ ad.block ∈ fp ∧ w.cell? ((ad.add (i * 5)).add 0) = some (.int .i64 x.kind) ∧ w.cell? ((ad.add (i * 5)).add 1) = some (.string (ba x.path)) ∧ w.cell? ((ad.add (i * 5)).add 2) = some (.int .i64 x.mode) ∧
    w.cell? ((ad.add (i * 5)).add 3) = some (.slice a x.data.length c) ∧ w.cell? ((ad.add (i * 5)).add 4) = some (.string (ba x.target)) ∧ x.data.length ≤ c ∧ Rd w fp a (bv x.data)
theorem RdAct.mono {w : World} {fp fp' : List Nat} {ao : Option Addr} {L : List AAct} (h : RdAct w fp ao L) (hf : ∀ k, k ∈ fp → k ∈ fp') : RdAct w fp' ao L := fun i x hx => by
  obtain ⟨ad, a, c, h1, h2, h3, h4, h5, h6, h7, h8, h9⟩ := h i x hx
  exact ⟨ad, a, c, h1, hf _ h2, h3, h4, h5, h6, h7, h8, h9.mono hf⟩
/-- An element, as the walk wants its cells. -/
theorem RdAct.at {w w' : World} {fp : List Nat} {ao : Option Addr} {L : List AAct} (h : RdAct w fp ao L) (k : Chg [] w w') (i : Nat) (x : AAct) (hx : L[i]? = some x) : ∃ ad a c, ao = some ad ∧
    w'.cell? (ad.add (i * 5)) = some (.int .i64 x.kind) ∧ w'.cell? ⟨(ad.add (i * 5)).block, (ad.add (i * 5)).off + 1, none⟩ = some (.string (ba x.path)) ∧ w'.cell? ⟨(ad.add (i * 5)).block, (ad.add (i * 5)).off + 2, none⟩ = some (.int .i64 x.mode) ∧
    w'.cell? ⟨(ad.add (i * 5)).block, (ad.add (i * 5)).off + 3, none⟩ = some (.slice a x.data.length c) ∧ w'.cell? ⟨(ad.add (i * 5)).block, (ad.add (i * 5)).off + 4, none⟩ = some (.string (ba x.target)) ∧ Rd w fp a (bv x.data) ∧ x.data.length ≤ c := by
  obtain ⟨ad, a, c, h1, h2, c0, c1, c2, c3, c4, h8, h9⟩ := h i x hx
  have c0 := k.cell c0 (by simp)
  have c1 := k.cell c1 (by simp)
  have c2 := k.cell c2 (by simp)
  have c3 := k.cell c3 (by simp)
  have c4 := k.cell c4 (by simp)
  exact ⟨ad, a, c, h1, by simpa [Addr.add] using c0, by simpa [Addr.add] using c1, by simpa [Addr.add] using c2, by simpa [Addr.add] using c3, by simpa [Addr.add] using c4, h9, h8⟩
def AAct.len (a : AAct) : Nat := a.path.length + a.data.length + a.target.length
def actsLen (L : List AAct) : Nat := (L.map AAct.len).sum
theorem actsLen_take (L : List AAct) (i : Nat) (h : i < L.length) : actsLen (L.take (i + 1)) = actsLen (L.take i) + L[i].len := by
  unfold actsLen
  rw [List.take_add_one, List.getElem?_eq_getElem h]
  simp only [List.map_append, List.sum_append, Option.toList, List.map_cons, List.map_nil, List.sum_cons, List.sum_nil, Nat.add_zero]
theorem actsLen_bound (L : List AAct) (N : Nat) (h : ∀ b ∈ L, b.len ≤ N) (i : Nat) : actsLen (L.take i) ≤ i * N := by
  induction i with
  | zero => simp [actsLen]
  | succ i ih =>
    by_cases hi : i < L.length
    · rw [actsLen_take L i hi]
      have := h _ (List.getElem_mem hi)
      have e : (i + 1) * N = i * N + N := by rw [Nat.add_mul, Nat.one_mul]
      omega
    · rw [List.take_of_length_le (by omega)] at ih ⊢
      have e : (i + 1) * N = i * N + N := by rw [Nat.add_mul, Nat.one_mul]
      omega
/-- What TooLarge answers. -/
def tooE (L : List AAct) : Int := if 40 < L.length ∨ 20000 < actsLen L then 1 else 0
def Counted (L : List AAct) (k : Nat) (v : Value) : Prop := ∃ x : Int, v = .int .i64 x ∧ (L.length ≤ 40 → x = actsLen (L.take k))
end Go.Pax
namespace Go.Proofs.YtoionaeimnmcbaaGreatDoor
open Go.RowKit Go.Pax Go.Shelf
set_option maxRecDepth 100000 in
set_option maxHeartbeats 8000000 in
theorem tooLarge (w : World) (lo : Option Addr) (lc : Nat) (L : List AAct) (fp : List Nat) (h : RdAct w fp lo L) (hwf : ∀ y ∈ L, y.wf) (hll : L.length ≤ 140737488355328) :
    Calls Tryz.prog 5 #[.slice lo L.length lc] w fun e w' => e = .returned (.int .i64 (tooE L)) ∧ Chg [] w w' := by
  have H := Lib.hid h
  have HWF := Lib.hid hwf
  have hb : ∀ b ∈ L, b.len ≤ 422212465065984 := fun b hb => by
    obtain ⟨_, _, h1, h2, h3⟩ := hwf b hb
    unfold AAct.len; omega
  have HB := Lib.hid (actsLen_bound L _ hb)
  have hE : tooE L = if 40 < L.length ∨ 20000 < actsLen L then 1 else 0 := rfl
  have HE := Lib.hid hE
  have HA := Lib.hid (congrArg actsLen (List.take_length (l := L)))
  clear h hwf hb hE
  generalize tooE L = E at *
  generalize hN : L.length = N at *
  have HN := Lib.hid hN
  clear hN
  go_enter Tryz.func5, Tryz.ntmps5
  go_wp2_with fail
  go_loopw [3, 8] (fun s i wr => ∃ k : Nat, k ≤ N ∧ i = .int .i64 k ∧ Chg [] w wr ∧ Counted L k s) (fun _ i _ => N - (intOf i).toNat)
  case atStart => exact ⟨0, Nat.zero_le _, rfl, Chg.refl _ _, 0, rfl, fun _ => by simp [actsLen]⟩
  case round =>
    obtain ⟨k, hk, rfl, hkr, x, rfl, hx⟩ := hrel
    have HKR := Lib.hid hkr
    have HX := Lib.hid hx
    clear hkr hx
    by_cases hlt : k < N
    · have hkL : k < L.length := by rw [HN.out]; exact hlt
      have hkx := List.getElem?_eq_getElem hkL
      obtain ⟨ad, a, c, rfl, c0, c1, c2, c3, c4, _, _⟩ := H.out.at HKR.out k _ hkx
      have ht := actsLen_take L k hkL
      obtain ⟨_, _, l1, l2, l3⟩ := HWF.out _ (List.getElem_mem hkL)
      have hz : L[k].len = (ba L[k].path).size + L[k].data.length + (ba L[k].target).size := by simp [AAct.len, ba_size]
      rw [hz] at ht
      rw [← ba_size] at l1 l3
      have HT := Lib.hid ht
      have hbnd : N ≤ 40 → actsLen (L.take k) ≤ 16888498602639360 := fun h => by
        have h1 := HB.out k
        have h2 : k * 422212465065984 ≤ 40 * 422212465065984 := Nat.mul_le_mul_right _ (by omega)
        omega
      have HBD := Lib.hid hbnd
      clear ht hbnd hz hkx
      generalize L[k].data.length = dl at *
      generalize ba L[k].path = P at *
      generalize ba L[k].target = T at *
      generalize L[k].kind = kd at *
      generalize L[k].mode = md at *
      by_cases h40 : N ≤ 40
      · have hxe := HX.out (by rw [HN.out]; exact h40)
        have hx0 : 0 ≤ x := by omega
        have hx1 : x ≤ 16888498602639360 := by have := HBD.out h40; omega
        have HXE := Lib.hid hxe
        clear hxe
        go_wp2_with fail
        go_roundw
        case rel => exact ⟨k + 1, by omega, by go_num, HKR.out.alloc _, _, rfl, fun _ => by rw [HT.out, HXE.out]; simp⟩
        case measure => simp [intOf]; omega
      · go_wp2_with fail
        go_roundw
        case rel => exact ⟨k + 1, by omega, by go_num, HKR.out.alloc _, _, rfl, fun h => absurd (by rw [HN.out] at h; exact h) h40⟩
        case measure => simp [intOf]; omega
    · have hkk : k = N := by omega
      subst hkk
      by_cases h40 : 40 < k
      · have hE := HE.out
        rw [if_pos (Or.inl h40)] at hE
        subst hE
        go_wp2_with fail
        all_goals
          go_ret
          exact ⟨rfl, HKR.out⟩
      have hxe := HX.out (by rw [HN.out]; omega)
      rw [HA.out] at hxe
      by_cases h5 : 20000 < x
      · have hE := HE.out
        rw [if_pos (Or.inr (by omega))] at hE
        subst hE
        go_wp2_with fail
        go_ret
        exact ⟨rfl, HKR.out⟩
      · have hE := HE.out
        rw [if_neg (by omega)] at hE
        subst hE
        go_wp2_with fail
        go_ret
        exact ⟨rfl, HKR.out⟩
end Go.Proofs.YtoionaeimnmcbaaGreatDoor
