/- payload.Read: slices.IndexFunc over bytes. -/
import Derived.Test.YtljlcigbehgohaaBlkA
namespace Go.Pax
open Go.RowKit
/-- The index of the first byte that is not zero, or -1. -/
def idxNZ (l : List UInt8) : Int := match l.findIdx? (fun c => c != 0) with | some i => (i : Int) | none => -1
theorem idxNZ_at {l : List UInt8} {k : Nat} (hk : k < l.length) (h : ∀ j, (hj : j < k) → l[j] = 0) (hv : l[k] ≠ 0) : idxNZ l = k := by
  have : l.findIdx? (fun c => c != 0) = some k := by
    rw [List.findIdx?_eq_some_iff_getElem]
    exact ⟨hk, by simpa using hv, fun j hj => by simpa using h j hj⟩
  unfold idxNZ; rw [this]
theorem idxNZ_none {l : List UInt8} (h : ∀ j, (hj : j < l.length) → l[j] = 0) : idxNZ l = -1 := by
  have : l.findIdx? (fun c => c != 0) = none := by
    rw [List.findIdx?_eq_none_iff]
    intro x hx
    obtain ⟨j, hj, rfl⟩ := List.getElem_of_mem hx
    simpa using h j hj
  unfold idxNZ; rw [this]
theorem idxNZ_ways (l : List UInt8) : (idxNZ l = -1 ∧ ∀ c ∈ l, c = 0) ∨ ∃ k, k < l.length ∧ idxNZ l = k := by
  unfold idxNZ
  cases h : l.findIdx? (fun c => c != 0) with
  | none => rw [List.findIdx?_eq_none_iff] at h; exact .inl ⟨rfl, fun c hc => by simpa using h c hc⟩
  | some k => rw [List.findIdx?_eq_some_iff_getElem] at h; exact .inr ⟨k, h.1, rfl⟩
/-- n more blocks: the error, the bytes, what the reader then remembers, the source. -/
def rdLoop : Nat → List UInt8 → RSrc → Int × List UInt8 × Int × RSrc
  | 0, acc, ρ => (0, acc, 0, ρ)
  | n + 1, acc, ρ => if (rdNext 0 ρ).1 = 0 then rdLoop n (acc ++ (rdNext 0 ρ).2.1) (rdNext 0 ρ).2.2 else ((if (rdNext 0 ρ).1 = 4 then 5 else (rdNext 0 ρ).1), [], (rdNext 0 ρ).1, (rdNext 0 ρ).2.2)
def blocksOf (size : Int) : Nat := (if size ≤ 0 then 0 else (size - 1) / 512 + 1).toNat
/-- The padding is looked at: the bytes, the offset, the error. -/
def padOut (start size : Int) (acc : List UInt8) (off : Int) : List UInt8 × Int × Int :=
  if idxNZ (acc.drop size.toNat) = -1 then (acc.take size.toNat, off, 0) else ([], start + size + idxNZ (acc.drop size.toNat), 10)
def payEnd (o size : Int) (L : Int × List UInt8 × Int × RSrc) : (List UInt8 × Int × Int) × Int × RSrc :=
  if L.1 = 0 then (padOut o size L.2.1 L.2.2.2.off, 0, L.2.2.2) else (([], L.2.2.2.off, L.1), L.2.2.1, L.2.2.2)
theorem payEnd_ok (o size : Int) (acc : List UInt8) (e : Int) (ρ : RSrc) : payEnd o size (0, acc, e, ρ) = (padOut o size acc ρ.off, 0, ρ) := by simp [payEnd]
theorem payEnd_err (o size : Int) {c : Int} (h : c ≠ 0) (acc : List UInt8) (e : Int) (ρ : RSrc) : payEnd o size (c, acc, e, ρ) = (([], ρ.off, c), e, ρ) := by simp [payEnd, h]
/-- payload.Read: bytes, offset, error; what the reader then remembers, the source. -/
def payRd (err : Int) (ρ : RSrc) (size : Int) : (List UInt8 × Int × Int) × Int × RSrc :=
  if size < 0 ∨ 1099511627776 < size then (([], ρ.off, 3), err, ρ)
  else if err ≠ 0 ∧ 0 < size then (([], ρ.off, if err = 4 then 5 else err), err, ρ)
  else if size = 0 then (([], ρ.off, 0), err, ρ)
  else payEnd ρ.off size (rdLoop (blocksOf size) [] ρ)
/-- A Next that succeeds. -/
theorem next_ok {ρ : RSrc} (h : ρ.Ok) (h0 : (rdNext 0 ρ).1 = 0) : (rdNext 0 ρ).2.1.length = 512 ∧ (rdNext 0 ρ).2.2.off = ρ.off + 512 ∧ (rdNext 0 ρ).2.1 = (ρ.b.drop ρ.off.toNat).take 512 := by
  rw [rdNext_ok] at *
  obtain ⟨i1, i2, i3, i4, i5⟩ := nextF_is 512 [] ρ h (Nat.zero_le _) (Nat.le_add_left _ _)
  simp only [List.length_nil, List.nil_append] at i5
  have ho := h.off0
  rcases i5 with ⟨j1, j2, j3, j4⟩ | ⟨j1, j2, j3, j4⟩
  · refine ⟨?_, by rw [j3]; omega, j4⟩
    have hl : ρ.end0 ≤ ρ.b.length := by unfold RSrc.end0; split <;> omega
    rw [j4, List.length_take, List.length_drop]; omega
  · rw [h0] at j4
    split at j4
    · omega
    · split at j4 <;> omega
end Go.Pax
namespace Go.Proofs.Ytljlcigbehgohaa
open Go.RowKit Go.Pax

set_option maxHeartbeats 400000 in
theorem notZero (w : World) (c : Int) : Calls Try.prog 66 #[.int .u8 c] w fun e w' => e = .returned (.bool (c != 0)) ∧ w' = w := by
  go_enter Try.func66, Try.ntmps66
  go_wp2
  go_ret
  exact ⟨rfl, rfl⟩
set_option maxHeartbeats 2000000 in
theorem idxWalk (w : World) (ao : Option Addr) (cap : Nat) (l : List UInt8) (fp : List Nat) (fv : Value) (hfv : fv = .func (.func 66) #[] #[]) (hl : l.length ≤ 140737488355328) (h : Rd w fp ao (bv l)) :
    Calls Try.prog 65 #[.slice ao l.length cap, fv] w fun e w' => e = .returned (.int .i64 (idxNZ l)) ∧ w' = w := by
  have H := Lib.hid h
  subst hfv
  clear h
  generalize hN : l.length = N at *
  have HN := Lib.hid hN
  clear hN
  go_enter Try.func65, Try.ntmps65
  go_wp2_with fail
  go_loopw [8] (fun i wr => ∃ k : Nat, k ≤ N ∧ i = .int .i64 k ∧ wr = w ∧ ∀ j, (hj : j < l.length) → j < k → l[j] = 0) (fun i _ => N - (intOf i).toNat)
  case atStart => exact ⟨0, Nat.zero_le _, rfl, rfl, by simp⟩
  case round =>
    obtain ⟨k, hk, rfl, rfl, hz⟩ := hrel
    have HZ := Lib.hid hz
    clear hz
    by_cases hlt : k < N
    · have hkl : k < l.length := by rw [HN.out]; exact hlt
      obtain ⟨ad, rfl, _, hcell⟩ := H.out k _ (bv_get l k hkl)
      by_cases hv : l[k] = 0
      · have hzz : ((l[k].toNat : Int) != 0) = false := by rw [hv]; rfl
        have HV := Lib.hid hv
        clear hv
        generalize hX : (l[k].toNat : Int) = X at *
        clear hX
        go_wp2_with (go_at_call 66; refine (notZero _ _).mono ?_; rintro e w' ⟨rfl, rfl⟩; rw [hzz])
        go_roundw
        case rel => exact ⟨k + 1, by omega, by go_num, trivial, fun j hj hjk => by
          by_cases e : j = k
          · subst e; exact HV.out
          · exact HZ.out j hj (by omega)⟩
        case measure => simp [intOf]; omega
      · have hne : (l[k].toNat : Int) ≠ 0 := by
          intro e
          apply hv
          apply UInt8.toNat_inj.1
          simpa using e
        have hzz : ((l[k].toNat : Int) != 0) = true := by simpa using hne
        have hix : idxNZ l = k := idxNZ_at hkl (fun j hj => HZ.out j (by omega) hj) hv
        have HIX := Lib.hid hix
        clear hv hne hix
        generalize hX : (l[k].toNat : Int) = X at *
        clear hX
        go_wp2_with (go_at_call 66; refine (notZero _ _).mono ?_; rintro e w' ⟨rfl, rfl⟩; rw [hzz])
        go_ret
        rw [HIX.out]
        exact ⟨rfl, rfl⟩
    · have hkk : k = N := by omega
      subst hkk
      have hix : idxNZ l = -1 := idxNZ_none (fun j hj => HZ.out j hj (by have := HN.out; omega))
      have HIX := Lib.hid hix
      clear hix
      go_wp2_with fail
      go_ret
      rw [HIX.out]
      exact ⟨rfl, rfl⟩
end Go.Proofs.Ytljlcigbehgohaa
