/- slices.ContainsFunc at []int with the closure of paxtar/vfs.New: is there a negative number? -/
import Derived.Test.YtoionaeimnmcbaaGreatDoorVLink
namespace Go.Pax
open Go.RowKit
/-- The first place of a negative number from place k on, or -1. -/
def idxN : List Int → Nat → Int
  | [], _ => -1
  | y :: l, k => if y < 0 then k else idxN l (k + 1)
theorem idxN_neg : ∀ (l : List Int) (k : Nat), (0 ≤ idxN l k ↔ ∃ y ∈ l, y < 0)
  | [], _ => by simp [idxN]
  | y :: l, k => by
    simp only [idxN, List.mem_cons]
    split
    · rename_i h; simp; exact .inl h
    · rename_i h; rw [idxN_neg l (k + 1)]; simp [h]
end Go.Pax
namespace Go.Proofs.YtoionaeimnmcbaaGreatDoor
open Go.RowKit Go.Pax Go.Shelf
set_option maxHeartbeats 1000000 in
theorem isNeg (w : World) (n : Int) : Calls Tryz.prog 25 #[.int .i64 n] w fun e w' => e = .returned (.bool (decide (n < 0))) ∧ w' = w := by
  go_enter Tryz.func25, Tryz.ntmps25
  go_wp2
  go_ret
  exact ⟨rfl, rfl⟩
set_option maxRecDepth 100000 in
set_option maxHeartbeats 2000000 in
theorem indexNeg (w : World) (ao : Option Addr) (c : Nat) (fp : List Nat) (l : List Int) (hl : l.length ≤ 140737488355328) (h : Rd w fp ao (iv l)) :
    Calls Tryz.prog 51 #[.slice ao l.length c, .func (.func 25) #[] #[]] w fun e w' => e = .returned (.int .i64 (idxN l 0)) ∧ w' = w := by
  have H := Lib.hid h
  clear h
  generalize hn : l.length = n at *
  have HN := Lib.hid hn
  clear hn
  go_enter Tryz.func51, Tryz.ntmps51
  go_wp2
  go_loop [8] (fun i => ∃ k : Nat, k ≤ n ∧ i = .int .i64 k ∧ idxN l 0 = idxN (l.drop k) k) (fun i => n - (intOf i).toNat)
  case atStart => exact ⟨0, Nat.zero_le _, rfl, by simp⟩
  case round =>
    obtain ⟨k, hk, rfl, hik⟩ := hrel
    have HI := Lib.hid hik
    clear hik
    by_cases hlt : k < n
    · have hkl : k < l.length := by rw [HN.out]; exact hlt
      obtain ⟨ad, rfl, _, hc⟩ := H.out k _ (iv_get l k hkl)
      have hd : l.drop k = l[k] :: l.drop (k + 1) := List.drop_eq_getElem_cons hkl
      have HD := Lib.hid hd
      clear hd
      generalize l[k] = y at *
      have hki : (k : Int) < n := by omega
      by_cases hxy : y < 0
      · go_wp2_with (go_at_call 25; refine (isNeg _ _).mono ?_; rintro e w' ⟨rfl, rfl⟩)
        go_ret
        exact ⟨by rw [HI.out, HD.out, idxN, if_pos hxy]; rfl, rfl⟩
      · have hdec : decide (y < 0) = false := by simpa using hxy
        have HXY := Lib.hid hxy
        go_wp2_with (go_at_call 25; refine (isNeg _ _).mono ?_; rintro e w' ⟨rfl, rfl⟩)
        go_round
        case rel => exact ⟨k + 1, by omega, by go_num, by rw [HI.out, HD.out, idxN, if_neg (Int.not_lt.2 HXY.out)]⟩
        case measure => simp [intOf]; omega
    · have hkn : k = n := by omega
      subst hkn
      go_wp2
      go_ret
      exact ⟨by rw [HI.out, List.drop_of_length_le (by rw [HN.out]; exact Nat.le_refl _)]; rfl, rfl⟩
set_option maxHeartbeats 1000000 in
theorem containsNeg (w : World) (ao : Option Addr) (n c : Nat) (fp : List Nat) (l : List Int) (hn : l.length = n) (hl : n ≤ 140737488355328) (h : Rd w fp ao (iv l)) :
    Calls Tryz.prog 24 #[.slice ao n c, .func (.func 25) #[] #[]] w fun e w' => e = .returned (.bool (decide (0 ≤ idxN l 0))) ∧ w' = w := by
  subst hn
  have HI := Lib.hid (indexNeg w ao c fp l hl h)
  clear h
  generalize idxN l 0 = i at *
  go_enter Tryz.func24, Tryz.ntmps24
  go_wp2_with (go_at_call 51; refine HI.out.mono ?_; rintro e w' ⟨rfl, rfl⟩)
  go_ret
  exact ⟨rfl, rfl⟩
end Go.Proofs.YtoionaeimnmcbaaGreatDoor
