/- The reference's Names. -/
import Derived.Test.YtoionaeimnmcbaaGreatDoorRMake
namespace Go.Pax
open Go.RowKit
theorem insR_length (l : List Str) (s : Str) : (insR l s).length = l.length + 1 := by
  unfold insR
  rw [List.length_append, List.length_cons, List.length_take, List.length_drop]
  omega
theorem nameStep_le (d : Str) (out : List Str) (x : Str × Nat) : (nameStep d out x).length ≤ out.length + 1 := by
  unfold nameStep
  split
  · rw [insR_length]; omega
  · omega
theorem namesR_take_succ (l : List (Str × Nat)) (d : Str) (k : Nat) (h : k < l.length) : namesR (l.take (k + 1)) d = nameStep d (namesR (l.take k) d) l[k] := by
  rw [List.take_add_one, List.getElem?_eq_getElem h]
  exact namesR_snoc _ _ _
theorem namesR_le (l : List (Str × Nat)) (d : Str) : ∀ k, k ≤ l.length → (namesR (l.take k) d).length ≤ k
  | 0, _ => by simp [namesR]
  | k + 1, h => by
    rw [namesR_take_succ l d k (by omega)]
    have h1 := nameStep_le d (namesR (l.take k) d) (l[k]'(by omega))
    have h2 := namesR_le l d k (by omega)
    omega
end Go.Pax
namespace Go.Proofs.YtoionaeimnmcbaaGreatDoor
open Go.RowKit Go.Pax Go.Shelf
set_option maxRecDepth 100000 in
set_option maxHeartbeats 8000000 in
theorem rnames (w : World) (r : Nat) (O : List Nat) (ρ : RFs) (d : Str) (h : RAt w r O ρ) (hk : ROk ρ) :
    Calls Tryz.prog 41 #[.pointer (some ⟨r, 0, none⟩), .string (ba d)] w fun e w' => ∃ a n c, e = .returned (.slice a n c) ∧ n = (namesR ρ.paths d).length ∧ w'.ownsRow w.heap.size 9 1 (.slice a n c) n (svn (namesR ρ.paths d)) ∧ Chg [] w w' := by
  obtain ⟨rv, iv', pv, ns, h⟩ := h
  have hcell := h.cells.2.2.2.2.1
  obtain ⟨ao, c, rfl, hnc, hrd⟩ := own_rdS h.pth
  have HC4 := Lib.hid (fun W (k : Chg [] w W) => k.cell hcell (by simp))
  have HRD := Lib.hid (fun W (k : Chg [] w W) => hrd.chg k (by simp))
  have hplen := hk.plen
  have hsh := hk.short
  have hall : namesR (ρ.paths.take ρ.paths.length) d = namesR ρ.paths d := by rw [List.take_length]
  generalize namesR ρ.paths d = R at *
  generalize ρ.paths = l at *
  obtain ⟨m, hm⟩ : ∃ m, l.length = m := ⟨_, rfl⟩
  rw [hm] at hplen hnc hall
  have HALL := Lib.hid hall
  have HC5 := HC4.out
  rw [hm] at HC5
  have HC := Lib.hid HC5
  have HM := Lib.hid hm
  have HP := Lib.hid (fun k (hk : k < m) => pcells_get l k (by rw [HM.out]; exact hk))
  have HST := Lib.hid (fun k hk => namesR_take_succ l d k hk)
  have HLE := Lib.hid (fun k (hk : k ≤ l.length) => namesR_le l d k hk)
  have HSH := Lib.hid hsh
  clear h hk hcell hrd HC4 HC5 hm hall hsh
  obtain ⟨D, hD⟩ : ∃ D, D = ba d := ⟨_, rfl⟩
  have HD := Lib.hid hD
  rw [← hD]
  clear hD
  go_enter Tryz.func41, Tryz.ntmps41
  go_upto_region 3 with (fail)
  go_loopw [5, 6] (fun v i wr => ∃ (k n c' : Nat) (a : Option Addr), i = .int .i64 k ∧ k ≤ m ∧ v = .slice a n c' ∧ n = (namesR (l.take k) d).length ∧ n ≤ k ∧ wr.ownsRow w.heap.size 9 1 (.slice a n c') n (svn (namesR (l.take k) d)) ∧ Chg [] w wr) (fun _ i _ => m - (intOf i).toNat)
  case atStart => exact ⟨0, 0, 0, none, rfl, Nat.zero_le _, rfl, rfl, Nat.le_refl _, ⟨rfl, .inl ⟨rfl, rfl⟩⟩, Chg.refl _ _⟩
  case round =>
    obtain ⟨k, n, c', a, rfl, hkm, rfl, hn, hnk, hown, hkw⟩ := hrel
    have HOW := Lib.hid (And.intro hn (And.intro hown hkw))
    clear hn hown hkw
    have c4 := HC.out wr HOW.out.2.2
    by_cases hlt : k < m
    · have hkl : k < l.length := by rw [HM.out]; exact hlt
      obtain ⟨ad, rfl, _, d0⟩ := HRD.out wr HOW.out.2.2 _ _ (HP.out k hlt).1
      have hsu := HST.out k hkl
      have hsx := HSH.out _ (List.getElem_mem hkl)
      have HPA := Lib.hid (fun W => rparent l[k].1 (by omega) W)
      have HBA := Lib.hid (fun W => rbase l[k].1 (by omega) W)
      by_cases hX : l[k].1 ≠ [] ∧ parentP l[k].1 = d
      · have hsu2 : namesR (l.take (k + 1)) d = insR (namesR (l.take k) d) (baseP l[k].1) := by rw [hsu]; unfold nameStep; rw [if_pos hX]
        have HSU := Lib.hid hsu2
        have hb1 : ((ba l[k].1).toList == []) = false := by rw [ba_tl]; simpa using hX.1
        have hb1e : (ba l[k].1).toList.isEmpty = false := by rw [ba_tl]; simpa using hX.1
        have hb2 : ((ba (parentP l[k].1)).toList == D.toList) = true := by rw [HD.out, hX.2]; simp
        clear hX hsu hsu2
        generalize hPN : parentP l[k].1 = PN at *
        generalize hBN : baseP l[k].1 = BN at *
        generalize l[k].1 = X at *
        clear hPN hBN
        go_upto_region 7 with (go_at_call 57; refine (HPA.out _).mono ?_; rintro e w2 ⟨rfl, hw2⟩; obtain rfl := hw2.symm)
        go_wp2_with (first
          | (go_at_call 59; refine (HBA.out _).mono ?_; rintro e w2 ⟨rfl, x, hw2⟩; have hkb : Chg [] wr w2 := by { rw [hw2]; exact (Chg.refl _ _).drewN x }; have HKB := Lib.hid hkb; clear hkb hw2)
          | (go_at_call 58; refine (rinsert _ _ a n c' (namesR (l.take k) d) BN HOW.out.1.symm (by omega) (own_rd2 HOW.out.2.1).2.2 ((own_rd2 HOW.out.2.1).1.chg HKB.out (by simp))).mono ?_; rintro e w3 ⟨a3, c3, rfl, hown3, hk3⟩; have HO3 := Lib.hid (And.intro hown3 hk3); clear hown3 hk3))
        go_roundw
        case rel =>
          have hs : w.heap.size ≤ w2.heap.size := (HOW.out.2.2.trans HKB.out).size
          refine ⟨k + 1, n + 1, c3, a3, by go_num, by omega, rfl, ?_, by omega, ?_, (HOW.out.2.2.trans HKB.out).trans HO3.out.2⟩
          · rw [HSU.out, insR_length, ← HOW.out.1]
          · rw [HSU.out]; exact own_low HO3.out.1 hs
        case measure => simp [intOf]; omega
      · have hsu2 : namesR (l.take (k + 1)) d = namesR (l.take k) d := by rw [hsu]; unfold nameStep; rw [if_neg hX]
        have HSU := Lib.hid hsu2
        clear hsu hsu2
        by_cases hX1 : l[k].1 = []
        · rw [hX1] at d0
          rw [show ba [] = (⟨#[]⟩ : ByteArray) from rfl] at d0
          clear hX hX1 HPA HBA hsx
          go_wp2_with fail
          go_roundw
          case rel => exact ⟨k + 1, n, c', a, by go_num, by omega, rfl, by rw [HSU.out]; exact HOW.out.1, by omega, by rw [HSU.out]; exact HOW.out.2.1, HOW.out.2.2⟩
          case measure => simp [intOf]; omega
        · have hX2 : parentP l[k].1 ≠ d := fun e => hX ⟨hX1, e⟩
          have hb1 : ((ba l[k].1).toList == []) = false := by rw [ba_tl]; simpa using hX1
          have hb1e : (ba l[k].1).toList.isEmpty = false := by rw [ba_tl]; simpa using hX1
          have hb2 : ((ba (parentP l[k].1)).toList == D.toList) = false := by rw [HD.out, ba_tl, ba_tl]; simpa using hX2
          clear hX hX1 hX2 HBA
          generalize hPN : parentP l[k].1 = PN at *
          generalize l[k].1 = X at *
          clear hPN
          go_wp2_with (go_at_call 57; refine (HPA.out _).mono ?_; rintro e w2 ⟨rfl, hw2⟩; obtain rfl := hw2.symm)
          go_roundw
          case rel => exact ⟨k + 1, n, c', a, by go_num, by omega, rfl, by rw [HSU.out]; exact HOW.out.1, by omega, by rw [HSU.out]; exact HOW.out.2.1, HOW.out.2.2⟩
          case measure => simp [intOf]; omega
    · have hkk : k = m := by omega
      subst hkk
      have hn := HOW.out.1
      rw [HALL.out] at hn
      have hown := HOW.out.2.1
      rw [HALL.out] at hown
      have HF := Lib.hid (And.intro hn (And.intro hown HOW.out.2.2))
      clear hn hown
      go_wp2_with fail
      go_ret
      exact ⟨a, n, c', rfl, HF.out⟩
end Go.Proofs.YtoionaeimnmcbaaGreatDoor
