/- paxtarref08: last, Parent, Base. -/
import Derived.Test.YtoionaeimnmcbaaGreatDoorVTwoB
namespace Go.Pax
open Go.RowKit
/-- The last slash is where it is found from the right. -/
theorem lastSl_at {l : List UInt8} {k : Nat} (hk : k < l.length) (h : l[k] = 47) (ha : ∀ j (hj : j < l.length), k < j → l[j] ≠ 47) : lastSl l = k := by
  rcases lastSl_spec l with ⟨_, h2⟩ | ⟨i, hi, h1, h2, h3⟩
  · exact absurd (h ▸ List.getElem_mem hk) h2
  · rw [h1]
    rw [List.getElem?_eq_getElem hi] at h2
    injection h2 with h2
    by_cases h4 : k < i
    · exact absurd h2 (ha i hi h4)
    · by_cases h5 : i < k
      · exfalso
        apply h3
        rw [List.mem_iff_getElem]
        exact ⟨k - (i + 1), by rw [List.length_drop]; omega, by rw [List.getElem_drop]; simp only [show i + 1 + (k - (i + 1)) = k by omega]; exact h⟩
      · congr 1; omega
theorem lastSl_no {l : List UInt8} (h : ∀ j (hj : j < l.length), l[j] ≠ 47) : lastSl l = -1 := by
  rcases lastSl_spec l with ⟨h1, _⟩ | ⟨i, hi, _, h2, _⟩
  · exact h1
  · rw [List.getElem?_eq_getElem hi] at h2
    injection h2 with h2
    exact absurd h2 (h i hi)
end Go.Pax
namespace Go.Proofs.YtoionaeimnmcbaaGreatDoor
open Go.RowKit Go.Pax Go.Shelf
set_option maxRecDepth 100000 in
set_option maxHeartbeats 4000000 in
theorem rlast (l : List UInt8) (hl : l.length ≤ 140737488355328) (w : World) : Calls Tryz.prog 81 #[.string (ba l)] w fun e w' => e = .returned (.int .i64 (lastSl l)) ∧ w' = w := by
  have hA := fun k hk h ha => lastSl_at (l := l) (k := k) hk h ha
  have hB := fun h => lastSl_no (l := l) h
  have HAB := Lib.hid (And.intro hA hB)
  have hsz := ba_size l
  have HG := Lib.hid (show ∀ j (hj : j < l.length) (hj' : j < (ba l).size), (ba l)[j]'hj' = l[j]'hj from fun j hj hj' => rfl)
  clear hA hB
  generalize lastSl l = R at *
  generalize ba l = P at *
  go_enter Tryz.func81, Tryz.ntmps81
  go_wp2_with fail
  go_loopw [3] (fun i wr => wr = w ∧ ∃ k : Nat, i = .int .i64 ((k : Int) - 1) ∧ k ≤ l.length ∧ ∀ j (hj : j < l.length), k ≤ j → l[j] ≠ 47) (fun i _ => (intOf i + 1).toNat)
  case atStart => exact ⟨rfl, l.length, rfl, Nat.le_refl _, fun j hj hk => by omega⟩
  case round =>
    obtain ⟨hw, k, rfl, hk, ha⟩ := hrel
    obtain rfl := hw.symm
    have HA := Lib.hid ha
    clear ha
    cases k with
    | zero =>
      have hR := HAB.out.2 (fun j hj => HA.out j hj (Nat.zero_le _))
      subst hR
      go_wp2_with fail
      go_ret
      exact ⟨rfl, rfl⟩
    | succ m =>
      have hm : ((m + 1 : Nat) : Int) - 1 = (m : Int) := by omega
      rw [hm]
      have hml : m < P.size := by omega
      have hg := HG.out m (by omega) hml
      have hml2 : m < l.length := by omega
      by_cases h47 : l[m] = 47
      · have hR := HAB.out.1 m hml2 h47 (fun j hj hk => HA.out j hj (by omega))
        subst hR
        go_wp2_with fail
        go_ret
        exact ⟨rfl, rfl⟩
      · have hb : (((l[m]).toNat : Int) == 47) = false := by
          rw [beq_eq_false_iff_ne]
          intro e
          apply h47
          apply UInt8.toNat_inj.1
          have : (l[m]).toNat = 47 := by omega
          rw [this]; rfl
        have HM := Lib.hid (And.intro h47 trivial)
        have hlt := (l[m]).toNat_lt
        clear h47
        go_wp2_with fail
        go_roundw
        case rel => exact ⟨trivial, m, rfl, by omega, fun j hj hjk => by
          rcases Nat.lt_or_eq_of_le hjk with h1 | h1
          · exact HA.out j hj (by omega)
          · subst h1; exact HM.out.1⟩
        case measure => simp [intOf]
set_option maxHeartbeats 1000000 in
theorem rparent (l : List UInt8) (hl : l.length ≤ 140737488355328) (w : World) :
    Calls Tryz.prog 57 #[.string (ba l)] w fun e w' => e = .returned (.string (ba (parentP l))) ∧ w' = w := by
  have hlt := lastSl_lt l
  have HI := Lib.hid (rlast l hl w)
  have ht := fun k => ext_take (ba l) k
  simp only [ba_data] at ht
  have hp : parentP l = if lastSl l < 0 then [] else l.take (lastSl l).toNat := rfl
  have hz : ((ba l).size : Int) = l.length := by rw [ba_size]
  by_cases h0 : lastSl l < 0
  · rw [if_pos h0] at hp
    have HP := Lib.hid hp
    clear hp ht hz
    generalize lastSl l = x at *
    go_enter Tryz.func57, Tryz.ntmps57
    go_wp2_with (go_at_call 81; refine HI.out.mono ?_; rintro e w' ⟨rfl, rfl⟩)
    go_ret
    rw [HP.out]
    exact ⟨rfl, rfl⟩
  · rw [if_neg h0] at hp
    have HP := Lib.hid hp
    clear hp
    generalize lastSl l = x at *
    obtain ⟨i, rfl⟩ : ∃ i : Nat, x = i := ⟨x.toNat, by omega⟩
    have HT := Lib.hid (ht i)
    have h1 : (i : Int) ≤ ((ba l).size : Int) := by omega
    have h2 : ((ba l).size : Int) ≤ 140737488355328 := by omega
    clear ht hz hlt hl
    generalize ba l = S at *
    go_enter Tryz.func57, Tryz.ntmps57
    go_wp2_with (go_at_call 81; refine HI.out.mono ?_; rintro e w' ⟨rfl, rfl⟩)
    go_ret
    rw [HP.out, Int.toNat_natCast, ← HT.out]
    exact ⟨by simp, rfl⟩
set_option maxHeartbeats 1000000 in
theorem rbase (l : List UInt8) (hl : l.length ≤ 140737488355328) (w : World) :
    Calls Tryz.prog 59 #[.string (ba l)] w fun e w' => e = .returned (.string (ba (baseP l))) ∧ ∃ k, w' = w.drewN k := by
  have hlt := lastSl_lt l
  have HI := Lib.hid (rlast l hl w)
  have ht := fun k => ext_drop (ba l) k
  simp only [ba_data] at ht
  have hp : baseP l = l.drop (lastSl l + 1).toNat := rfl
  have hz : ((ba l).size : Int) = l.length := by rw [ba_size]
  have HP := Lib.hid hp
  clear hp
  generalize lastSl l = x at *
  obtain ⟨i, hi⟩ : ∃ i : Nat, x + 1 = i := ⟨(x + 1).toNat, by omega⟩
  obtain rfl : x = (i : Int) - 1 := by omega
  have HT := Lib.hid (ht i)
  have h1 : (i : Int) ≤ ((ba l).size : Int) := by omega
  have h2 : ((ba l).size : Int) ≤ 140737488355328 := by omega
  have hs : IntKind.i64.wrap ((i : Int) - 1 + 1) = i := by rw [show (i : Int) - 1 + 1 = i by omega]; exact IntWalk.i64_in _ (by omega)
  clear ht hz hlt hl hi
  generalize ba l = S at *
  go_enter Tryz.func59, Tryz.ntmps59
  go_wp2_with (go_at_call 81; refine HI.out.mono ?_; rintro e w' ⟨rfl, rfl⟩)
  go_ret
  rw [HP.out, show (((i : Int) - 1 + 1).toNat) = i by omega, ← HT.out]
  exact ⟨by simp, 0, rfl⟩
set_option maxRecDepth 100000 in
set_option maxHeartbeats 4000000 in
theorem rpart (l : List UInt8) (hl : l.length ≤ 140737488355328) (w : World) : Calls Tryz.prog 79 #[.string (ba l)] w fun e w' => e = .returned (.bool !(badC l)) ∧ w' = w := by
  by_cases c1 : l = []
  · subst c1
    rw [show badC [] = true from rfl, show ba [] = (⟨#[]⟩ : ByteArray) from rfl]
    go_enter Tryz.func79, Tryz.ntmps79
    go_wp2_with fail
    go_ret
    exact ⟨rfl, rfl⟩
  by_cases c2 : l = [46]
  · subst c2
    rw [show badC [46] = true from rfl, show ba [46] = (⟨#[46]⟩ : ByteArray) from rfl]
    go_enter Tryz.func79, Tryz.ntmps79
    go_wp2_with fail
    go_ret
    exact ⟨rfl, rfl⟩
  by_cases c3 : l = [46, 46]
  · subst c3
    rw [show badC [46, 46] = true from rfl, show ba [46, 46] = (⟨#[46, 46]⟩ : ByteArray) from rfl]
    go_enter Tryz.func79, Tryz.ntmps79
    go_wp2_with fail
    go_ret
    exact ⟨rfl, rfl⟩
  have hb : badC l = decide (0 ≤ Lib.indexByte l 0) := by unfold badC; simp [c1, c2, c3]
  rw [hb]
  clear hb
  have hA : ∀ k (hk : k < l.length), l[k] = 0 → 0 ≤ Lib.indexByte l 0 := fun k hk h => by
    by_cases hn : 0 ≤ Lib.indexByte l 0
    · exact hn
    · have hge := Lib.indexByte_ge l 0
      exact absurd (by rw [List.getElem?_eq_getElem hk, h]) (Lib.indexByte_none (show Lib.indexByte l 0 = -1 by omega) k)
  have hB : (∀ k (hk : k < l.length), l[k] ≠ 0) → ¬ 0 ≤ Lib.indexByte l 0 := fun h hn => by
    obtain ⟨o, ho⟩ : ∃ o : Nat, Lib.indexByte l 0 = o := ⟨_, (Int.toNat_of_nonneg hn).symm⟩
    obtain ⟨h1, _⟩ := Lib.indexByte_some ho
    obtain ⟨h2, h3⟩ := List.getElem?_eq_some_iff.1 h1
    exact h o h2 h3
  have HAB := Lib.hid (And.intro hA hB)
  have e1 : (ba l).toList.isEmpty = false := by rw [ba_tl]; simpa using c1
  have e2 : ((ba l).toList == [46]) = false := by rw [ba_tl]; simpa using c2
  have e3 : ((ba l).toList == [46, 46]) = false := by rw [ba_tl]; simpa using c3
  have hsz := ba_size l
  have HG := Lib.hid (show ∀ j (hj : j < l.length) (hj' : j < (ba l).size), (ba l)[j]'hj' = l[j]'hj from fun j hj hj' => rfl)
  clear hA hB c1 c2 c3
  generalize Lib.indexByte l 0 = R at *
  generalize ba l = P at *
  go_enter Tryz.func79, Tryz.ntmps79
  go_upto_region 4 with (fail)
  go_loopw [3] (fun i wr => wr = w ∧ ∃ k : Nat, i = .int .i64 k ∧ k ≤ l.length ∧ ∀ j (hj : j < l.length), j < k → l[j] ≠ 0) (fun i _ => l.length - (intOf i).toNat)
  case atStart => exact ⟨rfl, 0, rfl, Nat.zero_le _, fun j hj hk => by omega⟩
  case round =>
    obtain ⟨hw, k, rfl, hk, ha⟩ := hrel
    obtain rfl := hw.symm
    have HA := Lib.hid ha
    clear ha
    by_cases hlt : k < l.length
    · have hkp : k < P.size := by omega
      have hg := HG.out k hlt hkp
      have hb8 := (l[k]).toNat_lt
      by_cases h0 : l[k] = 0
      · have hR := HAB.out.1 k hlt h0
        have hd : decide (0 ≤ R) = true := by simpa using hR
        rw [h0] at hg
        have hb0 : (((0 : UInt8)).toNat : Int) = 0 := rfl
        go_wp2_with fail
        go_ret
        exact ⟨rfl, rfl⟩
      · have hb : (((l[k]).toNat : Int) == 0) = false := by
          rw [beq_eq_false_iff_ne]
          intro e
          apply h0
          apply UInt8.toNat_inj.1
          have : (l[k]).toNat = 0 := by omega
          rw [this]; rfl
        have HM := Lib.hid (And.intro h0 trivial)
        clear h0
        go_wp2_with fail
        go_roundw
        case rel => exact ⟨trivial, k + 1, by go_num, by omega, fun j hj hjk => by
          rcases Nat.lt_or_eq_of_le (Nat.le_of_lt_succ hjk) with h1 | h1
          · exact HA.out j hj h1
          · subst h1; exact HM.out.1⟩
        case measure => simp [intOf]; omega
    · have hR := HAB.out.2 (fun j hj => HA.out j hj (by omega))
      have hd : decide (0 ≤ R) = false := by simpa using hR
      have hkk : k = l.length := by omega
      subst hkk
      go_wp2_with fail
      go_ret
      exact ⟨rfl, rfl⟩
/-- The components from place f on, when i has been looked at. -/
theorem comps_end {l : List UInt8} {f : Nat} (h : 47 ∉ l.drop f) : (compsL (l.drop f)).any badC = badC (l.drop f) := by
  rw [compsL_none h]; simp
theorem comps_cut {l : List UInt8} {f i : Nat} (hf : f ≤ i) (hi : i < l.length) (h47 : l[i] = 47) (h : 47 ∉ (l.drop f).take (i - f)) : (compsL (l.drop f)).any badC = (badC ((l.drop f).take (i - f)) || (compsL (l.drop (i + 1))).any badC) := by
  have e : l.drop f = (l.drop f).take (i - f) ++ 47 :: l.drop (i + 1) := by
    have h1 := List.take_append_drop (i - f) (l.drop f)
    rw [List.drop_drop, show f + (i - f) = i by omega, List.drop_eq_getElem_cons hi, h47] at h1
    exact h1.symm
  conv => lhs; rw [e]
  rw [compsL_some h]
  simp
set_option maxRecDepth 100000 in
set_option maxHeartbeats 8000000 in
theorem rcheck (l : List UInt8) (hl : l.length ≤ 140737488355328) (w : World) : Calls Tryz.prog 53 #[.string (ba l)] w fun e w' => e = .returned (.int .i64 (checkP l)) ∧ w' = w := by
  have hsz := ba_size l
  by_cases h7 : 65536 < l.length
  · have hc : checkP l = 7 := by unfold checkP; rw [if_pos h7]
    rw [hc]
    clear hc
    generalize ba l = P at *
    go_enter Tryz.func53, Tryz.ntmps53
    go_wp2_with fail
    go_ret
    exact ⟨rfl, rfl⟩
  have hcp : checkP l = if (compsL l).any badC then 6 else 0 := by unfold checkP; rw [if_neg h7]
  have HCP := Lib.hid hcp
  have HG := Lib.hid (show ∀ j (hj : j < l.length) (hj' : j < (ba l).size), (ba l)[j]'hj' = l[j]'hj from fun j hj hj' => rfl)
  have hex : ∀ f i, f ≤ i → i ≤ l.length → (ba l).extract f i = ba ((l.drop f).take (i - f)) := fun f i hf hi => by
    apply ByteArray.ext
    simp [ba]
  have HEX := Lib.hid hex
  have HPT := Lib.hid (fun (c : List UInt8) (hc : c.length ≤ 65536) W => rpart c (by omega) W)
  clear hcp hex
  generalize checkP l = R at *
  generalize ba l = P at *
  go_enter Tryz.func53, Tryz.ntmps53
  go_upto_region 5 with (fail)
  go_loopw [3, 4] (fun fv iv' wr => wr = w ∧ ∃ f i : Nat, fv = .int .i64 f ∧ iv' = .int .i64 i ∧ i ≤ l.length + 1 ∧ (i ≤ l.length → f ≤ i ∧ 47 ∉ (l.drop f).take (i - f) ∧ (compsL l).any badC = (compsL (l.drop f)).any badC) ∧ (i = l.length + 1 → (compsL l).any badC = false)) (fun _ i _ => l.length + 1 - (intOf i).toNat)
  case atStart => exact ⟨rfl, 0, 0, rfl, rfl, by omega, fun _ => ⟨Nat.le_refl _, by simp, by simp⟩, fun h => by omega⟩
  case round =>
    obtain ⟨hw, f, i, rfl, rfl, hi, hin, hout⟩ := hrel
    obtain rfl := hw.symm
    have HIN := Lib.hid (And.intro hin hout)
    clear hin hout
    by_cases hlt : i ≤ l.length
    · obtain ⟨hfi, hno, hany⟩ := HIN.out.1 hlt
      have hcl : ((l.drop f).take (i - f)).length ≤ 65536 := by rw [List.length_take, List.length_drop]; omega
      have hexi := HEX.out f i hfi hlt
      have hpt := fun W => HPT.out _ hcl W
      rw [← hexi] at hpt
      have HC := Lib.hid hpt
      have hip : i ≤ P.size := by omega
      clear hexi hpt hcl
      by_cases heq : i = l.length
      · have hend : 47 ∉ l.drop f := by
          intro hm
          apply hno
          rw [heq, List.take_of_length_le (by simp)]
          exact hm
        have hce := comps_end hend
        rw [show (l.drop f).take (i - f) = l.drop f by rw [heq, List.take_of_length_le (by simp)]] at HC
        rw [← hce, ← hany] at HC
        have hR := HCP.out
        clear hno hany hend hce hip hlt
        subst heq
        cases hb : (compsL l).any badC with
        | true =>
          rw [hb] at hR HC
          simp at hR
          subst hR
          go_wp2_with (go_at_call 79; refine (HC.out _).mono ?_; rintro e w2 ⟨rfl, hw2⟩; obtain rfl := hw2.symm)
          go_ret
          exact ⟨rfl, rfl⟩
        | false =>
          rw [hb] at HC
          have HBB := Lib.hid hb
          clear hb hR
          go_wp2_with (go_at_call 79; refine (HC.out _).mono ?_; rintro e w2 ⟨rfl, hw2⟩; obtain rfl := hw2.symm)
          go_roundw
          case rel => exact ⟨trivial, l.length + 1, l.length + 1, by go_num, by go_num, by omega, fun h => by omega, by first | exact fun _ => trivial | exact fun _ => HBB.out⟩
          case measure => simp [intOf]
      · have hil : i < l.length := by omega
        have hg := HG.out i hil (by omega)
        have hb8 := (l[i]).toNat_lt
        have heqb : ((i : Int) == (l.length : Int)) = false := by
          rw [beq_eq_false_iff_ne]; omega
        have hips : i < P.size := by omega
        by_cases h47 : l[i] = 47
        · have hcc := comps_cut hfi hil h47 hno
          have hR := HCP.out
          rw [hany, hcc] at hR
          have hb47 : (((l[i]).toNat : Int) == 47) = true := by rw [h47]; rfl
          have HCC := Lib.hid (And.intro hany hcc)
          clear hno hany hcc h47
          cases hb : badC ((l.drop f).take (i - f)) with
          | true =>
            rw [hb] at hR HC
            simp at hR
            subst hR
            go_wp2_with (go_at_call 79; refine (HC.out _).mono ?_; rintro e w2 ⟨rfl, hw2⟩; obtain rfl := hw2.symm)
            go_ret
            exact ⟨rfl, rfl⟩
          | false =>
            rw [hb] at HC
            have HBB := Lib.hid hb
            clear hb hR
            go_wp2_with (go_at_call 79; refine (HC.out _).mono ?_; rintro e w2 ⟨rfl, hw2⟩; obtain rfl := hw2.symm)
            go_roundw
            case rel => exact ⟨trivial, i + 1, i + 1, by go_num, by go_num, by omega, fun _ => ⟨Nat.le_refl _, by simp, by rw [HCC.out.1, HCC.out.2, HBB.out]; rfl⟩, fun h => by omega⟩
            case measure => simp [intOf]; omega
        · have hb47 : (((l[i]).toNat : Int) == 47) = false := by
            rw [beq_eq_false_iff_ne]
            intro e
            apply h47
            apply UInt8.toNat_inj.1
            have : (l[i]).toNat = 47 := by omega
            rw [this]; rfl
          have hno2 : 47 ∉ (l.drop f).take (i + 1 - f) := by
            rw [show i + 1 - f = (i - f) + 1 by omega, List.take_add_one]
            intro hm
            rcases List.mem_append.1 hm with hm | hm
            · exact hno hm
            · rw [List.getElem?_drop, show f + (i - f) = i by omega, List.getElem?_eq_getElem hil] at hm
              simp at hm
              exact h47 hm.symm
          have HN2 := Lib.hid (And.intro hno2 hany)
          clear hno hno2 hany h47 HC
          go_wp2_with fail
          go_roundw
          case rel => exact ⟨trivial, f, i + 1, rfl, by go_num, by omega, fun _ => ⟨by omega, HN2.out.1, HN2.out.2⟩, fun h => by omega⟩
          case measure => simp [intOf]; omega
    · have hkk : i = l.length + 1 := by omega
      have hR := HCP.out
      rw [HIN.out.2 hkk] at hR
      simp at hR
      subst hR hkk
      go_wp2_with fail
      go_ret
      exact ⟨rfl, rfl⟩
end Go.Proofs.YtoionaeimnmcbaaGreatDoor
