/- paxtarref08: last, Parent, Base. The file system and its reference: what the reference holds, and that they stay alike. paxtarlaw19: lists of calls in memory; TooLarge. paxtarlaw19: Options. Small words that the laws share. paxtarref09: Check at linkpath; paxtarref16: Insert. -/
import Derived.Test.YtfhiioopimmahaaGreatDoorPI07
namespace Go.Pax
open Go.RowKit
/-- The last slash is where it is found from the right. -/
theorem lastSl_at {l : List UInt8} {k : Nat} (hk : k < l.length) (h : l[k] = 47) (ha : ∀ j (hj : j < l.length), k < j → l[j] ≠ 47) : lastSl l = k := by
  rcases lastSl_spec l with ⟨_, h2⟩ | ⟨i, hi, h1, h2, h3⟩
  · exact absurd (h ▸ List.getElem_mem hk) h2
  · rw [h1]
    rw [List.getElem?_eq_getElem hi] at h2
    injection h2 with h2
    by_cases h4 : k < i
    · exact absurd h2 (ha i hi h4)
    · by_cases h5 : i < k
      · exfalso
        apply h3
        rw [List.mem_iff_getElem]
        exact ⟨k - (i + 1), by rw [List.length_drop]; omega, by rw [List.getElem_drop]; simp only [show i + 1 + (k - (i + 1)) = k by omega]; exact h⟩
      · congr 1; omega
theorem lastSl_no {l : List UInt8} (h : ∀ j (hj : j < l.length), l[j] ≠ 47) : lastSl l = -1 := by
  rcases lastSl_spec l with ⟨h1, _⟩ | ⟨i, hi, _, h2, _⟩
  · exact h1
  · rw [List.getElem?_eq_getElem hi] at h2
    injection h2 with h2
    exact absurd h2 (h i hi)
end Go.Pax
namespace Go.Proofs.YtfhiioopimmahaaGreatDoor
open Go.RowKit Go.Pax Go.Shelf
set_option maxRecDepth 100000 in
set_option maxHeartbeats 4000000 in
theorem rlast (l : List UInt8) (hl : l.length ≤ 140737488355328) (w : World) : Calls Tryz.prog 127 #[.string (ba l)] w fun e w' => e = .returned (.int .i64 (lastSl l)) ∧ w' = w := by
  have hA := fun k hk h ha => lastSl_at (l := l) (k := k) hk h ha
  have hB := fun h => lastSl_no (l := l) h
  have HAB := Lib.hid (And.intro hA hB)
  have hsz := ba_size l
  have HG := Lib.hid (show ∀ j (hj : j < l.length) (hj' : j < (ba l).size), (ba l)[j]'hj' = l[j]'hj from fun j hj hj' => rfl)
  clear hA hB
  generalize lastSl l = R at *
  generalize ba l = P at *
  go_enter Tryz.func127, Tryz.ntmps127
  go_wp2_with fail
  go_loopw [3] (fun i wr => wr = w ∧ ∃ k : Nat, i = .int .i64 ((k : Int) - 1) ∧ k ≤ l.length ∧ ∀ j (hj : j < l.length), k ≤ j → l[j] ≠ 47) (fun i _ => (intOf i + 1).toNat)
  case atStart => exact ⟨rfl, l.length, rfl, Nat.le_refl _, fun j hj hk => by omega⟩
  case round =>
    obtain ⟨hw, k, rfl, hk, ha⟩ := hrel
    obtain rfl := hw.symm
    have HA := Lib.hid ha
    clear ha
    cases k with
    | zero =>
      have hR := HAB.out.2 (fun j hj => HA.out j hj (Nat.zero_le _))
      subst hR
      go_wp2_with fail
      go_ret
      exact ⟨rfl, rfl⟩
    | succ m =>
      have hm : ((m + 1 : Nat) : Int) - 1 = (m : Int) := by omega
      rw [hm]
      have hml : m < P.size := by omega
      have hg := HG.out m (by omega) hml
      have hml2 : m < l.length := by omega
      by_cases h47 : l[m] = 47
      · have hR := HAB.out.1 m hml2 h47 (fun j hj hk => HA.out j hj (by omega))
        subst hR
        go_wp2_with fail
        go_ret
        exact ⟨rfl, rfl⟩
      · have hb : (((l[m]).toNat : Int) == 47) = false := by
          rw [beq_eq_false_iff_ne]
          intro e
          apply h47
          apply UInt8.toNat_inj.1
          have : (l[m]).toNat = 47 := by omega
          rw [this]; rfl
        have HM := Lib.hid (And.intro h47 trivial)
        have hlt := (l[m]).toNat_lt
        clear h47
        go_wp2_with fail
        go_roundw
        case rel => exact ⟨trivial, m, rfl, by omega, fun j hj hjk => by
          rcases Nat.lt_or_eq_of_le hjk with h1 | h1
          · exact HA.out j hj (by omega)
          · subst h1; exact HM.out.1⟩
        case measure => simp [intOf]
set_option maxHeartbeats 1000000 in
theorem rparent (l : List UInt8) (hl : l.length ≤ 140737488355328) (w : World) :
    Calls Tryz.prog 107 #[.string (ba l)] w fun e w' => e = .returned (.string (ba (parentP l))) ∧ w' = w := by
  have hlt := lastSl_lt l
  have HI := Lib.hid (rlast l hl w)
  have ht := fun k => ext_take (ba l) k
  simp only [ba_data] at ht
  have hp : parentP l = if lastSl l < 0 then [] else l.take (lastSl l).toNat := rfl
  have hz : ((ba l).size : Int) = l.length := by rw [ba_size]
  by_cases h0 : lastSl l < 0
  · rw [if_pos h0] at hp
    have HP := Lib.hid hp
    clear hp ht hz
    generalize lastSl l = x at *
    go_enter Tryz.func107, Tryz.ntmps107
    go_wp2_with (go_at_call 127; refine HI.out.mono ?_; rintro e w' ⟨rfl, rfl⟩)
    go_ret
    rw [HP.out]
    exact ⟨rfl, rfl⟩
  · rw [if_neg h0] at hp
    have HP := Lib.hid hp
    clear hp
    generalize lastSl l = x at *
    obtain ⟨i, rfl⟩ : ∃ i : Nat, x = i := ⟨x.toNat, by omega⟩
    have HT := Lib.hid (ht i)
    have h1 : (i : Int) ≤ ((ba l).size : Int) := by omega
    have h2 : ((ba l).size : Int) ≤ 140737488355328 := by omega
    clear ht hz hlt hl
    generalize ba l = S at *
    go_enter Tryz.func107, Tryz.ntmps107
    go_wp2_with (go_at_call 127; refine HI.out.mono ?_; rintro e w' ⟨rfl, rfl⟩)
    go_ret
    rw [HP.out, Int.toNat_natCast, ← HT.out]
    exact ⟨by simp, rfl⟩
set_option maxRecDepth 100000 in
set_option maxHeartbeats 4000000 in
theorem rpart (l : List UInt8) (hl : l.length ≤ 140737488355328) (w : World) : Calls Tryz.prog 108 #[.string (ba l)] w fun e w' => e = .returned (.bool !(badC l)) ∧ w' = w := by
  by_cases c1 : l = []
  · subst c1
    rw [show badC [] = true from rfl, show ba [] = (⟨#[]⟩ : ByteArray) from rfl]
    go_enter Tryz.func108, Tryz.ntmps108
    go_wp2_with fail
    go_ret
    exact ⟨rfl, rfl⟩
  by_cases c2 : l = [46]
  · subst c2
    rw [show badC [46] = true from rfl, show ba [46] = (⟨#[46]⟩ : ByteArray) from rfl]
    go_enter Tryz.func108, Tryz.ntmps108
    go_wp2_with fail
    go_ret
    exact ⟨rfl, rfl⟩
  by_cases c3 : l = [46, 46]
  · subst c3
    rw [show badC [46, 46] = true from rfl, show ba [46, 46] = (⟨#[46, 46]⟩ : ByteArray) from rfl]
    go_enter Tryz.func108, Tryz.ntmps108
    go_wp2_with fail
    go_ret
    exact ⟨rfl, rfl⟩
  have hb : badC l = decide (0 ≤ Lib.indexByte l 0) := by unfold badC; simp [c1, c2, c3]
  rw [hb]
  clear hb
  have hA : ∀ k (hk : k < l.length), l[k] = 0 → 0 ≤ Lib.indexByte l 0 := fun k hk h => by
    by_cases hn : 0 ≤ Lib.indexByte l 0
    · exact hn
    · have hge := Lib.indexByte_ge l 0
      exact absurd (by rw [List.getElem?_eq_getElem hk, h]) (Lib.indexByte_none (show Lib.indexByte l 0 = -1 by omega) k)
  have hB : (∀ k (hk : k < l.length), l[k] ≠ 0) → ¬ 0 ≤ Lib.indexByte l 0 := fun h hn => by
    obtain ⟨o, ho⟩ : ∃ o : Nat, Lib.indexByte l 0 = o := ⟨_, (Int.toNat_of_nonneg hn).symm⟩
    obtain ⟨h1, _⟩ := Lib.indexByte_some ho
    obtain ⟨h2, h3⟩ := List.getElem?_eq_some_iff.1 h1
    exact h o h2 h3
  have HAB := Lib.hid (And.intro hA hB)
  have e1 : (ba l).toList.isEmpty = false := by rw [ba_tl]; simpa using c1
  have e2 : ((ba l).toList == [46]) = false := by rw [ba_tl]; simpa using c2
  have e3 : ((ba l).toList == [46, 46]) = false := by rw [ba_tl]; simpa using c3
  have hsz := ba_size l
  have HG := Lib.hid (show ∀ j (hj : j < l.length) (hj' : j < (ba l).size), (ba l)[j]'hj' = l[j]'hj from fun j hj hj' => rfl)
  clear hA hB c1 c2 c3
  generalize Lib.indexByte l 0 = R at *
  generalize ba l = P at *
  go_enter Tryz.func108, Tryz.ntmps108
  go_upto_region 4 with (fail)
  go_loopw [3] (fun i wr => wr = w ∧ ∃ k : Nat, i = .int .i64 k ∧ k ≤ l.length ∧ ∀ j (hj : j < l.length), j < k → l[j] ≠ 0) (fun i _ => l.length - (intOf i).toNat)
  case atStart => exact ⟨rfl, 0, rfl, Nat.zero_le _, fun j hj hk => by omega⟩
  case round =>
    obtain ⟨hw, k, rfl, hk, ha⟩ := hrel
    obtain rfl := hw.symm
    have HA := Lib.hid ha
    clear ha
    by_cases hlt : k < l.length
    · have hkp : k < P.size := by omega
      have hg := HG.out k hlt hkp
      have hb8 := (l[k]).toNat_lt
      by_cases h0 : l[k] = 0
      · have hR := HAB.out.1 k hlt h0
        have hd : decide (0 ≤ R) = true := by simpa using hR
        rw [h0] at hg
        have hb0 : (((0 : UInt8)).toNat : Int) = 0 := rfl
        go_wp2_with fail
        go_ret
        exact ⟨rfl, rfl⟩
      · have hb : (((l[k]).toNat : Int) == 0) = false := by
          rw [beq_eq_false_iff_ne]
          intro e
          apply h0
          apply UInt8.toNat_inj.1
          have : (l[k]).toNat = 0 := by omega
          rw [this]; rfl
        have HM := Lib.hid (And.intro h0 trivial)
        clear h0
        go_wp2_with fail
        go_roundw
        case rel => exact ⟨trivial, k + 1, by go_num, by omega, fun j hj hjk => by
          rcases Nat.lt_or_eq_of_le (Nat.le_of_lt_succ hjk) with h1 | h1
          · exact HA.out j hj h1
          · subst h1; exact HM.out.1⟩
        case measure => simp [intOf]; omega
    · have hR := HAB.out.2 (fun j hj => HA.out j hj (by omega))
      have hd : decide (0 ≤ R) = false := by simpa using hR
      have hkk : k = l.length := by omega
      subst hkk
      go_wp2_with fail
      go_ret
      exact ⟨rfl, rfl⟩
/-- The components from place f on, when i has been looked at. -/
theorem comps_end {l : List UInt8} {f : Nat} (h : 47 ∉ l.drop f) : (compsL (l.drop f)).any badC = badC (l.drop f) := by
  rw [compsL_none h]; simp
theorem comps_cut {l : List UInt8} {f i : Nat} (hf : f ≤ i) (hi : i < l.length) (h47 : l[i] = 47) (h : 47 ∉ (l.drop f).take (i - f)) : (compsL (l.drop f)).any badC = (badC ((l.drop f).take (i - f)) || (compsL (l.drop (i + 1))).any badC) := by
  have e : l.drop f = (l.drop f).take (i - f) ++ 47 :: l.drop (i + 1) := by
    have h1 := List.take_append_drop (i - f) (l.drop f)
    rw [List.drop_drop, show f + (i - f) = i by omega, List.drop_eq_getElem_cons hi, h47] at h1
    exact h1.symm
  conv => lhs; rw [e]
  rw [compsL_some h]
  simp
set_option maxRecDepth 100000 in
set_option maxHeartbeats 8000000 in
theorem rcheck (l : List UInt8) (hl : l.length ≤ 140737488355328) (w : World) : Calls Tryz.prog 86 #[.string (ba l)] w fun e w' => e = .returned (.int .i64 (checkP l)) ∧ w' = w := by
  have hsz := ba_size l
  by_cases h7 : 65536 < l.length
  · have hc : checkP l = 7 := by unfold checkP; rw [if_pos h7]
    rw [hc]
    clear hc
    generalize ba l = P at *
    go_enter Tryz.func86, Tryz.ntmps86
    go_wp2_with fail
    go_ret
    exact ⟨rfl, rfl⟩
  have hcp : checkP l = if (compsL l).any badC then 6 else 0 := by unfold checkP; rw [if_neg h7]
  have HCP := Lib.hid hcp
  have HG := Lib.hid (show ∀ j (hj : j < l.length) (hj' : j < (ba l).size), (ba l)[j]'hj' = l[j]'hj from fun j hj hj' => rfl)
  have hex : ∀ f i, f ≤ i → i ≤ l.length → (ba l).extract f i = ba ((l.drop f).take (i - f)) := fun f i hf hi => by
    apply ByteArray.ext
    simp [ba]
  have HEX := Lib.hid hex
  have HPT := Lib.hid (fun (c : List UInt8) (hc : c.length ≤ 65536) W => rpart c (by omega) W)
  clear hcp hex
  generalize checkP l = R at *
  generalize ba l = P at *
  go_enter Tryz.func86, Tryz.ntmps86
  go_upto_region 5 with (fail)
  go_loopw [3, 4] (fun fv iv' wr => wr = w ∧ ∃ f i : Nat, fv = .int .i64 f ∧ iv' = .int .i64 i ∧ i ≤ l.length + 1 ∧ (i ≤ l.length → f ≤ i ∧ 47 ∉ (l.drop f).take (i - f) ∧ (compsL l).any badC = (compsL (l.drop f)).any badC) ∧ (i = l.length + 1 → (compsL l).any badC = false)) (fun _ i _ => l.length + 1 - (intOf i).toNat)
  case atStart => exact ⟨rfl, 0, 0, rfl, rfl, by omega, fun _ => ⟨Nat.le_refl _, by simp, by simp⟩, fun h => by omega⟩
  case round =>
    obtain ⟨hw, f, i, rfl, rfl, hi, hin, hout⟩ := hrel
    obtain rfl := hw.symm
    have HIN := Lib.hid (And.intro hin hout)
    clear hin hout
    by_cases hlt : i ≤ l.length
    · obtain ⟨hfi, hno, hany⟩ := HIN.out.1 hlt
      have hcl : ((l.drop f).take (i - f)).length ≤ 65536 := by rw [List.length_take, List.length_drop]; omega
      have hexi := HEX.out f i hfi hlt
      have hpt := fun W => HPT.out _ hcl W
      rw [← hexi] at hpt
      have HC := Lib.hid hpt
      have hip : i ≤ P.size := by omega
      clear hexi hpt hcl
      by_cases heq : i = l.length
      · have hend : 47 ∉ l.drop f := by
          intro hm
          apply hno
          rw [heq, List.take_of_length_le (by simp)]
          exact hm
        have hce := comps_end hend
        rw [show (l.drop f).take (i - f) = l.drop f by rw [heq, List.take_of_length_le (by simp)]] at HC
        rw [← hce, ← hany] at HC
        have hR := HCP.out
        clear hno hany hend hce hip hlt
        subst heq
        cases hb : (compsL l).any badC with
        | true =>
          rw [hb] at hR HC
          simp at hR
          subst hR
          go_wp2_with (go_at_call 108; refine (HC.out _).mono ?_; rintro e w2 ⟨rfl, hw2⟩; obtain rfl := hw2.symm)
          go_ret
          exact ⟨rfl, rfl⟩
        | false =>
          rw [hb] at HC
          have HBB := Lib.hid hb
          clear hb hR
          go_wp2_with (go_at_call 108; refine (HC.out _).mono ?_; rintro e w2 ⟨rfl, hw2⟩; obtain rfl := hw2.symm)
          go_roundw
          case rel => exact ⟨trivial, l.length + 1, l.length + 1, by go_num, by go_num, by omega, fun h => by omega, by first | exact fun _ => trivial | exact fun _ => HBB.out⟩
          case measure => simp [intOf]
      · have hil : i < l.length := by omega
        have hg := HG.out i hil (by omega)
        have hb8 := (l[i]).toNat_lt
        have heqb : ((i : Int) == (l.length : Int)) = false := by
          rw [beq_eq_false_iff_ne]; omega
        have hips : i < P.size := by omega
        by_cases h47 : l[i] = 47
        · have hcc := comps_cut hfi hil h47 hno
          have hR := HCP.out
          rw [hany, hcc] at hR
          have hb47 : (((l[i]).toNat : Int) == 47) = true := by rw [h47]; rfl
          have HCC := Lib.hid (And.intro hany hcc)
          clear hno hany hcc h47
          cases hb : badC ((l.drop f).take (i - f)) with
          | true =>
            rw [hb] at hR HC
            simp at hR
            subst hR
            go_wp2_with (go_at_call 108; refine (HC.out _).mono ?_; rintro e w2 ⟨rfl, hw2⟩; obtain rfl := hw2.symm)
            go_ret
            exact ⟨rfl, rfl⟩
          | false =>
            rw [hb] at HC
            have HBB := Lib.hid hb
            clear hb hR
            go_wp2_with (go_at_call 108; refine (HC.out _).mono ?_; rintro e w2 ⟨rfl, hw2⟩; obtain rfl := hw2.symm)
            go_roundw
            case rel => exact ⟨trivial, i + 1, i + 1, by go_num, by go_num, by omega, fun _ => ⟨Nat.le_refl _, by simp, by rw [HCC.out.1, HCC.out.2, HBB.out]; rfl⟩, fun h => by omega⟩
            case measure => simp [intOf]; omega
        · have hb47 : (((l[i]).toNat : Int) == 47) = false := by
            rw [beq_eq_false_iff_ne]
            intro e
            apply h47
            apply UInt8.toNat_inj.1
            have : (l[i]).toNat = 47 := by omega
            rw [this]; rfl
          have hno2 : 47 ∉ (l.drop f).take (i + 1 - f) := by
            rw [show i + 1 - f = (i - f) + 1 by omega, List.take_add_one]
            intro hm
            rcases List.mem_append.1 hm with hm | hm
            · exact hno hm
            · rw [List.getElem?_drop, show f + (i - f) = i by omega, List.getElem?_eq_getElem hil] at hm
              simp at hm
              exact h47 hm.symm
          have HN2 := Lib.hid (And.intro hno2 hany)
          clear hno hno2 hany h47 HC
          go_wp2_with fail
          go_roundw
          case rel => exact ⟨trivial, f, i + 1, rfl, by go_num, by omega, fun _ => ⟨by omega, HN2.out.1, HN2.out.2⟩, fun h => by omega⟩
          case measure => simp [intOf]; omega
    · have hkk : i = l.length + 1 := by omega
      have hR := HCP.out
      rw [HIN.out.2 hkk] at hR
      simp at hR
      subst hR hkk
      go_wp2_with fail
      go_ret
      exact ⟨rfl, rfl⟩
end Go.Proofs.YtfhiioopimmahaaGreatDoor
namespace Go.Pax
open Go.RowKit
structure RNode where
  kind : Int
  mode : Int
  number : Int
  data : List UInt8
  target : Str
  uid : Int
  mtime : Int
  deriving Inhabited
structure RFs where
  first : Int
  step : Int
  rot : List Int
  inodes : List RNode
  paths : List (Str × Nat)
  lists : Int
def linksR (l : List (Str × Nat)) (i : Nat) : Nat := (l.filter fun x => decide (x.2 = i)).length
/-- The reference's insertion: from the right. -/
def insK (l : List Str) (s : Str) : Nat → Nat
  | 0 => 0
  | k + 1 => if s < l.getD k [] then insK l s k else k + 1
def insR (l : List Str) (s : Str) : List Str := l.take (insK l s l.length) ++ s :: l.drop (insK l s l.length)
def nameStep (d : Str) (out : List Str) (x : Str × Nat) : List Str := if x.1 ≠ [] ∧ parentP x.1 = d then insR out (baseP x.1) else out
def namesR (l : List (Str × Nat)) (d : Str) : List Str := l.foldl (nameStep d) []
theorem namesR_snoc (l : List (Str × Nat)) (x : Str × Nat) (d : Str) : namesR (l ++ [x]) d = nameStep d (namesR l d) x := by simp [namesR, List.foldl_append]
theorem insK_cut (l : List Str) (s : Str) (hs : l.Pairwise (· < ·)) : ∀ k, k ≤ l.length → (∀ t (h : t < l.length), k ≤ t → s < l[t]) → insK l s k ≤ k ∧ (∀ t (h : t < l.length), t < insK l s k → ¬ s < l[t]) ∧ ∀ t (h : t < l.length), insK l s k ≤ t → s < l[t]
  | 0, _, h => ⟨Nat.le_refl _, fun t _ ht => by simp [insK] at ht, fun t ht _ => h t ht (Nat.zero_le _)⟩
  | k + 1, hk, h => by
    unfold insK
    have hkl : k < l.length := by omega
    have hg : l.getD k [] = l[k] := by simp [hkl]
    rw [hg]
    by_cases hlt : s < l[k]
    · rw [if_pos hlt]
      obtain ⟨a, b, c⟩ := insK_cut l s hs k (by omega) (fun t ht hkt => by
        rcases Nat.lt_or_eq_of_le hkt with h1 | h1
        · exact h t ht (by omega)
        · subst h1; exact hlt)
      exact ⟨by omega, b, c⟩
    · rw [if_neg hlt]
      refine ⟨Nat.le_refl _, fun t ht htk => ?_, fun t ht htk => h t ht htk⟩
      rcases Nat.lt_or_eq_of_le (Nat.le_of_lt_succ htk) with h1 | h1
      · intro h2
        exact hlt (slt_trans h2 (List.pairwise_iff_getElem.1 hs t k ht hkl h1))
      · subst h1; exact hlt
/-- Both insertions find one place. -/
theorem ins_same (l : List Str) (s : Str) (hs : l.Pairwise (· < ·)) (hx : s ∉ l) : insAt l (bsI (l.map ba) (ba s)) s = insR l s := by
  obtain ⟨a1, a2, a3⟩ := bsI_cut l s hs
  obtain ⟨b1, b2, b3⟩ := insK_cut l s hs l.length (Nat.le_refl _) (fun t ht h => by omega)
  have e : bsI (l.map ba) (ba s) = insK l s l.length := by
    generalize bsI (l.map ba) (ba s) = i at *
    generalize insK l s l.length = k at *
    rcases Nat.lt_trichotomy i k with h | h | h
    · have hi : i < l.length := by omega
      have h1 := a3 i hi (Nat.le_refl _)
      have h2 := b2 i hi h
      exact absurd (slt_total h1 (fun e => hx (e ▸ List.getElem_mem hi))) h2
    · exact h
    · have hk : k < l.length := by omega
      have h1 := a2 k hk h
      have h2 := b3 k hk (Nat.le_refl _)
      exact absurd (slt_trans h1 h2) (slt_irrefl _)
  unfold insAt insR
  rw [e]
/-- A file and its reference. -/
def NodeIs (nd : Nd) (x : RNode) : Prop := nd.kind = x.kind ∧ nd.mode = x.mode ∧ nd.ino = x.number ∧ nd.size = x.data.length ∧ nd.target = x.target ∧ nd.uid = x.uid ∧ nd.mtime = x.mtime ∧ nd.data = x.data
structure Rel (σ : Fs) (ρ : RFs) (bs : List Nat) : Prop where
  nums : σ.step = ρ.step ∧ σ.rot = ρ.rot ∧ σ.lists = ρ.lists ∧ σ.next = ρ.first + (ρ.inodes.length : Int) * ρ.step
  len : bs.length = ρ.inodes.length
  nodup : bs.Nodup
  files : σ.files = ρ.paths.map fun x => (x.1, bs.getD x.2 0)
  idx : ∀ x ∈ ρ.paths, x.2 < bs.length
  node : ∀ i x, ρ.inodes[i]? = some x → NodeIs (σ.node (bs.getD i 0)) x
  links : ∀ i, i < bs.length → (σ.node (bs.getD i 0)).links = linksR ρ.paths i
  names : ∀ p i, lkF ρ.paths p = some i → (σ.node (bs.getD i 0)).kind = 0 → (σ.node (bs.getD i 0)).names = namesR ρ.paths p
  closed : ∀ x ∈ ρ.paths, x.1 ≠ [] → lkF ρ.paths (parentP x.1) ≠ none
  onto : ∀ i, i < bs.length → ∃ p, (p, i) ∈ ρ.paths
theorem lkF_map (l : List (Str × Nat)) (g : Nat → Nat) (p : Str) : lkF (l.map fun x => (x.1, g x.2)) p = (lkF l p).map g := by
  induction l with
  | nil => rfl
  | cons x l ih =>
    simp only [List.map_cons, lkF]
    split
    · rfl
    · exact ih
theorem Rel.lk {σ : Fs} {ρ : RFs} {bs : List Nat} (h : Rel σ ρ bs) (p : Str) : lkF σ.files p = (lkF ρ.paths p).map fun i => bs.getD i 0 := by rw [h.files]; exact lkF_map ρ.paths (fun i => bs.getD i 0) p
theorem Rel.find {σ : Fs} {ρ : RFs} {bs : List Nat} (h : Rel σ ρ bs) {p : Str} {i : Nat} (hp : lkF ρ.paths p = some i) : i < bs.length ∧ lkF σ.files p = some (bs.getD i 0) ∧ ∃ x, ρ.inodes[i]? = some x ∧ NodeIs (σ.node (bs.getD i 0)) x := by
  have hi : i < bs.length := h.idx _ (lkF_mem hp)
  refine ⟨hi, by rw [h.lk, hp]; rfl, _, List.getElem?_eq_getElem (by rw [← h.len]; exact hi), h.node i _ (List.getElem?_eq_getElem _)⟩
theorem getD_inj {bs : List Nat} (hn : bs.Nodup) {i j : Nat} (hi : i < bs.length) (hj : j < bs.length) (h : bs.getD i 0 = bs.getD j 0) : i = j := by
  simp only [List.getD, List.getElem?_eq_getElem hi, List.getElem?_eq_getElem hj, Option.getD_some] at h
  exact (List.getElem_inj hn).1 h
theorem par_ne {p : Str} (h : p ≠ []) : parentP p ≠ p := by
  intro e
  have hlt := lastSl_lt p
  unfold parentP at e
  split at e
  · exact h e.symm
  · have := congrArg List.length e
    rw [List.length_take] at this
    have hp : 0 < p.length := List.length_pos_iff.2 h
    omega
theorem linksR_snoc (l : List (Str × Nat)) (p : Str) (i j : Nat) : linksR (l ++ [(p, i)]) j = linksR l j + if i = j then 1 else 0 := by
  unfold linksR
  rw [List.filter_append, List.length_append]
  by_cases h : i = j <;> simp [h]
/-- The root alone. -/
def newR (first step : Int) (rot : List Int) : RFs := ⟨first, step, rot, [⟨0, 493, first, [], [], 0, 0⟩], [([], 0)], 0⟩
theorem rel_new (first step : Int) (rot : List Int) (b : Nat) : Rel (newFs first step rot b) (newR first step rot) [b] := by
  refine ⟨⟨rfl, rfl, rfl, ?_⟩, rfl, by simp, rfl, fun x hx => ?_, fun i x hx => ?_, fun i hi => ?_, fun p i hp hk => ?_, fun x hx hne => ?_, fun i hi => ⟨[], by simp at hi; subst hi; simp [newR]⟩⟩
  · simp [newFs, newR]
  · simp [newR] at hx; subst hx; simp
  · have hi : i = 0 := by have := (List.getElem?_eq_some_iff.1 hx).1; simp [newR] at this; exact this
    subst hi
    simp [newR] at hx
    subst hx
    exact ⟨rfl, rfl, rfl, rfl, rfl, rfl, rfl, rfl⟩
  · have h0 : i = 0 := by simp at hi; exact hi
    subst h0
    simp [newFs, rootNd, newR, linksR]
  · simp only [newR, lkF] at hp
    split at hp
    · rename_i e
      injection hp with hp
      subst hp e
      simp [newFs, rootNd, namesR, newR, nameStep]
    · cases hp
  · simp [newR] at hx; subst hx; exact absurd rfl hne
end Go.Pax
namespace Go.Pax
open Go.RowKit
instance : Inhabited AAct := ⟨⟨0, [], 0, [], []⟩⟩
def AAct.wf (a : AAct) : Prop := (-9223372036854775808 ≤ a.kind ∧ a.kind ≤ 9223372036854775807) ∧ (-9223372036854775808 ≤ a.mode ∧ a.mode ≤ 9223372036854775807) ∧ a.path.length ≤ 140737488355328 ∧ a.data.length ≤ 140737488355328 ∧ a.target.length ≤ 140737488355328
/-- The elements of a slice of calls. -/
def RdAct (w : World) (fp : List Nat) (ao : Option Addr) (L : List AAct) : Prop :=
  ∀ i x, L[i]? = some x → ∃ ad a c, ao = some ad ∧ ad.block ∈ fp ∧ w.cell? ((ad.add (i * 5)).add 0) = some (.int .i64 x.kind) ∧ w.cell? ((ad.add (i * 5)).add 1) = some (.string (ba x.path)) ∧ w.cell? ((ad.add (i * 5)).add 2) = some (.int .i64 x.mode) ∧
    w.cell? ((ad.add (i * 5)).add 3) = some (.slice a x.data.length c) ∧ w.cell? ((ad.add (i * 5)).add 4) = some (.string (ba x.target)) ∧ x.data.length ≤ c ∧ Rd w fp a (bv x.data)
theorem RdAct.mono {w : World} {fp fp' : List Nat} {ao : Option Addr} {L : List AAct} (h : RdAct w fp ao L) (hf : ∀ k, k ∈ fp → k ∈ fp') : RdAct w fp' ao L := fun i x hx => by
  obtain ⟨ad, a, c, h1, h2, h3, h4, h5, h6, h7, h8, h9⟩ := h i x hx
  exact ⟨ad, a, c, h1, hf _ h2, h3, h4, h5, h6, h7, h8, h9.mono hf⟩
/-- An element, as the walk wants its cells. -/
theorem RdAct.at {w w' : World} {fp : List Nat} {ao : Option Addr} {L : List AAct} (h : RdAct w fp ao L) (k : Chg [] w w') (i : Nat) (x : AAct) (hx : L[i]? = some x) : ∃ ad a c, ao = some ad ∧
    w'.cell? (ad.add (i * 5)) = some (.int .i64 x.kind) ∧ w'.cell? ⟨(ad.add (i * 5)).block, (ad.add (i * 5)).off + 1, none⟩ = some (.string (ba x.path)) ∧ w'.cell? ⟨(ad.add (i * 5)).block, (ad.add (i * 5)).off + 2, none⟩ = some (.int .i64 x.mode) ∧
    w'.cell? ⟨(ad.add (i * 5)).block, (ad.add (i * 5)).off + 3, none⟩ = some (.slice a x.data.length c) ∧ w'.cell? ⟨(ad.add (i * 5)).block, (ad.add (i * 5)).off + 4, none⟩ = some (.string (ba x.target)) ∧ Rd w fp a (bv x.data) ∧ x.data.length ≤ c := by
  obtain ⟨ad, a, c, h1, h2, c0, c1, c2, c3, c4, h8, h9⟩ := h i x hx
  have c0 := k.cell c0 (by simp)
  have c1 := k.cell c1 (by simp)
  have c2 := k.cell c2 (by simp)
  have c3 := k.cell c3 (by simp)
  have c4 := k.cell c4 (by simp)
  exact ⟨ad, a, c, h1, by simpa [Addr.add] using c0, by simpa [Addr.add] using c1, by simpa [Addr.add] using c2, by simpa [Addr.add] using c3, by simpa [Addr.add] using c4, h9, h8⟩
def AAct.len (a : AAct) : Nat := a.path.length + a.data.length + a.target.length
def actsLen (L : List AAct) : Nat := (L.map AAct.len).sum
theorem actsLen_take (L : List AAct) (i : Nat) (h : i < L.length) : actsLen (L.take (i + 1)) = actsLen (L.take i) + L[i].len := by
  unfold actsLen
  rw [List.take_add_one, List.getElem?_eq_getElem h]
  simp only [List.map_append, List.sum_append, Option.toList, List.map_cons, List.map_nil, List.sum_cons, List.sum_nil, Nat.add_zero]
theorem actsLen_bound (L : List AAct) (N : Nat) (h : ∀ b ∈ L, b.len ≤ N) (i : Nat) : actsLen (L.take i) ≤ i * N := by
  induction i with
  | zero => simp [actsLen]
  | succ i ih =>
    by_cases hi : i < L.length
    · rw [actsLen_take L i hi]
      have := h _ (List.getElem_mem hi)
      have e : (i + 1) * N = i * N + N := by rw [Nat.add_mul, Nat.one_mul]
      omega
    · rw [List.take_of_length_le (by omega)] at ih ⊢
      have e : (i + 1) * N = i * N + N := by rw [Nat.add_mul, Nat.one_mul]
      omega
/-- What TooLarge answers. -/
def tooE (L : List AAct) : Int := if 40 < L.length ∨ 20000 < actsLen L then 1 else 0
def Counted (L : List AAct) (k : Nat) (v : Value) : Prop := ∃ x : Int, v = .int .i64 x ∧ (L.length ≤ 40 → x = actsLen (L.take k))
end Go.Pax
namespace Go.Proofs.YtfhiioopimmahaaGreatDoor
open Go.RowKit Go.Pax Go.Shelf
set_option maxRecDepth 100000 in
set_option maxHeartbeats 8000000 in
theorem tooLarge (w : World) (lo : Option Addr) (lc : Nat) (L : List AAct) (fp : List Nat) (h : RdAct w fp lo L) (hwf : ∀ y ∈ L, y.wf) (hll : L.length ≤ 140737488355328) :
    Calls Tryz.prog 8 #[.slice lo L.length lc] w fun e w' => e = .returned (.int .i64 (tooE L)) ∧ Chg [] w w' := by
  have H := Lib.hid h
  have HWF := Lib.hid hwf
  have hb : ∀ b ∈ L, b.len ≤ 422212465065984 := fun b hb => by
    obtain ⟨_, _, h1, h2, h3⟩ := hwf b hb
    unfold AAct.len; omega
  have HB := Lib.hid (actsLen_bound L _ hb)
  have hE : tooE L = if 40 < L.length ∨ 20000 < actsLen L then 1 else 0 := rfl
  have HE := Lib.hid hE
  have HA := Lib.hid (congrArg actsLen (List.take_length (l := L)))
  clear h hwf hb hE
  generalize tooE L = E at *
  generalize hN : L.length = N at *
  have HN := Lib.hid hN
  clear hN
  go_enter Tryz.func8, Tryz.ntmps8
  go_wp2_with fail
  go_loopw [3, 8] (fun s i wr => ∃ k : Nat, k ≤ N ∧ i = .int .i64 k ∧ Chg [] w wr ∧ Counted L k s) (fun _ i _ => N - (intOf i).toNat)
  case atStart => exact ⟨0, Nat.zero_le _, rfl, Chg.refl _ _, 0, rfl, fun _ => by simp [actsLen]⟩
  case round =>
    obtain ⟨k, hk, rfl, hkr, x, rfl, hx⟩ := hrel
    have HKR := Lib.hid hkr
    have HX := Lib.hid hx
    clear hkr hx
    by_cases hlt : k < N
    · have hkL : k < L.length := by rw [HN.out]; exact hlt
      have hkx := List.getElem?_eq_getElem hkL
      obtain ⟨ad, a, c, rfl, c0, c1, c2, c3, c4, _, _⟩ := H.out.at HKR.out k _ hkx
      have ht := actsLen_take L k hkL
      obtain ⟨_, _, l1, l2, l3⟩ := HWF.out _ (List.getElem_mem hkL)
      have hz : L[k].len = (ba L[k].path).size + L[k].data.length + (ba L[k].target).size := by simp [AAct.len, ba_size]
      rw [hz] at ht
      rw [← ba_size] at l1 l3
      have HT := Lib.hid ht
      have hbnd : N ≤ 40 → actsLen (L.take k) ≤ 16888498602639360 := fun h => by
        have h1 := HB.out k
        have h2 : k * 422212465065984 ≤ 40 * 422212465065984 := Nat.mul_le_mul_right _ (by omega)
        omega
      have HBD := Lib.hid hbnd
      clear ht hbnd hz hkx
      generalize L[k].data.length = dl at *
      generalize ba L[k].path = P at *
      generalize ba L[k].target = T at *
      generalize L[k].kind = kd at *
      generalize L[k].mode = md at *
      by_cases h40 : N ≤ 40
      · have hxe := HX.out (by rw [HN.out]; exact h40)
        have hx0 : 0 ≤ x := by omega
        have hx1 : x ≤ 16888498602639360 := by have := HBD.out h40; omega
        have HXE := Lib.hid hxe
        clear hxe
        go_wp2_with fail
        go_roundw
        case rel => exact ⟨k + 1, by omega, by go_num, HKR.out.alloc _, _, rfl, fun _ => by rw [HT.out, HXE.out]; simp⟩
        case measure => simp [intOf]; omega
      · go_wp2_with fail
        go_roundw
        case rel => exact ⟨k + 1, by omega, by go_num, HKR.out.alloc _, _, rfl, fun h => absurd (by rw [HN.out] at h; exact h) h40⟩
        case measure => simp [intOf]; omega
    · have hkk : k = N := by omega
      subst hkk
      by_cases h40 : 40 < k
      · have hE := HE.out
        rw [if_pos (Or.inl h40)] at hE
        subst hE
        go_wp2_with fail
        all_goals
          go_ret
          exact ⟨rfl, HKR.out⟩
      have hxe := HX.out (by rw [HN.out]; omega)
      rw [HA.out] at hxe
      by_cases h5 : 20000 < x
      · have hE := HE.out
        rw [if_pos (Or.inr (by omega))] at hE
        subst hE
        go_wp2_with fail
        go_ret
        exact ⟨rfl, HKR.out⟩
      · have hE := HE.out
        rw [if_neg (by omega)] at hE
        subst hE
        go_wp2_with fail
        go_ret
        exact ⟨rfl, HKR.out⟩
end Go.Proofs.YtfhiioopimmahaaGreatDoor
namespace Go.Pax
open Go.RowKit
def natL (l : List UInt8) : List Int := l.map fun b => (b.toNat : Int)
theorem natL_take (l : List UInt8) (k : Nat) (h : k < l.length) : iv (natL (l.take (k + 1))) = iv (natL (l.take k)) ++ [.int .i64 (l[k].toNat : Int)] := by
  rw [List.take_add_one, List.getElem?_eq_getElem h]
  simp only [natL, iv, List.map_append, Option.toList, List.map_cons, List.map_nil]
theorem own_block_ge {w : World} {base : Nat} {e : TypeId} {v : Value} {n : Nat} {xs : List Value} (h : w.ownsRow base e 1 v n xs) {g : Nat} (hg : v.ownBlock = some g) : base ≤ g := by
  rcases h.2 with ⟨rfl, _⟩ | ⟨g', cap, cur, rfl, hb, _⟩
  · simp [Value.ownBlock] at hg
  · simp [Value.ownBlock] at hg; omega
end Go.Pax
namespace Go.Proofs.YtfhiioopimmahaaGreatDoor
open Go.RowKit Go.Pax Go.Shelf
set_option maxRecDepth 100000 in
set_option maxHeartbeats 8000000 in
theorem options (w : World) (x y : Int) (l : List UInt8) (n : Nat) (ao : Option Addr) (c : Nat) (fp : List Nat) (hx : 0 ≤ x ∧ x ≤ 65535) (hy : 0 ≤ y ∧ y ≤ 65535) (hn : l.length = n) (hl : n ≤ 17592186044416) (h : Rd w fp ao (bv l)) :
    Calls Tryz.prog 11 #[.int .u16 x, .int .u16 y, .slice ao n c] w fun e w' => ∃ a cap, e = .returned (.agg #[.int .i64 (1 + x), .int .i64 (1 + y), .slice a n cap]) ∧ w'.ownsRow w.heap.size 3 1 (.slice a n cap) n (iv (natL l)) ∧ Chg [] w w' := by
  obtain ⟨ii, hii, hii0, hii1, hii2⟩ := info_parts Tryz.vinfoI
  have H := Lib.hid h
  have HN := Lib.hid hn
  have HT := Lib.hid (natL_take l)
  have HTA := Lib.hid (congrArg (fun z => iv (natL z)) (List.take_length (l := l)))
  clear h hn
  have hk0 : Chg [] w ((w.alloc (.cells #[.int .i64 0, .int .i64 0, .slice none 0 0] 33)).alloc (.cells #[.int .i64 (1 + x), .int .i64 (1 + y), .slice none 0 0] 33)) := ((Chg.refl _ _).alloc _).alloc _
  have e0 : ((w.alloc (.cells #[.int .i64 0, .int .i64 0, .slice none 0 0] 33)).alloc (.cells #[.int .i64 (1 + x), .int .i64 (1 + y), .slice none 0 0] 33)).heap[w.heap.size]? = some (.cells #[.int .i64 0, .int .i64 0, .slice none 0 0] 33 (0, 0)) := heap_keep (heap_alloc_new _ _)
  have e1 : ((w.alloc (.cells #[.int .i64 0, .int .i64 0, .slice none 0 0] 33)).alloc (.cells #[.int .i64 (1 + x), .int .i64 (1 + y), .slice none 0 0] 33)).heap[w.heap.size + 1]? = some (.cells #[.int .i64 (1 + x), .int .i64 (1 + y), .slice none 0 0] 33 (0, 0)) := heap_new_at (by simp)
  go_enter Tryz.func11, Tryz.ntmps11
  go_upto_region 3 with (fail)
  generalize (w.alloc (.cells #[.int .i64 0, .int .i64 0, .slice none 0 0] 33)).alloc (.cells #[.int .i64 (1 + x), .int .i64 (1 + y), .slice none 0 0] 33) = W at *
  have HK0 := Lib.hid hk0
  have HE := Lib.hid (And.intro e0 e1)
  clear hk0 e0 e1
  go_loopw [19] (fun i wr => ∃ k : Nat, k ≤ n ∧ i = .int .i64 k ∧ Chg [] w wr ∧ wr.heap[w.heap.size]? = some (.cells #[.int .i64 0, .int .i64 0, .slice none 0 0] 33 (0, 0)) ∧
    ∃ a cap, wr.heap[w.heap.size + 1]? = some (.cells #[.int .i64 (1 + x), .int .i64 (1 + y), .slice a k cap] 33 (0, 0)) ∧ wr.ownsRow (w.heap.size + 2) 3 1 (.slice a k cap) k (iv (natL (l.take k)))) (fun i _ => n - (intOf i).toNat)
  case atStart => exact ⟨0, Nat.zero_le _, rfl, HK0.out, HE.out.1, none, 0, HE.out.2, ⟨by simp [natL, iv], .inl ⟨rfl, rfl⟩⟩⟩
  case round =>
    obtain ⟨k, hk, rfl, hkr, e0, a, cap, e1, hown⟩ := hrel
    have HKR := Lib.hid hkr
    have HE := Lib.hid (And.intro e0 e1)
    have HO := Lib.hid hown
    have d2 : wr.cell? ⟨w.heap.size + 1, 2, none⟩ = some (.slice a k cap) := cell_heap e1 2 rfl
    by_cases hlt : k < n
    · have hkL : k < l.length := by rw [HN.out]; exact hlt
      obtain ⟨ad, rfl, hbf, hcell⟩ := (H.out.chg hkr (by simp)) k _ (bv_get l k hkL)
      have HTK := Lib.hid (HT.out k hkL)
      have hr : (l[k].toNat : Int) < 256 := by have := l[k].toNat_lt; omega
      have hs2 := lt_of_block e1
      clear hkr hown hbf
      generalize l[k].toNat = b at *
      have hkr1 : Chg [] wr (wr.alloc (.cells #[.int .i64 b] 3)) := (Chg.refl _ _).alloc _
      have hrd : Rd (wr.alloc (.cells #[.int .i64 b] 3)) [wr.heap.size] (some ⟨wr.heap.size, 0, none⟩) [.int .i64 b] := fun j u hu => by
        have hj : j = 0 := by have := (List.getElem?_eq_some_iff.1 hu).1; simp at this; exact this
        subst hj
        simp at hu; subst hu
        exact ⟨_, rfl, by simp, cell_heap (heap_alloc_new _ _) 0 rfl⟩
      have HRD := Lib.hid hrd
      have HK1 := Lib.hid hkr1
      have hnb1 : some (w.heap.size + 1) ≠ (Value.slice a k cap).ownBlock := fun e => by have := own_block_ge HO.out e.symm; omega
      have hnb0 : some w.heap.size ≠ (Value.slice a k cap).ownBlock := fun e => by have := own_block_ge HO.out e.symm; omega
      have HNB := Lib.hid (And.intro hnb0 hnb1)
      have HEB := Lib.hid (And.intro (hkr1.heap e0 (by simp)) (hkr1.heap e1 (by simp)))
      have HOB := Lib.hid (own_chg HO.out hkr1 (by simp))
      clear hrd hkr1 e0 hnb0 hnb1
      have hone : ∀ u ∈ [Value.int .i64 (b : Int)], u.oneCell' = true := by intro u hu; simp at hu; subst hu; rfl
      go_upto_region 6 with (at_builtin; refine wpList_append_rd rfl (.tmp 24) (.tmp 27) 31 rfl (w.heap.size + 2) 3 ii (.int .i64 0) 8 Tryz.underlying31 hii hii0 hii1 hii2 rfl (.slice a k cap) k (iv (natL (l.take k))) rfl HOB.out (some ⟨wr.heap.size, 0, none⟩) 1 1 [wr.heap.size] [.int .i64 b] rfl rfl HRD.out hone (by omega) (by unfold maxLen; omega) (by simp; omega) ?_; intro a3 c3 w3 hown3 hgr3 hat3; have hb3 := grown_heap hgr3 HEB.out.2 HNB.out.2; have hb0 := grown_heap hgr3 HEB.out.1 HNB.out.1; have g2 : w3.cell? ⟨w.heap.size + 1, 2, none⟩ = some (.slice a k cap) := cell_heap hb3 2 rfl; have f2 : w3.frozen? ⟨w.heap.size + 1, 2, none⟩ = false := frozen_of_row _ _ _ _ _ hb3; have HK3 := Lib.hid ((HKR.out.trans HK1.out).grown hgr3 (fun g hg hl => by have := own_block_ge HO.out hg; omega)); have HW3 := Lib.hid (And.intro hb0 (And.intro hb3 hown3)); clear hb3 hb0 hown3 hgr3 hat3)
      have hk4 : Chg [] w (w3.setCell ⟨w.heap.size + 1, 2, none⟩ (.slice a3 (k + 1) c3)) := HK3.out.setCell (fun h => by have h : w.heap.size + 1 < w.heap.size := h; omega) _
      have hb4 := heap_set HW3.out.2.1 2 (.slice a3 (k + 1) c3) rfl
      have hc4 : Chg [w.heap.size + 1] w3 (w3.setCell ⟨w.heap.size + 1, 2, none⟩ (.slice a3 (k + 1) c3)) := (Chg.refl _ _).setCell (fun _ => by simp) _
      have hb5 := hc4.heap HW3.out.1 (by simp)
      have ho4 := own_chg HW3.out.2.2 hc4 (fun g hg hm => by simp at hm; omega)
      rw [← HTK.out] at ho4
      have HF := Lib.hid (And.intro hk4 (And.intro hb5 (And.intro hb4 ho4)))
      clear hk4 hb4 hc4 hb5 ho4
      go_wp2_with fail
      go_roundw
      case rel => exact ⟨k + 1, by omega, by go_num, HF.out.1, HF.out.2.1, a3, c3, HF.out.2.2.1, HF.out.2.2.2⟩
      case measure => simp [intOf]; omega
    · have hkk : k = n := by omega
      subst hkk
      have hE1 := HE.out.2
      have hE0 := HE.out.1
      have c0 : wr.cell? ⟨w.heap.size + 1, 0, none⟩ = some (.int .i64 (1 + x)) := cell_heap hE1 0 rfl
      have c1 : wr.cell? ⟨w.heap.size + 1, 1, none⟩ = some (.int .i64 (1 + y)) := cell_heap hE1 1 rfl
      have z0 : wr.cell? ⟨w.heap.size, 0, none⟩ = some (.int .i64 0) := cell_heap hE0 0 rfl
      have z1 : wr.cell? ⟨w.heap.size, 1, none⟩ = some (.int .i64 0) := cell_heap hE0 1 rfl
      have z2 : wr.cell? ⟨w.heap.size, 2, none⟩ = some (.slice none 0 0) := cell_heap hE0 2 rfl
      have f0 := frozen_of_row wr w.heap.size 0 _ _ hE0
      have f1 := frozen_of_row wr w.heap.size 1 _ _ hE0
      have f2 := frozen_of_row wr w.heap.size 2 _ _ hE0
      clear hE0 hE1 e0 e1 hkr hown
      go_wp2_with fail
      have hta := HTA.out
      simp only [HN.out] at hta
      rw [hta] at HO
      have hb9 := heap_set (heap_set (heap_set HE.out.1 0 (.int .i64 (1 + x)) rfl) 1 (.int .i64 (1 + y)) rfl) 2 (.slice a k cap) rfl
      have hk9 : Chg [w.heap.size] wr (((wr.setCell ⟨w.heap.size, 0, none⟩ (.int .i64 (1 + x))).setCell ⟨w.heap.size, 1, none⟩ (.int .i64 (1 + y))).setCell ⟨w.heap.size, 2, none⟩ (.slice a k cap)) := (((Chg.refl _ _).setCell (fun _ => by simp) _).setCell (fun _ => by simp) _).setCell (fun _ => by simp) _
      generalize ((wr.setCell ⟨w.heap.size, 0, none⟩ (.int .i64 (1 + x))).setCell ⟨w.heap.size, 1, none⟩ (.int .i64 (1 + y))).setCell ⟨w.heap.size, 2, none⟩ (.slice a k cap) = W9 at *
      have r0 : W9.cell? ⟨w.heap.size, 0, none⟩ = some (.int .i64 (1 + x)) := cell_heap hb9 0 rfl
      have r1 : W9.cell? ⟨w.heap.size, 1, none⟩ = some (.int .i64 (1 + y)) := cell_heap hb9 1 rfl
      have r2 : W9.cell? ⟨w.heap.size, 2, none⟩ = some (.slice a k cap) := cell_heap hb9 2 rfl
      have hkk := HKR.out.trans' (U := []) hk9 (by simp) (fun g hg hl => by simp at hg; omega)
      have ho9 := own_chg HO.out hk9 (fun g hg hm => by simp at hm; omega)
      exact bodyPost_ret (v := .agg #[.int .i64 (1 + x), .int .i64 (1 + y), .slice a k cap]) (by simp [results, Tryz.results11, go_sem, r0, r1, r2]) rfl ⟨a, cap, rfl, own_low ho9 (by omega), hkk⟩
end Go.Proofs.YtfhiioopimmahaaGreatDoor
namespace Go.Pax
open Go.RowKit
theorem Rd.tight {w : World} {fp : List Nat} {ao : Option Addr} {xs : List Value} (h : Rd w fp ao xs) : ∃ fq, Rd w fq ao xs ∧ ∀ k ∈ fq, k ∈ fp ∧ k < w.heap.size := by
  cases xs with
  | nil => exact ⟨[], Rd.nil _ _ _, by simp⟩
  | cons x l =>
    obtain ⟨a, ha, hb, hc⟩ := h 0 x rfl
    subst ha
    have hlt := World.block_lt_of_cell? w _ hc
    rw [block_add] at hlt
    refine ⟨[a.block], fun j u hu => ?_, by simp; exact ⟨hb, hlt⟩⟩
    obtain ⟨a', ha', hb', hc'⟩ := h j u hu
    cases ha'
    exact ⟨_, rfl, by simp, hc'⟩
theorem Fs.In.upto {n m : Nat} {σ : Fs} (h : σ.In n) (hm : n ≤ m) : σ.In m := h.mono hm
theorem tooE_one {L : List AAct} (h : ¬ tooE L = 0) : tooE L = 1 := by
  unfold tooE at h ⊢
  split
  · rfl
  · rename_i h1; rw [if_neg h1] at h; exact absurd rfl h
theorem tooE_zero {L : List AAct} (h : tooE L = 0) : L.length ≤ 40 ∧ actsLen L ≤ 20000 := by
  unfold tooE at h
  split at h
  · cases h
  · omega
/-- The two words of an Lstat, on their own. -/
def stE (σ : Fs) (p : Str) : Int := match lkF σ.files p with
  | some _ => 0
  | none => 19
end Go.Pax
namespace Go.Proofs.YtfhiioopimmahaaGreatDoor
open Go.RowKit Go.Pax Go.Shelf
theorem Live.upto {w0 w : World} {f : Nat} {O : List Nat} {σ : Fs} {n m : Nat} (h : Live w0 w f O σ n) (hm : n ≤ m) : Live w0 w f O σ m := ⟨h.fs, h.inv.mono hm, h.own, h.chg⟩
theorem lstatV_at (σ : Fs) (p : Str) : ∃ (k m i l s : Int) (t : ByteArray) (u mt : Int), lstatV σ p = .tuple #[.agg #[.int .i64 k, .int .i64 m, .int .i64 i, .int .i64 l, .int .i64 s, .string t, .int .i64 u, .int .i64 mt], .int .i64 (stE σ p)] ∧ ∀ b, lkF σ.files p = some b → k = (σ.node b).kind ∧ m = (σ.node b).mode ∧ l = (σ.node b).links := by
  unfold lstatV stE
  cases h : lkF σ.files p with
  | none => exact ⟨0, 0, 0, 0, 0, ⟨#[]⟩, 0, 0, rfl, fun b hb => by cases hb⟩
  | some b => exact ⟨_, _, _, _, _, _, _, _, rfl, fun b' hb => by cases hb; exact ⟨rfl, rfl, rfl⟩⟩
/-- Options with two numbers, and New behind it. -/
theorem optsNil (w : World) (x y : Int) (hx : 0 ≤ x ∧ x ≤ 65535) (hy : 0 ≤ y ∧ y ≤ 65535) :
    Calls Tryz.prog 11 #[.int .u16 x, .int .u16 y, .slice none 0 0] w fun e w' => ∃ a cap, e = .returned (.agg #[.int .i64 (1 + x), .int .i64 (1 + y), .slice a 0 cap]) ∧ Chg [] w w' := by
  refine (options w x y [] 0 none 0 [] hx hy rfl (by omega) (Rd.nil _ _ _)).mono ?_
  rintro e w' ⟨a, cap, he, _, hk⟩
  exact ⟨a, cap, he, hk⟩
theorem newNil (w0 w : World) (x y : Int) (a : Option Addr) (cap : Nat) (k : Chg [] w0 w) (hx : 0 ≤ x ∧ x ≤ 65535) (hy : 0 ≤ y ∧ y ≤ 65535) :
    Calls Tryz.prog 20 #[.agg #[.int .i64 (1 + x), .int .i64 (1 + y), .slice a 0 cap]] w fun e w' => ∃ f O b, e = .returned (.tuple #[.pointer (some ⟨f, 0, none⟩), .int .i64 0]) ∧ Live w0 w' f O (newFs (1 + x) (1 + y) [] b) 0 ∧ Chg [] w w' := by
  refine (liveNew w0 w (1 + x) (1 + y) [] a 0 cap [] k rfl (by omega) (by omega) (fun j u hu => by simp [iv] at hu)).mono ?_
  rintro e w' ⟨_, h2⟩
  have h0 : newE (1 + x) (1 + y) [] = 0 := by
    unfold newE
    rw [if_pos]
    refine ⟨by unfold inOpt; omega, by unfold inOpt; omega, by decide⟩
  exact h2 h0
end Go.Proofs.YtfhiioopimmahaaGreatDoor
namespace Go.Proofs.YtfhiioopimmahaaGreatDoor
open Go.RowKit Go.Pax Go.Shelf
set_option maxRecDepth 100000 in
set_option maxHeartbeats 4000000 in
theorem rcheckRec (w : World) (v : List UInt8) (hv : v.length ≤ 140737488355328) : Calls Tryz.prog 88 #[.agg #[.string (ba linkpath), .string (ba v)]] w fun e w' => e = .returned (.int .i64 (checkV v)) ∧ Chg [] w w' := by
  rw [show ba linkpath = (⟨#[108, 105, 110, 107, 112, 97, 116, 104]⟩ : ByteArray) from rfl]
  have hsz := ba_size v
  have hk : Chg [] w (w.alloc (.cells #[.string ⟨#[108, 105, 110, 107, 112, 97, 116, 104]⟩, .string (ba v)] 151)) := (Chg.refl _ _).alloc _
  have e0 : (w.alloc (.cells #[.string ⟨#[108, 105, 110, 107, 112, 97, 116, 104]⟩, .string (ba v)] 151)).heap[w.heap.size]? = some (.cells #[.string ⟨#[108, 105, 110, 107, 112, 97, 116, 104]⟩, .string (ba v)] 151 (0, 0)) := heap_alloc_new _ _
  have c0 : (w.alloc (.cells #[.string ⟨#[108, 105, 110, 107, 112, 97, 116, 104]⟩, .string (ba v)] 151)).cell? ⟨w.heap.size, 0, none⟩ = some (.string ⟨#[108, 105, 110, 107, 112, 97, 116, 104]⟩) := cell_heap e0 0 rfl
  have c1 : (w.alloc (.cells #[.string ⟨#[108, 105, 110, 107, 112, 97, 116, 104]⟩, .string (ba v)] 151)).cell? ⟨w.heap.size, 1, none⟩ = some (.string (ba v)) := cell_heap e0 1 rfl
  have HK := Lib.hid hk
  clear hk e0
  by_cases h7 : 65536 < v.length
  · have hc : checkV v = 7 := by unfold checkV; rw [if_pos h7]
    rw [hc]
    clear hc
    generalize ba v = P at *
    go_enter Tryz.func88, Tryz.ntmps88
    go_upto_region 1 with (fail)
    generalize w.alloc (.cells #[.string ⟨#[108, 105, 110, 107, 112, 97, 116, 104]⟩, .string P] 151) = W at *
    generalize w.heap.size = g at *
    go_wp2_with fail
    go_ret
    exact ⟨rfl, HK.out⟩
  by_cases c1' : v = []
  · subst c1'
    rw [show checkV [] = 6 from rfl]
    rw [show ba [] = (⟨#[]⟩ : ByteArray) from rfl] at c0 c1 HK ⊢
    clear hsz
    go_enter Tryz.func88, Tryz.ntmps88
    go_upto_region 1 with (fail)
    generalize w.alloc (.cells #[.string ⟨#[108, 105, 110, 107, 112, 97, 116, 104]⟩, .string ⟨#[]⟩] 151) = W at *
    generalize w.heap.size = g at *
    go_upto_region 7 with (fail)
    go_loopw [3] (fun i wr => wr = W ∧ i = .int .i64 0) (fun _ _ => 0)
    case atStart => exact ⟨rfl, rfl⟩
    case round =>
      obtain ⟨hw, rfl⟩ := hrel
      obtain rfl := hw.symm
      go_wp2_with fail
      go_ret
      exact ⟨rfl, HK.out⟩
  have hA : ∀ k (hk : k < v.length), v[k] = 0 → 0 ≤ Lib.indexByte v 0 := fun k hk h => by
    by_cases hn : 0 ≤ Lib.indexByte v 0
    · exact hn
    · have hge := Lib.indexByte_ge v 0
      exact absurd (by rw [List.getElem?_eq_getElem hk, h]) (Lib.indexByte_none (show Lib.indexByte v 0 = -1 by omega) k)
  have hB : (∀ k (hk : k < v.length), v[k] ≠ 0) → ¬ 0 ≤ Lib.indexByte v 0 := fun h hn => by
    obtain ⟨o, ho⟩ : ∃ o : Nat, Lib.indexByte v 0 = o := ⟨_, (Int.toNat_of_nonneg hn).symm⟩
    obtain ⟨h1, _⟩ := Lib.indexByte_some ho
    obtain ⟨h2, h3⟩ := List.getElem?_eq_some_iff.1 h1
    exact h o h2 h3
  have hcv : checkV v = if 0 ≤ Lib.indexByte v 0 then 6 else 0 := by unfold checkV; rw [if_neg h7]; simp [c1']
  have HAB := Lib.hid (And.intro hA (And.intro hB hcv))
  have hem : (ba v).toList.isEmpty = false := by rw [ba_tl]; simpa using c1'
  have HG := Lib.hid (show ∀ j (hj : j < v.length) (hj' : j < (ba v).size), (ba v)[j]'hj' = v[j]'hj from fun j hj hj' => rfl)
  clear hA hB hcv c1'
  generalize checkV v = R at *
  generalize ba v = P at *
  go_enter Tryz.func88, Tryz.ntmps88
  go_upto_region 1 with (fail)
  generalize w.alloc (.cells #[.string ⟨#[108, 105, 110, 107, 112, 97, 116, 104]⟩, .string P] 151) = W at *
  generalize w.heap.size = g at *
  go_upto_region 7 with (fail)
  go_loopw [3] (fun i wr => wr = W ∧ ∃ k : Nat, i = .int .i64 k ∧ k ≤ v.length ∧ ∀ j (hj : j < v.length), j < k → v[j] ≠ 0) (fun i _ => v.length - (intOf i).toNat)
  case atStart => exact ⟨rfl, 0, rfl, Nat.zero_le _, fun j hj hk => by omega⟩
  case round =>
    obtain ⟨hw, k, rfl, hk, ha⟩ := hrel
    obtain rfl := hw.symm
    have HA := Lib.hid ha
    clear ha
    by_cases hlt : k < v.length
    · have hkp : k < P.size := by omega
      have hg := HG.out k hlt hkp
      have hb8 := (v[k]).toNat_lt
      by_cases h0 : v[k] = 0
      · have hR := HAB.out.2.2
        rw [if_pos (HAB.out.1 k hlt h0)] at hR
        subst hR
        rw [h0] at hg
        have hb0 : (((0 : UInt8)).toNat : Int) = 0 := rfl
        go_wp2_with fail
        go_ret
        exact ⟨rfl, HK.out⟩
      · have hb : (((v[k]).toNat : Int) == 0) = false := by
          rw [beq_eq_false_iff_ne]
          intro e
          apply h0
          apply UInt8.toNat_inj.1
          have : (v[k]).toNat = 0 := by omega
          rw [this]; rfl
        have HM := Lib.hid (And.intro h0 trivial)
        clear h0
        go_wp2_with fail
        go_roundw
        case rel => exact ⟨trivial, k + 1, by go_num, by omega, fun j hj hjk => by
          rcases Nat.lt_or_eq_of_le (Nat.le_of_lt_succ hjk) with h1 | h1
          · exact HA.out j hj h1
          · subst h1; exact HM.out.1⟩
        case measure => simp [intOf]; omega
    · have hR := HAB.out.2.2
      have hneg := HAB.out.2.1 (fun j hj => HA.out j hj (by omega))
      rw [if_neg (by omega)] at hR
      clear hneg
      subst hR
      have hkk : k = v.length := by omega
      subst hkk
      go_wp2_with fail
      go_ret
      exact ⟨rfl, HK.out⟩
theorem insK_stop {l : List Str} {s : Str} {k : Nat} (h : k = 0 ∨ ∃ m, k = m + 1 ∧ ¬ s < l.getD m []) : insK l s k = k := by
  rcases h with rfl | ⟨m, rfl, h⟩
  · rfl
  · unfold insK; rw [if_neg h]
theorem insK_go {l : List Str} {s : Str} {m : Nat} (h : s < l.getD m []) : insK l s (m + 1) = insK l s m := by
  conv => lhs; unfold insK
  rw [if_pos h]
set_option maxRecDepth 100000 in
set_option maxHeartbeats 8000000 in
theorem rinsert (w : World) (fp : List Nat) (ao : Option Addr) (n c : Nat) (l : List Str) (s : Str) (hn : l.length = n) (hl : n ≤ 1000000) (hnc : n ≤ c) (h : Rd w fp ao (svn l)) :
    Calls Tryz.prog 89 #[.slice ao n c, .string (ba s)] w fun e w' => ∃ a' c', e = .returned (.slice a' (n + 1) c') ∧ w'.ownsRow w.heap.size 9 1 (.slice a' (n + 1) c') (n + 1) (svn (insR l s)) ∧ Chg [] w w' := by
  obtain ⟨si, hsi, hsi0, hsi1, hsi2⟩ := info_parts Tryz.vinfoS
  have H := Lib.hid h
  have HN := Lib.hid hn
  have HGO := Lib.hid (fun m => insK_go (l := l) (s := s) (m := m))
  have HST := Lib.hid (fun k => insK_stop (l := l) (s := s) (k := k))
  clear h hn
  generalize hS : ba s = S at *
  have HS := Lib.hid hS
  clear hS
  go_enter Tryz.func89, Tryz.ntmps89
  go_upto_region 2 with (fail)
  go_loopw [5] (fun i wr => wr = w ∧ ∃ k : Nat, i = .int .i64 k ∧ k ≤ n ∧ insK l s n = insK l s k) (fun i _ => (intOf i).toNat)
  case atStart => exact ⟨rfl, n, rfl, Nat.le_refl _, rfl⟩
  case round =>
    obtain ⟨hw, k, rfl, hk, hik⟩ := hrel
    obtain rfl := hw.symm
    have HIK := Lib.hid hik
    clear hik
    go_upto_region 2 with (fail)
    generalize hX : decide (0 < k ∧ s < l.getD (k - 1) []) = X at *
    have HX := Lib.hid hX
    clear hX
    go_cut [19] (fun t wx => t = .bool X ∧ wx = w)
    case first =>
      by_cases h0 : k = 0
      · have hd : decide (0 < k ∧ s < l.getD (k - 1) []) = false := by rw [decide_eq_false_iff_not]; omega
        obtain rfl := HX.out.symm.trans hd
        have hz : ¬ 0 < k := by omega
        clear h0 hd
        go_wp2_with fail
        go_meet
        exact ⟨rfl, rfl⟩
      · obtain ⟨m, hkm⟩ : ∃ m, k = m + 1 := ⟨k - 1, by omega⟩
        have hml : m < l.length := by rw [HN.out]; omega
        have hgd : l.getD m [] = l[m] := by simp [hml]
        have hX := HX.out
        rw [show k - 1 = m by omega, hgd] at hX
        obtain ⟨ad, rfl, _, hc⟩ := H.out m (.string (ba l[m])) (by unfold svn; rw [sv_get _ _ (by simpa using hml)]; simp)
        have hq1 : 0 < k := by omega
        have hm2 : m < n := by omega
        have hkw : IntKind.i64.wrap ((k : Int) - 1) = (m : Int) := by rw [show (k : Int) - 1 = m by omega]; exact IntWalk.i64_in _ (by omega)
        have hbl : Op.bytesLess (ba l[m]).toList S.toList = decide (l[m] < s) := by rw [Go.Proofs.bytesLess_eq, ← HS.out, ba_tl, ba_tl]
        have hbe : ((ba l[m]).toList == S.toList) = decide (l[m] = s) := by rw [← HS.out, ba_tl, ba_tl]; exact Bool.eq_iff_iff.2 (by simp)
        have hd : decide (0 < k ∧ s < l[m]) = !(decide (l[m] < s) || decide (l[m] = s)) := by
          by_cases a : l[m] < s
          · have : ¬ s < l[m] := fun h => slt_irrefl _ (slt_trans h a)
            simp [a, this]
          · by_cases b : l[m] = s
            · simp [b, slt_irrefl]
            · simp [a, b, slt_total a b, hq1]
        obtain rfl := hX.symm.trans hd
        generalize decide (l[m] < s) = X1 at *
        generalize decide (l[m] = s) = X2 at *
        generalize ba l[m] = M at *
        have HKM := Lib.hid hkm
        clear hd hX hgd hkm h0
        go_wp2_with fail
        go_meet
        exact ⟨by cases X1 <;> cases X2 <;> rfl, rfl⟩
    case rest =>
      obtain ⟨rfl, hwc⟩ := hcut
      obtain rfl := hwc.symm
      by_cases hd : 0 < k ∧ s < l.getD (k - 1) []
      · obtain ⟨m, rfl⟩ : ∃ m, k = m + 1 := ⟨k - 1, by omega⟩
        have hgo := HGO.out m (by have := hd.2; simpa using this)
        have HG2 := Lib.hid (HIK.out.trans hgo)
        have hdb : X = true := by rw [← HX.out]; simpa using hd
        have hkw : IntKind.i64.wrap (((m + 1 : Nat) : Int) - 1) = (m : Int) := by rw [show ((m + 1 : Nat) : Int) - 1 = m by omega]; exact IntWalk.i64_in _ (by omega)
        subst hdb
        have hm1 : ((m + 1 : Nat) : Int) - 1 = (m : Int) := by omega
        clear hd hgo
        go_wp2_with fail
        go_roundw
        case rel => exact ⟨trivial, m, rfl, by omega, HG2.out⟩
        case measure => simp [intOf]
      · have hXf : X = false := by rw [← HX.out]; simpa using hd
        subst hXf
        have hstop : insK l s n = k := by
          rw [HIK.out]
          refine HST.out k ?_
          by_cases h0 : k = 0
          · exact .inl h0
          · exact .inr ⟨k - 1, by omega, fun h => hd ⟨by omega, h⟩⟩
        have HSP := Lib.hid hstop
        clear hd hstop
        have hke : Chg [] w (w.alloc (.cells #[] 9)) := (Chg.refl _ _).alloc _
        have HR1 := Lib.hid (show Rd (w.alloc (.cells #[] 9)) fp ao (svn (l.take k)) from by
          have := (H.out.chg hke (by simp)).take k
          rw [show (svn l).take k = svn (l.take k) by simp [svn, sv, List.map_take]] at this
          exact this)
        have HL1 := Lib.hid (show (svn (l.take k)).length = k by rw [svn_length, List.length_take, HN.out]; omega)
        have hone := sv_one ((l.take k).map ba)
        go_upto_region 5 with (at_builtin; refine wpList_append_rd rfl (.tmp 22) (.tmp 25) 47 rfl w.heap.size 9 si (.string ⟨#[]⟩) 16 Tryz.underlying47 hsi hsi0 hsi1 hsi2 rfl (.slice (some ⟨w.heap.size, 0, none⟩) 0 0) 0 [] rfl (own_empty (heap_alloc_new _ _) (Nat.le_refl _)) ao k c fp (svn (l.take k)) rfl HL1.out HR1.out hone (by omega) (by unfold maxLen; omega) (by simp) ?_; intro a1 c1 w1 hown1 hgr1 hat1; have HK1 := Lib.hid (hke.grown hgr1 (fun x hx hl => by simp [Value.ownBlock] at hx; omega)); have HO1 := Lib.hid hown1; clear hown1 hgr1 hat1)
        simp only [Nat.zero_add, List.nil_append] at HO1
        have hkb : Chg [] w1 (w1.alloc (.cells #[.string S] 9)) := (Chg.refl _ _).alloc _
        have hrn : Rd (w1.alloc (.cells #[.string S] 9)) [w1.heap.size] (some ⟨w1.heap.size, 0, none⟩) [.string S] := fun j u hu => by
          have hj : j = 0 := by have := (List.getElem?_eq_some_iff.1 hu).1; simp at this; exact this
          subst hj
          simp at hu; subst hu
          exact ⟨_, rfl, by simp, cell_heap (heap_alloc_new _ _) 0 rfl⟩
        have HRN := Lib.hid hrn
        have HOB := Lib.hid (own_chg HO1.out hkb (by simp))
        have hone2 : ∀ u ∈ [Value.string S], u.oneCell' = true := by intro u hu; simp at hu; subst hu; rfl
        have hsz1 : w.heap.size ≤ (w1.alloc (.cells #[.string S] 9)).heap.size := (HK1.out.trans hkb).size
        clear hrn
        go_upto_region 6 with (at_builtin; refine wpList_append_rd rfl (.tmp 27) (.tmp 29) 47 rfl w.heap.size 9 si (.string ⟨#[]⟩) 16 Tryz.underlying47 hsi hsi0 hsi1 hsi2 rfl (.slice a1 k c1) k (svn (l.take k)) rfl HOB.out (some ⟨w1.heap.size, 0, none⟩) 1 1 [w1.heap.size] [.string S] rfl rfl HRN.out hone2 (by omega) (by unfold maxLen; omega) hsz1 ?_; intro a2 c2 w2 hown2 hgr2 hat2; have HK2 := Lib.hid ((HK1.out.trans hkb).grown hgr2 (fun x hx hl => by have := own_block_ge HO1.out hx; omega)); have HO2 := Lib.hid hown2; clear hown2 hgr2 hat2)
        clear hkb hsz1 hone2
        have hone3 := sv_one ((l.drop k).map ba)
        have HL3 := Lib.hid (show (svn (l.drop k)).length = n - k by rw [svn_length, List.length_drop, HN.out])
        have hsz2 : w.heap.size ≤ w2.heap.size := HK2.out.size
        have hdr := (H.out.chg HK2.out (by simp)).drop k c (by rw [svn_length, HN.out]; exact hnc)
        rw [show (svn l).drop k = svn (l.drop k) by simp [svn, sv, List.map_drop]] at hdr
        unfold cutA at hdr
        by_cases hck : c = k
        · rw [if_pos hck] at hdr
          have HR3 := Lib.hid hdr
          clear hdr
          obtain rfl : n = k := by omega
          subst hck
          have HL4 := Lib.hid (show (svn (l.drop c)).length = 0 from by rw [HL3.out]; omega)
          have hins : svn (l.take c) ++ [Value.string S] ++ svn (l.drop c) = svn (insR l s) := by
            unfold insR
            rw [HN.out, HSP.out, ← HS.out]
            simp [svn, sv]
          have HINS := Lib.hid hins
          clear hins
          go_wp2_with (at_builtin; refine wpList_append_rd rfl (.tmp 31) (.tmp 34) 47 rfl w.heap.size 9 si (.string ⟨#[]⟩) 16 Tryz.underlying47 hsi hsi0 hsi1 hsi2 rfl (.slice a2 (c + 1) c2) (c + 1) (svn (l.take c) ++ [Value.string S]) rfl HO2.out ao 0 0 fp (svn (l.drop c)) rfl HL4.out HR3.out hone3 (by omega) (by unfold maxLen; omega) hsz2 ?_; intro a3 c3 w3 hown3 hgr3 hat3; have HK3 := Lib.hid (HK2.out.grown hgr3 (fun x hx hl => by have := own_block_ge HO2.out hx; omega)); have HO3 := Lib.hid hown3; clear hown3 hgr3 hat3)
          have hO := HO3.out
          rw [HINS.out, Nat.add_zero] at hO
          rw [Nat.add_zero]
          go_ret
          exact ⟨a3, c3, rfl, hO, HK3.out⟩
        · rw [if_neg hck] at hdr
          have HR3 := Lib.hid hdr
          have hkc : k < c := by omega
          clear hdr hck
          go_wp2_with (at_builtin; refine wpList_append_rd rfl (.tmp 31) (.tmp 34) 47 rfl w.heap.size 9 si (.string ⟨#[]⟩) 16 Tryz.underlying47 hsi hsi0 hsi1 hsi2 rfl (.slice a2 (k + 1) c2) (k + 1) (svn (l.take k) ++ [Value.string S]) rfl HO2.out _ (n - k) (c - k) fp (svn (l.drop k)) rfl HL3.out HR3.out hone3 (by omega) (by unfold maxLen; omega) hsz2 ?_; intro a3 c3 w3 hown3 hgr3 hat3; have HK3 := Lib.hid (HK2.out.grown hgr3 (fun x hx hl => by have := own_block_ge HO2.out hx; omega)); have HO3 := Lib.hid hown3; clear hown3 hgr3 hat3)
          have hk1 : k + 1 + (n - k) = n + 1 := by omega
          have hins : svn (l.take k) ++ [Value.string S] ++ svn (l.drop k) = svn (insR l s) := by
            unfold insR
            rw [HN.out, HSP.out, ← HS.out]
            simp [svn, sv]
          have hO := HO3.out
          rw [hins, hk1] at hO
          rw [hk1]
          go_ret
          exact ⟨a3, c3, rfl, hO, HK3.out⟩
end Go.Proofs.YtfhiioopimmahaaGreatDoor
