/- paxtarref08: last, Parent, Base. Every path of a file system hangs on its root; the paths in order; what visiting keeps. A heap of paths: what sifting up and down keeps. pathname.Join; cmp.isNaN at strings. Stores into a row that the call owns. The methods of pathheap's paths. A region that draws its order and whose last operation writes what the others read: the condition on the world is asked behind all operations but the last, for which all others wait. -/
import Derived.Test.YtfhiioopimmahaaGreatDoorPO01
import Derived.Test.YtfhiioopimmahaaGreatDoorPO06
import Derived.Test.YtfhiioopimmahaaGreatDoorPO07
namespace Go.Pax
open Go.RowKit
/-- The last slash is where it is found from the right. -/
theorem lastSl_at {l : List UInt8} {k : Nat} (hk : k < l.length) (h : l[k] = 47) (ha : ∀ j (hj : j < l.length), k < j → l[j] ≠ 47) : lastSl l = k := by
  rcases lastSl_spec l with ⟨_, h2⟩ | ⟨i, hi, h1, h2, h3⟩
  · exact absurd (h ▸ List.getElem_mem hk) h2
  · rw [h1]
    rw [List.getElem?_eq_getElem hi] at h2
    injection h2 with h2
    by_cases h4 : k < i
    · exact absurd h2 (ha i hi h4)
    · by_cases h5 : i < k
      · exfalso
        apply h3
        rw [List.mem_iff_getElem]
        exact ⟨k - (i + 1), by rw [List.length_drop]; omega, by rw [List.getElem_drop]; simp only [show i + 1 + (k - (i + 1)) = k by omega]; exact h⟩
      · congr 1; omega
theorem lastSl_no {l : List UInt8} (h : ∀ j (hj : j < l.length), l[j] ≠ 47) : lastSl l = -1 := by
  rcases lastSl_spec l with ⟨h1, _⟩ | ⟨i, hi, _, h2, _⟩
  · exact h1
  · rw [List.getElem?_eq_getElem hi] at h2
    injection h2 with h2
    exact absurd h2 (h i hi)
end Go.Pax
namespace Go.Proofs.YtfhiioopimmahaaGreatDoor
open Go.RowKit Go.Pax Go.Shelf
set_option maxRecDepth 100000 in
set_option maxHeartbeats 4000000 in
theorem rlast (l : List UInt8) (hl : l.length ≤ 140737488355328) (w : World) : Calls Tryz.prog 127 #[.string (ba l)] w fun e w' => e = .returned (.int .i64 (lastSl l)) ∧ w' = w := by
  have hA := fun k hk h ha => lastSl_at (l := l) (k := k) hk h ha
  have hB := fun h => lastSl_no (l := l) h
  have HAB := Lib.hid (And.intro hA hB)
  have hsz := ba_size l
  have HG := Lib.hid (show ∀ j (hj : j < l.length) (hj' : j < (ba l).size), (ba l)[j]'hj' = l[j]'hj from fun j hj hj' => rfl)
  clear hA hB
  generalize lastSl l = R at *
  generalize ba l = P at *
  go_enter Tryz.func127, Tryz.ntmps127
  go_wp2_with fail
  go_loopw [3] (fun i wr => wr = w ∧ ∃ k : Nat, i = .int .i64 ((k : Int) - 1) ∧ k ≤ l.length ∧ ∀ j (hj : j < l.length), k ≤ j → l[j] ≠ 47) (fun i _ => (intOf i + 1).toNat)
  case atStart => exact ⟨rfl, l.length, rfl, Nat.le_refl _, fun j hj hk => by omega⟩
  case round =>
    obtain ⟨hw, k, rfl, hk, ha⟩ := hrel
    obtain rfl := hw.symm
    have HA := Lib.hid ha
    clear ha
    cases k with
    | zero =>
      have hR := HAB.out.2 (fun j hj => HA.out j hj (Nat.zero_le _))
      subst hR
      go_wp2_with fail
      go_ret
      exact ⟨rfl, rfl⟩
    | succ m =>
      have hm : ((m + 1 : Nat) : Int) - 1 = (m : Int) := by omega
      rw [hm]
      have hml : m < P.size := by omega
      have hg := HG.out m (by omega) hml
      have hml2 : m < l.length := by omega
      by_cases h47 : l[m] = 47
      · have hR := HAB.out.1 m hml2 h47 (fun j hj hk => HA.out j hj (by omega))
        subst hR
        go_wp2_with fail
        go_ret
        exact ⟨rfl, rfl⟩
      · have hb : (((l[m]).toNat : Int) == 47) = false := by
          rw [beq_eq_false_iff_ne]
          intro e
          apply h47
          apply UInt8.toNat_inj.1
          have : (l[m]).toNat = 47 := by omega
          rw [this]; rfl
        have HM := Lib.hid (And.intro h47 trivial)
        have hlt := (l[m]).toNat_lt
        clear h47
        go_wp2_with fail
        go_roundw
        case rel => exact ⟨trivial, m, rfl, by omega, fun j hj hjk => by
          rcases Nat.lt_or_eq_of_le hjk with h1 | h1
          · exact HA.out j hj (by omega)
          · subst h1; exact HM.out.1⟩
        case measure => simp [intOf]
set_option maxHeartbeats 1000000 in
theorem rparent (l : List UInt8) (hl : l.length ≤ 140737488355328) (w : World) :
    Calls Tryz.prog 107 #[.string (ba l)] w fun e w' => e = .returned (.string (ba (parentP l))) ∧ w' = w := by
  have hlt := lastSl_lt l
  have HI := Lib.hid (rlast l hl w)
  have ht := fun k => ext_take (ba l) k
  simp only [ba_data] at ht
  have hp : parentP l = if lastSl l < 0 then [] else l.take (lastSl l).toNat := rfl
  have hz : ((ba l).size : Int) = l.length := by rw [ba_size]
  by_cases h0 : lastSl l < 0
  · rw [if_pos h0] at hp
    have HP := Lib.hid hp
    clear hp ht hz
    generalize lastSl l = x at *
    go_enter Tryz.func107, Tryz.ntmps107
    go_wp2_with (go_at_call 127; refine HI.out.mono ?_; rintro e w' ⟨rfl, rfl⟩)
    go_ret
    rw [HP.out]
    exact ⟨rfl, rfl⟩
  · rw [if_neg h0] at hp
    have HP := Lib.hid hp
    clear hp
    generalize lastSl l = x at *
    obtain ⟨i, rfl⟩ : ∃ i : Nat, x = i := ⟨x.toNat, by omega⟩
    have HT := Lib.hid (ht i)
    have h1 : (i : Int) ≤ ((ba l).size : Int) := by omega
    have h2 : ((ba l).size : Int) ≤ 140737488355328 := by omega
    clear ht hz hlt hl
    generalize ba l = S at *
    go_enter Tryz.func107, Tryz.ntmps107
    go_wp2_with (go_at_call 127; refine HI.out.mono ?_; rintro e w' ⟨rfl, rfl⟩)
    go_ret
    rw [HP.out, Int.toNat_natCast, ← HT.out]
    exact ⟨by simp, rfl⟩
set_option maxRecDepth 100000 in
set_option maxHeartbeats 4000000 in
theorem rpart (l : List UInt8) (hl : l.length ≤ 140737488355328) (w : World) : Calls Tryz.prog 108 #[.string (ba l)] w fun e w' => e = .returned (.bool !(badC l)) ∧ w' = w := by
  by_cases c1 : l = []
  · subst c1
    rw [show badC [] = true from rfl, show ba [] = (⟨#[]⟩ : ByteArray) from rfl]
    go_enter Tryz.func108, Tryz.ntmps108
    go_wp2_with fail
    go_ret
    exact ⟨rfl, rfl⟩
  by_cases c2 : l = [46]
  · subst c2
    rw [show badC [46] = true from rfl, show ba [46] = (⟨#[46]⟩ : ByteArray) from rfl]
    go_enter Tryz.func108, Tryz.ntmps108
    go_wp2_with fail
    go_ret
    exact ⟨rfl, rfl⟩
  by_cases c3 : l = [46, 46]
  · subst c3
    rw [show badC [46, 46] = true from rfl, show ba [46, 46] = (⟨#[46, 46]⟩ : ByteArray) from rfl]
    go_enter Tryz.func108, Tryz.ntmps108
    go_wp2_with fail
    go_ret
    exact ⟨rfl, rfl⟩
  have hb : badC l = decide (0 ≤ Lib.indexByte l 0) := by unfold badC; simp [c1, c2, c3]
  rw [hb]
  clear hb
  have hA : ∀ k (hk : k < l.length), l[k] = 0 → 0 ≤ Lib.indexByte l 0 := fun k hk h => by
    by_cases hn : 0 ≤ Lib.indexByte l 0
    · exact hn
    · have hge := Lib.indexByte_ge l 0
      exact absurd (by rw [List.getElem?_eq_getElem hk, h]) (Lib.indexByte_none (show Lib.indexByte l 0 = -1 by omega) k)
  have hB : (∀ k (hk : k < l.length), l[k] ≠ 0) → ¬ 0 ≤ Lib.indexByte l 0 := fun h hn => by
    obtain ⟨o, ho⟩ : ∃ o : Nat, Lib.indexByte l 0 = o := ⟨_, (Int.toNat_of_nonneg hn).symm⟩
    obtain ⟨h1, _⟩ := Lib.indexByte_some ho
    obtain ⟨h2, h3⟩ := List.getElem?_eq_some_iff.1 h1
    exact h o h2 h3
  have HAB := Lib.hid (And.intro hA hB)
  have e1 : (ba l).toList.isEmpty = false := by rw [ba_tl]; simpa using c1
  have e2 : ((ba l).toList == [46]) = false := by rw [ba_tl]; simpa using c2
  have e3 : ((ba l).toList == [46, 46]) = false := by rw [ba_tl]; simpa using c3
  have hsz := ba_size l
  have HG := Lib.hid (show ∀ j (hj : j < l.length) (hj' : j < (ba l).size), (ba l)[j]'hj' = l[j]'hj from fun j hj hj' => rfl)
  clear hA hB c1 c2 c3
  generalize Lib.indexByte l 0 = R at *
  generalize ba l = P at *
  go_enter Tryz.func108, Tryz.ntmps108
  go_upto_region 4 with (fail)
  go_loopw [3] (fun i wr => wr = w ∧ ∃ k : Nat, i = .int .i64 k ∧ k ≤ l.length ∧ ∀ j (hj : j < l.length), j < k → l[j] ≠ 0) (fun i _ => l.length - (intOf i).toNat)
  case atStart => exact ⟨rfl, 0, rfl, Nat.zero_le _, fun j hj hk => by omega⟩
  case round =>
    obtain ⟨hw, k, rfl, hk, ha⟩ := hrel
    obtain rfl := hw.symm
    have HA := Lib.hid ha
    clear ha
    by_cases hlt : k < l.length
    · have hkp : k < P.size := by omega
      have hg := HG.out k hlt hkp
      have hb8 := (l[k]).toNat_lt
      by_cases h0 : l[k] = 0
      · have hR := HAB.out.1 k hlt h0
        have hd : decide (0 ≤ R) = true := by simpa using hR
        rw [h0] at hg
        have hb0 : (((0 : UInt8)).toNat : Int) = 0 := rfl
        go_wp2_with fail
        go_ret
        exact ⟨rfl, rfl⟩
      · have hb : (((l[k]).toNat : Int) == 0) = false := by
          rw [beq_eq_false_iff_ne]
          intro e
          apply h0
          apply UInt8.toNat_inj.1
          have : (l[k]).toNat = 0 := by omega
          rw [this]; rfl
        have HM := Lib.hid (And.intro h0 trivial)
        clear h0
        go_wp2_with fail
        go_roundw
        case rel => exact ⟨trivial, k + 1, by go_num, by omega, fun j hj hjk => by
          rcases Nat.lt_or_eq_of_le (Nat.le_of_lt_succ hjk) with h1 | h1
          · exact HA.out j hj h1
          · subst h1; exact HM.out.1⟩
        case measure => simp [intOf]; omega
    · have hR := HAB.out.2 (fun j hj => HA.out j hj (by omega))
      have hd : decide (0 ≤ R) = false := by simpa using hR
      have hkk : k = l.length := by omega
      subst hkk
      go_wp2_with fail
      go_ret
      exact ⟨rfl, rfl⟩
/-- The components from place f on, when i has been looked at. -/
theorem comps_end {l : List UInt8} {f : Nat} (h : 47 ∉ l.drop f) : (compsL (l.drop f)).any badC = badC (l.drop f) := by
  rw [compsL_none h]; simp
theorem comps_cut {l : List UInt8} {f i : Nat} (hf : f ≤ i) (hi : i < l.length) (h47 : l[i] = 47) (h : 47 ∉ (l.drop f).take (i - f)) : (compsL (l.drop f)).any badC = (badC ((l.drop f).take (i - f)) || (compsL (l.drop (i + 1))).any badC) := by
  have e : l.drop f = (l.drop f).take (i - f) ++ 47 :: l.drop (i + 1) := by
    have h1 := List.take_append_drop (i - f) (l.drop f)
    rw [List.drop_drop, show f + (i - f) = i by omega, List.drop_eq_getElem_cons hi, h47] at h1
    exact h1.symm
  conv => lhs; rw [e]
  rw [compsL_some h]
  simp
set_option maxRecDepth 100000 in
set_option maxHeartbeats 8000000 in
theorem rcheck (l : List UInt8) (hl : l.length ≤ 140737488355328) (w : World) : Calls Tryz.prog 86 #[.string (ba l)] w fun e w' => e = .returned (.int .i64 (checkP l)) ∧ w' = w := by
  have hsz := ba_size l
  by_cases h7 : 65536 < l.length
  · have hc : checkP l = 7 := by unfold checkP; rw [if_pos h7]
    rw [hc]
    clear hc
    generalize ba l = P at *
    go_enter Tryz.func86, Tryz.ntmps86
    go_wp2_with fail
    go_ret
    exact ⟨rfl, rfl⟩
  have hcp : checkP l = if (compsL l).any badC then 6 else 0 := by unfold checkP; rw [if_neg h7]
  have HCP := Lib.hid hcp
  have HG := Lib.hid (show ∀ j (hj : j < l.length) (hj' : j < (ba l).size), (ba l)[j]'hj' = l[j]'hj from fun j hj hj' => rfl)
  have hex : ∀ f i, f ≤ i → i ≤ l.length → (ba l).extract f i = ba ((l.drop f).take (i - f)) := fun f i hf hi => by
    apply ByteArray.ext
    simp [ba]
  have HEX := Lib.hid hex
  have HPT := Lib.hid (fun (c : List UInt8) (hc : c.length ≤ 65536) W => rpart c (by omega) W)
  clear hcp hex
  generalize checkP l = R at *
  generalize ba l = P at *
  go_enter Tryz.func86, Tryz.ntmps86
  go_upto_region 5 with (fail)
  go_loopw [3, 4] (fun fv iv' wr => wr = w ∧ ∃ f i : Nat, fv = .int .i64 f ∧ iv' = .int .i64 i ∧ i ≤ l.length + 1 ∧ (i ≤ l.length → f ≤ i ∧ 47 ∉ (l.drop f).take (i - f) ∧ (compsL l).any badC = (compsL (l.drop f)).any badC) ∧ (i = l.length + 1 → (compsL l).any badC = false)) (fun _ i _ => l.length + 1 - (intOf i).toNat)
  case atStart => exact ⟨rfl, 0, 0, rfl, rfl, by omega, fun _ => ⟨Nat.le_refl _, by simp, by simp⟩, fun h => by omega⟩
  case round =>
    obtain ⟨hw, f, i, rfl, rfl, hi, hin, hout⟩ := hrel
    obtain rfl := hw.symm
    have HIN := Lib.hid (And.intro hin hout)
    clear hin hout
    by_cases hlt : i ≤ l.length
    · obtain ⟨hfi, hno, hany⟩ := HIN.out.1 hlt
      have hcl : ((l.drop f).take (i - f)).length ≤ 65536 := by rw [List.length_take, List.length_drop]; omega
      have hexi := HEX.out f i hfi hlt
      have hpt := fun W => HPT.out _ hcl W
      rw [← hexi] at hpt
      have HC := Lib.hid hpt
      have hip : i ≤ P.size := by omega
      clear hexi hpt hcl
      by_cases heq : i = l.length
      · have hend : 47 ∉ l.drop f := by
          intro hm
          apply hno
          rw [heq, List.take_of_length_le (by simp)]
          exact hm
        have hce := comps_end hend
        rw [show (l.drop f).take (i - f) = l.drop f by rw [heq, List.take_of_length_le (by simp)]] at HC
        rw [← hce, ← hany] at HC
        have hR := HCP.out
        clear hno hany hend hce hip hlt
        subst heq
        cases hb : (compsL l).any badC with
        | true =>
          rw [hb] at hR HC
          simp at hR
          subst hR
          go_wp2_with (go_at_call 108; refine (HC.out _).mono ?_; rintro e w2 ⟨rfl, hw2⟩; obtain rfl := hw2.symm)
          go_ret
          exact ⟨rfl, rfl⟩
        | false =>
          rw [hb] at HC
          have HBB := Lib.hid hb
          clear hb hR
          go_wp2_with (go_at_call 108; refine (HC.out _).mono ?_; rintro e w2 ⟨rfl, hw2⟩; obtain rfl := hw2.symm)
          go_roundw
          case rel => exact ⟨trivial, l.length + 1, l.length + 1, by go_num, by go_num, by omega, fun h => by omega, by first | exact fun _ => trivial | exact fun _ => HBB.out⟩
          case measure => simp [intOf]
      · have hil : i < l.length := by omega
        have hg := HG.out i hil (by omega)
        have hb8 := (l[i]).toNat_lt
        have heqb : ((i : Int) == (l.length : Int)) = false := by
          rw [beq_eq_false_iff_ne]; omega
        have hips : i < P.size := by omega
        by_cases h47 : l[i] = 47
        · have hcc := comps_cut hfi hil h47 hno
          have hR := HCP.out
          rw [hany, hcc] at hR
          have hb47 : (((l[i]).toNat : Int) == 47) = true := by rw [h47]; rfl
          have HCC := Lib.hid (And.intro hany hcc)
          clear hno hany hcc h47
          cases hb : badC ((l.drop f).take (i - f)) with
          | true =>
            rw [hb] at hR HC
            simp at hR
            subst hR
            go_wp2_with (go_at_call 108; refine (HC.out _).mono ?_; rintro e w2 ⟨rfl, hw2⟩; obtain rfl := hw2.symm)
            go_ret
            exact ⟨rfl, rfl⟩
          | false =>
            rw [hb] at HC
            have HBB := Lib.hid hb
            clear hb hR
            go_wp2_with (go_at_call 108; refine (HC.out _).mono ?_; rintro e w2 ⟨rfl, hw2⟩; obtain rfl := hw2.symm)
            go_roundw
            case rel => exact ⟨trivial, i + 1, i + 1, by go_num, by go_num, by omega, fun _ => ⟨Nat.le_refl _, by simp, by rw [HCC.out.1, HCC.out.2, HBB.out]; rfl⟩, fun h => by omega⟩
            case measure => simp [intOf]; omega
        · have hb47 : (((l[i]).toNat : Int) == 47) = false := by
            rw [beq_eq_false_iff_ne]
            intro e
            apply h47
            apply UInt8.toNat_inj.1
            have : (l[i]).toNat = 47 := by omega
            rw [this]; rfl
          have hno2 : 47 ∉ (l.drop f).take (i + 1 - f) := by
            rw [show i + 1 - f = (i - f) + 1 by omega, List.take_add_one]
            intro hm
            rcases List.mem_append.1 hm with hm | hm
            · exact hno hm
            · rw [List.getElem?_drop, show f + (i - f) = i by omega, List.getElem?_eq_getElem hil] at hm
              simp at hm
              exact h47 hm.symm
          have HN2 := Lib.hid (And.intro hno2 hany)
          clear hno hno2 hany h47 HC
          go_wp2_with fail
          go_roundw
          case rel => exact ⟨trivial, f, i + 1, rfl, by go_num, by omega, fun _ => ⟨by omega, HN2.out.1, HN2.out.2⟩, fun h => by omega⟩
          case measure => simp [intOf]; omega
    · have hkk : i = l.length + 1 := by omega
      have hR := HCP.out
      rw [HIN.out.2 hkk] at hR
      simp at hR
      subst hR hkk
      go_wp2_with fail
      go_ret
      exact ⟨rfl, rfl⟩
end Go.Proofs.YtfhiioopimmahaaGreatDoor
namespace Go.Pax
open Go.RowKit
structure Rooted (n : Nat) (σ : Fs) : Prop where
  root : ∃ b, lkF σ.files [] = some b ∧ (σ.node b).kind = 0
  up : ∀ p b, lkF σ.files p = some b → p ≠ [] → checkP p = 0 ∧ ∃ d, lkF σ.files (parentP p) = some d ∧ (σ.node d).kind = 0 ∧ baseP p ∈ (σ.node d).names
  len : σ.files.length ≤ n + 1
  named : ∀ d b, lkF σ.files d = some b → (σ.node b).kind = 0 → [] ∉ (σ.node b).names
theorem compsL_append (a b : Str) : compsL (a ++ 47 :: b) = compsL a ++ compsL b := by
  induction a with
  | nil => simp [compsL]
  | cons c a ih =>
    simp only [List.cons_append, compsL]
    by_cases h : c = 47
    · rw [if_pos h, if_pos h, ih]; rfl
    · rw [if_neg h, if_neg h, ih]
      cases hc : compsL a with
      | nil => exact absurd hc (compsL_ne a)
      | cons h t => rfl
theorem base_ne {p : Str} (h : checkP p = 0) : baseP p ≠ [] := fun hb => by
  have hj := (join_base h).1
  rw [hb] at hj
  have hbad : (compsL p).any badC = true := by
    rw [← hj]
    unfold joinP
    split
    · rfl
    · rw [compsL_append]
      simp [compsL, badC]
  unfold checkP at h
  split at h
  · cases h
  · first | (rw [if_pos hbad] at h; cases h) | cases h
theorem Rooted.mono {n m : Nat} {σ : Fs} (h : Rooted n σ) (hm : n ≤ m) : Rooted m σ := ⟨h.root, h.up, by have := h.len; omega, h.named⟩
theorem mem_ins_self {α : Type} (l : List α) (i : Nat) (x : α) : x ∈ insAt l i x := by simp [insAt]
theorem mem_ins_old {α : Type} {l : List α} (i : Nat) (x : α) {y : α} (h : y ∈ l) : y ∈ insAt l i x := by
  unfold insAt
  rw [← List.take_append_drop i l] at h
  rcases List.mem_append.1 h with h | h
  · exact List.mem_append_left _ h
  · exact List.mem_append_right _ (List.mem_cons_of_mem _ h)
theorem Ent.rooted {σ σ' : Fs} {p : Str} {t : Option Str} {k : Int} {pb b n : Nat} (h : Ent σ σ' p t k pb b) (hr : Rooted n σ) (hl : σ'.files.length ≤ n + 2) : Rooted (n + 1) σ' := by
  refine ⟨?_, fun q x hq hne => ?_, hl, fun d x hd hk hm => ?_⟩
  · obtain ⟨r, h1, h2⟩ := hr.root
    exact ⟨r, h.dir h1 h2⟩
  · have old : ∀ (d : Nat) (e : Str), lkF σ.files e = some d → (σ.node d).kind = 0 → ∀ s ∈ (σ.node d).names, s ∈ (σ'.node d).names := fun d e he hk s hs => by
      by_cases h1 : d = pb
      · subst h1
        rw [h.pnode.2]
        exact mem_ins_old _ _ hs
      · have h2 : d ≠ b := by
          rintro rfl
          have hi := h.it
          cases t with
          | none => exact hi.1 e he
          | some r => have := hi.2.1; omega
        rw [(h.other d h1 h2).2]
        exact hs
    rcases h.cases hq with ⟨rfl, rfl⟩ | ⟨_, ho⟩
    · refine ⟨h.ok, pb, (h.dir h.par.1 h.par.2).1, h.pnode.1, ?_⟩
      rw [h.pnode.2]
      exact mem_ins_self _ _ _
    · obtain ⟨h1, d, h2, h3, h4⟩ := hr.up q x ho hne
      exact ⟨h1, d, (h.dir h2 h3).1, (h.dir h2 h3).2, old d _ h2 h3 _ h4⟩
  · have hi := h.it
    rcases h.cases hd with ⟨rfl, rfl⟩ | ⟨_, ho⟩
    · cases t with
      | none => rw [hi.2.2] at hm; simp at hm
      | some r => have := hi.2.2.1; omega
    · by_cases h1 : x = pb
      · subst h1
        rw [h.pnode.2] at hm
        rcases ins_mem hm with h2 | h2
        · exact hr.named _ _ ho h.par.2 h2
        · exact base_ne h.ok h2.symm
      · have h2 : x ≠ b := by
          rintro rfl
          cases t with
          | none => exact hi.1 d ho
          | some r => have := hi.2.2.1; omega
        rw [(h.other x h1 h2).2] at hm
        rw [(h.other x h1 h2).1] at hk
        exact hr.named _ _ ho hk hm
theorem FsLike.rooted {σ σ' : Fs} {n : Nat} (h : FsLike σ σ') (hr : Rooted n σ) : Rooted n σ' := by
  refine ⟨?_, fun p b hp hne => ?_, by rw [h.files]; exact hr.len, fun d b hd hk => by rw [h.files] at hd; rw [(h.node b).1] at hk; rw [(h.node b).2]; exact hr.named d b hd hk⟩
  · obtain ⟨r, h1, h2⟩ := hr.root
    exact ⟨r, by rw [h.files]; exact h1, by rw [(h.node r).1]; exact h2⟩
  · rw [h.files] at hp ⊢
    obtain ⟨h1, d, h2, h3, h4⟩ := hr.up p b hp hne
    exact ⟨h1, d, h2, by rw [(h.node d).1]; exact h3, by rw [(h.node d).2]; exact h4⟩
theorem rooted_new (a b : Int) (r : List Int) (x : Nat) : Rooted 0 (newFs a b r x) := by
  refine ⟨⟨x, by simp [newFs, lkF], by simp [newFs, rootNd]⟩, fun p y hp hne => ?_, by simp [newFs], fun d b hd hk => by simp [newFs, rootNd]⟩
  simp only [newFs, lkF, if_neg hne] at hp
  cases hp
/-- A path goes ahead of what lies below it. -/
theorem lt_below (l : Str) (c : UInt8) (r : Str) : l < l ++ c :: r := by
  induction l with
  | nil => exact List.nil_lt_cons _ _
  | cons a l ih => exact List.cons_lt_cons_iff.2 (.inr ⟨rfl, ih⟩)
theorem join_lt {d : Str} (hd : d ≠ []) (s : Str) : d < joinP d s := by
  unfold joinP
  rw [if_neg hd]
  exact lt_below _ _ _
theorem join_parts {d s : Str} (hs : 47 ∉ s) : parentP (joinP d s) = d ∧ baseP (joinP d s) = s := by
  by_cases hd : d = []
  · subst hd
    have e : joinP [] s = s := by unfold joinP; rw [if_pos rfl]
    rw [e]
    rcases lastSl_spec s with ⟨h1, _⟩ | ⟨i, hi, _, h2, _⟩
    · exact ⟨by unfold parentP; rw [h1]; rfl, by unfold baseP; rw [h1]; rfl⟩
    · exact absurd (List.mem_of_getElem? h2) hs
  · have e : joinP d s = d ++ 47 :: s := by unfold joinP; rw [if_neg hd]
    have hl : lastSl (d ++ 47 :: s) = d.length := by
      refine lastSl_at (k := d.length) (by simp) (by simp) (fun j hj hlt h47 => ?_)
      rw [List.getElem_append_right (by omega)] at h47
      obtain ⟨m, hm⟩ : ∃ m, j - d.length = m + 1 := ⟨j - d.length - 1, by omega⟩
      have h9 : (47 :: s)[j - d.length]? = some 47 := by rw [List.getElem?_eq_getElem (by simp at hj ⊢; omega)]; exact congrArg some h47
      rw [hm, List.getElem?_cons_succ] at h9
      exact hs (List.mem_of_getElem? h9)
    rw [e]
    unfold parentP baseP
    rw [hl]
    refine ⟨?_, ?_⟩
    · rw [if_neg (by omega)]
      simp
    · rw [show ((d.length : Int) + 1).toNat = d.length + 1 by omega]
      simp [List.drop_append]
theorem join_inj {d s t : Str} (hs : 47 ∉ s) (ht : 47 ∉ t) (h : joinP d s = joinP d t) : s = t := by
  have h1 := (join_parts (d := d) hs).2
  rw [h, (join_parts ht).2] at h1
  exact h1.symm
/-- All paths but the root, in order. -/
structure PathsOf (σ : Fs) (V : List Str) : Prop where
  sorted : V.Pairwise (· < ·)
  mem : ∀ q, q ∈ V ↔ (q ≠ [] ∧ ∃ b, lkF σ.files q = some b)
structure Visit (σ : Fs) (V T : List Str) : Prop where
  vs : V.Pairwise (· < ·)
  vt : ∀ v ∈ V, ∀ t ∈ T, v < t
  tn : T.Nodup
  mem : ∀ q, q ∈ V ∨ q ∈ T → q ≠ [] ∧ ∃ b, lkF σ.files q = some b
  par : ∀ q ∈ T, parentP q = [] ∨ parentP q ∈ V
  clo : ∀ q b, lkF σ.files q = some b → q ≠ [] → (parentP q = [] ∨ parentP q ∈ V) → q ∈ V ∨ q ∈ T
theorem Visit.perm {σ : Fs} {V T T' : List Str} (h : Visit σ V T) (hp : T'.Perm T) : Visit σ V T' :=
  ⟨h.vs, fun v hv t ht => h.vt v hv t (hp.mem_iff.1 ht), hp.nodup_iff.2 h.tn, fun q hq => h.mem q (hq.imp id hp.mem_iff.1), fun q hq => h.par q (hp.mem_iff.1 hq), fun q b hb hne hpar => (h.clo q b hb hne hpar).imp id hp.mem_iff.2⟩
theorem Visit.short {σ : Fs} {V T : List Str} (h : Visit σ V T) : T.length ≤ σ.files.length := by
  have := List.Nodup.length_le_of_subset h.tn (l₂ := σ.files.map Prod.fst) (fun x hx => by
    obtain ⟨_, b, hb⟩ := h.mem x (.inr hx)
    exact List.mem_map.2 ⟨(x, b), lkF_mem hb, rfl⟩)
  simpa using this
theorem Visit.vnodup {σ : Fs} {V T : List Str} (h : Visit σ V T) : V.Nodup := h.vs.imp (fun hlt e => by subst e; exact slt_irrefl _ hlt)
theorem Visit.vshort {σ : Fs} {V T : List Str} (h : Visit σ V T) : V.length ≤ σ.files.length := by
  have := List.Nodup.length_le_of_subset h.vnodup (l₂ := σ.files.map Prod.fst) (fun x hx => by
    obtain ⟨_, b, hb⟩ := h.mem x (.inl hx)
    exact List.mem_map.2 ⟨(x, b), lkF_mem hb, rfl⟩)
  simpa using this
theorem Visit.both {σ : Fs} {V T : List Str} (h : Visit σ V T) : V.length + T.length ≤ σ.files.length := by
  have hn : (V ++ T).Nodup := List.nodup_append.2 ⟨h.vnodup, h.tn, fun a ha b hb e => by subst e; exact slt_irrefl _ (h.vt a ha a hb)⟩
  have := List.Nodup.length_le_of_subset hn (l₂ := σ.files.map Prod.fst) (fun x hx => by
    obtain ⟨_, b, hb⟩ := h.mem x (List.mem_append.1 hx)
    exact List.mem_map.2 ⟨(x, b), lkF_mem hb, rfl⟩)
  simpa using this
/-- What lies below a directory. -/
def kids (σ : Fs) (d : Str) (b : Nat) : List Str := (σ.node b).names.map (joinP d)
theorem kids_ok {σ : Fs} {n : Nat} (ht : Tidy σ) (hr : Rooted n σ) {d : Str} {b : Nat} (hb : lkF σ.files d = some b) (hk : (σ.node b).kind = 0) :
    (kids σ d b).Nodup ∧ ∀ q, q ∈ kids σ d b ↔ (q ≠ [] ∧ parentP q = d ∧ ∃ c, lkF σ.files q = some c) := by
  have hth := ht.there d b hb hk
  refine ⟨?_, fun q => ⟨fun hq => ?_, fun ⟨hne, hp, c, hc⟩ => ?_⟩⟩
  · have hs := ht.sorted d b hb hk
    unfold kids
    refine List.Pairwise.map _ ?_ (hs.imp_of_mem (S := fun x y => 47 ∉ x ∧ 47 ∉ y ∧ x ≠ y) (fun hx hy hlt => ⟨(hth _ hx).1, (hth _ hy).1, fun e => by subst e; exact slt_irrefl _ hlt⟩))
    rintro x y ⟨h1, h2, h3⟩ e
    exact h3 (join_inj h1 h2 e)
  · obtain ⟨s, hs, rfl⟩ := List.mem_map.1 hq
    obtain ⟨h1, c, hc⟩ := hth s hs
    refine ⟨fun e => ?_, (join_parts h1).1, c, hc⟩
    have h2 := (join_parts (d := d) h1).2
    rw [e] at h2
    exact hr.named d b hb hk (by rw [show ([] : Str) = s from h2]; exact hs)
  · obtain ⟨h1, d', h2, h3, h4⟩ := hr.up q c hc hne
    rw [hp, hb] at h2
    cases h2
    exact List.mem_map.2 ⟨baseP q, h4, by rw [← hp]; exact (join_base h1).1⟩
theorem Visit.first {σ : Fs} {n : Nat} (ht : Tidy σ) (hr : Rooted n σ) {b : Nat} (hb : lkF σ.files [] = some b) (hk : (σ.node b).kind = 0) : Visit σ [] (kids σ [] b) := by
  obtain ⟨h1, h2⟩ := kids_ok ht hr hb hk
  refine ⟨List.Pairwise.nil, fun v hv => by simp at hv, h1, fun q hq => ?_, fun q hq => .inl ((h2 q).1 hq).2.1, fun q c hc hne hp => .inr ((h2 q).2 ⟨hne, ?_, c, hc⟩)⟩
  · rcases hq with hq | hq
    · simp at hq
    · exact ⟨((h2 q).1 hq).1, ((h2 q).1 hq).2.2⟩
  · rcases hp with hp | hp
    · exact hp
    · simp at hp
/-- The least path is taken. -/
theorem Visit.taken {σ : Fs} {V R : List Str} {x : Str} (h : Visit σ V (x :: R)) (hx : ∀ y ∈ R, ¬ y < x) :
    (V ++ [x]).Pairwise (· < ·) ∧ (∀ v ∈ V ++ [x], ∀ t ∈ R, v < t) ∧ R.Nodup ∧ x ∉ V := by
  have hn := List.nodup_cons.1 h.tn
  have hxr : ∀ y ∈ R, x < y := fun y hy => slt_total (hx y hy) (fun e => by subst e; exact hn.1 hy)
  refine ⟨List.pairwise_append.2 ⟨h.vs, List.pairwise_singleton _ _, fun a ha b hb => ?_⟩, fun v hv t ht => ?_, hn.2, fun hm => slt_irrefl _ (h.vt x hm x (by simp))⟩
  · simp at hb; subst hb; exact h.vt a ha _ (by simp)
  · rcases List.mem_append.1 hv with hv | hv
    · exact h.vt v hv t (by simp [ht])
    · simp at hv; subst hv; exact hxr t ht
theorem Visit.leaf {σ : Fs} {n : Nat} (hr : Rooted n σ) {V R : List Str} {x : Str} {b : Nat} (h : Visit σ V (x :: R)) (hx : ∀ y ∈ R, ¬ y < x) (hb : lkF σ.files x = some b) (hk : (σ.node b).kind ≠ 0) : Visit σ (V ++ [x]) R := by
  obtain ⟨h1, h2, h3, h4⟩ := h.taken hx
  refine ⟨h1, h2, h3, fun q hq => h.mem q ?_, fun q hq => (h.par q (by simp [hq])).imp id (fun hv => List.mem_append_left _ hv), fun q c hc hne hp => ?_⟩
  · rcases hq with hq | hq
    · rcases List.mem_append.1 hq with hq | hq
      · exact .inl hq
      · exact .inr (by simp at hq; simp [hq])
    · exact .inr (by simp [hq])
  · have hp2 : parentP q = [] ∨ parentP q ∈ V := by
      rcases hp with hp | hp
      · exact .inl hp
      · rcases List.mem_append.1 hp with hp | hp
        · exact .inr hp
        · simp at hp
          obtain ⟨_, d, g2, g3, _⟩ := hr.up q c hc hne
          rw [hp, hb] at g2
          cases g2
          exact absurd g3 hk
    rcases h.clo q c hc hne hp2 with g | g
    · exact .inl (List.mem_append_left _ g)
    · rcases List.mem_cons.1 g with g | g
      · exact .inl (by simp [g])
      · exact .inr g
theorem Visit.dir {σ : Fs} {n : Nat} (ht : Tidy σ) (hr : Rooted n σ) {V R : List Str} {x : Str} {b : Nat} (h : Visit σ V (x :: R)) (hx : ∀ y ∈ R, ¬ y < x) (hb : lkF σ.files x = some b) (hk : (σ.node b).kind = 0) : Visit σ (V ++ [x]) (kids σ x b ++ R) := by
  obtain ⟨h1, h2, h3, h4⟩ := h.taken hx
  obtain ⟨k1, k2⟩ := kids_ok ht hr hb hk
  have hxne : x ≠ [] := (h.mem x (.inr (by simp))).1
  have hlt : ∀ q ∈ kids σ x b, x < q := fun q hq => by
    obtain ⟨s, _, rfl⟩ := List.mem_map.1 hq
    exact join_lt hxne s
  refine ⟨h1, fun v hv t ht2 => ?_, List.nodup_append.2 ⟨k1, h3, fun a ha c hc e => ?_⟩, fun q hq => ?_, fun q hq => ?_, fun q c hc hne hp => ?_⟩
  · rcases List.mem_append.1 ht2 with ht2 | ht2
    · rcases List.mem_append.1 hv with hv | hv
      · exact slt_trans (h.vt v hv x (by simp)) (hlt t ht2)
      · simp at hv; subst hv; exact hlt t ht2
    · exact h2 v hv t ht2
  · subst e
    rcases h.par a (by simp [hc]) with hp | hp
    · rw [((k2 a).1 ha).2.1] at hp; exact hxne hp
    · rw [((k2 a).1 ha).2.1] at hp; exact h4 hp
  · rcases hq with hq | hq
    · rcases List.mem_append.1 hq with hq | hq
      · exact h.mem q (.inl hq)
      · exact h.mem q (.inr (by simp at hq; simp [hq]))
    · rcases List.mem_append.1 hq with hq | hq
      · exact ⟨((k2 q).1 hq).1, ((k2 q).1 hq).2.2⟩
      · exact h.mem q (.inr (by simp [hq]))
  · rcases List.mem_append.1 hq with hq | hq
    · exact .inr (by rw [((k2 q).1 hq).2.1]; simp)
    · exact (h.par q (by simp [hq])).imp id (fun hv => List.mem_append_left _ hv)
  · have hold : (parentP q = [] ∨ parentP q ∈ V) → q ∈ V ++ [x] ∨ q ∈ kids σ x b ++ R := fun hp2 => by
      rcases h.clo q c hc hne hp2 with g | g
      · exact .inl (List.mem_append_left _ g)
      · rcases List.mem_cons.1 g with g | g
        · exact .inl (by simp [g])
        · exact .inr (List.mem_append_right _ g)
    rcases hp with hp | hp
    · exact hold (.inl hp)
    · rcases List.mem_append.1 hp with hp | hp
      · exact hold (.inr hp)
      · simp at hp
        exact .inr (List.mem_append_left _ ((k2 q).2 ⟨hne, hp, c, hc⟩))
theorem par_short {p : Str} (h : p ≠ []) : (parentP p).length < p.length := by
  rcases lastSl_spec p with ⟨h1, _⟩ | ⟨i, hi, h1, _, _⟩
  · have : parentP p = [] := by unfold parentP; rw [h1]; rfl
    rw [this]
    exact List.length_pos_iff.2 h
  · have : parentP p = p.take i := by unfold parentP; rw [h1, if_neg (by omega)]; rfl
    rw [this, List.length_take]
    omega
theorem Visit.done {σ : Fs} {n : Nat} (hr : Rooted n σ) {V : List Str} (h : Visit σ V []) : PathsOf σ V := by
  refine ⟨h.vs, fun q => ⟨fun hq => h.mem q (.inl hq), fun ⟨hne, b, hb⟩ => ?_⟩⟩
  have key : ∀ (k : Nat) (q : Str) (b : Nat), q.length ≤ k → q ≠ [] → lkF σ.files q = some b → q ∈ V := by
    intro k
    induction k with
    | zero => intro q b hk hne _; exact absurd (List.eq_nil_of_length_eq_zero (by omega)) hne
    | succ k ih =>
      intro q b hk hne hb
      obtain ⟨_, d, h2, h3, _⟩ := hr.up q b hb hne
      have hp : parentP q = [] ∨ parentP q ∈ V := by
        by_cases e : parentP q = []
        · exact .inl e
        · exact .inr (ih (parentP q) d (by have := par_short hne; omega) e h2)
      rcases h.clo q b hb hne hp with g | g
      · exact g
      · simp at g
  exact key q.length q b (Nat.le_refl _) hne hb
end Go.Pax
namespace Go.Proofs.YtfhiioopimmahaaGreatDoor
open Go.RowKit Go.Pax Go.Shelf
theorem next_rooted {n : Nat} {σ σ' : Fs} {a : AAct} (hr : Rooted n σ) (h0 : doE σ a = 0) (hN : Next σ (Fresh σ) a σ') : Rooted (n + 1) σ' := by
  unfold Next at hN
  unfold doE at h0
  have hl := hr.len
  by_cases h3 : 0 ≤ a.kind ∧ a.kind ≤ 3
  · rw [if_pos h3] at hN h0
    obtain ⟨pb, b, hpb, hb, rfl⟩ := hN
    exact (ent_made (make_parts h0).1 (make_parts h0).2 hpb hb (nd := newNd σ (mkK a) (mkM a) (mkT a) (mkD a)) rfl).rooted hr (by show (σ.files ++ [_]).length ≤ _; rw [List.length_append]; simp; omega)
  · rw [if_neg h3] at hN h0
    by_cases h4 : a.kind = 4
    · rw [if_pos h4] at hN h0
      obtain ⟨pb, b, hpb, hb, rfl⟩ := hN
      obtain ⟨g1, g2, g3⟩ := link_parts h0
      exact (ent_linked g1 g2 hpb hb (g3 b hb)).rooted hr (by show (σ.files ++ [_]).length ≤ _; rw [List.length_append]; simp; omega)
    · rw [if_neg h4] at hN
      by_cases h5 : a.kind = 5
      · rw [if_pos h5] at hN
        obtain ⟨b, hb, rfl⟩ := hN
        have alike : FsLike σ (setNode σ b { σ.node b with uid := a.mode, mtime := a.data.length }) := ⟨rfl, fun i => by
          show (if i = b then ({ σ.node b with uid := a.mode, mtime := a.data.length } : Nd) else σ.node i).kind = _ ∧ (if i = b then ({ σ.node b with uid := a.mode, mtime := a.data.length } : Nd) else σ.node i).names = _
          split
          · rename_i e; rw [e]; exact ⟨rfl, rfl⟩
          · exact ⟨rfl, rfl⟩⟩
        exact (alike.rooted hr).mono (by omega)
      · rw [if_neg h5] at hN
        subst hN
        exact hr.mono (by omega)
end Go.Proofs.YtfhiioopimmahaaGreatDoor
namespace Go.Pax
open Go.RowKit
def gx (L : List Str) (k : Nat) : Str := L.getD k []
theorem gx_eq {L : List Str} {k : Nat} (h : k < L.length) : gx L k = L[k] := by simp [gx, List.getElem?_eq_getElem h]
def sw (L : List Str) (i j : Nat) : List Str := (L.set i (gx L j)).set j (gx L i)
theorem sw_length (L : List Str) (i j : Nat) : (sw L i j).length = L.length := by simp [sw]
theorem sw_get {L : List Str} {i j : Nat} (hi : i < L.length) (hj : j < L.length) (k : Nat) : gx (sw L i j) k = if k = j then gx L i else if k = i then gx L j else gx L k := by
  unfold gx sw
  rw [List.getD_eq_getElem?_getD, List.getElem?_set]
  by_cases h1 : k = j
  · subst h1
    rw [if_pos rfl, if_pos (by simpa using hj), if_pos rfl]
    rfl
  · rw [if_neg (Ne.symm h1), if_neg h1, List.getElem?_set]
    by_cases h2 : k = i
    · subst h2
      rw [if_pos rfl, if_pos hi, if_pos rfl]
      rfl
    · rw [if_neg (Ne.symm h2), if_neg h2, ← List.getD_eq_getElem?_getD]
theorem sw_perm {L : List Str} {i j : Nat} (hi : i < L.length) (hj : j < L.length) : (sw L i j).Perm L := by
  unfold sw
  rw [gx_eq hi, gx_eq hj]
  exact List.set_set_perm hi hj
theorem sw_gx {L : List Str} {i j : Nat} (hi : i < L.length) (hj : j < L.length) {k : Nat} (h1 : k ≠ j) (h2 : k ≠ i) : gx (sw L i j) k = gx L k := by rw [sw_get hi hj, if_neg h1, if_neg h2]
theorem sw_i {L : List Str} {i j : Nat} (hi : i < L.length) (hj : j < L.length) : gx (sw L i j) i = gx L j := by
  rw [sw_get hi hj]
  by_cases h : i = j
  · rw [if_pos h, h]
  · rw [if_neg h, if_pos rfl]
theorem sw_j {L : List Str} {i j : Nat} (hi : i < L.length) (hj : j < L.length) : gx (sw L i j) j = gx L i := by rw [sw_get hi hj, if_pos rfl]
theorem nlt_trans {a b c : Str} (h : ¬ a < b) (k : ¬ b < c) : ¬ a < c := fun g => by
  rcases Classical.em (b = c) with e | e
  · subst e; exact h g
  · exact h (slt_trans g (slt_total k e))
theorem nlt_of {a b : Str} (h : a < b) : ¬ b < a := fun g => slt_irrefl a (slt_trans h g)
def HeapN (L : List Str) (n : Nat) : Prop := ∀ k, 0 < k → k < n → ¬ gx L k < gx L ((k - 1) / 2)
def UpAt (L : List Str) (j : Nat) : Prop :=
  (∀ k, 0 < k → k < L.length → k ≠ j → ¬ gx L k < gx L ((k - 1) / 2)) ∧ (0 < j → ∀ k, 0 < k → k < L.length → (k - 1) / 2 = j → ¬ gx L k < gx L ((j - 1) / 2))
theorem UpAt.stop {L : List Str} {j : Nat} (h : UpAt L j) (hj : j = 0 ∨ ¬ gx L j < gx L ((j - 1) / 2)) : HeapN L L.length := fun k h0 hk => by
  by_cases e : k = j
  · rcases hj with e2 | e2
    · omega
    · rw [e]; exact e2
  · exact h.1 k h0 hk e
theorem UpAt.step {L : List Str} {i j : Nat} (h : UpAt L j) (h0 : 0 < j) (hj : j < L.length) (hi : (j - 1) / 2 = i) (hlt : gx L j < gx L i) : UpAt (sw L i j) i := by
  have hil : i < L.length := by omega
  have hij : i < j := by omega
  refine ⟨fun k hk0 hk hki => ?_, fun hi0 k hk0 hk hp => ?_⟩
  · rw [sw_length] at hk
    by_cases e : k = j
    · subst e
      rw [hi, sw_j hil hj, sw_i hil hj]
      exact nlt_of hlt
    · rw [sw_gx hil hj e hki]
      by_cases e1 : (k - 1) / 2 = j
      · rw [e1, sw_j hil hj, ← hi]
        exact h.2 h0 k hk0 hk e1
      · by_cases e2 : (k - 1) / 2 = i
        · rw [e2, sw_i hil hj]
          have := h.1 k hk0 hk e
          rw [e2] at this
          exact fun g => this (slt_trans g hlt)
        · rw [sw_gx hil hj e1 e2]
          exact h.1 k hk0 hk e
  · rw [sw_length] at hk
    rw [sw_gx hil hj (k := (i - 1) / 2) (by omega) (by omega)]
    have hii := h.1 i hi0 hil (by omega)
    by_cases e : k = j
    · subst e
      rw [sw_j hil hj]
      exact hii
    · rw [sw_gx hil hj e (by omega)]
      have := h.1 k hk0 hk e
      rw [hp] at this
      exact nlt_trans this hii
def DownAt (L : List Str) (i n : Nat) : Prop :=
  (∀ k, 0 < k → k < n → (k - 1) / 2 ≠ i → ¬ gx L k < gx L ((k - 1) / 2)) ∧ (0 < i → ∀ k, 0 < k → k < n → (k - 1) / 2 = i → ¬ gx L k < gx L ((i - 1) / 2))
theorem DownAt.leaf {L : List Str} {i n : Nat} (h : DownAt L i n) (hn : n ≤ 2 * i + 1) : HeapN L n := fun k h0 hk => h.1 k h0 hk (by omega)
theorem DownAt.stop {L : List Str} {i j n : Nat} (h : DownAt L i n) (hm : ∀ k, 0 < k → k < n → (k - 1) / 2 = i → ¬ gx L k < gx L j) (hji : ¬ gx L j < gx L i) : HeapN L n := fun k h0 hk => by
  by_cases e : (k - 1) / 2 = i
  · rw [e]; exact nlt_trans (hm k h0 hk e) hji
  · exact h.1 k h0 hk e
theorem DownAt.step {L : List Str} {i j n : Nat} (h : DownAt L i n) (h0 : 0 < j) (hj : j < n) (hn : n ≤ L.length) (hp : (j - 1) / 2 = i) (hm : ∀ k, 0 < k → k < n → (k - 1) / 2 = i → ¬ gx L k < gx L j) (hlt : gx L j < gx L i) : DownAt (sw L i j) j n := by
  have hjl : j < L.length := by omega
  have hil : i < L.length := by omega
  have hij : i < j := by omega
  refine ⟨fun k hk0 hk hne => ?_, fun _ k hk0 hk hpk => ?_⟩
  · by_cases e : k = j
    · subst e
      rw [hp, sw_j hil hjl, sw_i hil hjl]
      exact nlt_of hlt
    · by_cases e1 : k = i
      · subst e1
        rw [sw_i hil hjl, sw_gx hil hjl (k := (k - 1) / 2) (by omega) (by omega)]
        exact h.2 hk0 j h0 hj hp
      · rw [sw_gx hil hjl e e1]
        by_cases e2 : (k - 1) / 2 = i
        · rw [e2, sw_i hil hjl]
          exact hm k hk0 hk e2
        · rw [sw_gx hil hjl hne e2]
          exact h.1 k hk0 hk e2
  · rw [hp, sw_i hil hjl, sw_gx hil hjl (by omega) (by omega)]
    have := h.1 k hk0 hk (by omega)
    rw [hpk] at this
    exact this
theorem HeapN.least {L : List Str} {n : Nat} (h : HeapN L n) : ∀ k, k < n → ¬ gx L k < gx L 0 := by
  intro k
  induction k using Nat.strongRecOn with
  | ind k ih =>
    intro hk
    by_cases e : k = 0
    · subst e; exact slt_irrefl _
    · exact nlt_trans (h k (by omega) hk) (ih ((k - 1) / 2) (by omega) (by omega))
theorem HeapN.popped {L : List Str} {n : Nat} (h : HeapN L (n + 1)) (hn : L.length = n + 1) : DownAt (sw L 0 n) 0 n := by
  refine ⟨fun k h0 hk hp => ?_, fun h0 => by omega⟩
  rw [sw_gx (by omega) (by omega) (by omega) (by omega), sw_gx (by omega) (by omega) (by omega) (by omega)]
  exact h k h0 (by omega)
theorem HeapN.nil : HeapN [] 0 := fun k _ h => by omega
theorem HeapN.pushed {L : List Str} (h : HeapN L L.length) (x : Str) : UpAt (L ++ [x]) L.length := by
  have hg : ∀ k, k < L.length → gx (L ++ [x]) k = gx L k := fun k hk => by simp [gx, List.getElem?_append_left hk]
  refine ⟨fun k h0 hk hne => ?_, fun _ k h0 hk hp => ?_⟩
  · simp at hk
    rw [hg k (by omega), hg _ (by omega)]
    exact h k h0 (by omega)
  · simp at hk
    omega
theorem HeapN.take {L : List Str} {n : Nat} (h : HeapN L n) (hn : n ≤ L.length) : HeapN (L.take n) (L.take n).length := fun k h0 hk => by
  rw [List.length_take, Nat.min_eq_left hn] at hk
  have hg : ∀ k, k < n → gx (L.take n) k = gx L k := fun k hk => by simp [gx, hk]
  rw [hg k hk, hg _ (by omega)]
  exact h k h0 hk
end Go.Pax
namespace Go.Proofs.YtfhiioopimmahaaGreatDoor
open Go.RowKit Go.Pax Go.Shelf
set_option maxHeartbeats 1000000 in
theorem joinS (w : World) (d s : Str) (hd : d.length ≤ 1000000) (hs : s.length ≤ 1000000) : Calls Tryz.prog 71 #[.string (ba d), .string (ba s)] w fun e w' => e = .returned (.string (ba (joinP d s))) ∧ w' = w := by
  have hz1 : (ba d).size ≤ 1000000 := by rw [ba_size]; exact hd
  have hz2 : (ba s).size ≤ 1000000 := by rw [ba_size]; exact hs
  have hj : ba (joinP d s) = if d = [] then ba s else ba d ++ ⟨#[47]⟩ ++ ba s := by
    unfold joinP
    split
    · rfl
    · apply ByteArray.ext; simp [ba]
  by_cases h0 : d = []
  · rw [if_pos h0] at hj
    have hb : ba d = ⟨#[]⟩ := by rw [h0]; rfl
    rw [hj, hb]
    clear hj hb hz1
    generalize ba s = S at *
    go_enter Tryz.func71, Tryz.ntmps71
    go_wp2_with fail
    go_ret
    exact ⟨rfl, rfl⟩
  · rw [if_neg h0] at hj
    have hb : (ba d).toList.isEmpty = false := by rw [ba_tl]; simpa using h0
    rw [hj]
    clear hj
    generalize ba s = S at *
    generalize ba d = D at *
    go_enter Tryz.func71, Tryz.ntmps71
    go_wp2_with fail
    go_ret
    exact ⟨rfl, rfl⟩
set_option maxHeartbeats 1000000 in
theorem isNaNS (x : ByteArray) (w : World) : Calls Tryz.prog 79 #[.string x] w fun e w' => e = .returned (.bool false) ∧ w' = w := by
  go_enter Tryz.func79, Tryz.ntmps79
  go_wp2
  go_ret
  exact ⟨by simp, rfl⟩
end Go.Proofs.YtfhiioopimmahaaGreatDoor
namespace Go.Proofs.YtfhiioopimmahaaGreatDoor
open Go.RowKit Go.Pax Go.Shelf
theorem add_at (g m : Nat) : ((⟨g, 0, none⟩ : Addr).add m) = ⟨g, m, none⟩ := by
  unfold Addr.add
  split
  · rename_i e; rw [e]
  · simp
/-- A store into a row. -/
theorem own_set {w : World} {base : Nat} {e : TypeId} {g n c : Nat} {xs : List Value} (h : w.ownsRow base e 1 (.slice (some ⟨g, 0, none⟩) n c) n xs) (j : Nat) (v : Value) : (w.setCell ⟨g, j, none⟩ v).ownsRow base e 1 (.slice (some ⟨g, 0, none⟩) n c) n (xs.set j v) := by
  rcases h.2 with ⟨hv, _⟩ | ⟨g', cap, cur, hv, hb, hg, hn, hm, hs, ht⟩
  · cases hv
  simp only [Value.slice.injEq, Option.some.injEq, Addr.mk.injEq] at hv
  obtain ⟨⟨rfl, _⟩, _, rfl⟩ := hv
  refine ⟨by rw [List.length_set]; exact h.1, .inr ⟨g, c, cur.setIfInBounds j v, rfl, hb, heap_set hg _ _ rfl, hn, hm, by rw [Array.size_setIfInBounds, hs], ?_⟩⟩
  rw [Array.toList_setIfInBounds, ← ht, List.take_set]
theorem own_at {w : World} {base : Nat} {e : TypeId} {ao : Option Addr} {n c : Nat} {xs : List Value} (h : w.ownsRow base e 1 (.slice ao n c) n xs) (h0 : 0 < n) : ∃ g, ao = some ⟨g, 0, none⟩ ∧ base ≤ g ∧ n ≤ c ∧ (∀ j, w.frozen? ⟨g, j, none⟩ = false) ∧ ∀ j v, xs[j]? = some v → w.cell? ⟨g, j, none⟩ = some v := by
  rcases h.2 with ⟨hv, h1⟩ | ⟨g', cap, cur, hv, hb, hg, hn, hm, hs, ht⟩
  · omega
  have hh := h
  simp only [Value.slice.injEq] at hv
  obtain ⟨rfl, _, rfl⟩ := hv
  exact ⟨g', rfl, hb, hn, fun j => frozen_of_row _ _ _ _ _ hg, fun j v hv => by have := hh.cells (g := g') rfl j v hv; rw [add_at] at this; exact this⟩
theorem own_keepS {w w' : World} {S : List Nat} {base size : Nat} {e : TypeId} {v : Value} {n : Nat} {xs : List Value} (h : w.ownsRow base e size v n xs) (k : Chg S w w') (hd : ∀ g, v.ownBlock = some g → g ∉ S) : w'.ownsRow base e size v n xs := by
  refine ⟨h.1, ?_⟩
  rcases h.2 with hn | ⟨g, cap, cur, hv, hb, hg, rest⟩
  · exact .inl hn
  · exact .inr ⟨g, cap, cur, hv, hb, k.heap hg (hd g (by subst hv; simp [Value.ownBlock])), rest⟩
theorem own_rdS {w : World} {base size : Nat} {e : TypeId} {v : Value} {n : Nat} {xs : List Value} (h : w.ownsRow base e size v n xs) : ∃ ao c, v = .slice ao n c ∧ n ≤ c ∧ Rd w v.ownBlock.toList ao xs := by
  rcases h.2 with ⟨hv, h0⟩ | ⟨g, cap, cur, hv, hb, hg, hn, hm, hs, ht⟩
  · subst hv h0
    have hx : xs = [] := List.eq_nil_of_length_eq_zero (by rw [h.1]; simp)
    subst hx
    exact ⟨none, 0, rfl, Nat.le_refl _, Rd.nil _ _ _⟩
  · subst hv
    exact ⟨some ⟨g, 0, none⟩, cap, rfl, hn, fun j u hu => ⟨_, rfl, by simp [Value.ownBlock], h.cells (g := g) rfl j u hu⟩⟩
def Fld (w : World) (ao : Option Addr) (xs : List Value) : Prop := ∀ j k u, xs[j + k]? = some u → ∃ a, ao = some a ∧ w.cell? ⟨(a.add j).block, (a.add j).off + k, none⟩ = some u
theorem own_fld {w : World} {base size : Nat} {e : TypeId} {ao : Option Addr} {n c : Nat} {xs : List Value} (h : w.ownsRow base e size (.slice ao n c) n xs) : Fld w ao xs := fun j k u hu => by
  rcases h.2 with ⟨hv, h0⟩ | ⟨g, cap, cur, hv, hb, hg, hn, hm, hs, ht⟩
  · subst h0
    have hx : xs = [] := List.eq_nil_of_length_eq_zero (by rw [h.1]; simp)
    subst hx
    simp at hu
  · have h1 := h
    simp only [Value.slice.injEq] at hv
    obtain ⟨rfl, _, rfl⟩ := hv
    refine ⟨_, rfl, ?_⟩
    have h2 := h1.cells (g := g) rfl (j + k) u hu
    have e1 : ∀ m, ((⟨g, 0, none⟩ : Addr).add m) = ⟨g, m, none⟩ := fun m => by
      unfold Addr.add
      split
      · rename_i e; rw [e]
      · simp
    rw [e1] at h2 ⊢
    exact h2
theorem own_blockS {w : World} {base size : Nat} {e : TypeId} {v : Value} {n : Nat} {xs : List Value} (h : w.ownsRow base e size v n xs) {g : Nat} (hg : v.ownBlock = some g) : ∃ c, w.heap[g]? = some (.cells c e (0, 0)) := by
  rcases h.2 with ⟨rfl, _⟩ | ⟨g', cap, cur, rfl, _, hh, _⟩
  · simp [Value.ownBlock] at hg
  · simp [Value.ownBlock] at hg; subst hg; exact ⟨cur, hh⟩
theorem grown_at {w0 w w1 : World} {base : Nat} {e : TypeId} {size n : Nat} {v v' : Value} {xs : List Value} (h : v'.ownBlock = v.ownBlock ∨ v'.ownBlock = some w.heap.size) (hown : w1.ownsRow base e size v' n xs) (h0 : w0.heap.size ≤ w.heap.size) : v'.ownBlock = v.ownBlock ∨ ∃ g, v'.ownBlock = some g ∧ w0.heap.size ≤ g ∧ g < w1.heap.size := by
  rcases h with h | h
  · exact .inl h
  · obtain ⟨c, hc⟩ := own_blockS hown h
    exact .inr ⟨_, h, h0, lt_of_block hc⟩
end Go.Proofs.YtfhiioopimmahaaGreatDoor
namespace Go.Proofs.YtfhiioopimmahaaGreatDoor
open Go.RowKit Go.Pax Go.Shelf
theorem svn_get {L : List Str} {k : Nat} (h : k < L.length) : (svn L)[k]? = some (.string (ba (gx L k))) := by
  rw [gx_eq h]; unfold svn; rw [sv_get _ _ (by simpa using h)]; simp
theorem ba_less (a b : Str) : Op.bytesLess (ba a).toList (ba b).toList = decide (a < b) := by rw [Go.Proofs.bytesLess_eq, ba_tl, ba_tl]
set_option maxHeartbeats 1000000 in
theorem hlen (w : World) (ao : Option Addr) (n c : Nat) : Calls Tryz.prog 119 #[.slice ao n c] w fun e w' => e = .returned (.int .i64 n) ∧ w' = w := by
  go_enter Tryz.func119, Tryz.ntmps119
  go_wp2_with fail
  go_ret
  exact ⟨rfl, rfl⟩
set_option maxHeartbeats 2000000 in
theorem hless (w : World) (ao : Option Addr) (n c : Nat) (fp : List Nat) (L : List Str) (hL : L.length = n) (h : Rd w fp ao (svn L)) (i j : Nat) (hi : i < n) (hj : j < n) :
    Calls Tryz.prog 182 #[.slice ao n c, .int .i64 i, .int .i64 j] w fun e w' => e = .returned (.bool (decide (gx L i < gx L j))) ∧ ∃ q, w' = w.drewN q := by
  obtain ⟨ad, rfl, _, d1⟩ := h i _ (svn_get (by omega))
  obtain ⟨ad2, he, _, d2⟩ := h j _ (svn_get (by omega))
  cases he
  rw [← ba_less]
  clear h
  generalize ba (gx L i) = X at *
  generalize ba (gx L j) = Y at *
  go_enter Tryz.func182, Tryz.ntmps182
  go_upto_region 1 with (fail)
  go_quiet (fail)
  go_wp2_with fail
  go_ret
  exact ⟨rfl, _, rfl⟩
theorem own_sw {w : World} {base : Nat} {g n c : Nat} {L : List Str} (h : w.ownsRow base 9 1 (.slice (some ⟨g, 0, none⟩) n c) n (svn L))  (i j : Nat) :
    ((w.setCell ⟨g, i, none⟩ (.string (ba (gx L j)))).setCell ⟨g, j, none⟩ (.string (ba (gx L i)))).ownsRow base 9 1 (.slice (some ⟨g, 0, none⟩) n c) n (svn (sw L i j)) := by
  have h2 := own_set (own_set h i (.string (ba (gx L j)))) j (.string (ba (gx L i)))
  have e : svn (sw L i j) = ((svn L).set i (.string (ba (gx L j)))).set j (.string (ba (gx L i))) := by simp [svn, sv, sw, List.map_set]
  rw [e]
  exact h2
set_option maxRecDepth 100000 in
set_option maxHeartbeats 4000000 in
theorem hswap (w : World) (base : Nat) (v : Value) (n : Nat) (L : List Str) (hL : L.length = n) (h : w.ownsRow base 9 1 v n (svn L)) (i j : Nat) (hi : i < n) (hj : j < n) (hn : n ≤ 140737488355328) :
    Calls Tryz.prog 183 #[v, .int .i64 i, .int .i64 j] w fun e w' => e = .returned (.tuple #[]) ∧ w'.ownsRow base 9 1 v n (svn (sw L i j)) ∧ Chg v.ownBlock.toList w w' := by
  obtain ⟨ao, c, rfl⟩ := own_shape h
  obtain ⟨g, rfl, hg1, hg2, hfz, hcl⟩ := own_at h (by omega)
  have d1 := hcl i _ (svn_get (by omega))
  have d2 := hcl j _ (svn_get (by omega))
  have f1 := hfz i
  have f2 := hfz j
  have hs1 := own_set h i (.string (ba (gx L j)))
  obtain ⟨g', hge, _, _, hfz', hcl'⟩ := own_at hs1 (by omega)
  cases hge
  have f3 := hfz' j
  obtain ⟨v3, d3⟩ : ∃ v, (w.setCell ⟨g, i, none⟩ (.string (ba (gx L j)))).cell? ⟨g, j, none⟩ = some v := ⟨_, hcl' j _ (List.getElem?_eq_getElem (by rw [List.length_set, svn_length]; omega))⟩
  have HS := Lib.hid (And.intro (own_sw h i j) (((Chg.refl [g] w).setCell (p := ⟨g, i, none⟩) (fun _ => by simp) (.string (ba (gx L j)))).setCell (p := ⟨g, j, none⟩) (fun _ => by simp) (.string (ba (gx L i)))))
  clear hcl hcl' hfz hfz' hs1 h hL
  generalize sw L i j = L2 at *
  generalize ba (gx L i) = X at *
  generalize ba (gx L j) = Y at *
  go_enter Tryz.func183, Tryz.ntmps183
  go_region_with fail
  all_goals (go_end0; exact ⟨rfl, HS.out.1, HS.out.2.drew⟩)
end Go.Proofs.YtfhiioopimmahaaGreatDoor
namespace Go.Pax
open Go Go.RowKit
section
variable {P : Program} {ops : Array Oper} {Q : Exit → Act → World → Prop} {md : Region.Mode} {S : World → Prop} {m : Nat}
def wpAnyE (P : Program) (md : Region.Mode) (ops : Array Oper) (Q : Exit → Act → World → Prop) (S : World → Prop) (m : Nat) : Nat → Array Bool → Act → World → Prop
  | 0, listed, a, w => Region.ready md ops listed = [] ∧ Q .normal a w
  | fuel + 1, listed, a, w =>
    (Region.ready md ops listed = [] → Q .normal a w) ∧
    ∀ i ∈ Region.ready md ops listed, wpOp P ops Q i (fun a' w' => (i = m ∨ S w') ∧ wpAnyE P md ops Q S m fuel (listed.setIfInBounds i true) a' w') a w
theorem wpAny_of_E : ∀ (fuel : Nat) (listed : Array Bool) (a : Act) (w : World), wpAnyE P md ops Q S m fuel listed a w → wpAny P md ops Q fuel listed a w
  | 0, _, _, _, h => h
  | fuel + 1, _, _, _, h => ⟨h.1, fun i hi => wpOp_mono (fun a' w' h' => wpAny_of_E fuel _ a' w' h'.2) (h.2 i hi)⟩
/-- Operation j waits for operation i. -/
def waits (md : Region.Mode) (ops : Array Oper) (j i : Nat) : Bool := match ops[j]? with
  | some o => o.after.any fun e => Region.binds md e && e.on == i
  | none => false
theorem not_ready {listed : Array Bool} {i j : Nat} (hw : waits md ops j i = true) (hi : i ∈ Region.ready md ops listed) : j ∉ Region.ready md ops listed := fun hj => by
  obtain ⟨_, oj, hoj, hall⟩ := mem_ready.1 hj
  unfold waits at hw
  rw [hoj] at hw
  simp only [Array.any_eq_true'] at hw
  obtain ⟨e, he, hb⟩ := hw
  simp only [Bool.and_eq_true, beq_iff_eq] at hb
  have h1 := hall e he hb.1
  have h0 := (mem_ready.1 hi).1
  rw [hb.2] at h1
  rcases Nat.lt_or_ge i listed.size with h' | h'
  · simp [h'] at h0 h1; rw [h0] at h1; cases h1
  · simp [Array.getElem?_eq_none h'] at h1
theorem wpAnyE_first {i : Nat} {oi : Oper} {v : Value} (hi : ops[i]? = some oi) (hsel : ∀ (j : Nat) (o : Oper) cs b, ops[j]? = some o → o.op ≠ .select cs b)
    (hQ : ∀ c a w, Q (.panic c) (a.put oi.dst v) w → Q (.panic c) a w) (hwm : waits md ops m i = true) :
    ∀ (fuel : Nat) (listed : Array Bool) (a : Act) (w : World),
      (∀ j oj, ops[j]? = some oj → j ≠ i → listed.getD j true = false → (∀ e ∈ oj.after, Region.binds md e = true → e.on ≠ i) → oi.apart ops oj = true) →
      i ∈ Region.ready md ops listed → YieldsIf P ops S oi v a → S w →
      wpAnyE P md ops Q S m fuel (listed.setIfInBounds i true) (a.put oi.dst v) w → wpAnyE P md ops Q S m (fuel + 1) listed a w := by
  intro fuel
  induction fuel with
  | zero =>
    intro listed a w _ hr hy hS H
    refine ⟨fun h => (by rw [h] at hr; cases hr), fun j hj => ?_⟩
    by_cases hji : j = i
    · subst hji; exact hy.wpOp hi hS ⟨.inr hS, H⟩
    · have := ready_mono hj hji
      rw [H.1] at this
      cases this
  | succ fuel ih =>
    intro listed a w hfree hr hy hS H
    refine ⟨fun h => (by rw [h] at hr; cases hr), fun j hj => ?_⟩
    by_cases hji : j = i
    · subst hji; exact hy.wpOp hi hS ⟨.inr hS, H⟩
    · have hjm : j ≠ m := fun e => not_ready hwm hr (e ▸ hj)
      have h1 := H.2 j (ready_mono hj hji)
      obtain ⟨hjun, oj, hoj, hall⟩ := mem_ready.1 hj
      have hnot : ∀ e ∈ oj.after, Region.binds md e = true → e.on ≠ i := fun e he hb heq => by
        have h1 := hall e he hb
        have h0 := (mem_ready.1 hr).1
        rw [heq] at h1
        rcases Nat.lt_or_ge i listed.size with h' | h'
        · simp [h'] at h0 h1; rw [h0] at h1; cases h1
        · simp [Array.getElem?_eq_none h'] at h1
      have h2 := wpOp_putIf hoj (hfree j oj hoj hji hjun hnot) (fun cs b => hsel i oi cs b hi) (fun cs b => hsel j oj cs b hoj) hQ hy h1
      have hfree' : ∀ k ok, ops[k]? = some ok → k ≠ i → (listed.setIfInBounds j true).getD k true = false →
          (∀ e ∈ ok.after, Region.binds md e = true → e.on ≠ i) → oi.apart ops ok = true := fun k ok hk hki hun hno => by
        refine hfree k ok hk hki ?_ hno
        by_cases hjk : j = k
        · subst hjk; exact hjun
        · rw [getD_set_ne true hjk] at hun; exact hun
      refine wpOp_mono (fun a' w' h3 => ?_) h2
      have hS' : S w' := h3.2.1.resolve_left hjm
      refine ⟨.inr hS', ih (listed.setIfInBounds j true) a' w' hfree' (ready_mono hr (Ne.symm hji)) h3.1 hS' ?_⟩
      rw [Array.setIfInBounds_comm _ _ hji]
      exact h3.2.2
theorem wpAnyE_take {i : Nat} {oi : Oper} {v : Value} {fuel : Nat} {listed : Array Bool} {a : Act} {w : World} (hi : ops[i]? = some oi)
    (hs : Region.noSelect ops = true) (hf : Region.free md ops listed i = true) (hr : (Region.ready md ops listed).contains i = true) (hwm : waits md ops m i = true)
    (hQ : ∀ c a w, Q (.panic c) (a.put oi.dst v) w → Q (.panic c) a w) (hy : YieldsIf P ops S oi v a) (hS : S w)
    (h : wpAnyE P md ops Q S m fuel (listed.setIfInBounds i true) (a.put oi.dst v) w) : wpAnyE P md ops Q S m (fuel + 1) listed a w :=
  wpAnyE_first hi (Region.noSelect_spec hs) hQ hwm fuel listed a w (Region.free_spec hi hf) (by simpa using hr) hy hS h
/-- One operation alone may come up. -/
theorem wpAnyE_ready {i : Nat} {o : Oper} {fuel : Nat} {listed : Array Bool} {a : Act} {w : World} (hr : Region.ready md ops listed = [i]) (ho : ops[i]? = some o)
    (h : ∀ K' : Act → World → Prop, Shut (∀ a w, (i = m ∨ S w) → (i = m ∨ S w → wpAnyE P md ops Q S m fuel (listed.setIfInBounds i true) a w) → K' a w) → if Region.wanted o (yielded ops a.tmps) = true then Oper.wp P o a w K' Q else K' (a.put o.dst undef) w) : wpAnyE P md ops Q S m (fuel + 1) listed a w :=
  ⟨fun h0 => (by rw [hr] at h0; cases h0), by
    rw [hr]
    intro j hj
    simp at hj
    subst hj
    exact wpOp_step ho (fun K' hK => h K' (fun a w hS hW => hK a w ⟨hS, hW hS⟩))⟩
theorem wpAnyE_done {listed : Array Bool} {a : Act} {w : World} (hr : Region.ready md ops listed = []) (h : Q .normal a w) : ∀ fuel, wpAnyE P md ops Q S m fuel listed a w
  | 0 => ⟨hr, h⟩
  | _ + 1 => ⟨fun _ => h, by rw [hr]; simp⟩
theorem wp_region_end {id : Nat} {a : Act} {w : World} (hm : P.follows .mixedOrders = true) (hS : S w.drew)
    (h : S w.drew → wpAnyE P .any ops Q S m ops.size (Array.replicate ops.size false) a w.drew) : (Code.region id ops true).wp P Q a w :=
  wp_region_any hm (wpAny_of_E _ _ _ _ (h hS))
end
theorem wpAnyH_weaken {P : Program} {md : Region.Mode} {ops : Array Oper} {Q : Exit → Act → World → Prop} {S T : World → Prop} (hST : ∀ w, S w → T w) :
    ∀ {fuel : Nat} {listed : Array Bool} {a : Act} {w : World}, wpAnyH P md ops Q S fuel listed a w → wpAnyH P md ops Q T fuel listed a w
  | 0, _, _, _, h => h
  | _ + 1, _, _, _, h => ⟨h.1, fun i hi => wpOp_mono (fun _ _ h' => ⟨hST _ h'.1, wpAnyH_weaken hST h'.2⟩) (h.2 i hi)⟩
end Go.Pax
