/- The order of names: insertion by halving keeps a row sorted; a sorted row is what sorting gives. -/
import Derived.Test.YtoionaeimnmcbaaGreatDoorVInv
import Derived.Sort.Walk0
namespace Go.Pax
open Go.RowKit
theorem ba_tl (l : Str) : (ba l).toList = l := by rw [Lib.toList_data, ba_data]
theorem slt_irrefl (a : Str) : ¬ a < a := List.lt_irrefl a
theorem slt_trans {a b c : Str} (h : a < b) (k : b < c) : a < c := List.lt_trans h k
theorem slt_total {a b : Str} (h : ¬ a < b) (hne : a ≠ b) : b < a := by
  rcases Classical.em (b < a) with k | k
  · exact k
  · exact absurd (List.le_antisymm (List.not_lt.1 k) (List.not_lt.1 h)) hne
theorem bsGo_cut (less : Nat → Bool) (n : Nat) (mono : ∀ s t, s ≤ t → t < n → less t = true → less s = true) : ∀ (f lo hi : Nat), hi - lo ≤ f → lo ≤ hi → hi ≤ n → (∀ t, t < lo → less t = true) → (∀ t, hi ≤ t → t < n → less t = false) →
    Lib.bsGo less f lo hi ≤ n ∧ (∀ t, t < Lib.bsGo less f lo hi → less t = true) ∧ ∀ t, Lib.bsGo less f lo hi ≤ t → t < n → less t = false
  | 0, lo, hi, hf, a, b, h1, h2 => by
    have e : lo = hi := by omega
    subst e
    exact ⟨b, h1, h2⟩
  | f + 1, lo, hi, hf, a, b, h1, h2 => by
    unfold Lib.bsGo
    by_cases h : lo < hi
    · rw [if_pos h]
      cases hm : less ((lo + hi) / 2) with
      | true =>
        rw [if_pos rfl]
        exact bsGo_cut less n mono f _ _ (by omega) (by omega) b (fun t ht => mono t _ (by omega) (by omega) hm) h2
      | false =>
        rw [if_neg (by simp)]
        refine bsGo_cut less n mono f _ _ (by omega) (by omega) (by omega) h1 (fun t ht htn => ?_)
        cases hl : less t with
        | false => rfl
        | true => rw [mono _ t ht htn hl] at hm; cases hm
    · rw [if_neg h]
      have e : lo = hi := by omega
      subst e
      exact ⟨b, h1, h2⟩
/-- Where the name goes. -/
theorem bsI_cut (l : List Str) (x : Str) (hs : l.Pairwise (· < ·)) : bsI (l.map ba) (ba x) ≤ l.length ∧ (∀ t (h : t < l.length), t < bsI (l.map ba) (ba x) → l[t] < x) ∧ ∀ t (h : t < l.length), bsI (l.map ba) (ba x) ≤ t → ¬ l[t] < x := by
  have hless : ∀ t (h : t < l.length), Op.bytesLess ((l.map ba).getD t ⟨#[]⟩).toList (ba x).toList = decide (l[t] < x) := fun t h => by
    rw [Go.Proofs.bytesLess_eq]
    have e1 : ((l.map ba).getD t ⟨#[]⟩).toList = l[t] := by
      simp only [List.getD, List.getElem?_map, List.getElem?_eq_getElem h, Option.map_some, Option.getD_some]
      exact ba_tl _
    rw [e1, ba_tl]
  have hp := List.pairwise_iff_getElem.1 hs
  have hc := bsGo_cut (fun t => Op.bytesLess ((l.map ba).getD t ⟨#[]⟩).toList (ba x).toList) l.length (fun s t hst htn hl => by
    simp only [hless t htn, decide_eq_true_eq] at hl
    simp only [hless s (by omega), decide_eq_true_eq]
    rcases Nat.lt_or_eq_of_le hst with h | h
    · exact slt_trans (hp s t (by omega) htn h) hl
    · subst h; exact hl) l.length 0 l.length (by omega) (by omega) (Nat.le_refl _) (fun t ht => by omega) (fun t ht htn => by omega)
  have e : bsI (l.map ba) (ba x) = Lib.bsGo (fun t => Op.bytesLess ((l.map ba).getD t ⟨#[]⟩).toList (ba x).toList) l.length 0 l.length := by unfold bsI; rw [List.length_map]
  rw [← e] at hc
  refine ⟨hc.1, fun t h ht => ?_, fun t h ht => ?_⟩
  · have := hc.2.1 t ht
    simp only [hless t h, decide_eq_true_eq] at this
    exact this
  · have := hc.2.2 t ht h
    simp only [hless t h, decide_eq_false_iff_not] at this
    exact this
theorem ins_sorted (l : List Str) (x : Str) (hs : l.Pairwise (· < ·)) (hx : x ∉ l) : (insAt l (bsI (l.map ba) (ba x)) x).Pairwise (· < ·) := by
  obtain ⟨h0, h1, h2⟩ := bsI_cut l x hs
  generalize bsI (l.map ba) (ba x) = k at *
  unfold insAt
  have hsp := hs
  rw [← List.take_append_drop k l, List.pairwise_append] at hsp
  obtain ⟨p1, p2, p3⟩ := hsp
  have htk : ∀ a ∈ l.take k, a < x := fun a ha => by
    obtain ⟨t, ht, rfl⟩ := List.mem_iff_getElem.1 ha
    rw [List.length_take] at ht
    rw [List.getElem_take]
    exact h1 t (by omega) (by omega)
  have hdr : ∀ a ∈ l.drop k, x < a := fun a ha => by
    obtain ⟨t, ht, rfl⟩ := List.mem_iff_getElem.1 ha
    rw [List.length_drop] at ht
    rw [List.getElem_drop]
    exact slt_total (h2 (k + t) (by omega) (by omega)) (fun e => hx (e ▸ List.getElem_mem _))
  rw [List.pairwise_append]
  refine ⟨p1, List.pairwise_cons.2 ⟨hdr, p2⟩, fun a ha b hb => ?_⟩
  rcases List.mem_cons.1 hb with rfl | hb
  · exact htk a ha
  · exact p3 a ha b hb
theorem ins_mem {l : List Str} {k : Nat} {x s : Str} (h : s ∈ insAt l k x) : s ∈ l ∨ s = x := by
  unfold insAt at h
  rcases List.mem_append.1 h with h | h
  · exact .inl (List.mem_of_mem_take h)
  · rcases List.mem_cons.1 h with h | h
    · exact .inr h
    · exact .inl (List.mem_of_mem_drop h)
theorem sort_of_perm {l m : List Str} (hp : l.Perm m) (hs : m.Pairwise (· < ·)) : l.mergeSort (fun x y => decide (x ≤ y)) = m := by
  refine List.Perm.eq_of_pairwise (le := fun x y : Str => decide (x ≤ y) = true) ?_ ?_ ?_ ((List.mergeSort_perm _ _).trans hp)
  · intro a b _ _ h1 h2
    exact List.le_antisymm (by simpa using h1) (by simpa using h2)
  · refine List.pairwise_mergeSort (fun a b c h1 h2 => ?_) (fun a b => ?_) _
    · simp only [decide_eq_true_eq] at *
      exact List.le_trans h1 h2
    · simp only [Bool.or_eq_true, decide_eq_true_eq]
      exact List.le_total a b
  · exact hs.imp (fun {a b} h => by simpa using List.le_of_lt h)
end Go.Pax
