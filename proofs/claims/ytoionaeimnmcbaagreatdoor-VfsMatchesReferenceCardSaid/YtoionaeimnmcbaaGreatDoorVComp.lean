/- The components of a path; strings.Cut at one byte. -/
import Derived.Test.YtoionaeimnmcbaaGreatDoorVBase
import Derived.Lib.IndexLaws
import Derived.Lib.IndexBytes
namespace Go.Pax
open Go.RowKit
def ba (l : List UInt8) : ByteArray := ⟨l.toArray⟩
theorem ba_toList (s : ByteArray) : ba s.data.toList = s := by cases s; simp [ba]
theorem ba_data (l : List UInt8) : (ba l).data.toList = l := by simp [ba]
theorem ba_inj {a b : List UInt8} (h : ba a = ba b) : a = b := by rw [← ba_data a, h, ba_data]
theorem ba_size (l : List UInt8) : (ba l).size = l.length := by simp [ba, ByteArray.size]
/-- A path, cut at its slashes. -/
def compsL : List UInt8 → List (List UInt8)
  | [] => [[]]
  | c :: l => if c = 47 then [] :: compsL l else
    match compsL l with
    | [] => [[c]]
    | h :: t => (c :: h) :: t
theorem compsL_ne (l : List UInt8) : compsL l ≠ [] := by
  cases l with
  | nil => simp [compsL]
  | cons c l => simp only [compsL]; split; simp; split <;> simp
theorem compsL_none {l : List UInt8} (h : 47 ∉ l) : compsL l = [l] := by
  induction l with
  | nil => rfl
  | cons c l ih =>
    simp only [List.mem_cons, not_or] at h
    simp only [compsL, if_neg (Ne.symm h.1), ih h.2]
theorem compsL_some {a b : List UInt8} (h : 47 ∉ a) : compsL (a ++ 47 :: b) = a :: compsL b := by
  induction a with
  | nil => simp [compsL]
  | cons c a ih =>
    simp only [List.mem_cons, not_or] at h
    simp only [List.cons_append, compsL, if_neg (Ne.symm h.1), ih h.2]
/-- What Cut gives at one byte. -/
def cutL (l : List UInt8) : List UInt8 × List UInt8 × Bool :=
  if 0 ≤ Lib.indexByte l 47 then (l.take (Lib.indexByte l 47).toNat, l.drop ((Lib.indexByte l 47).toNat + 1), true) else (l, [], false)
theorem cutL_comps (l : List UInt8) : compsL l = if (cutL l).2.2 then (cutL l).1 :: compsL (cutL l).2.1 else [(cutL l).1] := by
  unfold cutL
  have hge := Lib.indexByte_ge l 47
  by_cases h : 0 ≤ Lib.indexByte l 47
  · rw [if_pos h]
    obtain ⟨o, ho⟩ : ∃ o : Nat, Lib.indexByte l 47 = o := ⟨_, (Int.toNat_of_nonneg h).symm⟩
    obtain ⟨h1, h2⟩ := Lib.indexByte_some ho
    rw [ho]
    simp only [Int.toNat_natCast, if_true]
    have hlt : o < l.length := (List.getElem?_eq_some_iff.1 h1).1
    have hsp : l = l.take o ++ 47 :: l.drop (o + 1) := by
      conv => lhs; rw [← List.take_append_drop o l]
      rw [List.drop_eq_getElem_cons hlt]
      rw [(List.getElem?_eq_some_iff.1 h1).2]
    have hn : 47 ∉ l.take o := by
      intro hm
      obtain ⟨k, hk, he⟩ := List.mem_iff_getElem.1 hm
      simp at hk
      exact h2 k (by omega) (by rw [List.getElem?_eq_getElem (by omega)]; simp at he; rw [he])
    conv => lhs; rw [hsp]
    exact compsL_some hn
  · rw [if_neg h]
    have : Lib.indexByte l 47 = -1 := by omega
    simp only [Bool.false_eq_true, if_false]
    refine compsL_none fun hm => ?_
    obtain ⟨k, hk, he⟩ := List.mem_iff_getElem.1 hm
    exact Lib.indexByte_none this k (by rw [List.getElem?_eq_getElem hk, he])
theorem cutL_len (l : List UInt8) (h : (cutL l).2.2 = true) : (cutL l).2.1.length < l.length := by
  unfold cutL at h ⊢
  by_cases hi : 0 ≤ Lib.indexByte l 47
  · rw [if_pos hi]
    obtain ⟨o, ho⟩ : ∃ o : Nat, Lib.indexByte l 47 = o := ⟨_, (Int.toNat_of_nonneg hi).symm⟩
    have hlt : o < l.length := (List.getElem?_eq_some_iff.1 (Lib.indexByte_some ho).1).1
    rw [ho]
    simp; omega
  · rw [if_neg hi] at h; simp at h
theorem indexByte_lt (l : List UInt8) (c : UInt8) : Lib.indexByte l c < l.length := by
  by_cases h : 0 ≤ Lib.indexByte l c
  · obtain ⟨o, ho⟩ : ∃ o : Nat, Lib.indexByte l c = o := ⟨_, (Int.toNat_of_nonneg h).symm⟩
    have hlt : o < l.length := (List.getElem?_eq_some_iff.1 (Lib.indexByte_some ho).1).1
    omega
  · omega
def badC (c : List UInt8) : Bool := decide (c = []) || decide (c = [46]) || decide (c = [46, 46]) || decide (0 ≤ Lib.indexByte c 0)
/-- paxtar/pathname.Check. -/
def checkP (p : List UInt8) : Int := if 65536 < p.length then 7 else if (compsL p).any badC then 6 else 0
end Go.Pax
