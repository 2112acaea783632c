/- paxtar/pathname.Parent, Base; slices.BinarySearch at strings. -/
import Derived.Test.YtoionaeimnmcbaaGreatDoorVCheck
import Derived.IntWalk
namespace Go.Pax
open Go.RowKit
def lastSl (l : List UInt8) : Int := Lib.lastIndexByte (ba l) 47
def parentP (l : List UInt8) : List UInt8 := if lastSl l < 0 then [] else l.take (lastSl l).toNat
def baseP (l : List UInt8) : List UInt8 := l.drop (lastSl l + 1).toNat
theorem lastSl_spec (l : List UInt8) : (lastSl l = -1 ∧ 47 ∉ l) ∨ ∃ i : Nat, i < l.length ∧ lastSl l = i ∧ l[i]? = some 47 ∧ 47 ∉ l.drop (i + 1) := by
  have hsz : (ba l).size = l.length := ba_size l
  have hget : ∀ j, j < l.length → (ba l).data[j]! = l[j]! := fun j hj => by simp [ba, hj]
  have hu : ∀ x : UInt8, ((x.toNat : Int) = 47) ↔ x = 47 := fun x => ⟨fun h => UInt8.toNat_inj.1 (by simpa using (by omega : x.toNat = 47)), fun h => by subst h; rfl⟩
  rcases Lib.lastIdx_spec (ba l) 47 (ba l).size with ⟨h1, h2⟩ | ⟨i, hi, h1, h2, h3⟩
  · refine .inl ⟨h1, fun hm => ?_⟩
    obtain ⟨j, hj, he⟩ := List.mem_iff_getElem.1 hm
    have := h2 j (by omega)
    rw [hget j hj, getElem!_pos l j hj, he] at this
    exact this rfl
  · rw [hsz] at hi h3
    refine .inr ⟨i, hi, h1, ?_, fun hm => ?_⟩
    · rw [hget i hi, getElem!_pos l i hi, hu] at h2
      rw [List.getElem?_eq_getElem hi, h2]
    · obtain ⟨j, hj, he⟩ := List.mem_iff_getElem.1 hm
      simp at hj he
      have := h3 (i + 1 + j) (by omega) (by omega)
      rw [hget _ (by omega), getElem!_pos l _ (by omega), he] at this
      exact this rfl
theorem lastSl_lt (l : List UInt8) : -1 ≤ lastSl l ∧ lastSl l < l.length := by
  rcases lastSl_spec l with ⟨h, _⟩ | ⟨i, h1, h2, _⟩
  · rw [h]; omega
  · rw [h2]; omega
end Go.Pax
namespace Go.Proofs.YtoionaeimnmcbaaGreatDoor
open Go.RowKit Go.Pax Go.Shelf
theorem lastIx (l : List UInt8) (hl : l.length ≤ 140737488355328) (w : World) :
    Calls Tryz.prog 94 #[.string (ba l), .string ⟨#[47]⟩] w fun e w' => e = .returned (.int .i64 (lastSl l)) ∧ w' = w :=
  Any.strings_LastIndex_one Tryz.lix (ba l) ⟨#[47]⟩ rfl (by rw [ba_size]; omega) w
set_option maxHeartbeats 1000000 in
theorem parent (l : List UInt8) (hl : l.length ≤ 140737488355328) (w : World) :
    Calls Tryz.prog 75 #[.string (ba l)] w fun e w' => e = .returned (.string (ba (parentP l))) ∧ w' = w := by
  have hlt := lastSl_lt l
  have HI := Lib.hid (lastIx l hl w)
  have ht := fun k => ext_take (ba l) k
  simp only [ba_data] at ht
  have hp : parentP l = if lastSl l < 0 then [] else l.take (lastSl l).toNat := rfl
  have hz : ((ba l).size : Int) = l.length := by rw [ba_size]
  by_cases h0 : lastSl l < 0
  · rw [if_pos h0] at hp
    have HP := Lib.hid hp
    clear hp ht hz
    generalize lastSl l = x at *
    go_enter Tryz.func75, Tryz.ntmps75
    go_wp2_with (go_at_call 94; refine HI.out.mono ?_; rintro e w' ⟨rfl, rfl⟩)
    go_ret
    rw [HP.out]
    exact ⟨rfl, rfl⟩
  · rw [if_neg h0] at hp
    have HP := Lib.hid hp
    clear hp
    generalize lastSl l = x at *
    obtain ⟨i, rfl⟩ : ∃ i : Nat, x = i := ⟨x.toNat, by omega⟩
    have HT := Lib.hid (ht i)
    have h1 : (i : Int) ≤ ((ba l).size : Int) := by omega
    have h2 : ((ba l).size : Int) ≤ 140737488355328 := by omega
    clear ht hz hlt hl
    generalize ba l = S at *
    go_enter Tryz.func75, Tryz.ntmps75
    go_wp2_with (go_at_call 94; refine HI.out.mono ?_; rintro e w' ⟨rfl, rfl⟩)
    go_ret
    rw [HP.out, Int.toNat_natCast, ← HT.out]
    exact ⟨by simp, rfl⟩
set_option maxHeartbeats 1000000 in
theorem base (l : List UInt8) (hl : l.length ≤ 140737488355328) (w : World) :
    Calls Tryz.prog 76 #[.string (ba l)] w fun e w' => e = .returned (.string (ba (baseP l))) ∧ ∃ k, w' = w.drewN k := by
  have hlt := lastSl_lt l
  have HI := Lib.hid (lastIx l hl w)
  have ht := fun k => ext_drop (ba l) k
  simp only [ba_data] at ht
  have hp : baseP l = l.drop (lastSl l + 1).toNat := rfl
  have hz : ((ba l).size : Int) = l.length := by rw [ba_size]
  have HP := Lib.hid hp
  clear hp
  generalize lastSl l = x at *
  obtain ⟨i, hi⟩ : ∃ i : Nat, x + 1 = i := ⟨(x + 1).toNat, by omega⟩
  obtain rfl : x = (i : Int) - 1 := by omega
  have HT := Lib.hid (ht i)
  have h1 : (i : Int) ≤ ((ba l).size : Int) := by omega
  have h2 : ((ba l).size : Int) ≤ 140737488355328 := by omega
  have hs : IntKind.i64.wrap ((i : Int) - 1 + 1) = i := by rw [show (i : Int) - 1 + 1 = i by omega]; exact IntWalk.i64_in _ (by omega)
  clear ht hz hlt hl hi
  generalize ba l = S at *
  go_enter Tryz.func76, Tryz.ntmps76
  go_wp2_with (go_at_call 94; refine HI.out.mono ?_; rintro e w' ⟨rfl, rfl⟩)
  go_ret
  rw [HP.out, show (((i : Int) - 1 + 1).toNat) = i by omega, ← HT.out]
  exact ⟨by simp, 0, rfl⟩
end Go.Proofs.YtoionaeimnmcbaaGreatDoor
