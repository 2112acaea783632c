/- slices.Clone at []byte and []int: the result owns the same cells; nothing that was there is changed. -/
import Derived.Test.YtoionaeimnmcbaaGreatDoorProg
import Derived.Test.YtoionaeimnmcbaaGreatDoorVBase
import Derived.Lib.Hide
import Derived.Lib.SliceRun
namespace Go.Proofs.YtoionaeimnmcbaaGreatDoor
open Go.RowKit Go.Pax

theorem Tryz.vinfoB : (Tryz.prog.info? 5).map (fun i => (i.zero, i.size, i.bytes)) = some (some (.int .u8 0), 1, 1) := by kernel_rfl
theorem Tryz.vinfoI : (Tryz.prog.info? 3).map (fun i => (i.zero, i.size, i.bytes)) = some (some (.int .i64 0), 1, 8) := by kernel_rfl

theorem Tryz.vnilB : ∀ (w : World) (a : Option Addr) (n c n' c' : Nat), (binOp .eql 24 (.slice a n c) (.slice none n' c')).run Tryz.prog w = .ok (.bool a.isNone) w := fun w a n c n' c' => Lib.run_eql_slice_nil w _ _ a n c n' c' Tryz.underlying24
theorem Tryz.vnilI : ∀ (w : World) (a : Option Addr) (n c n' c' : Nat), (binOp .eql 28 (.slice a n c) (.slice none n' c')).run Tryz.prog w = .ok (.bool a.isNone) w := fun w a n c n' c' => Lib.run_eql_slice_nil w _ _ a n c n' c' Tryz.underlying28

set_option maxHeartbeats 400000 in
theorem cloneB_nil (w : World) (n c : Nat) : Calls Tryz.prog 52 #[.slice none n c] w fun e w' => e = .returned (.slice none 0 0) ∧ w' = w := by
  have q := Tryz.vnilB
  go_enter Tryz.func52, Tryz.ntmps52
  go_wp2
  go_ret
  exact ⟨rfl, rfl⟩

set_option maxHeartbeats 400000 in
theorem cloneI_nil (w : World) (n c : Nat) : Calls Tryz.prog 26 #[.slice none n c] w fun e w' => e = .returned (.slice none 0 0) ∧ w' = w := by
  have q := Tryz.vnilI
  go_enter Tryz.func26, Tryz.ntmps26
  go_wp2
  go_ret
  exact ⟨rfl, rfl⟩

def Cloned (e : Ending) (w w' : World) (E : TypeId) (n : Nat) (xs : List Value) : Prop :=
  ∃ ao cap, e = .returned (.slice ao n cap) ∧ w'.ownsRow w.heap.size E 1 (.slice ao n cap) n xs ∧ w.grownBy w' none
theorem Cloned.mk {e : Ending} {w w' : World} {E : TypeId} {n : Nat} {xs : List Value} {v : Value} (h : e = .returned v) (h1 : w'.ownsRow w.heap.size E 1 v n xs) (h2 : w.grownBy w' none) : Cloned e w w' E n xs := by
  obtain ⟨ao, cap, rfl⟩ := own_shape h1
  exact ⟨ao, cap, h, h1, h2⟩

set_option maxHeartbeats 400000 in
theorem cloneB_some (w : World) (ad : Addr) (cap : Nat) (xs : List Value) (h1 : ∀ u ∈ xs, u.oneCell' = true) (hb : xs.length ≤ 140737488355328)
    (hc : ∀ j u, xs[j]? = some u → w.cell? (ad.add j) = some u) :
    Calls Tryz.prog 52 #[.slice (some ad) xs.length cap] w fun e w' => Cloned e w w' 5 xs.length xs := by
  obtain ⟨i0, hi, hz0, hz1, hz2⟩ := info_parts Tryz.vinfoB
  have q := Tryz.vnilB
  have H1 := Lib.hid h1
  have HC := Lib.hid hc
  clear h1 hc
  go_enter Tryz.func52, Tryz.ntmps52
  go_wp2_with (at_builtin; refine wpList_append_own _ rfl _ _ 24 rfl w.heap.size 5 i0 (.int .u8 0) 1 1 Tryz.underlying24 hi hz0 hz1 hz2 rfl (by decide) _ _ _ rfl (World.ownsRow_made w #[] 0 (Nat.le_refl _) (Nat.zero_le _) rfl) ad xs.length cap xs rfl (by simp) (fun j u hj => Lib.cell?_alloc_some _ (HC.out j u hj)) H1.out (by unfold maxLen; omega) (by omega) (by simp) ?_)
  intro v' w1 hown hgrow hnil
  go_wp2
  go_ret
  refine Cloned.mk rfl (by simpa using hown) ?_
  have := ((Below.refl _ w).alloc (Nat.le_refl _) (.cells #[] 5)).grown hgrow (by simp) (by intro k hk; simp [Value.ownBlock] at hk; omega)
  exact ⟨this.os, this.tape, this.output, this.size, fun k hk _ => this.block k hk⟩

set_option maxHeartbeats 400000 in
theorem cloneI_some (w : World) (ad : Addr) (cap : Nat) (xs : List Value) (h1 : ∀ u ∈ xs, u.oneCell' = true) (hb : xs.length * 8 ≤ 140737488355328)
    (hc : ∀ j u, xs[j]? = some u → w.cell? (ad.add j) = some u) :
    Calls Tryz.prog 26 #[.slice (some ad) xs.length cap] w fun e w' => Cloned e w w' 3 xs.length xs := by
  obtain ⟨i0, hi, hz0, hz1, hz2⟩ := info_parts Tryz.vinfoI
  have q := Tryz.vnilI
  have H1 := Lib.hid h1
  have HC := Lib.hid hc
  clear h1 hc
  go_enter Tryz.func26, Tryz.ntmps26
  go_wp2_with (at_builtin; refine wpList_append_own _ rfl _ _ 28 rfl w.heap.size 3 i0 (.int .i64 0) 1 8 Tryz.underlying28 hi hz0 hz1 hz2 rfl (by decide) _ _ _ rfl (World.ownsRow_made w #[] 0 (Nat.le_refl _) (Nat.zero_le _) rfl) ad xs.length cap xs rfl (by simp) (fun j u hj => Lib.cell?_alloc_some _ (HC.out j u hj)) H1.out (by unfold maxLen; omega) (by omega) (by simp) ?_)
  intro v' w1 hown hgrow hnil
  go_wp2
  go_ret
  refine Cloned.mk rfl (by simpa using hown) ?_
  have := ((Below.refl _ w).alloc (Nat.le_refl _) (.cells #[] 3)).grown hgrow (by simp) (by intro k hk; simp [Value.ownBlock] at hk; omega)
  exact ⟨this.os, this.tape, this.output, this.size, fun k hk _ => this.block k hk⟩

theorem cloneB (w : World) (ao : Option Addr) (cap : Nat) (fp : List Nat) (xs : List Value) (h1 : ∀ u ∈ xs, u.oneCell' = true) (hb : xs.length ≤ 140737488355328)
    (hc : Rd w fp ao xs) : Calls Tryz.prog 52 #[.slice ao xs.length cap] w fun e w' => Cloned e w w' 5 xs.length xs := by
  cases ao with
  | none =>
    have hx : xs = [] := by
      cases xs with
      | nil => rfl
      | cons x l => obtain ⟨a, ha, _⟩ := hc 0 x rfl; cases ha
    subst hx
    exact (cloneB_nil w _ _).mono fun e w' ⟨he, hw⟩ => by
      subst he; subst hw
      exact Cloned.mk rfl (World.ownsRow_nil _ _ _ _) (World.grownBy.refl _ _)
  | some ad => exact cloneB_some w ad cap xs h1 hb hc.at

theorem cloneI (w : World) (ao : Option Addr) (cap : Nat) (fp : List Nat) (xs : List Value) (h1 : ∀ u ∈ xs, u.oneCell' = true) (hb : xs.length * 8 ≤ 140737488355328)
    (hc : Rd w fp ao xs) : Calls Tryz.prog 26 #[.slice ao xs.length cap] w fun e w' => Cloned e w w' 3 xs.length xs := by
  cases ao with
  | none =>
    have hx : xs = [] := by
      cases xs with
      | nil => rfl
      | cons x l => obtain ⟨a, ha, _⟩ := hc 0 x rfl; cases ha
    subst hx
    exact (cloneI_nil w _ _).mono fun e w' ⟨he, hw⟩ => by
      subst he; subst hw
      exact Cloned.mk rfl (World.ownsRow_nil _ _ _ _) (World.grownBy.refl _ _)
  | some ad => exact cloneI_some w ad cap xs h1 hb hc.at
end Go.Proofs.YtoionaeimnmcbaaGreatDoor
namespace Go.Proofs.YtoionaeimnmcbaaGreatDoor
open Go.RowKit Go.Pax
theorem cloneBytes (w : World) (ao : Option Addr) (n cap : Nat) (fp : List Nat) (b : List UInt8) (hn : b.length = n) (hb : n ≤ 140737488355328) (hc : Rd w fp ao (bv b)) :
    Calls Tryz.prog 52 #[.slice ao n cap] w fun e w' => Cloned e w w' 5 n (bv b) := by
  subst hn
  have h := cloneB w ao cap fp (bv b) (bv_one b) (by rw [bv_length]; exact hb) hc
  rwa [bv_length] at h
theorem cloneInts (w : World) (ao : Option Addr) (n cap : Nat) (fp : List Nat) (b : List Int) (hn : b.length = n) (hb : n * 8 ≤ 140737488355328) (hc : Rd w fp ao (iv b)) :
    Calls Tryz.prog 26 #[.slice ao n cap] w fun e w' => Cloned e w w' 3 n (iv b) := by
  subst hn
  have h := cloneI w ao cap fp (iv b) (iv_one b) (by rw [iv_length]; exact hb) hc
  rwa [iv_length] at h
end Go.Proofs.YtoionaeimnmcbaaGreatDoor
