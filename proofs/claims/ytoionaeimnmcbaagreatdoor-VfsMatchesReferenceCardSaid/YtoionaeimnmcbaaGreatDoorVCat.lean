/- slices.Grow of nil, Concat of two, Reverse at []string. -/
import Derived.Test.YtoionaeimnmcbaaGreatDoorVNew
import Derived.Shelf.Spec.SlicesGrow
import Derived.Shelf.Slices.Cells
namespace Go.Proofs.YtoionaeimnmcbaaGreatDoor
open Go.RowKit Go.Pax Go.Shelf
theorem Tryz.vinfoS : (Tryz.prog.info? 9).map (fun i => (i.zero, i.size, i.bytes)) = some (some (.string ⟨#[]⟩), 1, 16) := by kernel_rfl
theorem growS (w : World) (n : Nat) (h0 : 0 < n) (hb : n * 16 ≤ 140737488355328) :
    Calls Tryz.prog 56 #[.slice none 0 0, .int .i64 n] w fun e w' => ∃ cap, e = .returned (.slice (some ⟨w.heap.size, 0, none⟩) 0 cap) ∧ w'.ownsRow w.heap.size 9 1 (.slice (some ⟨w.heap.size, 0, none⟩) 0 cap) 0 [] ∧ Chg [] w w' := by
  obtain ⟨i0, hi, hz0, hz1, hz2⟩ := info_parts Tryz.vinfoS
  refine (Any8.slices_Grow_grow Tryz.gro i0 (.string ⟨#[]⟩) hi hz0 (by omega) none 0 0 n [] w (Nat.le_refl _) (by omega) (by rw [hz2]; omega) (by omega) (by simp) (fun _ => rfl) (fun a ha => by cases ha)).mono ?_
  rintro e w' ⟨rfl, rfl⟩
  have hgc := grownCap_ge w (0 + n) 0 9
  have hgm := grownCap_le_maxLen w (0 + n) 0 9 (by unfold maxLen; omega)
  have hren : Tryz.gro_ren.t 25 = 9 := rfl
  simp only [hren]
  generalize grownCap w (0 + n) 0 9 = gc at *
  refine ⟨gc, rfl, ?_, (Chg.refl [] w).drew.alloc _⟩
  exact own_mk (heap_alloc_new w.drew _) (Nat.le_refl _) (by omega) hgm (by simp [zc_size]; omega) rfl (fun j hj => by omega)
set_option maxHeartbeats 4000000 in
theorem concatS (w : World) (sb : Nat) (st : TypeId) (ao bo : Option Addr) (n1 c1 n2 c2 : Nat) (fp1 fp2 : List Nat) (l1 l2 : List ByteArray) (hs : w.heap[sb]? = some (.cells #[.slice ao n1 c1, .slice bo n2 c2] st (0, 0))) (hn1 : l1.length = n1) (hn2 : l2.length = n2)
    (h1 : Rd w fp1 ao (sv l1)) (h2 : Rd w fp2 bo (sv l2)) (h0 : 0 < n1 + n2) (hb : (n1 + n2) * 16 ≤ 140737488355328) :
    Calls Tryz.prog 39 #[.slice (some ⟨sb, 0, none⟩) 2 2] w fun e w' => ∃ a c, e = .returned (.slice a (n1 + n2) c) ∧ w'.ownsRow w.heap.size 9 1 (.slice a (n1 + n2) c) (n1 + n2) (sv (l1 ++ l2)) ∧ Chg [] w w' := by
  have d0 : w.cell? ⟨sb, 0, none⟩ = some (.slice ao n1 c1) := cell_heap hs 0 rfl
  have d1 : w.cell? ⟨sb, 1, none⟩ = some (.slice bo n2 c2) := cell_heap hs 1 rfl
  have hlt := lt_of_block hs
  have HG := Lib.hid (growS w (n1 + n2) h0 hb)
  have HR := Lib.hid (And.intro h1 (And.intro h2 (And.intro hn1 hn2)))
  clear h1 h2 hn1 hn2 hs
  have hw1 : IntKind.i64.wrap ((0 : Int) + (n1 : Int)) = (n1 : Int) := by rw [Int.zero_add]; exact IntWalk.i64_in _ (by omega)
  have hw2 : IntKind.i64.wrap ((n1 : Int) + (n2 : Int)) = ((n1 + n2 : Nat) : Int) := by rw [IntWalk.i64_in _ (by omega)]; omega
  have hnn : ¬ ((n1 : Int) < 0) := by omega
  have hnn2 : ¬ (((n1 + n2 : Nat) : Int) < 0) := by omega
  go_enter Tryz.func39, Tryz.ntmps39
  go_upto_region 3 with fail
  go_loop [3, 11] (fun s i => ∃ k : Nat, k ≤ 2 ∧ i = .int .i64 k ∧ s = .int .i64 (if k = 0 then 0 else if k = 1 then (n1 : Int) else ((n1 + n2 : Nat) : Int))) (fun _ i => 2 - (intOf i).toNat)
  case atStart => exact ⟨0, by omega, rfl, rfl⟩
  case round =>
    obtain ⟨k, hk, rfl, rfl⟩ := hrel
    have hk3 : k = 0 ∨ k = 1 ∨ k = 2 := by omega
    rcases hk3 with rfl | rfl | rfl
    · simp only [if_true]
      go_wp2
      go_round
      case rel => exact ⟨1, by omega, by go_num, by simp⟩
      case measure => simp [intOf]
    · simp only [if_true, show ¬ (1 : Nat) = 0 from by omega, if_false]
      go_wp2
      go_round
      case rel => exact ⟨2, by omega, by go_num, by simp⟩
      case measure => simp [intOf]
    · simp only [show ¬ (2 : Nat) = 0 from by omega, show ¬ (2 : Nat) = 1 from by omega, if_false]
      go_upto_region 11 with (go_at_call 56; refine HG.out.mono ?_; rintro e w1 ⟨cap, rfl, hown, k1⟩; have HO := Lib.hid (And.intro hown k1); have d0' := k1.cell d0 (by simp); have d1' := k1.cell d1 (by simp); clear hown k1)
      obtain ⟨i0, hi, hz0, hz1, hz2⟩ := info_parts Tryz.vinfoS
      have hle1 : n1 ≤ n1 + n2 := by omega
      go_loopw [6, 27] (fun v i wr => ∃ k : Nat, k ≤ 2 ∧ i = .int .i64 k ∧ Chg [] w wr ∧ wr.cell? ⟨sb, 0, none⟩ = some (.slice ao n1 c1) ∧ wr.cell? ⟨sb, 1, none⟩ = some (.slice bo n2 c2) ∧
        ∃ a c, v = .slice a (if k = 0 then 0 else if k = 1 then n1 else n1 + n2) c ∧ wr.ownsRow w.heap.size 9 1 (.slice a (if k = 0 then 0 else if k = 1 then n1 else n1 + n2) c) (if k = 0 then 0 else if k = 1 then n1 else n1 + n2) (if k = 0 then [] else if k = 1 then sv l1 else sv (l1 ++ l2))) (fun _ i _ => 2 - (intOf i).toNat)
      case atStart => exact ⟨0, by omega, rfl, HO.out.2, d0', d1', _, _, rfl, HO.out.1⟩
      case round =>
        obtain ⟨k, hk, rfl, hkw, q0, q1, a, c, rfl, hown⟩ := hrel
        have hk3 : k = 0 ∨ k = 1 ∨ k = 2 := by omega
        rcases hk3 with rfl | rfl | rfl
        · simp only [if_true] at hown ⊢
          have HW := Lib.hid (And.intro hkw hown)
          have hsz := hkw.size
          clear hkw hown
          go_wp2_with (at_builtin; refine wpList_append_rd rfl _ _ 44 rfl w.heap.size 9 i0 (.string ⟨#[]⟩) 16 Tryz.underlying44 hi hz0 hz1 hz2 rfl (.slice a 0 c) 0 [] rfl HW.out.2 ao n1 c1 fp1 (sv l1) rfl (by rw [sv_length, HR.out.2.2.1]) (HR.out.1.chg HW.out.1 (by simp)) (sv_one l1) (by omega) (by unfold maxLen; omega) hsz ?_)
          intro a' c' w' hown' hgr' _
          have hk' : Chg [] w w' := HW.out.1.grown hgr' (fun g hg hl => by
            have := (own_rd2 HW.out.2).2.1 g (by simp [hg]); omega)
          have q0' := hk'.cell d0 (by simp)
          have q1' := hk'.cell d1 (by simp)
          go_wp2
          exact ⟨⟨1, by omega, rfl, hk', q0', q1', a', c', by simp, by simpa using hown'⟩, by simp [intOf]⟩
        · simp only [if_true, show ¬ (1 : Nat) = 0 from by omega, if_false] at hown ⊢
          have HW := Lib.hid (And.intro hkw hown)
          have hsz := hkw.size
          clear hkw hown
          go_wp2_with (at_builtin; refine wpList_append_rd rfl _ _ 44 rfl w.heap.size 9 i0 (.string ⟨#[]⟩) 16 Tryz.underlying44 hi hz0 hz1 hz2 rfl (.slice a n1 c) n1 (sv l1) rfl HW.out.2 bo n2 c2 fp2 (sv l2) rfl (by rw [sv_length, HR.out.2.2.2]) (HR.out.2.1.chg HW.out.1 (by simp)) (sv_one l2) (by omega) (by unfold maxLen; omega) hsz ?_)
          intro a' c' w' hown' hgr' _
          have hk' : Chg [] w w' := HW.out.1.grown hgr' (fun g hg hl => by
            have := (own_rd2 HW.out.2).2.1 g (by simp [hg]); omega)
          have q0' := hk'.cell d0 (by simp)
          have q1' := hk'.cell d1 (by simp)
          go_wp2
          exact ⟨⟨2, by omega, rfl, hk', q0', q1', a', c', by simp, by simpa [sv] using hown'⟩, by simp [intOf]⟩
        · simp only [show ¬ (2 : Nat) = 0 from by omega, show ¬ (2 : Nat) = 1 from by omega, if_false] at hown ⊢
          have HW := Lib.hid (And.intro hkw hown)
          clear hkw hown
          go_wp2
          go_ret
          exact ⟨a, c, rfl, HW.out.2, HW.out.1⟩
/-- A row of strings, turned round in place. -/
theorem reverseS (w : World) (B : Nat) (v : Value) (l : List ByteArray) (n : Nat) (hn : l.length = n) (h0 : 0 < n) (hl : n ≤ 140737488355328) (hown : w.ownsRow B 9 1 v n (sv l)) :
    Calls Tryz.prog 40 #[v] w fun e w' => e = .returned (.tuple #[]) ∧ w'.ownsRow B 9 1 v n (sv l.reverse) ∧ Chg v.ownBlock.toList w w' := by
  obtain ⟨ao, c, rfl⟩ := own_shape hown
  rcases ao with _ | ⟨g, o, sp⟩
  · rcases hown.2 with ⟨h', h1⟩ | ⟨g', cap', cur, h', _⟩
    · omega
    · simp at h'
  have hg' : o = 0 ∧ sp = none := by
    rcases hown.2 with ⟨h', _⟩ | ⟨g', cap', cur, h', _⟩
    · simp at h'
    · simp at h'; exact ⟨h'.1.2.1, h'.1.2.2⟩
  obtain ⟨rfl, rfl⟩ := hg'
  obtain ⟨cur, hg, hb, hnc, hcm, hcs, _, hcx⟩ := own_cells hown
  have hstr : (Lib.strsOf (fun i => l.getD i ⟨#[]⟩) n).map ba = l := by
    subst hn
    apply List.ext_getElem?
    intro j
    simp only [Lib.strsOf, List.map_map, List.getElem?_map]
    by_cases hj : j < l.length
    · simp [hj, ba_toList]
    · simp [hj]
  refine (Any.slices_Reverse_string_cells Tryz.rev g 0 n c (fun i => l.getD i ⟨#[]⟩) w (by omega) (fun i hi => ?_) (fun j hj => frozen_of_row _ _ _ _ _ hg)).mono ?_
  · rw [Nat.zero_add]
    exact cell_heap hg i (by rw [hcx i hi, sv_get l i (by omega)]; simp [show i < l.length by omega])
  · rintro e w' ⟨rfl, q, rfl⟩
    have henc : (Lib.strsOf (fun i => l.getD i ⟨#[]⟩) n).reverse.map encStr = sv l.reverse := by
      have h1 : (Lib.strsOf (fun i => l.getD i ⟨#[]⟩) n).map encStr = sv l := by
        have h2 : (Lib.strsOf (fun i => l.getD i ⟨#[]⟩) n).map encStr = ((Lib.strsOf (fun i => l.getD i ⟨#[]⟩) n).map ba).map Value.string := by rw [List.map_map]; rfl
        rw [h2, hstr]; rfl
      rw [List.map_reverse, h1]
      exact List.map_reverse.symm
    rw [henc]
    refine ⟨rfl, ?_, ?_⟩
    · refine own_mk (heap_setCells (sv l.reverse) 0 (w.drewN q) cur hg) hb hnc hcm (by rw [putAt_size]; exact hcs) (by rw [sv_length]; simpa using hn) fun j hj => ?_
      rw [putAt_get _ _ _ _ (by omega), if_pos ⟨Nat.zero_le _, by rw [sv_length]; simp; omega⟩, Nat.sub_zero]
    · have hgr : w.grownBy ((w.drewN q).setCells g 0 (sv l.reverse)) (some g) := grown_setCells _ _ _ _ ⟨rfl, rfl, rfl, Nat.le_refl _, fun _ _ _ => rfl⟩
      exact Chg.of_grown hgr (fun k hk _ => by simp [Value.ownBlock] at *; exact hk.symm)
end Go.Proofs.YtoionaeimnmcbaaGreatDoor
