/- slices.Sort, slices.Equal, slices.IsSorted over rows of strings; pathname.Join. -/
import Derived.Test.YtoionaeimnmcbaaGreatDoorVShelfS
import Derived.Test.YtoionaeimnmcbaaGreatDoorVTwoB
import Derived.Lib.SortBridgeS
namespace Go.Proofs.YtoionaeimnmcbaaGreatDoor
open Go.RowKit Go.Pax Go.Shelf
open Go.Sort (Holds grow putRow)
set_option maxHeartbeats 4000000 in
theorem sortS (w : World) (B : Nat) (v : Value) (l : List Str) (n : Nat) (hn : l.length = n) (hl : n ≤ 140737488355328) (hown : w.ownsRow B 9 1 v n (svn l)) :
    Calls Tryz.prog 18 #[v] w fun e w' => e = .returned (.tuple #[]) ∧ w'.ownsRow B 9 1 v n (svn (l.mergeSort fun x y => decide (x ≤ y))) ∧ Chg v.ownBlock.toList w w' := by
  obtain ⟨ao, c, rfl⟩ := own_shape hown
  rcases hown.2 with ⟨h', h1⟩ | ⟨g, cap', cur', h', hb', hg', _⟩
  · subst h1
    have hl0 : l = [] := List.eq_nil_of_length_eq_zero hn
    subst hl0
    refine (Tryz.slices_Sort_string_none ao c w).mono ?_
    rintro e w' ⟨rfl, rfl⟩
    exact ⟨rfl, by simpa using hown, Chg.refl _ _⟩
  · simp only [Value.slice.injEq] at h'
    obtain ⟨rfl, _, rfl⟩ := h'
    obtain ⟨cur, hg, hb, hnc, hcm, hcs, _, hcx⟩ := own_cells hown
    have hH : Holds encStr w g 0 l.toArray := fun j hj => by
      have hj' : j < l.length := by simpa using hj
      refine ⟨?_, frozen_of_row _ _ _ _ _ hg⟩
      rw [Nat.zero_add]
      refine cell_heap hg j ?_
      rw [hcx j (by omega)]
      unfold svn
      rw [sv_get _ j (by simpa using hj')]
      simp [encStr, ba, hj']
    subst hn
    refine (Tryz.slices_Sort_string g 0 c l w hH (lt_of_block hg) (by omega)).mono ?_
    rintro e w' ⟨rfl, q, os, rfl⟩
    rw [Lib.sorted_world encStr w g 0 q l.toArray _ os hH (by simp)]
    have hlen : (l.mergeSort fun x y => decide (x ≤ y)).length = l.length := by simp
    have henc : (l.mergeSort fun x y => decide (x ≤ y)).map encStr = svn (l.mergeSort fun x y => decide (x ≤ y)) := by
      unfold svn sv
      rw [List.map_map]; rfl
    rw [henc]
    generalize l.mergeSort (fun x y => decide (x ≤ y)) = m at *
    have hsz : (svn m).length = l.length := by rw [svn_length, hlen]
    have hgw : ((w.drewN q).setCells g 0 (svn m)).heap[g]? = _ := heap_setCells (svn m) 0 (w.drewN q) cur hg
    have hkc : Chg [g] w ((w.drewN q).setCells g 0 (svn m)) := by
      have hgr : w.grownBy ((w.drewN q).setCells g 0 (svn m)) (some g) := grown_setCells _ _ _ _ ⟨rfl, rfl, rfl, Nat.le_refl _, fun _ _ _ => rfl⟩
      exact Chg.of_grown hgr (fun k hk _ => by simp at hk; simp [hk])
    generalize (w.drewN q).setCells g 0 (svn m) = W at *
    have hgr2 : Chg [] W (grow W os) := ⟨rfl, rfl, rfl, by simp, fun k hk _ => Go.Sort.heap_grow_old W os hk⟩
    refine ⟨rfl, ?_, hkc.trans (hgr2.mono (by simp))⟩
    refine own_mk (hgr2.heap hgw (by simp)) hb hnc hcm (by rw [putAt_size]; exact hcs) hsz fun j hj => ?_
    rw [putAt_get _ _ _ _ (by omega), if_pos ⟨Nat.zero_le _, by omega⟩, Nat.sub_zero]
/-- Two rows of the same strings are equal. -/
theorem equalS (w : World) (B B' : Nat) (a1 a2 : Option Addr) (n c1 c2 : Nat) (l : List Str) (hl : n ≤ 140737488355328) (h1 : w.ownsRow B 9 1 (.slice a1 n c1) n (svn l)) (h2 : w.ownsRow B' 9 1 (.slice a2 n c2) n (svn l)) :
    Calls Tryz.prog 15 #[.slice a1 n c1, .slice a2 n c2] w fun e w' => e = .returned (.bool true) ∧ ∃ q, w' = w.drewN q := by
  by_cases h0 : n = 0
  · subst h0
    refine (Tryz.slices_Equal_string_empty a1 a2 c1 0 c2 w (by omega)).mono ?_
    rintro e w' ⟨rfl, rfl⟩
    exact ⟨by simp, 0, rfl⟩
  · have hlen : l.length = n := by have := h1.1; simpa [svn_length] using this
    rcases h1.2 with ⟨_, e⟩ | ⟨g1, _, _, h1', _, _, _⟩
    · exact absurd e h0
    rcases h2.2 with ⟨_, e⟩ | ⟨g2, _, _, h2', _, _, _⟩
    · exact absurd e h0
    simp only [Value.slice.injEq] at h1' h2'
    obtain ⟨rfl, _, rfl⟩ := h1'
    obtain ⟨rfl, _, rfl⟩ := h2'
    obtain ⟨cur1, hg1, _, _, _, _, _, hx1⟩ := own_cells h1
    obtain ⟨cur2, hg2, _, _, _, _, _, hx2⟩ := own_cells h2
    have hc : ∀ (g : Nat) (cur : Array Value) (t : TypeId), w.heap[g]? = some (.cells cur t (0, 0)) → (∀ j, j < n → cur[j]? = (svn l)[j]?) → ∀ j, j < (l.map ba).length → w.cell? ⟨g, 0 + j, none⟩ = some (.string ((l.map ba).getD j ByteArray.empty)) := fun g cur t hg hx j hj => by
      have hj' : j < l.length := by simpa using hj
      rw [Nat.zero_add]
      refine cell_heap hg j ?_
      rw [hx j (by omega)]
      unfold svn
      rw [sv_get _ j hj]
      simp [hj']
    refine (Tryz.slices_Equal_string g1 0 n c1 g2 0 n c2 (l.map ba) (l.map ba) w (by simp; omega) (by simp; omega) (by omega) (by omega) (hc g1 cur1 _ hg1 hx1) (hc g2 cur2 _ hg2 hx2)).mono ?_
    rintro e w' ⟨rfl, q, rfl⟩
    exact ⟨by simp, q, rfl⟩
set_option maxHeartbeats 1000000 in
theorem joinS (w : World) (d s : Str) (hd : d.length ≤ 1000000) (hs : s.length ≤ 1000000) : Calls Tryz.prog 20 #[.string (ba d), .string (ba s)] w fun e w' => e = .returned (.string (ba (joinP d s))) ∧ w' = w := by
  have hz1 : (ba d).size ≤ 1000000 := by rw [ba_size]; exact hd
  have hz2 : (ba s).size ≤ 1000000 := by rw [ba_size]; exact hs
  have hj : ba (joinP d s) = if d = [] then ba s else ba d ++ ⟨#[47]⟩ ++ ba s := by
    unfold joinP
    split
    · rfl
    · apply ByteArray.ext; simp [ba]
  by_cases h0 : d = []
  · rw [if_pos h0] at hj
    have hb : ba d = ⟨#[]⟩ := by rw [h0]; rfl
    rw [hj, hb]
    clear hj hb hz1
    generalize ba s = S at *
    go_enter Tryz.func20, Tryz.ntmps20
    go_wp2_with fail
    go_ret
    exact ⟨rfl, rfl⟩
  · rw [if_neg h0] at hj
    have hb : (ba d).toList.isEmpty = false := by rw [ba_tl]; simpa using h0
    rw [hj]
    clear hj
    generalize ba s = S at *
    generalize ba d = D at *
    go_enter Tryz.func20, Tryz.ntmps20
    go_wp2_with fail
    go_ret
    exact ⟨rfl, rfl⟩
set_option maxHeartbeats 1000000 in
theorem isNaNS (x : ByteArray) (w : World) : Calls Tryz.prog 70 #[.string x] w fun e w' => e = .returned (.bool false) ∧ w' = w := by
  go_enter Tryz.func70, Tryz.ntmps70
  go_wp2
  go_ret
  exact ⟨by simp, rfl⟩
set_option maxHeartbeats 1000000 in
theorem lessS (x y : ByteArray) (w : World) : Calls Tryz.prog 45 #[.string x, .string y] w fun e w' => e = .returned (.bool (Op.bytesLess x.toList y.toList)) ∧ w' = w := by
  go_enter Tryz.func45, Tryz.ntmps45
  go_wp2_with (go_at_call 70; refine (isNaNS _ _).mono ?_; rintro e w' ⟨rfl, rfl⟩)
  go_ret
  exact ⟨by simp, rfl⟩
set_option maxRecDepth 100000 in
set_option maxHeartbeats 4000000 in
/-- A sorted row is found sorted. -/
theorem isSortedS (w : World) (fp : List Nat) (ao : Option Addr) (n c : Nat) (l : List Str) (hn : l.length = n) (hl : n ≤ 140737488355328) (h : Rd w fp ao (svn l)) (hs : l.Pairwise (· < ·)) :
    Calls Tryz.prog 19 #[.slice ao n c] w fun e w' => e = .returned (.bool true) ∧ ∃ q, w' = w.drewN q := by
  have H := Lib.hid h
  have HP := Lib.hid (List.pairwise_iff_getElem.1 hs)
  have HN := Lib.hid hn
  clear h hs hn
  go_enter Tryz.func19, Tryz.ntmps19
  go_wp2_with fail
  go_loopw [3] (fun i wr => ∃ k : Int, i = .int .i64 k ∧ -1 ≤ k ∧ k < n ∧ ∃ q, wr = w.drewN q) (fun i _ => (intOf i + 1).toNat)
  case atStart => exact ⟨(n : Int) - 1, rfl, by omega, by omega, 0, rfl⟩
  case round =>
    obtain ⟨k, rfl, hk1, hk2, q, hwr⟩ := hrel
    have hkq : Chg [] w wr := by rw [hwr]; exact (Chg.refl [] w).drewN q
    have HW := Lib.hid hwr
    clear hwr
    by_cases hlt : 0 < k
    · obtain ⟨m, rfl⟩ : ∃ m : Nat, k = ((m + 1 : Nat) : Int) := ⟨(k - 1).toNat, by omega⟩
      have hmn : m + 1 < n := by omega
      have hm2 : m < n := by omega
      have hml : m + 1 < l.length := by rw [HN.out]; exact hmn
      obtain ⟨ad, rfl, _, hc1⟩ := (H.out.chg hkq (by simp)) (m + 1) (.string (ba l[m + 1])) (by unfold svn; rw [sv_get _ _ (by simpa using hml)]; simp)
      obtain ⟨ad', e, _, hc0⟩ := (H.out.chg hkq (by simp)) m (.string (ba (l[m]'(by omega)))) (by unfold svn; rw [sv_get _ _ (by simpa using (show m < l.length by omega))]; simp)
      cases e
      have hle : Op.bytesLess (ba l[m + 1]).toList (ba (l[m]'(by omega))).toList = false := by
        rw [Go.Proofs.bytesLess_eq, ba_tl, ba_tl, decide_eq_false_iff_not]
        exact fun h => slt_irrefl _ (slt_trans h (HP.out m (m + 1) (by omega) hml (by omega)))
      have HLS := Lib.hid (fun W => lessS (ba l[m + 1]) (ba (l[m]'(by omega))) W)
      rw [hle] at HLS
      clear hle
      generalize ba l[m + 1] = X at *
      generalize ba (l[m]'(by omega)) = Y at *
      have hwr : IntKind.i64.wrap (((m + 1 : Nat) : Int) - 1) = (m : Int) := by rw [show ((m + 1 : Nat) : Int) - 1 = m by omega]; exact IntWalk.i64_in _ (by omega)
      have HM := Lib.hid (show ((m + 1 : Nat) : Int) - 1 = (m : Int) by omega)
      generalize m + 1 = M1 at *
      go_upto_region 4 with (fail)
      go_quiet ((go_at_call 45; exact Calls.quiet_of_same (HLS.out _)))
      go_wp2_with fail
      go_roundw
      case rel => exact ⟨m, rfl, by omega, by omega, _, by rw [HW.out, World.drewN_drewN]⟩
      case measure => simp [intOf]; have := HM.out; omega
    · go_wp2_with fail
      go_ret
      exact ⟨rfl, q, HW.out⟩
end Go.Proofs.YtoionaeimnmcbaaGreatDoor
