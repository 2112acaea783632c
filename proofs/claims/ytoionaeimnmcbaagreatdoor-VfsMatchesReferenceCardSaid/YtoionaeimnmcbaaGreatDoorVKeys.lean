/- slices.Index, Contains at strings; paxtar/paxrec.Check at the key "linkpath". -/
import Derived.Test.YtoionaeimnmcbaaGreatDoorVStr
namespace Go.Pax
open Go.RowKit
def sv (l : List ByteArray) : List Value := l.map Value.string
theorem sv_length (l : List ByteArray) : (sv l).length = l.length := by simp [sv]
theorem sv_get (l : List ByteArray) (j : Nat) (h : j < l.length) : (sv l)[j]? = some (.string l[j]) := by simp [sv, h]
theorem sv_one (l : List ByteArray) : ∀ u ∈ sv l, u.oneCell' = true := by
  intro u hu; obtain ⟨_, _, rfl⟩ := List.mem_map.1 hu; rfl
/-- The first place of x from place k on, or -1. -/
def idxS (x : ByteArray) : List ByteArray → Nat → Int
  | [], _ => -1
  | y :: l, k => if x = y then k else idxS x l (k + 1)
theorem idxS_ge (x : ByteArray) : ∀ (l : List ByteArray) (k : Nat), idxS x l k = -1 ∨ (k : Int) ≤ idxS x l k
  | [], _ => .inl rfl
  | y :: l, k => by
    simp only [idxS]
    split
    · exact .inr (Int.le_refl _)
    · rcases idxS_ge x l (k + 1) with h | h
      · exact .inl h
      · exact .inr (by omega)
theorem idxS_contains (x : ByteArray) : ∀ (l : List ByteArray) (k : Nat), (0 ≤ idxS x l k ↔ x ∈ l)
  | [], _ => by simp [idxS]
  | y :: l, k => by
    simp only [idxS, List.mem_cons]
    split
    · rename_i h; simp [h]
    · rename_i h; rw [idxS_contains x l (k + 1)]; simp [h]
def linkpath : List UInt8 := [108, 105, 110, 107, 112, 97, 116, 104]
def pathK : List UInt8 := [112, 97, 116, 104]
def sizeK : List UInt8 := [115, 105, 122, 101]
/-- paxtar/paxrec.Check of a value that is no number. -/
def checkV (v : List UInt8) : Int := if 65536 < v.length then 7 else if v = [] ∨ 0 ≤ Lib.indexByte v 0 then 6 else 0
end Go.Pax
namespace Go.Proofs.YtoionaeimnmcbaaGreatDoor
open Go.RowKit Go.Pax Go.Shelf
/-- The package variable paxrec.keys reads as it was laid. -/
def KeysAt (w : World) : Prop := ∃ t, w.heap[1]? = some (.cells #[.string (ba linkpath), .string (ba pathK), .string (ba sizeK)] t (0, 0))
theorem KeysAt.chg {w w' : World} {S : List Nat} (h : KeysAt w) (k : Chg S w w') (hS : 1 ∉ S) : KeysAt w' := by
  obtain ⟨t, h⟩ := h
  exact ⟨t, k.heap h hS⟩
set_option maxRecDepth 100000 in
set_option maxHeartbeats 2000000 in
theorem indexS (w : World) (ao : Option Addr) (c : Nat) (fp : List Nat) (l : List ByteArray) (x : ByteArray) (hl : l.length ≤ 140737488355328) (h : Rd w fp ao (sv l)) :
    Calls Tryz.prog 42 #[.slice ao l.length c, .string x] w fun e w' => e = .returned (.int .i64 (idxS x l 0)) ∧ w' = w := by
  have H := Lib.hid h
  clear h
  generalize hn : l.length = n at *
  have HN := Lib.hid hn
  clear hn
  go_enter Tryz.func42, Tryz.ntmps42
  go_wp2
  go_loop [8] (fun i => ∃ k : Nat, k ≤ n ∧ i = .int .i64 k ∧ idxS x l 0 = idxS x (l.drop k) k) (fun i => n - (intOf i).toNat)
  case atStart => exact ⟨0, Nat.zero_le _, rfl, by simp⟩
  case round =>
    obtain ⟨k, hk, rfl, hik⟩ := hrel
    have HI := Lib.hid hik
    clear hik
    by_cases hlt : k < n
    · have hkl : k < l.length := by rw [HN.out]; exact hlt
      obtain ⟨ad, rfl, _, hc⟩ := H.out k _ (sv_get l k hkl)
      have hd : l.drop k = l[k] :: l.drop (k + 1) := List.drop_eq_getElem_cons hkl
      have HD := Lib.hid hd
      clear hd
      generalize l[k] = y at *
      have hki : (k : Int) < n := by omega
      by_cases hxy : x = y
      · subst hxy
        go_wp2
        go_ret
        exact ⟨by rw [HI.out, HD.out]; simp [idxS], rfl⟩
      · have hne : (x.toList == y.toList) = false := by
          rw [beq_eq_false_iff_ne]
          intro he
          rw [ByteArray.toList_eq, ByteArray.toList_eq] at he
          exact hxy (by cases x; cases y; simp at he; rw [he])
        have HXY := Lib.hid hxy
        clear hxy
        go_wp2
        go_round
        case rel => exact ⟨k + 1, by omega, by go_num, by rw [HI.out, HD.out, idxS, if_neg HXY.out]⟩
        case measure => simp [intOf]; omega
    · have hkn : k = n := by omega
      subst hkn
      go_wp2
      go_ret
      exact ⟨by rw [HI.out, List.drop_of_length_le (by rw [HN.out]; exact Nat.le_refl _)]; rfl, rfl⟩
set_option maxHeartbeats 1000000 in
theorem containsS (w : World) (ao : Option Addr) (c : Nat) (fp : List Nat) (l : List ByteArray) (x : ByteArray) (hl : l.length ≤ 140737488355328) (h : Rd w fp ao (sv l)) :
    Calls Tryz.prog 17 #[.slice ao l.length c, .string x] w fun e w' => e = .returned (.bool (decide (0 ≤ idxS x l 0))) ∧ w' = w := by
  have HI := Lib.hid (indexS w ao c fp l x hl h)
  clear h
  generalize idxS x l 0 = i at *
  go_enter Tryz.func17, Tryz.ntmps17
  go_wp2_with (go_at_call 42; refine HI.out.mono ?_; rintro e w' ⟨rfl, rfl⟩)
  go_ret
  exact ⟨rfl, rfl⟩

set_option maxRecDepth 100000 in
set_option maxHeartbeats 2000000 in
theorem checkRec (w : World) (v : List UInt8) (hk : KeysAt w) (hv : v.length ≤ 140737488355328) :
    Calls Tryz.prog 72 #[.agg #[.string (ba linkpath), .string (ba v)]] w fun e w' => e = .returned (.int .i64 (checkV v)) ∧ Chg [] w w' := by
  have hk1 : Chg [] w (w.alloc (.cells #[.string (ba linkpath), .string (ba v)] 106)) := (Chg.refl _ _).alloc _
  obtain ⟨t, hk2⟩ := hk.chg hk1 (by simp)
  have hrd : ∀ W : World, Chg [] (w.alloc (.cells #[.string (ba linkpath), .string (ba v)] 106)) W → Rd W [1] (some ⟨1, 0, none⟩) (sv [ba linkpath, ba pathK, ba sizeK]) := fun W hW j u hu => by
    refine ⟨_, rfl, by simp, ?_⟩
    have hb := hW.heap hk2 (by simp)
    match j, hu with
    | 0, hu => simp [sv] at hu; subst hu; exact cell_heap hb 0 rfl
    | 1, hu => simp [sv] at hu; subst hu; exact cell_heap hb 1 rfl
    | 2, hu => simp [sv] at hu; subst hu; exact cell_heap hb 2 rfl
    | j + 3, hu => simp [sv] at hu
  have hcon : ∀ W, Chg [] (w.alloc (.cells #[.string (ba linkpath), .string (ba v)] 106)) W → Calls Tryz.prog 17 #[.slice (some ⟨1, 0, none⟩) 3 3, .string (ba linkpath)] W fun e w' => e = .returned (.bool true) ∧ w' = W := fun W hW => by
    have h := containsS W (some ⟨1, 0, none⟩) 3 [1] [ba linkpath, ba pathK, ba sizeK] (ba linkpath) (by simp) (hrd W hW)
    have hi : idxS (ba linkpath) [ba linkpath, ba pathK, ba sizeK] 0 = 0 := by simp [idxS]
    rw [hi] at h
    exact h
  have HCON := Lib.hid hcon
  have HK1 := Lib.hid hk1
  have hls : ((ba linkpath).toList == ([115, 105, 122, 101] : List UInt8)) = false := by rw [ByteArray.toList_eq]; decide +kernel
  have hls2 : (ba linkpath).toList ≠ [115, 105, 122, 101] := by simpa using hls
  clear hcon hrd hk2 hk hk1
  have hz : ((ba v).size : Int) = v.length := by rw [ba_size]
  have hl0 : (ba v).toList = v := by rw [ByteArray.toList_eq]; exact ba_data v
  have hix := fun W => Tryz.strings_IndexByte (ba v) 0 W
  rw [ba_data] at hix
  rw [show (Int.toNat 0).toUInt8 = 0 from rfl] at hix
  have HIX := Lib.hid hix
  clear hix
  have hcv : checkV v = if 65536 < v.length then 7 else if v = [] ∨ 0 ≤ Lib.indexByte v 0 then 6 else 0 := rfl
  have hge := Lib.indexByte_ge v 0
  generalize Lib.indexByte v 0 = i at *
  generalize hV : ba v = V at *
  clear hV
  generalize hLK : ba linkpath = LK at *
  clear hLK
  by_cases hlong : 65536 < v.length
  · rw [if_pos hlong] at hcv
    have HCV := Lib.hid hcv
    have hz1 : (65536 : Int) < (V.size : Int) := by omega
    have hz2 : (V.size : Int) ≤ 140737488355328 := by omega
    clear hcv hz hl0 hlong hge hv
    go_enter Tryz.func72, Tryz.ntmps72
    go_upto_region 1 with (fail)
    go_quiet ((go_at_call 17; exact Calls.quiet_of_same (HCON.out _ (by first | exact Chg.refl _ _ | exact (Chg.refl _ _).drewN _ | exact (Chg.refl _ _).drew))))
    go_wp2_with fail
    go_ret
    rw [HCV.out]
    exact ⟨rfl, (HK1.out.drewN _)⟩
  rw [if_neg hlong] at hcv
  have hz1 : (V.size : Int) ≤ 65536 := by omega
  by_cases hv0 : v = []
  · rw [if_pos (.inl hv0)] at hcv
    have HCV := Lib.hid hcv
    rw [hv0] at hl0
    have hv1 : V.toList.isEmpty = true := by rw [hl0]; rfl
    clear hcv hz hlong hge hv hv0
    go_enter Tryz.func72, Tryz.ntmps72
    go_upto_region 1 with (fail)
    go_quiet ((go_at_call 17; exact Calls.quiet_of_same (HCON.out _ (by first | exact Chg.refl _ _ | exact (Chg.refl _ _).drewN _ | exact (Chg.refl _ _).drew))))
    go_wp2_with (go_at_call 74; refine (HIX.out _).mono ?_; rintro e w' ⟨rfl, rfl⟩)
    go_ret
    rw [HCV.out]
    exact ⟨rfl, (HK1.out.drewN _)⟩
  · have hv1 : V.toList.isEmpty = false := by rw [hl0]; simpa using hv0
    have hv2 : V.toList ≠ [] := by rw [hl0]; exact hv0
    by_cases hi : 0 ≤ i
    · rw [if_pos (.inr hi)] at hcv
      have HCV := Lib.hid hcv
      clear hcv hz hlong hge hv hv0 hl0
      go_enter Tryz.func72, Tryz.ntmps72
      go_upto_region 1 with (fail)
      go_quiet ((go_at_call 17; exact Calls.quiet_of_same (HCON.out _ (by first | exact Chg.refl _ _ | exact (Chg.refl _ _).drewN _ | exact (Chg.refl _ _).drew))))
      go_wp2_with (go_at_call 74; refine (HIX.out _).mono ?_; rintro e w' ⟨rfl, rfl⟩)
      go_ret
      rw [HCV.out]
      exact ⟨rfl, (HK1.out.drewN _)⟩
    · rw [if_neg (by intro h; rcases h with h | h; exact hv0 h; exact hi h)] at hcv
      have HCV := Lib.hid hcv
      clear hcv hz hlong hge hv hv0 hl0
      go_enter Tryz.func72, Tryz.ntmps72
      go_upto_region 1 with (fail)
      go_quiet ((go_at_call 17; exact Calls.quiet_of_same (HCON.out _ (by first | exact Chg.refl _ _ | exact (Chg.refl _ _).drewN _ | exact (Chg.refl _ _).drew))))
      go_wp2_with (go_at_call 74; refine (HIX.out _).mono ?_; rintro e w' ⟨rfl, rfl⟩)
      go_ret
      rw [HCV.out]
      exact ⟨rfl, (HK1.out.drewN _)⟩
end Go.Proofs.YtoionaeimnmcbaaGreatDoor
