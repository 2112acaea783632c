/- paxtar/pathname.Parent, Base; slices.BinarySearch at strings. slices.Index, Contains at strings; paxtar/paxrec.Check at the key "linkpath". slices.Insert of one string into a row that the file system owns. Maps from strings to pointers: what they hold, entry by entry; their lookup and their store. slices.Clone at []byte and []int: the result owns the same cells; nothing that was there is changed. A file system in memory: what it holds, and what a change of one part leaves of the others. -/
import Derived.IntWalk
import Derived.Shelf.Spec.SlicesInsertGrow
import Derived.Shelf.Spec.SlicesInsert
import Derived.WideShapes
import Derived.MapKept
import Derived.Test.YtfhiioopimmahaaGreatDoorProg
import Derived.Lib.Hide
import Derived.Lib.SliceRun
import Derived.Test.YtfhiioopimmahaaGreatDoorPO01
namespace Go.Pax
open Go.RowKit
def lastSl (l : List UInt8) : Int := Lib.lastIndexByte (ba l) 47
def parentP (l : List UInt8) : List UInt8 := if lastSl l < 0 then [] else l.take (lastSl l).toNat
def baseP (l : List UInt8) : List UInt8 := l.drop (lastSl l + 1).toNat
theorem lastSl_spec (l : List UInt8) : (lastSl l = -1 ∧ 47 ∉ l) ∨ ∃ i : Nat, i < l.length ∧ lastSl l = i ∧ l[i]? = some 47 ∧ 47 ∉ l.drop (i + 1) := by
  have hsz : (ba l).size = l.length := ba_size l
  have hget : ∀ j, j < l.length → (ba l).data[j]! = l[j]! := fun j hj => by simp [ba, hj]
  have hu : ∀ x : UInt8, ((x.toNat : Int) = 47) ↔ x = 47 := fun x => ⟨fun h => UInt8.toNat_inj.1 (by simpa using (by omega : x.toNat = 47)), fun h => by subst h; rfl⟩
  rcases Lib.lastIdx_spec (ba l) 47 (ba l).size with ⟨h1, h2⟩ | ⟨i, hi, h1, h2, h3⟩
  · refine .inl ⟨h1, fun hm => ?_⟩
    obtain ⟨j, hj, he⟩ := List.mem_iff_getElem.1 hm
    have := h2 j (by omega)
    rw [hget j hj, getElem!_pos l j hj, he] at this
    exact this rfl
  · rw [hsz] at hi h3
    refine .inr ⟨i, hi, h1, ?_, fun hm => ?_⟩
    · rw [hget i hi, getElem!_pos l i hi, hu] at h2
      rw [List.getElem?_eq_getElem hi, h2]
    · obtain ⟨j, hj, he⟩ := List.mem_iff_getElem.1 hm
      simp at hj he
      have := h3 (i + 1 + j) (by omega) (by omega)
      rw [hget _ (by omega), getElem!_pos l _ (by omega), he] at this
      exact this rfl
theorem lastSl_lt (l : List UInt8) : -1 ≤ lastSl l ∧ lastSl l < l.length := by
  rcases lastSl_spec l with ⟨h, _⟩ | ⟨i, h1, h2, _⟩
  · rw [h]; omega
  · rw [h2]; omega
end Go.Pax
namespace Go.Proofs.YtfhiioopimmahaaGreatDoor
open Go.RowKit Go.Pax Go.Shelf
theorem lastIx (l : List UInt8) (hl : l.length ≤ 140737488355328) (w : World) :
    Calls Tryz.prog 104 #[.string (ba l), .string ⟨#[47]⟩] w fun e w' => e = .returned (.int .i64 (lastSl l)) ∧ w' = w :=
  Any.strings_LastIndex_one Tryz.lix (ba l) ⟨#[47]⟩ rfl (by rw [ba_size]; omega) w
set_option maxHeartbeats 1000000 in
theorem parent (l : List UInt8) (hl : l.length ≤ 140737488355328) (w : World) :
    Calls Tryz.prog 82 #[.string (ba l)] w fun e w' => e = .returned (.string (ba (parentP l))) ∧ w' = w := by
  have hlt := lastSl_lt l
  have HI := Lib.hid (lastIx l hl w)
  have ht := fun k => ext_take (ba l) k
  simp only [ba_data] at ht
  have hp : parentP l = if lastSl l < 0 then [] else l.take (lastSl l).toNat := rfl
  have hz : ((ba l).size : Int) = l.length := by rw [ba_size]
  by_cases h0 : lastSl l < 0
  · rw [if_pos h0] at hp
    have HP := Lib.hid hp
    clear hp ht hz
    generalize lastSl l = x at *
    go_enter Tryz.func82, Tryz.ntmps82
    go_wp2_with (go_at_call 104; refine HI.out.mono ?_; rintro e w' ⟨rfl, rfl⟩)
    go_ret
    rw [HP.out]
    exact ⟨rfl, rfl⟩
  · rw [if_neg h0] at hp
    have HP := Lib.hid hp
    clear hp
    generalize lastSl l = x at *
    obtain ⟨i, rfl⟩ : ∃ i : Nat, x = i := ⟨x.toNat, by omega⟩
    have HT := Lib.hid (ht i)
    have h1 : (i : Int) ≤ ((ba l).size : Int) := by omega
    have h2 : ((ba l).size : Int) ≤ 140737488355328 := by omega
    clear ht hz hlt hl
    generalize ba l = S at *
    go_enter Tryz.func82, Tryz.ntmps82
    go_wp2_with (go_at_call 104; refine HI.out.mono ?_; rintro e w' ⟨rfl, rfl⟩)
    go_ret
    rw [HP.out, Int.toNat_natCast, ← HT.out]
    exact ⟨by simp, rfl⟩
set_option maxHeartbeats 1000000 in
theorem base (l : List UInt8) (hl : l.length ≤ 140737488355328) (w : World) :
    Calls Tryz.prog 93 #[.string (ba l)] w fun e w' => e = .returned (.string (ba (baseP l))) ∧ ∃ k, w' = w.drewN k := by
  have hlt := lastSl_lt l
  have HI := Lib.hid (lastIx l hl w)
  have ht := fun k => ext_drop (ba l) k
  simp only [ba_data] at ht
  have hp : baseP l = l.drop (lastSl l + 1).toNat := rfl
  have hz : ((ba l).size : Int) = l.length := by rw [ba_size]
  have HP := Lib.hid hp
  clear hp
  generalize lastSl l = x at *
  obtain ⟨i, hi⟩ : ∃ i : Nat, x + 1 = i := ⟨(x + 1).toNat, by omega⟩
  obtain rfl : x = (i : Int) - 1 := by omega
  have HT := Lib.hid (ht i)
  have h1 : (i : Int) ≤ ((ba l).size : Int) := by omega
  have h2 : ((ba l).size : Int) ≤ 140737488355328 := by omega
  have hs : IntKind.i64.wrap ((i : Int) - 1 + 1) = i := by rw [show (i : Int) - 1 + 1 = i by omega]; exact IntWalk.i64_in _ (by omega)
  clear ht hz hlt hl hi
  generalize ba l = S at *
  go_enter Tryz.func93, Tryz.ntmps93
  go_wp2_with (go_at_call 104; refine HI.out.mono ?_; rintro e w' ⟨rfl, rfl⟩)
  go_ret
  rw [HP.out, show (((i : Int) - 1 + 1).toNat) = i by omega, ← HT.out]
  exact ⟨by simp, 0, rfl⟩
end Go.Proofs.YtfhiioopimmahaaGreatDoor
namespace Go.Pax
open Go.RowKit
def sv (l : List ByteArray) : List Value := l.map Value.string
theorem sv_length (l : List ByteArray) : (sv l).length = l.length := by simp [sv]
theorem sv_get (l : List ByteArray) (j : Nat) (h : j < l.length) : (sv l)[j]? = some (.string l[j]) := by simp [sv, h]
theorem sv_one (l : List ByteArray) : ∀ u ∈ sv l, u.oneCell' = true := by
  intro u hu; obtain ⟨_, _, rfl⟩ := List.mem_map.1 hu; rfl
/-- The first place of x from place k on, or -1. -/
def idxS (x : ByteArray) : List ByteArray → Nat → Int
  | [], _ => -1
  | y :: l, k => if x = y then k else idxS x l (k + 1)
theorem idxS_ge (x : ByteArray) : ∀ (l : List ByteArray) (k : Nat), idxS x l k = -1 ∨ (k : Int) ≤ idxS x l k
  | [], _ => .inl rfl
  | y :: l, k => by
    simp only [idxS]
    split
    · exact .inr (Int.le_refl _)
    · rcases idxS_ge x l (k + 1) with h | h
      · exact .inl h
      · exact .inr (by omega)
theorem idxS_contains (x : ByteArray) : ∀ (l : List ByteArray) (k : Nat), (0 ≤ idxS x l k ↔ x ∈ l)
  | [], _ => by simp [idxS]
  | y :: l, k => by
    simp only [idxS, List.mem_cons]
    split
    · rename_i h; simp [h]
    · rename_i h; rw [idxS_contains x l (k + 1)]; simp [h]
def linkpath : List UInt8 := [108, 105, 110, 107, 112, 97, 116, 104]
def pathK : List UInt8 := [112, 97, 116, 104]
def sizeK : List UInt8 := [115, 105, 122, 101]
/-- paxtar/paxrec.Check of a value that is no number. -/
def checkV (v : List UInt8) : Int := if 65536 < v.length then 7 else if v = [] ∨ 0 ≤ Lib.indexByte v 0 then 6 else 0
end Go.Pax
namespace Go.Proofs.YtfhiioopimmahaaGreatDoor
open Go.RowKit Go.Pax Go.Shelf
/-- The package variable paxrec.keys reads as it was laid. -/
def KeysAt (w : World) : Prop := ∃ t, w.heap[0]? = some (.cells #[.string (ba linkpath), .string (ba pathK), .string (ba sizeK)] t (0, 0))
theorem KeysAt.chg {w w' : World} {S : List Nat} (h : KeysAt w) (k : Chg S w w') (hS : 0 ∉ S) : KeysAt w' := by
  obtain ⟨t, h⟩ := h
  exact ⟨t, k.heap h hS⟩
set_option maxRecDepth 100000 in
set_option maxHeartbeats 2000000 in
theorem indexS (w : World) (ao : Option Addr) (c : Nat) (fp : List Nat) (l : List ByteArray) (x : ByteArray) (hl : l.length ≤ 140737488355328) (h : Rd w fp ao (sv l)) :
    Calls Tryz.prog 39 #[.slice ao l.length c, .string x] w fun e w' => e = .returned (.int .i64 (idxS x l 0)) ∧ w' = w := by
  have H := Lib.hid h
  clear h
  generalize hn : l.length = n at *
  have HN := Lib.hid hn
  clear hn
  go_enter Tryz.func39, Tryz.ntmps39
  go_wp2
  go_loop [8] (fun i => ∃ k : Nat, k ≤ n ∧ i = .int .i64 k ∧ idxS x l 0 = idxS x (l.drop k) k) (fun i => n - (intOf i).toNat)
  case atStart => exact ⟨0, Nat.zero_le _, rfl, by simp⟩
  case round =>
    obtain ⟨k, hk, rfl, hik⟩ := hrel
    have HI := Lib.hid hik
    clear hik
    by_cases hlt : k < n
    · have hkl : k < l.length := by rw [HN.out]; exact hlt
      obtain ⟨ad, rfl, _, hc⟩ := H.out k _ (sv_get l k hkl)
      have hd : l.drop k = l[k] :: l.drop (k + 1) := List.drop_eq_getElem_cons hkl
      have HD := Lib.hid hd
      clear hd
      generalize l[k] = y at *
      have hki : (k : Int) < n := by omega
      by_cases hxy : x = y
      · subst hxy
        go_wp2
        go_ret
        exact ⟨by rw [HI.out, HD.out]; simp [idxS], rfl⟩
      · have hne : (x.toList == y.toList) = false := by
          rw [beq_eq_false_iff_ne]
          intro he
          rw [ByteArray.toList_eq, ByteArray.toList_eq] at he
          exact hxy (by cases x; cases y; simp at he; rw [he])
        have HXY := Lib.hid hxy
        clear hxy
        go_wp2
        go_round
        case rel => exact ⟨k + 1, by omega, by go_num, by rw [HI.out, HD.out, idxS, if_neg HXY.out]⟩
        case measure => simp [intOf]; omega
    · have hkn : k = n := by omega
      subst hkn
      go_wp2
      go_ret
      exact ⟨by rw [HI.out, List.drop_of_length_le (by rw [HN.out]; exact Nat.le_refl _)]; rfl, rfl⟩
set_option maxHeartbeats 1000000 in
theorem containsS (w : World) (ao : Option Addr) (c : Nat) (fp : List Nat) (l : List ByteArray) (x : ByteArray) (hl : l.length ≤ 140737488355328) (h : Rd w fp ao (sv l)) :
    Calls Tryz.prog 16 #[.slice ao l.length c, .string x] w fun e w' => e = .returned (.bool (decide (0 ≤ idxS x l 0))) ∧ w' = w := by
  have HI := Lib.hid (indexS w ao c fp l x hl h)
  clear h
  generalize idxS x l 0 = i at *
  go_enter Tryz.func16, Tryz.ntmps16
  go_wp2_with (go_at_call 39; refine HI.out.mono ?_; rintro e w' ⟨rfl, rfl⟩)
  go_ret
  exact ⟨rfl, rfl⟩

set_option maxRecDepth 100000 in
set_option maxHeartbeats 2000000 in
theorem checkRec (w : World) (v : List UInt8) (hk : KeysAt w) (hv : v.length ≤ 140737488355328) :
    Calls Tryz.prog 90 #[.agg #[.string (ba linkpath), .string (ba v)]] w fun e w' => e = .returned (.int .i64 (checkV v)) ∧ Chg [] w w' := by
  have hk1 : Chg [] w (w.alloc (.cells #[.string (ba linkpath), .string (ba v)] 151)) := (Chg.refl _ _).alloc _
  obtain ⟨t, hk2⟩ := hk.chg hk1 (by simp)
  have hrd : ∀ W : World, Chg [] (w.alloc (.cells #[.string (ba linkpath), .string (ba v)] 151)) W → Rd W [0] (some ⟨0, 0, none⟩) (sv [ba linkpath, ba pathK, ba sizeK]) := fun W hW j u hu => by
    refine ⟨_, rfl, by simp, ?_⟩
    have hb := hW.heap hk2 (by simp)
    match j, hu with
    | 0, hu => simp [sv] at hu; subst hu; exact cell_heap hb 0 rfl
    | 1, hu => simp [sv] at hu; subst hu; exact cell_heap hb 1 rfl
    | 2, hu => simp [sv] at hu; subst hu; exact cell_heap hb 2 rfl
    | j + 3, hu => simp [sv] at hu
  have hcon : ∀ W, Chg [] (w.alloc (.cells #[.string (ba linkpath), .string (ba v)] 151)) W → Calls Tryz.prog 16 #[.slice (some ⟨0, 0, none⟩) 3 3, .string (ba linkpath)] W fun e w' => e = .returned (.bool true) ∧ w' = W := fun W hW => by
    have h := containsS W (some ⟨0, 0, none⟩) 3 [0] [ba linkpath, ba pathK, ba sizeK] (ba linkpath) (by simp) (hrd W hW)
    have hi : idxS (ba linkpath) [ba linkpath, ba pathK, ba sizeK] 0 = 0 := by simp [idxS]
    rw [hi] at h
    exact h
  have HCON := Lib.hid hcon
  have HK1 := Lib.hid hk1
  have hls : ((ba linkpath).toList == ([115, 105, 122, 101] : List UInt8)) = false := by rw [ByteArray.toList_eq]; decide +kernel
  have hls2 : (ba linkpath).toList ≠ [115, 105, 122, 101] := by simpa using hls
  clear hcon hrd hk2 hk hk1
  have hz : ((ba v).size : Int) = v.length := by rw [ba_size]
  have hl0 : (ba v).toList = v := by rw [ByteArray.toList_eq]; exact ba_data v
  have hix := fun W => Tryz.strings_IndexByte (ba v) 0 W
  rw [ba_data] at hix
  rw [show (Int.toNat 0).toUInt8 = 0 from rfl] at hix
  have HIX := Lib.hid hix
  clear hix
  have hcv : checkV v = if 65536 < v.length then 7 else if v = [] ∨ 0 ≤ Lib.indexByte v 0 then 6 else 0 := rfl
  have hge := Lib.indexByte_ge v 0
  generalize Lib.indexByte v 0 = i at *
  generalize hV : ba v = V at *
  clear hV
  generalize hLK : ba linkpath = LK at *
  clear hLK
  by_cases hlong : 65536 < v.length
  · rw [if_pos hlong] at hcv
    have HCV := Lib.hid hcv
    have hz1 : (65536 : Int) < (V.size : Int) := by omega
    have hz2 : (V.size : Int) ≤ 140737488355328 := by omega
    clear hcv hz hl0 hlong hge hv
    go_enter Tryz.func90, Tryz.ntmps90
    go_upto_region 1 with (fail)
    go_quiet ((go_at_call 16; exact Calls.quiet_of_same (HCON.out _ (by first | exact Chg.refl _ _ | exact (Chg.refl _ _).drewN _ | exact (Chg.refl _ _).drew))))
    go_wp2_with fail
    go_ret
    rw [HCV.out]
    exact ⟨rfl, (HK1.out.drewN _)⟩
  rw [if_neg hlong] at hcv
  have hz1 : (V.size : Int) ≤ 65536 := by omega
  by_cases hv0 : v = []
  · rw [if_pos (.inl hv0)] at hcv
    have HCV := Lib.hid hcv
    rw [hv0] at hl0
    have hv1 : V.toList.isEmpty = true := by rw [hl0]; rfl
    clear hcv hz hlong hge hv hv0
    go_enter Tryz.func90, Tryz.ntmps90
    go_upto_region 1 with (fail)
    go_quiet ((go_at_call 16; exact Calls.quiet_of_same (HCON.out _ (by first | exact Chg.refl _ _ | exact (Chg.refl _ _).drewN _ | exact (Chg.refl _ _).drew))))
    go_wp2_with (go_at_call 92; refine (HIX.out _).mono ?_; rintro e w' ⟨rfl, rfl⟩)
    go_ret
    rw [HCV.out]
    exact ⟨rfl, (HK1.out.drewN _)⟩
  · have hv1 : V.toList.isEmpty = false := by rw [hl0]; simpa using hv0
    have hv2 : V.toList ≠ [] := by rw [hl0]; exact hv0
    by_cases hi : 0 ≤ i
    · rw [if_pos (.inr hi)] at hcv
      have HCV := Lib.hid hcv
      clear hcv hz hlong hge hv hv0 hl0
      go_enter Tryz.func90, Tryz.ntmps90
      go_upto_region 1 with (fail)
      go_quiet ((go_at_call 16; exact Calls.quiet_of_same (HCON.out _ (by first | exact Chg.refl _ _ | exact (Chg.refl _ _).drewN _ | exact (Chg.refl _ _).drew))))
      go_wp2_with (go_at_call 92; refine (HIX.out _).mono ?_; rintro e w' ⟨rfl, rfl⟩)
      go_ret
      rw [HCV.out]
      exact ⟨rfl, (HK1.out.drewN _)⟩
    · rw [if_neg (by intro h; rcases h with h | h; exact hv0 h; exact hi h)] at hcv
      have HCV := Lib.hid hcv
      clear hcv hz hlong hge hv hv0 hl0
      go_enter Tryz.func90, Tryz.ntmps90
      go_upto_region 1 with (fail)
      go_quiet ((go_at_call 16; exact Calls.quiet_of_same (HCON.out _ (by first | exact Chg.refl _ _ | exact (Chg.refl _ _).drewN _ | exact (Chg.refl _ _).drew))))
      go_wp2_with (go_at_call 92; refine (HIX.out _).mono ?_; rintro e w' ⟨rfl, rfl⟩)
      go_ret
      rw [HCV.out]
      exact ⟨rfl, (HK1.out.drewN _)⟩
end Go.Proofs.YtfhiioopimmahaaGreatDoor
namespace Go.Pax
open Go.RowKit
/-- A row's cells from place o on, written anew. -/
def putAt (cs : Array Value) : Nat → List Value → Array Value
  | _, [] => cs
  | o, v :: r => putAt (cs.setIfInBounds o v) (o + 1) r
theorem putAt_size : ∀ (vs : List Value) (o : Nat) (cs : Array Value), (putAt cs o vs).size = cs.size
  | [], _, _ => rfl
  | v :: r, o, cs => by rw [putAt, putAt_size r]; simp
theorem putAt_get : ∀ (vs : List Value) (o : Nat) (cs : Array Value) (j : Nat), j < cs.size → (putAt cs o vs)[j]? = if o ≤ j ∧ j < o + vs.length then vs[j - o]? else cs[j]?
  | [], o, cs, j, _ => by simp [putAt]; intro h1 h2; omega
  | v :: r, o, cs, j, hj => by
    rw [putAt, putAt_get r (o + 1) _ j (by simpa using hj)]
    by_cases h1 : o + 1 ≤ j ∧ j < o + 1 + r.length
    · rw [if_pos h1, if_pos ⟨by omega, by simp; omega⟩]
      obtain ⟨k, hk⟩ : ∃ k, j - o = k + 1 := ⟨j - o - 1, by omega⟩
      rw [hk, List.getElem?_cons_succ]
      congr 1; omega
    · rw [if_neg h1]
      by_cases h2 : j = o
      · subst h2
        rw [if_pos ⟨Nat.le_refl _, by simp⟩]
        simp [hj]
      · rw [if_neg (by simp; omega)]
        simp [Ne.symm h2]
theorem heap_setCells {t : TypeId} {g : Nat} : ∀ (vs : List Value) (o : Nat) (w : World) (cs : Array Value), w.heap[g]? = some (.cells cs t (0, 0)) → (w.setCells g o vs).heap[g]? = some (.cells (putAt cs o vs) t (0, 0))
  | [], _, _, _, h => h
  | v :: r, o, w, cs, h => by
    rw [World.setCells, putAt]
    exact heap_setCells r (o + 1) _ _ (heap_set h o v rfl)
theorem grown_setCells {g : Nat} : ∀ (vs : List Value) (o : Nat) (w W : World), w.grownBy W (some g) → w.grownBy (W.setCells g o vs) (some g)
  | [], _, _, _, h => h
  | v :: r, o, w, W, h => by
    rw [World.setCells]
    refine grown_setCells r (o + 1) w _ ⟨h.os, h.tape, h.output, by simpa [World.setCell] using h.size, fun i hi hne => ?_⟩
    exact (Below.heap_setCell _ _ _ _ (by intro e; subst e; exact hne rfl)).trans (h.block i hi hne)
theorem below_setCells {B g : Nat} (hg : B ≤ g) : ∀ (vs : List Value) (o : Nat) (w W : World), Below B w W → Below B w (W.setCells g o vs)
  | [], _, _, _, h => h
  | v :: r, o, w, W, h => by
    rw [World.setCells]
    exact below_setCells hg r (o + 1) w _ (h.setCell (p := ⟨g, o, none⟩) hg v)
/-- One element more, at place i. -/
def insAt {α : Type} (l : List α) (i : Nat) (x : α) : List α := l.take i ++ x :: l.drop i
theorem insAt_length {α : Type} (l : List α) (i : Nat) (x : α) (h : i ≤ l.length) : (insAt l i x).length = l.length + 1 := by simp [insAt]; omega
theorem insAt_get {α : Type} (l : List α) (i : Nat) (x : α) (h : i ≤ l.length) (j : Nat) : (insAt l i x)[j]? = if j < i then l[j]? else if j = i then some x else l[j - 1]? := by
  unfold insAt
  rw [List.getElem?_append]
  simp only [List.length_take, Nat.min_eq_left h]
  split
  · rw [List.getElem?_take, if_pos (by assumption)]
  · rename_i h1
    split
    · rename_i h2; subst h2; simp
    · rename_i h2
      obtain ⟨k, hk⟩ : ∃ k, j - i = k + 1 := ⟨j - i - 1, by omega⟩
      rw [hk, List.getElem?_cons_succ, List.getElem?_drop]
      congr 1; omega
theorem sv_insAt (l : List ByteArray) (i : Nat) (x : ByteArray) : sv (insAt l i x) = insAt (sv l) i (.string x) := by simp [sv, insAt, List.map_take, List.map_drop]
theorem take_eq_of_get {cs : Array Value} {xs : List Value} (_hle : xs.length ≤ cs.size) (h : ∀ j, j < xs.length → cs[j]? = xs[j]?) : cs.toList.take xs.length = xs := by
  apply List.ext_getElem?
  intro j
  rw [List.getElem?_take]
  split
  · rename_i hj; rw [← h j hj]; simp
  · rename_i hj; rw [List.getElem?_eq_none (by omega)]
theorem own_cells {w : World} {base g n cap : Nat} {e : TypeId} {xs : List Value} (h : w.ownsRow base e 1 (.slice (some ⟨g, 0, none⟩) n cap) n xs) :
    ∃ cur, w.heap[g]? = some (.cells cur e (0, 0)) ∧ base ≤ g ∧ n ≤ cap ∧ cap ≤ maxLen ∧ cur.size = cap ∧ xs.length = n ∧ ∀ j, j < n → cur[j]? = xs[j]? := by
  rcases h.2 with ⟨h', _⟩ | ⟨g', cap', cur, h', hb, hg, h1, h2, h3, h4⟩
  · simp at h'
  · simp only [Value.slice.injEq, Option.some.injEq, Addr.mk.injEq, and_true, true_and] at h'
    obtain ⟨rfl, rfl⟩ := h'
    have hl := h.1
    rw [Nat.mul_one] at h3 h4 hl
    refine ⟨cur, hg, hb, h1, h2, h3, hl, fun j hj => ?_⟩
    rw [← h4, List.getElem?_take, if_pos hj]; simp
theorem own_mk {w : World} {base g n cap : Nat} {e : TypeId} {xs : List Value} {cur : Array Value} (hg : w.heap[g]? = some (.cells cur e (0, 0))) (hb : base ≤ g) (hn : n ≤ cap) (hm : cap ≤ maxLen) (hc : cur.size = cap) (hl : xs.length = n) (hx : ∀ j, j < n → cur[j]? = xs[j]?) :
    w.ownsRow base e 1 (.slice (some ⟨g, 0, none⟩) n cap) n xs := by
  refine ⟨by omega, .inr ⟨g, cap, cur, rfl, hb, hg, hn, hm, by omega, ?_⟩⟩
  rw [Nat.mul_one]
  subst hl
  exact take_eq_of_get (by omega) hx
theorem zc_size (n : Nat) : (Builtin.zeroCells (Value.string ⟨#[]⟩).cells n).size = n := by simp [Builtin.zeroCells, Value.cells]
end Go.Pax
namespace Go.Proofs.YtfhiioopimmahaaGreatDoor
open Go.RowKit Go.Pax Go.Shelf
set_option maxRecDepth 100000 in
set_option maxHeartbeats 4000000 in
theorem insertS (w : World) (B : Nat) (v : Value) (l : List ByteArray) (i : Nat) (x : ByteArray) (vb : Nat) (tv : TypeId) (hi : i ≤ l.length) (hbig : (l.length + 1) * 16 ≤ 140737488355328) (hB : B ≤ w.heap.size)
    (hown : w.ownsRow B 9 1 v l.length (sv l)) (hvb : w.heap[vb]? = some (.cells #[.string x] tv (0, 0))) (hne : v.ownBlock ≠ some vb) :
    Calls Tryz.prog 94 #[v, .int .i64 i, .slice (some ⟨vb, 0, none⟩) 1 1] w fun e w' =>
      ∃ ao c, e = .returned (.slice ao (l.length + 1) c) ∧ w'.ownsRow B 9 1 (.slice ao (l.length + 1) c) (l.length + 1) (sv (insAt l i x)) ∧ w.grownBy w' v.ownBlock ∧
        ((Value.slice ao (l.length + 1) c).ownBlock = v.ownBlock ∨ (Value.slice ao (l.length + 1) c).ownBlock = some w.heap.size) := by
  have hvs : ∀ j u, [Value.string x][j]? = some u → w.cell? ⟨vb, 0 + j, none⟩ = some u := fun j u hu => by
    match j, hu with
    | 0, hu => simp at hu; subst hu; exact cell_heap hvb 0 rfl
    | j + 1, hu => simp at hu
  have h1v : ∀ u ∈ [Value.string x], u.oneCell' = true := by intro u hu; simp at hu; subst hu; rfl
  have hsl := sv_length l
  obtain ⟨ao, c, rfl⟩ := own_shape hown
  by_cases hin : i = l.length
  · subst hin
    by_cases hroom : l.length + 1 ≤ c
    · rcases ao with _ | ⟨g, o, sp⟩
      · rcases hown.2 with ⟨h', _⟩ | ⟨g', cap', cur, h', _⟩
        · simp at h'; omega
        · simp at h'
      · have hg' : o = 0 ∧ sp = none := by
          rcases hown.2 with ⟨h', _⟩ | ⟨g', cap', cur, h', _⟩
          · simp at h'
          · simp at h'; exact ⟨h'.1.2.1, h'.1.2.2⟩
        obtain ⟨rfl, rfl⟩ := hg'
        obtain ⟨cur, hg, hb, hnc, hcm, hcs, _, hcx⟩ := own_cells hown
        refine (Any2.slices_Insert_string_end_room Tryz.ins g 0 l.length c vb 0 1 1 [.string x] w (by decide) hroom (by unfold maxLen at hcm; exact hcm) rfl (fun j hj => ?_) (fun j hj => frozen_of_row _ _ _ _ _ hg) hvs h1v).mono ?_
        · obtain rfl : j = 0 := by omega
          simp only [Nat.zero_add, Nat.add_zero]
          rw [cell_heap hg l.length (v := cur[l.length]'(by omega)) (by simp)]
          rfl
        · rintro e w' ⟨rfl, rfl⟩
          simp only [Nat.zero_add]
          refine ⟨_, _, rfl, ?_, grown_setCells _ _ _ _ (World.grownBy.refl _ _), .inl rfl⟩
          refine own_mk (heap_setCells _ _ _ _ hg) hb hroom hcm (by rw [putAt_size]; exact hcs) (by rw [sv_length, insAt_length _ _ _ hi]) fun j hj => ?_
          rw [putAt_get _ _ _ _ (by omega), sv_insAt, insAt_get _ _ _ (by omega)]
          simp only [List.length_cons, List.length_nil]
          by_cases hjl : j = l.length
          · subst hjl; simp
          · rw [if_neg (by omega), if_pos (by omega), hcx j (by omega)]
    · have hnc : l.length ≤ c := (own_rd2 hown).2.2
      refine (Any2.slices_Insert_string_end_grow Tryz.ins ao l.length c vb 0 1 1 (sv l) [.string x] w (by decide) hnc (by omega) hbig hsl rfl (fun h => ?_) (fun a ha j u hu => ?_) hvs h1v).mono ?_
      · subst h
        rcases hown.2 with ⟨h', h0⟩ | ⟨g', cap', cur, h', _⟩
        · exact h0
        · simp at h'
      · obtain ⟨a', ha', _, hc⟩ := (own_rd2 hown).1 j u hu
        rw [ha] at ha'; cases ha'; exact hc
      · rintro e w' ⟨rfl, rfl⟩
        have hgc := grownCap_ge w (l.length + 1) c 9
        have hgm := grownCap_le_maxLen w (l.length + 1) c 9 (by unfold maxLen; omega)
        have hren : Tryz.ins_ren.t 9 = 9 := rfl
        simp only [hren]
        generalize grownCap w (l.length + 1) c 9 = gc at *
        refine ⟨_, _, rfl, ?_, ?_, .inr rfl⟩
        · refine own_mk (heap_alloc_new w.drew _) hB hgc hgm (by simp [zc_size, hsl]; omega) (by rw [sv_length, insAt_length _ _ _ hi]) fun j hj => ?_
          rw [sv_insAt, insAt_get _ _ _ (by omega)]
          by_cases hjl : j = l.length
          · subst hjl
            rw [if_neg (by omega), if_pos rfl, Array.getElem?_append_left (by simp [hsl])]
            simp only [List.getElem?_toArray]
            rw [List.getElem?_append_right (by omega)]
            simp [hsl]
          · rw [if_pos (by omega)]
            rw [Array.getElem?_append_left (by simp [hsl]; omega)]
            simp only [List.getElem?_toArray]
            rw [List.getElem?_append_left (by omega)]
        · exact ⟨rfl, rfl, rfl, by simp, fun k hk _ => Below.heap_alloc w.drew _ _ hk⟩
  · have hil : i < l.length := by omega
    rcases ao with _ | ⟨g, o, sp⟩
    · rcases hown.2 with ⟨h', h0⟩ | ⟨g', cap', cur, h', _⟩
      · omega
      · simp at h'
    have hg' : o = 0 ∧ sp = none := by
      rcases hown.2 with ⟨h', _⟩ | ⟨g', cap', cur, h', _⟩
      · simp at h'
      · simp at h'; exact ⟨h'.1.2.1, h'.1.2.2⟩
    obtain ⟨rfl, rfl⟩ := hg'
    obtain ⟨cur, hg, hb, hnc, hcm, hcs, _, hcx⟩ := own_cells hown
    have hcell : ∀ j u, (sv l)[j]? = some u → w.cell? ⟨g, 0 + j, none⟩ = some u := fun j u hu => by
      have hj : j < l.length := by have := (List.getElem?_eq_some_iff.1 hu).1; rw [hsl] at this; exact this
      rw [Nat.zero_add]
      exact cell_heap hg j (by rw [hcx j hj, hu])
    by_cases hroom : l.length + 1 ≤ c
    · have hgv : vb ≠ g := fun h => hne (by simp [Value.ownBlock, h])
      refine (Any2.slices_Insert_string_shift Tryz.ins g 0 l.length c i vb 0 1 1 (sv l) [.string x] w hil (by decide) hroom (by unfold maxLen at hcm; exact hcm) hgv hsl rfl hcell (fun j hj => ?_) (fun j hj => frozen_of_row _ _ _ _ _ hg) hvs (sv_one l) h1v tv 9 1 c
        (by simp [World.shape?, hvb]) (by simp [World.shape?, hg, hcs]) (by omega) (frozen_of_row _ _ _ _ _ hvb) (frozen_of_row _ _ _ _ _ hvb)).mono ?_
      · rw [Nat.zero_add, cell_heap hg j (v := cur[j]'(by omega)) (by simp)]
        rfl
      · rintro e w' ⟨rfl, rfl⟩
        simp only [Nat.zero_add]
        refine ⟨_, _, rfl, ?_, grown_setCells _ _ _ _ (grown_setCells _ _ _ _ ⟨rfl, rfl, rfl, Nat.le_refl _, fun _ _ _ => rfl⟩), .inl rfl⟩
        refine own_mk (heap_setCells _ _ _ _ (heap_setCells _ _ _ _ hg)) hb hroom hcm (by rw [putAt_size, putAt_size]; exact hcs) (by rw [sv_length, insAt_length _ _ _ hi]) fun j hj => ?_
        rw [putAt_get _ _ _ _ (by rw [putAt_size]; omega), putAt_get _ _ _ _ (by omega), sv_insAt, insAt_get _ _ _ (by omega)]
        simp only [List.length_cons, List.length_nil, List.length_drop, hsl]
        by_cases h1 : j < i
        · rw [if_neg (by omega), if_neg (by omega), if_pos h1, hcx j (by omega)]
        · by_cases h2 : j = i
          · subst h2; simp
          · rw [if_neg (by omega), if_pos (by omega), if_neg h1, if_neg h2, List.getElem?_drop]
            congr 1; omega
    · refine (Any2.slices_Insert_string_grow Tryz.ins g 0 l.length c i vb 0 1 1 (sv l) [.string x] w hil (by decide) hnc (by omega) hbig hsl rfl hcell hvs (sv_one l) h1v).mono ?_
      rintro e w' ⟨rfl, rfl⟩
      have hgc := grownCap_ge w (l.length + 1) c 9
      have hgm := grownCap_le_maxLen w (l.length + 1) c 9 (by unfold maxLen; omega)
      have hren : Tryz.ins_ren.t 9 = 9 := rfl
      simp only [hren]
      generalize grownCap w (l.length + 1) c 9 = gc at *
      refine ⟨_, _, rfl, ?_, ?_, .inr rfl⟩
      · refine own_mk (heap_setCells _ _ _ _ (heap_setCells (t := 9) _ _ (World.drew _) _ (heap_alloc_new w _))) hB hgc hgm (by rw [putAt_size, putAt_size]; simp [zc_size, hsl]; omega) (by rw [sv_length, insAt_length _ _ _ hi]) fun j hj => ?_
        have hsz : ∀ k, (((sv l).take i).toArray ++ Builtin.zeroCells (Value.string ⟨#[]⟩).cells (l.length + 1 - i) ++ Builtin.zeroCells (Value.string ⟨#[]⟩).cells k).size = l.length + 1 + k := by
          intro k; simp [zc_size, hsl]; omega
        rw [putAt_get _ _ _ _ (by rw [putAt_size, hsz]; omega), putAt_get _ _ _ _ (by rw [hsz]; omega), sv_insAt, insAt_get _ _ _ (by omega)]
        simp only [List.length_cons, List.length_nil, List.length_drop, hsl]
        by_cases h1 : j < i
        · rw [if_neg (by omega), if_neg (by omega), if_pos h1]
          rw [Array.getElem?_append_left (by simp [zc_size, hsl]; omega), Array.getElem?_append_left (by simp [hsl]; omega)]
          simp [h1]
        · by_cases h2 : j = i
          · subst h2; rw [if_neg (by omega)]; simp
          · rw [if_pos (by omega), if_neg h1, if_neg h2, List.getElem?_drop]
            congr 1; omega
      · have hk : Below w.heap.size w (w.alloc (.cells (((sv l).take i).toArray ++ Builtin.zeroCells (Value.string ⟨#[]⟩).cells (l.length + 1 - i) ++ Builtin.zeroCells (Value.string ⟨#[]⟩).cells (gc - (l.length + 1))) 9)).drew := ((Below.refl _ w).alloc (Nat.le_refl _) _).drew
        have hk2 := Go.Pax.below_setCells (Nat.le_refl w.heap.size) ((sv l).drop i) (i + 1) w _ ((Go.Pax.below_setCells (Nat.le_refl w.heap.size) [.string x] i w _ hk).drew)
        exact ⟨hk2.os, hk2.tape, hk2.output, hk2.size, fun k hk' _ => hk2.block k hk'⟩
end Go.Proofs.YtfhiioopimmahaaGreatDoor
namespace Go.Pax
open Go.RowKit

def entOf (x : ByteArray × Nat) : Value × Value := (.string x.1, .pointer (some ⟨x.2, 0, none⟩))
/-- Block m is a map of just these entries, in the order in which they came. -/
def MapAt (w : World) (m : Nat) (l : List (ByteArray × Nat)) : Prop :=
  ∃ es clock, w.heap[m]? = some (.map es clock) ∧ es.toList.map (fun e => (e.key, e.val)) = l.map entOf
def lk : List (ByteArray × Nat) → ByteArray → Option Nat
  | [], _ => none
  | x :: l, k => if k = x.1 then some x.2 else lk l k
theorem lk_append (l m : List (ByteArray × Nat)) (k : ByteArray) : lk (l ++ m) k = (lk l k).or (lk m k) := by
  induction l with
  | nil => simp [lk]
  | cons x l ih => simp only [List.cons_append, lk]; split <;> simp [ih]
theorem lk_mem {l : List (ByteArray × Nat)} {k : ByteArray} {b : Nat} (h : lk l k = some b) : (k, b) ∈ l := by
  induction l with
  | nil => simp [lk] at h
  | cons x l ih =>
    simp only [lk] at h
    split at h
    · rename_i e; subst e; injection h with h; subst h; simp
    · exact List.mem_cons_of_mem _ (ih h)
theorem MapAt.chg {w w' : World} {m : Nat} {l : List (ByteArray × Nat)} {S : List Nat} (h : MapAt w m l) (k : Chg S w w') (hm : m ∉ S) : MapAt w' m l := by
  obtain ⟨es, c, h1, h2⟩ := h
  exact ⟨es, c, k.heap h1 hm, h2⟩
theorem MapAt.lt {w : World} {m : Nat} {l : List (ByteArray × Nat)} (h : MapAt w m l) : m < w.heap.size := by
  obtain ⟨es, c, h1, _⟩ := h
  exact (Array.getElem?_eq_some_iff.1 h1).1
theorem MapAt.new (w : World) : MapAt (w.alloc (.map #[] 0)) w.heap.size [] := ⟨#[], 0, heap_alloc_new _ _, rfl⟩

theorem findNow_none (k : ByteArray) : ∀ (es : List MapEntry) (l : List (ByteArray × Nat)) (_ : es.map (fun e => (e.key, e.val)) = l.map entOf) (i : Nat), lk l k = none → Instr.findNow .string (.string k) es i = some none
  | [], l, _, i, _ => rfl
  | e :: es, [], h, i, _ => by simp at h
  | e :: es, x :: l, h, i, hl => by
    simp only [List.map_cons, List.cons.injEq, entOf, Prod.mk.injEq] at h
    obtain ⟨⟨h1, h2⟩, h3⟩ := h
    simp only [lk] at hl
    split at hl
    · cases hl
    · rename_i hne
      have hb : (k == x.1) = false := by rw [Bool.eq_false_iff]; exact fun h => hne ((MapKept.bytes_beq _ _).1 h)
      simp only [Instr.findNow, h1, Instr.sameNow, hb]
      exact findNow_none k es l h3 (i + 1) hl
theorem findNow_some (k : ByteArray) (b : Nat) : ∀ (es : List MapEntry) (l : List (ByteArray × Nat)) (_ : es.map (fun e => (e.key, e.val)) = l.map entOf) (i : Nat), lk l k = some b → ∃ j, Instr.findNow .string (.string k) es i = some (some (j, .pointer (some ⟨b, 0, none⟩)))
  | [], [], _, i, h => by simp [lk] at h
  | [], x :: l, h, i, _ => by simp at h
  | e :: es, [], h, i, _ => by simp at h
  | e :: es, x :: l, h, i, hl => by
    simp only [List.map_cons, List.cons.injEq, entOf, Prod.mk.injEq] at h
    obtain ⟨⟨h1, h2⟩, h3⟩ := h
    simp only [lk] at hl
    split at hl
    · rename_i he
      have hb : (k == x.1) = true := (MapKept.bytes_beq _ _).2 he
      injection hl with hl
      subst hl
      exact ⟨i, by simp only [Instr.findNow, h1, Instr.sameNow, hb, h2]⟩
    · rename_i hne
      have hb : (k == x.1) = false := by rw [Bool.eq_false_iff]; exact fun h => hne ((MapKept.bytes_beq _ _).1 h)
      simp only [Instr.findNow, h1, Instr.sameNow, hb]
      exact findNow_some k b es l h3 (i + 1) hl

section
variable {P : Program} {w : World} {m : Nat} {l : List (ByteArray × Nat)} {T K E : TypeId}
theorem run_checkKey_str {em : Bool} (hK : P.underlying K = some .string) (k : ByteArray) (w : World) : (Instr.checkKey em 10000 K (.string k)).run P w = .ok () w := by
  rw [show (10000 : Nat) = 9999 + 1 from rfl, Instr.checkKey]
  simp [run_underlying hK]
theorem run_lookup_some (hT : P.underlying T = some (.map K E)) (hK : P.underlying K = some .string) (h : MapAt w m l) {k : ByteArray} {b : Nat} (hl : lk l k = some b) :
    (Instr.lookup T (.map (some m)) (.string k) true).run P w = .ok (.tuple #[.pointer (some ⟨b, 0, none⟩), .bool true]) w := by
  obtain ⟨es, c, hb, he⟩ := h
  obtain ⟨j, hj⟩ := findNow_some k b es.toList l he 0 hl
  simp [Instr.lookup, run_underlying hT, MapKept.run_getObj_map hb, run_checkKey_str hK, MapKept.run_findKey hK hj, Result.andThen]
theorem run_lookup_none (hT : P.underlying T = some (.map K E)) (hK : P.underlying K = some .string) (hz : ∀ W, (zeroValue E).run P W = .ok (.pointer none) W) (h : MapAt w m l) {k : ByteArray} (hl : lk l k = none) :
    (Instr.lookup T (.map (some m)) (.string k) true).run P w = .ok (.tuple #[.pointer none, .bool false]) w := by
  obtain ⟨es, c, hb, he⟩ := h
  have hj := findNow_none k es.toList l he 0 hl
  simp [Instr.lookup, run_underlying hT, MapKept.run_getObj_map hb, run_checkKey_str hK, MapKept.run_findKey hK hj, hz, Result.andThen]
/-- A store under a new key. -/
theorem run_update_new (hT : P.underlying T = some (.map K E)) (hK : P.underlying K = some .string) (h : MapAt w m l) {k : ByteArray} {b : Nat} (hl : lk l k = none) :
    ∃ w', (Instr.mapUpdate T (.map (some m)) (.string k) (.pointer (some ⟨b, 0, none⟩))).run P w = .ok () w' ∧ MapAt w' m (l ++ [(k, b)]) ∧ Chg [m] w w' ∧ w'.heap.size = w.heap.size := by
  obtain ⟨es, c, hb, he⟩ := h
  have hj := findNow_none k es.toList l he 0 hl
  have hlt := (Array.getElem?_eq_some_iff.1 hb).1
  refine ⟨{ w with heap := w.heap.setIfInBounds m (.map (es.push { key := .string k, val := .pointer (some ⟨b, 0, none⟩), born := c }) (c + 1)) }, ?_, ⟨es.push { key := .string k, val := .pointer (some ⟨b, 0, none⟩), born := c }, c + 1, ?_, ?_⟩, ⟨rfl, rfl, rfl, ?_, ?_⟩, ?_⟩
  · simp [Instr.mapUpdate, run_underlying hT, MapKept.run_getObj_map hb, run_checkKey_str hK, MapKept.run_findKey hK hj, MapKept.run_setObj_map _ hb, Result.andThen]
  · simp [hlt]
  · simp [he, entOf]
  · simp
  · intro i hi hm
    simp at hm
    simp [Ne.symm hm]
  · simp
end
end Go.Pax
namespace Go.Proofs.YtfhiioopimmahaaGreatDoor
open Go.RowKit Go.Pax

theorem Tryz.vinfoB : (Tryz.prog.info? 5).map (fun i => (i.zero, i.size, i.bytes)) = some (some (.int .u8 0), 1, 1) := by kernel_rfl
theorem Tryz.vinfoI : (Tryz.prog.info? 3).map (fun i => (i.zero, i.size, i.bytes)) = some (some (.int .i64 0), 1, 8) := by kernel_rfl

theorem Tryz.vnilB : ∀ (w : World) (a : Option Addr) (n c n' c' : Nat), (binOp .eql 43 (.slice a n c) (.slice none n' c')).run Tryz.prog w = .ok (.bool a.isNone) w := fun w a n c n' c' => Lib.run_eql_slice_nil w _ _ a n c n' c' Tryz.underlying43
theorem Tryz.vnilI : ∀ (w : World) (a : Option Addr) (n c n' c' : Nat), (binOp .eql 31 (.slice a n c) (.slice none n' c')).run Tryz.prog w = .ok (.bool a.isNone) w := fun w a n c n' c' => Lib.run_eql_slice_nil w _ _ a n c n' c' Tryz.underlying31

set_option maxHeartbeats 400000 in
theorem cloneB_nil (w : World) (n c : Nat) : Calls Tryz.prog 75 #[.slice none n c] w fun e w' => e = .returned (.slice none 0 0) ∧ w' = w := by
  have q := Tryz.vnilB
  go_enter Tryz.func75, Tryz.ntmps75
  go_wp2
  go_ret
  exact ⟨rfl, rfl⟩

set_option maxHeartbeats 400000 in
theorem cloneI_nil (w : World) (n c : Nat) : Calls Tryz.prog 43 #[.slice none n c] w fun e w' => e = .returned (.slice none 0 0) ∧ w' = w := by
  have q := Tryz.vnilI
  go_enter Tryz.func43, Tryz.ntmps43
  go_wp2
  go_ret
  exact ⟨rfl, rfl⟩

def Cloned (e : Ending) (w w' : World) (E : TypeId) (n : Nat) (xs : List Value) : Prop :=
  ∃ ao cap, e = .returned (.slice ao n cap) ∧ w'.ownsRow w.heap.size E 1 (.slice ao n cap) n xs ∧ w.grownBy w' none
theorem Cloned.mk {e : Ending} {w w' : World} {E : TypeId} {n : Nat} {xs : List Value} {v : Value} (h : e = .returned v) (h1 : w'.ownsRow w.heap.size E 1 v n xs) (h2 : w.grownBy w' none) : Cloned e w w' E n xs := by
  obtain ⟨ao, cap, rfl⟩ := own_shape h1
  exact ⟨ao, cap, h, h1, h2⟩

set_option maxHeartbeats 400000 in
theorem cloneB_some (w : World) (ad : Addr) (cap : Nat) (xs : List Value) (h1 : ∀ u ∈ xs, u.oneCell' = true) (hb : xs.length ≤ 140737488355328)
    (hc : ∀ j u, xs[j]? = some u → w.cell? (ad.add j) = some u) :
    Calls Tryz.prog 75 #[.slice (some ad) xs.length cap] w fun e w' => Cloned e w w' 5 xs.length xs := by
  obtain ⟨i0, hi, hz0, hz1, hz2⟩ := info_parts Tryz.vinfoB
  have q := Tryz.vnilB
  have H1 := Lib.hid h1
  have HC := Lib.hid hc
  clear h1 hc
  go_enter Tryz.func75, Tryz.ntmps75
  go_wp2_with (at_builtin; refine wpList_append_own _ rfl _ _ 43 rfl w.heap.size 5 i0 (.int .u8 0) 1 1 Tryz.underlying43 hi hz0 hz1 hz2 rfl (by decide) _ _ _ rfl (World.ownsRow_made w #[] 0 (Nat.le_refl _) (Nat.zero_le _) rfl) ad xs.length cap xs rfl (by simp) (fun j u hj => Lib.cell?_alloc_some _ (HC.out j u hj)) H1.out (by unfold maxLen; omega) (by omega) (by simp) ?_)
  intro v' w1 hown hgrow hnil
  go_wp2
  go_ret
  refine Cloned.mk rfl (by simpa using hown) ?_
  have := ((Below.refl _ w).alloc (Nat.le_refl _) (.cells #[] 5)).grown hgrow (by simp) (by intro k hk; simp [Value.ownBlock] at hk; omega)
  exact ⟨this.os, this.tape, this.output, this.size, fun k hk _ => this.block k hk⟩

set_option maxHeartbeats 400000 in
theorem cloneI_some (w : World) (ad : Addr) (cap : Nat) (xs : List Value) (h1 : ∀ u ∈ xs, u.oneCell' = true) (hb : xs.length * 8 ≤ 140737488355328)
    (hc : ∀ j u, xs[j]? = some u → w.cell? (ad.add j) = some u) :
    Calls Tryz.prog 43 #[.slice (some ad) xs.length cap] w fun e w' => Cloned e w w' 3 xs.length xs := by
  obtain ⟨i0, hi, hz0, hz1, hz2⟩ := info_parts Tryz.vinfoI
  have q := Tryz.vnilI
  have H1 := Lib.hid h1
  have HC := Lib.hid hc
  clear h1 hc
  go_enter Tryz.func43, Tryz.ntmps43
  go_wp2_with (at_builtin; refine wpList_append_own _ rfl _ _ 31 rfl w.heap.size 3 i0 (.int .i64 0) 1 8 Tryz.underlying31 hi hz0 hz1 hz2 rfl (by decide) _ _ _ rfl (World.ownsRow_made w #[] 0 (Nat.le_refl _) (Nat.zero_le _) rfl) ad xs.length cap xs rfl (by simp) (fun j u hj => Lib.cell?_alloc_some _ (HC.out j u hj)) H1.out (by unfold maxLen; omega) (by omega) (by simp) ?_)
  intro v' w1 hown hgrow hnil
  go_wp2
  go_ret
  refine Cloned.mk rfl (by simpa using hown) ?_
  have := ((Below.refl _ w).alloc (Nat.le_refl _) (.cells #[] 3)).grown hgrow (by simp) (by intro k hk; simp [Value.ownBlock] at hk; omega)
  exact ⟨this.os, this.tape, this.output, this.size, fun k hk _ => this.block k hk⟩

theorem cloneB (w : World) (ao : Option Addr) (cap : Nat) (fp : List Nat) (xs : List Value) (h1 : ∀ u ∈ xs, u.oneCell' = true) (hb : xs.length ≤ 140737488355328)
    (hc : Rd w fp ao xs) : Calls Tryz.prog 75 #[.slice ao xs.length cap] w fun e w' => Cloned e w w' 5 xs.length xs := by
  cases ao with
  | none =>
    have hx : xs = [] := by
      cases xs with
      | nil => rfl
      | cons x l => obtain ⟨a, ha, _⟩ := hc 0 x rfl; cases ha
    subst hx
    exact (cloneB_nil w _ _).mono fun e w' ⟨he, hw⟩ => by
      subst he; subst hw
      exact Cloned.mk rfl (World.ownsRow_nil _ _ _ _) (World.grownBy.refl _ _)
  | some ad => exact cloneB_some w ad cap xs h1 hb hc.at

theorem cloneI (w : World) (ao : Option Addr) (cap : Nat) (fp : List Nat) (xs : List Value) (h1 : ∀ u ∈ xs, u.oneCell' = true) (hb : xs.length * 8 ≤ 140737488355328)
    (hc : Rd w fp ao xs) : Calls Tryz.prog 43 #[.slice ao xs.length cap] w fun e w' => Cloned e w w' 3 xs.length xs := by
  cases ao with
  | none =>
    have hx : xs = [] := by
      cases xs with
      | nil => rfl
      | cons x l => obtain ⟨a, ha, _⟩ := hc 0 x rfl; cases ha
    subst hx
    exact (cloneI_nil w _ _).mono fun e w' ⟨he, hw⟩ => by
      subst he; subst hw
      exact Cloned.mk rfl (World.ownsRow_nil _ _ _ _) (World.grownBy.refl _ _)
  | some ad => exact cloneI_some w ad cap xs h1 hb hc.at
end Go.Proofs.YtfhiioopimmahaaGreatDoor
namespace Go.Proofs.YtfhiioopimmahaaGreatDoor
open Go.RowKit Go.Pax
theorem cloneBytes (w : World) (ao : Option Addr) (n cap : Nat) (fp : List Nat) (b : List UInt8) (hn : b.length = n) (hb : n ≤ 140737488355328) (hc : Rd w fp ao (bv b)) :
    Calls Tryz.prog 75 #[.slice ao n cap] w fun e w' => Cloned e w w' 5 n (bv b) := by
  subst hn
  have h := cloneB w ao cap fp (bv b) (bv_one b) (by rw [bv_length]; exact hb) hc
  rwa [bv_length] at h
theorem cloneInts (w : World) (ao : Option Addr) (n cap : Nat) (fp : List Nat) (b : List Int) (hn : b.length = n) (hb : n * 8 ≤ 140737488355328) (hc : Rd w fp ao (iv b)) :
    Calls Tryz.prog 43 #[.slice ao n cap] w fun e w' => Cloned e w w' 3 n (iv b) := by
  subst hn
  have h := cloneI w ao cap fp (iv b) (iv_one b) (by rw [iv_length]; exact hb) hc
  rwa [iv_length] at h
end Go.Proofs.YtfhiioopimmahaaGreatDoor
namespace Go.Pax
open Go.RowKit
abbrev Str := List UInt8
structure Nd where
  kind : Int
  mode : Int
  ino : Int
  links : Int
  size : Int
  target : Str
  uid : Int
  mtime : Int
  data : List UInt8
  names : List Str
structure Fs where
  next : Int
  step : Int
  rot : List Int
  lists : Int
  files : List (Str × Nat)
  node : Nat → Nd
def mapE (l : List (Str × Nat)) : List (ByteArray × Nat) := l.map fun x => (ba x.1, x.2)
/-- The block of a path. -/
def lkF : List (Str × Nat) → Str → Option Nat
  | [], _ => none
  | x :: l, k => if k = x.1 then some x.2 else lkF l k
theorem lk_mapE (l : List (Str × Nat)) (k : Str) : lk (mapE l) (ba k) = lkF l k := by
  induction l with
  | nil => rfl
  | cons x l ih =>
    simp only [mapE, List.map_cons, lk, lkF]
    by_cases h : k = x.1
    · rw [if_pos h, if_pos (by rw [h])]
    · rw [if_neg h, if_neg (fun e => h (ba_inj e))]; exact ih
theorem lkF_mem {l : List (Str × Nat)} {k : Str} {b : Nat} (h : lkF l k = some b) : (k, b) ∈ l := by
  induction l with
  | nil => simp [lkF] at h
  | cons x l ih =>
    simp only [lkF] at h
    split at h
    · rename_i e; subst e; injection h with h; subst h; simp
    · exact List.mem_cons_of_mem _ (ih h)
theorem lkF_append (l m : List (Str × Nat)) (k : Str) : lkF (l ++ m) k = (lkF l k).or (lkF m k) := by
  induction l with
  | nil => simp [lkF]
  | cons x l ih => simp only [List.cons_append, lkF]; split <;> simp [ih]

/-- A row of cells in a block of its own, or nothing. -/
def Row (w : World) (e : TypeId) (v : Value) (xs : List Value) : Prop := w.ownsRow 0 e 1 v xs.length xs
theorem own_keep {w w' : World} {S : List Nat} {base : Nat} {e : TypeId} {v : Value} {n : Nat} {xs : List Value} (h : w.ownsRow base e 1 v n xs) (k : Chg S w w') (hd : ∀ g ∈ v.ownBlock.toList, g ∉ S) : w'.ownsRow base e 1 v n xs := by
  refine ⟨h.1, ?_⟩
  rcases h.2 with hn | ⟨g, cap, cur, hv, hb, hg, rest⟩
  · exact .inl hn
  · exact .inr ⟨g, cap, cur, hv, hb, k.heap hg (hd g (by subst hv; simp [Value.ownBlock])), rest⟩
theorem Row.keep {w w' : World} {S : List Nat} {e : TypeId} {v : Value} {xs : List Value} (h : Row w e v xs) (k : Chg S w w') (hd : ∀ g, v.ownBlock = some g → g ∉ S) : Row w' e v xs :=
  own_keep h k fun g hg => hd g (by simpa using hg)
theorem own_zero {w : World} {base : Nat} {e : TypeId} {v : Value} {n : Nat} {xs : List Value} (h : w.ownsRow base e 1 v n xs) (hn : xs.length = n) : Row w e v xs := by
  subst hn
  refine ⟨h.1, ?_⟩
  rcases h.2 with hn | ⟨g, cap, cur, hv, hb, rest⟩
  · exact .inl hn
  · exact .inr ⟨g, cap, cur, hv, Nat.zero_le _, rest⟩
theorem Row.block {w : World} {e : TypeId} {v : Value} {xs : List Value} (h : Row w e v xs) {g : Nat} (hg : v.ownBlock = some g) : ∃ c, w.heap[g]? = some (.cells c e (0, 0)) := by
  rcases h.2 with ⟨rfl, _⟩ | ⟨g', cap, cur, rfl, _, hh, _⟩
  · simp [Value.ownBlock] at hg
  · simp [Value.ownBlock] at hg; subst hg; exact ⟨cur, hh⟩
theorem Row.shape {w : World} {e : TypeId} {v : Value} {xs : List Value} (h : Row w e v xs) : ∃ ao c, v = .slice ao xs.length c := own_shape h
theorem Row.rd {w : World} {e : TypeId} {ao : Option Addr} {n c : Nat} {xs : List Value} (h : Row w e (.slice ao n c) xs) : n = xs.length ∧ Rd w (Value.slice ao n c).ownBlock.toList ao xs ∧ n ≤ c := by
  obtain ⟨a', c', he⟩ := h.shape
  have hn : n = xs.length := by simp at he; exact he.2.1
  subst hn
  have := own_rd2 h
  exact ⟨rfl, this.1, this.2.2⟩
theorem ne_of_types {w : World} {g g' : Nat} {c c' : Array Value} {t t' : TypeId} {r r' : Nat × Nat} (h : w.heap[g]? = some (.cells c t r)) (h' : w.heap[g']? = some (.cells c' t' r')) (hn : t ≠ t') : g ≠ g' := by
  rintro rfl
  rw [h] at h'
  injection h' with h'
  injection h' with _ h2 _
  exact hn h2
theorem ne_of_map {w : World} {g g' : Nat} {c : Array Value} {t : TypeId} {r : Nat × Nat} {es : Array MapEntry} {k : Nat} (h : w.heap[g]? = some (.cells c t r)) (h' : w.heap[g']? = some (.map es k)) : g ≠ g' := by
  rintro rfl
  rw [h] at h'
  cases h'
def svn (l : List Str) : List Value := sv (l.map ba)
theorem svn_length (l : List Str) : (svn l).length = l.length := by simp [svn, sv]
theorem svn_ins (l : List Str) (i : Nat) (x : Str) : svn (insAt l i x) = sv (insAt (l.map ba) i (ba x)) := by simp [svn, insAt, List.map_take, List.map_drop]
end Go.Pax
namespace Go.Proofs.YtfhiioopimmahaaGreatDoor
open Go.RowKit Go.Pax Go.Shelf
def nodeCells (nd : Nd) (dv nv : Value) : Array Value :=
  #[.int .i64 nd.kind, .int .i64 nd.mode, .int .i64 nd.ino, .int .i64 nd.links, .int .i64 nd.size, .string (ba nd.target), .int .i64 nd.uid, .int .i64 nd.mtime, dv, nv]
structure NodeAt (w : World) (O : List Nat) (b : Nat) (nd : Nd) (dv nv : Value) : Prop where
  blk : w.heap[b]? = some (.cells (nodeCells nd dv nv) 84 (0, 0))
  data : Row w 5 dv (bv nd.data)
  names : Row w 9 nv (svn nd.names)
  own : b ∈ O ∧ (∀ g, dv.ownBlock = some g → g ∈ O) ∧ (∀ g, nv.ownBlock = some g → g ∈ O)
theorem NodeAt.cells {w : World} {O : List Nat} {b : Nat} {nd : Nd} {dv nv : Value} (h : NodeAt w O b nd dv nv) :
    w.cell? ⟨b, 0, none⟩ = some (.int .i64 nd.kind) ∧ w.cell? ⟨b, 1, none⟩ = some (.int .i64 nd.mode) ∧ w.cell? ⟨b, 2, none⟩ = some (.int .i64 nd.ino) ∧ w.cell? ⟨b, 3, none⟩ = some (.int .i64 nd.links) ∧ w.cell? ⟨b, 4, none⟩ = some (.int .i64 nd.size) ∧ w.cell? ⟨b, 5, none⟩ = some (.string (ba nd.target)) ∧ w.cell? ⟨b, 6, none⟩ = some (.int .i64 nd.uid) ∧ w.cell? ⟨b, 7, none⟩ = some (.int .i64 nd.mtime) ∧ w.cell? ⟨b, 8, none⟩ = some dv ∧ w.cell? ⟨b, 9, none⟩ = some nv :=
  ⟨cell_heap h.blk 0 rfl, cell_heap h.blk 1 rfl, cell_heap h.blk 2 rfl, cell_heap h.blk 3 rfl, cell_heap h.blk 4 rfl, cell_heap h.blk 5 rfl, cell_heap h.blk 6 rfl, cell_heap h.blk 7 rfl, cell_heap h.blk 8 rfl, cell_heap h.blk 9 rfl⟩
theorem NodeAt.keep {w w' : World} {O S : List Nat} {b : Nat} {nd : Nd} {dv nv : Value} (h : NodeAt w O b nd dv nv) (k : Chg S w w') (hb : b ∉ S) (hd : ∀ g, dv.ownBlock = some g → g ∉ S) (hn : ∀ g, nv.ownBlock = some g → g ∉ S) : NodeAt w' O b nd dv nv :=
  ⟨k.heap h.blk hb, h.data.keep k hd, h.names.keep k hn, h.own⟩
theorem NodeAt.mono {w : World} {O O' : List Nat} {b : Nat} {nd : Nd} {dv nv : Value} (h : NodeAt w O b nd dv nv) (hO : ∀ g ∈ O, g ∈ O') : NodeAt w O' b nd dv nv :=
  ⟨h.blk, h.data, h.names, hO _ h.own.1, fun g hg => hO _ (h.own.2.1 g hg), fun g hg => hO _ (h.own.2.2 g hg)⟩
/-- The file system at f, all of it in blocks of O. -/
structure FsIn (w : World) (f : Nat) (O : List Nat) (σ : Fs) (m : Nat) (rv : Value) (dv nv : Nat → Value) : Prop where
  blk : w.heap[f]? = some (.cells #[.int .i64 σ.next, .int .i64 σ.step, rv, .int .i64 σ.lists, .map (some m)] 94 (0, 0))
  rot : Row w 3 rv (iv σ.rot)
  mp : MapAt w m (mapE σ.files)
  nodes : ∀ p b, (p, b) ∈ σ.files → NodeAt w O b (σ.node b) (dv b) (nv b)
  own : f ∈ O ∧ m ∈ O ∧ ∀ g, rv.ownBlock = some g → g ∈ O
  lt : ∀ g ∈ O, g < w.heap.size
  apart : ∀ p b p' b', (p, b) ∈ σ.files → (p', b') ∈ σ.files → b ≠ b' → ∀ g, (nv b).ownBlock = some g → (nv b').ownBlock ≠ some g
theorem FsIn.cells {w : World} {f : Nat} {O : List Nat} {σ : Fs} {m : Nat} {rv : Value} {dv nv : Nat → Value} (h : FsIn w f O σ m rv dv nv) :
    w.cell? ⟨f, 0, none⟩ = some (.int .i64 σ.next) ∧ w.cell? ⟨f, 1, none⟩ = some (.int .i64 σ.step) ∧ w.cell? ⟨f, 2, none⟩ = some rv ∧ w.cell? ⟨f, 3, none⟩ = some (.int .i64 σ.lists) ∧ w.cell? ⟨f, 4, none⟩ = some (.map (some m)) :=
  ⟨cell_heap h.blk 0 rfl, cell_heap h.blk 1 rfl, cell_heap h.blk 2 rfl, cell_heap h.blk 3 rfl, cell_heap h.blk 4 rfl⟩
def FsAt (w : World) (f : Nat) (O : List Nat) (σ : Fs) : Prop := ∃ m rv dv nv, FsIn w f O σ m rv dv nv
theorem FsIn.foreign {w w' : World} {f : Nat} {O S : List Nat} {σ : Fs} {m : Nat} {rv : Value} {dv nv : Nat → Value} (h : FsIn w f O σ m rv dv nv) (k : Chg S w w') (hS : ∀ g ∈ O, g ∉ S) : FsIn w' f O σ m rv dv nv :=
  ⟨k.heap h.blk (hS _ h.own.1), h.rot.keep k (fun g hg => hS _ (h.own.2.2 g hg)), h.mp.chg k (hS _ h.own.2.1),
    fun p b hb => (h.nodes p b hb).keep k (hS _ (h.nodes p b hb).own.1) (fun g hg => hS _ ((h.nodes p b hb).own.2.1 g hg)) (fun g hg => hS _ ((h.nodes p b hb).own.2.2 g hg)),
    h.own, fun g hg => Nat.lt_of_lt_of_le (h.lt g hg) k.size, h.apart⟩
theorem FsAt.foreign {w w' : World} {f : Nat} {O S : List Nat} {σ : Fs} (h : FsAt w f O σ) (k : Chg S w w') (hS : ∀ g ∈ O, g ∉ S) : FsAt w' f O σ := by
  obtain ⟨m, rv, dv, nv, h⟩ := h
  exact ⟨m, rv, dv, nv, h.foreign k hS⟩
theorem FsAt.lt {w : World} {f : Nat} {O : List Nat} {σ : Fs} (h : FsAt w f O σ) : ∀ g ∈ O, g < w.heap.size := by
  obtain ⟨m, rv, dv, nv, h⟩ := h
  exact h.lt
theorem FsAt.mem {w : World} {f : Nat} {O : List Nat} {σ : Fs} (h : FsAt w f O σ) : f ∈ O := by
  obtain ⟨m, rv, dv, nv, h⟩ := h
  exact h.own.1
/-- Only the struct at f has changed, in its numbers. -/
theorem FsIn.setF {w w' : World} {f : Nat} {O : List Nat} {σ : Fs} {m : Nat} {rv : Value} {dv nv : Nat → Value} (h : FsIn w f O σ m rv dv nv) (k : Chg [f] w w') (next lists : Int)
    (hb : w'.heap[f]? = some (.cells #[.int .i64 next, .int .i64 σ.step, rv, .int .i64 lists, .map (some m)] 94 (0, 0))) : FsIn w' f O { σ with next := next, lists := lists } m rv dv nv := by
  have hrow : ∀ {e : TypeId} {v : Value} {xs : List Value}, Row w e v xs → e ≠ 94 → ∀ g, v.ownBlock = some g → g ∉ [f] := fun hr hne g hg => by
    obtain ⟨c, hc⟩ := hr.block hg
    simpa using ne_of_types hc h.blk hne
  have hm : m ∉ [f] := by
    obtain ⟨es, c, h1, _⟩ := h.mp
    simpa using Ne.symm (ne_of_map h.blk h1)
  refine ⟨hb, h.rot.keep k (hrow h.rot (by decide)), h.mp.chg k hm, fun p b hb => ?_, h.own, fun g hg => Nat.lt_of_lt_of_le (h.lt g hg) k.size, h.apart⟩
  have hn := h.nodes p b hb
  exact hn.keep k (by simpa using ne_of_types hn.blk h.blk (by decide)) (hrow hn.data (by decide)) (hrow hn.names (by decide))
/-- Only the inode at b has changed, in its numbers. -/
theorem FsIn.setN {w w' : World} {f : Nat} {O : List Nat} {σ : Fs} {m : Nat} {rv : Value} {dv nv : Nat → Value} (h : FsIn w f O σ m rv dv nv) {p : Str} {b : Nat} (hpb : (p, b) ∈ σ.files) (k : Chg [b] w w') (nd : Nd) (hd : nd.data = (σ.node b).data) (hn : nd.names = (σ.node b).names)
    (hb : w'.heap[b]? = some (.cells (nodeCells nd (dv b) (nv b)) 84 (0, 0))) : FsIn w' f O { σ with node := fun i => if i = b then nd else σ.node i } m rv dv nv := by
  have hbb := (h.nodes p b hpb).blk
  have hrow : ∀ {e : TypeId} {v : Value} {xs : List Value}, Row w e v xs → e ≠ 84 → ∀ g, v.ownBlock = some g → g ∉ [b] := fun hr hne g hg => by
    obtain ⟨c, hc⟩ := hr.block hg
    simpa using ne_of_types hc hbb hne
  have hm : m ∉ [b] := by
    obtain ⟨es, c, h1, _⟩ := h.mp
    simpa using Ne.symm (ne_of_map hbb h1)
  refine ⟨k.heap h.blk (by simpa using ne_of_types h.blk hbb (by decide)), h.rot.keep k (hrow h.rot (by decide)), h.mp.chg k hm, fun p' b' hb' => ?_, h.own, fun g hg => Nat.lt_of_lt_of_le (h.lt g hg) k.size, h.apart⟩
  have hn' := h.nodes p' b' hb'
  by_cases he : b' = b
  · subst he
    simp only [if_true]
    exact ⟨hb, by rw [hd]; exact hn'.data.keep k (hrow hn'.data (by decide)), by rw [hn]; exact hn'.names.keep k (hrow hn'.names (by decide)), hn'.own⟩
  · simp only [if_neg he]
    exact hn'.keep k (by simpa using he) (hrow hn'.data (by decide)) (hrow hn'.names (by decide))
/-- From w to w' the file system has come to σ, and changed nothing but itself. -/
def FsTo (w w' : World) (f : Nat) (O : List Nat) (σ : Fs) : Prop := ∃ O', (FsAt w' f O' σ ∧ ∀ g ∈ O', g ∈ O ∨ w.heap.size ≤ g) ∧ Chg O w w'
theorem FsTo.same {w w' : World} {f : Nat} {O : List Nat} {σ : Fs} (h : FsAt w f O σ) (k : Chg [] w w') : FsTo w w' f O σ :=
  ⟨O, ⟨h.foreign k (by simp), fun g hg => .inl hg⟩, k.mono (by simp)⟩
theorem FsTo.then_ {w w1 w2 : World} {f : Nat} {O O1 : List Nat} {σ : Fs} (k : Chg O w w1) (hO : ∀ g ∈ O1, g ∈ O ∨ w.heap.size ≤ g) (h : FsTo w1 w2 f O1 σ) : FsTo w w2 f O σ := by
  obtain ⟨O2, ⟨h1, h2⟩, k2⟩ := h
  refine ⟨O2, ⟨h1, fun g hg => ?_⟩, k.trans' k2 (fun x hx _ => hx) (fun x hx hl => ?_)⟩
  · rcases h2 g hg with h | h
    · exact hO g h
    · have := k.size; exact .inr (by omega)
  · rcases hO x hx with h | h
    · exact h
    · omega
theorem FsTo.behind {w w1 w2 : World} {f : Nat} {O : List Nat} {σ : Fs} (h : FsTo w w1 f O σ) (k : Chg [] w1 w2) : FsTo w w2 f O σ := by
  obtain ⟨O2, ⟨h1, h2⟩, k2⟩ := h
  exact ⟨O2, ⟨h1.foreign k (by simp), h2⟩, k2.trans (k.mono (by simp))⟩
end Go.Proofs.YtfhiioopimmahaaGreatDoor
