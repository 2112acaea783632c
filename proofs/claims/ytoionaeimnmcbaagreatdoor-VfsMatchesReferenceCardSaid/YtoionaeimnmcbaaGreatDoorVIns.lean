/- slices.Insert of one string into a row that the file system owns. -/
import Derived.Test.YtoionaeimnmcbaaGreatDoorVKeys
import Derived.Shelf.Spec.SlicesInsertGrow
import Derived.Shelf.Spec.SlicesInsert
namespace Go.Pax
open Go.RowKit
/-- A row's cells from place o on, written anew. -/
def putAt (cs : Array Value) : Nat → List Value → Array Value
  | _, [] => cs
  | o, v :: r => putAt (cs.setIfInBounds o v) (o + 1) r
theorem putAt_size : ∀ (vs : List Value) (o : Nat) (cs : Array Value), (putAt cs o vs).size = cs.size
  | [], _, _ => rfl
  | v :: r, o, cs => by rw [putAt, putAt_size r]; simp
theorem putAt_get : ∀ (vs : List Value) (o : Nat) (cs : Array Value) (j : Nat), j < cs.size → (putAt cs o vs)[j]? = if o ≤ j ∧ j < o + vs.length then vs[j - o]? else cs[j]?
  | [], o, cs, j, _ => by simp [putAt]; intro h1 h2; omega
  | v :: r, o, cs, j, hj => by
    rw [putAt, putAt_get r (o + 1) _ j (by simpa using hj)]
    by_cases h1 : o + 1 ≤ j ∧ j < o + 1 + r.length
    · rw [if_pos h1, if_pos ⟨by omega, by simp; omega⟩]
      obtain ⟨k, hk⟩ : ∃ k, j - o = k + 1 := ⟨j - o - 1, by omega⟩
      rw [hk, List.getElem?_cons_succ]
      congr 1; omega
    · rw [if_neg h1]
      by_cases h2 : j = o
      · subst h2
        rw [if_pos ⟨Nat.le_refl _, by simp⟩]
        simp [hj]
      · rw [if_neg (by simp; omega)]
        simp [Ne.symm h2]
theorem heap_setCells {t : TypeId} {g : Nat} : ∀ (vs : List Value) (o : Nat) (w : World) (cs : Array Value), w.heap[g]? = some (.cells cs t (0, 0)) → (w.setCells g o vs).heap[g]? = some (.cells (putAt cs o vs) t (0, 0))
  | [], _, _, _, h => h
  | v :: r, o, w, cs, h => by
    rw [World.setCells, putAt]
    exact heap_setCells r (o + 1) _ _ (heap_set h o v rfl)
theorem grown_setCells {g : Nat} : ∀ (vs : List Value) (o : Nat) (w W : World), w.grownBy W (some g) → w.grownBy (W.setCells g o vs) (some g)
  | [], _, _, _, h => h
  | v :: r, o, w, W, h => by
    rw [World.setCells]
    refine grown_setCells r (o + 1) w _ ⟨h.os, h.tape, h.output, by simpa [World.setCell] using h.size, fun i hi hne => ?_⟩
    exact (Below.heap_setCell _ _ _ _ (by intro e; subst e; exact hne rfl)).trans (h.block i hi hne)
theorem below_setCells {B g : Nat} (hg : B ≤ g) : ∀ (vs : List Value) (o : Nat) (w W : World), Below B w W → Below B w (W.setCells g o vs)
  | [], _, _, _, h => h
  | v :: r, o, w, W, h => by
    rw [World.setCells]
    exact below_setCells hg r (o + 1) w _ (h.setCell (p := ⟨g, o, none⟩) hg v)
/-- One element more, at place i. -/
def insAt {α : Type} (l : List α) (i : Nat) (x : α) : List α := l.take i ++ x :: l.drop i
theorem insAt_length {α : Type} (l : List α) (i : Nat) (x : α) (h : i ≤ l.length) : (insAt l i x).length = l.length + 1 := by simp [insAt]; omega
theorem insAt_get {α : Type} (l : List α) (i : Nat) (x : α) (h : i ≤ l.length) (j : Nat) : (insAt l i x)[j]? = if j < i then l[j]? else if j = i then some x else l[j - 1]? := by
  unfold insAt
  rw [List.getElem?_append]
  simp only [List.length_take, Nat.min_eq_left h]
  split
  · rw [List.getElem?_take, if_pos (by assumption)]
  · rename_i h1
    split
    · rename_i h2; subst h2; simp
    · rename_i h2
      obtain ⟨k, hk⟩ : ∃ k, j - i = k + 1 := ⟨j - i - 1, by omega⟩
      rw [hk, List.getElem?_cons_succ, List.getElem?_drop]
      congr 1; omega
theorem sv_insAt (l : List ByteArray) (i : Nat) (x : ByteArray) : sv (insAt l i x) = insAt (sv l) i (.string x) := by simp [sv, insAt, List.map_take, List.map_drop]
theorem take_eq_of_get {cs : Array Value} {xs : List Value} (_hle : xs.length ≤ cs.size) (h : ∀ j, j < xs.length → cs[j]? = xs[j]?) : cs.toList.take xs.length = xs := by
  apply List.ext_getElem?
  intro j
  rw [List.getElem?_take]
  split
  · rename_i hj; rw [← h j hj]; simp
  · rename_i hj; rw [List.getElem?_eq_none (by omega)]
theorem own_cells {w : World} {base g n cap : Nat} {e : TypeId} {xs : List Value} (h : w.ownsRow base e 1 (.slice (some ⟨g, 0, none⟩) n cap) n xs) :
    ∃ cur, w.heap[g]? = some (.cells cur e (0, 0)) ∧ base ≤ g ∧ n ≤ cap ∧ cap ≤ maxLen ∧ cur.size = cap ∧ xs.length = n ∧ ∀ j, j < n → cur[j]? = xs[j]? := by
  rcases h.2 with ⟨h', _⟩ | ⟨g', cap', cur, h', hb, hg, h1, h2, h3, h4⟩
  · simp at h'
  · simp only [Value.slice.injEq, Option.some.injEq, Addr.mk.injEq, and_true, true_and] at h'
    obtain ⟨rfl, rfl⟩ := h'
    have hl := h.1
    rw [Nat.mul_one] at h3 h4 hl
    refine ⟨cur, hg, hb, h1, h2, h3, hl, fun j hj => ?_⟩
    rw [← h4, List.getElem?_take, if_pos hj]; simp
theorem own_mk {w : World} {base g n cap : Nat} {e : TypeId} {xs : List Value} {cur : Array Value} (hg : w.heap[g]? = some (.cells cur e (0, 0))) (hb : base ≤ g) (hn : n ≤ cap) (hm : cap ≤ maxLen) (hc : cur.size = cap) (hl : xs.length = n) (hx : ∀ j, j < n → cur[j]? = xs[j]?) :
    w.ownsRow base e 1 (.slice (some ⟨g, 0, none⟩) n cap) n xs := by
  refine ⟨by omega, .inr ⟨g, cap, cur, rfl, hb, hg, hn, hm, by omega, ?_⟩⟩
  rw [Nat.mul_one]
  subst hl
  exact take_eq_of_get (by omega) hx
theorem zc_size (n : Nat) : (Builtin.zeroCells (Value.string ⟨#[]⟩).cells n).size = n := by simp [Builtin.zeroCells, Value.cells]
end Go.Pax
namespace Go.Proofs.YtoionaeimnmcbaaGreatDoor
open Go.RowKit Go.Pax Go.Shelf
set_option maxRecDepth 100000 in
set_option maxHeartbeats 4000000 in
theorem insertS (w : World) (B : Nat) (v : Value) (l : List ByteArray) (i : Nat) (x : ByteArray) (vb : Nat) (tv : TypeId) (hi : i ≤ l.length) (hbig : (l.length + 1) * 16 ≤ 140737488355328) (hB : B ≤ w.heap.size)
    (hown : w.ownsRow B 9 1 v l.length (sv l)) (hvb : w.heap[vb]? = some (.cells #[.string x] tv (0, 0))) (hne : v.ownBlock ≠ some vb) :
    Calls Tryz.prog 78 #[v, .int .i64 i, .slice (some ⟨vb, 0, none⟩) 1 1] w fun e w' =>
      ∃ ao c, e = .returned (.slice ao (l.length + 1) c) ∧ w'.ownsRow B 9 1 (.slice ao (l.length + 1) c) (l.length + 1) (sv (insAt l i x)) ∧ w.grownBy w' v.ownBlock ∧
        ((Value.slice ao (l.length + 1) c).ownBlock = v.ownBlock ∨ (Value.slice ao (l.length + 1) c).ownBlock = some w.heap.size) := by
  have hvs : ∀ j u, [Value.string x][j]? = some u → w.cell? ⟨vb, 0 + j, none⟩ = some u := fun j u hu => by
    match j, hu with
    | 0, hu => simp at hu; subst hu; exact cell_heap hvb 0 rfl
    | j + 1, hu => simp at hu
  have h1v : ∀ u ∈ [Value.string x], u.oneCell' = true := by intro u hu; simp at hu; subst hu; rfl
  have hsl := sv_length l
  obtain ⟨ao, c, rfl⟩ := own_shape hown
  by_cases hin : i = l.length
  · subst hin
    by_cases hroom : l.length + 1 ≤ c
    · rcases ao with _ | ⟨g, o, sp⟩
      · rcases hown.2 with ⟨h', _⟩ | ⟨g', cap', cur, h', _⟩
        · simp at h'; omega
        · simp at h'
      · have hg' : o = 0 ∧ sp = none := by
          rcases hown.2 with ⟨h', _⟩ | ⟨g', cap', cur, h', _⟩
          · simp at h'
          · simp at h'; exact ⟨h'.1.2.1, h'.1.2.2⟩
        obtain ⟨rfl, rfl⟩ := hg'
        obtain ⟨cur, hg, hb, hnc, hcm, hcs, _, hcx⟩ := own_cells hown
        refine (Any2.slices_Insert_string_end_room Tryz.ins g 0 l.length c vb 0 1 1 [.string x] w (by decide) hroom (by unfold maxLen at hcm; exact hcm) rfl (fun j hj => ?_) (fun j hj => frozen_of_row _ _ _ _ _ hg) hvs h1v).mono ?_
        · obtain rfl : j = 0 := by omega
          simp only [Nat.zero_add, Nat.add_zero]
          rw [cell_heap hg l.length (v := cur[l.length]'(by omega)) (by simp)]
          rfl
        · rintro e w' ⟨rfl, rfl⟩
          simp only [Nat.zero_add]
          refine ⟨_, _, rfl, ?_, grown_setCells _ _ _ _ (World.grownBy.refl _ _), .inl rfl⟩
          refine own_mk (heap_setCells _ _ _ _ hg) hb hroom hcm (by rw [putAt_size]; exact hcs) (by rw [sv_length, insAt_length _ _ _ hi]) fun j hj => ?_
          rw [putAt_get _ _ _ _ (by omega), sv_insAt, insAt_get _ _ _ (by omega)]
          simp only [List.length_cons, List.length_nil]
          by_cases hjl : j = l.length
          · subst hjl; simp
          · rw [if_neg (by omega), if_pos (by omega), hcx j (by omega)]
    · have hnc : l.length ≤ c := (own_rd2 hown).2.2
      refine (Any2.slices_Insert_string_end_grow Tryz.ins ao l.length c vb 0 1 1 (sv l) [.string x] w (by decide) hnc (by omega) hbig hsl rfl (fun h => ?_) (fun a ha j u hu => ?_) hvs h1v).mono ?_
      · subst h
        rcases hown.2 with ⟨h', h0⟩ | ⟨g', cap', cur, h', _⟩
        · exact h0
        · simp at h'
      · obtain ⟨a', ha', _, hc⟩ := (own_rd2 hown).1 j u hu
        rw [ha] at ha'; cases ha'; exact hc
      · rintro e w' ⟨rfl, rfl⟩
        have hgc := grownCap_ge w (l.length + 1) c 9
        have hgm := grownCap_le_maxLen w (l.length + 1) c 9 (by unfold maxLen; omega)
        have hren : Tryz.ins_ren.t 9 = 9 := rfl
        simp only [hren]
        generalize grownCap w (l.length + 1) c 9 = gc at *
        refine ⟨_, _, rfl, ?_, ?_, .inr rfl⟩
        · refine own_mk (heap_alloc_new w.drew _) hB hgc hgm (by simp [zc_size, hsl]; omega) (by rw [sv_length, insAt_length _ _ _ hi]) fun j hj => ?_
          rw [sv_insAt, insAt_get _ _ _ (by omega)]
          by_cases hjl : j = l.length
          · subst hjl
            rw [if_neg (by omega), if_pos rfl, Array.getElem?_append_left (by simp [hsl])]
            simp only [List.getElem?_toArray]
            rw [List.getElem?_append_right (by omega)]
            simp [hsl]
          · rw [if_pos (by omega)]
            rw [Array.getElem?_append_left (by simp [hsl]; omega)]
            simp only [List.getElem?_toArray]
            rw [List.getElem?_append_left (by omega)]
        · exact ⟨rfl, rfl, rfl, by simp, fun k hk _ => Below.heap_alloc w.drew _ _ hk⟩
  · have hil : i < l.length := by omega
    rcases ao with _ | ⟨g, o, sp⟩
    · rcases hown.2 with ⟨h', h0⟩ | ⟨g', cap', cur, h', _⟩
      · omega
      · simp at h'
    have hg' : o = 0 ∧ sp = none := by
      rcases hown.2 with ⟨h', _⟩ | ⟨g', cap', cur, h', _⟩
      · simp at h'
      · simp at h'; exact ⟨h'.1.2.1, h'.1.2.2⟩
    obtain ⟨rfl, rfl⟩ := hg'
    obtain ⟨cur, hg, hb, hnc, hcm, hcs, _, hcx⟩ := own_cells hown
    have hcell : ∀ j u, (sv l)[j]? = some u → w.cell? ⟨g, 0 + j, none⟩ = some u := fun j u hu => by
      have hj : j < l.length := by have := (List.getElem?_eq_some_iff.1 hu).1; rw [hsl] at this; exact this
      rw [Nat.zero_add]
      exact cell_heap hg j (by rw [hcx j hj, hu])
    by_cases hroom : l.length + 1 ≤ c
    · have hgv : vb ≠ g := fun h => hne (by simp [Value.ownBlock, h])
      refine (Any2.slices_Insert_string_shift Tryz.ins g 0 l.length c i vb 0 1 1 (sv l) [.string x] w hil (by decide) hroom (by unfold maxLen at hcm; exact hcm) hgv hsl rfl hcell (fun j hj => ?_) (fun j hj => frozen_of_row _ _ _ _ _ hg) hvs (sv_one l) h1v tv 9 1 c
        (by simp [World.shape?, hvb]) (by simp [World.shape?, hg, hcs]) (by omega) (frozen_of_row _ _ _ _ _ hvb) (frozen_of_row _ _ _ _ _ hvb)).mono ?_
      · rw [Nat.zero_add, cell_heap hg j (v := cur[j]'(by omega)) (by simp)]
        rfl
      · rintro e w' ⟨rfl, rfl⟩
        simp only [Nat.zero_add]
        refine ⟨_, _, rfl, ?_, grown_setCells _ _ _ _ (grown_setCells _ _ _ _ ⟨rfl, rfl, rfl, Nat.le_refl _, fun _ _ _ => rfl⟩), .inl rfl⟩
        refine own_mk (heap_setCells _ _ _ _ (heap_setCells _ _ _ _ hg)) hb hroom hcm (by rw [putAt_size, putAt_size]; exact hcs) (by rw [sv_length, insAt_length _ _ _ hi]) fun j hj => ?_
        rw [putAt_get _ _ _ _ (by rw [putAt_size]; omega), putAt_get _ _ _ _ (by omega), sv_insAt, insAt_get _ _ _ (by omega)]
        simp only [List.length_cons, List.length_nil, List.length_drop, hsl]
        by_cases h1 : j < i
        · rw [if_neg (by omega), if_neg (by omega), if_pos h1, hcx j (by omega)]
        · by_cases h2 : j = i
          · subst h2; simp
          · rw [if_neg (by omega), if_pos (by omega), if_neg h1, if_neg h2, List.getElem?_drop]
            congr 1; omega
    · refine (Any2.slices_Insert_string_grow Tryz.ins g 0 l.length c i vb 0 1 1 (sv l) [.string x] w hil (by decide) hnc (by omega) hbig hsl rfl hcell hvs (sv_one l) h1v).mono ?_
      rintro e w' ⟨rfl, rfl⟩
      have hgc := grownCap_ge w (l.length + 1) c 9
      have hgm := grownCap_le_maxLen w (l.length + 1) c 9 (by unfold maxLen; omega)
      have hren : Tryz.ins_ren.t 9 = 9 := rfl
      simp only [hren]
      generalize grownCap w (l.length + 1) c 9 = gc at *
      refine ⟨_, _, rfl, ?_, ?_, .inr rfl⟩
      · refine own_mk (heap_setCells _ _ _ _ (heap_setCells (t := 9) _ _ (World.drew _) _ (heap_alloc_new w _))) hB hgc hgm (by rw [putAt_size, putAt_size]; simp [zc_size, hsl]; omega) (by rw [sv_length, insAt_length _ _ _ hi]) fun j hj => ?_
        have hsz : ∀ k, (((sv l).take i).toArray ++ Builtin.zeroCells (Value.string ⟨#[]⟩).cells (l.length + 1 - i) ++ Builtin.zeroCells (Value.string ⟨#[]⟩).cells k).size = l.length + 1 + k := by
          intro k; simp [zc_size, hsl]; omega
        rw [putAt_get _ _ _ _ (by rw [putAt_size, hsz]; omega), putAt_get _ _ _ _ (by rw [hsz]; omega), sv_insAt, insAt_get _ _ _ (by omega)]
        simp only [List.length_cons, List.length_nil, List.length_drop, hsl]
        by_cases h1 : j < i
        · rw [if_neg (by omega), if_neg (by omega), if_pos h1]
          rw [Array.getElem?_append_left (by simp [zc_size, hsl]; omega), Array.getElem?_append_left (by simp [hsl]; omega)]
          simp [h1]
        · by_cases h2 : j = i
          · subst h2; rw [if_neg (by omega)]; simp
          · rw [if_pos (by omega), if_neg h1, if_neg h2, List.getElem?_drop]
            congr 1; omega
      · have hk : Below w.heap.size w (w.alloc (.cells (((sv l).take i).toArray ++ Builtin.zeroCells (Value.string ⟨#[]⟩).cells (l.length + 1 - i) ++ Builtin.zeroCells (Value.string ⟨#[]⟩).cells (gc - (l.length + 1))) 9)).drew := ((Below.refl _ w).alloc (Nat.le_refl _) _).drew
        have hk2 := Go.Pax.below_setCells (Nat.le_refl w.heap.size) ((sv l).drop i) (i + 1) w _ ((Go.Pax.below_setCells (Nat.le_refl w.heap.size) [.string x] i w _ hk).drew)
        exact ⟨hk2.os, hk2.tape, hk2.output, hk2.size, fun k hk' _ => hk2.block k hk'⟩
end Go.Proofs.YtoionaeimnmcbaaGreatDoor
