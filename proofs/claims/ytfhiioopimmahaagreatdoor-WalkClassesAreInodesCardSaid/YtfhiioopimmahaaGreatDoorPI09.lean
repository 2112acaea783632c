/- Stores into a row that the call owns. The reference's file system in memory; Find, Links. The reference's New. A region that draws its order and whose last operation writes what the others read: the condition on the world is asked behind all operations but the last, for which all others wait. The reference's place, Link, Chown. The reference's Link, Chown. The reference's Chown. -/
import Derived.Test.YtfhiioopimmahaaGreatDoorPI01
import Derived.Test.YtfhiioopimmahaaGreatDoorPI06
import Derived.Test.YtfhiioopimmahaaGreatDoorPI07
import Derived.Test.YtfhiioopimmahaaGreatDoorPI08
namespace Go.Proofs.YtfhiioopimmahaaGreatDoor
open Go.RowKit Go.Pax Go.Shelf
theorem add_at (g m : Nat) : ((⟨g, 0, none⟩ : Addr).add m) = ⟨g, m, none⟩ := by
  unfold Addr.add
  split
  · rename_i e; rw [e]
  · simp
/-- A store into a row. -/
theorem own_set {w : World} {base : Nat} {e : TypeId} {g n c : Nat} {xs : List Value} (h : w.ownsRow base e 1 (.slice (some ⟨g, 0, none⟩) n c) n xs) (j : Nat) (v : Value) : (w.setCell ⟨g, j, none⟩ v).ownsRow base e 1 (.slice (some ⟨g, 0, none⟩) n c) n (xs.set j v) := by
  rcases h.2 with ⟨hv, _⟩ | ⟨g', cap, cur, hv, hb, hg, hn, hm, hs, ht⟩
  · cases hv
  simp only [Value.slice.injEq, Option.some.injEq, Addr.mk.injEq] at hv
  obtain ⟨⟨rfl, _⟩, _, rfl⟩ := hv
  refine ⟨by rw [List.length_set]; exact h.1, .inr ⟨g, c, cur.setIfInBounds j v, rfl, hb, heap_set hg _ _ rfl, hn, hm, by rw [Array.size_setIfInBounds, hs], ?_⟩⟩
  rw [Array.toList_setIfInBounds, ← ht, List.take_set]
theorem own_at {w : World} {base : Nat} {e : TypeId} {ao : Option Addr} {n c : Nat} {xs : List Value} (h : w.ownsRow base e 1 (.slice ao n c) n xs) (h0 : 0 < n) : ∃ g, ao = some ⟨g, 0, none⟩ ∧ base ≤ g ∧ n ≤ c ∧ (∀ j, w.frozen? ⟨g, j, none⟩ = false) ∧ ∀ j v, xs[j]? = some v → w.cell? ⟨g, j, none⟩ = some v := by
  rcases h.2 with ⟨hv, h1⟩ | ⟨g', cap, cur, hv, hb, hg, hn, hm, hs, ht⟩
  · omega
  have hh := h
  simp only [Value.slice.injEq] at hv
  obtain ⟨rfl, _, rfl⟩ := hv
  exact ⟨g', rfl, hb, hn, fun j => frozen_of_row _ _ _ _ _ hg, fun j v hv => by have := hh.cells (g := g') rfl j v hv; rw [add_at] at this; exact this⟩
theorem own_keepS {w w' : World} {S : List Nat} {base size : Nat} {e : TypeId} {v : Value} {n : Nat} {xs : List Value} (h : w.ownsRow base e size v n xs) (k : Chg S w w') (hd : ∀ g, v.ownBlock = some g → g ∉ S) : w'.ownsRow base e size v n xs := by
  refine ⟨h.1, ?_⟩
  rcases h.2 with hn | ⟨g, cap, cur, hv, hb, hg, rest⟩
  · exact .inl hn
  · exact .inr ⟨g, cap, cur, hv, hb, k.heap hg (hd g (by subst hv; simp [Value.ownBlock])), rest⟩
theorem own_rdS {w : World} {base size : Nat} {e : TypeId} {v : Value} {n : Nat} {xs : List Value} (h : w.ownsRow base e size v n xs) : ∃ ao c, v = .slice ao n c ∧ n ≤ c ∧ Rd w v.ownBlock.toList ao xs := by
  rcases h.2 with ⟨hv, h0⟩ | ⟨g, cap, cur, hv, hb, hg, hn, hm, hs, ht⟩
  · subst hv h0
    have hx : xs = [] := List.eq_nil_of_length_eq_zero (by rw [h.1]; simp)
    subst hx
    exact ⟨none, 0, rfl, Nat.le_refl _, Rd.nil _ _ _⟩
  · subst hv
    exact ⟨some ⟨g, 0, none⟩, cap, rfl, hn, fun j u hu => ⟨_, rfl, by simp [Value.ownBlock], h.cells (g := g) rfl j u hu⟩⟩
def Fld (w : World) (ao : Option Addr) (xs : List Value) : Prop := ∀ j k u, xs[j + k]? = some u → ∃ a, ao = some a ∧ w.cell? ⟨(a.add j).block, (a.add j).off + k, none⟩ = some u
theorem own_fld {w : World} {base size : Nat} {e : TypeId} {ao : Option Addr} {n c : Nat} {xs : List Value} (h : w.ownsRow base e size (.slice ao n c) n xs) : Fld w ao xs := fun j k u hu => by
  rcases h.2 with ⟨hv, h0⟩ | ⟨g, cap, cur, hv, hb, hg, hn, hm, hs, ht⟩
  · subst h0
    have hx : xs = [] := List.eq_nil_of_length_eq_zero (by rw [h.1]; simp)
    subst hx
    simp at hu
  · have h1 := h
    simp only [Value.slice.injEq] at hv
    obtain ⟨rfl, _, rfl⟩ := hv
    refine ⟨_, rfl, ?_⟩
    have h2 := h1.cells (g := g) rfl (j + k) u hu
    have e1 : ∀ m, ((⟨g, 0, none⟩ : Addr).add m) = ⟨g, m, none⟩ := fun m => by
      unfold Addr.add
      split
      · rename_i e; rw [e]
      · simp
    rw [e1] at h2 ⊢
    exact h2
theorem own_blockS {w : World} {base size : Nat} {e : TypeId} {v : Value} {n : Nat} {xs : List Value} (h : w.ownsRow base e size v n xs) {g : Nat} (hg : v.ownBlock = some g) : ∃ c, w.heap[g]? = some (.cells c e (0, 0)) := by
  rcases h.2 with ⟨rfl, _⟩ | ⟨g', cap, cur, rfl, _, hh, _⟩
  · simp [Value.ownBlock] at hg
  · simp [Value.ownBlock] at hg; subst hg; exact ⟨cur, hh⟩
theorem grown_at {w0 w w1 : World} {base : Nat} {e : TypeId} {size n : Nat} {v v' : Value} {xs : List Value} (h : v'.ownBlock = v.ownBlock ∨ v'.ownBlock = some w.heap.size) (hown : w1.ownsRow base e size v' n xs) (h0 : w0.heap.size ≤ w.heap.size) : v'.ownBlock = v.ownBlock ∨ ∃ g, v'.ownBlock = some g ∧ w0.heap.size ≤ g ∧ g < w1.heap.size := by
  rcases h with h | h
  · exact .inl h
  · obtain ⟨c, hc⟩ := own_blockS hown h
    exact .inr ⟨_, h, h0, lt_of_block hc⟩
end Go.Proofs.YtfhiioopimmahaaGreatDoor
namespace Go.Pax
open Go.RowKit
def pcells : List (Str × Nat) → List Value
  | [] => []
  | x :: l => .string (ba x.1) :: .int .i64 x.2 :: pcells l
def ncell (x : RNode) (dv : Value) : List Value := [.int .i64 x.kind, .int .i64 x.mode, .int .i64 x.number, dv, .string (ba x.target), .int .i64 x.uid, .int .i64 x.mtime]
def ncells : List (RNode × Value) → List Value
  | [] => []
  | x :: l => ncell x.1 x.2 ++ ncells l
theorem pcells_length (l : List (Str × Nat)) : (pcells l).length = l.length * 2 := by
  induction l with
  | nil => rfl
  | cons x l ih => simp [pcells, ih]; omega
theorem ncells_length (l : List (RNode × Value)) : (ncells l).length = l.length * 7 := by
  induction l with
  | nil => rfl
  | cons x l ih => simp [ncells, ncell, ih]; omega
theorem pcells_append (l m : List (Str × Nat)) : pcells (l ++ m) = pcells l ++ pcells m := by
  induction l with
  | nil => rfl
  | cons x l ih => simp [pcells, ih]
theorem ncells_append (l m : List (RNode × Value)) : ncells (l ++ m) = ncells l ++ ncells m := by
  induction l with
  | nil => rfl
  | cons x l ih => simp [ncells, ih]
theorem pcells_get : ∀ (l : List (Str × Nat)) (k : Nat) (h : k < l.length), (pcells l)[k * 2]? = some (.string (ba l[k].1)) ∧ (pcells l)[k * 2 + 1]? = some (.int .i64 l[k].2)
  | x :: l, 0, _ => ⟨rfl, rfl⟩
  | x :: l, k + 1, h => by
    have := pcells_get l k (by simpa using h)
    simp only [pcells, Nat.add_mul, Nat.one_mul, List.getElem_cons_succ]
    exact ⟨by rw [show k * 2 + 2 = k * 2 + 1 + 1 by omega, List.getElem?_cons_succ, List.getElem?_cons_succ]; exact this.1, by rw [show k * 2 + 2 + 1 = k * 2 + 1 + 1 + 1 by omega, List.getElem?_cons_succ, List.getElem?_cons_succ]; exact this.2⟩
theorem ncells_get : ∀ (l : List (RNode × Value)) (k : Nat) (h : k < l.length) (j : Nat), j < 7 → (ncells l)[k * 7 + j]? = (ncell l[k].1 l[k].2)[j]?
  | x :: l, 0, _, j, hj => by
    simp only [ncells]
    rw [List.getElem?_append_left (by simp [ncell]; omega)]
    simp
  | x :: l, k + 1, h, j, hj => by
    have := ncells_get l k (by simpa using h) j hj
    simp only [ncells, List.getElem_cons_succ]
    rw [List.getElem?_append_right (by simp [ncell]; omega)]
    rw [← this]
    congr 1
    simp [ncell]; omega
theorem lkF_none {l : List (Str × Nat)} {p : Str} : lkF l p = none ↔ ∀ x ∈ l, x.1 ≠ p := by
  induction l with
  | nil => simp [lkF]
  | cons x l ih =>
    simp only [lkF, List.mem_cons, forall_eq_or_imp]
    split
    · rename_i e; simp [e]
    · rename_i e; rw [ih]; exact ⟨fun h => ⟨fun e' => e e'.symm, h⟩, fun h => h.2⟩
/-- The index of a path, or -1. -/
def findR (l : List (Str × Nat)) (p : Str) : Int := match lkF l p with | none => -1 | some i => i
theorem findR_none {l : List (Str × Nat)} {p : Str} (h : ∀ x ∈ l, x.1 ≠ p) : findR l p = -1 := by unfold findR; rw [lkF_none.2 h]
theorem findR_at : ∀ (l : List (Str × Nat)) (p : Str) (k : Nat) (h : k < l.length), l[k].1 = p → (∀ j (hj : j < l.length), j < k → l[j].1 ≠ p) → findR l p = l[k].2
  | x :: l, p, 0, _, h, _ => by simp at h; unfold findR lkF; rw [if_pos h.symm]; rfl
  | x :: l, p, k + 1, hk, h, hb => by
    have h0 := hb 0 (by simp) (by omega)
    have := findR_at l p k (by simpa using hk) (by simpa using h) (fun j hj hjk => by
      have := hb (j + 1) (by simp; exact hj) (by omega)
      simpa using this)
    unfold findR lkF
    rw [if_neg (fun e => h0 (by simpa using e.symm))]
    simpa [findR] using this
end Go.Pax
namespace Go.Proofs.YtfhiioopimmahaaGreatDoor
open Go.RowKit Go.Pax Go.Shelf
structure RIn (w : World) (r : Nat) (O : List Nat) (ρ : RFs) (rv iv' pv : Value) (ns : List (RNode × Value)) : Prop where
  blk : w.heap[r]? = some (.cells #[.int .i64 ρ.first, .int .i64 ρ.step, rv, iv', pv, .int .i64 ρ.lists] 108 (0, 0))
  rot : Row w 3 rv (iv ρ.rot)
  ino : w.ownsRow 0 116 7 iv' ns.length (ncells ns)
  is : ρ.inodes = ns.map (·.1)
  pth : w.ownsRow 0 125 2 pv ρ.paths.length (pcells ρ.paths)
  data : ∀ x ∈ ns, Row w 5 x.2 (bv x.1.data)
  own : r ∈ O ∧ (∀ g, rv.ownBlock = some g → g ∈ O) ∧ (∀ g, iv'.ownBlock = some g → g ∈ O) ∧ (∀ g, pv.ownBlock = some g → g ∈ O) ∧ ∀ x ∈ ns, ∀ g, x.2.ownBlock = some g → g ∈ O
  lt : ∀ g ∈ O, g < w.heap.size
def RAt (w : World) (r : Nat) (O : List Nat) (ρ : RFs) : Prop := ∃ rv iv' pv ns, RIn w r O ρ rv iv' pv ns
/-- Field k of the element whose cells begin at j. -/
theorem RIn.foreign {w w' : World} {r : Nat} {O S : List Nat} {ρ : RFs} {rv iv' pv : Value} {ns : List (RNode × Value)} (h : RIn w r O ρ rv iv' pv ns) (k : Chg S w w') (hS : ∀ g ∈ O, g ∉ S) : RIn w' r O ρ rv iv' pv ns :=
  ⟨k.heap h.blk (hS _ h.own.1), h.rot.keep k (fun g hg => hS _ (h.own.2.1 g hg)), own_keepS h.ino k (fun g hg => hS _ (h.own.2.2.1 g hg)), h.is, own_keepS h.pth k (fun g hg => hS _ (h.own.2.2.2.1 g hg)), fun x hx => (h.data x hx).keep k (fun g hg => hS _ (h.own.2.2.2.2 x hx g hg)), h.own, fun g hg => Nat.lt_of_lt_of_le (h.lt g hg) k.size⟩
theorem RAt.foreign {w w' : World} {r : Nat} {O S : List Nat} {ρ : RFs} (h : RAt w r O ρ) (k : Chg S w w') (hS : ∀ g ∈ O, g ∉ S) : RAt w' r O ρ := by
  obtain ⟨rv, iv', pv, ns, h⟩ := h
  exact ⟨rv, iv', pv, ns, h.foreign k hS⟩
theorem RAt.lt {w : World} {r : Nat} {O : List Nat} {ρ : RFs} (h : RAt w r O ρ) : ∀ g ∈ O, g < w.heap.size := by
  obtain ⟨rv, iv', pv, ns, h⟩ := h
  exact h.lt
theorem RIn.cells {w : World} {r : Nat} {O : List Nat} {ρ : RFs} {rv iv' pv : Value} {ns : List (RNode × Value)} (h : RIn w r O ρ rv iv' pv ns) :
    w.cell? ⟨r, 0, none⟩ = some (.int .i64 ρ.first) ∧ w.cell? ⟨r, 1, none⟩ = some (.int .i64 ρ.step) ∧ w.cell? ⟨r, 2, none⟩ = some rv ∧ w.cell? ⟨r, 3, none⟩ = some iv' ∧ w.cell? ⟨r, 4, none⟩ = some pv ∧ w.cell? ⟨r, 5, none⟩ = some (.int .i64 ρ.lists) :=
  ⟨cell_heap h.blk 0 rfl, cell_heap h.blk 1 rfl, cell_heap h.blk 2 rfl, cell_heap h.blk 3 rfl, cell_heap h.blk 4 rfl, cell_heap h.blk 5 rfl⟩
set_option maxRecDepth 100000 in
set_option maxHeartbeats 4000000 in
theorem rfind (w : World) (r : Nat) (O : List Nat) (ρ : RFs) (p : Str) (h : RAt w r O ρ) (hl : ρ.paths.length ≤ 1000000) :
    Calls Tryz.prog 54 #[.pointer (some ⟨r, 0, none⟩), .string (ba p)] w fun e w' => e = .returned (.int .i64 (findR ρ.paths p)) ∧ w' = w := by
  obtain ⟨rv, iv', pv, ns, h⟩ := h
  obtain ⟨_, _, _, _, c4, _⟩ := h.cells
  obtain ⟨ao, c, rfl, hnc, hrd⟩ := own_rdS h.pth
  have H := Lib.hid hrd
  have HF := Lib.hid (own_fld h.pth)
  have HA := Lib.hid (fun k hk h hb => findR_at ρ.paths p k hk h hb)
  have HB := Lib.hid (fun h => findR_none (l := ρ.paths) (p := p) h)
  clear hrd h
  generalize findR ρ.paths p = R at *
  generalize ρ.paths = l at *
  obtain ⟨n, hn⟩ : ∃ n, l.length = n := ⟨_, rfl⟩
  rw [hn] at c4 hl hnc
  have HN := Lib.hid hn
  have hrd2 := H.out
  rw [hn] at hrd2
  have HR := Lib.hid hrd2
  clear hn hrd2 H
  have HP := Lib.hid (fun k (hk : k < n) => pcells_get l k (by rw [HN.out]; exact hk))
  go_enter Tryz.func54, Tryz.ntmps54
  go_upto_region 2 with (fail)
  go_loopw [5] (fun i wr => wr = w ∧ ∃ k : Nat, i = .int .i64 k ∧ k ≤ n ∧ ∀ j (hj : j < l.length), j < k → l[j].1 ≠ p) (fun i _ => n - (intOf i).toNat)
  case atStart => exact ⟨rfl, 0, rfl, Nat.zero_le _, fun j hj hk => by omega⟩
  case round =>
    obtain ⟨hw, k, rfl, hk, hno⟩ := hrel
    obtain rfl := hw.symm
    have HNO := Lib.hid hno
    clear hno
    by_cases hlt : k < n
    · have hkl : k < l.length := by rw [HN.out]; exact hlt
      obtain ⟨ad, rfl, _, d0⟩ := HR.out _ _ (HP.out k hlt).1
      obtain ⟨ad2, hae, d2⟩ := HF.out (k * 2) 1 _ (HP.out k hlt).2
      obtain rfl := Option.some.inj hae
      clear hae
      have hbe : ((ba l[k].1).toList == (ba p).toList) = decide (l[k].1 = p) := by rw [ba_tl, ba_tl]; exact Bool.eq_iff_iff.2 (by simp)
      obtain ⟨D, hD⟩ : ∃ D, D = decide (l[k].1 = p) := ⟨_, rfl⟩
      have hDe := Lib.hid hD.symm
      rw [← hD] at hbe
      clear hD
      have hX : l[k].1 = p ∨ l[k].1 ≠ p := Decidable.em _
      have HAT := Lib.hid (HA.out k hkl)
      rcases hX with hX | hX
      · have hR := HAT.out hX HNO.out
        have hD : D = true := by rw [← hDe.out]; simpa using hX
        generalize ba l[k].1 = S at *
        generalize l[k].2 = i at hR d2
        subst hD hR
        clear hX HAT HA
        go_wp2_with fail
        go_ret
        exact ⟨rfl, rfl⟩
      · have hD : D = false := by rw [← hDe.out]; simpa using hX
        subst hD
        have HX := Lib.hid (And.intro hX trivial)
        clear hX HAT
        generalize hS : ba l[k].1 = S at *
        go_wp2_with fail
        go_roundw
        case rel => exact ⟨trivial, k + 1, by go_num, by omega, fun j hj hjk => by
          rcases Nat.lt_or_eq_of_le (Nat.le_of_lt_succ hjk) with h1 | h1
          · exact HNO.out j hj h1
          · subst h1; exact HX.out.1⟩
        case measure => simp [intOf]; omega
    · have hkk : k = n := by omega
      subst hkk
      have hR := HB.out (fun x hx => by
        obtain ⟨j, hj, rfl⟩ := List.mem_iff_getElem.1 hx
        exact HNO.out j hj (by rw [HN.out] at hj; exact hj))
      subst hR
      go_wp2_with fail
      go_ret
      exact ⟨rfl, rfl⟩
theorem linksR_take_succ (l : List (Str × Nat)) (k i : Nat) (h : k < l.length) : linksR (l.take (k + 1)) i = linksR (l.take k) i + if l[k].2 = i then 1 else 0 := by
  rw [List.take_add_one, List.getElem?_eq_getElem h]
  exact linksR_snoc _ l[k].1 l[k].2 i
theorem linksR_le (l : List (Str × Nat)) (i : Nat) : linksR l i ≤ l.length := List.length_filter_le _ _
set_option maxRecDepth 100000 in
set_option maxHeartbeats 4000000 in
theorem rlinks (w : World) (r : Nat) (O : List Nat) (ρ : RFs) (i : Nat) (h : RAt w r O ρ) (hl : ρ.paths.length ≤ 1000000) :
    Calls Tryz.prog 55 #[.pointer (some ⟨r, 0, none⟩), .int .i64 i] w fun e w' => e = .returned (.int .i64 (linksR ρ.paths i)) ∧ w' = w := by
  obtain ⟨rv, iv', pv, ns, h⟩ := h
  obtain ⟨_, _, _, _, c4, _⟩ := h.cells
  obtain ⟨ao, c, rfl, hnc, hrd⟩ := own_rdS h.pth
  have H := Lib.hid hrd
  have HF := Lib.hid (own_fld h.pth)
  have hall : linksR (ρ.paths.take ρ.paths.length) i = linksR ρ.paths i := by rw [List.take_length]
  have HS := Lib.hid (fun k hk => linksR_take_succ ρ.paths k i hk)
  have hle := fun k => linksR_le (ρ.paths.take k) i
  simp only [List.length_take] at hle
  have HLE := Lib.hid hle
  clear hrd h hle
  generalize linksR ρ.paths i = R at *
  generalize ρ.paths = l at *
  obtain ⟨n, hn⟩ : ∃ n, l.length = n := ⟨_, rfl⟩
  rw [hn] at c4 hl hnc hall
  have HN := Lib.hid hn
  have HALL := Lib.hid hall
  have hrd2 := H.out
  rw [hn] at hrd2
  have HR := Lib.hid hrd2
  clear hn hrd2 H hall
  have HP := Lib.hid (fun k (hk : k < n) => pcells_get l k (by rw [HN.out]; exact hk))
  go_enter Tryz.func55, Tryz.ntmps55
  go_upto_region 3 with (fail)
  go_loopw [5, 6] (fun t j wr => wr = w ∧ ∃ k : Nat, j = .int .i64 k ∧ t = .int .i64 (linksR (l.take k) i) ∧ k ≤ n) (fun _ j _ => n - (intOf j).toNat)
  case atStart => exact ⟨rfl, 0, rfl, rfl, Nat.zero_le _⟩
  case round =>
    obtain ⟨hw, k, rfl, rfl, hk⟩ := hrel
    obtain rfl := hw.symm
    by_cases hlt : k < n
    · have hkl : k < l.length := by rw [HN.out]; exact hlt
      obtain ⟨ad, rfl, _, d0⟩ := HR.out _ _ (HP.out k hlt).1
      obtain ⟨ad2, hae, d2⟩ := HF.out (k * 2) 1 _ (HP.out k hlt).2
      obtain rfl := Option.some.inj hae
      clear hae
      have hsu := HS.out k hkl
      have hLk := HLE.out k
      by_cases hX : l[k].2 = i
      · rw [if_pos hX] at hsu
        have HSU := Lib.hid hsu
        rw [hX] at d2
        clear hX hsu
        generalize linksR (l.take k) i = m at *
        go_wp2_with fail
        go_roundw
        case rel => exact ⟨trivial, k + 1, by go_num, by rw [HSU.out]; go_num, by omega⟩
        case measure => simp [intOf]; omega
      · rw [if_neg hX] at hsu
        have HSU := Lib.hid hsu
        have hxb : ((l[k].2 : Int) == (i : Int)) = false := by rw [beq_eq_false_iff_ne]; omega
        clear hX hsu
        generalize l[k].2 = x at *
        generalize linksR (l.take k) i = m at *
        go_wp2_with fail
        go_roundw
        case rel => exact ⟨trivial, k + 1, by go_num, by rw [HSU.out]; rfl, by omega⟩
        case measure => simp [intOf]; omega
    · have hkk : k = n := by omega
      subst hkk
      rw [HALL.out]
      go_wp2_with fail
      go_ret
      exact ⟨rfl, rfl⟩
end Go.Proofs.YtfhiioopimmahaaGreatDoor
namespace Go.Proofs.YtfhiioopimmahaaGreatDoor
open Go.RowKit Go.Pax Go.Shelf
set_option maxRecDepth 100000 in
set_option maxHeartbeats 8000000 in
theorem rnew (w : World) (first step : Int) (rot : List Int) (ao : Option Addr) (n c : Nat) (fp : List Nat) (hn : rot.length = n) (hl : n ≤ 17592186044416) (h : Rd w fp ao (iv rot)) (h1 : inOpt first) (h2 : inOpt step) (h3 : ∀ x ∈ rot, 0 ≤ x) :
    Calls Tryz.prog 29 #[.int .i64 first, .int .i64 step, .slice ao n c] w fun e w' => ∃ r O, e = .returned (.tuple #[.pointer (some ⟨r, 0, none⟩), .int .i64 0]) ∧ RAt w' r O (newR first step rot) ∧ (∀ g ∈ O, w.heap.size ≤ g) ∧ Chg [] w w' := by
  obtain ⟨ii, hii, hii0, hii1, hii2⟩ := info_parts Tryz.vinfoI
  have H := Lib.hid h
  have HN := Lib.hid hn
  have H3 := Lib.hid h3
  clear h hn h3
  unfold inOpt at h1 h2
  go_enter Tryz.func29, Tryz.ntmps29
  go_upto_region 4 with (fail)
  go_loopw [8] (fun i wr => ∃ k : Nat, k ≤ n ∧ i = .int .i64 k ∧ wr = w) (fun i _ => n - (intOf i).toNat)
  case atStart => exact ⟨0, Nat.zero_le _, rfl, rfl⟩
  case round =>
    obtain ⟨k, hk, rfl, hwr⟩ := hrel
    obtain rfl := hwr.symm
    by_cases hlt : k < n
    · have hkL : k < rot.length := by rw [HN.out]; exact hlt
      obtain ⟨ad, rfl, _, hcell⟩ := H.out k (.int .i64 rot[k]) (by simp [iv, hkL])
      have hneg := H3.out _ (List.getElem_mem hkL)
      generalize rot[k] = z at *
      go_wp2_with fail
      go_roundw
      case rel => exact ⟨k + 1, by omega, by go_num, trivial⟩
      case measure => simp [intOf]; omega
    · have hkk : k = n := by omega
      subst hkk
      clear hlt
      have hone := iv_one rot
      have hkb : Chg [] w (w.alloc (.cells #[] 3)) := (Chg.refl _ _).alloc _
      have HRB := Lib.hid (H.out.chg hkb (by simp))
      have HL := Lib.hid (show (iv rot).length = k by rw [iv_length]; exact HN.out)
      go_upto_region 9 with (at_builtin; refine wpList_append_rd rfl (.tmp 37) (.tmp 38) 31 rfl w.heap.size 3 ii (.int .i64 0) 8 Tryz.underlying31 hii hii0 hii1 hii2 rfl (.slice (some ⟨w.heap.size, 0, none⟩) 0 0) 0 [] rfl (own_empty (heap_alloc_new _ _) (Nat.le_refl _)) ao k c fp (iv rot) rfl HL.out HRB.out hone (by omega) (by unfold maxLen; omega) (by simp) ?_; intro a1 c1 w1 hown1 hgr1 hat1; have HK1 := Lib.hid (hkb.grown hgr1 (fun g hg hl => by simp [Value.ownBlock] at hg; omega)); have HO1 := Lib.hid hown1; clear hown1 hgr1 hat1)
      simp only [Nat.zero_add, List.nil_append] at HO1
      have k2 : Chg [] w (w1.alloc (.cells #[.int .i64 first, .int .i64 step, .slice a1 k c1, .slice none 0 0, .slice none 0 0, .int .i64 0] 108)) := HK1.out.alloc _
      have e2 : (w1.alloc (.cells #[.int .i64 first, .int .i64 step, .slice a1 k c1, .slice none 0 0, .slice none 0 0, .int .i64 0] 108)).heap[w1.heap.size]? = some (.cells #[.int .i64 first, .int .i64 step, .slice a1 k c1, .slice none 0 0, .slice none 0 0, .int .i64 0] 108 (0, 0)) := heap_alloc_new _ _
      have hO2 := own_chg HO1.out (show Chg [] w1 (w1.alloc (.cells #[.int .i64 first, .int .i64 step, .slice a1 k c1, .slice none 0 0, .slice none 0 0, .int .i64 0] 108)) from (Chg.refl _ _).alloc _) (by simp)
      have hr0 : w.heap.size ≤ w1.heap.size := HK1.out.size
      have hob : ∀ g, (Value.slice a1 k c1).ownBlock = some g → g < w1.heap.size := fun g hg => by
        obtain ⟨cc, hc⟩ := own_blockS HO1.out hg
        exact lt_of_block hc
      have HK2 := Lib.hid k2
      have HE2 := Lib.hid e2
      have HO2 := Lib.hid (And.intro hO2 hob)
      have hs2 : w1.heap.size < (w1.alloc (.cells #[.int .i64 first, .int .i64 step, .slice a1 k c1, .slice none 0 0, .slice none 0 0, .int .i64 0] 108)).heap.size := lt_of_block e2
      clear k2 e2 hO2 hob HK1 HO1
      generalize w1.alloc (.cells #[.int .i64 first, .int .i64 step, .slice a1 k c1, .slice none 0 0, .slice none 0 0, .int .i64 0] 108) = W2 at *
      generalize w1.heap.size = r at *
      have c23 : (W2.alloc (.cells #[.int .i64 0, .int .i64 493, .int .i64 first, .slice none 0 0, .string ⟨#[]⟩, .int .i64 0, .int .i64 0] 116)).cell? ⟨r, 3, none⟩ = some (.slice none 0 0) := cell_heap (heap_keep HE2.out) 3 rfl
      have fz2 : W2.frozen? ⟨r, 3, none⟩ = false := frozen_of_row _ _ _ _ _ HE2.out
      have fz3 := frozen_of_row _ r 3 _ _ (heap_keep (o := .cells #[.int .i64 0, .int .i64 493, .int .i64 first, .slice none 0 0, .string ⟨#[]⟩, .int .i64 0, .int .i64 0] 116) HE2.out)
      have hge : ∀ g, (Value.slice a1 k c1).ownBlock = some g → w.heap.size ≤ g := fun g hg => own_block_ge HO2.out.1 hg
      have HGE := Lib.hid hge
      clear hge
      go_upto_region 10 with (fail)
      have e3 := heap_keep (o := .cells #[.int .i64 0, .int .i64 493, .int .i64 first, .slice none 0 0, .string ⟨#[]⟩, .int .i64 0, .int .i64 0] 116) (heap_set HE2.out 3 (.slice (some ⟨W2.heap.size, 0, none⟩) 1 1) rfl)
      have q3 : ((W2.setCell ⟨r, 3, none⟩ (.slice (some ⟨W2.heap.size, 0, none⟩) 1 1)).alloc (.cells #[.int .i64 0, .int .i64 493, .int .i64 first, .slice none 0 0, .string ⟨#[]⟩, .int .i64 0, .int .i64 0] 116)).heap[W2.heap.size]? = some (.cells #[.int .i64 0, .int .i64 493, .int .i64 first, .slice none 0 0, .string ⟨#[]⟩, .int .i64 0, .int .i64 0] 116 (0, 0)) := heap_new_at (by simp [World.setCell])
      have k3 : Chg [r] W2 ((W2.setCell ⟨r, 3, none⟩ (.slice (some ⟨W2.heap.size, 0, none⟩) 1 1)).alloc (.cells #[.int .i64 0, .int .i64 493, .int .i64 first, .slice none 0 0, .string ⟨#[]⟩, .int .i64 0, .int .i64 0] 116)) := ((Chg.refl [r] W2).setCell (fun _ => by simp) _).alloc _
      have HE3 := Lib.hid (And.intro e3 (And.intro q3 k3))
      clear e3 q3 k3 c23 fz2 fz3
      generalize ((W2.setCell ⟨r, 3, none⟩ (.slice (some ⟨W2.heap.size, 0, none⟩) 1 1)).alloc (.cells #[.int .i64 0, .int .i64 493, .int .i64 first, .slice none 0 0, .string ⟨#[]⟩, .int .i64 0, .int .i64 0] 116)) = W3 at *
      generalize hq : W2.heap.size = q at *
      have hs3 : q < W3.heap.size := lt_of_block HE3.out.2.1
      have c34 : (W3.alloc (.cells #[.string ⟨#[]⟩, .int .i64 0] 125)).cell? ⟨r, 4, none⟩ = some (.slice none 0 0) := cell_heap (heap_keep HE3.out.1) 4 rfl
      have fz3 : W3.frozen? ⟨r, 4, none⟩ = false := frozen_of_row _ _ _ _ _ HE3.out.1
      have fz4 := frozen_of_row _ r 4 _ _ (heap_keep (o := .cells #[.string ⟨#[]⟩, .int .i64 0] 125) HE3.out.1)
      go_upto_region 11 with (fail)
      have e4 := heap_set (heap_keep (o := .cells #[.string ⟨#[]⟩, .int .i64 0] 125) HE3.out.1) 4 (.slice (some ⟨W3.heap.size, 0, none⟩) 1 1) rfl
      have q4 : ((W3.alloc (.cells #[.string ⟨#[]⟩, .int .i64 0] 125)).setCell ⟨r, 4, none⟩ (.slice (some ⟨W3.heap.size, 0, none⟩) 1 1)).heap[W3.heap.size]? = some (.cells #[.string ⟨#[]⟩, .int .i64 0] 125 (0, 0)) := ((Chg.refl [r] (W3.alloc (.cells #[.string ⟨#[]⟩, .int .i64 0] 125))).setCell (fun _ => by simp) _).heap (heap_alloc_new _ _) (by simp; omega)
      have k4 : Chg [r] W3 ((W3.alloc (.cells #[.string ⟨#[]⟩, .int .i64 0] 125)).setCell ⟨r, 4, none⟩ (.slice (some ⟨W3.heap.size, 0, none⟩) 1 1)) := ((Chg.refl [r] W3).alloc _).setCell (fun _ => by simp) _
      have HE4 := Lib.hid (And.intro e4 (And.intro q4 k4))
      clear e4 q4 k4 c34 fz3 fz4
      generalize ((W3.alloc (.cells #[.string ⟨#[]⟩, .int .i64 0] 125)).setCell ⟨r, 4, none⟩ (.slice (some ⟨W3.heap.size, 0, none⟩) 1 1)) = W4 at *
      generalize hp : W3.heap.size = p at *
      have hs4 : p < W4.heap.size := lt_of_block HE4.out.2.1
      go_wp2_with fail
      go_ret2
      obtain ⟨f1, f2, f3⟩ := HE3.out
      obtain ⟨g1, g2, g3⟩ := HE4.out
      obtain ⟨o1, o2⟩ := HO2.out
      have hne : ∀ g, (Value.slice a1 k c1).ownBlock = some g → g ∉ [r] := fun g hg => by have := o2 g hg; simp; omega
      have o3 := own_keepS (own_keepS o1 f3 hne) g3 hne
      have q5 := g3.heap f2 (show q ∉ [r] by simp; omega)
      have hk4 : Chg [] w W4 := (HK2.out.trans' (f3.trans g3) (by simp) (fun x hx hl => by simp at hx; omega))
      refine ⟨r, rfl, r :: q :: p :: (Value.slice a1 k c1).ownBlock.toList, ⟨_, _, _, [(⟨0, 493, first, [], [], 0, 0⟩, .slice none 0 0)], g1, ?_, ?_, rfl, ?_, ?_, ?_, ?_⟩, ?_, hk4⟩
      · exact own_zero o3 (by rw [iv_length]; exact HN.out) 
      · exact ⟨rfl, .inr ⟨q, 1, _, rfl, Nat.zero_le _, q5, Nat.le_refl _, by decide, rfl, rfl⟩⟩
      · exact ⟨rfl, .inr ⟨p, 1, _, rfl, Nat.zero_le _, g2, Nat.le_refl _, by decide, rfl, rfl⟩⟩
      · intro x hx
        simp at hx; subst hx
        exact ⟨rfl, .inl ⟨rfl, rfl⟩⟩
      · refine ⟨by simp, fun g hg => by simp [hg], fun g hg => ?_, fun g hg => ?_, fun x hx g hg => ?_⟩
        · simp [Value.ownBlock] at hg; subst hg; simp
        · simp [Value.ownBlock] at hg; subst hg; simp
        · simp at hx; subst hx; simp [Value.ownBlock] at hg
      · intro g hg
        simp at hg
        rcases hg with rfl | rfl | rfl | hg
        · omega
        · omega
        · omega
        · have := o2 g hg; omega
      · intro g hg
        simp at hg
        rcases hg with rfl | rfl | rfl | hg
        · omega
        · omega
        · omega
        · exact HGE.out g hg
end Go.Proofs.YtfhiioopimmahaaGreatDoor
namespace Go.Pax
open Go Go.RowKit
section
variable {P : Program} {ops : Array Oper} {Q : Exit → Act → World → Prop} {md : Region.Mode} {S : World → Prop} {m : Nat}
def wpAnyE (P : Program) (md : Region.Mode) (ops : Array Oper) (Q : Exit → Act → World → Prop) (S : World → Prop) (m : Nat) : Nat → Array Bool → Act → World → Prop
  | 0, listed, a, w => Region.ready md ops listed = [] ∧ Q .normal a w
  | fuel + 1, listed, a, w =>
    (Region.ready md ops listed = [] → Q .normal a w) ∧
    ∀ i ∈ Region.ready md ops listed, wpOp P ops Q i (fun a' w' => (i = m ∨ S w') ∧ wpAnyE P md ops Q S m fuel (listed.setIfInBounds i true) a' w') a w
theorem wpAny_of_E : ∀ (fuel : Nat) (listed : Array Bool) (a : Act) (w : World), wpAnyE P md ops Q S m fuel listed a w → wpAny P md ops Q fuel listed a w
  | 0, _, _, _, h => h
  | fuel + 1, _, _, _, h => ⟨h.1, fun i hi => wpOp_mono (fun a' w' h' => wpAny_of_E fuel _ a' w' h'.2) (h.2 i hi)⟩
/-- Operation j waits for operation i. -/
def waits (md : Region.Mode) (ops : Array Oper) (j i : Nat) : Bool := match ops[j]? with
  | some o => o.after.any fun e => Region.binds md e && e.on == i
  | none => false
theorem not_ready {listed : Array Bool} {i j : Nat} (hw : waits md ops j i = true) (hi : i ∈ Region.ready md ops listed) : j ∉ Region.ready md ops listed := fun hj => by
  obtain ⟨_, oj, hoj, hall⟩ := mem_ready.1 hj
  unfold waits at hw
  rw [hoj] at hw
  simp only [Array.any_eq_true'] at hw
  obtain ⟨e, he, hb⟩ := hw
  simp only [Bool.and_eq_true, beq_iff_eq] at hb
  have h1 := hall e he hb.1
  have h0 := (mem_ready.1 hi).1
  rw [hb.2] at h1
  rcases Nat.lt_or_ge i listed.size with h' | h'
  · simp [h'] at h0 h1; rw [h0] at h1; cases h1
  · simp [Array.getElem?_eq_none h'] at h1
theorem wpAnyE_first {i : Nat} {oi : Oper} {v : Value} (hi : ops[i]? = some oi) (hsel : ∀ (j : Nat) (o : Oper) cs b, ops[j]? = some o → o.op ≠ .select cs b)
    (hQ : ∀ c a w, Q (.panic c) (a.put oi.dst v) w → Q (.panic c) a w) (hwm : waits md ops m i = true) :
    ∀ (fuel : Nat) (listed : Array Bool) (a : Act) (w : World),
      (∀ j oj, ops[j]? = some oj → j ≠ i → listed.getD j true = false → (∀ e ∈ oj.after, Region.binds md e = true → e.on ≠ i) → oi.apart ops oj = true) →
      i ∈ Region.ready md ops listed → YieldsIf P ops S oi v a → S w →
      wpAnyE P md ops Q S m fuel (listed.setIfInBounds i true) (a.put oi.dst v) w → wpAnyE P md ops Q S m (fuel + 1) listed a w := by
  intro fuel
  induction fuel with
  | zero =>
    intro listed a w _ hr hy hS H
    refine ⟨fun h => (by rw [h] at hr; cases hr), fun j hj => ?_⟩
    by_cases hji : j = i
    · subst hji; exact hy.wpOp hi hS ⟨.inr hS, H⟩
    · have := ready_mono hj hji
      rw [H.1] at this
      cases this
  | succ fuel ih =>
    intro listed a w hfree hr hy hS H
    refine ⟨fun h => (by rw [h] at hr; cases hr), fun j hj => ?_⟩
    by_cases hji : j = i
    · subst hji; exact hy.wpOp hi hS ⟨.inr hS, H⟩
    · have hjm : j ≠ m := fun e => not_ready hwm hr (e ▸ hj)
      have h1 := H.2 j (ready_mono hj hji)
      obtain ⟨hjun, oj, hoj, hall⟩ := mem_ready.1 hj
      have hnot : ∀ e ∈ oj.after, Region.binds md e = true → e.on ≠ i := fun e he hb heq => by
        have h1 := hall e he hb
        have h0 := (mem_ready.1 hr).1
        rw [heq] at h1
        rcases Nat.lt_or_ge i listed.size with h' | h'
        · simp [h'] at h0 h1; rw [h0] at h1; cases h1
        · simp [Array.getElem?_eq_none h'] at h1
      have h2 := wpOp_putIf hoj (hfree j oj hoj hji hjun hnot) (fun cs b => hsel i oi cs b hi) (fun cs b => hsel j oj cs b hoj) hQ hy h1
      have hfree' : ∀ k ok, ops[k]? = some ok → k ≠ i → (listed.setIfInBounds j true).getD k true = false →
          (∀ e ∈ ok.after, Region.binds md e = true → e.on ≠ i) → oi.apart ops ok = true := fun k ok hk hki hun hno => by
        refine hfree k ok hk hki ?_ hno
        by_cases hjk : j = k
        · subst hjk; exact hjun
        · rw [getD_set_ne true hjk] at hun; exact hun
      refine wpOp_mono (fun a' w' h3 => ?_) h2
      have hS' : S w' := h3.2.1.resolve_left hjm
      refine ⟨.inr hS', ih (listed.setIfInBounds j true) a' w' hfree' (ready_mono hr (Ne.symm hji)) h3.1 hS' ?_⟩
      rw [Array.setIfInBounds_comm _ _ hji]
      exact h3.2.2
theorem wpAnyE_take {i : Nat} {oi : Oper} {v : Value} {fuel : Nat} {listed : Array Bool} {a : Act} {w : World} (hi : ops[i]? = some oi)
    (hs : Region.noSelect ops = true) (hf : Region.free md ops listed i = true) (hr : (Region.ready md ops listed).contains i = true) (hwm : waits md ops m i = true)
    (hQ : ∀ c a w, Q (.panic c) (a.put oi.dst v) w → Q (.panic c) a w) (hy : YieldsIf P ops S oi v a) (hS : S w)
    (h : wpAnyE P md ops Q S m fuel (listed.setIfInBounds i true) (a.put oi.dst v) w) : wpAnyE P md ops Q S m (fuel + 1) listed a w :=
  wpAnyE_first hi (Region.noSelect_spec hs) hQ hwm fuel listed a w (Region.free_spec hi hf) (by simpa using hr) hy hS h
/-- One operation alone may come up. -/
theorem wpAnyE_ready {i : Nat} {o : Oper} {fuel : Nat} {listed : Array Bool} {a : Act} {w : World} (hr : Region.ready md ops listed = [i]) (ho : ops[i]? = some o)
    (h : ∀ K' : Act → World → Prop, Shut (∀ a w, (i = m ∨ S w) → (i = m ∨ S w → wpAnyE P md ops Q S m fuel (listed.setIfInBounds i true) a w) → K' a w) → if Region.wanted o (yielded ops a.tmps) = true then Oper.wp P o a w K' Q else K' (a.put o.dst undef) w) : wpAnyE P md ops Q S m (fuel + 1) listed a w :=
  ⟨fun h0 => (by rw [hr] at h0; cases h0), by
    rw [hr]
    intro j hj
    simp at hj
    subst hj
    exact wpOp_step ho (fun K' hK => h K' (fun a w hS hW => hK a w ⟨hS, hW hS⟩))⟩
theorem wpAnyE_done {listed : Array Bool} {a : Act} {w : World} (hr : Region.ready md ops listed = []) (h : Q .normal a w) : ∀ fuel, wpAnyE P md ops Q S m fuel listed a w
  | 0 => ⟨hr, h⟩
  | _ + 1 => ⟨fun _ => h, by rw [hr]; simp⟩
theorem wp_region_end {id : Nat} {a : Act} {w : World} (hm : P.follows .mixedOrders = true) (hS : S w.drew)
    (h : S w.drew → wpAnyE P .any ops Q S m ops.size (Array.replicate ops.size false) a w.drew) : (Code.region id ops true).wp P Q a w :=
  wp_region_any hm (wpAny_of_E _ _ _ _ (h hS))
end
theorem wpAnyH_weaken {P : Program} {md : Region.Mode} {ops : Array Oper} {Q : Exit → Act → World → Prop} {S T : World → Prop} (hST : ∀ w, S w → T w) :
    ∀ {fuel : Nat} {listed : Array Bool} {a : Act} {w : World}, wpAnyH P md ops Q S fuel listed a w → wpAnyH P md ops Q T fuel listed a w
  | 0, _, _, _, h => h
  | _ + 1, _, _, _, h => ⟨h.1, fun i hi => wpOp_mono (fun _ _ h' => ⟨hST _ h'.1, wpAnyH_weaken hST h'.2⟩) (h.2 i hi)⟩
end Go.Pax
namespace Go.Pax
open Go.RowKit
def nodeR (ρ : RFs) (i : Nat) : RNode := ρ.inodes.getD i default
def placeR (ρ : RFs) (p : Str) : Int := match lkF ρ.paths (parentP p) with
  | some i => if (nodeR ρ i).kind = 0 then (match lkF ρ.paths p with | some _ => 14 | none => 0) else 13
  | none => 13
def linkRE (ρ : RFs) (p t : Str) : Int :=
  if checkP p ≠ 0 then checkP p else if placeR ρ p ≠ 0 then placeR ρ p else match lkF ρ.paths t with
  | some i => if (nodeR ρ i).kind = 1 then 0 else 15
  | none => 19
def chownRE (ρ : RFs) (p : Str) : Int := match lkF ρ.paths p with
  | some _ => 0
  | none => 19
def linkedR (ρ : RFs) (p : Str) (i : Nat) : RFs := { ρ with paths := ρ.paths ++ [(p, i)] }
def chownedR (ρ : RFs) (i : Nat) (u m : Int) : RFs := { ρ with inodes := ρ.inodes.set i { nodeR ρ i with uid := u, mtime := m } }
structure ROk (ρ : RFs) : Prop where
  idx : ∀ x ∈ ρ.paths, x.2 < ρ.inodes.length
  plen : ρ.paths.length ≤ 10000
  ilen : ρ.inodes.length ≤ 10000
  first : 0 ≤ ρ.first ∧ ρ.first ≤ 1048576
  step : 0 ≤ ρ.step ∧ ρ.step ≤ 1048576
  lists : 0 ≤ ρ.lists ∧ ρ.lists ≤ 10000
  rot : ∀ x ∈ ρ.rot, 0 ≤ x
  rotl : ρ.rot.length ≤ 10000
  short : ∀ x ∈ ρ.paths, x.1.length ≤ 65536
end Go.Pax
namespace Go.Proofs.YtfhiioopimmahaaGreatDoor
open Go.RowKit Go.Pax Go.Shelf
theorem RIn.node {w : World} {r : Nat} {O : List Nat} {ρ : RFs} {rv : Value} {ao : Option Addr} {n c : Nat} {pv : Value} {ns : List (RNode × Value)} (h : RIn w r O ρ rv (.slice ao n c) pv ns) {i : Nat} (hi : i < ρ.inodes.length) :
    n = ρ.inodes.length ∧ n ≤ c ∧ ∃ (hi' : i < ns.length) (ad : Addr), ao = some ad ∧ nodeR ρ i = ns[i].1 ∧ w.cell? (ad.add (i * 7)) = some (.int .i64 (nodeR ρ i).kind) ∧ ∀ j, 0 < j → j < 7 → w.cell? ⟨(ad.add (i * 7)).block, (ad.add (i * 7)).off + j, none⟩ = (ncell ns[i].1 ns[i].2)[j]? := by
  have hl : ρ.inodes.length = ns.length := by rw [h.is, List.length_map]
  obtain ⟨ao', c', he, hnc, hrd⟩ := own_rdS h.ino
  simp only [Value.slice.injEq] at he
  obtain ⟨rfl, rfl, rfl⟩ := he
  have hi' : i < ns.length := by omega
  have hn : nodeR ρ i = ns[i].1 := by
    unfold nodeR
    simp only [List.getD, h.is, List.getElem?_map, List.getElem?_eq_getElem hi', Option.map_some, Option.getD_some]
  have hg := ncells_get ns i hi'
  obtain ⟨ad, rfl, _, hc⟩ := hrd _ _ (hg 0 (by omega))
  refine ⟨hl.symm, hnc, hi', ad, rfl, hn, by rw [hn]; exact hc, fun j h0 hj => ?_⟩
  have h2 := own_fld h.ino (i * 7) j ((ncell ns[i].1 ns[i].2)[j]'(by simpa [ncell] using hj)) (by rw [hg j hj]; exact List.getElem?_eq_getElem _)
  obtain ⟨a2, ha, hc2⟩ := h2
  cases ha
  rw [hc2]
  exact (List.getElem?_eq_getElem _).symm
theorem findR_some {l : List (Str × Nat)} {p : Str} {i : Nat} (h : lkF l p = some i) : findR l p = i := by unfold findR; rw [h]
theorem findR_no {l : List (Str × Nat)} {p : Str} (h : lkF l p = none) : findR l p = -1 := by unfold findR; rw [h]
set_option maxRecDepth 100000 in
set_option maxHeartbeats 4000000 in
theorem rplace (w : World) (r : Nat) (O : List Nat) (ρ : RFs) (p : Str) (h : RAt w r O ρ) (hk : ROk ρ) (hp : p.length ≤ 140737488355328) :
    Calls Tryz.prog 87 #[.pointer (some ⟨r, 0, none⟩), .string (ba p)] w fun e w' => e = .returned (.int .i64 (placeR ρ p)) ∧ w' = w := by
  have HPA := Lib.hid (rparent p hp w)
  have hF1 := rfind w r O ρ (parentP p) h (by have := hk.plen; omega)
  have hF2 := rfind w r O ρ p h (by have := hk.plen; omega)
  obtain ⟨rv, iv', pv, ns, h⟩ := h
  obtain ⟨_, _, _, c3, _, _⟩ := h.cells
  obtain ⟨ao, c, rfl, _, _⟩ := own_rdS h.ino
  have hidx := fun i (hi : lkF ρ.paths (parentP p) = some i) => h.node (hk.idx _ (lkF_mem hi))
  have HX := Lib.hid hidx
  clear hidx h hk
  generalize hR : placeR ρ p = R
  unfold placeR at hR
  have HR := Lib.hid hR.symm
  clear hR
  cases h1 : lkF ρ.paths (parentP p) with
  | none =>
    rw [findR_no h1] at hF1
    have hR := HR.out
    rw [h1] at hR
    simp only at hR
    subst hR
    have HF1 := Lib.hid hF1
    clear hF1 hF2 HX HR h1
    generalize ba p = P at *
    go_enter Tryz.func87, Tryz.ntmps87
    go_wp2_with (first
      | (go_at_call 107; refine HPA.out.mono ?_; rintro e w' ⟨rfl, rfl⟩)
      | (go_at_call 54; refine HF1.out.mono ?_; rintro e w' ⟨rfl, rfl⟩))
    go_ret
    exact ⟨rfl, rfl⟩
  | some i =>
    rw [findR_some h1] at hF1
    obtain ⟨hn, hnc, hi', ad, rfl, -, hc, -⟩ := HX.out i h1
    have hR := HR.out
    rw [h1] at hR
    simp only at hR
    have hil : i < ns.length := hi'
    have HF1 := Lib.hid hF1
    have HF2 := Lib.hid hF2
    clear hF1 hF2 HX HR hn hi'
    generalize (nodeR ρ i).kind = K at *
    by_cases hK : K = 0
    · subst hK
      rw [if_pos rfl] at hR
      cases h2 : lkF ρ.paths p with
      | none =>
        rw [findR_no h2] at HF2
        rw [h2] at hR
        simp only at hR
        subst hR
        clear h1 h2
        generalize ba p = P at *
        go_enter Tryz.func87, Tryz.ntmps87
        go_upto_region 2 with (first
          | (go_at_call 107; refine HPA.out.mono ?_; rintro e w' ⟨rfl, rfl⟩)
          | (go_at_call 54; refine HF1.out.mono ?_; rintro e w' ⟨rfl, rfl⟩))
        go_wp2_with (go_at_call 54; refine HF2.out.mono ?_; rintro e w' ⟨rfl, rfl⟩)
        go_ret
        exact ⟨rfl, rfl⟩
      | some i2 =>
        rw [findR_some h2] at HF2
        rw [h2] at hR
        simp only at hR
        subst hR
        clear h1 h2
        generalize ba p = P at *
        go_enter Tryz.func87, Tryz.ntmps87
        go_upto_region 2 with (first
          | (go_at_call 107; refine HPA.out.mono ?_; rintro e w' ⟨rfl, rfl⟩)
          | (go_at_call 54; refine HF1.out.mono ?_; rintro e w' ⟨rfl, rfl⟩))
        go_wp2_with (go_at_call 54; refine HF2.out.mono ?_; rintro e w' ⟨rfl, rfl⟩)
        go_ret
        exact ⟨rfl, rfl⟩
    · rw [if_neg hK] at hR
      subst hR
      have hKb : (K == 0) = false := by simpa using hK
      have hKn : (K != 0) = true := by simpa using hK
      clear h1 hK
      generalize ba p = P at *
      go_enter Tryz.func87, Tryz.ntmps87
      go_upto_region 2 with (first
        | (go_at_call 107; refine HPA.out.mono ?_; rintro e w' ⟨rfl, rfl⟩)
        | (go_at_call 54; refine HF1.out.mono ?_; rintro e w' ⟨rfl, rfl⟩))
      go_wp2_with fail
      go_ret
      exact ⟨rfl, rfl⟩
def RTo (w w' : World) (r : Nat) (O : List Nat) (ρ : RFs) : Prop := ∃ O', (RAt w' r O' ρ ∧ ∀ g ∈ O', g ∈ O ∨ w.heap.size ≤ g) ∧ Chg O w w'
/-- One path more. -/
theorem RIn.addPath {w w1 : World} {r : Nat} {O : List Nat} {ρ : RFs} {rv iv' pv v' : Value} {ns : List (RNode × Value)} (h : RIn w r O ρ rv iv' pv ns) (p : Str) (i : Nat)
    (hown : w1.ownsRow 0 125 2 v' (ρ.paths.length + 1) (pcells (ρ.paths ++ [(p, i)]))) (k : Chg pv.ownBlock.toList w w1) (hat : v'.ownBlock = pv.ownBlock ∨ ∃ g, v'.ownBlock = some g ∧ w.heap.size ≤ g ∧ g < w1.heap.size) :
    RTo w (w1.setCell ⟨r, 4, none⟩ v') r O (linkedR ρ p i) := by
  have hpt : ∀ {e : TypeId} {base size n : Nat} {v : Value} {xs : List Value}, w.ownsRow base e size v n xs → e ≠ 125 → ∀ g, v.ownBlock = some g → g ∉ pv.ownBlock.toList := fun hr hne g hg hm => by
    obtain ⟨c, hc⟩ := own_blockS hr hg
    obtain ⟨c', hc'⟩ := own_blockS h.pth (show pv.ownBlock = some g by simpa using hm)
    exact ne_of_types hc hc' hne rfl
  have hrp : r ∉ pv.ownBlock.toList := fun hm => by
    obtain ⟨c', hc'⟩ := own_blockS h.pth (show pv.ownBlock = some r by simpa using hm)
    exact ne_of_types h.blk hc' (by decide) rfl
  have hb1 := k.heap h.blk hrp
  have hrot := own_keepS h.rot k (hpt h.rot (by decide))
  have hino := own_keepS h.ino k (hpt h.ino (by decide))
  have hdat := fun x hx => own_keepS (h.data x hx) k (hpt (h.data x hx) (by decide))
  have k2 : Chg [r] w1 (w1.setCell ⟨r, 4, none⟩ v') := (Chg.refl _ _).setCell (fun _ => by simp) _
  have hnr : ∀ {e : TypeId} {base size n : Nat} {v : Value} {xs : List Value}, w1.ownsRow base e size v n xs → e ≠ 108 → ∀ g, v.ownBlock = some g → g ∉ [r] := fun hr hne g hg hm => by
    obtain ⟨c, hc⟩ := own_blockS hr hg
    simp at hm; subst hm
    exact ne_of_types hc hb1 hne rfl
  have hO' : ∀ g, v'.ownBlock = some g → g ∈ O ∨ (w.heap.size ≤ g ∧ g < w1.heap.size) := fun g hg => by
    rcases hat with h1 | ⟨g', h1, h2, h3⟩
    · exact .inl (h.own.2.2.2.1 g (by rw [← h1]; exact hg))
    · rw [h1] at hg; cases hg; exact .inr ⟨h2, h3⟩
  refine ⟨v'.ownBlock.toList ++ O, ⟨⟨rv, iv', v', ns, heap_set hb1 4 v' rfl, own_keepS hrot k2 (hnr hrot (by decide)), own_keepS hino k2 (hnr hino (by decide)), h.is, ?_, fun x hx => own_keepS (hdat x hx) k2 (hnr (hdat x hx) (by decide)), ?_, ?_⟩, ?_⟩, ?_⟩
  · have := own_keepS hown k2 (hnr hown (by decide))
    simpa [linkedR] using this
  · refine ⟨?_, fun g hg => ?_, fun g hg => ?_, fun g hg => ?_, fun x hx g hg => ?_⟩
    · exact List.mem_append.2 (.inr h.own.1)
    · exact List.mem_append.2 (.inr (h.own.2.1 g hg))
    · exact List.mem_append.2 (.inr (h.own.2.2.1 g hg))
    · exact List.mem_append.2 (.inl (by simpa using hg))
    · exact List.mem_append.2 (.inr (h.own.2.2.2.2 x hx g hg))
  · intro g hg
    have hs := k.size
    have hz : (w1.setCell ⟨r, 4, none⟩ v').heap.size = w1.heap.size := by simp [World.setCell]
    rw [hz]
    rcases List.mem_append.1 hg with hg | hg
    · rcases hO' g (by simpa using hg) with h1 | h1
      · have := h.lt g h1; omega
      · omega
    · have := h.lt g hg; omega
  · intro g hg
    rcases List.mem_append.1 hg with hg | hg
    · rcases hO' g (by simpa using hg) with h1 | h1
      · exact .inl h1
      · exact .inr h1.1
    · exact .inl hg
  · exact k.trans' k2 (fun x hx _ => h.own.2.2.2.1 x (by simpa using hx)) (fun x hx _ => by simp at hx; subst hx; exact h.own.1)
end Go.Proofs.YtfhiioopimmahaaGreatDoor
namespace Go.Proofs.YtfhiioopimmahaaGreatDoor
open Go.RowKit Go.Pax Go.Shelf
theorem Tryz.vinfoRP : (Tryz.prog.info? 125).map (fun i => (i.zero, i.size, i.bytes)) = some (some (.agg #[.string ⟨#[]⟩, .int .i64 0]), 2, 24) := by kernel_rfl
theorem Tryz.vinfoRN : (Tryz.prog.info? 116).map (fun i => (i.zero, i.size, i.bytes)) = some (some (.agg #[.int .i64 0, .int .i64 0, .int .i64 0, .slice none 0 0, .string ⟨#[]⟩, .int .i64 0, .int .i64 0]), 7, 80) := by kernel_rfl
theorem path_one (w : World) (S : ByteArray) (i : Nat) : ∀ j u, [Value.string S, Value.int .i64 i][j]? = some u → (w.alloc (.cells #[.string S, .int .i64 i] 125)).cell? ((⟨w.heap.size, 0, none⟩ : Addr).add j) = some u := by
  intro j u hj
  have hn := heap_alloc_new w (.cells #[.string S, .int .i64 i] 125)
  match j, hj with
  | 0, hj => simp at hj; subst hj; exact cell_heap hn 0 rfl
  | 1, hj => simp at hj; subst hj; exact cell_heap hn 1 rfl
theorem path_cells (S : ByteArray) (i : Nat) : ∀ u ∈ [Value.string S, Value.int .i64 i], u.oneCell' = true := by
  intro u hu
  simp at hu
  rcases hu with rfl | rfl <;> rfl
set_option maxRecDepth 100000 in
set_option maxHeartbeats 4000000 in
theorem rlink (w : World) (r : Nat) (O : List Nat) (ρ : RFs) (p t : Str) (h : RAt w r O ρ) (hk : ROk ρ) (hp : p.length ≤ 140737488355328) :
    Calls Tryz.prog 51 #[.pointer (some ⟨r, 0, none⟩), .string (ba p), .string (ba t)] w fun e w' => e = .returned (.int .i64 (linkRE ρ p t)) ∧ (linkRE ρ p t ≠ 0 → Chg [] w w') ∧ (linkRE ρ p t = 0 → ∃ i, lkF ρ.paths t = some i ∧ RTo w w' r O (linkedR ρ p i)) := by
  have HCK := Lib.hid (rcheck p hp w)
  have HPL := Lib.hid (rplace w r O ρ p h hk hp)
  have hF := rfind w r O ρ t h (by have := hk.plen; omega)
  have hpl := hk.plen
  obtain ⟨rv, iv', pv, ns, h⟩ := h
  obtain ⟨_, _, _, c3, c4, _⟩ := h.cells
  obtain ⟨ao, c, rfl, _, _⟩ := own_rdS h.ino
  have HX := Lib.hid (fun i (hi : lkF ρ.paths t = some i) => h.node (hk.idx _ (lkF_mem hi)))
  have HI := Lib.hid h
  have hR : linkRE ρ p t = linkRE ρ p t := rfl
  conv at hR => rhs; unfold linkRE
  generalize linkRE ρ p t = R at *
  have HR := Lib.hid hR
  clear h hk hR
  by_cases hc : checkP p = 0
  · rw [hc] at HCK HR
    rw [if_neg (by omega)] at HR
    by_cases hq : placeR ρ p = 0
    · rw [hq] at HPL HR
      rw [if_neg (by omega)] at HR
      cases h1 : lkF ρ.paths t with
      | none =>
        rw [findR_no h1] at hF
        have hR := HR.out
        rw [h1] at hR
        simp only at hR
        subst hR
        have HF := Lib.hid hF
        clear hF HX HR hc hq h1
        generalize ba p = P at *
        generalize ba t = T at *
        go_enter Tryz.func51, Tryz.ntmps51
        go_wp2_with (first
          | (go_at_call 86; refine HCK.out.mono ?_; rintro e w2 ⟨rfl, hw2⟩; obtain rfl := hw2.symm)
          | (go_at_call 87; refine HPL.out.mono ?_; rintro e w2 ⟨rfl, hw2⟩; obtain rfl := hw2.symm)
          | (go_at_call 54; refine HF.out.mono ?_; rintro e w2 ⟨rfl, hw2⟩; obtain rfl := hw2.symm))
        go_ret
        exact ⟨rfl, fun _ => Chg.refl _ _, fun h => absurd h (by decide)⟩
      | some i =>
        rw [findR_some h1] at hF
        have hR := HR.out
        rw [h1] at hR
        simp only at hR
        obtain ⟨hn, hnc, hi', ad, rfl, -, hc1, -⟩ := HX.out i h1
        have hil : i < ns.length := hi'
        have HF := Lib.hid hF
        have HP1 := Lib.hid (show ∃ j, some i = some j ∧ _ from ⟨i, rfl, trivial⟩)
        clear hF HX HR hn hi' HP1
        generalize hKK : (nodeR ρ i).kind = K at *
        clear hKK
        by_cases hK : K = 1
        · subst hK
          rw [if_pos rfl] at hR
          subst hR
          obtain ⟨pi', hpi, hpi0, hpi1, hpi2⟩ := info_parts Tryz.vinfoRP
          obtain ⟨pa, pc, rfl, hpc, hprd⟩ := own_rdS HI.out.pth
          have hka : ∀ P, Chg [] w (w.alloc (.cells #[.string P, .int .i64 i] 125)) := fun P => (Chg.refl _ _).alloc _
          have HOP := Lib.hid (fun P => own_keepS HI.out.pth (hka P) (by simp))
          have HRB := Lib.hid (fun P => (hka P).heap HI.out.blk (by simp))
          generalize hPP : ba p = P at *
          generalize ba t = T at *
          have HPP := Lib.hid hPP
          have hne : (Value.slice pa ρ.paths.length pc).ownBlock ≠ some r := fun hm => by
            obtain ⟨c', hc'⟩ := own_blockS HI.out.pth hm
            exact ne_of_types HI.out.blk hc' (by decide) rfl
          have HNE := Lib.hid (And.intro hne trivial).1
          clear hPP hprd h1 hc hq hne
          have c4a : (w.alloc (.cells #[.string P, .int .i64 i] 125)).cell? ⟨r, 4, none⟩ = some (.slice pa ρ.paths.length pc) := cell_heap (HRB.out P) 4 rfl
          go_enter Tryz.func51, Tryz.ntmps51
          go_upto_region 11 with (first
            | (go_at_call 86; refine HCK.out.mono ?_; rintro e w2 ⟨rfl, hw2⟩; obtain rfl := hw2.symm)
            | (go_at_call 87; refine HPL.out.mono ?_; rintro e w2 ⟨rfl, hw2⟩; obtain rfl := hw2.symm)
            | (go_at_call 54; refine HF.out.mono ?_; rintro e w2 ⟨rfl, hw2⟩; obtain rfl := hw2.symm))
          have hsz : w.heap.size ≤ (w.alloc (.cells #[.string P, .int .i64 i] 125)).heap.size := by simp
          go_wp2_with (at_builtin; refine wpList_append_own_at _ rfl (.tmp 37) (.tmp 41) 106 rfl 0 125 pi' (.agg #[.string ⟨#[]⟩, .int .i64 0]) 2 24 Tryz.underlying106 hpi hpi0 hpi1 hpi2 rfl (by omega) (.slice pa ρ.paths.length pc) ρ.paths.length (pcells ρ.paths) rfl (HOP.out P) ⟨w.heap.size, 0, none⟩ 1 1 [.string P, .int .i64 i] rfl rfl (path_one w P i) (path_cells P i) (by unfold maxLen; omega) (by omega) (by omega) ?_; intro v1 w1 hown hgr hnil hat; obtain ⟨va, vc, rfl, -, -⟩ := own_rdS hown; have hk1 := ((hka P).mono (T := (Value.slice pa ρ.paths.length pc).ownBlock.toList) (by simp)).grown hgr (fun x hx _ => by simp [hx]); have hb1 := grown_heap hgr (HRB.out P) (fun e => HNE.out e.symm); have g4 : w1.cell? ⟨r, 4, none⟩ = some (.slice pa ρ.paths.length pc) := cell_heap hb1 4 rfl; have f4 : w1.frozen? ⟨r, 4, none⟩ = false := frozen_of_row _ _ _ _ _ hb1; have HW1 := Lib.hid (And.intro hown (And.intro hk1 (grown_at (w0 := w) hat hown hsz))); clear hown hgr hnil hat hk1 hb1)
          go_ret
          refine ⟨rfl, fun h => absurd rfl h, fun _ => ⟨i, rfl, ?_⟩⟩
          obtain ⟨hown, hk1, hat⟩ := HW1.out
          refine HI.out.addPath p i ?_ hk1 hat
          rw [pcells_append, ← HPP.out] at *
          exact hown
        · rw [if_neg hK] at hR
          subst hR
          have hKn : (K != 1) = true := by simpa using hK
          clear h1 hK hc hq
          generalize ba p = P at *
          generalize ba t = T at *
          go_enter Tryz.func51, Tryz.ntmps51
          go_wp2_with (first
            | (go_at_call 86; refine HCK.out.mono ?_; rintro e w2 ⟨rfl, hw2⟩; obtain rfl := hw2.symm)
            | (go_at_call 87; refine HPL.out.mono ?_; rintro e w2 ⟨rfl, hw2⟩; obtain rfl := hw2.symm)
            | (go_at_call 54; refine HF.out.mono ?_; rintro e w2 ⟨rfl, hw2⟩; obtain rfl := hw2.symm))
          go_ret
          exact ⟨rfl, fun _ => Chg.refl _ _, fun h => absurd h (by decide)⟩
    · have hqb : (placeR ρ p != 0) = true := by simpa using hq
      rw [if_pos hq] at HR
      have hR := HR.out
      subst hR
      have HQ := Lib.hid (And.intro hq trivial)
      clear hF HX HR hc hq
      generalize placeR ρ p = R at *
      generalize ba p = P at *
      generalize ba t = T at *
      go_enter Tryz.func51, Tryz.ntmps51
      go_wp2_with (first
        | (go_at_call 86; refine HCK.out.mono ?_; rintro e w2 ⟨rfl, hw2⟩; obtain rfl := hw2.symm)
        | (go_at_call 87; refine HPL.out.mono ?_; rintro e w2 ⟨rfl, hw2⟩; obtain rfl := hw2.symm))
      go_ret
      exact ⟨rfl, fun _ => Chg.refl _ _, fun h => absurd h HQ.out.1⟩
  · have hqb : (checkP p != 0) = true := by simpa using hc
    have hqe : (checkP p == 0) = false := by simpa using hc
    rw [if_pos hc] at HR
    have hR := HR.out
    subst hR
    have HQ := Lib.hid (And.intro hc trivial)
    clear hF HX HR hc
    generalize checkP p = R at *
    generalize ba p = P at *
    generalize ba t = T at *
    go_enter Tryz.func51, Tryz.ntmps51
    go_wp2_with (go_at_call 86; refine HCK.out.mono ?_; rintro e w2 ⟨rfl, hw2⟩; obtain rfl := hw2.symm)
    go_ret
    exact ⟨rfl, fun _ => Chg.refl _ _, fun h => absurd h HQ.out.1⟩
end Go.Proofs.YtfhiioopimmahaaGreatDoor
namespace Go.Pax
open Go.RowKit
theorem ncells_set : ∀ (l : List (RNode × Value)) (i : Nat) (h : i < l.length) (j : Nat) (v : Value) (x' : RNode), j < 7 → ncell x' l[i].2 = (ncell l[i].1 l[i].2).set j v → ncells (l.set i (x', l[i].2)) = (ncells l).set (i * 7 + j) v
  | x :: l, 0, _, j, v, x', hj, hx => by
    simp only [List.getElem_cons_zero] at hx
    simp only [List.set_cons_zero, ncells, List.getElem_cons_zero, hx]
    rw [List.set_append_left _ _ (by simp [ncell]; omega)]
    simp
  | x :: l, i + 1, h, j, v, x', hj, hx => by
    have := ncells_set l i (by simpa using h) j v x' hj (by simpa using hx)
    simp only [List.set_cons_succ, ncells, List.getElem_cons_succ]
    rw [this, List.set_append_right _ _ (by simp [ncell]; omega)]
    congr 2
    simp [ncell]; omega
end Go.Pax
namespace Go.Proofs.YtfhiioopimmahaaGreatDoor
open Go.RowKit Go.Pax Go.Shelf
theorem RIn.setJ {w : World} {r : Nat} {O : List Nat} {ρ : RFs} {rv : Value} {ad : Addr} {n c : Nat} {pv : Value} {ns : List (RNode × Value)} (h : RIn w r O ρ rv (.slice (some ad) n c) pv ns) {i : Nat} (hi : i < ns.length) (j : Nat) (hj : j < 7) (v : Value) (x' : RNode)
    (hx : ncell x' ns[i].2 = (ncell ns[i].1 ns[i].2).set j v) (hd : x'.data = ns[i].1.data) :
    w.frozen? ⟨(ad.add (i * 7)).block, (ad.add (i * 7)).off + j, none⟩ = false ∧ RIn (w.setCell ⟨(ad.add (i * 7)).block, (ad.add (i * 7)).off + j, none⟩ v) r O { ρ with inodes := ρ.inodes.set i x' } rv (.slice (some ad) n c) pv (ns.set i (x', ns[i].2)) ∧ Chg O w (w.setCell ⟨(ad.add (i * 7)).block, (ad.add (i * 7)).off + j, none⟩ v) := by
  have hino := h.ino
  rcases h.ino.2 with ⟨hv, _⟩ | ⟨g, cap, cur, hv, hb, hg, hn, hm, hs, ht⟩
  · cases hv
  simp only [Value.slice.injEq, Option.some.injEq] at hv
  obtain ⟨rfl, rfl, rfl⟩ := hv
  rw [add_at]
  have k : Chg [g] w (w.setCell ⟨g, i * 7 + j, none⟩ v) := (Chg.refl _ _).setCell (fun _ => by simp) _
  have hgO : g ∈ O := h.own.2.2.1 g (by simp [Value.ownBlock])
  have hne : ∀ {e : TypeId} {base size n : Nat} {v : Value} {xs : List Value}, w.ownsRow base e size v n xs → e ≠ 116 → ∀ g', v.ownBlock = some g' → g' ∉ [g] := fun hr hne g' hg' hm => by
    obtain ⟨c, hc⟩ := own_blockS hr hg'
    simp at hm; subst hm
    exact ne_of_types hc hg hne rfl
  refine ⟨frozen_of_row _ _ _ _ _ hg, ⟨k.heap h.blk ?_, own_keepS h.rot k (hne h.rot (by decide)), ?_, ?_, own_keepS h.pth k (hne h.pth (by decide)), fun x hxm => ?_, ⟨h.own.1, h.own.2.1, h.own.2.2.1, h.own.2.2.2.1, fun x hxm => ?_⟩, fun g' hg' => Nat.lt_of_lt_of_le (h.lt g' hg') k.size⟩, k.mono (fun x hx _ => by simp at hx; subst hx; exact hgO)⟩
  · intro hm
    simp at hm; subst hm
    exact ne_of_types h.blk hg (by decide) rfl
  · rw [List.length_set, ncells_set ns i hi j v x' hj hx]
    refine ⟨by rw [List.length_set, ncells_length], .inr ⟨g, c, cur.setIfInBounds (i * 7 + j) v, rfl, Nat.zero_le _, heap_set hg _ _ rfl, hn, hm, by rw [Array.size_setIfInBounds, hs], ?_⟩⟩
    rw [Array.toList_setIfInBounds, ← ht, List.take_set]
  · simp only [h.is, List.map_set]
  · have hdat : ∀ x ∈ ns, Row (w.setCell ⟨g, i * 7 + j, none⟩ v) 5 x.2 (bv x.1.data) := fun x hx => own_keepS (h.data x hx) k (hne (h.data x hx) (by decide))
    rcases List.mem_or_eq_of_mem_set hxm with h1 | h1
    · exact hdat x h1
    · subst h1
      simp only [hd]
      exact hdat _ (List.getElem_mem hi)
  · rcases List.mem_or_eq_of_mem_set hxm with h1 | h1
    · exact h.own.2.2.2.2 x h1
    · subst h1
      exact h.own.2.2.2.2 ns[i] (List.getElem_mem hi)
set_option maxRecDepth 100000 in
set_option maxHeartbeats 4000000 in
theorem rchown (w : World) (r : Nat) (O : List Nat) (ρ : RFs) (p : Str) (u m : Int) (h : RAt w r O ρ) (hk : ROk ρ) :
    Calls Tryz.prog 66 #[.pointer (some ⟨r, 0, none⟩), .string (ba p), .int .i64 u, .int .i64 m] w fun e w' => e = .returned (.int .i64 (chownRE ρ p)) ∧ (chownRE ρ p ≠ 0 → Chg [] w w') ∧ (chownRE ρ p = 0 → ∃ i, lkF ρ.paths p = some i ∧ RTo w w' r O (chownedR ρ i u m)) := by
  have hF := rfind w r O ρ p h (by have := hk.plen; omega)
  obtain ⟨rv, iv', pv, ns, h⟩ := h
  obtain ⟨_, _, _, c3, _, _⟩ := h.cells
  obtain ⟨ao, c, rfl, _, _⟩ := own_rdS h.ino
  have HX := Lib.hid (fun i (hi : lkF ρ.paths p = some i) => h.node (i := i) (hk.idx _ (lkF_mem hi)))
  have HI := Lib.hid h
  unfold chownRE
  clear h hk
  cases h1 : lkF ρ.paths p with
  | none =>
    rw [findR_no h1] at hF
    have HF := Lib.hid hF
    clear hF HX h1
    generalize ba p = P at *
    go_enter Tryz.func66, Tryz.ntmps66
    go_wp2_with (go_at_call 54; refine HF.out.mono ?_; rintro e w2 ⟨rfl, hw2⟩; obtain rfl := hw2.symm)
    go_ret
    exact ⟨rfl, fun _ => Chg.refl _ _, fun h => absurd h (by decide)⟩
  | some i =>
    rw [findR_some h1] at hF
    have HF := Lib.hid hF
    obtain ⟨hn, hnc, hi', ad, rfl, hnode, -, hcs⟩ := HX.out i h1
    have c5 := hcs 5 (by omega) (by omega)
    have c6 := hcs 6 (by omega) (by omega)
    simp only [ncell, List.getElem?_cons_succ, List.getElem?_cons_zero] at c5 c6
    obtain ⟨x5, hx5⟩ : ∃ x : RNode, x = { nodeR ρ i with uid := u } := ⟨_, rfl⟩
    obtain ⟨x6, hx6⟩ : ∃ x : RNode, x = { nodeR ρ i with uid := u, mtime := m } := ⟨_, rfl⟩
    have s5 := HI.out.setJ hi' 5 (by omega) (.int .i64 u) x5 (by rw [hx5, hnode]; rfl) (by rw [hx5, hnode])
    have hi5 : i < (ns.set i (x5, ns[i].2)).length := by rw [List.length_set]; exact hi'
    have s6 := s5.2.1.setJ hi5 6 (by omega) (.int .i64 m) x6 (by simp [ncell, hx5, hx6]) (by simp [hx5, hx6])
    have hil : i < ns.length := hi'
    have e3 := s5.2.1.cells.2.2.2.1
    have hcs6 := (s5.2.1.node (i := i) (by show i < (ρ.inodes.set i _).length; rw [List.length_set]; omega)).2.2
    obtain ⟨_, ad2, hae, -, -, hcs6⟩ := hcs6
    cases hae
    have e6 := hcs6 6 (by omega) (by omega)
    simp only [ncell, List.getElem?_cons_succ, List.getElem?_cons_zero] at e6
    obtain ⟨v6, e6⟩ : ∃ v6, (w.setCell ⟨(ad.add (i * 7)).block, (ad.add (i * 7)).off + 5, none⟩ (.int .i64 u)).cell? ⟨(ad.add (i * 7)).block, (ad.add (i * 7)).off + 6, none⟩ = some (.int .i64 v6) := ⟨_, e6⟩
    obtain ⟨v5, c5⟩ : ∃ v5, w.cell? ⟨(ad.add (i * 7)).block, (ad.add (i * 7)).off + 5, none⟩ = some (.int .i64 v5) := ⟨_, c5⟩
    have f5 := s5.1
    have f6 := s6.1
    have hfin : RTo w ((w.setCell ⟨(ad.add (i * 7)).block, (ad.add (i * 7)).off + 5, none⟩ (.int .i64 u)).setCell ⟨(ad.add (i * 7)).block, (ad.add (i * 7)).off + 6, none⟩ (.int .i64 m)) r O (chownedR ρ i u m) := by
      have h6 := s6.2.1
      simp only [List.set_set] at h6
      rw [hx6] at h6
      exact ⟨O, ⟨⟨_, _, _, _, h6⟩, fun g hg => .inl hg⟩, s5.2.2.trans s6.2.2⟩
    have HFIN := Lib.hid hfin
    clear hF HX hn hcs hcs6 s5 s6 hnode hfin hx5 hx6 hi5 c6
    generalize ba p = P at *
    go_enter Tryz.func66, Tryz.ntmps66
    go_upto_region 4 with (go_at_call 54; refine HF.out.mono ?_; rintro e w2 ⟨rfl, hw2⟩; obtain rfl := hw2.symm)
    go_upto_region 5 with (fail)
    generalize w.setCell ⟨(ad.add (i * 7)).block, (ad.add (i * 7)).off + 5, none⟩ (.int .i64 u) = W5 at *
    go_wp2_with fail
    go_ret
    exact ⟨rfl, fun h => absurd rfl h, fun _ => ⟨i, rfl, HFIN.out⟩⟩
end Go.Proofs.YtfhiioopimmahaaGreatDoor
