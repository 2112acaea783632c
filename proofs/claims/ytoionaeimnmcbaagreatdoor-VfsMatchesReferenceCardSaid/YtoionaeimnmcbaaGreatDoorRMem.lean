/- The reference's file system in memory; Find, Links. -/
import Derived.Test.YtoionaeimnmcbaaGreatDoorRRec
namespace Go.Pax
open Go.RowKit
def pcells : List (Str × Nat) → List Value
  | [] => []
  | x :: l => .string (ba x.1) :: .int .i64 x.2 :: pcells l
def ncell (x : RNode) (dv : Value) : List Value := [.int .i64 x.kind, .int .i64 x.mode, .int .i64 x.number, dv, .string (ba x.target), .int .i64 x.uid, .int .i64 x.mtime]
def ncells : List (RNode × Value) → List Value
  | [] => []
  | x :: l => ncell x.1 x.2 ++ ncells l
theorem pcells_length (l : List (Str × Nat)) : (pcells l).length = l.length * 2 := by
  induction l with
  | nil => rfl
  | cons x l ih => simp [pcells, ih]; omega
theorem ncells_length (l : List (RNode × Value)) : (ncells l).length = l.length * 7 := by
  induction l with
  | nil => rfl
  | cons x l ih => simp [ncells, ncell, ih]; omega
theorem pcells_append (l m : List (Str × Nat)) : pcells (l ++ m) = pcells l ++ pcells m := by
  induction l with
  | nil => rfl
  | cons x l ih => simp [pcells, ih]
theorem ncells_append (l m : List (RNode × Value)) : ncells (l ++ m) = ncells l ++ ncells m := by
  induction l with
  | nil => rfl
  | cons x l ih => simp [ncells, ih]
theorem pcells_get : ∀ (l : List (Str × Nat)) (k : Nat) (h : k < l.length), (pcells l)[k * 2]? = some (.string (ba l[k].1)) ∧ (pcells l)[k * 2 + 1]? = some (.int .i64 l[k].2)
  | x :: l, 0, _ => ⟨rfl, rfl⟩
  | x :: l, k + 1, h => by
    have := pcells_get l k (by simpa using h)
    simp only [pcells, Nat.add_mul, Nat.one_mul, List.getElem_cons_succ]
    exact ⟨by rw [show k * 2 + 2 = k * 2 + 1 + 1 by omega, List.getElem?_cons_succ, List.getElem?_cons_succ]; exact this.1, by rw [show k * 2 + 2 + 1 = k * 2 + 1 + 1 + 1 by omega, List.getElem?_cons_succ, List.getElem?_cons_succ]; exact this.2⟩
theorem ncells_get : ∀ (l : List (RNode × Value)) (k : Nat) (h : k < l.length) (j : Nat), j < 7 → (ncells l)[k * 7 + j]? = (ncell l[k].1 l[k].2)[j]?
  | x :: l, 0, _, j, hj => by
    simp only [ncells]
    rw [List.getElem?_append_left (by simp [ncell]; omega)]
    simp
  | x :: l, k + 1, h, j, hj => by
    have := ncells_get l k (by simpa using h) j hj
    simp only [ncells, List.getElem_cons_succ]
    rw [List.getElem?_append_right (by simp [ncell]; omega)]
    rw [← this]
    congr 1
    simp [ncell]; omega
theorem lkF_none {l : List (Str × Nat)} {p : Str} : lkF l p = none ↔ ∀ x ∈ l, x.1 ≠ p := by
  induction l with
  | nil => simp [lkF]
  | cons x l ih =>
    simp only [lkF, List.mem_cons, forall_eq_or_imp]
    split
    · rename_i e; simp [e]
    · rename_i e; rw [ih]; exact ⟨fun h => ⟨fun e' => e e'.symm, h⟩, fun h => h.2⟩
/-- The index of a path, or -1. -/
def findR (l : List (Str × Nat)) (p : Str) : Int := match lkF l p with | none => -1 | some i => i
theorem findR_none {l : List (Str × Nat)} {p : Str} (h : ∀ x ∈ l, x.1 ≠ p) : findR l p = -1 := by unfold findR; rw [lkF_none.2 h]
theorem findR_at : ∀ (l : List (Str × Nat)) (p : Str) (k : Nat) (h : k < l.length), l[k].1 = p → (∀ j (hj : j < l.length), j < k → l[j].1 ≠ p) → findR l p = l[k].2
  | x :: l, p, 0, _, h, _ => by simp at h; unfold findR lkF; rw [if_pos h.symm]; rfl
  | x :: l, p, k + 1, hk, h, hb => by
    have h0 := hb 0 (by simp) (by omega)
    have := findR_at l p k (by simpa using hk) (by simpa using h) (fun j hj hjk => by
      have := hb (j + 1) (by simp; exact hj) (by omega)
      simpa using this)
    unfold findR lkF
    rw [if_neg (fun e => h0 (by simpa using e.symm))]
    simpa [findR] using this
end Go.Pax
namespace Go.Proofs.YtoionaeimnmcbaaGreatDoor
open Go.RowKit Go.Pax Go.Shelf
structure RIn (w : World) (r : Nat) (O : List Nat) (ρ : RFs) (rv iv' pv : Value) (ns : List (RNode × Value)) : Prop where
  blk : w.heap[r]? = some (.cells #[.int .i64 ρ.first, .int .i64 ρ.step, rv, iv', pv, .int .i64 ρ.lists] 74 (0, 0))
  rot : Row w 3 rv (iv ρ.rot)
  ino : w.ownsRow 0 76 7 iv' ns.length (ncells ns)
  is : ρ.inodes = ns.map (·.1)
  pth : w.ownsRow 0 78 2 pv ρ.paths.length (pcells ρ.paths)
  data : ∀ x ∈ ns, Row w 5 x.2 (bv x.1.data)
  own : r ∈ O ∧ (∀ g, rv.ownBlock = some g → g ∈ O) ∧ (∀ g, iv'.ownBlock = some g → g ∈ O) ∧ (∀ g, pv.ownBlock = some g → g ∈ O) ∧ ∀ x ∈ ns, ∀ g, x.2.ownBlock = some g → g ∈ O
  lt : ∀ g ∈ O, g < w.heap.size
def RAt (w : World) (r : Nat) (O : List Nat) (ρ : RFs) : Prop := ∃ rv iv' pv ns, RIn w r O ρ rv iv' pv ns
theorem own_keepS {w w' : World} {S : List Nat} {base size : Nat} {e : TypeId} {v : Value} {n : Nat} {xs : List Value} (h : w.ownsRow base e size v n xs) (k : Chg S w w') (hd : ∀ g, v.ownBlock = some g → g ∉ S) : w'.ownsRow base e size v n xs := by
  refine ⟨h.1, ?_⟩
  rcases h.2 with hn | ⟨g, cap, cur, hv, hb, hg, rest⟩
  · exact .inl hn
  · exact .inr ⟨g, cap, cur, hv, hb, k.heap hg (hd g (by subst hv; simp [Value.ownBlock])), rest⟩
theorem own_rdS {w : World} {base size : Nat} {e : TypeId} {v : Value} {n : Nat} {xs : List Value} (h : w.ownsRow base e size v n xs) : ∃ ao c, v = .slice ao n c ∧ n ≤ c ∧ Rd w v.ownBlock.toList ao xs := by
  rcases h.2 with ⟨hv, h0⟩ | ⟨g, cap, cur, hv, hb, hg, hn, hm, hs, ht⟩
  · subst hv h0
    have hx : xs = [] := List.eq_nil_of_length_eq_zero (by rw [h.1]; simp)
    subst hx
    exact ⟨none, 0, rfl, Nat.le_refl _, Rd.nil _ _ _⟩
  · subst hv
    exact ⟨some ⟨g, 0, none⟩, cap, rfl, hn, fun j u hu => ⟨_, rfl, by simp [Value.ownBlock], h.cells (g := g) rfl j u hu⟩⟩
/-- Field k of the element whose cells begin at j. -/
def Fld (w : World) (ao : Option Addr) (xs : List Value) : Prop := ∀ j k u, xs[j + k]? = some u → ∃ a, ao = some a ∧ w.cell? ⟨(a.add j).block, (a.add j).off + k, none⟩ = some u
theorem own_fld {w : World} {base size : Nat} {e : TypeId} {ao : Option Addr} {n c : Nat} {xs : List Value} (h : w.ownsRow base e size (.slice ao n c) n xs) : Fld w ao xs := fun j k u hu => by
  rcases h.2 with ⟨hv, h0⟩ | ⟨g, cap, cur, hv, hb, hg, hn, hm, hs, ht⟩
  · subst h0
    have hx : xs = [] := List.eq_nil_of_length_eq_zero (by rw [h.1]; simp)
    subst hx
    simp at hu
  · have h1 := h
    simp only [Value.slice.injEq] at hv
    obtain ⟨rfl, _, rfl⟩ := hv
    refine ⟨_, rfl, ?_⟩
    have h2 := h1.cells (g := g) rfl (j + k) u hu
    have e1 : ∀ m, ((⟨g, 0, none⟩ : Addr).add m) = ⟨g, m, none⟩ := fun m => by
      unfold Addr.add
      split
      · rename_i e; rw [e]
      · simp
    rw [e1] at h2 ⊢
    exact h2
theorem own_blockS {w : World} {base size : Nat} {e : TypeId} {v : Value} {n : Nat} {xs : List Value} (h : w.ownsRow base e size v n xs) {g : Nat} (hg : v.ownBlock = some g) : ∃ c, w.heap[g]? = some (.cells c e (0, 0)) := by
  rcases h.2 with ⟨rfl, _⟩ | ⟨g', cap, cur, rfl, _, hh, _⟩
  · simp [Value.ownBlock] at hg
  · simp [Value.ownBlock] at hg; subst hg; exact ⟨cur, hh⟩
theorem RIn.foreign {w w' : World} {r : Nat} {O S : List Nat} {ρ : RFs} {rv iv' pv : Value} {ns : List (RNode × Value)} (h : RIn w r O ρ rv iv' pv ns) (k : Chg S w w') (hS : ∀ g ∈ O, g ∉ S) : RIn w' r O ρ rv iv' pv ns :=
  ⟨k.heap h.blk (hS _ h.own.1), h.rot.keep k (fun g hg => hS _ (h.own.2.1 g hg)), own_keepS h.ino k (fun g hg => hS _ (h.own.2.2.1 g hg)), h.is, own_keepS h.pth k (fun g hg => hS _ (h.own.2.2.2.1 g hg)), fun x hx => (h.data x hx).keep k (fun g hg => hS _ (h.own.2.2.2.2 x hx g hg)), h.own, fun g hg => Nat.lt_of_lt_of_le (h.lt g hg) k.size⟩
theorem RAt.foreign {w w' : World} {r : Nat} {O S : List Nat} {ρ : RFs} (h : RAt w r O ρ) (k : Chg S w w') (hS : ∀ g ∈ O, g ∉ S) : RAt w' r O ρ := by
  obtain ⟨rv, iv', pv, ns, h⟩ := h
  exact ⟨rv, iv', pv, ns, h.foreign k hS⟩
theorem RAt.lt {w : World} {r : Nat} {O : List Nat} {ρ : RFs} (h : RAt w r O ρ) : ∀ g ∈ O, g < w.heap.size := by
  obtain ⟨rv, iv', pv, ns, h⟩ := h
  exact h.lt
theorem RIn.cells {w : World} {r : Nat} {O : List Nat} {ρ : RFs} {rv iv' pv : Value} {ns : List (RNode × Value)} (h : RIn w r O ρ rv iv' pv ns) :
    w.cell? ⟨r, 0, none⟩ = some (.int .i64 ρ.first) ∧ w.cell? ⟨r, 1, none⟩ = some (.int .i64 ρ.step) ∧ w.cell? ⟨r, 2, none⟩ = some rv ∧ w.cell? ⟨r, 3, none⟩ = some iv' ∧ w.cell? ⟨r, 4, none⟩ = some pv ∧ w.cell? ⟨r, 5, none⟩ = some (.int .i64 ρ.lists) :=
  ⟨cell_heap h.blk 0 rfl, cell_heap h.blk 1 rfl, cell_heap h.blk 2 rfl, cell_heap h.blk 3 rfl, cell_heap h.blk 4 rfl, cell_heap h.blk 5 rfl⟩
set_option maxRecDepth 100000 in
set_option maxHeartbeats 4000000 in
theorem rfind (w : World) (r : Nat) (O : List Nat) (ρ : RFs) (p : Str) (h : RAt w r O ρ) (hl : ρ.paths.length ≤ 1000000) :
    Calls Tryz.prog 36 #[.pointer (some ⟨r, 0, none⟩), .string (ba p)] w fun e w' => e = .returned (.int .i64 (findR ρ.paths p)) ∧ w' = w := by
  obtain ⟨rv, iv', pv, ns, h⟩ := h
  obtain ⟨_, _, _, _, c4, _⟩ := h.cells
  obtain ⟨ao, c, rfl, hnc, hrd⟩ := own_rdS h.pth
  have H := Lib.hid hrd
  have HF := Lib.hid (own_fld h.pth)
  have HA := Lib.hid (fun k hk h hb => findR_at ρ.paths p k hk h hb)
  have HB := Lib.hid (fun h => findR_none (l := ρ.paths) (p := p) h)
  clear hrd h
  generalize findR ρ.paths p = R at *
  generalize ρ.paths = l at *
  obtain ⟨n, hn⟩ : ∃ n, l.length = n := ⟨_, rfl⟩
  rw [hn] at c4 hl hnc
  have HN := Lib.hid hn
  have hrd2 := H.out
  rw [hn] at hrd2
  have HR := Lib.hid hrd2
  clear hn hrd2 H
  have HP := Lib.hid (fun k (hk : k < n) => pcells_get l k (by rw [HN.out]; exact hk))
  go_enter Tryz.func36, Tryz.ntmps36
  go_upto_region 2 with (fail)
  go_loopw [5] (fun i wr => wr = w ∧ ∃ k : Nat, i = .int .i64 k ∧ k ≤ n ∧ ∀ j (hj : j < l.length), j < k → l[j].1 ≠ p) (fun i _ => n - (intOf i).toNat)
  case atStart => exact ⟨rfl, 0, rfl, Nat.zero_le _, fun j hj hk => by omega⟩
  case round =>
    obtain ⟨hw, k, rfl, hk, hno⟩ := hrel
    obtain rfl := hw.symm
    have HNO := Lib.hid hno
    clear hno
    by_cases hlt : k < n
    · have hkl : k < l.length := by rw [HN.out]; exact hlt
      obtain ⟨ad, rfl, _, d0⟩ := HR.out _ _ (HP.out k hlt).1
      obtain ⟨ad2, hae, d2⟩ := HF.out (k * 2) 1 _ (HP.out k hlt).2
      obtain rfl := Option.some.inj hae
      clear hae
      have hbe : ((ba l[k].1).toList == (ba p).toList) = decide (l[k].1 = p) := by rw [ba_tl, ba_tl]; exact Bool.eq_iff_iff.2 (by simp)
      obtain ⟨D, hD⟩ : ∃ D, D = decide (l[k].1 = p) := ⟨_, rfl⟩
      have hDe := Lib.hid hD.symm
      rw [← hD] at hbe
      clear hD
      have hX : l[k].1 = p ∨ l[k].1 ≠ p := Decidable.em _
      have HAT := Lib.hid (HA.out k hkl)
      rcases hX with hX | hX
      · have hR := HAT.out hX HNO.out
        have hD : D = true := by rw [← hDe.out]; simpa using hX
        generalize ba l[k].1 = S at *
        generalize l[k].2 = i at hR d2
        subst hD hR
        clear hX HAT HA
        go_wp2_with fail
        go_ret
        exact ⟨rfl, rfl⟩
      · have hD : D = false := by rw [← hDe.out]; simpa using hX
        subst hD
        have HX := Lib.hid (And.intro hX trivial)
        clear hX HAT
        generalize hS : ba l[k].1 = S at *
        go_wp2_with fail
        go_roundw
        case rel => exact ⟨trivial, k + 1, by go_num, by omega, fun j hj hjk => by
          rcases Nat.lt_or_eq_of_le (Nat.le_of_lt_succ hjk) with h1 | h1
          · exact HNO.out j hj h1
          · subst h1; exact HX.out.1⟩
        case measure => simp [intOf]; omega
    · have hkk : k = n := by omega
      subst hkk
      have hR := HB.out (fun x hx => by
        obtain ⟨j, hj, rfl⟩ := List.mem_iff_getElem.1 hx
        exact HNO.out j hj (by rw [HN.out] at hj; exact hj))
      subst hR
      go_wp2_with fail
      go_ret
      exact ⟨rfl, rfl⟩
theorem linksR_take_succ (l : List (Str × Nat)) (k i : Nat) (h : k < l.length) : linksR (l.take (k + 1)) i = linksR (l.take k) i + if l[k].2 = i then 1 else 0 := by
  rw [List.take_add_one, List.getElem?_eq_getElem h]
  exact linksR_snoc _ l[k].1 l[k].2 i
theorem linksR_le (l : List (Str × Nat)) (i : Nat) : linksR l i ≤ l.length := List.length_filter_le _ _
set_option maxRecDepth 100000 in
set_option maxHeartbeats 4000000 in
theorem rlinks (w : World) (r : Nat) (O : List Nat) (ρ : RFs) (i : Nat) (h : RAt w r O ρ) (hl : ρ.paths.length ≤ 1000000) :
    Calls Tryz.prog 37 #[.pointer (some ⟨r, 0, none⟩), .int .i64 i] w fun e w' => e = .returned (.int .i64 (linksR ρ.paths i)) ∧ w' = w := by
  obtain ⟨rv, iv', pv, ns, h⟩ := h
  obtain ⟨_, _, _, _, c4, _⟩ := h.cells
  obtain ⟨ao, c, rfl, hnc, hrd⟩ := own_rdS h.pth
  have H := Lib.hid hrd
  have HF := Lib.hid (own_fld h.pth)
  have hall : linksR (ρ.paths.take ρ.paths.length) i = linksR ρ.paths i := by rw [List.take_length]
  have HS := Lib.hid (fun k hk => linksR_take_succ ρ.paths k i hk)
  have hle := fun k => linksR_le (ρ.paths.take k) i
  simp only [List.length_take] at hle
  have HLE := Lib.hid hle
  clear hrd h hle
  generalize linksR ρ.paths i = R at *
  generalize ρ.paths = l at *
  obtain ⟨n, hn⟩ : ∃ n, l.length = n := ⟨_, rfl⟩
  rw [hn] at c4 hl hnc hall
  have HN := Lib.hid hn
  have HALL := Lib.hid hall
  have hrd2 := H.out
  rw [hn] at hrd2
  have HR := Lib.hid hrd2
  clear hn hrd2 H hall
  have HP := Lib.hid (fun k (hk : k < n) => pcells_get l k (by rw [HN.out]; exact hk))
  go_enter Tryz.func37, Tryz.ntmps37
  go_upto_region 3 with (fail)
  go_loopw [5, 6] (fun t j wr => wr = w ∧ ∃ k : Nat, j = .int .i64 k ∧ t = .int .i64 (linksR (l.take k) i) ∧ k ≤ n) (fun _ j _ => n - (intOf j).toNat)
  case atStart => exact ⟨rfl, 0, rfl, rfl, Nat.zero_le _⟩
  case round =>
    obtain ⟨hw, k, rfl, rfl, hk⟩ := hrel
    obtain rfl := hw.symm
    by_cases hlt : k < n
    · have hkl : k < l.length := by rw [HN.out]; exact hlt
      obtain ⟨ad, rfl, _, d0⟩ := HR.out _ _ (HP.out k hlt).1
      obtain ⟨ad2, hae, d2⟩ := HF.out (k * 2) 1 _ (HP.out k hlt).2
      obtain rfl := Option.some.inj hae
      clear hae
      have hsu := HS.out k hkl
      have hLk := HLE.out k
      by_cases hX : l[k].2 = i
      · rw [if_pos hX] at hsu
        have HSU := Lib.hid hsu
        rw [hX] at d2
        clear hX hsu
        generalize linksR (l.take k) i = m at *
        go_wp2_with fail
        go_roundw
        case rel => exact ⟨trivial, k + 1, by go_num, by rw [HSU.out]; go_num, by omega⟩
        case measure => simp [intOf]; omega
      · rw [if_neg hX] at hsu
        have HSU := Lib.hid hsu
        have hxb : ((l[k].2 : Int) == (i : Int)) = false := by rw [beq_eq_false_iff_ne]; omega
        clear hX hsu
        generalize l[k].2 = x at *
        generalize linksR (l.take k) i = m at *
        go_wp2_with fail
        go_roundw
        case rel => exact ⟨trivial, k + 1, by go_num, by rw [HSU.out]; rfl, by omega⟩
        case measure => simp [intOf]; omega
    · have hkk : k = n := by omega
      subst hkk
      rw [HALL.out]
      go_wp2_with fail
      go_ret
      exact ⟨rfl, rfl⟩
end Go.Proofs.YtoionaeimnmcbaaGreatDoor
