/- The reference's Chown. -/
import Derived.Test.YtoionaeimnmcbaaGreatDoorRLink
namespace Go.Pax
open Go.RowKit
theorem ncells_set : ∀ (l : List (RNode × Value)) (i : Nat) (h : i < l.length) (j : Nat) (v : Value) (x' : RNode), j < 7 → ncell x' l[i].2 = (ncell l[i].1 l[i].2).set j v → ncells (l.set i (x', l[i].2)) = (ncells l).set (i * 7 + j) v
  | x :: l, 0, _, j, v, x', hj, hx => by
    simp only [List.getElem_cons_zero] at hx
    simp only [List.set_cons_zero, ncells, List.getElem_cons_zero, hx]
    rw [List.set_append_left _ _ (by simp [ncell]; omega)]
    simp
  | x :: l, i + 1, h, j, v, x', hj, hx => by
    have := ncells_set l i (by simpa using h) j v x' hj (by simpa using hx)
    simp only [List.set_cons_succ, ncells, List.getElem_cons_succ]
    rw [this, List.set_append_right _ _ (by simp [ncell]; omega)]
    congr 2
    simp [ncell]; omega
theorem add_at (g m : Nat) : ((⟨g, 0, none⟩ : Addr).add m) = ⟨g, m, none⟩ := by
  unfold Addr.add
  split
  · rename_i e; rw [e]
  · simp
end Go.Pax
namespace Go.Proofs.YtoionaeimnmcbaaGreatDoor
open Go.RowKit Go.Pax Go.Shelf
theorem RIn.setJ {w : World} {r : Nat} {O : List Nat} {ρ : RFs} {rv : Value} {ad : Addr} {n c : Nat} {pv : Value} {ns : List (RNode × Value)} (h : RIn w r O ρ rv (.slice (some ad) n c) pv ns) {i : Nat} (hi : i < ns.length) (j : Nat) (hj : j < 7) (v : Value) (x' : RNode)
    (hx : ncell x' ns[i].2 = (ncell ns[i].1 ns[i].2).set j v) (hd : x'.data = ns[i].1.data) :
    w.frozen? ⟨(ad.add (i * 7)).block, (ad.add (i * 7)).off + j, none⟩ = false ∧ RIn (w.setCell ⟨(ad.add (i * 7)).block, (ad.add (i * 7)).off + j, none⟩ v) r O { ρ with inodes := ρ.inodes.set i x' } rv (.slice (some ad) n c) pv (ns.set i (x', ns[i].2)) ∧ Chg O w (w.setCell ⟨(ad.add (i * 7)).block, (ad.add (i * 7)).off + j, none⟩ v) := by
  have hino := h.ino
  rcases h.ino.2 with ⟨hv, _⟩ | ⟨g, cap, cur, hv, hb, hg, hn, hm, hs, ht⟩
  · cases hv
  simp only [Value.slice.injEq, Option.some.injEq] at hv
  obtain ⟨rfl, rfl, rfl⟩ := hv
  rw [add_at]
  have k : Chg [g] w (w.setCell ⟨g, i * 7 + j, none⟩ v) := (Chg.refl _ _).setCell (fun _ => by simp) _
  have hgO : g ∈ O := h.own.2.2.1 g (by simp [Value.ownBlock])
  have hne : ∀ {e : TypeId} {base size n : Nat} {v : Value} {xs : List Value}, w.ownsRow base e size v n xs → e ≠ 76 → ∀ g', v.ownBlock = some g' → g' ∉ [g] := fun hr hne g' hg' hm => by
    obtain ⟨c, hc⟩ := own_blockS hr hg'
    simp at hm; subst hm
    exact ne_of_types hc hg hne rfl
  refine ⟨frozen_of_row _ _ _ _ _ hg, ⟨k.heap h.blk ?_, own_keepS h.rot k (hne h.rot (by decide)), ?_, ?_, own_keepS h.pth k (hne h.pth (by decide)), fun x hxm => ?_, ⟨h.own.1, h.own.2.1, h.own.2.2.1, h.own.2.2.2.1, fun x hxm => ?_⟩, fun g' hg' => Nat.lt_of_lt_of_le (h.lt g' hg') k.size⟩, k.mono (fun x hx _ => by simp at hx; subst hx; exact hgO)⟩
  · intro hm
    simp at hm; subst hm
    exact ne_of_types h.blk hg (by decide) rfl
  · rw [List.length_set, ncells_set ns i hi j v x' hj hx]
    refine ⟨by rw [List.length_set, ncells_length], .inr ⟨g, c, cur.setIfInBounds (i * 7 + j) v, rfl, Nat.zero_le _, heap_set hg _ _ rfl, hn, hm, by rw [Array.size_setIfInBounds, hs], ?_⟩⟩
    rw [Array.toList_setIfInBounds, ← ht, List.take_set]
  · simp only [h.is, List.map_set]
  · have hdat : ∀ x ∈ ns, Row (w.setCell ⟨g, i * 7 + j, none⟩ v) 5 x.2 (bv x.1.data) := fun x hx => own_keepS (h.data x hx) k (hne (h.data x hx) (by decide))
    rcases List.mem_or_eq_of_mem_set hxm with h1 | h1
    · exact hdat x h1
    · subst h1
      simp only [hd]
      exact hdat _ (List.getElem_mem hi)
  · rcases List.mem_or_eq_of_mem_set hxm with h1 | h1
    · exact h.own.2.2.2.2 x h1
    · subst h1
      exact h.own.2.2.2.2 ns[i] (List.getElem_mem hi)
set_option maxRecDepth 100000 in
set_option maxHeartbeats 4000000 in
theorem rchown (w : World) (r : Nat) (O : List Nat) (ρ : RFs) (p : Str) (u m : Int) (h : RAt w r O ρ) (hk : ROk ρ) :
    Calls Tryz.prog 34 #[.pointer (some ⟨r, 0, none⟩), .string (ba p), .int .i64 u, .int .i64 m] w fun e w' => e = .returned (.int .i64 (chownRE ρ p)) ∧ (chownRE ρ p ≠ 0 → Chg [] w w') ∧ (chownRE ρ p = 0 → ∃ i, lkF ρ.paths p = some i ∧ RTo w w' r O (chownedR ρ i u m)) := by
  have hF := rfind w r O ρ p h (by have := hk.plen; omega)
  obtain ⟨rv, iv', pv, ns, h⟩ := h
  obtain ⟨_, _, _, c3, _, _⟩ := h.cells
  obtain ⟨ao, c, rfl, _, _⟩ := own_rdS h.ino
  have HX := Lib.hid (fun i (hi : lkF ρ.paths p = some i) => h.node (i := i) (hk.idx _ (lkF_mem hi)))
  have HI := Lib.hid h
  unfold chownRE
  clear h hk
  cases h1 : lkF ρ.paths p with
  | none =>
    rw [findR_no h1] at hF
    have HF := Lib.hid hF
    clear hF HX h1
    generalize ba p = P at *
    go_enter Tryz.func34, Tryz.ntmps34
    go_wp2_with (go_at_call 36; refine HF.out.mono ?_; rintro e w2 ⟨rfl, hw2⟩; obtain rfl := hw2.symm)
    go_ret
    exact ⟨rfl, fun _ => Chg.refl _ _, fun h => absurd h (by decide)⟩
  | some i =>
    rw [findR_some h1] at hF
    have HF := Lib.hid hF
    obtain ⟨hn, hnc, hi', ad, rfl, hnode, -, hcs⟩ := HX.out i h1
    have c5 := hcs 5 (by omega) (by omega)
    have c6 := hcs 6 (by omega) (by omega)
    simp only [ncell, List.getElem?_cons_succ, List.getElem?_cons_zero] at c5 c6
    obtain ⟨x5, hx5⟩ : ∃ x : RNode, x = { nodeR ρ i with uid := u } := ⟨_, rfl⟩
    obtain ⟨x6, hx6⟩ : ∃ x : RNode, x = { nodeR ρ i with uid := u, mtime := m } := ⟨_, rfl⟩
    have s5 := HI.out.setJ hi' 5 (by omega) (.int .i64 u) x5 (by rw [hx5, hnode]; rfl) (by rw [hx5, hnode])
    have hi5 : i < (ns.set i (x5, ns[i].2)).length := by rw [List.length_set]; exact hi'
    have s6 := s5.2.1.setJ hi5 6 (by omega) (.int .i64 m) x6 (by simp [ncell, hx5, hx6]) (by simp [hx5, hx6])
    have hil : i < ns.length := hi'
    have e3 := s5.2.1.cells.2.2.2.1
    have hcs6 := (s5.2.1.node (i := i) (by show i < (ρ.inodes.set i _).length; rw [List.length_set]; omega)).2.2
    obtain ⟨_, ad2, hae, -, -, hcs6⟩ := hcs6
    cases hae
    have e6 := hcs6 6 (by omega) (by omega)
    simp only [ncell, List.getElem?_cons_succ, List.getElem?_cons_zero] at e6
    obtain ⟨v6, e6⟩ : ∃ v6, (w.setCell ⟨(ad.add (i * 7)).block, (ad.add (i * 7)).off + 5, none⟩ (.int .i64 u)).cell? ⟨(ad.add (i * 7)).block, (ad.add (i * 7)).off + 6, none⟩ = some (.int .i64 v6) := ⟨_, e6⟩
    obtain ⟨v5, c5⟩ : ∃ v5, w.cell? ⟨(ad.add (i * 7)).block, (ad.add (i * 7)).off + 5, none⟩ = some (.int .i64 v5) := ⟨_, c5⟩
    have f5 := s5.1
    have f6 := s6.1
    have hfin : RTo w ((w.setCell ⟨(ad.add (i * 7)).block, (ad.add (i * 7)).off + 5, none⟩ (.int .i64 u)).setCell ⟨(ad.add (i * 7)).block, (ad.add (i * 7)).off + 6, none⟩ (.int .i64 m)) r O (chownedR ρ i u m) := by
      have h6 := s6.2.1
      simp only [List.set_set] at h6
      rw [hx6] at h6
      exact ⟨O, ⟨⟨_, _, _, _, h6⟩, fun g hg => .inl hg⟩, s5.2.2.trans s6.2.2⟩
    have HFIN := Lib.hid hfin
    clear hF HX hn hcs hcs6 s5 s6 hnode hfin hx5 hx6 hi5 c6
    generalize ba p = P at *
    go_enter Tryz.func34, Tryz.ntmps34
    go_upto_region 4 with (go_at_call 36; refine HF.out.mono ?_; rintro e w2 ⟨rfl, hw2⟩; obtain rfl := hw2.symm)
    go_upto_region 5 with (fail)
    generalize w.setCell ⟨(ad.add (i * 7)).block, (ad.add (i * 7)).off + 5, none⟩ (.int .i64 u) = W5 at *
    go_wp2_with fail
    go_ret
    exact ⟨rfl, fun h => absurd rfl h, fun _ => ⟨i, rfl, HFIN.out⟩⟩
end Go.Proofs.YtoionaeimnmcbaaGreatDoor
