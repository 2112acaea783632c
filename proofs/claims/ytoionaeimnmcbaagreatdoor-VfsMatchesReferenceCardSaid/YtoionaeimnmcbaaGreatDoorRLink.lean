/- The reference's Link, Chown. -/
import Derived.Test.YtoionaeimnmcbaaGreatDoorRPut
namespace Go.Proofs.YtoionaeimnmcbaaGreatDoor
open Go.RowKit Go.Pax Go.Shelf
theorem Tryz.vinfoRP : (Tryz.prog.info? 78).map (fun i => (i.zero, i.size, i.bytes)) = some (some (.agg #[.string ⟨#[]⟩, .int .i64 0]), 2, 24) := by kernel_rfl
theorem Tryz.vinfoRN : (Tryz.prog.info? 76).map (fun i => (i.zero, i.size, i.bytes)) = some (some (.agg #[.int .i64 0, .int .i64 0, .int .i64 0, .slice none 0 0, .string ⟨#[]⟩, .int .i64 0, .int .i64 0]), 7, 80) := by kernel_rfl
theorem path_one (w : World) (S : ByteArray) (i : Nat) : ∀ j u, [Value.string S, Value.int .i64 i][j]? = some u → (w.alloc (.cells #[.string S, .int .i64 i] 78)).cell? ((⟨w.heap.size, 0, none⟩ : Addr).add j) = some u := by
  intro j u hj
  have hn := heap_alloc_new w (.cells #[.string S, .int .i64 i] 78)
  match j, hj with
  | 0, hj => simp at hj; subst hj; exact cell_heap hn 0 rfl
  | 1, hj => simp at hj; subst hj; exact cell_heap hn 1 rfl
theorem path_cells (S : ByteArray) (i : Nat) : ∀ u ∈ [Value.string S, Value.int .i64 i], u.oneCell' = true := by
  intro u hu
  simp at hu
  rcases hu with rfl | rfl <;> rfl
theorem grown_at {w0 w w1 : World} {base : Nat} {e : TypeId} {size n : Nat} {v v' : Value} {xs : List Value} (h : v'.ownBlock = v.ownBlock ∨ v'.ownBlock = some w.heap.size) (hown : w1.ownsRow base e size v' n xs) (h0 : w0.heap.size ≤ w.heap.size) : v'.ownBlock = v.ownBlock ∨ ∃ g, v'.ownBlock = some g ∧ w0.heap.size ≤ g ∧ g < w1.heap.size := by
  rcases h with h | h
  · exact .inl h
  · obtain ⟨c, hc⟩ := own_blockS hown h
    exact .inr ⟨_, h, h0, lt_of_block hc⟩
set_option maxRecDepth 100000 in
set_option maxHeartbeats 4000000 in
theorem rlink (w : World) (r : Nat) (O : List Nat) (ρ : RFs) (p t : Str) (h : RAt w r O ρ) (hk : ROk ρ) (hp : p.length ≤ 140737488355328) :
    Calls Tryz.prog 33 #[.pointer (some ⟨r, 0, none⟩), .string (ba p), .string (ba t)] w fun e w' => e = .returned (.int .i64 (linkRE ρ p t)) ∧ (linkRE ρ p t ≠ 0 → Chg [] w w') ∧ (linkRE ρ p t = 0 → ∃ i, lkF ρ.paths t = some i ∧ RTo w w' r O (linkedR ρ p i)) := by
  have HCK := Lib.hid (rcheck p hp w)
  have HPL := Lib.hid (rplace w r O ρ p h hk hp)
  have hF := rfind w r O ρ t h (by have := hk.plen; omega)
  have hpl := hk.plen
  obtain ⟨rv, iv', pv, ns, h⟩ := h
  obtain ⟨_, _, _, c3, c4, _⟩ := h.cells
  obtain ⟨ao, c, rfl, _, _⟩ := own_rdS h.ino
  have HX := Lib.hid (fun i (hi : lkF ρ.paths t = some i) => h.node (hk.idx _ (lkF_mem hi)))
  have HI := Lib.hid h
  have hR : linkRE ρ p t = linkRE ρ p t := rfl
  conv at hR => rhs; unfold linkRE
  generalize linkRE ρ p t = R at *
  have HR := Lib.hid hR
  clear h hk hR
  by_cases hc : checkP p = 0
  · rw [hc] at HCK HR
    rw [if_neg (by omega)] at HR
    by_cases hq : placeR ρ p = 0
    · rw [hq] at HPL HR
      rw [if_neg (by omega)] at HR
      cases h1 : lkF ρ.paths t with
      | none =>
        rw [findR_no h1] at hF
        have hR := HR.out
        rw [h1] at hR
        simp only at hR
        subst hR
        have HF := Lib.hid hF
        clear hF HX HR hc hq h1
        generalize ba p = P at *
        generalize ba t = T at *
        go_enter Tryz.func33, Tryz.ntmps33
        go_wp2_with (first
          | (go_at_call 53; refine HCK.out.mono ?_; rintro e w2 ⟨rfl, hw2⟩; obtain rfl := hw2.symm)
          | (go_at_call 55; refine HPL.out.mono ?_; rintro e w2 ⟨rfl, hw2⟩; obtain rfl := hw2.symm)
          | (go_at_call 36; refine HF.out.mono ?_; rintro e w2 ⟨rfl, hw2⟩; obtain rfl := hw2.symm))
        go_ret
        exact ⟨rfl, fun _ => Chg.refl _ _, fun h => absurd h (by decide)⟩
      | some i =>
        rw [findR_some h1] at hF
        have hR := HR.out
        rw [h1] at hR
        simp only at hR
        obtain ⟨hn, hnc, hi', ad, rfl, -, hc1, -⟩ := HX.out i h1
        have hil : i < ns.length := hi'
        have HF := Lib.hid hF
        have HP1 := Lib.hid (show ∃ j, some i = some j ∧ _ from ⟨i, rfl, trivial⟩)
        clear hF HX HR hn hi' HP1
        generalize hKK : (nodeR ρ i).kind = K at *
        clear hKK
        by_cases hK : K = 1
        · subst hK
          rw [if_pos rfl] at hR
          subst hR
          obtain ⟨pi', hpi, hpi0, hpi1, hpi2⟩ := info_parts Tryz.vinfoRP
          obtain ⟨pa, pc, rfl, hpc, hprd⟩ := own_rdS HI.out.pth
          have hka : ∀ P, Chg [] w (w.alloc (.cells #[.string P, .int .i64 i] 78)) := fun P => (Chg.refl _ _).alloc _
          have HOP := Lib.hid (fun P => own_keepS HI.out.pth (hka P) (by simp))
          have HRB := Lib.hid (fun P => (hka P).heap HI.out.blk (by simp))
          generalize hPP : ba p = P at *
          generalize ba t = T at *
          have HPP := Lib.hid hPP
          have hne : (Value.slice pa ρ.paths.length pc).ownBlock ≠ some r := fun hm => by
            obtain ⟨c', hc'⟩ := own_blockS HI.out.pth hm
            exact ne_of_types HI.out.blk hc' (by decide) rfl
          have HNE := Lib.hid (And.intro hne trivial).1
          clear hPP hprd h1 hc hq hne
          have c4a : (w.alloc (.cells #[.string P, .int .i64 i] 78)).cell? ⟨r, 4, none⟩ = some (.slice pa ρ.paths.length pc) := cell_heap (HRB.out P) 4 rfl
          go_enter Tryz.func33, Tryz.ntmps33
          go_upto_region 11 with (first
            | (go_at_call 53; refine HCK.out.mono ?_; rintro e w2 ⟨rfl, hw2⟩; obtain rfl := hw2.symm)
            | (go_at_call 55; refine HPL.out.mono ?_; rintro e w2 ⟨rfl, hw2⟩; obtain rfl := hw2.symm)
            | (go_at_call 36; refine HF.out.mono ?_; rintro e w2 ⟨rfl, hw2⟩; obtain rfl := hw2.symm))
          have hsz : w.heap.size ≤ (w.alloc (.cells #[.string P, .int .i64 i] 78)).heap.size := by simp
          go_wp2_with (at_builtin; refine wpList_append_own_at _ rfl (.tmp 37) (.tmp 41) 72 rfl 0 78 pi' (.agg #[.string ⟨#[]⟩, .int .i64 0]) 2 24 Tryz.underlying72 hpi hpi0 hpi1 hpi2 rfl (by omega) (.slice pa ρ.paths.length pc) ρ.paths.length (pcells ρ.paths) rfl (HOP.out P) ⟨w.heap.size, 0, none⟩ 1 1 [.string P, .int .i64 i] rfl rfl (path_one w P i) (path_cells P i) (by unfold maxLen; omega) (by omega) (by omega) ?_; intro v1 w1 hown hgr hnil hat; obtain ⟨va, vc, rfl, -, -⟩ := own_rdS hown; have hk1 := ((hka P).mono (T := (Value.slice pa ρ.paths.length pc).ownBlock.toList) (by simp)).grown hgr (fun x hx _ => by simp [hx]); have hb1 := grown_heap hgr (HRB.out P) (fun e => HNE.out e.symm); have g4 : w1.cell? ⟨r, 4, none⟩ = some (.slice pa ρ.paths.length pc) := cell_heap hb1 4 rfl; have f4 : w1.frozen? ⟨r, 4, none⟩ = false := frozen_of_row _ _ _ _ _ hb1; have HW1 := Lib.hid (And.intro hown (And.intro hk1 (grown_at (w0 := w) hat hown hsz))); clear hown hgr hnil hat hk1 hb1)
          go_ret
          refine ⟨rfl, fun h => absurd rfl h, fun _ => ⟨i, rfl, ?_⟩⟩
          obtain ⟨hown, hk1, hat⟩ := HW1.out
          refine HI.out.addPath p i ?_ hk1 hat
          rw [pcells_append, ← HPP.out] at *
          exact hown
        · rw [if_neg hK] at hR
          subst hR
          have hKn : (K != 1) = true := by simpa using hK
          clear h1 hK hc hq
          generalize ba p = P at *
          generalize ba t = T at *
          go_enter Tryz.func33, Tryz.ntmps33
          go_wp2_with (first
            | (go_at_call 53; refine HCK.out.mono ?_; rintro e w2 ⟨rfl, hw2⟩; obtain rfl := hw2.symm)
            | (go_at_call 55; refine HPL.out.mono ?_; rintro e w2 ⟨rfl, hw2⟩; obtain rfl := hw2.symm)
            | (go_at_call 36; refine HF.out.mono ?_; rintro e w2 ⟨rfl, hw2⟩; obtain rfl := hw2.symm))
          go_ret
          exact ⟨rfl, fun _ => Chg.refl _ _, fun h => absurd h (by decide)⟩
    · have hqb : (placeR ρ p != 0) = true := by simpa using hq
      rw [if_pos hq] at HR
      have hR := HR.out
      subst hR
      have HQ := Lib.hid (And.intro hq trivial)
      clear hF HX HR hc hq
      generalize placeR ρ p = R at *
      generalize ba p = P at *
      generalize ba t = T at *
      go_enter Tryz.func33, Tryz.ntmps33
      go_wp2_with (first
        | (go_at_call 53; refine HCK.out.mono ?_; rintro e w2 ⟨rfl, hw2⟩; obtain rfl := hw2.symm)
        | (go_at_call 55; refine HPL.out.mono ?_; rintro e w2 ⟨rfl, hw2⟩; obtain rfl := hw2.symm))
      go_ret
      exact ⟨rfl, fun _ => Chg.refl _ _, fun h => absurd h HQ.out.1⟩
  · have hqb : (checkP p != 0) = true := by simpa using hc
    have hqe : (checkP p == 0) = false := by simpa using hc
    rw [if_pos hc] at HR
    have hR := HR.out
    subst hR
    have HQ := Lib.hid (And.intro hc trivial)
    clear hF HX HR hc
    generalize checkP p = R at *
    generalize ba p = P at *
    generalize ba t = T at *
    go_enter Tryz.func33, Tryz.ntmps33
    go_wp2_with (go_at_call 53; refine HCK.out.mono ?_; rintro e w2 ⟨rfl, hw2⟩; obtain rfl := hw2.symm)
    go_ret
    exact ⟨rfl, fun _ => Chg.refl _ _, fun h => absurd h HQ.out.1⟩
end Go.Proofs.YtoionaeimnmcbaaGreatDoor
