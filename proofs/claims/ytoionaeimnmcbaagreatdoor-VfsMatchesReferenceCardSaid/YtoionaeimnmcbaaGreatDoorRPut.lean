/- The reference's place, Link, Chown. -/
import Derived.Test.YtoionaeimnmcbaaGreatDoorRNew
import Derived.Test.YtoionaeimnmcbaaGreatDoorVEnd
namespace Go.Pax
open Go.RowKit
def nodeR (ρ : RFs) (i : Nat) : RNode := ρ.inodes.getD i default
def placeR (ρ : RFs) (p : Str) : Int := match lkF ρ.paths (parentP p) with
  | some i => if (nodeR ρ i).kind = 0 then (match lkF ρ.paths p with | some _ => 14 | none => 0) else 13
  | none => 13
def linkRE (ρ : RFs) (p t : Str) : Int :=
  if checkP p ≠ 0 then checkP p else if placeR ρ p ≠ 0 then placeR ρ p else match lkF ρ.paths t with
  | some i => if (nodeR ρ i).kind = 1 then 0 else 15
  | none => 19
def chownRE (ρ : RFs) (p : Str) : Int := match lkF ρ.paths p with
  | some _ => 0
  | none => 19
def linkedR (ρ : RFs) (p : Str) (i : Nat) : RFs := { ρ with paths := ρ.paths ++ [(p, i)] }
def chownedR (ρ : RFs) (i : Nat) (u m : Int) : RFs := { ρ with inodes := ρ.inodes.set i { nodeR ρ i with uid := u, mtime := m } }
structure ROk (ρ : RFs) : Prop where
  idx : ∀ x ∈ ρ.paths, x.2 < ρ.inodes.length
  plen : ρ.paths.length ≤ 10000
  ilen : ρ.inodes.length ≤ 10000
  first : 0 ≤ ρ.first ∧ ρ.first ≤ 1048576
  step : 0 ≤ ρ.step ∧ ρ.step ≤ 1048576
  lists : 0 ≤ ρ.lists ∧ ρ.lists ≤ 10000
  rot : ∀ x ∈ ρ.rot, 0 ≤ x
  rotl : ρ.rot.length ≤ 10000
  short : ∀ x ∈ ρ.paths, x.1.length ≤ 65536
end Go.Pax
namespace Go.Proofs.YtoionaeimnmcbaaGreatDoor
open Go.RowKit Go.Pax Go.Shelf
theorem RIn.node {w : World} {r : Nat} {O : List Nat} {ρ : RFs} {rv : Value} {ao : Option Addr} {n c : Nat} {pv : Value} {ns : List (RNode × Value)} (h : RIn w r O ρ rv (.slice ao n c) pv ns) {i : Nat} (hi : i < ρ.inodes.length) :
    n = ρ.inodes.length ∧ n ≤ c ∧ ∃ (hi' : i < ns.length) (ad : Addr), ao = some ad ∧ nodeR ρ i = ns[i].1 ∧ w.cell? (ad.add (i * 7)) = some (.int .i64 (nodeR ρ i).kind) ∧ ∀ j, 0 < j → j < 7 → w.cell? ⟨(ad.add (i * 7)).block, (ad.add (i * 7)).off + j, none⟩ = (ncell ns[i].1 ns[i].2)[j]? := by
  have hl : ρ.inodes.length = ns.length := by rw [h.is, List.length_map]
  obtain ⟨ao', c', he, hnc, hrd⟩ := own_rdS h.ino
  simp only [Value.slice.injEq] at he
  obtain ⟨rfl, rfl, rfl⟩ := he
  have hi' : i < ns.length := by omega
  have hn : nodeR ρ i = ns[i].1 := by
    unfold nodeR
    simp only [List.getD, h.is, List.getElem?_map, List.getElem?_eq_getElem hi', Option.map_some, Option.getD_some]
  have hg := ncells_get ns i hi'
  obtain ⟨ad, rfl, _, hc⟩ := hrd _ _ (hg 0 (by omega))
  refine ⟨hl.symm, hnc, hi', ad, rfl, hn, by rw [hn]; exact hc, fun j h0 hj => ?_⟩
  have h2 := own_fld h.ino (i * 7) j ((ncell ns[i].1 ns[i].2)[j]'(by simpa [ncell] using hj)) (by rw [hg j hj]; exact List.getElem?_eq_getElem _)
  obtain ⟨a2, ha, hc2⟩ := h2
  cases ha
  rw [hc2]
  exact (List.getElem?_eq_getElem _).symm
theorem findR_some {l : List (Str × Nat)} {p : Str} {i : Nat} (h : lkF l p = some i) : findR l p = i := by unfold findR; rw [h]
theorem findR_no {l : List (Str × Nat)} {p : Str} (h : lkF l p = none) : findR l p = -1 := by unfold findR; rw [h]
set_option maxRecDepth 100000 in
set_option maxHeartbeats 4000000 in
theorem rplace (w : World) (r : Nat) (O : List Nat) (ρ : RFs) (p : Str) (h : RAt w r O ρ) (hk : ROk ρ) (hp : p.length ≤ 140737488355328) :
    Calls Tryz.prog 55 #[.pointer (some ⟨r, 0, none⟩), .string (ba p)] w fun e w' => e = .returned (.int .i64 (placeR ρ p)) ∧ w' = w := by
  have HPA := Lib.hid (rparent p hp w)
  have hF1 := rfind w r O ρ (parentP p) h (by have := hk.plen; omega)
  have hF2 := rfind w r O ρ p h (by have := hk.plen; omega)
  obtain ⟨rv, iv', pv, ns, h⟩ := h
  obtain ⟨_, _, _, c3, _, _⟩ := h.cells
  obtain ⟨ao, c, rfl, _, _⟩ := own_rdS h.ino
  have hidx := fun i (hi : lkF ρ.paths (parentP p) = some i) => h.node (hk.idx _ (lkF_mem hi))
  have HX := Lib.hid hidx
  clear hidx h hk
  generalize hR : placeR ρ p = R
  unfold placeR at hR
  have HR := Lib.hid hR.symm
  clear hR
  cases h1 : lkF ρ.paths (parentP p) with
  | none =>
    rw [findR_no h1] at hF1
    have hR := HR.out
    rw [h1] at hR
    simp only at hR
    subst hR
    have HF1 := Lib.hid hF1
    clear hF1 hF2 HX HR h1
    generalize ba p = P at *
    go_enter Tryz.func55, Tryz.ntmps55
    go_wp2_with (first
      | (go_at_call 57; refine HPA.out.mono ?_; rintro e w' ⟨rfl, rfl⟩)
      | (go_at_call 36; refine HF1.out.mono ?_; rintro e w' ⟨rfl, rfl⟩))
    go_ret
    exact ⟨rfl, rfl⟩
  | some i =>
    rw [findR_some h1] at hF1
    obtain ⟨hn, hnc, hi', ad, rfl, -, hc, -⟩ := HX.out i h1
    have hR := HR.out
    rw [h1] at hR
    simp only at hR
    have hil : i < ns.length := hi'
    have HF1 := Lib.hid hF1
    have HF2 := Lib.hid hF2
    clear hF1 hF2 HX HR hn hi'
    generalize (nodeR ρ i).kind = K at *
    by_cases hK : K = 0
    · subst hK
      rw [if_pos rfl] at hR
      cases h2 : lkF ρ.paths p with
      | none =>
        rw [findR_no h2] at HF2
        rw [h2] at hR
        simp only at hR
        subst hR
        clear h1 h2
        generalize ba p = P at *
        go_enter Tryz.func55, Tryz.ntmps55
        go_upto_region 2 with (first
          | (go_at_call 57; refine HPA.out.mono ?_; rintro e w' ⟨rfl, rfl⟩)
          | (go_at_call 36; refine HF1.out.mono ?_; rintro e w' ⟨rfl, rfl⟩))
        go_wp2_with (go_at_call 36; refine HF2.out.mono ?_; rintro e w' ⟨rfl, rfl⟩)
        go_ret
        exact ⟨rfl, rfl⟩
      | some i2 =>
        rw [findR_some h2] at HF2
        rw [h2] at hR
        simp only at hR
        subst hR
        clear h1 h2
        generalize ba p = P at *
        go_enter Tryz.func55, Tryz.ntmps55
        go_upto_region 2 with (first
          | (go_at_call 57; refine HPA.out.mono ?_; rintro e w' ⟨rfl, rfl⟩)
          | (go_at_call 36; refine HF1.out.mono ?_; rintro e w' ⟨rfl, rfl⟩))
        go_wp2_with (go_at_call 36; refine HF2.out.mono ?_; rintro e w' ⟨rfl, rfl⟩)
        go_ret
        exact ⟨rfl, rfl⟩
    · rw [if_neg hK] at hR
      subst hR
      have hKb : (K == 0) = false := by simpa using hK
      have hKn : (K != 0) = true := by simpa using hK
      clear h1 hK
      generalize ba p = P at *
      go_enter Tryz.func55, Tryz.ntmps55
      go_upto_region 2 with (first
        | (go_at_call 57; refine HPA.out.mono ?_; rintro e w' ⟨rfl, rfl⟩)
        | (go_at_call 36; refine HF1.out.mono ?_; rintro e w' ⟨rfl, rfl⟩))
      go_wp2_with fail
      go_ret
      exact ⟨rfl, rfl⟩
def RTo (w w' : World) (r : Nat) (O : List Nat) (ρ : RFs) : Prop := ∃ O', (RAt w' r O' ρ ∧ ∀ g ∈ O', g ∈ O ∨ w.heap.size ≤ g) ∧ Chg O w w'
/-- One path more. -/
theorem RIn.addPath {w w1 : World} {r : Nat} {O : List Nat} {ρ : RFs} {rv iv' pv v' : Value} {ns : List (RNode × Value)} (h : RIn w r O ρ rv iv' pv ns) (p : Str) (i : Nat)
    (hown : w1.ownsRow 0 78 2 v' (ρ.paths.length + 1) (pcells (ρ.paths ++ [(p, i)]))) (k : Chg pv.ownBlock.toList w w1) (hat : v'.ownBlock = pv.ownBlock ∨ ∃ g, v'.ownBlock = some g ∧ w.heap.size ≤ g ∧ g < w1.heap.size) :
    RTo w (w1.setCell ⟨r, 4, none⟩ v') r O (linkedR ρ p i) := by
  have hpt : ∀ {e : TypeId} {base size n : Nat} {v : Value} {xs : List Value}, w.ownsRow base e size v n xs → e ≠ 78 → ∀ g, v.ownBlock = some g → g ∉ pv.ownBlock.toList := fun hr hne g hg hm => by
    obtain ⟨c, hc⟩ := own_blockS hr hg
    obtain ⟨c', hc'⟩ := own_blockS h.pth (show pv.ownBlock = some g by simpa using hm)
    exact ne_of_types hc hc' hne rfl
  have hrp : r ∉ pv.ownBlock.toList := fun hm => by
    obtain ⟨c', hc'⟩ := own_blockS h.pth (show pv.ownBlock = some r by simpa using hm)
    exact ne_of_types h.blk hc' (by decide) rfl
  have hb1 := k.heap h.blk hrp
  have hrot := own_keepS h.rot k (hpt h.rot (by decide))
  have hino := own_keepS h.ino k (hpt h.ino (by decide))
  have hdat := fun x hx => own_keepS (h.data x hx) k (hpt (h.data x hx) (by decide))
  have k2 : Chg [r] w1 (w1.setCell ⟨r, 4, none⟩ v') := (Chg.refl _ _).setCell (fun _ => by simp) _
  have hnr : ∀ {e : TypeId} {base size n : Nat} {v : Value} {xs : List Value}, w1.ownsRow base e size v n xs → e ≠ 74 → ∀ g, v.ownBlock = some g → g ∉ [r] := fun hr hne g hg hm => by
    obtain ⟨c, hc⟩ := own_blockS hr hg
    simp at hm; subst hm
    exact ne_of_types hc hb1 hne rfl
  have hO' : ∀ g, v'.ownBlock = some g → g ∈ O ∨ (w.heap.size ≤ g ∧ g < w1.heap.size) := fun g hg => by
    rcases hat with h1 | ⟨g', h1, h2, h3⟩
    · exact .inl (h.own.2.2.2.1 g (by rw [← h1]; exact hg))
    · rw [h1] at hg; cases hg; exact .inr ⟨h2, h3⟩
  refine ⟨v'.ownBlock.toList ++ O, ⟨⟨rv, iv', v', ns, heap_set hb1 4 v' rfl, own_keepS hrot k2 (hnr hrot (by decide)), own_keepS hino k2 (hnr hino (by decide)), h.is, ?_, fun x hx => own_keepS (hdat x hx) k2 (hnr (hdat x hx) (by decide)), ?_, ?_⟩, ?_⟩, ?_⟩
  · have := own_keepS hown k2 (hnr hown (by decide))
    simpa [linkedR] using this
  · refine ⟨?_, fun g hg => ?_, fun g hg => ?_, fun g hg => ?_, fun x hx g hg => ?_⟩
    · exact List.mem_append.2 (.inr h.own.1)
    · exact List.mem_append.2 (.inr (h.own.2.1 g hg))
    · exact List.mem_append.2 (.inr (h.own.2.2.1 g hg))
    · exact List.mem_append.2 (.inl (by simpa using hg))
    · exact List.mem_append.2 (.inr (h.own.2.2.2.2 x hx g hg))
  · intro g hg
    have hs := k.size
    have hz : (w1.setCell ⟨r, 4, none⟩ v').heap.size = w1.heap.size := by simp [World.setCell]
    rw [hz]
    rcases List.mem_append.1 hg with hg | hg
    · rcases hO' g (by simpa using hg) with h1 | h1
      · have := h.lt g h1; omega
      · omega
    · have := h.lt g hg; omega
  · intro g hg
    rcases List.mem_append.1 hg with hg | hg
    · rcases hO' g (by simpa using hg) with h1 | h1
      · exact .inl h1
      · exact .inr h1.1
    · exact .inl hg
  · exact k.trans' k2 (fun x hx _ => h.own.2.2.2.1 x (by simpa using hx)) (fun x hx _ => by simp at hx; subst hx; exact h.own.1)
end Go.Proofs.YtoionaeimnmcbaaGreatDoor
