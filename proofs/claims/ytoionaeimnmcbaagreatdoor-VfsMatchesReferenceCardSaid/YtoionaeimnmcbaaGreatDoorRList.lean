/- The reference's List. -/
import Derived.Test.YtoionaeimnmcbaaGreatDoorRNames
namespace Go.Pax
open Go.RowKit
def rotR (ρ : RFs) : Int := ρ.rot.getD (ρ.lists % (ρ.rot.length : Int)).toNat 0
def listedR (ρ : RFs) (l : List Str) : List Str :=
  let k := (rotR ρ % (l.length : Int)).toNat
  if rotR ρ % 2 = 1 then (l.drop k ++ l.take k).reverse else l.drop k ++ l.take k
def listRE (ρ : RFs) (p : Str) : Int := match lkF ρ.paths p with
  | some i => if (nodeR ρ i).kind = 0 then 0 else 8
  | none => 19
theorem rot_get (l : List Str) (K k : Nat) (hK : K < l.length) (hk : k < l.length) : (l.drop K ++ l.take K)[k]? = l[(k + K) % l.length]? := by
  by_cases h : k + K < l.length
  · rw [Nat.mod_eq_of_lt h, List.getElem?_append_left (by rw [List.length_drop]; omega), List.getElem?_drop]
    congr 1; omega
  · have e : (k + K) % l.length = k + K - l.length := by
      rw [Nat.mod_eq_sub_mod (by omega), Nat.mod_eq_of_lt (by omega)]
    rw [e, List.getElem?_append_right (by rw [List.length_drop]; omega), List.length_drop, List.getElem?_take_of_lt (by omega)]
    congr 1; omega
theorem rot_length (l : List Str) (K : Nat) : (l.drop K ++ l.take K).length = l.length := by
  rw [List.length_append, List.length_drop, List.length_take]; omega
/-- The first a and the last a have changed places. -/
def RevAt (M L : List Str) (a : Nat) : Prop := L.length = M.length ∧ ∀ j, j < M.length → L[j]? = M[if j < a ∨ M.length ≤ j + a then M.length - 1 - j else j]?
theorem RevAt.zero (M : List Str) : RevAt M M 0 := ⟨rfl, fun j h => by rw [if_neg (by omega)]⟩
theorem RevAt.step {M L : List Str} {a : Nat} (h : RevAt M L a) (ha : a < M.length / 2) (x y : Str) (hx : L[a]? = some x) (hy : L[M.length - 1 - a]? = some y) : RevAt M ((L.set a y).set (M.length - 1 - a) x) (a + 1) := by
  refine ⟨by rw [List.length_set, List.length_set]; exact h.1, fun j hj => ?_⟩
  rw [List.getElem?_set, List.getElem?_set]
  have h1 := h.2 a (by omega)
  have h2 := h.2 (M.length - 1 - a) (by omega)
  rw [if_neg (by omega)] at h1 h2
  by_cases e1 : M.length - 1 - a = j
  · rw [if_pos e1, if_pos (by rw [List.length_set, h.1]; omega), if_pos (by omega), ← hx, h1]
    congr 1; omega
  · rw [if_neg e1]
    by_cases e2 : a = j
    · rw [if_pos e2, if_pos (by rw [h.1]; omega), if_pos (by omega), ← hy, h2, e2]
    · rw [if_neg e2, h.2 j hj]
      by_cases e3 : j < a ∨ M.length ≤ j + a
      · rw [if_pos e3, if_pos (by omega)]
      · rw [if_neg e3, if_neg (by omega)]
theorem RevAt.last {M L : List Str} (h : RevAt M L (M.length / 2)) : L = M.reverse := by
  apply List.ext_getElem?
  intro j
  by_cases hj : j < M.length
  · rw [h.2 j hj, List.getElem?_reverse hj]
    by_cases e : j < M.length / 2 ∨ M.length ≤ j + M.length / 2
    · rw [if_pos e]
    · rw [if_neg e]
      congr 1; omega
  · rw [List.getElem?_eq_none (by rw [h.1]; omega), List.getElem?_eq_none (by rw [List.length_reverse]; omega)]
end Go.Pax
namespace Go.Proofs.YtoionaeimnmcbaaGreatDoor
open Go.RowKit Go.Pax Go.Shelf
/-- A store into a row. -/
theorem own_set {w : World} {base : Nat} {e : TypeId} {g n c : Nat} {xs : List Value} (h : w.ownsRow base e 1 (.slice (some ⟨g, 0, none⟩) n c) n xs) (j : Nat) (v : Value) : (w.setCell ⟨g, j, none⟩ v).ownsRow base e 1 (.slice (some ⟨g, 0, none⟩) n c) n (xs.set j v) := by
  rcases h.2 with ⟨hv, _⟩ | ⟨g', cap, cur, hv, hb, hg, hn, hm, hs, ht⟩
  · cases hv
  simp only [Value.slice.injEq, Option.some.injEq, Addr.mk.injEq] at hv
  obtain ⟨⟨rfl, _⟩, _, rfl⟩ := hv
  refine ⟨by rw [List.length_set]; exact h.1, .inr ⟨g, c, cur.setIfInBounds j v, rfl, hb, heap_set hg _ _ rfl, hn, hm, by rw [Array.size_setIfInBounds, hs], ?_⟩⟩
  rw [Array.toList_setIfInBounds, ← ht, List.take_set]
theorem own_at {w : World} {base : Nat} {e : TypeId} {ao : Option Addr} {n c : Nat} {xs : List Value} (h : w.ownsRow base e 1 (.slice ao n c) n xs) (h0 : 0 < n) : ∃ g, ao = some ⟨g, 0, none⟩ ∧ base ≤ g ∧ n ≤ c ∧ (∀ j, w.frozen? ⟨g, j, none⟩ = false) ∧ ∀ j v, xs[j]? = some v → w.cell? ⟨g, j, none⟩ = some v := by
  rcases h.2 with ⟨hv, h1⟩ | ⟨g', cap, cur, hv, hb, hg, hn, hm, hs, ht⟩
  · omega
  have hh := h
  simp only [Value.slice.injEq] at hv
  obtain ⟨rfl, _, rfl⟩ := hv
  exact ⟨g', rfl, hb, hn, fun j => frozen_of_row _ _ _ _ _ hg, fun j v hv => by have := hh.cells (g := g') rfl j v hv; rw [add_at] at this; exact this⟩
theorem RIn.setL {w : World} {r : Nat} {O : List Nat} {ρ : RFs} {rv iv' pv : Value} {ns : List (RNode × Value)} (h : RIn w r O ρ rv iv' pv ns) (x : Int) : RIn (w.setCell ⟨r, 5, none⟩ (.int .i64 x)) r O { ρ with lists := x } rv iv' pv ns ∧ Chg [r] w (w.setCell ⟨r, 5, none⟩ (.int .i64 x)) := by
  have k : Chg [r] w (w.setCell ⟨r, 5, none⟩ (.int .i64 x)) := (Chg.refl _ _).setCell (fun _ => by simp) _
  have hnr : ∀ {e : TypeId} {base size n : Nat} {v : Value} {xs : List Value}, w.ownsRow base e size v n xs → e ≠ 74 → ∀ g, v.ownBlock = some g → g ∉ [r] := fun hr hne g hg hm => by
    obtain ⟨c, hc⟩ := own_blockS hr hg
    simp at hm; subst hm
    exact ne_of_types hc h.blk hne rfl
  exact ⟨⟨heap_set h.blk 5 _ rfl, own_keepS h.rot k (hnr h.rot (by decide)), own_keepS h.ino k (hnr h.ino (by decide)), h.is, own_keepS h.pth k (hnr h.pth (by decide)), fun y hy => own_keepS (h.data y hy) k (hnr (h.data y hy) (by decide)), h.own, fun g hg => Nat.lt_of_lt_of_le (h.lt g hg) k.size⟩, k⟩
def RListAs (e : Ending) (w w' : World) (r : Nat) (O : List Nat) (ρ : RFs) (p : Str) : Prop :=
  (listRE ρ p ≠ 0 → e = .returned (.tuple #[.slice none 0 0, .int .i64 (listRE ρ p)]) ∧ Chg [] w w') ∧
  (listRE ρ p = 0 → ∃ a n c, e = .returned (.tuple #[.slice a n c, .int .i64 0]) ∧ n = (namesR ρ.paths p).length ∧ w'.ownsRow w.heap.size 9 1 (.slice a n c) n (svn (listedR ρ (namesR ρ.paths p))) ∧ RAt w' r O { ρ with lists := ρ.lists + 1 } ∧ Chg O w w')
set_option maxRecDepth 100000 in
set_option maxHeartbeats 8000000 in
theorem rlist (w : World) (r : Nat) (O : List Nat) (ρ : RFs) (p : Str) (h : RAt w r O ρ) (hk : ROk ρ) :
    Calls Tryz.prog 14 #[.pointer (some ⟨r, 0, none⟩), .string (ba p)] w fun e w' => RListAs e w w' r O ρ p := by
  have hF := rfind w r O ρ p h (by have := hk.plen; omega)
  have HNM := Lib.hid (rnames w r O ρ p h hk)
  obtain ⟨rv, iv', pv, ns, h⟩ := h
  obtain ⟨_, _, c2, c3, _, c5⟩ := h.cells
  obtain ⟨ao, c, rfl, _, _⟩ := own_rdS h.ino
  have HX := Lib.hid (fun i (hi : lkF ρ.paths p = some i) => h.node (i := i) (hk.idx _ (lkF_mem hi)))
  have HI := Lib.hid h
  have HOK := Lib.hid hk
  clear h hk
  cases h1 : lkF ρ.paths p with
  | none =>
    have hR : listRE ρ p = 19 := by unfold listRE; rw [h1]
    rw [findR_no h1] at hF
    have HF := Lib.hid hF
    have HR := Lib.hid hR
    clear hF HX h1 hR
    generalize ba p = P at *
    go_enter Tryz.func14, Tryz.ntmps14
    go_wp2_with (go_at_call 36; refine HF.out.mono ?_; rintro e w2 ⟨rfl, hw2⟩; obtain rfl := hw2.symm)
    go_ret2
    unfold RListAs
    rw [HR.out]
    exact ⟨fun _ => ⟨rfl, Chg.refl _ _⟩, fun h => absurd h (by decide)⟩
  | some i =>
    rw [findR_some h1] at hF
    have HF := Lib.hid hF
    obtain ⟨hn, hnc, hi', ad, rfl, -, hc1, -⟩ := HX.out i h1
    have hil : i < ns.length := hi'
    by_cases hK : (nodeR ρ i).kind = 0
    · have hR : listRE ρ p = 0 := by unfold listRE; rw [h1]; simp only; rw [if_pos hK]
      rw [hK] at hc1
      have HR := Lib.hid hR
      have HCC := Lib.hid (fun W (k : Chg [] w W) => And.intro (k.cell c2 (by simp)) (k.cell c5 (by simp)))
      have hll := HOK.out.lists
      obtain ⟨LI, hLI⟩ : ∃ LI : Nat, ρ.lists = (LI : Int) := ⟨ρ.lists.toNat, by omega⟩
      obtain ⟨ra, rc, rfl, hrc, hrrd⟩ := own_rdS HI.out.rot
      have hrl := HOK.out.rotl
      have HRR := Lib.hid (fun W (k : Chg [] w W) => hrrd.chg k (by simp))
      rw [iv_length] at *
      have HNL := Lib.hid (namesR_le ρ.paths p ρ.paths.length (Nat.le_refl _))
      clear hF HX hn hi' hK hR h1 hrrd
      have HP := Lib.hid (show ba p = ba p from rfl)
      obtain ⟨P, hP⟩ : ∃ P, P = ba p := ⟨_, rfl⟩
      rw [← hP] at HNM HF ⊢
      clear hP HP
      go_enter Tryz.func14, Tryz.ntmps14
      go_upto_region 7 with (first
        | (go_at_call 36; refine HF.out.mono ?_; rintro e w2 ⟨rfl, hw2⟩; obtain rfl := hw2.symm)
        | (go_at_call 41; refine HNM.out.mono ?_; rintro e wn ⟨na, N, nc, rfl, hn3, hn4, hn5⟩; have HN3 := Lib.hid (And.intro hn3 (And.intro hn4 hn5)); clear hn3 hn4 hn5))
      have k2 := (HCC.out wn HN3.out.2.2).1
      have k5 := (HCC.out wn HN3.out.2.2).2
      go_upto_if 36 with (fail)
      have hrotn : 0 ≤ rotR ρ := by
        unfold rotR
        rw [List.getD_eq_getElem?_getD]
        cases hg : ρ.rot[(ρ.lists % (ρ.rot.length : Int)).toNat]? with
        | none => simp
        | some x =>
          simp only [Option.getD_some]
          exact HOK.out.rot x (List.mem_of_getElem? hg)
      obtain ⟨RR, hRR⟩ : ∃ RR : Nat, rotR ρ = (RR : Int) := ⟨(rotR ρ).toNat, by omega⟩
      have HRV := Lib.hid hRR
      rw [hLI] at k5 hll
      have HLI := Lib.hid hLI
      clear hRR hrotn hLI
      go_cut [8] (fun t wx => t = .int .i64 RR ∧ ∃ x, wx = wn.drewN x)
      case first =>
        by_cases hr0 : ρ.rot.length = 0
        · have hz : RR = 0 := by
            have h1 := HRV.out
            unfold rotR at h1
            rw [List.eq_nil_of_length_eq_zero hr0] at h1
            simp at h1
            omega
          subst hz
          rw [hr0] at k2
          have hrz : ¬ 0 < ρ.rot.length := by omega
          go_wp2_with fail
          go_meet
          exact ⟨rfl, 0, rfl⟩
        · have hjlt : LI % ρ.rot.length < ρ.rot.length := Nat.mod_lt _ (by omega)
          obtain ⟨ad2, rfl, _, hrc2⟩ := HRR.out wn HN3.out.2.2 (LI % ρ.rot.length) _ (iv_get ρ.rot (LI % ρ.rot.length) hjlt)
          have hrg : ρ.rot[LI % ρ.rot.length] = (RR : Int) := by
            have h1 := HRV.out
            unfold rotR at h1
            rw [HLI.out, ← Int.natCast_emod, Int.toNat_natCast, List.getD_eq_getElem?_getD, List.getElem?_eq_getElem hjlt] at h1
            exact h1
          rw [hrg] at hrc2
          have hrp : (ρ.rot.length : Int) > 0 := by omega
          have hrn : ¬ (ρ.rot.length : Int) = 0 := by omega
          clear hrg hr0
          generalize ρ.rot.length = RL at *
          have htm : (LI : Int).tmod (RL : Int) = ((LI % RL : Nat) : Int) := rfl
          have hjz : ((LI % RL : Nat) : Int) < (RL : Int) := by omega
          generalize LI % RL = j at *
          go_upto_region 9 with (fail)
          go_quiet (fail)
          go_wp2_with fail
          go_meet
          exact ⟨rfl, _, rfl⟩
      case rest =>
        obtain ⟨rfl, x, hwx⟩ := hcut
        have hkn : Chg [] wn wc := by rw [hwx]; exact (Chg.refl _ _).drewN x
        have hkc := HN3.out.2.2.trans hkn
        have d5 := (HCC.out wc hkc).2
        rw [HLI.out] at d5
        have hbc := hkc.heap HI.out.blk (by simp)
        have f5 : wc.frozen? ⟨r, 5, none⟩ = false := frozen_of_row _ _ _ _ _ hbc
        have hNo := own_chg HN3.out.2.1 hkn (by simp)
        have hI1 := (HI.out.foreign hkc (by simp)).setL ((LI : Int) + 1)
        have hr0 : r < w.heap.size := lt_of_block HI.out.blk
        have hNo1 := own_keepS hNo hI1.2 (fun g hg hm => by have := own_block_ge hNo hg; simp at hm; omega)
        have hk1 : Chg O w (wc.setCell ⟨r, 5, none⟩ (.int .i64 ((LI : Int) + 1))) := hkc.trans' hI1.2 (by simp) (fun y hy _ => by simp at hy; subst hy; exact HI.out.own.1)
        have HI1 := Lib.hid (And.intro hI1.1 (And.intro hNo1 hk1))
        have hNle := HNL.out
        rw [List.take_length, ← HN3.out.1] at hNle
        have hNb : N ≤ 10000 := Nat.le_trans hNle HOK.out.plen
        clear k2 k5 hbc hNo hI1 hNo1 hk1 hNle hkn hkc hwx
        obtain ⟨M, hM⟩ : ∃ M, M = namesR ρ.paths p := ⟨_, rfl⟩
        have HMN := Lib.hid (show M.length = N by rw [hM]; exact HN3.out.1.symm)
        have HME := Lib.hid hM
        rw [← hM] at HI1
        clear hM
        go_upto_region 11 with (fail)
        generalize wc.setCell ⟨r, 5, none⟩ (.int .i64 ((LI : Int) + 1)) = W1 at *
        have HMR := Lib.hid (fun W (k : Chg [] W1 W) => (own_rd2 (own_chg HI1.out.2.1 k (by simp))))
        obtain ⟨V, hV⟩ : ∃ V, V = M.drop (RR % N) ++ M.take (RR % N) := ⟨_, rfl⟩
        have hVL : V.length = N := by rw [hV, rot_length]; exact HMN.out
        have HVG := Lib.hid (show ∀ k, k < N → V[k]? = M[(k + RR % N) % N]? from fun k hk => by
          rw [hV, rot_get M (RR % N) k (by rw [HMN.out]; exact Nat.mod_lt _ (by omega)) (by rw [HMN.out]; exact hk), HMN.out])
        have hLR : listedR ρ M = if (RR : Int) % 2 = 1 then V.reverse else V := by
          unfold listedR
          rw [HRV.out, HMN.out, ← Int.natCast_emod, Int.toNat_natCast, hV]
        have HVL := Lib.hid (And.intro hVL hLR)
        obtain ⟨si, hsi, hsi0, hsi1, hsi2⟩ := info_parts Tryz.vinfoS
        clear hV hVL hLR
        go_upto_region 13 with (fail)
        go_loopw [9, 10] (fun v j wr => ∃ (k c' : Nat) (a : Option Addr), j = .int .i64 k ∧ k ≤ N ∧ v = .slice a k c' ∧ wr.ownsRow W1.heap.size 9 1 (.slice a k c') k (svn (V.take k)) ∧ Chg [] W1 wr) (fun _ j _ => N - (intOf j).toNat)
        case atStart => exact ⟨0, 0, none, rfl, Nat.zero_le _, rfl, ⟨rfl, .inl ⟨rfl, rfl⟩⟩, Chg.refl _ _⟩
        case round =>
          obtain ⟨k, c', a, rfl, hkN, rfl, hown, hkw⟩ := hrel
          have HOW := Lib.hid (And.intro hown hkw)
          clear hown hkw
          by_cases hlt : k < N
          · have hvg := HVG.out k hlt
            have htm1 : (RR : Int).tmod (N : Int) = ((RR % N : Nat) : Int) := rfl
            have hKN : RR % N < N := Nat.mod_lt _ (by omega)
            generalize RR % N = K at *
            have hwk : IntKind.i64.wrap ((k : Int) + (K : Int)) = (k : Int) + (K : Int) := IntWalk.i64_in _ (by omega)
            have htm2 : ((k : Int) + (K : Int)).tmod (N : Int) = (((k + K) % N : Nat) : Int) := rfl
            have hjN : (k + K) % N < N := Nat.mod_lt _ (by omega)
            have hjN2 : (((k + K) % N : Nat) : Int) < (N : Int) := by omega
            generalize (k + K) % N = j at *
            have hjM : j < M.length := by rw [HMN.out]; exact hjN
            obtain ⟨ad3, rfl, _, d3⟩ := (HMR.out wr HOW.out.2).1 j (.string (ba M[j])) (by unfold svn; rw [sv_get _ _ (by simpa using hjM)]; simp)
            have hvs : svn (V.take (k + 1)) = svn (V.take k) ++ [.string (ba M[j])] := by
              rw [List.take_add_one, hvg, List.getElem?_eq_getElem hjM]
              simp [svn, sv]
            have HVS := Lib.hid hvs
            have hNz : ¬ (N : Int) = 0 := by omega
            clear hvg hvs
            generalize ba M[j] = X at *
            have hkb : Chg [] wr (wr.alloc (.cells #[.string X] 9)) := (Chg.refl _ _).alloc _
            have hrn : Rd (wr.alloc (.cells #[.string X] 9)) [wr.heap.size] (some ⟨wr.heap.size, 0, none⟩) [.string X] := fun j u hu => by
              have hj : j = 0 := by have := (List.getElem?_eq_some_iff.1 hu).1; simp at this; exact this
              subst hj
              simp at hu; subst hu
              exact ⟨_, rfl, by simp, cell_heap (heap_alloc_new _ _) 0 rfl⟩
            have HRN := Lib.hid hrn
            have HOB := Lib.hid (own_chg HOW.out.1 hkb (by simp))
            have hone2 : ∀ u ∈ [Value.string X], u.oneCell' = true := by intro u hu; simp at hu; subst hu; rfl
            have hsz1 : W1.heap.size ≤ (wr.alloc (.cells #[.string X] 9)).heap.size := (HOW.out.2.trans hkb).size
            clear hrn
            go_wp2_with (at_builtin; refine wpList_append_rd rfl (.tmp 66) (.tmp 79) 44 rfl W1.heap.size 9 si (.string ⟨#[]⟩) 16 Tryz.underlying44 hsi hsi0 hsi1 hsi2 rfl (.slice a k c') k (svn (V.take k)) rfl HOB.out (some ⟨wr.heap.size, 0, none⟩) 1 1 [wr.heap.size] [.string X] rfl rfl HRN.out hone2 (by omega) (by unfold maxLen; omega) hsz1 ?_; intro a2 c2 w2 hown2 hgr2 hat2; have HK2 := Lib.hid ((HOW.out.2.trans hkb).grown hgr2 (fun x hx hl => by have := own_block_ge HOW.out.1 hx; omega)); have HO2 := Lib.hid hown2; clear hown2 hgr2 hat2)
            go_roundw
            case rel => exact ⟨k + 1, c2, a2, by go_num, by omega, rfl, by rw [HVS.out]; exact HO2.out, HK2.out⟩
            case measure => simp [intOf]; omega
          · have hkk : k = N := by omega
            subst hkk
            have hown := HOW.out.1
            rw [List.take_of_length_le (by rw [HVL.out.1]; exact Nat.le_refl _)] at hown
            have HO2 := Lib.hid hown
            have htm3 : (RR : Int).tmod 2 = ((RR % 2 : Nat) : Int) := rfl
            have hfin : ∀ L W a c, W.ownsRow W1.heap.size 9 1 (.slice a k c) k (svn L) → Chg [] W1 W → L = listedR ρ M → RListAs (.returned (.tuple #[.slice a k c, .int .i64 0])) w W r O ρ p := fun L W a c ho hw hL => by
              unfold RListAs
              rw [HR.out]
              refine ⟨fun h => absurd rfl h, fun _ => ⟨a, k, c, rfl, HN3.out.1, ?_, ?_, HI1.out.2.2.trans (hw.mono (by simp))⟩⟩
              · rw [← HME.out, ← hL]
                exact own_low ho HI1.out.2.2.size
              · have := HI1.out.1.foreign hw (by simp)
                rw [← HLI.out] at this
                exact ⟨_, _, _, _, this⟩
            have HFIN := Lib.hid hfin
            clear hown hfin
            by_cases hodd : RR % 2 = 1
            · rw [hodd] at htm3
              have hL := HVL.out.2
              rw [if_pos (by omega)] at hL
              have HL := Lib.hid hL
              clear hL
              go_upto_region 18 with (fail)
              go_loopw [11] (fun v wr2 => ∃ (x : Nat) (L : List Str), v = .int .i64 x ∧ x ≤ k / 2 ∧ RevAt V L x ∧ wr2.ownsRow W1.heap.size 9 1 (.slice a k c') k (svn L) ∧ Chg [] W1 wr2) (fun v _ => k / 2 - (intOf v).toNat)
              case atStart => exact ⟨0, V, rfl, Nat.zero_le _, RevAt.zero V, HO2.out, HOW.out.2⟩
              case round =>
                obtain ⟨x, L, rfl, hx, hrev, hown, hkw⟩ := hrel
                have HV := Lib.hid (And.intro hrev (And.intro hown hkw))
                clear hrev hown hkw
                have htd : (k : Int).tdiv 2 = ((k / 2 : Nat) : Int) := rfl
                have hwh : IntKind.i64.wrap ((k / 2 : Nat) : Int) = ((k / 2 : Nat) : Int) := IntWalk.i64_in _ (by omega)
                have hLk : L.length = k := by rw [HV.out.1.1]; exact HVL.out.1
                by_cases hlt : x < k / 2
                · obtain ⟨g, rfl, hg1, hg2, hfz, hcl⟩ := own_at HV.out.2.1 (by omega)
                  obtain ⟨b, hb⟩ : ∃ b, b = k - 1 - x := ⟨_, rfl⟩
                  have hbk : b < k := by omega
                  have hxk : x < k := by omega
                  have hxl : x < L.length := by omega
                  have hbl : b < L.length := by omega
                  have hgx : (svn L)[x]? = some (.string (ba L[x])) := by unfold svn; rw [sv_get _ _ (by simp; omega)]; simp
                  have hgb : (svn L)[b]? = some (.string (ba L[b])) := by unfold svn; rw [sv_get _ _ (by simp; omega)]; simp
                  have d1 := hcl x _ hgx
                  have d2 := hcl b _ hgb
                  have f1 := hfz x
                  have f2 := hfz b
                  have hs1 := own_set HV.out.2.1 x (.string (ba L[b]))
                  have hs2 := own_set hs1 b (.string (ba L[x]))
                  obtain ⟨g', hge, _, _, hfz', hcl'⟩ := own_at hs1 (by omega)
                  cases hge
                  have f3 := hfz' b
                  obtain ⟨v3, d3⟩ : ∃ v, (wr.setCell ⟨g, x, none⟩ (.string (ba L[b]))).cell? ⟨g, b, none⟩ = some v := ⟨_, hcl' b _ (List.getElem?_eq_getElem (by rw [List.length_set, svn_length]; exact hbl))⟩
                  have hst := HV.out.1.step (by rw [HVL.out.1]; exact hlt) L[x] L[b] (List.getElem?_eq_getElem _) (by rw [HVL.out.1, ← hb]; exact List.getElem?_eq_getElem _)
                  rw [HVL.out.1, ← hb] at hst
                  have hsv : svn ((L.set x L[b]).set b L[x]) = ((svn L).set x (.string (ba L[b]))).set b (.string (ba L[x])) := by simp [svn, sv, List.map_set]
                  rw [← hsv] at hs2
                  have hk2 : Chg [] W1 ((wr.setCell ⟨g, x, none⟩ (.string (ba L[b]))).setCell ⟨g, b, none⟩ (.string (ba L[x]))) := (HV.out.2.2.setCell (fun h => by simp only at h; omega) _).setCell (fun h => by simp only at h; omega) _
                  have HS := Lib.hid (And.intro hst (And.intro hs2 hk2))
                  have hwa : IntKind.i64.wrap ((k : Int) - 1) = (k : Int) - 1 := IntWalk.i64_in _ (by omega)
                  have hwb : IntKind.i64.wrap ((k : Int) - 1 - (x : Int)) = (b : Int) := by rw [show (k : Int) - 1 - (x : Int) = b by omega]; exact IntWalk.i64_in _ (by omega)
                  have hlt2 : (x : Int) < ((k / 2 : Nat) : Int) := by omega
                  clear hcl hcl' hfz hfz' hgx hgb hst hs1 hs2 hsv hk2 hb
                  generalize (L.set x L[b]).set b L[x] = L2 at *
                  generalize ba L[x] = X at *
                  generalize ba L[b] = Y at *
                  generalize k / 2 = H at *
                  go_upto_region 23 with (fail)
                  generalize wr.setCell ⟨g, x, none⟩ (.string Y) = W5 at *
                  go_wp2_with fail
                  go_roundw
                  case rel => exact ⟨x + 1, L2, by go_num, by omega, HS.out⟩
                  case measure => simp [intOf]; omega
                · have hxx : x = k / 2 := by omega
                  subst hxx
                  have hlt2 : ¬ (((k / 2 : Nat) : Int) < ((k / 2 : Nat) : Int)) := by omega
                  generalize hH : k / 2 = H at *
                  have HH := Lib.hid hH
                  clear hH
                  go_wp2_with fail
                  go_ret2
                  refine HFIN.out L _ _ _ HV.out.2.1 HV.out.2.2 ?_
                  rw [HL.out]
                  refine RevAt.last ?_
                  rw [HVL.out.1, HH.out]
                  exact HV.out.1
            · have hz : RR % 2 = 0 := by omega
              rw [hz] at htm3
              have hL := HVL.out.2
              rw [if_neg (by omega)] at hL
              have HL := Lib.hid hL
              clear hL
              go_wp2_with fail
              go_ret2
              exact HFIN.out V _ _ _ HO2.out HOW.out.2 HL.out.symm
    · have hR : listRE ρ p = 8 := by unfold listRE; rw [h1]; simp only; rw [if_neg hK]
      have hKn : ((nodeR ρ i).kind != 0) = true := by simpa using hK
      have HR := Lib.hid hR
      clear hF HX hn hi' hK hR h1
      generalize (nodeR ρ i).kind = KK at *
      generalize ba p = P at *
      go_enter Tryz.func14, Tryz.ntmps14
      go_wp2_with (go_at_call 36; refine HF.out.mono ?_; rintro e w2 ⟨rfl, hw2⟩; obtain rfl := hw2.symm)
      go_ret2
      unfold RListAs
      rw [HR.out]
      exact ⟨fun _ => ⟨rfl, Chg.refl _ _⟩, fun h => absurd h (by decide)⟩
end Go.Proofs.YtoionaeimnmcbaaGreatDoor
