/- paxtarlaw19.VfsOptions: the reference's New, and the walk. -/
import Derived.Test.YtoionaeimnmcbaaDoorVOptN
import Derived.Test.YtoionaeimnmcbaaDoorVAlive
namespace Go.Pax
open Go.RowKit
theorem newE_cases (first step : Int) (rot : List Int) : (newE first step rot = 0 ∧ inOpt first ∧ inOpt step ∧ ∀ x ∈ rot, 0 ≤ x) ∨ (newE first step rot = 2 ∧ ¬ (inOpt first ∧ inOpt step ∧ ∀ x ∈ rot, 0 ≤ x)) := by
  by_cases h : newE first step rot = 0
  · exact .inl ⟨h, newE_zero h⟩
  · refine .inr ⟨?_, fun hh => h ?_⟩
    · unfold newE at h ⊢
      split
      · rename_i h1; rw [if_pos h1] at h; exact absurd rfl h
      · rfl
    · unfold newE
      rw [if_pos]
      refine ⟨hh.1, hh.2.1, ?_⟩
      by_cases hi : idxN rot 0 < 0
      · exact hi
      · obtain ⟨y, hy, hn⟩ := (idxN_neg rot 0).1 (by omega)
        have := hh.2.2 y hy
        omega
end Go.Pax
namespace Go.Proofs.YtoionaeimnmcbaaDoor
open Go.RowKit Go.Pax Go.Shelf
set_option maxRecDepth 100000 in
set_option maxHeartbeats 8000000 in
theorem refNewQ (w : World) (first step : Int) (rot : List Int) (ao : Option Addr) (n c : Nat) (fp : List Nat) (hn : rot.length = n) (hl : n ≤ 17592186044416) (h : Rd w fp ao (iv rot)) :
    Calls Tryd.prog 23 #[.int .i64 first, .int .i64 step, .slice ao n c] w fun e w' => Chg [] w w' ∧ ∃ v, e = .returned (.tuple #[v, .int .i64 (newE first step rot)]) := by
  obtain ⟨ii, hii, hii0, hii1, hii2⟩ := info_parts Tryd.vinfoI
  have H := Lib.hid h
  have HN := Lib.hid hn
  clear h hn
  by_cases h1 : inOpt first ∧ inOpt step
  · obtain ⟨h1, h2⟩ := h1
    unfold inOpt at h1 h2
    generalize hNE : newE first step rot = NE at *
    have HNE := Lib.hid hNE
    clear hNE
    go_enter Tryd.func23, Tryd.ntmps23
    go_upto_region 4 with (fail)
    go_loopw [8] (fun i wr => ∃ k : Nat, k ≤ n ∧ i = .int .i64 k ∧ wr = w ∧ ∀ j, j < k → ∀ x, rot[j]? = some x → 0 ≤ x) (fun i _ => n - (intOf i).toNat)
    case atStart => exact ⟨0, Nat.zero_le _, rfl, rfl, fun j hj => by omega⟩
    case round =>
      obtain ⟨k, hk, rfl, hwr, hpos⟩ := hrel
      obtain rfl := hwr.symm
      have HP := Lib.hid hpos
      clear hpos
      by_cases hlt : k < n
      · have hkL : k < rot.length := by rw [HN.out]; exact hlt
        obtain ⟨ad, rfl, _, hcell⟩ := H.out k (.int .i64 rot[k]) (by simp [iv, hkL])
        by_cases hneg : rot[k] < 0
        · have hE : newE first step rot = 2 := by
            rcases newE_cases first step rot with h | h
            · have := h.2.2.2 _ (List.getElem_mem hkL); omega
            · exact h.1
          obtain rfl := HNE.out.symm.trans hE
          clear hE
          generalize rot[k] = z at *
          go_wp2_with fail
          go_ret2
          exact ⟨Chg.refl _ _, _, rfl⟩
        · have hrk : ∀ x, rot[k]? = some x → 0 ≤ x := fun x hx => by
            rw [List.getElem?_eq_getElem hkL] at hx
            injection hx with hx
            omega
          have HRK := Lib.hid hrk
          clear hrk
          generalize rot[k] = z at *
          go_wp2_with fail
          go_roundw
          case rel => exact ⟨k + 1, by omega, by go_num, trivial, fun j hj x hx => by
            by_cases hjk : j < k
            · exact HP.out j hjk x hx
            · obtain rfl : j = k := by omega
              exact HRK.out x hx⟩
          case measure => simp [intOf]; omega
      · have hkk : k = n := by omega
        subst hkk
        have hE : newE first step rot = 0 := by
          rcases newE_cases first step rot with h | h
          · exact h.1
          · refine absurd ⟨by unfold inOpt; exact h1, by unfold inOpt; exact h2, fun x hx => ?_⟩ h.2
            obtain ⟨j, hj, rfl⟩ := List.mem_iff_getElem.1 hx
            exact HP.out j (by rw [HN.out] at hj; exact hj) _ (List.getElem?_eq_getElem hj)
        obtain rfl := HNE.out.symm.trans hE
        clear hE HP hlt
        have hone := iv_one rot
        have hkb : Chg [] w (w.alloc (.cells #[] 3)) := (Chg.refl _ _).alloc _
        have HRB := Lib.hid (H.out.chg hkb (by simp))
        have HL := Lib.hid (show (iv rot).length = k by rw [iv_length]; exact HN.out)
        go_upto_region 9 with (at_builtin; refine wpList_append_rd rfl (.tmp 37) (.tmp 38) 29 rfl w.heap.size 3 ii (.int .i64 0) 8 Tryd.underlying29 hii hii0 hii1 hii2 rfl (.slice (some ⟨w.heap.size, 0, none⟩) 0 0) 0 [] rfl (own_empty (heap_alloc_new _ _) (Nat.le_refl _)) ao k c fp (iv rot) rfl HL.out HRB.out hone (by omega) (by unfold maxLen; omega) (by simp) ?_; intro a1 c1 w1 hown1 hgr1 hat1; have HK1 := Lib.hid (hkb.grown hgr1 (fun g hg hl => by simp [Value.ownBlock] at hg; omega)))
        go_wp2_with fail
        go_ret2
        exact ⟨((HK1.out.alloc _).alloc _).alloc _, _, rfl⟩
  · have hE : newE first step rot = 2 := by
      rcases newE_cases first step rot with h | h
      · exact absurd ⟨h.2.1, h.2.2.1⟩ h1
      · exact h.1
    rw [hE]
    unfold inOpt at h1
    have hc : first < 1 ∨ 1000000 < first ∨ step < 1 ∨ 1000000 < step := by omega
    clear hE h1
    rcases hc with h | h | h | h
    all_goals
      go_enter Tryd.func23, Tryd.ntmps23
      go_wp2_with fail
      all_goals
        go_ret2
        exact ⟨Chg.refl _ _, _, rfl⟩
theorem nine {W : World} {g : Nat} {tt : TypeId} (e : W.heap[g]? = some (.cells #[.int .i64 1, .int .i64 1, .int .i64 1, .int .i64 1, .int .i64 1, .int .i64 1, .int .i64 1, .int .i64 1, .int .i64 1] tt (0, 0))) : ∀ k, k < 9 → W.cell? ⟨g, k, none⟩ = some (.int .i64 1) := fun k hk =>
  match k, hk with
  | 0, _ => cell_heap e 0 rfl | 1, _ => cell_heap e 1 rfl | 2, _ => cell_heap e 2 rfl | 3, _ => cell_heap e 3 rfl | 4, _ => cell_heap e 4 rfl | 5, _ => cell_heap e 5 rfl | 6, _ => cell_heap e 6 rfl | 7, _ => cell_heap e 7 rfl | 8, _ => cell_heap e 8 rfl
set_option maxRecDepth 100000 in
set_option maxHeartbeats 16000000 in
theorem vfsOptions (w : World) (first step : Int) (rot : List Int) (ao : Option Addr) (c : Nat) (fp : List Nat) (hkeys : KeysAt w) (hl : rot.length * 8 ≤ 140737488355328) (h : Rd w fp ao (iv rot)) :
    Calls Tryd.prog 6 #[.int .i64 first, .int .i64 step, .slice ao rot.length c] w fun e w' => e = .returned (.bool true) ∧ Chg [] w w' := by
  have HAL := Lib.hid (fun W (k : Chg [] w W) => alive W (hkeys.chg k (by simp)))
  have HRF := Lib.hid (fun W n (k : Chg [] w W) (hn : rot.length = n) (hl : n ≤ 17592186044416) => refNewQ W first step rot ao n c fp hn hl (h.chg k (by simp)))
  have hnw : ∀ W n, Chg [] w W → rot.length = n → n ≤ 1099511627776 → Calls Tryd.prog 7 #[.agg #[.int .i64 first, .int .i64 step, .slice ao n c]] W fun e w' => Chg [] w w' ∧ ∃ f, e = .returned (.tuple #[.pointer f, .int .i64 (newE first step rot)]) ∧ (newE first step rot = 0 ↔ f ≠ none) := fun W n k hn hl => by
    refine (liveNew w W first step rot ao n c fp k hn (by omega) hl (h.chg k (by simp))).mono ?_
    rintro e w' ⟨h1, h2⟩
    by_cases h0 : newE first step rot = 0
    · obtain ⟨f, O, b, he, hL, kk⟩ := h2 h0
      exact ⟨k.trans kk, some ⟨f, 0, none⟩, by rw [h0]; exact he, by simp [h0]⟩
    · obtain ⟨he, kk⟩ := h1 h0
      rcases newE_cases first step rot with h | h
      · exact absurd h.1 h0
      · rw [h.1]
        exact ⟨k.trans kk, none, he, by simp⟩
  have HNW := Lib.hid hnw
  have hcs : newE first step rot = 0 ∨ newE first step rot = 2 := by
    rcases newE_cases first step rot with h | h
    · exact .inl h.1
    · exact .inr h.1
  clear hnw h hkeys
  have HL := Lib.hid hl
  have HLN := Lib.hid (fun W s => lstat_nil W s)
  unfold noInfo at HLN
  generalize newE first step rot = NE at *
  generalize hN : rot.length = N at *
  have HN := Lib.hid hN
  clear hN
  go_enter Tryd.func6, Tryd.ntmps6
  go_upto_region 5 with (first
    | (go_at_call 12; refine (HLN.out _ _).mono ?_; rintro e w1 ⟨rfl, k⟩; have HK1 := Lib.hid (k.alloc (.cells #[.int .i64 0, .int .i64 0, .int .i64 0, .int .i64 0, .int .i64 0, .string ⟨#[]⟩, .int .i64 0, .int .i64 0] 41)); clear k)
    | (go_at_call 16; refine (readFile_nil _ _).mono ?_; rintro e w2 ⟨rfl, k⟩; have HK2 := Lib.hid (HK1.out.trans k); clear k)
    | (go_at_call 20; refine (list_nil _ _).mono ?_; rintro e w3 ⟨rfl, k⟩; have HK3 := Lib.hid (HK2.out.trans k); clear k))
  go_upto_region 6 with (first
    | (go_at_call 19; refine (mkdir_nil _ _ _).mono ?_; rintro e w4 ⟨rfl, k⟩; have HK4 := Lib.hid (HK3.out.trans k); clear k)
    | (go_at_call 13; refine (create_nil _ _ _ _ _ _).mono ?_; rintro e w5 ⟨rfl, k⟩; have HK5 := Lib.hid (HK4.out.trans k); clear k)
    | (go_at_call 21; refine (symlink_nil _ _ _).mono ?_; rintro e w6 ⟨rfl, k⟩; have HK6 := Lib.hid (HK5.out.trans k); clear k)
    | (go_at_call 22; refine (mknod_nil _ _ _).mono ?_; rintro e w7 ⟨rfl, k⟩; have HK7 := Lib.hid (HK6.out.trans k); clear k)
    | (go_at_call 14; refine (link_nil _ _ _).mono ?_; rintro e w8 ⟨rfl, k⟩; have HK8 := Lib.hid (HK7.out.trans k); clear k)
    | (go_at_call 15; refine (chown_nil _ _ _ _).mono ?_; rintro e w9 ⟨rfl, k⟩; have HK9 := Lib.hid ((HK8.out.trans k).alloc (.cells #[.int .i64 1, .int .i64 1, .int .i64 1, .int .i64 1, .int .i64 1, .int .i64 1, .int .i64 1, .int .i64 1, .int .i64 1] 26)); clear k))
  have hn9 := nine (g := w9.heap.size) (W := w9.alloc (.cells #[.int .i64 1, .int .i64 1, .int .i64 1, .int .i64 1, .int .i64 1, .int .i64 1, .int .i64 1, .int .i64 1, .int .i64 1] 26)) (heap_alloc_new _ _)
  generalize w9.alloc (.cells #[.int .i64 1, .int .i64 1, .int .i64 1, .int .i64 1, .int .i64 1, .int .i64 1, .int .i64 1, .int .i64 1, .int .i64 1] 26) = W9 at *
  generalize w9.heap.size = g9 at *
  have HN9 := Lib.hid hn9
  clear hn9
  go_loopw [52] (fun i wr => ∃ k : Nat, k ≤ 9 ∧ i = .int .i64 k ∧ wr = W9) (fun i _ => 9 - (intOf i).toNat)
  case atStart => exact ⟨0, by omega, rfl, rfl⟩
  case round =>
    obtain ⟨k, hk, rfl, hwr⟩ := hrel
    obtain rfl := hwr.symm
    by_cases hlt : k < 9
    · have hc := HN9.out k hlt
      go_wp2_with fail
      go_roundw
      case rel => exact ⟨k + 1, by omega, by go_num, trivial⟩
      case measure => simp [intOf]; omega
    · have hkk : k = 9 := by omega
      subst hkk
      by_cases h100 : 100 < N
      · go_wp2_with (go_at_call 10; refine (HAL.out _ HK9.out).mono ?_; rintro e w10 ⟨rfl, k⟩; have HK10 := Lib.hid (HK9.out.trans k); clear k)
        go_ret
        exact ⟨rfl, HK10.out⟩
      · go_upto_region 14 with (go_at_call 7; refine (HNW.out _ N HK9.out rfl (by omega)).mono ?_; rintro e w11 ⟨k, f, rfl, hf⟩; have HK11 := Lib.hid k; have HF := Lib.hid hf; clear k hf)
        rcases hcs with rfl | rfl
        · have hf := HF.out.1 rfl
          obtain ⟨ff, rfl⟩ := Option.ne_none_iff_exists'.1 hf
          go_wp2_with (first
            | (go_at_call 23; refine (HRF.out _ N HK11.out rfl (by omega)).mono ?_; rintro e w12 ⟨k, v, rfl⟩; have HK12 := Lib.hid (HK11.out.trans k); clear k)
            | (go_at_call 10; refine (HAL.out _ HK12.out).mono ?_; rintro e w13 ⟨rfl, k⟩; have HK13 := Lib.hid (HK12.out.trans k); clear k))
          go_ret
          exact ⟨rfl, HK13.out⟩
        · have hf : f = none := by
            by_cases hf : f = none
            · exact hf
            · exact absurd (HF.out.2 hf) (by omega)
          subst hf
          go_wp2_with (first
            | (go_at_call 23; refine (HRF.out _ N HK11.out rfl (by omega)).mono ?_; rintro e w12 ⟨k, v, rfl⟩; have HK12 := Lib.hid (HK11.out.trans k); clear k)
            | (go_at_call 10; refine (HAL.out _ HK12.out).mono ?_; rintro e w13 ⟨rfl, k⟩; have HK13 := Lib.hid (HK12.out.trans k); clear k))
          go_ret
          exact ⟨rfl, HK13.out⟩
end Go.Proofs.YtoionaeimnmcbaaDoor
