/- paxtarlaw20.Build: a file system and its reference by the same calls. Printed by wip/gen/genbuild.py. A heap of paths: what sifting up and down keeps. pathname.Join; cmp.isNaN at strings. The methods of pathheap's paths. pathheap's Push method. Printed by wip/gen/genhpush.py. Which function a method of *paths is. container/heap over pathheap's paths: up. -/
import Derived.Test.YtfhiioopimmahaaGreatDoorPI07
import Derived.Test.YtfhiioopimmahaaGreatDoorPI09
import Derived.Test.YtfhiioopimmahaaGreatDoorPI12
namespace Go.Proofs.YtfhiioopimmahaaGreatDoor
open Go.RowKit Go.Pax Go.Shelf
set_option maxRecDepth 100000 in
set_option maxHeartbeats 16000000 in
theorem build (w0 w : World) (first step : Int) (hi1 : inOpt first) (hi2 : inOpt step) (rb : List UInt8) (NR : Nat) (oa : Option Addr) (oc : Nat) (hNR : rb.length = NR) (hnr50 : NR ≤ 50) (hk : Chg [] w0 w) (B : Nat) (hown : w.ownsRow B 3 1 (.slice oa NR oc) NR (iv (natL rb)))
    (lo : Option Addr) (lc : Nat) (L : List AAct) (fp : List Nat) (hkeys : KeysAt w0) (h : RdAct w0 fp lo L) (hwf : ∀ y ∈ L, y.wf) (hn40 : L.length ≤ 40) :
    Calls Tryz.prog 10 #[.agg #[.int .i64 first, .int .i64 step, .slice oa NR oc], .slice lo L.length lc] w fun e w' => ∃ f r O Q σ ρ bs, e = .returned (.tuple #[.pointer (some ⟨f, 0, none⟩), .pointer (some ⟨r, 0, none⟩)]) ∧ Duo w0 w' f O σ r Q ρ (3 * L.length) bs ∧ Firm (3 * L.length) σ := by
  have H := Lib.hid h
  have HWF := Lib.hid hwf
  have HKY := Lib.hid hkeys
  have HNR := Lib.hid hNR
  obtain ⟨W3, hW3⟩ : ∃ x, x = w.alloc (.cells #[.int .i64 first, .int .i64 step, .slice oa NR oc] 33) := ⟨_, rfl⟩
  obtain ⟨g3, hg3⟩ : ∃ x, x = w.heap.size := ⟨_, rfl⟩
  have hk3 : Chg [] w W3 := by rw [hW3]; exact (Chg.refl _ _).alloc _
  have e3 : W3.heap[g3]? = some (.cells #[.int .i64 first, .int .i64 step, .slice oa NR oc] 33 (0, 0)) := by rw [hW3, hg3]; exact heap_alloc_new _ _
  have HOW3 := Lib.hid (own_chg hown hk3 (by simp))
  have HK3 := Lib.hid (hk.trans hk3)
  have HE3 := Lib.hid e3
  have HWW := Lib.hid (And.intro hW3 hg3)
  clear hk3 e3 hW3 hg3 h hwf hkeys hNR hk hown
  generalize hN : L.length = N at *
  have HN := Lib.hid hN
  clear hN
  go_enter Tryz.func10, Tryz.ntmps10
  go_upto_region 1 with (fail)
  rw [← HWW.out.2, ← HWW.out.1]
  have p0 : W3.cell? ⟨g3, 0, none⟩ = some (.int .i64 first) := cell_heap HE3.out 0 rfl
  have p1 : W3.cell? ⟨g3, 1, none⟩ = some (.int .i64 step) := cell_heap HE3.out 1 rfl
  have p2 : W3.cell? ⟨g3, 2, none⟩ = some (.slice oa NR oc) := cell_heap HE3.out 2 rfl
  go_upto_region 2 with (go_at_call 20; refine (newRotN w0 _ first step rb NR oa oc hi1 hi2 HNR.out hnr50 HK3.out _ HOW3.out).mono ?_; rintro e w4 ⟨f, O, rf, rfl, hL, k⟩; have HL4 := Lib.hid hL; have HOW4 := Lib.hid (own_chg HOW3.out k (by simp)); have HE4 := Lib.hid (k.heap HE3.out (by simp)); clear hL k)
  have r0 : w4.cell? ⟨g3, 0, none⟩ = some (.int .i64 first) := cell_heap HE4.out 0 rfl
  have r1 : w4.cell? ⟨g3, 1, none⟩ = some (.int .i64 step) := cell_heap HE4.out 1 rfl
  have r2 : w4.cell? ⟨g3, 2, none⟩ = some (.slice oa NR oc) := cell_heap HE4.out 2 rfl
  have HRN := Lib.hid (own_rd2 HOW4.out).1
  have HNL := Lib.hid (show (natL rb).length = NR by simp [natL, HNR.out])
  go_upto_region 3 with (go_at_call 29; refine (rnew _ first step (natL rb) oa NR oc _ HNL.out (by omega) HRN.out hi1 hi2 (natL_pos rb)).mono ?_; rintro e w5 ⟨r, Q, rfl, hra, hQ, k⟩; have HD5 := Lib.hid (duo_new w0 _ _ f O _ _ _ rf r Q hi1 hi2 (natL_pos rb) (by rw [HNL.out]; omega) HL4.out hra hQ k); clear hra hQ k)
  clear p0 p1 p2 r0 r1 r2 HE3 HE4 HOW3 HOW4 HRN HL4 HK3
  have HDO := Lib.hid (fun W f O σ r Q ρ n a ao dc fq (hh : Half w0 W f O σ r Q ρ n) hn ht hd hdl hff => halfDo w0 W a ao dc fq hh hn HKY.out ht hd hdl hff)
  go_wp2_with fail
  go_loopw [36] (fun i wr => ∃ k : Nat, k ≤ N ∧ i = .int .i64 k ∧ ∃ O σ Q ρ bs, Duo w0 wr f O σ r Q ρ (3 * k) bs ∧ Firm (3 * k) σ) (fun i _ => N - (intOf i).toNat)
  case atStart => exact ⟨0, Nat.zero_le _, rfl, O, _, Q, _, _, HD5.out, firm_new _ _ hi1 hi2⟩
  case round =>
    obtain ⟨k, hk, rfl, O1, σ, Q1, ρ, bs, hd, hrt⟩ := hrel
    have HD := Lib.hid hd
    have HRR := Lib.hid hrt
    clear hd HD5 hrt
    by_cases hlt : k < N
    · have hkL : k < L.length := by rw [HN.out]; exact hlt
      obtain ⟨ad, a5, c5, rfl, c0, c1, c2, c3, c4, hr5, _⟩ := H.out.at HD.out.half.live.chg k _ (List.getElem?_eq_getElem hkL)
      obtain ⟨fq, hr6, hb6⟩ := hr5.tight
      have hwf := HWF.out _ (List.getElem_mem hkL)
      have heq : refDoE ρ L[k] = doE σ L[k] := (do_rel HD.out.rel _).symm
      have hdf : ∀ W, Chg [] wr W → Calls Tryz.prog 30 #[.pointer (some ⟨f, 0, none⟩), actV L[k] a5 c5] W fun e w' => e = .returned (.int .i64 (doE σ L[k])) ∧ ∃ O2 σ2, ((doE σ L[k] ≠ 0 ∧ σ2 = σ) ∨ (doE σ L[k] = 0 ∧ Next σ (Fresh σ) L[k] σ2)) ∧ Half w0 w' f O2 σ2 r Q1 ρ (3 * k + 2) ∧ Kept W w' O1 Q1 O2 Q1 := fun W kk =>
        HDO.out W f O1 σ r Q1 ρ (3 * k) L[k] a5 c5 fq (HD.out.half.quiet kk) (by omega) hwf.2.2.2.2 hr6 hwf.2.2.2.1 (fun x hx => (hb6 x hx).2)
      have hdg : ∀ W O2 σ2, Half w0 W f O2 σ2 r Q1 ρ (3 * k + 2) → Calls Tryz.prog 31 #[.pointer (some ⟨r, 0, none⟩), actV L[k] a5 c5] W fun e w' => e = .returned (.int .i64 (doE σ L[k])) ∧ ∃ Q2 ρ2, ((refDoE ρ L[k] ≠ 0 ∧ ρ2 = ρ) ∨ (refDoE ρ L[k] = 0 ∧ RefNext ρ L[k] ρ2)) ∧ Half w0 w' f O2 σ2 r Q2 ρ2 (3 * k + 2) ∧ Kept W w' O2 Q1 O2 Q2 := fun W O2 σ2 hH => by
        rw [← heq]
        exact halfRef w0 W L[k] a5 c5 fq hH HD.out.num (by omega) hwf.2.2.1 hwf.2.2.2.2 hr6 hwf.2.2.2.1
      have hdn := fun w' O2 Q2 σ2 ρ2 h1 h2 hh => HD.out.done (w' := w') (O' := O2) (Q' := Q2) (σ' := σ2) (ρ' := ρ2) (a := L[k]'hkL) hwf.2.2.2.1 h1 h2 hh
      have HRT := Lib.hid (fun σ2 (h1 : (doE σ L[k] ≠ 0 ∧ σ2 = σ) ∨ (doE σ L[k] = 0 ∧ Next σ (Fresh σ) L[k] σ2)) => (show Firm (3 * k + 3) σ2 from by
        rcases h1 with ⟨_, rfl⟩ | ⟨h1, h2⟩
        · exact HRR.out.mono (by omega)
        · exact (next_firm HRR.out h1 h2).mono (by omega)))
      unfold actV at hdf hdg
      have HDFW := Lib.hid hdf
      have HDG := Lib.hid hdg
      have HDN := Lib.hid hdn
      clear hdf hdg hr5 hr6 hb6 hwf hdn heq
      generalize doE σ L[k] = E at *
      obtain ⟨P5, hP5⟩ : ∃ P5, P5 = ba L[k].path := ⟨_, rfl⟩
      obtain ⟨T5, hT5⟩ : ∃ T5, T5 = ba L[k].target := ⟨_, rfl⟩
      rw [← hP5] at c1 HDFW HDG
      rw [← hT5] at c4 HDFW HDG
      clear hP5 hT5
      generalize L[k].data.length = dl at *
      generalize L[k].kind = kd at *
      generalize L[k].mode = md at *
      go_upto_region 8 with (fail)
      have hk9 : Chg [] wr (wr.alloc (.cells #[.int .i64 kd, .string P5, .int .i64 md, .slice a5 dl c5, .string T5] 53)) := (Chg.refl _ _).alloc _
      have e9 : (wr.alloc (.cells #[.int .i64 kd, .string P5, .int .i64 md, .slice a5 dl c5, .string T5] 53)).heap[wr.heap.size]? = some (.cells #[.int .i64 kd, .string P5, .int .i64 md, .slice a5 dl c5, .string T5] 53 (0, 0)) := heap_alloc_new _ _
      have h9l := lt_of_block e9
      have h9O : wr.heap.size ∉ O1 := fun hm => by have := HD.out.half.live.lt _ hm; omega
      have h9Q : wr.heap.size ∉ Q1 := fun hm => by have := HD.out.half.ref.lt _ hm; omega
      generalize wr.alloc (.cells #[.int .i64 kd, .string P5, .int .i64 md, .slice a5 dl c5, .string T5] 53) = W9 at *
      generalize wr.heap.size = g9 at *
      have HDF := Lib.hid (HDFW.out _ hk9.drew)
      have HE9 := Lib.hid (show W9.drew.heap[g9]? = some (.cells #[.int .i64 kd, .string P5, .int .i64 md, .slice a5 dl c5, .string T5] 53 (0, 0)) from e9)
      have HG9 := Lib.hid (And.intro (show g9 < W9.drew.heap.size from h9l) (And.intro h9O (And.intro h9Q trivial)))
      clear hk9 h9l h9O h9Q e9 c0 c1 c2 c3 c4 HDFW
      refine wp_region_held_drew (S := fun q => q.cell? ⟨g9, 0, none⟩ = some (.int .i64 kd) ∧ q.cell? ⟨g9, 1, none⟩ = some (.string P5) ∧ q.cell? ⟨g9, 2, none⟩ = some (.int .i64 md) ∧ q.cell? ⟨g9, 3, none⟩ = some (.slice a5 dl c5) ∧ q.cell? ⟨g9, 4, none⟩ = some (.string T5)) (by kernel_rfl) ?_ (fun hHeld => ?_)
      · exact ⟨cell_heap HE9.out 0 rfl, cell_heap HE9.out 1 rfl, cell_heap HE9.out 2 rfl, cell_heap HE9.out 3 rfl, cell_heap HE9.out 4 rfl⟩
      refine wpAnyH_take (i := 0) (oi := ?oi1) (v := ?v1) ?hi1 (by kernel_rfl) (by kernel_rfl) (by kernel_rfl) ?hQ1 (Or.inl ⟨?hw1, ?hy1⟩) (by assumption) ?hr1
      case hi1 => simp only [List.getElem?_toArray, List.getElem?_cons_zero]; rfl
      case hQ1 => exact fun _ _ _ h => h
      case hw1 => rfl
      case hy1 => intro w hSw; (try dsimp only at hSw); go_simp; (try with_reducible rfl)
      case hr1 =>
      simp only [Act.put, List.setIfInBounds_toArray, List.set_cons_zero, List.set_cons_succ]
      refine wpAnyH_take (i := 1) (oi := ?oi2) (v := ?v2) ?hi2 (by kernel_rfl) (by kernel_rfl) (by kernel_rfl) ?hQ2 (Or.inl ⟨?hw2, ?hy2⟩) (by assumption) ?hr2
      case hi2 => simp only [List.getElem?_toArray, List.getElem?_cons_succ, List.getElem?_cons_zero]; rfl
      case hQ2 => exact fun _ _ _ h => h
      case hw2 => rfl
      case hy2 => intro w hSw; (try dsimp only at hSw); go_simp; (try with_reducible rfl)
      case hr2 =>
      simp only [Act.put, List.setIfInBounds_toArray, List.set_cons_zero, List.set_cons_succ]
      refine wpAnyH_take (i := 3) (oi := ?oi3) (v := ?v3) ?hi3 (by kernel_rfl) (by kernel_rfl) (by kernel_rfl) ?hQ3 (Or.inl ⟨?hw3, ?hy3⟩) (by assumption) ?hr3
      case hi3 => simp only [List.getElem?_toArray, List.getElem?_cons_succ, List.getElem?_cons_zero]; rfl
      case hQ3 => exact fun _ _ _ h => h
      case hw3 => rfl
      case hy3 => intro w hSw; (try dsimp only at hSw); go_simp; (try with_reducible rfl)
      case hr3 =>
      simp only [Act.put, List.setIfInBounds_toArray, List.set_cons_zero, List.set_cons_succ]
      refine wpAnyH_take (i := 4) (oi := ?oi4) (v := ?v4) ?hi4 (by kernel_rfl) (by kernel_rfl) (by kernel_rfl) ?hQ4 (Or.inl ⟨?hw4, ?hy4⟩) (by assumption) ?hr4
      case hi4 => simp only [List.getElem?_toArray, List.getElem?_cons_succ, List.getElem?_cons_zero]; rfl
      case hQ4 => exact fun _ _ _ h => h
      case hw4 => rfl
      case hy4 => intro w hSw; (try dsimp only at hSw); go_simp; (try with_reducible rfl)
      case hr4 =>
      simp only [Act.put, List.setIfInBounds_toArray, List.set_cons_zero, List.set_cons_succ]
      refine wpAnyH_ready (rs := [2]) (by kernel_rfl) (by simp) (AllReadyH.cons (o := ?oc5) ?hc5 (fun K hK => ?hs5) AllReadyH.nil)
      case hc5 => simp only [List.getElem?_toArray, List.getElem?_cons_succ, List.getElem?_cons_zero]; rfl
      case hs5 =>
      rw [if_pos (by rfl)]
      go_simp
      go_at_call 30; refine HDF.out.mono ?_; rintro e w3 ⟨rfl, O2, σ2, hc, ht, hk⟩; have HT3 := Lib.hid (And.intro hc (And.intro ht hk)); have HE3 := Lib.hid ((hk.2 g9 HG9.out.1 HG9.out.2.1 HG9.out.2.2.1).1.trans HE9.out); clear hc ht hk
      go_wp2_with fail
      refine hK.out _ _ ?_ (fun hHeld => ?_)
      · exact ⟨cell_heap HE3.out 0 rfl, cell_heap HE3.out 1 rfl, cell_heap HE3.out 2 rfl, cell_heap HE3.out 3 rfl, cell_heap HE3.out 4 rfl⟩
      clear hK K
      try simp only [Act.put, List.setIfInBounds_toArray, List.set_cons_zero, List.set_cons_succ]
      refine wpAnyH_ready (rs := [5]) (by kernel_rfl) (by simp) (AllReadyH.cons (o := ?oc6) ?hc6 (fun K hK => ?hs6) AllReadyH.nil)
      case hc6 => simp only [List.getElem?_toArray, List.getElem?_cons_succ, List.getElem?_cons_zero]; rfl
      case hs6 =>
      rw [if_pos (by rfl)]
      go_simp
      go_at_call 31; refine (HDG.out _ _ _ HT3.out.2.1).mono ?_; rintro e w4 ⟨rfl, Q2, ρ2, hc, ht, hk⟩; obtain ⟨bs2, hd4⟩ := HDN.out _ _ _ _ _ HT3.out.1 hc ht; have HD4 := Lib.hid (And.intro hd4 (HRT.out _ HT3.out.1)); have HT4 := Lib.hid (And.intro hc (And.intro ht hk)); have HE4 := Lib.hid ((hk.2 g9 (Nat.lt_of_lt_of_le HG9.out.1 HT3.out.2.2.1) (HT3.out.2.2.2 g9 HG9.out.1 HG9.out.2.1 HG9.out.2.2.1).2.1 HG9.out.2.2.1).1.trans HE3.out); clear hc ht hk hd4
      go_wp2_with fail
      refine hK.out _ _ ?_ (fun hHeld => ?_)
      · exact ⟨cell_heap HE4.out 0 rfl, cell_heap HE4.out 1 rfl, cell_heap HE4.out 2 rfl, cell_heap HE4.out 3 rfl, cell_heap HE4.out 4 rfl⟩
      clear hK K
      try simp only [Act.put, List.setIfInBounds_toArray, List.set_cons_zero, List.set_cons_succ]
      refine wpAnyH_take (i := 6) (oi := ?oi7) (v := ?v7) ?hi7 (by kernel_rfl) (by kernel_rfl) (by kernel_rfl) ?hQ7 (Or.inl ⟨?hw7, ?hy7⟩) (by assumption) ?hr7
      case hi7 => simp only [List.getElem?_toArray, List.getElem?_cons_succ, List.getElem?_cons_zero]; rfl
      case hQ7 => exact fun _ _ _ h => h
      case hw7 => rfl
      case hy7 => intro w hSw; (try dsimp only at hSw); go_simp; (try with_reducible rfl)
      case hr7 =>
      simp only [Act.put, List.setIfInBounds_toArray, List.set_cons_zero, List.set_cons_succ]
      refine wpAnyH_done (by kernel_rfl) ?_ _
      clear HT3 HT4 HDF HDG HDN hHeld HE9 HE3 HE4 HD HG9 HRT HRR
      go_wp2_with fail
      go_roundw
      case rel => exact ⟨k + 1, by omega, by go_num, _, _, _, _, _, Duo.upto HD4.out.1 (by omega), HD4.out.2.mono (by omega)⟩
      case measure => simp [intOf]; omega
    · have hkk : k = N := by omega
      subst hkk
      go_wp2_with fail
      go_ret2
      exact ⟨f, r, O1, Q1, σ, ρ, bs, rfl, HD.out, HRR.out⟩
end Go.Proofs.YtfhiioopimmahaaGreatDoor
namespace Go.Pax
open Go.RowKit
def gx (L : List Str) (k : Nat) : Str := L.getD k []
theorem gx_eq {L : List Str} {k : Nat} (h : k < L.length) : gx L k = L[k] := by simp [gx, List.getElem?_eq_getElem h]
def sw (L : List Str) (i j : Nat) : List Str := (L.set i (gx L j)).set j (gx L i)
theorem sw_length (L : List Str) (i j : Nat) : (sw L i j).length = L.length := by simp [sw]
theorem sw_get {L : List Str} {i j : Nat} (hi : i < L.length) (hj : j < L.length) (k : Nat) : gx (sw L i j) k = if k = j then gx L i else if k = i then gx L j else gx L k := by
  unfold gx sw
  rw [List.getD_eq_getElem?_getD, List.getElem?_set]
  by_cases h1 : k = j
  · subst h1
    rw [if_pos rfl, if_pos (by simpa using hj), if_pos rfl]
    rfl
  · rw [if_neg (Ne.symm h1), if_neg h1, List.getElem?_set]
    by_cases h2 : k = i
    · subst h2
      rw [if_pos rfl, if_pos hi, if_pos rfl]
      rfl
    · rw [if_neg (Ne.symm h2), if_neg h2, ← List.getD_eq_getElem?_getD]
theorem sw_perm {L : List Str} {i j : Nat} (hi : i < L.length) (hj : j < L.length) : (sw L i j).Perm L := by
  unfold sw
  rw [gx_eq hi, gx_eq hj]
  exact List.set_set_perm hi hj
theorem sw_gx {L : List Str} {i j : Nat} (hi : i < L.length) (hj : j < L.length) {k : Nat} (h1 : k ≠ j) (h2 : k ≠ i) : gx (sw L i j) k = gx L k := by rw [sw_get hi hj, if_neg h1, if_neg h2]
theorem sw_i {L : List Str} {i j : Nat} (hi : i < L.length) (hj : j < L.length) : gx (sw L i j) i = gx L j := by
  rw [sw_get hi hj]
  by_cases h : i = j
  · rw [if_pos h, h]
  · rw [if_neg h, if_pos rfl]
theorem sw_j {L : List Str} {i j : Nat} (hi : i < L.length) (hj : j < L.length) : gx (sw L i j) j = gx L i := by rw [sw_get hi hj, if_pos rfl]
theorem nlt_trans {a b c : Str} (h : ¬ a < b) (k : ¬ b < c) : ¬ a < c := fun g => by
  rcases Classical.em (b = c) with e | e
  · subst e; exact h g
  · exact h (slt_trans g (slt_total k e))
theorem nlt_of {a b : Str} (h : a < b) : ¬ b < a := fun g => slt_irrefl a (slt_trans h g)
def HeapN (L : List Str) (n : Nat) : Prop := ∀ k, 0 < k → k < n → ¬ gx L k < gx L ((k - 1) / 2)
def UpAt (L : List Str) (j : Nat) : Prop :=
  (∀ k, 0 < k → k < L.length → k ≠ j → ¬ gx L k < gx L ((k - 1) / 2)) ∧ (0 < j → ∀ k, 0 < k → k < L.length → (k - 1) / 2 = j → ¬ gx L k < gx L ((j - 1) / 2))
theorem UpAt.stop {L : List Str} {j : Nat} (h : UpAt L j) (hj : j = 0 ∨ ¬ gx L j < gx L ((j - 1) / 2)) : HeapN L L.length := fun k h0 hk => by
  by_cases e : k = j
  · rcases hj with e2 | e2
    · omega
    · rw [e]; exact e2
  · exact h.1 k h0 hk e
theorem UpAt.step {L : List Str} {i j : Nat} (h : UpAt L j) (h0 : 0 < j) (hj : j < L.length) (hi : (j - 1) / 2 = i) (hlt : gx L j < gx L i) : UpAt (sw L i j) i := by
  have hil : i < L.length := by omega
  have hij : i < j := by omega
  refine ⟨fun k hk0 hk hki => ?_, fun hi0 k hk0 hk hp => ?_⟩
  · rw [sw_length] at hk
    by_cases e : k = j
    · subst e
      rw [hi, sw_j hil hj, sw_i hil hj]
      exact nlt_of hlt
    · rw [sw_gx hil hj e hki]
      by_cases e1 : (k - 1) / 2 = j
      · rw [e1, sw_j hil hj, ← hi]
        exact h.2 h0 k hk0 hk e1
      · by_cases e2 : (k - 1) / 2 = i
        · rw [e2, sw_i hil hj]
          have := h.1 k hk0 hk e
          rw [e2] at this
          exact fun g => this (slt_trans g hlt)
        · rw [sw_gx hil hj e1 e2]
          exact h.1 k hk0 hk e
  · rw [sw_length] at hk
    rw [sw_gx hil hj (k := (i - 1) / 2) (by omega) (by omega)]
    have hii := h.1 i hi0 hil (by omega)
    by_cases e : k = j
    · subst e
      rw [sw_j hil hj]
      exact hii
    · rw [sw_gx hil hj e (by omega)]
      have := h.1 k hk0 hk e
      rw [hp] at this
      exact nlt_trans this hii
def DownAt (L : List Str) (i n : Nat) : Prop :=
  (∀ k, 0 < k → k < n → (k - 1) / 2 ≠ i → ¬ gx L k < gx L ((k - 1) / 2)) ∧ (0 < i → ∀ k, 0 < k → k < n → (k - 1) / 2 = i → ¬ gx L k < gx L ((i - 1) / 2))
theorem DownAt.leaf {L : List Str} {i n : Nat} (h : DownAt L i n) (hn : n ≤ 2 * i + 1) : HeapN L n := fun k h0 hk => h.1 k h0 hk (by omega)
theorem DownAt.stop {L : List Str} {i j n : Nat} (h : DownAt L i n) (hm : ∀ k, 0 < k → k < n → (k - 1) / 2 = i → ¬ gx L k < gx L j) (hji : ¬ gx L j < gx L i) : HeapN L n := fun k h0 hk => by
  by_cases e : (k - 1) / 2 = i
  · rw [e]; exact nlt_trans (hm k h0 hk e) hji
  · exact h.1 k h0 hk e
theorem DownAt.step {L : List Str} {i j n : Nat} (h : DownAt L i n) (h0 : 0 < j) (hj : j < n) (hn : n ≤ L.length) (hp : (j - 1) / 2 = i) (hm : ∀ k, 0 < k → k < n → (k - 1) / 2 = i → ¬ gx L k < gx L j) (hlt : gx L j < gx L i) : DownAt (sw L i j) j n := by
  have hjl : j < L.length := by omega
  have hil : i < L.length := by omega
  have hij : i < j := by omega
  refine ⟨fun k hk0 hk hne => ?_, fun _ k hk0 hk hpk => ?_⟩
  · by_cases e : k = j
    · subst e
      rw [hp, sw_j hil hjl, sw_i hil hjl]
      exact nlt_of hlt
    · by_cases e1 : k = i
      · subst e1
        rw [sw_i hil hjl, sw_gx hil hjl (k := (k - 1) / 2) (by omega) (by omega)]
        exact h.2 hk0 j h0 hj hp
      · rw [sw_gx hil hjl e e1]
        by_cases e2 : (k - 1) / 2 = i
        · rw [e2, sw_i hil hjl]
          exact hm k hk0 hk e2
        · rw [sw_gx hil hjl hne e2]
          exact h.1 k hk0 hk e2
  · rw [hp, sw_i hil hjl, sw_gx hil hjl (by omega) (by omega)]
    have := h.1 k hk0 hk (by omega)
    rw [hpk] at this
    exact this
theorem HeapN.least {L : List Str} {n : Nat} (h : HeapN L n) : ∀ k, k < n → ¬ gx L k < gx L 0 := by
  intro k
  induction k using Nat.strongRecOn with
  | ind k ih =>
    intro hk
    by_cases e : k = 0
    · subst e; exact slt_irrefl _
    · exact nlt_trans (h k (by omega) hk) (ih ((k - 1) / 2) (by omega) (by omega))
theorem HeapN.popped {L : List Str} {n : Nat} (h : HeapN L (n + 1)) (hn : L.length = n + 1) : DownAt (sw L 0 n) 0 n := by
  refine ⟨fun k h0 hk hp => ?_, fun h0 => by omega⟩
  rw [sw_gx (by omega) (by omega) (by omega) (by omega), sw_gx (by omega) (by omega) (by omega) (by omega)]
  exact h k h0 (by omega)
theorem HeapN.nil : HeapN [] 0 := fun k _ h => by omega
theorem HeapN.pushed {L : List Str} (h : HeapN L L.length) (x : Str) : UpAt (L ++ [x]) L.length := by
  have hg : ∀ k, k < L.length → gx (L ++ [x]) k = gx L k := fun k hk => by simp [gx, List.getElem?_append_left hk]
  refine ⟨fun k h0 hk hne => ?_, fun _ k h0 hk hp => ?_⟩
  · simp at hk
    rw [hg k (by omega), hg _ (by omega)]
    exact h k h0 (by omega)
  · simp at hk
    omega
theorem HeapN.take {L : List Str} {n : Nat} (h : HeapN L n) (hn : n ≤ L.length) : HeapN (L.take n) (L.take n).length := fun k h0 hk => by
  rw [List.length_take, Nat.min_eq_left hn] at hk
  have hg : ∀ k, k < n → gx (L.take n) k = gx L k := fun k hk => by simp [gx, hk]
  rw [hg k hk, hg _ (by omega)]
  exact h k h0 hk
end Go.Pax
namespace Go.Proofs.YtfhiioopimmahaaGreatDoor
open Go.RowKit Go.Pax Go.Shelf
set_option maxHeartbeats 1000000 in
theorem joinS (w : World) (d s : Str) (hd : d.length ≤ 1000000) (hs : s.length ≤ 1000000) : Calls Tryz.prog 71 #[.string (ba d), .string (ba s)] w fun e w' => e = .returned (.string (ba (joinP d s))) ∧ w' = w := by
  have hz1 : (ba d).size ≤ 1000000 := by rw [ba_size]; exact hd
  have hz2 : (ba s).size ≤ 1000000 := by rw [ba_size]; exact hs
  have hj : ba (joinP d s) = if d = [] then ba s else ba d ++ ⟨#[47]⟩ ++ ba s := by
    unfold joinP
    split
    · rfl
    · apply ByteArray.ext; simp [ba]
  by_cases h0 : d = []
  · rw [if_pos h0] at hj
    have hb : ba d = ⟨#[]⟩ := by rw [h0]; rfl
    rw [hj, hb]
    clear hj hb hz1
    generalize ba s = S at *
    go_enter Tryz.func71, Tryz.ntmps71
    go_wp2_with fail
    go_ret
    exact ⟨rfl, rfl⟩
  · rw [if_neg h0] at hj
    have hb : (ba d).toList.isEmpty = false := by rw [ba_tl]; simpa using h0
    rw [hj]
    clear hj
    generalize ba s = S at *
    generalize ba d = D at *
    go_enter Tryz.func71, Tryz.ntmps71
    go_wp2_with fail
    go_ret
    exact ⟨rfl, rfl⟩
set_option maxHeartbeats 1000000 in
theorem isNaNS (x : ByteArray) (w : World) : Calls Tryz.prog 79 #[.string x] w fun e w' => e = .returned (.bool false) ∧ w' = w := by
  go_enter Tryz.func79, Tryz.ntmps79
  go_wp2
  go_ret
  exact ⟨by simp, rfl⟩
end Go.Proofs.YtfhiioopimmahaaGreatDoor
namespace Go.Proofs.YtfhiioopimmahaaGreatDoor
open Go.RowKit Go.Pax Go.Shelf
theorem svn_get {L : List Str} {k : Nat} (h : k < L.length) : (svn L)[k]? = some (.string (ba (gx L k))) := by
  rw [gx_eq h]; unfold svn; rw [sv_get _ _ (by simpa using h)]; simp
theorem ba_less (a b : Str) : Op.bytesLess (ba a).toList (ba b).toList = decide (a < b) := by rw [Go.Proofs.bytesLess_eq, ba_tl, ba_tl]
set_option maxHeartbeats 1000000 in
theorem hlen (w : World) (ao : Option Addr) (n c : Nat) : Calls Tryz.prog 119 #[.slice ao n c] w fun e w' => e = .returned (.int .i64 n) ∧ w' = w := by
  go_enter Tryz.func119, Tryz.ntmps119
  go_wp2_with fail
  go_ret
  exact ⟨rfl, rfl⟩
set_option maxHeartbeats 2000000 in
theorem hless (w : World) (ao : Option Addr) (n c : Nat) (fp : List Nat) (L : List Str) (hL : L.length = n) (h : Rd w fp ao (svn L)) (i j : Nat) (hi : i < n) (hj : j < n) :
    Calls Tryz.prog 182 #[.slice ao n c, .int .i64 i, .int .i64 j] w fun e w' => e = .returned (.bool (decide (gx L i < gx L j))) ∧ ∃ q, w' = w.drewN q := by
  obtain ⟨ad, rfl, _, d1⟩ := h i _ (svn_get (by omega))
  obtain ⟨ad2, he, _, d2⟩ := h j _ (svn_get (by omega))
  cases he
  rw [← ba_less]
  clear h
  generalize ba (gx L i) = X at *
  generalize ba (gx L j) = Y at *
  go_enter Tryz.func182, Tryz.ntmps182
  go_upto_region 1 with (fail)
  go_quiet (fail)
  go_wp2_with fail
  go_ret
  exact ⟨rfl, _, rfl⟩
theorem own_sw {w : World} {base : Nat} {g n c : Nat} {L : List Str} (h : w.ownsRow base 9 1 (.slice (some ⟨g, 0, none⟩) n c) n (svn L))  (i j : Nat) :
    ((w.setCell ⟨g, i, none⟩ (.string (ba (gx L j)))).setCell ⟨g, j, none⟩ (.string (ba (gx L i)))).ownsRow base 9 1 (.slice (some ⟨g, 0, none⟩) n c) n (svn (sw L i j)) := by
  have h2 := own_set (own_set h i (.string (ba (gx L j)))) j (.string (ba (gx L i)))
  have e : svn (sw L i j) = ((svn L).set i (.string (ba (gx L j)))).set j (.string (ba (gx L i))) := by simp [svn, sv, sw, List.map_set]
  rw [e]
  exact h2
set_option maxRecDepth 100000 in
set_option maxHeartbeats 4000000 in
theorem hswap (w : World) (base : Nat) (v : Value) (n : Nat) (L : List Str) (hL : L.length = n) (h : w.ownsRow base 9 1 v n (svn L)) (i j : Nat) (hi : i < n) (hj : j < n) (hn : n ≤ 140737488355328) :
    Calls Tryz.prog 183 #[v, .int .i64 i, .int .i64 j] w fun e w' => e = .returned (.tuple #[]) ∧ w'.ownsRow base 9 1 v n (svn (sw L i j)) ∧ Chg v.ownBlock.toList w w' := by
  obtain ⟨ao, c, rfl⟩ := own_shape h
  obtain ⟨g, rfl, hg1, hg2, hfz, hcl⟩ := own_at h (by omega)
  have d1 := hcl i _ (svn_get (by omega))
  have d2 := hcl j _ (svn_get (by omega))
  have f1 := hfz i
  have f2 := hfz j
  have hs1 := own_set h i (.string (ba (gx L j)))
  obtain ⟨g', hge, _, _, hfz', hcl'⟩ := own_at hs1 (by omega)
  cases hge
  have f3 := hfz' j
  obtain ⟨v3, d3⟩ : ∃ v, (w.setCell ⟨g, i, none⟩ (.string (ba (gx L j)))).cell? ⟨g, j, none⟩ = some v := ⟨_, hcl' j _ (List.getElem?_eq_getElem (by rw [List.length_set, svn_length]; omega))⟩
  have HS := Lib.hid (And.intro (own_sw h i j) (((Chg.refl [g] w).setCell (p := ⟨g, i, none⟩) (fun _ => by simp) (.string (ba (gx L j)))).setCell (p := ⟨g, j, none⟩) (fun _ => by simp) (.string (ba (gx L i)))))
  clear hcl hcl' hfz hfz' hs1 h hL
  generalize sw L i j = L2 at *
  generalize ba (gx L i) = X at *
  generalize ba (gx L j) = Y at *
  go_enter Tryz.func183, Tryz.ntmps183
  go_region_with fail
  all_goals (go_end0; exact ⟨rfl, HS.out.1, HS.out.2.drew⟩)
end Go.Proofs.YtfhiioopimmahaaGreatDoor
namespace Go.Proofs.YtfhiioopimmahaaGreatDoor
open Go.RowKit Go.Pax Go.Shelf
/-- A heap of paths in memory. -/
structure HpIn (w : World) (h : Nat) (Q : List Nat) (v : Value) (L : List Str) : Prop where
  blk : w.heap[h]? = some (.cells #[v] 161 (0, 0))
  row : w.ownsRow 0 9 1 v L.length (svn L)
  own : h ∈ Q ∧ ∀ g, v.ownBlock = some g → g ∈ Q
  lt : ∀ g ∈ Q, g < w.heap.size
def HpAt (w : World) (h : Nat) (Q : List Nat) (L : List Str) : Prop := ∃ v, HpIn w h Q v L
def HpTo (w w' : World) (h : Nat) (Q : List Nat) (L : List Str) : Prop := ∃ Q', (HpAt w' h Q' L ∧ ∀ g ∈ Q', g ∈ Q ∨ w.heap.size ≤ g) ∧ Chg Q w w'
theorem HpIn.far {w : World} {h : Nat} {Q : List Nat} {v : Value} {L : List Str} (H : HpIn w h Q v L) {g : Nat} (hg : v.ownBlock = some g) : g ≠ h := by
  obtain ⟨c, hc⟩ := own_blockS H.row hg
  exact ne_of_types hc H.blk (by decide)
theorem HpIn.foreign {w w' : World} {h : Nat} {Q S : List Nat} {v : Value} {L : List Str} (H : HpIn w h Q v L) (k : Chg S w w') (hS : ∀ g ∈ Q, g ∉ S) : HpIn w' h Q v L :=
  ⟨k.heap H.blk (hS _ H.own.1), own_keepS H.row k (fun g hg => hS g (H.own.2 g hg)), H.own, fun g hg => Nat.lt_of_lt_of_le (H.lt g hg) k.size⟩
theorem HpAt.foreign {w w' : World} {h : Nat} {Q S : List Nat} {L : List Str} (H : HpAt w h Q L) (k : Chg S w w') (hS : ∀ g ∈ Q, g ∉ S) : HpAt w' h Q L := by
  obtain ⟨v, H⟩ := H
  exact ⟨v, H.foreign k hS⟩
theorem HpAt.lt {w : World} {h : Nat} {Q : List Nat} {L : List Str} (H : HpAt w h Q L) : ∀ g ∈ Q, g < w.heap.size := by
  obtain ⟨v, H⟩ := H
  exact H.lt
theorem HpTo.then_ {w w1 w2 : World} {h : Nat} {Q Q1 : List Nat} {L : List Str} (k : Chg Q w w1) (hQ : ∀ g ∈ Q1, g ∈ Q ∨ w.heap.size ≤ g) (H : HpTo w1 w2 h Q1 L) : HpTo w w2 h Q L := by
  obtain ⟨Q', ⟨h1, h2⟩, h3⟩ := H
  refine ⟨Q', ⟨h1, fun g hg => ?_⟩, k.trans' h3 (fun _ hx _ => hx) (fun x hx hl => ?_)⟩
  · rcases h2 g hg with h4 | h4
    · exact hQ g h4
    · exact .inr (Nat.le_trans k.size h4)
  · rcases hQ x hx with h4 | h4
    · exact h4
    · omega
/-- A new row is stored into the heap's field. -/
theorem HpIn.put {w w1 : World} {h : Nat} {Q : List Nat} {v v1 : Value} {L L1 : List Str} {n1 : Nat} (H : HpIn w h Q v L) (k : Chg v.ownBlock.toList w w1) (hr : w1.ownsRow 0 9 1 v1 n1 (svn L1)) (hn : n1 = L1.length)
    (hat : v1.ownBlock = v.ownBlock ∨ ∃ g, v1.ownBlock = some g ∧ w.heap.size ≤ g ∧ g < w1.heap.size) : HpTo w (w1.setCell ⟨h, 0, none⟩ v1) h Q L1 := by
  subst hn
  have hb1 : w1.heap[h]? = some (.cells #[v] 161 (0, 0)) := k.heap H.blk (fun hm => by simp at hm; exact H.far hm rfl)
  have k1 : Chg [h] w1 (w1.setCell ⟨h, 0, none⟩ v1) := (Chg.refl _ _).setCell (fun _ => by simp) _
  have hf : ∀ g, v1.ownBlock = some g → g ≠ h := fun g hg => by
    obtain ⟨c, hc⟩ := own_blockS hr hg
    exact ne_of_types hc hb1 (by decide)
  refine ⟨h :: v1.ownBlock.toList, ⟨⟨v1, heap_set hb1 0 v1 rfl, own_keepS hr k1 (fun g hg hm => by simp at hm; exact hf g hg hm), ⟨by simp, fun g hg => by simp [hg]⟩, fun g hg => ?_⟩, fun g hg => ?_⟩, k.trans' k1 (fun x hx _ => by simp at hx; exact H.own.2 x hx) (fun x hx _ => by simp at hx; subst hx; exact H.own.1)⟩
  · refine Nat.lt_of_lt_of_le ?_ k1.size
    rcases List.mem_cons.1 hg with e | hg
    · subst e; exact lt_of_block hb1
    · simp at hg
      obtain ⟨c, hc⟩ := own_blockS hr hg
      exact lt_of_block hc
  · rcases List.mem_cons.1 hg with e | hg
    · subst e; exact .inl H.own.1
    · simp at hg
      rcases hat with h1 | ⟨g', h1, h2, h3⟩
      · rw [h1] at hg
        exact .inl (H.own.2 g hg)
      · rw [h1] at hg
        cases hg
        exact .inr h2
theorem Tryz.infoHS : (Tryz.prog.info? 9).map (fun i => (i.zero, i.size, i.bytes)) = some (some (.string ⟨#[]⟩), 1, 16) := by kernel_rfl
theorem assertS (xT : TypeId) (X : ByteArray) (w : World) : (Instr.typeAssert (.iface 9 (.string X)) xT 9 false).run Tryz.prog w = .ok (.string X) w := by
  simp [Instr.typeAssert, run_underlying Tryz.underlying9]
theorem assertS2 (xT : TypeId) (X : ByteArray) (w : World) : (Instr.typeAssert (.iface 9 (.string X)) xT 9 true).run Tryz.prog w = .ok (.tuple #[.string X, .bool true]) w := by
  simp [Instr.typeAssert, run_underlying Tryz.underlying9]
set_option maxRecDepth 100000 in
set_option maxHeartbeats 8000000 in
theorem hpush (w : World) (h : Nat) (Q : List Nat) (L : List Str) (x : Str) (H : HpAt w h Q L) (hl : L.length ≤ 1000000) :
    Calls Tryz.prog 185 #[.pointer (some ⟨h, 0, none⟩), .iface 9 (.string (ba x))] w fun e w' => e = .returned (.tuple #[]) ∧ HpTo w w' h Q (L ++ [x]) := by
  obtain ⟨v, H⟩ := H
  obtain ⟨ao, c, rfl⟩ := own_shape H.row
  have HH := Lib.hid H
  obtain ⟨n, hn⟩ : ∃ n, n = L.length := ⟨_, rfl⟩
  rw [← hn] at hl
  have HN := Lib.hid hn
  have HCE := Lib.hid (fun W (k : Chg [] w W) => cell_heap (k.heap H.blk (by simp)) 0 (v := .slice ao n c) (by rw [hn]; rfl))
  have HOW := Lib.hid (fun W (k : Chg [] w W) => (show W.ownsRow 0 9 1 (.slice ao n c) n (svn L) by rw [hn]; exact own_chg H.row k (by simp)))
  have HFC := Lib.hid (fun W (k : Chg (Value.slice ao n c).ownBlock.toList w W) => (show W.cell? ⟨h, 0, none⟩ = some (.slice ao n c) ∧ W.frozen? ⟨h, 0, none⟩ = false by
    have hb : W.heap[h]? = some (.cells #[.slice ao n c] 161 (0, 0)) := by rw [hn] at k ⊢; exact k.heap H.blk (fun hm => by simp at hm; exact H.far hm rfl)
    exact ⟨cell_heap hb 0 rfl, frozen_of_row _ _ _ _ _ hb⟩))
  have hs : svn (L ++ [x]) = svn L ++ [.string (ba x)] := by simp [svn, sv]
  have HP := Lib.hid (fun (W : World) a1 c1 (k : Chg (Value.slice ao n c).ownBlock.toList w W) (hr : W.ownsRow 0 9 1 (.slice a1 (n + 1) c1) (n + 1) (svn L ++ [.string (ba x)])) (ha : (Value.slice a1 (n + 1) c1).ownBlock = (Value.slice ao n c).ownBlock ∨ ∃ g, (Value.slice a1 (n + 1) c1).ownBlock = some g ∧ w.heap.size ≤ g ∧ g < W.heap.size) => (by
    rw [← hs] at hr
    rw [hn] at k ha
    rw [hn] at hr
    rw [hn]
    exact H.put k hr (by simp) ha : HpTo w (W.setCell ⟨h, 0, none⟩ (.slice a1 (n + 1) c1)) h Q (L ++ [x])))
  have HRN := Lib.hid (show Rd ((w.drew).alloc (.cells #[.string (ba x)] 9)) [w.heap.size] (some ⟨w.heap.size, 0, none⟩) [.string (ba x)] from fun j u hu => by
    have hj : j = 0 := by have := (List.getElem?_eq_some_iff.1 hu).1; simp at this; exact this
    subst hj
    simp at hu; subst hu
    exact ⟨_, rfl, by simp, cell_heap (heap_alloc_new _ _) 0 rfl⟩)
  obtain ⟨si, hsi, hsi0, hsi1, hsi2⟩ := info_parts Tryz.infoHS
  have hta := fun X W => assertS 20 X W
  clear H hn hs HH
  generalize ba x = X at *
  go_enter Tryz.func185, Tryz.ntmps185
  refine wp_region_end (S := fun q => q.cell? ⟨h, 0, none⟩ = some (.slice ao n c)) (m := 9) (by kernel_rfl) ?_ (fun hHeld => ?_)
  · exact HCE.out _ (Chg.refl _ _).drew
  refine wpAnyE_take (i := 0) (oi := ?oiE1) (v := ?vE1) ?hiE1 (by kernel_rfl) (by kernel_rfl) (by kernel_rfl) (by kernel_rfl) ?hQE1 (Or.inl ⟨?hwE1, ?hyE1⟩) (by assumption) ?hrE1
  case hiE1 => simp only [List.getElem?_toArray, List.getElem?_cons_zero]; rfl
  case hQE1 => exact fun _ _ _ h => h
  case hwE1 => rfl
  case hyE1 => intro w hSw; (try dsimp only at hSw); go_simp; (try with_reducible rfl)
  case hrE1 =>
  simp only [Act.put, List.setIfInBounds_toArray, List.set_cons_zero, List.set_cons_succ]
  refine wpAnyE_take (i := 1) (oi := ?oiE2) (v := ?vE2) ?hiE2 (by kernel_rfl) (by kernel_rfl) (by kernel_rfl) (by kernel_rfl) ?hQE2 (Or.inl ⟨?hwE2, ?hyE2⟩) (by assumption) ?hrE2
  case hiE2 => simp only [List.getElem?_toArray, List.getElem?_cons_succ, List.getElem?_cons_zero]; rfl
  case hQE2 => exact fun _ _ _ h => h
  case hwE2 => rfl
  case hyE2 => intro w hSw; (try dsimp only at hSw); go_simp; (try with_reducible rfl)
  case hrE2 =>
  simp only [Act.put, List.setIfInBounds_toArray, List.set_cons_zero, List.set_cons_succ]
  refine wpAnyE_take (i := 2) (oi := ?oiE3) (v := ?vE3) ?hiE3 (by kernel_rfl) (by kernel_rfl) (by kernel_rfl) (by kernel_rfl) ?hQE3 (Or.inl ⟨?hwE3, ?hyE3⟩) (by assumption) ?hrE3
  case hiE3 => simp only [List.getElem?_toArray, List.getElem?_cons_succ, List.getElem?_cons_zero]; rfl
  case hQE3 => exact fun _ _ _ h => h
  case hwE3 => rfl
  case hyE3 => intro w hSw; (try dsimp only at hSw); go_simp; (try with_reducible rfl)
  case hrE3 =>
  simp only [Act.put, List.setIfInBounds_toArray, List.set_cons_zero, List.set_cons_succ]
  refine wpAnyE_take (i := 3) (oi := ?oiE4) (v := ?vE4) ?hiE4 (by kernel_rfl) (by kernel_rfl) (by kernel_rfl) (by kernel_rfl) ?hQE4 (Or.inl ⟨?hwE4, ?hyE4⟩) (by assumption) ?hrE4
  case hiE4 => simp only [List.getElem?_toArray, List.getElem?_cons_succ, List.getElem?_cons_zero]; rfl
  case hQE4 => exact fun _ _ _ h => h
  case hwE4 => rfl
  case hyE4 => intro w hSw; (try dsimp only at hSw); go_simp; (try with_reducible rfl)
  case hrE4 =>
  simp only [Act.put, List.setIfInBounds_toArray, List.set_cons_zero, List.set_cons_succ]
  refine wpAnyE_take (i := 4) (oi := ?oiE5) (v := ?vE5) ?hiE5 (by kernel_rfl) (by kernel_rfl) (by kernel_rfl) (by kernel_rfl) ?hQE5 (Or.inl ⟨?hwE5, ?hyE5⟩) (by assumption) ?hrE5
  case hiE5 => simp only [List.getElem?_toArray, List.getElem?_cons_succ, List.getElem?_cons_zero]; rfl
  case hQE5 => exact fun _ _ _ h => h
  case hwE5 => rfl
  case hyE5 => intro w hSw; (try dsimp only at hSw); go_simp; (try with_reducible rfl)
  case hrE5 =>
  simp only [Act.put, List.setIfInBounds_toArray, List.set_cons_zero, List.set_cons_succ]
  refine wpAnyE_take (i := 5) (oi := ?oiE6) (v := ?vE6) ?hiE6 (by kernel_rfl) (by kernel_rfl) (by kernel_rfl) (by kernel_rfl) ?hQE6 (Or.inl ⟨?hwE6, ?hyE6⟩) (by assumption) ?hrE6
  case hiE6 => simp only [List.getElem?_toArray, List.getElem?_cons_succ, List.getElem?_cons_zero]; rfl
  case hQE6 => exact fun _ _ _ h => h
  case hwE6 => rfl
  case hyE6 => intro w hSw; (try dsimp only at hSw); go_simp; (try with_reducible rfl)
  case hrE6 =>
  simp only [Act.put, List.setIfInBounds_toArray, List.set_cons_zero, List.set_cons_succ]
  refine wpAnyE_ready (i := 6) (o := ?ocE7) (by kernel_rfl) ?hcE7 (fun K hK => ?hsE7)
  case hcE7 => simp only [List.getElem?_toArray, List.getElem?_cons_succ, List.getElem?_cons_zero]; rfl
  case hsE7 =>
  rw [if_pos (by rfl)]
  go_simp
  go_wp2_with fail
  refine hK.out _ _ (.inr ?_) (fun hHeld => ?_)
  · exact HCE.out _ ((Chg.refl _ _).drew.alloc _)
  replace hHeld := hHeld.resolve_left (by decide)
  clear hK K
  try simp only [Act.put, List.setIfInBounds_toArray, List.set_cons_zero, List.set_cons_succ]
  refine wpAnyE_ready (i := 7) (o := ?ocE8) (by kernel_rfl) ?hcE8 (fun K hK => ?hsE8)
  case hcE8 => simp only [List.getElem?_toArray, List.getElem?_cons_succ, List.getElem?_cons_zero]; rfl
  case hsE8 =>
  rw [if_pos (by rfl)]
  refine wp_append_rd (.tmp 7) (.tmp 10) 159 (by rfl) 0 9 si (.string ⟨#[]⟩) 16 Tryz.underlying159 hsi hsi0 hsi1 hsi2 rfl (.slice ao n c) n (svn L) (by rfl) (HOW.out _ ((Chg.refl _ _).drew.alloc _)) (some ⟨w.heap.size, 0, none⟩) 1 1 [w.heap.size] [.string X] (by rfl) rfl (HRN.out) (by intro u hu; simp at hu; subst hu; rfl) (by omega) (by unfold maxLen; omega) (by omega) ?_; intro a1 c1 w1 hown1 hgr1 hat1; have hk1 : Chg (Value.slice ao n c).ownBlock.toList w w1 := ((Chg.refl _ w).drew.alloc (.cells #[.string X] 9)).grown hgr1 (fun g hg hl => by simp [hg]); have HO1 := Lib.hid hown1; have HK1 := Lib.hid hk1; have hat2 : (Value.slice a1 (n + 1) c1).ownBlock = (Value.slice ao n c).ownBlock ∨ ∃ g, (Value.slice a1 (n + 1) c1).ownBlock = some g ∧ w.heap.size ≤ g ∧ g < w1.heap.size := (by rcases hat1 with h1 | h1; exact .inl h1; obtain ⟨c9, hc9⟩ := own_blockS hown1 h1; exact .inr ⟨_, h1, by simp, lt_of_block hc9⟩); have HA1 := Lib.hid hat2; have hf1 := (HFC.out _ hk1).2; clear hown1 hgr1 hat1 hat2 hk1
  go_wp2_with fail
  refine hK.out _ _ (.inr ?_) (fun hHeld => ?_)
  · exact (HFC.out _ HK1.out).1
  replace hHeld := hHeld.resolve_left (by decide)
  clear hK K
  try simp only [Act.put, List.setIfInBounds_toArray, List.set_cons_zero, List.set_cons_succ]
  refine wpAnyE_take (i := 8) (oi := ?oiE9) (v := ?vE9) ?hiE9 (by kernel_rfl) (by kernel_rfl) (by kernel_rfl) (by kernel_rfl) ?hQE9 (Or.inl ⟨?hwE9, ?hyE9⟩) (by assumption) ?hrE9
  case hiE9 => simp only [List.getElem?_toArray, List.getElem?_cons_succ, List.getElem?_cons_zero]; rfl
  case hQE9 => exact fun _ _ _ h => h
  case hwE9 => rfl
  case hyE9 => intro w hSw; (try dsimp only at hSw); go_simp; (try with_reducible rfl)
  case hrE9 =>
  simp only [Act.put, List.setIfInBounds_toArray, List.set_cons_zero, List.set_cons_succ]
  refine wpAnyE_ready (i := 9) (o := ?ocE10) (by kernel_rfl) ?hcE10 (fun K hK => ?hsE10)
  case hcE10 => simp only [List.getElem?_toArray, List.getElem?_cons_succ, List.getElem?_cons_zero]; rfl
  case hsE10 =>
  rw [if_pos (by rfl)]
  go_simp
  go_wp2_with fail
  refine hK.out _ _ (.inl (by first | rfl | trivial)) (fun _ => ?_)
  clear hK K
  try simp only [Act.put, List.setIfInBounds_toArray, List.set_cons_zero, List.set_cons_succ]
  refine wpAnyE_done (by kernel_rfl) ?_ _
  go_end0
  exact ⟨rfl, HP.out _ _ _ HK1.out HO1.out HA1.out⟩
end Go.Proofs.YtfhiioopimmahaaGreatDoor
namespace Go.Proofs.YtfhiioopimmahaaGreatDoor
open Go.RowKit Go.Pax Go.Shelf
theorem methLen (w : World) (h : Nat) (v : Value) (hc : w.cell? ⟨h, 0, none⟩ = some v) (N : Nat) : (method (N + 1) 163 (.pointer (some ⟨h, 0, none⟩)) "Len").run Tryz.prog w = .ok (119, v) w := by
  have e : (method (N + 1) 163 (.pointer (some ⟨h, 0, none⟩)) "Len").run Tryz.prog w = ((loadVar 159 ⟨h, 0, none⟩) >>= fun r => pure (119, r)).run Tryz.prog w := by kernel_rfl
  rw [e]
  simp [Result.andThen, go_sem, loadVar, hc]
theorem methLess (w : World) (h : Nat) (v : Value) (hc : w.cell? ⟨h, 0, none⟩ = some v) (N : Nat) : (method (N + 1) 163 (.pointer (some ⟨h, 0, none⟩)) "Less").run Tryz.prog w = .ok (182, v) w := by
  have e : (method (N + 1) 163 (.pointer (some ⟨h, 0, none⟩)) "Less").run Tryz.prog w = ((loadVar 159 ⟨h, 0, none⟩) >>= fun r => pure (182, r)).run Tryz.prog w := by kernel_rfl
  rw [e]
  simp [Result.andThen, go_sem, loadVar, hc]
theorem methSwap (w : World) (h : Nat) (v : Value) (hc : w.cell? ⟨h, 0, none⟩ = some v) (N : Nat) : (method (N + 1) 163 (.pointer (some ⟨h, 0, none⟩)) "Swap").run Tryz.prog w = .ok (183, v) w := by
  have e : (method (N + 1) 163 (.pointer (some ⟨h, 0, none⟩)) "Swap").run Tryz.prog w = ((loadVar 159 ⟨h, 0, none⟩) >>= fun r => pure (183, r)).run Tryz.prog w := by kernel_rfl
  rw [e]
  simp [Result.andThen, go_sem, loadVar, hc]
theorem methPush (w : World) (h : Nat) (N : Nat) : (method (N + 1) 163 (.pointer (some ⟨h, 0, none⟩)) "Push").run Tryz.prog w = .ok (185, .pointer (some ⟨h, 0, none⟩)) w := by kernel_rfl
theorem methPop (w : World) (h : Nat) (N : Nat) : (method (N + 1) 163 (.pointer (some ⟨h, 0, none⟩)) "Pop").run Tryz.prog w = .ok (184, .pointer (some ⟨h, 0, none⟩)) w := by kernel_rfl
end Go.Proofs.YtfhiioopimmahaaGreatDoor
namespace Go.Proofs.YtfhiioopimmahaaGreatDoor
open Go.RowKit Go.Pax Go.Shelf
def hv (h : Nat) : Value := .iface 163 (.pointer (some ⟨h, 0, none⟩))
set_option maxRecDepth 100000 in
set_option maxHeartbeats 8000000 in
theorem hup (w : World) (h : Nat) (Q : List Nat) (L : List Str) (v : Value) (j : Nat) (H : HpIn w h Q v L) (hl : L.length ≤ 1000001) (hj : j < L.length) (hu : UpAt L j) :
    Calls Tryz.prog 118 #[hv h, .int .i64 j] w fun e w' => e = .returned (.tuple #[]) ∧ ∃ L', HpIn w' h Q v L' ∧ L'.Perm L ∧ HeapN L' L'.length ∧ Chg Q w w' := by
  unfold hv
  have HH := Lib.hid H
  have HU := Lib.hid hu
  clear H hu
  go_enter Tryz.func118, Tryz.ntmps118
  go_wp2_with fail
  go_loopw [1] (fun u wr => ∃ (k : Nat) (L' : List Str), u = .int .i64 k ∧ k < L.length ∧ HpIn wr h Q v L' ∧ L'.Perm L ∧ UpAt L' k ∧ Chg Q w wr) (fun u _ => (intOf u).toNat)
  case atStart => exact ⟨j, L, rfl, hj, HH.out, List.Perm.refl _, HU.out, Chg.refl _ _⟩
  case round =>
    obtain ⟨k, L', rfl, hk, hi, hp, hu', kk⟩ := hrel
    obtain ⟨ao, c, hv⟩ := own_shape hi.row
    have c0 := cell_heap hi.blk 0 (v := v) rfl
    obtain ⟨n, hn⟩ : ∃ n, n = L'.length := ⟨_, rfl⟩
    have hlen := hp.length_eq
    rw [← hn] at hv
    subst hv
    have hkn : k < n := by omega
    have hn1 : n ≤ 1000001 := by omega
    have HI := Lib.hid hi
    have HP := Lib.hid (And.intro hp (And.intro hu' (And.intro kk hn)))
    have HR := Lib.hid (show wr.ownsRow 0 9 1 (.slice ao n c) n (svn L') by have := hi.row; rw [← hn] at this; exact this)
    have HF := Lib.hid (fun g (hg : (Value.slice ao n c).ownBlock = some g) => hi.far hg)
    have hm := methLess wr h _ c0
    clear hi hp hu' kk hlen hn c0
    by_cases h0 : k = 0
    · subst h0
      have e1 : (-1 : Int).tdiv 2 = 0 := rfl
      go_wp2_with fail
      go_end0
      exact ⟨rfl, L', HI.out, HP.out.1, HP.out.2.1.stop (.inl rfl), HP.out.2.2.1⟩
    · have e1 : IntKind.i64.wrap ((k : Int) - 1) = ((k - 1 : Nat) : Int) := by rw [show (k : Int) - 1 = ((k - 1 : Nat) : Int) by omega]; exact IntWalk.i64_in _ (by omega)
      obtain ⟨i, hi2⟩ : ∃ i, i = (k - 1) / 2 := ⟨_, rfl⟩
      have e2 : (((k - 1 : Nat) : Int)) / 2 = (i : Int) := by omega
      have e4 : ¬ (i : Int) = (k : Int) := by omega
      have e5 : ¬ i = k := by omega
      have HI2 := Lib.hid hi2
      have hin : i < n := by omega
      have HL := Lib.hid (hless wr ao n c _ L' HP.out.2.2.2.symm (own_rd2 HR.out).1 k i hkn hin)
      clear hi2
      by_cases hlt : gx L' k < gx L' i
      · have hd : decide (gx L' k < gx L' i) = true := by simpa using hlt
        rw [hd] at HL
        have HLT := Lib.hid hlt
        have hSW : ∀ q, (Calls Tryz.prog 183 #[.slice ao n c, .int .i64 i, .int .i64 k] (wr.drewN q) fun e w' => e = .returned (.tuple #[]) ∧ (HpIn w' h Q (.slice ao n c) (sw L' i k) ∧ Chg Q wr w')) := fun q => by
          refine (hswap (wr.drewN q) 0 (.slice ao n c) n L' HP.out.2.2.2.symm HR.out i k hin hkn (by omega)).mono ?_
          rintro e w' ⟨rfl, h1, h2⟩
          have k0 : Chg (Value.slice ao n c).ownBlock.toList wr w' := ((Chg.refl _ wr).drewN q).trans h2
          have k1 : Chg Q wr w' := k0.mono (fun x hx _ => by simp at hx; exact HI.out.own.2 x hx)
          refine ⟨rfl, ⟨k0.heap HI.out.blk (fun hm => by simp at hm; exact HF.out _ hm rfl), ?_, HI.out.own, fun g hg => Nat.lt_of_lt_of_le (HI.out.lt g hg) k1.size⟩, k1⟩
          rw [sw_length, ← HP.out.2.2.2]
          exact h1
        have HSW := Lib.hid hSW
        have hm2 := fun q => methSwap (wr.drewN q) h (.slice ao n c) (show wr.cell? ⟨h, 0, none⟩ = _ from cell_heap HI.out.blk 0 rfl)
        clear hd hlt hSW
        go_wp2_with (first
          | (go_at_call 182; refine HL.out.mono ?_; rintro e w2 ⟨rfl, q, rfl⟩)
          | (go_at_call 183; refine (HSW.out _).mono ?_; rintro e w3 ⟨rfl, hw3⟩; have HW3 := Lib.hid hw3; clear hw3))
        go_roundw
        case rel => exact ⟨i, sw L' i k, rfl, by omega, HW3.out.1, (sw_perm (by rw [← HP.out.2.2.2]; exact hin) (by rw [← HP.out.2.2.2]; exact hkn)).trans HP.out.1, HP.out.2.1.step (by omega) (by rw [← HP.out.2.2.2]; exact hkn) HI2.out.symm HLT.out, HP.out.2.2.1.trans HW3.out.2⟩
        case measure => simp [intOf]; omega
      · have hd : decide (gx L' k < gx L' i) = false := by simpa using hlt
        rw [hd] at HL
        have HLT := Lib.hid hlt
        clear hd hlt
        go_wp2_with (go_at_call 182; refine HL.out.mono ?_; rintro e w2 ⟨rfl, q, rfl⟩)
        go_end0
        exact ⟨rfl, L', HI.out.foreign ((Chg.refl [] wr).drewN q) (by simp), HP.out.1, HP.out.2.1.stop (.inr (by rw [← HI2.out]; exact HLT.out)), HP.out.2.2.1.drewN q⟩
end Go.Proofs.YtfhiioopimmahaaGreatDoor
