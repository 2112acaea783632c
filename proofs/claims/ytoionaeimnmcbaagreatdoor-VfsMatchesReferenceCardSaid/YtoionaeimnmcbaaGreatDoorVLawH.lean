/- paxtarlaw19.VfsMatchesReference: the walk. Printed by wip/gen/genvmr.py. -/
import Derived.Test.YtoionaeimnmcbaaGreatDoorRDuo
namespace Go.Pax
open Go.RowKit
theorem natL_pos (l : List UInt8) : ∀ x ∈ natL l, 0 ≤ x := fun x hx => by
  unfold natL at hx
  obtain ⟨b, _, rfl⟩ := List.mem_map.1 hx
  omega
end Go.Pax
namespace Go.Proofs.YtoionaeimnmcbaaGreatDoor
open Go.RowKit Go.Pax Go.Shelf
theorem Duo.upto {w0 w : World} {f r n m : Nat} {O Q bs : List Nat} {σ : Fs} {ρ : RFs} (h : Duo w0 w f O σ r Q ρ n bs) (hm : n ≤ m) : Duo w0 w f O σ r Q ρ m bs :=
  ⟨⟨h.half.live.upto hm, h.half.ref, h.half.own, h.half.ne⟩, h.num.mono hm, h.rel, h.tidy⟩
theorem newRotN (w0 w : World) (first step : Int) (l : List UInt8) (n : Nat) (a : Option Addr) (cap : Nat) (h1 : inOpt first) (h2 : inOpt step) (hn : l.length = n) (hl : n ≤ 50) (k : Chg [] w0 w) (B : Nat) (hown : w.ownsRow B 3 1 (.slice a n cap) n (iv (natL l))) :
    Calls Tryz.prog 8 #[.agg #[.int .i64 first, .int .i64 step, .slice a n cap]] w fun e w' => ∃ f O b, e = .returned (.tuple #[.pointer (some ⟨f, 0, none⟩), .int .i64 0]) ∧ Live w0 w' f O (newFs first step (natL l) b) 0 ∧ Chg [] w w' := by
  obtain ⟨hr, _, _⟩ := own_rd2 hown
  refine (liveNew w0 w first step (natL l) a n cap _ k (by simp [natL, hn]) (by omega) (by omega) hr).mono ?_
  rintro e w' ⟨_, h2'⟩
  have h0 : newE first step (natL l) = 0 := by
    unfold newE
    rw [if_pos]
    refine ⟨h1, h2, ?_⟩
    by_cases hi : idxN (natL l) 0 < 0
    · exact hi
    · obtain ⟨y, hy, hy2⟩ := (idxN_neg (natL l) 0).1 (by omega)
      have := natL_pos l y hy
      omega
  exact h2' h0
theorem duo_new (w0 w w' : World) (f : Nat) (O : List Nat) (first step : Int) (rot : List Int) (b r : Nat) (Q : List Nat) (h1 : inOpt first) (h2 : inOpt step) (h3 : ∀ x ∈ rot, 0 ≤ x) (h4 : rot.length ≤ 10000) (hL : Live w0 w f O (newFs first step rot b) 0) (hr : RAt w' r Q (newR first step rot)) (hQ : ∀ g ∈ Q, w.heap.size ≤ g) (k : Chg [] w w') :
    Duo w0 w' f O (newFs first step rot b) r Q (newR first step rot) 0 [b] :=
  ⟨⟨hL.quiet k, hr, fun g hg => Nat.le_trans hL.chg.size (hQ g hg), fun x hx hq => by have := hL.lt x hx; have := hQ x hq; omega⟩, RNum.new h1 h2 h3 h4, rel_new _ _ _ _, tidy_new _ _ _ _⟩
theorem duoListN (w0 w : World) {f r n : Nat} {O Q bs : List Nat} {σ : Fs} {ρ : RFs} (p : Str) (h : Duo w0 w f O σ r Q ρ n bs) (hn : n ≤ 9000) (h0 : listE σ p ≠ 0) :
    Calls Tryz.prog 13 #[.pointer (some ⟨f, 0, none⟩), .string (ba p)] w fun e w' => e = .returned (.tuple #[.slice none 0 0, .int .i64 (listE σ p)]) ∧ Chg [] w w' := by
  refine (list w f O σ p h.half.live.fs (h.half.live.inv.ok (by omega))).mono ?_
  rintro e w' ⟨h1, _⟩
  exact h1 h0
theorem duoRListN (w0 w : World) {f r n : Nat} {O Q bs : List Nat} {σ : Fs} {ρ : RFs} (p : Str) (h : Duo w0 w f O σ r Q ρ n bs) (hn : n ≤ 9000) (h0 : listE σ p ≠ 0) :
    Calls Tryz.prog 14 #[.pointer (some ⟨r, 0, none⟩), .string (ba p)] w fun e w' => e = .returned (.tuple #[.slice none 0 0, .int .i64 (listE σ p)]) ∧ Chg [] w w' := by
  refine (rlist w r Q ρ p h.half.ref (h.num.ok hn)).mono ?_
  rintro e w' ⟨h1, _⟩
  rw [listE_rel h.rel] at h0 ⊢
  exact h1 h0
set_option maxRecDepth 100000 in
set_option maxHeartbeats 16000000 in
theorem vfsMatches (w : World) (x y : Int) (hx : 0 ≤ x ∧ x ≤ 65535) (hy : 0 ≤ y ∧ y ≤ 65535) (ro lo : Option Addr) (rc lc : Nat) (rb : List UInt8) (L : List AAct) (fp : List Nat) (hkeys : KeysAt w) (hrl : rb.length ≤ 140737488355328) (hr : Rd w fp ro (bv rb)) (h : RdAct w fp lo L) (hwf : ∀ y ∈ L, y.wf) (hll : L.length ≤ 140737488355328) :
    Calls Tryz.prog 3 #[.agg #[.int .u16 x, .int .u16 y], .slice ro rb.length rc, .slice lo L.length lc] w fun e w' => e = .returned (.bool true) ∧ Chg [] w w' := by
  have HT := Lib.hid (fun W (k : Chg [] w W) => tooLarge W lo lc L fp (fun i x hx => by
    obtain ⟨ad, a, c, h1, h2, c0, c1, c2, c3, c4, h8, h9⟩ := h i x hx
    exact ⟨ad, a, c, h1, h2, k.cell c0 (by simp), k.cell c1 (by simp), k.cell c2 (by simp), k.cell c3 (by simp), k.cell c4 (by simp), h8, h9.chg k (by simp)⟩) hwf hll)
  have H := Lib.hid h
  have HWF := Lib.hid hwf
  have HKY := Lib.hid hkeys
  have HAL := Lib.hid (fun W (k : Chg [] w W) => alive W (hkeys.chg k (by simp)))
  have HOP := Lib.hid (fun W (k : Chg [] w W) n (hn : rb.length = n) (hl : n ≤ 50) => options W x y rb n ro rc fp hx hy hn (by omega) (hr.chg k (by simp)))
  have hi1 : inOpt (1 + x) := by unfold inOpt; omega
  have hi2 : inOpt (1 + y) := by unfold inOpt; omega
  clear h hwf hkeys hr
  have hk0 : Chg [] w (w.alloc (.cells #[.int .u16 x, .int .u16 y] 23)) := (Chg.refl _ _).alloc _
  have e0 : (w.alloc (.cells #[.int .u16 x, .int .u16 y] 23)).heap[w.heap.size]? = some (.cells #[.int .u16 x, .int .u16 y] 23 (0, 0)) := heap_alloc_new _ _
  generalize hNR : rb.length = NR at *
  have HNR := Lib.hid hNR
  clear hNR
  go_enter Tryz.func3, Tryz.ntmps3
  go_upto_region 1 with (fail)
  generalize w.alloc (.cells #[.int .u16 x, .int .u16 y] 23) = W0 at *
  generalize w.heap.size = g0 at *
  have HK0 := Lib.hid hk0
  have HE0 := Lib.hid e0
  clear hk0 e0
  by_cases g1 : tooE L = 0
  · have htz := tooE_zero g1
    rw [g1] at HT
    have HTZ := Lib.hid htz
    clear g1 htz
    by_cases g2 : 50 < NR
    · generalize L.length = N at *
      go_wp2_with (first
        | (go_at_call 5; refine (HT.out _ HK0.out).mono ?_; rintro e w1 ⟨rfl, k⟩; have HK1 := Lib.hid (HK0.out.trans k); clear k)
        | (go_at_call 6; refine (HAL.out _ HK1.out).mono ?_; rintro e w4 ⟨rfl, k⟩; have HK4 := Lib.hid (HK1.out.trans k); clear k))
      go_ret
      exact ⟨rfl, HK4.out⟩
    have hnr50 : NR ≤ 50 := by omega
    have hn40 : L.length ≤ 40 := HTZ.out.1
    generalize hN : L.length = N at *
    have HN := Lib.hid hN
    clear hN g2
    go_upto_region 3 with (go_at_call 5; refine (HT.out _ HK0.out).mono ?_; rintro e w1 ⟨rfl, k⟩; have HK1 := Lib.hid (HK0.out.trans k); have HE1 := Lib.hid (k.heap HE0.out (by simp)); clear k)
    have q0 : w1.cell? ⟨g0, 0, none⟩ = some (.int .u16 x) := cell_heap HE1.out 0 rfl
    have q1 : w1.cell? ⟨g0, 1, none⟩ = some (.int .u16 y) := cell_heap HE1.out 1 rfl
    go_upto_region 4 with (go_at_call 7; refine (HOP.out _ HK1.out NR rfl hnr50).mono ?_; rintro e w2 ⟨oa, oc, rfl, hown, k⟩; have HK2 := Lib.hid (HK1.out.trans k); have HOW := Lib.hid hown; clear k hown)
    have hk3 : Chg [] w2 (w2.alloc (.cells #[.int .i64 (1 + x), .int .i64 (1 + y), .slice oa NR oc] 30)) := (Chg.refl _ _).alloc _
    have e3 : (w2.alloc (.cells #[.int .i64 (1 + x), .int .i64 (1 + y), .slice oa NR oc] 30)).heap[w2.heap.size]? = some (.cells #[.int .i64 (1 + x), .int .i64 (1 + y), .slice oa NR oc] 30 (0, 0)) := heap_alloc_new _ _
    have HOW3 := Lib.hid (own_chg HOW.out hk3 (by simp))
    have HK3 := Lib.hid (HK2.out.trans hk3)
    have HE3 := Lib.hid e3
    clear hk3 e3
    generalize w2.alloc (.cells #[.int .i64 (1 + x), .int .i64 (1 + y), .slice oa NR oc] 30) = W3 at *
    generalize w2.heap.size = g3 at *
    have p0 : W3.cell? ⟨g3, 0, none⟩ = some (.int .i64 (1 + x)) := cell_heap HE3.out 0 rfl
    have p1 : W3.cell? ⟨g3, 1, none⟩ = some (.int .i64 (1 + y)) := cell_heap HE3.out 1 rfl
    have p2 : W3.cell? ⟨g3, 2, none⟩ = some (.slice oa NR oc) := cell_heap HE3.out 2 rfl
    go_upto_region 5 with (go_at_call 8; refine (newRotN w _ (1 + x) (1 + y) rb NR oa oc hi1 hi2 HNR.out hnr50 HK3.out _ HOW3.out).mono ?_; rintro e w4 ⟨f, O, rf, rfl, hL, k⟩; have HL4 := Lib.hid hL; have HOW4 := Lib.hid (own_chg HOW3.out k (by simp)); have HE4 := Lib.hid (k.heap HE3.out (by simp)); clear hL k)
    have r0 : w4.cell? ⟨g3, 0, none⟩ = some (.int .i64 (1 + x)) := cell_heap HE4.out 0 rfl
    have r1 : w4.cell? ⟨g3, 1, none⟩ = some (.int .i64 (1 + y)) := cell_heap HE4.out 1 rfl
    have r2 : w4.cell? ⟨g3, 2, none⟩ = some (.slice oa NR oc) := cell_heap HE4.out 2 rfl
    have HRN := Lib.hid (own_rd2 HOW4.out).1
    have HNL := Lib.hid (show (natL rb).length = NR by simp [natL, HNR.out])
    go_upto_region 6 with (go_at_call 9; refine (rnew _ (1 + x) (1 + y) (natL rb) oa NR oc _ HNL.out (by omega) HRN.out hi1 hi2 (natL_pos rb)).mono ?_; rintro e w5 ⟨r, Q, rfl, hra, hQ, k⟩; have HD5 := Lib.hid (duo_new w _ _ f O _ _ _ rf r Q hi1 hi2 (natL_pos rb) (by rw [HNL.out]; omega) HL4.out hra hQ k); clear hra hQ k)
    clear p0 p1 p2 q0 q1 r0 r1 r2 HT HOP HE1 HE3 HE4 HE0 HOW HOW3 HOW4 HRN HL4 HK1 HK2 HK3 HK0 hll
    have HDO := Lib.hid (fun W f O σ r Q ρ n a ao dc fq (hh : Half w W f O σ r Q ρ n) hn ht hd hdl hff => halfDo w W a ao dc fq hh hn HKY.out ht hd hdl hff)
    go_upto_region 9 with (fail)
    go_loopw [56] (fun i wr => ∃ k : Nat, k ≤ N ∧ i = .int .i64 k ∧ ∃ O σ Q ρ bs, Duo w wr f O σ r Q ρ (3 * k) bs) (fun i _ => N - (intOf i).toNat)
    case atStart => exact ⟨0, Nat.zero_le _, rfl, O, _, Q, _, _, HD5.out⟩
    case round =>
      obtain ⟨k, hk, rfl, O1, σ, Q1, ρ, bs, hd⟩ := hrel
      have HD := Lib.hid hd
      clear hd HD5
      by_cases hlt : k < N
      · have hkL : k < L.length := by rw [HN.out]; exact hlt
        obtain ⟨ad, a5, c5, rfl, c0, c1, c2, c3, c4, hr5, _⟩ := H.out.at HD.out.half.live.chg k _ (List.getElem?_eq_getElem hkL)
        obtain ⟨fq, hr6, hb6⟩ := hr5.tight
        have hwf := HWF.out _ (List.getElem_mem hkL)
        have heq : refDoE ρ L[k] = doE σ L[k] := (do_rel HD.out.rel _).symm
        have hdf : ∀ W, Chg [] wr W → Calls Tryz.prog 10 #[.pointer (some ⟨f, 0, none⟩), actV L[k] a5 c5] W fun e w' => e = .returned (.int .i64 (doE σ L[k])) ∧ ∃ O2 σ2, ((doE σ L[k] ≠ 0 ∧ σ2 = σ) ∨ (doE σ L[k] = 0 ∧ Next σ (Fresh σ) L[k] σ2)) ∧ Half w w' f O2 σ2 r Q1 ρ (3 * k + 2) ∧ Kept W w' O1 Q1 O2 Q1 := fun W kk =>
          HDO.out W f O1 σ r Q1 ρ (3 * k) L[k] a5 c5 fq (HD.out.half.quiet kk) (by omega) hwf.2.2.2.2 hr6 hwf.2.2.2.1 (fun x hx => (hb6 x hx).2)
        have hdg : ∀ W O2 σ2, Half w W f O2 σ2 r Q1 ρ (3 * k + 2) → Calls Tryz.prog 11 #[.pointer (some ⟨r, 0, none⟩), actV L[k] a5 c5] W fun e w' => e = .returned (.int .i64 (doE σ L[k])) ∧ ∃ Q2 ρ2, ((refDoE ρ L[k] ≠ 0 ∧ ρ2 = ρ) ∨ (refDoE ρ L[k] = 0 ∧ RefNext ρ L[k] ρ2)) ∧ Half w w' f O2 σ2 r Q2 ρ2 (3 * k + 2) ∧ Kept W w' O2 Q1 O2 Q2 := fun W O2 σ2 hH => by
          rw [← heq]
          exact halfRef w W L[k] a5 c5 fq hH HD.out.num (by omega) hwf.2.2.1 hwf.2.2.2.2 hr6 hwf.2.2.2.1
        have hdn := fun w' O2 Q2 σ2 ρ2 h1 h2 hh => HD.out.done (w' := w') (O' := O2) (Q' := Q2) (σ' := σ2) (ρ' := ρ2) (a := L[k]'hkL) hwf.2.2.2.1 h1 h2 hh
        unfold actV at hdf hdg
        have HDFW := Lib.hid hdf
        have HDG := Lib.hid hdg
        have HDN := Lib.hid hdn
        have HSM := Lib.hid (fun (s : Str) W O σ Q ρ bs (hh : Duo w W f O σ r Q ρ (3 * k + 2) bs) => duoSame w W s hh (by omega))
        clear hdf hdg hr5 hr6 hb6 hwf hdn heq
        generalize doE σ L[k] = E at *
        obtain ⟨pp, hpp⟩ : ∃ pp, pp = L[k].path := ⟨_, rfl⟩
        obtain ⟨tt, htt⟩ : ∃ tt, tt = L[k].target := ⟨_, rfl⟩
        rw [← hpp] at c1 HDFW HDG
        rw [← htt] at c4 HDFW HDG
        have HSP := Lib.hid (fun W O σ Q ρ bs hh => HSM.out pp W O σ Q ρ bs hh)
        have HST := Lib.hid (fun W O σ Q ρ bs hh => HSM.out tt W O σ Q ρ bs hh)
        have HSR := Lib.hid (fun W O σ Q ρ bs hh => HSM.out [] W O σ Q ρ bs hh)
        rw [show ba [] = (⟨#[]⟩ : ByteArray) from rfl] at HSR
        obtain ⟨P5, hP5⟩ : ∃ P5, P5 = ba pp := ⟨_, rfl⟩
        obtain ⟨T5, hT5⟩ : ∃ T5, T5 = ba tt := ⟨_, rfl⟩
        rw [← hP5] at c1 HDFW HDG HSP
        rw [← hT5] at c4 HDFW HDG HST
        have HPP := Lib.hid hP5
        clear hpp htt hP5 hT5 HSM
        generalize L[k].data.length = dl at *
        generalize L[k].kind = kd at *
        generalize L[k].mode = md at *
        go_upto_region 11 with (fail)
        have hk9 : Chg [] wr (wr.alloc (.cells #[.int .i64 kd, .string P5, .int .i64 md, .slice a5 dl c5, .string T5] 40)) := (Chg.refl _ _).alloc _
        have e9 : (wr.alloc (.cells #[.int .i64 kd, .string P5, .int .i64 md, .slice a5 dl c5, .string T5] 40)).heap[wr.heap.size]? = some (.cells #[.int .i64 kd, .string P5, .int .i64 md, .slice a5 dl c5, .string T5] 40 (0, 0)) := heap_alloc_new _ _
        have h9l := lt_of_block e9
        have h9O : wr.heap.size ∉ O1 := fun hm => by have := HD.out.half.live.lt _ hm; omega
        have h9Q : wr.heap.size ∉ Q1 := fun hm => by have := HD.out.half.ref.lt _ hm; omega
        generalize wr.alloc (.cells #[.int .i64 kd, .string P5, .int .i64 md, .slice a5 dl c5, .string T5] 40) = W9 at *
        generalize wr.heap.size = g9 at *
        have HDF := Lib.hid (HDFW.out _ hk9.drew)
        have HE9 := Lib.hid (show W9.drew.heap[g9]? = some (.cells #[.int .i64 kd, .string P5, .int .i64 md, .slice a5 dl c5, .string T5] 40 (0, 0)) from e9)
        have HG9 := Lib.hid (And.intro (show g9 < W9.drew.heap.size from h9l) (And.intro h9O (And.intro h9Q trivial)))
        clear hk9 h9l h9O h9Q e9 c0 c1 c2 c3 c4 HDFW
        refine wp_region_held_drew (S := fun q => q.cell? ⟨g9, 0, none⟩ = some (.int .i64 kd) ∧ q.cell? ⟨g9, 1, none⟩ = some (.string P5) ∧ q.cell? ⟨g9, 2, none⟩ = some (.int .i64 md) ∧ q.cell? ⟨g9, 3, none⟩ = some (.slice a5 dl c5) ∧ q.cell? ⟨g9, 4, none⟩ = some (.string T5)) (by kernel_rfl) ?_ (fun hHeld => ?_)
        · exact ⟨cell_heap HE9.out 0 rfl, cell_heap HE9.out 1 rfl, cell_heap HE9.out 2 rfl, cell_heap HE9.out 3 rfl, cell_heap HE9.out 4 rfl⟩
        refine wpAnyH_take (i := 0) (oi := ?oi1) (v := ?v1) ?hi1 (by kernel_rfl) (by kernel_rfl) (by kernel_rfl) ?hQ1 (Or.inl ⟨?hw1, ?hy1⟩) (by assumption) ?hr1
        case hi1 => simp only [List.getElem?_toArray, List.getElem?_cons_zero]; rfl
        case hQ1 => exact fun _ _ _ h => h
        case hw1 => rfl
        case hy1 => intro w hSw; (try dsimp only at hSw); go_simp; (try with_reducible rfl)
        case hr1 =>
        simp only [Act.put, List.setIfInBounds_toArray, List.set_cons_zero, List.set_cons_succ]
        refine wpAnyH_take (i := 1) (oi := ?oi2) (v := ?v2) ?hi2 (by kernel_rfl) (by kernel_rfl) (by kernel_rfl) ?hQ2 (Or.inl ⟨?hw2, ?hy2⟩) (by assumption) ?hr2
        case hi2 => simp only [List.getElem?_toArray, List.getElem?_cons_succ, List.getElem?_cons_zero]; rfl
        case hQ2 => exact fun _ _ _ h => h
        case hw2 => rfl
        case hy2 => intro w hSw; (try dsimp only at hSw); go_simp; (try with_reducible rfl)
        case hr2 =>
        simp only [Act.put, List.setIfInBounds_toArray, List.set_cons_zero, List.set_cons_succ]
        refine wpAnyH_take (i := 3) (oi := ?oi3) (v := ?v3) ?hi3 (by kernel_rfl) (by kernel_rfl) (by kernel_rfl) ?hQ3 (Or.inl ⟨?hw3, ?hy3⟩) (by assumption) ?hr3
        case hi3 => simp only [List.getElem?_toArray, List.getElem?_cons_succ, List.getElem?_cons_zero]; rfl
        case hQ3 => exact fun _ _ _ h => h
        case hw3 => rfl
        case hy3 => intro w hSw; (try dsimp only at hSw); go_simp; (try with_reducible rfl)
        case hr3 =>
        simp only [Act.put, List.setIfInBounds_toArray, List.set_cons_zero, List.set_cons_succ]
        refine wpAnyH_take (i := 4) (oi := ?oi4) (v := ?v4) ?hi4 (by kernel_rfl) (by kernel_rfl) (by kernel_rfl) ?hQ4 (Or.inl ⟨?hw4, ?hy4⟩) (by assumption) ?hr4
        case hi4 => simp only [List.getElem?_toArray, List.getElem?_cons_succ, List.getElem?_cons_zero]; rfl
        case hQ4 => exact fun _ _ _ h => h
        case hw4 => rfl
        case hy4 => intro w hSw; (try dsimp only at hSw); go_simp; (try with_reducible rfl)
        case hr4 =>
        simp only [Act.put, List.setIfInBounds_toArray, List.set_cons_zero, List.set_cons_succ]
        refine wpAnyH_ready (rs := [2]) (by kernel_rfl) (by simp) (AllReadyH.cons (o := ?oc5) ?hc5 (fun K hK => ?hs5) AllReadyH.nil)
        case hc5 => simp only [List.getElem?_toArray, List.getElem?_cons_succ, List.getElem?_cons_zero]; rfl
        case hs5 =>
        rw [if_pos (by rfl)]
        go_simp
        go_at_call 10; refine HDF.out.mono ?_; rintro e w3 ⟨rfl, O2, σ2, hc, ht, hk⟩; have HT3 := Lib.hid (And.intro hc (And.intro ht hk)); have HE3 := Lib.hid ((hk.2 g9 HG9.out.1 HG9.out.2.1 HG9.out.2.2.1).1.trans HE9.out); clear hc ht hk
        go_wp2_with fail
        refine hK.out _ _ ?_ (fun hHeld => ?_)
        · exact ⟨cell_heap HE3.out 0 rfl, cell_heap HE3.out 1 rfl, cell_heap HE3.out 2 rfl, cell_heap HE3.out 3 rfl, cell_heap HE3.out 4 rfl⟩
        clear hK K
        try simp only [Act.put, List.setIfInBounds_toArray, List.set_cons_zero, List.set_cons_succ]
        refine wpAnyH_ready (rs := [5]) (by kernel_rfl) (by simp) (AllReadyH.cons (o := ?oc6) ?hc6 (fun K hK => ?hs6) AllReadyH.nil)
        case hc6 => simp only [List.getElem?_toArray, List.getElem?_cons_succ, List.getElem?_cons_zero]; rfl
        case hs6 =>
        rw [if_pos (by rfl)]
        go_simp
        go_at_call 11; refine (HDG.out _ _ _ HT3.out.2.1).mono ?_; rintro e w4 ⟨rfl, Q2, ρ2, hc, ht, hk⟩; obtain ⟨bs2, hd4⟩ := HDN.out _ _ _ _ _ HT3.out.1 hc ht; have HD4 := Lib.hid hd4; have HT4 := Lib.hid (And.intro hc (And.intro ht hk)); have HE4 := Lib.hid ((hk.2 g9 (Nat.lt_of_lt_of_le HG9.out.1 HT3.out.2.2.1) (HT3.out.2.2.2 g9 HG9.out.1 HG9.out.2.1 HG9.out.2.2.1).2.1 HG9.out.2.2.1).1.trans HE3.out); clear hc ht hk hd4
        go_wp2_with fail
        refine hK.out _ _ ?_ (fun hHeld => ?_)
        · exact ⟨cell_heap HE4.out 0 rfl, cell_heap HE4.out 1 rfl, cell_heap HE4.out 2 rfl, cell_heap HE4.out 3 rfl, cell_heap HE4.out 4 rfl⟩
        clear hK K
        try simp only [Act.put, List.setIfInBounds_toArray, List.set_cons_zero, List.set_cons_succ]
        refine wpAnyH_take (i := 6) (oi := ?oi7) (v := ?v7) ?hi7 (by kernel_rfl) (by kernel_rfl) (by kernel_rfl) ?hQ7 (Or.inl ⟨?hw7, ?hy7⟩) (by assumption) ?hr7
        case hi7 => simp only [List.getElem?_toArray, List.getElem?_cons_succ, List.getElem?_cons_zero]; rfl
        case hQ7 => exact fun _ _ _ h => h
        case hw7 => rfl
        case hy7 => intro w hSw; (try dsimp only at hSw); go_simp; (try with_reducible rfl)
        case hr7 =>
        simp only [Act.put, List.setIfInBounds_toArray, List.set_cons_zero, List.set_cons_succ]
        refine wpAnyH_take (i := 7) (oi := ?oi8) (v := ?v8) ?hi8 (by kernel_rfl) (by kernel_rfl) (by kernel_rfl) ?hQ8 (Or.inl ⟨?hw8, ?hy8⟩) (by assumption) ?hr8
        case hi8 => simp only [List.getElem?_toArray, List.getElem?_cons_succ, List.getElem?_cons_zero]; rfl
        case hQ8 => exact fun _ _ _ h => h
        case hw8 => rfl
        case hy8 => intro w hSw; (try dsimp only at hSw); go_simp; (try with_reducible rfl)
        case hr8 =>
        simp only [Act.put, List.setIfInBounds_toArray, List.set_cons_zero, List.set_cons_succ]
        refine wpAnyH_take (i := 8) (oi := ?oi9) (v := ?v9) ?hi9 (by kernel_rfl) (by kernel_rfl) (by kernel_rfl) ?hQ9 (Or.inl ⟨?hw9, ?hy9⟩) (by assumption) ?hr9
        case hi9 => simp only [List.getElem?_toArray, List.getElem?_cons_succ, List.getElem?_cons_zero]; rfl
        case hQ9 => exact fun _ _ _ h => h
        case hw9 => rfl
        case hy9 => intro w hSw; (try dsimp only at hSw); go_simp; (try with_reducible rfl)
        case hr9 =>
        simp only [Act.put, List.setIfInBounds_toArray, List.set_cons_zero, List.set_cons_succ]
        refine wpAnyH_take (i := 9) (oi := ?oi10) (v := ?v10) ?hi10 (by kernel_rfl) (by kernel_rfl) (by kernel_rfl) ?hQ10 (Or.inl ⟨?hw10, ?hy10⟩) (by assumption) ?hr10
        case hi10 => simp only [List.getElem?_toArray, List.getElem?_cons_succ, List.getElem?_cons_zero]; rfl
        case hQ10 => exact fun _ _ _ h => h
        case hw10 => rfl
        case hy10 => intro w hSw; (try dsimp only at hSw); go_simp; (try with_reducible rfl)
        case hr10 =>
        simp only [Act.put, List.setIfInBounds_toArray, List.set_cons_zero, List.set_cons_succ]
        refine wpAnyH_take (i := 10) (oi := ?oi11) (v := ?v11) ?hi11 (by kernel_rfl) (by kernel_rfl) (by kernel_rfl) ?hQ11 (Or.inl ⟨?hw11, ?hy11⟩) (by assumption) ?hr11
        case hi11 => simp only [List.getElem?_toArray, List.getElem?_cons_succ, List.getElem?_cons_zero]; rfl
        case hQ11 => exact fun _ _ _ h => h
        case hw11 => rfl
        case hy11 => intro w hSw; (try dsimp only at hSw); go_simp; (try with_reducible rfl)
        case hr11 =>
        simp only [Act.put, List.setIfInBounds_toArray, List.set_cons_zero, List.set_cons_succ]
        refine wpAnyH_take (i := 11) (oi := ?oi12) (v := ?v12) ?hi12 (by kernel_rfl) (by kernel_rfl) (by kernel_rfl) ?hQ12 (Or.inl ⟨?hw12, ?hy12⟩) (by assumption) ?hr12
        case hi12 => simp only [List.getElem?_toArray, List.getElem?_cons_succ, List.getElem?_cons_zero]; rfl
        case hQ12 => exact fun _ _ _ h => h
        case hw12 => rfl
        case hy12 => intro w hSw; (try dsimp only at hSw); go_simp; (try with_reducible rfl)
        case hr12 =>
        simp only [Act.put, List.setIfInBounds_toArray, List.set_cons_zero, List.set_cons_succ]
        refine wpAnyH_ready (rs := [12]) (by kernel_rfl) (by simp) (AllReadyH.cons (o := ?oc13) ?hc13 (fun K hK => ?hs13) AllReadyH.nil)
        case hc13 => simp only [List.getElem?_toArray, List.getElem?_cons_succ, List.getElem?_cons_zero]; rfl
        case hs13 =>
        rw [if_pos (by rfl)]
        go_simp
        go_at_call 12; refine (HSP.out _ _ _ _ _ _ HD4.out).mono ?_; rintro e w5 ⟨rfl, k5⟩; have HK5 := Lib.hid k5; have HE5 := Lib.hid (k5.heap HE4.out (by simp)); clear k5
        go_wp2_with fail
        refine hK.out _ _ ?_ (fun hHeld => ?_)
        · exact ⟨cell_heap HE5.out 0 rfl, cell_heap HE5.out 1 rfl, cell_heap HE5.out 2 rfl, cell_heap HE5.out 3 rfl, cell_heap HE5.out 4 rfl⟩
        clear hK K
        try simp only [Act.put, List.setIfInBounds_toArray, List.set_cons_zero, List.set_cons_succ]
        refine wpAnyH_take (i := 13) (oi := ?oi14) (v := ?v14) ?hi14 (by kernel_rfl) (by kernel_rfl) (by kernel_rfl) ?hQ14 (Or.inl ⟨?hw14, ?hy14⟩) (by assumption) ?hr14
        case hi14 => simp only [List.getElem?_toArray, List.getElem?_cons_succ, List.getElem?_cons_zero]; rfl
        case hQ14 => exact fun _ _ _ h => h
        case hw14 => rfl
        case hy14 => intro w hSw; (try dsimp only at hSw); go_simp; (try with_reducible rfl)
        case hr14 =>
        simp only [Act.put, List.setIfInBounds_toArray, List.set_cons_zero, List.set_cons_succ]
        refine wpAnyH_take (i := 14) (oi := ?oi15) (v := ?v15) ?hi15 (by kernel_rfl) (by kernel_rfl) (by kernel_rfl) ?hQ15 (Or.inl ⟨?hw15, ?hy15⟩) (by assumption) ?hr15
        case hi15 => simp only [List.getElem?_toArray, List.getElem?_cons_succ, List.getElem?_cons_zero]; rfl
        case hQ15 => exact fun _ _ _ h => h
        case hw15 => rfl
        case hy15 => intro w hSw; (try dsimp only at hSw); go_simp; (try with_reducible rfl)
        case hr15 =>
        simp only [Act.put, List.setIfInBounds_toArray, List.set_cons_zero, List.set_cons_succ]
        refine wpAnyH_take (i := 15) (oi := ?oi16) (v := ?v16) ?hi16 (by kernel_rfl) (by kernel_rfl) (by kernel_rfl) ?hQ16 (Or.inl ⟨?hw16, ?hy16⟩) (by assumption) ?hr16
        case hi16 => simp only [List.getElem?_toArray, List.getElem?_cons_succ, List.getElem?_cons_zero]; rfl
        case hQ16 => exact fun _ _ _ h => h
        case hw16 => rfl
        case hy16 => intro w hSw; (try dsimp only at hSw); go_simp; (try with_reducible rfl)
        case hr16 =>
        simp only [Act.put, List.setIfInBounds_toArray, List.set_cons_zero, List.set_cons_succ]
        refine wpAnyH_take (i := 16) (oi := ?oi17) (v := ?v17) ?hi17 (by kernel_rfl) (by kernel_rfl) (by kernel_rfl) ?hQ17 (Or.inl ⟨?hw17, ?hy17⟩) (by assumption) ?hr17
        case hi17 => simp only [List.getElem?_toArray, List.getElem?_cons_succ, List.getElem?_cons_zero]; rfl
        case hQ17 => exact fun _ _ _ h => h
        case hw17 => rfl
        case hy17 => intro w hSw; (try dsimp only at hSw); go_simp; (try with_reducible rfl)
        case hr17 =>
        simp only [Act.put, List.setIfInBounds_toArray, List.set_cons_zero, List.set_cons_succ]
        refine wpAnyH_take (i := 17) (oi := ?oi18) (v := ?v18) ?hi18 (by kernel_rfl) (by kernel_rfl) (by kernel_rfl) ?hQ18 (Or.inl ⟨?hw18, ?hy18⟩) (by assumption) ?hr18
        case hi18 => simp only [List.getElem?_toArray, List.getElem?_cons_succ, List.getElem?_cons_zero]; rfl
        case hQ18 => exact fun _ _ _ h => h
        case hw18 => rfl
        case hy18 => intro w hSw; (try dsimp only at hSw); go_simp; (try with_reducible rfl)
        case hr18 =>
        simp only [Act.put, List.setIfInBounds_toArray, List.set_cons_zero, List.set_cons_succ]
        refine wpAnyH_take (i := 18) (oi := ?oi19) (v := ?v19) ?hi19 (by kernel_rfl) (by kernel_rfl) (by kernel_rfl) ?hQ19 (Or.inl ⟨?hw19, ?hy19⟩) (by assumption) ?hr19
        case hi19 => simp only [List.getElem?_toArray, List.getElem?_cons_succ, List.getElem?_cons_zero]; rfl
        case hQ19 => exact fun _ _ _ h => h
        case hw19 => rfl
        case hy19 => intro w hSw; (try dsimp only at hSw); go_simp; (try with_reducible rfl)
        case hr19 =>
        simp only [Act.put, List.setIfInBounds_toArray, List.set_cons_zero, List.set_cons_succ]
        refine wpAnyH_take (i := 19) (oi := ?oi20) (v := ?v20) ?hi20 (by kernel_rfl) (by kernel_rfl) (by kernel_rfl) ?hQ20 (Or.inl ⟨?hw20, ?hy20⟩) (by assumption) ?hr20
        case hi20 => simp only [List.getElem?_toArray, List.getElem?_cons_succ, List.getElem?_cons_zero]; rfl
        case hQ20 => exact fun _ _ _ h => h
        case hw20 => rfl
        case hy20 => intro w hSw; (try dsimp only at hSw); go_simp; (try with_reducible rfl)
        case hr20 =>
        simp only [Act.put, List.setIfInBounds_toArray, List.set_cons_zero, List.set_cons_succ]
        refine wpAnyH_ready (rs := [20]) (by kernel_rfl) (by simp) (AllReadyH.cons (o := ?oc21) ?hc21 (fun K hK => ?hs21) AllReadyH.nil)
        case hc21 => simp only [List.getElem?_toArray, List.getElem?_cons_succ, List.getElem?_cons_zero]; rfl
        case hs21 =>
        rw [if_pos (by rfl)]
        go_simp
        go_at_call 12; refine (HST.out _ _ _ _ _ _ (HD4.out.quiet HK5.out)).mono ?_; rintro e w6 ⟨rfl, k6⟩; have HK6 := Lib.hid (HK5.out.trans k6); have HE6 := Lib.hid (k6.heap HE5.out (by simp)); clear k6
        go_wp2_with fail
        refine hK.out _ _ ?_ (fun hHeld => ?_)
        · exact ⟨cell_heap HE6.out 0 rfl, cell_heap HE6.out 1 rfl, cell_heap HE6.out 2 rfl, cell_heap HE6.out 3 rfl, cell_heap HE6.out 4 rfl⟩
        clear hK K
        try simp only [Act.put, List.setIfInBounds_toArray, List.set_cons_zero, List.set_cons_succ]
        refine wpAnyH_take (i := 21) (oi := ?oi22) (v := ?v22) ?hi22 (by kernel_rfl) (by kernel_rfl) (by kernel_rfl) ?hQ22 (Or.inl ⟨?hw22, ?hy22⟩) (by assumption) ?hr22
        case hi22 => simp only [List.getElem?_toArray, List.getElem?_cons_succ, List.getElem?_cons_zero]; rfl
        case hQ22 => exact fun _ _ _ h => h
        case hw22 => rfl
        case hy22 => intro w hSw; (try dsimp only at hSw); go_simp; (try with_reducible rfl)
        case hr22 =>
        simp only [Act.put, List.setIfInBounds_toArray, List.set_cons_zero, List.set_cons_succ]
        refine wpAnyH_take (i := 22) (oi := ?oi23) (v := ?v23) ?hi23 (by kernel_rfl) (by kernel_rfl) (by kernel_rfl) ?hQ23 (Or.inl ⟨?hw23, ?hy23⟩) (by assumption) ?hr23
        case hi23 => simp only [List.getElem?_toArray, List.getElem?_cons_succ, List.getElem?_cons_zero]; rfl
        case hQ23 => exact fun _ _ _ h => h
        case hw23 => rfl
        case hy23 => intro w hSw; (try dsimp only at hSw); go_simp; (try with_reducible rfl)
        case hr23 =>
        simp only [Act.put, List.setIfInBounds_toArray, List.set_cons_zero, List.set_cons_succ]
        refine wpAnyH_take (i := 23) (oi := ?oi24) (v := ?v24) ?hi24 (by kernel_rfl) (by kernel_rfl) (by kernel_rfl) ?hQ24 (Or.inl ⟨?hw24, ?hy24⟩) (by assumption) ?hr24
        case hi24 => simp only [List.getElem?_toArray, List.getElem?_cons_succ, List.getElem?_cons_zero]; rfl
        case hQ24 => exact fun _ _ _ h => h
        case hw24 => rfl
        case hy24 => intro w hSw; (try dsimp only at hSw); go_simp; (try with_reducible rfl)
        case hr24 =>
        simp only [Act.put, List.setIfInBounds_toArray, List.set_cons_zero, List.set_cons_succ]
        refine wpAnyH_take (i := 24) (oi := ?oi25) (v := ?v25) ?hi25 (by kernel_rfl) (by kernel_rfl) (by kernel_rfl) ?hQ25 (Or.inl ⟨?hw25, ?hy25⟩) (by assumption) ?hr25
        case hi25 => simp only [List.getElem?_toArray, List.getElem?_cons_succ, List.getElem?_cons_zero]; rfl
        case hQ25 => exact fun _ _ _ h => h
        case hw25 => rfl
        case hy25 => intro w hSw; (try dsimp only at hSw); go_simp; (try with_reducible rfl)
        case hr25 =>
        simp only [Act.put, List.setIfInBounds_toArray, List.set_cons_zero, List.set_cons_succ]
        refine wpAnyH_take (i := 25) (oi := ?oi26) (v := ?v26) ?hi26 (by kernel_rfl) (by kernel_rfl) (by kernel_rfl) ?hQ26 (Or.inl ⟨?hw26, ?hy26⟩) (by assumption) ?hr26
        case hi26 => simp only [List.getElem?_toArray, List.getElem?_cons_succ, List.getElem?_cons_zero]; rfl
        case hQ26 => exact fun _ _ _ h => h
        case hw26 => rfl
        case hy26 => intro w hSw; (try dsimp only at hSw); go_simp; (try with_reducible rfl)
        case hr26 =>
        simp only [Act.put, List.setIfInBounds_toArray, List.set_cons_zero, List.set_cons_succ]
        refine wpAnyH_ready (rs := [26]) (by kernel_rfl) (by simp) (AllReadyH.cons (o := ?oc27) ?hc27 (fun K hK => ?hs27) AllReadyH.nil)
        case hc27 => simp only [List.getElem?_toArray, List.getElem?_cons_succ, List.getElem?_cons_zero]; rfl
        case hs27 =>
        rw [if_pos (by rfl)]
        go_simp
        go_at_call 12; refine (HSR.out _ _ _ _ _ _ (HD4.out.quiet HK6.out)).mono ?_; rintro e w7 ⟨rfl, k7⟩; have HK7 := Lib.hid (HK6.out.trans k7); have HE7 := Lib.hid (k7.heap HE6.out (by simp)); clear k7
        go_wp2_with fail
        refine hK.out _ _ ?_ (fun hHeld => ?_)
        · exact ⟨cell_heap HE7.out 0 rfl, cell_heap HE7.out 1 rfl, cell_heap HE7.out 2 rfl, cell_heap HE7.out 3 rfl, cell_heap HE7.out 4 rfl⟩
        clear hK K
        try simp only [Act.put, List.setIfInBounds_toArray, List.set_cons_zero, List.set_cons_succ]
        refine wpAnyH_take (i := 27) (oi := ?oi28) (v := ?v28) ?hi28 (by kernel_rfl) (by kernel_rfl) (by kernel_rfl) ?hQ28 (Or.inl ⟨?hw28, ?hy28⟩) (by assumption) ?hr28
        case hi28 => simp only [List.getElem?_toArray, List.getElem?_cons_succ, List.getElem?_cons_zero]; rfl
        case hQ28 => exact fun _ _ _ h => h
        case hw28 => rfl
        case hy28 => intro w hSw; (try dsimp only at hSw); go_simp; (try with_reducible rfl)
        case hr28 =>
        simp only [Act.put, List.setIfInBounds_toArray, List.set_cons_zero, List.set_cons_succ]
        refine wpAnyH_take (i := 28) (oi := ?oi29) (v := ?v29) ?hi29 (by kernel_rfl) (by kernel_rfl) (by kernel_rfl) ?hQ29 (Or.inl ⟨?hw29, ?hy29⟩) (by assumption) ?hr29
        case hi29 => simp only [List.getElem?_toArray, List.getElem?_cons_succ, List.getElem?_cons_zero]; rfl
        case hQ29 => exact fun _ _ _ h => h
        case hw29 => rfl
        case hy29 => intro w hSw; (try dsimp only at hSw); go_simp; (try with_reducible rfl)
        case hr29 =>
        simp only [Act.put, List.setIfInBounds_toArray, List.set_cons_zero, List.set_cons_succ]
        refine wpAnyH_done (by kernel_rfl) ?_ _
        have HD7 := Lib.hid (HD4.out.quiet HK7.out)
        have h9n : g9 ∉ O2 ∧ g9 ∉ Q2 := by
          obtain ⟨_, b1, _⟩ := HT3.out.2.2.2 g9 HG9.out.1 HG9.out.2.1 HG9.out.2.2.1
          obtain ⟨_, _, b4⟩ := HT4.out.2.2.2 g9 (Nat.lt_of_lt_of_le HG9.out.1 HT3.out.2.2.1) b1 HG9.out.2.2.1
          exact ⟨b1, b4⟩
        have HG7 := Lib.hid h9n
        clear h9n HT3 HT4 HD4 HK5 HK6 HK7 HDF HDG HDN HSP HST HSR hHeld HE9 HE3 HE4 HE5 HE6 HD HG9
        have d1 : w7.cell? ⟨g9, 1, none⟩ = some (.string P5) := cell_heap HE7.out 1 rfl
        have hn2 : 3 * k + 2 ≤ 9000 := by omega
        by_cases hL : listE σ2 pp = 0
        · have hl1 := duoList w w7 pp HD7.out hn2 hL
          have hl2 := fun W hh => duoRList w w7 W pp HD7.out hn2 hL hh
          rw [← HPP.out] at hl1 hl2
          have HL1 := Lib.hid hl1
          have HL2 := Lib.hid hl2
          clear hl1 hl2
          go_upto_region 14 with (go_at_call 13; refine HL1.out.mono ?_; rintro e w8 ⟨a8, m8, c8, rfl, hm8, hown8, hh8, k8⟩; have d2 := k8.cell d1 HG7.out.1; have HH8 := Lib.hid (And.intro hm8 (And.intro hown8 (And.intro hh8 k8))); clear hm8 hown8 hh8 k8)
          go_upto_region 15 with (go_at_call 14; refine (HL2.out _ HH8.out.2.2.1).mono ?_; rintro e w9 ⟨a9, m9, c9, rfl, hm9, hown9, hd9, k9⟩; have HH9 := Lib.hid (And.intro hm9 (And.intro hown9 (And.intro hd9 k9))); clear hm9 hown9 hd9 k9)
          obtain rfl : m9 = m8 := HH9.out.1.trans HH8.out.1.symm
          have ho8 := own_keepS HH8.out.2.1 HH9.out.2.2.2 (fun g hg hm => by have := own_block_ge HH8.out.2.1 hg; have := HD7.out.half.ref.lt g hm; omega)
          have hml : m9 ≤ 140737488355328 := by
            have h1 := namesR_le ρ2.paths pp ρ2.paths.length (Nat.le_refl _)
            rw [List.take_length, ← HH9.out.1] at h1
            have := HD7.out.num.plen
            omega
          have HEQ := Lib.hid (equalS w9 _ _ a8 a9 m9 c8 c9 _ hml ho8 HH9.out.2.1)
          clear ho8 hml
          go_wp2_with (go_at_call 15; refine HEQ.out.mono ?_; rintro e w10 ⟨rfl, q, hw10⟩; have HK10 := Lib.hid (show Chg [] w9 w10 by rw [hw10]; exact (Chg.refl _ _).drewN q); clear hw10)
          go_roundw
          case rel => exact ⟨k + 1, by omega, by go_num, O2, _, Q2, _, bs2, HH9.out.2.2.1.quiet HK10.out⟩
          case measure => simp [intOf]; omega
        · have hl1 := fun W (kk : Chg [] w7 W) => duoListN w W pp (HD7.out.quiet kk) hn2 hL
          have hl2 := fun W (kk : Chg [] w7 W) => duoRListN w W pp (HD7.out.quiet kk) hn2 hL
          rw [← HPP.out] at hl1 hl2
          have HL1 := Lib.hid hl1
          have HL2 := Lib.hid hl2
          clear hl1 hl2 hL
          generalize listE σ2 pp = LE at *
          go_upto_region 14 with (go_at_call 13; refine (HL1.out _ (Chg.refl _ _)).mono ?_; rintro e w8 ⟨rfl, k8⟩; have d2 := k8.cell d1 (by simp); have HK8 := Lib.hid k8; clear k8)
          go_upto_region 15 with (go_at_call 14; refine (HL2.out _ HK8.out).mono ?_; rintro e w9 ⟨rfl, k9⟩; have HK9 := Lib.hid (HK8.out.trans k9); clear k9)
          have HEQ := Lib.hid (equalS w9 0 0 none none 0 0 0 [] (by omega) ⟨rfl, .inl ⟨rfl, rfl⟩⟩ ⟨rfl, .inl ⟨rfl, rfl⟩⟩)
          go_wp2_with (go_at_call 15; refine HEQ.out.mono ?_; rintro e w10 ⟨rfl, q, hw10⟩; have HK10 := Lib.hid (show Chg [] w9 w10 by rw [hw10]; exact (Chg.refl _ _).drewN q); clear hw10)
          go_roundw
          case rel => exact ⟨k + 1, by omega, by go_num, O2, _, Q2, _, bs2, (HD7.out.quiet (HK9.out.trans HK10.out)).upto (by omega)⟩
          case measure => simp [intOf]; omega
      · have hkk : k = N := by omega
        subst hkk
        go_wp2_with (go_at_call 6; refine (HAL.out _ HD.out.half.live.chg).mono ?_; rintro e w4 ⟨rfl, k⟩; have HK4 := Lib.hid (HD.out.half.live.chg.trans k); clear k)
        go_ret
        exact ⟨rfl, HK4.out⟩
  · rw [tooE_one g1] at HT
    generalize L.length = N at *
    go_wp2_with (first
      | (go_at_call 5; refine (HT.out _ HK0.out).mono ?_; rintro e w1 ⟨rfl, k⟩; have HK1 := Lib.hid (HK0.out.trans k); clear k)
      | (go_at_call 6; refine (HAL.out _ HK1.out).mono ?_; rintro e w4 ⟨rfl, k⟩; have HK4 := Lib.hid (HK1.out.trans k); clear k))
    go_ret
    exact ⟨rfl, HK4.out⟩
end Go.Proofs.YtoionaeimnmcbaaGreatDoor
