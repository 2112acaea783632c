/- paxtarlaw20.WalkPathsAreComplete: the walk. -/
import Derived.Deep.RegionHeld3
import Derived.Test.YtfhiioopimmahaaGreatDoorPC19
namespace Go.Proofs.YtfhiioopimmahaaGreatDoor
open Go.RowKit Go.Pax Go.Shelf
set_option maxRecDepth 100000 in
set_option maxHeartbeats 16000000 in
theorem pathsComplete (w : World) (ro lo : Option Addr) (rc lc : Nat) (rb : List UInt8) (L : List AAct) (fp : List Nat) (hkeys : KeysAt w) (hrl : rb.length ≤ 140737488355328) (hr : Rd w fp ro (bv rb)) (h : RdAct w fp lo L) (hwf : ∀ y ∈ L, y.wf) (hll : L.length ≤ 140737488355328) :
    Calls Tryz.prog 4 #[.slice ro rb.length rc, .slice lo L.length lc] w fun e w' => e = .returned (.bool true) ∧ Chg [] w w' := by
  have HT := Lib.hid (fun W (k : Chg [] w W) => tooLarge W lo lc L fp (fun i x hx => by
    obtain ⟨ad, a, c, h1, h2, c0, c1, c2, c3, c4, h8, h9⟩ := h i x hx
    exact ⟨ad, a, c, h1, h2, k.cell c0 (by simp), k.cell c1 (by simp), k.cell c2 (by simp), k.cell c3 (by simp), k.cell c4 (by simp), h8, h9.chg k (by simp)⟩) hwf hll)
  have H := Lib.hid h
  have HWF := Lib.hid hwf
  have HAL := Lib.hid (fun W (k : Chg [] w W) => alive20 W (hkeys.chg k (by simp)))
  have HOP := Lib.hid (fun W (k : Chg [] w W) n (hn : rb.length = n) (hl : n ≤ 50) => options W 0 0 rb n ro rc fp (by omega) (by omega) hn (by omega) (hr.chg k (by simp)))
  have HBU := Lib.hid (fun W oa oc B (k : Chg [] w W) (hl : L.length ≤ 40) (hn : rb.length ≤ 50) hown => build w W (1 + 0) (1 + 0) (by unfold inOpt; omega) (by unfold inOpt; omega) rb rb.length oa oc rfl hn k B hown lo lc L fp hkeys h hwf hl)
  clear h hwf hkeys hr
  generalize hNR : rb.length = NR at *
  have HNR := Lib.hid hNR
  clear hNR
  go_enter Tryz.func4, Tryz.ntmps4
  by_cases g1 : tooE L = 0
  · have htz := tooE_zero g1
    rw [g1] at HT
    have HTZ := Lib.hid htz
    clear g1 htz
    by_cases g2 : 50 < NR
    · generalize L.length = N at *
      go_wp2_with (first
        | (go_at_call 8; refine (HT.out _ (Chg.refl _ _)).mono ?_; rintro e w1 ⟨rfl, k⟩; have HK1 := Lib.hid k; clear k)
        | (go_at_call 9; refine (HAL.out _ HK1.out).mono ?_; rintro e w4 ⟨rfl, k⟩; have HK4 := Lib.hid (HK1.out.trans k); clear k))
      go_ret
      exact ⟨rfl, HK4.out⟩
    have hnr50 : NR ≤ 50 := by omega
    have hn40 : L.length ≤ 40 := HTZ.out.1
    generalize hN : L.length = N at *
    have HN := Lib.hid hN
    clear hN g2
    go_upto_region 3 with (go_at_call 8; refine (HT.out _ (Chg.refl _ _)).mono ?_; rintro e w1 ⟨rfl, k⟩; have HK1 := Lib.hid k; clear k)
    go_upto_region 6 with (first
      | (go_at_call 11; refine (HOP.out _ HK1.out NR rfl hnr50).mono ?_; rintro e w2 ⟨oa, oc, rfl, hown, k⟩; have HK2 := Lib.hid (HK1.out.trans k); have HOW := Lib.hid hown; clear k hown)
      | (go_at_call 10; refine (HBU.out _ _ _ _ HK2.out hn40 hnr50 HOW.out).mono ?_; rintro e w3 ⟨f, r, O, Q, σ, ρ, bs, rfl, hd, hf⟩; have HS3 := Lib.hid (hd.stood hf); clear hd hf))
    go_upto_region 7 with (go_at_call 14; refine (standPaths w _ f O σ _ HS3.out (by omega)).mono ?_; rintro e w5 ⟨V, pa, pc, k5, rfl, hp, hv, hown, hno, hs⟩; have HS5 := Lib.hid hs; have HV := Lib.hid (And.intro hp hv); have HOW5 := Lib.hid (And.intro hown hno); clear hs hp hv hown hno)
    have hvn : V.length ≤ 121 := by have := HV.out.2; omega
    obtain ⟨hrd, _, _⟩ := own_rd2 HOW5.out.1
    have hsrt := HV.out.1.sorted
    have HIS := Lib.hid (isSortedS w5 _ pa V.length pc V rfl (by omega) hrd hsrt)
    have hk5 : ∀ q, Chg [] w5 (w5.drewN q) := fun q => (Chg.refl [] w5).drewN q
    have HCT := Lib.hid (fun q => (show Calls Tryz.prog 16 #[.slice pa V.length pc, .string ⟨#[]⟩] (w5.drewN q) fun e w' => e = .returned (.bool false) ∧ w' = w5.drewN q from by
      have hc := containsS (w5.drewN q) pa pc _ (V.map ba) ⟨#[]⟩ (by rw [List.length_map]; omega) (hrd.chg (hk5 q) (by simp))
      rw [List.length_map, decide_eq_false (fun h0 => by
        obtain ⟨y, hy, he⟩ := List.mem_map.1 ((idxS_contains _ _ _).1 h0)
        have hy2 : y = [] := by
          have h3 := congrArg ByteArray.toList (he.trans (show (⟨#[]⟩ : ByteArray) = ba [] from rfl))
          rw [ba_tl, ba_tl] at h3
          exact h3
        exact ((HV.out.1.mem y).1 hy).1 hy2)] at hc
      exact hc))
    clear hrd hsrt hk5
    go_upto_region 9 with (first
      | (go_at_call 15; refine HIS.out.mono ?_; rintro e w6 ⟨rfl, q6, rfl⟩)
      | (go_at_call 16; refine (HCT.out _).mono ?_; rintro e w7 ⟨rfl, rfl⟩))
    have hk5 : Chg [] w5 (w5.drewN q6) := (Chg.refl [] w5).drewN q6
    have HS7 := Lib.hid (HS5.out.quiet hk5)
    have HOW7 := Lib.hid (own_chg HOW5.out.1 hk5 (by simp))
    have HNO := Lib.hid HOW5.out.2
    clear hk5 HIS HCT HT HOP HBU HS3 HS5 HOW HOW5 HK1 HK2
    generalize w5.drewN q6 = w7 at *
    go_wp2_with fail
    go_loopw [55] (fun i wr => ∃ k : Nat, k ≤ N ∧ i = .int .i64 k ∧ Chg [] w7 wr) (fun i _ => N - (intOf i).toNat)
    case atStart => exact ⟨0, Nat.zero_le _, rfl, Chg.refl _ _⟩
    case round =>
      obtain ⟨k, hk, rfl, hkr⟩ := hrel
      have HKR := Lib.hid hkr
      clear hkr
      by_cases hlt : k < N
      · have hkL : k < L.length := by rw [HN.out]; exact hlt
        obtain ⟨ad, a5, c5, rfl, c0, c1, c2, c3, c4, hr5, _⟩ := H.out.at (HS7.out.quiet HKR.out).live.chg k _ (List.getElem?_eq_getElem hkL)
        clear hr5
        obtain ⟨kk, mm, ii, lk, ss, tt, uu, mt, hlv, _⟩ := lstatV_at (ls σ k5) L[k].path
        have hls := fun W (kw : Chg [] w7 W) => lstat W f O (ls σ k5) L[k].path (HS7.out.quiet kw).live.fs
        rw [hlv] at hls
        have HLS := Lib.hid hls
        have HBI := Lib.hid (fun W (kw : Chg [] w7 W) => binS W _ pa pc V.length V L[k].path rfl (by omega) (own_chg HOW7.out kw (by simp)) HV.out.1.sorted)
        have HEQ := Lib.hid (show L[k].path ≠ [] → decide (L[k].path ∈ V) = decide (stE (ls σ k5) L[k].path = 0) from fun hne => by
          refine decide_eq_decide.2 ((HV.out.1.mem _).trans ⟨fun h1 => ?_, fun h1 => ⟨hne, ?_⟩⟩)
          · obtain ⟨_, b, hb⟩ := h1
            unfold stE
            have hb2 : lkF (ls σ k5).files L[k].path = some b := hb
            rw [hb2]
          · unfold stE at h1
            have hb2 : (ls σ k5).files = σ.files := rfl
            rw [hb2] at h1
            cases hb : lkF σ.files L[k].path with
            | none => rw [hb] at h1; cases h1
            | some b => exact ⟨b, rfl⟩)
        have HX := Lib.hid (show stE (ls σ k5) L[k].path = 0 ∨ stE (ls σ k5) L[k].path = 19 from by unfold stE; split <;> simp)
        clear hlv hls
        generalize stE (ls σ k5) L[k].path = X at *
        generalize decide (L[k].path ∈ V) = OK at *
        have HPE := Lib.hid (show (L[k].path = [] ∧ ba L[k].path = ⟨#[]⟩) ∨ (L[k].path ≠ [] ∧ (ba L[k].path).toList.isEmpty = false) from by
          by_cases he : L[k].path = []
          · exact .inl ⟨he, by rw [he]; rfl⟩
          · exact .inr ⟨he, by rw [ba_tl]; simpa using he⟩)
        generalize ba L[k].path = P5 at *
        generalize ba L[k].target = T5 at *
        generalize L[k].data.length = dl at *
        generalize L[k].kind = kd at *
        generalize L[k].mode = md at *
        go_upto_region 12 with (fail)
        have hk9 : Chg [] wr (wr.alloc (.cells #[.int .i64 kd, .string P5, .int .i64 md, .slice a5 dl c5, .string T5] 53)) := (Chg.refl _ _).alloc _
        have e9 : (wr.alloc (.cells #[.int .i64 kd, .string P5, .int .i64 md, .slice a5 dl c5, .string T5] 53)).heap[wr.heap.size]? = some (.cells #[.int .i64 kd, .string P5, .int .i64 md, .slice a5 dl c5, .string T5] 53 (0, 0)) := heap_alloc_new _ _
        have HK9 := Lib.hid (HKR.out.trans hk9)
        have HE9 := Lib.hid e9
        clear hk9 e9 c0 c1 c2 c3 c4
        generalize wr.alloc (.cells #[.int .i64 kd, .string P5, .int .i64 md, .slice a5 dl c5, .string T5] 53) = W9 at *
        generalize wr.heap.size = g9 at *
        have d1 := cell_heap HE9.out 1 (v := .string P5) rfl
        go_upto_region 13 with (go_at_call 13; refine (HLS.out _ HK9.out).mono ?_; rintro e w10 ⟨rfl, k10⟩; have HK10 := Lib.hid (HK9.out.trans k10); have HE10 := Lib.hid (k10.heap HE9.out (by simp)); clear k10)
        clear d1
        have hk11 : Chg [] w10 (w10.alloc (.cells #[.int .i64 kk, .int .i64 mm, .int .i64 ii, .int .i64 lk, .int .i64 ss, .string tt, .int .i64 uu, .int .i64 mt] 40)) := (Chg.refl _ _).alloc _
        have HK11 := Lib.hid (HK10.out.trans hk11)
        have HE11 := Lib.hid (hk11.heap HE10.out (by simp))
        clear hk11
        generalize w10.alloc (.cells #[.int .i64 kk, .int .i64 mm, .int .i64 ii, .int .i64 lk, .int .i64 ss, .string tt, .int .i64 uu, .int .i64 mt] 40) = W11 at *
        generalize w10.heap.size = g11 at *
        have d1 := cell_heap HE11.out 1 (v := .string P5) rfl
        go_upto_region 14 with (go_at_call 17; refine (HBI.out _ HK11.out).mono ?_; rintro e w12 ⟨bi, rfl, q12, rfl⟩)
        clear d1
        have HK12 := Lib.hid (HK11.out.trans ((Chg.refl _ W11).drewN q12))
        have HE12 := Lib.hid (((Chg.refl [] W11).drewN q12).heap HE11.out (by simp))
        generalize W11.drewN q12 = W12 at *
        have d1 := cell_heap HE12.out 1 (v := .string P5) rfl
        rcases HPE.out with ⟨h1, rfl⟩ | ⟨h1, h2⟩
        · go_upto_region 16 with (fail)
          go_wp2_with fail
          go_roundw
          case rel => exact ⟨k + 1, by omega, by go_num, HK12.out⟩
          case measure => simp [intOf]; omega
        · have h3 := HEQ.out h1
          rcases HX.out with rfl | rfl
          · obtain rfl : OK = true := by simpa using h3
            clear h3
            go_upto_region 16 with (fail)
            go_wp2_with fail
            go_roundw
            case rel => exact ⟨k + 1, by omega, by go_num, HK12.out⟩
            case measure => simp [intOf]; omega
          · obtain rfl : OK = false := by simpa using h3
            clear h3
            go_upto_region 16 with (fail)
            go_wp2_with fail
            go_roundw
            case rel => exact ⟨k + 1, by omega, by go_num, HK12.out⟩
            case measure => simp [intOf]; omega
      · have hkn : k = N := by omega
        subst hkn
        have HSW := Lib.hid (standWalk w wr f O (ls σ k5) (2 * (3 * k) + 2) (HS7.out.quiet HKR.out) (by omega))
        go_upto_region 18 with (go_at_call 12; refine HSW.out.mono ?_; rintro e w9 ⟨ta, tm, tc, TP, E, rfl, ⟨k9, hs9⟩, hc9, hE9⟩; have HS9 := Lib.hid hs9; have HC9 := Lib.hid hc9; have HE9 := Lib.hid hE9; clear hs9 hc9 hE9)
        by_cases hE : E = 0
        · subst hE
          obtain ⟨V', L', fp', rfl, rfl, hvl, hpo, _, hnd, hfl, hmp⟩ := HE9.out rfl
          obtain rfl : V' = V := hpo.eq ⟨HV.out.1.sorted, HV.out.1.mem⟩
          obtain ⟨hll2, hat⟩ := walked_at hmp
          have hsh := HS7.out.live.chg.size
          have hrow := own_keepS (own_chg HOW7.out HKR.out (by simp)) HC9.out (fun g hg hm => HNO.out g hg hm)
          have HND := Lib.hid hnd
          have HRV := Lib.hid (own_rd2 hrow).1
          have HAT := Lib.hid (show ∀ j, j < V'.length → ∃ x y, L'[j]? = some x ∧ V'[j]? = some y ∧ x.1.path = y from fun j hj => ⟨_, _, List.getElem?_eq_getElem (by omega), List.getElem?_eq_getElem hj, (hat j (by omega) hj).1⟩)
          have HSO := Lib.hid HV.out.1.sorted
          clear hrow hnd hfl hmp hpo hat hvl HE9 HV HS7 HNO HSW HC9 HOW7 hsh HKR
          generalize hM : V'.length = M at *
          go_wp2_with fail
          go_loopw [99] (fun i wr => ∃ j : Nat, j ≤ M ∧ i = .int .i64 j ∧ Chg [] w9 wr) (fun i _ => M - (intOf i).toNat)
          case atStart => exact ⟨0, Nat.zero_le _, rfl, Chg.refl _ _⟩
          case round =>
            obtain ⟨j, hj, rfl, hjr⟩ := hrel
            have HJR := Lib.hid hjr
            clear hjr
            by_cases hlt : j < M
            · obtain ⟨x, y, hx, hy, hxy⟩ := HAT.out j hlt
              obtain ⟨hjL, hx2⟩ := List.getElem?_eq_some_iff.1 hx
              obtain ⟨ad2, rfl, _, _, hc2⟩ := (HND.out.chg HJR.out (by simp)) j hjL
              have hc2 := hc2 1 (.string (ba y)) (by rw [hx2, ← hxy]; rfl)
              have hrv := HRV.out.chg HJR.out (by simp)
              obtain ⟨ad3, rfl, _, hc3⟩ := hrv j (.string (ba y)) (by unfold svn; rw [sv_get _ _ (by simp; omega)]; simp [(List.getElem?_eq_some_iff.1 hy).2])
              rcases Nat.eq_zero_or_pos j with rfl | hj0
              · have z2 : ad2.add (0 * 6) = ad2 := by cases ad2; simp [Addr.add]
                have z3 : ad3.add 0 = ad3 := by cases ad3; simp [Addr.add]
                rw [z2] at hc2
                rw [z3] at hc3
                have HC := Lib.hid (And.intro hc2 hc3)
                clear hc2 hc3 hx hy hxy hx2 hrv HAT HND HRV z2 z3
                generalize ba y = P at *
                go_upto_region 25 with (fail)
                refine wp_region_held_drew (S := fun q => q.cell? ⟨ad2.block, ad2.off + 1, none⟩ = some (.string P) ∧ q.cell? ad3 = some (.string P)) (by kernel_rfl) ?_ (fun hHeld => ?_)
                · exact HC.out
                refine wpAnyH_take (i := 0) (oi := ?oi1) (v := ?v1) ?hi1 (by kernel_rfl) (by kernel_rfl) (by kernel_rfl) ?hQ1 (Or.inl ⟨?hw1, ?hy1⟩) (by assumption) ?hr1
                case hi1 => simp only [List.getElem?_toArray, List.getElem?_cons_zero]; rfl
                case hQ1 => exact fun _ _ _ h => h
                case hw1 => rfl
                case hy1 => intro w hSw; (try dsimp only at hSw); go_simp; (try with_reducible rfl)
                case hr1 =>
                simp only [Act.put, List.setIfInBounds_toArray, List.set_cons_zero, List.set_cons_succ]
                refine wpAnyH_take (i := 1) (oi := ?oi2) (v := ?v2) ?hi2 (by kernel_rfl) (by kernel_rfl) (by kernel_rfl) ?hQ2 (Or.inl ⟨?hw2, ?hy2⟩) (by assumption) ?hr2
                case hi2 => simp only [List.getElem?_toArray, List.getElem?_cons_succ, List.getElem?_cons_zero]; rfl
                case hQ2 => exact fun _ _ _ h => h
                case hw2 => rfl
                case hy2 => intro w hSw; (try dsimp only at hSw); go_simp; (try with_reducible rfl)
                case hr2 =>
                simp only [Act.put, List.setIfInBounds_toArray, List.set_cons_zero, List.set_cons_succ]
                refine wpAnyH_take (i := 2) (oi := ?oi3) (v := ?v3) ?hi3 (by kernel_rfl) (by kernel_rfl) (by kernel_rfl) ?hQ3 (Or.inl ⟨?hw3, ?hy3⟩) (by assumption) ?hr3
                case hi3 => simp only [List.getElem?_toArray, List.getElem?_cons_succ, List.getElem?_cons_zero]; rfl
                case hQ3 => exact fun _ _ _ h => h
                case hw3 => rfl
                case hy3 => intro w hSw; (try dsimp only at hSw); go_simp; (try with_reducible rfl)
                case hr3 =>
                simp only [Act.put, List.setIfInBounds_toArray, List.set_cons_zero, List.set_cons_succ]
                refine wpAnyH_take (i := 3) (oi := ?oi4) (v := ?v4) ?hi4 (by kernel_rfl) (by kernel_rfl) (by kernel_rfl) ?hQ4 (Or.inl ⟨?hw4, ?hy4⟩) (by assumption) ?hr4
                case hi4 => simp only [List.getElem?_toArray, List.getElem?_cons_succ, List.getElem?_cons_zero]; rfl
                case hQ4 => exact fun _ _ _ h => h
                case hw4 => rfl
                case hy4 => intro w hSw; (try dsimp only at hSw); go_simp; (try with_reducible rfl)
                case hr4 =>
                simp only [Act.put, List.setIfInBounds_toArray, List.set_cons_zero, List.set_cons_succ]
                refine wpAnyH_take (i := 4) (oi := ?oi5) (v := ?v5) ?hi5 (by kernel_rfl) (by kernel_rfl) (by kernel_rfl) ?hQ5 (Or.inl ⟨?hw5, ?hy5⟩) (by assumption) ?hr5
                case hi5 => simp only [List.getElem?_toArray, List.getElem?_cons_succ, List.getElem?_cons_zero]; rfl
                case hQ5 => exact fun _ _ _ h => h
                case hw5 => rfl
                case hy5 => intro w hSw; (try dsimp only at hSw); go_simp; (try with_reducible rfl)
                case hr5 =>
                simp only [Act.put, List.setIfInBounds_toArray, List.set_cons_zero, List.set_cons_succ]
                refine wpAnyH_take (i := 5) (oi := ?oi6) (v := ?v6) ?hi6 (by kernel_rfl) (by kernel_rfl) (by kernel_rfl) ?hQ6 (Or.inl ⟨?hw6, ?hy6⟩) (by assumption) ?hr6
                case hi6 => simp only [List.getElem?_toArray, List.getElem?_cons_succ, List.getElem?_cons_zero]; rfl
                case hQ6 => exact fun _ _ _ h => h
                case hw6 => rfl
                case hy6 => intro w hSw; (try dsimp only at hSw); go_simp; (try with_reducible rfl)
                case hr6 =>
                simp only [Act.put, List.setIfInBounds_toArray, List.set_cons_zero, List.set_cons_succ]
                refine wpAnyH_take (i := 6) (oi := ?oi7) (v := ?v7) ?hi7 (by kernel_rfl) (by kernel_rfl) (by kernel_rfl) ?hQ7 (Or.inl ⟨?hw7, ?hy7⟩) (by assumption) ?hr7
                case hi7 => simp only [List.getElem?_toArray, List.getElem?_cons_succ, List.getElem?_cons_zero]; rfl
                case hQ7 => exact fun _ _ _ h => h
                case hw7 => rfl
                case hy7 => intro w hSw; (try dsimp only at hSw); go_simp; (try with_reducible rfl)
                case hr7 =>
                simp only [Act.put, List.setIfInBounds_toArray, List.set_cons_zero, List.set_cons_succ]
                refine wpAnyH_take (i := 7) (oi := ?oi8) (v := ?v8) ?hi8 (by kernel_rfl) (by kernel_rfl) (by kernel_rfl) ?hQ8 (Or.inl ⟨?hw8, ?hy8⟩) (by assumption) ?hr8
                case hi8 => simp only [List.getElem?_toArray, List.getElem?_cons_succ, List.getElem?_cons_zero]; rfl
                case hQ8 => exact fun _ _ _ h => h
                case hw8 => rfl
                case hy8 => intro w hSw; (try dsimp only at hSw); go_simp; (try with_reducible rfl)
                case hr8 =>
                simp only [Act.put, List.setIfInBounds_toArray, List.set_cons_zero, List.set_cons_succ]
                refine wpAnyH_take (i := 8) (oi := ?oi9) (v := ?v9) ?hi9 (by kernel_rfl) (by kernel_rfl) (by kernel_rfl) ?hQ9 (Or.inl ⟨?hw9, ?hy9⟩) (by assumption) ?hr9
                case hi9 => simp only [List.getElem?_toArray, List.getElem?_cons_succ, List.getElem?_cons_zero]; rfl
                case hQ9 => exact fun _ _ _ h => h
                case hw9 => rfl
                case hy9 => intro w hSw; (try dsimp only at hSw); go_simp; (try with_reducible rfl)
                case hr9 =>
                simp only [Act.put, List.setIfInBounds_toArray, List.set_cons_zero, List.set_cons_succ]
                refine wpAnyH_take (i := 9) (oi := ?oi10) (v := ?v10) ?hi10 (by kernel_rfl) (by kernel_rfl) (by kernel_rfl) ?hQ10 (Or.inl ⟨?hw10, ?hy10⟩) (by assumption) ?hr10
                case hi10 => simp only [List.getElem?_toArray, List.getElem?_cons_succ, List.getElem?_cons_zero]; rfl
                case hQ10 => exact fun _ _ _ h => h
                case hw10 => rfl
                case hy10 => intro w hSw; (try dsimp only at hSw); go_simp; (try with_reducible rfl)
                case hr10 =>
                simp only [Act.put, List.setIfInBounds_toArray, List.set_cons_zero, List.set_cons_succ]
                refine wpAnyH_take (i := 10) (oi := ?oi11) (v := ?v11) ?hi11 (by kernel_rfl) (by kernel_rfl) (by kernel_rfl) ?hQ11 (Or.inl ⟨?hw11, ?hy11⟩) (by assumption) ?hr11
                case hi11 => simp only [List.getElem?_toArray, List.getElem?_cons_succ, List.getElem?_cons_zero]; rfl
                case hQ11 => exact fun _ _ _ h => h
                case hw11 => rfl
                case hy11 => intro w hSw; (try dsimp only at hSw); go_simp; (try with_reducible rfl)
                case hr11 =>
                simp only [Act.put, List.setIfInBounds_toArray, List.set_cons_zero, List.set_cons_succ]
                refine wpAnyH_take (i := 11) (oi := ?oi12) (v := ?v12) ?hi12 (by kernel_rfl) (by kernel_rfl) (by kernel_rfl) ?hQ12 (Or.inl ⟨?hw12, ?hy12⟩) (by assumption) ?hr12
                case hi12 => simp only [List.getElem?_toArray, List.getElem?_cons_succ, List.getElem?_cons_zero]; rfl
                case hQ12 => exact fun _ _ _ h => h
                case hw12 => rfl
                case hy12 => intro w hSw; (try dsimp only at hSw); go_simp; (try with_reducible rfl)
                case hr12 =>
                simp only [Act.put, List.setIfInBounds_toArray, List.set_cons_zero, List.set_cons_succ]
                refine wpAnyH_take (i := 12) (oi := ?oi13) (v := ?v13) ?hi13 (by kernel_rfl) (by kernel_rfl) (by kernel_rfl) ?hQ13 (Or.inl ⟨?hw13, ?hy13⟩) (by assumption) ?hr13
                case hi13 => simp only [List.getElem?_toArray, List.getElem?_cons_succ, List.getElem?_cons_zero]; rfl
                case hQ13 => exact fun _ _ _ h => h
                case hw13 => rfl
                case hy13 => intro w hSw; (try dsimp only at hSw); go_simp; (try with_reducible rfl)
                case hr13 =>
                simp only [Act.put, List.setIfInBounds_toArray, List.set_cons_zero, List.set_cons_succ]
                refine wpAnyH_take (i := 13) (oi := ?oi14) (v := ?v14) ?hi14 (by kernel_rfl) (by kernel_rfl) (by kernel_rfl) ?hQ14 (Or.inl ⟨?hw14, ?hy14⟩) (by assumption) ?hr14
                case hi14 => simp only [List.getElem?_toArray, List.getElem?_cons_succ, List.getElem?_cons_zero]; rfl
                case hQ14 => exact fun _ _ _ h => h
                case hw14 => rfl
                case hy14 => intro w hSw; (try dsimp only at hSw); go_simp; (try with_reducible rfl)
                case hr14 =>
                simp only [Act.put, List.setIfInBounds_toArray, List.set_cons_zero, List.set_cons_succ]
                refine wpAnyH_take (i := 14) (oi := ?oi15) (v := undef) ?hi15 (by kernel_rfl) (by kernel_rfl) (by kernel_rfl) ?hQ15 (Or.inr ⟨?hw15, rfl⟩) (by assumption) ?hr15
                case hi15 => simp only [List.getElem?_toArray, List.getElem?_cons_succ, List.getElem?_cons_zero]; rfl
                case hQ15 => exact fun _ _ _ h => h
                case hw15 => rfl
                case hr15 =>
                simp only [Act.put, List.setIfInBounds_toArray, List.set_cons_zero, List.set_cons_succ]
                refine wpAnyH_take (i := 15) (oi := ?oi16) (v := undef) ?hi16 (by kernel_rfl) (by kernel_rfl) (by kernel_rfl) ?hQ16 (Or.inr ⟨?hw16, rfl⟩) (by assumption) ?hr16
                case hi16 => simp only [List.getElem?_toArray, List.getElem?_cons_succ, List.getElem?_cons_zero]; rfl
                case hQ16 => exact fun _ _ _ h => h
                case hw16 => rfl
                case hr16 =>
                simp only [Act.put, List.setIfInBounds_toArray, List.set_cons_zero, List.set_cons_succ]
                refine wpAnyH_take (i := 16) (oi := ?oi17) (v := undef) ?hi17 (by kernel_rfl) (by kernel_rfl) (by kernel_rfl) ?hQ17 (Or.inr ⟨?hw17, rfl⟩) (by assumption) ?hr17
                case hi17 => simp only [List.getElem?_toArray, List.getElem?_cons_succ, List.getElem?_cons_zero]; rfl
                case hQ17 => exact fun _ _ _ h => h
                case hw17 => rfl
                case hr17 =>
                simp only [Act.put, List.setIfInBounds_toArray, List.set_cons_zero, List.set_cons_succ]
                refine wpAnyH_take (i := 17) (oi := ?oi18) (v := undef) ?hi18 (by kernel_rfl) (by kernel_rfl) (by kernel_rfl) ?hQ18 (Or.inr ⟨?hw18, rfl⟩) (by assumption) ?hr18
                case hi18 => simp only [List.getElem?_toArray, List.getElem?_cons_succ, List.getElem?_cons_zero]; rfl
                case hQ18 => exact fun _ _ _ h => h
                case hw18 => rfl
                case hr18 =>
                simp only [Act.put, List.setIfInBounds_toArray, List.set_cons_zero, List.set_cons_succ]
                refine wpAnyH_take (i := 18) (oi := ?oi19) (v := undef) ?hi19 (by kernel_rfl) (by kernel_rfl) (by kernel_rfl) ?hQ19 (Or.inr ⟨?hw19, rfl⟩) (by assumption) ?hr19
                case hi19 => simp only [List.getElem?_toArray, List.getElem?_cons_succ, List.getElem?_cons_zero]; rfl
                case hQ19 => exact fun _ _ _ h => h
                case hw19 => rfl
                case hr19 =>
                simp only [Act.put, List.setIfInBounds_toArray, List.set_cons_zero, List.set_cons_succ]
                refine wpAnyH_take (i := 19) (oi := ?oi20) (v := undef) ?hi20 (by kernel_rfl) (by kernel_rfl) (by kernel_rfl) ?hQ20 (Or.inr ⟨?hw20, rfl⟩) (by assumption) ?hr20
                case hi20 => simp only [List.getElem?_toArray, List.getElem?_cons_succ, List.getElem?_cons_zero]; rfl
                case hQ20 => exact fun _ _ _ h => h
                case hw20 => rfl
                case hr20 =>
                simp only [Act.put, List.setIfInBounds_toArray, List.set_cons_zero, List.set_cons_succ]
                refine wpAnyH_take (i := 20) (oi := ?oi21) (v := undef) ?hi21 (by kernel_rfl) (by kernel_rfl) (by kernel_rfl) ?hQ21 (Or.inr ⟨?hw21, rfl⟩) (by assumption) ?hr21
                case hi21 => simp only [List.getElem?_toArray, List.getElem?_cons_succ, List.getElem?_cons_zero]; rfl
                case hQ21 => exact fun _ _ _ h => h
                case hw21 => rfl
                case hr21 =>
                simp only [Act.put, List.setIfInBounds_toArray, List.set_cons_zero, List.set_cons_succ]
                refine wpAnyH_take (i := 21) (oi := ?oi22) (v := undef) ?hi22 (by kernel_rfl) (by kernel_rfl) (by kernel_rfl) ?hQ22 (Or.inr ⟨?hw22, rfl⟩) (by assumption) ?hr22
                case hi22 => simp only [List.getElem?_toArray, List.getElem?_cons_succ, List.getElem?_cons_zero]; rfl
                case hQ22 => exact fun _ _ _ h => h
                case hw22 => rfl
                case hr22 =>
                simp only [Act.put, List.setIfInBounds_toArray, List.set_cons_zero, List.set_cons_succ]
                refine wpAnyH_take (i := 22) (oi := ?oi23) (v := undef) ?hi23 (by kernel_rfl) (by kernel_rfl) (by kernel_rfl) ?hQ23 (Or.inr ⟨?hw23, rfl⟩) (by assumption) ?hr23
                case hi23 => simp only [List.getElem?_toArray, List.getElem?_cons_succ, List.getElem?_cons_zero]; rfl
                case hQ23 => exact fun _ _ _ h => h
                case hw23 => rfl
                case hr23 =>
                simp only [Act.put, List.setIfInBounds_toArray, List.set_cons_zero, List.set_cons_succ]
                refine wpAnyH_take (i := 23) (oi := ?oi24) (v := undef) ?hi24 (by kernel_rfl) (by kernel_rfl) (by kernel_rfl) ?hQ24 (Or.inr ⟨?hw24, rfl⟩) (by assumption) ?hr24
                case hi24 => simp only [List.getElem?_toArray, List.getElem?_cons_succ, List.getElem?_cons_zero]; rfl
                case hQ24 => exact fun _ _ _ h => h
                case hw24 => rfl
                case hr24 =>
                simp only [Act.put, List.setIfInBounds_toArray, List.set_cons_zero, List.set_cons_succ]
                refine wpAnyH_take (i := 24) (oi := ?oi25) (v := ?v25) ?hi25 (by kernel_rfl) (by kernel_rfl) (by kernel_rfl) ?hQ25 (Or.inl ⟨?hw25, ?hy25⟩) (by assumption) ?hr25
                case hi25 => simp only [List.getElem?_toArray, List.getElem?_cons_succ, List.getElem?_cons_zero]; rfl
                case hQ25 => exact fun _ _ _ h => h
                case hw25 => rfl
                case hy25 => intro w hSw; (try dsimp only at hSw); go_simp; (try with_reducible rfl)
                case hr25 =>
                simp only [Act.put, List.setIfInBounds_toArray, List.set_cons_zero, List.set_cons_succ]
                refine wpAnyH_take (i := 25) (oi := ?oi26) (v := ?v26) ?hi26 (by kernel_rfl) (by kernel_rfl) (by kernel_rfl) ?hQ26 (Or.inl ⟨?hw26, ?hy26⟩) (by assumption) ?hr26
                case hi26 => simp only [List.getElem?_toArray, List.getElem?_cons_succ, List.getElem?_cons_zero]; rfl
                case hQ26 => exact fun _ _ _ h => h
                case hw26 => rfl
                case hy26 => intro w hSw; (try dsimp only at hSw); go_simp; (try with_reducible rfl)
                case hr26 =>
                simp only [Act.put, List.setIfInBounds_toArray, List.set_cons_zero, List.set_cons_succ]
                refine wpAnyH_done (by kernel_rfl) ?_ _
                go_wp2_with fail
                go_roundw
                case rel => exact ⟨0 + 1, by omega, by go_num, (show Chg [] w9 wr.drew from HJR.out.trans (Chg.refl _ _).drew)⟩
                case measure => simp [intOf]; omega
              · obtain ⟨m, hm⟩ : ∃ m : Nat, j = m + 1 := ⟨j - 1, by omega⟩
                obtain ⟨_, z, _, hz, _⟩ := HAT.out m (by omega)
                obtain ⟨ad4, e4, _, hc4⟩ := hrv m (.string (ba z)) (by unfold svn; rw [sv_get _ _ (by simp; omega)]; simp [(List.getElem?_eq_some_iff.1 hz).2])
                cases e4
                have hne : ((ba z).toList == (ba y).toList) = false := by
                  rw [ba_tl, ba_tl, beq_eq_false_iff_ne]
                  intro e
                  obtain ⟨p1, p2⟩ := List.getElem?_eq_some_iff.1 hz
                  obtain ⟨p3, p4⟩ := List.getElem?_eq_some_iff.1 hy
                  have := List.pairwise_iff_getElem.1 HSO.out m j p1 p3 (by omega)
                  rw [p2, p4, e] at this
                  exact slt_irrefl _ this
                have hwr : IntKind.i64.wrap ((j : Int) - 1) = (m : Int) := by rw [show (j : Int) - 1 = m by omega]; exact IntWalk.i64_in _ (by omega)
                have HC := Lib.hid (And.intro hc2 (And.intro hc3 hc4))
                have HM := Lib.hid hm
                have hmM : m < M := by omega
                clear hc2 hc3 hc4 hx hx2 hxy hrv HAT HND HRV hm
                generalize ba y = P at *
                generalize ba z = R at *
                go_upto_region 25 with (fail)
                refine wp_region_held_drew (S := fun q => q.cell? ⟨(ad2.add (j * 6)).block, (ad2.add (j * 6)).off + 1, none⟩ = some (.string P) ∧ q.cell? (ad3.add j) = some (.string P) ∧ q.cell? (ad3.add m) = some (.string R)) (by kernel_rfl) ?_ (fun hHeld => ?_)
                · exact HC.out
                refine wpAnyH_take (i := 0) (oi := ?oi27) (v := ?v27) ?hi27 (by kernel_rfl) (by kernel_rfl) (by kernel_rfl) ?hQ27 (Or.inl ⟨?hw27, ?hy27⟩) (by assumption) ?hr27
                case hi27 => simp only [List.getElem?_toArray, List.getElem?_cons_zero]; rfl
                case hQ27 => exact fun _ _ _ h => h
                case hw27 => rfl
                case hy27 => intro w hSw; (try dsimp only at hSw); go_simp; (try with_reducible rfl)
                case hr27 =>
                simp only [Act.put, List.setIfInBounds_toArray, List.set_cons_zero, List.set_cons_succ]
                refine wpAnyH_take (i := 1) (oi := ?oi28) (v := ?v28) ?hi28 (by kernel_rfl) (by kernel_rfl) (by kernel_rfl) ?hQ28 (Or.inl ⟨?hw28, ?hy28⟩) (by assumption) ?hr28
                case hi28 => simp only [List.getElem?_toArray, List.getElem?_cons_succ, List.getElem?_cons_zero]; rfl
                case hQ28 => exact fun _ _ _ h => h
                case hw28 => rfl
                case hy28 => intro w hSw; (try dsimp only at hSw); go_simp; (try with_reducible rfl)
                case hr28 =>
                simp only [Act.put, List.setIfInBounds_toArray, List.set_cons_zero, List.set_cons_succ]
                refine wpAnyH_take (i := 2) (oi := ?oi29) (v := ?v29) ?hi29 (by kernel_rfl) (by kernel_rfl) (by kernel_rfl) ?hQ29 (Or.inl ⟨?hw29, ?hy29⟩) (by assumption) ?hr29
                case hi29 => simp only [List.getElem?_toArray, List.getElem?_cons_succ, List.getElem?_cons_zero]; rfl
                case hQ29 => exact fun _ _ _ h => h
                case hw29 => rfl
                case hy29 => intro w hSw; (try dsimp only at hSw); go_simp; (try with_reducible rfl)
                case hr29 =>
                simp only [Act.put, List.setIfInBounds_toArray, List.set_cons_zero, List.set_cons_succ]
                refine wpAnyH_take (i := 3) (oi := ?oi30) (v := ?v30) ?hi30 (by kernel_rfl) (by kernel_rfl) (by kernel_rfl) ?hQ30 (Or.inl ⟨?hw30, ?hy30⟩) (by assumption) ?hr30
                case hi30 => simp only [List.getElem?_toArray, List.getElem?_cons_succ, List.getElem?_cons_zero]; rfl
                case hQ30 => exact fun _ _ _ h => h
                case hw30 => rfl
                case hy30 => intro w hSw; (try dsimp only at hSw); go_simp; (try with_reducible rfl)
                case hr30 =>
                simp only [Act.put, List.setIfInBounds_toArray, List.set_cons_zero, List.set_cons_succ]
                refine wpAnyH_take (i := 4) (oi := ?oi31) (v := ?v31) ?hi31 (by kernel_rfl) (by kernel_rfl) (by kernel_rfl) ?hQ31 (Or.inl ⟨?hw31, ?hy31⟩) (by assumption) ?hr31
                case hi31 => simp only [List.getElem?_toArray, List.getElem?_cons_succ, List.getElem?_cons_zero]; rfl
                case hQ31 => exact fun _ _ _ h => h
                case hw31 => rfl
                case hy31 => intro w hSw; (try dsimp only at hSw); go_simp; (try with_reducible rfl)
                case hr31 =>
                simp only [Act.put, List.setIfInBounds_toArray, List.set_cons_zero, List.set_cons_succ]
                refine wpAnyH_take (i := 5) (oi := ?oi32) (v := ?v32) ?hi32 (by kernel_rfl) (by kernel_rfl) (by kernel_rfl) ?hQ32 (Or.inl ⟨?hw32, ?hy32⟩) (by assumption) ?hr32
                case hi32 => simp only [List.getElem?_toArray, List.getElem?_cons_succ, List.getElem?_cons_zero]; rfl
                case hQ32 => exact fun _ _ _ h => h
                case hw32 => rfl
                case hy32 => intro w hSw; (try dsimp only at hSw); go_simp; (try with_reducible rfl)
                case hr32 =>
                simp only [Act.put, List.setIfInBounds_toArray, List.set_cons_zero, List.set_cons_succ]
                refine wpAnyH_take (i := 6) (oi := ?oi33) (v := ?v33) ?hi33 (by kernel_rfl) (by kernel_rfl) (by kernel_rfl) ?hQ33 (Or.inl ⟨?hw33, ?hy33⟩) (by assumption) ?hr33
                case hi33 => simp only [List.getElem?_toArray, List.getElem?_cons_succ, List.getElem?_cons_zero]; rfl
                case hQ33 => exact fun _ _ _ h => h
                case hw33 => rfl
                case hy33 => intro w hSw; (try dsimp only at hSw); go_simp; (try with_reducible rfl)
                case hr33 =>
                simp only [Act.put, List.setIfInBounds_toArray, List.set_cons_zero, List.set_cons_succ]
                refine wpAnyH_take (i := 7) (oi := ?oi34) (v := ?v34) ?hi34 (by kernel_rfl) (by kernel_rfl) (by kernel_rfl) ?hQ34 (Or.inl ⟨?hw34, ?hy34⟩) (by assumption) ?hr34
                case hi34 => simp only [List.getElem?_toArray, List.getElem?_cons_succ, List.getElem?_cons_zero]; rfl
                case hQ34 => exact fun _ _ _ h => h
                case hw34 => rfl
                case hy34 => intro w hSw; (try dsimp only at hSw); go_simp; (try with_reducible rfl)
                case hr34 =>
                simp only [Act.put, List.setIfInBounds_toArray, List.set_cons_zero, List.set_cons_succ]
                refine wpAnyH_take (i := 8) (oi := ?oi35) (v := ?v35) ?hi35 (by kernel_rfl) (by kernel_rfl) (by kernel_rfl) ?hQ35 (Or.inl ⟨?hw35, ?hy35⟩) (by assumption) ?hr35
                case hi35 => simp only [List.getElem?_toArray, List.getElem?_cons_succ, List.getElem?_cons_zero]; rfl
                case hQ35 => exact fun _ _ _ h => h
                case hw35 => rfl
                case hy35 => intro w hSw; (try dsimp only at hSw); go_simp; (try with_reducible rfl)
                case hr35 =>
                simp only [Act.put, List.setIfInBounds_toArray, List.set_cons_zero, List.set_cons_succ]
                refine wpAnyH_take (i := 9) (oi := ?oi36) (v := ?v36) ?hi36 (by kernel_rfl) (by kernel_rfl) (by kernel_rfl) ?hQ36 (Or.inl ⟨?hw36, ?hy36⟩) (by assumption) ?hr36
                case hi36 => simp only [List.getElem?_toArray, List.getElem?_cons_succ, List.getElem?_cons_zero]; rfl
                case hQ36 => exact fun _ _ _ h => h
                case hw36 => rfl
                case hy36 => intro w hSw; (try dsimp only at hSw); go_simp; (try with_reducible rfl)
                case hr36 =>
                simp only [Act.put, List.setIfInBounds_toArray, List.set_cons_zero, List.set_cons_succ]
                refine wpAnyH_take (i := 10) (oi := ?oi37) (v := ?v37) ?hi37 (by kernel_rfl) (by kernel_rfl) (by kernel_rfl) ?hQ37 (Or.inl ⟨?hw37, ?hy37⟩) (by assumption) ?hr37
                case hi37 => simp only [List.getElem?_toArray, List.getElem?_cons_succ, List.getElem?_cons_zero]; rfl
                case hQ37 => exact fun _ _ _ h => h
                case hw37 => rfl
                case hy37 => intro w hSw; (try dsimp only at hSw); go_simp; (try with_reducible rfl)
                case hr37 =>
                simp only [Act.put, List.setIfInBounds_toArray, List.set_cons_zero, List.set_cons_succ]
                refine wpAnyH_take (i := 11) (oi := ?oi38) (v := ?v38) ?hi38 (by kernel_rfl) (by kernel_rfl) (by kernel_rfl) ?hQ38 (Or.inl ⟨?hw38, ?hy38⟩) (by assumption) ?hr38
                case hi38 => simp only [List.getElem?_toArray, List.getElem?_cons_succ, List.getElem?_cons_zero]; rfl
                case hQ38 => exact fun _ _ _ h => h
                case hw38 => rfl
                case hy38 => intro w hSw; (try dsimp only at hSw); go_simp; (try with_reducible rfl)
                case hr38 =>
                simp only [Act.put, List.setIfInBounds_toArray, List.set_cons_zero, List.set_cons_succ]
                refine wpAnyH_take (i := 12) (oi := ?oi39) (v := ?v39) ?hi39 (by kernel_rfl) (by kernel_rfl) (by kernel_rfl) ?hQ39 (Or.inl ⟨?hw39, ?hy39⟩) (by assumption) ?hr39
                case hi39 => simp only [List.getElem?_toArray, List.getElem?_cons_succ, List.getElem?_cons_zero]; rfl
                case hQ39 => exact fun _ _ _ h => h
                case hw39 => rfl
                case hy39 => intro w hSw; (try dsimp only at hSw); go_simp; (try with_reducible rfl)
                case hr39 =>
                simp only [Act.put, List.setIfInBounds_toArray, List.set_cons_zero, List.set_cons_succ]
                refine wpAnyH_take (i := 13) (oi := ?oi40) (v := ?v40) ?hi40 (by kernel_rfl) (by kernel_rfl) (by kernel_rfl) ?hQ40 (Or.inl ⟨?hw40, ?hy40⟩) (by assumption) ?hr40
                case hi40 => simp only [List.getElem?_toArray, List.getElem?_cons_succ, List.getElem?_cons_zero]; rfl
                case hQ40 => exact fun _ _ _ h => h
                case hw40 => rfl
                case hy40 => intro w hSw; (try dsimp only at hSw); go_simp; (try with_reducible rfl)
                case hr40 =>
                simp only [Act.put, List.setIfInBounds_toArray, List.set_cons_zero, List.set_cons_succ]
                refine wpAnyH_take (i := 14) (oi := ?oi41) (v := ?v41) ?hi41 (by kernel_rfl) (by kernel_rfl) (by kernel_rfl) ?hQ41 (Or.inl ⟨?hw41, ?hy41⟩) (by assumption) ?hr41
                case hi41 => simp only [List.getElem?_toArray, List.getElem?_cons_succ, List.getElem?_cons_zero]; rfl
                case hQ41 => exact fun _ _ _ h => h
                case hw41 => rfl
                case hy41 => intro w hSw; (try dsimp only at hSw); go_simp; (try with_reducible rfl)
                case hr41 =>
                simp only [Act.put, List.setIfInBounds_toArray, List.set_cons_zero, List.set_cons_succ]
                refine wpAnyH_take (i := 15) (oi := ?oi42) (v := ?v42) ?hi42 (by kernel_rfl) (by kernel_rfl) (by kernel_rfl) ?hQ42 (Or.inl ⟨?hw42, ?hy42⟩) (by assumption) ?hr42
                case hi42 => simp only [List.getElem?_toArray, List.getElem?_cons_succ, List.getElem?_cons_zero]; rfl
                case hQ42 => exact fun _ _ _ h => h
                case hw42 => rfl
                case hy42 => intro w hSw; (try dsimp only at hSw); go_simp; (try with_reducible rfl)
                case hr42 =>
                simp only [Act.put, List.setIfInBounds_toArray, List.set_cons_zero, List.set_cons_succ]
                refine wpAnyH_take (i := 16) (oi := ?oi43) (v := ?v43) ?hi43 (by kernel_rfl) (by kernel_rfl) (by kernel_rfl) ?hQ43 (Or.inl ⟨?hw43, ?hy43⟩) (by assumption) ?hr43
                case hi43 => simp only [List.getElem?_toArray, List.getElem?_cons_succ, List.getElem?_cons_zero]; rfl
                case hQ43 => exact fun _ _ _ h => h
                case hw43 => rfl
                case hy43 => intro w hSw; (try dsimp only at hSw); go_simp; (try with_reducible rfl)
                case hr43 =>
                simp only [Act.put, List.setIfInBounds_toArray, List.set_cons_zero, List.set_cons_succ]
                refine wpAnyH_take (i := 17) (oi := ?oi44) (v := ?v44) ?hi44 (by kernel_rfl) (by kernel_rfl) (by kernel_rfl) ?hQ44 (Or.inl ⟨?hw44, ?hy44⟩) (by assumption) ?hr44
                case hi44 => simp only [List.getElem?_toArray, List.getElem?_cons_succ, List.getElem?_cons_zero]; rfl
                case hQ44 => exact fun _ _ _ h => h
                case hw44 => rfl
                case hy44 => intro w hSw; (try dsimp only at hSw); go_simp; (try with_reducible rfl)
                case hr44 =>
                simp only [Act.put, List.setIfInBounds_toArray, List.set_cons_zero, List.set_cons_succ]
                refine wpAnyH_take (i := 18) (oi := ?oi45) (v := ?v45) ?hi45 (by kernel_rfl) (by kernel_rfl) (by kernel_rfl) ?hQ45 (Or.inl ⟨?hw45, ?hy45⟩) (by assumption) ?hr45
                case hi45 => simp only [List.getElem?_toArray, List.getElem?_cons_succ, List.getElem?_cons_zero]; rfl
                case hQ45 => exact fun _ _ _ h => h
                case hw45 => rfl
                case hy45 => intro w hSw; (try dsimp only at hSw); go_simp; (try with_reducible rfl)
                case hr45 =>
                simp only [Act.put, List.setIfInBounds_toArray, List.set_cons_zero, List.set_cons_succ]
                refine wpAnyH_take (i := 19) (oi := ?oi46) (v := ?v46) ?hi46 (by kernel_rfl) (by kernel_rfl) (by kernel_rfl) ?hQ46 (Or.inl ⟨?hw46, ?hy46⟩) (by assumption) ?hr46
                case hi46 => simp only [List.getElem?_toArray, List.getElem?_cons_succ, List.getElem?_cons_zero]; rfl
                case hQ46 => exact fun _ _ _ h => h
                case hw46 => rfl
                case hy46 => intro w hSw; (try dsimp only at hSw); go_simp; (try with_reducible rfl)
                case hr46 =>
                simp only [Act.put, List.setIfInBounds_toArray, List.set_cons_zero, List.set_cons_succ]
                refine wpAnyH_take (i := 20) (oi := ?oi47) (v := ?v47) ?hi47 (by kernel_rfl) (by kernel_rfl) (by kernel_rfl) ?hQ47 (Or.inl ⟨?hw47, ?hy47⟩) (by assumption) ?hr47
                case hi47 => simp only [List.getElem?_toArray, List.getElem?_cons_succ, List.getElem?_cons_zero]; rfl
                case hQ47 => exact fun _ _ _ h => h
                case hw47 => rfl
                case hy47 => intro w hSw; (try dsimp only at hSw); go_simp; (try with_reducible rfl)
                case hr47 =>
                simp only [Act.put, List.setIfInBounds_toArray, List.set_cons_zero, List.set_cons_succ]
                refine wpAnyH_take (i := 21) (oi := ?oi48) (v := ?v48) ?hi48 (by kernel_rfl) (by kernel_rfl) (by kernel_rfl) ?hQ48 (Or.inl ⟨?hw48, ?hy48⟩) (by assumption) ?hr48
                case hi48 => simp only [List.getElem?_toArray, List.getElem?_cons_succ, List.getElem?_cons_zero]; rfl
                case hQ48 => exact fun _ _ _ h => h
                case hw48 => rfl
                case hy48 => intro w hSw; (try dsimp only at hSw); go_simp; (try with_reducible rfl)
                case hr48 =>
                simp only [Act.put, List.setIfInBounds_toArray, List.set_cons_zero, List.set_cons_succ]
                refine wpAnyH_take (i := 22) (oi := ?oi49) (v := ?v49) ?hi49 (by kernel_rfl) (by kernel_rfl) (by kernel_rfl) ?hQ49 (Or.inl ⟨?hw49, ?hy49⟩) (by assumption) ?hr49
                case hi49 => simp only [List.getElem?_toArray, List.getElem?_cons_succ, List.getElem?_cons_zero]; rfl
                case hQ49 => exact fun _ _ _ h => h
                case hw49 => rfl
                case hy49 => intro w hSw; (try dsimp only at hSw); go_simp; (try with_reducible rfl)
                case hr49 =>
                simp only [Act.put, List.setIfInBounds_toArray, List.set_cons_zero, List.set_cons_succ]
                refine wpAnyH_take (i := 23) (oi := ?oi50) (v := ?v50) ?hi50 (by kernel_rfl) (by kernel_rfl) (by kernel_rfl) ?hQ50 (Or.inl ⟨?hw50, ?hy50⟩) (by assumption) ?hr50
                case hi50 => simp only [List.getElem?_toArray, List.getElem?_cons_succ, List.getElem?_cons_zero]; rfl
                case hQ50 => exact fun _ _ _ h => h
                case hw50 => rfl
                case hy50 => intro w hSw; (try dsimp only at hSw); go_simp; (try with_reducible rfl)
                case hr50 =>
                simp only [Act.put, List.setIfInBounds_toArray, List.set_cons_zero, List.set_cons_succ]
                refine wpAnyH_take (i := 24) (oi := ?oi51) (v := ?v51) ?hi51 (by kernel_rfl) (by kernel_rfl) (by kernel_rfl) ?hQ51 (Or.inl ⟨?hw51, ?hy51⟩) (by assumption) ?hr51
                case hi51 => simp only [List.getElem?_toArray, List.getElem?_cons_succ, List.getElem?_cons_zero]; rfl
                case hQ51 => exact fun _ _ _ h => h
                case hw51 => rfl
                case hy51 => intro w hSw; (try dsimp only at hSw); go_simp; (try with_reducible rfl)
                case hr51 =>
                simp only [Act.put, List.setIfInBounds_toArray, List.set_cons_zero, List.set_cons_succ]
                refine wpAnyH_take (i := 25) (oi := ?oi52) (v := ?v52) ?hi52 (by kernel_rfl) (by kernel_rfl) (by kernel_rfl) ?hQ52 (Or.inl ⟨?hw52, ?hy52⟩) (by assumption) ?hr52
                case hi52 => simp only [List.getElem?_toArray, List.getElem?_cons_succ, List.getElem?_cons_zero]; rfl
                case hQ52 => exact fun _ _ _ h => h
                case hw52 => rfl
                case hy52 => intro w hSw; (try dsimp only at hSw); go_simp; (try with_reducible rfl)
                case hr52 =>
                simp only [Act.put, List.setIfInBounds_toArray, List.set_cons_zero, List.set_cons_succ]
                refine wpAnyH_done (by kernel_rfl) ?_ _
                go_wp2_with fail
                go_roundw
                case rel => exact ⟨j + 1, by omega, by go_num, (show Chg [] w9 wr.drew from HJR.out.trans (Chg.refl _ _).drew)⟩
                case measure => simp [intOf]; omega
            · go_wp2_with (go_at_call 9; refine (HAL.out _ (HS9.out.live.chg.trans HJR.out)).mono ?_; rintro e w10 ⟨rfl, k⟩; have HK10 := Lib.hid (HS9.out.live.chg.trans (HJR.out.trans k)); clear k)
              go_ret
              exact ⟨rfl, HK10.out⟩
        · go_wp2_with (go_at_call 9; refine (HAL.out _ HS9.out.live.chg).mono ?_; rintro e w10 ⟨rfl, k⟩; have HK10 := Lib.hid (HS9.out.live.chg.trans k); clear k)
          go_ret
          exact ⟨rfl, HK10.out⟩
  · have h1 := tooE_one g1
    rw [h1] at HT
    clear g1 h1
    generalize L.length = N at *
    go_wp2_with (first
      | (go_at_call 8; refine (HT.out _ (Chg.refl _ _)).mono ?_; rintro e w1 ⟨rfl, k⟩; have HK1 := Lib.hid k; clear k)
      | (go_at_call 9; refine (HAL.out _ HK1.out).mono ?_; rintro e w4 ⟨rfl, k⟩; have HK4 := Lib.hid (HK1.out.trans k); clear k))
    go_ret
    exact ⟨rfl, HK4.out⟩
end Go.Proofs.YtfhiioopimmahaaGreatDoor
