/- paxtarlaw05.SinkChunkSizes. -/
import Derived.Test.YtljlcigbehgohaaSLawE
namespace Go.Pax
open Go.RowKit
/-- A write to a sink that does not fail. -/
theorem Snk.write_free {σ : Snk} (h : σ.Ok) (hf : σ.fail = -1) (x : List UInt8) : ∃ G : Nat, (G : Int) = imin x.length (chunkOf σ.chunks σ.writes) ∧ (σ.write x).1 = G ∧ (σ.write x).2.1 = 0 ∧ (σ.write x).2.2.b.length = σ.b.length + G ∧
    (σ.write x).2.2.chunks = σ.chunks ∧ (σ.write x).2.2.fail = -1 ∧ (σ.write x).2.2.writes = if 0 < x.length then σ.writes + 1 else σ.writes := by
  have hc := chunkOf_pos σ.chunks σ.writes
  by_cases hx : x = []
  · subst hx
    refine ⟨0, by simp [imin]; omega, ?_⟩
    unfold Snk.write
    simp [hf]
  · have hl := List.length_pos_iff.2 hx
    rcases σ.write_cases h hx with ⟨_, h0, _⟩ | ⟨N, n1, n2, n3, n4, hw⟩
    · omega
    · have hr : σ.room = chunkOf σ.chunks σ.writes := by unfold Snk.room; rw [if_neg (by omega)]
      refine ⟨N, by rw [n3]; unfold Snk.n; rw [hr], ?_⟩
      rw [hw]
      simp [hf, hl]
      omega
end Go.Pax
namespace Go.Proofs.Ytljlcigbehgohaa
open Go.RowKit Go.Pax

set_option maxRecDepth 100000 in
set_option maxHeartbeats 16000000 in
theorem sinkSizes (w : World) (bo uo : Option Addr) (bc uc : Nat) (b : List UInt8) (U : List Int) (fp : List Nat) (hU : ∀ n ∈ U, 0 ≤ n ∧ n ≤ 65535) (hul : U.length ≤ 140737488355328)
    (h1 : Rd w fp bo (bv b)) (h2 : Rd w fp uo (kv .u16 U)) :
    Calls Try.prog 11 #[.slice bo b.length bc, .slice uo U.length uc] w fun e w' => e = .returned (.bool true) ∧ Chg [] w w' := by
  have H1 := Lib.hid h1
  have H2 := Lib.hid h2
  have HU := Lib.hid hU
  clear h1 h2 hU
  by_cases g1 : b.length = 0
  · have g1b : ((b.length : Int) == 0) = true := by simp [g1]
    clear g1
    go_enter Try.func11, Try.ntmps11
    go_wp2_with (go_at_call 35; refine (sinkAlive _).mono ?_; rintro e w9 ⟨rfl, hc9⟩)
    go_ret
    exact ⟨rfl, hc9⟩
  have g1b : ((b.length : Int) == 0) = false := by simpa using g1
  by_cases g2 : 100 < b.length
  · clear g1
    go_enter Try.func11, Try.ntmps11
    go_wp2_with (go_at_call 35; refine (sinkAlive _).mono ?_; rintro e w9 ⟨rfl, hc9⟩)
    go_ret
    exact ⟨rfl, hc9⟩
  by_cases g3 : 100 < U.length
  · clear g1
    go_enter Try.func11, Try.ntmps11
    go_wp2_with (go_at_call 35; refine (sinkAlive _).mono ?_; rintro e w9 ⟨rfl, hc9⟩)
    go_ret
    exact ⟨rfl, hc9⟩
  obtain ⟨ib, hib, hib0, hib1, hib2⟩ := Try.infoB
  obtain ⟨ii, hii, hii0, hii1, hii2⟩ := Try.infoI
  generalize hL : b.length = N at *
  generalize hUL : U.length = M at *
  have HL := Lib.hid hL
  have HUL := Lib.hid hUL
  clear hL hUL
  go_enter Try.func11, Try.ntmps11
  go_upto_region 4 with (at_make; refine wpList_make_full _ rfl (.tmp 32) (.tmp 32) 23 rfl w.heap.size 3 ii (.int .i64 0) 1 Try.underlying23 hii hii0 hii1 .i64 .i64 _ _ N rfl rfl rfl rfl (by rw [hii2]; omega) (by unfold maxLen; omega) (Nat.le_refl _) ?_; intro w1 hown1 hgr1)
  have hll : (b2i b).length = N := by rw [b2i_length, HL.out]
  have hown1' : w1.ownsRow w.heap.size 3 1 (.slice (some ⟨w.heap.size, 0, none⟩) N N) N (iv (filled (b2i b) 0)) := by
    have h := hown1
    simp only [Value.cells, Nat.mul_one] at h
    rw [toList_madeCells_one, zeros_iv] at h
    rw [filled_zero, hll]
    exact h
  have k1 : Chg [] w w1 := Chg.of_grown hgr1 (by simp)
  have HO1 := Lib.hid hown1'
  have K1 := Lib.hid k1
  have HLL := Lib.hid hll
  clear hown1 hgr1 hown1' k1 hll
  go_wp2_with fail
  go_loopw [36] (fun i wr => ∃ k : Nat, k ≤ N ∧ i = .int .i64 k ∧ Chg [] w wr ∧ wr.ownsRow w.heap.size 3 1 (.slice (some ⟨w.heap.size, 0, none⟩) N N) N (iv (filled (b2i b) k))) (fun i _ => N - (intOf i).toNat)
  case atStart => exact ⟨0, Nat.zero_le _, rfl, K1.out, HO1.out⟩
  case round =>
    obtain ⟨k, hk, rfl, hkr, hor⟩ := hrel
    by_cases hlt : k < N
    · have hkb : k < b.length := by rw [HL.out]; exact hlt
      have hkl : k < (b2i b).length := by rw [HLL.out]; exact hlt
      obtain ⟨ad, rfl, _, hcell⟩ := (H1.out.chg hkr (by simp)) k _ (bv_get b k hkb)
      have hset := hor.stored k (.int .i64 (b2i b)[k])
      rw [filled_set _ _ hkl, b2i_get b k hkb] at hset
      have hz : (0 : Int) ≤ (b[k].toNat : Int) ∧ (b[k].toNat : Int) ≤ 255 := by have := b[k].toNat_lt; omega
      obtain ⟨hz0, hz1⟩ := hz
      generalize (b[k].toNat : Int) = z at *
      have hlen : k < (iv (filled (b2i b) k)).length := by have := hor.1; omega
      have hc := hor.cellAt k (by omega)
      rw [List.getElem?_eq_getElem hlen] at hc
      generalize (iv (filled (b2i b) k))[k] = u at *
      have hfr := hor.frozenAt k
      have HKR := Lib.hid hkr
      have HSET := Lib.hid hset
      clear hkr hset hor hlen hkb hkl
      go_wp2_with fail
      go_roundw
      case rel => exact ⟨k + 1, by omega, by go_num, HKR.out.grown HSET.out.2 (fun x hx hl => by simp at hx; omega), HSET.out.1⟩
      case measure => simp [intOf]; omega
    · have hkk : k = N := by omega
      subst hkk
      have hfa : filled (b2i b) k = b2i b := by rw [← HLL.out]; exact filled_all _
      rw [hfa] at hor
      have HOR := Lib.hid hor
      have HKR := Lib.hid hkr
      have hgc : w.heap.size < wr.heap.size := (hor.lt w.heap.size rfl).2
      clear hor hkr hfa
      go_upto_region 12 with (go_at_call 36; refine (sinkNew _ wr.heap.size (some ⟨w.heap.size, 0, none⟩) k k (b2i b) (-1) [w.heap.size] HLL.out (by omega) (Nat.le_refl _) (Rd.of_own HOR.out)).mono ?_; rintro e w3 ⟨p, f1, rfl, s3, k3, b3, bf3⟩)
      have hor3 := own_chg HOR.out k3 (by simp)
      have hk3 : Chg [] w w3 := HKR.out.trans k3
      have hok : Snk.Ok ⟨[], b2i b, -1, 0⟩ := Snk.ok_new (by rw [HLL.out]; omega) (by omega)
      have HS3 := Lib.hid s3
      have HK3 := Lib.hid hk3
      have HOR3 := Lib.hid hor3
      have HOK := Lib.hid hok
      clear k3 bf3 s3 hk3 hor3 hok
      generalize hZ : wr.heap.size = Z at *
      clear hZ
      go_wp2_with fail
      go_loopw [9, 10, 54] (fun tt ww i wq => ∃ j : Nat, j ≤ M ∧ i = .int .i64 j ∧ ∃ (σ : Snk) (o1 : List Nat), tt = .int .i64 σ.b.length ∧ ww = .int .i64 σ.writes ∧ σ.Ok ∧ σ.fail = -1 ∧ σ.chunks = b2i b ∧ σ.b.length ≤ 600 * j ∧ SnkAt Z wq p f1 o1 σ ∧ Chg [] w wq ∧ wq.ownsRow w.heap.size 3 1 (.slice (some ⟨w.heap.size, 0, none⟩) k k) k (iv (b2i b))) (fun _ _ i _ => M - (intOf i).toNat)
      case atStart => exact ⟨0, Nat.zero_le _, rfl, _, [], rfl, rfl, HOK.out, rfl, rfl, by simp, HS3.out, HK3.out, HOR3.out⟩
      case round =>
        obtain ⟨j, hj, rfl, σ, o1, rfl, rfl, hok, hsf, hsc, hsl, hs, hkq, hrc⟩ := hrel
        have HRC := Lib.hid hrc
        have HOK := Lib.hid hok
        have HSF := Lib.hid hsf
        have HSC := Lib.hid hsc
        have HS := Lib.hid hs
        have HKQ := Lib.hid hkq
        have hw0 := hok.writes0
        have hw1 := hok.writesl
        clear hok hsf hsc hs hkq hrc
        by_cases hltj : j < M
        · have hju : j < U.length := by rw [HUL.out]; exact hltj
          obtain ⟨au, rfl, _, hcu⟩ := (H2.out.chg HKQ.out (by simp)) j _ (kv_get .u16 U j hju)
          obtain ⟨hu0, hu1⟩ := HU.out _ (List.getElem_mem hju)
          generalize U[j] = u at *
          clear hju
          have hm1 : 0 ≤ σ.writes % k := Int.emod_nonneg _ (by omega)
          have hm2 : σ.writes % k < k := Int.emod_lt_of_pos _ (by omega)
          have hcell := HRC.out.cellAt (σ.writes % k).toNat (by omega)
          rw [iv_get (b2i b) _ (by rw [HLL.out]; omega)] at hcell
          have hV := chunkOf_at HLL.out σ.writes (by rw [HLL.out]; omega)
          have hgB := HS.out.ownlt
          have HGB := Lib.hid hgB
          have hpl := HS.out.lt
          generalize (b2i b)[(σ.writes % k).toNat]'(by rw [HLL.out]; omega) = v at *
          generalize hSW : σ.writes = sw at *
          generalize hSL : σ.b.length = sl at *
          have HSW := Lib.hid hSW
          have HSL := Lib.hid hSL
          obtain ⟨L0, hL0⟩ : ∃ L0 : Nat, u % 600 = L0 := ⟨(u % 600).toNat, by omega⟩
          have hL1 : L0 < 600 := by omega
          generalize hCV : chunkOf (b2i b) sw = V at *
          have HV := Lib.hid hV
          have HCV := Lib.hid hCV
          have HCELL := Lib.hid hcell
          clear hSW hSL hgB hV hCV hcell
          go_upto_region 17 with (fail)
          rw [hL0]
          clear hL0
          have HTW : Hid (List.length (List.replicate L0 (0 : UInt8)) = L0) := Lib.hid (by simp)
          obtain ⟨G, hG, e1, e2, e3, e4, e5, e6⟩ := Snk.write_free HOK.out HSF.out (List.replicate L0 0)
          rw [HTW.out] at hG e6
          rw [HSC.out] at hG e4
          rw [HSW.out] at hG e6
          rw [HCV.out] at hG
          rw [HSL.out] at e3
          have hcp := chunkOf_pos (b2i b) sw
          rw [HCV.out] at hcp
          have hG1 : G ≤ L0 := by unfold imin at hG; omega
          have hst : ∀ wx, Chg [] wr wx → Rd wx [wr.heap.size] (some ⟨wr.heap.size, 0, none⟩) (bv (List.replicate L0 0)) → Calls Try.prog 30 #[.pointer (some ⟨p, 0, none⟩), .slice (some ⟨wr.heap.size, 0, none⟩) L0 L0] wx fun e w' => e = .returned (.tuple #[.int .i64 G, .int .i64 0]) ∧ SnkTo Z wx w' p f1 o1 (σ.write (List.replicate L0 0)).2.2 := fun wx k hr => by
            have h := sinkWrite wx Z p f1 o1 _ σ (List.replicate L0 0) _ L0 (HS.out.chg k (by simp) (by simp) (by simp)) HOK.out hr (by rw [HTW.out]; exact Nat.le_refl _) (by rw [HTW.out, HSL.out]; omega)
            rw [HTW.out, e1, e2] at h
            exact h
          have hok1 := Snk.ok_write HOK.out (List.replicate L0 0)
          generalize σ.write (List.replicate L0 0) = R at *
          obtain ⟨r1, r2, σ1⟩ := R
          simp only at hst hok1 e3 e4 e5 e6
          have HST := Lib.hid hst
          have HOK1 := Lib.hid hok1
          have HE3 := Lib.hid e3
          have HE4 := Lib.hid e4
          have HE5 := Lib.hid e5
          have HE6 := Lib.hid e6
          have HG := Lib.hid hG
          clear hst hok1 e1 e2 e3 e4 e5 e6 hG hcp
          go_upto_region 18 with (first
            | (at_make; refine wpList_make_full _ rfl (.tmp 63) (.tmp 63) 22 rfl wr.heap.size 5 ib (.int .u8 0) 1 Try.underlying22 hib hib0 hib1 .i64 .i64 _ _ L0 rfl rfl rfl rfl (by rw [hib2]; omega) (by unfold maxLen; omega) (Nat.le_refl _) ?_; intro w4 hown4 hgr4; have HO4 := Lib.hid hown4; have HG4 := Lib.hid hgr4; clear hown4 hgr4)
            | (go_at_call 30; refine (HST.out _ (Chg.of_grown HG4.out (by simp)) (by
                have h := HO4.out
                simp only [Value.cells, Nat.mul_one] at h
                rw [toList_madeCells_one, zeros_bv] at h
                exact Rd.of_own h)).mono ?_; rintro e w5 ⟨rfl, hto⟩; have HTO := Lib.hid hto; clear hto))
          obtain ⟨o2, ⟨hs5, hn5⟩, hk5⟩ := HTO.out
          have hk4 : Chg [] wr w4 := Chg.of_grown HG4.out (by simp)
          have hkq5 : Chg (p :: o1) wr w5 := (hk4.mono (T := p :: o1) (by simp)).trans hk5
          have hkw5 : Chg [] w w5 := HKQ.out.nil_of hkq5 (Nat.le_of_lt hgc) (by
            intro x hx
            rcases List.mem_cons.1 hx with rfl | hx
            · exact b3
            · exact (HGB.out x hx).1)
          have hrc5 := own_keep HRC.out hkq5 (by
            intro g hg hm
            simp [Value.ownBlock] at hg
            subst hg
            rcases List.mem_cons.1 hm with h | h
            · omega
            · have := (HGB.out _ h).1; omega)
          have hcell := hrc5.cellAt (sw % k).toNat (by omega)
          have hcell0 := HRC.out.cellAt (sw % k).toNat (by omega)
          rw [HCELL.out] at hcell0
          rw [← hcell0] at hcell
          have HS5 := Lib.hid hs5
          have HKW5 := Lib.hid hkw5
          have HRC5 := Lib.hid hrc5
          clear hs5 hn5 hk5 hk4 hkq5 hkw5 hrc5 hcell0
          go_upto_region 19 with (fail)
          simp only [imax_fold, imin_fold]
          have hW : imin L0 (imax 1 v) = G := by rw [HG.out, HV.out]; unfold imin imax; omega
          rw [hW]
          clear hW
          by_cases hn : 0 < L0
          · go_wp2_with (go_at_call 33; refine (sinkLen _ Z p f1 o2 σ1 HS5.out).mono ?_; rintro e w6 ⟨rfl, rfl⟩; rw [HE3.out, Int.natCast_add])
            go_roundw
            case rel => exact ⟨j + 1, by omega, by go_num, σ1, o2, by rw [HE3.out]; go_num, by rw [HE6.out, if_pos hn], HOK1.out, HE5.out, HE4.out, by rw [HE3.out]; omega, HS5.out, HKW5.out, HRC5.out⟩
            case measure => simp [intOf]; omega
          · go_wp2_with (go_at_call 33; refine (sinkLen _ Z p f1 o2 σ1 HS5.out).mono ?_; rintro e w6 ⟨rfl, rfl⟩; rw [HE3.out, Int.natCast_add])
            go_roundw
            case rel => exact ⟨j + 1, by omega, by go_num, σ1, o2, by rw [HE3.out]; go_num, by rw [HE6.out, if_neg hn], HOK1.out, HE5.out, HE4.out, by rw [HE3.out]; omega, HS5.out, HKW5.out, HRC5.out⟩
            case measure => simp [intOf]; omega
        · have hjj : j = M := by omega
          subst hjj
          go_wp2_with (go_at_call 35; refine (sinkAlive _).mono ?_; rintro e w9 ⟨rfl, hc9⟩)
          go_ret
          exact ⟨rfl, HKQ.out.trans hc9⟩
end Go.Proofs.Ytljlcigbehgohaa
