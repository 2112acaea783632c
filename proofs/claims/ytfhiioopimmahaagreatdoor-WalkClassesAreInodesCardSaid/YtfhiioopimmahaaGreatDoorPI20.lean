/- paxtarlaw20.WalkClassesAreInodes: the walk. Printed by wip/gen/genlawc.py. -/
import Derived.Deep.RegionHeld3
import Derived.Test.YtfhiioopimmahaaGreatDoorPI19
namespace Go.Proofs.YtfhiioopimmahaaGreatDoor
open Go.RowKit Go.Pax Go.Shelf
theorem lstat_some {σ : Fs} {p : Str} {b : Nat} (h : lkF σ.files p = some b) (k : Nat) : ∃ (kk mm ss : Int) (tt : ByteArray) (uu mt : Int), lstatV (ls σ k) p = .tuple #[.agg #[.int .i64 kk, .int .i64 mm, .int .i64 (σ.node b).ino, .int .i64 (σ.node b).links, .int .i64 ss, .string tt, .int .i64 uu, .int .i64 mt], .int .i64 0] := by
  have h2 : lkF (ls σ k).files p = some b := h
  unfold lstatV
  rw [h2]
  exact ⟨_, _, _, _, _, _, rfl⟩
/-- What the law's loops read of the walked tree. -/
theorem cls_read {σ : Fs} {n : Nat} {V : List Str} {L : List (ANode × Value)} (hf : Firm n σ) (hp : PathsOf σ V) (hmp : L.map Prod.fst = (canonS (cntA (V.map (nodeOf σ))) (V.map (nodeOf σ))).2) :
    ∃ (C : Nat → Int) (P : Nat → Str) (B : Nat → Nat), (∀ j, j < V.length → ∃ x, L[j]? = some x ∧ x.1.path = P j ∧ x.1.cls = C j ∧ lkF σ.files (P j) = some (B j) ∧ (0 < C j ↔ 2 ≤ (σ.node (B j)).links)) ∧
      ∀ j k, j < V.length → k < j → ((0 < C j ∧ C j = C k) ↔ (σ.node (B j)).ino = (σ.node (B k)).ino) := by
  obtain ⟨hll, hat⟩ := walked_at hmp
  have hfile : ∀ j (hj : j < V.length), ∃ b, lkF σ.files V[j] = some b := fun j hj => ((hp.mem _).1 (List.getElem_mem hj)).2
  refine ⟨fun j => newCls (cntA (V.map (nodeOf σ))) (canonS (cntA (V.map (nodeOf σ))) (V.map (nodeOf σ))).1 (nodeOf σ (V.getD j [])).cls, fun j => V.getD j [], fun j => (lkF σ.files (V.getD j [])).getD 0, fun j hj => ?_, fun j k hj hkj => ?_⟩
  · obtain ⟨b, hb⟩ := hfile j hj
    have e : V.getD j [] = V[j] := by simp [List.getD, List.getElem?_eq_getElem hj]
    simp only [e, hb, Option.getD_some]
    exact ⟨L[j]'(by omega), List.getElem?_eq_getElem (by omega), (hat j (by omega) hj).1, (hat j (by omega) hj).2, trivial, cls_one hf hp hb (List.getElem_mem hj)⟩
  · obtain ⟨b, hb⟩ := hfile j hj
    obtain ⟨c, hc⟩ := hfile k (by omega)
    have e : V.getD j [] = V[j] := by simp [List.getD, List.getElem?_eq_getElem hj]
    have e2 : V.getD k [] = V[k] := by simp [List.getD, List.getElem?_eq_getElem (show k < V.length by omega)]
    simp only [e, e2, hb, hc, Option.getD_some]
    exact (cls_law hf hp hb hc (List.getElem_mem hj) (List.getElem_mem _) (fun h => by
      have := List.pairwise_iff_getElem.1 hp.sorted k j (by omega) hj hkj
      rw [h] at this
      exact slt_irrefl _ this)).2
set_option maxRecDepth 100000 in
set_option maxHeartbeats 16000000 in
theorem classesInodes (w : World) (x y : Int) (hx : 0 ≤ x ∧ x ≤ 65535) (hy : 0 ≤ y ∧ y ≤ 65535) (lo : Option Addr) (lc : Nat) (L : List AAct) (fp : List Nat) (hkeys : KeysAt w) (h : RdAct w fp lo L) (hwf : ∀ y ∈ L, y.wf) (hll : L.length ≤ 140737488355328) :
    Calls Tryz.prog 3 #[.agg #[.int .u16 x, .int .u16 y], .slice lo L.length lc] w fun e w' => e = .returned (.bool true) ∧ Chg [] w w' := by
  have HT := Lib.hid (fun W (k : Chg [] w W) => tooLarge W lo lc L fp (fun i x hx => by
    obtain ⟨ad, a, c, h1, h2, c0, c1, c2, c3, c4, h8, h9⟩ := h i x hx
    exact ⟨ad, a, c, h1, h2, k.cell c0 (by simp), k.cell c1 (by simp), k.cell c2 (by simp), k.cell c3 (by simp), k.cell c4 (by simp), h8, h9.chg k (by simp)⟩) hwf hll)
  have HAL := Lib.hid (fun W (k : Chg [] w W) => alive20 W (hkeys.chg k (by simp)))
  have HOP := Lib.hid (fun W => options W x y [] 0 none 0 [] hx hy rfl (by omega) (Rd.nil _ _ _))
  have HBU := Lib.hid (fun W oa oc B (k : Chg [] w W) (hl : L.length ≤ 40) hown => build w W (1 + x) (1 + y) (by unfold inOpt; omega) (by unfold inOpt; omega) [] 0 oa oc rfl (by omega) k B hown lo lc L fp hkeys h hwf hl)
  clear h hwf hkeys
  have hk0 : Chg [] w (w.alloc (.cells #[.int .u16 x, .int .u16 y] 23)) := (Chg.refl _ _).alloc _
  have q0 : (w.alloc (.cells #[.int .u16 x, .int .u16 y] 23)).cell? ⟨w.heap.size, 0, none⟩ = some (.int .u16 x) := cell_heap (heap_alloc_new _ _) 0 rfl
  have q1 : (w.alloc (.cells #[.int .u16 x, .int .u16 y] 23)).cell? ⟨w.heap.size, 1, none⟩ = some (.int .u16 y) := cell_heap (heap_alloc_new _ _) 1 rfl
  go_enter Tryz.func3, Tryz.ntmps3
  go_upto_region 1 with (fail)
  generalize w.alloc (.cells #[.int .u16 x, .int .u16 y] 23) = W0 at *
  generalize w.heap.size = g0 at *
  have HK0 := Lib.hid hk0
  have HQ := Lib.hid (And.intro q0 q1)
  clear hk0 q0 q1
  by_cases g1 : tooE L = 0
  · have htz := tooE_zero g1
    rw [g1] at HT
    have hn40 : L.length ≤ 40 := htz.1
    clear g1 htz hll
    generalize hN : L.length = N at *
    clear hN
    go_upto_region 3 with (go_at_call 8; refine (HT.out _ HK0.out).mono ?_; rintro e w1 ⟨rfl, k⟩; have HK1 := Lib.hid (HK0.out.trans k); have q0 := k.cell HQ.out.1 (by simp); have q1 := k.cell HQ.out.2 (by simp); clear k)
    go_upto_region 6 with (first
      | (go_at_call 11; refine (HOP.out _).mono ?_; rintro e w2 ⟨oa, oc, rfl, hown, k⟩; have HK2 := Lib.hid (HK1.out.trans k); have HOW := Lib.hid hown; clear k hown)
      | (go_at_call 10; refine (HBU.out _ _ _ _ HK2.out hn40 HOW.out).mono ?_; rintro e w3 ⟨f, r, O, Q, σ, ρ, bs, rfl, hd, hf⟩; have HS3 := Lib.hid (hd.stood hf); clear hd hf))
    clear q0 q1
    go_upto_region 7 with (go_at_call 12; refine (standWalk w _ f O σ _ HS3.out (by omega)).mono ?_; rintro e w9 ⟨ta, tm, tc, TP, E, rfl, ⟨k9, hs9⟩, _, hE9⟩; have HS9 := Lib.hid hs9; have HE9 := Lib.hid hE9; clear hs9 hE9)
    by_cases hE : E = 0
    · subst hE
      obtain ⟨V, L', fp', rfl, rfl, hvl, hpo, _, hnd, hfl, hmp⟩ := HE9.out rfl
      obtain ⟨C, P, B, hC, hCC⟩ := cls_read HS3.out.firm hpo hmp
      have HND := Lib.hid hnd
      have HC := Lib.hid hC
      have HCC := Lib.hid hCC
      have hM : V.length ≤ 121 := by omega
      have HLS := Lib.hid (fun W (kw : Chg [] w9 W) p => lstat W f O (ls σ k9) p (HS9.out.quiet kw).live.fs)
      clear hnd hfl hmp hpo hvl HE9 hC hCC HS3 HOW HT HOP HBU HK1 HK2 HQ HK0
      generalize V.length = M at *
      go_wp2_with fail
      go_loopw [43] (fun i wr => ∃ j : Nat, j ≤ M ∧ i = .int .i64 j ∧ Chg [] w9 wr) (fun i _ => M - (intOf i).toNat)
      case atStart => exact ⟨0, Nat.zero_le _, rfl, Chg.refl _ _⟩
      case round =>
        obtain ⟨j, hj, rfl, hjr⟩ := hrel
        have HJR := Lib.hid hjr
        clear hjr
        by_cases hlt : j < M
        · obtain ⟨x5, hx, hx1, hx2, hx3, hx4⟩ := HC.out j hlt
          obtain ⟨hjL, hx6⟩ := List.getElem?_eq_some_iff.1 hx
          obtain ⟨ad2, rfl, _, _, hc2⟩ := (HND.out.chg HJR.out (by simp)) j hjL
          have hcp := hc2 1 (.string (ba (P j))) (by rw [hx6, ← hx1]; rfl)
          have HCJ := Lib.hid (fun W (kw : Chg [] wr W) => And.intro (kw.cell hcp (by simp)) (kw.cell (hc2 5 (.int .i64 (C j)) (by rw [hx6, ← hx2]; rfl)) (by simp)))
          obtain ⟨kk, mm, ss, tt, uu, mt, hlv⟩ := lstat_some hx3 k9
          have hls := fun W (kw : Chg [] w9 W) => HLS.out W kw (P j)
          rw [hlv] at hls
          have HL5 := Lib.hid hls
          have HPR := Lib.hid (fun k (hk : k < j) => HCC.out j k hlt hk)
          have HIF := Lib.hid hx4
          clear hls hlv hx hx1 hx2 hx3 hx4 hx6 hc2
          generalize (σ.node (B j)).links = lk at *
          generalize (σ.node (B j)).ino = ii at *
          generalize C j = CJ at *
          generalize ba (P j) = PJ at *
          go_upto_region 13 with (go_at_call 13; refine (HL5.out _ HJR.out).mono ?_; rintro e w10 ⟨rfl, k10⟩; have HK10 := Lib.hid k10; clear k10)
          clear hcp
          have hk11 : Chg [] w10 (w10.alloc (.cells #[.int .i64 kk, .int .i64 mm, .int .i64 ii, .int .i64 lk, .int .i64 ss, .string tt, .int .i64 uu, .int .i64 mt] 40)) := (Chg.refl _ _).alloc _
          have HK11 := Lib.hid (HK10.out.trans hk11)
          have HE11 := Lib.hid (show (w10.alloc (.cells #[.int .i64 kk, .int .i64 mm, .int .i64 ii, .int .i64 lk, .int .i64 ss, .string tt, .int .i64 uu, .int .i64 mt] 40)).heap[w10.heap.size]? = some (.cells #[.int .i64 kk, .int .i64 mm, .int .i64 ii, .int .i64 lk, .int .i64 ss, .string tt, .int .i64 uu, .int .i64 mt] 40 (0, 0)) from heap_alloc_new _ _)
          clear hk11 HK10
          generalize w10.alloc (.cells #[.int .i64 kk, .int .i64 mm, .int .i64 ii, .int .i64 lk, .int .i64 ss, .string tt, .int .i64 uu, .int .i64 mt] 40) = W11 at *
          generalize w10.heap.size = g11 at *
          have HC13 := Lib.hid (show W11.drew.cell? ⟨(ad2.add (j * 6)).block, (ad2.add (j * 6)).off + 5, none⟩ = some (.int .i64 CJ) ∧ W11.drew.cell? ⟨g11, 3, none⟩ = some (.int .i64 lk) from ⟨(HCJ.out _ (HK11.out.trans (Chg.refl _ _).drew)).2, cell_heap HE11.out 3 rfl⟩)
          have hbq : decide (CJ > 0) = decide (lk > 1) := decide_eq_decide.2 (HIF.out.trans (by omega))
          obtain ⟨q1, hq1⟩ : ∃ q, q = decide (CJ > 0) := ⟨_, rfl⟩
          rw [← hq1] at hbq
          have hbq1 : decide (0 < CJ) = q1 := hq1.symm
          have hbq2 : decide (1 < lk) = q1 := hbq.symm
          clear hbq hq1
          refine wp_region_held_drew (S := fun q => q.cell? ⟨(ad2.add (j * 6)).block, (ad2.add (j * 6)).off + 5, none⟩ = some (.int .i64 CJ) ∧ q.cell? ⟨g11, 3, none⟩ = some (.int .i64 lk)) (by kernel_rfl) ?_ (fun hHeld => ?_)
          · exact HC13.out
          refine wpAnyH_take (i := 0) (oi := ?oi1) (v := ?v1) ?hi1 (by kernel_rfl) (by kernel_rfl) (by kernel_rfl) ?hQ1 (Or.inl ⟨?hw1, ?hy1⟩) (by assumption) ?hr1
          case hi1 => simp only [List.getElem?_toArray, List.getElem?_cons_zero]; rfl
          case hQ1 => exact fun _ _ _ h => h
          case hw1 => rfl
          case hy1 => intro w hSw; (try dsimp only at hSw); go_simp; (try with_reducible rfl)
          case hr1 =>
          simp only [Act.put, List.setIfInBounds_toArray, List.set_cons_zero, List.set_cons_succ]
          refine wpAnyH_take (i := 1) (oi := ?oi2) (v := ?v2) ?hi2 (by kernel_rfl) (by kernel_rfl) (by kernel_rfl) ?hQ2 (Or.inl ⟨?hw2, ?hy2⟩) (by assumption) ?hr2
          case hi2 => simp only [List.getElem?_toArray, List.getElem?_cons_succ, List.getElem?_cons_zero]; rfl
          case hQ2 => exact fun _ _ _ h => h
          case hw2 => rfl
          case hy2 => intro w hSw; (try dsimp only at hSw); go_simp; (try with_reducible rfl)
          case hr2 =>
          simp only [Act.put, List.setIfInBounds_toArray, List.set_cons_zero, List.set_cons_succ]
          refine wpAnyH_take (i := 2) (oi := ?oi3) (v := ?v3) ?hi3 (by kernel_rfl) (by kernel_rfl) (by kernel_rfl) ?hQ3 (Or.inl ⟨?hw3, ?hy3⟩) (by assumption) ?hr3
          case hi3 => simp only [List.getElem?_toArray, List.getElem?_cons_succ, List.getElem?_cons_zero]; rfl
          case hQ3 => exact fun _ _ _ h => h
          case hw3 => rfl
          case hy3 => intro w hSw; (try dsimp only at hSw); go_simp; (try with_reducible rfl)
          case hr3 =>
          simp only [Act.put, List.setIfInBounds_toArray, List.set_cons_zero, List.set_cons_succ]
          refine wpAnyH_take (i := 3) (oi := ?oi4) (v := ?v4) ?hi4 (by kernel_rfl) (by kernel_rfl) (by kernel_rfl) ?hQ4 (Or.inl ⟨?hw4, ?hy4⟩) (by assumption) ?hr4
          case hi4 => simp only [List.getElem?_toArray, List.getElem?_cons_succ, List.getElem?_cons_zero]; rfl
          case hQ4 => exact fun _ _ _ h => h
          case hw4 => rfl
          case hy4 => intro w hSw; (try dsimp only at hSw); go_simp; (try with_reducible rfl)
          case hr4 =>
          simp only [Act.put, List.setIfInBounds_toArray, List.set_cons_zero, List.set_cons_succ]
          refine wpAnyH_take (i := 4) (oi := ?oi5) (v := ?v5) ?hi5 (by kernel_rfl) (by kernel_rfl) (by kernel_rfl) ?hQ5 (Or.inl ⟨?hw5, ?hy5⟩) (by assumption) ?hr5
          case hi5 => simp only [List.getElem?_toArray, List.getElem?_cons_succ, List.getElem?_cons_zero]; rfl
          case hQ5 => exact fun _ _ _ h => h
          case hw5 => rfl
          case hy5 => intro w hSw; (try dsimp only at hSw); go_simp; (try with_reducible rfl)
          case hr5 =>
          simp only [Act.put, List.setIfInBounds_toArray, List.set_cons_zero, List.set_cons_succ]
          refine wpAnyH_take (i := 5) (oi := ?oi6) (v := ?v6) ?hi6 (by kernel_rfl) (by kernel_rfl) (by kernel_rfl) ?hQ6 (Or.inl ⟨?hw6, ?hy6⟩) (by assumption) ?hr6
          case hi6 => simp only [List.getElem?_toArray, List.getElem?_cons_succ, List.getElem?_cons_zero]; rfl
          case hQ6 => exact fun _ _ _ h => h
          case hw6 => rfl
          case hy6 => intro w hSw; (try dsimp only at hSw); go_simp; (try with_reducible rfl)
          case hr6 =>
          simp only [Act.put, List.setIfInBounds_toArray, List.set_cons_zero, List.set_cons_succ]
          refine wpAnyH_take (i := 6) (oi := ?oi7) (v := ?v7) ?hi7 (by kernel_rfl) (by kernel_rfl) (by kernel_rfl) ?hQ7 (Or.inl ⟨?hw7, ?hy7⟩) (by assumption) ?hr7
          case hi7 => simp only [List.getElem?_toArray, List.getElem?_cons_succ, List.getElem?_cons_zero]; rfl
          case hQ7 => exact fun _ _ _ h => h
          case hw7 => rfl
          case hy7 => intro w hSw; (try dsimp only at hSw); go_simp; (try with_reducible rfl)
          case hr7 =>
          simp only [Act.put, List.setIfInBounds_toArray, List.set_cons_zero, List.set_cons_succ]
          refine wpAnyH_take (i := 7) (oi := ?oi8) (v := ?v8) ?hi8 (by kernel_rfl) (by kernel_rfl) (by kernel_rfl) ?hQ8 (Or.inl ⟨?hw8, ?hy8⟩) (by assumption) ?hr8
          case hi8 => simp only [List.getElem?_toArray, List.getElem?_cons_succ, List.getElem?_cons_zero]; rfl
          case hQ8 => exact fun _ _ _ h => h
          case hw8 => rfl
          case hy8 => intro w hSw; (try dsimp only at hSw); go_simp; (try with_reducible rfl)
          case hr8 =>
          simp only [Act.put, List.setIfInBounds_toArray, List.set_cons_zero, List.set_cons_succ]
          refine wpAnyH_take (i := 8) (oi := ?oi9) (v := ?v9) ?hi9 (by kernel_rfl) (by kernel_rfl) (by kernel_rfl) ?hQ9 (Or.inl ⟨?hw9, ?hy9⟩) (by assumption) ?hr9
          case hi9 => simp only [List.getElem?_toArray, List.getElem?_cons_succ, List.getElem?_cons_zero]; rfl
          case hQ9 => exact fun _ _ _ h => h
          case hw9 => rfl
          case hy9 => intro w hSw; (try dsimp only at hSw); go_simp; (try with_reducible rfl)
          case hr9 =>
          simp only [Act.put, List.setIfInBounds_toArray, List.set_cons_zero, List.set_cons_succ]
          refine wpAnyH_take (i := 9) (oi := ?oi10) (v := ?v10) ?hi10 (by kernel_rfl) (by kernel_rfl) (by kernel_rfl) ?hQ10 (Or.inl ⟨?hw10, ?hy10⟩) (by assumption) ?hr10
          case hi10 => simp only [List.getElem?_toArray, List.getElem?_cons_succ, List.getElem?_cons_zero]; rfl
          case hQ10 => exact fun _ _ _ h => h
          case hw10 => rfl
          case hy10 => intro w hSw; (try dsimp only at hSw); go_simp; (try with_reducible rfl)
          case hr10 =>
          simp only [Act.put, List.setIfInBounds_toArray, List.set_cons_zero, List.set_cons_succ]
          refine wpAnyH_take (i := 10) (oi := ?oi11) (v := ?v11) ?hi11 (by kernel_rfl) (by kernel_rfl) (by kernel_rfl) ?hQ11 (Or.inl ⟨?hw11, ?hy11⟩) (by assumption) ?hr11
          case hi11 => simp only [List.getElem?_toArray, List.getElem?_cons_succ, List.getElem?_cons_zero]; rfl
          case hQ11 => exact fun _ _ _ h => h
          case hw11 => rfl
          case hy11 => intro w hSw; (try dsimp only at hSw); go_simp; (try with_reducible rfl)
          case hr11 =>
          simp only [Act.put, List.setIfInBounds_toArray, List.set_cons_zero, List.set_cons_succ]
          refine wpAnyH_take (i := 11) (oi := ?oi12) (v := ?v12) ?hi12 (by kernel_rfl) (by kernel_rfl) (by kernel_rfl) ?hQ12 (Or.inl ⟨?hw12, ?hy12⟩) (by assumption) ?hr12
          case hi12 => simp only [List.getElem?_toArray, List.getElem?_cons_succ, List.getElem?_cons_zero]; rfl
          case hQ12 => exact fun _ _ _ h => h
          case hw12 => rfl
          case hy12 => intro w hSw; (try dsimp only at hSw); go_simp; (try with_reducible rfl)
          case hr12 =>
          simp only [Act.put, List.setIfInBounds_toArray, List.set_cons_zero, List.set_cons_succ]
          refine wpAnyH_take (i := 12) (oi := ?oi13) (v := ?v13) ?hi13 (by kernel_rfl) (by kernel_rfl) (by kernel_rfl) ?hQ13 (Or.inl ⟨?hw13, ?hy13⟩) (by assumption) ?hr13
          case hi13 => simp only [List.getElem?_toArray, List.getElem?_cons_succ, List.getElem?_cons_zero]; rfl
          case hQ13 => exact fun _ _ _ h => h
          case hw13 => rfl
          case hy13 => intro w hSw; (try dsimp only at hSw); go_simp; (try with_reducible rfl)
          case hr13 =>
          simp only [Act.put, List.setIfInBounds_toArray, List.set_cons_zero, List.set_cons_succ]
          refine wpAnyH_take (i := 13) (oi := ?oi14) (v := ?v14) ?hi14 (by kernel_rfl) (by kernel_rfl) (by kernel_rfl) ?hQ14 (Or.inl ⟨?hw14, ?hy14⟩) (by assumption) ?hr14
          case hi14 => simp only [List.getElem?_toArray, List.getElem?_cons_succ, List.getElem?_cons_zero]; rfl
          case hQ14 => exact fun _ _ _ h => h
          case hw14 => rfl
          case hy14 => intro w hSw; (try dsimp only at hSw); go_simp; (try with_reducible rfl)
          case hr14 =>
          simp only [Act.put, List.setIfInBounds_toArray, List.set_cons_zero, List.set_cons_succ]
          refine wpAnyH_done (by kernel_rfl) ?_ _
          clear hbq1 hbq2
          go_wp2_with fail
          have HK12 := Lib.hid (show Chg [] W11 W11.drew from (Chg.refl _ _).drew)
          have HE12 := Lib.hid (show W11.drew.heap[g11]? = some (.cells #[.int .i64 kk, .int .i64 mm, .int .i64 ii, .int .i64 lk, .int .i64 ss, .string tt, .int .i64 uu, .int .i64 mt] 40 (0, 0)) from HE11.out)
          clear HC13 HE11 HL5 HIF
          have hjB : j ≤ 121 := by omega
          go_loopw [71] (fun i wq => ∃ k : Nat, k ≤ j ∧ i = .int .i64 k ∧ Chg [] W11.drew wq) (fun i _ => j - (intOf i).toNat)
          case atStart => exact ⟨0, Nat.zero_le _, rfl, Chg.refl _ _⟩
          case round =>
            obtain ⟨k, hk, rfl, hkr⟩ := hrel
            have HKR := Lib.hid (HJR.out.trans (HK11.out.trans (HK12.out.trans hkr)))
            have HKQ := Lib.hid (HK11.out.trans (HK12.out.trans hkr))
            have HE13 := Lib.hid (hkr.heap HE12.out (by simp))
            have HKS := Lib.hid hkr
            clear hkr
            by_cases hltk : k < j
            · have hkM : k < M := by omega
              obtain ⟨x5, hx, hx1, hx2, hx3, hx4⟩ := HC.out k hkM
              obtain ⟨hkL, hx6⟩ := List.getElem?_eq_some_iff.1 hx
              obtain ⟨ad3, e3, _, _, hc2⟩ := (HND.out.chg HKR.out (by simp)) k hkL
              cases e3
              have hcp := hc2 1 (.string (ba (P k))) (by rw [hx6, ← hx1]; rfl)
              have HCK := Lib.hid (fun W (kw : Chg [] wr W) => (kw.cell (hc2 5 (.int .i64 (C k)) (by rw [hx6, ← hx2]; rfl)) (by simp)))
              obtain ⟨kk2, mm2, ss2, tt2, uu2, mt2, hlv⟩ := lstat_some hx3 k9
              have hls := fun W (kw : Chg [] w9 W) => HLS.out W kw (P k)
              rw [hlv] at hls
              have HL5 := Lib.hid hls
              have HIJ := Lib.hid (HPR.out k hltk)
              clear hls hlv hx hx1 hx2 hx3 hx4 hx6 hc2
              generalize (σ.node (B k)).links = lk2 at *
              generalize (σ.node (B k)).ino = ii2 at *
              generalize C k = CK at *
              generalize ba (P k) = PK at *
              go_upto_region 19 with (go_at_call 13; refine (HL5.out _ HKR.out).mono ?_; rintro e w14 ⟨rfl, k14⟩; have HK14 := Lib.hid k14; clear k14)
              clear hcp
              have hk15 : Chg [] w14 (w14.alloc (.cells #[.int .i64 kk2, .int .i64 mm2, .int .i64 ii2, .int .i64 lk2, .int .i64 ss2, .string tt2, .int .i64 uu2, .int .i64 mt2] 40)) := (Chg.refl _ _).alloc _
              have HK15 := Lib.hid (HK14.out.trans hk15)
              have HE15 := Lib.hid (show (w14.alloc (.cells #[.int .i64 kk2, .int .i64 mm2, .int .i64 ii2, .int .i64 lk2, .int .i64 ss2, .string tt2, .int .i64 uu2, .int .i64 mt2] 40)).heap[w14.heap.size]? = some (.cells #[.int .i64 kk2, .int .i64 mm2, .int .i64 ii2, .int .i64 lk2, .int .i64 ss2, .string tt2, .int .i64 uu2, .int .i64 mt2] 40 (0, 0)) from heap_alloc_new _ _)
              clear hk15 HK14
              generalize w14.alloc (.cells #[.int .i64 kk2, .int .i64 mm2, .int .i64 ii2, .int .i64 lk2, .int .i64 ss2, .string tt2, .int .i64 uu2, .int .i64 mt2] 40) = W15 at *
              generalize w14.heap.size = g15 at *
              have HC19 := Lib.hid (show W15.drew.cell? ⟨(ad2.add (j * 6)).block, (ad2.add (j * 6)).off + 5, none⟩ = some (.int .i64 CJ) ∧ W15.drew.cell? ⟨(ad2.add (k * 6)).block, (ad2.add (k * 6)).off + 5, none⟩ = some (.int .i64 CK) ∧ W15.drew.cell? ⟨g11, 2, none⟩ = some (.int .i64 ii) ∧ W15.drew.cell? ⟨g15, 2, none⟩ = some (.int .i64 ii2) from
                ⟨(HCJ.out _ (HKQ.out.trans (HK15.out.trans (Chg.refl _ _).drew))).2, HCK.out _ (HK15.out.trans (Chg.refl _ _).drew), cell_heap (HK15.out.heap HE13.out (by simp)) 2 rfl, cell_heap HE15.out 2 rfl⟩)
              by_cases hp : CJ > 0
              · have hpd : decide (0 < CJ) = true := decide_eq_true hp
                by_cases he : CJ = CK
                · have h3 : (ii == ii2) = true := by rw [beq_iff_eq]; exact HIJ.out.1 ⟨hp, he⟩
                  have h4 : (CJ == CK) = true := by rw [beq_iff_eq]; exact he
                  clear he
                  refine wp_region_held_drew (S := fun q => q.cell? ⟨(ad2.add (j * 6)).block, (ad2.add (j * 6)).off + 5, none⟩ = some (.int .i64 CJ) ∧ q.cell? ⟨(ad2.add (k * 6)).block, (ad2.add (k * 6)).off + 5, none⟩ = some (.int .i64 CK) ∧ q.cell? ⟨g11, 2, none⟩ = some (.int .i64 ii) ∧ q.cell? ⟨g15, 2, none⟩ = some (.int .i64 ii2)) (by kernel_rfl) ?_ (fun hHeld => ?_)
                  · exact HC19.out
                  refine wpAnyH_take (i := 0) (oi := ?oi44) (v := ?v44) ?hi44 (by kernel_rfl) (by kernel_rfl) (by kernel_rfl) ?hQ44 (Or.inl ⟨?hw44, ?hy44⟩) (by assumption) ?hr44
                  case hi44 => simp only [List.getElem?_toArray, List.getElem?_cons_zero]; rfl
                  case hQ44 => exact fun _ _ _ h => h
                  case hw44 => rfl
                  case hy44 => intro w hSw; (try dsimp only at hSw); go_simp; (try with_reducible rfl)
                  case hr44 =>
                  simp only [Act.put, List.setIfInBounds_toArray, List.set_cons_zero, List.set_cons_succ]
                  refine wpAnyH_take (i := 1) (oi := ?oi45) (v := ?v45) ?hi45 (by kernel_rfl) (by kernel_rfl) (by kernel_rfl) ?hQ45 (Or.inl ⟨?hw45, ?hy45⟩) (by assumption) ?hr45
                  case hi45 => simp only [List.getElem?_toArray, List.getElem?_cons_succ, List.getElem?_cons_zero]; rfl
                  case hQ45 => exact fun _ _ _ h => h
                  case hw45 => rfl
                  case hy45 => intro w hSw; (try dsimp only at hSw); go_simp; (try with_reducible rfl)
                  case hr45 =>
                  simp only [Act.put, List.setIfInBounds_toArray, List.set_cons_zero, List.set_cons_succ]
                  refine wpAnyH_take (i := 2) (oi := ?oi46) (v := ?v46) ?hi46 (by kernel_rfl) (by kernel_rfl) (by kernel_rfl) ?hQ46 (Or.inl ⟨?hw46, ?hy46⟩) (by assumption) ?hr46
                  case hi46 => simp only [List.getElem?_toArray, List.getElem?_cons_succ, List.getElem?_cons_zero]; rfl
                  case hQ46 => exact fun _ _ _ h => h
                  case hw46 => rfl
                  case hy46 => intro w hSw; (try dsimp only at hSw); go_simp; (try with_reducible rfl)
                  case hr46 =>
                  simp only [Act.put, List.setIfInBounds_toArray, List.set_cons_zero, List.set_cons_succ]
                  refine wpAnyH_take (i := 3) (oi := ?oi47) (v := ?v47) ?hi47 (by kernel_rfl) (by kernel_rfl) (by kernel_rfl) ?hQ47 (Or.inl ⟨?hw47, ?hy47⟩) (by assumption) ?hr47
                  case hi47 => simp only [List.getElem?_toArray, List.getElem?_cons_succ, List.getElem?_cons_zero]; rfl
                  case hQ47 => exact fun _ _ _ h => h
                  case hw47 => rfl
                  case hy47 => intro w hSw; (try dsimp only at hSw); go_simp; (try with_reducible rfl)
                  case hr47 =>
                  simp only [Act.put, List.setIfInBounds_toArray, List.set_cons_zero, List.set_cons_succ]
                  refine wpAnyH_take (i := 4) (oi := ?oi48) (v := ?v48) ?hi48 (by kernel_rfl) (by kernel_rfl) (by kernel_rfl) ?hQ48 (Or.inl ⟨?hw48, ?hy48⟩) (by assumption) ?hr48
                  case hi48 => simp only [List.getElem?_toArray, List.getElem?_cons_succ, List.getElem?_cons_zero]; rfl
                  case hQ48 => exact fun _ _ _ h => h
                  case hw48 => rfl
                  case hy48 => intro w hSw; (try dsimp only at hSw); go_simp; (try with_reducible rfl)
                  case hr48 =>
                  simp only [Act.put, List.setIfInBounds_toArray, List.set_cons_zero, List.set_cons_succ]
                  refine wpAnyH_take (i := 5) (oi := ?oi49) (v := ?v49) ?hi49 (by kernel_rfl) (by kernel_rfl) (by kernel_rfl) ?hQ49 (Or.inl ⟨?hw49, ?hy49⟩) (by assumption) ?hr49
                  case hi49 => simp only [List.getElem?_toArray, List.getElem?_cons_succ, List.getElem?_cons_zero]; rfl
                  case hQ49 => exact fun _ _ _ h => h
                  case hw49 => rfl
                  case hy49 => intro w hSw; (try dsimp only at hSw); go_simp; (try with_reducible rfl)
                  case hr49 =>
                  simp only [Act.put, List.setIfInBounds_toArray, List.set_cons_zero, List.set_cons_succ]
                  refine wpAnyH_take (i := 6) (oi := ?oi50) (v := ?v50) ?hi50 (by kernel_rfl) (by kernel_rfl) (by kernel_rfl) ?hQ50 (Or.inl ⟨?hw50, ?hy50⟩) (by assumption) ?hr50
                  case hi50 => simp only [List.getElem?_toArray, List.getElem?_cons_succ, List.getElem?_cons_zero]; rfl
                  case hQ50 => exact fun _ _ _ h => h
                  case hw50 => rfl
                  case hy50 => intro w hSw; (try dsimp only at hSw); go_simp; (try with_reducible rfl)
                  case hr50 =>
                  simp only [Act.put, List.setIfInBounds_toArray, List.set_cons_zero, List.set_cons_succ]
                  refine wpAnyH_take (i := 7) (oi := ?oi51) (v := ?v51) ?hi51 (by kernel_rfl) (by kernel_rfl) (by kernel_rfl) ?hQ51 (Or.inl ⟨?hw51, ?hy51⟩) (by assumption) ?hr51
                  case hi51 => simp only [List.getElem?_toArray, List.getElem?_cons_succ, List.getElem?_cons_zero]; rfl
                  case hQ51 => exact fun _ _ _ h => h
                  case hw51 => rfl
                  case hy51 => intro w hSw; (try dsimp only at hSw); go_simp; (try with_reducible rfl)
                  case hr51 =>
                  simp only [Act.put, List.setIfInBounds_toArray, List.set_cons_zero, List.set_cons_succ]
                  refine wpAnyH_take (i := 8) (oi := ?oi52) (v := (.bool true)) ?hi52 (by kernel_rfl) (by kernel_rfl) (by kernel_rfl) ?hQ52 (Or.inl ⟨?hw52, ?hy52⟩) (by assumption) ?hr52
                  case hi52 => simp only [List.getElem?_toArray, List.getElem?_cons_succ, List.getElem?_cons_zero]; rfl
                  case hQ52 => exact fun _ _ _ h => h
                  case hw52 => rfl
                  case hy52 => intro w hSw; (try dsimp only at hSw); go_simp; (try with_reducible rfl)
                  case hr52 =>
                  simp only [Act.put, List.setIfInBounds_toArray, List.set_cons_zero, List.set_cons_succ]
                  refine wpAnyH_take (i := 9) (oi := ?oi53) (v := ?v53) ?hi53 (by kernel_rfl) (by kernel_rfl) (by kernel_rfl) ?hQ53 (Or.inl ⟨?hw53, ?hy53⟩) (by assumption) ?hr53
                  case hi53 => simp only [List.getElem?_toArray, List.getElem?_cons_succ, List.getElem?_cons_zero]; rfl
                  case hQ53 => exact fun _ _ _ h => h
                  case hw53 => rfl
                  case hy53 => intro w hSw; (try dsimp only at hSw); go_simp; (try with_reducible rfl)
                  case hr53 =>
                  simp only [Act.put, List.setIfInBounds_toArray, List.set_cons_zero, List.set_cons_succ]
                  refine wpAnyH_take (i := 10) (oi := ?oi54) (v := ?v54) ?hi54 (by kernel_rfl) (by kernel_rfl) (by kernel_rfl) ?hQ54 (Or.inl ⟨?hw54, ?hy54⟩) (by assumption) ?hr54
                  case hi54 => simp only [List.getElem?_toArray, List.getElem?_cons_succ, List.getElem?_cons_zero]; rfl
                  case hQ54 => exact fun _ _ _ h => h
                  case hw54 => rfl
                  case hy54 => intro w hSw; (try dsimp only at hSw); go_simp; (try with_reducible rfl)
                  case hr54 =>
                  simp only [Act.put, List.setIfInBounds_toArray, List.set_cons_zero, List.set_cons_succ]
                  refine wpAnyH_take (i := 11) (oi := ?oi55) (v := ?v55) ?hi55 (by kernel_rfl) (by kernel_rfl) (by kernel_rfl) ?hQ55 (Or.inl ⟨?hw55, ?hy55⟩) (by assumption) ?hr55
                  case hi55 => simp only [List.getElem?_toArray, List.getElem?_cons_succ, List.getElem?_cons_zero]; rfl
                  case hQ55 => exact fun _ _ _ h => h
                  case hw55 => rfl
                  case hy55 => intro w hSw; (try dsimp only at hSw); go_simp; (try with_reducible rfl)
                  case hr55 =>
                  simp only [Act.put, List.setIfInBounds_toArray, List.set_cons_zero, List.set_cons_succ]
                  refine wpAnyH_take (i := 12) (oi := ?oi56) (v := ?v56) ?hi56 (by kernel_rfl) (by kernel_rfl) (by kernel_rfl) ?hQ56 (Or.inl ⟨?hw56, ?hy56⟩) (by assumption) ?hr56
                  case hi56 => simp only [List.getElem?_toArray, List.getElem?_cons_succ, List.getElem?_cons_zero]; rfl
                  case hQ56 => exact fun _ _ _ h => h
                  case hw56 => rfl
                  case hy56 => intro w hSw; (try dsimp only at hSw); go_simp; (try with_reducible rfl)
                  case hr56 =>
                  simp only [Act.put, List.setIfInBounds_toArray, List.set_cons_zero, List.set_cons_succ]
                  refine wpAnyH_take (i := 13) (oi := ?oi57) (v := ?v57) ?hi57 (by kernel_rfl) (by kernel_rfl) (by kernel_rfl) ?hQ57 (Or.inl ⟨?hw57, ?hy57⟩) (by assumption) ?hr57
                  case hi57 => simp only [List.getElem?_toArray, List.getElem?_cons_succ, List.getElem?_cons_zero]; rfl
                  case hQ57 => exact fun _ _ _ h => h
                  case hw57 => rfl
                  case hy57 => intro w hSw; (try dsimp only at hSw); go_simp; (try with_reducible rfl)
                  case hr57 =>
                  simp only [Act.put, List.setIfInBounds_toArray, List.set_cons_zero, List.set_cons_succ]
                  refine wpAnyH_take (i := 14) (oi := ?oi58) (v := ?v58) ?hi58 (by kernel_rfl) (by kernel_rfl) (by kernel_rfl) ?hQ58 (Or.inl ⟨?hw58, ?hy58⟩) (by assumption) ?hr58
                  case hi58 => simp only [List.getElem?_toArray, List.getElem?_cons_succ, List.getElem?_cons_zero]; rfl
                  case hQ58 => exact fun _ _ _ h => h
                  case hw58 => rfl
                  case hy58 => intro w hSw; (try dsimp only at hSw); go_simp; (try with_reducible rfl)
                  case hr58 =>
                  simp only [Act.put, List.setIfInBounds_toArray, List.set_cons_zero, List.set_cons_succ]
                  refine wpAnyH_take (i := 15) (oi := ?oi59) (v := ?v59) ?hi59 (by kernel_rfl) (by kernel_rfl) (by kernel_rfl) ?hQ59 (Or.inl ⟨?hw59, ?hy59⟩) (by assumption) ?hr59
                  case hi59 => simp only [List.getElem?_toArray, List.getElem?_cons_succ, List.getElem?_cons_zero]; rfl
                  case hQ59 => exact fun _ _ _ h => h
                  case hw59 => rfl
                  case hy59 => intro w hSw; (try dsimp only at hSw); go_simp; (try with_reducible rfl)
                  case hr59 =>
                  simp only [Act.put, List.setIfInBounds_toArray, List.set_cons_zero, List.set_cons_succ]
                  refine wpAnyH_take (i := 16) (oi := ?oi60) (v := ?v60) ?hi60 (by kernel_rfl) (by kernel_rfl) (by kernel_rfl) ?hQ60 (Or.inl ⟨?hw60, ?hy60⟩) (by assumption) ?hr60
                  case hi60 => simp only [List.getElem?_toArray, List.getElem?_cons_succ, List.getElem?_cons_zero]; rfl
                  case hQ60 => exact fun _ _ _ h => h
                  case hw60 => rfl
                  case hy60 => intro w hSw; (try dsimp only at hSw); go_simp; (try with_reducible rfl)
                  case hr60 =>
                  simp only [Act.put, List.setIfInBounds_toArray, List.set_cons_zero, List.set_cons_succ]
                  refine wpAnyH_take (i := 17) (oi := ?oi61) (v := ?v61) ?hi61 (by kernel_rfl) (by kernel_rfl) (by kernel_rfl) ?hQ61 (Or.inl ⟨?hw61, ?hy61⟩) (by assumption) ?hr61
                  case hi61 => simp only [List.getElem?_toArray, List.getElem?_cons_succ, List.getElem?_cons_zero]; rfl
                  case hQ61 => exact fun _ _ _ h => h
                  case hw61 => rfl
                  case hy61 => intro w hSw; (try dsimp only at hSw); go_simp; (try with_reducible rfl)
                  case hr61 =>
                  simp only [Act.put, List.setIfInBounds_toArray, List.set_cons_zero, List.set_cons_succ]
                  refine wpAnyH_take (i := 18) (oi := ?oi62) (v := ?v62) ?hi62 (by kernel_rfl) (by kernel_rfl) (by kernel_rfl) ?hQ62 (Or.inl ⟨?hw62, ?hy62⟩) (by assumption) ?hr62
                  case hi62 => simp only [List.getElem?_toArray, List.getElem?_cons_succ, List.getElem?_cons_zero]; rfl
                  case hQ62 => exact fun _ _ _ h => h
                  case hw62 => rfl
                  case hy62 => intro w hSw; (try dsimp only at hSw); go_simp; (try with_reducible rfl)
                  case hr62 =>
                  simp only [Act.put, List.setIfInBounds_toArray, List.set_cons_zero, List.set_cons_succ]
                  refine wpAnyH_take (i := 19) (oi := ?oi63) (v := ?v63) ?hi63 (by kernel_rfl) (by kernel_rfl) (by kernel_rfl) ?hQ63 (Or.inl ⟨?hw63, ?hy63⟩) (by assumption) ?hr63
                  case hi63 => simp only [List.getElem?_toArray, List.getElem?_cons_succ, List.getElem?_cons_zero]; rfl
                  case hQ63 => exact fun _ _ _ h => h
                  case hw63 => rfl
                  case hy63 => intro w hSw; (try dsimp only at hSw); go_simp; (try with_reducible rfl)
                  case hr63 =>
                  simp only [Act.put, List.setIfInBounds_toArray, List.set_cons_zero, List.set_cons_succ]
                  refine wpAnyH_take (i := 20) (oi := ?oi64) (v := ?v64) ?hi64 (by kernel_rfl) (by kernel_rfl) (by kernel_rfl) ?hQ64 (Or.inl ⟨?hw64, ?hy64⟩) (by assumption) ?hr64
                  case hi64 => simp only [List.getElem?_toArray, List.getElem?_cons_succ, List.getElem?_cons_zero]; rfl
                  case hQ64 => exact fun _ _ _ h => h
                  case hw64 => rfl
                  case hy64 => intro w hSw; (try dsimp only at hSw); go_simp; (try with_reducible rfl)
                  case hr64 =>
                  simp only [Act.put, List.setIfInBounds_toArray, List.set_cons_zero, List.set_cons_succ]
                  refine wpAnyH_take (i := 21) (oi := ?oi65) (v := ?v65) ?hi65 (by kernel_rfl) (by kernel_rfl) (by kernel_rfl) ?hQ65 (Or.inl ⟨?hw65, ?hy65⟩) (by assumption) ?hr65
                  case hi65 => simp only [List.getElem?_toArray, List.getElem?_cons_succ, List.getElem?_cons_zero]; rfl
                  case hQ65 => exact fun _ _ _ h => h
                  case hw65 => rfl
                  case hy65 => intro w hSw; (try dsimp only at hSw); go_simp; (try with_reducible rfl)
                  case hr65 =>
                  simp only [Act.put, List.setIfInBounds_toArray, List.set_cons_zero, List.set_cons_succ]
                  refine wpAnyH_take (i := 22) (oi := ?oi66) (v := ?v66) ?hi66 (by kernel_rfl) (by kernel_rfl) (by kernel_rfl) ?hQ66 (Or.inl ⟨?hw66, ?hy66⟩) (by assumption) ?hr66
                  case hi66 => simp only [List.getElem?_toArray, List.getElem?_cons_succ, List.getElem?_cons_zero]; rfl
                  case hQ66 => exact fun _ _ _ h => h
                  case hw66 => rfl
                  case hy66 => intro w hSw; (try dsimp only at hSw); go_simp; (try with_reducible rfl)
                  case hr66 =>
                  simp only [Act.put, List.setIfInBounds_toArray, List.set_cons_zero, List.set_cons_succ]
                  refine wpAnyH_take (i := 23) (oi := ?oi67) (v := ?v67) ?hi67 (by kernel_rfl) (by kernel_rfl) (by kernel_rfl) ?hQ67 (Or.inl ⟨?hw67, ?hy67⟩) (by assumption) ?hr67
                  case hi67 => simp only [List.getElem?_toArray, List.getElem?_cons_succ, List.getElem?_cons_zero]; rfl
                  case hQ67 => exact fun _ _ _ h => h
                  case hw67 => rfl
                  case hy67 => intro w hSw; (try dsimp only at hSw); go_simp; (try with_reducible rfl)
                  case hr67 =>
                  simp only [Act.put, List.setIfInBounds_toArray, List.set_cons_zero, List.set_cons_succ]
                  refine wpAnyH_take (i := 24) (oi := ?oi68) (v := ?v68) ?hi68 (by kernel_rfl) (by kernel_rfl) (by kernel_rfl) ?hQ68 (Or.inl ⟨?hw68, ?hy68⟩) (by assumption) ?hr68
                  case hi68 => simp only [List.getElem?_toArray, List.getElem?_cons_succ, List.getElem?_cons_zero]; rfl
                  case hQ68 => exact fun _ _ _ h => h
                  case hw68 => rfl
                  case hy68 => intro w hSw; (try dsimp only at hSw); go_simp; (try with_reducible rfl)
                  case hr68 =>
                  simp only [Act.put, List.setIfInBounds_toArray, List.set_cons_zero, List.set_cons_succ]
                  refine wpAnyH_take (i := 25) (oi := ?oi69) (v := ?v69) ?hi69 (by kernel_rfl) (by kernel_rfl) (by kernel_rfl) ?hQ69 (Or.inl ⟨?hw69, ?hy69⟩) (by assumption) ?hr69
                  case hi69 => simp only [List.getElem?_toArray, List.getElem?_cons_succ, List.getElem?_cons_zero]; rfl
                  case hQ69 => exact fun _ _ _ h => h
                  case hw69 => rfl
                  case hy69 => intro w hSw; (try dsimp only at hSw); go_simp; (try with_reducible rfl)
                  case hr69 =>
                  simp only [Act.put, List.setIfInBounds_toArray, List.set_cons_zero, List.set_cons_succ]
                  refine wpAnyH_take (i := 26) (oi := ?oi70) (v := ?v70) ?hi70 (by kernel_rfl) (by kernel_rfl) (by kernel_rfl) ?hQ70 (Or.inl ⟨?hw70, ?hy70⟩) (by assumption) ?hr70
                  case hi70 => simp only [List.getElem?_toArray, List.getElem?_cons_succ, List.getElem?_cons_zero]; rfl
                  case hQ70 => exact fun _ _ _ h => h
                  case hw70 => rfl
                  case hy70 => intro w hSw; (try dsimp only at hSw); go_simp; (try with_reducible rfl)
                  case hr70 =>
                  simp only [Act.put, List.setIfInBounds_toArray, List.set_cons_zero, List.set_cons_succ]
                  refine wpAnyH_take (i := 27) (oi := ?oi71) (v := ?v71) ?hi71 (by kernel_rfl) (by kernel_rfl) (by kernel_rfl) ?hQ71 (Or.inl ⟨?hw71, ?hy71⟩) (by assumption) ?hr71
                  case hi71 => simp only [List.getElem?_toArray, List.getElem?_cons_succ, List.getElem?_cons_zero]; rfl
                  case hQ71 => exact fun _ _ _ h => h
                  case hw71 => rfl
                  case hy71 => intro w hSw; (try dsimp only at hSw); go_simp; (try with_reducible rfl)
                  case hr71 =>
                  simp only [Act.put, List.setIfInBounds_toArray, List.set_cons_zero, List.set_cons_succ]
                  refine wpAnyH_take (i := 28) (oi := ?oi72) (v := ?v72) ?hi72 (by kernel_rfl) (by kernel_rfl) (by kernel_rfl) ?hQ72 (Or.inl ⟨?hw72, ?hy72⟩) (by assumption) ?hr72
                  case hi72 => simp only [List.getElem?_toArray, List.getElem?_cons_succ, List.getElem?_cons_zero]; rfl
                  case hQ72 => exact fun _ _ _ h => h
                  case hw72 => rfl
                  case hy72 => intro w hSw; (try dsimp only at hSw); go_simp; (try with_reducible rfl)
                  case hr72 =>
                  simp only [Act.put, List.setIfInBounds_toArray, List.set_cons_zero, List.set_cons_succ]
                  refine wpAnyH_done (by kernel_rfl) ?_ _
                  go_wp2_with fail
                  go_roundw
                  case rel => exact ⟨k + 1, by omega, by go_num, HKS.out.trans (HK15.out.trans (Chg.refl _ _).drew)⟩
                  case measure => simp [intOf]; omega
                · have h3 : (ii == ii2) = false := by rw [beq_eq_false_iff_ne]; exact fun h => he (HIJ.out.2 h).2
                  have h4 : (CJ == CK) = false := by rw [beq_eq_false_iff_ne]; exact he
                  clear he
                  refine wp_region_held_drew (S := fun q => q.cell? ⟨(ad2.add (j * 6)).block, (ad2.add (j * 6)).off + 5, none⟩ = some (.int .i64 CJ) ∧ q.cell? ⟨(ad2.add (k * 6)).block, (ad2.add (k * 6)).off + 5, none⟩ = some (.int .i64 CK) ∧ q.cell? ⟨g11, 2, none⟩ = some (.int .i64 ii) ∧ q.cell? ⟨g15, 2, none⟩ = some (.int .i64 ii2)) (by kernel_rfl) ?_ (fun hHeld => ?_)
                  · exact HC19.out
                  refine wpAnyH_take (i := 0) (oi := ?oi73) (v := ?v73) ?hi73 (by kernel_rfl) (by kernel_rfl) (by kernel_rfl) ?hQ73 (Or.inl ⟨?hw73, ?hy73⟩) (by assumption) ?hr73
                  case hi73 => simp only [List.getElem?_toArray, List.getElem?_cons_zero]; rfl
                  case hQ73 => exact fun _ _ _ h => h
                  case hw73 => rfl
                  case hy73 => intro w hSw; (try dsimp only at hSw); go_simp; (try with_reducible rfl)
                  case hr73 =>
                  simp only [Act.put, List.setIfInBounds_toArray, List.set_cons_zero, List.set_cons_succ]
                  refine wpAnyH_take (i := 1) (oi := ?oi74) (v := ?v74) ?hi74 (by kernel_rfl) (by kernel_rfl) (by kernel_rfl) ?hQ74 (Or.inl ⟨?hw74, ?hy74⟩) (by assumption) ?hr74
                  case hi74 => simp only [List.getElem?_toArray, List.getElem?_cons_succ, List.getElem?_cons_zero]; rfl
                  case hQ74 => exact fun _ _ _ h => h
                  case hw74 => rfl
                  case hy74 => intro w hSw; (try dsimp only at hSw); go_simp; (try with_reducible rfl)
                  case hr74 =>
                  simp only [Act.put, List.setIfInBounds_toArray, List.set_cons_zero, List.set_cons_succ]
                  refine wpAnyH_take (i := 2) (oi := ?oi75) (v := ?v75) ?hi75 (by kernel_rfl) (by kernel_rfl) (by kernel_rfl) ?hQ75 (Or.inl ⟨?hw75, ?hy75⟩) (by assumption) ?hr75
                  case hi75 => simp only [List.getElem?_toArray, List.getElem?_cons_succ, List.getElem?_cons_zero]; rfl
                  case hQ75 => exact fun _ _ _ h => h
                  case hw75 => rfl
                  case hy75 => intro w hSw; (try dsimp only at hSw); go_simp; (try with_reducible rfl)
                  case hr75 =>
                  simp only [Act.put, List.setIfInBounds_toArray, List.set_cons_zero, List.set_cons_succ]
                  refine wpAnyH_take (i := 3) (oi := ?oi76) (v := ?v76) ?hi76 (by kernel_rfl) (by kernel_rfl) (by kernel_rfl) ?hQ76 (Or.inl ⟨?hw76, ?hy76⟩) (by assumption) ?hr76
                  case hi76 => simp only [List.getElem?_toArray, List.getElem?_cons_succ, List.getElem?_cons_zero]; rfl
                  case hQ76 => exact fun _ _ _ h => h
                  case hw76 => rfl
                  case hy76 => intro w hSw; (try dsimp only at hSw); go_simp; (try with_reducible rfl)
                  case hr76 =>
                  simp only [Act.put, List.setIfInBounds_toArray, List.set_cons_zero, List.set_cons_succ]
                  refine wpAnyH_take (i := 4) (oi := ?oi77) (v := ?v77) ?hi77 (by kernel_rfl) (by kernel_rfl) (by kernel_rfl) ?hQ77 (Or.inl ⟨?hw77, ?hy77⟩) (by assumption) ?hr77
                  case hi77 => simp only [List.getElem?_toArray, List.getElem?_cons_succ, List.getElem?_cons_zero]; rfl
                  case hQ77 => exact fun _ _ _ h => h
                  case hw77 => rfl
                  case hy77 => intro w hSw; (try dsimp only at hSw); go_simp; (try with_reducible rfl)
                  case hr77 =>
                  simp only [Act.put, List.setIfInBounds_toArray, List.set_cons_zero, List.set_cons_succ]
                  refine wpAnyH_take (i := 5) (oi := ?oi78) (v := ?v78) ?hi78 (by kernel_rfl) (by kernel_rfl) (by kernel_rfl) ?hQ78 (Or.inl ⟨?hw78, ?hy78⟩) (by assumption) ?hr78
                  case hi78 => simp only [List.getElem?_toArray, List.getElem?_cons_succ, List.getElem?_cons_zero]; rfl
                  case hQ78 => exact fun _ _ _ h => h
                  case hw78 => rfl
                  case hy78 => intro w hSw; (try dsimp only at hSw); go_simp; (try with_reducible rfl)
                  case hr78 =>
                  simp only [Act.put, List.setIfInBounds_toArray, List.set_cons_zero, List.set_cons_succ]
                  refine wpAnyH_take (i := 6) (oi := ?oi79) (v := ?v79) ?hi79 (by kernel_rfl) (by kernel_rfl) (by kernel_rfl) ?hQ79 (Or.inl ⟨?hw79, ?hy79⟩) (by assumption) ?hr79
                  case hi79 => simp only [List.getElem?_toArray, List.getElem?_cons_succ, List.getElem?_cons_zero]; rfl
                  case hQ79 => exact fun _ _ _ h => h
                  case hw79 => rfl
                  case hy79 => intro w hSw; (try dsimp only at hSw); go_simp; (try with_reducible rfl)
                  case hr79 =>
                  simp only [Act.put, List.setIfInBounds_toArray, List.set_cons_zero, List.set_cons_succ]
                  refine wpAnyH_take (i := 7) (oi := ?oi80) (v := ?v80) ?hi80 (by kernel_rfl) (by kernel_rfl) (by kernel_rfl) ?hQ80 (Or.inl ⟨?hw80, ?hy80⟩) (by assumption) ?hr80
                  case hi80 => simp only [List.getElem?_toArray, List.getElem?_cons_succ, List.getElem?_cons_zero]; rfl
                  case hQ80 => exact fun _ _ _ h => h
                  case hw80 => rfl
                  case hy80 => intro w hSw; (try dsimp only at hSw); go_simp; (try with_reducible rfl)
                  case hr80 =>
                  simp only [Act.put, List.setIfInBounds_toArray, List.set_cons_zero, List.set_cons_succ]
                  refine wpAnyH_take (i := 8) (oi := ?oi81) (v := (.bool true)) ?hi81 (by kernel_rfl) (by kernel_rfl) (by kernel_rfl) ?hQ81 (Or.inl ⟨?hw81, ?hy81⟩) (by assumption) ?hr81
                  case hi81 => simp only [List.getElem?_toArray, List.getElem?_cons_succ, List.getElem?_cons_zero]; rfl
                  case hQ81 => exact fun _ _ _ h => h
                  case hw81 => rfl
                  case hy81 => intro w hSw; (try dsimp only at hSw); go_simp; (try with_reducible rfl)
                  case hr81 =>
                  simp only [Act.put, List.setIfInBounds_toArray, List.set_cons_zero, List.set_cons_succ]
                  refine wpAnyH_take (i := 9) (oi := ?oi82) (v := ?v82) ?hi82 (by kernel_rfl) (by kernel_rfl) (by kernel_rfl) ?hQ82 (Or.inl ⟨?hw82, ?hy82⟩) (by assumption) ?hr82
                  case hi82 => simp only [List.getElem?_toArray, List.getElem?_cons_succ, List.getElem?_cons_zero]; rfl
                  case hQ82 => exact fun _ _ _ h => h
                  case hw82 => rfl
                  case hy82 => intro w hSw; (try dsimp only at hSw); go_simp; (try with_reducible rfl)
                  case hr82 =>
                  simp only [Act.put, List.setIfInBounds_toArray, List.set_cons_zero, List.set_cons_succ]
                  refine wpAnyH_take (i := 10) (oi := ?oi83) (v := ?v83) ?hi83 (by kernel_rfl) (by kernel_rfl) (by kernel_rfl) ?hQ83 (Or.inl ⟨?hw83, ?hy83⟩) (by assumption) ?hr83
                  case hi83 => simp only [List.getElem?_toArray, List.getElem?_cons_succ, List.getElem?_cons_zero]; rfl
                  case hQ83 => exact fun _ _ _ h => h
                  case hw83 => rfl
                  case hy83 => intro w hSw; (try dsimp only at hSw); go_simp; (try with_reducible rfl)
                  case hr83 =>
                  simp only [Act.put, List.setIfInBounds_toArray, List.set_cons_zero, List.set_cons_succ]
                  refine wpAnyH_take (i := 11) (oi := ?oi84) (v := ?v84) ?hi84 (by kernel_rfl) (by kernel_rfl) (by kernel_rfl) ?hQ84 (Or.inl ⟨?hw84, ?hy84⟩) (by assumption) ?hr84
                  case hi84 => simp only [List.getElem?_toArray, List.getElem?_cons_succ, List.getElem?_cons_zero]; rfl
                  case hQ84 => exact fun _ _ _ h => h
                  case hw84 => rfl
                  case hy84 => intro w hSw; (try dsimp only at hSw); go_simp; (try with_reducible rfl)
                  case hr84 =>
                  simp only [Act.put, List.setIfInBounds_toArray, List.set_cons_zero, List.set_cons_succ]
                  refine wpAnyH_take (i := 12) (oi := ?oi85) (v := ?v85) ?hi85 (by kernel_rfl) (by kernel_rfl) (by kernel_rfl) ?hQ85 (Or.inl ⟨?hw85, ?hy85⟩) (by assumption) ?hr85
                  case hi85 => simp only [List.getElem?_toArray, List.getElem?_cons_succ, List.getElem?_cons_zero]; rfl
                  case hQ85 => exact fun _ _ _ h => h
                  case hw85 => rfl
                  case hy85 => intro w hSw; (try dsimp only at hSw); go_simp; (try with_reducible rfl)
                  case hr85 =>
                  simp only [Act.put, List.setIfInBounds_toArray, List.set_cons_zero, List.set_cons_succ]
                  refine wpAnyH_take (i := 13) (oi := ?oi86) (v := ?v86) ?hi86 (by kernel_rfl) (by kernel_rfl) (by kernel_rfl) ?hQ86 (Or.inl ⟨?hw86, ?hy86⟩) (by assumption) ?hr86
                  case hi86 => simp only [List.getElem?_toArray, List.getElem?_cons_succ, List.getElem?_cons_zero]; rfl
                  case hQ86 => exact fun _ _ _ h => h
                  case hw86 => rfl
                  case hy86 => intro w hSw; (try dsimp only at hSw); go_simp; (try with_reducible rfl)
                  case hr86 =>
                  simp only [Act.put, List.setIfInBounds_toArray, List.set_cons_zero, List.set_cons_succ]
                  refine wpAnyH_take (i := 14) (oi := ?oi87) (v := ?v87) ?hi87 (by kernel_rfl) (by kernel_rfl) (by kernel_rfl) ?hQ87 (Or.inl ⟨?hw87, ?hy87⟩) (by assumption) ?hr87
                  case hi87 => simp only [List.getElem?_toArray, List.getElem?_cons_succ, List.getElem?_cons_zero]; rfl
                  case hQ87 => exact fun _ _ _ h => h
                  case hw87 => rfl
                  case hy87 => intro w hSw; (try dsimp only at hSw); go_simp; (try with_reducible rfl)
                  case hr87 =>
                  simp only [Act.put, List.setIfInBounds_toArray, List.set_cons_zero, List.set_cons_succ]
                  refine wpAnyH_take (i := 15) (oi := ?oi88) (v := ?v88) ?hi88 (by kernel_rfl) (by kernel_rfl) (by kernel_rfl) ?hQ88 (Or.inl ⟨?hw88, ?hy88⟩) (by assumption) ?hr88
                  case hi88 => simp only [List.getElem?_toArray, List.getElem?_cons_succ, List.getElem?_cons_zero]; rfl
                  case hQ88 => exact fun _ _ _ h => h
                  case hw88 => rfl
                  case hy88 => intro w hSw; (try dsimp only at hSw); go_simp; (try with_reducible rfl)
                  case hr88 =>
                  simp only [Act.put, List.setIfInBounds_toArray, List.set_cons_zero, List.set_cons_succ]
                  refine wpAnyH_take (i := 16) (oi := ?oi89) (v := ?v89) ?hi89 (by kernel_rfl) (by kernel_rfl) (by kernel_rfl) ?hQ89 (Or.inl ⟨?hw89, ?hy89⟩) (by assumption) ?hr89
                  case hi89 => simp only [List.getElem?_toArray, List.getElem?_cons_succ, List.getElem?_cons_zero]; rfl
                  case hQ89 => exact fun _ _ _ h => h
                  case hw89 => rfl
                  case hy89 => intro w hSw; (try dsimp only at hSw); go_simp; (try with_reducible rfl)
                  case hr89 =>
                  simp only [Act.put, List.setIfInBounds_toArray, List.set_cons_zero, List.set_cons_succ]
                  refine wpAnyH_take (i := 17) (oi := ?oi90) (v := ?v90) ?hi90 (by kernel_rfl) (by kernel_rfl) (by kernel_rfl) ?hQ90 (Or.inl ⟨?hw90, ?hy90⟩) (by assumption) ?hr90
                  case hi90 => simp only [List.getElem?_toArray, List.getElem?_cons_succ, List.getElem?_cons_zero]; rfl
                  case hQ90 => exact fun _ _ _ h => h
                  case hw90 => rfl
                  case hy90 => intro w hSw; (try dsimp only at hSw); go_simp; (try with_reducible rfl)
                  case hr90 =>
                  simp only [Act.put, List.setIfInBounds_toArray, List.set_cons_zero, List.set_cons_succ]
                  refine wpAnyH_take (i := 18) (oi := ?oi91) (v := ?v91) ?hi91 (by kernel_rfl) (by kernel_rfl) (by kernel_rfl) ?hQ91 (Or.inl ⟨?hw91, ?hy91⟩) (by assumption) ?hr91
                  case hi91 => simp only [List.getElem?_toArray, List.getElem?_cons_succ, List.getElem?_cons_zero]; rfl
                  case hQ91 => exact fun _ _ _ h => h
                  case hw91 => rfl
                  case hy91 => intro w hSw; (try dsimp only at hSw); go_simp; (try with_reducible rfl)
                  case hr91 =>
                  simp only [Act.put, List.setIfInBounds_toArray, List.set_cons_zero, List.set_cons_succ]
                  refine wpAnyH_take (i := 19) (oi := ?oi92) (v := ?v92) ?hi92 (by kernel_rfl) (by kernel_rfl) (by kernel_rfl) ?hQ92 (Or.inl ⟨?hw92, ?hy92⟩) (by assumption) ?hr92
                  case hi92 => simp only [List.getElem?_toArray, List.getElem?_cons_succ, List.getElem?_cons_zero]; rfl
                  case hQ92 => exact fun _ _ _ h => h
                  case hw92 => rfl
                  case hy92 => intro w hSw; (try dsimp only at hSw); go_simp; (try with_reducible rfl)
                  case hr92 =>
                  simp only [Act.put, List.setIfInBounds_toArray, List.set_cons_zero, List.set_cons_succ]
                  refine wpAnyH_take (i := 20) (oi := ?oi93) (v := ?v93) ?hi93 (by kernel_rfl) (by kernel_rfl) (by kernel_rfl) ?hQ93 (Or.inl ⟨?hw93, ?hy93⟩) (by assumption) ?hr93
                  case hi93 => simp only [List.getElem?_toArray, List.getElem?_cons_succ, List.getElem?_cons_zero]; rfl
                  case hQ93 => exact fun _ _ _ h => h
                  case hw93 => rfl
                  case hy93 => intro w hSw; (try dsimp only at hSw); go_simp; (try with_reducible rfl)
                  case hr93 =>
                  simp only [Act.put, List.setIfInBounds_toArray, List.set_cons_zero, List.set_cons_succ]
                  refine wpAnyH_take (i := 21) (oi := ?oi94) (v := ?v94) ?hi94 (by kernel_rfl) (by kernel_rfl) (by kernel_rfl) ?hQ94 (Or.inl ⟨?hw94, ?hy94⟩) (by assumption) ?hr94
                  case hi94 => simp only [List.getElem?_toArray, List.getElem?_cons_succ, List.getElem?_cons_zero]; rfl
                  case hQ94 => exact fun _ _ _ h => h
                  case hw94 => rfl
                  case hy94 => intro w hSw; (try dsimp only at hSw); go_simp; (try with_reducible rfl)
                  case hr94 =>
                  simp only [Act.put, List.setIfInBounds_toArray, List.set_cons_zero, List.set_cons_succ]
                  refine wpAnyH_take (i := 22) (oi := ?oi95) (v := ?v95) ?hi95 (by kernel_rfl) (by kernel_rfl) (by kernel_rfl) ?hQ95 (Or.inl ⟨?hw95, ?hy95⟩) (by assumption) ?hr95
                  case hi95 => simp only [List.getElem?_toArray, List.getElem?_cons_succ, List.getElem?_cons_zero]; rfl
                  case hQ95 => exact fun _ _ _ h => h
                  case hw95 => rfl
                  case hy95 => intro w hSw; (try dsimp only at hSw); go_simp; (try with_reducible rfl)
                  case hr95 =>
                  simp only [Act.put, List.setIfInBounds_toArray, List.set_cons_zero, List.set_cons_succ]
                  refine wpAnyH_take (i := 23) (oi := ?oi96) (v := ?v96) ?hi96 (by kernel_rfl) (by kernel_rfl) (by kernel_rfl) ?hQ96 (Or.inl ⟨?hw96, ?hy96⟩) (by assumption) ?hr96
                  case hi96 => simp only [List.getElem?_toArray, List.getElem?_cons_succ, List.getElem?_cons_zero]; rfl
                  case hQ96 => exact fun _ _ _ h => h
                  case hw96 => rfl
                  case hy96 => intro w hSw; (try dsimp only at hSw); go_simp; (try with_reducible rfl)
                  case hr96 =>
                  simp only [Act.put, List.setIfInBounds_toArray, List.set_cons_zero, List.set_cons_succ]
                  refine wpAnyH_take (i := 24) (oi := ?oi97) (v := ?v97) ?hi97 (by kernel_rfl) (by kernel_rfl) (by kernel_rfl) ?hQ97 (Or.inl ⟨?hw97, ?hy97⟩) (by assumption) ?hr97
                  case hi97 => simp only [List.getElem?_toArray, List.getElem?_cons_succ, List.getElem?_cons_zero]; rfl
                  case hQ97 => exact fun _ _ _ h => h
                  case hw97 => rfl
                  case hy97 => intro w hSw; (try dsimp only at hSw); go_simp; (try with_reducible rfl)
                  case hr97 =>
                  simp only [Act.put, List.setIfInBounds_toArray, List.set_cons_zero, List.set_cons_succ]
                  refine wpAnyH_take (i := 25) (oi := ?oi98) (v := ?v98) ?hi98 (by kernel_rfl) (by kernel_rfl) (by kernel_rfl) ?hQ98 (Or.inl ⟨?hw98, ?hy98⟩) (by assumption) ?hr98
                  case hi98 => simp only [List.getElem?_toArray, List.getElem?_cons_succ, List.getElem?_cons_zero]; rfl
                  case hQ98 => exact fun _ _ _ h => h
                  case hw98 => rfl
                  case hy98 => intro w hSw; (try dsimp only at hSw); go_simp; (try with_reducible rfl)
                  case hr98 =>
                  simp only [Act.put, List.setIfInBounds_toArray, List.set_cons_zero, List.set_cons_succ]
                  refine wpAnyH_take (i := 26) (oi := ?oi99) (v := ?v99) ?hi99 (by kernel_rfl) (by kernel_rfl) (by kernel_rfl) ?hQ99 (Or.inl ⟨?hw99, ?hy99⟩) (by assumption) ?hr99
                  case hi99 => simp only [List.getElem?_toArray, List.getElem?_cons_succ, List.getElem?_cons_zero]; rfl
                  case hQ99 => exact fun _ _ _ h => h
                  case hw99 => rfl
                  case hy99 => intro w hSw; (try dsimp only at hSw); go_simp; (try with_reducible rfl)
                  case hr99 =>
                  simp only [Act.put, List.setIfInBounds_toArray, List.set_cons_zero, List.set_cons_succ]
                  refine wpAnyH_take (i := 27) (oi := ?oi100) (v := ?v100) ?hi100 (by kernel_rfl) (by kernel_rfl) (by kernel_rfl) ?hQ100 (Or.inl ⟨?hw100, ?hy100⟩) (by assumption) ?hr100
                  case hi100 => simp only [List.getElem?_toArray, List.getElem?_cons_succ, List.getElem?_cons_zero]; rfl
                  case hQ100 => exact fun _ _ _ h => h
                  case hw100 => rfl
                  case hy100 => intro w hSw; (try dsimp only at hSw); go_simp; (try with_reducible rfl)
                  case hr100 =>
                  simp only [Act.put, List.setIfInBounds_toArray, List.set_cons_zero, List.set_cons_succ]
                  refine wpAnyH_take (i := 28) (oi := ?oi101) (v := ?v101) ?hi101 (by kernel_rfl) (by kernel_rfl) (by kernel_rfl) ?hQ101 (Or.inl ⟨?hw101, ?hy101⟩) (by assumption) ?hr101
                  case hi101 => simp only [List.getElem?_toArray, List.getElem?_cons_succ, List.getElem?_cons_zero]; rfl
                  case hQ101 => exact fun _ _ _ h => h
                  case hw101 => rfl
                  case hy101 => intro w hSw; (try dsimp only at hSw); go_simp; (try with_reducible rfl)
                  case hr101 =>
                  simp only [Act.put, List.setIfInBounds_toArray, List.set_cons_zero, List.set_cons_succ]
                  refine wpAnyH_done (by kernel_rfl) ?_ _
                  go_wp2_with fail
                  go_roundw
                  case rel => exact ⟨k + 1, by omega, by go_num, HKS.out.trans (HK15.out.trans (Chg.refl _ _).drew)⟩
                  case measure => simp [intOf]; omega
              · have hpd : decide (0 < CJ) = false := decide_eq_false hp
                have h3 : (ii == ii2) = false := by rw [beq_eq_false_iff_ne]; exact fun h => hp (HIJ.out.2 h).1
                refine wp_region_held_drew (S := fun q => q.cell? ⟨(ad2.add (j * 6)).block, (ad2.add (j * 6)).off + 5, none⟩ = some (.int .i64 CJ) ∧ q.cell? ⟨(ad2.add (k * 6)).block, (ad2.add (k * 6)).off + 5, none⟩ = some (.int .i64 CK) ∧ q.cell? ⟨g11, 2, none⟩ = some (.int .i64 ii) ∧ q.cell? ⟨g15, 2, none⟩ = some (.int .i64 ii2)) (by kernel_rfl) ?_ (fun hHeld => ?_)
                · exact HC19.out
                refine wpAnyH_take (i := 0) (oi := ?oi15) (v := ?v15) ?hi15 (by kernel_rfl) (by kernel_rfl) (by kernel_rfl) ?hQ15 (Or.inl ⟨?hw15, ?hy15⟩) (by assumption) ?hr15
                case hi15 => simp only [List.getElem?_toArray, List.getElem?_cons_zero]; rfl
                case hQ15 => exact fun _ _ _ h => h
                case hw15 => rfl
                case hy15 => intro w hSw; (try dsimp only at hSw); go_simp; (try with_reducible rfl)
                case hr15 =>
                simp only [Act.put, List.setIfInBounds_toArray, List.set_cons_zero, List.set_cons_succ]
                refine wpAnyH_take (i := 1) (oi := ?oi16) (v := ?v16) ?hi16 (by kernel_rfl) (by kernel_rfl) (by kernel_rfl) ?hQ16 (Or.inl ⟨?hw16, ?hy16⟩) (by assumption) ?hr16
                case hi16 => simp only [List.getElem?_toArray, List.getElem?_cons_succ, List.getElem?_cons_zero]; rfl
                case hQ16 => exact fun _ _ _ h => h
                case hw16 => rfl
                case hy16 => intro w hSw; (try dsimp only at hSw); go_simp; (try with_reducible rfl)
                case hr16 =>
                simp only [Act.put, List.setIfInBounds_toArray, List.set_cons_zero, List.set_cons_succ]
                refine wpAnyH_take (i := 2) (oi := ?oi17) (v := ?v17) ?hi17 (by kernel_rfl) (by kernel_rfl) (by kernel_rfl) ?hQ17 (Or.inl ⟨?hw17, ?hy17⟩) (by assumption) ?hr17
                case hi17 => simp only [List.getElem?_toArray, List.getElem?_cons_succ, List.getElem?_cons_zero]; rfl
                case hQ17 => exact fun _ _ _ h => h
                case hw17 => rfl
                case hy17 => intro w hSw; (try dsimp only at hSw); go_simp; (try with_reducible rfl)
                case hr17 =>
                simp only [Act.put, List.setIfInBounds_toArray, List.set_cons_zero, List.set_cons_succ]
                refine wpAnyH_take (i := 3) (oi := ?oi18) (v := ?v18) ?hi18 (by kernel_rfl) (by kernel_rfl) (by kernel_rfl) ?hQ18 (Or.inl ⟨?hw18, ?hy18⟩) (by assumption) ?hr18
                case hi18 => simp only [List.getElem?_toArray, List.getElem?_cons_succ, List.getElem?_cons_zero]; rfl
                case hQ18 => exact fun _ _ _ h => h
                case hw18 => rfl
                case hy18 => intro w hSw; (try dsimp only at hSw); go_simp; (try with_reducible rfl)
                case hr18 =>
                simp only [Act.put, List.setIfInBounds_toArray, List.set_cons_zero, List.set_cons_succ]
                refine wpAnyH_take (i := 4) (oi := ?oi19) (v := ?v19) ?hi19 (by kernel_rfl) (by kernel_rfl) (by kernel_rfl) ?hQ19 (Or.inl ⟨?hw19, ?hy19⟩) (by assumption) ?hr19
                case hi19 => simp only [List.getElem?_toArray, List.getElem?_cons_succ, List.getElem?_cons_zero]; rfl
                case hQ19 => exact fun _ _ _ h => h
                case hw19 => rfl
                case hy19 => intro w hSw; (try dsimp only at hSw); go_simp; (try with_reducible rfl)
                case hr19 =>
                simp only [Act.put, List.setIfInBounds_toArray, List.set_cons_zero, List.set_cons_succ]
                refine wpAnyH_take (i := 5) (oi := ?oi20) (v := ?v20) ?hi20 (by kernel_rfl) (by kernel_rfl) (by kernel_rfl) ?hQ20 (Or.inl ⟨?hw20, ?hy20⟩) (by assumption) ?hr20
                case hi20 => simp only [List.getElem?_toArray, List.getElem?_cons_succ, List.getElem?_cons_zero]; rfl
                case hQ20 => exact fun _ _ _ h => h
                case hw20 => rfl
                case hy20 => intro w hSw; (try dsimp only at hSw); go_simp; (try with_reducible rfl)
                case hr20 =>
                simp only [Act.put, List.setIfInBounds_toArray, List.set_cons_zero, List.set_cons_succ]
                refine wpAnyH_take (i := 6) (oi := ?oi21) (v := ?v21) ?hi21 (by kernel_rfl) (by kernel_rfl) (by kernel_rfl) ?hQ21 (Or.inl ⟨?hw21, ?hy21⟩) (by assumption) ?hr21
                case hi21 => simp only [List.getElem?_toArray, List.getElem?_cons_succ, List.getElem?_cons_zero]; rfl
                case hQ21 => exact fun _ _ _ h => h
                case hw21 => rfl
                case hy21 => intro w hSw; (try dsimp only at hSw); go_simp; (try with_reducible rfl)
                case hr21 =>
                simp only [Act.put, List.setIfInBounds_toArray, List.set_cons_zero, List.set_cons_succ]
                refine wpAnyH_take (i := 7) (oi := ?oi22) (v := ?v22) ?hi22 (by kernel_rfl) (by kernel_rfl) (by kernel_rfl) ?hQ22 (Or.inl ⟨?hw22, ?hy22⟩) (by assumption) ?hr22
                case hi22 => simp only [List.getElem?_toArray, List.getElem?_cons_succ, List.getElem?_cons_zero]; rfl
                case hQ22 => exact fun _ _ _ h => h
                case hw22 => rfl
                case hy22 => intro w hSw; (try dsimp only at hSw); go_simp; (try with_reducible rfl)
                case hr22 =>
                simp only [Act.put, List.setIfInBounds_toArray, List.set_cons_zero, List.set_cons_succ]
                refine wpAnyH_take (i := 8) (oi := ?oi23) (v := (.bool false)) ?hi23 (by kernel_rfl) (by kernel_rfl) (by kernel_rfl) ?hQ23 (Or.inl ⟨?hw23, ?hy23⟩) (by assumption) ?hr23
                case hi23 => simp only [List.getElem?_toArray, List.getElem?_cons_succ, List.getElem?_cons_zero]; rfl
                case hQ23 => exact fun _ _ _ h => h
                case hw23 => rfl
                case hy23 => intro w hSw; (try dsimp only at hSw); go_simp; (try with_reducible rfl)
                case hr23 =>
                simp only [Act.put, List.setIfInBounds_toArray, List.set_cons_zero, List.set_cons_succ]
                refine wpAnyH_take (i := 9) (oi := ?oi24) (v := ?v24) ?hi24 (by kernel_rfl) (by kernel_rfl) (by kernel_rfl) ?hQ24 (Or.inl ⟨?hw24, ?hy24⟩) (by assumption) ?hr24
                case hi24 => simp only [List.getElem?_toArray, List.getElem?_cons_succ, List.getElem?_cons_zero]; rfl
                case hQ24 => exact fun _ _ _ h => h
                case hw24 => rfl
                case hy24 => intro w hSw; (try dsimp only at hSw); go_simp; (try with_reducible rfl)
                case hr24 =>
                simp only [Act.put, List.setIfInBounds_toArray, List.set_cons_zero, List.set_cons_succ]
                refine wpAnyH_take (i := 10) (oi := ?oi25) (v := undef) ?hi25 (by kernel_rfl) (by kernel_rfl) (by kernel_rfl) ?hQ25 (Or.inr ⟨?hw25, rfl⟩) (by assumption) ?hr25
                case hi25 => simp only [List.getElem?_toArray, List.getElem?_cons_succ, List.getElem?_cons_zero]; rfl
                case hQ25 => exact fun _ _ _ h => h
                case hw25 => rfl
                case hr25 =>
                simp only [Act.put, List.setIfInBounds_toArray, List.set_cons_zero, List.set_cons_succ]
                refine wpAnyH_take (i := 11) (oi := ?oi26) (v := undef) ?hi26 (by kernel_rfl) (by kernel_rfl) (by kernel_rfl) ?hQ26 (Or.inr ⟨?hw26, rfl⟩) (by assumption) ?hr26
                case hi26 => simp only [List.getElem?_toArray, List.getElem?_cons_succ, List.getElem?_cons_zero]; rfl
                case hQ26 => exact fun _ _ _ h => h
                case hw26 => rfl
                case hr26 =>
                simp only [Act.put, List.setIfInBounds_toArray, List.set_cons_zero, List.set_cons_succ]
                refine wpAnyH_take (i := 12) (oi := ?oi27) (v := undef) ?hi27 (by kernel_rfl) (by kernel_rfl) (by kernel_rfl) ?hQ27 (Or.inr ⟨?hw27, rfl⟩) (by assumption) ?hr27
                case hi27 => simp only [List.getElem?_toArray, List.getElem?_cons_succ, List.getElem?_cons_zero]; rfl
                case hQ27 => exact fun _ _ _ h => h
                case hw27 => rfl
                case hr27 =>
                simp only [Act.put, List.setIfInBounds_toArray, List.set_cons_zero, List.set_cons_succ]
                refine wpAnyH_take (i := 13) (oi := ?oi28) (v := undef) ?hi28 (by kernel_rfl) (by kernel_rfl) (by kernel_rfl) ?hQ28 (Or.inr ⟨?hw28, rfl⟩) (by assumption) ?hr28
                case hi28 => simp only [List.getElem?_toArray, List.getElem?_cons_succ, List.getElem?_cons_zero]; rfl
                case hQ28 => exact fun _ _ _ h => h
                case hw28 => rfl
                case hr28 =>
                simp only [Act.put, List.setIfInBounds_toArray, List.set_cons_zero, List.set_cons_succ]
                refine wpAnyH_take (i := 14) (oi := ?oi29) (v := undef) ?hi29 (by kernel_rfl) (by kernel_rfl) (by kernel_rfl) ?hQ29 (Or.inr ⟨?hw29, rfl⟩) (by assumption) ?hr29
                case hi29 => simp only [List.getElem?_toArray, List.getElem?_cons_succ, List.getElem?_cons_zero]; rfl
                case hQ29 => exact fun _ _ _ h => h
                case hw29 => rfl
                case hr29 =>
                simp only [Act.put, List.setIfInBounds_toArray, List.set_cons_zero, List.set_cons_succ]
                refine wpAnyH_take (i := 15) (oi := ?oi30) (v := undef) ?hi30 (by kernel_rfl) (by kernel_rfl) (by kernel_rfl) ?hQ30 (Or.inr ⟨?hw30, rfl⟩) (by assumption) ?hr30
                case hi30 => simp only [List.getElem?_toArray, List.getElem?_cons_succ, List.getElem?_cons_zero]; rfl
                case hQ30 => exact fun _ _ _ h => h
                case hw30 => rfl
                case hr30 =>
                simp only [Act.put, List.setIfInBounds_toArray, List.set_cons_zero, List.set_cons_succ]
                refine wpAnyH_take (i := 16) (oi := ?oi31) (v := undef) ?hi31 (by kernel_rfl) (by kernel_rfl) (by kernel_rfl) ?hQ31 (Or.inr ⟨?hw31, rfl⟩) (by assumption) ?hr31
                case hi31 => simp only [List.getElem?_toArray, List.getElem?_cons_succ, List.getElem?_cons_zero]; rfl
                case hQ31 => exact fun _ _ _ h => h
                case hw31 => rfl
                case hr31 =>
                simp only [Act.put, List.setIfInBounds_toArray, List.set_cons_zero, List.set_cons_succ]
                refine wpAnyH_take (i := 17) (oi := ?oi32) (v := undef) ?hi32 (by kernel_rfl) (by kernel_rfl) (by kernel_rfl) ?hQ32 (Or.inr ⟨?hw32, rfl⟩) (by assumption) ?hr32
                case hi32 => simp only [List.getElem?_toArray, List.getElem?_cons_succ, List.getElem?_cons_zero]; rfl
                case hQ32 => exact fun _ _ _ h => h
                case hw32 => rfl
                case hr32 =>
                simp only [Act.put, List.setIfInBounds_toArray, List.set_cons_zero, List.set_cons_succ]
                refine wpAnyH_take (i := 18) (oi := ?oi33) (v := undef) ?hi33 (by kernel_rfl) (by kernel_rfl) (by kernel_rfl) ?hQ33 (Or.inr ⟨?hw33, rfl⟩) (by assumption) ?hr33
                case hi33 => simp only [List.getElem?_toArray, List.getElem?_cons_succ, List.getElem?_cons_zero]; rfl
                case hQ33 => exact fun _ _ _ h => h
                case hw33 => rfl
                case hr33 =>
                simp only [Act.put, List.setIfInBounds_toArray, List.set_cons_zero, List.set_cons_succ]
                refine wpAnyH_take (i := 19) (oi := ?oi34) (v := undef) ?hi34 (by kernel_rfl) (by kernel_rfl) (by kernel_rfl) ?hQ34 (Or.inr ⟨?hw34, rfl⟩) (by assumption) ?hr34
                case hi34 => simp only [List.getElem?_toArray, List.getElem?_cons_succ, List.getElem?_cons_zero]; rfl
                case hQ34 => exact fun _ _ _ h => h
                case hw34 => rfl
                case hr34 =>
                simp only [Act.put, List.setIfInBounds_toArray, List.set_cons_zero, List.set_cons_succ]
                refine wpAnyH_take (i := 20) (oi := ?oi35) (v := undef) ?hi35 (by kernel_rfl) (by kernel_rfl) (by kernel_rfl) ?hQ35 (Or.inr ⟨?hw35, rfl⟩) (by assumption) ?hr35
                case hi35 => simp only [List.getElem?_toArray, List.getElem?_cons_succ, List.getElem?_cons_zero]; rfl
                case hQ35 => exact fun _ _ _ h => h
                case hw35 => rfl
                case hr35 =>
                simp only [Act.put, List.setIfInBounds_toArray, List.set_cons_zero, List.set_cons_succ]
                refine wpAnyH_take (i := 21) (oi := ?oi36) (v := ?v36) ?hi36 (by kernel_rfl) (by kernel_rfl) (by kernel_rfl) ?hQ36 (Or.inl ⟨?hw36, ?hy36⟩) (by assumption) ?hr36
                case hi36 => simp only [List.getElem?_toArray, List.getElem?_cons_succ, List.getElem?_cons_zero]; rfl
                case hQ36 => exact fun _ _ _ h => h
                case hw36 => rfl
                case hy36 => intro w hSw; (try dsimp only at hSw); go_simp; (try with_reducible rfl)
                case hr36 =>
                simp only [Act.put, List.setIfInBounds_toArray, List.set_cons_zero, List.set_cons_succ]
                refine wpAnyH_take (i := 22) (oi := ?oi37) (v := ?v37) ?hi37 (by kernel_rfl) (by kernel_rfl) (by kernel_rfl) ?hQ37 (Or.inl ⟨?hw37, ?hy37⟩) (by assumption) ?hr37
                case hi37 => simp only [List.getElem?_toArray, List.getElem?_cons_succ, List.getElem?_cons_zero]; rfl
                case hQ37 => exact fun _ _ _ h => h
                case hw37 => rfl
                case hy37 => intro w hSw; (try dsimp only at hSw); go_simp; (try with_reducible rfl)
                case hr37 =>
                simp only [Act.put, List.setIfInBounds_toArray, List.set_cons_zero, List.set_cons_succ]
                refine wpAnyH_take (i := 23) (oi := ?oi38) (v := ?v38) ?hi38 (by kernel_rfl) (by kernel_rfl) (by kernel_rfl) ?hQ38 (Or.inl ⟨?hw38, ?hy38⟩) (by assumption) ?hr38
                case hi38 => simp only [List.getElem?_toArray, List.getElem?_cons_succ, List.getElem?_cons_zero]; rfl
                case hQ38 => exact fun _ _ _ h => h
                case hw38 => rfl
                case hy38 => intro w hSw; (try dsimp only at hSw); go_simp; (try with_reducible rfl)
                case hr38 =>
                simp only [Act.put, List.setIfInBounds_toArray, List.set_cons_zero, List.set_cons_succ]
                refine wpAnyH_take (i := 24) (oi := ?oi39) (v := ?v39) ?hi39 (by kernel_rfl) (by kernel_rfl) (by kernel_rfl) ?hQ39 (Or.inl ⟨?hw39, ?hy39⟩) (by assumption) ?hr39
                case hi39 => simp only [List.getElem?_toArray, List.getElem?_cons_succ, List.getElem?_cons_zero]; rfl
                case hQ39 => exact fun _ _ _ h => h
                case hw39 => rfl
                case hy39 => intro w hSw; (try dsimp only at hSw); go_simp; (try with_reducible rfl)
                case hr39 =>
                simp only [Act.put, List.setIfInBounds_toArray, List.set_cons_zero, List.set_cons_succ]
                refine wpAnyH_take (i := 25) (oi := ?oi40) (v := ?v40) ?hi40 (by kernel_rfl) (by kernel_rfl) (by kernel_rfl) ?hQ40 (Or.inl ⟨?hw40, ?hy40⟩) (by assumption) ?hr40
                case hi40 => simp only [List.getElem?_toArray, List.getElem?_cons_succ, List.getElem?_cons_zero]; rfl
                case hQ40 => exact fun _ _ _ h => h
                case hw40 => rfl
                case hy40 => intro w hSw; (try dsimp only at hSw); go_simp; (try with_reducible rfl)
                case hr40 =>
                simp only [Act.put, List.setIfInBounds_toArray, List.set_cons_zero, List.set_cons_succ]
                refine wpAnyH_take (i := 26) (oi := ?oi41) (v := ?v41) ?hi41 (by kernel_rfl) (by kernel_rfl) (by kernel_rfl) ?hQ41 (Or.inl ⟨?hw41, ?hy41⟩) (by assumption) ?hr41
                case hi41 => simp only [List.getElem?_toArray, List.getElem?_cons_succ, List.getElem?_cons_zero]; rfl
                case hQ41 => exact fun _ _ _ h => h
                case hw41 => rfl
                case hy41 => intro w hSw; (try dsimp only at hSw); go_simp; (try with_reducible rfl)
                case hr41 =>
                simp only [Act.put, List.setIfInBounds_toArray, List.set_cons_zero, List.set_cons_succ]
                refine wpAnyH_take (i := 27) (oi := ?oi42) (v := ?v42) ?hi42 (by kernel_rfl) (by kernel_rfl) (by kernel_rfl) ?hQ42 (Or.inl ⟨?hw42, ?hy42⟩) (by assumption) ?hr42
                case hi42 => simp only [List.getElem?_toArray, List.getElem?_cons_succ, List.getElem?_cons_zero]; rfl
                case hQ42 => exact fun _ _ _ h => h
                case hw42 => rfl
                case hy42 => intro w hSw; (try dsimp only at hSw); go_simp; (try with_reducible rfl)
                case hr42 =>
                simp only [Act.put, List.setIfInBounds_toArray, List.set_cons_zero, List.set_cons_succ]
                refine wpAnyH_take (i := 28) (oi := ?oi43) (v := ?v43) ?hi43 (by kernel_rfl) (by kernel_rfl) (by kernel_rfl) ?hQ43 (Or.inl ⟨?hw43, ?hy43⟩) (by assumption) ?hr43
                case hi43 => simp only [List.getElem?_toArray, List.getElem?_cons_succ, List.getElem?_cons_zero]; rfl
                case hQ43 => exact fun _ _ _ h => h
                case hw43 => rfl
                case hy43 => intro w hSw; (try dsimp only at hSw); go_simp; (try with_reducible rfl)
                case hr43 =>
                simp only [Act.put, List.setIfInBounds_toArray, List.set_cons_zero, List.set_cons_succ]
                refine wpAnyH_done (by kernel_rfl) ?_ _
                go_wp2_with fail
                go_roundw
                case rel => exact ⟨k + 1, by omega, by go_num, HKS.out.trans (HK15.out.trans (Chg.refl _ _).drew)⟩
                case measure => simp [intOf]; omega
            · have hkj : k = j := by omega
              subst hkj
              go_wp2_with fail
              go_roundw
              case rel => exact ⟨k + 1, by omega, by go_num, HKR.out⟩
              case measure => simp [intOf]; omega
        · go_wp2_with (go_at_call 9; refine (HAL.out _ (HS9.out.live.chg.trans HJR.out)).mono ?_; rintro e w10 ⟨rfl, k⟩; have HK10 := Lib.hid (HS9.out.live.chg.trans (HJR.out.trans k)); clear k)
          go_ret
          exact ⟨rfl, HK10.out⟩
    · go_wp2_with (go_at_call 9; refine (HAL.out _ HS9.out.live.chg).mono ?_; rintro e w10 ⟨rfl, k⟩; have HK10 := Lib.hid (HS9.out.live.chg.trans k); clear k)
      go_ret
      exact ⟨rfl, HK10.out⟩
  · have h1 := tooE_one g1
    rw [h1] at HT
    clear g1 h1
    generalize L.length = N at *
    go_wp2_with (first
      | (go_at_call 8; refine (HT.out _ HK0.out).mono ?_; rintro e w1 ⟨rfl, k⟩; have HK1 := Lib.hid (HK0.out.trans k); clear k)
      | (go_at_call 9; refine (HAL.out _ HK1.out).mono ?_; rintro e w4 ⟨rfl, k⟩; have HK4 := Lib.hid (HK1.out.trans k); clear k))
    go_ret
    exact ⟨rfl, HK4.out⟩
end Go.Proofs.YtfhiioopimmahaaGreatDoor
