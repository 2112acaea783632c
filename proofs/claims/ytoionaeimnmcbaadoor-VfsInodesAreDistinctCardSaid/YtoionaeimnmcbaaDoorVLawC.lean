/- paxtarlaw19.VfsInodesAreDistinct: the walk. -/
import Derived.Test.YtoionaeimnmcbaaDoorVLawB
namespace Go.Proofs.YtoionaeimnmcbaaDoor
open Go.RowKit Go.Pax Go.Shelf
theorem ownLook_none {w : World} {m : Nat} {l : List (Int × ByteArray)} (h : MapI w m l) {k : Int} (hl : lkI l k = none) :
    (Instr.lookup 35 (.map (some m)) (.int .i64 k) true).run Tryd.prog w = .ok (.tuple #[.string ⟨#[]⟩, .bool false]) w :=
  run_lookupI_none Tryd.underlying35 Tryd.underlying3 (fun W => by kernel_rfl) h hl
theorem ownLook_some {w : World} {m : Nat} {l : List (Int × ByteArray)} (h : MapI w m l) {k : Int} {b : ByteArray} (hl : lkI l k = some b) :
    (Instr.lookup 35 (.map (some m)) (.int .i64 k) true).run Tryd.prog w = .ok (.tuple #[.string b, .bool true]) w :=
  run_lookupI_some Tryd.underlying35 Tryd.underlying3 h hl
theorem ownUp {w : World} {m : Nat} {l : List (Int × ByteArray)} (h : MapI w m l) (k : Int) (v : ByteArray) :
    ∃ w', (Instr.mapUpdate 35 (.map (some m)) (.int .i64 k) (.string v)).run Tryd.prog w = .ok () w' ∧ MapI w' m (upI l k v) ∧ Chg [m] w w' ∧ w'.heap.size = w.heap.size :=
  run_updateI Tryd.underlying35 Tryd.underlying3 h k v
set_option maxRecDepth 100000 in
set_option maxHeartbeats 16000000 in
theorem inodesDistinct (w : World) (x y : Int) (hx : 0 ≤ x ∧ x ≤ 65535) (hy : 0 ≤ y ∧ y ≤ 65535) (lo : Option Addr) (lc : Nat) (L : List AAct) (fp : List Nat) (hkeys : KeysAt w) (h : RdAct w fp lo L) (hwf : ∀ y ∈ L, y.wf) (hll : L.length ≤ 140737488355328) :
    Calls Tryd.prog 3 #[.agg #[.int .u16 x, .int .u16 y], .slice lo L.length lc] w fun e w' => e = .returned (.bool true) ∧ Chg [] w w' := by
  have HT := Lib.hid (fun W (k : Chg [] w W) => tooLarge W lo lc L fp (fun i x hx => by
    obtain ⟨ad, a, c, h1, h2, c0, c1, c2, c3, c4, h8, h9⟩ := h i x hx
    exact ⟨ad, a, c, h1, h2, k.cell c0 (by simp), k.cell c1 (by simp), k.cell c2 (by simp), k.cell c3 (by simp), k.cell c4 (by simp), h8, h9.chg k (by simp)⟩) hwf hll)
  have H := Lib.hid h
  have HWF := Lib.hid hwf
  have HKY := Lib.hid hkeys
  have HAL := Lib.hid (fun W (k : Chg [] w W) => alive W (hkeys.chg k (by simp)))
  have HOP := Lib.hid (fun W => optsNil W x y hx hy)
  have HNW := Lib.hid (fun W a cap (k : Chg [] w W) => newNil w W x y a cap k hx hy)
  clear h hwf hkeys
  have hk0 : Chg [] w (w.alloc (.cells #[.int .u16 x, .int .u16 y] 23)) := (Chg.refl _ _).alloc _
  have q0 : (w.alloc (.cells #[.int .u16 x, .int .u16 y] 23)).cell? ⟨w.heap.size, 0, none⟩ = some (.int .u16 x) := cell_heap (heap_alloc_new _ _) 0 rfl
  have q1 : (w.alloc (.cells #[.int .u16 x, .int .u16 y] 23)).cell? ⟨w.heap.size, 1, none⟩ = some (.int .u16 y) := cell_heap (heap_alloc_new _ _) 1 rfl
  go_enter Tryd.func3, Tryd.ntmps3
  go_upto_region 1 with (fail)
  generalize w.alloc (.cells #[.int .u16 x, .int .u16 y] 23) = W0 at *
  generalize w.heap.size = g0 at *
  have HK0 := Lib.hid hk0
  clear hk0
  by_cases g1 : tooE L = 0
  · have htz := tooE_zero g1
    rw [g1] at HT
    have HTZ := Lib.hid htz
    clear g1 htz hll
    have HDO := Lib.hid (fun W f O σ n a ao dc fq (hL : Live w W f O σ n) hn ht hd hdl hff => liveDoK w W f O σ n a ao dc fq hL hn HKY.out ht hd hdl hff)
    generalize hN : L.length = N at *
    have HN := Lib.hid hN
    clear hN
    go_upto_region 4 with (first
    | (go_at_call 8; refine (HOP.out _).mono ?_; rintro e w1 ⟨a, cap, rfl, k⟩; have HK1 := Lib.hid (HK0.out.trans k); have p0 := k.cell q0 (by simp); clear k)
    | (go_at_call 7; refine (HNW.out _ a cap HK1.out).mono ?_; rintro e w2 ⟨f, O, b, rfl, hL, k⟩; have HL2 := Lib.hid hL; have r0 := k.cell p0 (by simp); clear hL k)
    | (go_at_call 9; refine (HT.out _ HL2.out.chg).mono ?_; rintro e w3 ⟨rfl, k⟩; have HK3 := Lib.hid (HL2.out.chg.trans k); have HL3 := Lib.hid (HL2.out.quiet k); have s0 := k.cell r0 (by simp); clear k)
    | (go_at_call 10; refine (HAL.out _ HK3.out).mono ?_; rintro e w4 ⟨rfl, k⟩; have HK4 := Lib.hid (HK3.out.trans k); clear k))
    clear q1 HT HOP HNW
    have hsz := HK3.out.size
    have hmp := MapI.new w3
    have hkm : Chg [] w3 (w3.alloc (.map #[] 0)) := (Chg.refl _ _).alloc _
    obtain ⟨w5, hru, hmp5, hk5, hz5⟩ := run_updateI (P := Tryd.prog) (T := 35) Tryd.underlying35 Tryd.underlying3 hmp (1 + x) (ba [])
    have t0 := hkm.cell s0 (by simp)
    have hru : (Instr.mapUpdate 35 (.map (some w3.heap.size)) (.int .i64 (1 + x)) (.string ⟨#[]⟩)).run Tryd.prog (w3.alloc (.map #[] 0)) = .ok () w5 := hru
    have hmO : w3.heap.size ∉ O := fun hm => by have := HL3.out.lt _ hm; omega
    have hL5 := (HL3.out.quiet hkm).beside hk5 hmO hsz
    have HM := Lib.hid (And.intro hL5 (And.intro (show MapI w5 w3.heap.size [(1 + x, ba [])] from hmp5) (And.intro hmO hsz)))
    clear hmp hkm hmp5 hk5 hz5 hmO hsz hL5 q0 p0 r0 s0 HK3 HL3 HK0
    have hmm := @run_makeMap Tryd.prog
    go_upto_region 6 with (fail)
    generalize w3.heap.size = m at *
    have HM0 := Lib.hid HM.out.2.2.2
    clear hru hmm t0 HL2
    have hN40 : N ≤ 40 := HTZ.out.1
    go_loopw [45] (fun i wr => ∃ k : Nat, k ≤ N ∧ i = .int .i64 k ∧ ∃ O σ l, Live w wr f O σ (2 * k) ∧ Owns σ l ∧ MapI wr m l ∧ m ∉ O) (fun i _ => N - (intOf i).toNat)
    case atStart => exact ⟨0, Nat.zero_le _, rfl, O, _, _, HM.out.1, owns_new (by omega), HM.out.2.1, HM.out.2.2.1⟩
    case round =>
      obtain ⟨k, hk, rfl, O', σ, l, hL, ho, hmi, hmO⟩ := hrel
      have HL := Lib.hid hL
      have HO := Lib.hid (And.intro ho (And.intro hmi hmO))
      clear hL ho hmi hmO HM
      by_cases hlt : k < N
      · have hkL : k < L.length := by rw [HN.out]; exact hlt
        obtain ⟨ad, a5, c5, rfl, c0, c1, c2, c3, c4, hr5, _⟩ := H.out.at HL.out.chg k _ (List.getElem?_eq_getElem hkL)
        obtain ⟨fq, hr6, hb6⟩ := hr5.tight
        have hwf := HWF.out _ (List.getElem_mem hkL)
        have hdo : ∀ W, Chg [] wr W → Calls Tryd.prog 11 #[.pointer (some ⟨f, 0, none⟩), actV L[k] a5 c5] W fun e w' => e = .returned (.int .i64 (doE σ L[k])) ∧ ∃ O2 σ2, ((doE σ L[k] ≠ 0 ∧ σ2 = σ) ∨ (doE σ L[k] = 0 ∧ Next σ (Fresh σ) L[k] σ2)) ∧ Live w w' f O2 σ2 (2 * (k + 1)) ∧ Keeps W w' O' O2 := fun W kk =>
          HDO.out W f O' σ (2 * k) L[k] a5 c5 fq (HL.out.quiet kk) (by have := HTZ.out; omega) hwf.2.2.2.2 hr6 hwf.2.2.2.1 (fun x hx => (hb6 x hx).2)
        have hnx := fun σ2 => owns_next (σ' := σ2) (l := l) HO.out.1 (a := L[k])
        have hot := fun σ2 => owns_other (σ' := σ2) (l := l) HO.out.1 (a := L[k])
        unfold actV at hdo
        have HDOK := Lib.hid hdo
        have HNX := Lib.hid hnx
        have HOT := Lib.hid hot
        clear hdo hr5 hr6 hb6 hwf hnx hot
        generalize doE σ L[k] = E at *
        generalize hpp : L[k].path = pp at *
        generalize L[k].data.length = dl at *
        generalize ba L[k].target = T5 at *
        generalize hkd : L[k].kind = kd at *
        generalize L[k].mode = md at *
        generalize hP5 : ba pp = P5 at *
        have HPP := Lib.hid (And.intro hpp (And.intro hkd hP5))
        clear hpp hkd hP5
        go_upto_region 8 with (fail)
        have hk9 : Chg [] wr (wr.alloc (.cells #[.int .i64 kd, .string P5, .int .i64 md, .slice a5 dl c5, .string T5] 38)) := (Chg.refl _ _).alloc _
        have e9 : (wr.alloc (.cells #[.int .i64 kd, .string P5, .int .i64 md, .slice a5 dl c5, .string T5] 38)).heap[wr.heap.size]? = some (.cells #[.int .i64 kd, .string P5, .int .i64 md, .slice a5 dl c5, .string T5] 38 (0, 0)) := heap_alloc_new _ _
        have h9l := lt_of_block e9
        have h9O : wr.heap.size ∉ O' := fun hm => by have := HL.out.lt _ hm; omega
        have hm9 := HO.out.2.1.chg hk9 (by simp)
        have hm9l := hm9.lt
        have hmg := HO.out.2.1.lt
        generalize wr.alloc (.cells #[.int .i64 kd, .string P5, .int .i64 md, .slice a5 dl c5, .string T5] 38) = W9 at *
        generalize wr.heap.size = g9 at *
        have HK9 := Lib.hid hk9
        have HG9 := Lib.hid (And.intro h9l (And.intro h9O (And.intro hm9 (And.intro hm9l hmg))))
        clear hk9 h9l h9O hm9 hm9l hmg c0 c1 c2 c3 c4
        have c0 : W9.cell? ⟨g9, 0, none⟩ = some (.int .i64 kd) := cell_heap e9 0 rfl
        have c1 : W9.cell? ⟨g9, 1, none⟩ = some (.string P5) := cell_heap e9 1 rfl
        have c2 : W9.cell? ⟨g9, 2, none⟩ = some (.int .i64 md) := cell_heap e9 2 rfl
        have c3 : W9.cell? ⟨g9, 3, none⟩ = some (.slice a5 dl c5) := cell_heap e9 3 rfl
        have c4 : W9.cell? ⟨g9, 4, none⟩ = some (.string T5) := cell_heap e9 4 rfl
        have HE9 := Lib.hid e9
        clear e9
        by_cases hE0 : E = 0
        · subst hE0
          by_cases hka : 0 ≤ kd ∧ kd ≤ 4
          · obtain ⟨ka1, ka2⟩ := hka
            go_upto_region 9 with (go_at_call 11; refine (HDOK.out _ HK9.out).mono ?_; rintro e w10 ⟨rfl, O2, σ2, hc, hL, hkp⟩; have e10 := (hkp.2 _ HG9.out.1 HG9.out.2.1).1.trans HE9.out; have d0 : w10.cell? ⟨g9, 0, none⟩ = some (.int .i64 kd) := cell_heap e10 0 rfl; have d1 : w10.cell? ⟨g9, 1, none⟩ = some (.string P5) := cell_heap e10 1 rfl; have HE10 := Lib.hid e10; have HC := Lib.hid (And.intro hc (And.intro hL hkp)); clear hc hL hkp e10)
            have hN := HC.out.1.resolve_left (fun h => h.1 rfl)
            obtain ⟨sk, sm, si, sn, ss, st, su, sy, hv, hov, hn4, h4⟩ := HNX.out σ2 hN.1 hN.2 ⟨ka1, ka2⟩
            have hst : ∀ W, Chg [] w10 W → Calls Tryd.prog 12 #[.pointer (some ⟨f, 0, none⟩), .string P5] W fun e w' => e = .returned (.tuple #[.agg #[.int .i64 sk, .int .i64 sm, .int .i64 si, .int .i64 sn, .int .i64 ss, .string st, .int .i64 su, .int .i64 sy], .int .i64 0]) ∧ Chg [] w10 w' := fun W kk => by
              rw [← HPP.out.2.2]
              refine (liveStat w W f O2 σ2 _ pp (HC.out.2.1.quiet kk)).mono ?_
              rintro e w' ⟨he, _, k9⟩
              rw [hv] at he
              exact ⟨he, kk.trans k9⟩
            have hq := HC.out.2.2.2 m HG9.out.2.2.2.1 HO.out.2.2
            have HST := Lib.hid hst
            have HH4 := Lib.hid (And.intro hov (And.intro hn4 h4))
            have HM10 := Lib.hid (And.intro (HG9.out.2.2.1.block hq.1) (And.intro hq.2 HC.out.2.1))
            clear hst hov hn4 h4 hv hN hq HC HNX HOT
            go_upto_region 10 with (go_at_call 12; refine (HST.out _ (Chg.refl _ _)).mono ?_; rintro e w11 ⟨rfl, k⟩; have HK11 := Lib.hid (k.alloc (.cells #[.int .i64 sk, .int .i64 sm, .int .i64 si, .int .i64 sn, .int .i64 ss, .string st, .int .i64 su, .int .i64 sy] 41)); clear k)
            have e11 : (w11.alloc (.cells #[.int .i64 sk, .int .i64 sm, .int .i64 si, .int .i64 sn, .int .i64 ss, .string st, .int .i64 su, .int .i64 sy] 41)).heap[w11.heap.size]? = some (.cells #[.int .i64 sk, .int .i64 sm, .int .i64 si, .int .i64 sn, .int .i64 ss, .string st, .int .i64 su, .int .i64 sy] 41 (0, 0)) := heap_alloc_new _ _
            generalize w11.alloc (.cells #[.int .i64 sk, .int .i64 sm, .int .i64 si, .int .i64 sn, .int .i64 ss, .string st, .int .i64 su, .int .i64 sy] 41) = W11 at *
            generalize w11.heap.size = g11 at *
            have e10 := HK11.out.heap HE10.out (by simp)
            clear d0 d1
            have d0 : W11.cell? ⟨g9, 0, none⟩ = some (.int .i64 kd) := cell_heap e10 0 rfl
            have d1 : W11.cell? ⟨g9, 1, none⟩ = some (.string P5) := cell_heap e10 1 rfl
            have j0 : W11.cell? ⟨g11, 0, none⟩ = some (.int .i64 sk) := cell_heap e11 0 rfl
            have j1 : W11.cell? ⟨g11, 1, none⟩ = some (.int .i64 sm) := cell_heap e11 1 rfl
            have j2 : W11.cell? ⟨g11, 2, none⟩ = some (.int .i64 si) := cell_heap e11 2 rfl
            have j3 : W11.cell? ⟨g11, 3, none⟩ = some (.int .i64 sn) := cell_heap e11 3 rfl
            have j4 : W11.cell? ⟨g11, 4, none⟩ = some (.int .i64 ss) := cell_heap e11 4 rfl
            have j5 : W11.cell? ⟨g11, 5, none⟩ = some (.string st) := cell_heap e11 5 rfl
            have j6 : W11.cell? ⟨g11, 6, none⟩ = some (.int .i64 su) := cell_heap e11 6 rfl
            have j7 : W11.cell? ⟨g11, 7, none⟩ = some (.int .i64 sy) := cell_heap e11 7 rfl
            have hm11 := HM10.out.1.chg HK11.out (by simp)
            by_cases k4 : kd = 4
            · subst k4
              obtain ⟨hn2, q, hlq, hvq⟩ := HH4.out.2.2 rfl
              have hlk := ownLook_some hm11 hlq
              have hsq : ∀ W, Chg [] w10 W → Calls Tryd.prog 12 #[.pointer (some ⟨f, 0, none⟩), .string (ba q)] W fun e w' => e = .returned (.tuple #[.agg #[.int .i64 sk, .int .i64 sm, .int .i64 si, .int .i64 sn, .int .i64 ss, .string st, .int .i64 su, .int .i64 sy], .int .i64 0]) ∧ Chg [] W w' := fun W kk => by
                refine (liveStat w W f O2 σ2 _ q (HM10.out.2.2.quiet kk)).mono ?_
                rintro e w' ⟨he, _, k9⟩
                rw [hvq] at he
                exact ⟨he, k9⟩
              have HSQ := Lib.hid hsq
              have HM11 := Lib.hid hm11
              have HE11 := Lib.hid (And.intro e10 e11)
              clear hsq hlq hvq hm11 e10 e11
              generalize ba q = Q at *
              go_upto_region 17 with (go_at_call 12; refine (HSQ.out _ HK11.out).mono ?_; rintro e w13 ⟨rfl, k⟩; have HK13 := Lib.hid (k.alloc (.cells #[.int .i64 sk, .int .i64 sm, .int .i64 si, .int .i64 sn, .int .i64 ss, .string st, .int .i64 su, .int .i64 sy] 41)); clear k)
              have e13 : (w13.alloc (.cells #[.int .i64 sk, .int .i64 sm, .int .i64 si, .int .i64 sn, .int .i64 ss, .string st, .int .i64 su, .int .i64 sy] 41)).heap[w13.heap.size]? = some (.cells #[.int .i64 sk, .int .i64 sm, .int .i64 si, .int .i64 sn, .int .i64 ss, .string st, .int .i64 su, .int .i64 sy] 41 (0, 0)) := heap_alloc_new _ _
              generalize w13.alloc (.cells #[.int .i64 sk, .int .i64 sm, .int .i64 si, .int .i64 sn, .int .i64 ss, .string st, .int .i64 su, .int .i64 sy] 41) = W13 at *
              generalize w13.heap.size = g13 at *
              have e11 := HK13.out.heap HE11.out.2 (by simp)
              have e10 := HK13.out.heap HE11.out.1 (by simp)
              clear d0 d1 j0 j1 j2 j3 j4 j5 j6 j7 hlk
              have d1 : W13.cell? ⟨g9, 1, none⟩ = some (.string P5) := cell_heap e10 1 rfl
              have j0 : W13.cell? ⟨g11, 0, none⟩ = some (.int .i64 sk) := cell_heap e11 0 rfl
              have j1 : W13.cell? ⟨g11, 1, none⟩ = some (.int .i64 sm) := cell_heap e11 1 rfl
              have j2 : W13.cell? ⟨g11, 2, none⟩ = some (.int .i64 si) := cell_heap e11 2 rfl
              have j3 : W13.cell? ⟨g11, 3, none⟩ = some (.int .i64 sn) := cell_heap e11 3 rfl
              have j4 : W13.cell? ⟨g11, 4, none⟩ = some (.int .i64 ss) := cell_heap e11 4 rfl
              have j5 : W13.cell? ⟨g11, 5, none⟩ = some (.string st) := cell_heap e11 5 rfl
              have j6 : W13.cell? ⟨g11, 6, none⟩ = some (.int .i64 su) := cell_heap e11 6 rfl
              have j7 : W13.cell? ⟨g11, 7, none⟩ = some (.int .i64 sy) := cell_heap e11 7 rfl
              have x0 : W13.cell? ⟨g13, 0, none⟩ = some (.int .i64 sk) := cell_heap e13 0 rfl
              have x1 : W13.cell? ⟨g13, 1, none⟩ = some (.int .i64 sm) := cell_heap e13 1 rfl
              have x2 : W13.cell? ⟨g13, 2, none⟩ = some (.int .i64 si) := cell_heap e13 2 rfl
              have x3 : W13.cell? ⟨g13, 3, none⟩ = some (.int .i64 sn) := cell_heap e13 3 rfl
              have x4 : W13.cell? ⟨g13, 4, none⟩ = some (.int .i64 ss) := cell_heap e13 4 rfl
              have x5 : W13.cell? ⟨g13, 5, none⟩ = some (.string st) := cell_heap e13 5 rfl
              have x6 : W13.cell? ⟨g13, 6, none⟩ = some (.int .i64 su) := cell_heap e13 6 rfl
              have x7 : W13.cell? ⟨g13, 7, none⟩ = some (.int .i64 sy) := cell_heap e13 7 rfl
              obtain ⟨W14, hru, hm14, hk14, _⟩ := ownUp (HM11.out.chg HK13.out (by simp)) si P5
              have HM14 := Lib.hid (And.intro hm14 hk14)
              clear hm14 hk14 e10 e11 e13
              go_wp2_with fail
              go_roundw
              case rel => exact ⟨k + 1, by omega, by go_num, O2, σ2, _, (HM10.out.2.2.quiet (HK11.out.trans HK13.out)).beside HM14.out.2 HM10.out.2.1 HM0.out, HH4.out.1, HM14.out.1, HM10.out.2.1⟩
              case measure => simp [intOf]; omega
            · have hlk := ownLook_none hm11 (HH4.out.2.1 k4)
              have k4b : (kd == 4) = false := by simpa using k4
              obtain ⟨W14, hru, hm14, hk14, _⟩ := ownUp hm11 si P5
              have HM14 := Lib.hid (And.intro hm14 hk14)
              clear hm14 hk14 e10 e11 hm11 k4
              go_wp2_with fail
              go_roundw
              case rel => exact ⟨k + 1, by omega, by go_num, O2, σ2, _, (HM10.out.2.2.quiet HK11.out).beside HM14.out.2 HM10.out.2.1 HM0.out, HH4.out.1, HM14.out.1, HM10.out.2.1⟩
              case measure => simp [intOf]; omega
          · have hko : kd < 0 ∨ 4 < kd := by omega
            have HKA := Lib.hid hka
            clear hka
            rcases hko with hko | hko
            all_goals
              go_wp2_with (go_at_call 11; refine (HDOK.out _ HK9.out).mono ?_; rintro e w10 ⟨rfl, O2, σ2, hc, hL, hkp⟩; have e10 := (hkp.2 _ HG9.out.1 HG9.out.2.1).1.trans HE9.out; have d0 : w10.cell? ⟨g9, 0, none⟩ = some (.int .i64 kd) := cell_heap e10 0 rfl; have HC := Lib.hid (And.intro hc (And.intro hL hkp)); clear hc hL hkp e10)
              go_roundw
              case rel =>
                obtain ⟨hc, hL, hkp⟩ := HC.out
                have hN := hc.resolve_left (fun h => h.1 rfl)
                have hq := hkp.2 m HG9.out.2.2.2.1 HO.out.2.2
                exact ⟨k + 1, by omega, by go_num, O2, σ2, l, hL, HOT.out σ2 hN.2 HKA.out, HG9.out.2.2.1.block hq.1, hq.2⟩
              case measure => simp [intOf]; omega
        · have hE1 : (E != 0) = true := by simpa using hE0
          have HEE := Lib.hid hE0
          clear hE0
          go_wp2_with (go_at_call 11; refine (HDOK.out _ HK9.out).mono ?_; rintro e w10 ⟨rfl, O2, σ2, hc, hL, hkp⟩; have e10 := (hkp.2 _ HG9.out.1 HG9.out.2.1).1.trans HE9.out; have d0 : w10.cell? ⟨g9, 0, none⟩ = some (.int .i64 kd) := cell_heap e10 0 rfl; have HC := Lib.hid (And.intro hc (And.intro hL hkp)); clear hc hL hkp e10)
          go_roundw
          case rel =>
            obtain ⟨hc, hL, hkp⟩ := HC.out
            have hs : σ2 = σ := by
              rcases hc with hc | hc
              · exact hc.2
              · exact absurd hc.1 HEE.out
            subst hs
            have hq := hkp.2 m HG9.out.2.2.2.1 HO.out.2.2
            exact ⟨k + 1, by omega, by go_num, O2, σ2, l, hL, HO.out.1, HG9.out.2.2.1.block hq.1, hq.2⟩
          case measure => simp [intOf]; omega
      · have hkk : k = N := by omega
        subst hkk
        go_wp2_with (go_at_call 10; refine (HAL.out _ HL.out.chg).mono ?_; rintro e w4 ⟨rfl, k⟩; have HK4 := Lib.hid (HL.out.chg.trans k); clear k)
        go_ret
        exact ⟨rfl, HK4.out⟩
  · rw [tooE_one g1] at HT
    generalize L.length = N at *
    go_wp2_with (first
    | (go_at_call 8; refine (HOP.out _).mono ?_; rintro e w1 ⟨a, cap, rfl, k⟩; have HK1 := Lib.hid (HK0.out.trans k); have p0 := k.cell q0 (by simp); clear k)
    | (go_at_call 7; refine (HNW.out _ a cap HK1.out).mono ?_; rintro e w2 ⟨f, O, b, rfl, hL, k⟩; have HL2 := Lib.hid hL; have r0 := k.cell p0 (by simp); clear hL k)
    | (go_at_call 9; refine (HT.out _ HL2.out.chg).mono ?_; rintro e w3 ⟨rfl, k⟩; have HK3 := Lib.hid (HL2.out.chg.trans k); have HL3 := Lib.hid (HL2.out.quiet k); have s0 := k.cell r0 (by simp); clear k)
    | (go_at_call 10; refine (HAL.out _ HK3.out).mono ?_; rintro e w4 ⟨rfl, k⟩; have HK4 := Lib.hid (HK3.out.trans k); clear k))
    go_ret
    exact ⟨rfl, HK4.out⟩
end Go.Proofs.YtoionaeimnmcbaaDoor
