/- tree.check: a node by itself; slices.Equal at bytes. tree.Check: the walk. Printed by wip/gen/genfchk.py. Stores into a row of nodes. -/
import Derived.Test.YtfhiioopimmahaaGreatDoorPO13
import Derived.Test.YtfhiioopimmahaaGreatDoorPO14
namespace Go.Proofs.YtfhiioopimmahaaGreatDoor
open Go.RowKit Go.Pax Go.Shelf
set_option maxHeartbeats 4000000 in
theorem nodeCheck (w : World) (x : ANode) (a : Option Addr) (l c : Nat) (hl : x.data.length = l) (hlB : l ≤ 140737488355328) (hk : KeysAt w) (hp : x.path.length ≤ 140737488355328) (ht : x.target.length ≤ 140737488355328) :
    Calls Tryz.prog 81 #[ndV x (.slice a l c)] w fun e w' => e = .returned (.int .i64 (nodeE x)) ∧ Chg [] w w' := by
  have HF := Lib.hid (fun W s (kw : Chg [] w W) => fitCheck W ⟨x.kind, x.path, x.mode, x.target, s⟩ (hk.chg kw (by simp)) hp ht)
  obtain ⟨R, hR⟩ : ∃ R, R = nodeE x := ⟨_, rfl⟩
  rw [← hR]
  unfold nodeE entA at hR
  have HD := Lib.hid (show (x.data = [] ↔ l = 0) from by rw [← hl]; exact List.length_eq_zero_iff.symm)
  have hR2 : R = if ¬ (x.kind = 0 ∨ x.kind = 1 ∨ x.kind = 2) then 8 else if fitE ⟨x.kind, x.path, x.mode, x.target, if x.kind = 1 then (l : Int) else 0⟩ ≠ 0 then fitE ⟨x.kind, x.path, x.mode, x.target, if x.kind = 1 then (l : Int) else 0⟩ else if x.kind ≠ 1 ∧ l ≠ 0 then 2 else if x.cls < 0 ∨ (x.kind ≠ 1 ∧ x.cls ≠ 0) then 15 else 0 := by
    rw [hR, hl]
    simp only [ne_eq, HD.out]
  have HRE := Lib.hid hR2
  clear hR hR2 HD hl hk hp ht
  obtain ⟨k, p, m, t, d, cl⟩ := x
  unfold ndV
  unfold entV at HF
  simp only at HF HRE ⊢
  have hk1 : Chg [] w (w.alloc (.cells #[.int .i64 k, .string (ba p), .int .i64 m, .string (ba t), .slice a l c, .int .i64 cl] 45)) := (Chg.refl _ _).alloc _
  have e1 := heap_alloc_new w (.cells #[.int .i64 k, .string (ba p), .int .i64 m, .string (ba t), .slice a l c, .int .i64 cl] 45)
  have HK1 := Lib.hid (And.intro hk1 e1)
  clear hk1 e1
  go_enter Tryz.func81, Tryz.ntmps81
  go_upto_region 1 with (fail)
  generalize w.alloc (.cells #[.int .i64 k, .string (ba p), .int .i64 m, .string (ba t), .slice a l c, .int .i64 cl] 45) = W1 at *
  generalize w.heap.size = g1 at *
  generalize hF : (fun s => fitE ⟨k, p, m, t, s⟩) = F at *
  have hF2 : ∀ s, fitE ⟨k, p, m, t, s⟩ = F s := fun s => by rw [← hF]
  simp only [hF2] at HF HRE
  clear hF hF2
  generalize ba p = P at *
  generalize ba t = T at *
  have c0 := cell_heap HK1.out.2 0 (v := .int .i64 k) rfl
  have c1 := cell_heap HK1.out.2 1 (v := .string P) rfl
  have c2 := cell_heap HK1.out.2 2 (v := .int .i64 m) rfl
  have c3 := cell_heap HK1.out.2 3 (v := .string T) rfl
  have c4 := cell_heap HK1.out.2 4 (v := .slice a l c) rfl
  have c5 := cell_heap HK1.out.2 5 (v := .int .i64 cl) rfl
  by_cases h0 : k = 0 ∨ k = 1 ∨ k = 2
  · have hk2 : Chg [] W1 (W1.alloc (.cells #[.int .i64 k, .string P, .int .i64 m, .string T, .int .i64 0] 171)) := (Chg.refl _ _).alloc _
    have c4' := hk2.cell c4 (by simp)
    have c5' := hk2.cell c5 (by simp)
    rcases h0 with rfl | rfl | rfl
    · have HK3 := Lib.hid (HK1.out.1.trans hk2)
      clear hk2 HK1
      generalize hFS : F 0 = FS at *
      by_cases h1 : FS = 0
      · subst h1
        by_cases h2 : l = 0
        · subst h2
          by_cases h3 : cl < 0
          · go_wp2_with (go_at_call 103; refine (HF.out _ 0 HK3.out).mono ?_; rintro e w2 ⟨rfl, k2⟩; have c4 := k2.cell c4' (by simp); have c5 := k2.cell c5' (by simp); have HK2 := Lib.hid (HK3.out.trans k2); clear k2)
            go_ret
            exact ⟨by rw [HRE.out]; simp [hFS, h3], HK2.out⟩
          · by_cases h4 : cl = 0
            · subst h4
              go_wp2_with (go_at_call 103; refine (HF.out _ 0 HK3.out).mono ?_; rintro e w2 ⟨rfl, k2⟩; have c4 := k2.cell c4' (by simp); have c5 := k2.cell c5' (by simp); have HK2 := Lib.hid (HK3.out.trans k2); clear k2)
              go_ret
              exact ⟨by rw [HRE.out]; simp [hFS], HK2.out⟩
            · have h5 : (cl != 0) = true := by simpa using h4
              go_wp2_with (go_at_call 103; refine (HF.out _ 0 HK3.out).mono ?_; rintro e w2 ⟨rfl, k2⟩; have c4 := k2.cell c4' (by simp); have c5 := k2.cell c5' (by simp); have HK2 := Lib.hid (HK3.out.trans k2); clear k2)
              go_ret
              exact ⟨by rw [HRE.out]; simp [hFS, h4], HK2.out⟩
        · have h5 : (l : Int) > 0 := by omega
          go_wp2_with (go_at_call 103; refine (HF.out _ 0 HK3.out).mono ?_; rintro e w2 ⟨rfl, k2⟩; have c4 := k2.cell c4' (by simp); have c5 := k2.cell c5' (by simp); have HK2 := Lib.hid (HK3.out.trans k2); clear k2)
          go_ret
          exact ⟨by rw [HRE.out]; simp [hFS, h2], HK2.out⟩
      · go_wp2_with (go_at_call 103; refine (HF.out _ 0 HK3.out).mono ?_; rintro e w2 ⟨rfl, k2⟩; have c4 := k2.cell c4' (by simp); have c5 := k2.cell c5' (by simp); have HK2 := Lib.hid (HK3.out.trans k2); clear k2)
        go_ret
        exact ⟨by rw [HRE.out]; simp [hFS, h1], HK2.out⟩
    · have hk2 : Chg [] W1 (W1.alloc (.cells #[.int .i64 1, .string P, .int .i64 m, .string T, .int .i64 l] 171)) := (Chg.refl _ _).alloc _
      have c4' := hk2.cell c4 (by simp)
      have c5' := hk2.cell c5 (by simp)
      have HK3 := Lib.hid (HK1.out.1.trans hk2)
      clear hk2 HK1
      generalize hFS : F (l : Int) = FS at *
      go_upto_region 7 with (fail)
      by_cases h1 : FS = 0
      · subst h1
        by_cases h3 : cl < 0
        · go_wp2_with (go_at_call 103; refine (HF.out _ l HK3.out).mono ?_; rintro e w2 ⟨rfl, k2⟩; have c4 := k2.cell c4' (by simp); have c5 := k2.cell c5' (by simp); have HK2 := Lib.hid (HK3.out.trans k2); clear k2)
          go_ret
          exact ⟨by rw [HRE.out]; simp [hFS, h3], HK2.out⟩
        · go_wp2_with (go_at_call 103; refine (HF.out _ l HK3.out).mono ?_; rintro e w2 ⟨rfl, k2⟩; have c4 := k2.cell c4' (by simp); have c5 := k2.cell c5' (by simp); have HK2 := Lib.hid (HK3.out.trans k2); clear k2)
          go_ret
          exact ⟨by rw [HRE.out]; simp [hFS, h3], HK2.out⟩
      · go_wp2_with (go_at_call 103; refine (HF.out _ l HK3.out).mono ?_; rintro e w2 ⟨rfl, k2⟩; have c4 := k2.cell c4' (by simp); have c5 := k2.cell c5' (by simp); have HK2 := Lib.hid (HK3.out.trans k2); clear k2)
        go_ret
        exact ⟨by rw [HRE.out]; simp [hFS, h1], HK2.out⟩
    · have HK3 := Lib.hid (HK1.out.1.trans hk2)
      clear hk2 HK1
      generalize hFS : F 0 = FS at *
      by_cases h1 : FS = 0
      · subst h1
        by_cases h2 : l = 0
        · subst h2
          by_cases h3 : cl < 0
          · go_wp2_with (go_at_call 103; refine (HF.out _ 0 HK3.out).mono ?_; rintro e w2 ⟨rfl, k2⟩; have c4 := k2.cell c4' (by simp); have c5 := k2.cell c5' (by simp); have HK2 := Lib.hid (HK3.out.trans k2); clear k2)
            go_ret
            exact ⟨by rw [HRE.out]; simp [hFS, h3], HK2.out⟩
          · by_cases h4 : cl = 0
            · subst h4
              go_wp2_with (go_at_call 103; refine (HF.out _ 0 HK3.out).mono ?_; rintro e w2 ⟨rfl, k2⟩; have c4 := k2.cell c4' (by simp); have c5 := k2.cell c5' (by simp); have HK2 := Lib.hid (HK3.out.trans k2); clear k2)
              go_ret
              exact ⟨by rw [HRE.out]; simp [hFS], HK2.out⟩
            · have h5 : (cl != 0) = true := by simpa using h4
              go_wp2_with (go_at_call 103; refine (HF.out _ 0 HK3.out).mono ?_; rintro e w2 ⟨rfl, k2⟩; have c4 := k2.cell c4' (by simp); have c5 := k2.cell c5' (by simp); have HK2 := Lib.hid (HK3.out.trans k2); clear k2)
              go_ret
              exact ⟨by rw [HRE.out]; simp [hFS, h4], HK2.out⟩
        · have h5 : (l : Int) > 0 := by omega
          go_wp2_with (go_at_call 103; refine (HF.out _ 0 HK3.out).mono ?_; rintro e w2 ⟨rfl, k2⟩; have c4 := k2.cell c4' (by simp); have c5 := k2.cell c5' (by simp); have HK2 := Lib.hid (HK3.out.trans k2); clear k2)
          go_ret
          exact ⟨by rw [HRE.out]; simp [hFS, h2], HK2.out⟩
      · go_wp2_with (go_at_call 103; refine (HF.out _ 0 HK3.out).mono ?_; rintro e w2 ⟨rfl, k2⟩; have c4 := k2.cell c4' (by simp); have c5 := k2.cell c5' (by simp); have HK2 := Lib.hid (HK3.out.trans k2); clear k2)
        go_ret
        exact ⟨by rw [HRE.out]; simp [hFS, h1], HK2.out⟩
  · have n0 : (k != 0) = true := by simpa using fun h => h0 (.inl h)
    have n1 : (k != 1) = true := by simpa using fun h => h0 (.inr (.inl h))
    have n2 : (k != 2) = true := by simpa using fun h => h0 (.inr (.inr h))
    go_wp2_with fail
    go_ret
    exact ⟨by rw [HRE.out, if_pos h0]; rfl, HK1.out.1⟩
/-- slices.Equal at bytes. -/
def BytesAt (w : World) (a : Option Addr) (n : Nat) (b : List UInt8) : Prop := ∃ fp, Rd w fp a (bv b) ∧ b.length = n
set_option maxHeartbeats 4000000 in
theorem equalBytes (w : World) (a b : Option Addr) (n m c d : Nat) (x y : List UInt8) (hx : BytesAt w a n x) (hy : BytesAt w b m y) (hn : n ≤ 140737488355328) (hm : m ≤ 140737488355328) :
    Calls Tryz.prog 83 #[.slice a n c, .slice b m d] w fun e w' => e = .returned (.bool (decide (x = y))) ∧ Chg [] w w' := by
  obtain ⟨R, hR⟩ : ∃ R, R = decide (x = y) := ⟨_, rfl⟩
  rw [← hR]
  have HRE := Lib.hid hR
  have HX := Lib.hid hx
  have HY := Lib.hid hy
  clear hR hx hy
  go_enter Tryz.func83, Tryz.ntmps83
  by_cases hnm : n = m
  · subst hnm
    go_wp2_with fail
    go_loopw [13, 5] (fun u _ wr => ∃ k : Nat, u = .int .i64 k ∧ k ≤ n ∧ x.take k = y.take k ∧ Chg [] w wr) (fun u _ _ => n - (intOf u).toNat)
    case atStart => exact ⟨0, rfl, Nat.zero_le _, rfl, Chg.refl _ _⟩
    case round =>
      obtain ⟨k, rfl, hkn, hxy, hk⟩ := hrel
      have HK := Lib.hid (And.intro hxy hk)
      clear hxy hk
      by_cases hlt : k < n
      · obtain ⟨fx, hrx, hlx⟩ := HX.out
        obtain ⟨fy, hry, hly⟩ := HY.out
        have hxk : k < x.length := by omega
        have hyk : k < y.length := by omega
        obtain ⟨a1, rfl, _, c1⟩ := (hrx.chg HK.out.2 (by simp)) k (.int .u8 x[k].toNat) (by simp [bv, hxk])
        obtain ⟨b1, rfl, _, c2⟩ := (hry.chg HK.out.2 (by simp)) k (.int .u8 y[k].toNat) (by simp [bv, hyk])
        have HC := Lib.hid (fun W (kw : Chg [] wr W) => And.intro (kw.cell c1 (by simp)) (kw.cell c2 (by simp)))
        have HTK := Lib.hid (show ∀ e : x[k] = y[k], x.take (k + 1) = y.take (k + 1) from fun e => by rw [List.take_add_one, List.take_add_one, HK.out.1, List.getElem?_eq_getElem hxk, List.getElem?_eq_getElem hyk, e])
        have HNE := Lib.hid (show x[k] ≠ y[k] → x ≠ y from fun e h => by subst h; exact e rfl)
        have HKB := Lib.hid (And.intro hlx hly)
        clear hrx hry c1 c2
        generalize x[k] = xb at *
        generalize y[k] = yb at *
        have c1 := (HC.out _ (Chg.refl [] wr).drew).1
        have c2 := (HC.out _ (Chg.refl [] wr).drew).2
        by_cases hb : xb = yb
        · have hbb : (((xb.toNat : Nat) : Int) != ((yb.toNat : Nat) : Int)) = false := by rw [hb]; simp
          go_upto_region 6 with (fail)
          refine wp_region_held_drew (S := fun q => q.cell? (a1.add k) = some (.int .u8 xb.toNat) ∧ q.cell? (b1.add k) = some (.int .u8 yb.toNat)) (by kernel_rfl) ?_ (fun hHeld => ?_)
          · exact ⟨c1, c2⟩
          refine wpAnyH_take (i := 0) (oi := ?oi1) (v := ?v1) ?hi1 (by kernel_rfl) (by kernel_rfl) (by kernel_rfl) ?hQ1 (Or.inl ⟨?hw1, ?hy1⟩) (by assumption) ?hr1
          case hi1 => simp only [List.getElem?_toArray, List.getElem?_cons_zero]; rfl
          case hQ1 => exact fun _ _ _ h => h
          case hw1 => rfl
          case hy1 => intro w hSw; (try dsimp only at hSw); go_simp; (try with_reducible rfl)
          case hr1 =>
          simp only [Act.put, List.setIfInBounds_toArray, List.set_cons_zero, List.set_cons_succ]
          refine wpAnyH_take (i := 1) (oi := ?oi2) (v := ?v2) ?hi2 (by kernel_rfl) (by kernel_rfl) (by kernel_rfl) ?hQ2 (Or.inl ⟨?hw2, ?hy2⟩) (by assumption) ?hr2
          case hi2 => simp only [List.getElem?_toArray, List.getElem?_cons_succ, List.getElem?_cons_zero]; rfl
          case hQ2 => exact fun _ _ _ h => h
          case hw2 => rfl
          case hy2 => intro w hSw; (try dsimp only at hSw); go_simp; (try with_reducible rfl)
          case hr2 =>
          simp only [Act.put, List.setIfInBounds_toArray, List.set_cons_zero, List.set_cons_succ]
          refine wpAnyH_take (i := 2) (oi := ?oi3) (v := ?v3) ?hi3 (by kernel_rfl) (by kernel_rfl) (by kernel_rfl) ?hQ3 (Or.inl ⟨?hw3, ?hy3⟩) (by assumption) ?hr3
          case hi3 => simp only [List.getElem?_toArray, List.getElem?_cons_succ, List.getElem?_cons_zero]; rfl
          case hQ3 => exact fun _ _ _ h => h
          case hw3 => rfl
          case hy3 => intro w hSw; (try dsimp only at hSw); go_simp; (try with_reducible rfl)
          case hr3 =>
          simp only [Act.put, List.setIfInBounds_toArray, List.set_cons_zero, List.set_cons_succ]
          refine wpAnyH_take (i := 3) (oi := ?oi4) (v := ?v4) ?hi4 (by kernel_rfl) (by kernel_rfl) (by kernel_rfl) ?hQ4 (Or.inl ⟨?hw4, ?hy4⟩) (by assumption) ?hr4
          case hi4 => simp only [List.getElem?_toArray, List.getElem?_cons_succ, List.getElem?_cons_zero]; rfl
          case hQ4 => exact fun _ _ _ h => h
          case hw4 => rfl
          case hy4 => intro w hSw; (try dsimp only at hSw); go_simp; (try with_reducible rfl)
          case hr4 =>
          simp only [Act.put, List.setIfInBounds_toArray, List.set_cons_zero, List.set_cons_succ]
          refine wpAnyH_take (i := 4) (oi := ?oi5) (v := ?v5) ?hi5 (by kernel_rfl) (by kernel_rfl) (by kernel_rfl) ?hQ5 (Or.inl ⟨?hw5, ?hy5⟩) (by assumption) ?hr5
          case hi5 => simp only [List.getElem?_toArray, List.getElem?_cons_succ, List.getElem?_cons_zero]; rfl
          case hQ5 => exact fun _ _ _ h => h
          case hw5 => rfl
          case hy5 => intro w hSw; (try dsimp only at hSw); go_simp; (try with_reducible rfl)
          case hr5 =>
          simp only [Act.put, List.setIfInBounds_toArray, List.set_cons_zero, List.set_cons_succ]
          refine wpAnyH_take (i := 5) (oi := ?oi6) (v := ?v6) ?hi6 (by kernel_rfl) (by kernel_rfl) (by kernel_rfl) ?hQ6 (Or.inl ⟨?hw6, ?hy6⟩) (by assumption) ?hr6
          case hi6 => simp only [List.getElem?_toArray, List.getElem?_cons_succ, List.getElem?_cons_zero]; rfl
          case hQ6 => exact fun _ _ _ h => h
          case hw6 => rfl
          case hy6 => intro w hSw; (try dsimp only at hSw); go_simp; (try with_reducible rfl)
          case hr6 =>
          simp only [Act.put, List.setIfInBounds_toArray, List.set_cons_zero, List.set_cons_succ]
          refine wpAnyH_take (i := 6) (oi := ?oi7) (v := ?v7) ?hi7 (by kernel_rfl) (by kernel_rfl) (by kernel_rfl) ?hQ7 (Or.inl ⟨?hw7, ?hy7⟩) (by assumption) ?hr7
          case hi7 => simp only [List.getElem?_toArray, List.getElem?_cons_succ, List.getElem?_cons_zero]; rfl
          case hQ7 => exact fun _ _ _ h => h
          case hw7 => rfl
          case hy7 => intro w hSw; (try dsimp only at hSw); go_simp; (try with_reducible rfl)
          case hr7 =>
          simp only [Act.put, List.setIfInBounds_toArray, List.set_cons_zero, List.set_cons_succ]
          refine wpAnyH_take (i := 7) (oi := ?oi8) (v := ?v8) ?hi8 (by kernel_rfl) (by kernel_rfl) (by kernel_rfl) ?hQ8 (Or.inl ⟨?hw8, ?hy8⟩) (by assumption) ?hr8
          case hi8 => simp only [List.getElem?_toArray, List.getElem?_cons_succ, List.getElem?_cons_zero]; rfl
          case hQ8 => exact fun _ _ _ h => h
          case hw8 => rfl
          case hy8 => intro w hSw; (try dsimp only at hSw); go_simp; (try with_reducible rfl)
          case hr8 =>
          simp only [Act.put, List.setIfInBounds_toArray, List.set_cons_zero, List.set_cons_succ]
          refine wpAnyH_take (i := 8) (oi := ?oi9) (v := ?v9) ?hi9 (by kernel_rfl) (by kernel_rfl) (by kernel_rfl) ?hQ9 (Or.inl ⟨?hw9, ?hy9⟩) (by assumption) ?hr9
          case hi9 => simp only [List.getElem?_toArray, List.getElem?_cons_succ, List.getElem?_cons_zero]; rfl
          case hQ9 => exact fun _ _ _ h => h
          case hw9 => rfl
          case hy9 => intro w hSw; (try dsimp only at hSw); go_simp; (try with_reducible rfl)
          case hr9 =>
          simp only [Act.put, List.setIfInBounds_toArray, List.set_cons_zero, List.set_cons_succ]
          refine wpAnyH_done (by kernel_rfl) ?_ _
          go_wp2_with fail
          go_roundw
          case rel => exact ⟨k + 1, by go_num, by omega, HTK.out hb, HK.out.2.trans (Chg.refl _ _).drew⟩
          case measure => simp [intOf]; omega
        · have hbb : (((xb.toNat : Nat) : Int) != ((yb.toNat : Nat) : Int)) = true := by
            simp only [bne_iff_ne, ne_eq, Int.natCast_inj]
            exact fun h => hb (UInt8.toNat_inj.1 h)
          go_upto_region 6 with (fail)
          refine wp_region_held_drew (S := fun q => q.cell? (a1.add k) = some (.int .u8 xb.toNat) ∧ q.cell? (b1.add k) = some (.int .u8 yb.toNat)) (by kernel_rfl) ?_ (fun hHeld => ?_)
          · exact ⟨c1, c2⟩
          refine wpAnyH_take (i := 0) (oi := ?oi10) (v := ?v10) ?hi10 (by kernel_rfl) (by kernel_rfl) (by kernel_rfl) ?hQ10 (Or.inl ⟨?hw10, ?hy10⟩) (by assumption) ?hr10
          case hi10 => simp only [List.getElem?_toArray, List.getElem?_cons_zero]; rfl
          case hQ10 => exact fun _ _ _ h => h
          case hw10 => rfl
          case hy10 => intro w hSw; (try dsimp only at hSw); go_simp; (try with_reducible rfl)
          case hr10 =>
          simp only [Act.put, List.setIfInBounds_toArray, List.set_cons_zero, List.set_cons_succ]
          refine wpAnyH_take (i := 1) (oi := ?oi11) (v := ?v11) ?hi11 (by kernel_rfl) (by kernel_rfl) (by kernel_rfl) ?hQ11 (Or.inl ⟨?hw11, ?hy11⟩) (by assumption) ?hr11
          case hi11 => simp only [List.getElem?_toArray, List.getElem?_cons_succ, List.getElem?_cons_zero]; rfl
          case hQ11 => exact fun _ _ _ h => h
          case hw11 => rfl
          case hy11 => intro w hSw; (try dsimp only at hSw); go_simp; (try with_reducible rfl)
          case hr11 =>
          simp only [Act.put, List.setIfInBounds_toArray, List.set_cons_zero, List.set_cons_succ]
          refine wpAnyH_take (i := 2) (oi := ?oi12) (v := ?v12) ?hi12 (by kernel_rfl) (by kernel_rfl) (by kernel_rfl) ?hQ12 (Or.inl ⟨?hw12, ?hy12⟩) (by assumption) ?hr12
          case hi12 => simp only [List.getElem?_toArray, List.getElem?_cons_succ, List.getElem?_cons_zero]; rfl
          case hQ12 => exact fun _ _ _ h => h
          case hw12 => rfl
          case hy12 => intro w hSw; (try dsimp only at hSw); go_simp; (try with_reducible rfl)
          case hr12 =>
          simp only [Act.put, List.setIfInBounds_toArray, List.set_cons_zero, List.set_cons_succ]
          refine wpAnyH_take (i := 3) (oi := ?oi13) (v := ?v13) ?hi13 (by kernel_rfl) (by kernel_rfl) (by kernel_rfl) ?hQ13 (Or.inl ⟨?hw13, ?hy13⟩) (by assumption) ?hr13
          case hi13 => simp only [List.getElem?_toArray, List.getElem?_cons_succ, List.getElem?_cons_zero]; rfl
          case hQ13 => exact fun _ _ _ h => h
          case hw13 => rfl
          case hy13 => intro w hSw; (try dsimp only at hSw); go_simp; (try with_reducible rfl)
          case hr13 =>
          simp only [Act.put, List.setIfInBounds_toArray, List.set_cons_zero, List.set_cons_succ]
          refine wpAnyH_take (i := 4) (oi := ?oi14) (v := ?v14) ?hi14 (by kernel_rfl) (by kernel_rfl) (by kernel_rfl) ?hQ14 (Or.inl ⟨?hw14, ?hy14⟩) (by assumption) ?hr14
          case hi14 => simp only [List.getElem?_toArray, List.getElem?_cons_succ, List.getElem?_cons_zero]; rfl
          case hQ14 => exact fun _ _ _ h => h
          case hw14 => rfl
          case hy14 => intro w hSw; (try dsimp only at hSw); go_simp; (try with_reducible rfl)
          case hr14 =>
          simp only [Act.put, List.setIfInBounds_toArray, List.set_cons_zero, List.set_cons_succ]
          refine wpAnyH_take (i := 5) (oi := ?oi15) (v := ?v15) ?hi15 (by kernel_rfl) (by kernel_rfl) (by kernel_rfl) ?hQ15 (Or.inl ⟨?hw15, ?hy15⟩) (by assumption) ?hr15
          case hi15 => simp only [List.getElem?_toArray, List.getElem?_cons_succ, List.getElem?_cons_zero]; rfl
          case hQ15 => exact fun _ _ _ h => h
          case hw15 => rfl
          case hy15 => intro w hSw; (try dsimp only at hSw); go_simp; (try with_reducible rfl)
          case hr15 =>
          simp only [Act.put, List.setIfInBounds_toArray, List.set_cons_zero, List.set_cons_succ]
          refine wpAnyH_take (i := 6) (oi := ?oi16) (v := ?v16) ?hi16 (by kernel_rfl) (by kernel_rfl) (by kernel_rfl) ?hQ16 (Or.inl ⟨?hw16, ?hy16⟩) (by assumption) ?hr16
          case hi16 => simp only [List.getElem?_toArray, List.getElem?_cons_succ, List.getElem?_cons_zero]; rfl
          case hQ16 => exact fun _ _ _ h => h
          case hw16 => rfl
          case hy16 => intro w hSw; (try dsimp only at hSw); go_simp; (try with_reducible rfl)
          case hr16 =>
          simp only [Act.put, List.setIfInBounds_toArray, List.set_cons_zero, List.set_cons_succ]
          refine wpAnyH_take (i := 7) (oi := ?oi17) (v := ?v17) ?hi17 (by kernel_rfl) (by kernel_rfl) (by kernel_rfl) ?hQ17 (Or.inl ⟨?hw17, ?hy17⟩) (by assumption) ?hr17
          case hi17 => simp only [List.getElem?_toArray, List.getElem?_cons_succ, List.getElem?_cons_zero]; rfl
          case hQ17 => exact fun _ _ _ h => h
          case hw17 => rfl
          case hy17 => intro w hSw; (try dsimp only at hSw); go_simp; (try with_reducible rfl)
          case hr17 =>
          simp only [Act.put, List.setIfInBounds_toArray, List.set_cons_zero, List.set_cons_succ]
          refine wpAnyH_take (i := 8) (oi := ?oi18) (v := ?v18) ?hi18 (by kernel_rfl) (by kernel_rfl) (by kernel_rfl) ?hQ18 (Or.inl ⟨?hw18, ?hy18⟩) (by assumption) ?hr18
          case hi18 => simp only [List.getElem?_toArray, List.getElem?_cons_succ, List.getElem?_cons_zero]; rfl
          case hQ18 => exact fun _ _ _ h => h
          case hw18 => rfl
          case hy18 => intro w hSw; (try dsimp only at hSw); go_simp; (try with_reducible rfl)
          case hr18 =>
          simp only [Act.put, List.setIfInBounds_toArray, List.set_cons_zero, List.set_cons_succ]
          refine wpAnyH_done (by kernel_rfl) ?_ _
          go_wp2_with fail
          go_ret
          exact ⟨by rw [HRE.out, decide_eq_false (HNE.out hb)]; rfl, HK.out.2.trans (Chg.refl _ _).drew⟩
      · obtain rfl : k = n := by omega
        go_wp2_with fail
        go_ret
        obtain ⟨fx, hrx, hlx⟩ := HX.out
        obtain ⟨fy, hry, hly⟩ := HY.out
        have h1 := HK.out.1
        rw [List.take_of_length_le (by omega), List.take_of_length_le (by omega)] at h1
        exact ⟨by rw [HRE.out, decide_eq_true h1]; rfl, HK.out.2⟩
  · have hne : (n : Int) ≠ (m : Int) := by omega
    have hnb : ((n : Int) != (m : Int)) = true := by simp; omega
    have HNE := Lib.hid (show x ≠ y from fun h => by
      obtain ⟨_, _, h1⟩ := HX.out
      obtain ⟨_, _, h2⟩ := HY.out
      subst h; omega)
    go_wp2_with fail
    go_ret
    exact ⟨by rw [HRE.out, decide_eq_false HNE.out]; rfl, Chg.refl _ _⟩
end Go.Proofs.YtfhiioopimmahaaGreatDoor
namespace Go.Pax
open Go.RowKit
def ndW (x : ANode × Value) : Value := ndV x.1 x.2
theorem run_lookupB {P : Program} {w : World} {m : Nat} {l : List (Str × Bool)} {T K E : TypeId} (hT : P.underlying T = some (.map K E)) (hd : P.underlying K = some .string) (hz : ∀ W, (zeroValue E).run P W = .ok (.bool false) W) (h : MapG kvS Value.bool w m l) (k : Str) :
    (Instr.lookup T (.map (some m)) (.string (ba k)) false).run P w = .ok (.bool ((lkG l k).getD false)) w := by
  cases hl : lkG l k with
  | none => exact run_lookupG_none keyS hT hd hz h hl
  | some b => exact run_lookupG_some keyS hT hd h hl
end Go.Pax
namespace Go.Proofs.YtfhiioopimmahaaGreatDoor
open Go.RowKit Go.Pax Go.Shelf
set_option maxRecDepth 100000 in
set_option maxHeartbeats 16000000 in
theorem treeCheck (w : World) (ao : Option Addr) (n cap : Nat) (fp fd : List Nat) (L : List (ANode × Value)) (h : NdRd w fp ao L) (hn : L.length = n) (hnB : n ≤ 1000000) (hd : ∀ x ∈ L, RdD w fd x.2 x.1.data ∧ x.1.data.length ≤ 140737488355328)
    (hs : ∀ x ∈ L, x.1.path.length ≤ 140737488355328 ∧ x.1.target.length ≤ 140737488355328) (hfp : ∀ g ∈ fp, g < w.heap.size) (hfd : ∀ g ∈ fd, g < w.heap.size) (hkeys : KeysAt w) :
    Calls Tryz.prog 46 #[.slice ao n cap] w fun e w' => e = .returned (.tuple #[.int .i64 (treeE (L.map Prod.fst)).1, .int .i64 (treeE (L.map Prod.fst)).2]) ∧ Chg [] w w' := by
  obtain ⟨R, hR⟩ : ∃ R, R = treeE (L.map Prod.fst) := ⟨_, rfl⟩
  rw [← hR]
  have HRE := Lib.hid hR
  have H := Lib.hid (And.intro h (And.intro hn (And.intro hd (And.intro hs (And.intro hfp (And.intro hfd hkeys))))))
  have hmm := @run_makeMap Tryz.prog
  obtain ⟨w5, hru, hmp5, hk5, hz5⟩ := run_updateG (P := Tryz.prog) (T := 143) keyS Tryz.underlying143 Tryz.underlying9 (MapG.new (kv := kvS) (vv := Value.bool) w) [] true
  have hru : (Instr.mapUpdate 143 (.map (some w.heap.size)) (.string ⟨#[]⟩) (.bool true)).run Tryz.prog (w.alloc (.map #[] 0)) = .ok () w5 := hru
  have HM5 := Lib.hid (show MapG kvS Value.bool w5 w.heap.size (dirsOf []) ∧ Chg [] w w5 from ⟨hmp5, ((Chg.refl [] w).alloc _).trans' hk5 (by simp) (fun x hx hl => by simp at hx; omega)⟩)
  clear h hn hd hs hfp hfd hkeys hR hmp5 hk5 hz5
  go_enter Tryz.func46, Tryz.ntmps46
  go_upto_region 2 with (fail)
  obtain ⟨md, hmd⟩ : ∃ x, x = w.heap.size := ⟨_, rfl⟩
  rw [← hmd] at HM5 ⊢
  have HMD := Lib.hid hmd
  clear hmd hru
  go_wp2_with fail
  go_loopw [18] (fun u wr => ∃ k : Nat, u = .int .i64 k ∧ k ≤ n ∧ (∀ j, j < k → nodeE (ndAt (L.map Prod.fst) j) = 0) ∧ MapG kvS Value.bool wr md (dirsOf ((L.map Prod.fst).take k)) ∧ Chg [md] w5 wr) (fun u _ => n - (intOf u).toNat)
  case atStart => exact ⟨0, rfl, Nat.zero_le _, fun j hj => by omega, HM5.out.1, Chg.refl _ _⟩
  case round =>
    obtain ⟨k, rfl, hkn, hno, hmp, hk⟩ := hrel
    have HKW := Lib.hid (show Chg [] w wr from HM5.out.2.trans' hk (by simp) (fun x hx hl => by have := HMD.out; simp at hx; omega))
    have HK := Lib.hid (And.intro hno (And.intro hmp hk))
    have hkB : k ≤ 1000000 := by omega
    clear hno hmp hk
    by_cases hlt : k < n
    · have hkL : k < L.length := by rw [H.out.2.1]; exact hlt
      obtain ⟨ad, rfl, hbl, c0, hcl⟩ := (H.out.1.chg HKW.out (by simp)) k hkL
      obtain ⟨hrd, hdl⟩ := H.out.2.2.1 _ (List.getElem_mem hkL)
      obtain ⟨hpl, htl⟩ := H.out.2.2.2.1 _ (List.getElem_mem hkL)
      obtain ⟨da, dc, hde, hdr⟩ := hrd
      rw [hde] at hcl
      have c1 := hcl 1 _ rfl
      have c2 := hcl 2 _ rfl
      have c3 := hcl 3 _ rfl
      have c4 := hcl 4 _ rfl
      have c5 := hcl 5 _ rfl
      have HN := Lib.hid (fun W (kw : Chg [] w W) => nodeCheck W L[k].1 da L[k].1.data.length dc rfl hdl (H.out.2.2.2.2.2.2.chg kw (by simp)) hpl htl)
      have HX := Lib.hid (show ndAt (L.map Prod.fst) k = L[k].1 from by rw [ndAt_eq (by simpa using hkL)]; simp)
      have HDS := Lib.hid (show dirsOf ((L.map Prod.fst).take (k + 1)) = if L[k].1.kind = 0 then upG (dirsOf ((L.map Prod.fst).take k)) L[k].1.path true else dirsOf ((L.map Prod.fst).take k) from by
        rw [List.take_add_one, List.getElem?_eq_getElem (by simpa using hkL)]
        simp only [Option.toList, List.getElem_map]
        rw [dirs_snoc])
      clear hcl hbl hdr hde hdl hpl htl
      unfold ndV at HN
      generalize L[k].1 = X at *
      generalize hx1 : X.kind = x1 at *
      generalize hx2 : ba X.path = x2 at *
      generalize X.mode = x3 at *
      generalize ba X.target = x4 at *
      generalize X.cls = x6 at *
      generalize X.data.length = dl at *
      generalize hE : nodeE X = E at *
      have HXE := Lib.hid (And.intro hx1 (And.intro hx2 hE))
      clear hx1 hx2 hE
      go_upto_region 5 with (fail)
      clear c0 c1 c2 c3 c4 c5
      have e1 := heap_alloc_new wr (.cells #[.int .i64 x1, .string x2, .int .i64 x3, .string x4, .slice da dl dc, .int .i64 x6] 45)
      have hk1 : Chg [] wr (wr.alloc (.cells #[.int .i64 x1, .string x2, .int .i64 x3, .string x4, .slice da dl dc, .int .i64 x6] 45)) := (Chg.refl _ _).alloc _
      have HK1 := Lib.hid (And.intro hk1 e1)
      clear hk1 e1
      generalize wr.alloc (.cells #[.int .i64 x1, .string x2, .int .i64 x3, .string x4, .slice da dl dc, .int .i64 x6] 45) = W1 at *
      generalize wr.heap.size = g1 at *
      have j0 := cell_heap HK1.out.2 0 (v := .int .i64 x1) rfl
      have j1 := cell_heap HK1.out.2 1 (v := .string x2) rfl
      have j2 := cell_heap HK1.out.2 2 (v := .int .i64 x3) rfl
      have j3 := cell_heap HK1.out.2 3 (v := .string x4) rfl
      have j4 := cell_heap HK1.out.2 4 (v := .slice da dl dc) rfl
      have j5 := cell_heap HK1.out.2 5 (v := .int .i64 x6) rfl
      go_upto_region 6 with (go_at_call 81; refine (HN.out _ (HKW.out.trans HK1.out.1)).mono ?_; rintro e w6 ⟨rfl, k6⟩; have HK6 := Lib.hid (HK1.out.1.trans k6); have HE6 := Lib.hid (k6.heap HK1.out.2 (by simp)); clear k6)
      clear j0 j1 j2 j3 j4 j5 HN HK1
      by_cases hE0 : E = 0
      · subst hE0
        have j0 := cell_heap HE6.out 0 (v := .int .i64 x1) rfl
        have j1 := cell_heap HE6.out 1 (v := .string x2) rfl
        have HNX := Lib.hid (show ∀ j, j < k + 1 → nodeE (ndAt (L.map Prod.fst) j) = 0 from fun j hj => by
          rcases Nat.lt_or_ge j k with h1 | h1
          · exact HK.out.1 j h1
          · obtain rfl : j = k := by omega
            rw [HX.out]; exact HXE.out.2.2)
        by_cases hx0 : x1 = 0
        · subst hx0
          obtain ⟨w7, hru, hm7, hk7, _⟩ := run_updateG (P := Tryz.prog) (T := 143) keyS Tryz.underlying143 Tryz.underlying9 (HK.out.2.1.chg HK6.out (by simp)) X.path true
          have hru : (Instr.mapUpdate 143 (.map (some md)) (.string x2) (.bool true)).run Tryz.prog w6 = .ok () w7 := by rw [← HXE.out.2.1]; exact hru
          have HM7 := Lib.hid (show MapG kvS Value.bool w7 md (dirsOf ((L.map Prod.fst).take (k + 1))) from by rw [HDS.out, if_pos (by have := HXE.out.1; first | rfl | exact this)]; exact hm7)
          have HC7 := Lib.hid (HK.out.2.2.trans ((HK6.out.mono (by simp)).trans hk7))
          clear hm7 hk7
          go_wp2_with fail
          go_roundw
          case rel => exact ⟨k + 1, by go_num, by omega, HNX.out, HM7.out, HC7.out⟩
          case measure => simp [intOf]; omega
        · have hxb : ¬ x1 = 0 := hx0
          have HM7 := Lib.hid (show MapG kvS Value.bool w6 md (dirsOf ((L.map Prod.fst).take (k + 1))) from by rw [HDS.out, if_neg (by first | exact hx0 | (rw [HXE.out.1]; exact hx0))]; exact HK.out.2.1.chg HK6.out (by simp))
          go_wp2_with fail
          go_roundw
          case rel => exact ⟨k + 1, by go_num, by omega, HNX.out, HM7.out, HK.out.2.2.trans (HK6.out.mono (by simp))⟩
          case measure => simp [intOf]; omega
      · go_wp2_with fail
        refine bodyPost_ret (v := .tuple #[.int .i64 k, .int .i64 E]) (by simp [results, Tryz.results46, go_sem]) rfl ⟨?_, HKW.out.trans HK6.out⟩
        rw [HRE.out, treeE_node (by rw [List.length_map, H.out.2.1]; exact hlt) HK.out.1 (by rw [HX.out, HXE.out.2.2]; exact hE0), HX.out, HXE.out.2.2]
    · have hkk : k = n := by omega
      subst hkk
      have HNA := Lib.hid (show ∀ j, j < (L.map Prod.fst).length → nodeE (ndAt (L.map Prod.fst) j) = 0 from fun j hj => HK.out.1 j (by rw [List.length_map, H.out.2.1] at hj; exact hj))
      have hdm := HK.out.2.1
      rw [List.take_of_length_le (by rw [List.length_map, H.out.2.1]; exact Nat.le_refl _)] at hdm
      have HDM := Lib.hid hdm
      clear hdm
      obtain ⟨W8, hW8⟩ : ∃ x, x = wr.alloc (.map #[] 0) := ⟨_, rfl⟩
      obtain ⟨W9, hW9⟩ : ∃ x, x = W8.alloc (.map #[] 0) := ⟨_, rfl⟩
      obtain ⟨ms, hms⟩ : ∃ x, x = wr.heap.size := ⟨_, rfl⟩
      obtain ⟨mf, hmf⟩ : ∃ x, x = W8.heap.size := ⟨_, rfl⟩
      have k8 : Chg [] wr W8 := by rw [hW8]; exact (Chg.refl _ _).alloc _
      have k9 : Chg [] W8 W9 := by rw [hW9]; exact (Chg.refl _ _).alloc _
      have m8 : MapG kvS Value.bool W8 ms [] := by rw [hW8, hms]; exact MapG.new _
      have m9 : MapG kvI ndW W9 mf [] := by rw [hW9, hmf]; exact MapG.new _
      have hmf' : wr.heap.size + 1 = mf := by rw [hmf, hW8]; simp
      have HM9 := Lib.hid (show MapG kvS Value.bool W9 ms (seenOf []) ∧ MapG kvI ndW W9 mf (firstOf []) ∧ MapG kvS Value.bool W9 md (dirsOf (L.map Prod.fst)) from ⟨m8.chg k9 (by simp), m9, (HDM.out.chg k8 (by simp)).chg k9 (by simp)⟩)
      have HC9 := Lib.hid (show Chg [] w W9 ∧ w.heap.size ≤ ms ∧ w.heap.size ≤ mf ∧ md ≠ ms ∧ md ≠ mf ∧ ms ≠ mf from ⟨HKW.out.trans (k8.trans k9), by have := HKW.out.size; omega, by have := HKW.out.size; omega, by have := HDM.out.lt; omega, by have := HDM.out.lt; omega, by omega⟩)
      have HW89 := Lib.hid (And.intro hW8 (And.intro hW9 (And.intro hms hmf')))
      clear k8 k9 m8 m9 hW8 hW9 hms hmf hmf'
      go_upto_region 13 with (fail)
      rw [HW89.out.2.2.2, ← HW89.out.2.2.1, ← HW89.out.1, ← HW89.out.2.1]
      clear hmm HW89 HK HDM HM5
      go_wp2_with fail
      go_loopw [40] (fun u wr => ∃ i : Nat, u = .int .i64 i ∧ i ≤ k ∧ (∀ j, j < i → togE (L.map Prod.fst) j = 0) ∧ MapG kvS Value.bool wr ms (seenOf ((L.map Prod.fst).take i)) ∧ MapG kvI ndW wr mf (firstOf (L.take i)) ∧ Chg [ms, mf] W9 wr) (fun u _ => k - (intOf u).toNat)
      case atStart => exact ⟨0, rfl, Nat.zero_le _, fun j hj => by omega, HM9.out.1, HM9.out.2.1, Chg.refl _ _⟩
      case round =>
        obtain ⟨i, rfl, hik, hno, hsm, hfm, hk⟩ := hrel
        have hiB : i ≤ 1000000 := by omega
        have HQ := Lib.hid (And.intro hno (And.intro hsm (And.intro hfm hk)))
        have HKQ := Lib.hid (show Chg [] w wr from HC9.out.1.trans' hk (by simp) (fun x hx hl => by have := HC9.out; simp at hx; omega))
        have HDQ := Lib.hid (show MapG kvS Value.bool wr md (dirsOf (L.map Prod.fst)) from HM9.out.2.2.chg hk (by have := HC9.out; simp; exact ⟨this.2.2.2.1, this.2.2.2.2.1⟩))
        clear hno hsm hfm hk
        by_cases hlt : i < k
        · have hiL : i < L.length := by rw [H.out.2.1]; exact hlt
          obtain ⟨ad, rfl, hbl, c0, hcl⟩ := (H.out.1.chg HKQ.out (by simp)) i hiL
          obtain ⟨hrd, hdl⟩ := H.out.2.2.1 _ (List.getElem_mem hiL)
          obtain ⟨hpl, htl⟩ := H.out.2.2.2.1 _ (List.getElem_mem hiL)
          obtain ⟨da, dc, hde, hdr⟩ := hrd
          rw [hde] at hcl
          have c1 := hcl 1 _ rfl
          have c2 := hcl 2 _ rfl
          have c3 := hcl 3 _ rfl
          have c4 := hcl 4 _ rfl
          have c5 := hcl 5 _ rfl
          have HPA := Lib.hid (fun W => parent L[i].1.path hpl W)
          have HX := Lib.hid (show ndAt (L.map Prod.fst) i = L[i].1 from by rw [ndAt_eq (by simpa using hiL)]; simp)
          have HSN := Lib.hid (show seenOf ((L.map Prod.fst).take (i + 1)) = upG (seenOf ((L.map Prod.fst).take i)) L[i].1.path true from by
            rw [List.take_add_one, List.getElem?_eq_getElem (by simpa using hiL)]
            simp only [Option.toList, List.getElem_map]
            rw [seen_snoc])
          have HFN := Lib.hid (show firstOf (L.take (i + 1)) = firstUp (firstOf (L.take i)) L[i] from by
            rw [List.take_add_one, List.getElem?_eq_getElem hiL]
            simp only [Option.toList]
            rw [first_snoc])
          have hse := seen_at ((L.map Prod.fst).take i) L[i].1.path
          have hda := dirs_at (L.map Prod.fst) (parentP L[i].1.path)
          have HTE := Lib.hid (show togE (L.map Prod.fst) i = if (lkG (seenOf ((L.map Prod.fst).take i)) L[i].1.path).getD false = true then 14 else if (lkG (dirsOf (L.map Prod.fst)) (parentP L[i].1.path)).getD false = false then 13 else if L[i].1.cls = 0 then 0 else togM ((lkG (firstOf (L.take i)) L[i].1.cls).map Prod.fst) L[i].1 from by
            unfold togE
            rw [HX.out, hse, hda]
            by_cases hc0 : L[i].1.cls = 0
            · simp only [hc0, if_true]
            · simp only [hc0, if_false, first_at _ _ hc0, ← List.map_take]
              rw [find_map_fst])
          have HFM := Lib.hid (show ∀ m, lkG (firstOf (L.take i)) L[i].1.cls = some m → L[i].1.cls ≠ 0 → m ∈ L from fun m hm hc0 => by
            rw [first_at _ _ hc0] at hm
            exact List.mem_of_mem_take (List.mem_of_find?_eq_some hm))
          have HY := Lib.hid (show L[i] = (L[i].1, .slice da L[i].1.data.length dc) from by rw [← hde])
          have HLS := Lib.hid (fun W (kw : Chg [] wr W) => run_lookupB (P := Tryz.prog) (T := 143) Tryz.underlying143 Tryz.underlying9 (fun W => by kernel_rfl) (HQ.out.2.1.chg kw (by simp)) L[i].1.path)
          have HLD := Lib.hid (fun W (kw : Chg [] wr W) => run_lookupB (P := Tryz.prog) (T := 143) Tryz.underlying143 Tryz.underlying9 (fun W => by kernel_rfl) (HDQ.out.chg kw (by simp)) (parentP L[i].1.path))
          have HTG := Lib.hid (show ∀ E : Int, E ≠ 0 → togE (L.map Prod.fst) i = E → R = (i, E) from fun E h1 h2 => by rw [HRE.out, treeE_tog (by rw [List.length_map, H.out.2.1]; exact hlt) HNA.out HQ.out.1 (by rw [h2]; exact h1), h2])
          have HTN := Lib.hid (show togE (L.map Prod.fst) i = 0 → ∀ j, j < i + 1 → togE (L.map Prod.fst) j = 0 from fun h0 j hj => by
            rcases Nat.lt_or_ge j i with h1 | h1
            · exact HQ.out.1 j h1
            · obtain rfl : j = i := by omega
              exact h0)
          have HDR := Lib.hid (And.intro hdr hdl)
          clear hcl hbl hde hpl htl hse hda hdr hdl HX
          generalize hTE : togE (L.map Prod.fst) i = TE at *
          clear hTE
          generalize hLi : L[i] = Y at *
          have HYE := Lib.hid hLi
          clear hLi
          generalize Y.1 = X at *
          generalize hSB : (lkG (seenOf ((L.map Prod.fst).take i)) X.path).getD false = SB at *
          generalize hDB : (lkG (dirsOf (L.map Prod.fst)) (parentP X.path)).getD false = DB at *
          clear hSB hDB
          generalize hPA : ba (parentP X.path) = PA at *
          clear hPA
          generalize hx2 : ba X.path = x2 at *
          generalize hx1 : X.kind = x1 at *
          generalize hx3 : X.mode = x3 at *
          generalize hx4 : ba X.target = x4 at *
          generalize hx6 : X.cls = x6 at *
          generalize hxd : X.data = xd at *
          have HX2 := Lib.hid (And.intro hx2 (And.intro hx6 (And.intro hx3 hxd)))
          have HX4 := Lib.hid (And.intro hx1 hx4)
          clear hx1 hx2 hx3 hx4 hx6 hxd
          go_upto_region 16 with (fail)
          clear c0 c1 c2 c3 c4 c5
          have e1 := heap_alloc_new wr (.cells #[.int .i64 x1, .string x2, .int .i64 x3, .string x4, .slice da xd.length dc, .int .i64 x6] 45)
          have hk1 : Chg [] wr (wr.alloc (.cells #[.int .i64 x1, .string x2, .int .i64 x3, .string x4, .slice da xd.length dc, .int .i64 x6] 45)) := (Chg.refl _ _).alloc _
          have HK1 := Lib.hid (And.intro hk1 (And.intro e1 (show w.heap.size ≤ wr.heap.size from HKQ.out.size)))
          have HG1 := Lib.hid (show wr.heap.size ≠ ms ∧ wr.heap.size ≠ mf from ⟨by have := HQ.out.2.1.lt; omega, by have := HQ.out.2.2.1.lt; omega⟩)
          clear hk1 e1
          generalize wr.alloc (.cells #[.int .i64 x1, .string x2, .int .i64 x3, .string x4, .slice da xd.length dc, .int .i64 x6] 45) = W1 at *
          generalize wr.heap.size = g1 at *
          have j1 := cell_heap HK1.out.2.1 1 (v := .string x2) rfl
          have hl1 := HLS.out W1 HK1.out.1
          by_cases hSB : SB = true
          · subst hSB
            go_wp2_with fail
            refine bodyPost_ret (v := .tuple #[.int .i64 i, .int .i64 14]) (by simp [results, Tryz.results46, go_sem]) rfl ⟨?_, HKQ.out.trans HK1.out.1⟩
            rw [HTG.out 14 (by decide) (by rw [HTE.out]; rfl)]
          have hSB2 : SB = false := by simpa using hSB
          subst hSB2
          clear hSB
          go_upto_region 18 with (fail)
          clear hl1
          have hl2 := HLD.out W1 HK1.out.1
          have HPA1 := Lib.hid (HPA.out W1)
          clear HPA HLS HLD
          by_cases hDB : DB = false
          · subst hDB
            go_wp2_with (go_at_call 82; refine HPA1.out.mono ?_; rintro e w2 ⟨rfl, h2⟩; have h2 := h2.symm; subst h2)
            refine bodyPost_ret (v := .tuple #[.int .i64 i, .int .i64 13]) (by simp [results, Tryz.results46, go_sem]) rfl ⟨?_, HKQ.out.trans HK1.out.1⟩
            rw [HTG.out 13 (by decide) (by rw [HTE.out]; rfl)]
          obtain rfl : DB = true := by simpa using hDB
          clear hDB
          have HTE2 := Lib.hid (show TE = if x6 = 0 then 0 else togM ((lkG (firstOf (L.take i)) x6).map Prod.fst) X from by rw [HTE.out]; rfl)
          clear HTE
          go_upto_region 20 with (go_at_call 82; refine HPA1.out.mono ?_; rintro e w2 ⟨rfl, h2⟩; have h2 := h2.symm; subst h2)
          clear hl2 HPA1
          obtain ⟨w2, hru2, hm2, hk2, hz2⟩ := run_updateG (P := Tryz.prog) (T := 143) keyS Tryz.underlying143 Tryz.underlying9 (HQ.out.2.1.chg HK1.out.1 (by simp)) X.path true
          clear hz2
          have hru2 : (Instr.mapUpdate 143 (.map (some ms)) (.string x2) (.bool true)).run Tryz.prog W1 = .ok () w2 := by rw [← HX2.out.1]; exact hru2
          have HM2 := Lib.hid (show MapG kvS Value.bool w2 ms (seenOf ((L.map Prod.fst).take (i + 1))) ∧ MapG kvI ndW w2 mf (firstOf (L.take i)) ∧ Chg [ms, mf] W9 w2 ∧ w2.heap[g1]? = some (.cells #[.int .i64 x1, .string x2, .int .i64 x3, .string x4, .slice da xd.length dc, .int .i64 x6] 45 (0, 0)) ∧ Chg [] w w2 from
            ⟨by rw [HSN.out]; exact hm2, (HQ.out.2.2.1.chg HK1.out.1 (by simp)).chg hk2 (by have := HC9.out; simp; exact fun e => this.2.2.2.2.2 e.symm), HQ.out.2.2.2.trans ((HK1.out.1.mono (by simp)).trans (hk2.mono (by simp))), hk2.heap HK1.out.2.1 (by simpa using HG1.out.1), (HKQ.out.trans HK1.out.1).trans' hk2 (by simp) (fun x hx hl => by have := HC9.out; simp at hx; omega)⟩)
          clear hm2 hk2
          go_upto_region 21 with (fail)
          clear j1 hru2
          have j5 := cell_heap HM2.out.2.2.2.1 5 (v := .int .i64 x6) rfl
          by_cases hx0 : x6 = 0
          · subst hx0
            have HFI := Lib.hid (show MapG kvI ndW w2 mf (firstOf (L.take (i + 1))) from by rw [HFN.out, firstUp_zero (by rw [HY.out]; exact HX2.out.2.1)]; exact HM2.out.2.1)
            go_wp2_with fail
            go_roundw
            case rel => exact ⟨i + 1, by go_num, by omega, HTN.out (by rw [HTE2.out]; rfl), HM2.out.1, HFI.out, HM2.out.2.2.1⟩
            case measure => simp [intOf]; omega
          have HYC := Lib.hid (show Y.1.cls = x6 from by rw [HY.out]; exact HX2.out.2.1)
          cases hf : lkG (firstOf (L.take i)) x6 with
          | none =>
            rw [hf] at HTE2
            have HFU := Lib.hid (HFN.out.trans (firstUp_none HYC.out hx0 hf))
            have hl3 : (Instr.lookup 144 (.map (some mf)) (.int .i64 x6) true).run Tryz.prog w2 = .ok (.tuple #[.agg #[.int .i64 0, .string ⟨#[]⟩, .int .i64 0, .string ⟨#[]⟩, .slice none 0 0, .int .i64 0], .bool false]) w2 := run_lookupG2_none keyI Tryz.underlying144 Tryz.underlying3 (fun W => by kernel_rfl) HM2.out.2.1 hf
            clear hf
            go_upto_region 24 with (fail)
            clear j5 hl3
            have hk3 : Chg [] w2 (w2.alloc (.cells #[.int .i64 0, .string ⟨#[]⟩, .int .i64 0, .string ⟨#[]⟩, .slice none 0 0, .int .i64 0] 45)) := (Chg.refl _ _).alloc _
            have HK3 := Lib.hid (And.intro hk3 (hk3.heap HM2.out.2.2.2.1 (by simp)))
            clear hk3
            generalize w2.alloc (.cells #[.int .i64 0, .string ⟨#[]⟩, .int .i64 0, .string ⟨#[]⟩, .slice none 0 0, .int .i64 0] 45) = w3 at *
            have j0 := cell_heap HK3.out.2 0 (v := .int .i64 x1) rfl
            have j1 := cell_heap HK3.out.2 1 (v := .string x2) rfl
            have j2 := cell_heap HK3.out.2 2 (v := .int .i64 x3) rfl
            have j3 := cell_heap HK3.out.2 3 (v := .string x4) rfl
            have j4 := cell_heap HK3.out.2 4 (v := .slice da xd.length dc) rfl
            have j5 := cell_heap HK3.out.2 5 (v := .int .i64 x6) rfl
            obtain ⟨w4, hru4, hm4, hk4, hz4⟩ := run_updateG (P := Tryz.prog) (T := 144) keyI Tryz.underlying144 Tryz.underlying3 (HM2.out.2.1.chg HK3.out.1 (by simp)) x6 Y
            clear hz4
            have hru4 : (Instr.mapUpdate 144 (.map (some mf)) (.int .i64 x6) (.agg #[.int .i64 x1, .string x2, .int .i64 x3, .string x4, .slice da xd.length dc, .int .i64 x6])).run Tryz.prog w3 = .ok () w4 := by
              have h9 := hru4
              unfold ndW ndV at h9
              rw [HY.out] at h9
              simp only at h9
              rw [HX2.out.1, HX2.out.2.1, HX2.out.2.2.1, HX4.out.1, HX4.out.2] at h9
              exact h9
            have HM4 := Lib.hid (show MapG kvS Value.bool w4 ms (seenOf ((L.map Prod.fst).take (i + 1))) ∧ MapG kvI ndW w4 mf (firstOf (L.take (i + 1))) ∧ Chg [ms, mf] W9 w4 from
              ⟨(HM2.out.1.chg HK3.out.1 (by simp)).chg hk4 (by have := HC9.out; simp; exact this.2.2.2.2.2), by rw [HFU.out]; exact hm4, HM2.out.2.2.1.trans ((HK3.out.1.mono (by simp)).trans (hk4.mono (by simp)))⟩)
            clear hm4 hk4
            go_wp2_with fail
            go_roundw
            case rel => exact ⟨i + 1, by go_num, by omega, HTN.out (by rw [HTE2.out, if_neg hx0]; rfl), HM4.out.1, HM4.out.2.1, HM4.out.2.2⟩
            case measure => simp [intOf]; omega
          | some mn =>
            rw [hf] at HTE2
            have HFU := Lib.hid (HFN.out.trans (firstUp_some HYC.out hx0 hf))
            have hmL := HFM.out mn hf hx0
            have hl3 : (Instr.lookup 144 (.map (some mf)) (.int .i64 x6) true).run Tryz.prog w2 = .ok (.tuple #[ndW mn, .bool true]) w2 := run_lookupG2_some keyI Tryz.underlying144 Tryz.underlying3 HM2.out.2.1 hf
            obtain ⟨⟨ma, mc, hme, hmr⟩, hml⟩ := H.out.2.2.1 mn hmL
            unfold ndW ndV at hl3
            rw [hme] at hl3
            have HMR := Lib.hid (And.intro hmr hml)
            have HTE3 := Lib.hid (show TE = if mn.1.mode ≠ X.mode ∨ mn.1.data ≠ X.data then 15 else 0 from by rw [HTE2.out, if_neg hx0]; rfl)
            have HEQ := Lib.hid (fun W (kw : Chg [] w W) => equalBytes W ma da mn.1.data.length xd.length mc dc mn.1.data xd ⟨fd, hmr.chg kw (by simp), rfl⟩ ⟨fd, HDR.out.1.chg kw (by simp), rfl⟩ hml HDR.out.2)
            clear hf hmL hme hmr hml HTE2 HFM
            rw [HX2.out.2.2.1, HX2.out.2.2.2] at HTE3
            generalize mn.1 = M at *
            generalize M.kind = m1 at *
            generalize ba M.path = m2 at *
            generalize M.mode = m3 at *
            generalize ba M.target = m4 at *
            generalize M.cls = m6 at *
            generalize M.data = mb at *
            generalize hmbl : mb.length = ml at *
            generalize hxdl : xd.length = xl at *
            clear hmbl hxdl
            go_upto_region 25 with (fail)
            clear j5 hl3
            have hk3 : Chg [] w2 (w2.alloc (.cells #[.int .i64 m1, .string m2, .int .i64 m3, .string m4, .slice ma ml mc, .int .i64 m6] 45)) := (Chg.refl _ _).alloc _
            have HK3 := Lib.hid (And.intro hk3 (And.intro (hk3.heap HM2.out.2.2.2.1 (by simp)) (heap_alloc_new w2 (.cells #[.int .i64 m1, .string m2, .int .i64 m3, .string m4, .slice ma ml mc, .int .i64 m6] 45))))
            clear hk3
            generalize w2.alloc (.cells #[.int .i64 m1, .string m2, .int .i64 m3, .string m4, .slice ma ml mc, .int .i64 m6] 45) = w3 at *
            generalize w2.heap.size = g3 at *
            have j2 := cell_heap HK3.out.2.1 2 (v := .int .i64 x3) rfl
            have j4 := cell_heap HK3.out.2.1 4 (v := .slice da xl dc) rfl
            have q2 := cell_heap HK3.out.2.2 2 (v := .int .i64 m3) rfl
            have q4 := cell_heap HK3.out.2.2 4 (v := .slice ma ml mc) rfl
            by_cases hm : m3 = x3
            · have hmb : (m3 != x3) = false := by simpa using hm
              by_cases hxe : mb = xd
              · have hxd2 : decide (mb = xd) = true := decide_eq_true hxe
                have HW4 := Lib.hid (fun W (kw : Chg [] w3 W) => (show MapG kvS Value.bool W ms (seenOf ((L.map Prod.fst).take (i + 1))) ∧ MapG kvI ndW W mf (firstOf (L.take (i + 1))) ∧ Chg [ms, mf] W9 W from
                  ⟨(HM2.out.1.chg HK3.out.1 (by simp)).chg kw (by simp), by rw [HFU.out]; exact (HM2.out.2.1.chg HK3.out.1 (by simp)).chg kw (by simp), HM2.out.2.2.1.trans ((HK3.out.1.mono (by simp)).trans (kw.mono (by simp)))⟩))
                have HT0 := Lib.hid (HTN.out (by rw [HTE3.out, if_neg (by simp [hm, hxe])]))
                clear hxe hm
                generalize decide (mb = xd) = dq at *
                subst hxd2
                go_wp2_with (go_at_call 83; refine (HEQ.out _ (HM2.out.2.2.2.2.trans HK3.out.1)).mono ?_; rintro e w4 ⟨rfl, k4⟩; have HK4 := Lib.hid k4; clear k4)
                go_roundw
                case rel => exact ⟨i + 1, by go_num, by omega, HT0.out, HW4.out w4 HK4.out⟩
                case measure => simp [intOf]; omega
              · have hxd2 : decide (mb = xd) = false := decide_eq_false hxe
                have HT0 := Lib.hid (HTG.out 15 (by decide) (by rw [HTE3.out, if_pos (.inr hxe)]))
                clear hxe hm
                generalize decide (mb = xd) = dq at *
                subst hxd2
                go_wp2_with (go_at_call 83; refine (HEQ.out _ (HM2.out.2.2.2.2.trans HK3.out.1)).mono ?_; rintro e w4 ⟨rfl, k4⟩; have HK4 := Lib.hid k4; clear k4)
                refine bodyPost_ret (v := .tuple #[.int .i64 i, .int .i64 15]) (by simp [results, Tryz.results46, go_sem]) rfl ⟨?_, HM2.out.2.2.2.2.trans (HK3.out.1.trans HK4.out)⟩
                rw [HT0.out]
            · have hmb : (m3 != x3) = true := by simpa using hm
              have HT0 := Lib.hid (HTG.out 15 (by decide) (by rw [HTE3.out, if_pos (.inl hm)]))
              go_wp2_with fail
              refine bodyPost_ret (v := .tuple #[.int .i64 i, .int .i64 15]) (by simp [results, Tryz.results46, go_sem]) rfl ⟨?_, HM2.out.2.2.2.2.trans HK3.out.1⟩
              rw [HT0.out]
        · have hii : i = k := by omega
          subst hii
          go_wp2_with fail
          refine bodyPost_ret (v := .tuple #[.int .i64 i, .int .i64 0]) (by simp [results, Tryz.results46, go_sem]) rfl ⟨?_, HKQ.out⟩
          rw [HRE.out, treeE_ok HNA.out (fun j hj => HQ.out.1 j (by rw [List.length_map, H.out.2.1] at hj; exact hj)), List.length_map, H.out.2.1]
end Go.Proofs.YtfhiioopimmahaaGreatDoor
namespace Go.Pax
open Go.RowKit
theorem setCells_heap (g : Nat) (t : TypeId) : ∀ (vs : List Value) (o : Nat) (w : World) (cur : Array Value), w.heap[g]? = some (.cells cur t (0, 0)) →
    ∃ cur', (w.setCells g o vs).heap[g]? = some (.cells cur' t (0, 0)) ∧ cur'.size = cur.size ∧ ∀ j, cur'[j]? = if o ≤ j ∧ j < o + vs.length ∧ j < cur.size then vs[j - o]? else cur[j]?
  | [], o, w, cur, h => ⟨cur, h, rfl, fun j => by rw [if_neg (by simp; omega)]⟩
  | v :: r, o, w, cur, h => by
    obtain ⟨cur', h1, h2, h3⟩ := setCells_heap g t r (o + 1) (w.setCell ⟨g, o, none⟩ v) (cur.setIfInBounds o v) (heap_set h o v rfl)
    refine ⟨cur', h1, by rw [h2, Array.size_setIfInBounds], fun j => ?_⟩
    rw [h3]
    simp only [Array.size_setIfInBounds, List.length_cons]
    by_cases h4 : o + 1 ≤ j ∧ j < o + 1 + r.length ∧ j < cur.size
    · rw [if_pos h4, if_pos (by omega), show j - o = (j - (o + 1)) + 1 by omega, List.getElem?_cons_succ]
    · rw [if_neg h4]
      by_cases h5 : j = o
      · subst h5
        by_cases h6 : j < cur.size
        · rw [if_pos (by omega), Nat.sub_self]
          simp [h6]
        · rw [if_neg (by omega)]
          simp [h6]
      · rw [if_neg (by omega), Array.getElem?_setIfInBounds_ne (Ne.symm h5)]
end Go.Pax
namespace Go.Proofs.YtfhiioopimmahaaGreatDoor
open Go.RowKit Go.Pax Go.Shelf
theorem own_setCells {w : World} {B : Nat} {e : TypeId} {s g n c : Nat} {xs : List Value} (h : w.ownsRow B e s (.slice (some ⟨g, 0, none⟩) n c) n xs) {o : Nat} {vs : List Value} (ho : o + vs.length ≤ n * s) :
    (w.setCells g o vs).ownsRow B e s (.slice (some ⟨g, 0, none⟩) n c) n (xs.take o ++ vs ++ xs.drop (o + vs.length)) := by
  have hl := h.1
  rcases h.2 with ⟨hv, _⟩ | ⟨g', cap, cur, hv, hb, hg, hn, hm, hs, ht⟩
  · cases hv
  simp only [Value.slice.injEq, Option.some.injEq, Addr.mk.injEq] at hv
  obtain ⟨⟨rfl, _⟩, _, rfl⟩ := hv
  obtain ⟨cur', h1, h2, h3⟩ := setCells_heap g e vs o w cur hg
  have hnc : n * s ≤ c * s := Nat.mul_le_mul_right s hn
  refine ⟨by simp; omega, .inr ⟨g, c, cur', rfl, hb, h1, hn, hm, by rw [h2, hs], ?_⟩⟩
  apply List.ext_getElem?
  intro j
  have hx : ∀ j, j < n * s → xs[j]? = cur[j]? := fun j hj => by
    rw [← ht, List.getElem?_take_of_lt hj, Array.getElem?_toList]
  by_cases hj : j < n * s
  · rw [List.getElem?_take_of_lt hj, Array.getElem?_toList, h3]
    by_cases h4 : j < o
    · rw [if_neg (by omega), List.getElem?_append_left (by simp; omega), List.getElem?_append_left (by simp; omega), List.getElem?_take_of_lt h4, hx j hj]
    · by_cases h5 : j < o + vs.length
      · rw [if_pos (by omega), List.getElem?_append_left (by simp; omega), List.getElem?_append_right (by simp; omega)]
        congr 1
        simp; omega
      · rw [if_neg (by omega), List.getElem?_append_right (by simp; omega), List.getElem?_drop, ← hx j hj]
        congr 1
        simp; omega
  · rw [List.getElem?_eq_none (by simp; omega), List.getElem?_eq_none (by simp; omega)]
theorem ndcells_set (L : List (ANode × Value)) (i : Nat) (hi : i < L.length) (y : ANode × Value) : ndcells (L.set i y) = (ndcells L).take (i * 6) ++ ndc y.1 y.2 ++ (ndcells L).drop (i * 6 + 6) := by
  have h1 : ndcells L = ndcells (L.take i) ++ (ndc L[i].1 L[i].2 ++ ndcells (L.drop (i + 1))) := by
    have h2 : L = L.take i ++ L[i] :: L.drop (i + 1) := by rw [List.getElem_cons_drop, List.take_append_drop]
    calc ndcells L = ndcells (L.take i ++ L[i] :: L.drop (i + 1)) := by rw [← h2]
      _ = _ := by rw [ndcells_append]; rfl
  have h3 : (ndcells (L.take i)).length = i * 6 := by rw [ndcells_length, List.length_take, Nat.min_eq_left (by omega)]
  rw [List.set_eq_take_append_cons_drop, if_pos hi, ndcells_append, h1]
  rw [List.take_left' h3]
  have h4 : ∀ (A : List Value), A.length = i * 6 → (A ++ (ndc L[i].1 L[i].2 ++ ndcells (L.drop (i + 1)))).drop (i * 6 + 6) = ndcells (L.drop (i + 1)) := fun A hA => by
    rw [← List.drop_drop, List.drop_left' hA, List.drop_left' (by rfl)]
  rw [h4 _ h3]
  simp [ndcells]
/-- A node is stored. -/
theorem own_putNd {w : World} {B g n c : Nat} {L : List (ANode × Value)} (h : w.ownsRow B 45 6 (.slice (some ⟨g, 0, none⟩) n c) n (ndcells L)) {i : Nat} (hi : i < n) (x : ANode) (dv : Value) :
    (w.setCells g (i * 6) (ndc x dv)).ownsRow B 45 6 (.slice (some ⟨g, 0, none⟩) n c) n (ndcells (L.set i (x, dv))) := by
  have hl : L.length = n := by have := h.1; rw [ndcells_length] at this; omega
  rw [ndcells_set L i (by omega)]
  exact own_setCells h (by show i * 6 + 6 ≤ n * 6; omega)
theorem nd_split (L : List (ANode × Value)) (i : Nat) (hi : i < L.length) : ∃ A D, ndcells L = A ++ (ndc L[i].1 L[i].2 ++ D) ∧ A.length = i * 6 ∧ ∀ y : ANode × Value, ndcells (L.set i y) = A ++ (ndc y.1 y.2 ++ D) := by
  refine ⟨ndcells (L.take i), ndcells (L.drop (i + 1)), ?_, by rw [ndcells_length, List.length_take, Nat.min_eq_left (by omega)], fun y => ?_⟩
  · have h2 : L = L.take i ++ L[i] :: L.drop (i + 1) := by rw [List.getElem_cons_drop, List.take_append_drop]
    calc ndcells L = ndcells (L.take i ++ L[i] :: L.drop (i + 1)) := by rw [← h2]
      _ = _ := by rw [ndcells_append]; rfl
  · rw [List.set_eq_take_append_cons_drop, if_pos hi, ndcells_append]
    rfl
/-- One field is stored. -/
theorem own_putFld {w : World} {B g n c : Nat} {L : List (ANode × Value)} (h : w.ownsRow B 45 6 (.slice (some ⟨g, 0, none⟩) n c) n (ndcells L)) {i : Nat} (hi : i < L.length) (r : Nat) (hr : r < 6) (v : Value) (y : ANode × Value) (hy : ndc y.1 y.2 = (ndc L[i].1 L[i].2).set r v) :
    (w.setCell ⟨g, i * 6 + r, none⟩ v).ownsRow B 45 6 (.slice (some ⟨g, 0, none⟩) n c) n (ndcells (L.set i y)) := by
  have hl : L.length = n := by have := h.1; rw [ndcells_length] at this; omega
  have h1 := own_setCells h (o := i * 6 + r) (vs := [v]) (by simp; omega)
  obtain ⟨A, D, e1, e2, e3⟩ := nd_split L i hi
  have e4 : (ndcells L).take (i * 6 + r) ++ [v] ++ (ndcells L).drop (i * 6 + r + [v].length) = ndcells (L.set i y) := by
    have hlen : i * 6 + r < (ndcells L).length := by rw [ndcells_length]; omega
    have e5 : (ndcells L).take (i * 6 + r) ++ [v] ++ (ndcells L).drop (i * 6 + r + [v].length) = (ndcells L).set (i * 6 + r) v := by
      rw [List.set_eq_take_append_cons_drop, if_pos hlen]
      simp
    rw [e5, e3 y, e1, hy, List.set_append_right _ _ (by omega), e2, Nat.add_sub_cancel_left, List.set_append_left _ _ (by simpa [ndc] using hr)]
  rw [e4] at h1
  exact h1
/-- A row of fresh nodes. -/
def zeroNd : ANode × Value := (⟨0, [], 0, [], [], 0⟩, .slice none 0 0)
theorem made_nodes : ∀ n, (madeCells (Value.agg #[.int .i64 0, .string ⟨#[]⟩, .int .i64 0, .string ⟨#[]⟩, .slice none 0 0, .int .i64 0]).cells (n * 6)).toList = ndcells (List.replicate n zeroNd) := by
  intro n
  apply List.ext_getElem?
  intro j
  by_cases hj : j < n * 6
  · have hq : j / 6 < (List.replicate n zeroNd).length := by rw [List.length_replicate]; omega
    have h1 := ndcells_get (List.replicate n zeroNd) (j / 6) hq (j % 6) (Nat.mod_lt _ (by omega))
    rw [show j / 6 * 6 + j % 6 = j by omega] at h1
    rw [h1, List.getElem_replicate]
    have h6 : j % 6 < 6 := Nat.mod_lt _ (by omega)
    unfold madeCells
    simp only [Array.toList_map, List.getElem?_map, Array.toList_range, List.getElem?_range hj, Option.map_some, Value.cells]
    have h7 : (#[Value.int .i64 0, .string ⟨#[]⟩, .int .i64 0, .string ⟨#[]⟩, .slice none 0 0, .int .i64 0] : Array Value).size = 6 := rfl
    rw [h7]
    generalize j % 6 = r at *
    match r, h6 with
    | 0, _ => rfl
    | 1, _ => rfl
    | 2, _ => rfl
    | 3, _ => rfl
    | 4, _ => rfl
    | 5, _ => rfl
  · rw [List.getElem?_eq_none (by rw [Array.length_toList, size_madeCells]; omega), List.getElem?_eq_none (by rw [ndcells_length, List.length_replicate]; omega)]
end Go.Proofs.YtfhiioopimmahaaGreatDoor
