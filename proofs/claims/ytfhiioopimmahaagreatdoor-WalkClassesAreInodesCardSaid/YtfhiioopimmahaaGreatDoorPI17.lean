/- slices.symMergeCmpFunc at a row that is sorted already. Printed by wip/gen/gentsym.py. -/
import Derived.Test.YtfhiioopimmahaaGreatDoorPI16
namespace Go.Proofs.YtfhiioopimmahaaGreatDoor
open Go.RowKit Go.Pax Go.Shelf
set_option maxRecDepth 100000 in
set_option maxHeartbeats 16000000 in
theorem symOneL (w : World) (g n c : Nat) (L : List (ANode × Value)) (a m b : Nat) (h : SortedRow w g n c L) (hm : m = a + 1) (hmb : m < b) (hb : b ≤ n) :
    Calls Tryz.prog 121 #[.slice (some ⟨g, 0, none⟩) n c, .int .i64 a, .int .i64 m, .int .i64 b, .func (.func 77) #[] #[]] w fun e w' => e = .returned (.tuple #[]) ∧ Chg [] w w' := by
  have HS := Lib.hid h
  have hn := h.short
  have HB := Lib.hid (And.intro hm (And.intro hmb hb))
  have hbB : b ≤ 1000000 := by omega
  have haB : a ≤ 1000000 := by omega
  have hmB : m ≤ 1000000 := by omega
  have hma : (m : Int) - (a : Int) = 1 := by omega
  clear h hm hmb hb hn
  go_enter Tryz.func121, Tryz.ntmps121
  go_wp2_with fail
  go_loopw [10, 11] (fun u v wr => ∃ j : Nat, u = .int .i64 m ∧ v = .int .i64 j ∧ m ≤ j ∧ j ≤ b ∧ Chg [] w wr) (fun _ v _ => (intOf v).toNat)
  case atStart => exact ⟨b, rfl, rfl, by have := HB.out.2.1; omega, Nat.le_refl _, Chg.refl _ _⟩
  case round =>
    obtain ⟨j, rfl, rfl, hmj, hjb, hk⟩ := hrel
    have HK := Lib.hid (And.intro hmj (And.intro hjb hk))
    have hjB : j ≤ 1000000 := by omega
    clear hmj hjb hk
    by_cases hlt : m < j
    · obtain ⟨hh, hhe⟩ : ∃ x, x = (m + j) / 2 := ⟨_, rfl⟩
      have hhi : ((m : Int) + (j : Int)) / 2 = (hh : Int) := by omega
      have hhB : hh ≤ 1000000 := by omega
      have hhw : IntKind.i64.wrap (hh : Int) = (hh : Int) := IntWalk.i64_in _ (by omega)
      have HBB := Lib.hid (And.intro (show hh < n by have := HB.out; have := HK.out.2.1; omega) (And.intro (show a < n by have := HB.out; omega) (show a < hh by have := HB.out; omega)))
      have HHH := Lib.hid (And.intro (show m ≤ hh by omega) (show hh < j by omega))
      clear hhe
      obtain ⟨x, xa, xl, xc, hx, hxe⟩ := (HS.out.chg HK.out.2.2).at hh (HBB.out.1)
      obtain ⟨y, ya, yl, yc, hy, hye⟩ := (HS.out.chg HK.out.2.2).at a (HBB.out.2.1)
      have hxy : y.path < x.path := by rw [hxe, hye]; exact HS.out.asc a hh (by rw [HS.out.len]; exact HBB.out.2.1) (by rw [HS.out.len]; exact HBB.out.1) (HBB.out.2.2)
      have HX := Lib.hid (fun W => cmpNd x y xa ya xl xc yl yc W)
      rw [cmpS_gt hxy] at HX
      obtain ⟨x1, x2, x3, x4, x5, x6⟩ := x
      obtain ⟨y1, y2, y3, y4, y5, y6⟩ := y
      unfold ndV at HX
      have HYC := Lib.hid (fun W (kw : Chg [] wr W) => And.intro (hx.chg kw (by simp)) (hy.chg kw (by simp)))
      unfold NdAt at HYC
      simp only at HYC HX
      clear hxe hye hxy hx hy
      generalize ba x2 = x2 at *
      generalize ba y2 = y2 at *
      generalize ba x4 = x4 at *
      generalize ba y4 = y4 at *
      replace HYC := Lib.hid (fun W (kw : Chg [] wr W) => (show (fun q => q.cell? ⟨g, hh * 6, none⟩ = some (.int .i64 x1) ∧ q.cell? ⟨g, hh * 6 + 1, none⟩ = some (.string x2) ∧ q.cell? ⟨g, hh * 6 + 2, none⟩ = some (.int .i64 x3) ∧ q.cell? ⟨g, hh * 6 + 3, none⟩ = some (.string x4) ∧ q.cell? ⟨g, hh * 6 + 4, none⟩ = some (.slice xa xl xc) ∧ q.cell? ⟨g, hh * 6 + 5, none⟩ = some (.int .i64 x6) ∧ q.cell? ⟨g, a * 6, none⟩ = some (.int .i64 y1) ∧ q.cell? ⟨g, a * 6 + 1, none⟩ = some (.string y2) ∧ q.cell? ⟨g, a * 6 + 2, none⟩ = some (.int .i64 y3) ∧ q.cell? ⟨g, a * 6 + 3, none⟩ = some (.string y4) ∧ q.cell? ⟨g, a * 6 + 4, none⟩ = some (.slice ya yl yc) ∧ q.cell? ⟨g, a * 6 + 5, none⟩ = some (.int .i64 y6)) W from ⟨(HYC.out W kw).1.1, (HYC.out W kw).1.2.1, (HYC.out W kw).1.2.2.1, (HYC.out W kw).1.2.2.2.1, (HYC.out W kw).1.2.2.2.2.1, (HYC.out W kw).1.2.2.2.2.2, (HYC.out W kw).2.1, (HYC.out W kw).2.2.1, (HYC.out W kw).2.2.2.1, (HYC.out W kw).2.2.2.2.1, (HYC.out W kw).2.2.2.2.2.1, (HYC.out W kw).2.2.2.2.2.2⟩))
      have hhn := HBB.out.1
      have han := HBB.out.2.1
      go_upto_region 5 with (fail)
      refine wp_region_held_drew (S := fun q => q.cell? ⟨g, hh * 6, none⟩ = some (.int .i64 x1) ∧ q.cell? ⟨g, hh * 6 + 1, none⟩ = some (.string x2) ∧ q.cell? ⟨g, hh * 6 + 2, none⟩ = some (.int .i64 x3) ∧ q.cell? ⟨g, hh * 6 + 3, none⟩ = some (.string x4) ∧ q.cell? ⟨g, hh * 6 + 4, none⟩ = some (.slice xa xl xc) ∧ q.cell? ⟨g, hh * 6 + 5, none⟩ = some (.int .i64 x6) ∧ q.cell? ⟨g, a * 6, none⟩ = some (.int .i64 y1) ∧ q.cell? ⟨g, a * 6 + 1, none⟩ = some (.string y2) ∧ q.cell? ⟨g, a * 6 + 2, none⟩ = some (.int .i64 y3) ∧ q.cell? ⟨g, a * 6 + 3, none⟩ = some (.string y4) ∧ q.cell? ⟨g, a * 6 + 4, none⟩ = some (.slice ya yl yc) ∧ q.cell? ⟨g, a * 6 + 5, none⟩ = some (.int .i64 y6)) (by kernel_rfl) ?_ (fun hHeld => ?_)
      · exact HYC.out _ (Chg.refl [] wr).drew
      refine wpAnyH_take (i := 0) (oi := ?oi1) (v := ?v1) ?hi1 (by kernel_rfl) (by kernel_rfl) (by kernel_rfl) ?hQ1 (Or.inl ⟨?hw1, ?hy1⟩) (by assumption) ?hr1
      case hi1 => simp only [List.getElem?_toArray, List.getElem?_cons_zero]; rfl
      case hQ1 => exact fun _ _ _ h => h
      case hw1 => rfl
      case hy1 => intro w hSw; (try dsimp only at hSw); go_simp; (try with_reducible rfl)
      case hr1 =>
      simp only [Act.put, List.setIfInBounds_toArray, List.set_cons_zero, List.set_cons_succ]
      refine wpAnyH_take (i := 1) (oi := ?oi2) (v := ?v2) ?hi2 (by kernel_rfl) (by kernel_rfl) (by kernel_rfl) ?hQ2 (Or.inl ⟨?hw2, ?hy2⟩) (by assumption) ?hr2
      case hi2 => simp only [List.getElem?_toArray, List.getElem?_cons_succ, List.getElem?_cons_zero]; rfl
      case hQ2 => exact fun _ _ _ h => h
      case hw2 => rfl
      case hy2 => intro w hSw; (try dsimp only at hSw); go_simp; (try with_reducible rfl)
      case hr2 =>
      simp only [Act.put, List.setIfInBounds_toArray, List.set_cons_zero, List.set_cons_succ]
      refine wpAnyH_take (i := 2) (oi := ?oi3) (v := ?v3) ?hi3 (by kernel_rfl) (by kernel_rfl) (by kernel_rfl) ?hQ3 (Or.inl ⟨?hw3, ?hy3⟩) (by assumption) ?hr3
      case hi3 => simp only [List.getElem?_toArray, List.getElem?_cons_succ, List.getElem?_cons_zero]; rfl
      case hQ3 => exact fun _ _ _ h => h
      case hw3 => rfl
      case hy3 => intro w hSw; (try dsimp only at hSw); go_simp; (try with_reducible rfl)
      case hr3 =>
      simp only [Act.put, List.setIfInBounds_toArray, List.set_cons_zero, List.set_cons_succ]
      refine wpAnyH_take (i := 3) (oi := ?oi4) (v := ?v4) ?hi4 (by kernel_rfl) (by kernel_rfl) (by kernel_rfl) ?hQ4 (Or.inl ⟨?hw4, ?hy4⟩) (by assumption) ?hr4
      case hi4 => simp only [List.getElem?_toArray, List.getElem?_cons_succ, List.getElem?_cons_zero]; rfl
      case hQ4 => exact fun _ _ _ h => h
      case hw4 => rfl
      case hy4 => intro w hSw; (try dsimp only at hSw); go_simp; (try with_reducible rfl)
      case hr4 =>
      simp only [Act.put, List.setIfInBounds_toArray, List.set_cons_zero, List.set_cons_succ]
      refine wpAnyH_take (i := 4) (oi := ?oi5) (v := ?v5) ?hi5 (by kernel_rfl) (by kernel_rfl) (by kernel_rfl) ?hQ5 (Or.inl ⟨?hw5, ?hy5⟩) (by assumption) ?hr5
      case hi5 => simp only [List.getElem?_toArray, List.getElem?_cons_succ, List.getElem?_cons_zero]; rfl
      case hQ5 => exact fun _ _ _ h => h
      case hw5 => rfl
      case hy5 => intro w hSw; (try dsimp only at hSw); go_simp; (try with_reducible rfl)
      case hr5 =>
      simp only [Act.put, List.setIfInBounds_toArray, List.set_cons_zero, List.set_cons_succ]
      refine wpAnyH_take (i := 5) (oi := ?oi6) (v := ?v6) ?hi6 (by kernel_rfl) (by kernel_rfl) (by kernel_rfl) ?hQ6 (Or.inl ⟨?hw6, ?hy6⟩) (by assumption) ?hr6
      case hi6 => simp only [List.getElem?_toArray, List.getElem?_cons_succ, List.getElem?_cons_zero]; rfl
      case hQ6 => exact fun _ _ _ h => h
      case hw6 => rfl
      case hy6 => intro w hSw; (try dsimp only at hSw); go_simp; (try with_reducible rfl)
      case hr6 =>
      simp only [Act.put, List.setIfInBounds_toArray, List.set_cons_zero, List.set_cons_succ]
      refine wpAnyH_take (i := 6) (oi := ?oi7) (v := ?v7) ?hi7 (by kernel_rfl) (by kernel_rfl) (by kernel_rfl) ?hQ7 (Or.inl ⟨?hw7, ?hy7⟩) (by assumption) ?hr7
      case hi7 => simp only [List.getElem?_toArray, List.getElem?_cons_succ, List.getElem?_cons_zero]; rfl
      case hQ7 => exact fun _ _ _ h => h
      case hw7 => rfl
      case hy7 => intro w hSw; (try dsimp only at hSw); go_simp; (try with_reducible rfl)
      case hr7 =>
      simp only [Act.put, List.setIfInBounds_toArray, List.set_cons_zero, List.set_cons_succ]
      refine wpAnyH_take (i := 7) (oi := ?oi8) (v := ?v8) ?hi8 (by kernel_rfl) (by kernel_rfl) (by kernel_rfl) ?hQ8 (Or.inl ⟨?hw8, ?hy8⟩) (by assumption) ?hr8
      case hi8 => simp only [List.getElem?_toArray, List.getElem?_cons_succ, List.getElem?_cons_zero]; rfl
      case hQ8 => exact fun _ _ _ h => h
      case hw8 => rfl
      case hy8 => intro w hSw; (try dsimp only at hSw); go_simp; (try with_reducible rfl)
      case hr8 =>
      simp only [Act.put, List.setIfInBounds_toArray, List.set_cons_zero, List.set_cons_succ]
      refine wpAnyH_take (i := 8) (oi := ?oi9) (v := ?v9) ?hi9 (by kernel_rfl) (by kernel_rfl) (by kernel_rfl) ?hQ9 (Or.inl ⟨?hw9, ?hy9⟩) (by assumption) ?hr9
      case hi9 => simp only [List.getElem?_toArray, List.getElem?_cons_succ, List.getElem?_cons_zero]; rfl
      case hQ9 => exact fun _ _ _ h => h
      case hw9 => rfl
      case hy9 => intro w hSw; (try dsimp only at hSw); go_simp; (try with_reducible rfl)
      case hr9 =>
      simp only [Act.put, List.setIfInBounds_toArray, List.set_cons_zero, List.set_cons_succ]
      refine wpAnyH_ready (rs := [9]) (by kernel_rfl) (by simp) (AllReadyH.cons (o := ?oc10) ?hc10 (fun K hK => ?hs10) AllReadyH.nil)
      case hc10 => simp only [List.getElem?_toArray, List.getElem?_cons_succ, List.getElem?_cons_zero]; rfl
      case hs10 =>
      rw [if_pos (by rfl)]
      go_simp
      go_at_call 77; refine (HX.out _).mono ?_; rintro e w2 ⟨rfl, hw2⟩; have HW2 := Lib.hid hw2; clear hw2
      go_wp2_with fail
      refine hK.out _ _ ?_ (fun hHeld => ?_)
      · exact HYC.out _ ((Chg.refl [] wr).drew.trans HW2.out)
      clear hK K
      try simp only [Act.put, List.setIfInBounds_toArray, List.set_cons_zero, List.set_cons_succ]
      refine wpAnyH_take (i := 10) (oi := ?oi11) (v := ?v11) ?hi11 (by kernel_rfl) (by kernel_rfl) (by kernel_rfl) ?hQ11 (Or.inl ⟨?hw11, ?hy11⟩) (by assumption) ?hr11
      case hi11 => simp only [List.getElem?_toArray, List.getElem?_cons_succ, List.getElem?_cons_zero]; rfl
      case hQ11 => exact fun _ _ _ h => h
      case hw11 => rfl
      case hy11 => intro w hSw; (try dsimp only at hSw); go_simp; (try with_reducible rfl)
      case hr11 =>
      simp only [Act.put, List.setIfInBounds_toArray, List.set_cons_zero, List.set_cons_succ]
      refine wpAnyH_done (by kernel_rfl) ?_ _
      go_wp2_with fail
      go_roundw
      case rel => exact ⟨hh, rfl, rfl, HHH.out.1, by have := HHH.out.2; have := HK.out.2.1; omega, HK.out.2.2.trans ((Chg.refl [] wr).drew.trans HW2.out)⟩
      case measure => have := HHH.out.2; simp [intOf]; omega
    · have hjm : j = m := by have := HK.out.1; omega
      subst hjm
      have hm1 : (j : Int) - 1 = (a : Int) := by omega
      go_wp2_with fail
      refine wp_loop_rounds 1 ?_
      rw [rounds_succ]
      go_wp2_with fail
      exact bodyPost_ret (v := .tuple #[]) (by simp [results, Tryz.results121, go_sem]) rfl ⟨rfl, HK.out.2.2⟩
set_option maxRecDepth 100000 in
set_option maxHeartbeats 16000000 in
theorem symOneR (w : World) (g n c : Nat) (L : List (ANode × Value)) (a m b : Nat) (h : SortedRow w g n c L) (hm : a + 1 < m) (hmb : b = m + 1) (hb : b ≤ n) :
    Calls Tryz.prog 121 #[.slice (some ⟨g, 0, none⟩) n c, .int .i64 a, .int .i64 m, .int .i64 b, .func (.func 77) #[] #[]] w fun e w' => e = .returned (.tuple #[]) ∧ Chg [] w w' := by
  have HS := Lib.hid h
  have hn := h.short
  have HB := Lib.hid (And.intro hm (And.intro hmb hb))
  have hbB : b ≤ 1000000 := by omega
  have haB : a ≤ 1000000 := by omega
  have hmB : m ≤ 1000000 := by omega
  have hma : ¬ (m : Int) - (a : Int) = 1 := by omega
  have hbm : (b : Int) - (m : Int) = 1 := by omega
  have hmab : ((m : Int) - (a : Int) == 1) = false := by simpa using hma
  clear h hm hmb hb hn
  go_enter Tryz.func121, Tryz.ntmps121
  go_wp2_with fail
  go_loopw [14, 15] (fun u v wr => ∃ i : Nat, u = .int .i64 i ∧ v = .int .i64 m ∧ a ≤ i ∧ i ≤ m ∧ Chg [] w wr) (fun u _ _ => m - (intOf u).toNat)
  case atStart => exact ⟨a, rfl, rfl, Nat.le_refl _, by have := HB.out.1; omega, Chg.refl _ _⟩
  case round =>
    obtain ⟨i, rfl, rfl, hai, him, hk⟩ := hrel
    have HK := Lib.hid (And.intro hai (And.intro him hk))
    have hiB : i ≤ 1000000 := by omega
    clear hai him hk
    by_cases hlt : i < m
    · obtain ⟨hh, hhe⟩ : ∃ x, x = (i + m) / 2 := ⟨_, rfl⟩
      have hhi : ((i : Int) + (m : Int)) / 2 = (hh : Int) := by omega
      have hhB : hh ≤ 1000000 := by omega
      have hhw : IntKind.i64.wrap (hh : Int) = (hh : Int) := IntWalk.i64_in _ (by omega)
      have HBB := Lib.hid (And.intro (show m < n by have := HB.out; omega) (And.intro (show hh < n by have := HB.out; omega) (show hh < m by omega)))
      have HHH := Lib.hid (And.intro (show i ≤ hh by omega) (show hh < m by omega))
      clear hhe
      obtain ⟨x, xa, xl, xc, hx, hxe⟩ := (HS.out.chg HK.out.2.2).at m (HBB.out.1)
      obtain ⟨y, ya, yl, yc, hy, hye⟩ := (HS.out.chg HK.out.2.2).at hh (HBB.out.2.1)
      have hxy : y.path < x.path := by rw [hxe, hye]; exact HS.out.asc hh m (by rw [HS.out.len]; exact HBB.out.2.1) (by rw [HS.out.len]; exact HBB.out.1) (HBB.out.2.2)
      have HX := Lib.hid (fun W => cmpNd x y xa ya xl xc yl yc W)
      rw [cmpS_gt hxy] at HX
      obtain ⟨x1, x2, x3, x4, x5, x6⟩ := x
      obtain ⟨y1, y2, y3, y4, y5, y6⟩ := y
      unfold ndV at HX
      have HYC := Lib.hid (fun W (kw : Chg [] wr W) => And.intro (hx.chg kw (by simp)) (hy.chg kw (by simp)))
      unfold NdAt at HYC
      simp only at HYC HX
      clear hxe hye hxy hx hy
      generalize ba x2 = x2 at *
      generalize ba y2 = y2 at *
      generalize ba x4 = x4 at *
      generalize ba y4 = y4 at *
      replace HYC := Lib.hid (fun W (kw : Chg [] wr W) => (show (fun q => q.cell? ⟨g, m * 6, none⟩ = some (.int .i64 x1) ∧ q.cell? ⟨g, m * 6 + 1, none⟩ = some (.string x2) ∧ q.cell? ⟨g, m * 6 + 2, none⟩ = some (.int .i64 x3) ∧ q.cell? ⟨g, m * 6 + 3, none⟩ = some (.string x4) ∧ q.cell? ⟨g, m * 6 + 4, none⟩ = some (.slice xa xl xc) ∧ q.cell? ⟨g, m * 6 + 5, none⟩ = some (.int .i64 x6) ∧ q.cell? ⟨g, hh * 6, none⟩ = some (.int .i64 y1) ∧ q.cell? ⟨g, hh * 6 + 1, none⟩ = some (.string y2) ∧ q.cell? ⟨g, hh * 6 + 2, none⟩ = some (.int .i64 y3) ∧ q.cell? ⟨g, hh * 6 + 3, none⟩ = some (.string y4) ∧ q.cell? ⟨g, hh * 6 + 4, none⟩ = some (.slice ya yl yc) ∧ q.cell? ⟨g, hh * 6 + 5, none⟩ = some (.int .i64 y6)) W from ⟨(HYC.out W kw).1.1, (HYC.out W kw).1.2.1, (HYC.out W kw).1.2.2.1, (HYC.out W kw).1.2.2.2.1, (HYC.out W kw).1.2.2.2.2.1, (HYC.out W kw).1.2.2.2.2.2, (HYC.out W kw).2.1, (HYC.out W kw).2.2.1, (HYC.out W kw).2.2.2.1, (HYC.out W kw).2.2.2.2.1, (HYC.out W kw).2.2.2.2.2.1, (HYC.out W kw).2.2.2.2.2.2⟩))
      have hhn := HBB.out.1
      have han := HBB.out.2.1
      go_upto_region 17 with (fail)
      refine wp_region_held_drew (S := fun q => q.cell? ⟨g, m * 6, none⟩ = some (.int .i64 x1) ∧ q.cell? ⟨g, m * 6 + 1, none⟩ = some (.string x2) ∧ q.cell? ⟨g, m * 6 + 2, none⟩ = some (.int .i64 x3) ∧ q.cell? ⟨g, m * 6 + 3, none⟩ = some (.string x4) ∧ q.cell? ⟨g, m * 6 + 4, none⟩ = some (.slice xa xl xc) ∧ q.cell? ⟨g, m * 6 + 5, none⟩ = some (.int .i64 x6) ∧ q.cell? ⟨g, hh * 6, none⟩ = some (.int .i64 y1) ∧ q.cell? ⟨g, hh * 6 + 1, none⟩ = some (.string y2) ∧ q.cell? ⟨g, hh * 6 + 2, none⟩ = some (.int .i64 y3) ∧ q.cell? ⟨g, hh * 6 + 3, none⟩ = some (.string y4) ∧ q.cell? ⟨g, hh * 6 + 4, none⟩ = some (.slice ya yl yc) ∧ q.cell? ⟨g, hh * 6 + 5, none⟩ = some (.int .i64 y6)) (by kernel_rfl) ?_ (fun hHeld => ?_)
      · exact HYC.out _ (Chg.refl [] wr).drew
      refine wpAnyH_take (i := 0) (oi := ?oi12) (v := ?v12) ?hi12 (by kernel_rfl) (by kernel_rfl) (by kernel_rfl) ?hQ12 (Or.inl ⟨?hw12, ?hy12⟩) (by assumption) ?hr12
      case hi12 => simp only [List.getElem?_toArray, List.getElem?_cons_zero]; rfl
      case hQ12 => exact fun _ _ _ h => h
      case hw12 => rfl
      case hy12 => intro w hSw; (try dsimp only at hSw); go_simp; (try with_reducible rfl)
      case hr12 =>
      simp only [Act.put, List.setIfInBounds_toArray, List.set_cons_zero, List.set_cons_succ]
      refine wpAnyH_take (i := 1) (oi := ?oi13) (v := ?v13) ?hi13 (by kernel_rfl) (by kernel_rfl) (by kernel_rfl) ?hQ13 (Or.inl ⟨?hw13, ?hy13⟩) (by assumption) ?hr13
      case hi13 => simp only [List.getElem?_toArray, List.getElem?_cons_succ, List.getElem?_cons_zero]; rfl
      case hQ13 => exact fun _ _ _ h => h
      case hw13 => rfl
      case hy13 => intro w hSw; (try dsimp only at hSw); go_simp; (try with_reducible rfl)
      case hr13 =>
      simp only [Act.put, List.setIfInBounds_toArray, List.set_cons_zero, List.set_cons_succ]
      refine wpAnyH_take (i := 2) (oi := ?oi14) (v := ?v14) ?hi14 (by kernel_rfl) (by kernel_rfl) (by kernel_rfl) ?hQ14 (Or.inl ⟨?hw14, ?hy14⟩) (by assumption) ?hr14
      case hi14 => simp only [List.getElem?_toArray, List.getElem?_cons_succ, List.getElem?_cons_zero]; rfl
      case hQ14 => exact fun _ _ _ h => h
      case hw14 => rfl
      case hy14 => intro w hSw; (try dsimp only at hSw); go_simp; (try with_reducible rfl)
      case hr14 =>
      simp only [Act.put, List.setIfInBounds_toArray, List.set_cons_zero, List.set_cons_succ]
      refine wpAnyH_take (i := 3) (oi := ?oi15) (v := ?v15) ?hi15 (by kernel_rfl) (by kernel_rfl) (by kernel_rfl) ?hQ15 (Or.inl ⟨?hw15, ?hy15⟩) (by assumption) ?hr15
      case hi15 => simp only [List.getElem?_toArray, List.getElem?_cons_succ, List.getElem?_cons_zero]; rfl
      case hQ15 => exact fun _ _ _ h => h
      case hw15 => rfl
      case hy15 => intro w hSw; (try dsimp only at hSw); go_simp; (try with_reducible rfl)
      case hr15 =>
      simp only [Act.put, List.setIfInBounds_toArray, List.set_cons_zero, List.set_cons_succ]
      refine wpAnyH_take (i := 4) (oi := ?oi16) (v := ?v16) ?hi16 (by kernel_rfl) (by kernel_rfl) (by kernel_rfl) ?hQ16 (Or.inl ⟨?hw16, ?hy16⟩) (by assumption) ?hr16
      case hi16 => simp only [List.getElem?_toArray, List.getElem?_cons_succ, List.getElem?_cons_zero]; rfl
      case hQ16 => exact fun _ _ _ h => h
      case hw16 => rfl
      case hy16 => intro w hSw; (try dsimp only at hSw); go_simp; (try with_reducible rfl)
      case hr16 =>
      simp only [Act.put, List.setIfInBounds_toArray, List.set_cons_zero, List.set_cons_succ]
      refine wpAnyH_take (i := 5) (oi := ?oi17) (v := ?v17) ?hi17 (by kernel_rfl) (by kernel_rfl) (by kernel_rfl) ?hQ17 (Or.inl ⟨?hw17, ?hy17⟩) (by assumption) ?hr17
      case hi17 => simp only [List.getElem?_toArray, List.getElem?_cons_succ, List.getElem?_cons_zero]; rfl
      case hQ17 => exact fun _ _ _ h => h
      case hw17 => rfl
      case hy17 => intro w hSw; (try dsimp only at hSw); go_simp; (try with_reducible rfl)
      case hr17 =>
      simp only [Act.put, List.setIfInBounds_toArray, List.set_cons_zero, List.set_cons_succ]
      refine wpAnyH_take (i := 6) (oi := ?oi18) (v := ?v18) ?hi18 (by kernel_rfl) (by kernel_rfl) (by kernel_rfl) ?hQ18 (Or.inl ⟨?hw18, ?hy18⟩) (by assumption) ?hr18
      case hi18 => simp only [List.getElem?_toArray, List.getElem?_cons_succ, List.getElem?_cons_zero]; rfl
      case hQ18 => exact fun _ _ _ h => h
      case hw18 => rfl
      case hy18 => intro w hSw; (try dsimp only at hSw); go_simp; (try with_reducible rfl)
      case hr18 =>
      simp only [Act.put, List.setIfInBounds_toArray, List.set_cons_zero, List.set_cons_succ]
      refine wpAnyH_take (i := 7) (oi := ?oi19) (v := ?v19) ?hi19 (by kernel_rfl) (by kernel_rfl) (by kernel_rfl) ?hQ19 (Or.inl ⟨?hw19, ?hy19⟩) (by assumption) ?hr19
      case hi19 => simp only [List.getElem?_toArray, List.getElem?_cons_succ, List.getElem?_cons_zero]; rfl
      case hQ19 => exact fun _ _ _ h => h
      case hw19 => rfl
      case hy19 => intro w hSw; (try dsimp only at hSw); go_simp; (try with_reducible rfl)
      case hr19 =>
      simp only [Act.put, List.setIfInBounds_toArray, List.set_cons_zero, List.set_cons_succ]
      refine wpAnyH_take (i := 8) (oi := ?oi20) (v := ?v20) ?hi20 (by kernel_rfl) (by kernel_rfl) (by kernel_rfl) ?hQ20 (Or.inl ⟨?hw20, ?hy20⟩) (by assumption) ?hr20
      case hi20 => simp only [List.getElem?_toArray, List.getElem?_cons_succ, List.getElem?_cons_zero]; rfl
      case hQ20 => exact fun _ _ _ h => h
      case hw20 => rfl
      case hy20 => intro w hSw; (try dsimp only at hSw); go_simp; (try with_reducible rfl)
      case hr20 =>
      simp only [Act.put, List.setIfInBounds_toArray, List.set_cons_zero, List.set_cons_succ]
      refine wpAnyH_ready (rs := [9]) (by kernel_rfl) (by simp) (AllReadyH.cons (o := ?oc21) ?hc21 (fun K hK => ?hs21) AllReadyH.nil)
      case hc21 => simp only [List.getElem?_toArray, List.getElem?_cons_succ, List.getElem?_cons_zero]; rfl
      case hs21 =>
      rw [if_pos (by rfl)]
      go_simp
      go_at_call 77; refine (HX.out _).mono ?_; rintro e w2 ⟨rfl, hw2⟩; have HW2 := Lib.hid hw2; clear hw2
      go_wp2_with fail
      refine hK.out _ _ ?_ (fun hHeld => ?_)
      · exact HYC.out _ ((Chg.refl [] wr).drew.trans HW2.out)
      clear hK K
      try simp only [Act.put, List.setIfInBounds_toArray, List.set_cons_zero, List.set_cons_succ]
      refine wpAnyH_take (i := 10) (oi := ?oi22) (v := ?v22) ?hi22 (by kernel_rfl) (by kernel_rfl) (by kernel_rfl) ?hQ22 (Or.inl ⟨?hw22, ?hy22⟩) (by assumption) ?hr22
      case hi22 => simp only [List.getElem?_toArray, List.getElem?_cons_succ, List.getElem?_cons_zero]; rfl
      case hQ22 => exact fun _ _ _ h => h
      case hw22 => rfl
      case hy22 => intro w hSw; (try dsimp only at hSw); go_simp; (try with_reducible rfl)
      case hr22 =>
      simp only [Act.put, List.setIfInBounds_toArray, List.set_cons_zero, List.set_cons_succ]
      refine wpAnyH_take (i := 11) (oi := ?oi23) (v := ?v23) ?hi23 (by kernel_rfl) (by kernel_rfl) (by kernel_rfl) ?hQ23 (Or.inl ⟨?hw23, ?hy23⟩) (by assumption) ?hr23
      case hi23 => simp only [List.getElem?_toArray, List.getElem?_cons_succ, List.getElem?_cons_zero]; rfl
      case hQ23 => exact fun _ _ _ h => h
      case hw23 => rfl
      case hy23 => intro w hSw; (try dsimp only at hSw); go_simp; (try with_reducible rfl)
      case hr23 =>
      simp only [Act.put, List.setIfInBounds_toArray, List.set_cons_zero, List.set_cons_succ]
      refine wpAnyH_done (by kernel_rfl) ?_ _
      go_wp2_with fail
      go_roundw
      case rel => exact ⟨hh + 1, by go_num, rfl, by have := HHH.out.1; have := HK.out.1; omega, by have := HHH.out.2; omega, HK.out.2.2.trans ((Chg.refl [] wr).drew.trans HW2.out)⟩
      case measure => have := HHH.out; simp [intOf]; omega
    · have hjm : i = m := by have := HK.out.2.1; omega
      subst hjm
      go_wp2_with fail
      refine wp_loop_rounds 1 ?_
      rw [rounds_succ]
      go_wp2_with fail
      exact bodyPost_ret (v := .tuple #[]) (by simp [results, Tryz.results121, go_sem]) rfl ⟨rfl, HK.out.2.2⟩
set_option maxRecDepth 100000 in
set_option maxHeartbeats 16000000 in
theorem symGenA (w : World) (g n c : Nat) (L : List (ANode × Value)) (a m b mid : Nat) (h : SortedRow w g n c L) (hm : a + 1 < m) (hmb : m + 1 < b) (hb : b ≤ n) (hmid : mid = (a + b) / 2) (hcond : mid < m)
    (hrec : ∀ W, Chg [] w W → Calls Tryz.prog 121 #[.slice (some ⟨g, 0, none⟩) n c, .int .i64 mid, .int .i64 m, .int .i64 b, .func (.func 77) #[] #[]] W fun e W' => e = .returned (.tuple #[]) ∧ Chg [] W W') :
    Calls Tryz.prog 121 #[.slice (some ⟨g, 0, none⟩) n c, .int .i64 a, .int .i64 m, .int .i64 b, .func (.func 77) #[] #[]] w fun e w' => e = .returned (.tuple #[]) ∧ Chg [] w w' := by
  have HS := Lib.hid h
  have hn := h.short
  have HR := Lib.hid hrec
  have hbB : b ≤ 1000000 := by omega
  have haB : a ≤ 1000000 := by omega
  have hmB : m ≤ 1000000 := by omega
  have hma : ¬ (m : Int) - (a : Int) = 1 := by omega
  have hbm : ¬ (b : Int) - (m : Int) = 1 := by omega
  have hmab : ((m : Int) - (a : Int) == 1) = false := by simpa using hma
  have hbmb : ((b : Int) - (m : Int) == 1) = false := by simpa using hbm
  have hmi : ((a : Int) + (b : Int)) / 2 = (mid : Int) := by omega
  have hmidB : mid ≤ 1000000 := by omega
  obtain ⟨nn, hnn⟩ : ∃ x, x = mid + m := ⟨_, rfl⟩
  have hni : (mid : Int) + (m : Int) = (nn : Int) := by omega
  have hnB : nn ≤ 2000000 := by omega
  obtain ⟨p, hp⟩ : ∃ x, x = nn - 1 := ⟨_, rfl⟩
  have hpi : (nn : Int) - 1 = (p : Int) := by omega
  have hpB : p ≤ 2000000 := by omega
  obtain ⟨s0, hs0⟩ : ∃ x, x = nn - b := ⟨_, rfl⟩
  have hsi : (nn : Int) - (b : Int) = (s0 : Int) := by omega
  have hs0B : s0 ≤ 1000000 := by omega
  have hlt0 : (m : Int) > (mid : Int) := by omega
  have HS0 := Lib.hid (And.intro hs0 (show s0 ≤ mid by omega))
  clear hs0
  have HB := Lib.hid (And.intro hm (And.intro hmb (And.intro hb (And.intro hmid (And.intro hnn (And.intro hp hcond))))))
  clear h hm hmb hb hn hrec hmid hnn hp hcond
  go_enter Tryz.func121, Tryz.ntmps121
  go_wp2_with fail
  go_loopw [20, 21] (fun u v wr => ∃ st : Nat, u = .int .i64 st ∧ v = .int .i64 mid ∧ s0 ≤ st ∧ st ≤ mid ∧ Chg [] w wr) (fun u _ _ => mid - (intOf u).toNat)
  case atStart => exact ⟨s0, rfl, rfl, Nat.le_refl _, by have := HB.out; omega, Chg.refl _ _⟩
  case round =>
    obtain ⟨st, rfl, rfl, hs1, hs2, hk⟩ := hrel
    have HK := Lib.hid (And.intro (And.intro hs1 hs2) hk)
    have hsB : st ≤ 1000000 := by omega
    clear hs1 hs2 hk
    by_cases hlt : st < mid
    · obtain ⟨cc, hcc⟩ : ∃ x, x = (st + mid) / 2 := ⟨_, rfl⟩
      have hci : ((st : Int) + (mid : Int)) / 2 = (cc : Int) := by omega
      have hcB : cc ≤ 1000000 := by omega
      have hcw : IntKind.i64.wrap (cc : Int) = (cc : Int) := IntWalk.i64_in _ (by omega)
      obtain ⟨pc, hpc⟩ : ∃ x, x = p - cc := ⟨_, rfl⟩
      have hpci : (p : Int) - (cc : Int) = (pc : Int) := by have := HB.out; have := HK.out.1; omega
      have hpcB : pc ≤ 2000000 := by omega
      have hpcw : IntKind.i64.wrap (pc : Int) = (pc : Int) := IntWalk.i64_in _ (by omega)
      have HBB := Lib.hid (And.intro (show pc < n by have := HB.out; have := HK.out.1; omega) (And.intro (show cc < n by have := HB.out; omega) (show cc < pc by have := HB.out; have := HK.out.1; omega)))
      have HHH := Lib.hid (And.intro (show st ≤ cc by omega) (show cc < mid by omega))
      clear hcc hpc
      obtain ⟨x, xa, xl, xc, hx, hxe⟩ := (HS.out.chg HK.out.2).at pc (HBB.out.1)
      obtain ⟨y, ya, yl, yc, hy, hye⟩ := (HS.out.chg HK.out.2).at cc (HBB.out.2.1)
      have hxy : y.path < x.path := by rw [hxe, hye]; exact HS.out.asc cc pc (by rw [HS.out.len]; exact HBB.out.2.1) (by rw [HS.out.len]; exact HBB.out.1) (HBB.out.2.2)
      have HX := Lib.hid (fun W => cmpNd x y xa ya xl xc yl yc W)
      rw [cmpS_gt hxy] at HX
      obtain ⟨x1, x2, x3, x4, x5, x6⟩ := x
      obtain ⟨y1, y2, y3, y4, y5, y6⟩ := y
      unfold ndV at HX
      have HYC := Lib.hid (fun W (kw : Chg [] wr W) => And.intro (hx.chg kw (by simp)) (hy.chg kw (by simp)))
      unfold NdAt at HYC
      simp only at HYC HX
      clear hxe hye hxy hx hy
      generalize ba x2 = x2 at *
      generalize ba y2 = y2 at *
      generalize ba x4 = x4 at *
      generalize ba y4 = y4 at *
      replace HYC := Lib.hid (fun W (kw : Chg [] wr W) => (show (fun q => q.cell? ⟨g, pc * 6, none⟩ = some (.int .i64 x1) ∧ q.cell? ⟨g, pc * 6 + 1, none⟩ = some (.string x2) ∧ q.cell? ⟨g, pc * 6 + 2, none⟩ = some (.int .i64 x3) ∧ q.cell? ⟨g, pc * 6 + 3, none⟩ = some (.string x4) ∧ q.cell? ⟨g, pc * 6 + 4, none⟩ = some (.slice xa xl xc) ∧ q.cell? ⟨g, pc * 6 + 5, none⟩ = some (.int .i64 x6) ∧ q.cell? ⟨g, cc * 6, none⟩ = some (.int .i64 y1) ∧ q.cell? ⟨g, cc * 6 + 1, none⟩ = some (.string y2) ∧ q.cell? ⟨g, cc * 6 + 2, none⟩ = some (.int .i64 y3) ∧ q.cell? ⟨g, cc * 6 + 3, none⟩ = some (.string y4) ∧ q.cell? ⟨g, cc * 6 + 4, none⟩ = some (.slice ya yl yc) ∧ q.cell? ⟨g, cc * 6 + 5, none⟩ = some (.int .i64 y6)) W from ⟨(HYC.out W kw).1.1, (HYC.out W kw).1.2.1, (HYC.out W kw).1.2.2.1, (HYC.out W kw).1.2.2.2.1, (HYC.out W kw).1.2.2.2.2.1, (HYC.out W kw).1.2.2.2.2.2, (HYC.out W kw).2.1, (HYC.out W kw).2.2.1, (HYC.out W kw).2.2.2.1, (HYC.out W kw).2.2.2.2.1, (HYC.out W kw).2.2.2.2.2.1, (HYC.out W kw).2.2.2.2.2.2⟩))
      have hhn := HBB.out.1
      have han := HBB.out.2.1
      go_upto_region 35 with (fail)
      refine wp_region_held_drew (S := fun q => q.cell? ⟨g, pc * 6, none⟩ = some (.int .i64 x1) ∧ q.cell? ⟨g, pc * 6 + 1, none⟩ = some (.string x2) ∧ q.cell? ⟨g, pc * 6 + 2, none⟩ = some (.int .i64 x3) ∧ q.cell? ⟨g, pc * 6 + 3, none⟩ = some (.string x4) ∧ q.cell? ⟨g, pc * 6 + 4, none⟩ = some (.slice xa xl xc) ∧ q.cell? ⟨g, pc * 6 + 5, none⟩ = some (.int .i64 x6) ∧ q.cell? ⟨g, cc * 6, none⟩ = some (.int .i64 y1) ∧ q.cell? ⟨g, cc * 6 + 1, none⟩ = some (.string y2) ∧ q.cell? ⟨g, cc * 6 + 2, none⟩ = some (.int .i64 y3) ∧ q.cell? ⟨g, cc * 6 + 3, none⟩ = some (.string y4) ∧ q.cell? ⟨g, cc * 6 + 4, none⟩ = some (.slice ya yl yc) ∧ q.cell? ⟨g, cc * 6 + 5, none⟩ = some (.int .i64 y6)) (by kernel_rfl) ?_ (fun hHeld => ?_)
      · exact HYC.out _ (Chg.refl [] wr).drew
      refine wpAnyH_take (i := 0) (oi := ?oi24) (v := ?v24) ?hi24 (by kernel_rfl) (by kernel_rfl) (by kernel_rfl) ?hQ24 (Or.inl ⟨?hw24, ?hy24⟩) (by assumption) ?hr24
      case hi24 => simp only [List.getElem?_toArray, List.getElem?_cons_zero]; rfl
      case hQ24 => exact fun _ _ _ h => h
      case hw24 => rfl
      case hy24 => intro w hSw; (try dsimp only at hSw); go_simp; (try with_reducible rfl)
      case hr24 =>
      simp only [Act.put, List.setIfInBounds_toArray, List.set_cons_zero, List.set_cons_succ]
      refine wpAnyH_take (i := 1) (oi := ?oi25) (v := ?v25) ?hi25 (by kernel_rfl) (by kernel_rfl) (by kernel_rfl) ?hQ25 (Or.inl ⟨?hw25, ?hy25⟩) (by assumption) ?hr25
      case hi25 => simp only [List.getElem?_toArray, List.getElem?_cons_succ, List.getElem?_cons_zero]; rfl
      case hQ25 => exact fun _ _ _ h => h
      case hw25 => rfl
      case hy25 => intro w hSw; (try dsimp only at hSw); go_simp; (try with_reducible rfl)
      case hr25 =>
      simp only [Act.put, List.setIfInBounds_toArray, List.set_cons_zero, List.set_cons_succ]
      refine wpAnyH_take (i := 2) (oi := ?oi26) (v := ?v26) ?hi26 (by kernel_rfl) (by kernel_rfl) (by kernel_rfl) ?hQ26 (Or.inl ⟨?hw26, ?hy26⟩) (by assumption) ?hr26
      case hi26 => simp only [List.getElem?_toArray, List.getElem?_cons_succ, List.getElem?_cons_zero]; rfl
      case hQ26 => exact fun _ _ _ h => h
      case hw26 => rfl
      case hy26 => intro w hSw; (try dsimp only at hSw); go_simp; (try with_reducible rfl)
      case hr26 =>
      simp only [Act.put, List.setIfInBounds_toArray, List.set_cons_zero, List.set_cons_succ]
      refine wpAnyH_take (i := 3) (oi := ?oi27) (v := ?v27) ?hi27 (by kernel_rfl) (by kernel_rfl) (by kernel_rfl) ?hQ27 (Or.inl ⟨?hw27, ?hy27⟩) (by assumption) ?hr27
      case hi27 => simp only [List.getElem?_toArray, List.getElem?_cons_succ, List.getElem?_cons_zero]; rfl
      case hQ27 => exact fun _ _ _ h => h
      case hw27 => rfl
      case hy27 => intro w hSw; (try dsimp only at hSw); go_simp; (try with_reducible rfl)
      case hr27 =>
      simp only [Act.put, List.setIfInBounds_toArray, List.set_cons_zero, List.set_cons_succ]
      refine wpAnyH_take (i := 4) (oi := ?oi28) (v := ?v28) ?hi28 (by kernel_rfl) (by kernel_rfl) (by kernel_rfl) ?hQ28 (Or.inl ⟨?hw28, ?hy28⟩) (by assumption) ?hr28
      case hi28 => simp only [List.getElem?_toArray, List.getElem?_cons_succ, List.getElem?_cons_zero]; rfl
      case hQ28 => exact fun _ _ _ h => h
      case hw28 => rfl
      case hy28 => intro w hSw; (try dsimp only at hSw); go_simp; (try with_reducible rfl)
      case hr28 =>
      simp only [Act.put, List.setIfInBounds_toArray, List.set_cons_zero, List.set_cons_succ]
      refine wpAnyH_take (i := 5) (oi := ?oi29) (v := ?v29) ?hi29 (by kernel_rfl) (by kernel_rfl) (by kernel_rfl) ?hQ29 (Or.inl ⟨?hw29, ?hy29⟩) (by assumption) ?hr29
      case hi29 => simp only [List.getElem?_toArray, List.getElem?_cons_succ, List.getElem?_cons_zero]; rfl
      case hQ29 => exact fun _ _ _ h => h
      case hw29 => rfl
      case hy29 => intro w hSw; (try dsimp only at hSw); go_simp; (try with_reducible rfl)
      case hr29 =>
      simp only [Act.put, List.setIfInBounds_toArray, List.set_cons_zero, List.set_cons_succ]
      refine wpAnyH_take (i := 6) (oi := ?oi30) (v := ?v30) ?hi30 (by kernel_rfl) (by kernel_rfl) (by kernel_rfl) ?hQ30 (Or.inl ⟨?hw30, ?hy30⟩) (by assumption) ?hr30
      case hi30 => simp only [List.getElem?_toArray, List.getElem?_cons_succ, List.getElem?_cons_zero]; rfl
      case hQ30 => exact fun _ _ _ h => h
      case hw30 => rfl
      case hy30 => intro w hSw; (try dsimp only at hSw); go_simp; (try with_reducible rfl)
      case hr30 =>
      simp only [Act.put, List.setIfInBounds_toArray, List.set_cons_zero, List.set_cons_succ]
      refine wpAnyH_take (i := 7) (oi := ?oi31) (v := ?v31) ?hi31 (by kernel_rfl) (by kernel_rfl) (by kernel_rfl) ?hQ31 (Or.inl ⟨?hw31, ?hy31⟩) (by assumption) ?hr31
      case hi31 => simp only [List.getElem?_toArray, List.getElem?_cons_succ, List.getElem?_cons_zero]; rfl
      case hQ31 => exact fun _ _ _ h => h
      case hw31 => rfl
      case hy31 => intro w hSw; (try dsimp only at hSw); go_simp; (try with_reducible rfl)
      case hr31 =>
      simp only [Act.put, List.setIfInBounds_toArray, List.set_cons_zero, List.set_cons_succ]
      refine wpAnyH_take (i := 8) (oi := ?oi32) (v := ?v32) ?hi32 (by kernel_rfl) (by kernel_rfl) (by kernel_rfl) ?hQ32 (Or.inl ⟨?hw32, ?hy32⟩) (by assumption) ?hr32
      case hi32 => simp only [List.getElem?_toArray, List.getElem?_cons_succ, List.getElem?_cons_zero]; rfl
      case hQ32 => exact fun _ _ _ h => h
      case hw32 => rfl
      case hy32 => intro w hSw; (try dsimp only at hSw); go_simp; (try with_reducible rfl)
      case hr32 =>
      simp only [Act.put, List.setIfInBounds_toArray, List.set_cons_zero, List.set_cons_succ]
      refine wpAnyH_take (i := 9) (oi := ?oi33) (v := ?v33) ?hi33 (by kernel_rfl) (by kernel_rfl) (by kernel_rfl) ?hQ33 (Or.inl ⟨?hw33, ?hy33⟩) (by assumption) ?hr33
      case hi33 => simp only [List.getElem?_toArray, List.getElem?_cons_succ, List.getElem?_cons_zero]; rfl
      case hQ33 => exact fun _ _ _ h => h
      case hw33 => rfl
      case hy33 => intro w hSw; (try dsimp only at hSw); go_simp; (try with_reducible rfl)
      case hr33 =>
      simp only [Act.put, List.setIfInBounds_toArray, List.set_cons_zero, List.set_cons_succ]
      refine wpAnyH_take (i := 10) (oi := ?oi34) (v := ?v34) ?hi34 (by kernel_rfl) (by kernel_rfl) (by kernel_rfl) ?hQ34 (Or.inl ⟨?hw34, ?hy34⟩) (by assumption) ?hr34
      case hi34 => simp only [List.getElem?_toArray, List.getElem?_cons_succ, List.getElem?_cons_zero]; rfl
      case hQ34 => exact fun _ _ _ h => h
      case hw34 => rfl
      case hy34 => intro w hSw; (try dsimp only at hSw); go_simp; (try with_reducible rfl)
      case hr34 =>
      simp only [Act.put, List.setIfInBounds_toArray, List.set_cons_zero, List.set_cons_succ]
      refine wpAnyH_ready (rs := [11]) (by kernel_rfl) (by simp) (AllReadyH.cons (o := ?oc35) ?hc35 (fun K hK => ?hs35) AllReadyH.nil)
      case hc35 => simp only [List.getElem?_toArray, List.getElem?_cons_succ, List.getElem?_cons_zero]; rfl
      case hs35 =>
      rw [if_pos (by rfl)]
      go_simp
      go_at_call 77; refine (HX.out _).mono ?_; rintro e w2 ⟨rfl, hw2⟩; have HW2 := Lib.hid hw2; clear hw2
      go_wp2_with fail
      refine hK.out _ _ ?_ (fun hHeld => ?_)
      · exact HYC.out _ ((Chg.refl [] wr).drew.trans HW2.out)
      clear hK K
      try simp only [Act.put, List.setIfInBounds_toArray, List.set_cons_zero, List.set_cons_succ]
      refine wpAnyH_take (i := 12) (oi := ?oi36) (v := ?v36) ?hi36 (by kernel_rfl) (by kernel_rfl) (by kernel_rfl) ?hQ36 (Or.inl ⟨?hw36, ?hy36⟩) (by assumption) ?hr36
      case hi36 => simp only [List.getElem?_toArray, List.getElem?_cons_succ, List.getElem?_cons_zero]; rfl
      case hQ36 => exact fun _ _ _ h => h
      case hw36 => rfl
      case hy36 => intro w hSw; (try dsimp only at hSw); go_simp; (try with_reducible rfl)
      case hr36 =>
      simp only [Act.put, List.setIfInBounds_toArray, List.set_cons_zero, List.set_cons_succ]
      refine wpAnyH_take (i := 13) (oi := ?oi37) (v := ?v37) ?hi37 (by kernel_rfl) (by kernel_rfl) (by kernel_rfl) ?hQ37 (Or.inl ⟨?hw37, ?hy37⟩) (by assumption) ?hr37
      case hi37 => simp only [List.getElem?_toArray, List.getElem?_cons_succ, List.getElem?_cons_zero]; rfl
      case hQ37 => exact fun _ _ _ h => h
      case hw37 => rfl
      case hy37 => intro w hSw; (try dsimp only at hSw); go_simp; (try with_reducible rfl)
      case hr37 =>
      simp only [Act.put, List.setIfInBounds_toArray, List.set_cons_zero, List.set_cons_succ]
      refine wpAnyH_done (by kernel_rfl) ?_ _
      go_wp2_with fail
      go_roundw
      case rel => exact ⟨cc + 1, by go_num, rfl, by have := HHH.out.1; have := HK.out.1; omega, by have := HHH.out.2; omega, HK.out.2.trans ((Chg.refl [] wr).drew.trans HW2.out)⟩
      case measure => have := HHH.out; simp [intOf]; omega
    · have hjm : st = mid := by have := HK.out.1; omega
      subst hjm
      have hei : (nn : Int) - (st : Int) = (m : Int) := by have := HB.out; omega
      have hx1 : (st : Int) < (m : Int) := by have := HB.out; omega
      have hx2 : (m : Int) < (b : Int) := by have := HB.out; omega
      go_wp2_with (go_at_call 121; refine (HR.out _ HK.out.2).mono ?_; rintro e w3 ⟨rfl, hw3⟩; have HW3 := Lib.hid hw3; clear hw3)
      go_end0
      exact ⟨rfl, HK.out.2.trans HW3.out⟩
set_option maxRecDepth 100000 in
set_option maxHeartbeats 16000000 in
theorem symGenB (w : World) (g n c : Nat) (L : List (ANode × Value)) (a m b mid : Nat) (h : SortedRow w g n c L) (hm : a + 1 < m) (hmb : m + 1 < b) (hb : b ≤ n) (hmid : mid = (a + b) / 2) (hcond : m ≤ mid)
    (hrec : m < mid → ∀ W, Chg [] w W → Calls Tryz.prog 121 #[.slice (some ⟨g, 0, none⟩) n c, .int .i64 a, .int .i64 m, .int .i64 mid, .func (.func 77) #[] #[]] W fun e W' => e = .returned (.tuple #[]) ∧ Chg [] W W') :
    Calls Tryz.prog 121 #[.slice (some ⟨g, 0, none⟩) n c, .int .i64 a, .int .i64 m, .int .i64 b, .func (.func 77) #[] #[]] w fun e w' => e = .returned (.tuple #[]) ∧ Chg [] w w' := by
  have HS := Lib.hid h
  have hn := h.short
  have HR := Lib.hid hrec
  have hbB : b ≤ 1000000 := by omega
  have haB : a ≤ 1000000 := by omega
  have hmB : m ≤ 1000000 := by omega
  have hma : ¬ (m : Int) - (a : Int) = 1 := by omega
  have hbm : ¬ (b : Int) - (m : Int) = 1 := by omega
  have hmab : ((m : Int) - (a : Int) == 1) = false := by simpa using hma
  have hbmb : ((b : Int) - (m : Int) == 1) = false := by simpa using hbm
  have hmi : ((a : Int) + (b : Int)) / 2 = (mid : Int) := by omega
  have hmidB : mid ≤ 1000000 := by omega
  obtain ⟨nn, hnn⟩ : ∃ x, x = mid + m := ⟨_, rfl⟩
  have hni : (mid : Int) + (m : Int) = (nn : Int) := by omega
  have hnB : nn ≤ 2000000 := by omega
  obtain ⟨p, hp⟩ : ∃ x, x = nn - 1 := ⟨_, rfl⟩
  have hpi : (nn : Int) - 1 = (p : Int) := by omega
  have hpB : p ≤ 2000000 := by omega
  have hlt0 : ¬ (m : Int) > (mid : Int) := by omega
  have HB := Lib.hid (And.intro hm (And.intro hmb (And.intro hb (And.intro hmid (And.intro hnn (And.intro hp hcond))))))
  clear h hm hmb hb hn hrec hmid hnn hp hcond
  go_enter Tryz.func121, Tryz.ntmps121
  go_wp2_with fail
  go_loopw [20, 21] (fun u v wr => ∃ st : Nat, u = .int .i64 st ∧ v = .int .i64 m ∧ a ≤ st ∧ st ≤ m ∧ Chg [] w wr) (fun u _ _ => m - (intOf u).toNat)
  case atStart => exact ⟨a, rfl, rfl, Nat.le_refl _, by have := HB.out; omega, Chg.refl _ _⟩
  case round =>
    obtain ⟨st, rfl, rfl, hs1, hs2, hk⟩ := hrel
    have HK := Lib.hid (And.intro (And.intro hs1 hs2) hk)
    have hsB : st ≤ 1000000 := by omega
    clear hs1 hs2 hk
    by_cases hlt : st < m
    · obtain ⟨cc, hcc⟩ : ∃ x, x = (st + m) / 2 := ⟨_, rfl⟩
      have hci : ((st : Int) + (m : Int)) / 2 = (cc : Int) := by omega
      have hcB : cc ≤ 1000000 := by omega
      have hcw : IntKind.i64.wrap (cc : Int) = (cc : Int) := IntWalk.i64_in _ (by omega)
      obtain ⟨pc, hpc⟩ : ∃ x, x = p - cc := ⟨_, rfl⟩
      have hpci : (p : Int) - (cc : Int) = (pc : Int) := by have := HB.out; have := HK.out.1; omega
      have hpcB : pc ≤ 2000000 := by omega
      have hpcw : IntKind.i64.wrap (pc : Int) = (pc : Int) := IntWalk.i64_in _ (by omega)
      have HBB := Lib.hid (And.intro (show pc < n by have := HB.out; have := HK.out.1; omega) (And.intro (show cc < n by have := HB.out; omega) (show cc < pc by have := HB.out; have := HK.out.1; omega)))
      have HHH := Lib.hid (And.intro (show st ≤ cc by omega) (show cc < m by omega))
      clear hcc hpc
      obtain ⟨x, xa, xl, xc, hx, hxe⟩ := (HS.out.chg HK.out.2).at pc (HBB.out.1)
      obtain ⟨y, ya, yl, yc, hy, hye⟩ := (HS.out.chg HK.out.2).at cc (HBB.out.2.1)
      have hxy : y.path < x.path := by rw [hxe, hye]; exact HS.out.asc cc pc (by rw [HS.out.len]; exact HBB.out.2.1) (by rw [HS.out.len]; exact HBB.out.1) (HBB.out.2.2)
      have HX := Lib.hid (fun W => cmpNd x y xa ya xl xc yl yc W)
      rw [cmpS_gt hxy] at HX
      obtain ⟨x1, x2, x3, x4, x5, x6⟩ := x
      obtain ⟨y1, y2, y3, y4, y5, y6⟩ := y
      unfold ndV at HX
      have HYC := Lib.hid (fun W (kw : Chg [] wr W) => And.intro (hx.chg kw (by simp)) (hy.chg kw (by simp)))
      unfold NdAt at HYC
      simp only at HYC HX
      clear hxe hye hxy hx hy
      generalize ba x2 = x2 at *
      generalize ba y2 = y2 at *
      generalize ba x4 = x4 at *
      generalize ba y4 = y4 at *
      replace HYC := Lib.hid (fun W (kw : Chg [] wr W) => (show (fun q => q.cell? ⟨g, pc * 6, none⟩ = some (.int .i64 x1) ∧ q.cell? ⟨g, pc * 6 + 1, none⟩ = some (.string x2) ∧ q.cell? ⟨g, pc * 6 + 2, none⟩ = some (.int .i64 x3) ∧ q.cell? ⟨g, pc * 6 + 3, none⟩ = some (.string x4) ∧ q.cell? ⟨g, pc * 6 + 4, none⟩ = some (.slice xa xl xc) ∧ q.cell? ⟨g, pc * 6 + 5, none⟩ = some (.int .i64 x6) ∧ q.cell? ⟨g, cc * 6, none⟩ = some (.int .i64 y1) ∧ q.cell? ⟨g, cc * 6 + 1, none⟩ = some (.string y2) ∧ q.cell? ⟨g, cc * 6 + 2, none⟩ = some (.int .i64 y3) ∧ q.cell? ⟨g, cc * 6 + 3, none⟩ = some (.string y4) ∧ q.cell? ⟨g, cc * 6 + 4, none⟩ = some (.slice ya yl yc) ∧ q.cell? ⟨g, cc * 6 + 5, none⟩ = some (.int .i64 y6)) W from ⟨(HYC.out W kw).1.1, (HYC.out W kw).1.2.1, (HYC.out W kw).1.2.2.1, (HYC.out W kw).1.2.2.2.1, (HYC.out W kw).1.2.2.2.2.1, (HYC.out W kw).1.2.2.2.2.2, (HYC.out W kw).2.1, (HYC.out W kw).2.2.1, (HYC.out W kw).2.2.2.1, (HYC.out W kw).2.2.2.2.1, (HYC.out W kw).2.2.2.2.2.1, (HYC.out W kw).2.2.2.2.2.2⟩))
      have hhn := HBB.out.1
      have han := HBB.out.2.1
      go_upto_region 35 with (fail)
      refine wp_region_held_drew (S := fun q => q.cell? ⟨g, pc * 6, none⟩ = some (.int .i64 x1) ∧ q.cell? ⟨g, pc * 6 + 1, none⟩ = some (.string x2) ∧ q.cell? ⟨g, pc * 6 + 2, none⟩ = some (.int .i64 x3) ∧ q.cell? ⟨g, pc * 6 + 3, none⟩ = some (.string x4) ∧ q.cell? ⟨g, pc * 6 + 4, none⟩ = some (.slice xa xl xc) ∧ q.cell? ⟨g, pc * 6 + 5, none⟩ = some (.int .i64 x6) ∧ q.cell? ⟨g, cc * 6, none⟩ = some (.int .i64 y1) ∧ q.cell? ⟨g, cc * 6 + 1, none⟩ = some (.string y2) ∧ q.cell? ⟨g, cc * 6 + 2, none⟩ = some (.int .i64 y3) ∧ q.cell? ⟨g, cc * 6 + 3, none⟩ = some (.string y4) ∧ q.cell? ⟨g, cc * 6 + 4, none⟩ = some (.slice ya yl yc) ∧ q.cell? ⟨g, cc * 6 + 5, none⟩ = some (.int .i64 y6)) (by kernel_rfl) ?_ (fun hHeld => ?_)
      · exact HYC.out _ (Chg.refl [] wr).drew
      refine wpAnyH_take (i := 0) (oi := ?oi24) (v := ?v24) ?hi24 (by kernel_rfl) (by kernel_rfl) (by kernel_rfl) ?hQ24 (Or.inl ⟨?hw24, ?hy24⟩) (by assumption) ?hr24
      case hi24 => simp only [List.getElem?_toArray, List.getElem?_cons_zero]; rfl
      case hQ24 => exact fun _ _ _ h => h
      case hw24 => rfl
      case hy24 => intro w hSw; (try dsimp only at hSw); go_simp; (try with_reducible rfl)
      case hr24 =>
      simp only [Act.put, List.setIfInBounds_toArray, List.set_cons_zero, List.set_cons_succ]
      refine wpAnyH_take (i := 1) (oi := ?oi25) (v := ?v25) ?hi25 (by kernel_rfl) (by kernel_rfl) (by kernel_rfl) ?hQ25 (Or.inl ⟨?hw25, ?hy25⟩) (by assumption) ?hr25
      case hi25 => simp only [List.getElem?_toArray, List.getElem?_cons_succ, List.getElem?_cons_zero]; rfl
      case hQ25 => exact fun _ _ _ h => h
      case hw25 => rfl
      case hy25 => intro w hSw; (try dsimp only at hSw); go_simp; (try with_reducible rfl)
      case hr25 =>
      simp only [Act.put, List.setIfInBounds_toArray, List.set_cons_zero, List.set_cons_succ]
      refine wpAnyH_take (i := 2) (oi := ?oi26) (v := ?v26) ?hi26 (by kernel_rfl) (by kernel_rfl) (by kernel_rfl) ?hQ26 (Or.inl ⟨?hw26, ?hy26⟩) (by assumption) ?hr26
      case hi26 => simp only [List.getElem?_toArray, List.getElem?_cons_succ, List.getElem?_cons_zero]; rfl
      case hQ26 => exact fun _ _ _ h => h
      case hw26 => rfl
      case hy26 => intro w hSw; (try dsimp only at hSw); go_simp; (try with_reducible rfl)
      case hr26 =>
      simp only [Act.put, List.setIfInBounds_toArray, List.set_cons_zero, List.set_cons_succ]
      refine wpAnyH_take (i := 3) (oi := ?oi27) (v := ?v27) ?hi27 (by kernel_rfl) (by kernel_rfl) (by kernel_rfl) ?hQ27 (Or.inl ⟨?hw27, ?hy27⟩) (by assumption) ?hr27
      case hi27 => simp only [List.getElem?_toArray, List.getElem?_cons_succ, List.getElem?_cons_zero]; rfl
      case hQ27 => exact fun _ _ _ h => h
      case hw27 => rfl
      case hy27 => intro w hSw; (try dsimp only at hSw); go_simp; (try with_reducible rfl)
      case hr27 =>
      simp only [Act.put, List.setIfInBounds_toArray, List.set_cons_zero, List.set_cons_succ]
      refine wpAnyH_take (i := 4) (oi := ?oi28) (v := ?v28) ?hi28 (by kernel_rfl) (by kernel_rfl) (by kernel_rfl) ?hQ28 (Or.inl ⟨?hw28, ?hy28⟩) (by assumption) ?hr28
      case hi28 => simp only [List.getElem?_toArray, List.getElem?_cons_succ, List.getElem?_cons_zero]; rfl
      case hQ28 => exact fun _ _ _ h => h
      case hw28 => rfl
      case hy28 => intro w hSw; (try dsimp only at hSw); go_simp; (try with_reducible rfl)
      case hr28 =>
      simp only [Act.put, List.setIfInBounds_toArray, List.set_cons_zero, List.set_cons_succ]
      refine wpAnyH_take (i := 5) (oi := ?oi29) (v := ?v29) ?hi29 (by kernel_rfl) (by kernel_rfl) (by kernel_rfl) ?hQ29 (Or.inl ⟨?hw29, ?hy29⟩) (by assumption) ?hr29
      case hi29 => simp only [List.getElem?_toArray, List.getElem?_cons_succ, List.getElem?_cons_zero]; rfl
      case hQ29 => exact fun _ _ _ h => h
      case hw29 => rfl
      case hy29 => intro w hSw; (try dsimp only at hSw); go_simp; (try with_reducible rfl)
      case hr29 =>
      simp only [Act.put, List.setIfInBounds_toArray, List.set_cons_zero, List.set_cons_succ]
      refine wpAnyH_take (i := 6) (oi := ?oi30) (v := ?v30) ?hi30 (by kernel_rfl) (by kernel_rfl) (by kernel_rfl) ?hQ30 (Or.inl ⟨?hw30, ?hy30⟩) (by assumption) ?hr30
      case hi30 => simp only [List.getElem?_toArray, List.getElem?_cons_succ, List.getElem?_cons_zero]; rfl
      case hQ30 => exact fun _ _ _ h => h
      case hw30 => rfl
      case hy30 => intro w hSw; (try dsimp only at hSw); go_simp; (try with_reducible rfl)
      case hr30 =>
      simp only [Act.put, List.setIfInBounds_toArray, List.set_cons_zero, List.set_cons_succ]
      refine wpAnyH_take (i := 7) (oi := ?oi31) (v := ?v31) ?hi31 (by kernel_rfl) (by kernel_rfl) (by kernel_rfl) ?hQ31 (Or.inl ⟨?hw31, ?hy31⟩) (by assumption) ?hr31
      case hi31 => simp only [List.getElem?_toArray, List.getElem?_cons_succ, List.getElem?_cons_zero]; rfl
      case hQ31 => exact fun _ _ _ h => h
      case hw31 => rfl
      case hy31 => intro w hSw; (try dsimp only at hSw); go_simp; (try with_reducible rfl)
      case hr31 =>
      simp only [Act.put, List.setIfInBounds_toArray, List.set_cons_zero, List.set_cons_succ]
      refine wpAnyH_take (i := 8) (oi := ?oi32) (v := ?v32) ?hi32 (by kernel_rfl) (by kernel_rfl) (by kernel_rfl) ?hQ32 (Or.inl ⟨?hw32, ?hy32⟩) (by assumption) ?hr32
      case hi32 => simp only [List.getElem?_toArray, List.getElem?_cons_succ, List.getElem?_cons_zero]; rfl
      case hQ32 => exact fun _ _ _ h => h
      case hw32 => rfl
      case hy32 => intro w hSw; (try dsimp only at hSw); go_simp; (try with_reducible rfl)
      case hr32 =>
      simp only [Act.put, List.setIfInBounds_toArray, List.set_cons_zero, List.set_cons_succ]
      refine wpAnyH_take (i := 9) (oi := ?oi33) (v := ?v33) ?hi33 (by kernel_rfl) (by kernel_rfl) (by kernel_rfl) ?hQ33 (Or.inl ⟨?hw33, ?hy33⟩) (by assumption) ?hr33
      case hi33 => simp only [List.getElem?_toArray, List.getElem?_cons_succ, List.getElem?_cons_zero]; rfl
      case hQ33 => exact fun _ _ _ h => h
      case hw33 => rfl
      case hy33 => intro w hSw; (try dsimp only at hSw); go_simp; (try with_reducible rfl)
      case hr33 =>
      simp only [Act.put, List.setIfInBounds_toArray, List.set_cons_zero, List.set_cons_succ]
      refine wpAnyH_take (i := 10) (oi := ?oi34) (v := ?v34) ?hi34 (by kernel_rfl) (by kernel_rfl) (by kernel_rfl) ?hQ34 (Or.inl ⟨?hw34, ?hy34⟩) (by assumption) ?hr34
      case hi34 => simp only [List.getElem?_toArray, List.getElem?_cons_succ, List.getElem?_cons_zero]; rfl
      case hQ34 => exact fun _ _ _ h => h
      case hw34 => rfl
      case hy34 => intro w hSw; (try dsimp only at hSw); go_simp; (try with_reducible rfl)
      case hr34 =>
      simp only [Act.put, List.setIfInBounds_toArray, List.set_cons_zero, List.set_cons_succ]
      refine wpAnyH_ready (rs := [11]) (by kernel_rfl) (by simp) (AllReadyH.cons (o := ?oc35) ?hc35 (fun K hK => ?hs35) AllReadyH.nil)
      case hc35 => simp only [List.getElem?_toArray, List.getElem?_cons_succ, List.getElem?_cons_zero]; rfl
      case hs35 =>
      rw [if_pos (by rfl)]
      go_simp
      go_at_call 77; refine (HX.out _).mono ?_; rintro e w2 ⟨rfl, hw2⟩; have HW2 := Lib.hid hw2; clear hw2
      go_wp2_with fail
      refine hK.out _ _ ?_ (fun hHeld => ?_)
      · exact HYC.out _ ((Chg.refl [] wr).drew.trans HW2.out)
      clear hK K
      try simp only [Act.put, List.setIfInBounds_toArray, List.set_cons_zero, List.set_cons_succ]
      refine wpAnyH_take (i := 12) (oi := ?oi36) (v := ?v36) ?hi36 (by kernel_rfl) (by kernel_rfl) (by kernel_rfl) ?hQ36 (Or.inl ⟨?hw36, ?hy36⟩) (by assumption) ?hr36
      case hi36 => simp only [List.getElem?_toArray, List.getElem?_cons_succ, List.getElem?_cons_zero]; rfl
      case hQ36 => exact fun _ _ _ h => h
      case hw36 => rfl
      case hy36 => intro w hSw; (try dsimp only at hSw); go_simp; (try with_reducible rfl)
      case hr36 =>
      simp only [Act.put, List.setIfInBounds_toArray, List.set_cons_zero, List.set_cons_succ]
      refine wpAnyH_take (i := 13) (oi := ?oi37) (v := ?v37) ?hi37 (by kernel_rfl) (by kernel_rfl) (by kernel_rfl) ?hQ37 (Or.inl ⟨?hw37, ?hy37⟩) (by assumption) ?hr37
      case hi37 => simp only [List.getElem?_toArray, List.getElem?_cons_succ, List.getElem?_cons_zero]; rfl
      case hQ37 => exact fun _ _ _ h => h
      case hw37 => rfl
      case hy37 => intro w hSw; (try dsimp only at hSw); go_simp; (try with_reducible rfl)
      case hr37 =>
      simp only [Act.put, List.setIfInBounds_toArray, List.set_cons_zero, List.set_cons_succ]
      refine wpAnyH_done (by kernel_rfl) ?_ _
      go_wp2_with fail
      go_roundw
      case rel => exact ⟨cc + 1, by go_num, rfl, by have := HHH.out.1; have := HK.out.1; omega, by have := HHH.out.2; omega, HK.out.2.trans ((Chg.refl [] wr).drew.trans HW2.out)⟩
      case measure => have := HHH.out; simp [intOf]; omega
    · have hjm : st = m := by have := HK.out.1; omega
      subst hjm
      have hei : (nn : Int) - (st : Int) = (mid : Int) := by have := HB.out; omega
      have hx1 : (a : Int) < (st : Int) := by have := HB.out; omega
      by_cases hrm : st < mid
      · have HR2 := Lib.hid (HR.out hrm)
        clear HR
        have hx2 : (st : Int) < (mid : Int) := by omega
        go_wp2_with (go_at_call 121; refine (HR2.out _ HK.out.2).mono ?_; rintro e w3 ⟨rfl, hw3⟩; have HW3 := Lib.hid hw3; clear hw3)
        go_end0
        exact ⟨rfl, HK.out.2.trans HW3.out⟩
      · have hx2 : ¬ (st : Int) < (mid : Int) := by omega
        go_wp2_with fail
        go_end0
        exact ⟨rfl, HK.out.2⟩
theorem symSorted (g n c : Nat) (L : List (ANode × Value)) : ∀ (s : Nat) (w : World) (a m b : Nat), SortedRow w g n c L → a < m → m < b → b ≤ n → b - a ≤ s →
    Calls Tryz.prog 121 #[.slice (some ⟨g, 0, none⟩) n c, .int .i64 a, .int .i64 m, .int .i64 b, .func (.func 77) #[] #[]] w fun e w' => e = .returned (.tuple #[]) ∧ Chg [] w w' := by
  intro s
  induction s with
  | zero => intro w a m b _ h1 h2 _ h4; omega
  | succ s ih =>
    intro w a m b h h1 h2 h3 h4
    by_cases e1 : m = a + 1
    · exact symOneL w g n c L a m b h e1 h2 h3
    · by_cases e2 : b = m + 1
      · exact symOneR w g n c L a m b h (by omega) e2 h3
      · by_cases e3 : (a + b) / 2 < m
        · exact symGenA w g n c L a m b _ h (by omega) (by omega) h3 rfl e3 (fun W k => ih W _ _ _ (h.chg k) e3 h2 h3 (by omega))
        · exact symGenB w g n c L a m b _ h (by omega) (by omega) h3 rfl (by omega) (fun hlt W k => ih W _ _ _ (h.chg k) h1 hlt (by omega) (by omega))
end Go.Proofs.YtfhiioopimmahaaGreatDoor
