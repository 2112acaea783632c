/- slices.symMergeCmpFunc at a row of nodes. Printed by wip/gen/genssym.py. -/
import Derived.Test.YtfhiioopimmahaaGreatDoorPO18
namespace Go.Proofs.YtfhiioopimmahaaGreatDoor
open Go.RowKit Go.Pax Go.Shelf
set_option maxRecDepth 100000 in
set_option maxHeartbeats 16000000 in
theorem symL (w : World) (g n c : Nat) (L : List (ANode × Value)) (a m b : Nat) (h : NRow w g n c L) (hm : m = a + 1) (hmb : m < b) (hb : b ≤ n) (hs : Asc nkey L m b) :
    Calls Tryz.prog 121 #[.slice (some ⟨g, 0, none⟩) n c, .int .i64 a, .int .i64 m, .int .i64 b, .func (.func 77) #[] #[]] w fun e w' => e = .returned (.tuple #[]) ∧ SortedTo w w' g n c L a b := by
  have HS := Lib.hid h
  have hnB : n ≤ 1000000 := h.short
  have hlen := h.len
  have HA := Lib.hid (And.intro hs (show L.length = n from hlen))
  have HB := Lib.hid (And.intro hm (And.intro hmb hb))
  have hbB : b ≤ 1000000 := by omega
  have haB : a ≤ 1000000 := by omega
  have hmB : m ≤ 1000000 := by omega
  have hma : (m : Int) - (a : Int) = 1 := by omega
  have hmab : ((m : Int) - (a : Int) == 1) = true := by simpa using hma
  have haL : a < L.length := by omega
  have HAL := Lib.hid haL
  clear h hm hmb hb hs hlen haL
  go_enter Tryz.func121, Tryz.ntmps121
  go_wp2_with fail
  go_loopw [10, 11, 12] (fun u v _ wr => ∃ i j : Nat, u = .int .i64 i ∧ v = .int .i64 j ∧ m ≤ i ∧ i ≤ j ∧ j ≤ b ∧ (m < i → ∀ h1 : i - 1 < L.length, ∀ h2 : a < L.length, nkey L[i - 1] < nkey L[a]) ∧ (j < b → ∀ h1 : j < L.length, ∀ h2 : a < L.length, ¬ nkey L[j] < nkey L[a]) ∧ Chg [] w wr) (fun u v _ _ => (intOf v).toNat - (intOf u).toNat)
  case atStart => exact ⟨m, b, rfl, rfl, Nat.le_refl _, by have := HB.out; omega, Nat.le_refl _, fun h => by omega, fun h => by omega, Chg.refl _ _⟩
  case round =>
    obtain ⟨i, j, rfl, rfl, hmi, hij, hjb, hlo, hhi, hk⟩ := hrel
    have HK := Lib.hid (And.intro hmi (And.intro hij (And.intro hjb (And.intro hlo (And.intro hhi hk)))))
    have hiB : i ≤ 1000000 := by omega
    have hjB : j ≤ 1000000 := by omega
    clear hmi hij hjb hlo hhi hk
    by_cases hlt : i < j
    · obtain ⟨hh, hhe⟩ : ∃ x, x = (i + j) / 2 := ⟨_, rfl⟩
      have hhi : ((i : Int) + (j : Int)) / 2 = (hh : Int) := by omega
      have hhB : hh ≤ 1000000 := by omega
      have hhw : IntKind.i64.wrap (hh : Int) = (hh : Int) := IntWalk.i64_in _ (by omega)
      have hhn : hh < n := by have := HB.out; have := HK.out.2.2.1; omega
      have han : a < n := by have := HB.out; omega
      have HHH := Lib.hid (And.intro (show i ≤ hh by omega) (show hh < j by omega))
      clear hhe
      obtain ⟨x, xa, xl, xc, y, ya, yl, yc, hx, hy, hxe, hye, hcmp⟩ := (HS.out.chg HK.out.2.2.2.2.2 (by simp)).pair hhn han
      have hiL : hh < L.length := by rw [HA.out.2]; assumption
      have hjL : a < L.length := by rw [HA.out.2]; assumption
      have hkx := key_of hxe hiL
      have hky := key_of hye hjL
      simp only at hkx hky
      have HX := Lib.hid hcmp
      have hlc : cmpS x.path y.path < 0 ↔ nkey L[hh] < nkey L[a] := by rw [hkx, hky]; exact cmpS_lt
      have HLC := Lib.hid hlc
      clear hcmp hkx hky hxe hye hlc
      generalize cmpS x.path y.path = cv at *
      obtain ⟨x1, x2, x3, x4, x5, x6⟩ := x
      obtain ⟨y1, y2, y3, y4, y5, y6⟩ := y
      unfold ndV at HX
      unfold NdAt at hx hy
      simp only at hx hy HX
      generalize ba x2 = x2 at *
      generalize ba y2 = y2 at *
      generalize ba x4 = x4 at *
      generalize ba y4 = y4 at *
      have HYC := Lib.hid (fun W (kw : Chg [] wr W) => (show (fun v => v.cell? ⟨g, hh * 6, none⟩ = some (.int .i64 x1) ∧ v.cell? ⟨g, hh * 6 + 1, none⟩ = some (.string x2) ∧ v.cell? ⟨g, hh * 6 + 2, none⟩ = some (.int .i64 x3) ∧ v.cell? ⟨g, hh * 6 + 3, none⟩ = some (.string x4) ∧ v.cell? ⟨g, hh * 6 + 4, none⟩ = some (.slice xa xl xc) ∧ v.cell? ⟨g, hh * 6 + 5, none⟩ = some (.int .i64 x6) ∧ v.cell? ⟨g, a * 6, none⟩ = some (.int .i64 y1) ∧ v.cell? ⟨g, a * 6 + 1, none⟩ = some (.string y2) ∧ v.cell? ⟨g, a * 6 + 2, none⟩ = some (.int .i64 y3) ∧ v.cell? ⟨g, a * 6 + 3, none⟩ = some (.string y4) ∧ v.cell? ⟨g, a * 6 + 4, none⟩ = some (.slice ya yl yc) ∧ v.cell? ⟨g, a * 6 + 5, none⟩ = some (.int .i64 y6)) W from ⟨kw.cell hx.1 (by simp), kw.cell hx.2.1 (by simp), kw.cell hx.2.2.1 (by simp), kw.cell hx.2.2.2.1 (by simp), kw.cell hx.2.2.2.2.1 (by simp), kw.cell hx.2.2.2.2.2 (by simp), kw.cell hy.1 (by simp), kw.cell hy.2.1 (by simp), kw.cell hy.2.2.1 (by simp), kw.cell hy.2.2.2.1 (by simp), kw.cell hy.2.2.2.2.1 (by simp), kw.cell hy.2.2.2.2.2 (by simp)⟩))
      clear hx hy
      by_cases hcv : cv < 0
      · have hcd : decide (cv < 0) = true := decide_eq_true hcv
        go_upto_region 5 with (fail)
        refine wp_region_held_drew (S := fun v => v.cell? ⟨g, hh * 6, none⟩ = some (.int .i64 x1) ∧ v.cell? ⟨g, hh * 6 + 1, none⟩ = some (.string x2) ∧ v.cell? ⟨g, hh * 6 + 2, none⟩ = some (.int .i64 x3) ∧ v.cell? ⟨g, hh * 6 + 3, none⟩ = some (.string x4) ∧ v.cell? ⟨g, hh * 6 + 4, none⟩ = some (.slice xa xl xc) ∧ v.cell? ⟨g, hh * 6 + 5, none⟩ = some (.int .i64 x6) ∧ v.cell? ⟨g, a * 6, none⟩ = some (.int .i64 y1) ∧ v.cell? ⟨g, a * 6 + 1, none⟩ = some (.string y2) ∧ v.cell? ⟨g, a * 6 + 2, none⟩ = some (.int .i64 y3) ∧ v.cell? ⟨g, a * 6 + 3, none⟩ = some (.string y4) ∧ v.cell? ⟨g, a * 6 + 4, none⟩ = some (.slice ya yl yc) ∧ v.cell? ⟨g, a * 6 + 5, none⟩ = some (.int .i64 y6)) (by kernel_rfl) ?_ (fun hHeld => ?_)
        · exact HYC.out _ (Chg.refl [] wr).drew
        refine wpAnyH_take (i := 0) (oi := ?oi1) (v := ?v1) ?hi1 (by kernel_rfl) (by kernel_rfl) (by kernel_rfl) ?hQ1 (Or.inl ⟨?hw1, ?hy1⟩) (by assumption) ?hr1
        case hi1 => simp only [List.getElem?_toArray, List.getElem?_cons_zero]; rfl
        case hQ1 => exact fun _ _ _ h => h
        case hw1 => rfl
        case hy1 => intro w hSw; (try dsimp only at hSw); go_simp; (try with_reducible rfl)
        case hr1 =>
        simp only [Act.put, List.setIfInBounds_toArray, List.set_cons_zero, List.set_cons_succ]
        refine wpAnyH_take (i := 1) (oi := ?oi2) (v := ?v2) ?hi2 (by kernel_rfl) (by kernel_rfl) (by kernel_rfl) ?hQ2 (Or.inl ⟨?hw2, ?hy2⟩) (by assumption) ?hr2
        case hi2 => simp only [List.getElem?_toArray, List.getElem?_cons_succ, List.getElem?_cons_zero]; rfl
        case hQ2 => exact fun _ _ _ h => h
        case hw2 => rfl
        case hy2 => intro w hSw; (try dsimp only at hSw); go_simp; (try with_reducible rfl)
        case hr2 =>
        simp only [Act.put, List.setIfInBounds_toArray, List.set_cons_zero, List.set_cons_succ]
        refine wpAnyH_take (i := 2) (oi := ?oi3) (v := ?v3) ?hi3 (by kernel_rfl) (by kernel_rfl) (by kernel_rfl) ?hQ3 (Or.inl ⟨?hw3, ?hy3⟩) (by assumption) ?hr3
        case hi3 => simp only [List.getElem?_toArray, List.getElem?_cons_succ, List.getElem?_cons_zero]; rfl
        case hQ3 => exact fun _ _ _ h => h
        case hw3 => rfl
        case hy3 => intro w hSw; (try dsimp only at hSw); go_simp; (try with_reducible rfl)
        case hr3 =>
        simp only [Act.put, List.setIfInBounds_toArray, List.set_cons_zero, List.set_cons_succ]
        refine wpAnyH_take (i := 3) (oi := ?oi4) (v := ?v4) ?hi4 (by kernel_rfl) (by kernel_rfl) (by kernel_rfl) ?hQ4 (Or.inl ⟨?hw4, ?hy4⟩) (by assumption) ?hr4
        case hi4 => simp only [List.getElem?_toArray, List.getElem?_cons_succ, List.getElem?_cons_zero]; rfl
        case hQ4 => exact fun _ _ _ h => h
        case hw4 => rfl
        case hy4 => intro w hSw; (try dsimp only at hSw); go_simp; (try with_reducible rfl)
        case hr4 =>
        simp only [Act.put, List.setIfInBounds_toArray, List.set_cons_zero, List.set_cons_succ]
        refine wpAnyH_take (i := 4) (oi := ?oi5) (v := ?v5) ?hi5 (by kernel_rfl) (by kernel_rfl) (by kernel_rfl) ?hQ5 (Or.inl ⟨?hw5, ?hy5⟩) (by assumption) ?hr5
        case hi5 => simp only [List.getElem?_toArray, List.getElem?_cons_succ, List.getElem?_cons_zero]; rfl
        case hQ5 => exact fun _ _ _ h => h
        case hw5 => rfl
        case hy5 => intro w hSw; (try dsimp only at hSw); go_simp; (try with_reducible rfl)
        case hr5 =>
        simp only [Act.put, List.setIfInBounds_toArray, List.set_cons_zero, List.set_cons_succ]
        refine wpAnyH_take (i := 5) (oi := ?oi6) (v := ?v6) ?hi6 (by kernel_rfl) (by kernel_rfl) (by kernel_rfl) ?hQ6 (Or.inl ⟨?hw6, ?hy6⟩) (by assumption) ?hr6
        case hi6 => simp only [List.getElem?_toArray, List.getElem?_cons_succ, List.getElem?_cons_zero]; rfl
        case hQ6 => exact fun _ _ _ h => h
        case hw6 => rfl
        case hy6 => intro w hSw; (try dsimp only at hSw); go_simp; (try with_reducible rfl)
        case hr6 =>
        simp only [Act.put, List.setIfInBounds_toArray, List.set_cons_zero, List.set_cons_succ]
        refine wpAnyH_take (i := 6) (oi := ?oi7) (v := ?v7) ?hi7 (by kernel_rfl) (by kernel_rfl) (by kernel_rfl) ?hQ7 (Or.inl ⟨?hw7, ?hy7⟩) (by assumption) ?hr7
        case hi7 => simp only [List.getElem?_toArray, List.getElem?_cons_succ, List.getElem?_cons_zero]; rfl
        case hQ7 => exact fun _ _ _ h => h
        case hw7 => rfl
        case hy7 => intro w hSw; (try dsimp only at hSw); go_simp; (try with_reducible rfl)
        case hr7 =>
        simp only [Act.put, List.setIfInBounds_toArray, List.set_cons_zero, List.set_cons_succ]
        refine wpAnyH_take (i := 7) (oi := ?oi8) (v := ?v8) ?hi8 (by kernel_rfl) (by kernel_rfl) (by kernel_rfl) ?hQ8 (Or.inl ⟨?hw8, ?hy8⟩) (by assumption) ?hr8
        case hi8 => simp only [List.getElem?_toArray, List.getElem?_cons_succ, List.getElem?_cons_zero]; rfl
        case hQ8 => exact fun _ _ _ h => h
        case hw8 => rfl
        case hy8 => intro w hSw; (try dsimp only at hSw); go_simp; (try with_reducible rfl)
        case hr8 =>
        simp only [Act.put, List.setIfInBounds_toArray, List.set_cons_zero, List.set_cons_succ]
        refine wpAnyH_take (i := 8) (oi := ?oi9) (v := ?v9) ?hi9 (by kernel_rfl) (by kernel_rfl) (by kernel_rfl) ?hQ9 (Or.inl ⟨?hw9, ?hy9⟩) (by assumption) ?hr9
        case hi9 => simp only [List.getElem?_toArray, List.getElem?_cons_succ, List.getElem?_cons_zero]; rfl
        case hQ9 => exact fun _ _ _ h => h
        case hw9 => rfl
        case hy9 => intro w hSw; (try dsimp only at hSw); go_simp; (try with_reducible rfl)
        case hr9 =>
        simp only [Act.put, List.setIfInBounds_toArray, List.set_cons_zero, List.set_cons_succ]
        refine wpAnyH_ready (rs := [9]) (by kernel_rfl) (by simp) (AllReadyH.cons (o := ?oc10) ?hc10 (fun K hK => ?hs10) AllReadyH.nil)
        case hc10 => simp only [List.getElem?_toArray, List.getElem?_cons_succ, List.getElem?_cons_zero]; rfl
        case hs10 =>
        rw [if_pos (by rfl)]
        go_simp
        go_at_call 77; refine (HX.out _).mono ?_; rintro e w2 ⟨rfl, hw2⟩; have HW2 := Lib.hid hw2; clear hw2
        go_wp2_with fail
        refine hK.out _ _ ?_ (fun hHeld => ?_)
        · exact HYC.out _ ((Chg.refl [] wr).drew.trans HW2.out)
        clear hK K
        try simp only [Act.put, List.setIfInBounds_toArray, List.set_cons_zero, List.set_cons_succ]
        refine wpAnyH_take (i := 10) (oi := ?oi11) (v := ?v11) ?hi11 (by kernel_rfl) (by kernel_rfl) (by kernel_rfl) ?hQ11 (Or.inl ⟨?hw11, ?hy11⟩) (by assumption) ?hr11
        case hi11 => simp only [List.getElem?_toArray, List.getElem?_cons_succ, List.getElem?_cons_zero]; rfl
        case hQ11 => exact fun _ _ _ h => h
        case hw11 => rfl
        case hy11 => intro w hSw; (try dsimp only at hSw); go_simp; (try with_reducible rfl)
        case hr11 =>
        simp only [Act.put, List.setIfInBounds_toArray, List.set_cons_zero, List.set_cons_succ]
        refine wpAnyH_done (by kernel_rfl) ?_ _
        go_wp2_with fail
        go_roundw
        case rel => exact ⟨hh + 1, j, by go_num, rfl, by have := HHH.out; have := HK.out; omega, by have := HHH.out; omega, HK.out.2.2.1, fun _ h1 h2 => HLC.out.1 hcv, HK.out.2.2.2.2.1, HK.out.2.2.2.2.2.trans ((Chg.refl [] wr).drew.trans HW2.out)⟩
        case measure => have := HHH.out; simp [intOf]; omega
      · have hcd : decide (cv < 0) = false := decide_eq_false hcv
        go_upto_region 5 with (fail)
        refine wp_region_held_drew (S := fun v => v.cell? ⟨g, hh * 6, none⟩ = some (.int .i64 x1) ∧ v.cell? ⟨g, hh * 6 + 1, none⟩ = some (.string x2) ∧ v.cell? ⟨g, hh * 6 + 2, none⟩ = some (.int .i64 x3) ∧ v.cell? ⟨g, hh * 6 + 3, none⟩ = some (.string x4) ∧ v.cell? ⟨g, hh * 6 + 4, none⟩ = some (.slice xa xl xc) ∧ v.cell? ⟨g, hh * 6 + 5, none⟩ = some (.int .i64 x6) ∧ v.cell? ⟨g, a * 6, none⟩ = some (.int .i64 y1) ∧ v.cell? ⟨g, a * 6 + 1, none⟩ = some (.string y2) ∧ v.cell? ⟨g, a * 6 + 2, none⟩ = some (.int .i64 y3) ∧ v.cell? ⟨g, a * 6 + 3, none⟩ = some (.string y4) ∧ v.cell? ⟨g, a * 6 + 4, none⟩ = some (.slice ya yl yc) ∧ v.cell? ⟨g, a * 6 + 5, none⟩ = some (.int .i64 y6)) (by kernel_rfl) ?_ (fun hHeld => ?_)
        · exact HYC.out _ (Chg.refl [] wr).drew
        refine wpAnyH_take (i := 0) (oi := ?oi12) (v := ?v12) ?hi12 (by kernel_rfl) (by kernel_rfl) (by kernel_rfl) ?hQ12 (Or.inl ⟨?hw12, ?hy12⟩) (by assumption) ?hr12
        case hi12 => simp only [List.getElem?_toArray, List.getElem?_cons_zero]; rfl
        case hQ12 => exact fun _ _ _ h => h
        case hw12 => rfl
        case hy12 => intro w hSw; (try dsimp only at hSw); go_simp; (try with_reducible rfl)
        case hr12 =>
        simp only [Act.put, List.setIfInBounds_toArray, List.set_cons_zero, List.set_cons_succ]
        refine wpAnyH_take (i := 1) (oi := ?oi13) (v := ?v13) ?hi13 (by kernel_rfl) (by kernel_rfl) (by kernel_rfl) ?hQ13 (Or.inl ⟨?hw13, ?hy13⟩) (by assumption) ?hr13
        case hi13 => simp only [List.getElem?_toArray, List.getElem?_cons_succ, List.getElem?_cons_zero]; rfl
        case hQ13 => exact fun _ _ _ h => h
        case hw13 => rfl
        case hy13 => intro w hSw; (try dsimp only at hSw); go_simp; (try with_reducible rfl)
        case hr13 =>
        simp only [Act.put, List.setIfInBounds_toArray, List.set_cons_zero, List.set_cons_succ]
        refine wpAnyH_take (i := 2) (oi := ?oi14) (v := ?v14) ?hi14 (by kernel_rfl) (by kernel_rfl) (by kernel_rfl) ?hQ14 (Or.inl ⟨?hw14, ?hy14⟩) (by assumption) ?hr14
        case hi14 => simp only [List.getElem?_toArray, List.getElem?_cons_succ, List.getElem?_cons_zero]; rfl
        case hQ14 => exact fun _ _ _ h => h
        case hw14 => rfl
        case hy14 => intro w hSw; (try dsimp only at hSw); go_simp; (try with_reducible rfl)
        case hr14 =>
        simp only [Act.put, List.setIfInBounds_toArray, List.set_cons_zero, List.set_cons_succ]
        refine wpAnyH_take (i := 3) (oi := ?oi15) (v := ?v15) ?hi15 (by kernel_rfl) (by kernel_rfl) (by kernel_rfl) ?hQ15 (Or.inl ⟨?hw15, ?hy15⟩) (by assumption) ?hr15
        case hi15 => simp only [List.getElem?_toArray, List.getElem?_cons_succ, List.getElem?_cons_zero]; rfl
        case hQ15 => exact fun _ _ _ h => h
        case hw15 => rfl
        case hy15 => intro w hSw; (try dsimp only at hSw); go_simp; (try with_reducible rfl)
        case hr15 =>
        simp only [Act.put, List.setIfInBounds_toArray, List.set_cons_zero, List.set_cons_succ]
        refine wpAnyH_take (i := 4) (oi := ?oi16) (v := ?v16) ?hi16 (by kernel_rfl) (by kernel_rfl) (by kernel_rfl) ?hQ16 (Or.inl ⟨?hw16, ?hy16⟩) (by assumption) ?hr16
        case hi16 => simp only [List.getElem?_toArray, List.getElem?_cons_succ, List.getElem?_cons_zero]; rfl
        case hQ16 => exact fun _ _ _ h => h
        case hw16 => rfl
        case hy16 => intro w hSw; (try dsimp only at hSw); go_simp; (try with_reducible rfl)
        case hr16 =>
        simp only [Act.put, List.setIfInBounds_toArray, List.set_cons_zero, List.set_cons_succ]
        refine wpAnyH_take (i := 5) (oi := ?oi17) (v := ?v17) ?hi17 (by kernel_rfl) (by kernel_rfl) (by kernel_rfl) ?hQ17 (Or.inl ⟨?hw17, ?hy17⟩) (by assumption) ?hr17
        case hi17 => simp only [List.getElem?_toArray, List.getElem?_cons_succ, List.getElem?_cons_zero]; rfl
        case hQ17 => exact fun _ _ _ h => h
        case hw17 => rfl
        case hy17 => intro w hSw; (try dsimp only at hSw); go_simp; (try with_reducible rfl)
        case hr17 =>
        simp only [Act.put, List.setIfInBounds_toArray, List.set_cons_zero, List.set_cons_succ]
        refine wpAnyH_take (i := 6) (oi := ?oi18) (v := ?v18) ?hi18 (by kernel_rfl) (by kernel_rfl) (by kernel_rfl) ?hQ18 (Or.inl ⟨?hw18, ?hy18⟩) (by assumption) ?hr18
        case hi18 => simp only [List.getElem?_toArray, List.getElem?_cons_succ, List.getElem?_cons_zero]; rfl
        case hQ18 => exact fun _ _ _ h => h
        case hw18 => rfl
        case hy18 => intro w hSw; (try dsimp only at hSw); go_simp; (try with_reducible rfl)
        case hr18 =>
        simp only [Act.put, List.setIfInBounds_toArray, List.set_cons_zero, List.set_cons_succ]
        refine wpAnyH_take (i := 7) (oi := ?oi19) (v := ?v19) ?hi19 (by kernel_rfl) (by kernel_rfl) (by kernel_rfl) ?hQ19 (Or.inl ⟨?hw19, ?hy19⟩) (by assumption) ?hr19
        case hi19 => simp only [List.getElem?_toArray, List.getElem?_cons_succ, List.getElem?_cons_zero]; rfl
        case hQ19 => exact fun _ _ _ h => h
        case hw19 => rfl
        case hy19 => intro w hSw; (try dsimp only at hSw); go_simp; (try with_reducible rfl)
        case hr19 =>
        simp only [Act.put, List.setIfInBounds_toArray, List.set_cons_zero, List.set_cons_succ]
        refine wpAnyH_take (i := 8) (oi := ?oi20) (v := ?v20) ?hi20 (by kernel_rfl) (by kernel_rfl) (by kernel_rfl) ?hQ20 (Or.inl ⟨?hw20, ?hy20⟩) (by assumption) ?hr20
        case hi20 => simp only [List.getElem?_toArray, List.getElem?_cons_succ, List.getElem?_cons_zero]; rfl
        case hQ20 => exact fun _ _ _ h => h
        case hw20 => rfl
        case hy20 => intro w hSw; (try dsimp only at hSw); go_simp; (try with_reducible rfl)
        case hr20 =>
        simp only [Act.put, List.setIfInBounds_toArray, List.set_cons_zero, List.set_cons_succ]
        refine wpAnyH_ready (rs := [9]) (by kernel_rfl) (by simp) (AllReadyH.cons (o := ?oc21) ?hc21 (fun K hK => ?hs21) AllReadyH.nil)
        case hc21 => simp only [List.getElem?_toArray, List.getElem?_cons_succ, List.getElem?_cons_zero]; rfl
        case hs21 =>
        rw [if_pos (by rfl)]
        go_simp
        go_at_call 77; refine (HX.out _).mono ?_; rintro e w2 ⟨rfl, hw2⟩; have HW2 := Lib.hid hw2; clear hw2
        go_wp2_with fail
        refine hK.out _ _ ?_ (fun hHeld => ?_)
        · exact HYC.out _ ((Chg.refl [] wr).drew.trans HW2.out)
        clear hK K
        try simp only [Act.put, List.setIfInBounds_toArray, List.set_cons_zero, List.set_cons_succ]
        refine wpAnyH_take (i := 10) (oi := ?oi22) (v := ?v22) ?hi22 (by kernel_rfl) (by kernel_rfl) (by kernel_rfl) ?hQ22 (Or.inl ⟨?hw22, ?hy22⟩) (by assumption) ?hr22
        case hi22 => simp only [List.getElem?_toArray, List.getElem?_cons_succ, List.getElem?_cons_zero]; rfl
        case hQ22 => exact fun _ _ _ h => h
        case hw22 => rfl
        case hy22 => intro w hSw; (try dsimp only at hSw); go_simp; (try with_reducible rfl)
        case hr22 =>
        simp only [Act.put, List.setIfInBounds_toArray, List.set_cons_zero, List.set_cons_succ]
        refine wpAnyH_done (by kernel_rfl) ?_ _
        go_wp2_with fail
        go_roundw
        case rel => exact ⟨i, hh, rfl, rfl, HK.out.1, HHH.out.1, by have := HHH.out; have := HK.out; omega, HK.out.2.2.2.1, fun _ h1 h2 => fun h3 => absurd (HLC.out.2 h3) (by omega), HK.out.2.2.2.2.2.trans ((Chg.refl [] wr).drew.trans HW2.out)⟩
        case measure => have := HHH.out; simp [intOf]; omega
    · obtain rfl : i = j := by have := HK.out.2.1; omega
      have HD := Lib.hid (show Asc nkey (rot L a (a + 1) i) a b from by
        have e := HB.out.1
        have := HK.out
        have := HB.out
        have := HA.out.2
        subst e
        exact oneL_done HA.out.1 (by omega) (by omega) (by omega) HK.out.2.2.2.1 HK.out.2.2.2.2.1)
      have HI := Lib.hid (show a + 1 ≤ i ∧ i ≤ b ∧ i ≤ n from ⟨by have := HB.out; have := HK.out; omega, by have := HK.out; omega, by have := HB.out; have := HK.out; omega⟩)
      obtain ⟨i1, hi1⟩ : ∃ x, x = i - 1 := ⟨_, rfl⟩
      have hi1i : (i : Int) - 1 = (i1 : Int) := by have := HI.out; omega
      have hi1w : IntKind.i64.wrap (i1 : Int) = (i1 : Int) := IntWalk.i64_in _ (by omega)
      have hi1B : i1 ≤ 1000000 := by omega
      have HI1 := Lib.hid hi1
      clear hi1
      go_wp2_with fail
      go_loopw [13] (fun u wq => ∃ k : Nat, u = .int .i64 k ∧ a ≤ k ∧ k ≤ i1 ∧ NRow wq g n c (rot L a (a + 1) (k + 1)) ∧ Chg [g] w wq) (fun u _ => i1 - (intOf u).toNat)
      case atStart => exact ⟨a, rfl, Nat.le_refl _, by have := HI1.out; have := HI.out; omega, by rw [rot_same_r _ (by omega)]; exact HS.out.chg HK.out.2.2.2.2.2 (by simp), HK.out.2.2.2.2.2.mono (by simp)⟩
      case round =>
        obtain ⟨k, rfl, hak, hki, hr, hk⟩ := hrel
        have HQ := Lib.hid (And.intro hak (And.intro hki (And.intro hr hk)))
        have hkB : k ≤ 1000000 := by omega
        clear hak hki hr hk
        by_cases hlt : k < i1
        · obtain ⟨q, hq⟩ : ∃ q, q = k + 1 := ⟨_, rfl⟩
          have hqi : (k : Int) + 1 = (q : Int) := by omega
          have hqw : IntKind.i64.wrap (q : Int) = (q : Int) := IntWalk.i64_in _ (by omega)
          have hqB : q ≤ 1000000 := by omega
          have hkn : k < n := by have := HI.out; have := HI1.out; omega
          have hqn : q < n := by have := HI.out; have := HI1.out; omega
          have HQQ := Lib.hid hq
          clear hq
          obtain ⟨x, xa, xl, xc, y, ya, yl, yc, hx, hy, hxe, hye, _⟩ := HQ.out.2.2.1.pair hkn hqn
          have hsw := (HQ.out.2.2.1.chg (Chg.refl [] wr).drew (by simp)).swap hkn hqn hxe hye
          obtain ⟨x1, x2, x3, x4, x5, x6⟩ := x
          obtain ⟨y1, y2, y3, y4, y5, y6⟩ := y
          unfold ndc at hsw
          unfold NdAt at hx hy
          simp only at hx hy hsw
          generalize ba x2 = x2 at *
          generalize ba y2 = y2 at *
          generalize ba x4 = x4 at *
          generalize ba y4 = y4 at *
          have kw : Chg [] wr wr.drew := (Chg.refl _ _).drew
          have HXY := Lib.hid (show (fun v => v.cell? ⟨g, k * 6, none⟩ = some (.int .i64 x1) ∧ v.cell? ⟨g, k * 6 + 1, none⟩ = some (.string x2) ∧ v.cell? ⟨g, k * 6 + 2, none⟩ = some (.int .i64 x3) ∧ v.cell? ⟨g, k * 6 + 3, none⟩ = some (.string x4) ∧ v.cell? ⟨g, k * 6 + 4, none⟩ = some (.slice xa xl xc) ∧ v.cell? ⟨g, k * 6 + 5, none⟩ = some (.int .i64 x6) ∧ v.cell? ⟨g, q * 6, none⟩ = some (.int .i64 y1) ∧ v.cell? ⟨g, q * 6 + 1, none⟩ = some (.string y2) ∧ v.cell? ⟨g, q * 6 + 2, none⟩ = some (.int .i64 y3) ∧ v.cell? ⟨g, q * 6 + 3, none⟩ = some (.string y4) ∧ v.cell? ⟨g, q * 6 + 4, none⟩ = some (.slice ya yl yc) ∧ v.cell? ⟨g, q * 6 + 5, none⟩ = some (.int .i64 y6)) wr.drew from ⟨kw.cell hx.1 (by simp), kw.cell hx.2.1 (by simp), kw.cell hx.2.2.1 (by simp), kw.cell hx.2.2.2.1 (by simp), kw.cell hx.2.2.2.2.1 (by simp), kw.cell hx.2.2.2.2.2 (by simp), kw.cell hy.1 (by simp), kw.cell hy.2.1 (by simp), kw.cell hy.2.2.1 (by simp), kw.cell hy.2.2.2.1 (by simp), kw.cell hy.2.2.2.2.1 (by simp), kw.cell hy.2.2.2.2.2 (by simp)⟩)
          have HSW := Lib.hid hsw
          clear hx hy hxe hye hsw kw
          go_upto_region 11 with (fail)
          obtain ⟨W1, hW1⟩ : ∃ x, x = wr.drew.setCells g (k * 6) [.int .i64 y1, .string y2, .int .i64 y3, .string y4, .slice ya yl yc, .int .i64 y6] := ⟨_, rfl⟩
          have hs1 := HSW.out
          rw [← hW1] at hs1
          replace HSW := Lib.hid hs1
          have HW1 := Lib.hid hW1
          clear hs1 hW1
          refine wp_region_mark (S := fun v => v.cell? ⟨g, k * 6, none⟩ = some (.int .i64 x1) ∧ v.cell? ⟨g, k * 6 + 1, none⟩ = some (.string x2) ∧ v.cell? ⟨g, k * 6 + 2, none⟩ = some (.int .i64 x3) ∧ v.cell? ⟨g, k * 6 + 3, none⟩ = some (.string x4) ∧ v.cell? ⟨g, k * 6 + 4, none⟩ = some (.slice xa xl xc) ∧ v.cell? ⟨g, k * 6 + 5, none⟩ = some (.int .i64 x6) ∧ v.cell? ⟨g, q * 6, none⟩ = some (.int .i64 y1) ∧ v.cell? ⟨g, q * 6 + 1, none⟩ = some (.string y2) ∧ v.cell? ⟨g, q * 6 + 2, none⟩ = some (.int .i64 y3) ∧ v.cell? ⟨g, q * 6 + 3, none⟩ = some (.string y4) ∧ v.cell? ⟨g, q * 6 + 4, none⟩ = some (.slice ya yl yc) ∧ v.cell? ⟨g, q * 6 + 5, none⟩ = some (.int .i64 y6)) 14 (by kernel_rfl) ?_ (fun hHeld => ?_)
          · exact HXY.out
          refine wpAnyF_pure (i := 0) (oi := ?oi47) (v := ?v47) ?hi47 (by kernel_rfl) (by kernel_rfl) (by kernel_rfl) (by kernel_rfl) ?hQ47 (Or.inl ⟨?hw47, ?hy47⟩) (Or.inr (by assumption)) ?hr47
          case hi47 => simp only [List.getElem?_toArray, List.getElem?_cons_zero]; rfl
          case hQ47 => exact fun _ _ _ h => h
          case hw47 => rfl
          case hy47 => intro w hSw; (try dsimp only at hSw); go_simp; (try with_reducible rfl)
          case hr47 =>
          simp only [Act.put, List.setIfInBounds_toArray, List.set_cons_zero, List.set_cons_succ]
          refine wpAnyF_pure (i := 1) (oi := ?oi48) (v := ?v48) ?hi48 (by kernel_rfl) (by kernel_rfl) (by kernel_rfl) (by kernel_rfl) ?hQ48 (Or.inl ⟨?hw48, ?hy48⟩) (Or.inr (by assumption)) ?hr48
          case hi48 => simp only [List.getElem?_toArray, List.getElem?_cons_succ, List.getElem?_cons_zero]; rfl
          case hQ48 => exact fun _ _ _ h => h
          case hw48 => rfl
          case hy48 => intro w hSw; (try dsimp only at hSw); go_simp; (try with_reducible rfl)
          case hr48 =>
          simp only [Act.put, List.setIfInBounds_toArray, List.set_cons_zero, List.set_cons_succ]
          refine wpAnyF_pure (i := 2) (oi := ?oi49) (v := ?v49) ?hi49 (by kernel_rfl) (by kernel_rfl) (by kernel_rfl) (by kernel_rfl) ?hQ49 (Or.inl ⟨?hw49, ?hy49⟩) (Or.inr (by assumption)) ?hr49
          case hi49 => simp only [List.getElem?_toArray, List.getElem?_cons_succ, List.getElem?_cons_zero]; rfl
          case hQ49 => exact fun _ _ _ h => h
          case hw49 => rfl
          case hy49 => intro w hSw; (try dsimp only at hSw); go_simp; (try with_reducible rfl)
          case hr49 =>
          simp only [Act.put, List.setIfInBounds_toArray, List.set_cons_zero, List.set_cons_succ]
          refine wpAnyF_pure (i := 3) (oi := ?oi50) (v := ?v50) ?hi50 (by kernel_rfl) (by kernel_rfl) (by kernel_rfl) (by kernel_rfl) ?hQ50 (Or.inl ⟨?hw50, ?hy50⟩) (Or.inr (by assumption)) ?hr50
          case hi50 => simp only [List.getElem?_toArray, List.getElem?_cons_succ, List.getElem?_cons_zero]; rfl
          case hQ50 => exact fun _ _ _ h => h
          case hw50 => rfl
          case hy50 => intro w hSw; (try dsimp only at hSw); go_simp; (try with_reducible rfl)
          case hr50 =>
          simp only [Act.put, List.setIfInBounds_toArray, List.set_cons_zero, List.set_cons_succ]
          refine wpAnyF_pure (i := 4) (oi := ?oi51) (v := ?v51) ?hi51 (by kernel_rfl) (by kernel_rfl) (by kernel_rfl) (by kernel_rfl) ?hQ51 (Or.inl ⟨?hw51, ?hy51⟩) (Or.inr (by assumption)) ?hr51
          case hi51 => simp only [List.getElem?_toArray, List.getElem?_cons_succ, List.getElem?_cons_zero]; rfl
          case hQ51 => exact fun _ _ _ h => h
          case hw51 => rfl
          case hy51 => intro w hSw; (try dsimp only at hSw); go_simp; (try with_reducible rfl)
          case hr51 =>
          simp only [Act.put, List.setIfInBounds_toArray, List.set_cons_zero, List.set_cons_succ]
          refine wpAnyF_pure (i := 5) (oi := ?oi52) (v := ?v52) ?hi52 (by kernel_rfl) (by kernel_rfl) (by kernel_rfl) (by kernel_rfl) ?hQ52 (Or.inl ⟨?hw52, ?hy52⟩) (Or.inr (by assumption)) ?hr52
          case hi52 => simp only [List.getElem?_toArray, List.getElem?_cons_succ, List.getElem?_cons_zero]; rfl
          case hQ52 => exact fun _ _ _ h => h
          case hw52 => rfl
          case hy52 => intro w hSw; (try dsimp only at hSw); go_simp; (try with_reducible rfl)
          case hr52 =>
          simp only [Act.put, List.setIfInBounds_toArray, List.set_cons_zero, List.set_cons_succ]
          refine wpAnyF_pure (i := 6) (oi := ?oi53) (v := ?v53) ?hi53 (by kernel_rfl) (by kernel_rfl) (by kernel_rfl) (by kernel_rfl) ?hQ53 (Or.inl ⟨?hw53, ?hy53⟩) (Or.inr (by assumption)) ?hr53
          case hi53 => simp only [List.getElem?_toArray, List.getElem?_cons_succ, List.getElem?_cons_zero]; rfl
          case hQ53 => exact fun _ _ _ h => h
          case hw53 => rfl
          case hy53 => intro w hSw; (try dsimp only at hSw); go_simp; (try with_reducible rfl)
          case hr53 =>
          simp only [Act.put, List.setIfInBounds_toArray, List.set_cons_zero, List.set_cons_succ]
          refine wpAnyF_pure (i := 7) (oi := ?oi54) (v := ?v54) ?hi54 (by kernel_rfl) (by kernel_rfl) (by kernel_rfl) (by kernel_rfl) ?hQ54 (Or.inl ⟨?hw54, ?hy54⟩) (Or.inr (by assumption)) ?hr54
          case hi54 => simp only [List.getElem?_toArray, List.getElem?_cons_succ, List.getElem?_cons_zero]; rfl
          case hQ54 => exact fun _ _ _ h => h
          case hw54 => rfl
          case hy54 => intro w hSw; (try dsimp only at hSw); go_simp; (try with_reducible rfl)
          case hr54 =>
          simp only [Act.put, List.setIfInBounds_toArray, List.set_cons_zero, List.set_cons_succ]
          refine wpAnyF_pure (i := 8) (oi := ?oi55) (v := ?v55) ?hi55 (by kernel_rfl) (by kernel_rfl) (by kernel_rfl) (by kernel_rfl) ?hQ55 (Or.inl ⟨?hw55, ?hy55⟩) (Or.inr (by assumption)) ?hr55
          case hi55 => simp only [List.getElem?_toArray, List.getElem?_cons_succ, List.getElem?_cons_zero]; rfl
          case hQ55 => exact fun _ _ _ h => h
          case hw55 => rfl
          case hy55 => intro w hSw; (try dsimp only at hSw); go_simp; (try with_reducible rfl)
          case hr55 =>
          simp only [Act.put, List.setIfInBounds_toArray, List.set_cons_zero, List.set_cons_succ]
          refine wpAnyF_take (i := 9) (oi := ?oi56) (v := ?v56) ?hi56 (by kernel_rfl) (by kernel_rfl) (by kernel_rfl) (by kernel_rfl) (by kernel_rfl) ?hQ56 (Or.inl ⟨?hw56, ?hy56⟩) (by assumption) ?hr56
          case hi56 => simp only [List.getElem?_toArray, List.getElem?_cons_succ, List.getElem?_cons_zero]; rfl
          case hQ56 => exact fun _ _ _ h => h
          case hw56 => rfl
          case hy56 => intro w hSw; (try dsimp only at hSw); go_simp; (try with_reducible rfl)
          case hr56 =>
          simp only [Act.put, List.setIfInBounds_toArray, List.set_cons_zero, List.set_cons_succ]
          refine wpAnyF_pure (i := 10) (oi := ?oi57) (v := ?v57) ?hi57 (by kernel_rfl) (by kernel_rfl) (by kernel_rfl) (by kernel_rfl) ?hQ57 (Or.inl ⟨?hw57, ?hy57⟩) (Or.inr (by assumption)) ?hr57
          case hi57 => simp only [List.getElem?_toArray, List.getElem?_cons_succ, List.getElem?_cons_zero]; rfl
          case hQ57 => exact fun _ _ _ h => h
          case hw57 => rfl
          case hy57 => intro w hSw; (try dsimp only at hSw); go_simp; (try with_reducible rfl)
          case hr57 =>
          simp only [Act.put, List.setIfInBounds_toArray, List.set_cons_zero, List.set_cons_succ]
          refine wpAnyF_pure (i := 11) (oi := ?oi58) (v := ?v58) ?hi58 (by kernel_rfl) (by kernel_rfl) (by kernel_rfl) (by kernel_rfl) ?hQ58 (Or.inl ⟨?hw58, ?hy58⟩) (Or.inr (by assumption)) ?hr58
          case hi58 => simp only [List.getElem?_toArray, List.getElem?_cons_succ, List.getElem?_cons_zero]; rfl
          case hQ58 => exact fun _ _ _ h => h
          case hw58 => rfl
          case hy58 => intro w hSw; (try dsimp only at hSw); go_simp; (try with_reducible rfl)
          case hr58 =>
          simp only [Act.put, List.setIfInBounds_toArray, List.set_cons_zero, List.set_cons_succ]
          refine wpAnyF_pure (i := 12) (oi := ?oi59) (v := ?v59) ?hi59 (by kernel_rfl) (by kernel_rfl) (by kernel_rfl) (by kernel_rfl) ?hQ59 (Or.inl ⟨?hw59, ?hy59⟩) (Or.inr (by assumption)) ?hr59
          case hi59 => simp only [List.getElem?_toArray, List.getElem?_cons_succ, List.getElem?_cons_zero]; rfl
          case hQ59 => exact fun _ _ _ h => h
          case hw59 => rfl
          case hy59 => intro w hSw; (try dsimp only at hSw); go_simp; (try with_reducible rfl)
          case hr59 =>
          simp only [Act.put, List.setIfInBounds_toArray, List.set_cons_zero, List.set_cons_succ]
          refine wpAnyF_take (i := 13) (oi := ?oi60) (v := ?v60) ?hi60 (by kernel_rfl) (by kernel_rfl) (by kernel_rfl) (by kernel_rfl) (by kernel_rfl) ?hQ60 (Or.inl ⟨?hw60, ?hy60⟩) (by assumption) ?hr60
          case hi60 => simp only [List.getElem?_toArray, List.getElem?_cons_succ, List.getElem?_cons_zero]; rfl
          case hQ60 => exact fun _ _ _ h => h
          case hw60 => rfl
          case hy60 => intro w hSw; (try dsimp only at hSw); go_simp; (try with_reducible rfl)
          case hr60 =>
          simp only [Act.put, List.setIfInBounds_toArray, List.set_cons_zero, List.set_cons_succ]
          refine wpAnyF_ready (i := 14) (o := ?oc61) (by kernel_rfl) ?hc61 (by kernel_rfl) (fun K hK => ?hs61)
          case hc61 => simp only [List.getElem?_toArray, List.getElem?_cons_succ, List.getElem?_cons_zero]; rfl
          case hs61 =>
          rw [if_pos (by rfl)]
          go_simp
          refine hK.out _ _ ?_
          clear hK K
          try simp only [Act.put, List.setIfInBounds_toArray, List.set_cons_zero, List.set_cons_succ]
          refine wpAnyF_ready (i := 15) (o := ?oc62) (by kernel_rfl) ?hc62 (by kernel_rfl) (fun K hK => ?hs62)
          case hc62 => simp only [List.getElem?_toArray, List.getElem?_cons_succ, List.getElem?_cons_zero]; rfl
          case hs62 =>
          rw [if_pos (by rfl)]
          refine wp_store_mid 45 (.tmp 75) (.tmp 70) rfl g (k * 6) #[.int .i64 y1, .string y2, .int .i64 y3, .string y4, .slice ya yl yc, .int .i64 y6] rfl rfl HSW.out.1 Tryz.nodeSize (nd_ones _ _ _ _ _ _ _ _) ?_; dsimp only; rw [← HW1.out]
          refine hK.out _ _ ?_
          clear hK K
          try simp only [Act.put]
          refine wpAnyF_ready (i := 16) (o := ?oc63) (by kernel_rfl) ?hc63 (by kernel_rfl) (fun K hK => ?hs63)
          case hc63 => simp only [List.getElem?_toArray, List.getElem?_cons_succ, List.getElem?_cons_zero]; rfl
          case hs63 =>
          rw [if_pos (by rfl)]
          go_simp
          refine hK.out _ _ ?_
          clear hK K
          try simp only [Act.put, List.setIfInBounds_toArray, List.set_cons_zero, List.set_cons_succ]
          refine wpAnyF_ready (i := 17) (o := ?oc64) (by kernel_rfl) ?hc64 (by kernel_rfl) (fun K hK => ?hs64)
          case hc64 => simp only [List.getElem?_toArray, List.getElem?_cons_succ, List.getElem?_cons_zero]; rfl
          case hs64 =>
          rw [if_pos (by rfl)]
          refine wp_store_mid 45 (.tmp 76) (.tmp 74) rfl g (q * 6) #[.int .i64 x1, .string x2, .int .i64 x3, .string x4, .slice xa xl xc, .int .i64 x6] rfl rfl HSW.out.2.1 Tryz.nodeSize (nd_ones _ _ _ _ _ _ _ _) ?_; dsimp only
          refine hK.out _ _ ?_
          clear hK K
          try simp only [Act.put]
          refine wpAnyF_done (by kernel_rfl) ?_ _
          go_wp2_with fail
          go_roundw
          case rel =>
            refine ⟨q, by first | rfl | go_num, by have := HQQ.out; have := HQ.out; omega, by have := HQQ.out; omega, ?_, HQ.out.2.2.2.trans ((Chg.refl [g] wr).drew.trans HSW.out.2.2.2)⟩
            have h1 := HSW.out.2.2.1
            rw [HQQ.out] at h1 ⊢
            rw [rot_right HQ.out.1 (by rw [HA.out.2, ← HQQ.out]; exact hqn)] at h1
            exact h1
          case measure => have := HQQ.out; simp [intOf]; omega
        · obtain rfl : k = i1 := by have := HQ.out.2.1; omega
          go_wp2_with fail
          refine bodyPost_ret (v := .tuple #[]) (by simp [results, Tryz.results121, go_sem]) rfl ⟨rfl, rot L a (a + 1) i, ?_, ?_, HD.out, HQ.out.2.2.2⟩
          · have h1 := HQ.out.2.2.1
            rw [show k + 1 = i by have := HI1.out; have := HI.out; omega] at h1
            exact h1
          · exact (rot_shuf (by omega) HI.out.1 (by rw [HA.out.2]; exact HI.out.2.2)).wide (Nat.le_refl _) (by have := HI.out; omega) HI.out.2.1
set_option maxRecDepth 100000 in
set_option maxHeartbeats 16000000 in
theorem symR (w : World) (g n c : Nat) (L : List (ANode × Value)) (a m b : Nat) (h : NRow w g n c L) (hm : a + 1 < m) (hmb : b = m + 1) (hb : b ≤ n) (hs : Asc nkey L a m) :
    Calls Tryz.prog 121 #[.slice (some ⟨g, 0, none⟩) n c, .int .i64 a, .int .i64 m, .int .i64 b, .func (.func 77) #[] #[]] w fun e w' => e = .returned (.tuple #[]) ∧ SortedTo w w' g n c L a b := by
  have HS := Lib.hid h
  have hnB : n ≤ 1000000 := h.short
  have hlen := h.len
  have HA := Lib.hid (And.intro hs (show L.length = n from hlen))
  have HB := Lib.hid (And.intro hm (And.intro hmb hb))
  have hbB : b ≤ 1000000 := by omega
  have haB : a ≤ 1000000 := by omega
  have hmB : m ≤ 1000000 := by omega
  have hma : ¬ (m : Int) - (a : Int) = 1 := by omega
  have hbm : (b : Int) - (m : Int) = 1 := by omega
  have hmab : ((m : Int) - (a : Int) == 1) = false := by simpa using hma
  clear h hm hmb hb hs hlen
  go_enter Tryz.func121, Tryz.ntmps121
  go_wp2_with fail
  go_loopw [14, 15, 16] (fun u v _ wr => ∃ i j : Nat, u = .int .i64 i ∧ v = .int .i64 j ∧ a ≤ i ∧ i ≤ j ∧ j ≤ m ∧ (a < i → ∀ h1 : i - 1 < L.length, ∀ h2 : m < L.length, ¬ nkey L[m] < nkey L[i - 1]) ∧ (j < m → ∀ h1 : j < L.length, ∀ h2 : m < L.length, nkey L[m] < nkey L[j]) ∧ Chg [] w wr) (fun u v _ _ => (intOf v).toNat - (intOf u).toNat)
  case atStart => exact ⟨a, m, rfl, rfl, Nat.le_refl _, by have := HB.out; omega, Nat.le_refl _, fun h => by omega, fun h => by omega, Chg.refl _ _⟩
  case round =>
    obtain ⟨i, j, rfl, rfl, hmi, hij, hjb, hlo, hhi, hk⟩ := hrel
    have HK := Lib.hid (And.intro hmi (And.intro hij (And.intro hjb (And.intro hlo (And.intro hhi hk)))))
    have hiB : i ≤ 1000000 := by omega
    have hjB : j ≤ 1000000 := by omega
    clear hmi hij hjb hlo hhi hk
    by_cases hlt : i < j
    · obtain ⟨hh, hhe⟩ : ∃ x, x = (i + j) / 2 := ⟨_, rfl⟩
      have hhi : ((i : Int) + (j : Int)) / 2 = (hh : Int) := by omega
      have hhB : hh ≤ 1000000 := by omega
      have hhw : IntKind.i64.wrap (hh : Int) = (hh : Int) := IntWalk.i64_in _ (by omega)
      have hhn : hh < n := by have := HB.out; have := HK.out.2.2.1; omega
      have han : m < n := by have := HB.out; omega
      have HHH := Lib.hid (And.intro (show i ≤ hh by omega) (show hh < j by omega))
      clear hhe
      obtain ⟨x, xa, xl, xc, y, ya, yl, yc, hx, hy, hxe, hye, hcmp⟩ := (HS.out.chg HK.out.2.2.2.2.2 (by simp)).pair han hhn
      have hiL : m < L.length := by rw [HA.out.2]; assumption
      have hjL : hh < L.length := by rw [HA.out.2]; assumption
      have hkx := key_of hxe hiL
      have hky := key_of hye hjL
      simp only at hkx hky
      have HX := Lib.hid hcmp
      have hlc : cmpS x.path y.path < 0 ↔ nkey L[m] < nkey L[hh] := by rw [hkx, hky]; exact cmpS_lt
      have HLC := Lib.hid hlc
      clear hcmp hkx hky hxe hye hlc
      generalize cmpS x.path y.path = cv at *
      obtain ⟨x1, x2, x3, x4, x5, x6⟩ := x
      obtain ⟨y1, y2, y3, y4, y5, y6⟩ := y
      unfold ndV at HX
      unfold NdAt at hx hy
      simp only at hx hy HX
      generalize ba x2 = x2 at *
      generalize ba y2 = y2 at *
      generalize ba x4 = x4 at *
      generalize ba y4 = y4 at *
      have HYC := Lib.hid (fun W (kw : Chg [] wr W) => (show (fun v => v.cell? ⟨g, m * 6, none⟩ = some (.int .i64 x1) ∧ v.cell? ⟨g, m * 6 + 1, none⟩ = some (.string x2) ∧ v.cell? ⟨g, m * 6 + 2, none⟩ = some (.int .i64 x3) ∧ v.cell? ⟨g, m * 6 + 3, none⟩ = some (.string x4) ∧ v.cell? ⟨g, m * 6 + 4, none⟩ = some (.slice xa xl xc) ∧ v.cell? ⟨g, m * 6 + 5, none⟩ = some (.int .i64 x6) ∧ v.cell? ⟨g, hh * 6, none⟩ = some (.int .i64 y1) ∧ v.cell? ⟨g, hh * 6 + 1, none⟩ = some (.string y2) ∧ v.cell? ⟨g, hh * 6 + 2, none⟩ = some (.int .i64 y3) ∧ v.cell? ⟨g, hh * 6 + 3, none⟩ = some (.string y4) ∧ v.cell? ⟨g, hh * 6 + 4, none⟩ = some (.slice ya yl yc) ∧ v.cell? ⟨g, hh * 6 + 5, none⟩ = some (.int .i64 y6)) W from ⟨kw.cell hx.1 (by simp), kw.cell hx.2.1 (by simp), kw.cell hx.2.2.1 (by simp), kw.cell hx.2.2.2.1 (by simp), kw.cell hx.2.2.2.2.1 (by simp), kw.cell hx.2.2.2.2.2 (by simp), kw.cell hy.1 (by simp), kw.cell hy.2.1 (by simp), kw.cell hy.2.2.1 (by simp), kw.cell hy.2.2.2.1 (by simp), kw.cell hy.2.2.2.2.1 (by simp), kw.cell hy.2.2.2.2.2 (by simp)⟩))
      clear hx hy
      by_cases hcv : cv < 0
      · have hcd : decide (cv < 0) = true := decide_eq_true hcv
        go_upto_region 17 with (fail)
        refine wp_region_held_drew (S := fun v => v.cell? ⟨g, m * 6, none⟩ = some (.int .i64 x1) ∧ v.cell? ⟨g, m * 6 + 1, none⟩ = some (.string x2) ∧ v.cell? ⟨g, m * 6 + 2, none⟩ = some (.int .i64 x3) ∧ v.cell? ⟨g, m * 6 + 3, none⟩ = some (.string x4) ∧ v.cell? ⟨g, m * 6 + 4, none⟩ = some (.slice xa xl xc) ∧ v.cell? ⟨g, m * 6 + 5, none⟩ = some (.int .i64 x6) ∧ v.cell? ⟨g, hh * 6, none⟩ = some (.int .i64 y1) ∧ v.cell? ⟨g, hh * 6 + 1, none⟩ = some (.string y2) ∧ v.cell? ⟨g, hh * 6 + 2, none⟩ = some (.int .i64 y3) ∧ v.cell? ⟨g, hh * 6 + 3, none⟩ = some (.string y4) ∧ v.cell? ⟨g, hh * 6 + 4, none⟩ = some (.slice ya yl yc) ∧ v.cell? ⟨g, hh * 6 + 5, none⟩ = some (.int .i64 y6)) (by kernel_rfl) ?_ (fun hHeld => ?_)
        · exact HYC.out _ (Chg.refl [] wr).drew
        refine wpAnyH_take (i := 0) (oi := ?oi23) (v := ?v23) ?hi23 (by kernel_rfl) (by kernel_rfl) (by kernel_rfl) ?hQ23 (Or.inl ⟨?hw23, ?hy23⟩) (by assumption) ?hr23
        case hi23 => simp only [List.getElem?_toArray, List.getElem?_cons_zero]; rfl
        case hQ23 => exact fun _ _ _ h => h
        case hw23 => rfl
        case hy23 => intro w hSw; (try dsimp only at hSw); go_simp; (try with_reducible rfl)
        case hr23 =>
        simp only [Act.put, List.setIfInBounds_toArray, List.set_cons_zero, List.set_cons_succ]
        refine wpAnyH_take (i := 1) (oi := ?oi24) (v := ?v24) ?hi24 (by kernel_rfl) (by kernel_rfl) (by kernel_rfl) ?hQ24 (Or.inl ⟨?hw24, ?hy24⟩) (by assumption) ?hr24
        case hi24 => simp only [List.getElem?_toArray, List.getElem?_cons_succ, List.getElem?_cons_zero]; rfl
        case hQ24 => exact fun _ _ _ h => h
        case hw24 => rfl
        case hy24 => intro w hSw; (try dsimp only at hSw); go_simp; (try with_reducible rfl)
        case hr24 =>
        simp only [Act.put, List.setIfInBounds_toArray, List.set_cons_zero, List.set_cons_succ]
        refine wpAnyH_take (i := 2) (oi := ?oi25) (v := ?v25) ?hi25 (by kernel_rfl) (by kernel_rfl) (by kernel_rfl) ?hQ25 (Or.inl ⟨?hw25, ?hy25⟩) (by assumption) ?hr25
        case hi25 => simp only [List.getElem?_toArray, List.getElem?_cons_succ, List.getElem?_cons_zero]; rfl
        case hQ25 => exact fun _ _ _ h => h
        case hw25 => rfl
        case hy25 => intro w hSw; (try dsimp only at hSw); go_simp; (try with_reducible rfl)
        case hr25 =>
        simp only [Act.put, List.setIfInBounds_toArray, List.set_cons_zero, List.set_cons_succ]
        refine wpAnyH_take (i := 3) (oi := ?oi26) (v := ?v26) ?hi26 (by kernel_rfl) (by kernel_rfl) (by kernel_rfl) ?hQ26 (Or.inl ⟨?hw26, ?hy26⟩) (by assumption) ?hr26
        case hi26 => simp only [List.getElem?_toArray, List.getElem?_cons_succ, List.getElem?_cons_zero]; rfl
        case hQ26 => exact fun _ _ _ h => h
        case hw26 => rfl
        case hy26 => intro w hSw; (try dsimp only at hSw); go_simp; (try with_reducible rfl)
        case hr26 =>
        simp only [Act.put, List.setIfInBounds_toArray, List.set_cons_zero, List.set_cons_succ]
        refine wpAnyH_take (i := 4) (oi := ?oi27) (v := ?v27) ?hi27 (by kernel_rfl) (by kernel_rfl) (by kernel_rfl) ?hQ27 (Or.inl ⟨?hw27, ?hy27⟩) (by assumption) ?hr27
        case hi27 => simp only [List.getElem?_toArray, List.getElem?_cons_succ, List.getElem?_cons_zero]; rfl
        case hQ27 => exact fun _ _ _ h => h
        case hw27 => rfl
        case hy27 => intro w hSw; (try dsimp only at hSw); go_simp; (try with_reducible rfl)
        case hr27 =>
        simp only [Act.put, List.setIfInBounds_toArray, List.set_cons_zero, List.set_cons_succ]
        refine wpAnyH_take (i := 5) (oi := ?oi28) (v := ?v28) ?hi28 (by kernel_rfl) (by kernel_rfl) (by kernel_rfl) ?hQ28 (Or.inl ⟨?hw28, ?hy28⟩) (by assumption) ?hr28
        case hi28 => simp only [List.getElem?_toArray, List.getElem?_cons_succ, List.getElem?_cons_zero]; rfl
        case hQ28 => exact fun _ _ _ h => h
        case hw28 => rfl
        case hy28 => intro w hSw; (try dsimp only at hSw); go_simp; (try with_reducible rfl)
        case hr28 =>
        simp only [Act.put, List.setIfInBounds_toArray, List.set_cons_zero, List.set_cons_succ]
        refine wpAnyH_take (i := 6) (oi := ?oi29) (v := ?v29) ?hi29 (by kernel_rfl) (by kernel_rfl) (by kernel_rfl) ?hQ29 (Or.inl ⟨?hw29, ?hy29⟩) (by assumption) ?hr29
        case hi29 => simp only [List.getElem?_toArray, List.getElem?_cons_succ, List.getElem?_cons_zero]; rfl
        case hQ29 => exact fun _ _ _ h => h
        case hw29 => rfl
        case hy29 => intro w hSw; (try dsimp only at hSw); go_simp; (try with_reducible rfl)
        case hr29 =>
        simp only [Act.put, List.setIfInBounds_toArray, List.set_cons_zero, List.set_cons_succ]
        refine wpAnyH_take (i := 7) (oi := ?oi30) (v := ?v30) ?hi30 (by kernel_rfl) (by kernel_rfl) (by kernel_rfl) ?hQ30 (Or.inl ⟨?hw30, ?hy30⟩) (by assumption) ?hr30
        case hi30 => simp only [List.getElem?_toArray, List.getElem?_cons_succ, List.getElem?_cons_zero]; rfl
        case hQ30 => exact fun _ _ _ h => h
        case hw30 => rfl
        case hy30 => intro w hSw; (try dsimp only at hSw); go_simp; (try with_reducible rfl)
        case hr30 =>
        simp only [Act.put, List.setIfInBounds_toArray, List.set_cons_zero, List.set_cons_succ]
        refine wpAnyH_take (i := 8) (oi := ?oi31) (v := ?v31) ?hi31 (by kernel_rfl) (by kernel_rfl) (by kernel_rfl) ?hQ31 (Or.inl ⟨?hw31, ?hy31⟩) (by assumption) ?hr31
        case hi31 => simp only [List.getElem?_toArray, List.getElem?_cons_succ, List.getElem?_cons_zero]; rfl
        case hQ31 => exact fun _ _ _ h => h
        case hw31 => rfl
        case hy31 => intro w hSw; (try dsimp only at hSw); go_simp; (try with_reducible rfl)
        case hr31 =>
        simp only [Act.put, List.setIfInBounds_toArray, List.set_cons_zero, List.set_cons_succ]
        refine wpAnyH_ready (rs := [9]) (by kernel_rfl) (by simp) (AllReadyH.cons (o := ?oc32) ?hc32 (fun K hK => ?hs32) AllReadyH.nil)
        case hc32 => simp only [List.getElem?_toArray, List.getElem?_cons_succ, List.getElem?_cons_zero]; rfl
        case hs32 =>
        rw [if_pos (by rfl)]
        go_simp
        go_at_call 77; refine (HX.out _).mono ?_; rintro e w2 ⟨rfl, hw2⟩; have HW2 := Lib.hid hw2; clear hw2
        go_wp2_with fail
        refine hK.out _ _ ?_ (fun hHeld => ?_)
        · exact HYC.out _ ((Chg.refl [] wr).drew.trans HW2.out)
        clear hK K
        try simp only [Act.put, List.setIfInBounds_toArray, List.set_cons_zero, List.set_cons_succ]
        refine wpAnyH_take (i := 10) (oi := ?oi33) (v := ?v33) ?hi33 (by kernel_rfl) (by kernel_rfl) (by kernel_rfl) ?hQ33 (Or.inl ⟨?hw33, ?hy33⟩) (by assumption) ?hr33
        case hi33 => simp only [List.getElem?_toArray, List.getElem?_cons_succ, List.getElem?_cons_zero]; rfl
        case hQ33 => exact fun _ _ _ h => h
        case hw33 => rfl
        case hy33 => intro w hSw; (try dsimp only at hSw); go_simp; (try with_reducible rfl)
        case hr33 =>
        simp only [Act.put, List.setIfInBounds_toArray, List.set_cons_zero, List.set_cons_succ]
        refine wpAnyH_take (i := 11) (oi := ?oi34) (v := ?v34) ?hi34 (by kernel_rfl) (by kernel_rfl) (by kernel_rfl) ?hQ34 (Or.inl ⟨?hw34, ?hy34⟩) (by assumption) ?hr34
        case hi34 => simp only [List.getElem?_toArray, List.getElem?_cons_succ, List.getElem?_cons_zero]; rfl
        case hQ34 => exact fun _ _ _ h => h
        case hw34 => rfl
        case hy34 => intro w hSw; (try dsimp only at hSw); go_simp; (try with_reducible rfl)
        case hr34 =>
        simp only [Act.put, List.setIfInBounds_toArray, List.set_cons_zero, List.set_cons_succ]
        refine wpAnyH_done (by kernel_rfl) ?_ _
        go_wp2_with fail
        go_roundw
        case rel => exact ⟨i, hh, rfl, rfl, HK.out.1, HHH.out.1, by have := HHH.out; have := HK.out; omega, HK.out.2.2.2.1, fun _ h1 h2 => HLC.out.1 hcv, HK.out.2.2.2.2.2.trans ((Chg.refl [] wr).drew.trans HW2.out)⟩
        case measure => have := HHH.out; simp [intOf]; omega
      · have hcd : decide (cv < 0) = false := decide_eq_false hcv
        go_upto_region 17 with (fail)
        refine wp_region_held_drew (S := fun v => v.cell? ⟨g, m * 6, none⟩ = some (.int .i64 x1) ∧ v.cell? ⟨g, m * 6 + 1, none⟩ = some (.string x2) ∧ v.cell? ⟨g, m * 6 + 2, none⟩ = some (.int .i64 x3) ∧ v.cell? ⟨g, m * 6 + 3, none⟩ = some (.string x4) ∧ v.cell? ⟨g, m * 6 + 4, none⟩ = some (.slice xa xl xc) ∧ v.cell? ⟨g, m * 6 + 5, none⟩ = some (.int .i64 x6) ∧ v.cell? ⟨g, hh * 6, none⟩ = some (.int .i64 y1) ∧ v.cell? ⟨g, hh * 6 + 1, none⟩ = some (.string y2) ∧ v.cell? ⟨g, hh * 6 + 2, none⟩ = some (.int .i64 y3) ∧ v.cell? ⟨g, hh * 6 + 3, none⟩ = some (.string y4) ∧ v.cell? ⟨g, hh * 6 + 4, none⟩ = some (.slice ya yl yc) ∧ v.cell? ⟨g, hh * 6 + 5, none⟩ = some (.int .i64 y6)) (by kernel_rfl) ?_ (fun hHeld => ?_)
        · exact HYC.out _ (Chg.refl [] wr).drew
        refine wpAnyH_take (i := 0) (oi := ?oi35) (v := ?v35) ?hi35 (by kernel_rfl) (by kernel_rfl) (by kernel_rfl) ?hQ35 (Or.inl ⟨?hw35, ?hy35⟩) (by assumption) ?hr35
        case hi35 => simp only [List.getElem?_toArray, List.getElem?_cons_zero]; rfl
        case hQ35 => exact fun _ _ _ h => h
        case hw35 => rfl
        case hy35 => intro w hSw; (try dsimp only at hSw); go_simp; (try with_reducible rfl)
        case hr35 =>
        simp only [Act.put, List.setIfInBounds_toArray, List.set_cons_zero, List.set_cons_succ]
        refine wpAnyH_take (i := 1) (oi := ?oi36) (v := ?v36) ?hi36 (by kernel_rfl) (by kernel_rfl) (by kernel_rfl) ?hQ36 (Or.inl ⟨?hw36, ?hy36⟩) (by assumption) ?hr36
        case hi36 => simp only [List.getElem?_toArray, List.getElem?_cons_succ, List.getElem?_cons_zero]; rfl
        case hQ36 => exact fun _ _ _ h => h
        case hw36 => rfl
        case hy36 => intro w hSw; (try dsimp only at hSw); go_simp; (try with_reducible rfl)
        case hr36 =>
        simp only [Act.put, List.setIfInBounds_toArray, List.set_cons_zero, List.set_cons_succ]
        refine wpAnyH_take (i := 2) (oi := ?oi37) (v := ?v37) ?hi37 (by kernel_rfl) (by kernel_rfl) (by kernel_rfl) ?hQ37 (Or.inl ⟨?hw37, ?hy37⟩) (by assumption) ?hr37
        case hi37 => simp only [List.getElem?_toArray, List.getElem?_cons_succ, List.getElem?_cons_zero]; rfl
        case hQ37 => exact fun _ _ _ h => h
        case hw37 => rfl
        case hy37 => intro w hSw; (try dsimp only at hSw); go_simp; (try with_reducible rfl)
        case hr37 =>
        simp only [Act.put, List.setIfInBounds_toArray, List.set_cons_zero, List.set_cons_succ]
        refine wpAnyH_take (i := 3) (oi := ?oi38) (v := ?v38) ?hi38 (by kernel_rfl) (by kernel_rfl) (by kernel_rfl) ?hQ38 (Or.inl ⟨?hw38, ?hy38⟩) (by assumption) ?hr38
        case hi38 => simp only [List.getElem?_toArray, List.getElem?_cons_succ, List.getElem?_cons_zero]; rfl
        case hQ38 => exact fun _ _ _ h => h
        case hw38 => rfl
        case hy38 => intro w hSw; (try dsimp only at hSw); go_simp; (try with_reducible rfl)
        case hr38 =>
        simp only [Act.put, List.setIfInBounds_toArray, List.set_cons_zero, List.set_cons_succ]
        refine wpAnyH_take (i := 4) (oi := ?oi39) (v := ?v39) ?hi39 (by kernel_rfl) (by kernel_rfl) (by kernel_rfl) ?hQ39 (Or.inl ⟨?hw39, ?hy39⟩) (by assumption) ?hr39
        case hi39 => simp only [List.getElem?_toArray, List.getElem?_cons_succ, List.getElem?_cons_zero]; rfl
        case hQ39 => exact fun _ _ _ h => h
        case hw39 => rfl
        case hy39 => intro w hSw; (try dsimp only at hSw); go_simp; (try with_reducible rfl)
        case hr39 =>
        simp only [Act.put, List.setIfInBounds_toArray, List.set_cons_zero, List.set_cons_succ]
        refine wpAnyH_take (i := 5) (oi := ?oi40) (v := ?v40) ?hi40 (by kernel_rfl) (by kernel_rfl) (by kernel_rfl) ?hQ40 (Or.inl ⟨?hw40, ?hy40⟩) (by assumption) ?hr40
        case hi40 => simp only [List.getElem?_toArray, List.getElem?_cons_succ, List.getElem?_cons_zero]; rfl
        case hQ40 => exact fun _ _ _ h => h
        case hw40 => rfl
        case hy40 => intro w hSw; (try dsimp only at hSw); go_simp; (try with_reducible rfl)
        case hr40 =>
        simp only [Act.put, List.setIfInBounds_toArray, List.set_cons_zero, List.set_cons_succ]
        refine wpAnyH_take (i := 6) (oi := ?oi41) (v := ?v41) ?hi41 (by kernel_rfl) (by kernel_rfl) (by kernel_rfl) ?hQ41 (Or.inl ⟨?hw41, ?hy41⟩) (by assumption) ?hr41
        case hi41 => simp only [List.getElem?_toArray, List.getElem?_cons_succ, List.getElem?_cons_zero]; rfl
        case hQ41 => exact fun _ _ _ h => h
        case hw41 => rfl
        case hy41 => intro w hSw; (try dsimp only at hSw); go_simp; (try with_reducible rfl)
        case hr41 =>
        simp only [Act.put, List.setIfInBounds_toArray, List.set_cons_zero, List.set_cons_succ]
        refine wpAnyH_take (i := 7) (oi := ?oi42) (v := ?v42) ?hi42 (by kernel_rfl) (by kernel_rfl) (by kernel_rfl) ?hQ42 (Or.inl ⟨?hw42, ?hy42⟩) (by assumption) ?hr42
        case hi42 => simp only [List.getElem?_toArray, List.getElem?_cons_succ, List.getElem?_cons_zero]; rfl
        case hQ42 => exact fun _ _ _ h => h
        case hw42 => rfl
        case hy42 => intro w hSw; (try dsimp only at hSw); go_simp; (try with_reducible rfl)
        case hr42 =>
        simp only [Act.put, List.setIfInBounds_toArray, List.set_cons_zero, List.set_cons_succ]
        refine wpAnyH_take (i := 8) (oi := ?oi43) (v := ?v43) ?hi43 (by kernel_rfl) (by kernel_rfl) (by kernel_rfl) ?hQ43 (Or.inl ⟨?hw43, ?hy43⟩) (by assumption) ?hr43
        case hi43 => simp only [List.getElem?_toArray, List.getElem?_cons_succ, List.getElem?_cons_zero]; rfl
        case hQ43 => exact fun _ _ _ h => h
        case hw43 => rfl
        case hy43 => intro w hSw; (try dsimp only at hSw); go_simp; (try with_reducible rfl)
        case hr43 =>
        simp only [Act.put, List.setIfInBounds_toArray, List.set_cons_zero, List.set_cons_succ]
        refine wpAnyH_ready (rs := [9]) (by kernel_rfl) (by simp) (AllReadyH.cons (o := ?oc44) ?hc44 (fun K hK => ?hs44) AllReadyH.nil)
        case hc44 => simp only [List.getElem?_toArray, List.getElem?_cons_succ, List.getElem?_cons_zero]; rfl
        case hs44 =>
        rw [if_pos (by rfl)]
        go_simp
        go_at_call 77; refine (HX.out _).mono ?_; rintro e w2 ⟨rfl, hw2⟩; have HW2 := Lib.hid hw2; clear hw2
        go_wp2_with fail
        refine hK.out _ _ ?_ (fun hHeld => ?_)
        · exact HYC.out _ ((Chg.refl [] wr).drew.trans HW2.out)
        clear hK K
        try simp only [Act.put, List.setIfInBounds_toArray, List.set_cons_zero, List.set_cons_succ]
        refine wpAnyH_take (i := 10) (oi := ?oi45) (v := ?v45) ?hi45 (by kernel_rfl) (by kernel_rfl) (by kernel_rfl) ?hQ45 (Or.inl ⟨?hw45, ?hy45⟩) (by assumption) ?hr45
        case hi45 => simp only [List.getElem?_toArray, List.getElem?_cons_succ, List.getElem?_cons_zero]; rfl
        case hQ45 => exact fun _ _ _ h => h
        case hw45 => rfl
        case hy45 => intro w hSw; (try dsimp only at hSw); go_simp; (try with_reducible rfl)
        case hr45 =>
        simp only [Act.put, List.setIfInBounds_toArray, List.set_cons_zero, List.set_cons_succ]
        refine wpAnyH_take (i := 11) (oi := ?oi46) (v := ?v46) ?hi46 (by kernel_rfl) (by kernel_rfl) (by kernel_rfl) ?hQ46 (Or.inl ⟨?hw46, ?hy46⟩) (by assumption) ?hr46
        case hi46 => simp only [List.getElem?_toArray, List.getElem?_cons_succ, List.getElem?_cons_zero]; rfl
        case hQ46 => exact fun _ _ _ h => h
        case hw46 => rfl
        case hy46 => intro w hSw; (try dsimp only at hSw); go_simp; (try with_reducible rfl)
        case hr46 =>
        simp only [Act.put, List.setIfInBounds_toArray, List.set_cons_zero, List.set_cons_succ]
        refine wpAnyH_done (by kernel_rfl) ?_ _
        go_wp2_with fail
        go_roundw
        case rel => exact ⟨hh + 1, j, by go_num, rfl, by have := HHH.out; have := HK.out; omega, by have := HHH.out; omega, HK.out.2.2.1, fun _ h1 h2 => fun h3 => absurd (HLC.out.2 h3) (by omega), HK.out.2.2.2.2.1, HK.out.2.2.2.2.2.trans ((Chg.refl [] wr).drew.trans HW2.out)⟩
        case measure => have := HHH.out; simp [intOf]; omega
    · obtain rfl : i = j := by have := HK.out.2.1; omega
      have HD := Lib.hid (show Asc nkey (rot L i m (m + 1)) a b from by
        have e := HB.out.2.1
        have := HK.out
        have := HB.out
        have hl := HA.out.2
        subst e
        exact oneR_done HA.out.1 HK.out.1 HK.out.2.2.1 (by omega) (fun h1 h2 => HK.out.2.2.2.1 h1 h2 _) (fun h1 h2 => HK.out.2.2.2.2.1 h1 h2 _))
      have HI := Lib.hid (show a ≤ i ∧ i ≤ m ∧ m + 1 ≤ n ∧ m < L.length from ⟨HK.out.1, HK.out.2.2.1, by have := HB.out; omega, by have := HB.out; have := HA.out.2; omega⟩)
      go_wp2_with fail
      go_loopw [17] (fun u wq => ∃ k : Nat, u = .int .i64 k ∧ i ≤ k ∧ k ≤ m ∧ NRow wq g n c (rot L k m (m + 1)) ∧ Chg [g] w wq) (fun u _ => (intOf u).toNat)
      case atStart => exact ⟨m, rfl, HI.out.2.1, Nat.le_refl _, by rw [rot_same_l _ (by omega)]; exact HS.out.chg HK.out.2.2.2.2.2 (by simp), HK.out.2.2.2.2.2.mono (by simp)⟩
      case round =>
        obtain ⟨k, rfl, hak, hki, hr, hk⟩ := hrel
        have HQ := Lib.hid (And.intro hak (And.intro hki (And.intro hr hk)))
        have hkB : k ≤ 1000000 := by omega
        clear hak hki hr hk
        by_cases hlt : i < k
        · obtain ⟨q, hq⟩ : ∃ q, q = k - 1 := ⟨_, rfl⟩
          have hqi : (k : Int) - 1 = (q : Int) := by omega
          have hqw : IntKind.i64.wrap (q : Int) = (q : Int) := IntWalk.i64_in _ (by omega)
          have hqB : q ≤ 1000000 := by omega
          have hkn : k < n := by have := HI.out; have := HQ.out; omega
          have hqn : q < n := by omega
          have hki : (k : Int) > (i : Int) := by omega
          have HQQ := Lib.hid (And.intro hq hlt)
          clear hq
          obtain ⟨x, xa, xl, xc, y, ya, yl, yc, hx, hy, hxe, hye, _⟩ := HQ.out.2.2.1.pair hkn hqn
          have hsw := (HQ.out.2.2.1.chg (Chg.refl [] wr).drew (by simp)).swap hkn hqn hxe hye
          obtain ⟨x1, x2, x3, x4, x5, x6⟩ := x
          obtain ⟨y1, y2, y3, y4, y5, y6⟩ := y
          unfold ndc at hsw
          unfold NdAt at hx hy
          simp only at hx hy hsw
          generalize ba x2 = x2 at *
          generalize ba y2 = y2 at *
          generalize ba x4 = x4 at *
          generalize ba y4 = y4 at *
          have kw : Chg [] wr wr.drew := (Chg.refl _ _).drew
          have HXY := Lib.hid (show (fun v => v.cell? ⟨g, k * 6, none⟩ = some (.int .i64 x1) ∧ v.cell? ⟨g, k * 6 + 1, none⟩ = some (.string x2) ∧ v.cell? ⟨g, k * 6 + 2, none⟩ = some (.int .i64 x3) ∧ v.cell? ⟨g, k * 6 + 3, none⟩ = some (.string x4) ∧ v.cell? ⟨g, k * 6 + 4, none⟩ = some (.slice xa xl xc) ∧ v.cell? ⟨g, k * 6 + 5, none⟩ = some (.int .i64 x6) ∧ v.cell? ⟨g, q * 6, none⟩ = some (.int .i64 y1) ∧ v.cell? ⟨g, q * 6 + 1, none⟩ = some (.string y2) ∧ v.cell? ⟨g, q * 6 + 2, none⟩ = some (.int .i64 y3) ∧ v.cell? ⟨g, q * 6 + 3, none⟩ = some (.string y4) ∧ v.cell? ⟨g, q * 6 + 4, none⟩ = some (.slice ya yl yc) ∧ v.cell? ⟨g, q * 6 + 5, none⟩ = some (.int .i64 y6)) wr.drew from ⟨kw.cell hx.1 (by simp), kw.cell hx.2.1 (by simp), kw.cell hx.2.2.1 (by simp), kw.cell hx.2.2.2.1 (by simp), kw.cell hx.2.2.2.2.1 (by simp), kw.cell hx.2.2.2.2.2 (by simp), kw.cell hy.1 (by simp), kw.cell hy.2.1 (by simp), kw.cell hy.2.2.1 (by simp), kw.cell hy.2.2.2.1 (by simp), kw.cell hy.2.2.2.2.1 (by simp), kw.cell hy.2.2.2.2.2 (by simp)⟩)
          have HSW := Lib.hid hsw
          clear hx hy hxe hye hsw kw
          go_upto_region 23 with (fail)
          obtain ⟨W1, hW1⟩ : ∃ x, x = wr.drew.setCells g (k * 6) [.int .i64 y1, .string y2, .int .i64 y3, .string y4, .slice ya yl yc, .int .i64 y6] := ⟨_, rfl⟩
          have hs1 := HSW.out
          rw [← hW1] at hs1
          replace HSW := Lib.hid hs1
          have HW1 := Lib.hid hW1
          clear hs1 hW1
          refine wp_region_mark (S := fun v => v.cell? ⟨g, k * 6, none⟩ = some (.int .i64 x1) ∧ v.cell? ⟨g, k * 6 + 1, none⟩ = some (.string x2) ∧ v.cell? ⟨g, k * 6 + 2, none⟩ = some (.int .i64 x3) ∧ v.cell? ⟨g, k * 6 + 3, none⟩ = some (.string x4) ∧ v.cell? ⟨g, k * 6 + 4, none⟩ = some (.slice xa xl xc) ∧ v.cell? ⟨g, k * 6 + 5, none⟩ = some (.int .i64 x6) ∧ v.cell? ⟨g, q * 6, none⟩ = some (.int .i64 y1) ∧ v.cell? ⟨g, q * 6 + 1, none⟩ = some (.string y2) ∧ v.cell? ⟨g, q * 6 + 2, none⟩ = some (.int .i64 y3) ∧ v.cell? ⟨g, q * 6 + 3, none⟩ = some (.string y4) ∧ v.cell? ⟨g, q * 6 + 4, none⟩ = some (.slice ya yl yc) ∧ v.cell? ⟨g, q * 6 + 5, none⟩ = some (.int .i64 y6)) 14 (by kernel_rfl) ?_ (fun hHeld => ?_)
          · exact HXY.out
          refine wpAnyF_pure (i := 0) (oi := ?oi65) (v := ?v65) ?hi65 (by kernel_rfl) (by kernel_rfl) (by kernel_rfl) (by kernel_rfl) ?hQ65 (Or.inl ⟨?hw65, ?hy65⟩) (Or.inr (by assumption)) ?hr65
          case hi65 => simp only [List.getElem?_toArray, List.getElem?_cons_zero]; rfl
          case hQ65 => exact fun _ _ _ h => h
          case hw65 => rfl
          case hy65 => intro w hSw; (try dsimp only at hSw); go_simp; (try with_reducible rfl)
          case hr65 =>
          simp only [Act.put, List.setIfInBounds_toArray, List.set_cons_zero, List.set_cons_succ]
          refine wpAnyF_pure (i := 1) (oi := ?oi66) (v := ?v66) ?hi66 (by kernel_rfl) (by kernel_rfl) (by kernel_rfl) (by kernel_rfl) ?hQ66 (Or.inl ⟨?hw66, ?hy66⟩) (Or.inr (by assumption)) ?hr66
          case hi66 => simp only [List.getElem?_toArray, List.getElem?_cons_succ, List.getElem?_cons_zero]; rfl
          case hQ66 => exact fun _ _ _ h => h
          case hw66 => rfl
          case hy66 => intro w hSw; (try dsimp only at hSw); go_simp; (try with_reducible rfl)
          case hr66 =>
          simp only [Act.put, List.setIfInBounds_toArray, List.set_cons_zero, List.set_cons_succ]
          refine wpAnyF_pure (i := 2) (oi := ?oi67) (v := ?v67) ?hi67 (by kernel_rfl) (by kernel_rfl) (by kernel_rfl) (by kernel_rfl) ?hQ67 (Or.inl ⟨?hw67, ?hy67⟩) (Or.inr (by assumption)) ?hr67
          case hi67 => simp only [List.getElem?_toArray, List.getElem?_cons_succ, List.getElem?_cons_zero]; rfl
          case hQ67 => exact fun _ _ _ h => h
          case hw67 => rfl
          case hy67 => intro w hSw; (try dsimp only at hSw); go_simp; (try with_reducible rfl)
          case hr67 =>
          simp only [Act.put, List.setIfInBounds_toArray, List.set_cons_zero, List.set_cons_succ]
          refine wpAnyF_pure (i := 3) (oi := ?oi68) (v := ?v68) ?hi68 (by kernel_rfl) (by kernel_rfl) (by kernel_rfl) (by kernel_rfl) ?hQ68 (Or.inl ⟨?hw68, ?hy68⟩) (Or.inr (by assumption)) ?hr68
          case hi68 => simp only [List.getElem?_toArray, List.getElem?_cons_succ, List.getElem?_cons_zero]; rfl
          case hQ68 => exact fun _ _ _ h => h
          case hw68 => rfl
          case hy68 => intro w hSw; (try dsimp only at hSw); go_simp; (try with_reducible rfl)
          case hr68 =>
          simp only [Act.put, List.setIfInBounds_toArray, List.set_cons_zero, List.set_cons_succ]
          refine wpAnyF_pure (i := 4) (oi := ?oi69) (v := ?v69) ?hi69 (by kernel_rfl) (by kernel_rfl) (by kernel_rfl) (by kernel_rfl) ?hQ69 (Or.inl ⟨?hw69, ?hy69⟩) (Or.inr (by assumption)) ?hr69
          case hi69 => simp only [List.getElem?_toArray, List.getElem?_cons_succ, List.getElem?_cons_zero]; rfl
          case hQ69 => exact fun _ _ _ h => h
          case hw69 => rfl
          case hy69 => intro w hSw; (try dsimp only at hSw); go_simp; (try with_reducible rfl)
          case hr69 =>
          simp only [Act.put, List.setIfInBounds_toArray, List.set_cons_zero, List.set_cons_succ]
          refine wpAnyF_pure (i := 5) (oi := ?oi70) (v := ?v70) ?hi70 (by kernel_rfl) (by kernel_rfl) (by kernel_rfl) (by kernel_rfl) ?hQ70 (Or.inl ⟨?hw70, ?hy70⟩) (Or.inr (by assumption)) ?hr70
          case hi70 => simp only [List.getElem?_toArray, List.getElem?_cons_succ, List.getElem?_cons_zero]; rfl
          case hQ70 => exact fun _ _ _ h => h
          case hw70 => rfl
          case hy70 => intro w hSw; (try dsimp only at hSw); go_simp; (try with_reducible rfl)
          case hr70 =>
          simp only [Act.put, List.setIfInBounds_toArray, List.set_cons_zero, List.set_cons_succ]
          refine wpAnyF_pure (i := 6) (oi := ?oi71) (v := ?v71) ?hi71 (by kernel_rfl) (by kernel_rfl) (by kernel_rfl) (by kernel_rfl) ?hQ71 (Or.inl ⟨?hw71, ?hy71⟩) (Or.inr (by assumption)) ?hr71
          case hi71 => simp only [List.getElem?_toArray, List.getElem?_cons_succ, List.getElem?_cons_zero]; rfl
          case hQ71 => exact fun _ _ _ h => h
          case hw71 => rfl
          case hy71 => intro w hSw; (try dsimp only at hSw); go_simp; (try with_reducible rfl)
          case hr71 =>
          simp only [Act.put, List.setIfInBounds_toArray, List.set_cons_zero, List.set_cons_succ]
          refine wpAnyF_pure (i := 7) (oi := ?oi72) (v := ?v72) ?hi72 (by kernel_rfl) (by kernel_rfl) (by kernel_rfl) (by kernel_rfl) ?hQ72 (Or.inl ⟨?hw72, ?hy72⟩) (Or.inr (by assumption)) ?hr72
          case hi72 => simp only [List.getElem?_toArray, List.getElem?_cons_succ, List.getElem?_cons_zero]; rfl
          case hQ72 => exact fun _ _ _ h => h
          case hw72 => rfl
          case hy72 => intro w hSw; (try dsimp only at hSw); go_simp; (try with_reducible rfl)
          case hr72 =>
          simp only [Act.put, List.setIfInBounds_toArray, List.set_cons_zero, List.set_cons_succ]
          refine wpAnyF_pure (i := 8) (oi := ?oi73) (v := ?v73) ?hi73 (by kernel_rfl) (by kernel_rfl) (by kernel_rfl) (by kernel_rfl) ?hQ73 (Or.inl ⟨?hw73, ?hy73⟩) (Or.inr (by assumption)) ?hr73
          case hi73 => simp only [List.getElem?_toArray, List.getElem?_cons_succ, List.getElem?_cons_zero]; rfl
          case hQ73 => exact fun _ _ _ h => h
          case hw73 => rfl
          case hy73 => intro w hSw; (try dsimp only at hSw); go_simp; (try with_reducible rfl)
          case hr73 =>
          simp only [Act.put, List.setIfInBounds_toArray, List.set_cons_zero, List.set_cons_succ]
          refine wpAnyF_take (i := 9) (oi := ?oi74) (v := ?v74) ?hi74 (by kernel_rfl) (by kernel_rfl) (by kernel_rfl) (by kernel_rfl) (by kernel_rfl) ?hQ74 (Or.inl ⟨?hw74, ?hy74⟩) (by assumption) ?hr74
          case hi74 => simp only [List.getElem?_toArray, List.getElem?_cons_succ, List.getElem?_cons_zero]; rfl
          case hQ74 => exact fun _ _ _ h => h
          case hw74 => rfl
          case hy74 => intro w hSw; (try dsimp only at hSw); go_simp; (try with_reducible rfl)
          case hr74 =>
          simp only [Act.put, List.setIfInBounds_toArray, List.set_cons_zero, List.set_cons_succ]
          refine wpAnyF_pure (i := 10) (oi := ?oi75) (v := ?v75) ?hi75 (by kernel_rfl) (by kernel_rfl) (by kernel_rfl) (by kernel_rfl) ?hQ75 (Or.inl ⟨?hw75, ?hy75⟩) (Or.inr (by assumption)) ?hr75
          case hi75 => simp only [List.getElem?_toArray, List.getElem?_cons_succ, List.getElem?_cons_zero]; rfl
          case hQ75 => exact fun _ _ _ h => h
          case hw75 => rfl
          case hy75 => intro w hSw; (try dsimp only at hSw); go_simp; (try with_reducible rfl)
          case hr75 =>
          simp only [Act.put, List.setIfInBounds_toArray, List.set_cons_zero, List.set_cons_succ]
          refine wpAnyF_pure (i := 11) (oi := ?oi76) (v := ?v76) ?hi76 (by kernel_rfl) (by kernel_rfl) (by kernel_rfl) (by kernel_rfl) ?hQ76 (Or.inl ⟨?hw76, ?hy76⟩) (Or.inr (by assumption)) ?hr76
          case hi76 => simp only [List.getElem?_toArray, List.getElem?_cons_succ, List.getElem?_cons_zero]; rfl
          case hQ76 => exact fun _ _ _ h => h
          case hw76 => rfl
          case hy76 => intro w hSw; (try dsimp only at hSw); go_simp; (try with_reducible rfl)
          case hr76 =>
          simp only [Act.put, List.setIfInBounds_toArray, List.set_cons_zero, List.set_cons_succ]
          refine wpAnyF_pure (i := 12) (oi := ?oi77) (v := ?v77) ?hi77 (by kernel_rfl) (by kernel_rfl) (by kernel_rfl) (by kernel_rfl) ?hQ77 (Or.inl ⟨?hw77, ?hy77⟩) (Or.inr (by assumption)) ?hr77
          case hi77 => simp only [List.getElem?_toArray, List.getElem?_cons_succ, List.getElem?_cons_zero]; rfl
          case hQ77 => exact fun _ _ _ h => h
          case hw77 => rfl
          case hy77 => intro w hSw; (try dsimp only at hSw); go_simp; (try with_reducible rfl)
          case hr77 =>
          simp only [Act.put, List.setIfInBounds_toArray, List.set_cons_zero, List.set_cons_succ]
          refine wpAnyF_take (i := 13) (oi := ?oi78) (v := ?v78) ?hi78 (by kernel_rfl) (by kernel_rfl) (by kernel_rfl) (by kernel_rfl) (by kernel_rfl) ?hQ78 (Or.inl ⟨?hw78, ?hy78⟩) (by assumption) ?hr78
          case hi78 => simp only [List.getElem?_toArray, List.getElem?_cons_succ, List.getElem?_cons_zero]; rfl
          case hQ78 => exact fun _ _ _ h => h
          case hw78 => rfl
          case hy78 => intro w hSw; (try dsimp only at hSw); go_simp; (try with_reducible rfl)
          case hr78 =>
          simp only [Act.put, List.setIfInBounds_toArray, List.set_cons_zero, List.set_cons_succ]
          refine wpAnyF_ready (i := 14) (o := ?oc79) (by kernel_rfl) ?hc79 (by kernel_rfl) (fun K hK => ?hs79)
          case hc79 => simp only [List.getElem?_toArray, List.getElem?_cons_succ, List.getElem?_cons_zero]; rfl
          case hs79 =>
          rw [if_pos (by rfl)]
          go_simp
          refine hK.out _ _ ?_
          clear hK K
          try simp only [Act.put, List.setIfInBounds_toArray, List.set_cons_zero, List.set_cons_succ]
          refine wpAnyF_ready (i := 15) (o := ?oc80) (by kernel_rfl) ?hc80 (by kernel_rfl) (fun K hK => ?hs80)
          case hc80 => simp only [List.getElem?_toArray, List.getElem?_cons_succ, List.getElem?_cons_zero]; rfl
          case hs80 =>
          rw [if_pos (by rfl)]
          refine wp_store_mid 45 (.tmp 127) (.tmp 122) rfl g (k * 6) #[.int .i64 y1, .string y2, .int .i64 y3, .string y4, .slice ya yl yc, .int .i64 y6] rfl rfl HSW.out.1 Tryz.nodeSize (nd_ones _ _ _ _ _ _ _ _) ?_; dsimp only; rw [← HW1.out]
          refine hK.out _ _ ?_
          clear hK K
          try simp only [Act.put]
          refine wpAnyF_ready (i := 16) (o := ?oc81) (by kernel_rfl) ?hc81 (by kernel_rfl) (fun K hK => ?hs81)
          case hc81 => simp only [List.getElem?_toArray, List.getElem?_cons_succ, List.getElem?_cons_zero]; rfl
          case hs81 =>
          rw [if_pos (by rfl)]
          go_simp
          refine hK.out _ _ ?_
          clear hK K
          try simp only [Act.put, List.setIfInBounds_toArray, List.set_cons_zero, List.set_cons_succ]
          refine wpAnyF_ready (i := 17) (o := ?oc82) (by kernel_rfl) ?hc82 (by kernel_rfl) (fun K hK => ?hs82)
          case hc82 => simp only [List.getElem?_toArray, List.getElem?_cons_succ, List.getElem?_cons_zero]; rfl
          case hs82 =>
          rw [if_pos (by rfl)]
          refine wp_store_mid 45 (.tmp 128) (.tmp 126) rfl g (q * 6) #[.int .i64 x1, .string x2, .int .i64 x3, .string x4, .slice xa xl xc, .int .i64 x6] rfl rfl HSW.out.2.1 Tryz.nodeSize (nd_ones _ _ _ _ _ _ _ _) ?_; dsimp only
          refine hK.out _ _ ?_
          clear hK K
          try simp only [Act.put]
          refine wpAnyF_done (by kernel_rfl) ?_ _
          go_wp2_with fail
          go_roundw
          case rel =>
            refine ⟨q, by first | rfl | go_num, by have := HQQ.out; omega, by have := HQQ.out; have := HQ.out; omega, ?_, HQ.out.2.2.2.trans ((Chg.refl [g] wr).drew.trans HSW.out.2.2.2)⟩
            have h1 := HSW.out.2.2.1
            have h2 := rot_left (L := L) (k := q) (m := m) (by have := HQQ.out; have := HQ.out; omega) HI.out.2.2.2
            rw [show q + 1 = k by have := HQQ.out; omega] at h2
            rw [h2] at h1
            exact h1
          case measure => have := HQQ.out; simp [intOf]; omega
        · obtain rfl : k = i := by have := HQ.out.1; omega
          have hki : ¬ (k : Int) > (k : Int) := by omega
          go_wp2_with fail
          refine bodyPost_ret (v := .tuple #[]) (by simp [results, Tryz.results121, go_sem]) rfl ⟨rfl, rot L k m (m + 1), HQ.out.2.2.1, ?_, HD.out, HQ.out.2.2.2⟩
          exact (rot_shuf HI.out.2.1 (by omega) (by have := HI.out; omega)).wide HI.out.1 (by have := HI.out; omega) (by have := HB.out; omega)
set_option maxRecDepth 100000 in
set_option maxHeartbeats 16000000 in
theorem symGA (w : World) (g n c : Nat) (L : List (ANode × Value)) (a m b mid : Nat) (h : NRow w g n c L) (hm : a + 1 < m) (hmb : m + 1 < b) (hb : b ≤ n) (k1 : Asc nkey L a m) (k2 : Asc nkey L m b) (hmid : mid = (a + b) / 2) (hcond : mid < m)
    (hrec : ∀ W L' a' m' b', NRow W g n c L' → Asc nkey L' a' m' → Asc nkey L' m' b' → a' < m' → m' < b' → b' ≤ n → b' - a' < b - a → Calls Tryz.prog 121 #[.slice (some ⟨g, 0, none⟩) n c, .int .i64 a', .int .i64 m', .int .i64 b', .func (.func 77) #[] #[]] W fun e W' => e = .returned (.tuple #[]) ∧ SortedTo W W' g n c L' a' b') :
    Calls Tryz.prog 121 #[.slice (some ⟨g, 0, none⟩) n c, .int .i64 a, .int .i64 m, .int .i64 b, .func (.func 77) #[] #[]] w fun e w' => e = .returned (.tuple #[]) ∧ SortedTo w w' g n c L a b := by
  have HS := Lib.hid h
  have HA := Lib.hid (And.intro k1 (And.intro k2 (show L.length = n from h.len)))
  have HR := Lib.hid hrec
  have hbB : b ≤ 1000000 := by have := h.short; omega
  have haB : a ≤ 1000000 := by omega
  have hmB : m ≤ 1000000 := by omega
  have hma : ¬ (m : Int) - (a : Int) = 1 := by omega
  have hbm : ¬ (b : Int) - (m : Int) = 1 := by omega
  have hmab : ((m : Int) - (a : Int) == 1) = false := by simpa using hma
  have hbmb : ((b : Int) - (m : Int) == 1) = false := by simpa using hbm
  have hmi : ((a : Int) + (b : Int)) / 2 = (mid : Int) := by omega
  have hmidB : mid ≤ 1000000 := by omega
  obtain ⟨nn, hnn⟩ : ∃ x, x = mid + m := ⟨_, rfl⟩
  have hni : (mid : Int) + (m : Int) = (nn : Int) := by omega
  have hnB : nn ≤ 2000000 := by omega
  obtain ⟨p, hp⟩ : ∃ x, x = nn - 1 := ⟨_, rfl⟩
  have hpi : (nn : Int) - 1 = (p : Int) := by omega
  have hpB : p ≤ 2000000 := by omega
  obtain ⟨s0, hs0⟩ : ∃ x, x = nn - b := ⟨_, rfl⟩
  have hsi : (nn : Int) - (b : Int) = (s0 : Int) := by omega
  have hs0B : s0 ≤ 1000000 := by omega
  have hlt0 : (m : Int) > (mid : Int) := by omega
  obtain ⟨r0, hr0⟩ : ∃ x, x = mid := ⟨_, rfl⟩
  have HS0 := Lib.hid (show a ≤ s0 ∧ s0 ≤ r0 ∧ r0 ≤ m ∧ nn ≤ b + s0 ∧ m + r0 ≤ nn ∧ (s0 = a ∨ nn = b + s0) ∧ (r0 = m ∨ nn = m + r0) from ⟨by omega, by omega, by omega, by omega, by omega, by omega, by omega⟩)
  have HB := Lib.hid (And.intro hm (And.intro hmb (And.intro hb (And.intro hmid (And.intro hnn hp)))))
  clear h hm hmb hb hrec hmid hnn hp hcond k1 k2  hs0
  go_enter Tryz.func121, Tryz.ntmps121
  go_wp2_with fail
  go_loopw [20, 21, 23] (fun u v _ wr => ∃ st r : Nat, u = .int .i64 st ∧ v = .int .i64 r ∧ s0 ≤ st ∧ st ≤ r ∧ r ≤ r0 ∧ (s0 < st → ∀ h1 : p - (st - 1) < L.length, ∀ h2 : st - 1 < L.length, ¬ nkey L[p - (st - 1)] < nkey L[st - 1]) ∧ (r < r0 → ∀ h1 : p - r < L.length, ∀ h2 : r < L.length, nkey L[p - r] < nkey L[r]) ∧ Chg [] w wr) (fun u v _ _ => (intOf v).toNat - (intOf u).toNat)
  case atStart => exact ⟨s0, r0, rfl, by rw [hr0], Nat.le_refl _, HS0.out.2.1, Nat.le_refl _, fun h => by omega, fun h => by omega, Chg.refl _ _⟩
  case round =>
    obtain ⟨st, r, rfl, rfl, hs1, hs2, hs3, hlo, hhi, hk⟩ := hrel
    have HK := Lib.hid (And.intro hs1 (And.intro hs2 (And.intro hs3 (And.intro hlo (And.intro hhi hk)))))
    have hsB : st ≤ 1000000 := by have := HS0.out; omega
    have hrB : r ≤ 1000000 := by have := HS0.out; omega
    clear hs1 hs2 hs3 hlo hhi hk
    by_cases hlt : st < r
    · obtain ⟨cc, hcc⟩ : ∃ x, x = (st + r) / 2 := ⟨_, rfl⟩
      have hci : ((st : Int) + (r : Int)) / 2 = (cc : Int) := by omega
      have hcB : cc ≤ 1000000 := by omega
      have hcw : IntKind.i64.wrap (cc : Int) = (cc : Int) := IntWalk.i64_in _ (by omega)
      obtain ⟨pc, hpc⟩ : ∃ x, x = p - cc := ⟨_, rfl⟩
      have hpci : (p : Int) - (cc : Int) = (pc : Int) := by have := HB.out; have := HS0.out; have := HK.out.2.2.1; omega
      have hpcB : pc ≤ 2000000 := by omega
      have hpcw : IntKind.i64.wrap (pc : Int) = (pc : Int) := IntWalk.i64_in _ (by omega)
      have hhn : pc < n := by have := HB.out; have := HS0.out; have := HK.out.1; omega
      have han : cc < n := by have := HB.out; have := HS0.out; have := HK.out.2.2.1; omega
      have HHH := Lib.hid (And.intro (show st ≤ cc by omega) (And.intro (show cc < r by omega) hpc))
      clear hcc hpc
      obtain ⟨x, xa, xl, xc, y, ya, yl, yc, hx, hy, hxe, hye, hcmp⟩ := (HS.out.chg HK.out.2.2.2.2.2 (by simp)).pair hhn han
      have hiL : pc < L.length := by rw [HA.out.2.2]; assumption
      have hjL : cc < L.length := by rw [HA.out.2.2]; assumption
      have hkx := key_of hxe hiL
      have hky := key_of hye hjL
      simp only at hkx hky
      have HX := Lib.hid hcmp
      have hlc : cmpS x.path y.path < 0 ↔ nkey L[pc] < nkey L[cc] := by rw [hkx, hky]; exact cmpS_lt
      have HLC := Lib.hid hlc
      clear hcmp hkx hky hxe hye hlc
      generalize cmpS x.path y.path = cv at *
      obtain ⟨x1, x2, x3, x4, x5, x6⟩ := x
      obtain ⟨y1, y2, y3, y4, y5, y6⟩ := y
      unfold ndV at HX
      unfold NdAt at hx hy
      simp only at hx hy HX
      generalize ba x2 = x2 at *
      generalize ba y2 = y2 at *
      generalize ba x4 = x4 at *
      generalize ba y4 = y4 at *
      have HYC := Lib.hid (fun W (kw : Chg [] wr W) => (show (fun v => v.cell? ⟨g, pc * 6, none⟩ = some (.int .i64 x1) ∧ v.cell? ⟨g, pc * 6 + 1, none⟩ = some (.string x2) ∧ v.cell? ⟨g, pc * 6 + 2, none⟩ = some (.int .i64 x3) ∧ v.cell? ⟨g, pc * 6 + 3, none⟩ = some (.string x4) ∧ v.cell? ⟨g, pc * 6 + 4, none⟩ = some (.slice xa xl xc) ∧ v.cell? ⟨g, pc * 6 + 5, none⟩ = some (.int .i64 x6) ∧ v.cell? ⟨g, cc * 6, none⟩ = some (.int .i64 y1) ∧ v.cell? ⟨g, cc * 6 + 1, none⟩ = some (.string y2) ∧ v.cell? ⟨g, cc * 6 + 2, none⟩ = some (.int .i64 y3) ∧ v.cell? ⟨g, cc * 6 + 3, none⟩ = some (.string y4) ∧ v.cell? ⟨g, cc * 6 + 4, none⟩ = some (.slice ya yl yc) ∧ v.cell? ⟨g, cc * 6 + 5, none⟩ = some (.int .i64 y6)) W from ⟨kw.cell hx.1 (by simp), kw.cell hx.2.1 (by simp), kw.cell hx.2.2.1 (by simp), kw.cell hx.2.2.2.1 (by simp), kw.cell hx.2.2.2.2.1 (by simp), kw.cell hx.2.2.2.2.2 (by simp), kw.cell hy.1 (by simp), kw.cell hy.2.1 (by simp), kw.cell hy.2.2.1 (by simp), kw.cell hy.2.2.2.1 (by simp), kw.cell hy.2.2.2.2.1 (by simp), kw.cell hy.2.2.2.2.2 (by simp)⟩))
      clear hx hy
      by_cases hcv : cv < 0
      · have hcd : decide (cv < 0) = true := decide_eq_true hcv
        go_upto_region 35 with (fail)
        refine wp_region_held_drew (S := fun v => v.cell? ⟨g, pc * 6, none⟩ = some (.int .i64 x1) ∧ v.cell? ⟨g, pc * 6 + 1, none⟩ = some (.string x2) ∧ v.cell? ⟨g, pc * 6 + 2, none⟩ = some (.int .i64 x3) ∧ v.cell? ⟨g, pc * 6 + 3, none⟩ = some (.string x4) ∧ v.cell? ⟨g, pc * 6 + 4, none⟩ = some (.slice xa xl xc) ∧ v.cell? ⟨g, pc * 6 + 5, none⟩ = some (.int .i64 x6) ∧ v.cell? ⟨g, cc * 6, none⟩ = some (.int .i64 y1) ∧ v.cell? ⟨g, cc * 6 + 1, none⟩ = some (.string y2) ∧ v.cell? ⟨g, cc * 6 + 2, none⟩ = some (.int .i64 y3) ∧ v.cell? ⟨g, cc * 6 + 3, none⟩ = some (.string y4) ∧ v.cell? ⟨g, cc * 6 + 4, none⟩ = some (.slice ya yl yc) ∧ v.cell? ⟨g, cc * 6 + 5, none⟩ = some (.int .i64 y6)) (by kernel_rfl) ?_ (fun hHeld => ?_)
        · exact HYC.out _ (Chg.refl [] wr).drew
        refine wpAnyH_take (i := 0) (oi := ?oi83) (v := ?v83) ?hi83 (by kernel_rfl) (by kernel_rfl) (by kernel_rfl) ?hQ83 (Or.inl ⟨?hw83, ?hy83⟩) (by assumption) ?hr83
        case hi83 => simp only [List.getElem?_toArray, List.getElem?_cons_zero]; rfl
        case hQ83 => exact fun _ _ _ h => h
        case hw83 => rfl
        case hy83 => intro w hSw; (try dsimp only at hSw); go_simp; (try with_reducible rfl)
        case hr83 =>
        simp only [Act.put, List.setIfInBounds_toArray, List.set_cons_zero, List.set_cons_succ]
        refine wpAnyH_take (i := 1) (oi := ?oi84) (v := ?v84) ?hi84 (by kernel_rfl) (by kernel_rfl) (by kernel_rfl) ?hQ84 (Or.inl ⟨?hw84, ?hy84⟩) (by assumption) ?hr84
        case hi84 => simp only [List.getElem?_toArray, List.getElem?_cons_succ, List.getElem?_cons_zero]; rfl
        case hQ84 => exact fun _ _ _ h => h
        case hw84 => rfl
        case hy84 => intro w hSw; (try dsimp only at hSw); go_simp; (try with_reducible rfl)
        case hr84 =>
        simp only [Act.put, List.setIfInBounds_toArray, List.set_cons_zero, List.set_cons_succ]
        refine wpAnyH_take (i := 2) (oi := ?oi85) (v := ?v85) ?hi85 (by kernel_rfl) (by kernel_rfl) (by kernel_rfl) ?hQ85 (Or.inl ⟨?hw85, ?hy85⟩) (by assumption) ?hr85
        case hi85 => simp only [List.getElem?_toArray, List.getElem?_cons_succ, List.getElem?_cons_zero]; rfl
        case hQ85 => exact fun _ _ _ h => h
        case hw85 => rfl
        case hy85 => intro w hSw; (try dsimp only at hSw); go_simp; (try with_reducible rfl)
        case hr85 =>
        simp only [Act.put, List.setIfInBounds_toArray, List.set_cons_zero, List.set_cons_succ]
        refine wpAnyH_take (i := 3) (oi := ?oi86) (v := ?v86) ?hi86 (by kernel_rfl) (by kernel_rfl) (by kernel_rfl) ?hQ86 (Or.inl ⟨?hw86, ?hy86⟩) (by assumption) ?hr86
        case hi86 => simp only [List.getElem?_toArray, List.getElem?_cons_succ, List.getElem?_cons_zero]; rfl
        case hQ86 => exact fun _ _ _ h => h
        case hw86 => rfl
        case hy86 => intro w hSw; (try dsimp only at hSw); go_simp; (try with_reducible rfl)
        case hr86 =>
        simp only [Act.put, List.setIfInBounds_toArray, List.set_cons_zero, List.set_cons_succ]
        refine wpAnyH_take (i := 4) (oi := ?oi87) (v := ?v87) ?hi87 (by kernel_rfl) (by kernel_rfl) (by kernel_rfl) ?hQ87 (Or.inl ⟨?hw87, ?hy87⟩) (by assumption) ?hr87
        case hi87 => simp only [List.getElem?_toArray, List.getElem?_cons_succ, List.getElem?_cons_zero]; rfl
        case hQ87 => exact fun _ _ _ h => h
        case hw87 => rfl
        case hy87 => intro w hSw; (try dsimp only at hSw); go_simp; (try with_reducible rfl)
        case hr87 =>
        simp only [Act.put, List.setIfInBounds_toArray, List.set_cons_zero, List.set_cons_succ]
        refine wpAnyH_take (i := 5) (oi := ?oi88) (v := ?v88) ?hi88 (by kernel_rfl) (by kernel_rfl) (by kernel_rfl) ?hQ88 (Or.inl ⟨?hw88, ?hy88⟩) (by assumption) ?hr88
        case hi88 => simp only [List.getElem?_toArray, List.getElem?_cons_succ, List.getElem?_cons_zero]; rfl
        case hQ88 => exact fun _ _ _ h => h
        case hw88 => rfl
        case hy88 => intro w hSw; (try dsimp only at hSw); go_simp; (try with_reducible rfl)
        case hr88 =>
        simp only [Act.put, List.setIfInBounds_toArray, List.set_cons_zero, List.set_cons_succ]
        refine wpAnyH_take (i := 6) (oi := ?oi89) (v := ?v89) ?hi89 (by kernel_rfl) (by kernel_rfl) (by kernel_rfl) ?hQ89 (Or.inl ⟨?hw89, ?hy89⟩) (by assumption) ?hr89
        case hi89 => simp only [List.getElem?_toArray, List.getElem?_cons_succ, List.getElem?_cons_zero]; rfl
        case hQ89 => exact fun _ _ _ h => h
        case hw89 => rfl
        case hy89 => intro w hSw; (try dsimp only at hSw); go_simp; (try with_reducible rfl)
        case hr89 =>
        simp only [Act.put, List.setIfInBounds_toArray, List.set_cons_zero, List.set_cons_succ]
        refine wpAnyH_take (i := 7) (oi := ?oi90) (v := ?v90) ?hi90 (by kernel_rfl) (by kernel_rfl) (by kernel_rfl) ?hQ90 (Or.inl ⟨?hw90, ?hy90⟩) (by assumption) ?hr90
        case hi90 => simp only [List.getElem?_toArray, List.getElem?_cons_succ, List.getElem?_cons_zero]; rfl
        case hQ90 => exact fun _ _ _ h => h
        case hw90 => rfl
        case hy90 => intro w hSw; (try dsimp only at hSw); go_simp; (try with_reducible rfl)
        case hr90 =>
        simp only [Act.put, List.setIfInBounds_toArray, List.set_cons_zero, List.set_cons_succ]
        refine wpAnyH_take (i := 8) (oi := ?oi91) (v := ?v91) ?hi91 (by kernel_rfl) (by kernel_rfl) (by kernel_rfl) ?hQ91 (Or.inl ⟨?hw91, ?hy91⟩) (by assumption) ?hr91
        case hi91 => simp only [List.getElem?_toArray, List.getElem?_cons_succ, List.getElem?_cons_zero]; rfl
        case hQ91 => exact fun _ _ _ h => h
        case hw91 => rfl
        case hy91 => intro w hSw; (try dsimp only at hSw); go_simp; (try with_reducible rfl)
        case hr91 =>
        simp only [Act.put, List.setIfInBounds_toArray, List.set_cons_zero, List.set_cons_succ]
        refine wpAnyH_take (i := 9) (oi := ?oi92) (v := ?v92) ?hi92 (by kernel_rfl) (by kernel_rfl) (by kernel_rfl) ?hQ92 (Or.inl ⟨?hw92, ?hy92⟩) (by assumption) ?hr92
        case hi92 => simp only [List.getElem?_toArray, List.getElem?_cons_succ, List.getElem?_cons_zero]; rfl
        case hQ92 => exact fun _ _ _ h => h
        case hw92 => rfl
        case hy92 => intro w hSw; (try dsimp only at hSw); go_simp; (try with_reducible rfl)
        case hr92 =>
        simp only [Act.put, List.setIfInBounds_toArray, List.set_cons_zero, List.set_cons_succ]
        refine wpAnyH_take (i := 10) (oi := ?oi93) (v := ?v93) ?hi93 (by kernel_rfl) (by kernel_rfl) (by kernel_rfl) ?hQ93 (Or.inl ⟨?hw93, ?hy93⟩) (by assumption) ?hr93
        case hi93 => simp only [List.getElem?_toArray, List.getElem?_cons_succ, List.getElem?_cons_zero]; rfl
        case hQ93 => exact fun _ _ _ h => h
        case hw93 => rfl
        case hy93 => intro w hSw; (try dsimp only at hSw); go_simp; (try with_reducible rfl)
        case hr93 =>
        simp only [Act.put, List.setIfInBounds_toArray, List.set_cons_zero, List.set_cons_succ]
        refine wpAnyH_ready (rs := [11]) (by kernel_rfl) (by simp) (AllReadyH.cons (o := ?oc94) ?hc94 (fun K hK => ?hs94) AllReadyH.nil)
        case hc94 => simp only [List.getElem?_toArray, List.getElem?_cons_succ, List.getElem?_cons_zero]; rfl
        case hs94 =>
        rw [if_pos (by rfl)]
        go_simp
        go_at_call 77; refine (HX.out _).mono ?_; rintro e w2 ⟨rfl, hw2⟩; have HW2 := Lib.hid hw2; clear hw2
        go_wp2_with fail
        refine hK.out _ _ ?_ (fun hHeld => ?_)
        · exact HYC.out _ ((Chg.refl [] wr).drew.trans HW2.out)
        clear hK K
        try simp only [Act.put, List.setIfInBounds_toArray, List.set_cons_zero, List.set_cons_succ]
        refine wpAnyH_take (i := 12) (oi := ?oi95) (v := ?v95) ?hi95 (by kernel_rfl) (by kernel_rfl) (by kernel_rfl) ?hQ95 (Or.inl ⟨?hw95, ?hy95⟩) (by assumption) ?hr95
        case hi95 => simp only [List.getElem?_toArray, List.getElem?_cons_succ, List.getElem?_cons_zero]; rfl
        case hQ95 => exact fun _ _ _ h => h
        case hw95 => rfl
        case hy95 => intro w hSw; (try dsimp only at hSw); go_simp; (try with_reducible rfl)
        case hr95 =>
        simp only [Act.put, List.setIfInBounds_toArray, List.set_cons_zero, List.set_cons_succ]
        refine wpAnyH_take (i := 13) (oi := ?oi96) (v := ?v96) ?hi96 (by kernel_rfl) (by kernel_rfl) (by kernel_rfl) ?hQ96 (Or.inl ⟨?hw96, ?hy96⟩) (by assumption) ?hr96
        case hi96 => simp only [List.getElem?_toArray, List.getElem?_cons_succ, List.getElem?_cons_zero]; rfl
        case hQ96 => exact fun _ _ _ h => h
        case hw96 => rfl
        case hy96 => intro w hSw; (try dsimp only at hSw); go_simp; (try with_reducible rfl)
        case hr96 =>
        simp only [Act.put, List.setIfInBounds_toArray, List.set_cons_zero, List.set_cons_succ]
        refine wpAnyH_done (by kernel_rfl) ?_ _
        go_wp2_with fail
        go_roundw
        case rel => exact ⟨st, cc, rfl, rfl, HK.out.1, HHH.out.1, by have := HHH.out; have := HK.out; omega, HK.out.2.2.2.1, fun _ h1 h2 => by have h3 := HLC.out.1 hcv; have h4 := HHH.out.2.2; subst h4; exact h3, HK.out.2.2.2.2.2.trans ((Chg.refl [] wr).drew.trans HW2.out)⟩
        case measure => have := HHH.out; simp [intOf]; omega
      · have hcd : decide (cv < 0) = false := decide_eq_false hcv
        go_upto_region 35 with (fail)
        refine wp_region_held_drew (S := fun v => v.cell? ⟨g, pc * 6, none⟩ = some (.int .i64 x1) ∧ v.cell? ⟨g, pc * 6 + 1, none⟩ = some (.string x2) ∧ v.cell? ⟨g, pc * 6 + 2, none⟩ = some (.int .i64 x3) ∧ v.cell? ⟨g, pc * 6 + 3, none⟩ = some (.string x4) ∧ v.cell? ⟨g, pc * 6 + 4, none⟩ = some (.slice xa xl xc) ∧ v.cell? ⟨g, pc * 6 + 5, none⟩ = some (.int .i64 x6) ∧ v.cell? ⟨g, cc * 6, none⟩ = some (.int .i64 y1) ∧ v.cell? ⟨g, cc * 6 + 1, none⟩ = some (.string y2) ∧ v.cell? ⟨g, cc * 6 + 2, none⟩ = some (.int .i64 y3) ∧ v.cell? ⟨g, cc * 6 + 3, none⟩ = some (.string y4) ∧ v.cell? ⟨g, cc * 6 + 4, none⟩ = some (.slice ya yl yc) ∧ v.cell? ⟨g, cc * 6 + 5, none⟩ = some (.int .i64 y6)) (by kernel_rfl) ?_ (fun hHeld => ?_)
        · exact HYC.out _ (Chg.refl [] wr).drew
        refine wpAnyH_take (i := 0) (oi := ?oi97) (v := ?v97) ?hi97 (by kernel_rfl) (by kernel_rfl) (by kernel_rfl) ?hQ97 (Or.inl ⟨?hw97, ?hy97⟩) (by assumption) ?hr97
        case hi97 => simp only [List.getElem?_toArray, List.getElem?_cons_zero]; rfl
        case hQ97 => exact fun _ _ _ h => h
        case hw97 => rfl
        case hy97 => intro w hSw; (try dsimp only at hSw); go_simp; (try with_reducible rfl)
        case hr97 =>
        simp only [Act.put, List.setIfInBounds_toArray, List.set_cons_zero, List.set_cons_succ]
        refine wpAnyH_take (i := 1) (oi := ?oi98) (v := ?v98) ?hi98 (by kernel_rfl) (by kernel_rfl) (by kernel_rfl) ?hQ98 (Or.inl ⟨?hw98, ?hy98⟩) (by assumption) ?hr98
        case hi98 => simp only [List.getElem?_toArray, List.getElem?_cons_succ, List.getElem?_cons_zero]; rfl
        case hQ98 => exact fun _ _ _ h => h
        case hw98 => rfl
        case hy98 => intro w hSw; (try dsimp only at hSw); go_simp; (try with_reducible rfl)
        case hr98 =>
        simp only [Act.put, List.setIfInBounds_toArray, List.set_cons_zero, List.set_cons_succ]
        refine wpAnyH_take (i := 2) (oi := ?oi99) (v := ?v99) ?hi99 (by kernel_rfl) (by kernel_rfl) (by kernel_rfl) ?hQ99 (Or.inl ⟨?hw99, ?hy99⟩) (by assumption) ?hr99
        case hi99 => simp only [List.getElem?_toArray, List.getElem?_cons_succ, List.getElem?_cons_zero]; rfl
        case hQ99 => exact fun _ _ _ h => h
        case hw99 => rfl
        case hy99 => intro w hSw; (try dsimp only at hSw); go_simp; (try with_reducible rfl)
        case hr99 =>
        simp only [Act.put, List.setIfInBounds_toArray, List.set_cons_zero, List.set_cons_succ]
        refine wpAnyH_take (i := 3) (oi := ?oi100) (v := ?v100) ?hi100 (by kernel_rfl) (by kernel_rfl) (by kernel_rfl) ?hQ100 (Or.inl ⟨?hw100, ?hy100⟩) (by assumption) ?hr100
        case hi100 => simp only [List.getElem?_toArray, List.getElem?_cons_succ, List.getElem?_cons_zero]; rfl
        case hQ100 => exact fun _ _ _ h => h
        case hw100 => rfl
        case hy100 => intro w hSw; (try dsimp only at hSw); go_simp; (try with_reducible rfl)
        case hr100 =>
        simp only [Act.put, List.setIfInBounds_toArray, List.set_cons_zero, List.set_cons_succ]
        refine wpAnyH_take (i := 4) (oi := ?oi101) (v := ?v101) ?hi101 (by kernel_rfl) (by kernel_rfl) (by kernel_rfl) ?hQ101 (Or.inl ⟨?hw101, ?hy101⟩) (by assumption) ?hr101
        case hi101 => simp only [List.getElem?_toArray, List.getElem?_cons_succ, List.getElem?_cons_zero]; rfl
        case hQ101 => exact fun _ _ _ h => h
        case hw101 => rfl
        case hy101 => intro w hSw; (try dsimp only at hSw); go_simp; (try with_reducible rfl)
        case hr101 =>
        simp only [Act.put, List.setIfInBounds_toArray, List.set_cons_zero, List.set_cons_succ]
        refine wpAnyH_take (i := 5) (oi := ?oi102) (v := ?v102) ?hi102 (by kernel_rfl) (by kernel_rfl) (by kernel_rfl) ?hQ102 (Or.inl ⟨?hw102, ?hy102⟩) (by assumption) ?hr102
        case hi102 => simp only [List.getElem?_toArray, List.getElem?_cons_succ, List.getElem?_cons_zero]; rfl
        case hQ102 => exact fun _ _ _ h => h
        case hw102 => rfl
        case hy102 => intro w hSw; (try dsimp only at hSw); go_simp; (try with_reducible rfl)
        case hr102 =>
        simp only [Act.put, List.setIfInBounds_toArray, List.set_cons_zero, List.set_cons_succ]
        refine wpAnyH_take (i := 6) (oi := ?oi103) (v := ?v103) ?hi103 (by kernel_rfl) (by kernel_rfl) (by kernel_rfl) ?hQ103 (Or.inl ⟨?hw103, ?hy103⟩) (by assumption) ?hr103
        case hi103 => simp only [List.getElem?_toArray, List.getElem?_cons_succ, List.getElem?_cons_zero]; rfl
        case hQ103 => exact fun _ _ _ h => h
        case hw103 => rfl
        case hy103 => intro w hSw; (try dsimp only at hSw); go_simp; (try with_reducible rfl)
        case hr103 =>
        simp only [Act.put, List.setIfInBounds_toArray, List.set_cons_zero, List.set_cons_succ]
        refine wpAnyH_take (i := 7) (oi := ?oi104) (v := ?v104) ?hi104 (by kernel_rfl) (by kernel_rfl) (by kernel_rfl) ?hQ104 (Or.inl ⟨?hw104, ?hy104⟩) (by assumption) ?hr104
        case hi104 => simp only [List.getElem?_toArray, List.getElem?_cons_succ, List.getElem?_cons_zero]; rfl
        case hQ104 => exact fun _ _ _ h => h
        case hw104 => rfl
        case hy104 => intro w hSw; (try dsimp only at hSw); go_simp; (try with_reducible rfl)
        case hr104 =>
        simp only [Act.put, List.setIfInBounds_toArray, List.set_cons_zero, List.set_cons_succ]
        refine wpAnyH_take (i := 8) (oi := ?oi105) (v := ?v105) ?hi105 (by kernel_rfl) (by kernel_rfl) (by kernel_rfl) ?hQ105 (Or.inl ⟨?hw105, ?hy105⟩) (by assumption) ?hr105
        case hi105 => simp only [List.getElem?_toArray, List.getElem?_cons_succ, List.getElem?_cons_zero]; rfl
        case hQ105 => exact fun _ _ _ h => h
        case hw105 => rfl
        case hy105 => intro w hSw; (try dsimp only at hSw); go_simp; (try with_reducible rfl)
        case hr105 =>
        simp only [Act.put, List.setIfInBounds_toArray, List.set_cons_zero, List.set_cons_succ]
        refine wpAnyH_take (i := 9) (oi := ?oi106) (v := ?v106) ?hi106 (by kernel_rfl) (by kernel_rfl) (by kernel_rfl) ?hQ106 (Or.inl ⟨?hw106, ?hy106⟩) (by assumption) ?hr106
        case hi106 => simp only [List.getElem?_toArray, List.getElem?_cons_succ, List.getElem?_cons_zero]; rfl
        case hQ106 => exact fun _ _ _ h => h
        case hw106 => rfl
        case hy106 => intro w hSw; (try dsimp only at hSw); go_simp; (try with_reducible rfl)
        case hr106 =>
        simp only [Act.put, List.setIfInBounds_toArray, List.set_cons_zero, List.set_cons_succ]
        refine wpAnyH_take (i := 10) (oi := ?oi107) (v := ?v107) ?hi107 (by kernel_rfl) (by kernel_rfl) (by kernel_rfl) ?hQ107 (Or.inl ⟨?hw107, ?hy107⟩) (by assumption) ?hr107
        case hi107 => simp only [List.getElem?_toArray, List.getElem?_cons_succ, List.getElem?_cons_zero]; rfl
        case hQ107 => exact fun _ _ _ h => h
        case hw107 => rfl
        case hy107 => intro w hSw; (try dsimp only at hSw); go_simp; (try with_reducible rfl)
        case hr107 =>
        simp only [Act.put, List.setIfInBounds_toArray, List.set_cons_zero, List.set_cons_succ]
        refine wpAnyH_ready (rs := [11]) (by kernel_rfl) (by simp) (AllReadyH.cons (o := ?oc108) ?hc108 (fun K hK => ?hs108) AllReadyH.nil)
        case hc108 => simp only [List.getElem?_toArray, List.getElem?_cons_succ, List.getElem?_cons_zero]; rfl
        case hs108 =>
        rw [if_pos (by rfl)]
        go_simp
        go_at_call 77; refine (HX.out _).mono ?_; rintro e w2 ⟨rfl, hw2⟩; have HW2 := Lib.hid hw2; clear hw2
        go_wp2_with fail
        refine hK.out _ _ ?_ (fun hHeld => ?_)
        · exact HYC.out _ ((Chg.refl [] wr).drew.trans HW2.out)
        clear hK K
        try simp only [Act.put, List.setIfInBounds_toArray, List.set_cons_zero, List.set_cons_succ]
        refine wpAnyH_take (i := 12) (oi := ?oi109) (v := ?v109) ?hi109 (by kernel_rfl) (by kernel_rfl) (by kernel_rfl) ?hQ109 (Or.inl ⟨?hw109, ?hy109⟩) (by assumption) ?hr109
        case hi109 => simp only [List.getElem?_toArray, List.getElem?_cons_succ, List.getElem?_cons_zero]; rfl
        case hQ109 => exact fun _ _ _ h => h
        case hw109 => rfl
        case hy109 => intro w hSw; (try dsimp only at hSw); go_simp; (try with_reducible rfl)
        case hr109 =>
        simp only [Act.put, List.setIfInBounds_toArray, List.set_cons_zero, List.set_cons_succ]
        refine wpAnyH_take (i := 13) (oi := ?oi110) (v := ?v110) ?hi110 (by kernel_rfl) (by kernel_rfl) (by kernel_rfl) ?hQ110 (Or.inl ⟨?hw110, ?hy110⟩) (by assumption) ?hr110
        case hi110 => simp only [List.getElem?_toArray, List.getElem?_cons_succ, List.getElem?_cons_zero]; rfl
        case hQ110 => exact fun _ _ _ h => h
        case hw110 => rfl
        case hy110 => intro w hSw; (try dsimp only at hSw); go_simp; (try with_reducible rfl)
        case hr110 =>
        simp only [Act.put, List.setIfInBounds_toArray, List.set_cons_zero, List.set_cons_succ]
        refine wpAnyH_done (by kernel_rfl) ?_ _
        go_wp2_with fail
        go_roundw
        case rel => exact ⟨cc + 1, r, by go_num, rfl, by have := HHH.out; have := HK.out; omega, by have := HHH.out; omega, HK.out.2.2.1, fun _ h1 h2 h3 => absurd (HLC.out.2 (by have h4 := HHH.out.2.2; subst h4; exact h3)) (by omega), HK.out.2.2.2.2.1, HK.out.2.2.2.2.2.trans ((Chg.refl [] wr).drew.trans HW2.out)⟩
        case measure => have := HHH.out; simp [intOf]; omega
    · obtain rfl : st = r := by have := HK.out.2.1; omega
      obtain ⟨e, he⟩ : ∃ x, x = nn - st := ⟨_, rfl⟩
      have hei : (nn : Int) - (st : Int) = (e : Int) := by have := HS0.out; have := HK.out; omega
      have heB : e ≤ 1000000 := by have := HS0.out; have := HK.out; omega
      have hew : IntKind.i64.wrap (e : Int) = (e : Int) := IntWalk.i64_in _ (by omega)
      have HE := Lib.hid (show a ≤ st ∧ st ≤ m ∧ m ≤ e ∧ e ≤ b ∧ mid = st + (e - m) ∧ b ≤ n from by
        have := HS0.out; have := HK.out; have := HB.out
        exact ⟨by omega, by omega, by omega, by omega, by omega, by omega⟩)
      have HH := Lib.hid (rot_halves (key := nkey) (L := L) (a := a) (m := m) (b := b) (s := st) (e := e) (mid := mid) HA.out.1 HA.out.2.1 HE.out.1 HE.out.2.1 HE.out.2.2.1 HE.out.2.2.2.1 (by have := HA.out.2.2; have := HE.out; omega) HE.out.2.2.2.2.1
        (fun q1 q2 q3 q4 => by
          have h1 := HK.out.2.2.2.1 (by have := HS0.out; omega)
          have h2 : p - (st - 1) = e := by have := HB.out; have := HE.out; omega
          simp only [h2] at h1
          exact h1 q3 q4)
        (fun q1 q2 q3 q4 => by
          have h1 := HK.out.2.2.2.2.1 (by have := HS0.out; omega)
          have h2 : p - st = e - 1 := by have := HB.out; have := HE.out; omega
          simp only [h2] at h1
          exact h1 q3 q4))
      have hRS := rot_shuf (L := L) (i := st) (m := m) (j := e) HE.out.2.1 HE.out.2.2.1 (by have := HA.out.2.2; have := HE.out; omega)
      have HRS := Lib.hid (hRS.wide HE.out.1 (by have := HE.out; omega) HE.out.2.2.2.1)
      have HNR := Lib.hid (And.intro (HS.out.chg HK.out.2.2.2.2.2 (by simp)) HK.out.2.2.2.2.2)
      clear he hRS HK HS HS0 hpi hpB hni hnB 
      have hcase : (st < m ∧ m < e) ∨ ¬ (st < m ∧ m < e) := Classical.em _
      rcases hcase with hrot | hrot
      case' inl =>
        have hx1 : (st : Int) < (m : Int) := by omega
        have hx2 : (m : Int) < (e : Int) := by omega
        have HC := Lib.hid (rotateN wr g n c L st m e HNR.out.1 hrot.1 hrot.2 (by have := HE.out; omega))
        go_upto_region 41 with (go_at_call 132; refine HC.out.mono ?_; rintro e' wr ⟨rfl, h1, h2⟩; have H5 := Lib.hid (And.intro h1 ((HNR.out.2.mono (by simp)).trans h2)); clear h1 h2)
        clear HC hx1 hx2 hrot HNR
      case' inr =>
        have H5 := Lib.hid (show NRow wr g n c (rot L st m e) ∧ Chg [g] w wr from ⟨by
          have := HE.out
          by_cases h1 : st = m
          · rw [h1, rot_same_l _ (by omega)]; exact HNR.out.1
          · rw [show e = m by omega, rot_same_r _ (by omega)]; exact HNR.out.1, HNR.out.2.mono (by simp)⟩)
        by_cases hx1 : (st : Int) < (m : Int)
        case' pos =>
          have hx2 : ¬ (m : Int) < (e : Int) := by omega
          go_upto_region 41 with (fail)
          clear hx2
        case' neg =>
          go_upto_region 41 with (fail)
        all_goals clear hx1 hrot HNR
      all_goals
        by_cases hr1 : a < st ∧ st < mid
        case' pos =>
          have hx1 : (a : Int) < (st : Int) := by omega
          have hx2 : (st : Int) < (mid : Int) := by omega
          have HC := Lib.hid (HR.out wr _ a st mid H5.out.1 HH.out.1 HH.out.2.1 hr1.1 hr1.2 (by have := HE.out; have := HB.out; omega) (by have := HB.out; have := HE.out; omega))
          go_upto_region 43 with (go_at_call 121; refine HC.out.mono ?_; rintro e' wr ⟨rfl, L3, h1, h2, h3, h4⟩; have H6 := Lib.hid (show NRow wr g n c L3 ∧ Shuf (rot L st m e) L3 a mid ∧ Asc nkey L3 a mid ∧ Chg [g] w wr from ⟨h1, h2, h3, H5.out.2.trans h4⟩); clear h1 h2 h3 h4)
          clear HC hx1 hx2 hr1 H5
        case' neg =>
          obtain ⟨L3, hL3⟩ : ∃ x, x = rot L st m e := ⟨_, rfl⟩
          have H6 := Lib.hid (show NRow wr g n c L3 ∧ Shuf (rot L st m e) L3 a mid ∧ Asc nkey L3 a mid ∧ Chg [g] w wr from by
            subst hL3
            exact ⟨H5.out.1, Shuf.refl _ _ _, asc_left HH.out.1 HH.out.2.1 hr1 HE.out.1 (by have := HE.out; omega), H5.out.2⟩)
          by_cases hx1 : (a : Int) < (st : Int)
          case' pos =>
            have hx2 : ¬ (st : Int) < (mid : Int) := by omega
            go_upto_region 43 with (fail)
            clear hx2
          case' neg =>
            go_upto_region 43 with (fail)
          all_goals clear hx1 hr1 H5 hL3
        skip
      all_goals
        have a1 := HH.out.2.2.1
        have a2 := HH.out.2.2.2.1
        have hfin : ∀ W L4, NRow W g n c L4 → Shuf L3 L4 mid b → Asc nkey L4 mid b → Chg [g] wr W → SortedTo w W g n c L a b := fun W L4 q1 q2 q3 q4 => by
          obtain ⟨f1, f2⟩ := halves_join (by have := HE.out; omega) (by have := HE.out; omega) HH.out.2.2.2.2 H6.out.2.1 H6.out.2.2.1 q2 q3
          exact ⟨L4, q1, HRS.out.trans f2, f1, H6.out.2.2.2.trans q4⟩
        have HF := Lib.hid hfin
        have HAH := Lib.hid (And.intro (H6.out.2.1.asc_high (Nat.le_refl _) a1) (H6.out.2.1.asc_high (by have := HE.out; omega) a2))
        clear hfin a1 a2
        by_cases hr2 : mid < e ∧ e < b
        case' pos =>
          have hx1 : (mid : Int) < (e : Int) := by omega
          have hx2 : (e : Int) < (b : Int) := by omega
          have HC := Lib.hid (HR.out wr L3 mid e b H6.out.1 HAH.out.1 HAH.out.2 hr2.1 hr2.2 HE.out.2.2.2.2.2 (by have := HB.out; have := HE.out; omega))
          go_wp2_with (go_at_call 121; refine HC.out.mono ?_; rintro e' wq ⟨rfl, L4, h1, h2, h3, h4⟩; have H7 := Lib.hid (HF.out wq L4 h1 h2 h3 h4); clear h1 h2 h3 h4)
          go_end0
          exact ⟨rfl, H7.out⟩
        case' neg =>
          have H7 := Lib.hid (HF.out wr L3 H6.out.1 (Shuf.refl _ _ _) (asc_left HAH.out.1 HAH.out.2 hr2 (by have := HE.out; omega) (by have := HE.out; omega)) (Chg.refl _ _))
          by_cases hx1 : (mid : Int) < (e : Int)
          case' pos =>
            have hx2 : ¬ (e : Int) < (b : Int) := by omega
            go_wp2_with fail
            go_end0
            exact ⟨rfl, H7.out⟩
          case' neg =>
            go_wp2_with fail
            go_end0
            exact ⟨rfl, H7.out⟩
set_option maxRecDepth 100000 in
set_option maxHeartbeats 16000000 in
theorem symGB (w : World) (g n c : Nat) (L : List (ANode × Value)) (a m b mid : Nat) (h : NRow w g n c L) (hm : a + 1 < m) (hmb : m + 1 < b) (hb : b ≤ n) (k1 : Asc nkey L a m) (k2 : Asc nkey L m b) (hmid : mid = (a + b) / 2) (hcond : m ≤ mid)
    (hrec : ∀ W L' a' m' b', NRow W g n c L' → Asc nkey L' a' m' → Asc nkey L' m' b' → a' < m' → m' < b' → b' ≤ n → b' - a' < b - a → Calls Tryz.prog 121 #[.slice (some ⟨g, 0, none⟩) n c, .int .i64 a', .int .i64 m', .int .i64 b', .func (.func 77) #[] #[]] W fun e W' => e = .returned (.tuple #[]) ∧ SortedTo W W' g n c L' a' b') :
    Calls Tryz.prog 121 #[.slice (some ⟨g, 0, none⟩) n c, .int .i64 a, .int .i64 m, .int .i64 b, .func (.func 77) #[] #[]] w fun e w' => e = .returned (.tuple #[]) ∧ SortedTo w w' g n c L a b := by
  have HS := Lib.hid h
  have HA := Lib.hid (And.intro k1 (And.intro k2 (show L.length = n from h.len)))
  have HR := Lib.hid hrec
  have hbB : b ≤ 1000000 := by have := h.short; omega
  have haB : a ≤ 1000000 := by omega
  have hmB : m ≤ 1000000 := by omega
  have hma : ¬ (m : Int) - (a : Int) = 1 := by omega
  have hbm : ¬ (b : Int) - (m : Int) = 1 := by omega
  have hmab : ((m : Int) - (a : Int) == 1) = false := by simpa using hma
  have hbmb : ((b : Int) - (m : Int) == 1) = false := by simpa using hbm
  have hmi : ((a : Int) + (b : Int)) / 2 = (mid : Int) := by omega
  have hmidB : mid ≤ 1000000 := by omega
  obtain ⟨nn, hnn⟩ : ∃ x, x = mid + m := ⟨_, rfl⟩
  have hni : (mid : Int) + (m : Int) = (nn : Int) := by omega
  have hnB : nn ≤ 2000000 := by omega
  obtain ⟨p, hp⟩ : ∃ x, x = nn - 1 := ⟨_, rfl⟩
  have hpi : (nn : Int) - 1 = (p : Int) := by omega
  have hpB : p ≤ 2000000 := by omega
  have hlt0 : ¬ (m : Int) > (mid : Int) := by omega
  obtain ⟨s0, hs0⟩ : ∃ x, x = a := ⟨_, rfl⟩
  obtain ⟨r0, hr0⟩ : ∃ x, x = m := ⟨_, rfl⟩
  have HS0 := Lib.hid (show a ≤ s0 ∧ s0 ≤ r0 ∧ r0 ≤ m ∧ nn ≤ b + s0 ∧ m + r0 ≤ nn ∧ (s0 = a ∨ nn = b + s0) ∧ (r0 = m ∨ nn = m + r0) from ⟨by omega, by omega, by omega, by omega, by omega, by omega, by omega⟩)
  have HB := Lib.hid (And.intro hm (And.intro hmb (And.intro hb (And.intro hmid (And.intro hnn hp)))))
  clear h hm hmb hb hrec hmid hnn hp hcond k1 k2 
  go_enter Tryz.func121, Tryz.ntmps121
  go_wp2_with fail
  go_loopw [20, 21, 23] (fun u v _ wr => ∃ st r : Nat, u = .int .i64 st ∧ v = .int .i64 r ∧ s0 ≤ st ∧ st ≤ r ∧ r ≤ r0 ∧ (s0 < st → ∀ h1 : p - (st - 1) < L.length, ∀ h2 : st - 1 < L.length, ¬ nkey L[p - (st - 1)] < nkey L[st - 1]) ∧ (r < r0 → ∀ h1 : p - r < L.length, ∀ h2 : r < L.length, nkey L[p - r] < nkey L[r]) ∧ Chg [] w wr) (fun u v _ _ => (intOf v).toNat - (intOf u).toNat)
  case atStart => exact ⟨s0, r0, by rw [hs0], by rw [hr0], Nat.le_refl _, HS0.out.2.1, Nat.le_refl _, fun h => by omega, fun h => by omega, Chg.refl _ _⟩
  case round =>
    obtain ⟨st, r, rfl, rfl, hs1, hs2, hs3, hlo, hhi, hk⟩ := hrel
    have HK := Lib.hid (And.intro hs1 (And.intro hs2 (And.intro hs3 (And.intro hlo (And.intro hhi hk)))))
    have hsB : st ≤ 1000000 := by have := HS0.out; omega
    have hrB : r ≤ 1000000 := by have := HS0.out; omega
    clear hs1 hs2 hs3 hlo hhi hk
    by_cases hlt : st < r
    · obtain ⟨cc, hcc⟩ : ∃ x, x = (st + r) / 2 := ⟨_, rfl⟩
      have hci : ((st : Int) + (r : Int)) / 2 = (cc : Int) := by omega
      have hcB : cc ≤ 1000000 := by omega
      have hcw : IntKind.i64.wrap (cc : Int) = (cc : Int) := IntWalk.i64_in _ (by omega)
      obtain ⟨pc, hpc⟩ : ∃ x, x = p - cc := ⟨_, rfl⟩
      have hpci : (p : Int) - (cc : Int) = (pc : Int) := by have := HB.out; have := HS0.out; have := HK.out.2.2.1; omega
      have hpcB : pc ≤ 2000000 := by omega
      have hpcw : IntKind.i64.wrap (pc : Int) = (pc : Int) := IntWalk.i64_in _ (by omega)
      have hhn : pc < n := by have := HB.out; have := HS0.out; have := HK.out.1; omega
      have han : cc < n := by have := HB.out; have := HS0.out; have := HK.out.2.2.1; omega
      have HHH := Lib.hid (And.intro (show st ≤ cc by omega) (And.intro (show cc < r by omega) hpc))
      clear hcc hpc
      obtain ⟨x, xa, xl, xc, y, ya, yl, yc, hx, hy, hxe, hye, hcmp⟩ := (HS.out.chg HK.out.2.2.2.2.2 (by simp)).pair hhn han
      have hiL : pc < L.length := by rw [HA.out.2.2]; assumption
      have hjL : cc < L.length := by rw [HA.out.2.2]; assumption
      have hkx := key_of hxe hiL
      have hky := key_of hye hjL
      simp only at hkx hky
      have HX := Lib.hid hcmp
      have hlc : cmpS x.path y.path < 0 ↔ nkey L[pc] < nkey L[cc] := by rw [hkx, hky]; exact cmpS_lt
      have HLC := Lib.hid hlc
      clear hcmp hkx hky hxe hye hlc
      generalize cmpS x.path y.path = cv at *
      obtain ⟨x1, x2, x3, x4, x5, x6⟩ := x
      obtain ⟨y1, y2, y3, y4, y5, y6⟩ := y
      unfold ndV at HX
      unfold NdAt at hx hy
      simp only at hx hy HX
      generalize ba x2 = x2 at *
      generalize ba y2 = y2 at *
      generalize ba x4 = x4 at *
      generalize ba y4 = y4 at *
      have HYC := Lib.hid (fun W (kw : Chg [] wr W) => (show (fun v => v.cell? ⟨g, pc * 6, none⟩ = some (.int .i64 x1) ∧ v.cell? ⟨g, pc * 6 + 1, none⟩ = some (.string x2) ∧ v.cell? ⟨g, pc * 6 + 2, none⟩ = some (.int .i64 x3) ∧ v.cell? ⟨g, pc * 6 + 3, none⟩ = some (.string x4) ∧ v.cell? ⟨g, pc * 6 + 4, none⟩ = some (.slice xa xl xc) ∧ v.cell? ⟨g, pc * 6 + 5, none⟩ = some (.int .i64 x6) ∧ v.cell? ⟨g, cc * 6, none⟩ = some (.int .i64 y1) ∧ v.cell? ⟨g, cc * 6 + 1, none⟩ = some (.string y2) ∧ v.cell? ⟨g, cc * 6 + 2, none⟩ = some (.int .i64 y3) ∧ v.cell? ⟨g, cc * 6 + 3, none⟩ = some (.string y4) ∧ v.cell? ⟨g, cc * 6 + 4, none⟩ = some (.slice ya yl yc) ∧ v.cell? ⟨g, cc * 6 + 5, none⟩ = some (.int .i64 y6)) W from ⟨kw.cell hx.1 (by simp), kw.cell hx.2.1 (by simp), kw.cell hx.2.2.1 (by simp), kw.cell hx.2.2.2.1 (by simp), kw.cell hx.2.2.2.2.1 (by simp), kw.cell hx.2.2.2.2.2 (by simp), kw.cell hy.1 (by simp), kw.cell hy.2.1 (by simp), kw.cell hy.2.2.1 (by simp), kw.cell hy.2.2.2.1 (by simp), kw.cell hy.2.2.2.2.1 (by simp), kw.cell hy.2.2.2.2.2 (by simp)⟩))
      clear hx hy
      by_cases hcv : cv < 0
      · have hcd : decide (cv < 0) = true := decide_eq_true hcv
        go_upto_region 35 with (fail)
        refine wp_region_held_drew (S := fun v => v.cell? ⟨g, pc * 6, none⟩ = some (.int .i64 x1) ∧ v.cell? ⟨g, pc * 6 + 1, none⟩ = some (.string x2) ∧ v.cell? ⟨g, pc * 6 + 2, none⟩ = some (.int .i64 x3) ∧ v.cell? ⟨g, pc * 6 + 3, none⟩ = some (.string x4) ∧ v.cell? ⟨g, pc * 6 + 4, none⟩ = some (.slice xa xl xc) ∧ v.cell? ⟨g, pc * 6 + 5, none⟩ = some (.int .i64 x6) ∧ v.cell? ⟨g, cc * 6, none⟩ = some (.int .i64 y1) ∧ v.cell? ⟨g, cc * 6 + 1, none⟩ = some (.string y2) ∧ v.cell? ⟨g, cc * 6 + 2, none⟩ = some (.int .i64 y3) ∧ v.cell? ⟨g, cc * 6 + 3, none⟩ = some (.string y4) ∧ v.cell? ⟨g, cc * 6 + 4, none⟩ = some (.slice ya yl yc) ∧ v.cell? ⟨g, cc * 6 + 5, none⟩ = some (.int .i64 y6)) (by kernel_rfl) ?_ (fun hHeld => ?_)
        · exact HYC.out _ (Chg.refl [] wr).drew
        refine wpAnyH_take (i := 0) (oi := ?oi111) (v := ?v111) ?hi111 (by kernel_rfl) (by kernel_rfl) (by kernel_rfl) ?hQ111 (Or.inl ⟨?hw111, ?hy111⟩) (by assumption) ?hr111
        case hi111 => simp only [List.getElem?_toArray, List.getElem?_cons_zero]; rfl
        case hQ111 => exact fun _ _ _ h => h
        case hw111 => rfl
        case hy111 => intro w hSw; (try dsimp only at hSw); go_simp; (try with_reducible rfl)
        case hr111 =>
        simp only [Act.put, List.setIfInBounds_toArray, List.set_cons_zero, List.set_cons_succ]
        refine wpAnyH_take (i := 1) (oi := ?oi112) (v := ?v112) ?hi112 (by kernel_rfl) (by kernel_rfl) (by kernel_rfl) ?hQ112 (Or.inl ⟨?hw112, ?hy112⟩) (by assumption) ?hr112
        case hi112 => simp only [List.getElem?_toArray, List.getElem?_cons_succ, List.getElem?_cons_zero]; rfl
        case hQ112 => exact fun _ _ _ h => h
        case hw112 => rfl
        case hy112 => intro w hSw; (try dsimp only at hSw); go_simp; (try with_reducible rfl)
        case hr112 =>
        simp only [Act.put, List.setIfInBounds_toArray, List.set_cons_zero, List.set_cons_succ]
        refine wpAnyH_take (i := 2) (oi := ?oi113) (v := ?v113) ?hi113 (by kernel_rfl) (by kernel_rfl) (by kernel_rfl) ?hQ113 (Or.inl ⟨?hw113, ?hy113⟩) (by assumption) ?hr113
        case hi113 => simp only [List.getElem?_toArray, List.getElem?_cons_succ, List.getElem?_cons_zero]; rfl
        case hQ113 => exact fun _ _ _ h => h
        case hw113 => rfl
        case hy113 => intro w hSw; (try dsimp only at hSw); go_simp; (try with_reducible rfl)
        case hr113 =>
        simp only [Act.put, List.setIfInBounds_toArray, List.set_cons_zero, List.set_cons_succ]
        refine wpAnyH_take (i := 3) (oi := ?oi114) (v := ?v114) ?hi114 (by kernel_rfl) (by kernel_rfl) (by kernel_rfl) ?hQ114 (Or.inl ⟨?hw114, ?hy114⟩) (by assumption) ?hr114
        case hi114 => simp only [List.getElem?_toArray, List.getElem?_cons_succ, List.getElem?_cons_zero]; rfl
        case hQ114 => exact fun _ _ _ h => h
        case hw114 => rfl
        case hy114 => intro w hSw; (try dsimp only at hSw); go_simp; (try with_reducible rfl)
        case hr114 =>
        simp only [Act.put, List.setIfInBounds_toArray, List.set_cons_zero, List.set_cons_succ]
        refine wpAnyH_take (i := 4) (oi := ?oi115) (v := ?v115) ?hi115 (by kernel_rfl) (by kernel_rfl) (by kernel_rfl) ?hQ115 (Or.inl ⟨?hw115, ?hy115⟩) (by assumption) ?hr115
        case hi115 => simp only [List.getElem?_toArray, List.getElem?_cons_succ, List.getElem?_cons_zero]; rfl
        case hQ115 => exact fun _ _ _ h => h
        case hw115 => rfl
        case hy115 => intro w hSw; (try dsimp only at hSw); go_simp; (try with_reducible rfl)
        case hr115 =>
        simp only [Act.put, List.setIfInBounds_toArray, List.set_cons_zero, List.set_cons_succ]
        refine wpAnyH_take (i := 5) (oi := ?oi116) (v := ?v116) ?hi116 (by kernel_rfl) (by kernel_rfl) (by kernel_rfl) ?hQ116 (Or.inl ⟨?hw116, ?hy116⟩) (by assumption) ?hr116
        case hi116 => simp only [List.getElem?_toArray, List.getElem?_cons_succ, List.getElem?_cons_zero]; rfl
        case hQ116 => exact fun _ _ _ h => h
        case hw116 => rfl
        case hy116 => intro w hSw; (try dsimp only at hSw); go_simp; (try with_reducible rfl)
        case hr116 =>
        simp only [Act.put, List.setIfInBounds_toArray, List.set_cons_zero, List.set_cons_succ]
        refine wpAnyH_take (i := 6) (oi := ?oi117) (v := ?v117) ?hi117 (by kernel_rfl) (by kernel_rfl) (by kernel_rfl) ?hQ117 (Or.inl ⟨?hw117, ?hy117⟩) (by assumption) ?hr117
        case hi117 => simp only [List.getElem?_toArray, List.getElem?_cons_succ, List.getElem?_cons_zero]; rfl
        case hQ117 => exact fun _ _ _ h => h
        case hw117 => rfl
        case hy117 => intro w hSw; (try dsimp only at hSw); go_simp; (try with_reducible rfl)
        case hr117 =>
        simp only [Act.put, List.setIfInBounds_toArray, List.set_cons_zero, List.set_cons_succ]
        refine wpAnyH_take (i := 7) (oi := ?oi118) (v := ?v118) ?hi118 (by kernel_rfl) (by kernel_rfl) (by kernel_rfl) ?hQ118 (Or.inl ⟨?hw118, ?hy118⟩) (by assumption) ?hr118
        case hi118 => simp only [List.getElem?_toArray, List.getElem?_cons_succ, List.getElem?_cons_zero]; rfl
        case hQ118 => exact fun _ _ _ h => h
        case hw118 => rfl
        case hy118 => intro w hSw; (try dsimp only at hSw); go_simp; (try with_reducible rfl)
        case hr118 =>
        simp only [Act.put, List.setIfInBounds_toArray, List.set_cons_zero, List.set_cons_succ]
        refine wpAnyH_take (i := 8) (oi := ?oi119) (v := ?v119) ?hi119 (by kernel_rfl) (by kernel_rfl) (by kernel_rfl) ?hQ119 (Or.inl ⟨?hw119, ?hy119⟩) (by assumption) ?hr119
        case hi119 => simp only [List.getElem?_toArray, List.getElem?_cons_succ, List.getElem?_cons_zero]; rfl
        case hQ119 => exact fun _ _ _ h => h
        case hw119 => rfl
        case hy119 => intro w hSw; (try dsimp only at hSw); go_simp; (try with_reducible rfl)
        case hr119 =>
        simp only [Act.put, List.setIfInBounds_toArray, List.set_cons_zero, List.set_cons_succ]
        refine wpAnyH_take (i := 9) (oi := ?oi120) (v := ?v120) ?hi120 (by kernel_rfl) (by kernel_rfl) (by kernel_rfl) ?hQ120 (Or.inl ⟨?hw120, ?hy120⟩) (by assumption) ?hr120
        case hi120 => simp only [List.getElem?_toArray, List.getElem?_cons_succ, List.getElem?_cons_zero]; rfl
        case hQ120 => exact fun _ _ _ h => h
        case hw120 => rfl
        case hy120 => intro w hSw; (try dsimp only at hSw); go_simp; (try with_reducible rfl)
        case hr120 =>
        simp only [Act.put, List.setIfInBounds_toArray, List.set_cons_zero, List.set_cons_succ]
        refine wpAnyH_take (i := 10) (oi := ?oi121) (v := ?v121) ?hi121 (by kernel_rfl) (by kernel_rfl) (by kernel_rfl) ?hQ121 (Or.inl ⟨?hw121, ?hy121⟩) (by assumption) ?hr121
        case hi121 => simp only [List.getElem?_toArray, List.getElem?_cons_succ, List.getElem?_cons_zero]; rfl
        case hQ121 => exact fun _ _ _ h => h
        case hw121 => rfl
        case hy121 => intro w hSw; (try dsimp only at hSw); go_simp; (try with_reducible rfl)
        case hr121 =>
        simp only [Act.put, List.setIfInBounds_toArray, List.set_cons_zero, List.set_cons_succ]
        refine wpAnyH_ready (rs := [11]) (by kernel_rfl) (by simp) (AllReadyH.cons (o := ?oc122) ?hc122 (fun K hK => ?hs122) AllReadyH.nil)
        case hc122 => simp only [List.getElem?_toArray, List.getElem?_cons_succ, List.getElem?_cons_zero]; rfl
        case hs122 =>
        rw [if_pos (by rfl)]
        go_simp
        go_at_call 77; refine (HX.out _).mono ?_; rintro e w2 ⟨rfl, hw2⟩; have HW2 := Lib.hid hw2; clear hw2
        go_wp2_with fail
        refine hK.out _ _ ?_ (fun hHeld => ?_)
        · exact HYC.out _ ((Chg.refl [] wr).drew.trans HW2.out)
        clear hK K
        try simp only [Act.put, List.setIfInBounds_toArray, List.set_cons_zero, List.set_cons_succ]
        refine wpAnyH_take (i := 12) (oi := ?oi123) (v := ?v123) ?hi123 (by kernel_rfl) (by kernel_rfl) (by kernel_rfl) ?hQ123 (Or.inl ⟨?hw123, ?hy123⟩) (by assumption) ?hr123
        case hi123 => simp only [List.getElem?_toArray, List.getElem?_cons_succ, List.getElem?_cons_zero]; rfl
        case hQ123 => exact fun _ _ _ h => h
        case hw123 => rfl
        case hy123 => intro w hSw; (try dsimp only at hSw); go_simp; (try with_reducible rfl)
        case hr123 =>
        simp only [Act.put, List.setIfInBounds_toArray, List.set_cons_zero, List.set_cons_succ]
        refine wpAnyH_take (i := 13) (oi := ?oi124) (v := ?v124) ?hi124 (by kernel_rfl) (by kernel_rfl) (by kernel_rfl) ?hQ124 (Or.inl ⟨?hw124, ?hy124⟩) (by assumption) ?hr124
        case hi124 => simp only [List.getElem?_toArray, List.getElem?_cons_succ, List.getElem?_cons_zero]; rfl
        case hQ124 => exact fun _ _ _ h => h
        case hw124 => rfl
        case hy124 => intro w hSw; (try dsimp only at hSw); go_simp; (try with_reducible rfl)
        case hr124 =>
        simp only [Act.put, List.setIfInBounds_toArray, List.set_cons_zero, List.set_cons_succ]
        refine wpAnyH_done (by kernel_rfl) ?_ _
        go_wp2_with fail
        go_roundw
        case rel => exact ⟨st, cc, rfl, rfl, HK.out.1, HHH.out.1, by have := HHH.out; have := HK.out; omega, HK.out.2.2.2.1, fun _ h1 h2 => by have h3 := HLC.out.1 hcv; have h4 := HHH.out.2.2; subst h4; exact h3, HK.out.2.2.2.2.2.trans ((Chg.refl [] wr).drew.trans HW2.out)⟩
        case measure => have := HHH.out; simp [intOf]; omega
      · have hcd : decide (cv < 0) = false := decide_eq_false hcv
        go_upto_region 35 with (fail)
        refine wp_region_held_drew (S := fun v => v.cell? ⟨g, pc * 6, none⟩ = some (.int .i64 x1) ∧ v.cell? ⟨g, pc * 6 + 1, none⟩ = some (.string x2) ∧ v.cell? ⟨g, pc * 6 + 2, none⟩ = some (.int .i64 x3) ∧ v.cell? ⟨g, pc * 6 + 3, none⟩ = some (.string x4) ∧ v.cell? ⟨g, pc * 6 + 4, none⟩ = some (.slice xa xl xc) ∧ v.cell? ⟨g, pc * 6 + 5, none⟩ = some (.int .i64 x6) ∧ v.cell? ⟨g, cc * 6, none⟩ = some (.int .i64 y1) ∧ v.cell? ⟨g, cc * 6 + 1, none⟩ = some (.string y2) ∧ v.cell? ⟨g, cc * 6 + 2, none⟩ = some (.int .i64 y3) ∧ v.cell? ⟨g, cc * 6 + 3, none⟩ = some (.string y4) ∧ v.cell? ⟨g, cc * 6 + 4, none⟩ = some (.slice ya yl yc) ∧ v.cell? ⟨g, cc * 6 + 5, none⟩ = some (.int .i64 y6)) (by kernel_rfl) ?_ (fun hHeld => ?_)
        · exact HYC.out _ (Chg.refl [] wr).drew
        refine wpAnyH_take (i := 0) (oi := ?oi125) (v := ?v125) ?hi125 (by kernel_rfl) (by kernel_rfl) (by kernel_rfl) ?hQ125 (Or.inl ⟨?hw125, ?hy125⟩) (by assumption) ?hr125
        case hi125 => simp only [List.getElem?_toArray, List.getElem?_cons_zero]; rfl
        case hQ125 => exact fun _ _ _ h => h
        case hw125 => rfl
        case hy125 => intro w hSw; (try dsimp only at hSw); go_simp; (try with_reducible rfl)
        case hr125 =>
        simp only [Act.put, List.setIfInBounds_toArray, List.set_cons_zero, List.set_cons_succ]
        refine wpAnyH_take (i := 1) (oi := ?oi126) (v := ?v126) ?hi126 (by kernel_rfl) (by kernel_rfl) (by kernel_rfl) ?hQ126 (Or.inl ⟨?hw126, ?hy126⟩) (by assumption) ?hr126
        case hi126 => simp only [List.getElem?_toArray, List.getElem?_cons_succ, List.getElem?_cons_zero]; rfl
        case hQ126 => exact fun _ _ _ h => h
        case hw126 => rfl
        case hy126 => intro w hSw; (try dsimp only at hSw); go_simp; (try with_reducible rfl)
        case hr126 =>
        simp only [Act.put, List.setIfInBounds_toArray, List.set_cons_zero, List.set_cons_succ]
        refine wpAnyH_take (i := 2) (oi := ?oi127) (v := ?v127) ?hi127 (by kernel_rfl) (by kernel_rfl) (by kernel_rfl) ?hQ127 (Or.inl ⟨?hw127, ?hy127⟩) (by assumption) ?hr127
        case hi127 => simp only [List.getElem?_toArray, List.getElem?_cons_succ, List.getElem?_cons_zero]; rfl
        case hQ127 => exact fun _ _ _ h => h
        case hw127 => rfl
        case hy127 => intro w hSw; (try dsimp only at hSw); go_simp; (try with_reducible rfl)
        case hr127 =>
        simp only [Act.put, List.setIfInBounds_toArray, List.set_cons_zero, List.set_cons_succ]
        refine wpAnyH_take (i := 3) (oi := ?oi128) (v := ?v128) ?hi128 (by kernel_rfl) (by kernel_rfl) (by kernel_rfl) ?hQ128 (Or.inl ⟨?hw128, ?hy128⟩) (by assumption) ?hr128
        case hi128 => simp only [List.getElem?_toArray, List.getElem?_cons_succ, List.getElem?_cons_zero]; rfl
        case hQ128 => exact fun _ _ _ h => h
        case hw128 => rfl
        case hy128 => intro w hSw; (try dsimp only at hSw); go_simp; (try with_reducible rfl)
        case hr128 =>
        simp only [Act.put, List.setIfInBounds_toArray, List.set_cons_zero, List.set_cons_succ]
        refine wpAnyH_take (i := 4) (oi := ?oi129) (v := ?v129) ?hi129 (by kernel_rfl) (by kernel_rfl) (by kernel_rfl) ?hQ129 (Or.inl ⟨?hw129, ?hy129⟩) (by assumption) ?hr129
        case hi129 => simp only [List.getElem?_toArray, List.getElem?_cons_succ, List.getElem?_cons_zero]; rfl
        case hQ129 => exact fun _ _ _ h => h
        case hw129 => rfl
        case hy129 => intro w hSw; (try dsimp only at hSw); go_simp; (try with_reducible rfl)
        case hr129 =>
        simp only [Act.put, List.setIfInBounds_toArray, List.set_cons_zero, List.set_cons_succ]
        refine wpAnyH_take (i := 5) (oi := ?oi130) (v := ?v130) ?hi130 (by kernel_rfl) (by kernel_rfl) (by kernel_rfl) ?hQ130 (Or.inl ⟨?hw130, ?hy130⟩) (by assumption) ?hr130
        case hi130 => simp only [List.getElem?_toArray, List.getElem?_cons_succ, List.getElem?_cons_zero]; rfl
        case hQ130 => exact fun _ _ _ h => h
        case hw130 => rfl
        case hy130 => intro w hSw; (try dsimp only at hSw); go_simp; (try with_reducible rfl)
        case hr130 =>
        simp only [Act.put, List.setIfInBounds_toArray, List.set_cons_zero, List.set_cons_succ]
        refine wpAnyH_take (i := 6) (oi := ?oi131) (v := ?v131) ?hi131 (by kernel_rfl) (by kernel_rfl) (by kernel_rfl) ?hQ131 (Or.inl ⟨?hw131, ?hy131⟩) (by assumption) ?hr131
        case hi131 => simp only [List.getElem?_toArray, List.getElem?_cons_succ, List.getElem?_cons_zero]; rfl
        case hQ131 => exact fun _ _ _ h => h
        case hw131 => rfl
        case hy131 => intro w hSw; (try dsimp only at hSw); go_simp; (try with_reducible rfl)
        case hr131 =>
        simp only [Act.put, List.setIfInBounds_toArray, List.set_cons_zero, List.set_cons_succ]
        refine wpAnyH_take (i := 7) (oi := ?oi132) (v := ?v132) ?hi132 (by kernel_rfl) (by kernel_rfl) (by kernel_rfl) ?hQ132 (Or.inl ⟨?hw132, ?hy132⟩) (by assumption) ?hr132
        case hi132 => simp only [List.getElem?_toArray, List.getElem?_cons_succ, List.getElem?_cons_zero]; rfl
        case hQ132 => exact fun _ _ _ h => h
        case hw132 => rfl
        case hy132 => intro w hSw; (try dsimp only at hSw); go_simp; (try with_reducible rfl)
        case hr132 =>
        simp only [Act.put, List.setIfInBounds_toArray, List.set_cons_zero, List.set_cons_succ]
        refine wpAnyH_take (i := 8) (oi := ?oi133) (v := ?v133) ?hi133 (by kernel_rfl) (by kernel_rfl) (by kernel_rfl) ?hQ133 (Or.inl ⟨?hw133, ?hy133⟩) (by assumption) ?hr133
        case hi133 => simp only [List.getElem?_toArray, List.getElem?_cons_succ, List.getElem?_cons_zero]; rfl
        case hQ133 => exact fun _ _ _ h => h
        case hw133 => rfl
        case hy133 => intro w hSw; (try dsimp only at hSw); go_simp; (try with_reducible rfl)
        case hr133 =>
        simp only [Act.put, List.setIfInBounds_toArray, List.set_cons_zero, List.set_cons_succ]
        refine wpAnyH_take (i := 9) (oi := ?oi134) (v := ?v134) ?hi134 (by kernel_rfl) (by kernel_rfl) (by kernel_rfl) ?hQ134 (Or.inl ⟨?hw134, ?hy134⟩) (by assumption) ?hr134
        case hi134 => simp only [List.getElem?_toArray, List.getElem?_cons_succ, List.getElem?_cons_zero]; rfl
        case hQ134 => exact fun _ _ _ h => h
        case hw134 => rfl
        case hy134 => intro w hSw; (try dsimp only at hSw); go_simp; (try with_reducible rfl)
        case hr134 =>
        simp only [Act.put, List.setIfInBounds_toArray, List.set_cons_zero, List.set_cons_succ]
        refine wpAnyH_take (i := 10) (oi := ?oi135) (v := ?v135) ?hi135 (by kernel_rfl) (by kernel_rfl) (by kernel_rfl) ?hQ135 (Or.inl ⟨?hw135, ?hy135⟩) (by assumption) ?hr135
        case hi135 => simp only [List.getElem?_toArray, List.getElem?_cons_succ, List.getElem?_cons_zero]; rfl
        case hQ135 => exact fun _ _ _ h => h
        case hw135 => rfl
        case hy135 => intro w hSw; (try dsimp only at hSw); go_simp; (try with_reducible rfl)
        case hr135 =>
        simp only [Act.put, List.setIfInBounds_toArray, List.set_cons_zero, List.set_cons_succ]
        refine wpAnyH_ready (rs := [11]) (by kernel_rfl) (by simp) (AllReadyH.cons (o := ?oc136) ?hc136 (fun K hK => ?hs136) AllReadyH.nil)
        case hc136 => simp only [List.getElem?_toArray, List.getElem?_cons_succ, List.getElem?_cons_zero]; rfl
        case hs136 =>
        rw [if_pos (by rfl)]
        go_simp
        go_at_call 77; refine (HX.out _).mono ?_; rintro e w2 ⟨rfl, hw2⟩; have HW2 := Lib.hid hw2; clear hw2
        go_wp2_with fail
        refine hK.out _ _ ?_ (fun hHeld => ?_)
        · exact HYC.out _ ((Chg.refl [] wr).drew.trans HW2.out)
        clear hK K
        try simp only [Act.put, List.setIfInBounds_toArray, List.set_cons_zero, List.set_cons_succ]
        refine wpAnyH_take (i := 12) (oi := ?oi137) (v := ?v137) ?hi137 (by kernel_rfl) (by kernel_rfl) (by kernel_rfl) ?hQ137 (Or.inl ⟨?hw137, ?hy137⟩) (by assumption) ?hr137
        case hi137 => simp only [List.getElem?_toArray, List.getElem?_cons_succ, List.getElem?_cons_zero]; rfl
        case hQ137 => exact fun _ _ _ h => h
        case hw137 => rfl
        case hy137 => intro w hSw; (try dsimp only at hSw); go_simp; (try with_reducible rfl)
        case hr137 =>
        simp only [Act.put, List.setIfInBounds_toArray, List.set_cons_zero, List.set_cons_succ]
        refine wpAnyH_take (i := 13) (oi := ?oi138) (v := ?v138) ?hi138 (by kernel_rfl) (by kernel_rfl) (by kernel_rfl) ?hQ138 (Or.inl ⟨?hw138, ?hy138⟩) (by assumption) ?hr138
        case hi138 => simp only [List.getElem?_toArray, List.getElem?_cons_succ, List.getElem?_cons_zero]; rfl
        case hQ138 => exact fun _ _ _ h => h
        case hw138 => rfl
        case hy138 => intro w hSw; (try dsimp only at hSw); go_simp; (try with_reducible rfl)
        case hr138 =>
        simp only [Act.put, List.setIfInBounds_toArray, List.set_cons_zero, List.set_cons_succ]
        refine wpAnyH_done (by kernel_rfl) ?_ _
        go_wp2_with fail
        go_roundw
        case rel => exact ⟨cc + 1, r, by go_num, rfl, by have := HHH.out; have := HK.out; omega, by have := HHH.out; omega, HK.out.2.2.1, fun _ h1 h2 h3 => absurd (HLC.out.2 (by have h4 := HHH.out.2.2; subst h4; exact h3)) (by omega), HK.out.2.2.2.2.1, HK.out.2.2.2.2.2.trans ((Chg.refl [] wr).drew.trans HW2.out)⟩
        case measure => have := HHH.out; simp [intOf]; omega
    · obtain rfl : st = r := by have := HK.out.2.1; omega
      obtain ⟨e, he⟩ : ∃ x, x = nn - st := ⟨_, rfl⟩
      have hei : (nn : Int) - (st : Int) = (e : Int) := by have := HS0.out; have := HK.out; omega
      have heB : e ≤ 1000000 := by have := HS0.out; have := HK.out; omega
      have hew : IntKind.i64.wrap (e : Int) = (e : Int) := IntWalk.i64_in _ (by omega)
      have HE := Lib.hid (show a ≤ st ∧ st ≤ m ∧ m ≤ e ∧ e ≤ b ∧ mid = st + (e - m) ∧ b ≤ n from by
        have := HS0.out; have := HK.out; have := HB.out
        exact ⟨by omega, by omega, by omega, by omega, by omega, by omega⟩)
      have HH := Lib.hid (rot_halves (key := nkey) (L := L) (a := a) (m := m) (b := b) (s := st) (e := e) (mid := mid) HA.out.1 HA.out.2.1 HE.out.1 HE.out.2.1 HE.out.2.2.1 HE.out.2.2.2.1 (by have := HA.out.2.2; have := HE.out; omega) HE.out.2.2.2.2.1
        (fun q1 q2 q3 q4 => by
          have h1 := HK.out.2.2.2.1 (by have := HS0.out; omega)
          have h2 : p - (st - 1) = e := by have := HB.out; have := HE.out; omega
          simp only [h2] at h1
          exact h1 q3 q4)
        (fun q1 q2 q3 q4 => by
          have h1 := HK.out.2.2.2.2.1 (by have := HS0.out; omega)
          have h2 : p - st = e - 1 := by have := HB.out; have := HE.out; omega
          simp only [h2] at h1
          exact h1 q3 q4))
      have hRS := rot_shuf (L := L) (i := st) (m := m) (j := e) HE.out.2.1 HE.out.2.2.1 (by have := HA.out.2.2; have := HE.out; omega)
      have HRS := Lib.hid (hRS.wide HE.out.1 (by have := HE.out; omega) HE.out.2.2.2.1)
      have HNR := Lib.hid (And.intro (HS.out.chg HK.out.2.2.2.2.2 (by simp)) HK.out.2.2.2.2.2)
      clear he hRS HK HS HS0 hpi hpB hni hnB 
      have hcase : (st < m ∧ m < e) ∨ ¬ (st < m ∧ m < e) := Classical.em _
      rcases hcase with hrot | hrot
      case' inl =>
        have hx1 : (st : Int) < (m : Int) := by omega
        have hx2 : (m : Int) < (e : Int) := by omega
        have HC := Lib.hid (rotateN wr g n c L st m e HNR.out.1 hrot.1 hrot.2 (by have := HE.out; omega))
        go_upto_region 41 with (go_at_call 132; refine HC.out.mono ?_; rintro e' wr ⟨rfl, h1, h2⟩; have H5 := Lib.hid (And.intro h1 ((HNR.out.2.mono (by simp)).trans h2)); clear h1 h2)
        clear HC hx1 hx2 hrot HNR
      case' inr =>
        have H5 := Lib.hid (show NRow wr g n c (rot L st m e) ∧ Chg [g] w wr from ⟨by
          have := HE.out
          by_cases h1 : st = m
          · rw [h1, rot_same_l _ (by omega)]; exact HNR.out.1
          · rw [show e = m by omega, rot_same_r _ (by omega)]; exact HNR.out.1, HNR.out.2.mono (by simp)⟩)
        by_cases hx1 : (st : Int) < (m : Int)
        case' pos =>
          have hx2 : ¬ (m : Int) < (e : Int) := by omega
          go_upto_region 41 with (fail)
          clear hx2
        case' neg =>
          go_upto_region 41 with (fail)
        all_goals clear hx1 hrot HNR
      all_goals
        by_cases hr1 : a < st ∧ st < mid
        case' pos =>
          have hx1 : (a : Int) < (st : Int) := by omega
          have hx2 : (st : Int) < (mid : Int) := by omega
          have HC := Lib.hid (HR.out wr _ a st mid H5.out.1 HH.out.1 HH.out.2.1 hr1.1 hr1.2 (by have := HE.out; have := HB.out; omega) (by have := HB.out; have := HE.out; omega))
          go_upto_region 43 with (go_at_call 121; refine HC.out.mono ?_; rintro e' wr ⟨rfl, L3, h1, h2, h3, h4⟩; have H6 := Lib.hid (show NRow wr g n c L3 ∧ Shuf (rot L st m e) L3 a mid ∧ Asc nkey L3 a mid ∧ Chg [g] w wr from ⟨h1, h2, h3, H5.out.2.trans h4⟩); clear h1 h2 h3 h4)
          clear HC hx1 hx2 hr1 H5
        case' neg =>
          obtain ⟨L3, hL3⟩ : ∃ x, x = rot L st m e := ⟨_, rfl⟩
          have H6 := Lib.hid (show NRow wr g n c L3 ∧ Shuf (rot L st m e) L3 a mid ∧ Asc nkey L3 a mid ∧ Chg [g] w wr from by
            subst hL3
            exact ⟨H5.out.1, Shuf.refl _ _ _, asc_left HH.out.1 HH.out.2.1 hr1 HE.out.1 (by have := HE.out; omega), H5.out.2⟩)
          by_cases hx1 : (a : Int) < (st : Int)
          case' pos =>
            have hx2 : ¬ (st : Int) < (mid : Int) := by omega
            go_upto_region 43 with (fail)
            clear hx2
          case' neg =>
            go_upto_region 43 with (fail)
          all_goals clear hx1 hr1 H5 hL3
        skip
      all_goals
        have a1 := HH.out.2.2.1
        have a2 := HH.out.2.2.2.1
        have hfin : ∀ W L4, NRow W g n c L4 → Shuf L3 L4 mid b → Asc nkey L4 mid b → Chg [g] wr W → SortedTo w W g n c L a b := fun W L4 q1 q2 q3 q4 => by
          obtain ⟨f1, f2⟩ := halves_join (by have := HE.out; omega) (by have := HE.out; omega) HH.out.2.2.2.2 H6.out.2.1 H6.out.2.2.1 q2 q3
          exact ⟨L4, q1, HRS.out.trans f2, f1, H6.out.2.2.2.trans q4⟩
        have HF := Lib.hid hfin
        have HAH := Lib.hid (And.intro (H6.out.2.1.asc_high (Nat.le_refl _) a1) (H6.out.2.1.asc_high (by have := HE.out; omega) a2))
        clear hfin a1 a2
        by_cases hr2 : mid < e ∧ e < b
        case' pos =>
          have hx1 : (mid : Int) < (e : Int) := by omega
          have hx2 : (e : Int) < (b : Int) := by omega
          have HC := Lib.hid (HR.out wr L3 mid e b H6.out.1 HAH.out.1 HAH.out.2 hr2.1 hr2.2 HE.out.2.2.2.2.2 (by have := HB.out; have := HE.out; omega))
          go_wp2_with (go_at_call 121; refine HC.out.mono ?_; rintro e' wq ⟨rfl, L4, h1, h2, h3, h4⟩; have H7 := Lib.hid (HF.out wq L4 h1 h2 h3 h4); clear h1 h2 h3 h4)
          go_end0
          exact ⟨rfl, H7.out⟩
        case' neg =>
          have H7 := Lib.hid (HF.out wr L3 H6.out.1 (Shuf.refl _ _ _) (asc_left HAH.out.1 HAH.out.2 hr2 (by have := HE.out; omega) (by have := HE.out; omega)) (Chg.refl _ _))
          by_cases hx1 : (mid : Int) < (e : Int)
          case' pos =>
            have hx2 : ¬ (e : Int) < (b : Int) := by omega
            go_wp2_with fail
            go_end0
            exact ⟨rfl, H7.out⟩
          case' neg =>
            go_wp2_with fail
            go_end0
            exact ⟨rfl, H7.out⟩
theorem symN (g n c : Nat) : ∀ (s : Nat) (w : World) (L : List (ANode × Value)) (a m b : Nat), NRow w g n c L → Asc nkey L a m → Asc nkey L m b → a < m → m < b → b ≤ n → b - a ≤ s →
    Calls Tryz.prog 121 #[.slice (some ⟨g, 0, none⟩) n c, .int .i64 a, .int .i64 m, .int .i64 b, .func (.func 77) #[] #[]] w fun e w' => e = .returned (.tuple #[]) ∧ SortedTo w w' g n c L a b := by
  intro s
  induction s with
  | zero => intro w L a m b _ _ _ h1 h2 _ h4; omega
  | succ s ih =>
    intro w L a m b h k1 k2 h1 h2 h3 h4
    by_cases e1 : m = a + 1
    · exact symL w g n c L a m b h e1 h2 h3 k2
    · by_cases e2 : b = m + 1
      · exact symR w g n c L a m b h (by omega) e2 h3 k1
      · have hrec := fun W L' a' m' b' (q1 : NRow W g n c L') (q2 : Asc nkey L' a' m') (q3 : Asc nkey L' m' b') (q4 : a' < m') (q5 : m' < b') (q6 : b' ≤ n) (q7 : b' - a' < b - a) => ih W L' a' m' b' q1 q2 q3 q4 q5 q6 (by omega)
        by_cases e3 : (a + b) / 2 < m
        · exact symGA w g n c L a m b _ h (by omega) (by omega) h3 k1 k2 rfl e3 hrec
        · exact symGB w g n c L a m b _ h (by omega) (by omega) h3 k1 k2 rfl (by omega) hrec
end Go.Proofs.YtfhiioopimmahaaGreatDoor
