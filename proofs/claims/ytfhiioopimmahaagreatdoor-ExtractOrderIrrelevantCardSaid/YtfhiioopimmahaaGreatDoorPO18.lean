/- slices.insertionSortCmpFunc at a row of nodes. Printed by wip/gen/gensins.py. slices.rotateCmpFunc at a row of nodes. -/
import Derived.Test.YtfhiioopimmahaaGreatDoorPO17
namespace Go.Proofs.YtfhiioopimmahaaGreatDoor
open Go.RowKit Go.Pax Go.Shelf
def nkey (x : ANode × Value) : Str := x.1.path
/-- Two nodes of a row, their comparison, and their cells. -/
theorem NRow.pair {w : World} {g n c : Nat} {L : List (ANode × Value)} (h : NRow w g n c L) {i j : Nat} (hi : i < n) (hj : j < n) : ∃ x xa xl xc y ya yl yc, NdAt w g i x xa xl xc ∧ NdAt w g j y ya yl yc ∧ L[i]? = some (x, .slice xa xl xc) ∧ L[j]? = some (y, .slice ya yl yc) ∧
    (∀ W, Calls Tryz.prog 77 #[ndV x (.slice xa xl xc), ndV y (.slice ya yl yc)] W fun e w' => e = .returned (.int .i64 (cmpS x.path y.path)) ∧ Chg [] W w') := by
  obtain ⟨x, xa, xl, xc, hx, hxe⟩ := h.at hi
  obtain ⟨y, ya, yl, yc, hy, hye⟩ := h.at hj
  exact ⟨x, xa, xl, xc, y, ya, yl, yc, hx, hy, hxe, hye, fun W => cmpNd x y xa ya xl xc yl yc W⟩
/-- What a row is behind a sort of the elements from a to b. -/
def SortedTo (w w' : World) (g n c : Nat) (L : List (ANode × Value)) (a b : Nat) : Prop := ∃ L', NRow w' g n c L' ∧ Shuf L L' a b ∧ Asc nkey L' a b ∧ Chg [g] w w'
theorem key_of {L : List (ANode × Value)} {i : Nat} {y : ANode × Value} (h : L[i]? = some y) : ∀ (hi : i < L.length), nkey L[i] = y.1.path := fun hi => by
  rw [List.getElem?_eq_getElem hi] at h
  injection h with h
  rw [h]
  rfl
set_option maxRecDepth 100000 in
set_option maxHeartbeats 16000000 in
theorem insN (w : World) (g n c : Nat) (L : List (ANode × Value)) (a b : Nat) (h : NRow w g n c L) (hab : a ≤ b) (hb : b ≤ n) :
    Calls Tryz.prog 120 #[.slice (some ⟨g, 0, none⟩) n c, .int .i64 a, .int .i64 b, .func (.func 77) #[] #[]] w fun e w' => e = .returned (.tuple #[]) ∧ SortedTo w w' g n c L a b := by
  have HS := Lib.hid h
  have hnB : n ≤ 1000000 := h.short
  have HB := Lib.hid (And.intro hab hb)
  have hbB : b ≤ 1000000 := by omega
  have haB : a ≤ 1000000 := by omega
  clear h hab hb
  go_enter Tryz.func120, Tryz.ntmps120
  go_wp2_with fail
  go_loopw [8, 9] (fun u _ wr => ∃ (k : Nat) (L1 : List (ANode × Value)), u = .int .i64 k ∧ a < k ∧ k ≤ b + 1 ∧ (k ≤ b ∨ a = b) ∧ NRow wr g n c L1 ∧ Shuf L L1 a b ∧ (k ≤ b → Asc nkey L1 a k) ∧ Chg [g] w wr) (fun u _ _ => b + 1 - (intOf u).toNat)
  case atStart => exact ⟨a + 1, L, by go_num, by omega, by have := HB.out.1; omega, by have := HB.out.1; omega, HS.out, Shuf.refl _ _ _, fun hk => asc_one _ _ (by rw [HS.out.len]; have := HB.out.2; omega), Chg.refl _ _⟩
  case round =>
    obtain ⟨k, L1, rfl, hak, hkb, hkab, hr, hsh, has, hk⟩ := hrel
    have HK := Lib.hid (And.intro hak (And.intro hkb (And.intro hkab (And.intro hr (And.intro hsh (And.intro has hk))))))
    have hkB : k ≤ 1000001 := by omega
    clear hak hkb hk hkab hr hsh has HS
    by_cases hlt : k < b
    · have hasc := HK.out.2.2.2.2.2.1 (by omega)
      have hkn : k < n := by have := HB.out.2; omega
      have hkL : k < L1.length := by rw [HK.out.2.2.2.1.len]; exact hkn
      have HA := Lib.hid (And.intro hasc (And.intro hkn (And.intro hkL HK.out.1)))
      clear hasc
      go_wp2_with fail
      go_loopw [9] (fun v wq => ∃ j : Nat, v = .int .i64 j ∧ a ≤ j ∧ j ≤ k ∧ NRow wq g n c (rot L1 j k (k + 1)) ∧ (∀ i (hi : i < L1.length), j ≤ i → i < k → nkey (L1[k]'HA.out.2.2.1) < nkey L1[i]) ∧ Chg [g] wr wq) (fun v _ => (intOf v).toNat)
      case atStart => exact ⟨k, rfl, by have := HA.out.2.2.2; omega, Nat.le_refl _, by rw [rot_same_l _ (by omega)]; exact HK.out.2.2.2.1, fun i _ h1 h2 => by omega, Chg.refl _ _⟩
      case round =>
        obtain ⟨j, rfl, haj, hjk, hr, hall, hk⟩ := hrel
        have hjB : j ≤ 1000001 := by omega
        have HJ := Lib.hid (And.intro haj (And.intro hjk (And.intro hr (And.intro hall hk))))
        clear haj hjk hr hall hk
        have HDN := Lib.hid (fun (W : World) (hc : Chg [] wr W) (hst : j = a ∨ ∀ hi : j - 1 < L1.length, ¬ nkey (L1[k]'HA.out.2.2.1) < nkey L1[j - 1]) => (show ∃ L2, NRow W g n c L2 ∧ Shuf L L2 a b ∧ (k + 1 ≤ b → Asc nkey L2 a (k + 1)) ∧ Chg [g] w W from
          ⟨rot L1 j k (k + 1), HJ.out.2.2.1.chg hc (by simp), HK.out.2.2.2.2.1.trans ((rot_shuf HJ.out.2.1 (by omega) (by have := HA.out.2.2.1; omega)).wide HJ.out.1 (by have := HJ.out.2.1; omega) (by omega)),
            fun _ => ins_done HA.out.1 HA.out.2.2.1 HJ.out.1 HJ.out.2.1 HJ.out.2.2.2.1 hst, HK.out.2.2.2.2.2.2.trans (HJ.out.2.2.2.2.trans (hc.mono (by simp)))⟩))
        by_cases hja : a < j
        · obtain ⟨p, hp⟩ : ∃ p, p = j - 1 := ⟨_, rfl⟩
          have hpj : (j : Int) - 1 = (p : Int) := by omega
          have hpB : p ≤ 1000001 := by omega
          have hpw : IntKind.i64.wrap (p : Int) = (p : Int) := IntWalk.i64_in _ (by omega)
          have hji : (j : Int) > (a : Int) := by omega
          have hjn : j < n := by have := HJ.out.2.1; have := HA.out.2.1; omega
          have hpn : p < n := by omega
          obtain ⟨x, xa, xl, xc, y, ya, yl, yc, hx, hy, hxe, hye, hcmp⟩ := HJ.out.2.2.1.pair hjn hpn
          have hsw := fun W (kw : Chg [] wr W) => (HJ.out.2.2.1.chg kw (by simp)).swap hjn hpn hxe hye
          obtain ⟨r1, r2⟩ := rot_at (L := L1) (j := j) (k := k) HJ.out.2.1 HA.out.2.2.1
          rw [r1] at hxe
          rw [r2 p (by omega)] at hye
          have hpL : p < L1.length := by have := HA.out.2.2.1; have := HJ.out.2.1; omega
          have hkx := key_of hxe HA.out.2.2.1
          have hky := key_of hye hpL
          simp only at hkx hky
          have HKY := Lib.hid (And.intro hkx (And.intro hky (And.intro hp hja)))
          have HX := Lib.hid hcmp
          have hlc : cmpS x.path y.path < 0 ↔ nkey (L1[k]'HA.out.2.2.1) < nkey L1[p] := by rw [hkx, hky]; exact cmpS_lt
          clear hcmp hkx hky hxe hye r1 r2 hp
          generalize cmpS x.path y.path = cv at *
          obtain ⟨x1, x2, x3, x4, x5, x6⟩ := x
          obtain ⟨y1, y2, y3, y4, y5, y6⟩ := y
          unfold ndV at HX
          unfold ndc at hsw
          unfold NdAt at hx hy
          simp only at hx hy HX hsw
          generalize ba x2 = x2 at *
          generalize ba y2 = y2 at *
          generalize ba x4 = x4 at *
          generalize ba y4 = y4 at *
          have HYC := Lib.hid (fun W (kw : Chg [] wr W) => (show (fun v => v.cell? ⟨g, j * 6, none⟩ = some (.int .i64 x1) ∧ v.cell? ⟨g, j * 6 + 1, none⟩ = some (.string x2) ∧ v.cell? ⟨g, j * 6 + 2, none⟩ = some (.int .i64 x3) ∧ v.cell? ⟨g, j * 6 + 3, none⟩ = some (.string x4) ∧ v.cell? ⟨g, j * 6 + 4, none⟩ = some (.slice xa xl xc) ∧ v.cell? ⟨g, j * 6 + 5, none⟩ = some (.int .i64 x6) ∧ v.cell? ⟨g, p * 6, none⟩ = some (.int .i64 y1) ∧ v.cell? ⟨g, p * 6 + 1, none⟩ = some (.string y2) ∧ v.cell? ⟨g, p * 6 + 2, none⟩ = some (.int .i64 y3) ∧ v.cell? ⟨g, p * 6 + 3, none⟩ = some (.string y4) ∧ v.cell? ⟨g, p * 6 + 4, none⟩ = some (.slice ya yl yc) ∧ v.cell? ⟨g, p * 6 + 5, none⟩ = some (.int .i64 y6)) W from ⟨kw.cell hx.1 (by simp), kw.cell hx.2.1 (by simp), kw.cell hx.2.2.1 (by simp), kw.cell hx.2.2.2.1 (by simp), kw.cell hx.2.2.2.2.1 (by simp), kw.cell hx.2.2.2.2.2 (by simp), kw.cell hy.1 (by simp), kw.cell hy.2.1 (by simp), kw.cell hy.2.2.1 (by simp), kw.cell hy.2.2.2.1 (by simp), kw.cell hy.2.2.2.2.1 (by simp), kw.cell hy.2.2.2.2.2 (by simp)⟩))
          have HSWA := Lib.hid hsw
          clear hx hy hsw
          have HLC := Lib.hid hlc
          clear hlc
          by_cases hcv : cv < 0
          · have hcd : decide (cv < 0) = true := decide_eq_true hcv
            go_upto_region 4 with (fail)
            refine wp_region_held_drew (S := fun v => v.cell? ⟨g, j * 6, none⟩ = some (.int .i64 x1) ∧ v.cell? ⟨g, j * 6 + 1, none⟩ = some (.string x2) ∧ v.cell? ⟨g, j * 6 + 2, none⟩ = some (.int .i64 x3) ∧ v.cell? ⟨g, j * 6 + 3, none⟩ = some (.string x4) ∧ v.cell? ⟨g, j * 6 + 4, none⟩ = some (.slice xa xl xc) ∧ v.cell? ⟨g, j * 6 + 5, none⟩ = some (.int .i64 x6) ∧ v.cell? ⟨g, p * 6, none⟩ = some (.int .i64 y1) ∧ v.cell? ⟨g, p * 6 + 1, none⟩ = some (.string y2) ∧ v.cell? ⟨g, p * 6 + 2, none⟩ = some (.int .i64 y3) ∧ v.cell? ⟨g, p * 6 + 3, none⟩ = some (.string y4) ∧ v.cell? ⟨g, p * 6 + 4, none⟩ = some (.slice ya yl yc) ∧ v.cell? ⟨g, p * 6 + 5, none⟩ = some (.int .i64 y6)) (by kernel_rfl) ?_ (fun hHeld => ?_)
            · exact HYC.out _ (Chg.refl [] wr).drew
            refine wpAnyH_take (i := 0) (oi := ?oi1) (v := ?v1) ?hi1 (by kernel_rfl) (by kernel_rfl) (by kernel_rfl) ?hQ1 (Or.inl ⟨?hw1, ?hy1⟩) (by assumption) ?hr1
            case hi1 => simp only [List.getElem?_toArray, List.getElem?_cons_zero]; rfl
            case hQ1 => exact fun _ _ _ h => h
            case hw1 => rfl
            case hy1 => intro w hSw; (try dsimp only at hSw); go_simp; (try with_reducible rfl)
            case hr1 =>
            simp only [Act.put, List.setIfInBounds_toArray, List.set_cons_zero, List.set_cons_succ]
            refine wpAnyH_take (i := 1) (oi := ?oi2) (v := ?v2) ?hi2 (by kernel_rfl) (by kernel_rfl) (by kernel_rfl) ?hQ2 (Or.inl ⟨?hw2, ?hy2⟩) (by assumption) ?hr2
            case hi2 => simp only [List.getElem?_toArray, List.getElem?_cons_succ, List.getElem?_cons_zero]; rfl
            case hQ2 => exact fun _ _ _ h => h
            case hw2 => rfl
            case hy2 => intro w hSw; (try dsimp only at hSw); go_simp; (try with_reducible rfl)
            case hr2 =>
            simp only [Act.put, List.setIfInBounds_toArray, List.set_cons_zero, List.set_cons_succ]
            refine wpAnyH_take (i := 2) (oi := ?oi3) (v := ?v3) ?hi3 (by kernel_rfl) (by kernel_rfl) (by kernel_rfl) ?hQ3 (Or.inl ⟨?hw3, ?hy3⟩) (by assumption) ?hr3
            case hi3 => simp only [List.getElem?_toArray, List.getElem?_cons_succ, List.getElem?_cons_zero]; rfl
            case hQ3 => exact fun _ _ _ h => h
            case hw3 => rfl
            case hy3 => intro w hSw; (try dsimp only at hSw); go_simp; (try with_reducible rfl)
            case hr3 =>
            simp only [Act.put, List.setIfInBounds_toArray, List.set_cons_zero, List.set_cons_succ]
            refine wpAnyH_take (i := 3) (oi := ?oi4) (v := ?v4) ?hi4 (by kernel_rfl) (by kernel_rfl) (by kernel_rfl) ?hQ4 (Or.inl ⟨?hw4, ?hy4⟩) (by assumption) ?hr4
            case hi4 => simp only [List.getElem?_toArray, List.getElem?_cons_succ, List.getElem?_cons_zero]; rfl
            case hQ4 => exact fun _ _ _ h => h
            case hw4 => rfl
            case hy4 => intro w hSw; (try dsimp only at hSw); go_simp; (try with_reducible rfl)
            case hr4 =>
            simp only [Act.put, List.setIfInBounds_toArray, List.set_cons_zero, List.set_cons_succ]
            refine wpAnyH_take (i := 4) (oi := ?oi5) (v := ?v5) ?hi5 (by kernel_rfl) (by kernel_rfl) (by kernel_rfl) ?hQ5 (Or.inl ⟨?hw5, ?hy5⟩) (by assumption) ?hr5
            case hi5 => simp only [List.getElem?_toArray, List.getElem?_cons_succ, List.getElem?_cons_zero]; rfl
            case hQ5 => exact fun _ _ _ h => h
            case hw5 => rfl
            case hy5 => intro w hSw; (try dsimp only at hSw); go_simp; (try with_reducible rfl)
            case hr5 =>
            simp only [Act.put, List.setIfInBounds_toArray, List.set_cons_zero, List.set_cons_succ]
            refine wpAnyH_take (i := 5) (oi := ?oi6) (v := ?v6) ?hi6 (by kernel_rfl) (by kernel_rfl) (by kernel_rfl) ?hQ6 (Or.inl ⟨?hw6, ?hy6⟩) (by assumption) ?hr6
            case hi6 => simp only [List.getElem?_toArray, List.getElem?_cons_succ, List.getElem?_cons_zero]; rfl
            case hQ6 => exact fun _ _ _ h => h
            case hw6 => rfl
            case hy6 => intro w hSw; (try dsimp only at hSw); go_simp; (try with_reducible rfl)
            case hr6 =>
            simp only [Act.put, List.setIfInBounds_toArray, List.set_cons_zero, List.set_cons_succ]
            refine wpAnyH_take (i := 6) (oi := ?oi7) (v := ?v7) ?hi7 (by kernel_rfl) (by kernel_rfl) (by kernel_rfl) ?hQ7 (Or.inl ⟨?hw7, ?hy7⟩) (by assumption) ?hr7
            case hi7 => simp only [List.getElem?_toArray, List.getElem?_cons_succ, List.getElem?_cons_zero]; rfl
            case hQ7 => exact fun _ _ _ h => h
            case hw7 => rfl
            case hy7 => intro w hSw; (try dsimp only at hSw); go_simp; (try with_reducible rfl)
            case hr7 =>
            simp only [Act.put, List.setIfInBounds_toArray, List.set_cons_zero, List.set_cons_succ]
            refine wpAnyH_take (i := 7) (oi := ?oi8) (v := ?v8) ?hi8 (by kernel_rfl) (by kernel_rfl) (by kernel_rfl) ?hQ8 (Or.inl ⟨?hw8, ?hy8⟩) (by assumption) ?hr8
            case hi8 => simp only [List.getElem?_toArray, List.getElem?_cons_succ, List.getElem?_cons_zero]; rfl
            case hQ8 => exact fun _ _ _ h => h
            case hw8 => rfl
            case hy8 => intro w hSw; (try dsimp only at hSw); go_simp; (try with_reducible rfl)
            case hr8 =>
            simp only [Act.put, List.setIfInBounds_toArray, List.set_cons_zero, List.set_cons_succ]
            refine wpAnyH_take (i := 8) (oi := ?oi9) (v := ?v9) ?hi9 (by kernel_rfl) (by kernel_rfl) (by kernel_rfl) ?hQ9 (Or.inl ⟨?hw9, ?hy9⟩) (by assumption) ?hr9
            case hi9 => simp only [List.getElem?_toArray, List.getElem?_cons_succ, List.getElem?_cons_zero]; rfl
            case hQ9 => exact fun _ _ _ h => h
            case hw9 => rfl
            case hy9 => intro w hSw; (try dsimp only at hSw); go_simp; (try with_reducible rfl)
            case hr9 =>
            simp only [Act.put, List.setIfInBounds_toArray, List.set_cons_zero, List.set_cons_succ]
            refine wpAnyH_take (i := 9) (oi := ?oi10) (v := ?v10) ?hi10 (by kernel_rfl) (by kernel_rfl) (by kernel_rfl) ?hQ10 (Or.inl ⟨?hw10, ?hy10⟩) (by assumption) ?hr10
            case hi10 => simp only [List.getElem?_toArray, List.getElem?_cons_succ, List.getElem?_cons_zero]; rfl
            case hQ10 => exact fun _ _ _ h => h
            case hw10 => rfl
            case hy10 => intro w hSw; (try dsimp only at hSw); go_simp; (try with_reducible rfl)
            case hr10 =>
            simp only [Act.put, List.setIfInBounds_toArray, List.set_cons_zero, List.set_cons_succ]
            refine wpAnyH_take (i := 10) (oi := ?oi11) (v := ?v11) ?hi11 (by kernel_rfl) (by kernel_rfl) (by kernel_rfl) ?hQ11 (Or.inl ⟨?hw11, ?hy11⟩) (by assumption) ?hr11
            case hi11 => simp only [List.getElem?_toArray, List.getElem?_cons_succ, List.getElem?_cons_zero]; rfl
            case hQ11 => exact fun _ _ _ h => h
            case hw11 => rfl
            case hy11 => intro w hSw; (try dsimp only at hSw); go_simp; (try with_reducible rfl)
            case hr11 =>
            simp only [Act.put, List.setIfInBounds_toArray, List.set_cons_zero, List.set_cons_succ]
            refine wpAnyH_take (i := 11) (oi := ?oi12) (v := ?v12) ?hi12 (by kernel_rfl) (by kernel_rfl) (by kernel_rfl) ?hQ12 (Or.inl ⟨?hw12, ?hy12⟩) (by assumption) ?hr12
            case hi12 => simp only [List.getElem?_toArray, List.getElem?_cons_succ, List.getElem?_cons_zero]; rfl
            case hQ12 => exact fun _ _ _ h => h
            case hw12 => rfl
            case hy12 => intro w hSw; (try dsimp only at hSw); go_simp; (try with_reducible rfl)
            case hr12 =>
            simp only [Act.put, List.setIfInBounds_toArray, List.set_cons_zero, List.set_cons_succ]
            refine wpAnyH_take (i := 12) (oi := ?oi13) (v := ?v13) ?hi13 (by kernel_rfl) (by kernel_rfl) (by kernel_rfl) ?hQ13 (Or.inl ⟨?hw13, ?hy13⟩) (by assumption) ?hr13
            case hi13 => simp only [List.getElem?_toArray, List.getElem?_cons_succ, List.getElem?_cons_zero]; rfl
            case hQ13 => exact fun _ _ _ h => h
            case hw13 => rfl
            case hy13 => intro w hSw; (try dsimp only at hSw); go_simp; (try with_reducible rfl)
            case hr13 =>
            simp only [Act.put, List.setIfInBounds_toArray, List.set_cons_zero, List.set_cons_succ]
            refine wpAnyH_take (i := 13) (oi := ?oi14) (v := ?v14) ?hi14 (by kernel_rfl) (by kernel_rfl) (by kernel_rfl) ?hQ14 (Or.inl ⟨?hw14, ?hy14⟩) (by assumption) ?hr14
            case hi14 => simp only [List.getElem?_toArray, List.getElem?_cons_succ, List.getElem?_cons_zero]; rfl
            case hQ14 => exact fun _ _ _ h => h
            case hw14 => rfl
            case hy14 => intro w hSw; (try dsimp only at hSw); go_simp; (try with_reducible rfl)
            case hr14 =>
            simp only [Act.put, List.setIfInBounds_toArray, List.set_cons_zero, List.set_cons_succ]
            refine wpAnyH_ready (rs := [14]) (by kernel_rfl) (by simp) (AllReadyH.cons (o := ?oc15) ?hc15 (fun K hK => ?hs15) AllReadyH.nil)
            case hc15 => simp only [List.getElem?_toArray, List.getElem?_cons_succ, List.getElem?_cons_zero]; rfl
            case hs15 =>
            rw [if_pos (by rfl)]
            go_simp
            go_at_call 77; refine (HX.out _).mono ?_; rintro e w2 ⟨rfl, hw2⟩; have HW2 := Lib.hid hw2; clear hw2
            go_wp2_with fail
            refine hK.out _ _ ?_ (fun hHeld => ?_)
            · exact HYC.out _ ((Chg.refl [] wr).drew.trans HW2.out)
            clear hK K
            try simp only [Act.put, List.setIfInBounds_toArray, List.set_cons_zero, List.set_cons_succ]
            refine wpAnyH_take (i := 15) (oi := ?oi16) (v := ?v16) ?hi16 (by kernel_rfl) (by kernel_rfl) (by kernel_rfl) ?hQ16 (Or.inl ⟨?hw16, ?hy16⟩) (by assumption) ?hr16
            case hi16 => simp only [List.getElem?_toArray, List.getElem?_cons_succ, List.getElem?_cons_zero]; rfl
            case hQ16 => exact fun _ _ _ h => h
            case hw16 => rfl
            case hy16 => intro w hSw; (try dsimp only at hSw); go_simp; (try with_reducible rfl)
            case hr16 =>
            simp only [Act.put, List.setIfInBounds_toArray, List.set_cons_zero, List.set_cons_succ]
            refine wpAnyH_take (i := 16) (oi := ?oi17) (v := ?v17) ?hi17 (by kernel_rfl) (by kernel_rfl) (by kernel_rfl) ?hQ17 (Or.inl ⟨?hw17, ?hy17⟩) (by assumption) ?hr17
            case hi17 => simp only [List.getElem?_toArray, List.getElem?_cons_succ, List.getElem?_cons_zero]; rfl
            case hQ17 => exact fun _ _ _ h => h
            case hw17 => rfl
            case hy17 => intro w hSw; (try dsimp only at hSw); go_simp; (try with_reducible rfl)
            case hr17 =>
            simp only [Act.put, List.setIfInBounds_toArray, List.set_cons_zero, List.set_cons_succ]
            refine wpAnyH_done (by kernel_rfl) ?_ _
            clear hcd hpw
            go_wp2_with fail
            have hk2 : Chg [] wr w2 := (Chg.refl [] wr).drew.trans HW2.out
            have HXY := Lib.hid (HYC.out w2.drew (hk2.trans (Chg.refl _ _).drew))
            have HSW := Lib.hid (HSWA.out w2.drew (hk2.trans (Chg.refl _ _).drew))
            have HK2 := Lib.hid hk2
            have hpw : IntKind.i64.wrap (p : Int) = (p : Int) := IntWalk.i64_in _ (by omega)
            clear hk2
            obtain ⟨W1, hW1⟩ : ∃ x, x = w2.drew.setCells g (j * 6) [.int .i64 y1, .string y2, .int .i64 y3, .string y4, .slice ya yl yc, .int .i64 y6] := ⟨_, rfl⟩
            have hs1 := HSW.out
            rw [← hW1] at hs1
            replace HSW := Lib.hid hs1
            have HW1 := Lib.hid hW1
            clear hs1 hW1
            refine wp_region_mark (S := fun v => v.cell? ⟨g, j * 6, none⟩ = some (.int .i64 x1) ∧ v.cell? ⟨g, j * 6 + 1, none⟩ = some (.string x2) ∧ v.cell? ⟨g, j * 6 + 2, none⟩ = some (.int .i64 x3) ∧ v.cell? ⟨g, j * 6 + 3, none⟩ = some (.string x4) ∧ v.cell? ⟨g, j * 6 + 4, none⟩ = some (.slice xa xl xc) ∧ v.cell? ⟨g, j * 6 + 5, none⟩ = some (.int .i64 x6) ∧ v.cell? ⟨g, p * 6, none⟩ = some (.int .i64 y1) ∧ v.cell? ⟨g, p * 6 + 1, none⟩ = some (.string y2) ∧ v.cell? ⟨g, p * 6 + 2, none⟩ = some (.int .i64 y3) ∧ v.cell? ⟨g, p * 6 + 3, none⟩ = some (.string y4) ∧ v.cell? ⟨g, p * 6 + 4, none⟩ = some (.slice ya yl yc) ∧ v.cell? ⟨g, p * 6 + 5, none⟩ = some (.int .i64 y6)) 14 (by kernel_rfl) ?_ (fun hHeld => ?_)
            · exact HXY.out
            refine wpAnyF_pure (i := 0) (oi := ?oi52) (v := ?v52) ?hi52 (by kernel_rfl) (by kernel_rfl) (by kernel_rfl) (by kernel_rfl) ?hQ52 (Or.inl ⟨?hw52, ?hy52⟩) (Or.inr (by assumption)) ?hr52
            case hi52 => simp only [List.getElem?_toArray, List.getElem?_cons_zero]; rfl
            case hQ52 => exact fun _ _ _ h => h
            case hw52 => rfl
            case hy52 => intro w hSw; (try dsimp only at hSw); go_simp; (try with_reducible rfl)
            case hr52 =>
            simp only [Act.put, List.setIfInBounds_toArray, List.set_cons_zero, List.set_cons_succ]
            refine wpAnyF_pure (i := 1) (oi := ?oi53) (v := ?v53) ?hi53 (by kernel_rfl) (by kernel_rfl) (by kernel_rfl) (by kernel_rfl) ?hQ53 (Or.inl ⟨?hw53, ?hy53⟩) (Or.inr (by assumption)) ?hr53
            case hi53 => simp only [List.getElem?_toArray, List.getElem?_cons_succ, List.getElem?_cons_zero]; rfl
            case hQ53 => exact fun _ _ _ h => h
            case hw53 => rfl
            case hy53 => intro w hSw; (try dsimp only at hSw); go_simp; (try with_reducible rfl)
            case hr53 =>
            simp only [Act.put, List.setIfInBounds_toArray, List.set_cons_zero, List.set_cons_succ]
            refine wpAnyF_pure (i := 2) (oi := ?oi54) (v := ?v54) ?hi54 (by kernel_rfl) (by kernel_rfl) (by kernel_rfl) (by kernel_rfl) ?hQ54 (Or.inl ⟨?hw54, ?hy54⟩) (Or.inr (by assumption)) ?hr54
            case hi54 => simp only [List.getElem?_toArray, List.getElem?_cons_succ, List.getElem?_cons_zero]; rfl
            case hQ54 => exact fun _ _ _ h => h
            case hw54 => rfl
            case hy54 => intro w hSw; (try dsimp only at hSw); go_simp; (try with_reducible rfl)
            case hr54 =>
            simp only [Act.put, List.setIfInBounds_toArray, List.set_cons_zero, List.set_cons_succ]
            refine wpAnyF_pure (i := 3) (oi := ?oi55) (v := ?v55) ?hi55 (by kernel_rfl) (by kernel_rfl) (by kernel_rfl) (by kernel_rfl) ?hQ55 (Or.inl ⟨?hw55, ?hy55⟩) (Or.inr (by assumption)) ?hr55
            case hi55 => simp only [List.getElem?_toArray, List.getElem?_cons_succ, List.getElem?_cons_zero]; rfl
            case hQ55 => exact fun _ _ _ h => h
            case hw55 => rfl
            case hy55 => intro w hSw; (try dsimp only at hSw); go_simp; (try with_reducible rfl)
            case hr55 =>
            simp only [Act.put, List.setIfInBounds_toArray, List.set_cons_zero, List.set_cons_succ]
            refine wpAnyF_pure (i := 4) (oi := ?oi56) (v := ?v56) ?hi56 (by kernel_rfl) (by kernel_rfl) (by kernel_rfl) (by kernel_rfl) ?hQ56 (Or.inl ⟨?hw56, ?hy56⟩) (Or.inr (by assumption)) ?hr56
            case hi56 => simp only [List.getElem?_toArray, List.getElem?_cons_succ, List.getElem?_cons_zero]; rfl
            case hQ56 => exact fun _ _ _ h => h
            case hw56 => rfl
            case hy56 => intro w hSw; (try dsimp only at hSw); go_simp; (try with_reducible rfl)
            case hr56 =>
            simp only [Act.put, List.setIfInBounds_toArray, List.set_cons_zero, List.set_cons_succ]
            refine wpAnyF_pure (i := 5) (oi := ?oi57) (v := ?v57) ?hi57 (by kernel_rfl) (by kernel_rfl) (by kernel_rfl) (by kernel_rfl) ?hQ57 (Or.inl ⟨?hw57, ?hy57⟩) (Or.inr (by assumption)) ?hr57
            case hi57 => simp only [List.getElem?_toArray, List.getElem?_cons_succ, List.getElem?_cons_zero]; rfl
            case hQ57 => exact fun _ _ _ h => h
            case hw57 => rfl
            case hy57 => intro w hSw; (try dsimp only at hSw); go_simp; (try with_reducible rfl)
            case hr57 =>
            simp only [Act.put, List.setIfInBounds_toArray, List.set_cons_zero, List.set_cons_succ]
            refine wpAnyF_pure (i := 6) (oi := ?oi58) (v := ?v58) ?hi58 (by kernel_rfl) (by kernel_rfl) (by kernel_rfl) (by kernel_rfl) ?hQ58 (Or.inl ⟨?hw58, ?hy58⟩) (Or.inr (by assumption)) ?hr58
            case hi58 => simp only [List.getElem?_toArray, List.getElem?_cons_succ, List.getElem?_cons_zero]; rfl
            case hQ58 => exact fun _ _ _ h => h
            case hw58 => rfl
            case hy58 => intro w hSw; (try dsimp only at hSw); go_simp; (try with_reducible rfl)
            case hr58 =>
            simp only [Act.put, List.setIfInBounds_toArray, List.set_cons_zero, List.set_cons_succ]
            refine wpAnyF_pure (i := 7) (oi := ?oi59) (v := ?v59) ?hi59 (by kernel_rfl) (by kernel_rfl) (by kernel_rfl) (by kernel_rfl) ?hQ59 (Or.inl ⟨?hw59, ?hy59⟩) (Or.inr (by assumption)) ?hr59
            case hi59 => simp only [List.getElem?_toArray, List.getElem?_cons_succ, List.getElem?_cons_zero]; rfl
            case hQ59 => exact fun _ _ _ h => h
            case hw59 => rfl
            case hy59 => intro w hSw; (try dsimp only at hSw); go_simp; (try with_reducible rfl)
            case hr59 =>
            simp only [Act.put, List.setIfInBounds_toArray, List.set_cons_zero, List.set_cons_succ]
            refine wpAnyF_pure (i := 8) (oi := ?oi60) (v := ?v60) ?hi60 (by kernel_rfl) (by kernel_rfl) (by kernel_rfl) (by kernel_rfl) ?hQ60 (Or.inl ⟨?hw60, ?hy60⟩) (Or.inr (by assumption)) ?hr60
            case hi60 => simp only [List.getElem?_toArray, List.getElem?_cons_succ, List.getElem?_cons_zero]; rfl
            case hQ60 => exact fun _ _ _ h => h
            case hw60 => rfl
            case hy60 => intro w hSw; (try dsimp only at hSw); go_simp; (try with_reducible rfl)
            case hr60 =>
            simp only [Act.put, List.setIfInBounds_toArray, List.set_cons_zero, List.set_cons_succ]
            refine wpAnyF_take (i := 9) (oi := ?oi61) (v := ?v61) ?hi61 (by kernel_rfl) (by kernel_rfl) (by kernel_rfl) (by kernel_rfl) (by kernel_rfl) ?hQ61 (Or.inl ⟨?hw61, ?hy61⟩) (by assumption) ?hr61
            case hi61 => simp only [List.getElem?_toArray, List.getElem?_cons_succ, List.getElem?_cons_zero]; rfl
            case hQ61 => exact fun _ _ _ h => h
            case hw61 => rfl
            case hy61 => intro w hSw; (try dsimp only at hSw); go_simp; (try with_reducible rfl)
            case hr61 =>
            simp only [Act.put, List.setIfInBounds_toArray, List.set_cons_zero, List.set_cons_succ]
            refine wpAnyF_pure (i := 10) (oi := ?oi62) (v := ?v62) ?hi62 (by kernel_rfl) (by kernel_rfl) (by kernel_rfl) (by kernel_rfl) ?hQ62 (Or.inl ⟨?hw62, ?hy62⟩) (Or.inr (by assumption)) ?hr62
            case hi62 => simp only [List.getElem?_toArray, List.getElem?_cons_succ, List.getElem?_cons_zero]; rfl
            case hQ62 => exact fun _ _ _ h => h
            case hw62 => rfl
            case hy62 => intro w hSw; (try dsimp only at hSw); go_simp; (try with_reducible rfl)
            case hr62 =>
            simp only [Act.put, List.setIfInBounds_toArray, List.set_cons_zero, List.set_cons_succ]
            refine wpAnyF_pure (i := 11) (oi := ?oi63) (v := ?v63) ?hi63 (by kernel_rfl) (by kernel_rfl) (by kernel_rfl) (by kernel_rfl) ?hQ63 (Or.inl ⟨?hw63, ?hy63⟩) (Or.inr (by assumption)) ?hr63
            case hi63 => simp only [List.getElem?_toArray, List.getElem?_cons_succ, List.getElem?_cons_zero]; rfl
            case hQ63 => exact fun _ _ _ h => h
            case hw63 => rfl
            case hy63 => intro w hSw; (try dsimp only at hSw); go_simp; (try with_reducible rfl)
            case hr63 =>
            simp only [Act.put, List.setIfInBounds_toArray, List.set_cons_zero, List.set_cons_succ]
            refine wpAnyF_pure (i := 12) (oi := ?oi64) (v := ?v64) ?hi64 (by kernel_rfl) (by kernel_rfl) (by kernel_rfl) (by kernel_rfl) ?hQ64 (Or.inl ⟨?hw64, ?hy64⟩) (Or.inr (by assumption)) ?hr64
            case hi64 => simp only [List.getElem?_toArray, List.getElem?_cons_succ, List.getElem?_cons_zero]; rfl
            case hQ64 => exact fun _ _ _ h => h
            case hw64 => rfl
            case hy64 => intro w hSw; (try dsimp only at hSw); go_simp; (try with_reducible rfl)
            case hr64 =>
            simp only [Act.put, List.setIfInBounds_toArray, List.set_cons_zero, List.set_cons_succ]
            refine wpAnyF_take (i := 13) (oi := ?oi65) (v := ?v65) ?hi65 (by kernel_rfl) (by kernel_rfl) (by kernel_rfl) (by kernel_rfl) (by kernel_rfl) ?hQ65 (Or.inl ⟨?hw65, ?hy65⟩) (by assumption) ?hr65
            case hi65 => simp only [List.getElem?_toArray, List.getElem?_cons_succ, List.getElem?_cons_zero]; rfl
            case hQ65 => exact fun _ _ _ h => h
            case hw65 => rfl
            case hy65 => intro w hSw; (try dsimp only at hSw); go_simp; (try with_reducible rfl)
            case hr65 =>
            simp only [Act.put, List.setIfInBounds_toArray, List.set_cons_zero, List.set_cons_succ]
            refine wpAnyF_ready (i := 14) (o := ?oc66) (by kernel_rfl) ?hc66 (by kernel_rfl) (fun K hK => ?hs66)
            case hc66 => simp only [List.getElem?_toArray, List.getElem?_cons_succ, List.getElem?_cons_zero]; rfl
            case hs66 =>
            rw [if_pos (by rfl)]
            go_simp
            refine hK.out _ _ ?_
            clear hK K
            try simp only [Act.put, List.setIfInBounds_toArray, List.set_cons_zero, List.set_cons_succ]
            refine wpAnyF_ready (i := 15) (o := ?oc67) (by kernel_rfl) ?hc67 (by kernel_rfl) (fun K hK => ?hs67)
            case hc67 => simp only [List.getElem?_toArray, List.getElem?_cons_succ, List.getElem?_cons_zero]; rfl
            case hs67 =>
            rw [if_pos (by rfl)]
            refine wp_store_mid 45 (.tmp 51) (.tmp 46) rfl g (j * 6) #[.int .i64 y1, .string y2, .int .i64 y3, .string y4, .slice ya yl yc, .int .i64 y6] rfl rfl HSW.out.1 Tryz.nodeSize (nd_ones _ _ _ _ _ _ _ _) ?_; dsimp only; rw [← HW1.out]
            refine hK.out _ _ ?_
            clear hK K
            try simp only [Act.put]
            refine wpAnyF_ready (i := 16) (o := ?oc68) (by kernel_rfl) ?hc68 (by kernel_rfl) (fun K hK => ?hs68)
            case hc68 => simp only [List.getElem?_toArray, List.getElem?_cons_succ, List.getElem?_cons_zero]; rfl
            case hs68 =>
            rw [if_pos (by rfl)]
            go_simp
            refine hK.out _ _ ?_
            clear hK K
            try simp only [Act.put, List.setIfInBounds_toArray, List.set_cons_zero, List.set_cons_succ]
            refine wpAnyF_ready (i := 17) (o := ?oc69) (by kernel_rfl) ?hc69 (by kernel_rfl) (fun K hK => ?hs69)
            case hc69 => simp only [List.getElem?_toArray, List.getElem?_cons_succ, List.getElem?_cons_zero]; rfl
            case hs69 =>
            rw [if_pos (by rfl)]
            refine wp_store_mid 45 (.tmp 52) (.tmp 50) rfl g (p * 6) #[.int .i64 x1, .string x2, .int .i64 x3, .string x4, .slice xa xl xc, .int .i64 x6] rfl rfl HSW.out.2.1 Tryz.nodeSize (nd_ones _ _ _ _ _ _ _ _) ?_; dsimp only
            refine hK.out _ _ ?_
            clear hK K
            try simp only [Act.put]
            refine wpAnyF_done (by kernel_rfl) ?_ _
            clear hpw
            go_wp2_with fail
            go_roundw
            case rel =>
              refine ⟨p, by first | rfl | go_num, by have := HKY.out; omega, by have := HKY.out; have := HJ.out.2.1; omega, ?_, fun i hi h1 h2 => ?_, HJ.out.2.2.2.2.trans ((HK2.out.mono (by simp)).trans ((Chg.refl [g] w2).drew.trans HSW.out.2.2.2))⟩
              · have h1 := HSW.out.2.2.1
                have h2 := rot_left (L := L1) (k := p) (m := k) (by have := HKY.out; have := HJ.out.2.1; omega) HA.out.2.2.1
                rw [show p + 1 = j by have := HKY.out; omega] at h2
                rw [h2] at h1
                exact h1
              · by_cases e : i = p
                · subst e; exact HLC.out.1 hcv
                · exact HJ.out.2.2.2.1 i hi (by have := HKY.out; omega) h2
            case measure => have := HKY.out; simp [intOf]; omega
          · have hcd : decide (cv < 0) = false := decide_eq_false hcv
            have HD1 := Lib.hid (fun W hc => HDN.out W hc (.inr fun hi h1 => hcv (HLC.out.2 (by have h2 := HKY.out.2.2.1; subst h2; exact h1))))
            clear HDN HJ HSWA
            go_upto_region 4 with (fail)
            refine wp_region_held_drew (S := fun v => v.cell? ⟨g, j * 6, none⟩ = some (.int .i64 x1) ∧ v.cell? ⟨g, j * 6 + 1, none⟩ = some (.string x2) ∧ v.cell? ⟨g, j * 6 + 2, none⟩ = some (.int .i64 x3) ∧ v.cell? ⟨g, j * 6 + 3, none⟩ = some (.string x4) ∧ v.cell? ⟨g, j * 6 + 4, none⟩ = some (.slice xa xl xc) ∧ v.cell? ⟨g, j * 6 + 5, none⟩ = some (.int .i64 x6) ∧ v.cell? ⟨g, p * 6, none⟩ = some (.int .i64 y1) ∧ v.cell? ⟨g, p * 6 + 1, none⟩ = some (.string y2) ∧ v.cell? ⟨g, p * 6 + 2, none⟩ = some (.int .i64 y3) ∧ v.cell? ⟨g, p * 6 + 3, none⟩ = some (.string y4) ∧ v.cell? ⟨g, p * 6 + 4, none⟩ = some (.slice ya yl yc) ∧ v.cell? ⟨g, p * 6 + 5, none⟩ = some (.int .i64 y6)) (by kernel_rfl) ?_ (fun hHeld => ?_)
            · exact HYC.out _ (Chg.refl [] wr).drew
            refine wpAnyH_take (i := 0) (oi := ?oi18) (v := ?v18) ?hi18 (by kernel_rfl) (by kernel_rfl) (by kernel_rfl) ?hQ18 (Or.inl ⟨?hw18, ?hy18⟩) (by assumption) ?hr18
            case hi18 => simp only [List.getElem?_toArray, List.getElem?_cons_zero]; rfl
            case hQ18 => exact fun _ _ _ h => h
            case hw18 => rfl
            case hy18 => intro w hSw; (try dsimp only at hSw); go_simp; (try with_reducible rfl)
            case hr18 =>
            simp only [Act.put, List.setIfInBounds_toArray, List.set_cons_zero, List.set_cons_succ]
            refine wpAnyH_take (i := 1) (oi := ?oi19) (v := ?v19) ?hi19 (by kernel_rfl) (by kernel_rfl) (by kernel_rfl) ?hQ19 (Or.inl ⟨?hw19, ?hy19⟩) (by assumption) ?hr19
            case hi19 => simp only [List.getElem?_toArray, List.getElem?_cons_succ, List.getElem?_cons_zero]; rfl
            case hQ19 => exact fun _ _ _ h => h
            case hw19 => rfl
            case hy19 => intro w hSw; (try dsimp only at hSw); go_simp; (try with_reducible rfl)
            case hr19 =>
            simp only [Act.put, List.setIfInBounds_toArray, List.set_cons_zero, List.set_cons_succ]
            refine wpAnyH_take (i := 2) (oi := ?oi20) (v := ?v20) ?hi20 (by kernel_rfl) (by kernel_rfl) (by kernel_rfl) ?hQ20 (Or.inl ⟨?hw20, ?hy20⟩) (by assumption) ?hr20
            case hi20 => simp only [List.getElem?_toArray, List.getElem?_cons_succ, List.getElem?_cons_zero]; rfl
            case hQ20 => exact fun _ _ _ h => h
            case hw20 => rfl
            case hy20 => intro w hSw; (try dsimp only at hSw); go_simp; (try with_reducible rfl)
            case hr20 =>
            simp only [Act.put, List.setIfInBounds_toArray, List.set_cons_zero, List.set_cons_succ]
            refine wpAnyH_take (i := 3) (oi := ?oi21) (v := ?v21) ?hi21 (by kernel_rfl) (by kernel_rfl) (by kernel_rfl) ?hQ21 (Or.inl ⟨?hw21, ?hy21⟩) (by assumption) ?hr21
            case hi21 => simp only [List.getElem?_toArray, List.getElem?_cons_succ, List.getElem?_cons_zero]; rfl
            case hQ21 => exact fun _ _ _ h => h
            case hw21 => rfl
            case hy21 => intro w hSw; (try dsimp only at hSw); go_simp; (try with_reducible rfl)
            case hr21 =>
            simp only [Act.put, List.setIfInBounds_toArray, List.set_cons_zero, List.set_cons_succ]
            refine wpAnyH_take (i := 4) (oi := ?oi22) (v := ?v22) ?hi22 (by kernel_rfl) (by kernel_rfl) (by kernel_rfl) ?hQ22 (Or.inl ⟨?hw22, ?hy22⟩) (by assumption) ?hr22
            case hi22 => simp only [List.getElem?_toArray, List.getElem?_cons_succ, List.getElem?_cons_zero]; rfl
            case hQ22 => exact fun _ _ _ h => h
            case hw22 => rfl
            case hy22 => intro w hSw; (try dsimp only at hSw); go_simp; (try with_reducible rfl)
            case hr22 =>
            simp only [Act.put, List.setIfInBounds_toArray, List.set_cons_zero, List.set_cons_succ]
            refine wpAnyH_take (i := 5) (oi := ?oi23) (v := ?v23) ?hi23 (by kernel_rfl) (by kernel_rfl) (by kernel_rfl) ?hQ23 (Or.inl ⟨?hw23, ?hy23⟩) (by assumption) ?hr23
            case hi23 => simp only [List.getElem?_toArray, List.getElem?_cons_succ, List.getElem?_cons_zero]; rfl
            case hQ23 => exact fun _ _ _ h => h
            case hw23 => rfl
            case hy23 => intro w hSw; (try dsimp only at hSw); go_simp; (try with_reducible rfl)
            case hr23 =>
            simp only [Act.put, List.setIfInBounds_toArray, List.set_cons_zero, List.set_cons_succ]
            refine wpAnyH_take (i := 6) (oi := ?oi24) (v := ?v24) ?hi24 (by kernel_rfl) (by kernel_rfl) (by kernel_rfl) ?hQ24 (Or.inl ⟨?hw24, ?hy24⟩) (by assumption) ?hr24
            case hi24 => simp only [List.getElem?_toArray, List.getElem?_cons_succ, List.getElem?_cons_zero]; rfl
            case hQ24 => exact fun _ _ _ h => h
            case hw24 => rfl
            case hy24 => intro w hSw; (try dsimp only at hSw); go_simp; (try with_reducible rfl)
            case hr24 =>
            simp only [Act.put, List.setIfInBounds_toArray, List.set_cons_zero, List.set_cons_succ]
            refine wpAnyH_take (i := 7) (oi := ?oi25) (v := ?v25) ?hi25 (by kernel_rfl) (by kernel_rfl) (by kernel_rfl) ?hQ25 (Or.inl ⟨?hw25, ?hy25⟩) (by assumption) ?hr25
            case hi25 => simp only [List.getElem?_toArray, List.getElem?_cons_succ, List.getElem?_cons_zero]; rfl
            case hQ25 => exact fun _ _ _ h => h
            case hw25 => rfl
            case hy25 => intro w hSw; (try dsimp only at hSw); go_simp; (try with_reducible rfl)
            case hr25 =>
            simp only [Act.put, List.setIfInBounds_toArray, List.set_cons_zero, List.set_cons_succ]
            refine wpAnyH_take (i := 8) (oi := ?oi26) (v := ?v26) ?hi26 (by kernel_rfl) (by kernel_rfl) (by kernel_rfl) ?hQ26 (Or.inl ⟨?hw26, ?hy26⟩) (by assumption) ?hr26
            case hi26 => simp only [List.getElem?_toArray, List.getElem?_cons_succ, List.getElem?_cons_zero]; rfl
            case hQ26 => exact fun _ _ _ h => h
            case hw26 => rfl
            case hy26 => intro w hSw; (try dsimp only at hSw); go_simp; (try with_reducible rfl)
            case hr26 =>
            simp only [Act.put, List.setIfInBounds_toArray, List.set_cons_zero, List.set_cons_succ]
            refine wpAnyH_take (i := 9) (oi := ?oi27) (v := ?v27) ?hi27 (by kernel_rfl) (by kernel_rfl) (by kernel_rfl) ?hQ27 (Or.inl ⟨?hw27, ?hy27⟩) (by assumption) ?hr27
            case hi27 => simp only [List.getElem?_toArray, List.getElem?_cons_succ, List.getElem?_cons_zero]; rfl
            case hQ27 => exact fun _ _ _ h => h
            case hw27 => rfl
            case hy27 => intro w hSw; (try dsimp only at hSw); go_simp; (try with_reducible rfl)
            case hr27 =>
            simp only [Act.put, List.setIfInBounds_toArray, List.set_cons_zero, List.set_cons_succ]
            refine wpAnyH_take (i := 10) (oi := ?oi28) (v := ?v28) ?hi28 (by kernel_rfl) (by kernel_rfl) (by kernel_rfl) ?hQ28 (Or.inl ⟨?hw28, ?hy28⟩) (by assumption) ?hr28
            case hi28 => simp only [List.getElem?_toArray, List.getElem?_cons_succ, List.getElem?_cons_zero]; rfl
            case hQ28 => exact fun _ _ _ h => h
            case hw28 => rfl
            case hy28 => intro w hSw; (try dsimp only at hSw); go_simp; (try with_reducible rfl)
            case hr28 =>
            simp only [Act.put, List.setIfInBounds_toArray, List.set_cons_zero, List.set_cons_succ]
            refine wpAnyH_take (i := 11) (oi := ?oi29) (v := ?v29) ?hi29 (by kernel_rfl) (by kernel_rfl) (by kernel_rfl) ?hQ29 (Or.inl ⟨?hw29, ?hy29⟩) (by assumption) ?hr29
            case hi29 => simp only [List.getElem?_toArray, List.getElem?_cons_succ, List.getElem?_cons_zero]; rfl
            case hQ29 => exact fun _ _ _ h => h
            case hw29 => rfl
            case hy29 => intro w hSw; (try dsimp only at hSw); go_simp; (try with_reducible rfl)
            case hr29 =>
            simp only [Act.put, List.setIfInBounds_toArray, List.set_cons_zero, List.set_cons_succ]
            refine wpAnyH_take (i := 12) (oi := ?oi30) (v := ?v30) ?hi30 (by kernel_rfl) (by kernel_rfl) (by kernel_rfl) ?hQ30 (Or.inl ⟨?hw30, ?hy30⟩) (by assumption) ?hr30
            case hi30 => simp only [List.getElem?_toArray, List.getElem?_cons_succ, List.getElem?_cons_zero]; rfl
            case hQ30 => exact fun _ _ _ h => h
            case hw30 => rfl
            case hy30 => intro w hSw; (try dsimp only at hSw); go_simp; (try with_reducible rfl)
            case hr30 =>
            simp only [Act.put, List.setIfInBounds_toArray, List.set_cons_zero, List.set_cons_succ]
            refine wpAnyH_take (i := 13) (oi := ?oi31) (v := ?v31) ?hi31 (by kernel_rfl) (by kernel_rfl) (by kernel_rfl) ?hQ31 (Or.inl ⟨?hw31, ?hy31⟩) (by assumption) ?hr31
            case hi31 => simp only [List.getElem?_toArray, List.getElem?_cons_succ, List.getElem?_cons_zero]; rfl
            case hQ31 => exact fun _ _ _ h => h
            case hw31 => rfl
            case hy31 => intro w hSw; (try dsimp only at hSw); go_simp; (try with_reducible rfl)
            case hr31 =>
            simp only [Act.put, List.setIfInBounds_toArray, List.set_cons_zero, List.set_cons_succ]
            refine wpAnyH_ready (rs := [14]) (by kernel_rfl) (by simp) (AllReadyH.cons (o := ?oc32) ?hc32 (fun K hK => ?hs32) AllReadyH.nil)
            case hc32 => simp only [List.getElem?_toArray, List.getElem?_cons_succ, List.getElem?_cons_zero]; rfl
            case hs32 =>
            rw [if_pos (by rfl)]
            go_simp
            go_at_call 77; refine (HX.out _).mono ?_; rintro e w2 ⟨rfl, hw2⟩; have HW2 := Lib.hid hw2; clear hw2
            go_wp2_with fail
            refine hK.out _ _ ?_ (fun hHeld => ?_)
            · exact HYC.out _ ((Chg.refl [] wr).drew.trans HW2.out)
            clear hK K
            try simp only [Act.put, List.setIfInBounds_toArray, List.set_cons_zero, List.set_cons_succ]
            refine wpAnyH_take (i := 15) (oi := ?oi33) (v := ?v33) ?hi33 (by kernel_rfl) (by kernel_rfl) (by kernel_rfl) ?hQ33 (Or.inl ⟨?hw33, ?hy33⟩) (by assumption) ?hr33
            case hi33 => simp only [List.getElem?_toArray, List.getElem?_cons_succ, List.getElem?_cons_zero]; rfl
            case hQ33 => exact fun _ _ _ h => h
            case hw33 => rfl
            case hy33 => intro w hSw; (try dsimp only at hSw); go_simp; (try with_reducible rfl)
            case hr33 =>
            simp only [Act.put, List.setIfInBounds_toArray, List.set_cons_zero, List.set_cons_succ]
            refine wpAnyH_take (i := 16) (oi := ?oi34) (v := ?v34) ?hi34 (by kernel_rfl) (by kernel_rfl) (by kernel_rfl) ?hQ34 (Or.inl ⟨?hw34, ?hy34⟩) (by assumption) ?hr34
            case hi34 => simp only [List.getElem?_toArray, List.getElem?_cons_succ, List.getElem?_cons_zero]; rfl
            case hQ34 => exact fun _ _ _ h => h
            case hw34 => rfl
            case hy34 => intro w hSw; (try dsimp only at hSw); go_simp; (try with_reducible rfl)
            case hr34 =>
            simp only [Act.put, List.setIfInBounds_toArray, List.set_cons_zero, List.set_cons_succ]
            refine wpAnyH_done (by kernel_rfl) ?_ _
            go_wp2_with fail
            obtain ⟨L2, d1, d2, d3, d4⟩ := HD1.out w2 ((Chg.refl [] wr).drew.trans HW2.out)
            go_roundw
            case rel => exact ⟨k + 1, L2, by go_num, by have := HA.out.2.2.2; omega, by omega, by omega, d1, d2, d3, d4⟩
            case measure => simp [intOf]; omega
        · have hji : ¬ (j : Int) > (a : Int) := by omega
          have HD1 := Lib.hid (fun W hc => HDN.out W hc (.inl (by have := HJ.out.1; omega)))
          clear HDN HJ
          go_upto_region 4 with (fail)
          refine wp_region_held_drew (S := fun _ => True) (by kernel_rfl) ?_ (fun hHeld => ?_)
          · trivial
          refine wpAnyH_take (i := 0) (oi := ?oi35) (v := ?v35) ?hi35 (by kernel_rfl) (by kernel_rfl) (by kernel_rfl) ?hQ35 (Or.inl ⟨?hw35, ?hy35⟩) (by assumption) ?hr35
          case hi35 => simp only [List.getElem?_toArray, List.getElem?_cons_zero]; rfl
          case hQ35 => exact fun _ _ _ h => h
          case hw35 => rfl
          case hy35 => intro w hSw; (try dsimp only at hSw); go_simp; (try with_reducible rfl)
          case hr35 =>
          simp only [Act.put, List.setIfInBounds_toArray, List.set_cons_zero, List.set_cons_succ]
          refine wpAnyH_take (i := 1) (oi := ?oi36) (v := ?v36) ?hi36 (by kernel_rfl) (by kernel_rfl) (by kernel_rfl) ?hQ36 (Or.inl ⟨?hw36, ?hy36⟩) (by assumption) ?hr36
          case hi36 => simp only [List.getElem?_toArray, List.getElem?_cons_succ, List.getElem?_cons_zero]; rfl
          case hQ36 => exact fun _ _ _ h => h
          case hw36 => rfl
          case hy36 => intro w hSw; (try dsimp only at hSw); go_simp; (try with_reducible rfl)
          case hr36 =>
          simp only [Act.put, List.setIfInBounds_toArray, List.set_cons_zero, List.set_cons_succ]
          refine wpAnyH_take (i := 2) (oi := ?oi37) (v := ?v37) ?hi37 (by kernel_rfl) (by kernel_rfl) (by kernel_rfl) ?hQ37 (Or.inl ⟨?hw37, ?hy37⟩) (by assumption) ?hr37
          case hi37 => simp only [List.getElem?_toArray, List.getElem?_cons_succ, List.getElem?_cons_zero]; rfl
          case hQ37 => exact fun _ _ _ h => h
          case hw37 => rfl
          case hy37 => intro w hSw; (try dsimp only at hSw); go_simp; (try with_reducible rfl)
          case hr37 =>
          simp only [Act.put, List.setIfInBounds_toArray, List.set_cons_zero, List.set_cons_succ]
          refine wpAnyH_take (i := 3) (oi := ?oi38) (v := ?v38) ?hi38 (by kernel_rfl) (by kernel_rfl) (by kernel_rfl) ?hQ38 (Or.inl ⟨?hw38, ?hy38⟩) (by assumption) ?hr38
          case hi38 => simp only [List.getElem?_toArray, List.getElem?_cons_succ, List.getElem?_cons_zero]; rfl
          case hQ38 => exact fun _ _ _ h => h
          case hw38 => rfl
          case hy38 => intro w hSw; (try dsimp only at hSw); go_simp; (try with_reducible rfl)
          case hr38 =>
          simp only [Act.put, List.setIfInBounds_toArray, List.set_cons_zero, List.set_cons_succ]
          refine wpAnyH_take (i := 4) (oi := ?oi39) (v := undef) ?hi39 (by kernel_rfl) (by kernel_rfl) (by kernel_rfl) ?hQ39 (Or.inr ⟨?hw39, rfl⟩) (by assumption) ?hr39
          case hi39 => simp only [List.getElem?_toArray, List.getElem?_cons_succ, List.getElem?_cons_zero]; rfl
          case hQ39 => exact fun _ _ _ h => h
          case hw39 => rfl
          case hr39 =>
          simp only [Act.put, List.setIfInBounds_toArray, List.set_cons_zero, List.set_cons_succ]
          refine wpAnyH_take (i := 5) (oi := ?oi40) (v := undef) ?hi40 (by kernel_rfl) (by kernel_rfl) (by kernel_rfl) ?hQ40 (Or.inr ⟨?hw40, rfl⟩) (by assumption) ?hr40
          case hi40 => simp only [List.getElem?_toArray, List.getElem?_cons_succ, List.getElem?_cons_zero]; rfl
          case hQ40 => exact fun _ _ _ h => h
          case hw40 => rfl
          case hr40 =>
          simp only [Act.put, List.setIfInBounds_toArray, List.set_cons_zero, List.set_cons_succ]
          refine wpAnyH_take (i := 6) (oi := ?oi41) (v := undef) ?hi41 (by kernel_rfl) (by kernel_rfl) (by kernel_rfl) ?hQ41 (Or.inr ⟨?hw41, rfl⟩) (by assumption) ?hr41
          case hi41 => simp only [List.getElem?_toArray, List.getElem?_cons_succ, List.getElem?_cons_zero]; rfl
          case hQ41 => exact fun _ _ _ h => h
          case hw41 => rfl
          case hr41 =>
          simp only [Act.put, List.setIfInBounds_toArray, List.set_cons_zero, List.set_cons_succ]
          refine wpAnyH_take (i := 7) (oi := ?oi42) (v := undef) ?hi42 (by kernel_rfl) (by kernel_rfl) (by kernel_rfl) ?hQ42 (Or.inr ⟨?hw42, rfl⟩) (by assumption) ?hr42
          case hi42 => simp only [List.getElem?_toArray, List.getElem?_cons_succ, List.getElem?_cons_zero]; rfl
          case hQ42 => exact fun _ _ _ h => h
          case hw42 => rfl
          case hr42 =>
          simp only [Act.put, List.setIfInBounds_toArray, List.set_cons_zero, List.set_cons_succ]
          refine wpAnyH_take (i := 8) (oi := ?oi43) (v := undef) ?hi43 (by kernel_rfl) (by kernel_rfl) (by kernel_rfl) ?hQ43 (Or.inr ⟨?hw43, rfl⟩) (by assumption) ?hr43
          case hi43 => simp only [List.getElem?_toArray, List.getElem?_cons_succ, List.getElem?_cons_zero]; rfl
          case hQ43 => exact fun _ _ _ h => h
          case hw43 => rfl
          case hr43 =>
          simp only [Act.put, List.setIfInBounds_toArray, List.set_cons_zero, List.set_cons_succ]
          refine wpAnyH_take (i := 9) (oi := ?oi44) (v := undef) ?hi44 (by kernel_rfl) (by kernel_rfl) (by kernel_rfl) ?hQ44 (Or.inr ⟨?hw44, rfl⟩) (by assumption) ?hr44
          case hi44 => simp only [List.getElem?_toArray, List.getElem?_cons_succ, List.getElem?_cons_zero]; rfl
          case hQ44 => exact fun _ _ _ h => h
          case hw44 => rfl
          case hr44 =>
          simp only [Act.put, List.setIfInBounds_toArray, List.set_cons_zero, List.set_cons_succ]
          refine wpAnyH_take (i := 10) (oi := ?oi45) (v := undef) ?hi45 (by kernel_rfl) (by kernel_rfl) (by kernel_rfl) ?hQ45 (Or.inr ⟨?hw45, rfl⟩) (by assumption) ?hr45
          case hi45 => simp only [List.getElem?_toArray, List.getElem?_cons_succ, List.getElem?_cons_zero]; rfl
          case hQ45 => exact fun _ _ _ h => h
          case hw45 => rfl
          case hr45 =>
          simp only [Act.put, List.setIfInBounds_toArray, List.set_cons_zero, List.set_cons_succ]
          refine wpAnyH_take (i := 11) (oi := ?oi46) (v := undef) ?hi46 (by kernel_rfl) (by kernel_rfl) (by kernel_rfl) ?hQ46 (Or.inr ⟨?hw46, rfl⟩) (by assumption) ?hr46
          case hi46 => simp only [List.getElem?_toArray, List.getElem?_cons_succ, List.getElem?_cons_zero]; rfl
          case hQ46 => exact fun _ _ _ h => h
          case hw46 => rfl
          case hr46 =>
          simp only [Act.put, List.setIfInBounds_toArray, List.set_cons_zero, List.set_cons_succ]
          refine wpAnyH_take (i := 12) (oi := ?oi47) (v := undef) ?hi47 (by kernel_rfl) (by kernel_rfl) (by kernel_rfl) ?hQ47 (Or.inr ⟨?hw47, rfl⟩) (by assumption) ?hr47
          case hi47 => simp only [List.getElem?_toArray, List.getElem?_cons_succ, List.getElem?_cons_zero]; rfl
          case hQ47 => exact fun _ _ _ h => h
          case hw47 => rfl
          case hr47 =>
          simp only [Act.put, List.setIfInBounds_toArray, List.set_cons_zero, List.set_cons_succ]
          refine wpAnyH_take (i := 13) (oi := ?oi48) (v := undef) ?hi48 (by kernel_rfl) (by kernel_rfl) (by kernel_rfl) ?hQ48 (Or.inr ⟨?hw48, rfl⟩) (by assumption) ?hr48
          case hi48 => simp only [List.getElem?_toArray, List.getElem?_cons_succ, List.getElem?_cons_zero]; rfl
          case hQ48 => exact fun _ _ _ h => h
          case hw48 => rfl
          case hr48 =>
          simp only [Act.put, List.setIfInBounds_toArray, List.set_cons_zero, List.set_cons_succ]
          refine wpAnyH_take (i := 14) (oi := ?oi49) (v := undef) ?hi49 (by kernel_rfl) (by kernel_rfl) (by kernel_rfl) ?hQ49 (Or.inr ⟨?hw49, rfl⟩) (by assumption) ?hr49
          case hi49 => simp only [List.getElem?_toArray, List.getElem?_cons_succ, List.getElem?_cons_zero]; rfl
          case hQ49 => exact fun _ _ _ h => h
          case hw49 => rfl
          case hr49 =>
          simp only [Act.put, List.setIfInBounds_toArray, List.set_cons_zero, List.set_cons_succ]
          refine wpAnyH_take (i := 15) (oi := ?oi50) (v := undef) ?hi50 (by kernel_rfl) (by kernel_rfl) (by kernel_rfl) ?hQ50 (Or.inr ⟨?hw50, rfl⟩) (by assumption) ?hr50
          case hi50 => simp only [List.getElem?_toArray, List.getElem?_cons_succ, List.getElem?_cons_zero]; rfl
          case hQ50 => exact fun _ _ _ h => h
          case hw50 => rfl
          case hr50 =>
          simp only [Act.put, List.setIfInBounds_toArray, List.set_cons_zero, List.set_cons_succ]
          refine wpAnyH_take (i := 16) (oi := ?oi51) (v := ?v51) ?hi51 (by kernel_rfl) (by kernel_rfl) (by kernel_rfl) ?hQ51 (Or.inl ⟨?hw51, ?hy51⟩) (by assumption) ?hr51
          case hi51 => simp only [List.getElem?_toArray, List.getElem?_cons_succ, List.getElem?_cons_zero]; rfl
          case hQ51 => exact fun _ _ _ h => h
          case hw51 => rfl
          case hy51 => intro w hSw; (try dsimp only at hSw); go_simp; (try with_reducible rfl)
          case hr51 =>
          simp only [Act.put, List.setIfInBounds_toArray, List.set_cons_zero, List.set_cons_succ]
          refine wpAnyH_done (by kernel_rfl) ?_ _
          go_wp2_with fail
          obtain ⟨L2, d1, d2, d3, d4⟩ := HD1.out wr.drew (Chg.refl [] wr).drew
          go_roundw
          case rel => exact ⟨k + 1, L2, by go_num, by have := HA.out.2.2.2; omega, by omega, by omega, d1, d2, d3, d4⟩
          case measure => simp [intOf]; omega
    · go_wp2_with fail
      go_end0
      refine ⟨rfl, L1, HK.out.2.2.2.1, HK.out.2.2.2.2.1, ?_, HK.out.2.2.2.2.2.2⟩
      rcases HK.out.2.2.1 with h1 | h1
      · obtain rfl : k = b := by omega
        exact HK.out.2.2.2.2.2.1 (Nat.le_refl _)
      · rw [h1]; exact asc_nil _ _
end Go.Proofs.YtfhiioopimmahaaGreatDoor
namespace Go.Proofs.YtfhiioopimmahaaGreatDoor
open Go.RowKit Go.Pax Go.Shelf
set_option maxRecDepth 100000 in
set_option maxHeartbeats 8000000 in
theorem rotateN (w : World) (g n c : Nat) (L : List (ANode × Value)) (a m b : Nat) (h : NRow w g n c L) (ha : a < m) (hm : m < b) (hb : b ≤ n) :
    Calls Tryz.prog 132 #[.slice (some ⟨g, 0, none⟩) n c, .int .i64 a, .int .i64 m, .int .i64 b, .func (.func 77) #[] #[]] w fun e w' => e = .returned (.tuple #[]) ∧ NRow w' g n c (rot L a m b) ∧ Chg [g] w w' := by
  have HS := Lib.hid h
  have hnB : n ≤ 1000000 := h.short
  have HI := Lib.hid (rotInv_start (L := L) (Nat.le_of_lt ha) (Nat.le_of_lt hm) (by rw [h.len]; exact hb))
  obtain ⟨i0, hi0⟩ : ∃ x, x = m - a := ⟨_, rfl⟩
  obtain ⟨j0, hj0⟩ : ∃ x, x = b - m := ⟨_, rfl⟩
  have hiw : IntKind.i64.wrap ((m : Int) - (a : Int)) = (i0 : Int) := by rw [show (m : Int) - (a : Int) = (i0 : Int) by omega]; exact IntWalk.i64_in _ (by omega)
  have hjw : IntKind.i64.wrap ((b : Int) - (m : Int)) = (j0 : Int) := by rw [show (b : Int) - (m : Int) = (j0 : Int) by omega]; exact IntWalk.i64_in _ (by omega)
  have HIJ := Lib.hid (show 0 < i0 ∧ 0 < j0 from ⟨by omega, by omega⟩)
  rw [← hi0, ← hj0] at HI
  have hmB : m ≤ 1000000 := by omega
  clear h ha hm hb hi0 hj0
  go_enter Tryz.func132, Tryz.ntmps132
  go_wp2_with fail
  go_loopw [10, 11] (fun u v wr => ∃ (i j : Nat) (L' : List (ANode × Value)), u = .int .i64 i ∧ v = .int .i64 j ∧ 0 < i ∧ 0 < j ∧ RotInv L a m b i j L' ∧ NRow wr g n c L' ∧ Chg [g] w wr) (fun u v _ => (intOf u).toNat + (intOf v).toNat)
  case atStart => exact ⟨i0, j0, L, rfl, rfl, HIJ.out.1, HIJ.out.2, HI.out, HS.out, Chg.refl _ _⟩
  case round =>
    obtain ⟨i, j, L', rfl, rfl, hi, hj, hri, hr, hk⟩ := hrel
    have HR := Lib.hid (And.intro hri (And.intro hr hk))
    clear hri hr hk HI HS HIJ
    by_cases hlt : i = j
    · subst hlt
      obtain ⟨he, b1, b2, b3⟩ := rotInv_end HR.out.1
      rw [HR.out.2.1.len] at b1 b2
      have hmi : (m : Int) - (i : Int) = ((m - i : Nat) : Int) := by omega
      have HC := Lib.hid (swapRange wr g n c L' (m - i) m i HR.out.2.1 b1 b2)
      rw [he] at HC
      clear he b1
      have hiB : i ≤ 1000000 := by omega
      have hmw : IntKind.i64.wrap ((m - i : Nat) : Int) = ((m - i : Nat) : Int) := IntWalk.i64_in _ (by omega)
      generalize m - i = mi at *
      go_wp2_with (go_at_call 137; refine HC.out.mono ?_; rintro e w3 ⟨rfl, h1, h2⟩; have HW := Lib.hid (And.intro h1 h2); clear h1 h2)
      go_end0
      exact ⟨rfl, HW.out.1, HR.out.2.2.trans HW.out.2⟩
    · have hne : ((i : Int) == (j : Int)) = false := by simp; omega
      by_cases hgt : j < i
      · obtain ⟨he, b1, b2, b3⟩ := rotInv_gt HR.out.1 hgt
        rw [HR.out.2.1.len] at b1 b2
        have hgi : (i : Int) > (j : Int) := by omega
        have hmi : (m : Int) - (i : Int) = ((m - i : Nat) : Int) := by omega
        have HC := Lib.hid (swapRange wr g n c L' (m - i) m j HR.out.2.1 b1 b2)
        have HE := Lib.hid he
        have hij : (i : Int) - (j : Int) = ((i - j : Nat) : Int) := by omega
        have hiB : i ≤ 1000000 := by omega
        have hjB : j ≤ 1000000 := by omega
        have hmw : IntKind.i64.wrap ((m - i : Nat) : Int) = ((m - i : Nat) : Int) := IntWalk.i64_in _ (by omega)
        have hijw : IntKind.i64.wrap ((i - j : Nat) : Int) = ((i - j : Nat) : Int) := IntWalk.i64_in _ (by omega)
        have hpos : 0 < i - j := by omega
        have hms : i - j + j < i + j := by omega
        clear he b1 b2
        generalize m - i = mi at *
        generalize i - j = k at *
        go_wp2_with (go_at_call 137; refine HC.out.mono ?_; rintro e w3 ⟨rfl, h1, h2⟩; have HW := Lib.hid (And.intro h1 h2); clear h1 h2)
        go_roundw
        case rel => exact ⟨k, j, _, rfl, rfl, hpos, hj, HE.out, HW.out.1, HR.out.2.2.trans HW.out.2⟩
        case measure => simp [intOf]; omega
      · obtain ⟨he, b1, b2, b3⟩ := rotInv_lt HR.out.1 (show i < j by omega)
        rw [HR.out.2.1.len] at b1 b2
        have hgi : ¬ (i : Int) > (j : Int) := by omega
        have hmi : (m : Int) - (i : Int) = ((m - i : Nat) : Int) := by omega
        have HC := Lib.hid (swapRange wr g n c L' (m - i) (m + j - i) i HR.out.2.1 b1 b2)
        have HE := Lib.hid he
        have hij : (j : Int) - (i : Int) = ((j - i : Nat) : Int) := by omega
        have hiB : i ≤ 1000000 := by omega
        have hjB : j ≤ 1000000 := by omega
        have hmw : IntKind.i64.wrap ((m - i : Nat) : Int) = ((m - i : Nat) : Int) := IntWalk.i64_in _ (by omega)
        have hijw : IntKind.i64.wrap ((j - i : Nat) : Int) = ((j - i : Nat) : Int) := IntWalk.i64_in _ (by omega)
        have hmj : (m : Int) + (j : Int) - (i : Int) = ((m + j - i : Nat) : Int) := by omega
        have hmjw : IntKind.i64.wrap ((m + j - i : Nat) : Int) = ((m + j - i : Nat) : Int) := IntWalk.i64_in _ (by omega)
        have hpos : 0 < j - i := by omega
        have hms : i + (j - i) < i + j := by omega
        clear he b1 b2
        generalize m - i = mi at *
        generalize m + j - i = mj at *
        generalize j - i = k at *
        go_wp2_with (go_at_call 137; refine HC.out.mono ?_; rintro e w3 ⟨rfl, h1, h2⟩; have HW := Lib.hid (And.intro h1 h2); clear h1 h2)
        go_roundw
        case rel => exact ⟨i, k, _, rfl, rfl, hi, hpos, HE.out, HW.out.1, HR.out.2.2.trans HW.out.2⟩
        case measure => simp [intOf]; omega
end Go.Proofs.YtfhiioopimmahaaGreatDoor
