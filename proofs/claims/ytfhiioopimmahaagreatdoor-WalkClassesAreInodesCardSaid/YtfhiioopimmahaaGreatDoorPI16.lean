/- tree.Canon: the comparison of two nodes. slices.insertionSortCmpFunc at a row that is sorted already. Printed by wip/gen/gentins.py. Maps from integers to integers: what they hold; their lookup and their store. tree.counts at nodes and their classes. Stores into a row of nodes. -/
import Derived.Test.YtfhiioopimmahaaGreatDoorPI02
import Derived.Test.YtfhiioopimmahaaGreatDoorPI15
namespace Go.Pax
open Go.RowKit
def cmpS (a b : Str) : Int := if a < b then -1 else if b < a then 1 else 0
theorem cmpS_lt {a b : Str} : cmpS a b < 0 ↔ a < b := by
  unfold cmpS
  by_cases h : a < b
  · simp [h]
  · rw [if_neg h]
    by_cases h2 : b < a
    · simp [h, h2]
    · simp [h, h2]
end Go.Pax
namespace Go.Proofs.YtfhiioopimmahaaGreatDoor
open Go.RowKit Go.Pax Go.Shelf
set_option maxHeartbeats 2000000 in
theorem compareS (a b : Str) (w : World) : Calls Tryz.prog 78 #[.string (ba a), .string (ba b)] w fun e w' => e = .returned (.int .i64 (cmpS a b)) ∧ w' = w := by
  have HN := Lib.hid isNaNS
  have h1 := ba_less a b
  by_cases hlt : a < b
  · have hc : cmpS a b = -1 := by unfold cmpS; rw [if_pos hlt]
    rw [decide_eq_true hlt] at h1
    rw [hc]
    clear hc hlt
    generalize ba a = A at *
    generalize ba b = B at *
    go_enter Tryz.func78, Tryz.ntmps78
    go_wp2_with (go_at_call 79; refine (HN.out _ _).mono ?_; rintro e w' ⟨rfl, rfl⟩)
    go_ret
    exact ⟨rfl, rfl⟩
  · rw [decide_eq_false hlt] at h1
    by_cases he : a = b
    · subst he
      have hc : cmpS a a = 0 := by unfold cmpS; rw [if_neg hlt, if_neg hlt]
      rw [hc]
      clear hc hlt
      generalize ba a = A at *
      go_enter Tryz.func78, Tryz.ntmps78
      go_wp2_with (go_at_call 79; refine (HN.out _ _).mono ?_; rintro e w' ⟨rfl, rfl⟩)
      go_ret
      exact ⟨rfl, rfl⟩
    · have hc : cmpS a b = 1 := by unfold cmpS; rw [if_neg hlt, if_pos (slt_total hlt he)]
      have hb : ((ba a).toList == (ba b).toList) = false := by rw [ba_tl, ba_tl]; simpa using he
      rw [hc]
      clear hc hlt he
      generalize ba a = A at *
      generalize ba b = B at *
      go_enter Tryz.func78, Tryz.ntmps78
      go_wp2_with (go_at_call 79; refine (HN.out _ _).mono ?_; rintro e w' ⟨rfl, rfl⟩)
      go_ret
      exact ⟨rfl, rfl⟩
set_option maxHeartbeats 4000000 in
theorem cmpNd (x y : ANode) (a1 a2 : Option Addr) (l1 c1 l2 c2 : Nat) (w : World) : Calls Tryz.prog 77 #[ndV x (.slice a1 l1 c1), ndV y (.slice a2 l2 c2)] w fun e w' => e = .returned (.int .i64 (cmpS x.path y.path)) ∧ Chg [] w w' := by
  have HC := Lib.hid (fun W => compareS x.path y.path W)
  unfold ndV
  generalize cmpS x.path y.path = R at *
  generalize x.kind = x1 at *
  generalize ba x.path = x2 at *
  generalize x.mode = x3 at *
  generalize ba x.target = x4 at *
  generalize x.cls = x5 at *
  generalize y.kind = y1 at *
  generalize ba y.path = y2 at *
  generalize y.mode = y3 at *
  generalize ba y.target = y4 at *
  generalize y.cls = y5 at *
  go_enter Tryz.func77, Tryz.ntmps77
  go_wp2_with (go_at_call 78; refine (HC.out _).mono ?_; rintro e w' ⟨rfl, rfl⟩)
  go_ret
  exact ⟨rfl, ((Chg.refl _ _).alloc _).alloc _⟩
end Go.Proofs.YtfhiioopimmahaaGreatDoor
namespace Go.Proofs.YtfhiioopimmahaaGreatDoor
open Go.RowKit Go.Pax Go.Shelf
/-- The cells of the i-th node. -/
def NdAt (w : World) (g i : Nat) (x : ANode) (a : Option Addr) (l c : Nat) : Prop :=
  w.cell? ⟨g, i * 6, none⟩ = some (.int .i64 x.kind) ∧ w.cell? ⟨g, i * 6 + 1, none⟩ = some (.string (ba x.path)) ∧ w.cell? ⟨g, i * 6 + 2, none⟩ = some (.int .i64 x.mode) ∧ w.cell? ⟨g, i * 6 + 3, none⟩ = some (.string (ba x.target)) ∧ w.cell? ⟨g, i * 6 + 4, none⟩ = some (.slice a l c) ∧ w.cell? ⟨g, i * 6 + 5, none⟩ = some (.int .i64 x.cls)
theorem own_nd {w : World} {B g n c : Nat} {L : List (ANode × Value)} (h : w.ownsRow B 45 6 (.slice (some ⟨g, 0, none⟩) n c) n (ndcells L)) {i : Nat} (hi : i < L.length) {a : Option Addr} {l cp : Nat} (hd : L[i].2 = .slice a l cp) : NdAt w g i L[i].1 a l cp := by
  have hc : ∀ j, j < 6 → ∀ u, (ndc L[i].1 L[i].2)[j]? = some u → w.cell? ⟨g, i * 6 + j, none⟩ = some u := fun j hj u hu => by
    have h1 := h.cells (g := g) rfl (i * 6 + j) u (by rw [ndcells_get L i hi j hj]; exact hu)
    rw [add_at] at h1
    exact h1
  refine ⟨?_, hc 1 (by omega) _ rfl, hc 2 (by omega) _ rfl, hc 3 (by omega) _ rfl, ?_, hc 5 (by omega) _ rfl⟩
  · have := hc 0 (by omega) _ rfl
    rw [Nat.add_zero] at this
    exact this
  · exact hc 4 (by omega) _ (by rw [hd]; rfl)
theorem NdAt.chg {w w' : World} {S : List Nat} {g i : Nat} {x : ANode} {a : Option Addr} {l c : Nat} (h : NdAt w g i x a l c) (k : Chg S w w') (hg : g ∉ S) : NdAt w' g i x a l c :=
  ⟨k.cell h.1 hg, k.cell h.2.1 hg, k.cell h.2.2.1 hg, k.cell h.2.2.2.1 hg, k.cell h.2.2.2.2.1 hg, k.cell h.2.2.2.2.2 hg⟩
/-- A row of nodes whose paths ascend. -/
structure SortedRow (w : World) (g n c : Nat) (L : List (ANode × Value)) : Prop where
  row : ∃ B, w.ownsRow B 45 6 (.slice (some ⟨g, 0, none⟩) n c) n (ndcells L)
  len : L.length = n
  dv : ∀ x ∈ L, ∃ a l c, x.2 = .slice a l c
  asc : ∀ i j (hi : i < L.length) (hj : j < L.length), i < j → L[i].1.path < L[j].1.path
  short : n ≤ 1000000
theorem SortedRow.chg {w w' : World} {g n c : Nat} {L : List (ANode × Value)} (h : SortedRow w g n c L) (k : Chg [] w w') : SortedRow w' g n c L := by
  obtain ⟨B, hr⟩ := h.row
  exact ⟨⟨B, own_keepS hr k (by simp)⟩, h.len, h.dv, h.asc, h.short⟩
theorem SortedRow.at {w : World} {g n c : Nat} {L : List (ANode × Value)} (h : SortedRow w g n c L) (i : Nat) (hi : i < n) : ∃ x a l cp, NdAt w g i x a l cp ∧ x = (L[i]'(by rw [h.len]; exact hi)).1 := by
  obtain ⟨B, hr⟩ := h.row
  have hi' : i < L.length := by rw [h.len]; exact hi
  obtain ⟨a, l, cp, hd⟩ := h.dv _ (List.getElem_mem hi')
  exact ⟨_, a, l, cp, own_nd hr hi' hd, rfl⟩
theorem cmpS_gt {a b : Str} (h : b < a) : cmpS a b = 1 := by
  unfold cmpS
  rw [if_neg (fun g => slt_irrefl _ (slt_trans g h)), if_pos h]
set_option maxRecDepth 100000 in
set_option maxHeartbeats 8000000 in
theorem insSorted (w : World) (g n c : Nat) (L : List (ANode × Value)) (a b : Nat) (h : SortedRow w g n c L) (hab : a ≤ b) (hb : b ≤ n) :
    Calls Tryz.prog 120 #[.slice (some ⟨g, 0, none⟩) n c, .int .i64 a, .int .i64 b, .func (.func 77) #[] #[]] w fun e w' => e = .returned (.tuple #[]) ∧ Chg [] w w' := by
  have HS := Lib.hid h
  have hn := h.short
  have HB := Lib.hid (And.intro hab hb)
  have hbB : b ≤ 1000000 := by omega
  have haB : a ≤ 1000000 := by omega
  clear h hab hb hn
  go_enter Tryz.func120, Tryz.ntmps120
  go_wp2_with fail
  go_loopw [8] (fun u wr => ∃ k : Nat, u = .int .i64 k ∧ a < k ∧ k ≤ b + 1 ∧ Chg [] w wr) (fun u _ => b + 1 - (intOf u).toNat)
  case atStart => exact ⟨a + 1, by go_num, by omega, by have := HB.out.1; omega, Chg.refl _ _⟩
  case round =>
    obtain ⟨k, rfl, hak, hkb, hk⟩ := hrel
    have HK := Lib.hid (And.intro hak (And.intro hkb hk))
    have hkB : k ≤ 1000001 := by omega
    clear hak hkb hk
    by_cases hlt : k < b
    · obtain ⟨x, xa, xl, xc, hx, hxe⟩ := (HS.out.chg HK.out.2.2).at k (by have := HB.out.2; omega)
      obtain ⟨y, ya, yl, yc, hy, hye⟩ := (HS.out.chg HK.out.2.2).at (k - 1) (by have := HB.out.2; omega)
      have hxy : y.path < x.path := by rw [hxe, hye]; exact HS.out.asc (k - 1) k (by rw [HS.out.len]; have := HB.out.2; omega) (by rw [HS.out.len]; have := HB.out.2; omega) (by have := HK.out.1; omega)
      have HX := Lib.hid (fun W => cmpNd x y xa ya xl xc yl yc W)
      rw [cmpS_gt hxy] at HX
      have hkp : (k : Int) > (a : Int) := by have := HK.out.1; omega
      obtain ⟨j, hj⟩ : ∃ j, j = k - 1 := ⟨_, rfl⟩
      rw [← hj] at hy
      have hjk : (k : Int) - 1 = (j : Int) := by have := HK.out.1; omega
      have hjn : j < n := by have := HB.out.2; omega
      have hjB : j ≤ 1000001 := by omega
      have hjw : IntKind.i64.wrap (j : Int) = (j : Int) := IntWalk.i64_in _ (by omega)
      have hkn : k < n := by have := HB.out.2; omega
      obtain ⟨x1, x2, x3, x4, x5, x6⟩ := x
      obtain ⟨y1, y2, y3, y4, y5, y6⟩ := y
      unfold ndV at HX
      have HYC := Lib.hid (fun W (kw : Chg [] wr W) => And.intro (hx.chg kw (by simp)) (hy.chg kw (by simp)))
      unfold NdAt at HYC
      simp only at HYC HX
      clear hxe hye hxy hj hx hy
      generalize ba x2 = x2 at *
      generalize ba y2 = y2 at *
      generalize ba x4 = x4 at *
      generalize ba y4 = y4 at *
      replace HYC := Lib.hid (fun W (kw : Chg [] wr W) => (show (fun q => q.cell? ⟨g, k * 6, none⟩ = some (.int .i64 x1) ∧ q.cell? ⟨g, k * 6 + 1, none⟩ = some (.string x2) ∧ q.cell? ⟨g, k * 6 + 2, none⟩ = some (.int .i64 x3) ∧ q.cell? ⟨g, k * 6 + 3, none⟩ = some (.string x4) ∧ q.cell? ⟨g, k * 6 + 4, none⟩ = some (.slice xa xl xc) ∧ q.cell? ⟨g, k * 6 + 5, none⟩ = some (.int .i64 x6) ∧ q.cell? ⟨g, j * 6, none⟩ = some (.int .i64 y1) ∧ q.cell? ⟨g, j * 6 + 1, none⟩ = some (.string y2) ∧ q.cell? ⟨g, j * 6 + 2, none⟩ = some (.int .i64 y3) ∧ q.cell? ⟨g, j * 6 + 3, none⟩ = some (.string y4) ∧ q.cell? ⟨g, j * 6 + 4, none⟩ = some (.slice ya yl yc) ∧ q.cell? ⟨g, j * 6 + 5, none⟩ = some (.int .i64 y6)) W from ⟨(HYC.out W kw).1.1, (HYC.out W kw).1.2.1, (HYC.out W kw).1.2.2.1, (HYC.out W kw).1.2.2.2.1, (HYC.out W kw).1.2.2.2.2.1, (HYC.out W kw).1.2.2.2.2.2, (HYC.out W kw).2.1, (HYC.out W kw).2.2.1, (HYC.out W kw).2.2.2.1, (HYC.out W kw).2.2.2.2.1, (HYC.out W kw).2.2.2.2.2.1, (HYC.out W kw).2.2.2.2.2.2⟩))
      go_wp2_with fail
      refine wp_loop_rounds 1 ?_
      rw [rounds_succ]
      go_upto_region 4 with (fail)
      refine wp_region_held_drew (S := fun q => q.cell? ⟨g, k * 6, none⟩ = some (.int .i64 x1) ∧ q.cell? ⟨g, k * 6 + 1, none⟩ = some (.string x2) ∧ q.cell? ⟨g, k * 6 + 2, none⟩ = some (.int .i64 x3) ∧ q.cell? ⟨g, k * 6 + 3, none⟩ = some (.string x4) ∧ q.cell? ⟨g, k * 6 + 4, none⟩ = some (.slice xa xl xc) ∧ q.cell? ⟨g, k * 6 + 5, none⟩ = some (.int .i64 x6) ∧ q.cell? ⟨g, j * 6, none⟩ = some (.int .i64 y1) ∧ q.cell? ⟨g, j * 6 + 1, none⟩ = some (.string y2) ∧ q.cell? ⟨g, j * 6 + 2, none⟩ = some (.int .i64 y3) ∧ q.cell? ⟨g, j * 6 + 3, none⟩ = some (.string y4) ∧ q.cell? ⟨g, j * 6 + 4, none⟩ = some (.slice ya yl yc) ∧ q.cell? ⟨g, j * 6 + 5, none⟩ = some (.int .i64 y6)) (by kernel_rfl) ?_ (fun hHeld => ?_)
      · exact HYC.out _ (Chg.refl [] wr).drew
      refine wpAnyH_take (i := 0) (oi := ?oi1) (v := ?v1) ?hi1 (by kernel_rfl) (by kernel_rfl) (by kernel_rfl) ?hQ1 (Or.inl ⟨?hw1, ?hy1⟩) (by assumption) ?hr1
      case hi1 => simp only [List.getElem?_toArray, List.getElem?_cons_zero]; rfl
      case hQ1 => exact fun _ _ _ h => h
      case hw1 => rfl
      case hy1 => intro w hSw; (try dsimp only at hSw); go_simp; (try with_reducible rfl)
      case hr1 =>
      simp only [Act.put, List.setIfInBounds_toArray, List.set_cons_zero, List.set_cons_succ]
      refine wpAnyH_take (i := 1) (oi := ?oi2) (v := ?v2) ?hi2 (by kernel_rfl) (by kernel_rfl) (by kernel_rfl) ?hQ2 (Or.inl ⟨?hw2, ?hy2⟩) (by assumption) ?hr2
      case hi2 => simp only [List.getElem?_toArray, List.getElem?_cons_succ, List.getElem?_cons_zero]; rfl
      case hQ2 => exact fun _ _ _ h => h
      case hw2 => rfl
      case hy2 => intro w hSw; (try dsimp only at hSw); go_simp; (try with_reducible rfl)
      case hr2 =>
      simp only [Act.put, List.setIfInBounds_toArray, List.set_cons_zero, List.set_cons_succ]
      refine wpAnyH_take (i := 2) (oi := ?oi3) (v := ?v3) ?hi3 (by kernel_rfl) (by kernel_rfl) (by kernel_rfl) ?hQ3 (Or.inl ⟨?hw3, ?hy3⟩) (by assumption) ?hr3
      case hi3 => simp only [List.getElem?_toArray, List.getElem?_cons_succ, List.getElem?_cons_zero]; rfl
      case hQ3 => exact fun _ _ _ h => h
      case hw3 => rfl
      case hy3 => intro w hSw; (try dsimp only at hSw); go_simp; (try with_reducible rfl)
      case hr3 =>
      simp only [Act.put, List.setIfInBounds_toArray, List.set_cons_zero, List.set_cons_succ]
      refine wpAnyH_take (i := 3) (oi := ?oi4) (v := ?v4) ?hi4 (by kernel_rfl) (by kernel_rfl) (by kernel_rfl) ?hQ4 (Or.inl ⟨?hw4, ?hy4⟩) (by assumption) ?hr4
      case hi4 => simp only [List.getElem?_toArray, List.getElem?_cons_succ, List.getElem?_cons_zero]; rfl
      case hQ4 => exact fun _ _ _ h => h
      case hw4 => rfl
      case hy4 => intro w hSw; (try dsimp only at hSw); go_simp; (try with_reducible rfl)
      case hr4 =>
      simp only [Act.put, List.setIfInBounds_toArray, List.set_cons_zero, List.set_cons_succ]
      refine wpAnyH_take (i := 4) (oi := ?oi5) (v := ?v5) ?hi5 (by kernel_rfl) (by kernel_rfl) (by kernel_rfl) ?hQ5 (Or.inl ⟨?hw5, ?hy5⟩) (by assumption) ?hr5
      case hi5 => simp only [List.getElem?_toArray, List.getElem?_cons_succ, List.getElem?_cons_zero]; rfl
      case hQ5 => exact fun _ _ _ h => h
      case hw5 => rfl
      case hy5 => intro w hSw; (try dsimp only at hSw); go_simp; (try with_reducible rfl)
      case hr5 =>
      simp only [Act.put, List.setIfInBounds_toArray, List.set_cons_zero, List.set_cons_succ]
      refine wpAnyH_take (i := 5) (oi := ?oi6) (v := ?v6) ?hi6 (by kernel_rfl) (by kernel_rfl) (by kernel_rfl) ?hQ6 (Or.inl ⟨?hw6, ?hy6⟩) (by assumption) ?hr6
      case hi6 => simp only [List.getElem?_toArray, List.getElem?_cons_succ, List.getElem?_cons_zero]; rfl
      case hQ6 => exact fun _ _ _ h => h
      case hw6 => rfl
      case hy6 => intro w hSw; (try dsimp only at hSw); go_simp; (try with_reducible rfl)
      case hr6 =>
      simp only [Act.put, List.setIfInBounds_toArray, List.set_cons_zero, List.set_cons_succ]
      refine wpAnyH_take (i := 6) (oi := ?oi7) (v := ?v7) ?hi7 (by kernel_rfl) (by kernel_rfl) (by kernel_rfl) ?hQ7 (Or.inl ⟨?hw7, ?hy7⟩) (by assumption) ?hr7
      case hi7 => simp only [List.getElem?_toArray, List.getElem?_cons_succ, List.getElem?_cons_zero]; rfl
      case hQ7 => exact fun _ _ _ h => h
      case hw7 => rfl
      case hy7 => intro w hSw; (try dsimp only at hSw); go_simp; (try with_reducible rfl)
      case hr7 =>
      simp only [Act.put, List.setIfInBounds_toArray, List.set_cons_zero, List.set_cons_succ]
      refine wpAnyH_take (i := 7) (oi := ?oi8) (v := ?v8) ?hi8 (by kernel_rfl) (by kernel_rfl) (by kernel_rfl) ?hQ8 (Or.inl ⟨?hw8, ?hy8⟩) (by assumption) ?hr8
      case hi8 => simp only [List.getElem?_toArray, List.getElem?_cons_succ, List.getElem?_cons_zero]; rfl
      case hQ8 => exact fun _ _ _ h => h
      case hw8 => rfl
      case hy8 => intro w hSw; (try dsimp only at hSw); go_simp; (try with_reducible rfl)
      case hr8 =>
      simp only [Act.put, List.setIfInBounds_toArray, List.set_cons_zero, List.set_cons_succ]
      refine wpAnyH_take (i := 8) (oi := ?oi9) (v := ?v9) ?hi9 (by kernel_rfl) (by kernel_rfl) (by kernel_rfl) ?hQ9 (Or.inl ⟨?hw9, ?hy9⟩) (by assumption) ?hr9
      case hi9 => simp only [List.getElem?_toArray, List.getElem?_cons_succ, List.getElem?_cons_zero]; rfl
      case hQ9 => exact fun _ _ _ h => h
      case hw9 => rfl
      case hy9 => intro w hSw; (try dsimp only at hSw); go_simp; (try with_reducible rfl)
      case hr9 =>
      simp only [Act.put, List.setIfInBounds_toArray, List.set_cons_zero, List.set_cons_succ]
      refine wpAnyH_take (i := 9) (oi := ?oi10) (v := ?v10) ?hi10 (by kernel_rfl) (by kernel_rfl) (by kernel_rfl) ?hQ10 (Or.inl ⟨?hw10, ?hy10⟩) (by assumption) ?hr10
      case hi10 => simp only [List.getElem?_toArray, List.getElem?_cons_succ, List.getElem?_cons_zero]; rfl
      case hQ10 => exact fun _ _ _ h => h
      case hw10 => rfl
      case hy10 => intro w hSw; (try dsimp only at hSw); go_simp; (try with_reducible rfl)
      case hr10 =>
      simp only [Act.put, List.setIfInBounds_toArray, List.set_cons_zero, List.set_cons_succ]
      refine wpAnyH_take (i := 10) (oi := ?oi11) (v := ?v11) ?hi11 (by kernel_rfl) (by kernel_rfl) (by kernel_rfl) ?hQ11 (Or.inl ⟨?hw11, ?hy11⟩) (by assumption) ?hr11
      case hi11 => simp only [List.getElem?_toArray, List.getElem?_cons_succ, List.getElem?_cons_zero]; rfl
      case hQ11 => exact fun _ _ _ h => h
      case hw11 => rfl
      case hy11 => intro w hSw; (try dsimp only at hSw); go_simp; (try with_reducible rfl)
      case hr11 =>
      simp only [Act.put, List.setIfInBounds_toArray, List.set_cons_zero, List.set_cons_succ]
      refine wpAnyH_take (i := 11) (oi := ?oi12) (v := ?v12) ?hi12 (by kernel_rfl) (by kernel_rfl) (by kernel_rfl) ?hQ12 (Or.inl ⟨?hw12, ?hy12⟩) (by assumption) ?hr12
      case hi12 => simp only [List.getElem?_toArray, List.getElem?_cons_succ, List.getElem?_cons_zero]; rfl
      case hQ12 => exact fun _ _ _ h => h
      case hw12 => rfl
      case hy12 => intro w hSw; (try dsimp only at hSw); go_simp; (try with_reducible rfl)
      case hr12 =>
      simp only [Act.put, List.setIfInBounds_toArray, List.set_cons_zero, List.set_cons_succ]
      refine wpAnyH_take (i := 12) (oi := ?oi13) (v := ?v13) ?hi13 (by kernel_rfl) (by kernel_rfl) (by kernel_rfl) ?hQ13 (Or.inl ⟨?hw13, ?hy13⟩) (by assumption) ?hr13
      case hi13 => simp only [List.getElem?_toArray, List.getElem?_cons_succ, List.getElem?_cons_zero]; rfl
      case hQ13 => exact fun _ _ _ h => h
      case hw13 => rfl
      case hy13 => intro w hSw; (try dsimp only at hSw); go_simp; (try with_reducible rfl)
      case hr13 =>
      simp only [Act.put, List.setIfInBounds_toArray, List.set_cons_zero, List.set_cons_succ]
      refine wpAnyH_take (i := 13) (oi := ?oi14) (v := ?v14) ?hi14 (by kernel_rfl) (by kernel_rfl) (by kernel_rfl) ?hQ14 (Or.inl ⟨?hw14, ?hy14⟩) (by assumption) ?hr14
      case hi14 => simp only [List.getElem?_toArray, List.getElem?_cons_succ, List.getElem?_cons_zero]; rfl
      case hQ14 => exact fun _ _ _ h => h
      case hw14 => rfl
      case hy14 => intro w hSw; (try dsimp only at hSw); go_simp; (try with_reducible rfl)
      case hr14 =>
      simp only [Act.put, List.setIfInBounds_toArray, List.set_cons_zero, List.set_cons_succ]
      refine wpAnyH_ready (rs := [14]) (by kernel_rfl) (by simp) (AllReadyH.cons (o := ?oc15) ?hc15 (fun K hK => ?hs15) AllReadyH.nil)
      case hc15 => simp only [List.getElem?_toArray, List.getElem?_cons_succ, List.getElem?_cons_zero]; rfl
      case hs15 =>
      rw [if_pos (by rfl)]
      go_simp
      go_at_call 77; refine (HX.out _).mono ?_; rintro e w2 ⟨rfl, hw2⟩; have HW2 := Lib.hid hw2; clear hw2
      go_wp2_with fail
      refine hK.out _ _ ?_ (fun hHeld => ?_)
      · exact HYC.out _ ((Chg.refl [] wr).drew.trans HW2.out)
      clear hK K
      try simp only [Act.put, List.setIfInBounds_toArray, List.set_cons_zero, List.set_cons_succ]
      refine wpAnyH_take (i := 15) (oi := ?oi16) (v := ?v16) ?hi16 (by kernel_rfl) (by kernel_rfl) (by kernel_rfl) ?hQ16 (Or.inl ⟨?hw16, ?hy16⟩) (by assumption) ?hr16
      case hi16 => simp only [List.getElem?_toArray, List.getElem?_cons_succ, List.getElem?_cons_zero]; rfl
      case hQ16 => exact fun _ _ _ h => h
      case hw16 => rfl
      case hy16 => intro w hSw; (try dsimp only at hSw); go_simp; (try with_reducible rfl)
      case hr16 =>
      simp only [Act.put, List.setIfInBounds_toArray, List.set_cons_zero, List.set_cons_succ]
      refine wpAnyH_take (i := 16) (oi := ?oi17) (v := ?v17) ?hi17 (by kernel_rfl) (by kernel_rfl) (by kernel_rfl) ?hQ17 (Or.inl ⟨?hw17, ?hy17⟩) (by assumption) ?hr17
      case hi17 => simp only [List.getElem?_toArray, List.getElem?_cons_succ, List.getElem?_cons_zero]; rfl
      case hQ17 => exact fun _ _ _ h => h
      case hw17 => rfl
      case hy17 => intro w hSw; (try dsimp only at hSw); go_simp; (try with_reducible rfl)
      case hr17 =>
      simp only [Act.put, List.setIfInBounds_toArray, List.set_cons_zero, List.set_cons_succ]
      refine wpAnyH_done (by kernel_rfl) ?_ _
      go_wp2_with fail
      go_roundw
      case rel => exact ⟨k + 1, by go_num, by have := HK.out.1; omega, by omega, HK.out.2.2.trans ((Chg.refl [] wr).drew.trans HW2.out)⟩
      case measure => simp [intOf]; omega
    · go_wp2_with fail
      go_end0
      exact ⟨rfl, HK.out.2.2⟩
end Go.Proofs.YtfhiioopimmahaaGreatDoor
namespace Go.Pax
open Go.RowKit
def entJ (x : Int × Int) : Value × Value := (.int .i64 x.1, .int .i64 x.2)
def MapJ (w : World) (m : Nat) (l : List (Int × Int)) : Prop :=
  ∃ es clock, w.heap[m]? = some (.map es clock) ∧ es.toList.map (fun e => (e.key, e.val)) = l.map entJ
def lkJ : List (Int × Int) → Int → Option Int
  | [], _ => none
  | x :: l, k => if k = x.1 then some x.2 else lkJ l k
/-- The list behind a store. -/
def upJ : List (Int × Int) → Int → Int → List (Int × Int)
  | [], k, v => [(k, v)]
  | x :: l, k, v => if k = x.1 then (k, v) :: l else x :: upJ l k v
theorem lkJ_upJ (l : List (Int × Int)) (k : Int) (v : Int) (j : Int) : lkJ (upJ l k v) j = if j = k then some v else lkJ l j := by
  induction l with
  | nil => simp only [upJ, lkJ]
  | cons x l ih =>
    simp only [upJ]
    split
    · rename_i h
      subst h
      simp only [lkJ]
      split
      · rfl
      · rfl
    · rename_i h
      simp only [lkJ, ih]
      by_cases h1 : j = x.1
      · rw [if_pos h1, if_pos h1, if_neg (fun e => h (e.symm.trans h1))]
      · rw [if_neg h1, if_neg h1]
theorem MapJ.chg {w w' : World} {m : Nat} {l : List (Int × Int)} {S : List Nat} (h : MapJ w m l) (k : Chg S w w') (hm : m ∉ S) : MapJ w' m l := by
  obtain ⟨es, c, h1, h2⟩ := h
  exact ⟨es, c, k.heap h1 hm, h2⟩
theorem MapJ.block {w w' : World} {m : Nat} {l : List (Int × Int)} (h : MapJ w m l) (k : w'.heap[m]? = w.heap[m]?) : MapJ w' m l := by
  obtain ⟨es, c, h1, h2⟩ := h
  exact ⟨es, c, by rw [k, h1], h2⟩
theorem MapJ.lt {w : World} {m : Nat} {l : List (Int × Int)} (h : MapJ w m l) : m < w.heap.size := by
  obtain ⟨es, c, h1, _⟩ := h
  exact (Array.getElem?_eq_some_iff.1 h1).1
theorem MapJ.new (w : World) : MapJ (w.alloc (.map #[] 0)) w.heap.size [] := ⟨#[], 0, heap_alloc_new _ _, rfl⟩
theorem findJ_none (k : Int) : ∀ (es : List MapEntry) (l : List (Int × Int)) (_ : es.map (fun e => (e.key, e.val)) = l.map entJ) (i : Nat), lkJ l k = none → Instr.findNow (.int .i64) (.int .i64 k) es i = some none ∧ upJ l k = fun v => l ++ [(k, v)]
  | [], [], _, i, _ => ⟨rfl, rfl⟩
  | [], x :: l, h, i, _ => by simp at h
  | e :: es, [], h, i, _ => by simp at h
  | e :: es, x :: l, h, i, hl => by
    simp only [List.map_cons, List.cons.injEq, entJ, Prod.mk.injEq] at h
    obtain ⟨⟨h1, h2⟩, h3⟩ := h
    simp only [lkJ] at hl
    split at hl
    · cases hl
    · rename_i hne
      have hb : (k == x.1) = false := by simpa using hne
      obtain ⟨g1, g2⟩ := findJ_none k es l h3 (i + 1) hl
      refine ⟨by simp only [Instr.findNow, h1, Instr.sameNow, hb, if_true]; exact g1, ?_⟩
      funext v
      simp only [upJ, if_neg hne, g2, List.cons_append]
theorem findJ_some (k : Int) (b : Int) : ∀ (es : List MapEntry) (l : List (Int × Int)) (_ : es.map (fun e => (e.key, e.val)) = l.map entJ) (i : Nat), lkJ l k = some b →
    ∃ j, Instr.findNow (.int .i64) (.int .i64 k) es i = some (some (i + j, .int .i64 b)) ∧ (es[j]?).map (·.key) = some (.int .i64 k) ∧ ∀ v, upJ l k v = l.take j ++ (k, v) :: l.drop (j + 1)
  | [], [], _, i, h => by simp [lkJ] at h
  | [], x :: l, h, i, _ => by simp at h
  | e :: es, [], h, i, _ => by simp at h
  | e :: es, x :: l, h, i, hl => by
    simp only [List.map_cons, List.cons.injEq, entJ, Prod.mk.injEq] at h
    obtain ⟨⟨h1, h2⟩, h3⟩ := h
    simp only [lkJ] at hl
    split at hl
    · rename_i he
      have hb : (k == x.1) = true := by simpa using he
      injection hl with hl
      subst hl
      refine ⟨0, by simp only [Instr.findNow, h1, Instr.sameNow, hb, if_true, h2, Nat.add_zero], by simp [h1, he], fun v => by simp [upJ, he]⟩
    · rename_i hne
      have hb : (k == x.1) = false := by simpa using hne
      obtain ⟨j, g1, g2, g3⟩ := findJ_some k b es l h3 (i + 1) hl
      refine ⟨j + 1, ?_, by simpa using g2, fun v => by simp [upJ, if_neg hne, g3]⟩
      simp only [Instr.findNow, h1, Instr.sameNow, hb, if_true]
      rw [g1, show i + 1 + j = i + (j + 1) by omega]
section
variable {P : Program} {w : World} {m : Nat} {l : List (Int × Int)} {T K E : TypeId}
theorem run_checkKey_intJ {em : Bool} (hK : P.underlying K = some (.int .i64)) (k : Int) (w : World) : (Instr.checkKey em 10000 K (.int .i64 k)).run P w = .ok () w := by
  rw [show (10000 : Nat) = 9999 + 1 from rfl, Instr.checkKey]
  simp [run_underlying hK]
theorem run_lookupJ_some (hT : P.underlying T = some (.map K E)) (hK : P.underlying K = some (.int .i64)) (h : MapJ w m l) {k : Int} {b : Int} (hl : lkJ l k = some b) :
    (Instr.lookup T (.map (some m)) (.int .i64 k) true).run P w = .ok (.tuple #[.int .i64 b, .bool true]) w := by
  obtain ⟨es, c, hb, he⟩ := h
  obtain ⟨j, hj, _, _⟩ := findJ_some k b es.toList l he 0 hl
  simp [Instr.lookup, run_underlying hT, MapKept.run_getObj_map hb, run_checkKey_intJ hK, MapKept.run_findKey hK hj, Result.andThen]
theorem run_lookupJ_none (hT : P.underlying T = some (.map K E)) (hK : P.underlying K = some (.int .i64)) (hz : ∀ W, (zeroValue E).run P W = .ok (.int .i64 0) W) (h : MapJ w m l) {k : Int} (hl : lkJ l k = none) :
    (Instr.lookup T (.map (some m)) (.int .i64 k) true).run P w = .ok (.tuple #[.int .i64 0, .bool false]) w := by
  obtain ⟨es, c, hb, he⟩ := h
  have hj := (findJ_none k es.toList l he 0 hl).1
  simp [Instr.lookup, run_underlying hT, MapKept.run_getObj_map hb, run_checkKey_intJ hK, MapKept.run_findKey hK hj, hz, Result.andThen]
theorem run_lookupJ1_some (hT : P.underlying T = some (.map K E)) (hK : P.underlying K = some (.int .i64)) (h : MapJ w m l) {k : Int} {b : Int} (hl : lkJ l k = some b) :
    (Instr.lookup T (.map (some m)) (.int .i64 k) false).run P w = .ok (.int .i64 b) w := by
  obtain ⟨es, c, hb, he⟩ := h
  obtain ⟨j, hj, _, _⟩ := findJ_some k b es.toList l he 0 hl
  simp [Instr.lookup, run_underlying hT, MapKept.run_getObj_map hb, run_checkKey_intJ hK, MapKept.run_findKey hK hj, Result.andThen]
theorem run_lookupJ1_none (hT : P.underlying T = some (.map K E)) (hK : P.underlying K = some (.int .i64)) (hz : ∀ W, (zeroValue E).run P W = .ok (.int .i64 0) W) (h : MapJ w m l) {k : Int} (hl : lkJ l k = none) :
    (Instr.lookup T (.map (some m)) (.int .i64 k) false).run P w = .ok (.int .i64 0) w := by
  obtain ⟨es, c, hb, he⟩ := h
  have hj := (findJ_none k es.toList l he 0 hl).1
  simp [Instr.lookup, run_underlying hT, MapKept.run_getObj_map hb, run_checkKey_intJ hK, MapKept.run_findKey hK hj, hz, Result.andThen]
/-- What a lookup gives, 0 where there is none. -/
theorem run_lookupJ1 (hT : P.underlying T = some (.map K E)) (hK : P.underlying K = some (.int .i64)) (hz : ∀ W, (zeroValue E).run P W = .ok (.int .i64 0) W) (h : MapJ w m l) (k : Int) :
    (Instr.lookup T (.map (some m)) (.int .i64 k) false).run P w = .ok (.int .i64 ((lkJ l k).getD 0)) w := by
  cases hl : lkJ l k with
  | none => exact run_lookupJ1_none hT hK hz h hl
  | some b => exact run_lookupJ1_some hT hK h hl
theorem same_intJ (k : Int) : Instr.sameBits 10000 (.int .i64 k) (.int .i64 k) = true := by
  rw [show (10000 : Nat) = 9999 + 1 from rfl, Instr.sameBits]
  simp
theorem run_updateJ (hT : P.underlying T = some (.map K E)) (hK : P.underlying K = some (.int .i64)) (h : MapJ w m l) (k : Int) (v : Int) :
    ∃ w', (Instr.mapUpdate T (.map (some m)) (.int .i64 k) (.int .i64 v)).run P w = .ok () w' ∧ MapJ w' m (upJ l k v) ∧ Chg [m] w w' ∧ w'.heap.size = w.heap.size := by
  obtain ⟨es, c, hb, he⟩ := h
  have hlt := (Array.getElem?_eq_some_iff.1 hb).1
  cases hl : lkJ l k with
  | none =>
    obtain ⟨hj, hup⟩ := findJ_none k es.toList l he 0 hl
    refine ⟨{ w with heap := w.heap.setIfInBounds m (.map (es.push { key := .int .i64 k, val := .int .i64 v, born := c }) (c + 1)) }, ?_, ⟨es.push { key := .int .i64 k, val := .int .i64 v, born := c }, c + 1, ?_, ?_⟩, ⟨rfl, rfl, rfl, ?_, ?_⟩, ?_⟩
    · simp [Instr.mapUpdate, run_underlying hT, MapKept.run_getObj_map hb, run_checkKey_intJ hK, MapKept.run_findKey hK hj, MapKept.run_setObj_map _ hb, Result.andThen]
    · simp [hlt]
    · rw [hup]; simp [he, entJ]
    · simp
    · intro i hi hm
      simp at hm
      simp [Ne.symm hm]
    · simp
  | some b =>
    obtain ⟨j, hj, hkey, hup⟩ := findJ_some k b es.toList l he 0 hl
    rw [Nat.zero_add] at hj
    have hkey' : (es[j]?).map (·.key) = some (.int .i64 k) := by simpa using hkey
    refine ⟨{ w with heap := w.heap.setIfInBounds m (.map (es.modify j fun e => { e with key := .int .i64 k, val := .int .i64 v }) c) }, ?_, ⟨_, c, by simp [hlt]; rfl, ?_⟩, ⟨rfl, rfl, rfl, ?_, ?_⟩, ?_⟩
    · simp [Instr.mapUpdate, run_underlying hT, MapKept.run_getObj_map hb, run_checkKey_intJ hK, MapKept.run_findKey hK hj, MapKept.run_setObj_map _ hb, Result.andThen, hkey', Instr.keyThatStays, same_intJ]
    · have hjl : j < es.toList.length := by
        cases h1 : es.toList[j]? with
        | none => rw [h1] at hkey; simp at hkey
        | some x => exact (List.getElem?_eq_some_iff.1 h1).1
      have hlen : es.toList.length = l.length := by simpa using congrArg List.length he
      have e1 : l.take j ++ (k, v) :: l.drop (j + 1) = l.set j (k, v) := by
        rw [List.set_eq_take_append_cons_drop, if_pos (by omega)]
      rw [hup, e1]
      apply List.ext_getElem?
      intro i
      have hi := congrArg (fun z => z[i]?) he
      simp only [List.getElem?_map] at hi
      rw [List.getElem?_map, Array.toList_modify, List.getElem?_modify, List.getElem?_map, List.getElem?_set]
      by_cases hij : j = i
      · subst hij
        rw [List.getElem?_eq_getElem hjl]
        simp [hlen ▸ hjl, entJ]
      · simp only [if_neg hij]
        simpa [hij] using hi
    · simp
    · intro i hi hm
      simp at hm
      simp [Ne.symm hm]
    · simp
end
end Go.Pax
namespace Go.Pax
open Go.RowKit
/-- Nodes that a slice reads as. -/
def NdRd (w : World) (fp : List Nat) (ao : Option Addr) (L : List (ANode × Value)) : Prop :=
  ∀ i (hi : i < L.length), ∃ ad, ao = some ad ∧ (ad.add (i * 6)).block ∈ fp ∧ w.cell? (ad.add (i * 6)) = some (.int .i64 L[i].1.kind) ∧ ∀ j u, (ndc L[i].1 L[i].2)[j]? = some u → w.cell? ⟨(ad.add (i * 6)).block, (ad.add (i * 6)).off + j, none⟩ = some u
theorem NdRd.chg {w w' : World} {S fp : List Nat} {ao : Option Addr} {L : List (ANode × Value)} (h : NdRd w fp ao L) (k : Chg S w w') (hS : ∀ g ∈ fp, g ∉ S) : NdRd w' fp ao L := fun i hi => by
  obtain ⟨ad, h1, h2, h0, h3⟩ := h i hi
  exact ⟨ad, h1, h2, k.cell h0 (hS _ h2), fun j u hu => k.cell (h3 j u hu) (hS _ h2)⟩
def cntUp (l : List (Int × Int)) (k : Int) : List (Int × Int) := upJ l k ((lkJ l k).getD 0 + 1)
def cnts (L : List (ANode × Value)) : List (Int × Int) := L.foldl (fun l x => cntUp l x.1.cls) []
def cntOf (L : List (ANode × Value)) (k : Int) : Nat := (L.filter fun x => decide (x.1.cls = k)).length
theorem cnts_snoc (L : List (ANode × Value)) (x : ANode × Value) : cnts (L ++ [x]) = cntUp (cnts L) x.1.cls := by simp [cnts, List.foldl_append]
theorem cnts_acc (k : Int) : ∀ (L : List (ANode × Value)) (acc : List (Int × Int)), (lkJ (L.foldl (fun l x => cntUp l x.1.cls) acc) k).getD 0 = (lkJ acc k).getD 0 + cntOf L k
  | [], acc => by simp [cntOf]
  | x :: L, acc => by
    rw [List.foldl_cons, cnts_acc k L]
    unfold cntUp
    rw [lkJ_upJ]
    by_cases h : k = x.1.cls
    · subst h
      have e : cntOf (x :: L) x.1.cls = cntOf L x.1.cls + 1 := by simp [cntOf]
      rw [if_pos rfl, e]
      simp only [Option.getD_some]
      omega
    · have e : cntOf (x :: L) k = cntOf L k := by unfold cntOf; rw [List.filter_cons_of_neg (by simpa using Ne.symm h)]
      rw [if_neg h, e]
theorem cnts_at (L : List (ANode × Value)) (k : Int) : (lkJ (cnts L) k).getD 0 = cntOf L k := by
  unfold cnts
  rw [cnts_acc]
  simp [lkJ]
theorem cntOf_le (L : List (ANode × Value)) (k : Int) : cntOf L k ≤ L.length := List.length_filter_le _ _
end Go.Pax
namespace Go.Proofs.YtfhiioopimmahaaGreatDoor
open Go.RowKit Go.Pax Go.Shelf
theorem ndRd_of_own {w : World} {B : Nat} {v : Value} {n : Nat} {L : List (ANode × Value)} (h : w.ownsRow B 45 6 v n (ndcells L)) : ∃ ao c, v = .slice ao n c ∧ NdRd w v.ownBlock.toList ao L := by
  obtain ⟨ao, c, rfl, _, hr⟩ := own_rdS h
  refine ⟨ao, c, rfl, fun i hi => ?_⟩
  have hf := own_fld h
  have hc0 : (ndcells L)[i * 6]? = some (.int .i64 L[i].1.kind) := by
    have := ndcells_get L i hi 0 (by omega)
    rw [Nat.add_zero] at this
    rw [this]; rfl
  obtain ⟨ad, h1, h2, h0⟩ := hr (i * 6) _ hc0
  refine ⟨ad, h1, by rw [block_add]; exact h2, h0, fun j u hu => ?_⟩
  have hj : j < 6 := by have := (List.getElem?_eq_some_iff.1 hu).1; simpa [ndc] using this
  obtain ⟨a, h3, h4⟩ := hf (i * 6) j u (by rw [ndcells_get L i hi j hj]; exact hu)
  rw [h1] at h3
  cases h3
  exact h4
set_option maxHeartbeats 2000000 in
theorem clsNd (x : ANode) (a : Option Addr) (l c : Nat) (w : World) : Calls Tryz.prog 74 #[ndV x (.slice a l c)] w fun e w' => e = .returned (.int .i64 x.cls) ∧ Chg [] w w' := by
  unfold ndV
  generalize x.kind = x1 at *
  generalize ba x.path = x2 at *
  generalize x.mode = x3 at *
  generalize ba x.target = x4 at *
  generalize x.cls = x5 at *
  go_enter Tryz.func74, Tryz.ntmps74
  go_wp2_with fail
  go_ret
  exact ⟨rfl, (Chg.refl _ _).alloc _⟩
set_option maxRecDepth 100000 in
set_option maxHeartbeats 8000000 in
theorem counts (w : World) (ao : Option Addr) (n cap : Nat) (fp : List Nat) (L : List (ANode × Value)) (h : NdRd w fp ao L) (hn : L.length = n) (hnB : n ≤ 1000000) (hdv : ∀ x ∈ L, ∃ a l c, x.2 = .slice a l c) (hfp : ∀ g ∈ fp, g < w.heap.size) :
    Calls Tryz.prog 73 #[.slice ao n cap, .func (.func 74) #[] #[]] w fun e w' => ∃ m, e = .returned (.map (some m)) ∧ w.heap.size ≤ m ∧ MapJ w' m (cnts L) ∧ Chg [] w w' := by
  have H := Lib.hid (And.intro h (And.intro hn (And.intro hdv hfp)))
  have hmm := @run_makeMap Tryz.prog
  have HMN := Lib.hid (MapJ.new w)
  have hkm : Chg [] w (w.alloc (.map #[] 0)) := (Chg.refl _ _).alloc _
  have HKM := Lib.hid hkm
  clear h hn hdv hkm hfp
  go_enter Tryz.func73, Tryz.ntmps73
  go_wp2_with fail
  obtain ⟨m, hm⟩ : ∃ x, x = w.heap.size := ⟨_, rfl⟩
  rw [← hm] at HMN ⊢
  have HME := Lib.hid hm
  clear hm hmm
  generalize w.alloc (.map #[] 0) = W0 at *
  go_loopw [11, 7] (fun u _ wr => ∃ k : Nat, u = .int .i64 k ∧ k ≤ n ∧ MapJ wr m (cnts (L.take k)) ∧ Chg [m] W0 wr) (fun u _ _ => n - (intOf u).toNat)
  case atStart => exact ⟨0, rfl, Nat.zero_le _, HMN.out, Chg.refl _ _⟩
  case round =>
    obtain ⟨k, rfl, hkn, hmp, hk⟩ := hrel
    have HK := Lib.hid (And.intro hmp (And.intro hkn hk))
    have hkB : k ≤ 1000000 := by omega
    clear hmp hkn hk
    by_cases hlt : k < n
    · have hkL : k < L.length := by rw [H.out.2.1]; exact hlt
      obtain ⟨ad, rfl, hbl, c0, hcl⟩ := ((H.out.1.chg HKM.out (by simp)).chg HK.out.2.2 (fun g hg hm => by have := H.out.2.2.2 g hg; have := HME.out; simp at hm; omega)) k hkL
      obtain ⟨a, l, c, hd⟩ := H.out.2.2.1 _ (List.getElem_mem hkL)
      rw [hd] at hcl
      have hts : cnts (L.take (k + 1)) = cntUp (cnts (L.take k)) L[k].1.cls := by rw [List.take_add_one, List.getElem?_eq_getElem hkL]; simp only [Option.toList]; rw [cnts_snoc]
      have HTS := Lib.hid hts
      have HCL := Lib.hid (fun W => clsNd L[k].1 a l c W)
      have c1 := hcl 1 _ rfl
      have c2 := hcl 2 _ rfl
      have c3 := hcl 3 _ rfl
      have c4 := hcl 4 _ rfl
      have c5 := hcl 5 _ rfl
      clear hcl hts hd hbl
      generalize L[k].1 = X at *
      unfold ndV at HCL
      generalize X.kind = x1 at *
      generalize ba X.path = x2 at *
      generalize X.mode = x3 at *
      generalize ba X.target = x4 at *
      generalize X.cls = x6 at *
      have HLU := Lib.hid (fun W (kw : Chg [] wr W) => And.intro (run_lookupJ1 (P := Tryz.prog) (T := 136) Tryz.underlying136 Tryz.underlying3 (fun W => by kernel_rfl) (HK.out.1.chg kw (by simp)) x6) (run_updateJ (P := Tryz.prog) (T := 136) Tryz.underlying136 Tryz.underlying3 (HK.out.1.chg kw (by simp)) x6 ((lkJ (cnts (L.take k)) x6).getD 0 + 1)))
      have hcb := cntOf_le (L.take k) x6
      have hca := cnts_at (L.take k) x6
      have HUP := Lib.hid (show cntUp (cnts (L.take k)) x6 = upJ (cnts (L.take k)) x6 ((lkJ (cnts (L.take k)) x6).getD 0 + 1) from rfl)
      have hcn : (L.take k).length ≤ 1000000 := by rw [List.length_take]; omega
      obtain ⟨C, hC⟩ : ∃ z : Int, z = (lkJ (cnts (L.take k)) x6).getD 0 := ⟨_, rfl⟩
      rw [← hC] at HLU HUP hca
      have hC0 : 0 ≤ C := by omega
      have hC1 : C ≤ 1000000 := by omega
      clear hca hcb hcn hC
      go_upto_region 5 with (fail)
      clear c0 c1 c2 c3 c4 c5
      have e1 := heap_alloc_new wr (.cells #[.int .i64 x1, .string x2, .int .i64 x3, .string x4, .slice a l c, .int .i64 x6] 45)
      have hk1 : Chg [] wr (wr.alloc (.cells #[.int .i64 x1, .string x2, .int .i64 x3, .string x4, .slice a l c, .int .i64 x6] 45)) := (Chg.refl _ _).alloc _
      have HK1 := Lib.hid hk1
      clear hk1
      generalize wr.alloc (.cells #[.int .i64 x1, .string x2, .int .i64 x3, .string x4, .slice a l c, .int .i64 x6] 45) = W1 at *
      obtain ⟨bn, hbn⟩ : ∃ x, x = wr.heap.size := ⟨_, rfl⟩
      rw [← hbn] at e1 ⊢
      clear hbn
      have j0 := cell_heap e1 0 (v := .int .i64 x1) rfl
      have j1 := cell_heap e1 1 (v := .string x2) rfl
      have j2 := cell_heap e1 2 (v := .int .i64 x3) rfl
      have j3 := cell_heap e1 3 (v := .string x4) rfl
      have j4 := cell_heap e1 4 (v := .slice a l c) rfl
      have j5 := cell_heap e1 5 (v := .int .i64 x6) rfl
      clear e1
      go_wp2_with (go_at_call 74; refine (HCL.out _).mono ?_; rintro e w2 ⟨rfl, hk2⟩; have HK2 := Lib.hid (HK1.out.trans hk2); have hlu := (HLU.out w2 HK2.out).1; obtain ⟨w3, hup, hm3, hk3, _⟩ := (HLU.out w2 HK2.out).2; have HW3 := Lib.hid (And.intro hm3 hk3); clear hk2 hm3 hk3)
      go_roundw
      case rel => exact ⟨k + 1, by go_num, by omega, by rw [HTS.out, HUP.out]; exact HW3.out.1, (HK.out.2.2.trans (HK2.out.mono (by simp))).trans HW3.out.2⟩
      case measure => simp [intOf]; omega
    · have hkk : k = n := by have := HK.out.2.1; omega
      subst hkk
      go_wp2_with fail
      go_ret
      refine ⟨m, rfl, Nat.le_of_eq HME.out.symm, ?_, HKM.out.trans' HK.out.2.2 (by simp) (fun x hx hl => by have := HME.out; simp at hx; omega)⟩
      have := HK.out.1
      rw [List.take_of_length_le (Nat.le_of_eq H.out.2.1)] at this
      exact this
end Go.Proofs.YtfhiioopimmahaaGreatDoor
namespace Go.Pax
open Go.RowKit
theorem setCells_heap (g : Nat) (t : TypeId) : ∀ (vs : List Value) (o : Nat) (w : World) (cur : Array Value), w.heap[g]? = some (.cells cur t (0, 0)) →
    ∃ cur', (w.setCells g o vs).heap[g]? = some (.cells cur' t (0, 0)) ∧ cur'.size = cur.size ∧ ∀ j, cur'[j]? = if o ≤ j ∧ j < o + vs.length ∧ j < cur.size then vs[j - o]? else cur[j]?
  | [], o, w, cur, h => ⟨cur, h, rfl, fun j => by rw [if_neg (by simp; omega)]⟩
  | v :: r, o, w, cur, h => by
    obtain ⟨cur', h1, h2, h3⟩ := setCells_heap g t r (o + 1) (w.setCell ⟨g, o, none⟩ v) (cur.setIfInBounds o v) (heap_set h o v rfl)
    refine ⟨cur', h1, by rw [h2, Array.size_setIfInBounds], fun j => ?_⟩
    rw [h3]
    simp only [Array.size_setIfInBounds, List.length_cons]
    by_cases h4 : o + 1 ≤ j ∧ j < o + 1 + r.length ∧ j < cur.size
    · rw [if_pos h4, if_pos (by omega), show j - o = (j - (o + 1)) + 1 by omega, List.getElem?_cons_succ]
    · rw [if_neg h4]
      by_cases h5 : j = o
      · subst h5
        by_cases h6 : j < cur.size
        · rw [if_pos (by omega), Nat.sub_self]
          simp [h6]
        · rw [if_neg (by omega)]
          simp [h6]
      · rw [if_neg (by omega), Array.getElem?_setIfInBounds_ne (Ne.symm h5)]
end Go.Pax
namespace Go.Proofs.YtfhiioopimmahaaGreatDoor
open Go.RowKit Go.Pax Go.Shelf
theorem own_setCells {w : World} {B : Nat} {e : TypeId} {s g n c : Nat} {xs : List Value} (h : w.ownsRow B e s (.slice (some ⟨g, 0, none⟩) n c) n xs) {o : Nat} {vs : List Value} (ho : o + vs.length ≤ n * s) :
    (w.setCells g o vs).ownsRow B e s (.slice (some ⟨g, 0, none⟩) n c) n (xs.take o ++ vs ++ xs.drop (o + vs.length)) := by
  have hl := h.1
  rcases h.2 with ⟨hv, _⟩ | ⟨g', cap, cur, hv, hb, hg, hn, hm, hs, ht⟩
  · cases hv
  simp only [Value.slice.injEq, Option.some.injEq, Addr.mk.injEq] at hv
  obtain ⟨⟨rfl, _⟩, _, rfl⟩ := hv
  obtain ⟨cur', h1, h2, h3⟩ := setCells_heap g e vs o w cur hg
  have hnc : n * s ≤ c * s := Nat.mul_le_mul_right s hn
  refine ⟨by simp; omega, .inr ⟨g, c, cur', rfl, hb, h1, hn, hm, by rw [h2, hs], ?_⟩⟩
  apply List.ext_getElem?
  intro j
  have hx : ∀ j, j < n * s → xs[j]? = cur[j]? := fun j hj => by
    rw [← ht, List.getElem?_take_of_lt hj, Array.getElem?_toList]
  by_cases hj : j < n * s
  · rw [List.getElem?_take_of_lt hj, Array.getElem?_toList, h3]
    by_cases h4 : j < o
    · rw [if_neg (by omega), List.getElem?_append_left (by simp; omega), List.getElem?_append_left (by simp; omega), List.getElem?_take_of_lt h4, hx j hj]
    · by_cases h5 : j < o + vs.length
      · rw [if_pos (by omega), List.getElem?_append_left (by simp; omega), List.getElem?_append_right (by simp; omega)]
        congr 1
        simp; omega
      · rw [if_neg (by omega), List.getElem?_append_right (by simp; omega), List.getElem?_drop, ← hx j hj]
        congr 1
        simp; omega
  · rw [List.getElem?_eq_none (by simp; omega), List.getElem?_eq_none (by simp; omega)]
theorem ndcells_set (L : List (ANode × Value)) (i : Nat) (hi : i < L.length) (y : ANode × Value) : ndcells (L.set i y) = (ndcells L).take (i * 6) ++ ndc y.1 y.2 ++ (ndcells L).drop (i * 6 + 6) := by
  have h1 : ndcells L = ndcells (L.take i) ++ (ndc L[i].1 L[i].2 ++ ndcells (L.drop (i + 1))) := by
    have h2 : L = L.take i ++ L[i] :: L.drop (i + 1) := by rw [List.getElem_cons_drop, List.take_append_drop]
    calc ndcells L = ndcells (L.take i ++ L[i] :: L.drop (i + 1)) := by rw [← h2]
      _ = _ := by rw [ndcells_append]; rfl
  have h3 : (ndcells (L.take i)).length = i * 6 := by rw [ndcells_length, List.length_take, Nat.min_eq_left (by omega)]
  rw [List.set_eq_take_append_cons_drop, if_pos hi, ndcells_append, h1]
  rw [List.take_left' h3]
  have h4 : ∀ (A : List Value), A.length = i * 6 → (A ++ (ndc L[i].1 L[i].2 ++ ndcells (L.drop (i + 1)))).drop (i * 6 + 6) = ndcells (L.drop (i + 1)) := fun A hA => by
    rw [← List.drop_drop, List.drop_left' hA, List.drop_left' (by rfl)]
  rw [h4 _ h3]
  simp [ndcells]
/-- A node is stored. -/
theorem own_putNd {w : World} {B g n c : Nat} {L : List (ANode × Value)} (h : w.ownsRow B 45 6 (.slice (some ⟨g, 0, none⟩) n c) n (ndcells L)) {i : Nat} (hi : i < n) (x : ANode) (dv : Value) :
    (w.setCells g (i * 6) (ndc x dv)).ownsRow B 45 6 (.slice (some ⟨g, 0, none⟩) n c) n (ndcells (L.set i (x, dv))) := by
  have hl : L.length = n := by have := h.1; rw [ndcells_length] at this; omega
  rw [ndcells_set L i (by omega)]
  exact own_setCells h (by show i * 6 + 6 ≤ n * 6; omega)
theorem nd_split (L : List (ANode × Value)) (i : Nat) (hi : i < L.length) : ∃ A D, ndcells L = A ++ (ndc L[i].1 L[i].2 ++ D) ∧ A.length = i * 6 ∧ ∀ y : ANode × Value, ndcells (L.set i y) = A ++ (ndc y.1 y.2 ++ D) := by
  refine ⟨ndcells (L.take i), ndcells (L.drop (i + 1)), ?_, by rw [ndcells_length, List.length_take, Nat.min_eq_left (by omega)], fun y => ?_⟩
  · have h2 : L = L.take i ++ L[i] :: L.drop (i + 1) := by rw [List.getElem_cons_drop, List.take_append_drop]
    calc ndcells L = ndcells (L.take i ++ L[i] :: L.drop (i + 1)) := by rw [← h2]
      _ = _ := by rw [ndcells_append]; rfl
  · rw [List.set_eq_take_append_cons_drop, if_pos hi, ndcells_append]
    rfl
/-- One field is stored. -/
theorem own_putFld {w : World} {B g n c : Nat} {L : List (ANode × Value)} (h : w.ownsRow B 45 6 (.slice (some ⟨g, 0, none⟩) n c) n (ndcells L)) {i : Nat} (hi : i < L.length) (r : Nat) (hr : r < 6) (v : Value) (y : ANode × Value) (hy : ndc y.1 y.2 = (ndc L[i].1 L[i].2).set r v) :
    (w.setCell ⟨g, i * 6 + r, none⟩ v).ownsRow B 45 6 (.slice (some ⟨g, 0, none⟩) n c) n (ndcells (L.set i y)) := by
  have hl : L.length = n := by have := h.1; rw [ndcells_length] at this; omega
  have h1 := own_setCells h (o := i * 6 + r) (vs := [v]) (by simp; omega)
  obtain ⟨A, D, e1, e2, e3⟩ := nd_split L i hi
  have e4 : (ndcells L).take (i * 6 + r) ++ [v] ++ (ndcells L).drop (i * 6 + r + [v].length) = ndcells (L.set i y) := by
    have hlen : i * 6 + r < (ndcells L).length := by rw [ndcells_length]; omega
    have e5 : (ndcells L).take (i * 6 + r) ++ [v] ++ (ndcells L).drop (i * 6 + r + [v].length) = (ndcells L).set (i * 6 + r) v := by
      rw [List.set_eq_take_append_cons_drop, if_pos hlen]
      simp
    rw [e5, e3 y, e1, hy, List.set_append_right _ _ (by omega), e2, Nat.add_sub_cancel_left, List.set_append_left _ _ (by simpa [ndc] using hr)]
  rw [e4] at h1
  exact h1
/-- A row of fresh nodes. -/
def zeroNd : ANode × Value := (⟨0, [], 0, [], [], 0⟩, .slice none 0 0)
theorem made_nodes : ∀ n, (madeCells (Value.agg #[.int .i64 0, .string ⟨#[]⟩, .int .i64 0, .string ⟨#[]⟩, .slice none 0 0, .int .i64 0]).cells (n * 6)).toList = ndcells (List.replicate n zeroNd) := by
  intro n
  apply List.ext_getElem?
  intro j
  by_cases hj : j < n * 6
  · have hq : j / 6 < (List.replicate n zeroNd).length := by rw [List.length_replicate]; omega
    have h1 := ndcells_get (List.replicate n zeroNd) (j / 6) hq (j % 6) (Nat.mod_lt _ (by omega))
    rw [show j / 6 * 6 + j % 6 = j by omega] at h1
    rw [h1, List.getElem_replicate]
    have h6 : j % 6 < 6 := Nat.mod_lt _ (by omega)
    unfold madeCells
    simp only [Array.toList_map, List.getElem?_map, Array.toList_range, List.getElem?_range hj, Option.map_some, Value.cells]
    have h7 : (#[Value.int .i64 0, .string ⟨#[]⟩, .int .i64 0, .string ⟨#[]⟩, .slice none 0 0, .int .i64 0] : Array Value).size = 6 := rfl
    rw [h7]
    generalize j % 6 = r at *
    match r, h6 with
    | 0, _ => rfl
    | 1, _ => rfl
    | 2, _ => rfl
    | 3, _ => rfl
    | 4, _ => rfl
    | 5, _ => rfl
  · rw [List.getElem?_eq_none (by rw [Array.length_toList, size_madeCells]; omega), List.getElem?_eq_none (by rw [ndcells_length, List.length_replicate]; omega)]
end Go.Proofs.YtfhiioopimmahaaGreatDoor
