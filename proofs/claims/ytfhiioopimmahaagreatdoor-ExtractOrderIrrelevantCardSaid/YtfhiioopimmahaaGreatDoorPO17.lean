/- tree.Canon at a list whose paths ascend. Rows of nodes: two exchanged; slices.swapRangeCmpFunc, slices.rotateCmpFunc. Printed by wip/gen/gensrow.py. -/
import Derived.Test.YtfhiioopimmahaaGreatDoorPO11
import Derived.Test.YtfhiioopimmahaaGreatDoorPO14
import Derived.Test.YtfhiioopimmahaaGreatDoorPO15
import Derived.Test.YtfhiioopimmahaaGreatDoorPO16
namespace Go.Proofs.YtfhiioopimmahaaGreatDoor
open Go.RowKit Go.Pax Go.Shelf
/-- The first k nodes of the copy, and fresh ones behind them. -/
structure Copied (w w' : World) (g n : Nat) (L : List (ANode × Value)) (k : Nat) (C : List (ANode × Value)) : Prop where
  len : C.length = k
  same : C.map Prod.fst = (L.take k).map Prod.fst
  row : w'.ownsRow w.heap.size 45 6 (.slice (some ⟨g, 0, none⟩) n n) n (ndcells (C ++ List.replicate (n - k) zeroNd))
  data : ∀ x ∈ C, ∃ fq, RdD w' fq x.2 x.1.data ∧ ∀ y ∈ fq, w.heap.size ≤ y ∧ y < w'.heap.size ∧ y ≠ g
  chg : Chg [] w w'
theorem own_there {w : World} {B : Nat} {e : TypeId} {s g n c : Nat} {xs : List Value} (h : w.ownsRow B e s (.slice (some ⟨g, 0, none⟩) n c) n xs) {o m : Nat} (ho : o + m ≤ n * s) : w.there g o m := by
  rcases h.2 with ⟨hv, _⟩ | ⟨g', cap, cur, hv, hb, hg, hn, hm, hs, ht⟩
  · cases hv
  simp only [Value.slice.injEq, Option.some.injEq, Addr.mk.injEq] at hv
  obtain ⟨⟨rfl, _⟩, _, rfl⟩ := hv
  have : n * s ≤ c * s := Nat.mul_le_mul_right s hn
  exact there_of hg (by omega)
theorem there_one {w : World} {g o m j : Nat} (h : w.there g o m) (hj : j < m) : (∃ v, w.cell? ⟨g, o + j, none⟩ = some v) ∧ w.frozen? ⟨g, o + j, none⟩ = false :=
  ⟨Option.isSome_iff_exists.1 (h j hj).1, (h j hj).2⟩
theorem set_fresh {α : Type} (C : List α) (n k : Nat) (z y : α) (hk : C.length = k) (hlt : k < n) : (C ++ List.replicate (n - k) z).set k y = (C ++ [y]) ++ List.replicate (n - (k + 1)) z := by
  obtain ⟨m, hm⟩ : ∃ m, n - k = m + 1 := ⟨n - k - 1, by omega⟩
  rw [hm, show n - (k + 1) = m by omega, List.set_append_right _ _ (by omega), hk, Nat.sub_self, List.replicate_succ, List.set_cons_zero]
  simp
/-- One node more has been copied. -/
theorem Copied.step {w wr W1 W2 w5 : World} {g n k : Nat} {L C : List (ANode × Value)} {X : ANode} {dv : Value} {ca : Option Addr} {cc : Nat} (h : Copied w wr g n L k C) (hg : g = w.heap.size) (hkL : k < L.length) (hlt : k < n) (hX : L[k].1 = X)
    (k1 : Chg [] wr W1) (hr2 : W2.ownsRow w.heap.size 45 6 (.slice (some ⟨g, 0, none⟩) n n) n (ndcells ((C ++ List.replicate (n - k) zeroNd).set k (X, dv)))) (k2 : Chg [g] W1 W2)
    (k5 : Chg [] W2 w5) (ho : w5.ownsRow W2.heap.size 5 1 (.slice ca X.data.length cc) X.data.length (bv X.data)) :
    Copied w (w5.setCell ⟨g, k * 6 + 4, none⟩ (.slice ca X.data.length cc)) g n L (k + 1) (C ++ [(X, .slice ca X.data.length cc)]) ∧ Chg [g] wr (w5.setCell ⟨g, k * 6 + 4, none⟩ (.slice ca X.data.length cc)) := by
  have kf : Chg [g] w5 (w5.setCell ⟨g, k * 6 + 4, none⟩ (.slice ca X.data.length cc)) := (Chg.refl _ _).setCell (fun _ => by simp) _
  have kr : Chg [g] wr (w5.setCell ⟨g, k * 6 + 4, none⟩ (.slice ca X.data.length cc)) := ((((k1.mono (by simp)).trans k2).trans (k5.mono (by simp))).trans kf)
  have hgl : g < wr.heap.size := by obtain ⟨x, hx⟩ := own_blockS h.row (g := g) rfl; exact lt_of_block hx
  have hs2 : wr.heap.size ≤ W2.heap.size := Nat.le_trans k1.size k2.size
  have hs5 := k5.size
  have hsf := kf.size
  refine ⟨⟨by simp [h.len], ?_, ?_, fun x hx => ?_, h.chg.trans' kr (by simp) (fun x hx hl => by simp at hx; omega)⟩, kr⟩
  · rw [List.take_add_one, List.getElem?_eq_getElem hkL, List.map_append, List.map_append, h.same]
    simp only [Option.toList, List.map_cons, List.map_nil, hX]
  · have hlen : k < ((C ++ List.replicate (n - k) zeroNd).set k (X, dv)).length := by rw [List.length_set, List.length_append, List.length_replicate, h.len]; omega
    have hp := own_putFld (own_keepS hr2 k5 (by simp)) hlen 4 (by omega) (.slice ca X.data.length cc) (X, .slice ca X.data.length cc) (by rw [List.getElem_set_self]; rfl)
    rw [List.set_set, set_fresh C n k _ _ h.len hlt] at hp
    exact hp
  · rcases List.mem_append.1 hx with hx | hx
    · obtain ⟨fq, h1, h2⟩ := h.data x hx
      exact ⟨fq, h1.chg kr (fun y hy hm => by simp at hm; exact (h2 y hy).2.2 hm), fun y hy => ⟨(h2 y hy).1, by have := (h2 y hy).2.1; have := kr.size; omega, (h2 y hy).2.2⟩⟩
    · simp at hx
      subst hx
      obtain ⟨h1, h2, _⟩ := own_rd2 ho
      have hw := h.chg.size
      refine ⟨_, ⟨ca, cc, rfl, h1.chg kf (fun y hy hm => by have := (h2 y hy).1; simp at hm; omega)⟩, fun y hy => ?_⟩
      have := h2 y hy
      omega
/-- The first i nodes have their new classes. -/
structure Numbered (w w7 wq : World) (g mn k : Nat) (cnt : Int → Int) (C : List (ANode × Value)) (i : Nat) (D : List (ANode × Value)) : Prop where
  le : i ≤ k
  len : D.length = i
  cls : D.map Prod.fst = (canonS cnt ((C.take i).map Prod.fst)).2
  val : D.map Prod.snd = (C.take i).map Prod.snd
  row : wq.ownsRow w.heap.size 45 6 (.slice (some ⟨g, 0, none⟩) k k) k (ndcells (D ++ C.drop i))
  map : MapJ wq mn (canonS cnt ((C.take i).map Prod.fst)).1
  chg : Chg [g, mn] w7 wq
theorem Numbered.step {w w7 wq wz : World} {g mn k i : Nat} {cnt : Int → Int} {C D : List (ANode × Value)} (h : Numbered w w7 wq g mn k cnt C i D) (hC : C.length = k) (hi : i < C.length) {z : Int} (hz : z = (numStep cnt (canonS cnt ((C.take i).map Prod.fst)).1 C[i].1.cls).2)
    (hm : MapJ wz mn (numStep cnt (canonS cnt ((C.take i).map Prod.fst)).1 C[i].1.cls).1) (hr : wz.ownsRow w.heap.size 45 6 (.slice (some ⟨g, 0, none⟩) k k) k (ndcells ((D ++ C.drop i).set i ({ C[i].1 with cls := z }, C[i].2)))) (hk : Chg [g, mn] wq wz) :
    Numbered w w7 wz g mn k cnt C (i + 1) (D ++ [({ C[i].1 with cls := z }, C[i].2)]) := by
  have ht : (C.take (i + 1)).map Prod.fst = (C.take i).map Prod.fst ++ [C[i].1] := by
    rw [List.take_add_one, List.getElem?_eq_getElem hi, List.map_append]; rfl
  have hts : (C.take (i + 1)).map Prod.snd = (C.take i).map Prod.snd ++ [C[i].2] := by
    rw [List.take_add_one, List.getElem?_eq_getElem hi, List.map_append]; rfl
  have hset : (D ++ C.drop i).set i ({ C[i].1 with cls := z }, C[i].2) = (D ++ [({ C[i].1 with cls := z }, C[i].2)]) ++ C.drop (i + 1) := by
    rw [List.set_append_right _ _ (by rw [h.len]; exact Nat.le_refl _), h.len, Nat.sub_self, List.drop_eq_getElem_cons hi, List.set_cons_zero]
    simp
  rw [hset] at hr
  refine ⟨by omega, by simp [h.len], ?_, by rw [List.map_append, h.val, hts]; rfl, hr, ?_, h.chg.trans hk⟩
  · rw [ht, canonS_snoc, List.map_append, h.cls]
    unfold canonStep
    simp [hz]
  · rw [ht, canonS_snoc]
    exact hm
theorem Numbered.at {w w7 wq : World} {g mn k i : Nat} {cnt : Int → Int} {C D : List (ANode × Value)} (h : Numbered w w7 wq g mn k cnt C i D) (hi : i < C.length) : ∃ hj : i < (D ++ C.drop i).length, (D ++ C.drop i)[i] = C[i] := by
  have hl : i < (D ++ C.drop i).length := by rw [List.length_append, List.length_drop, h.len]; omega
  refine ⟨hl, ?_⟩
  rw [List.getElem_append_right (by rw [h.len]; exact Nat.le_refl _)]
  simp [h.len]
end Go.Proofs.YtfhiioopimmahaaGreatDoor
namespace Go.Proofs.YtfhiioopimmahaaGreatDoor
open Go.RowKit Go.Pax Go.Shelf
/-- A row of nodes. -/
structure NRow (w : World) (g n c : Nat) (L : List (ANode × Value)) : Prop where
  row : ∃ B, w.ownsRow B 45 6 (.slice (some ⟨g, 0, none⟩) n c) n (ndcells L)
  len : L.length = n
  dv : ∀ x ∈ L, ∃ a l c, x.2 = .slice a l c
  short : n ≤ 1000000
theorem NRow.chg {w w' : World} {g n c : Nat} {L : List (ANode × Value)} {S : List Nat} (h : NRow w g n c L) (k : Chg S w w') (hg : g ∉ S) : NRow w' g n c L := by
  obtain ⟨B, hr⟩ := h.row
  exact ⟨⟨B, own_keepS hr k (fun g' hg' => by simp [Value.ownBlock] at hg'; subst hg'; exact hg)⟩, h.len, h.dv, h.short⟩
theorem NRow.at {w : World} {g n c : Nat} {L : List (ANode × Value)} (h : NRow w g n c L) {i : Nat} (hi : i < n) : ∃ x a l cp, NdAt w g i x a l cp ∧ L[i]? = some (x, .slice a l cp) := by
  obtain ⟨B, hr⟩ := h.row
  have hi' : i < L.length := by rw [h.len]; exact hi
  obtain ⟨a, l, cp, hd⟩ := h.dv _ (List.getElem_mem hi')
  exact ⟨_, a, l, cp, own_nd hr hi' hd, by rw [List.getElem?_eq_getElem hi', ← hd]⟩
theorem NRow.there {w : World} {g n c : Nat} {L : List (ANode × Value)} (h : NRow w g n c L) {i : Nat} (hi : i < n) : w.there g (i * 6) 6 := by
  obtain ⟨B, hr⟩ := h.row
  exact own_there hr (by omega)
theorem NRow.put {w : World} {g n c : Nat} {L : List (ANode × Value)} (h : NRow w g n c L) {i : Nat} (hi : i < n) (x : ANode) (a : Option Addr) (l cp : Nat) : NRow (w.setCells g (i * 6) (ndc x (.slice a l cp))) g n c (L.set i (x, .slice a l cp)) := by
  obtain ⟨B, hr⟩ := h.row
  refine ⟨⟨B, own_putNd hr hi x _⟩, by rw [List.length_set]; exact h.len, fun y hy => ?_, h.short⟩
  rcases List.mem_or_eq_of_mem_set hy with h1 | rfl
  · exact h.dv y h1
  · exact ⟨_, _, _, rfl⟩
/-- Two nodes exchanged. -/
theorem NRow.swap {w : World} {g n c : Nat} {L : List (ANode × Value)} (h : NRow w g n c L) {i j : Nat} (hi : i < n) (hj : j < n) {x y : ANode} {xa ya : Option Addr} {xl xc yl yc : Nat} (hx : L[i]? = some (x, .slice xa xl xc)) (hy : L[j]? = some (y, .slice ya yl yc)) :
    w.there g (i * 6) 6 ∧ (w.setCells g (i * 6) (ndc y (.slice ya yl yc))).there g (j * 6) 6 ∧ NRow ((w.setCells g (i * 6) (ndc y (.slice ya yl yc))).setCells g (j * 6) (ndc x (.slice xa xl xc))) g n c (swp L i j) ∧
      Chg [g] w ((w.setCells g (i * 6) (ndc y (.slice ya yl yc))).setCells g (j * 6) (ndc x (.slice xa xl xc))) := by
  have h1 := h.put hi y ya yl yc
  have h2 := h1.put hj x xa xl xc
  refine ⟨h.there hi, h1.there hj, ?_, setCells_chg.trans setCells_chg⟩
  unfold swp
  rw [hx, hy]
  exact h2
set_option maxRecDepth 100000 in
set_option maxHeartbeats 8000000 in
theorem swapRange (w : World) (g n c : Nat) (L : List (ANode × Value)) (a b m : Nat) (h : NRow w g n c L) (ha : a + m ≤ n) (hb : b + m ≤ n) :
    Calls Tryz.prog 137 #[.slice (some ⟨g, 0, none⟩) n c, .int .i64 a, .int .i64 b, .int .i64 m, .func (.func 77) #[] #[]] w fun e w' => e = .returned (.tuple #[]) ∧ NRow w' g n c (swpR L a b m) ∧ Chg [g] w w' := by
  have HS := Lib.hid h
  have hnB : n ≤ 1000000 := h.short
  clear h
  go_enter Tryz.func137, Tryz.ntmps137
  go_wp2_with fail
  go_loopw [10] (fun u wr => ∃ k : Nat, u = .int .i64 k ∧ k ≤ m ∧ NRow wr g n c (swpR L a b k) ∧ Chg [g] w wr) (fun u _ => m - (intOf u).toNat)
  case atStart => exact ⟨0, rfl, Nat.zero_le _, HS.out, Chg.refl _ _⟩
  case round =>
    obtain ⟨k, rfl, hkm, hr, hk⟩ := hrel
    have HK := Lib.hid (And.intro hr hk)
    clear hr hk
    by_cases hlt : k < m
    · have hrd := HK.out.1.chg (Chg.refl [] wr).drew (by simp)
      obtain ⟨p, hp⟩ : ∃ p, p = a + k := ⟨_, rfl⟩
      obtain ⟨q, hq⟩ : ∃ q, q = b + k := ⟨_, rfl⟩
      have hpn : p < n := by omega
      have hqn : q < n := by omega
      have hpw : IntKind.i64.wrap ((a : Int) + (k : Int)) = (p : Int) := by rw [show (a : Int) + (k : Int) = (p : Int) by omega]; exact IntWalk.i64_in _ (by omega)
      have hqw : IntKind.i64.wrap ((b : Int) + (k : Int)) = (q : Int) := by rw [show (b : Int) + (k : Int) = (q : Int) by omega]; exact IntWalk.i64_in _ (by omega)
      obtain ⟨x, xa, xl, xc, hx, hxe⟩ := hrd.at hpn
      obtain ⟨y, ya, yl, yc, hy, hye⟩ := hrd.at hqn
      have hsw := hrd.swap hpn hqn hxe hye
      obtain ⟨x1, x2, x3, x4, x5, x6⟩ := x
      obtain ⟨y1, y2, y3, y4, y5, y6⟩ := y
      unfold NdAt at hx hy
      unfold ndc at hsw
      simp only at hx hy hsw
      clear hxe hye
      generalize ba x2 = x2 at *
      generalize ba y2 = y2 at *
      generalize ba x4 = x4 at *
      generalize ba y4 = y4 at *
      have HSW := Lib.hid hsw
      have HXY := Lib.hid (show (fun v => v.cell? ⟨g, p * 6, none⟩ = some (.int .i64 x1) ∧ v.cell? ⟨g, p * 6 + 1, none⟩ = some (.string x2) ∧ v.cell? ⟨g, p * 6 + 2, none⟩ = some (.int .i64 x3) ∧ v.cell? ⟨g, p * 6 + 3, none⟩ = some (.string x4) ∧ v.cell? ⟨g, p * 6 + 4, none⟩ = some (.slice xa xl xc) ∧ v.cell? ⟨g, p * 6 + 5, none⟩ = some (.int .i64 x6) ∧ v.cell? ⟨g, q * 6, none⟩ = some (.int .i64 y1) ∧ v.cell? ⟨g, q * 6 + 1, none⟩ = some (.string y2) ∧ v.cell? ⟨g, q * 6 + 2, none⟩ = some (.int .i64 y3) ∧ v.cell? ⟨g, q * 6 + 3, none⟩ = some (.string y4) ∧ v.cell? ⟨g, q * 6 + 4, none⟩ = some (.slice ya yl yc) ∧ v.cell? ⟨g, q * 6 + 5, none⟩ = some (.int .i64 y6)) wr.drew from ⟨hx.1, hx.2.1, hx.2.2.1, hx.2.2.2.1, hx.2.2.2.2.1, hx.2.2.2.2.2, hy.1, hy.2.1, hy.2.2.1, hy.2.2.2.1, hy.2.2.2.2.1, hy.2.2.2.2.2⟩)
      have HPQ := Lib.hid (And.intro hp hq)
      clear hx hy hsw hrd hp hq
      go_upto_region 3 with (fail)
      obtain ⟨W1, hW1⟩ : ∃ x, x = wr.drew.setCells g (p * 6) [.int .i64 y1, .string y2, .int .i64 y3, .string y4, .slice ya yl yc, .int .i64 y6] := ⟨_, rfl⟩
      have hs1 := HSW.out
      rw [← hW1] at hs1
      replace HSW := Lib.hid hs1
      have HW1 := Lib.hid hW1
      clear hs1 hW1
      refine wp_region_mark (S := fun v => v.cell? ⟨g, p * 6, none⟩ = some (.int .i64 x1) ∧ v.cell? ⟨g, p * 6 + 1, none⟩ = some (.string x2) ∧ v.cell? ⟨g, p * 6 + 2, none⟩ = some (.int .i64 x3) ∧ v.cell? ⟨g, p * 6 + 3, none⟩ = some (.string x4) ∧ v.cell? ⟨g, p * 6 + 4, none⟩ = some (.slice xa xl xc) ∧ v.cell? ⟨g, p * 6 + 5, none⟩ = some (.int .i64 x6) ∧ v.cell? ⟨g, q * 6, none⟩ = some (.int .i64 y1) ∧ v.cell? ⟨g, q * 6 + 1, none⟩ = some (.string y2) ∧ v.cell? ⟨g, q * 6 + 2, none⟩ = some (.int .i64 y3) ∧ v.cell? ⟨g, q * 6 + 3, none⟩ = some (.string y4) ∧ v.cell? ⟨g, q * 6 + 4, none⟩ = some (.slice ya yl yc) ∧ v.cell? ⟨g, q * 6 + 5, none⟩ = some (.int .i64 y6)) 20 (by kernel_rfl) ?_ (fun hHeld => ?_)
      · exact HXY.out
      refine wpAnyF_pure (i := 0) (oi := ?oi1) (v := ?v1) ?hi1 (by kernel_rfl) (by kernel_rfl) (by kernel_rfl) (by kernel_rfl) ?hQ1 (Or.inl ⟨?hw1, ?hy1⟩) (Or.inr (by assumption)) ?hr1
      case hi1 => simp only [List.getElem?_toArray, List.getElem?_cons_zero]; rfl
      case hQ1 => exact fun _ _ _ h => h
      case hw1 => rfl
      case hy1 => intro w hSw; (try dsimp only at hSw); go_simp; (try with_reducible rfl)
      case hr1 =>
      simp only [Act.put, List.setIfInBounds_toArray, List.set_cons_zero, List.set_cons_succ]
      refine wpAnyF_pure (i := 1) (oi := ?oi2) (v := ?v2) ?hi2 (by kernel_rfl) (by kernel_rfl) (by kernel_rfl) (by kernel_rfl) ?hQ2 (Or.inl ⟨?hw2, ?hy2⟩) (Or.inr (by assumption)) ?hr2
      case hi2 => simp only [List.getElem?_toArray, List.getElem?_cons_succ, List.getElem?_cons_zero]; rfl
      case hQ2 => exact fun _ _ _ h => h
      case hw2 => rfl
      case hy2 => intro w hSw; (try dsimp only at hSw); go_simp; (try with_reducible rfl)
      case hr2 =>
      simp only [Act.put, List.setIfInBounds_toArray, List.set_cons_zero, List.set_cons_succ]
      refine wpAnyF_pure (i := 2) (oi := ?oi3) (v := ?v3) ?hi3 (by kernel_rfl) (by kernel_rfl) (by kernel_rfl) (by kernel_rfl) ?hQ3 (Or.inl ⟨?hw3, ?hy3⟩) (Or.inr (by assumption)) ?hr3
      case hi3 => simp only [List.getElem?_toArray, List.getElem?_cons_succ, List.getElem?_cons_zero]; rfl
      case hQ3 => exact fun _ _ _ h => h
      case hw3 => rfl
      case hy3 => intro w hSw; (try dsimp only at hSw); go_simp; (try with_reducible rfl)
      case hr3 =>
      simp only [Act.put, List.setIfInBounds_toArray, List.set_cons_zero, List.set_cons_succ]
      refine wpAnyF_pure (i := 3) (oi := ?oi4) (v := ?v4) ?hi4 (by kernel_rfl) (by kernel_rfl) (by kernel_rfl) (by kernel_rfl) ?hQ4 (Or.inl ⟨?hw4, ?hy4⟩) (Or.inr (by assumption)) ?hr4
      case hi4 => simp only [List.getElem?_toArray, List.getElem?_cons_succ, List.getElem?_cons_zero]; rfl
      case hQ4 => exact fun _ _ _ h => h
      case hw4 => rfl
      case hy4 => intro w hSw; (try dsimp only at hSw); go_simp; (try with_reducible rfl)
      case hr4 =>
      simp only [Act.put, List.setIfInBounds_toArray, List.set_cons_zero, List.set_cons_succ]
      refine wpAnyF_pure (i := 4) (oi := ?oi5) (v := ?v5) ?hi5 (by kernel_rfl) (by kernel_rfl) (by kernel_rfl) (by kernel_rfl) ?hQ5 (Or.inl ⟨?hw5, ?hy5⟩) (Or.inr (by assumption)) ?hr5
      case hi5 => simp only [List.getElem?_toArray, List.getElem?_cons_succ, List.getElem?_cons_zero]; rfl
      case hQ5 => exact fun _ _ _ h => h
      case hw5 => rfl
      case hy5 => intro w hSw; (try dsimp only at hSw); go_simp; (try with_reducible rfl)
      case hr5 =>
      simp only [Act.put, List.setIfInBounds_toArray, List.set_cons_zero, List.set_cons_succ]
      refine wpAnyF_pure (i := 5) (oi := ?oi6) (v := ?v6) ?hi6 (by kernel_rfl) (by kernel_rfl) (by kernel_rfl) (by kernel_rfl) ?hQ6 (Or.inl ⟨?hw6, ?hy6⟩) (Or.inr (by assumption)) ?hr6
      case hi6 => simp only [List.getElem?_toArray, List.getElem?_cons_succ, List.getElem?_cons_zero]; rfl
      case hQ6 => exact fun _ _ _ h => h
      case hw6 => rfl
      case hy6 => intro w hSw; (try dsimp only at hSw); go_simp; (try with_reducible rfl)
      case hr6 =>
      simp only [Act.put, List.setIfInBounds_toArray, List.set_cons_zero, List.set_cons_succ]
      refine wpAnyF_pure (i := 6) (oi := ?oi7) (v := ?v7) ?hi7 (by kernel_rfl) (by kernel_rfl) (by kernel_rfl) (by kernel_rfl) ?hQ7 (Or.inl ⟨?hw7, ?hy7⟩) (Or.inr (by assumption)) ?hr7
      case hi7 => simp only [List.getElem?_toArray, List.getElem?_cons_succ, List.getElem?_cons_zero]; rfl
      case hQ7 => exact fun _ _ _ h => h
      case hw7 => rfl
      case hy7 => intro w hSw; (try dsimp only at hSw); go_simp; (try with_reducible rfl)
      case hr7 =>
      simp only [Act.put, List.setIfInBounds_toArray, List.set_cons_zero, List.set_cons_succ]
      refine wpAnyF_pure (i := 7) (oi := ?oi8) (v := ?v8) ?hi8 (by kernel_rfl) (by kernel_rfl) (by kernel_rfl) (by kernel_rfl) ?hQ8 (Or.inl ⟨?hw8, ?hy8⟩) (Or.inr (by assumption)) ?hr8
      case hi8 => simp only [List.getElem?_toArray, List.getElem?_cons_succ, List.getElem?_cons_zero]; rfl
      case hQ8 => exact fun _ _ _ h => h
      case hw8 => rfl
      case hy8 => intro w hSw; (try dsimp only at hSw); go_simp; (try with_reducible rfl)
      case hr8 =>
      simp only [Act.put, List.setIfInBounds_toArray, List.set_cons_zero, List.set_cons_succ]
      refine wpAnyF_pure (i := 8) (oi := ?oi9) (v := ?v9) ?hi9 (by kernel_rfl) (by kernel_rfl) (by kernel_rfl) (by kernel_rfl) ?hQ9 (Or.inl ⟨?hw9, ?hy9⟩) (Or.inr (by assumption)) ?hr9
      case hi9 => simp only [List.getElem?_toArray, List.getElem?_cons_succ, List.getElem?_cons_zero]; rfl
      case hQ9 => exact fun _ _ _ h => h
      case hw9 => rfl
      case hy9 => intro w hSw; (try dsimp only at hSw); go_simp; (try with_reducible rfl)
      case hr9 =>
      simp only [Act.put, List.setIfInBounds_toArray, List.set_cons_zero, List.set_cons_succ]
      refine wpAnyF_pure (i := 9) (oi := ?oi10) (v := ?v10) ?hi10 (by kernel_rfl) (by kernel_rfl) (by kernel_rfl) (by kernel_rfl) ?hQ10 (Or.inl ⟨?hw10, ?hy10⟩) (Or.inr (by assumption)) ?hr10
      case hi10 => simp only [List.getElem?_toArray, List.getElem?_cons_succ, List.getElem?_cons_zero]; rfl
      case hQ10 => exact fun _ _ _ h => h
      case hw10 => rfl
      case hy10 => intro w hSw; (try dsimp only at hSw); go_simp; (try with_reducible rfl)
      case hr10 =>
      simp only [Act.put, List.setIfInBounds_toArray, List.set_cons_zero, List.set_cons_succ]
      refine wpAnyF_pure (i := 10) (oi := ?oi11) (v := ?v11) ?hi11 (by kernel_rfl) (by kernel_rfl) (by kernel_rfl) (by kernel_rfl) ?hQ11 (Or.inl ⟨?hw11, ?hy11⟩) (Or.inr (by assumption)) ?hr11
      case hi11 => simp only [List.getElem?_toArray, List.getElem?_cons_succ, List.getElem?_cons_zero]; rfl
      case hQ11 => exact fun _ _ _ h => h
      case hw11 => rfl
      case hy11 => intro w hSw; (try dsimp only at hSw); go_simp; (try with_reducible rfl)
      case hr11 =>
      simp only [Act.put, List.setIfInBounds_toArray, List.set_cons_zero, List.set_cons_succ]
      refine wpAnyF_pure (i := 11) (oi := ?oi12) (v := ?v12) ?hi12 (by kernel_rfl) (by kernel_rfl) (by kernel_rfl) (by kernel_rfl) ?hQ12 (Or.inl ⟨?hw12, ?hy12⟩) (Or.inr (by assumption)) ?hr12
      case hi12 => simp only [List.getElem?_toArray, List.getElem?_cons_succ, List.getElem?_cons_zero]; rfl
      case hQ12 => exact fun _ _ _ h => h
      case hw12 => rfl
      case hy12 => intro w hSw; (try dsimp only at hSw); go_simp; (try with_reducible rfl)
      case hr12 =>
      simp only [Act.put, List.setIfInBounds_toArray, List.set_cons_zero, List.set_cons_succ]
      refine wpAnyF_pure (i := 12) (oi := ?oi13) (v := ?v13) ?hi13 (by kernel_rfl) (by kernel_rfl) (by kernel_rfl) (by kernel_rfl) ?hQ13 (Or.inl ⟨?hw13, ?hy13⟩) (Or.inr (by assumption)) ?hr13
      case hi13 => simp only [List.getElem?_toArray, List.getElem?_cons_succ, List.getElem?_cons_zero]; rfl
      case hQ13 => exact fun _ _ _ h => h
      case hw13 => rfl
      case hy13 => intro w hSw; (try dsimp only at hSw); go_simp; (try with_reducible rfl)
      case hr13 =>
      simp only [Act.put, List.setIfInBounds_toArray, List.set_cons_zero, List.set_cons_succ]
      refine wpAnyF_take (i := 13) (oi := ?oi14) (v := ?v14) ?hi14 (by kernel_rfl) (by kernel_rfl) (by kernel_rfl) (by kernel_rfl) (by kernel_rfl) ?hQ14 (Or.inl ⟨?hw14, ?hy14⟩) (by assumption) ?hr14
      case hi14 => simp only [List.getElem?_toArray, List.getElem?_cons_succ, List.getElem?_cons_zero]; rfl
      case hQ14 => exact fun _ _ _ h => h
      case hw14 => rfl
      case hy14 => intro w hSw; (try dsimp only at hSw); go_simp; (try with_reducible rfl)
      case hr14 =>
      simp only [Act.put, List.setIfInBounds_toArray, List.set_cons_zero, List.set_cons_succ]
      refine wpAnyF_pure (i := 14) (oi := ?oi15) (v := ?v15) ?hi15 (by kernel_rfl) (by kernel_rfl) (by kernel_rfl) (by kernel_rfl) ?hQ15 (Or.inl ⟨?hw15, ?hy15⟩) (Or.inr (by assumption)) ?hr15
      case hi15 => simp only [List.getElem?_toArray, List.getElem?_cons_succ, List.getElem?_cons_zero]; rfl
      case hQ15 => exact fun _ _ _ h => h
      case hw15 => rfl
      case hy15 => intro w hSw; (try dsimp only at hSw); go_simp; (try with_reducible rfl)
      case hr15 =>
      simp only [Act.put, List.setIfInBounds_toArray, List.set_cons_zero, List.set_cons_succ]
      refine wpAnyF_pure (i := 15) (oi := ?oi16) (v := ?v16) ?hi16 (by kernel_rfl) (by kernel_rfl) (by kernel_rfl) (by kernel_rfl) ?hQ16 (Or.inl ⟨?hw16, ?hy16⟩) (Or.inr (by assumption)) ?hr16
      case hi16 => simp only [List.getElem?_toArray, List.getElem?_cons_succ, List.getElem?_cons_zero]; rfl
      case hQ16 => exact fun _ _ _ h => h
      case hw16 => rfl
      case hy16 => intro w hSw; (try dsimp only at hSw); go_simp; (try with_reducible rfl)
      case hr16 =>
      simp only [Act.put, List.setIfInBounds_toArray, List.set_cons_zero, List.set_cons_succ]
      refine wpAnyF_pure (i := 16) (oi := ?oi17) (v := ?v17) ?hi17 (by kernel_rfl) (by kernel_rfl) (by kernel_rfl) (by kernel_rfl) ?hQ17 (Or.inl ⟨?hw17, ?hy17⟩) (Or.inr (by assumption)) ?hr17
      case hi17 => simp only [List.getElem?_toArray, List.getElem?_cons_succ, List.getElem?_cons_zero]; rfl
      case hQ17 => exact fun _ _ _ h => h
      case hw17 => rfl
      case hy17 => intro w hSw; (try dsimp only at hSw); go_simp; (try with_reducible rfl)
      case hr17 =>
      simp only [Act.put, List.setIfInBounds_toArray, List.set_cons_zero, List.set_cons_succ]
      refine wpAnyF_pure (i := 17) (oi := ?oi18) (v := ?v18) ?hi18 (by kernel_rfl) (by kernel_rfl) (by kernel_rfl) (by kernel_rfl) ?hQ18 (Or.inl ⟨?hw18, ?hy18⟩) (Or.inr (by assumption)) ?hr18
      case hi18 => simp only [List.getElem?_toArray, List.getElem?_cons_succ, List.getElem?_cons_zero]; rfl
      case hQ18 => exact fun _ _ _ h => h
      case hw18 => rfl
      case hy18 => intro w hSw; (try dsimp only at hSw); go_simp; (try with_reducible rfl)
      case hr18 =>
      simp only [Act.put, List.setIfInBounds_toArray, List.set_cons_zero, List.set_cons_succ]
      refine wpAnyF_pure (i := 18) (oi := ?oi19) (v := ?v19) ?hi19 (by kernel_rfl) (by kernel_rfl) (by kernel_rfl) (by kernel_rfl) ?hQ19 (Or.inl ⟨?hw19, ?hy19⟩) (Or.inr (by assumption)) ?hr19
      case hi19 => simp only [List.getElem?_toArray, List.getElem?_cons_succ, List.getElem?_cons_zero]; rfl
      case hQ19 => exact fun _ _ _ h => h
      case hw19 => rfl
      case hy19 => intro w hSw; (try dsimp only at hSw); go_simp; (try with_reducible rfl)
      case hr19 =>
      simp only [Act.put, List.setIfInBounds_toArray, List.set_cons_zero, List.set_cons_succ]
      refine wpAnyF_take (i := 19) (oi := ?oi20) (v := ?v20) ?hi20 (by kernel_rfl) (by kernel_rfl) (by kernel_rfl) (by kernel_rfl) (by kernel_rfl) ?hQ20 (Or.inl ⟨?hw20, ?hy20⟩) (by assumption) ?hr20
      case hi20 => simp only [List.getElem?_toArray, List.getElem?_cons_succ, List.getElem?_cons_zero]; rfl
      case hQ20 => exact fun _ _ _ h => h
      case hw20 => rfl
      case hy20 => intro w hSw; (try dsimp only at hSw); go_simp; (try with_reducible rfl)
      case hr20 =>
      simp only [Act.put, List.setIfInBounds_toArray, List.set_cons_zero, List.set_cons_succ]
      refine wpAnyF_ready (i := 20) (o := ?oc21) (by kernel_rfl) ?hc21 (by kernel_rfl) (fun K hK => ?hs21)
      case hc21 => simp only [List.getElem?_toArray, List.getElem?_cons_succ, List.getElem?_cons_zero]; rfl
      case hs21 =>
      rw [if_pos (by rfl)]
      go_simp
      refine hK.out _ _ ?_
      clear hK K
      try simp only [Act.put, List.setIfInBounds_toArray, List.set_cons_zero, List.set_cons_succ]
      refine wpAnyF_ready (i := 21) (o := ?oc22) (by kernel_rfl) ?hc22 (by kernel_rfl) (fun K hK => ?hs22)
      case hc22 => simp only [List.getElem?_toArray, List.getElem?_cons_succ, List.getElem?_cons_zero]; rfl
      case hs22 =>
      rw [if_pos (by rfl)]
      refine wp_store_mid 45 (.tmp 36) (.tmp 29) rfl g (p * 6) #[.int .i64 y1, .string y2, .int .i64 y3, .string y4, .slice ya yl yc, .int .i64 y6] rfl rfl HSW.out.1 Tryz.nodeSize (nd_ones _ _ _ _ _ _ _ _) ?_; dsimp only; rw [← HW1.out]
      refine hK.out _ _ ?_
      clear hK K
      try simp only [Act.put]
      refine wpAnyF_ready (i := 22) (o := ?oc23) (by kernel_rfl) ?hc23 (by kernel_rfl) (fun K hK => ?hs23)
      case hc23 => simp only [List.getElem?_toArray, List.getElem?_cons_succ, List.getElem?_cons_zero]; rfl
      case hs23 =>
      rw [if_pos (by rfl)]
      go_simp
      refine hK.out _ _ ?_
      clear hK K
      try simp only [Act.put, List.setIfInBounds_toArray, List.set_cons_zero, List.set_cons_succ]
      refine wpAnyF_ready (i := 23) (o := ?oc24) (by kernel_rfl) ?hc24 (by kernel_rfl) (fun K hK => ?hs24)
      case hc24 => simp only [List.getElem?_toArray, List.getElem?_cons_succ, List.getElem?_cons_zero]; rfl
      case hs24 =>
      rw [if_pos (by rfl)]
      refine wp_store_mid 45 (.tmp 37) (.tmp 35) rfl g (q * 6) #[.int .i64 x1, .string x2, .int .i64 x3, .string x4, .slice xa xl xc, .int .i64 x6] rfl rfl HSW.out.2.1 Tryz.nodeSize (nd_ones _ _ _ _ _ _ _ _) ?_; dsimp only
      refine hK.out _ _ ?_
      clear hK K
      try simp only [Act.put]
      refine wpAnyF_done (by kernel_rfl) ?_ _
      go_wp2_with fail
      go_roundw
      case rel =>
        refine ⟨k + 1, by go_num, by omega, ?_, HK.out.2.trans ((Chg.refl [g] wr).drew.trans HSW.out.2.2.2)⟩
        rw [swpR, ← HPQ.out.1, ← HPQ.out.2]
        exact HSW.out.2.2.1
      case measure => simp [intOf]; omega
    · obtain rfl : k = m := by omega
      go_wp2_with fail
      go_end0
      exact ⟨rfl, HK.out⟩
end Go.Proofs.YtfhiioopimmahaaGreatDoor
