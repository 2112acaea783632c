/- paxtarlaw19: Options. -/
import Derived.Test.YtoionaeimnmcbaaGreatDoorVActs
namespace Go.Pax
open Go.RowKit
def natL (l : List UInt8) : List Int := l.map fun b => (b.toNat : Int)
theorem natL_take (l : List UInt8) (k : Nat) (h : k < l.length) : iv (natL (l.take (k + 1))) = iv (natL (l.take k)) ++ [.int .i64 (l[k].toNat : Int)] := by
  rw [List.take_add_one, List.getElem?_eq_getElem h]
  simp only [natL, iv, List.map_append, Option.toList, List.map_cons, List.map_nil]
theorem own_block_ge {w : World} {base : Nat} {e : TypeId} {v : Value} {n : Nat} {xs : List Value} (h : w.ownsRow base e 1 v n xs) {g : Nat} (hg : v.ownBlock = some g) : base ≤ g := by
  rcases h.2 with ⟨rfl, _⟩ | ⟨g', cap, cur, rfl, hb, _⟩
  · simp [Value.ownBlock] at hg
  · simp [Value.ownBlock] at hg; omega
end Go.Pax
namespace Go.Proofs.YtoionaeimnmcbaaGreatDoor
open Go.RowKit Go.Pax Go.Shelf
set_option maxRecDepth 100000 in
set_option maxHeartbeats 8000000 in
theorem options (w : World) (x y : Int) (l : List UInt8) (n : Nat) (ao : Option Addr) (c : Nat) (fp : List Nat) (hx : 0 ≤ x ∧ x ≤ 65535) (hy : 0 ≤ y ∧ y ≤ 65535) (hn : l.length = n) (hl : n ≤ 17592186044416) (h : Rd w fp ao (bv l)) :
    Calls Tryz.prog 7 #[.int .u16 x, .int .u16 y, .slice ao n c] w fun e w' => ∃ a cap, e = .returned (.agg #[.int .i64 (1 + x), .int .i64 (1 + y), .slice a n cap]) ∧ w'.ownsRow w.heap.size 3 1 (.slice a n cap) n (iv (natL l)) ∧ Chg [] w w' := by
  obtain ⟨ii, hii, hii0, hii1, hii2⟩ := info_parts Tryz.vinfoI
  have H := Lib.hid h
  have HN := Lib.hid hn
  have HT := Lib.hid (natL_take l)
  have HTA := Lib.hid (congrArg (fun z => iv (natL z)) (List.take_length (l := l)))
  clear h hn
  have hk0 : Chg [] w ((w.alloc (.cells #[.int .i64 0, .int .i64 0, .slice none 0 0] 30)).alloc (.cells #[.int .i64 (1 + x), .int .i64 (1 + y), .slice none 0 0] 30)) := ((Chg.refl _ _).alloc _).alloc _
  have e0 : ((w.alloc (.cells #[.int .i64 0, .int .i64 0, .slice none 0 0] 30)).alloc (.cells #[.int .i64 (1 + x), .int .i64 (1 + y), .slice none 0 0] 30)).heap[w.heap.size]? = some (.cells #[.int .i64 0, .int .i64 0, .slice none 0 0] 30 (0, 0)) := heap_keep (heap_alloc_new _ _)
  have e1 : ((w.alloc (.cells #[.int .i64 0, .int .i64 0, .slice none 0 0] 30)).alloc (.cells #[.int .i64 (1 + x), .int .i64 (1 + y), .slice none 0 0] 30)).heap[w.heap.size + 1]? = some (.cells #[.int .i64 (1 + x), .int .i64 (1 + y), .slice none 0 0] 30 (0, 0)) := heap_new_at (by simp)
  go_enter Tryz.func7, Tryz.ntmps7
  go_upto_region 3 with (fail)
  generalize (w.alloc (.cells #[.int .i64 0, .int .i64 0, .slice none 0 0] 30)).alloc (.cells #[.int .i64 (1 + x), .int .i64 (1 + y), .slice none 0 0] 30) = W at *
  have HK0 := Lib.hid hk0
  have HE := Lib.hid (And.intro e0 e1)
  clear hk0 e0 e1
  go_loopw [19] (fun i wr => ∃ k : Nat, k ≤ n ∧ i = .int .i64 k ∧ Chg [] w wr ∧ wr.heap[w.heap.size]? = some (.cells #[.int .i64 0, .int .i64 0, .slice none 0 0] 30 (0, 0)) ∧
    ∃ a cap, wr.heap[w.heap.size + 1]? = some (.cells #[.int .i64 (1 + x), .int .i64 (1 + y), .slice a k cap] 30 (0, 0)) ∧ wr.ownsRow (w.heap.size + 2) 3 1 (.slice a k cap) k (iv (natL (l.take k)))) (fun i _ => n - (intOf i).toNat)
  case atStart => exact ⟨0, Nat.zero_le _, rfl, HK0.out, HE.out.1, none, 0, HE.out.2, ⟨by simp [natL, iv], .inl ⟨rfl, rfl⟩⟩⟩
  case round =>
    obtain ⟨k, hk, rfl, hkr, e0, a, cap, e1, hown⟩ := hrel
    have HKR := Lib.hid hkr
    have HE := Lib.hid (And.intro e0 e1)
    have HO := Lib.hid hown
    have d2 : wr.cell? ⟨w.heap.size + 1, 2, none⟩ = some (.slice a k cap) := cell_heap e1 2 rfl
    by_cases hlt : k < n
    · have hkL : k < l.length := by rw [HN.out]; exact hlt
      obtain ⟨ad, rfl, hbf, hcell⟩ := (H.out.chg hkr (by simp)) k _ (bv_get l k hkL)
      have HTK := Lib.hid (HT.out k hkL)
      have hr : (l[k].toNat : Int) < 256 := by have := l[k].toNat_lt; omega
      have hs2 := lt_of_block e1
      clear hkr hown hbf
      generalize l[k].toNat = b at *
      have hkr1 : Chg [] wr (wr.alloc (.cells #[.int .i64 b] 3)) := (Chg.refl _ _).alloc _
      have hrd : Rd (wr.alloc (.cells #[.int .i64 b] 3)) [wr.heap.size] (some ⟨wr.heap.size, 0, none⟩) [.int .i64 b] := fun j u hu => by
        have hj : j = 0 := by have := (List.getElem?_eq_some_iff.1 hu).1; simp at this; exact this
        subst hj
        simp at hu; subst hu
        exact ⟨_, rfl, by simp, cell_heap (heap_alloc_new _ _) 0 rfl⟩
      have HRD := Lib.hid hrd
      have HK1 := Lib.hid hkr1
      have hnb1 : some (w.heap.size + 1) ≠ (Value.slice a k cap).ownBlock := fun e => by have := own_block_ge HO.out e.symm; omega
      have hnb0 : some w.heap.size ≠ (Value.slice a k cap).ownBlock := fun e => by have := own_block_ge HO.out e.symm; omega
      have HNB := Lib.hid (And.intro hnb0 hnb1)
      have HEB := Lib.hid (And.intro (hkr1.heap e0 (by simp)) (hkr1.heap e1 (by simp)))
      have HOB := Lib.hid (own_chg HO.out hkr1 (by simp))
      clear hrd hkr1 e0 hnb0 hnb1
      have hone : ∀ u ∈ [Value.int .i64 (b : Int)], u.oneCell' = true := by intro u hu; simp at hu; subst hu; rfl
      go_upto_region 6 with (at_builtin; refine wpList_append_rd rfl (.tmp 24) (.tmp 27) 28 rfl (w.heap.size + 2) 3 ii (.int .i64 0) 8 Tryz.underlying28 hii hii0 hii1 hii2 rfl (.slice a k cap) k (iv (natL (l.take k))) rfl HOB.out (some ⟨wr.heap.size, 0, none⟩) 1 1 [wr.heap.size] [.int .i64 b] rfl rfl HRD.out hone (by omega) (by unfold maxLen; omega) (by simp; omega) ?_; intro a3 c3 w3 hown3 hgr3 hat3; have hb3 := grown_heap hgr3 HEB.out.2 HNB.out.2; have hb0 := grown_heap hgr3 HEB.out.1 HNB.out.1; have g2 : w3.cell? ⟨w.heap.size + 1, 2, none⟩ = some (.slice a k cap) := cell_heap hb3 2 rfl; have f2 : w3.frozen? ⟨w.heap.size + 1, 2, none⟩ = false := frozen_of_row _ _ _ _ _ hb3; have HK3 := Lib.hid ((HKR.out.trans HK1.out).grown hgr3 (fun g hg hl => by have := own_block_ge HO.out hg; omega)); have HW3 := Lib.hid (And.intro hb0 (And.intro hb3 hown3)); clear hb3 hb0 hown3 hgr3 hat3)
      have hk4 : Chg [] w (w3.setCell ⟨w.heap.size + 1, 2, none⟩ (.slice a3 (k + 1) c3)) := HK3.out.setCell (fun h => by have h : w.heap.size + 1 < w.heap.size := h; omega) _
      have hb4 := heap_set HW3.out.2.1 2 (.slice a3 (k + 1) c3) rfl
      have hc4 : Chg [w.heap.size + 1] w3 (w3.setCell ⟨w.heap.size + 1, 2, none⟩ (.slice a3 (k + 1) c3)) := (Chg.refl _ _).setCell (fun _ => by simp) _
      have hb5 := hc4.heap HW3.out.1 (by simp)
      have ho4 := own_chg HW3.out.2.2 hc4 (fun g hg hm => by simp at hm; omega)
      rw [← HTK.out] at ho4
      have HF := Lib.hid (And.intro hk4 (And.intro hb5 (And.intro hb4 ho4)))
      clear hk4 hb4 hc4 hb5 ho4
      go_wp2_with fail
      go_roundw
      case rel => exact ⟨k + 1, by omega, by go_num, HF.out.1, HF.out.2.1, a3, c3, HF.out.2.2.1, HF.out.2.2.2⟩
      case measure => simp [intOf]; omega
    · have hkk : k = n := by omega
      subst hkk
      have hE1 := HE.out.2
      have hE0 := HE.out.1
      have c0 : wr.cell? ⟨w.heap.size + 1, 0, none⟩ = some (.int .i64 (1 + x)) := cell_heap hE1 0 rfl
      have c1 : wr.cell? ⟨w.heap.size + 1, 1, none⟩ = some (.int .i64 (1 + y)) := cell_heap hE1 1 rfl
      have z0 : wr.cell? ⟨w.heap.size, 0, none⟩ = some (.int .i64 0) := cell_heap hE0 0 rfl
      have z1 : wr.cell? ⟨w.heap.size, 1, none⟩ = some (.int .i64 0) := cell_heap hE0 1 rfl
      have z2 : wr.cell? ⟨w.heap.size, 2, none⟩ = some (.slice none 0 0) := cell_heap hE0 2 rfl
      have f0 := frozen_of_row wr w.heap.size 0 _ _ hE0
      have f1 := frozen_of_row wr w.heap.size 1 _ _ hE0
      have f2 := frozen_of_row wr w.heap.size 2 _ _ hE0
      clear hE0 hE1 e0 e1 hkr hown
      go_wp2_with fail
      have hta := HTA.out
      simp only [HN.out] at hta
      rw [hta] at HO
      have hb9 := heap_set (heap_set (heap_set HE.out.1 0 (.int .i64 (1 + x)) rfl) 1 (.int .i64 (1 + y)) rfl) 2 (.slice a k cap) rfl
      have hk9 : Chg [w.heap.size] wr (((wr.setCell ⟨w.heap.size, 0, none⟩ (.int .i64 (1 + x))).setCell ⟨w.heap.size, 1, none⟩ (.int .i64 (1 + y))).setCell ⟨w.heap.size, 2, none⟩ (.slice a k cap)) := (((Chg.refl _ _).setCell (fun _ => by simp) _).setCell (fun _ => by simp) _).setCell (fun _ => by simp) _
      generalize ((wr.setCell ⟨w.heap.size, 0, none⟩ (.int .i64 (1 + x))).setCell ⟨w.heap.size, 1, none⟩ (.int .i64 (1 + y))).setCell ⟨w.heap.size, 2, none⟩ (.slice a k cap) = W9 at *
      have r0 : W9.cell? ⟨w.heap.size, 0, none⟩ = some (.int .i64 (1 + x)) := cell_heap hb9 0 rfl
      have r1 : W9.cell? ⟨w.heap.size, 1, none⟩ = some (.int .i64 (1 + y)) := cell_heap hb9 1 rfl
      have r2 : W9.cell? ⟨w.heap.size, 2, none⟩ = some (.slice a k cap) := cell_heap hb9 2 rfl
      have hkk := HKR.out.trans' (U := []) hk9 (by simp) (fun g hg hl => by simp at hg; omega)
      have ho9 := own_chg HO.out hk9 (fun g hg hm => by simp at hm; omega)
      exact bodyPost_ret (v := .agg #[.int .i64 (1 + x), .int .i64 (1 + y), .slice a k cap]) (by simp [results, Tryz.results7, go_sem, r0, r1, r2]) rfl ⟨a, cap, rfl, own_low ho9 (by omega), hkk⟩
end Go.Proofs.YtoionaeimnmcbaaGreatDoor
