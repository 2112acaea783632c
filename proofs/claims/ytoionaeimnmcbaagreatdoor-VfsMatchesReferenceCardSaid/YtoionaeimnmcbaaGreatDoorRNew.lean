/- The reference's New. -/
import Derived.Test.YtoionaeimnmcbaaGreatDoorRMem
import Derived.Test.YtoionaeimnmcbaaGreatDoorVOptN
import Derived.Test.YtoionaeimnmcbaaGreatDoorVAlive
namespace Go.Proofs.YtoionaeimnmcbaaGreatDoor
open Go.RowKit Go.Pax Go.Shelf
set_option maxRecDepth 100000 in
set_option maxHeartbeats 8000000 in
theorem rnew (w : World) (first step : Int) (rot : List Int) (ao : Option Addr) (n c : Nat) (fp : List Nat) (hn : rot.length = n) (hl : n ≤ 17592186044416) (h : Rd w fp ao (iv rot)) (h1 : inOpt first) (h2 : inOpt step) (h3 : ∀ x ∈ rot, 0 ≤ x) :
    Calls Tryz.prog 9 #[.int .i64 first, .int .i64 step, .slice ao n c] w fun e w' => ∃ r O, e = .returned (.tuple #[.pointer (some ⟨r, 0, none⟩), .int .i64 0]) ∧ RAt w' r O (newR first step rot) ∧ (∀ g ∈ O, w.heap.size ≤ g) ∧ Chg [] w w' := by
  obtain ⟨ii, hii, hii0, hii1, hii2⟩ := info_parts Tryz.vinfoI
  have H := Lib.hid h
  have HN := Lib.hid hn
  have H3 := Lib.hid h3
  clear h hn h3
  unfold inOpt at h1 h2
  go_enter Tryz.func9, Tryz.ntmps9
  go_upto_region 4 with (fail)
  go_loopw [8] (fun i wr => ∃ k : Nat, k ≤ n ∧ i = .int .i64 k ∧ wr = w) (fun i _ => n - (intOf i).toNat)
  case atStart => exact ⟨0, Nat.zero_le _, rfl, rfl⟩
  case round =>
    obtain ⟨k, hk, rfl, hwr⟩ := hrel
    obtain rfl := hwr.symm
    by_cases hlt : k < n
    · have hkL : k < rot.length := by rw [HN.out]; exact hlt
      obtain ⟨ad, rfl, _, hcell⟩ := H.out k (.int .i64 rot[k]) (by simp [iv, hkL])
      have hneg := H3.out _ (List.getElem_mem hkL)
      generalize rot[k] = z at *
      go_wp2_with fail
      go_roundw
      case rel => exact ⟨k + 1, by omega, by go_num, trivial⟩
      case measure => simp [intOf]; omega
    · have hkk : k = n := by omega
      subst hkk
      clear hlt
      have hone := iv_one rot
      have hkb : Chg [] w (w.alloc (.cells #[] 3)) := (Chg.refl _ _).alloc _
      have HRB := Lib.hid (H.out.chg hkb (by simp))
      have HL := Lib.hid (show (iv rot).length = k by rw [iv_length]; exact HN.out)
      go_upto_region 9 with (at_builtin; refine wpList_append_rd rfl (.tmp 37) (.tmp 38) 28 rfl w.heap.size 3 ii (.int .i64 0) 8 Tryz.underlying28 hii hii0 hii1 hii2 rfl (.slice (some ⟨w.heap.size, 0, none⟩) 0 0) 0 [] rfl (own_empty (heap_alloc_new _ _) (Nat.le_refl _)) ao k c fp (iv rot) rfl HL.out HRB.out hone (by omega) (by unfold maxLen; omega) (by simp) ?_; intro a1 c1 w1 hown1 hgr1 hat1; have HK1 := Lib.hid (hkb.grown hgr1 (fun g hg hl => by simp [Value.ownBlock] at hg; omega)); have HO1 := Lib.hid hown1; clear hown1 hgr1 hat1)
      simp only [Nat.zero_add, List.nil_append] at HO1
      have k2 : Chg [] w (w1.alloc (.cells #[.int .i64 first, .int .i64 step, .slice a1 k c1, .slice none 0 0, .slice none 0 0, .int .i64 0] 74)) := HK1.out.alloc _
      have e2 : (w1.alloc (.cells #[.int .i64 first, .int .i64 step, .slice a1 k c1, .slice none 0 0, .slice none 0 0, .int .i64 0] 74)).heap[w1.heap.size]? = some (.cells #[.int .i64 first, .int .i64 step, .slice a1 k c1, .slice none 0 0, .slice none 0 0, .int .i64 0] 74 (0, 0)) := heap_alloc_new _ _
      have hO2 := own_chg HO1.out (show Chg [] w1 (w1.alloc (.cells #[.int .i64 first, .int .i64 step, .slice a1 k c1, .slice none 0 0, .slice none 0 0, .int .i64 0] 74)) from (Chg.refl _ _).alloc _) (by simp)
      have hr0 : w.heap.size ≤ w1.heap.size := HK1.out.size
      have hob : ∀ g, (Value.slice a1 k c1).ownBlock = some g → g < w1.heap.size := fun g hg => by
        obtain ⟨cc, hc⟩ := own_blockS HO1.out hg
        exact lt_of_block hc
      have HK2 := Lib.hid k2
      have HE2 := Lib.hid e2
      have HO2 := Lib.hid (And.intro hO2 hob)
      have hs2 : w1.heap.size < (w1.alloc (.cells #[.int .i64 first, .int .i64 step, .slice a1 k c1, .slice none 0 0, .slice none 0 0, .int .i64 0] 74)).heap.size := lt_of_block e2
      clear k2 e2 hO2 hob HK1 HO1
      generalize w1.alloc (.cells #[.int .i64 first, .int .i64 step, .slice a1 k c1, .slice none 0 0, .slice none 0 0, .int .i64 0] 74) = W2 at *
      generalize w1.heap.size = r at *
      have c23 : (W2.alloc (.cells #[.int .i64 0, .int .i64 493, .int .i64 first, .slice none 0 0, .string ⟨#[]⟩, .int .i64 0, .int .i64 0] 76)).cell? ⟨r, 3, none⟩ = some (.slice none 0 0) := cell_heap (heap_keep HE2.out) 3 rfl
      have fz2 : W2.frozen? ⟨r, 3, none⟩ = false := frozen_of_row _ _ _ _ _ HE2.out
      have fz3 := frozen_of_row _ r 3 _ _ (heap_keep (o := .cells #[.int .i64 0, .int .i64 493, .int .i64 first, .slice none 0 0, .string ⟨#[]⟩, .int .i64 0, .int .i64 0] 76) HE2.out)
      have hge : ∀ g, (Value.slice a1 k c1).ownBlock = some g → w.heap.size ≤ g := fun g hg => own_block_ge HO2.out.1 hg
      have HGE := Lib.hid hge
      clear hge
      go_upto_region 10 with (fail)
      have e3 := heap_keep (o := .cells #[.int .i64 0, .int .i64 493, .int .i64 first, .slice none 0 0, .string ⟨#[]⟩, .int .i64 0, .int .i64 0] 76) (heap_set HE2.out 3 (.slice (some ⟨W2.heap.size, 0, none⟩) 1 1) rfl)
      have q3 : ((W2.setCell ⟨r, 3, none⟩ (.slice (some ⟨W2.heap.size, 0, none⟩) 1 1)).alloc (.cells #[.int .i64 0, .int .i64 493, .int .i64 first, .slice none 0 0, .string ⟨#[]⟩, .int .i64 0, .int .i64 0] 76)).heap[W2.heap.size]? = some (.cells #[.int .i64 0, .int .i64 493, .int .i64 first, .slice none 0 0, .string ⟨#[]⟩, .int .i64 0, .int .i64 0] 76 (0, 0)) := heap_new_at (by simp [World.setCell])
      have k3 : Chg [r] W2 ((W2.setCell ⟨r, 3, none⟩ (.slice (some ⟨W2.heap.size, 0, none⟩) 1 1)).alloc (.cells #[.int .i64 0, .int .i64 493, .int .i64 first, .slice none 0 0, .string ⟨#[]⟩, .int .i64 0, .int .i64 0] 76)) := ((Chg.refl [r] W2).setCell (fun _ => by simp) _).alloc _
      have HE3 := Lib.hid (And.intro e3 (And.intro q3 k3))
      clear e3 q3 k3 c23 fz2 fz3
      generalize ((W2.setCell ⟨r, 3, none⟩ (.slice (some ⟨W2.heap.size, 0, none⟩) 1 1)).alloc (.cells #[.int .i64 0, .int .i64 493, .int .i64 first, .slice none 0 0, .string ⟨#[]⟩, .int .i64 0, .int .i64 0] 76)) = W3 at *
      generalize hq : W2.heap.size = q at *
      have hs3 : q < W3.heap.size := lt_of_block HE3.out.2.1
      have c34 : (W3.alloc (.cells #[.string ⟨#[]⟩, .int .i64 0] 78)).cell? ⟨r, 4, none⟩ = some (.slice none 0 0) := cell_heap (heap_keep HE3.out.1) 4 rfl
      have fz3 : W3.frozen? ⟨r, 4, none⟩ = false := frozen_of_row _ _ _ _ _ HE3.out.1
      have fz4 := frozen_of_row _ r 4 _ _ (heap_keep (o := .cells #[.string ⟨#[]⟩, .int .i64 0] 78) HE3.out.1)
      go_upto_region 11 with (fail)
      have e4 := heap_set (heap_keep (o := .cells #[.string ⟨#[]⟩, .int .i64 0] 78) HE3.out.1) 4 (.slice (some ⟨W3.heap.size, 0, none⟩) 1 1) rfl
      have q4 : ((W3.alloc (.cells #[.string ⟨#[]⟩, .int .i64 0] 78)).setCell ⟨r, 4, none⟩ (.slice (some ⟨W3.heap.size, 0, none⟩) 1 1)).heap[W3.heap.size]? = some (.cells #[.string ⟨#[]⟩, .int .i64 0] 78 (0, 0)) := ((Chg.refl [r] (W3.alloc (.cells #[.string ⟨#[]⟩, .int .i64 0] 78))).setCell (fun _ => by simp) _).heap (heap_alloc_new _ _) (by simp; omega)
      have k4 : Chg [r] W3 ((W3.alloc (.cells #[.string ⟨#[]⟩, .int .i64 0] 78)).setCell ⟨r, 4, none⟩ (.slice (some ⟨W3.heap.size, 0, none⟩) 1 1)) := ((Chg.refl [r] W3).alloc _).setCell (fun _ => by simp) _
      have HE4 := Lib.hid (And.intro e4 (And.intro q4 k4))
      clear e4 q4 k4 c34 fz3 fz4
      generalize ((W3.alloc (.cells #[.string ⟨#[]⟩, .int .i64 0] 78)).setCell ⟨r, 4, none⟩ (.slice (some ⟨W3.heap.size, 0, none⟩) 1 1)) = W4 at *
      generalize hp : W3.heap.size = p at *
      have hs4 : p < W4.heap.size := lt_of_block HE4.out.2.1
      go_wp2_with fail
      go_ret2
      obtain ⟨f1, f2, f3⟩ := HE3.out
      obtain ⟨g1, g2, g3⟩ := HE4.out
      obtain ⟨o1, o2⟩ := HO2.out
      have hne : ∀ g, (Value.slice a1 k c1).ownBlock = some g → g ∉ [r] := fun g hg => by have := o2 g hg; simp; omega
      have o3 := own_keepS (own_keepS o1 f3 hne) g3 hne
      have q5 := g3.heap f2 (show q ∉ [r] by simp; omega)
      have hk4 : Chg [] w W4 := (HK2.out.trans' (f3.trans g3) (by simp) (fun x hx hl => by simp at hx; omega))
      refine ⟨r, rfl, r :: q :: p :: (Value.slice a1 k c1).ownBlock.toList, ⟨_, _, _, [(⟨0, 493, first, [], [], 0, 0⟩, .slice none 0 0)], g1, ?_, ?_, rfl, ?_, ?_, ?_, ?_⟩, ?_, hk4⟩
      · exact own_zero o3 (by rw [iv_length]; exact HN.out) 
      · exact ⟨rfl, .inr ⟨q, 1, _, rfl, Nat.zero_le _, q5, Nat.le_refl _, by decide, rfl, rfl⟩⟩
      · exact ⟨rfl, .inr ⟨p, 1, _, rfl, Nat.zero_le _, g2, Nat.le_refl _, by decide, rfl, rfl⟩⟩
      · intro x hx
        simp at hx; subst hx
        exact ⟨rfl, .inl ⟨rfl, rfl⟩⟩
      · refine ⟨by simp, fun g hg => by simp [hg], fun g hg => ?_, fun g hg => ?_, fun x hx g hg => ?_⟩
        · simp [Value.ownBlock] at hg; subst hg; simp
        · simp [Value.ownBlock] at hg; subst hg; simp
        · simp at hx; subst hx; simp [Value.ownBlock] at hg
      · intro g hg
        simp at hg
        rcases hg with rfl | rfl | rfl | hg
        · omega
        · omega
        · omega
        · have := o2 g hg; omega
      · intro g hg
        simp at hg
        rcases hg with rfl | rfl | rfl | hg
        · omega
        · omega
        · omega
        · exact HGE.out g hg
end Go.Proofs.YtoionaeimnmcbaaGreatDoor
