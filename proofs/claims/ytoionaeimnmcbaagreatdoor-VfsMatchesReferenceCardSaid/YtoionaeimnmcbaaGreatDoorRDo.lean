/- paxtarlaw19: RefDo. Printed by wip/gen/genrdo.py. -/
import Derived.Test.YtoionaeimnmcbaaGreatDoorRList
namespace Go.Pax
open Go.RowKit
def refDoE (ρ : RFs) (a : AAct) : Int := if 0 ≤ a.kind ∧ a.kind ≤ 3 then makeRE ρ a.path (mkK a) (mkM a) (mkT a) else if a.kind = 4 then linkRE ρ a.path a.target else if a.kind = 5 then chownRE ρ a.path else 0
def RefNext (ρ : RFs) (a : AAct) (ρ' : RFs) : Prop :=
  if 0 ≤ a.kind ∧ a.kind ≤ 3 then ρ' = madeR ρ a.path (mkK a) (mkM a) (mkD a) (mkT a)
  else if a.kind = 4 then ∃ i, lkF ρ.paths a.target = some i ∧ ρ' = linkedR ρ a.path i
  else if a.kind = 5 then ∃ i, lkF ρ.paths a.path = some i ∧ ρ' = chownedR ρ i a.mode a.data.length
  else ρ' = ρ
end Go.Pax
namespace Go.Proofs.YtoionaeimnmcbaaGreatDoor
open Go.RowKit Go.Pax Go.Shelf
def RefDone (w w' : World) (r : Nat) (O : List Nat) (ρ : RFs) (a : AAct) : Prop :=
  (refDoE ρ a ≠ 0 → Chg [] w w') ∧ (refDoE ρ a = 0 → ∃ ρ', RefNext ρ a ρ' ∧ RTo w w' r O ρ')
theorem RefDone.of {w w1 w' : World} {r : Nat} {O : List Nat} {ρ : RFs} {a : AAct} (k : Chg [] w w1) (h : RefDone w1 w' r O ρ a) : RefDone w w' r O ρ a :=
  ⟨fun hne => k.trans (h.1 hne), fun h0 => by
    obtain ⟨ρ', h1, h2⟩ := h.2 h0
    exact ⟨ρ', h1, RTo.then_ (k.mono (by simp)) (fun g hg => .inl hg) h2⟩⟩
theorem RefDone.chg {w w' : World} {r : Nat} {O : List Nat} {ρ : RFs} {a : AAct} (h : RefDone w w' r O ρ a) : Chg O w w' := by
  by_cases h0 : refDoE ρ a = 0
  · obtain ⟨ρ', _, O', _, k⟩ := h.2 h0
    exact k
  · exact (h.1 h0).mono (by simp)
theorem RefDone.make {w w' : World} {r : Nat} {O : List Nat} {ρ : RFs} {a : AAct} (hk : 0 ≤ a.kind ∧ a.kind ≤ 3) (h1 : makeRE ρ a.path (mkK a) (mkM a) (mkT a) ≠ 0 → Chg [] w w') (h2 : makeRE ρ a.path (mkK a) (mkM a) (mkT a) = 0 → RTo w w' r O (madeR ρ a.path (mkK a) (mkM a) (mkD a) (mkT a))) : RefDone w w' r O ρ a := by
  have e : refDoE ρ a = makeRE ρ a.path (mkK a) (mkM a) (mkT a) := by unfold refDoE; rw [if_pos hk]
  unfold RefDone
  rw [e]
  exact ⟨h1, fun h0 => ⟨_, by unfold RefNext; rw [if_pos hk], h2 h0⟩⟩
set_option maxRecDepth 100000 in
set_option maxHeartbeats 8000000 in
theorem refDo (w : World) (r : Nat) (O : List Nat) (ρ : RFs) (a : AAct) (ao : Option Addr) (dc : Nat) (fp : List Nat) (h : RAt w r O ρ) (hk : ROk ρ) (hp : a.path.length ≤ 140737488355328)
    (ht : a.target.length ≤ 140737488355328) (hd : Rd w fp ao (bv a.data)) (hdl : a.data.length ≤ 140737488355328) :
    Calls Tryz.prog 11 #[.pointer (some ⟨r, 0, none⟩), actV a ao dc] w fun e w' => e = .returned (.int .i64 (refDoE ρ a)) ∧ RefDone w w' r O ρ a := by
  obtain ⟨kind, path, mode, data, target⟩ := a
  simp only at hp ht hd hdl
  unfold actV
  simp only
  have HLT := Lib.hid h.lt
  have cases : kind = 0 ∨ kind = 1 ∨ kind = 2 ∨ kind = 3 ∨ kind = 4 ∨ kind = 5 ∨ (kind ≠ 0 ∧ kind ≠ 1 ∧ kind ≠ 2 ∧ kind ≠ 3 ∧ kind ≠ 4 ∧ kind ≠ 5) := by omega
  have hmk : ∀ (W : World) (k m : Int) (t d : List UInt8) (da : Option Addr) (dc' : Nat) (fp' : List Nat), Chg [] w W → t.length ≤ 140737488355328 → Rd w fp' da (bv d) → d.length ≤ 140737488355328 → Calls Tryz.prog 32 #[.pointer (some ⟨r, 0, none⟩), .int .i64 k, .string (ba path), .int .i64 m, .slice da d.length dc', .string (ba t)] W fun e w' => e = .returned (.int .i64 (makeRE ρ path k m t)) ∧ (makeRE ρ path k m t ≠ 0 → Chg [] W w') ∧ (makeRE ρ path k m t = 0 → RTo W w' r O (madeR ρ path k m d t)) := fun W k m t d da dc' fp' kw ht' hd' hl' => rmake W r O ρ k m path t d da dc' fp' (h.foreign kw (by simp)) hk hp ht' (hd'.chg kw (by simp)) hl'
  have HMK := Lib.hid hmk
  have HLK := Lib.hid (fun W (kw : Chg [] w W) => rlink W r O ρ path target (h.foreign kw (by simp)) hk hp)
  have HCH := Lib.hid (fun W (kw : Chg [] w W) => rchown W r O ρ path mode (data.length : Int) (h.foreign kw (by simp)) hk)
  have HD := Lib.hid hd
  have HAT := Lib.hid h
  clear hmk h hd hk
  rcases cases with rfl | rfl | rfl | rfl | rfl | rfl | ⟨n0, n1, n2, n3, n4, n5⟩
  · have hE : refDoE ρ ⟨0, path, mode, data, target⟩ = makeRE ρ path 0 mode [] := rfl
    rw [hE]
    have hmw : ∀ W, Chg [] w W → _ := fun W kw => HMK.out W 0 mode [] [] none 0 [] kw (by simp) (Rd.nil _ _ _) (by simp)
    have hdone : ∀ W w', (makeRE ρ path 0 mode [] ≠ 0 → Chg [] W w') → (makeRE ρ path 0 mode [] = 0 → RTo W w' r O (madeR ρ path 0 mode [] [])) → RefDone W w' r O ρ ⟨0, path, mode, data, target⟩ := fun W w' h1 h2 => RefDone.make (a := ⟨0, path, mode, data, target⟩) (by show (0 : Int) ≤ 0 ∧ (0 : Int) ≤ 3; omega) h1 h2
    have HDN := Lib.hid hdone
    have HMV := Lib.hid hmw
    clear hE hmw HMK HLK HCH hdone
    rw [show ba [] = (⟨#[]⟩ : ByteArray) from rfl] at HMV
    generalize makeRE ρ path 0 mode [] = E at *
    obtain ⟨P, hP⟩ : ∃ P, P = ba path := ⟨_, rfl⟩
    obtain ⟨T, hT⟩ : ∃ T, T = ba target := ⟨_, rfl⟩
    rw [← hP] at HMV ⊢
    rw [← hT]
    clear hP hT
    go_enter Tryz.func11, Tryz.ntmps11
    go_upto_region 8 with (fail)
    have hk9 : Chg [] w (w.alloc (.cells #[.int .i64 0, .string P, .int .i64 mode, .slice ao data.length dc, .string T] 40)) := (Chg.refl _ _).alloc _
    have e9 : (w.alloc (.cells #[.int .i64 0, .string P, .int .i64 mode, .slice ao data.length dc, .string T] 40)).heap[w.heap.size]? = some (.cells #[.int .i64 0, .string P, .int .i64 mode, .slice ao data.length dc, .string T] 40 (0, 0)) := heap_alloc_new _ _
    have HKW := Lib.hid hk9
    have HE9 := Lib.hid e9
    clear hk9 e9
    generalize w.alloc (.cells #[.int .i64 0, .string P, .int .i64 mode, .slice ao data.length dc, .string T] 40) = W1 at *
    generalize hg9 : w.heap.size = g9 at *
    have hgl : g9 < W1.heap.size := lt_of_block HE9.out
    have HLO := Lib.hid (show g9 ∉ O from fun hm => by have := HLT.out _ hm; omega)
    have HCE := Lib.hid (fun W (k : Chg O W1 W) => And.intro (k.cell (cell_heap HE9.out 0 rfl) HLO.out) (And.intro (k.cell (cell_heap HE9.out 1 rfl) HLO.out) (k.cell (cell_heap HE9.out 2 rfl) HLO.out)))
    have HMW := Lib.hid (fun W (k : Chg [] W1 W) => HMV.out W (HKW.out.trans k))
    refine wp_region_held_drew (S := fun q => q.cell? ⟨g9, 0, none⟩ = some (.int .i64 0) ∧ q.cell? ⟨g9, 1, none⟩ = some (.string P) ∧ q.cell? ⟨g9, 2, none⟩ = some (.int .i64 mode)) (by kernel_rfl) ?_ (fun hHeld => ?_)
    · exact HCE.out _ ((Chg.refl _ _).drew)
    refine wpAnyH_take (i := 0) (oi := ?oi1) (v := ?v1) ?hi1 (by kernel_rfl) (by kernel_rfl) (by kernel_rfl) ?hQ1 (Or.inl ⟨?hw1, ?hy1⟩) (by assumption) ?hr1
    case hi1 => simp only [List.getElem?_toArray, List.getElem?_cons_zero]; rfl
    case hQ1 => exact fun _ _ _ h => h
    case hw1 => rfl
    case hy1 => intro w hSw; (try dsimp only at hSw); go_simp; (try with_reducible rfl)
    case hr1 =>
    simp only [Act.put, List.setIfInBounds_toArray, List.set_cons_zero, List.set_cons_succ]
    refine wpAnyH_take (i := 2) (oi := ?oi2) (v := ?v2) ?hi2 (by kernel_rfl) (by kernel_rfl) (by kernel_rfl) ?hQ2 (Or.inl ⟨?hw2, ?hy2⟩) (by assumption) ?hr2
    case hi2 => simp only [List.getElem?_toArray, List.getElem?_cons_succ, List.getElem?_cons_zero]; rfl
    case hQ2 => exact fun _ _ _ h => h
    case hw2 => rfl
    case hy2 => intro w hSw; (try dsimp only at hSw); go_simp; (try with_reducible rfl)
    case hr2 =>
    simp only [Act.put, List.setIfInBounds_toArray, List.set_cons_zero, List.set_cons_succ]
    refine wpAnyH_take (i := 3) (oi := ?oi3) (v := ?v3) ?hi3 (by kernel_rfl) (by kernel_rfl) (by kernel_rfl) ?hQ3 (Or.inl ⟨?hw3, ?hy3⟩) (by assumption) ?hr3
    case hi3 => simp only [List.getElem?_toArray, List.getElem?_cons_succ, List.getElem?_cons_zero]; rfl
    case hQ3 => exact fun _ _ _ h => h
    case hw3 => rfl
    case hy3 => intro w hSw; (try dsimp only at hSw); go_simp; (try with_reducible rfl)
    case hr3 =>
    simp only [Act.put, List.setIfInBounds_toArray, List.set_cons_zero, List.set_cons_succ]
    refine wpAnyH_take (i := 6) (oi := ?oi4) (v := ?v4) ?hi4 (by kernel_rfl) (by kernel_rfl) (by kernel_rfl) ?hQ4 (Or.inl ⟨?hw4, ?hy4⟩) (by assumption) ?hr4
    case hi4 => simp only [List.getElem?_toArray, List.getElem?_cons_succ, List.getElem?_cons_zero]; rfl
    case hQ4 => exact fun _ _ _ h => h
    case hw4 => rfl
    case hy4 => intro w hSw; (try dsimp only at hSw); go_simp; (try with_reducible rfl)
    case hr4 =>
    simp only [Act.put, List.setIfInBounds_toArray, List.set_cons_zero, List.set_cons_succ]
    refine wpAnyH_take (i := 7) (oi := ?oi5) (v := ?v5) ?hi5 (by kernel_rfl) (by kernel_rfl) (by kernel_rfl) ?hQ5 (Or.inl ⟨?hw5, ?hy5⟩) (by assumption) ?hr5
    case hi5 => simp only [List.getElem?_toArray, List.getElem?_cons_succ, List.getElem?_cons_zero]; rfl
    case hQ5 => exact fun _ _ _ h => h
    case hw5 => rfl
    case hy5 => intro w hSw; (try dsimp only at hSw); go_simp; (try with_reducible rfl)
    case hr5 =>
    simp only [Act.put, List.setIfInBounds_toArray, List.set_cons_zero, List.set_cons_succ]
    refine wpAnyH_take (i := 8) (oi := ?oi6) (v := ?v6) ?hi6 (by kernel_rfl) (by kernel_rfl) (by kernel_rfl) ?hQ6 (Or.inl ⟨?hw6, ?hy6⟩) (by assumption) ?hr6
    case hi6 => simp only [List.getElem?_toArray, List.getElem?_cons_succ, List.getElem?_cons_zero]; rfl
    case hQ6 => exact fun _ _ _ h => h
    case hw6 => rfl
    case hy6 => intro w hSw; (try dsimp only at hSw); go_simp; (try with_reducible rfl)
    case hr6 =>
    simp only [Act.put, List.setIfInBounds_toArray, List.set_cons_zero, List.set_cons_succ]
    refine wpAnyH_take (i := 9) (oi := ?oi7) (v := ?v7) ?hi7 (by kernel_rfl) (by kernel_rfl) (by kernel_rfl) ?hQ7 (Or.inl ⟨?hw7, ?hy7⟩) (by assumption) ?hr7
    case hi7 => simp only [List.getElem?_toArray, List.getElem?_cons_succ, List.getElem?_cons_zero]; rfl
    case hQ7 => exact fun _ _ _ h => h
    case hw7 => rfl
    case hy7 => intro w hSw; (try dsimp only at hSw); go_simp; (try with_reducible rfl)
    case hr7 =>
    simp only [Act.put, List.setIfInBounds_toArray, List.set_cons_zero, List.set_cons_succ]
    refine wpAnyH_take (i := 10) (oi := ?oi8) (v := ?v8) ?hi8 (by kernel_rfl) (by kernel_rfl) (by kernel_rfl) ?hQ8 (Or.inl ⟨?hw8, ?hy8⟩) (by assumption) ?hr8
    case hi8 => simp only [List.getElem?_toArray, List.getElem?_cons_succ, List.getElem?_cons_zero]; rfl
    case hQ8 => exact fun _ _ _ h => h
    case hw8 => rfl
    case hy8 => intro w hSw; (try dsimp only at hSw); go_simp; (try with_reducible rfl)
    case hr8 =>
    simp only [Act.put, List.setIfInBounds_toArray, List.set_cons_zero, List.set_cons_succ]
    refine wpAnyH_ready (rs := [1]) (by kernel_rfl) (by simp) (AllReadyH.cons (o := ?oc9) ?hc9 (fun K hK => ?hs9) AllReadyH.nil)
    case hc9 => simp only [List.getElem?_toArray, List.getElem?_cons_succ, List.getElem?_cons_zero]; rfl
    case hs9 =>
    rw [if_pos (by rfl)]
    go_simp
    
    go_wp2_with fail
    refine hK.out _ _ ?_ (fun hHeld => ?_)
    · exact HCE.out _ ((Chg.refl _ _).drew.alloc _)
    clear hK K
    try simp only [Act.put, List.setIfInBounds_toArray, List.set_cons_zero, List.set_cons_succ]
    refine wpAnyH_weaken (S := fun q => q.cell? ⟨g9, 0, none⟩ = some (.int .i64 0) ∧ q.cell? ⟨g9, 1, none⟩ = some (.string P) ∧ q.cell? ⟨g9, 2, none⟩ = some (.int .i64 mode) ∧ q.cell? ⟨W1.heap.size, 0, none⟩ = some (.int .i64 0)) (fun q h => ⟨h.1, h.2.1, h.2.2.1⟩) ?_
    have hHeld : (fun q => q.cell? ⟨g9, 0, none⟩ = some (.int .i64 0) ∧ q.cell? ⟨g9, 1, none⟩ = some (.string P) ∧ q.cell? ⟨g9, 2, none⟩ = some (.int .i64 mode) ∧ q.cell? ⟨W1.heap.size, 0, none⟩ = some (.int .i64 0)) (W1.drew.alloc (.cells #[.int .i64 0, .int .i64 1, .int .i64 2, .int .i64 4] 3)) := ⟨(HCE.out _ ((Chg.refl _ _).drew.alloc _)).1, (HCE.out _ ((Chg.refl _ _).drew.alloc _)).2.1, (HCE.out _ ((Chg.refl _ _).drew.alloc _)).2.2, cell_heap (heap_alloc_new _ _) 0 rfl⟩
    refine wpAnyH_take (i := 4) (oi := ?oi10) (v := ?v10) ?hi10 (by kernel_rfl) (by kernel_rfl) (by kernel_rfl) ?hQ10 (Or.inl ⟨?hw10, ?hy10⟩) (by assumption) ?hr10
    case hi10 => simp only [List.getElem?_toArray, List.getElem?_cons_succ, List.getElem?_cons_zero]; rfl
    case hQ10 => exact fun _ _ _ h => h
    case hw10 => rfl
    case hy10 => intro w hSw; (try dsimp only at hSw); go_simp; (try with_reducible rfl)
    case hr10 =>
    simp only [Act.put, List.setIfInBounds_toArray, List.set_cons_zero, List.set_cons_succ]
    refine wpAnyH_take (i := 5) (oi := ?oi11) (v := ?v11) ?hi11 (by kernel_rfl) (by kernel_rfl) (by kernel_rfl) ?hQ11 (Or.inl ⟨?hw11, ?hy11⟩) (by assumption) ?hr11
    case hi11 => simp only [List.getElem?_toArray, List.getElem?_cons_succ, List.getElem?_cons_zero]; rfl
    case hQ11 => exact fun _ _ _ h => h
    case hw11 => rfl
    case hy11 => intro w hSw; (try dsimp only at hSw); go_simp; (try with_reducible rfl)
    case hr11 =>
    simp only [Act.put, List.setIfInBounds_toArray, List.set_cons_zero, List.set_cons_succ]
    refine wpAnyH_ready (rs := [11]) (by kernel_rfl) (by simp) (AllReadyH.cons (o := ?oc12) ?hc12 (fun K hK => ?hs12) AllReadyH.nil)
    case hc12 => simp only [List.getElem?_toArray, List.getElem?_cons_succ, List.getElem?_cons_zero]; rfl
    case hs12 =>
    rw [if_pos (by rfl)]
    go_simp
    go_at_call 32; refine (HMW.out _ ((Chg.refl _ _).drew.alloc (.cells #[.int .i64 0, .int .i64 1, .int .i64 2, .int .i64 4] 3))).mono ?_; rintro e w3 ⟨rfl, h1, h2⟩; have HM := Lib.hid (HDN.out _ _ h1 h2); clear h1 h2
    go_wp2_with fail
    refine hK.out _ _ ?_ (fun hHeld => ?_)
    · have hc1 := (((Chg.refl O W1).drew).alloc (.cells #[.int .i64 0, .int .i64 1, .int .i64 2, .int .i64 4] 3)).trans HM.out.chg; exact ⟨(HCE.out _ hc1).1, (HCE.out _ hc1).2.1, (HCE.out _ hc1).2.2, HM.out.chg.cell (cell_heap (heap_alloc_new _ _) 0 rfl) (fun hm => by have h1 : W1.heap.size < g9 := HLT.out _ hm; omega)⟩
    clear hK K
    try simp only [Act.put, List.setIfInBounds_toArray, List.set_cons_zero, List.set_cons_succ]
    refine wpAnyH_take (i := 12) (oi := ?oi13) (v := ?v13) ?hi13 (by kernel_rfl) (by kernel_rfl) (by kernel_rfl) ?hQ13 (Or.inl ⟨?hw13, ?hy13⟩) (by assumption) ?hr13
    case hi13 => simp only [List.getElem?_toArray, List.getElem?_cons_succ, List.getElem?_cons_zero]; rfl
    case hQ13 => exact fun _ _ _ h => h
    case hw13 => rfl
    case hy13 => intro w hSw; (try dsimp only at hSw); go_simp; (try with_reducible rfl)
    case hr13 =>
    simp only [Act.put, List.setIfInBounds_toArray, List.set_cons_zero, List.set_cons_succ]
    refine wpAnyH_done (by kernel_rfl) ?_ _
    go_wp2_with fail
    go_ret
    exact ⟨rfl, RefDone.of (HKW.out.trans ((Chg.refl _ _).drew.alloc _)) HM.out⟩
  · have hE : refDoE ρ ⟨1, path, mode, data, target⟩ = makeRE ρ path 1 mode [] := rfl
    rw [hE]
    have hmw : ∀ W, Chg [] w W → _ := fun W kw => HMK.out W 1 mode [] data ao dc fp kw (by simp) HD.out hdl
    have hdone : ∀ W w', (makeRE ρ path 1 mode [] ≠ 0 → Chg [] W w') → (makeRE ρ path 1 mode [] = 0 → RTo W w' r O (madeR ρ path 1 mode data [])) → RefDone W w' r O ρ ⟨1, path, mode, data, target⟩ := fun W w' h1 h2 => RefDone.make (a := ⟨1, path, mode, data, target⟩) (by show (0 : Int) ≤ 1 ∧ (1 : Int) ≤ 3; omega) h1 h2
    have HDN := Lib.hid hdone
    have HMV := Lib.hid hmw
    clear hE hmw HMK HLK HCH hdone
    rw [show ba [] = (⟨#[]⟩ : ByteArray) from rfl] at HMV
    generalize makeRE ρ path 1 mode [] = E at *
    obtain ⟨P, hP⟩ : ∃ P, P = ba path := ⟨_, rfl⟩
    obtain ⟨T, hT⟩ : ∃ T, T = ba target := ⟨_, rfl⟩
    rw [← hP] at HMV ⊢
    rw [← hT]
    clear hP hT
    go_enter Tryz.func11, Tryz.ntmps11
    go_upto_region 8 with (fail)
    have hk9 : Chg [] w (w.alloc (.cells #[.int .i64 1, .string P, .int .i64 mode, .slice ao data.length dc, .string T] 40)) := (Chg.refl _ _).alloc _
    have e9 : (w.alloc (.cells #[.int .i64 1, .string P, .int .i64 mode, .slice ao data.length dc, .string T] 40)).heap[w.heap.size]? = some (.cells #[.int .i64 1, .string P, .int .i64 mode, .slice ao data.length dc, .string T] 40 (0, 0)) := heap_alloc_new _ _
    have HKW := Lib.hid hk9
    have HE9 := Lib.hid e9
    clear hk9 e9
    generalize w.alloc (.cells #[.int .i64 1, .string P, .int .i64 mode, .slice ao data.length dc, .string T] 40) = W1 at *
    generalize hg9 : w.heap.size = g9 at *
    have hgl : g9 < W1.heap.size := lt_of_block HE9.out
    have HLO := Lib.hid (show g9 ∉ O from fun hm => by have := HLT.out _ hm; omega)
    have HCE := Lib.hid (fun W (k : Chg O W1 W) => And.intro (k.cell (cell_heap HE9.out 0 rfl) HLO.out) (And.intro (k.cell (cell_heap HE9.out 1 rfl) HLO.out) (k.cell (cell_heap HE9.out 2 rfl) HLO.out)))
    have HMW := Lib.hid (fun W (k : Chg [] W1 W) => HMV.out W (HKW.out.trans k))
    refine wp_region_held_drew (S := fun q => q.cell? ⟨g9, 0, none⟩ = some (.int .i64 1) ∧ q.cell? ⟨g9, 1, none⟩ = some (.string P) ∧ q.cell? ⟨g9, 2, none⟩ = some (.int .i64 mode)) (by kernel_rfl) ?_ (fun hHeld => ?_)
    · exact HCE.out _ ((Chg.refl _ _).drew)
    refine wpAnyH_take (i := 0) (oi := ?oi14) (v := ?v14) ?hi14 (by kernel_rfl) (by kernel_rfl) (by kernel_rfl) ?hQ14 (Or.inl ⟨?hw14, ?hy14⟩) (by assumption) ?hr14
    case hi14 => simp only [List.getElem?_toArray, List.getElem?_cons_zero]; rfl
    case hQ14 => exact fun _ _ _ h => h
    case hw14 => rfl
    case hy14 => intro w hSw; (try dsimp only at hSw); go_simp; (try with_reducible rfl)
    case hr14 =>
    simp only [Act.put, List.setIfInBounds_toArray, List.set_cons_zero, List.set_cons_succ]
    refine wpAnyH_take (i := 2) (oi := ?oi15) (v := ?v15) ?hi15 (by kernel_rfl) (by kernel_rfl) (by kernel_rfl) ?hQ15 (Or.inl ⟨?hw15, ?hy15⟩) (by assumption) ?hr15
    case hi15 => simp only [List.getElem?_toArray, List.getElem?_cons_succ, List.getElem?_cons_zero]; rfl
    case hQ15 => exact fun _ _ _ h => h
    case hw15 => rfl
    case hy15 => intro w hSw; (try dsimp only at hSw); go_simp; (try with_reducible rfl)
    case hr15 =>
    simp only [Act.put, List.setIfInBounds_toArray, List.set_cons_zero, List.set_cons_succ]
    refine wpAnyH_take (i := 3) (oi := ?oi16) (v := ?v16) ?hi16 (by kernel_rfl) (by kernel_rfl) (by kernel_rfl) ?hQ16 (Or.inl ⟨?hw16, ?hy16⟩) (by assumption) ?hr16
    case hi16 => simp only [List.getElem?_toArray, List.getElem?_cons_succ, List.getElem?_cons_zero]; rfl
    case hQ16 => exact fun _ _ _ h => h
    case hw16 => rfl
    case hy16 => intro w hSw; (try dsimp only at hSw); go_simp; (try with_reducible rfl)
    case hr16 =>
    simp only [Act.put, List.setIfInBounds_toArray, List.set_cons_zero, List.set_cons_succ]
    refine wpAnyH_take (i := 6) (oi := ?oi17) (v := ?v17) ?hi17 (by kernel_rfl) (by kernel_rfl) (by kernel_rfl) ?hQ17 (Or.inl ⟨?hw17, ?hy17⟩) (by assumption) ?hr17
    case hi17 => simp only [List.getElem?_toArray, List.getElem?_cons_succ, List.getElem?_cons_zero]; rfl
    case hQ17 => exact fun _ _ _ h => h
    case hw17 => rfl
    case hy17 => intro w hSw; (try dsimp only at hSw); go_simp; (try with_reducible rfl)
    case hr17 =>
    simp only [Act.put, List.setIfInBounds_toArray, List.set_cons_zero, List.set_cons_succ]
    refine wpAnyH_take (i := 7) (oi := ?oi18) (v := ?v18) ?hi18 (by kernel_rfl) (by kernel_rfl) (by kernel_rfl) ?hQ18 (Or.inl ⟨?hw18, ?hy18⟩) (by assumption) ?hr18
    case hi18 => simp only [List.getElem?_toArray, List.getElem?_cons_succ, List.getElem?_cons_zero]; rfl
    case hQ18 => exact fun _ _ _ h => h
    case hw18 => rfl
    case hy18 => intro w hSw; (try dsimp only at hSw); go_simp; (try with_reducible rfl)
    case hr18 =>
    simp only [Act.put, List.setIfInBounds_toArray, List.set_cons_zero, List.set_cons_succ]
    refine wpAnyH_take (i := 8) (oi := ?oi19) (v := ?v19) ?hi19 (by kernel_rfl) (by kernel_rfl) (by kernel_rfl) ?hQ19 (Or.inl ⟨?hw19, ?hy19⟩) (by assumption) ?hr19
    case hi19 => simp only [List.getElem?_toArray, List.getElem?_cons_succ, List.getElem?_cons_zero]; rfl
    case hQ19 => exact fun _ _ _ h => h
    case hw19 => rfl
    case hy19 => intro w hSw; (try dsimp only at hSw); go_simp; (try with_reducible rfl)
    case hr19 =>
    simp only [Act.put, List.setIfInBounds_toArray, List.set_cons_zero, List.set_cons_succ]
    refine wpAnyH_take (i := 9) (oi := ?oi20) (v := ?v20) ?hi20 (by kernel_rfl) (by kernel_rfl) (by kernel_rfl) ?hQ20 (Or.inl ⟨?hw20, ?hy20⟩) (by assumption) ?hr20
    case hi20 => simp only [List.getElem?_toArray, List.getElem?_cons_succ, List.getElem?_cons_zero]; rfl
    case hQ20 => exact fun _ _ _ h => h
    case hw20 => rfl
    case hy20 => intro w hSw; (try dsimp only at hSw); go_simp; (try with_reducible rfl)
    case hr20 =>
    simp only [Act.put, List.setIfInBounds_toArray, List.set_cons_zero, List.set_cons_succ]
    refine wpAnyH_take (i := 10) (oi := ?oi21) (v := ?v21) ?hi21 (by kernel_rfl) (by kernel_rfl) (by kernel_rfl) ?hQ21 (Or.inl ⟨?hw21, ?hy21⟩) (by assumption) ?hr21
    case hi21 => simp only [List.getElem?_toArray, List.getElem?_cons_succ, List.getElem?_cons_zero]; rfl
    case hQ21 => exact fun _ _ _ h => h
    case hw21 => rfl
    case hy21 => intro w hSw; (try dsimp only at hSw); go_simp; (try with_reducible rfl)
    case hr21 =>
    simp only [Act.put, List.setIfInBounds_toArray, List.set_cons_zero, List.set_cons_succ]
    refine wpAnyH_ready (rs := [1]) (by kernel_rfl) (by simp) (AllReadyH.cons (o := ?oc22) ?hc22 (fun K hK => ?hs22) AllReadyH.nil)
    case hc22 => simp only [List.getElem?_toArray, List.getElem?_cons_succ, List.getElem?_cons_zero]; rfl
    case hs22 =>
    rw [if_pos (by rfl)]
    go_simp
    
    go_wp2_with fail
    refine hK.out _ _ ?_ (fun hHeld => ?_)
    · exact HCE.out _ ((Chg.refl _ _).drew.alloc _)
    clear hK K
    try simp only [Act.put, List.setIfInBounds_toArray, List.set_cons_zero, List.set_cons_succ]
    refine wpAnyH_weaken (S := fun q => q.cell? ⟨g9, 0, none⟩ = some (.int .i64 1) ∧ q.cell? ⟨g9, 1, none⟩ = some (.string P) ∧ q.cell? ⟨g9, 2, none⟩ = some (.int .i64 mode) ∧ q.cell? ⟨W1.heap.size, 1, none⟩ = some (.int .i64 1)) (fun q h => ⟨h.1, h.2.1, h.2.2.1⟩) ?_
    have hHeld : (fun q => q.cell? ⟨g9, 0, none⟩ = some (.int .i64 1) ∧ q.cell? ⟨g9, 1, none⟩ = some (.string P) ∧ q.cell? ⟨g9, 2, none⟩ = some (.int .i64 mode) ∧ q.cell? ⟨W1.heap.size, 1, none⟩ = some (.int .i64 1)) (W1.drew.alloc (.cells #[.int .i64 0, .int .i64 1, .int .i64 2, .int .i64 4] 3)) := ⟨(HCE.out _ ((Chg.refl _ _).drew.alloc _)).1, (HCE.out _ ((Chg.refl _ _).drew.alloc _)).2.1, (HCE.out _ ((Chg.refl _ _).drew.alloc _)).2.2, cell_heap (heap_alloc_new _ _) 1 rfl⟩
    refine wpAnyH_take (i := 4) (oi := ?oi23) (v := ?v23) ?hi23 (by kernel_rfl) (by kernel_rfl) (by kernel_rfl) ?hQ23 (Or.inl ⟨?hw23, ?hy23⟩) (by assumption) ?hr23
    case hi23 => simp only [List.getElem?_toArray, List.getElem?_cons_succ, List.getElem?_cons_zero]; rfl
    case hQ23 => exact fun _ _ _ h => h
    case hw23 => rfl
    case hy23 => intro w hSw; (try dsimp only at hSw); go_simp; (try with_reducible rfl)
    case hr23 =>
    simp only [Act.put, List.setIfInBounds_toArray, List.set_cons_zero, List.set_cons_succ]
    refine wpAnyH_take (i := 5) (oi := ?oi24) (v := ?v24) ?hi24 (by kernel_rfl) (by kernel_rfl) (by kernel_rfl) ?hQ24 (Or.inl ⟨?hw24, ?hy24⟩) (by assumption) ?hr24
    case hi24 => simp only [List.getElem?_toArray, List.getElem?_cons_succ, List.getElem?_cons_zero]; rfl
    case hQ24 => exact fun _ _ _ h => h
    case hw24 => rfl
    case hy24 => intro w hSw; (try dsimp only at hSw); go_simp; (try with_reducible rfl)
    case hr24 =>
    simp only [Act.put, List.setIfInBounds_toArray, List.set_cons_zero, List.set_cons_succ]
    refine wpAnyH_ready (rs := [11]) (by kernel_rfl) (by simp) (AllReadyH.cons (o := ?oc25) ?hc25 (fun K hK => ?hs25) AllReadyH.nil)
    case hc25 => simp only [List.getElem?_toArray, List.getElem?_cons_succ, List.getElem?_cons_zero]; rfl
    case hs25 =>
    rw [if_pos (by rfl)]
    go_simp
    go_at_call 32; refine (HMW.out _ ((Chg.refl _ _).drew.alloc (.cells #[.int .i64 0, .int .i64 1, .int .i64 2, .int .i64 4] 3))).mono ?_; rintro e w3 ⟨rfl, h1, h2⟩; have HM := Lib.hid (HDN.out _ _ h1 h2); clear h1 h2
    go_wp2_with fail
    refine hK.out _ _ ?_ (fun hHeld => ?_)
    · have hc1 := (((Chg.refl O W1).drew).alloc (.cells #[.int .i64 0, .int .i64 1, .int .i64 2, .int .i64 4] 3)).trans HM.out.chg; exact ⟨(HCE.out _ hc1).1, (HCE.out _ hc1).2.1, (HCE.out _ hc1).2.2, HM.out.chg.cell (cell_heap (heap_alloc_new _ _) 1 rfl) (fun hm => by have h1 : W1.heap.size < g9 := HLT.out _ hm; omega)⟩
    clear hK K
    try simp only [Act.put, List.setIfInBounds_toArray, List.set_cons_zero, List.set_cons_succ]
    refine wpAnyH_take (i := 12) (oi := ?oi26) (v := ?v26) ?hi26 (by kernel_rfl) (by kernel_rfl) (by kernel_rfl) ?hQ26 (Or.inl ⟨?hw26, ?hy26⟩) (by assumption) ?hr26
    case hi26 => simp only [List.getElem?_toArray, List.getElem?_cons_succ, List.getElem?_cons_zero]; rfl
    case hQ26 => exact fun _ _ _ h => h
    case hw26 => rfl
    case hy26 => intro w hSw; (try dsimp only at hSw); go_simp; (try with_reducible rfl)
    case hr26 =>
    simp only [Act.put, List.setIfInBounds_toArray, List.set_cons_zero, List.set_cons_succ]
    refine wpAnyH_done (by kernel_rfl) ?_ _
    go_wp2_with fail
    go_ret
    exact ⟨rfl, RefDone.of (HKW.out.trans ((Chg.refl _ _).drew.alloc _)) HM.out⟩
  · have hE : refDoE ρ ⟨2, path, mode, data, target⟩ = makeRE ρ path 2 511 target := rfl
    rw [hE]
    have hmw : ∀ W, Chg [] w W → _ := fun W kw => HMK.out W 2 511 target [] none 0 [] kw ht (Rd.nil _ _ _) (by simp)
    have hdone : ∀ W w', Chg [] w W → (makeRE ρ path 2 511 target ≠ 0 → Chg [] W w') → (makeRE ρ path 2 511 target = 0 → RTo W w' r O (madeR ρ path 2 511 [] target)) → RefDone w w' r O ρ ⟨2, path, mode, data, target⟩ := fun W w' k h1 h2 => RefDone.of k (RefDone.make (a := ⟨2, path, mode, data, target⟩) (by show (0 : Int) ≤ 2 ∧ (2 : Int) ≤ 3; omega) h1 h2)
    have HMV := Lib.hid hmw
    have HDN := Lib.hid hdone
    clear hE hmw hdone HMK HLK HCH
    generalize makeRE ρ path 2 511 target = E at *
    generalize ba path = P at *
    generalize ba target = T at *
    generalize data.length = DL at *
    go_enter Tryz.func11, Tryz.ntmps11
    go_wp2_with (go_at_call 32; refine (HMV.out _ ((Chg.refl _ _).alloc _)).mono ?_; rintro e w3 ⟨rfl, h1, h2⟩; have HM := Lib.hid (And.intro h1 h2); clear h1 h2)
    go_ret
    exact ⟨rfl, HDN.out _ _ ((Chg.refl _ _).alloc _) HM.out.1 HM.out.2⟩
  · have hE : refDoE ρ ⟨3, path, mode, data, target⟩ = makeRE ρ path 4 mode [] := rfl
    rw [hE]
    have hmw : ∀ W, Chg [] w W → _ := fun W kw => HMK.out W 4 mode [] [] none 0 [] kw (by simp) (Rd.nil _ _ _) (by simp)
    have hdone : ∀ W w', (makeRE ρ path 4 mode [] ≠ 0 → Chg [] W w') → (makeRE ρ path 4 mode [] = 0 → RTo W w' r O (madeR ρ path 4 mode [] [])) → RefDone W w' r O ρ ⟨3, path, mode, data, target⟩ := fun W w' h1 h2 => RefDone.make (a := ⟨3, path, mode, data, target⟩) (by show (0 : Int) ≤ 3 ∧ (3 : Int) ≤ 3; omega) h1 h2
    have HDN := Lib.hid hdone
    have HMV := Lib.hid hmw
    clear hE hmw HMK HLK HCH hdone
    rw [show ba [] = (⟨#[]⟩ : ByteArray) from rfl] at HMV
    generalize makeRE ρ path 4 mode [] = E at *
    obtain ⟨P, hP⟩ : ∃ P, P = ba path := ⟨_, rfl⟩
    obtain ⟨T, hT⟩ : ∃ T, T = ba target := ⟨_, rfl⟩
    rw [← hP] at HMV ⊢
    rw [← hT]
    clear hP hT
    go_enter Tryz.func11, Tryz.ntmps11
    go_upto_region 8 with (fail)
    have hk9 : Chg [] w (w.alloc (.cells #[.int .i64 3, .string P, .int .i64 mode, .slice ao data.length dc, .string T] 40)) := (Chg.refl _ _).alloc _
    have e9 : (w.alloc (.cells #[.int .i64 3, .string P, .int .i64 mode, .slice ao data.length dc, .string T] 40)).heap[w.heap.size]? = some (.cells #[.int .i64 3, .string P, .int .i64 mode, .slice ao data.length dc, .string T] 40 (0, 0)) := heap_alloc_new _ _
    have HKW := Lib.hid hk9
    have HE9 := Lib.hid e9
    clear hk9 e9
    generalize w.alloc (.cells #[.int .i64 3, .string P, .int .i64 mode, .slice ao data.length dc, .string T] 40) = W1 at *
    generalize hg9 : w.heap.size = g9 at *
    have hgl : g9 < W1.heap.size := lt_of_block HE9.out
    have HLO := Lib.hid (show g9 ∉ O from fun hm => by have := HLT.out _ hm; omega)
    have HCE := Lib.hid (fun W (k : Chg O W1 W) => And.intro (k.cell (cell_heap HE9.out 0 rfl) HLO.out) (And.intro (k.cell (cell_heap HE9.out 1 rfl) HLO.out) (k.cell (cell_heap HE9.out 2 rfl) HLO.out)))
    have HMW := Lib.hid (fun W (k : Chg [] W1 W) => HMV.out W (HKW.out.trans k))
    refine wp_region_held_drew (S := fun q => q.cell? ⟨g9, 0, none⟩ = some (.int .i64 3) ∧ q.cell? ⟨g9, 1, none⟩ = some (.string P) ∧ q.cell? ⟨g9, 2, none⟩ = some (.int .i64 mode)) (by kernel_rfl) ?_ (fun hHeld => ?_)
    · exact HCE.out _ ((Chg.refl _ _).drew)
    refine wpAnyH_take (i := 0) (oi := ?oi27) (v := ?v27) ?hi27 (by kernel_rfl) (by kernel_rfl) (by kernel_rfl) ?hQ27 (Or.inl ⟨?hw27, ?hy27⟩) (by assumption) ?hr27
    case hi27 => simp only [List.getElem?_toArray, List.getElem?_cons_zero]; rfl
    case hQ27 => exact fun _ _ _ h => h
    case hw27 => rfl
    case hy27 => intro w hSw; (try dsimp only at hSw); go_simp; (try with_reducible rfl)
    case hr27 =>
    simp only [Act.put, List.setIfInBounds_toArray, List.set_cons_zero, List.set_cons_succ]
    refine wpAnyH_take (i := 2) (oi := ?oi28) (v := ?v28) ?hi28 (by kernel_rfl) (by kernel_rfl) (by kernel_rfl) ?hQ28 (Or.inl ⟨?hw28, ?hy28⟩) (by assumption) ?hr28
    case hi28 => simp only [List.getElem?_toArray, List.getElem?_cons_succ, List.getElem?_cons_zero]; rfl
    case hQ28 => exact fun _ _ _ h => h
    case hw28 => rfl
    case hy28 => intro w hSw; (try dsimp only at hSw); go_simp; (try with_reducible rfl)
    case hr28 =>
    simp only [Act.put, List.setIfInBounds_toArray, List.set_cons_zero, List.set_cons_succ]
    refine wpAnyH_take (i := 3) (oi := ?oi29) (v := ?v29) ?hi29 (by kernel_rfl) (by kernel_rfl) (by kernel_rfl) ?hQ29 (Or.inl ⟨?hw29, ?hy29⟩) (by assumption) ?hr29
    case hi29 => simp only [List.getElem?_toArray, List.getElem?_cons_succ, List.getElem?_cons_zero]; rfl
    case hQ29 => exact fun _ _ _ h => h
    case hw29 => rfl
    case hy29 => intro w hSw; (try dsimp only at hSw); go_simp; (try with_reducible rfl)
    case hr29 =>
    simp only [Act.put, List.setIfInBounds_toArray, List.set_cons_zero, List.set_cons_succ]
    refine wpAnyH_take (i := 6) (oi := ?oi30) (v := ?v30) ?hi30 (by kernel_rfl) (by kernel_rfl) (by kernel_rfl) ?hQ30 (Or.inl ⟨?hw30, ?hy30⟩) (by assumption) ?hr30
    case hi30 => simp only [List.getElem?_toArray, List.getElem?_cons_succ, List.getElem?_cons_zero]; rfl
    case hQ30 => exact fun _ _ _ h => h
    case hw30 => rfl
    case hy30 => intro w hSw; (try dsimp only at hSw); go_simp; (try with_reducible rfl)
    case hr30 =>
    simp only [Act.put, List.setIfInBounds_toArray, List.set_cons_zero, List.set_cons_succ]
    refine wpAnyH_take (i := 7) (oi := ?oi31) (v := ?v31) ?hi31 (by kernel_rfl) (by kernel_rfl) (by kernel_rfl) ?hQ31 (Or.inl ⟨?hw31, ?hy31⟩) (by assumption) ?hr31
    case hi31 => simp only [List.getElem?_toArray, List.getElem?_cons_succ, List.getElem?_cons_zero]; rfl
    case hQ31 => exact fun _ _ _ h => h
    case hw31 => rfl
    case hy31 => intro w hSw; (try dsimp only at hSw); go_simp; (try with_reducible rfl)
    case hr31 =>
    simp only [Act.put, List.setIfInBounds_toArray, List.set_cons_zero, List.set_cons_succ]
    refine wpAnyH_take (i := 8) (oi := ?oi32) (v := ?v32) ?hi32 (by kernel_rfl) (by kernel_rfl) (by kernel_rfl) ?hQ32 (Or.inl ⟨?hw32, ?hy32⟩) (by assumption) ?hr32
    case hi32 => simp only [List.getElem?_toArray, List.getElem?_cons_succ, List.getElem?_cons_zero]; rfl
    case hQ32 => exact fun _ _ _ h => h
    case hw32 => rfl
    case hy32 => intro w hSw; (try dsimp only at hSw); go_simp; (try with_reducible rfl)
    case hr32 =>
    simp only [Act.put, List.setIfInBounds_toArray, List.set_cons_zero, List.set_cons_succ]
    refine wpAnyH_take (i := 9) (oi := ?oi33) (v := ?v33) ?hi33 (by kernel_rfl) (by kernel_rfl) (by kernel_rfl) ?hQ33 (Or.inl ⟨?hw33, ?hy33⟩) (by assumption) ?hr33
    case hi33 => simp only [List.getElem?_toArray, List.getElem?_cons_succ, List.getElem?_cons_zero]; rfl
    case hQ33 => exact fun _ _ _ h => h
    case hw33 => rfl
    case hy33 => intro w hSw; (try dsimp only at hSw); go_simp; (try with_reducible rfl)
    case hr33 =>
    simp only [Act.put, List.setIfInBounds_toArray, List.set_cons_zero, List.set_cons_succ]
    refine wpAnyH_take (i := 10) (oi := ?oi34) (v := ?v34) ?hi34 (by kernel_rfl) (by kernel_rfl) (by kernel_rfl) ?hQ34 (Or.inl ⟨?hw34, ?hy34⟩) (by assumption) ?hr34
    case hi34 => simp only [List.getElem?_toArray, List.getElem?_cons_succ, List.getElem?_cons_zero]; rfl
    case hQ34 => exact fun _ _ _ h => h
    case hw34 => rfl
    case hy34 => intro w hSw; (try dsimp only at hSw); go_simp; (try with_reducible rfl)
    case hr34 =>
    simp only [Act.put, List.setIfInBounds_toArray, List.set_cons_zero, List.set_cons_succ]
    refine wpAnyH_ready (rs := [1]) (by kernel_rfl) (by simp) (AllReadyH.cons (o := ?oc35) ?hc35 (fun K hK => ?hs35) AllReadyH.nil)
    case hc35 => simp only [List.getElem?_toArray, List.getElem?_cons_succ, List.getElem?_cons_zero]; rfl
    case hs35 =>
    rw [if_pos (by rfl)]
    go_simp
    
    go_wp2_with fail
    refine hK.out _ _ ?_ (fun hHeld => ?_)
    · exact HCE.out _ ((Chg.refl _ _).drew.alloc _)
    clear hK K
    try simp only [Act.put, List.setIfInBounds_toArray, List.set_cons_zero, List.set_cons_succ]
    refine wpAnyH_weaken (S := fun q => q.cell? ⟨g9, 0, none⟩ = some (.int .i64 3) ∧ q.cell? ⟨g9, 1, none⟩ = some (.string P) ∧ q.cell? ⟨g9, 2, none⟩ = some (.int .i64 mode) ∧ q.cell? ⟨W1.heap.size, 3, none⟩ = some (.int .i64 4)) (fun q h => ⟨h.1, h.2.1, h.2.2.1⟩) ?_
    have hHeld : (fun q => q.cell? ⟨g9, 0, none⟩ = some (.int .i64 3) ∧ q.cell? ⟨g9, 1, none⟩ = some (.string P) ∧ q.cell? ⟨g9, 2, none⟩ = some (.int .i64 mode) ∧ q.cell? ⟨W1.heap.size, 3, none⟩ = some (.int .i64 4)) (W1.drew.alloc (.cells #[.int .i64 0, .int .i64 1, .int .i64 2, .int .i64 4] 3)) := ⟨(HCE.out _ ((Chg.refl _ _).drew.alloc _)).1, (HCE.out _ ((Chg.refl _ _).drew.alloc _)).2.1, (HCE.out _ ((Chg.refl _ _).drew.alloc _)).2.2, cell_heap (heap_alloc_new _ _) 3 rfl⟩
    refine wpAnyH_take (i := 4) (oi := ?oi36) (v := ?v36) ?hi36 (by kernel_rfl) (by kernel_rfl) (by kernel_rfl) ?hQ36 (Or.inl ⟨?hw36, ?hy36⟩) (by assumption) ?hr36
    case hi36 => simp only [List.getElem?_toArray, List.getElem?_cons_succ, List.getElem?_cons_zero]; rfl
    case hQ36 => exact fun _ _ _ h => h
    case hw36 => rfl
    case hy36 => intro w hSw; (try dsimp only at hSw); go_simp; (try with_reducible rfl)
    case hr36 =>
    simp only [Act.put, List.setIfInBounds_toArray, List.set_cons_zero, List.set_cons_succ]
    refine wpAnyH_take (i := 5) (oi := ?oi37) (v := ?v37) ?hi37 (by kernel_rfl) (by kernel_rfl) (by kernel_rfl) ?hQ37 (Or.inl ⟨?hw37, ?hy37⟩) (by assumption) ?hr37
    case hi37 => simp only [List.getElem?_toArray, List.getElem?_cons_succ, List.getElem?_cons_zero]; rfl
    case hQ37 => exact fun _ _ _ h => h
    case hw37 => rfl
    case hy37 => intro w hSw; (try dsimp only at hSw); go_simp; (try with_reducible rfl)
    case hr37 =>
    simp only [Act.put, List.setIfInBounds_toArray, List.set_cons_zero, List.set_cons_succ]
    refine wpAnyH_ready (rs := [11]) (by kernel_rfl) (by simp) (AllReadyH.cons (o := ?oc38) ?hc38 (fun K hK => ?hs38) AllReadyH.nil)
    case hc38 => simp only [List.getElem?_toArray, List.getElem?_cons_succ, List.getElem?_cons_zero]; rfl
    case hs38 =>
    rw [if_pos (by rfl)]
    go_simp
    go_at_call 32; refine (HMW.out _ ((Chg.refl _ _).drew.alloc (.cells #[.int .i64 0, .int .i64 1, .int .i64 2, .int .i64 4] 3))).mono ?_; rintro e w3 ⟨rfl, h1, h2⟩; have HM := Lib.hid (HDN.out _ _ h1 h2); clear h1 h2
    go_wp2_with fail
    refine hK.out _ _ ?_ (fun hHeld => ?_)
    · have hc1 := (((Chg.refl O W1).drew).alloc (.cells #[.int .i64 0, .int .i64 1, .int .i64 2, .int .i64 4] 3)).trans HM.out.chg; exact ⟨(HCE.out _ hc1).1, (HCE.out _ hc1).2.1, (HCE.out _ hc1).2.2, HM.out.chg.cell (cell_heap (heap_alloc_new _ _) 3 rfl) (fun hm => by have h1 : W1.heap.size < g9 := HLT.out _ hm; omega)⟩
    clear hK K
    try simp only [Act.put, List.setIfInBounds_toArray, List.set_cons_zero, List.set_cons_succ]
    refine wpAnyH_take (i := 12) (oi := ?oi39) (v := ?v39) ?hi39 (by kernel_rfl) (by kernel_rfl) (by kernel_rfl) ?hQ39 (Or.inl ⟨?hw39, ?hy39⟩) (by assumption) ?hr39
    case hi39 => simp only [List.getElem?_toArray, List.getElem?_cons_succ, List.getElem?_cons_zero]; rfl
    case hQ39 => exact fun _ _ _ h => h
    case hw39 => rfl
    case hy39 => intro w hSw; (try dsimp only at hSw); go_simp; (try with_reducible rfl)
    case hr39 =>
    simp only [Act.put, List.setIfInBounds_toArray, List.set_cons_zero, List.set_cons_succ]
    refine wpAnyH_done (by kernel_rfl) ?_ _
    go_wp2_with fail
    go_ret
    exact ⟨rfl, RefDone.of (HKW.out.trans ((Chg.refl _ _).drew.alloc _)) HM.out⟩
  · have hE : refDoE ρ ⟨4, path, mode, data, target⟩ = linkRE ρ path target := rfl
    have hdone : ∀ W w', Chg [] w W → (linkRE ρ path target ≠ 0 → Chg [] W w') → (linkRE ρ path target = 0 → ∃ i, lkF ρ.paths target = some i ∧ RTo W w' r O (linkedR ρ path i)) → RefDone w w' r O ρ ⟨4, path, mode, data, target⟩ := fun W w' k h1 h2 => RefDone.of k ⟨fun hne => h1 hne, fun h0 => by
      obtain ⟨i, hi, hto⟩ := h2 h0
      exact ⟨_, (by unfold RefNext; rw [if_neg (by simp only; decide), if_pos rfl]; exact ⟨i, hi, rfl⟩), hto⟩⟩
    have HDN := Lib.hid hdone
    rw [hE]
    clear hE hdone
    generalize linkRE ρ path target = E at *
    generalize ba path = P at *
    generalize ba target = T at *
    generalize data.length = DL at *
    go_enter Tryz.func11, Tryz.ntmps11
    go_wp2_with (go_at_call 33; refine (HLK.out _ ((Chg.refl _ _).alloc _)).mono ?_; rintro e w3 ⟨rfl, h1, h2⟩; have HM := Lib.hid (And.intro h1 h2); clear h1 h2)
    go_ret
    exact ⟨rfl, HDN.out _ _ ((Chg.refl _ _).alloc _) HM.out.1 HM.out.2⟩
  · have hE : refDoE ρ ⟨5, path, mode, data, target⟩ = chownRE ρ path := rfl
    have hdone : ∀ W w', Chg [] w W → (chownRE ρ path ≠ 0 → Chg [] W w') → (chownRE ρ path = 0 → ∃ i, lkF ρ.paths path = some i ∧ RTo W w' r O (chownedR ρ i mode data.length)) → RefDone w w' r O ρ ⟨5, path, mode, data, target⟩ := fun W w' k h1 h2 => RefDone.of k ⟨fun hne => h1 hne, fun h0 => by
      obtain ⟨i, hi, hto⟩ := h2 h0
      exact ⟨_, (by unfold RefNext; rw [if_neg (by simp only; decide), if_neg (by simp only; decide), if_pos rfl]; exact ⟨i, hi, rfl⟩), hto⟩⟩
    have HDN := Lib.hid hdone
    rw [hE]
    clear hE hdone
    generalize chownRE ρ path = E at *
    generalize ba path = P at *
    generalize ba target = T at *
    generalize data.length = DL at *
    go_enter Tryz.func11, Tryz.ntmps11
    go_wp2_with (go_at_call 34; refine (HCH.out _ ((Chg.refl _ _).alloc _)).mono ?_; rintro e w3 ⟨rfl, h1, h2⟩; have HM := Lib.hid (And.intro h1 h2); clear h1 h2)
    go_ret
    exact ⟨rfl, HDN.out _ _ ((Chg.refl _ _).alloc _) HM.out.1 HM.out.2⟩
  · have hE : refDoE ρ ⟨kind, path, mode, data, target⟩ = 0 := by
      unfold refDoE
      simp only
      rw [if_neg (by omega), if_neg n4, if_neg n5]
    have hN : RefNext ρ ⟨kind, path, mode, data, target⟩ ρ := by
      unfold RefNext
      rw [if_neg (by simp only; omega), if_neg n4, if_neg n5]
    have HE := Lib.hid (And.intro hE hN)
    rw [hE]
    have b0 : (kind == 0) = false := by simpa using n0
    have b1 : (kind == 1) = false := by simpa using n1
    have b2 : (kind == 2) = false := by simpa using n2
    have b3 : (kind == 3) = false := by simpa using n3
    have b4 : (kind == 4) = false := by simpa using n4
    have b5 : (kind == 5) = false := by simpa using n5
    clear hE hN n0 n1 n2 n3 n4 n5
    go_enter Tryz.func11, Tryz.ntmps11
    go_wp2_with fail
    go_ret
    refine ⟨rfl, fun h => absurd HE.out.1 h, fun _ => ⟨ρ, HE.out.2, O, ⟨HAT.out.foreign ((Chg.refl [] w).alloc _) (fun g _ => by simp), fun g hg => .inl hg⟩, (Chg.refl O w).alloc _⟩⟩
end Go.Proofs.YtoionaeimnmcbaaGreatDoor
