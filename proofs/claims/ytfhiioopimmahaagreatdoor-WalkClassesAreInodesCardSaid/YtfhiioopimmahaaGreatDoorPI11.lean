/- paxtarlaw19: RefDo. Printed by wip/gen/genrdo.py. The file system and its reference stay alike. -/
import Derived.Test.YtfhiioopimmahaaGreatDoorPI10
namespace Go.Pax
open Go.RowKit
def refDoE (ρ : RFs) (a : AAct) : Int := if 0 ≤ a.kind ∧ a.kind ≤ 3 then makeRE ρ a.path (mkK a) (mkM a) (mkT a) else if a.kind = 4 then linkRE ρ a.path a.target else if a.kind = 5 then chownRE ρ a.path else 0
def RefNext (ρ : RFs) (a : AAct) (ρ' : RFs) : Prop :=
  if 0 ≤ a.kind ∧ a.kind ≤ 3 then ρ' = madeR ρ a.path (mkK a) (mkM a) (mkD a) (mkT a)
  else if a.kind = 4 then ∃ i, lkF ρ.paths a.target = some i ∧ ρ' = linkedR ρ a.path i
  else if a.kind = 5 then ∃ i, lkF ρ.paths a.path = some i ∧ ρ' = chownedR ρ i a.mode a.data.length
  else ρ' = ρ
end Go.Pax
namespace Go.Proofs.YtfhiioopimmahaaGreatDoor
open Go.RowKit Go.Pax Go.Shelf
def RefDone (w w' : World) (r : Nat) (O : List Nat) (ρ : RFs) (a : AAct) : Prop :=
  (refDoE ρ a ≠ 0 → Chg [] w w') ∧ (refDoE ρ a = 0 → ∃ ρ', RefNext ρ a ρ' ∧ RTo w w' r O ρ')
theorem RefDone.of {w w1 w' : World} {r : Nat} {O : List Nat} {ρ : RFs} {a : AAct} (k : Chg [] w w1) (h : RefDone w1 w' r O ρ a) : RefDone w w' r O ρ a :=
  ⟨fun hne => k.trans (h.1 hne), fun h0 => by
    obtain ⟨ρ', h1, h2⟩ := h.2 h0
    exact ⟨ρ', h1, RTo.then_ (k.mono (by simp)) (fun g hg => .inl hg) h2⟩⟩
theorem RefDone.chg {w w' : World} {r : Nat} {O : List Nat} {ρ : RFs} {a : AAct} (h : RefDone w w' r O ρ a) : Chg O w w' := by
  by_cases h0 : refDoE ρ a = 0
  · obtain ⟨ρ', _, O', _, k⟩ := h.2 h0
    exact k
  · exact (h.1 h0).mono (by simp)
theorem RefDone.make {w w' : World} {r : Nat} {O : List Nat} {ρ : RFs} {a : AAct} (hk : 0 ≤ a.kind ∧ a.kind ≤ 3) (h1 : makeRE ρ a.path (mkK a) (mkM a) (mkT a) ≠ 0 → Chg [] w w') (h2 : makeRE ρ a.path (mkK a) (mkM a) (mkT a) = 0 → RTo w w' r O (madeR ρ a.path (mkK a) (mkM a) (mkD a) (mkT a))) : RefDone w w' r O ρ a := by
  have e : refDoE ρ a = makeRE ρ a.path (mkK a) (mkM a) (mkT a) := by unfold refDoE; rw [if_pos hk]
  unfold RefDone
  rw [e]
  exact ⟨h1, fun h0 => ⟨_, by unfold RefNext; rw [if_pos hk], h2 h0⟩⟩
set_option maxRecDepth 100000 in
set_option maxHeartbeats 8000000 in
theorem refDo (w : World) (r : Nat) (O : List Nat) (ρ : RFs) (a : AAct) (ao : Option Addr) (dc : Nat) (fp : List Nat) (h : RAt w r O ρ) (hk : ROk ρ) (hp : a.path.length ≤ 140737488355328)
    (ht : a.target.length ≤ 140737488355328) (hd : Rd w fp ao (bv a.data)) (hdl : a.data.length ≤ 140737488355328) :
    Calls Tryz.prog 31 #[.pointer (some ⟨r, 0, none⟩), actV a ao dc] w fun e w' => e = .returned (.int .i64 (refDoE ρ a)) ∧ RefDone w w' r O ρ a := by
  obtain ⟨kind, path, mode, data, target⟩ := a
  simp only at hp ht hd hdl
  unfold actV
  simp only
  have HLT := Lib.hid h.lt
  have cases : kind = 0 ∨ kind = 1 ∨ kind = 2 ∨ kind = 3 ∨ kind = 4 ∨ kind = 5 ∨ (kind ≠ 0 ∧ kind ≠ 1 ∧ kind ≠ 2 ∧ kind ≠ 3 ∧ kind ≠ 4 ∧ kind ≠ 5) := by omega
  have hmk : ∀ (W : World) (k m : Int) (t d : List UInt8) (da : Option Addr) (dc' : Nat) (fp' : List Nat), Chg [] w W → t.length ≤ 140737488355328 → Rd w fp' da (bv d) → d.length ≤ 140737488355328 → Calls Tryz.prog 52 #[.pointer (some ⟨r, 0, none⟩), .int .i64 k, .string (ba path), .int .i64 m, .slice da d.length dc', .string (ba t)] W fun e w' => e = .returned (.int .i64 (makeRE ρ path k m t)) ∧ (makeRE ρ path k m t ≠ 0 → Chg [] W w') ∧ (makeRE ρ path k m t = 0 → RTo W w' r O (madeR ρ path k m d t)) := fun W k m t d da dc' fp' kw ht' hd' hl' => rmake W r O ρ k m path t d da dc' fp' (h.foreign kw (by simp)) hk hp ht' (hd'.chg kw (by simp)) hl'
  have HMK := Lib.hid hmk
  have HLK := Lib.hid (fun W (kw : Chg [] w W) => rlink W r O ρ path target (h.foreign kw (by simp)) hk hp)
  have HCH := Lib.hid (fun W (kw : Chg [] w W) => rchown W r O ρ path mode (data.length : Int) (h.foreign kw (by simp)) hk)
  have HD := Lib.hid hd
  have HAT := Lib.hid h
  clear hmk h hd hk
  rcases cases with rfl | rfl | rfl | rfl | rfl | rfl | ⟨n0, n1, n2, n3, n4, n5⟩
  · have hE : refDoE ρ ⟨0, path, mode, data, target⟩ = makeRE ρ path 0 mode [] := rfl
    rw [hE]
    have hmw : ∀ W, Chg [] w W → _ := fun W kw => HMK.out W 0 mode [] [] none 0 [] kw (by simp) (Rd.nil _ _ _) (by simp)
    have hdone : ∀ W w', (makeRE ρ path 0 mode [] ≠ 0 → Chg [] W w') → (makeRE ρ path 0 mode [] = 0 → RTo W w' r O (madeR ρ path 0 mode [] [])) → RefDone W w' r O ρ ⟨0, path, mode, data, target⟩ := fun W w' h1 h2 => RefDone.make (a := ⟨0, path, mode, data, target⟩) (by show (0 : Int) ≤ 0 ∧ (0 : Int) ≤ 3; omega) h1 h2
    have HDN := Lib.hid hdone
    have HMV := Lib.hid hmw
    clear hE hmw HMK HLK HCH hdone
    rw [show ba [] = (⟨#[]⟩ : ByteArray) from rfl] at HMV
    generalize makeRE ρ path 0 mode [] = E at *
    obtain ⟨P, hP⟩ : ∃ P, P = ba path := ⟨_, rfl⟩
    obtain ⟨T, hT⟩ : ∃ T, T = ba target := ⟨_, rfl⟩
    rw [← hP] at HMV ⊢
    rw [← hT]
    clear hP hT
    go_enter Tryz.func31, Tryz.ntmps31
    go_upto_region 8 with (fail)
    have hk9 : Chg [] w (w.alloc (.cells #[.int .i64 0, .string P, .int .i64 mode, .slice ao data.length dc, .string T] 53)) := (Chg.refl _ _).alloc _
    have e9 : (w.alloc (.cells #[.int .i64 0, .string P, .int .i64 mode, .slice ao data.length dc, .string T] 53)).heap[w.heap.size]? = some (.cells #[.int .i64 0, .string P, .int .i64 mode, .slice ao data.length dc, .string T] 53 (0, 0)) := heap_alloc_new _ _
    have HKW := Lib.hid hk9
    have HE9 := Lib.hid e9
    clear hk9 e9
    generalize w.alloc (.cells #[.int .i64 0, .string P, .int .i64 mode, .slice ao data.length dc, .string T] 53) = W1 at *
    generalize hg9 : w.heap.size = g9 at *
    have hgl : g9 < W1.heap.size := lt_of_block HE9.out
    have HLO := Lib.hid (show g9 ∉ O from fun hm => by have := HLT.out _ hm; omega)
    have HCE := Lib.hid (fun W (k : Chg O W1 W) => And.intro (k.cell (cell_heap HE9.out 0 rfl) HLO.out) (And.intro (k.cell (cell_heap HE9.out 1 rfl) HLO.out) (k.cell (cell_heap HE9.out 2 rfl) HLO.out)))
    have HMW := Lib.hid (fun W (k : Chg [] W1 W) => HMV.out W (HKW.out.trans k))
    refine wp_region_held_drew (S := fun q => q.cell? ⟨g9, 0, none⟩ = some (.int .i64 0) ∧ q.cell? ⟨g9, 1, none⟩ = some (.string P) ∧ q.cell? ⟨g9, 2, none⟩ = some (.int .i64 mode)) (by kernel_rfl) ?_ (fun hHeld => ?_)
    · exact HCE.out _ ((Chg.refl _ _).drew)
    refine wpAnyH_take (i := 0) (oi := ?oi1) (v := ?v1) ?hi1 (by kernel_rfl) (by kernel_rfl) (by kernel_rfl) ?hQ1 (Or.inl ⟨?hw1, ?hy1⟩) (by assumption) ?hr1
    case hi1 => simp only [List.getElem?_toArray, List.getElem?_cons_zero]; rfl
    case hQ1 => exact fun _ _ _ h => h
    case hw1 => rfl
    case hy1 => intro w hSw; (try dsimp only at hSw); go_simp; (try with_reducible rfl)
    case hr1 =>
    simp only [Act.put, List.setIfInBounds_toArray, List.set_cons_zero, List.set_cons_succ]
    refine wpAnyH_take (i := 2) (oi := ?oi2) (v := ?v2) ?hi2 (by kernel_rfl) (by kernel_rfl) (by kernel_rfl) ?hQ2 (Or.inl ⟨?hw2, ?hy2⟩) (by assumption) ?hr2
    case hi2 => simp only [List.getElem?_toArray, List.getElem?_cons_succ, List.getElem?_cons_zero]; rfl
    case hQ2 => exact fun _ _ _ h => h
    case hw2 => rfl
    case hy2 => intro w hSw; (try dsimp only at hSw); go_simp; (try with_reducible rfl)
    case hr2 =>
    simp only [Act.put, List.setIfInBounds_toArray, List.set_cons_zero, List.set_cons_succ]
    refine wpAnyH_take (i := 3) (oi := ?oi3) (v := ?v3) ?hi3 (by kernel_rfl) (by kernel_rfl) (by kernel_rfl) ?hQ3 (Or.inl ⟨?hw3, ?hy3⟩) (by assumption) ?hr3
    case hi3 => simp only [List.getElem?_toArray, List.getElem?_cons_succ, List.getElem?_cons_zero]; rfl
    case hQ3 => exact fun _ _ _ h => h
    case hw3 => rfl
    case hy3 => intro w hSw; (try dsimp only at hSw); go_simp; (try with_reducible rfl)
    case hr3 =>
    simp only [Act.put, List.setIfInBounds_toArray, List.set_cons_zero, List.set_cons_succ]
    refine wpAnyH_take (i := 6) (oi := ?oi4) (v := ?v4) ?hi4 (by kernel_rfl) (by kernel_rfl) (by kernel_rfl) ?hQ4 (Or.inl ⟨?hw4, ?hy4⟩) (by assumption) ?hr4
    case hi4 => simp only [List.getElem?_toArray, List.getElem?_cons_succ, List.getElem?_cons_zero]; rfl
    case hQ4 => exact fun _ _ _ h => h
    case hw4 => rfl
    case hy4 => intro w hSw; (try dsimp only at hSw); go_simp; (try with_reducible rfl)
    case hr4 =>
    simp only [Act.put, List.setIfInBounds_toArray, List.set_cons_zero, List.set_cons_succ]
    refine wpAnyH_take (i := 7) (oi := ?oi5) (v := ?v5) ?hi5 (by kernel_rfl) (by kernel_rfl) (by kernel_rfl) ?hQ5 (Or.inl ⟨?hw5, ?hy5⟩) (by assumption) ?hr5
    case hi5 => simp only [List.getElem?_toArray, List.getElem?_cons_succ, List.getElem?_cons_zero]; rfl
    case hQ5 => exact fun _ _ _ h => h
    case hw5 => rfl
    case hy5 => intro w hSw; (try dsimp only at hSw); go_simp; (try with_reducible rfl)
    case hr5 =>
    simp only [Act.put, List.setIfInBounds_toArray, List.set_cons_zero, List.set_cons_succ]
    refine wpAnyH_take (i := 8) (oi := ?oi6) (v := ?v6) ?hi6 (by kernel_rfl) (by kernel_rfl) (by kernel_rfl) ?hQ6 (Or.inl ⟨?hw6, ?hy6⟩) (by assumption) ?hr6
    case hi6 => simp only [List.getElem?_toArray, List.getElem?_cons_succ, List.getElem?_cons_zero]; rfl
    case hQ6 => exact fun _ _ _ h => h
    case hw6 => rfl
    case hy6 => intro w hSw; (try dsimp only at hSw); go_simp; (try with_reducible rfl)
    case hr6 =>
    simp only [Act.put, List.setIfInBounds_toArray, List.set_cons_zero, List.set_cons_succ]
    refine wpAnyH_take (i := 9) (oi := ?oi7) (v := ?v7) ?hi7 (by kernel_rfl) (by kernel_rfl) (by kernel_rfl) ?hQ7 (Or.inl ⟨?hw7, ?hy7⟩) (by assumption) ?hr7
    case hi7 => simp only [List.getElem?_toArray, List.getElem?_cons_succ, List.getElem?_cons_zero]; rfl
    case hQ7 => exact fun _ _ _ h => h
    case hw7 => rfl
    case hy7 => intro w hSw; (try dsimp only at hSw); go_simp; (try with_reducible rfl)
    case hr7 =>
    simp only [Act.put, List.setIfInBounds_toArray, List.set_cons_zero, List.set_cons_succ]
    refine wpAnyH_take (i := 10) (oi := ?oi8) (v := ?v8) ?hi8 (by kernel_rfl) (by kernel_rfl) (by kernel_rfl) ?hQ8 (Or.inl ⟨?hw8, ?hy8⟩) (by assumption) ?hr8
    case hi8 => simp only [List.getElem?_toArray, List.getElem?_cons_succ, List.getElem?_cons_zero]; rfl
    case hQ8 => exact fun _ _ _ h => h
    case hw8 => rfl
    case hy8 => intro w hSw; (try dsimp only at hSw); go_simp; (try with_reducible rfl)
    case hr8 =>
    simp only [Act.put, List.setIfInBounds_toArray, List.set_cons_zero, List.set_cons_succ]
    refine wpAnyH_ready (rs := [1]) (by kernel_rfl) (by simp) (AllReadyH.cons (o := ?oc9) ?hc9 (fun K hK => ?hs9) AllReadyH.nil)
    case hc9 => simp only [List.getElem?_toArray, List.getElem?_cons_succ, List.getElem?_cons_zero]; rfl
    case hs9 =>
    rw [if_pos (by rfl)]
    go_simp
    
    go_wp2_with fail
    refine hK.out _ _ ?_ (fun hHeld => ?_)
    · exact HCE.out _ ((Chg.refl _ _).drew.alloc _)
    clear hK K
    try simp only [Act.put, List.setIfInBounds_toArray, List.set_cons_zero, List.set_cons_succ]
    refine wpAnyH_weaken (S := fun q => q.cell? ⟨g9, 0, none⟩ = some (.int .i64 0) ∧ q.cell? ⟨g9, 1, none⟩ = some (.string P) ∧ q.cell? ⟨g9, 2, none⟩ = some (.int .i64 mode) ∧ q.cell? ⟨W1.heap.size, 0, none⟩ = some (.int .i64 0)) (fun q h => ⟨h.1, h.2.1, h.2.2.1⟩) ?_
    have hHeld : (fun q => q.cell? ⟨g9, 0, none⟩ = some (.int .i64 0) ∧ q.cell? ⟨g9, 1, none⟩ = some (.string P) ∧ q.cell? ⟨g9, 2, none⟩ = some (.int .i64 mode) ∧ q.cell? ⟨W1.heap.size, 0, none⟩ = some (.int .i64 0)) (W1.drew.alloc (.cells #[.int .i64 0, .int .i64 1, .int .i64 2, .int .i64 4] 3)) := ⟨(HCE.out _ ((Chg.refl _ _).drew.alloc _)).1, (HCE.out _ ((Chg.refl _ _).drew.alloc _)).2.1, (HCE.out _ ((Chg.refl _ _).drew.alloc _)).2.2, cell_heap (heap_alloc_new _ _) 0 rfl⟩
    refine wpAnyH_take (i := 4) (oi := ?oi10) (v := ?v10) ?hi10 (by kernel_rfl) (by kernel_rfl) (by kernel_rfl) ?hQ10 (Or.inl ⟨?hw10, ?hy10⟩) (by assumption) ?hr10
    case hi10 => simp only [List.getElem?_toArray, List.getElem?_cons_succ, List.getElem?_cons_zero]; rfl
    case hQ10 => exact fun _ _ _ h => h
    case hw10 => rfl
    case hy10 => intro w hSw; (try dsimp only at hSw); go_simp; (try with_reducible rfl)
    case hr10 =>
    simp only [Act.put, List.setIfInBounds_toArray, List.set_cons_zero, List.set_cons_succ]
    refine wpAnyH_take (i := 5) (oi := ?oi11) (v := ?v11) ?hi11 (by kernel_rfl) (by kernel_rfl) (by kernel_rfl) ?hQ11 (Or.inl ⟨?hw11, ?hy11⟩) (by assumption) ?hr11
    case hi11 => simp only [List.getElem?_toArray, List.getElem?_cons_succ, List.getElem?_cons_zero]; rfl
    case hQ11 => exact fun _ _ _ h => h
    case hw11 => rfl
    case hy11 => intro w hSw; (try dsimp only at hSw); go_simp; (try with_reducible rfl)
    case hr11 =>
    simp only [Act.put, List.setIfInBounds_toArray, List.set_cons_zero, List.set_cons_succ]
    refine wpAnyH_ready (rs := [11]) (by kernel_rfl) (by simp) (AllReadyH.cons (o := ?oc12) ?hc12 (fun K hK => ?hs12) AllReadyH.nil)
    case hc12 => simp only [List.getElem?_toArray, List.getElem?_cons_succ, List.getElem?_cons_zero]; rfl
    case hs12 =>
    rw [if_pos (by rfl)]
    go_simp
    go_at_call 52; refine (HMW.out _ ((Chg.refl _ _).drew.alloc (.cells #[.int .i64 0, .int .i64 1, .int .i64 2, .int .i64 4] 3))).mono ?_; rintro e w3 ⟨rfl, h1, h2⟩; have HM := Lib.hid (HDN.out _ _ h1 h2); clear h1 h2
    go_wp2_with fail
    refine hK.out _ _ ?_ (fun hHeld => ?_)
    · have hc1 := (((Chg.refl O W1).drew).alloc (.cells #[.int .i64 0, .int .i64 1, .int .i64 2, .int .i64 4] 3)).trans HM.out.chg; exact ⟨(HCE.out _ hc1).1, (HCE.out _ hc1).2.1, (HCE.out _ hc1).2.2, HM.out.chg.cell (cell_heap (heap_alloc_new _ _) 0 rfl) (fun hm => by have h1 : W1.heap.size < g9 := HLT.out _ hm; omega)⟩
    clear hK K
    try simp only [Act.put, List.setIfInBounds_toArray, List.set_cons_zero, List.set_cons_succ]
    refine wpAnyH_take (i := 12) (oi := ?oi13) (v := ?v13) ?hi13 (by kernel_rfl) (by kernel_rfl) (by kernel_rfl) ?hQ13 (Or.inl ⟨?hw13, ?hy13⟩) (by assumption) ?hr13
    case hi13 => simp only [List.getElem?_toArray, List.getElem?_cons_succ, List.getElem?_cons_zero]; rfl
    case hQ13 => exact fun _ _ _ h => h
    case hw13 => rfl
    case hy13 => intro w hSw; (try dsimp only at hSw); go_simp; (try with_reducible rfl)
    case hr13 =>
    simp only [Act.put, List.setIfInBounds_toArray, List.set_cons_zero, List.set_cons_succ]
    refine wpAnyH_done (by kernel_rfl) ?_ _
    go_wp2_with fail
    go_ret
    exact ⟨rfl, RefDone.of (HKW.out.trans ((Chg.refl _ _).drew.alloc _)) HM.out⟩
  · have hE : refDoE ρ ⟨1, path, mode, data, target⟩ = makeRE ρ path 1 mode [] := rfl
    rw [hE]
    have hmw : ∀ W, Chg [] w W → _ := fun W kw => HMK.out W 1 mode [] data ao dc fp kw (by simp) HD.out hdl
    have hdone : ∀ W w', (makeRE ρ path 1 mode [] ≠ 0 → Chg [] W w') → (makeRE ρ path 1 mode [] = 0 → RTo W w' r O (madeR ρ path 1 mode data [])) → RefDone W w' r O ρ ⟨1, path, mode, data, target⟩ := fun W w' h1 h2 => RefDone.make (a := ⟨1, path, mode, data, target⟩) (by show (0 : Int) ≤ 1 ∧ (1 : Int) ≤ 3; omega) h1 h2
    have HDN := Lib.hid hdone
    have HMV := Lib.hid hmw
    clear hE hmw HMK HLK HCH hdone
    rw [show ba [] = (⟨#[]⟩ : ByteArray) from rfl] at HMV
    generalize makeRE ρ path 1 mode [] = E at *
    obtain ⟨P, hP⟩ : ∃ P, P = ba path := ⟨_, rfl⟩
    obtain ⟨T, hT⟩ : ∃ T, T = ba target := ⟨_, rfl⟩
    rw [← hP] at HMV ⊢
    rw [← hT]
    clear hP hT
    go_enter Tryz.func31, Tryz.ntmps31
    go_upto_region 8 with (fail)
    have hk9 : Chg [] w (w.alloc (.cells #[.int .i64 1, .string P, .int .i64 mode, .slice ao data.length dc, .string T] 53)) := (Chg.refl _ _).alloc _
    have e9 : (w.alloc (.cells #[.int .i64 1, .string P, .int .i64 mode, .slice ao data.length dc, .string T] 53)).heap[w.heap.size]? = some (.cells #[.int .i64 1, .string P, .int .i64 mode, .slice ao data.length dc, .string T] 53 (0, 0)) := heap_alloc_new _ _
    have HKW := Lib.hid hk9
    have HE9 := Lib.hid e9
    clear hk9 e9
    generalize w.alloc (.cells #[.int .i64 1, .string P, .int .i64 mode, .slice ao data.length dc, .string T] 53) = W1 at *
    generalize hg9 : w.heap.size = g9 at *
    have hgl : g9 < W1.heap.size := lt_of_block HE9.out
    have HLO := Lib.hid (show g9 ∉ O from fun hm => by have := HLT.out _ hm; omega)
    have HCE := Lib.hid (fun W (k : Chg O W1 W) => And.intro (k.cell (cell_heap HE9.out 0 rfl) HLO.out) (And.intro (k.cell (cell_heap HE9.out 1 rfl) HLO.out) (k.cell (cell_heap HE9.out 2 rfl) HLO.out)))
    have HMW := Lib.hid (fun W (k : Chg [] W1 W) => HMV.out W (HKW.out.trans k))
    refine wp_region_held_drew (S := fun q => q.cell? ⟨g9, 0, none⟩ = some (.int .i64 1) ∧ q.cell? ⟨g9, 1, none⟩ = some (.string P) ∧ q.cell? ⟨g9, 2, none⟩ = some (.int .i64 mode)) (by kernel_rfl) ?_ (fun hHeld => ?_)
    · exact HCE.out _ ((Chg.refl _ _).drew)
    refine wpAnyH_take (i := 0) (oi := ?oi14) (v := ?v14) ?hi14 (by kernel_rfl) (by kernel_rfl) (by kernel_rfl) ?hQ14 (Or.inl ⟨?hw14, ?hy14⟩) (by assumption) ?hr14
    case hi14 => simp only [List.getElem?_toArray, List.getElem?_cons_zero]; rfl
    case hQ14 => exact fun _ _ _ h => h
    case hw14 => rfl
    case hy14 => intro w hSw; (try dsimp only at hSw); go_simp; (try with_reducible rfl)
    case hr14 =>
    simp only [Act.put, List.setIfInBounds_toArray, List.set_cons_zero, List.set_cons_succ]
    refine wpAnyH_take (i := 2) (oi := ?oi15) (v := ?v15) ?hi15 (by kernel_rfl) (by kernel_rfl) (by kernel_rfl) ?hQ15 (Or.inl ⟨?hw15, ?hy15⟩) (by assumption) ?hr15
    case hi15 => simp only [List.getElem?_toArray, List.getElem?_cons_succ, List.getElem?_cons_zero]; rfl
    case hQ15 => exact fun _ _ _ h => h
    case hw15 => rfl
    case hy15 => intro w hSw; (try dsimp only at hSw); go_simp; (try with_reducible rfl)
    case hr15 =>
    simp only [Act.put, List.setIfInBounds_toArray, List.set_cons_zero, List.set_cons_succ]
    refine wpAnyH_take (i := 3) (oi := ?oi16) (v := ?v16) ?hi16 (by kernel_rfl) (by kernel_rfl) (by kernel_rfl) ?hQ16 (Or.inl ⟨?hw16, ?hy16⟩) (by assumption) ?hr16
    case hi16 => simp only [List.getElem?_toArray, List.getElem?_cons_succ, List.getElem?_cons_zero]; rfl
    case hQ16 => exact fun _ _ _ h => h
    case hw16 => rfl
    case hy16 => intro w hSw; (try dsimp only at hSw); go_simp; (try with_reducible rfl)
    case hr16 =>
    simp only [Act.put, List.setIfInBounds_toArray, List.set_cons_zero, List.set_cons_succ]
    refine wpAnyH_take (i := 6) (oi := ?oi17) (v := ?v17) ?hi17 (by kernel_rfl) (by kernel_rfl) (by kernel_rfl) ?hQ17 (Or.inl ⟨?hw17, ?hy17⟩) (by assumption) ?hr17
    case hi17 => simp only [List.getElem?_toArray, List.getElem?_cons_succ, List.getElem?_cons_zero]; rfl
    case hQ17 => exact fun _ _ _ h => h
    case hw17 => rfl
    case hy17 => intro w hSw; (try dsimp only at hSw); go_simp; (try with_reducible rfl)
    case hr17 =>
    simp only [Act.put, List.setIfInBounds_toArray, List.set_cons_zero, List.set_cons_succ]
    refine wpAnyH_take (i := 7) (oi := ?oi18) (v := ?v18) ?hi18 (by kernel_rfl) (by kernel_rfl) (by kernel_rfl) ?hQ18 (Or.inl ⟨?hw18, ?hy18⟩) (by assumption) ?hr18
    case hi18 => simp only [List.getElem?_toArray, List.getElem?_cons_succ, List.getElem?_cons_zero]; rfl
    case hQ18 => exact fun _ _ _ h => h
    case hw18 => rfl
    case hy18 => intro w hSw; (try dsimp only at hSw); go_simp; (try with_reducible rfl)
    case hr18 =>
    simp only [Act.put, List.setIfInBounds_toArray, List.set_cons_zero, List.set_cons_succ]
    refine wpAnyH_take (i := 8) (oi := ?oi19) (v := ?v19) ?hi19 (by kernel_rfl) (by kernel_rfl) (by kernel_rfl) ?hQ19 (Or.inl ⟨?hw19, ?hy19⟩) (by assumption) ?hr19
    case hi19 => simp only [List.getElem?_toArray, List.getElem?_cons_succ, List.getElem?_cons_zero]; rfl
    case hQ19 => exact fun _ _ _ h => h
    case hw19 => rfl
    case hy19 => intro w hSw; (try dsimp only at hSw); go_simp; (try with_reducible rfl)
    case hr19 =>
    simp only [Act.put, List.setIfInBounds_toArray, List.set_cons_zero, List.set_cons_succ]
    refine wpAnyH_take (i := 9) (oi := ?oi20) (v := ?v20) ?hi20 (by kernel_rfl) (by kernel_rfl) (by kernel_rfl) ?hQ20 (Or.inl ⟨?hw20, ?hy20⟩) (by assumption) ?hr20
    case hi20 => simp only [List.getElem?_toArray, List.getElem?_cons_succ, List.getElem?_cons_zero]; rfl
    case hQ20 => exact fun _ _ _ h => h
    case hw20 => rfl
    case hy20 => intro w hSw; (try dsimp only at hSw); go_simp; (try with_reducible rfl)
    case hr20 =>
    simp only [Act.put, List.setIfInBounds_toArray, List.set_cons_zero, List.set_cons_succ]
    refine wpAnyH_take (i := 10) (oi := ?oi21) (v := ?v21) ?hi21 (by kernel_rfl) (by kernel_rfl) (by kernel_rfl) ?hQ21 (Or.inl ⟨?hw21, ?hy21⟩) (by assumption) ?hr21
    case hi21 => simp only [List.getElem?_toArray, List.getElem?_cons_succ, List.getElem?_cons_zero]; rfl
    case hQ21 => exact fun _ _ _ h => h
    case hw21 => rfl
    case hy21 => intro w hSw; (try dsimp only at hSw); go_simp; (try with_reducible rfl)
    case hr21 =>
    simp only [Act.put, List.setIfInBounds_toArray, List.set_cons_zero, List.set_cons_succ]
    refine wpAnyH_ready (rs := [1]) (by kernel_rfl) (by simp) (AllReadyH.cons (o := ?oc22) ?hc22 (fun K hK => ?hs22) AllReadyH.nil)
    case hc22 => simp only [List.getElem?_toArray, List.getElem?_cons_succ, List.getElem?_cons_zero]; rfl
    case hs22 =>
    rw [if_pos (by rfl)]
    go_simp
    
    go_wp2_with fail
    refine hK.out _ _ ?_ (fun hHeld => ?_)
    · exact HCE.out _ ((Chg.refl _ _).drew.alloc _)
    clear hK K
    try simp only [Act.put, List.setIfInBounds_toArray, List.set_cons_zero, List.set_cons_succ]
    refine wpAnyH_weaken (S := fun q => q.cell? ⟨g9, 0, none⟩ = some (.int .i64 1) ∧ q.cell? ⟨g9, 1, none⟩ = some (.string P) ∧ q.cell? ⟨g9, 2, none⟩ = some (.int .i64 mode) ∧ q.cell? ⟨W1.heap.size, 1, none⟩ = some (.int .i64 1)) (fun q h => ⟨h.1, h.2.1, h.2.2.1⟩) ?_
    have hHeld : (fun q => q.cell? ⟨g9, 0, none⟩ = some (.int .i64 1) ∧ q.cell? ⟨g9, 1, none⟩ = some (.string P) ∧ q.cell? ⟨g9, 2, none⟩ = some (.int .i64 mode) ∧ q.cell? ⟨W1.heap.size, 1, none⟩ = some (.int .i64 1)) (W1.drew.alloc (.cells #[.int .i64 0, .int .i64 1, .int .i64 2, .int .i64 4] 3)) := ⟨(HCE.out _ ((Chg.refl _ _).drew.alloc _)).1, (HCE.out _ ((Chg.refl _ _).drew.alloc _)).2.1, (HCE.out _ ((Chg.refl _ _).drew.alloc _)).2.2, cell_heap (heap_alloc_new _ _) 1 rfl⟩
    refine wpAnyH_take (i := 4) (oi := ?oi23) (v := ?v23) ?hi23 (by kernel_rfl) (by kernel_rfl) (by kernel_rfl) ?hQ23 (Or.inl ⟨?hw23, ?hy23⟩) (by assumption) ?hr23
    case hi23 => simp only [List.getElem?_toArray, List.getElem?_cons_succ, List.getElem?_cons_zero]; rfl
    case hQ23 => exact fun _ _ _ h => h
    case hw23 => rfl
    case hy23 => intro w hSw; (try dsimp only at hSw); go_simp; (try with_reducible rfl)
    case hr23 =>
    simp only [Act.put, List.setIfInBounds_toArray, List.set_cons_zero, List.set_cons_succ]
    refine wpAnyH_take (i := 5) (oi := ?oi24) (v := ?v24) ?hi24 (by kernel_rfl) (by kernel_rfl) (by kernel_rfl) ?hQ24 (Or.inl ⟨?hw24, ?hy24⟩) (by assumption) ?hr24
    case hi24 => simp only [List.getElem?_toArray, List.getElem?_cons_succ, List.getElem?_cons_zero]; rfl
    case hQ24 => exact fun _ _ _ h => h
    case hw24 => rfl
    case hy24 => intro w hSw; (try dsimp only at hSw); go_simp; (try with_reducible rfl)
    case hr24 =>
    simp only [Act.put, List.setIfInBounds_toArray, List.set_cons_zero, List.set_cons_succ]
    refine wpAnyH_ready (rs := [11]) (by kernel_rfl) (by simp) (AllReadyH.cons (o := ?oc25) ?hc25 (fun K hK => ?hs25) AllReadyH.nil)
    case hc25 => simp only [List.getElem?_toArray, List.getElem?_cons_succ, List.getElem?_cons_zero]; rfl
    case hs25 =>
    rw [if_pos (by rfl)]
    go_simp
    go_at_call 52; refine (HMW.out _ ((Chg.refl _ _).drew.alloc (.cells #[.int .i64 0, .int .i64 1, .int .i64 2, .int .i64 4] 3))).mono ?_; rintro e w3 ⟨rfl, h1, h2⟩; have HM := Lib.hid (HDN.out _ _ h1 h2); clear h1 h2
    go_wp2_with fail
    refine hK.out _ _ ?_ (fun hHeld => ?_)
    · have hc1 := (((Chg.refl O W1).drew).alloc (.cells #[.int .i64 0, .int .i64 1, .int .i64 2, .int .i64 4] 3)).trans HM.out.chg; exact ⟨(HCE.out _ hc1).1, (HCE.out _ hc1).2.1, (HCE.out _ hc1).2.2, HM.out.chg.cell (cell_heap (heap_alloc_new _ _) 1 rfl) (fun hm => by have h1 : W1.heap.size < g9 := HLT.out _ hm; omega)⟩
    clear hK K
    try simp only [Act.put, List.setIfInBounds_toArray, List.set_cons_zero, List.set_cons_succ]
    refine wpAnyH_take (i := 12) (oi := ?oi26) (v := ?v26) ?hi26 (by kernel_rfl) (by kernel_rfl) (by kernel_rfl) ?hQ26 (Or.inl ⟨?hw26, ?hy26⟩) (by assumption) ?hr26
    case hi26 => simp only [List.getElem?_toArray, List.getElem?_cons_succ, List.getElem?_cons_zero]; rfl
    case hQ26 => exact fun _ _ _ h => h
    case hw26 => rfl
    case hy26 => intro w hSw; (try dsimp only at hSw); go_simp; (try with_reducible rfl)
    case hr26 =>
    simp only [Act.put, List.setIfInBounds_toArray, List.set_cons_zero, List.set_cons_succ]
    refine wpAnyH_done (by kernel_rfl) ?_ _
    go_wp2_with fail
    go_ret
    exact ⟨rfl, RefDone.of (HKW.out.trans ((Chg.refl _ _).drew.alloc _)) HM.out⟩
  · have hE : refDoE ρ ⟨2, path, mode, data, target⟩ = makeRE ρ path 2 511 target := rfl
    rw [hE]
    have hmw : ∀ W, Chg [] w W → _ := fun W kw => HMK.out W 2 511 target [] none 0 [] kw ht (Rd.nil _ _ _) (by simp)
    have hdone : ∀ W w', Chg [] w W → (makeRE ρ path 2 511 target ≠ 0 → Chg [] W w') → (makeRE ρ path 2 511 target = 0 → RTo W w' r O (madeR ρ path 2 511 [] target)) → RefDone w w' r O ρ ⟨2, path, mode, data, target⟩ := fun W w' k h1 h2 => RefDone.of k (RefDone.make (a := ⟨2, path, mode, data, target⟩) (by show (0 : Int) ≤ 2 ∧ (2 : Int) ≤ 3; omega) h1 h2)
    have HMV := Lib.hid hmw
    have HDN := Lib.hid hdone
    clear hE hmw hdone HMK HLK HCH
    generalize makeRE ρ path 2 511 target = E at *
    generalize ba path = P at *
    generalize ba target = T at *
    generalize data.length = DL at *
    go_enter Tryz.func31, Tryz.ntmps31
    go_wp2_with (go_at_call 52; refine (HMV.out _ ((Chg.refl _ _).alloc _)).mono ?_; rintro e w3 ⟨rfl, h1, h2⟩; have HM := Lib.hid (And.intro h1 h2); clear h1 h2)
    go_ret
    exact ⟨rfl, HDN.out _ _ ((Chg.refl _ _).alloc _) HM.out.1 HM.out.2⟩
  · have hE : refDoE ρ ⟨3, path, mode, data, target⟩ = makeRE ρ path 4 mode [] := rfl
    rw [hE]
    have hmw : ∀ W, Chg [] w W → _ := fun W kw => HMK.out W 4 mode [] [] none 0 [] kw (by simp) (Rd.nil _ _ _) (by simp)
    have hdone : ∀ W w', (makeRE ρ path 4 mode [] ≠ 0 → Chg [] W w') → (makeRE ρ path 4 mode [] = 0 → RTo W w' r O (madeR ρ path 4 mode [] [])) → RefDone W w' r O ρ ⟨3, path, mode, data, target⟩ := fun W w' h1 h2 => RefDone.make (a := ⟨3, path, mode, data, target⟩) (by show (0 : Int) ≤ 3 ∧ (3 : Int) ≤ 3; omega) h1 h2
    have HDN := Lib.hid hdone
    have HMV := Lib.hid hmw
    clear hE hmw HMK HLK HCH hdone
    rw [show ba [] = (⟨#[]⟩ : ByteArray) from rfl] at HMV
    generalize makeRE ρ path 4 mode [] = E at *
    obtain ⟨P, hP⟩ : ∃ P, P = ba path := ⟨_, rfl⟩
    obtain ⟨T, hT⟩ : ∃ T, T = ba target := ⟨_, rfl⟩
    rw [← hP] at HMV ⊢
    rw [← hT]
    clear hP hT
    go_enter Tryz.func31, Tryz.ntmps31
    go_upto_region 8 with (fail)
    have hk9 : Chg [] w (w.alloc (.cells #[.int .i64 3, .string P, .int .i64 mode, .slice ao data.length dc, .string T] 53)) := (Chg.refl _ _).alloc _
    have e9 : (w.alloc (.cells #[.int .i64 3, .string P, .int .i64 mode, .slice ao data.length dc, .string T] 53)).heap[w.heap.size]? = some (.cells #[.int .i64 3, .string P, .int .i64 mode, .slice ao data.length dc, .string T] 53 (0, 0)) := heap_alloc_new _ _
    have HKW := Lib.hid hk9
    have HE9 := Lib.hid e9
    clear hk9 e9
    generalize w.alloc (.cells #[.int .i64 3, .string P, .int .i64 mode, .slice ao data.length dc, .string T] 53) = W1 at *
    generalize hg9 : w.heap.size = g9 at *
    have hgl : g9 < W1.heap.size := lt_of_block HE9.out
    have HLO := Lib.hid (show g9 ∉ O from fun hm => by have := HLT.out _ hm; omega)
    have HCE := Lib.hid (fun W (k : Chg O W1 W) => And.intro (k.cell (cell_heap HE9.out 0 rfl) HLO.out) (And.intro (k.cell (cell_heap HE9.out 1 rfl) HLO.out) (k.cell (cell_heap HE9.out 2 rfl) HLO.out)))
    have HMW := Lib.hid (fun W (k : Chg [] W1 W) => HMV.out W (HKW.out.trans k))
    refine wp_region_held_drew (S := fun q => q.cell? ⟨g9, 0, none⟩ = some (.int .i64 3) ∧ q.cell? ⟨g9, 1, none⟩ = some (.string P) ∧ q.cell? ⟨g9, 2, none⟩ = some (.int .i64 mode)) (by kernel_rfl) ?_ (fun hHeld => ?_)
    · exact HCE.out _ ((Chg.refl _ _).drew)
    refine wpAnyH_take (i := 0) (oi := ?oi27) (v := ?v27) ?hi27 (by kernel_rfl) (by kernel_rfl) (by kernel_rfl) ?hQ27 (Or.inl ⟨?hw27, ?hy27⟩) (by assumption) ?hr27
    case hi27 => simp only [List.getElem?_toArray, List.getElem?_cons_zero]; rfl
    case hQ27 => exact fun _ _ _ h => h
    case hw27 => rfl
    case hy27 => intro w hSw; (try dsimp only at hSw); go_simp; (try with_reducible rfl)
    case hr27 =>
    simp only [Act.put, List.setIfInBounds_toArray, List.set_cons_zero, List.set_cons_succ]
    refine wpAnyH_take (i := 2) (oi := ?oi28) (v := ?v28) ?hi28 (by kernel_rfl) (by kernel_rfl) (by kernel_rfl) ?hQ28 (Or.inl ⟨?hw28, ?hy28⟩) (by assumption) ?hr28
    case hi28 => simp only [List.getElem?_toArray, List.getElem?_cons_succ, List.getElem?_cons_zero]; rfl
    case hQ28 => exact fun _ _ _ h => h
    case hw28 => rfl
    case hy28 => intro w hSw; (try dsimp only at hSw); go_simp; (try with_reducible rfl)
    case hr28 =>
    simp only [Act.put, List.setIfInBounds_toArray, List.set_cons_zero, List.set_cons_succ]
    refine wpAnyH_take (i := 3) (oi := ?oi29) (v := ?v29) ?hi29 (by kernel_rfl) (by kernel_rfl) (by kernel_rfl) ?hQ29 (Or.inl ⟨?hw29, ?hy29⟩) (by assumption) ?hr29
    case hi29 => simp only [List.getElem?_toArray, List.getElem?_cons_succ, List.getElem?_cons_zero]; rfl
    case hQ29 => exact fun _ _ _ h => h
    case hw29 => rfl
    case hy29 => intro w hSw; (try dsimp only at hSw); go_simp; (try with_reducible rfl)
    case hr29 =>
    simp only [Act.put, List.setIfInBounds_toArray, List.set_cons_zero, List.set_cons_succ]
    refine wpAnyH_take (i := 6) (oi := ?oi30) (v := ?v30) ?hi30 (by kernel_rfl) (by kernel_rfl) (by kernel_rfl) ?hQ30 (Or.inl ⟨?hw30, ?hy30⟩) (by assumption) ?hr30
    case hi30 => simp only [List.getElem?_toArray, List.getElem?_cons_succ, List.getElem?_cons_zero]; rfl
    case hQ30 => exact fun _ _ _ h => h
    case hw30 => rfl
    case hy30 => intro w hSw; (try dsimp only at hSw); go_simp; (try with_reducible rfl)
    case hr30 =>
    simp only [Act.put, List.setIfInBounds_toArray, List.set_cons_zero, List.set_cons_succ]
    refine wpAnyH_take (i := 7) (oi := ?oi31) (v := ?v31) ?hi31 (by kernel_rfl) (by kernel_rfl) (by kernel_rfl) ?hQ31 (Or.inl ⟨?hw31, ?hy31⟩) (by assumption) ?hr31
    case hi31 => simp only [List.getElem?_toArray, List.getElem?_cons_succ, List.getElem?_cons_zero]; rfl
    case hQ31 => exact fun _ _ _ h => h
    case hw31 => rfl
    case hy31 => intro w hSw; (try dsimp only at hSw); go_simp; (try with_reducible rfl)
    case hr31 =>
    simp only [Act.put, List.setIfInBounds_toArray, List.set_cons_zero, List.set_cons_succ]
    refine wpAnyH_take (i := 8) (oi := ?oi32) (v := ?v32) ?hi32 (by kernel_rfl) (by kernel_rfl) (by kernel_rfl) ?hQ32 (Or.inl ⟨?hw32, ?hy32⟩) (by assumption) ?hr32
    case hi32 => simp only [List.getElem?_toArray, List.getElem?_cons_succ, List.getElem?_cons_zero]; rfl
    case hQ32 => exact fun _ _ _ h => h
    case hw32 => rfl
    case hy32 => intro w hSw; (try dsimp only at hSw); go_simp; (try with_reducible rfl)
    case hr32 =>
    simp only [Act.put, List.setIfInBounds_toArray, List.set_cons_zero, List.set_cons_succ]
    refine wpAnyH_take (i := 9) (oi := ?oi33) (v := ?v33) ?hi33 (by kernel_rfl) (by kernel_rfl) (by kernel_rfl) ?hQ33 (Or.inl ⟨?hw33, ?hy33⟩) (by assumption) ?hr33
    case hi33 => simp only [List.getElem?_toArray, List.getElem?_cons_succ, List.getElem?_cons_zero]; rfl
    case hQ33 => exact fun _ _ _ h => h
    case hw33 => rfl
    case hy33 => intro w hSw; (try dsimp only at hSw); go_simp; (try with_reducible rfl)
    case hr33 =>
    simp only [Act.put, List.setIfInBounds_toArray, List.set_cons_zero, List.set_cons_succ]
    refine wpAnyH_take (i := 10) (oi := ?oi34) (v := ?v34) ?hi34 (by kernel_rfl) (by kernel_rfl) (by kernel_rfl) ?hQ34 (Or.inl ⟨?hw34, ?hy34⟩) (by assumption) ?hr34
    case hi34 => simp only [List.getElem?_toArray, List.getElem?_cons_succ, List.getElem?_cons_zero]; rfl
    case hQ34 => exact fun _ _ _ h => h
    case hw34 => rfl
    case hy34 => intro w hSw; (try dsimp only at hSw); go_simp; (try with_reducible rfl)
    case hr34 =>
    simp only [Act.put, List.setIfInBounds_toArray, List.set_cons_zero, List.set_cons_succ]
    refine wpAnyH_ready (rs := [1]) (by kernel_rfl) (by simp) (AllReadyH.cons (o := ?oc35) ?hc35 (fun K hK => ?hs35) AllReadyH.nil)
    case hc35 => simp only [List.getElem?_toArray, List.getElem?_cons_succ, List.getElem?_cons_zero]; rfl
    case hs35 =>
    rw [if_pos (by rfl)]
    go_simp
    
    go_wp2_with fail
    refine hK.out _ _ ?_ (fun hHeld => ?_)
    · exact HCE.out _ ((Chg.refl _ _).drew.alloc _)
    clear hK K
    try simp only [Act.put, List.setIfInBounds_toArray, List.set_cons_zero, List.set_cons_succ]
    refine wpAnyH_weaken (S := fun q => q.cell? ⟨g9, 0, none⟩ = some (.int .i64 3) ∧ q.cell? ⟨g9, 1, none⟩ = some (.string P) ∧ q.cell? ⟨g9, 2, none⟩ = some (.int .i64 mode) ∧ q.cell? ⟨W1.heap.size, 3, none⟩ = some (.int .i64 4)) (fun q h => ⟨h.1, h.2.1, h.2.2.1⟩) ?_
    have hHeld : (fun q => q.cell? ⟨g9, 0, none⟩ = some (.int .i64 3) ∧ q.cell? ⟨g9, 1, none⟩ = some (.string P) ∧ q.cell? ⟨g9, 2, none⟩ = some (.int .i64 mode) ∧ q.cell? ⟨W1.heap.size, 3, none⟩ = some (.int .i64 4)) (W1.drew.alloc (.cells #[.int .i64 0, .int .i64 1, .int .i64 2, .int .i64 4] 3)) := ⟨(HCE.out _ ((Chg.refl _ _).drew.alloc _)).1, (HCE.out _ ((Chg.refl _ _).drew.alloc _)).2.1, (HCE.out _ ((Chg.refl _ _).drew.alloc _)).2.2, cell_heap (heap_alloc_new _ _) 3 rfl⟩
    refine wpAnyH_take (i := 4) (oi := ?oi36) (v := ?v36) ?hi36 (by kernel_rfl) (by kernel_rfl) (by kernel_rfl) ?hQ36 (Or.inl ⟨?hw36, ?hy36⟩) (by assumption) ?hr36
    case hi36 => simp only [List.getElem?_toArray, List.getElem?_cons_succ, List.getElem?_cons_zero]; rfl
    case hQ36 => exact fun _ _ _ h => h
    case hw36 => rfl
    case hy36 => intro w hSw; (try dsimp only at hSw); go_simp; (try with_reducible rfl)
    case hr36 =>
    simp only [Act.put, List.setIfInBounds_toArray, List.set_cons_zero, List.set_cons_succ]
    refine wpAnyH_take (i := 5) (oi := ?oi37) (v := ?v37) ?hi37 (by kernel_rfl) (by kernel_rfl) (by kernel_rfl) ?hQ37 (Or.inl ⟨?hw37, ?hy37⟩) (by assumption) ?hr37
    case hi37 => simp only [List.getElem?_toArray, List.getElem?_cons_succ, List.getElem?_cons_zero]; rfl
    case hQ37 => exact fun _ _ _ h => h
    case hw37 => rfl
    case hy37 => intro w hSw; (try dsimp only at hSw); go_simp; (try with_reducible rfl)
    case hr37 =>
    simp only [Act.put, List.setIfInBounds_toArray, List.set_cons_zero, List.set_cons_succ]
    refine wpAnyH_ready (rs := [11]) (by kernel_rfl) (by simp) (AllReadyH.cons (o := ?oc38) ?hc38 (fun K hK => ?hs38) AllReadyH.nil)
    case hc38 => simp only [List.getElem?_toArray, List.getElem?_cons_succ, List.getElem?_cons_zero]; rfl
    case hs38 =>
    rw [if_pos (by rfl)]
    go_simp
    go_at_call 52; refine (HMW.out _ ((Chg.refl _ _).drew.alloc (.cells #[.int .i64 0, .int .i64 1, .int .i64 2, .int .i64 4] 3))).mono ?_; rintro e w3 ⟨rfl, h1, h2⟩; have HM := Lib.hid (HDN.out _ _ h1 h2); clear h1 h2
    go_wp2_with fail
    refine hK.out _ _ ?_ (fun hHeld => ?_)
    · have hc1 := (((Chg.refl O W1).drew).alloc (.cells #[.int .i64 0, .int .i64 1, .int .i64 2, .int .i64 4] 3)).trans HM.out.chg; exact ⟨(HCE.out _ hc1).1, (HCE.out _ hc1).2.1, (HCE.out _ hc1).2.2, HM.out.chg.cell (cell_heap (heap_alloc_new _ _) 3 rfl) (fun hm => by have h1 : W1.heap.size < g9 := HLT.out _ hm; omega)⟩
    clear hK K
    try simp only [Act.put, List.setIfInBounds_toArray, List.set_cons_zero, List.set_cons_succ]
    refine wpAnyH_take (i := 12) (oi := ?oi39) (v := ?v39) ?hi39 (by kernel_rfl) (by kernel_rfl) (by kernel_rfl) ?hQ39 (Or.inl ⟨?hw39, ?hy39⟩) (by assumption) ?hr39
    case hi39 => simp only [List.getElem?_toArray, List.getElem?_cons_succ, List.getElem?_cons_zero]; rfl
    case hQ39 => exact fun _ _ _ h => h
    case hw39 => rfl
    case hy39 => intro w hSw; (try dsimp only at hSw); go_simp; (try with_reducible rfl)
    case hr39 =>
    simp only [Act.put, List.setIfInBounds_toArray, List.set_cons_zero, List.set_cons_succ]
    refine wpAnyH_done (by kernel_rfl) ?_ _
    go_wp2_with fail
    go_ret
    exact ⟨rfl, RefDone.of (HKW.out.trans ((Chg.refl _ _).drew.alloc _)) HM.out⟩
  · have hE : refDoE ρ ⟨4, path, mode, data, target⟩ = linkRE ρ path target := rfl
    have hdone : ∀ W w', Chg [] w W → (linkRE ρ path target ≠ 0 → Chg [] W w') → (linkRE ρ path target = 0 → ∃ i, lkF ρ.paths target = some i ∧ RTo W w' r O (linkedR ρ path i)) → RefDone w w' r O ρ ⟨4, path, mode, data, target⟩ := fun W w' k h1 h2 => RefDone.of k ⟨fun hne => h1 hne, fun h0 => by
      obtain ⟨i, hi, hto⟩ := h2 h0
      exact ⟨_, (by unfold RefNext; rw [if_neg (by simp only; decide), if_pos rfl]; exact ⟨i, hi, rfl⟩), hto⟩⟩
    have HDN := Lib.hid hdone
    rw [hE]
    clear hE hdone
    generalize linkRE ρ path target = E at *
    generalize ba path = P at *
    generalize ba target = T at *
    generalize data.length = DL at *
    go_enter Tryz.func31, Tryz.ntmps31
    go_wp2_with (go_at_call 51; refine (HLK.out _ ((Chg.refl _ _).alloc _)).mono ?_; rintro e w3 ⟨rfl, h1, h2⟩; have HM := Lib.hid (And.intro h1 h2); clear h1 h2)
    go_ret
    exact ⟨rfl, HDN.out _ _ ((Chg.refl _ _).alloc _) HM.out.1 HM.out.2⟩
  · have hE : refDoE ρ ⟨5, path, mode, data, target⟩ = chownRE ρ path := rfl
    have hdone : ∀ W w', Chg [] w W → (chownRE ρ path ≠ 0 → Chg [] W w') → (chownRE ρ path = 0 → ∃ i, lkF ρ.paths path = some i ∧ RTo W w' r O (chownedR ρ i mode data.length)) → RefDone w w' r O ρ ⟨5, path, mode, data, target⟩ := fun W w' k h1 h2 => RefDone.of k ⟨fun hne => h1 hne, fun h0 => by
      obtain ⟨i, hi, hto⟩ := h2 h0
      exact ⟨_, (by unfold RefNext; rw [if_neg (by simp only; decide), if_neg (by simp only; decide), if_pos rfl]; exact ⟨i, hi, rfl⟩), hto⟩⟩
    have HDN := Lib.hid hdone
    rw [hE]
    clear hE hdone
    generalize chownRE ρ path = E at *
    generalize ba path = P at *
    generalize ba target = T at *
    generalize data.length = DL at *
    go_enter Tryz.func31, Tryz.ntmps31
    go_wp2_with (go_at_call 66; refine (HCH.out _ ((Chg.refl _ _).alloc _)).mono ?_; rintro e w3 ⟨rfl, h1, h2⟩; have HM := Lib.hid (And.intro h1 h2); clear h1 h2)
    go_ret
    exact ⟨rfl, HDN.out _ _ ((Chg.refl _ _).alloc _) HM.out.1 HM.out.2⟩
  · have hE : refDoE ρ ⟨kind, path, mode, data, target⟩ = 0 := by
      unfold refDoE
      simp only
      rw [if_neg (by omega), if_neg n4, if_neg n5]
    have hN : RefNext ρ ⟨kind, path, mode, data, target⟩ ρ := by
      unfold RefNext
      rw [if_neg (by simp only; omega), if_neg n4, if_neg n5]
    have HE := Lib.hid (And.intro hE hN)
    rw [hE]
    have b0 : (kind == 0) = false := by simpa using n0
    have b1 : (kind == 1) = false := by simpa using n1
    have b2 : (kind == 2) = false := by simpa using n2
    have b3 : (kind == 3) = false := by simpa using n3
    have b4 : (kind == 4) = false := by simpa using n4
    have b5 : (kind == 5) = false := by simpa using n5
    clear hE hN n0 n1 n2 n3 n4 n5
    go_enter Tryz.func31, Tryz.ntmps31
    go_wp2_with fail
    go_ret
    refine ⟨rfl, fun h => absurd HE.out.1 h, fun _ => ⟨ρ, HE.out.2, O, ⟨HAT.out.foreign ((Chg.refl [] w).alloc _) (fun g _ => by simp), fun g hg => .inl hg⟩, (Chg.refl O w).alloc _⟩⟩
end Go.Proofs.YtfhiioopimmahaaGreatDoor
namespace Go.Pax
open Go.RowKit
theorem namesR_none {l : List (Str × Nat)} {d : Str} (h : ∀ x ∈ l, ¬ (x.1 ≠ [] ∧ parentP x.1 = d)) : namesR l d = [] := by
  have : ∀ (l : List (Str × Nat)) (out : List Str), (∀ x ∈ l, ¬ (x.1 ≠ [] ∧ parentP x.1 = d)) → l.foldl (nameStep d) out = out := by
    intro l
    induction l with
    | nil => intro out _; rfl
    | cons x l ih =>
      intro out h
      rw [List.foldl_cons]
      have h1 : nameStep d out x = out := by unfold nameStep; rw [if_neg (h x (by simp))]
      rw [h1]
      exact ih out fun y hy => h y (by simp [hy])
  exact this l [] h
theorem linksR_none {l : List (Str × Nat)} {i : Nat} (h : ∀ x ∈ l, x.2 ≠ i) : linksR l i = 0 := by
  unfold linksR
  rw [List.length_eq_zero_iff, List.filter_eq_nil_iff]
  intro x hx
  simpa using h x hx
theorem check_ne {p : Str} (h : checkP p = 0) : p ≠ [] := by
  rintro rfl
  exact absurd h (by decide)
theorem getD_snoc_lt (bs : List Nat) (b i : Nat) (h : i < bs.length) : (bs ++ [b]).getD i 0 = bs.getD i 0 := by
  simp [List.getD_eq_getElem?_getD, List.getElem?_append_left h]
theorem getD_snoc_eq (bs : List Nat) (b : Nat) : (bs ++ [b]).getD bs.length 0 = b := by
  simp [List.getD_eq_getElem?_getD]
theorem getD_mem {bs : List Nat} {i : Nat} (h : i < bs.length) : bs.getD i 0 ∈ bs := by
  simp [List.getD_eq_getElem?_getD, List.getElem?_eq_getElem h]
end Go.Pax
namespace Go.Proofs.YtfhiioopimmahaaGreatDoor
open Go.RowKit Go.Pax Go.Shelf
/-- All but the new path is there. -/
structure PreRel (σ : Fs) (ρ : RFs) (bs : List Nat) (i : Nat) : Prop where
  nums : σ.step = ρ.step ∧ σ.rot = ρ.rot ∧ σ.lists = ρ.lists ∧ σ.next = ρ.first + (ρ.inodes.length : Int) * ρ.step
  len : bs.length = ρ.inodes.length
  nodup : bs.Nodup
  files : σ.files = ρ.paths.map fun x => (x.1, bs.getD x.2 0)
  idx : ∀ x ∈ ρ.paths, x.2 < bs.length
  node : ∀ j x, ρ.inodes[j]? = some x → NodeIs (σ.node (bs.getD j 0)) x
  links : ∀ j, j < bs.length → (σ.node (bs.getD j 0)).links = linksR ρ.paths j + if i = j then 1 else 0
  names : ∀ p j, lkF ρ.paths p = some j → (σ.node (bs.getD j 0)).kind = 0 → (σ.node (bs.getD j 0)).names = namesR ρ.paths p
  closed : ∀ x ∈ ρ.paths, x.1 ≠ [] → lkF ρ.paths (parentP x.1) ≠ none
  onto : ∀ j, j < bs.length → j ≠ i → ∃ p, (p, j) ∈ ρ.paths
theorem PreRel.enter {σ : Fs} {ρ : RFs} {bs : List Nat} {i pb b : Nat} {p : Str} (h : PreRel σ ρ bs i) (hi : i < bs.length) (hb : bs.getD i 0 = b) (hc : checkP p = 0) (hnew : lkF ρ.paths p = none)
    (hpb : lkF σ.files (parentP p) = some pb) (hkp : (σ.node pb).kind = 0) (hne : b ≠ pb) (hsort : (σ.node pb).names.Pairwise (· < ·)) (hmem : baseP p ∉ (σ.node pb).names) (hone : ∀ q, lkF σ.files q = some pb → q = parentP p)
    (hdir : (σ.node b).kind = 0 → (σ.node b).names = [] ∧ ∀ q, lkF ρ.paths q ≠ some i) : Rel (entered σ p pb b) { ρ with paths := ρ.paths ++ [(p, i)] } bs := by
  have hpne := check_ne hc
  have hlk : ∀ q, lkF σ.files q = (lkF ρ.paths q).map fun j => bs.getD j 0 := fun q => by rw [h.files]; exact lkF_map ρ.paths (fun j => bs.getD j 0) q
  have hnode : ∀ j, (entered σ p pb b).node j = if j = pb then addName (σ.node pb) (baseP p) else σ.node j := fun j => rfl
  have hpq : lkF ρ.paths (parentP p) ≠ none := fun e => by rw [hlk, e] at hpb; cases hpb
  refine ⟨h.nums, h.len, h.nodup, ?_, fun x hx => ?_, fun j x hx => ?_, fun j hj => ?_, fun q j hq hk => ?_, fun x hx hne' => ?_, fun j hj => ?_⟩
  · show σ.files ++ [(p, b)] = _
    rw [h.files, List.map_append, List.map_cons, List.map_nil, hb]
  · rcases List.mem_append.1 hx with hx | hx
    · exact h.idx x hx
    · simp at hx; subst hx; exact hi
  · have hn := h.node j x hx
    rw [hnode]
    split
    · rename_i e
      rw [e] at hn
      exact hn
    · exact hn
  · rw [hnode, linksR_snoc]
    have hl := h.links j hj
    split
    · rename_i e
      rw [e] at hl
      show (σ.node pb).links = _
      rw [hl]
      split <;> simp
    · rw [hl]
      split <;> simp
  · have hq2 : lkF (ρ.paths ++ [(p, i)]) q = some j := hq
    rw [lkF_append] at hq2
    rw [hnode] at hk ⊢
    rw [namesR_snoc]
    by_cases e : q = p
    · subst e
      rw [hnew] at hq2
      simp [lkF] at hq2
      subst hq2
      rw [hb] at hk ⊢
      rw [if_neg hne] at hk ⊢
      have hstep : nameStep q (namesR ρ.paths q) (q, i) = namesR ρ.paths q := by
        unfold nameStep
        rw [if_neg (fun hh => par_ne hpne hh.2)]
      rw [hstep, (hdir hk).1, namesR_none]
      intro x hx hh
      have := h.closed x hx hh.1
      rw [hh.2] at this
      exact this hnew
    · have hq3 : lkF ρ.paths q = some j := by
        rcases hl : lkF ρ.paths q with _ | j'
        · rw [hl] at hq2
          simp [lkF, e] at hq2
        · rw [hl] at hq2
          simpa using hq2
      have hqb : lkF σ.files q = some (bs.getD j 0) := by rw [hlk, hq3]; rfl
      by_cases ej : bs.getD j 0 = pb
      · rw [if_pos ej] at hk ⊢
        rw [ej] at hqb
        have hqp := hone q hqb
        have hn := h.names q j hq3 (by rw [ej]; exact hkp)
        rw [ej] at hn
        have hstep : nameStep q (namesR ρ.paths q) (p, i) = insR (namesR ρ.paths q) (baseP p) := by
          unfold nameStep
          rw [if_pos ⟨hpne, hqp.symm⟩]
        rw [hstep, ← hn]
        exact ins_same _ _ hsort hmem
      · rw [if_neg ej] at hk ⊢
        have hn := h.names q j hq3 hk
        have hstep : nameStep q (namesR ρ.paths q) (p, i) = namesR ρ.paths q := by
          unfold nameStep
          rw [if_neg (fun hh => ej (by
            have h2 := hh.2
            simp only at h2
            rw [h2, hqb] at hpb
            injection hpb))]
        rw [hstep]
        exact hn
  · show lkF (ρ.paths ++ [(p, i)]) (parentP x.1) ≠ none
    rw [lkF_append]
    have hx2 : lkF ρ.paths (parentP x.1) ≠ none := by
      rcases List.mem_append.1 hx with hx | hx
      · exact h.closed x hx hne'
      · simp at hx; subst hx; exact hpq
    intro e
    rw [Option.or_eq_none_iff] at e
    exact hx2 e.1
  · by_cases e : j = i
    · exact ⟨p, List.mem_append.2 (.inr (by simp [e]))⟩
    · obtain ⟨q, hq⟩ := h.onto j hj e
      exact ⟨q, List.mem_append.2 (.inl hq)⟩
theorem placeE_rel {σ : Fs} {ρ : RFs} {bs : List Nat} (h : Rel σ ρ bs) (p : Str) : placeE σ p = placeR ρ p := by
  unfold placeE placeR
  rw [h.lk, h.lk]
  cases h1 : lkF ρ.paths (parentP p) with
  | none => rfl
  | some i =>
    obtain ⟨hi, _, x, hx, hn⟩ := h.find h1
    have hnr : nodeR ρ i = x := by unfold nodeR; rw [List.getD_eq_getElem?_getD, hx]; rfl
    simp only [Option.map_some]
    rw [hnr, hn.1]
    cases lkF ρ.paths p <;> rfl
theorem makeE_rel {σ : Fs} {ρ : RFs} {bs : List Nat} (h : Rel σ ρ bs) (p : Str) (k m : Int) (t : Str) : makeE σ p k m t = makeRE ρ p k m t := by
  unfold makeE makeRE
  rw [placeE_rel h]
theorem linkE_rel {σ : Fs} {ρ : RFs} {bs : List Nat} (h : Rel σ ρ bs) (p t : Str) : linkE σ p t = linkRE ρ p t := by
  unfold linkE linkRE
  rw [placeE_rel h, h.lk]
  cases h1 : lkF ρ.paths t with
  | none => rfl
  | some i =>
    obtain ⟨hi, _, x, hx, hn⟩ := h.find h1
    have hnr : nodeR ρ i = x := by unfold nodeR; rw [List.getD_eq_getElem?_getD, hx]; rfl
    simp only [Option.map_some]
    rw [hnr, hn.1]
theorem chownE_rel {σ : Fs} {ρ : RFs} {bs : List Nat} (h : Rel σ ρ bs) (p : Str) : chownE σ p = chownRE ρ p := by
  unfold chownE chownRE
  rw [h.lk]
  cases lkF ρ.paths p <;> rfl
theorem do_rel {σ : Fs} {ρ : RFs} {bs : List Nat} (h : Rel σ ρ bs) (a : AAct) : doE σ a = refDoE ρ a := by
  unfold doE refDoE
  rw [makeE_rel h, linkE_rel h, chownE_rel h]
theorem not_named {σ : Fs} {p : Str} {pb : Nat} (ht : Tidy σ) (hc : checkP p = 0) (hnew : lkF σ.files p = none) (hpb : lkF σ.files (parentP p) = some pb) (hkp : (σ.node pb).kind = 0) : baseP p ∉ (σ.node pb).names := fun hm => by
  obtain ⟨_, c, hcc⟩ := ht.there _ _ hpb hkp _ hm
  rw [(join_base hc).1, hnew] at hcc
  cases hcc
theorem rel_made {σ : Fs} {ρ : RFs} {bs : List Nat} (h : Rel σ ρ bs) (ht : Tidy σ) {p t : Str} {k m : Int} {d : List UInt8} {pb b : Nat} (hc : checkP p = 0) (hp : placeE σ p = 0) (hpb : lkF σ.files (parentP p) = some pb) (hf : Fresh σ b) :
    Rel (made σ p (newNd σ k m t d) pb b) (madeR ρ p k m d t) (bs ++ [b]) := by
  obtain ⟨hnew, hkp⟩ := placed_dir hp hpb
  have hne : b ≠ pb := fun e => hf _ _ (lkF_mem hpb) e.symm
  have hnewR : lkF ρ.paths p = none := by
    have := h.lk p
    rw [hnew] at this
    rcases hh : lkF ρ.paths p with _ | j
    · rfl
    · rw [hh] at this; cases this
  have hnb : ∀ j, j < bs.length → bs.getD j 0 ≠ b := fun j hj => by
    obtain ⟨q, hq⟩ := h.onto j hj
    have hm : (q, bs.getD j 0) ∈ σ.files := by rw [h.files]; exact List.mem_map.2 ⟨_, hq, rfl⟩
    exact hf _ _ hm
  have hnodup : (bs ++ [b]).Nodup := by
    rw [List.nodup_append]
    refine ⟨h.nodup, by simp, fun x hx y hy => ?_⟩
    simp at hy; subst hy
    obtain ⟨j, hj, rfl⟩ := List.mem_iff_getElem.1 hx
    have := hnb j hj
    simpa [List.getD_eq_getElem?_getD, List.getElem?_eq_getElem hj] using this
  have hnode : ∀ i, (if i = b then newNd σ k m t d else σ.node i) = (if i = b then newNd σ k m t d else σ.node i) := fun _ => rfl
  have pre : PreRel { σ with next := σ.next + σ.step, node := fun i => if i = b then newNd σ k m t d else σ.node i } { ρ with inodes := ρ.inodes ++ [⟨k, m, ρ.first + (ρ.inodes.length : Int) * ρ.step, d, t, 0, 0⟩] } (bs ++ [b]) ρ.inodes.length := by
    refine ⟨⟨h.nums.1, h.nums.2.1, h.nums.2.2.1, ?_⟩, ?_, hnodup, ?_, fun x hx => ?_, fun j x hx => ?_, fun j hj => ?_, fun q j hq hk => ?_, h.closed, fun j hj hji => ?_⟩
    · show σ.next + σ.step = ρ.first + (((ρ.inodes ++ [_]).length : Nat) : Int) * ρ.step
      rw [h.nums.2.2.2, h.nums.1, List.length_append]
      simp only [List.length_cons, List.length_nil]
      push_cast
      rw [Int.add_mul]
      omega
    · simp [h.len]
    · show σ.files = _
      rw [h.files]
      refine List.map_congr_left fun x hx => ?_
      rw [getD_snoc_lt _ _ _ (h.idx x hx)]
    · have := h.idx x hx
      rw [List.length_append]; omega
    · show NodeIs (if (bs ++ [b]).getD j 0 = b then newNd σ k m t d else σ.node ((bs ++ [b]).getD j 0)) x
      by_cases hj : j < bs.length
      · rw [getD_snoc_lt _ _ _ hj, if_neg (hnb j hj)]
        have hx2 : (ρ.inodes ++ [_])[j]? = some x := hx
        rw [List.getElem?_append_left (by rw [← h.len]; exact hj)] at hx2
        exact h.node j x hx2
      · have hjl : j < (ρ.inodes ++ [(⟨k, m, ρ.first + (ρ.inodes.length : Int) * ρ.step, d, t, 0, 0⟩ : RNode)]).length := (List.getElem?_eq_some_iff.1 hx).1
        rw [List.length_append, ← h.len] at hjl
        have hjj : j = bs.length := by simp at hjl; omega
        subst hjj
        rw [getD_snoc_eq, if_pos rfl]
        have hx2 : (ρ.inodes ++ [(⟨k, m, ρ.first + (ρ.inodes.length : Int) * ρ.step, d, t, 0, 0⟩ : RNode)])[bs.length]? = some x := hx
        rw [h.len] at hx2
        simp at hx2
        subst hx2
        exact ⟨rfl, rfl, h.nums.2.2.2, rfl, rfl, rfl, rfl, rfl⟩
    · show (if (bs ++ [b]).getD j 0 = b then newNd σ k m t d else σ.node ((bs ++ [b]).getD j 0)).links = _
      by_cases hjb : j < bs.length
      · rw [getD_snoc_lt _ _ _ hjb, if_neg (hnb j hjb), if_neg (by rw [← h.len]; omega), h.links j hjb]
        simp
      · have hjj : j = bs.length := by rw [List.length_append] at hj; simp at hj; omega
        subst hjj
        rw [getD_snoc_eq, if_pos rfl, if_pos h.len.symm, linksR_none (fun x hx e => by have := h.idx x hx; omega)]
        rfl
    · have hjb : j < bs.length := h.idx _ (lkF_mem hq)
      show (if (bs ++ [b]).getD j 0 = b then newNd σ k m t d else σ.node ((bs ++ [b]).getD j 0)).names = _
      have hk2 : (if (bs ++ [b]).getD j 0 = b then newNd σ k m t d else σ.node ((bs ++ [b]).getD j 0)).kind = 0 := hk
      rw [getD_snoc_lt _ _ _ hjb, if_neg (hnb j hjb)] at hk2 ⊢
      exact h.names q j hq hk2
    · have hjb : j < bs.length := by rw [List.length_append] at hj; simp at hj; have := h.len; omega
      exact h.onto j hjb
  have hpbn : ((if pb = b then newNd σ k m t d else σ.node pb) : Nd) = σ.node pb := if_neg (Ne.symm hne)
  refine pre.enter (by rw [List.length_append, h.len]; simp) (by rw [← h.len]; exact getD_snoc_eq bs b) hc hnewR hpb (by show (if pb = b then newNd σ k m t d else σ.node pb).kind = 0; rw [hpbn]; exact hkp) hne ?_ ?_ (fun q hq => ht.one q _ pb hq hpb hkp) (fun _ => ⟨?_, fun q hq => ?_⟩)
  · show (if pb = b then newNd σ k m t d else σ.node pb).names.Pairwise (· < ·)
    rw [hpbn]
    exact ht.sorted _ _ hpb hkp
  · show baseP p ∉ (if pb = b then newNd σ k m t d else σ.node pb).names
    rw [hpbn]
    exact not_named ht hc hnew hpb hkp
  · show (if b = b then newNd σ k m t d else σ.node b).names = []
    rw [if_pos rfl]
    rfl
  · have := h.idx _ (lkF_mem hq)
    simp only at this
    rw [h.len] at this
    exact Nat.lt_irrefl _ this
theorem rel_linked {σ : Fs} {ρ : RFs} {bs : List Nat} (h : Rel σ ρ bs) (ht : Tidy σ) {p t : Str} {pb i : Nat} (hc : checkP p = 0) (hp : placeE σ p = 0) (hpb : lkF σ.files (parentP p) = some pb) (hi : lkF ρ.paths t = some i) (hk : (σ.node (bs.getD i 0)).kind = 1) :
    Rel (linked σ p pb (bs.getD i 0)) (linkedR ρ p i) bs := by
  obtain ⟨hnew, hkp⟩ := placed_dir hp hpb
  obtain ⟨hib, hlt, _⟩ := h.find hi
  have hne : bs.getD i 0 ≠ pb := fun e => by rw [e, hkp] at hk; exact absurd hk (by decide)
  have hnewR : lkF ρ.paths p = none := by
    have := h.lk p
    rw [hnew] at this
    rcases hh : lkF ρ.paths p with _ | j
    · rfl
    · rw [hh] at this; cases this
  generalize hB : bs.getD i 0 = b at *
  have hnd : ∀ j, (setNode σ b { σ.node b with links := (σ.node b).links + 1 }).node j = if j = b then { σ.node b with links := (σ.node b).links + 1 } else σ.node j := fun _ => rfl
  have pre : PreRel (setNode σ b { σ.node b with links := (σ.node b).links + 1 }) ρ bs i := by
    refine ⟨h.nums, h.len, h.nodup, h.files, h.idx, fun j x hx => ?_, fun j hj => ?_, fun q j hq hk2 => ?_, h.closed, fun j hj _ => h.onto j hj⟩
    · have hn := h.node j x hx
      rw [hnd]
      split
      · rename_i e
        rw [e] at hn
        exact hn
      · exact hn
    · rw [hnd]
      have hl := h.links j hj
      by_cases e : i = j
      · subst e
        rw [if_pos hB, if_pos rfl]
        rw [hB] at hl
        show (σ.node b).links + 1 = _
        rw [hl]
      · rw [if_neg (fun e2 => e (getD_inj h.nodup hib hj (hB.trans e2.symm))), if_neg e, hl]
        simp
    · rw [hnd] at hk2 ⊢
      split
      · rename_i e
        rw [if_pos e] at hk2
        have hk3 : (σ.node b).kind = 0 := hk2
        rw [hk3] at hk
        exact absurd hk (by decide)
      · rename_i e
        rw [if_neg e] at hk2
        exact h.names q j hq hk2
  have hpbn : (setNode σ b { σ.node b with links := (σ.node b).links + 1 }).node pb = σ.node pb := by rw [hnd, if_neg (Ne.symm hne)]
  have hbn : (setNode σ b { σ.node b with links := (σ.node b).links + 1 }).node b = { σ.node b with links := (σ.node b).links + 1 } := by rw [hnd, if_pos rfl]
  refine pre.enter hib hB hc hnewR hpb (by rw [hpbn]; exact hkp) hne (by rw [hpbn]; exact ht.sorted _ _ hpb hkp) (by rw [hpbn]; exact not_named ht hc hnew hpb hkp) (fun q hq => ht.one q _ pb hq hpb hkp) (fun h0 => ?_)
  rw [hbn] at h0
  have h1 : (σ.node b).kind = 0 := h0
  rw [h1] at hk
  exact absurd hk (by decide)
theorem rel_chowned {σ : Fs} {ρ : RFs} {bs : List Nat} (h : Rel σ ρ bs) {p : Str} {i : Nat} (u m : Int) (hi : lkF ρ.paths p = some i) :
    Rel (setNode σ (bs.getD i 0) { σ.node (bs.getD i 0) with uid := u, mtime := m }) (chownedR ρ i u m) bs := by
  obtain ⟨hib, hlt, x, hx, hnx⟩ := h.find hi
  have hnr : nodeR ρ i = x := by unfold nodeR; rw [List.getD_eq_getElem?_getD, hx]; rfl
  generalize hB : bs.getD i 0 = b at *
  have hnd : ∀ j, (setNode σ b { σ.node b with uid := u, mtime := m }).node j = if j = b then { σ.node b with uid := u, mtime := m } else σ.node j := fun _ => rfl
  refine ⟨⟨h.nums.1, h.nums.2.1, h.nums.2.2.1, ?_⟩, ?_, h.nodup, h.files, h.idx, fun j y hy => ?_, fun j hj => ?_, fun q j hq hk2 => ?_, h.closed, h.onto⟩
  · show σ.next = ρ.first + (((ρ.inodes.set i _).length : Nat) : Int) * ρ.step
    rw [List.length_set]
    exact h.nums.2.2.2
  · show bs.length = (ρ.inodes.set i _).length
    rw [List.length_set]
    exact h.len
  · have hy2 : (ρ.inodes.set i { nodeR ρ i with uid := u, mtime := m })[j]? = some y := hy
    rw [List.getElem?_set] at hy2
    rw [hnd]
    by_cases e : i = j
    · subst e
      rw [if_pos rfl, if_pos (by rw [← h.len]; exact hib)] at hy2
      injection hy2 with hy2
      subst hy2
      rw [if_pos hB, hnr]
      obtain ⟨a1, a2, a3, a4, a5, a6, a7, a8⟩ := hnx
      exact ⟨a1, a2, a3, a4, a5, rfl, rfl, a8⟩
    · rw [if_neg e] at hy2
      have hj : j < bs.length := by rw [h.len]; exact (List.getElem?_eq_some_iff.1 hy2).1
      rw [if_neg (fun e2 => e (getD_inj h.nodup hib hj (hB.trans e2.symm)))]
      exact h.node j y hy2
  · rw [hnd]
    have hl := h.links j hj
    split
    · rename_i e
      rw [e] at hl
      exact hl
    · exact hl
  · rw [hnd] at hk2 ⊢
    split
    · rename_i e
      rw [if_pos e] at hk2
      have hn := h.names q j hq (by rw [e]; exact hk2)
      rw [e] at hn
      exact hn
    · rename_i e
      rw [if_neg e] at hk2
      exact h.names q j hq hk2
/-- One call more, in both. -/
theorem rel_next {σ σ' : Fs} {ρ ρ' : RFs} {bs : List Nat} {a : AAct} (h : Rel σ ρ bs) (ht : Tidy σ) (h0 : doE σ a = 0) (hN : Next σ (Fresh σ) a σ') (hM : RefNext ρ a ρ') : ∃ bs', Rel σ' ρ' bs' := by
  unfold Next at hN
  unfold RefNext at hM
  unfold doE at h0
  by_cases h3 : 0 ≤ a.kind ∧ a.kind ≤ 3
  · rw [if_pos h3] at hN hM h0
    obtain ⟨pb, b, hpb, hb, rfl⟩ := hN
    subst hM
    exact ⟨_, rel_made h ht (make_parts h0).1 (make_parts h0).2 hpb hb⟩
  · rw [if_neg h3] at hN hM h0
    by_cases h4 : a.kind = 4
    · rw [if_pos h4] at hN hM h0
      obtain ⟨pb, b, hpb, hb, rfl⟩ := hN
      obtain ⟨i, hi, rfl⟩ := hM
      obtain ⟨g1, g2, g3⟩ := link_parts h0
      have hlt := (h.find hi).2.1
      rw [hb] at hlt
      injection hlt with hlt
      subst hlt
      exact ⟨_, rel_linked h ht g1 g2 hpb hi (g3 _ hb)⟩
    · rw [if_neg h4] at hN hM
      by_cases h5 : a.kind = 5
      · rw [if_pos h5] at hN hM
        obtain ⟨b, hb, rfl⟩ := hN
        obtain ⟨i, hi, rfl⟩ := hM
        have hlt := (h.find hi).2.1
        rw [hb] at hlt
        injection hlt with hlt
        subst hlt
        exact ⟨_, rel_chowned h a.mode a.data.length hi⟩
      · rw [if_neg h5] at hN hM
        subst hN hM
        exact ⟨_, h⟩
end Go.Proofs.YtfhiioopimmahaaGreatDoor
