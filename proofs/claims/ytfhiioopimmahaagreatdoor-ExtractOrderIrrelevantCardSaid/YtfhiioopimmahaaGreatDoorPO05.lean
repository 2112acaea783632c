/- paxtar/vfs: New. slices.Grow of nil, Concat of two, Reverse at []string. -/
import Derived.Carry
import Derived.Shelf.Spec.SlicesGrow
import Derived.Shelf.Slices.Cells
import Derived.Test.YtfhiioopimmahaaGreatDoorPO04
namespace Go.Pax
open Go.RowKit
def inOpt (n : Int) : Prop := 1 ≤ n ∧ n ≤ 1000000
instance (n : Int) : Decidable (inOpt n) := inferInstanceAs (Decidable (_ ∧ _))
/-- What New answers. -/
def newE (first step : Int) (rot : List Int) : Int := if inOpt first ∧ inOpt step ∧ idxN rot 0 < 0 then 0 else 2
def rootNd (first : Int) : Nd := ⟨0, 493, first, 1, 0, [], 0, 0, [], []⟩
/-- A new file system; its root lies in block b. -/
def newFs (first step : Int) (rot : List Int) (b : Nat) : Fs := ⟨first + step, step, rot, 0, [([], b)], fun _ => rootNd first⟩
end Go.Pax
namespace Go.Proofs.YtfhiioopimmahaaGreatDoor
open Go.RowKit Go.Pax Go.Shelf
theorem fsNew {w : World} {first step : Int} {rot : List Int} {m : Nat} {v : Value} (hr : Row w 3 v (iv rot)) (hm : MapAt w m []) (hl : ∀ g ∈ m :: v.ownBlock.toList, g < w.heap.size) :
    FsIn (w.alloc (.cells #[.int .i64 first, .int .i64 step, v, .int .i64 0, .map (some m)] 94)) w.heap.size (w.heap.size :: m :: v.ownBlock.toList) ⟨first, step, rot, 0, [], fun _ => rootNd first⟩ m v (fun _ => .slice none 0 0) (fun _ => .slice none 0 0) := by
  have k : Chg [] w (w.alloc (.cells #[.int .i64 first, .int .i64 step, v, .int .i64 0, .map (some m)] 94)) := (Chg.refl _ _).alloc _
  refine ⟨heap_alloc_new _ _, hr.keep k (by simp), hm.chg k (by simp), fun p b hb => by simp at hb, ⟨by simp, by simp, fun g hg => by simp [hg]⟩, fun g hg => ?_, fun p b p' b' hb => by simp at hb⟩
  rw [World.size_alloc]
  rcases List.mem_cons.1 hg with rfl | hg
  · omega
  · have := hl g hg; omega
theorem rootIn {X : World} {f : Nat} {O : List Nat} {σ : Fs} {m : Nat} {rv : Value} {dv nv : Nat → Value} (h : FsIn X f O σ m rv dv nv) (hs : -9223372036854775808 ≤ σ.next + σ.step ∧ σ.next + σ.step ≤ 9223372036854775807) :
    Calls Tryz.prog 44 #[.pointer (some ⟨f, 0, none⟩), .agg #[.int .i64 0, .int .i64 493, .int .i64 0, .int .i64 0, .int .i64 0, .string ⟨#[]⟩, .int .i64 0, .int .i64 0], .slice none 0 0] X fun e w' =>
      ∃ b d, e = .returned (.pointer (some ⟨b, 0, none⟩)) ∧ FsIn w' f O { σ with next := σ.next + σ.step } m rv dv nv ∧ NewNode X w' b ⟨0, 493, σ.next, 1, 0, [], 0, 0, [], []⟩ d ∧ Chg [f] X w' :=
  inodeIn X f O σ m rv dv nv 0 493 0 0 0 0 0 [] [] none 0 [] h hs (Rd.nil _ _ _) (by simp) (by simp)
theorem rooted {w w5 w1 : World} {f : Nat} {O : List Nat} {first step : Int} {rot : List Int} {m : Nat} {rv d : Value} {dv nv : Nat → Value} {b : Nat} (h : FsIn w5 f O ⟨first + step, step, rot, 0, [], fun _ => rootNd first⟩ m rv dv nv) (hn : NewNode w w5 b (rootNd first) d)
    (hm : MapAt w1 m (mapE [] ++ [(ba [], b)])) (k : Chg [m] w5 w1) : FsAt w1 f (b :: (d.ownBlock.toList ++ O)) (newFs first step rot b) := by
  obtain ⟨hb1, hb2, hd⟩ := hn.fresh
  have h2 := (h.congr (dv' := fun _ => d) (nv' := fun _ => .slice none 0 0) (fun _ => rootNd first) (fun p b hb => by simp at hb)).widen (O' := b :: (d.ownBlock.toList ++ O)) (fun g hg => by simp [hg]) (fun g hg => by
    rcases List.mem_cons.1 hg with rfl | hg
    · exact hb2
    · rcases List.mem_append.1 hg with hg | hg
      · exact (hd g (by simpa using hg)).2
      · exact h.lt g hg)
  have hN : NodeAt w5 (b :: (d.ownBlock.toList ++ O)) b (rootNd first) d (.slice none 0 0) := ⟨hn.blk, hn.data, World.ownsRow_nil _ _ _ _, by simp, fun g hg => by simp [hg], fun g hg => by simp [Value.ownBlock] at hg⟩
  exact ⟨m, rv, fun _ => d, fun _ => .slice none 0 0, h2.addMap hN (fun p' b' hb' => by simp at hb') k hm⟩
/-- What New returns. -/
def NewAs (e : Ending) (w w' : World) (first step : Int) (rot : List Int) (E : Int) : Prop :=
  (E ≠ 0 → e = .returned (.tuple #[.pointer none, .int .i64 2]) ∧ Chg [] w w') ∧
  (E = 0 → ∃ f O b, e = .returned (.tuple #[.pointer (some ⟨f, 0, none⟩), .int .i64 0]) ∧ FsAt w' f O (newFs first step rot b) ∧ (∀ g ∈ O, w.heap.size ≤ g) ∧ Chg [] w w')
set_option maxRecDepth 100000 in
set_option maxHeartbeats 8000000 in
theorem new (w : World) (first step : Int) (rot : List Int) (ao : Option Addr) (c : Nat) (fp : List Nat) (hl : rot.length ≤ 17592186044416) (h : Rd w fp ao (iv rot)) :
    Calls Tryz.prog 20 #[.agg #[.int .i64 first, .int .i64 step, .slice ao rot.length c]] w fun e w' => NewAs e w w' first step rot (newE first step rot) := by
  have hE : newE first step rot = if inOpt first ∧ inOpt step ∧ idxN rot 0 < 0 then 0 else 2 := rfl
  have H := Lib.hid h
  have HE := Lib.hid hE
  clear h hE
  generalize newE first step rot = E at *
  generalize hDN : rot.length = n at *
  have HN := Lib.hid hDN
  clear hDN
  go_enter Tryz.func20, Tryz.ntmps20
  go_upto_region 2 with fail
  obtain ⟨W, hW⟩ : ∃ W, (w.alloc (.cells #[.int .i64 first, .int .i64 step, .slice ao n c] 33)).alloc (.cells #[.int .i64 first, .int .i64 step] 3) = W := ⟨_, rfl⟩
  have e1 : W.heap[w.heap.size + 1]? = some (.cells #[.int .i64 first, .int .i64 step] 3 (0, 0)) := by rw [← hW]; exact heap_new_at (by simp)
  have e0 : W.heap[w.heap.size]? = some (.cells #[.int .i64 first, .int .i64 step, .slice ao n c] 33 (0, 0)) := by rw [← hW]; exact heap_keep (heap_alloc_new _ _)
  have hkW : Chg [] w W := by rw [← hW]; exact ((Chg.refl _ _).alloc _).alloc _
  have HCN := Lib.hid (containsNeg W ao n c fp rot HN.out (by omega) (H.out.chg hkW (by simp)))
  have HKW := Lib.hid hkW
  have HRD := Lib.hid (H.out.chg hkW (by simp))
  rw [hW]
  clear hW hkW H
  generalize hA : w.heap.size = A at *
  have HA := Lib.hid hA
  have c0 : W.cell? ⟨A, 0, none⟩ = some (.int .i64 first) := cell_heap e0 0 rfl
  have c1 : W.cell? ⟨A, 1, none⟩ = some (.int .i64 step) := cell_heap e0 1 rfl
  have c2 : W.cell? ⟨A, 2, none⟩ = some (.slice ao n c) := cell_heap e0 2 rfl
  have b0 : W.cell? ⟨A + 1, 0, none⟩ = some (.int .i64 first) := cell_heap e1 0 rfl
  have b1 : W.cell? ⟨A + 1, 1, none⟩ = some (.int .i64 step) := cell_heap e1 1 rfl
  clear e0 e1 hA
  go_loop [13] (fun i => ∃ k : Nat, k ≤ 2 ∧ i = .int .i64 k ∧ (0 < k → inOpt first) ∧ (1 < k → inOpt step)) (fun i => 2 - (intOf i).toNat)
  case atStart => exact ⟨0, by omega, rfl, by omega, by omega⟩
  case round =>
    obtain ⟨k, hk, rfl, hk1, hk2⟩ := hrel
    have hk3 : k = 0 ∨ k = 1 ∨ k = 2 := by omega
    rcases hk3 with rfl | rfl | rfl
    · skip
      by_cases hlo : first < 1
      · go_wp2_with fail
        go_ret2
        refine ⟨fun _ => ⟨rfl, HKW.out⟩, fun h => ?_⟩
        rw [HE.out, if_neg (by rintro ⟨⟨h1, _⟩, _⟩; omega)] at h
        cases h

      by_cases hhi : 1000000 < first
      · go_wp2_with fail
        go_ret2
        refine ⟨fun _ => ⟨rfl, HKW.out⟩, fun h => ?_⟩
        rw [HE.out, if_neg (by rintro ⟨⟨_, h1⟩, _⟩; omega)] at h
        cases h

      go_wp2
      go_round
      case rel => exact ⟨1, by omega, by go_num, fun _ => ⟨by omega, by omega⟩, by omega⟩
      case measure => simp [intOf]
    · have h1 := hk1 (by omega)
      by_cases hlo : step < 1
      · go_wp2_with fail
        go_ret2
        refine ⟨fun _ => ⟨rfl, HKW.out⟩, fun h => ?_⟩
        rw [HE.out, if_neg (by rintro ⟨_, ⟨h1, _⟩, _⟩; omega)] at h
        cases h

      by_cases hhi : 1000000 < step
      · go_wp2_with fail
        go_ret2
        refine ⟨fun _ => ⟨rfl, HKW.out⟩, fun h => ?_⟩
        rw [HE.out, if_neg (by rintro ⟨_, ⟨_, h1⟩, _⟩; omega)] at h
        cases h

      go_wp2
      go_round
      case rel => exact ⟨2, by omega, by go_num, fun _ => h1, fun _ => ⟨by omega, by omega⟩⟩
      case measure => simp [intOf]
    · have h1 := hk1 (by omega)
      have h2 := hk2 (by omega)
      by_cases hrot : 0 ≤ idxN rot 0
      · have hdec : decide (0 ≤ idxN rot 0) = true := by simpa using hrot
        rw [hdec] at HCN
        go_wp2_with (go_at_call 41; refine (HCN.out).mono ?_; rintro e w' ⟨rfl, rfl⟩)
        go_ret2
        refine ⟨fun _ => ⟨rfl, HKW.out⟩, fun h => ?_⟩
        rw [HE.out, if_neg (by rintro ⟨_, _, h1⟩; omega)] at h
        cases h
      have hdec : decide (0 ≤ idxN rot 0) = false := by simpa using hrot
      rw [hdec] at HCN
      rw [if_pos ⟨h1, h2, by omega⟩] at HE
      have hE0 := HE.out
      subst hE0
      clear HE hdec hrot hk hk1 hk2
      go_upto_region 9 with (go_at_call 41; refine (HCN.out).mono ?_; rintro e w' ⟨rfl, rfl⟩)
      have hmm := @run_makeMap Tryz.prog
      refine wp_region_held_drew (S := fun q => q.cell? ⟨A, 0, none⟩ = some (.int .i64 first) ∧ q.cell? ⟨A, 1, none⟩ = some (.int .i64 step) ∧ q.cell? ⟨A, 2, none⟩ = some (.slice ao n c) ∧ Chg [] w' q) (by kernel_rfl) ?_ (fun hHeld => ?_)
      · exact ⟨by simp [*], by simp [*], by simp [*], (Chg.refl _ _).drew⟩
      refine wpAnyH_take (i := 0) (oi := ?oi1) (v := ?v1) ?hi1 (by kernel_rfl) (by kernel_rfl) (by kernel_rfl) ?hQ1 (Or.inl ⟨?hw1, ?hy1⟩) (by assumption) ?hr1
      case hi1 => simp only [List.getElem?_toArray, List.getElem?_cons_zero]; rfl
      case hQ1 => exact fun _ _ _ h => h
      case hw1 => rfl
      case hy1 => intro w hSw; (try dsimp only at hSw); go_simp; (try with_reducible rfl)
      case hr1 =>
      simp only [Act.put, List.setIfInBounds_toArray, List.set_cons_zero, List.set_cons_succ]
      refine wpAnyH_take (i := 1) (oi := ?oi2) (v := ?v2) ?hi2 (by kernel_rfl) (by kernel_rfl) (by kernel_rfl) ?hQ2 (Or.inl ⟨?hw2, ?hy2⟩) (by assumption) ?hr2
      case hi2 => simp only [List.getElem?_toArray, List.getElem?_cons_succ, List.getElem?_cons_zero]; rfl
      case hQ2 => exact fun _ _ _ h => h
      case hw2 => rfl
      case hy2 => intro w hSw; (try dsimp only at hSw); go_simp; (try with_reducible rfl)
      case hr2 =>
      simp only [Act.put, List.setIfInBounds_toArray, List.set_cons_zero, List.set_cons_succ]
      refine wpAnyH_take (i := 2) (oi := ?oi3) (v := ?v3) ?hi3 (by kernel_rfl) (by kernel_rfl) (by kernel_rfl) ?hQ3 (Or.inl ⟨?hw3, ?hy3⟩) (by assumption) ?hr3
      case hi3 => simp only [List.getElem?_toArray, List.getElem?_cons_succ, List.getElem?_cons_zero]; rfl
      case hQ3 => exact fun _ _ _ h => h
      case hw3 => rfl
      case hy3 => intro w hSw; (try dsimp only at hSw); go_simp; (try with_reducible rfl)
      case hr3 =>
      simp only [Act.put, List.setIfInBounds_toArray, List.set_cons_zero, List.set_cons_succ]
      refine wpAnyH_take (i := 3) (oi := ?oi4) (v := ?v4) ?hi4 (by kernel_rfl) (by kernel_rfl) (by kernel_rfl) ?hQ4 (Or.inl ⟨?hw4, ?hy4⟩) (by assumption) ?hr4
      case hi4 => simp only [List.getElem?_toArray, List.getElem?_cons_succ, List.getElem?_cons_zero]; rfl
      case hQ4 => exact fun _ _ _ h => h
      case hw4 => rfl
      case hy4 => intro w hSw; (try dsimp only at hSw); go_simp; (try with_reducible rfl)
      case hr4 =>
      simp only [Act.put, List.setIfInBounds_toArray, List.set_cons_zero, List.set_cons_succ]
      refine wpAnyH_take (i := 4) (oi := ?oi5) (v := ?v5) ?hi5 (by kernel_rfl) (by kernel_rfl) (by kernel_rfl) ?hQ5 (Or.inl ⟨?hw5, ?hy5⟩) (by assumption) ?hr5
      case hi5 => simp only [List.getElem?_toArray, List.getElem?_cons_succ, List.getElem?_cons_zero]; rfl
      case hQ5 => exact fun _ _ _ h => h
      case hw5 => rfl
      case hy5 => intro w hSw; (try dsimp only at hSw); go_simp; (try with_reducible rfl)
      case hr5 =>
      simp only [Act.put, List.setIfInBounds_toArray, List.set_cons_zero, List.set_cons_succ]
      refine wpAnyH_take (i := 5) (oi := ?oi6) (v := ?v6) ?hi6 (by kernel_rfl) (by kernel_rfl) (by kernel_rfl) ?hQ6 (Or.inl ⟨?hw6, ?hy6⟩) (by assumption) ?hr6
      case hi6 => simp only [List.getElem?_toArray, List.getElem?_cons_succ, List.getElem?_cons_zero]; rfl
      case hQ6 => exact fun _ _ _ h => h
      case hw6 => rfl
      case hy6 => intro w hSw; (try dsimp only at hSw); go_simp; (try with_reducible rfl)
      case hr6 =>
      simp only [Act.put, List.setIfInBounds_toArray, List.set_cons_zero, List.set_cons_succ]
      refine wpAnyH_ready (rs := [6, 7]) (by kernel_rfl) (by simp) (AllReadyH.cons (o := ?oc7) ?hc7 (fun K hK => ?hs7) (AllReadyH.cons (o := ?oc8) ?hc8 (fun K hK => ?hs8) AllReadyH.nil))
      case hc7 => simp only [List.getElem?_toArray, List.getElem?_cons_succ, List.getElem?_cons_zero]; rfl
      case hc8 => simp only [List.getElem?_toArray, List.getElem?_cons_succ, List.getElem?_cons_zero]; rfl
      case hs7 =>
        rw [if_pos (by rfl)]
        go_simp
        go_at_call 43; refine (cloneInts _ ao n c fp rot HN.out (by omega) (HRD.out.chg (S := []) hHeld.2.2.2 (by simp))).mono ?_; rintro e w3 ⟨a3, c3, rfl, hown3, hgr3⟩; have k3 := Chg.of_grown (S := []) hgr3 (by simp); have HO3 := Lib.hid hown3; clear hown3 hgr3
        go_wp2_with fail
        refine hK.out _ _ ?_ (fun hHeld => ?_)
        · obtain ⟨q0, q1, q2, q3⟩ := hHeld; exact ⟨k3.cell q0 (by simp), k3.cell q1 (by simp), k3.cell q2 (by simp), q3.trans k3⟩
        clear hK K
        try simp only [Act.put, List.setIfInBounds_toArray, List.set_cons_zero, List.set_cons_succ]
        refine wpAnyH_ready (rs := [7]) (by kernel_rfl) (by simp) (AllReadyH.cons (o := ?oc9) ?hc9 (fun K hK => ?hs9) AllReadyH.nil)
        case hc9 => simp only [List.getElem?_toArray, List.getElem?_cons_succ, List.getElem?_cons_zero]; rfl
        case hs9 =>
        rw [if_pos (by rfl)]
        go_simp
        skip
        go_wp2_with fail
        refine hK.out _ _ ?_ (fun hHeld => ?_)
        · obtain ⟨q0, q1, q2, q3⟩ := hHeld; exact ⟨Lib.cell?_alloc_some _ q0, Lib.cell?_alloc_some _ q1, Lib.cell?_alloc_some _ q2, q3.alloc _⟩
        clear hK K
        try simp only [Act.put, List.setIfInBounds_toArray, List.set_cons_zero, List.set_cons_succ]
        refine wpAnyH_take (i := 8) (oi := ?oi10) (v := ?v10) ?hi10 (by kernel_rfl) (by kernel_rfl) (by kernel_rfl) ?hQ10 (Or.inl ⟨?hw10, ?hy10⟩) (by assumption) ?hr10
        case hi10 => simp only [List.getElem?_toArray, List.getElem?_cons_succ, List.getElem?_cons_zero]; rfl
        case hQ10 => exact fun _ _ _ h => h
        case hw10 => rfl
        case hy10 => intro w hSw; (try dsimp only at hSw); go_simp; (try with_reducible rfl)
        case hr10 =>
        simp only [Act.put, List.setIfInBounds_toArray, List.set_cons_zero, List.set_cons_succ]
        refine wpAnyH_ready (rs := [9]) (by kernel_rfl) (by simp) (AllReadyH.cons (o := ?oc11) ?hc11 (fun K hK => ?hs11) AllReadyH.nil)
        case hc11 => simp only [List.getElem?_toArray, List.getElem?_cons_succ, List.getElem?_cons_zero]; rfl
        case hs11 =>
        rw [if_pos (by rfl)]
        go_simp
        skip
        go_wp2_with fail
        refine hK.out _ _ ?_ (fun hHeld => ?_)
        · obtain ⟨q0, q1, q2, q3⟩ := hHeld; exact ⟨Lib.cell?_alloc_some _ q0, Lib.cell?_alloc_some _ q1, Lib.cell?_alloc_some _ q2, q3.alloc _⟩
        clear hK K
        try simp only [Act.put, List.setIfInBounds_toArray, List.set_cons_zero, List.set_cons_succ]
        refine wpAnyH_take (i := 10) (oi := ?oi12) (v := ?v12) ?hi12 (by kernel_rfl) (by kernel_rfl) (by kernel_rfl) ?hQ12 (Or.inl ⟨?hw12, ?hy12⟩) (by assumption) ?hr12
        case hi12 => simp only [List.getElem?_toArray, List.getElem?_cons_succ, List.getElem?_cons_zero]; rfl
        case hQ12 => exact fun _ _ _ h => h
        case hw12 => rfl
        case hy12 => intro w hSw; (try dsimp only at hSw); go_simp; (try with_reducible rfl)
        case hr12 =>
        simp only [Act.put, List.setIfInBounds_toArray, List.set_cons_zero, List.set_cons_succ]
        refine wpAnyH_done (by kernel_rfl) ?_ _
        clear hHeld
        have hrow : Row (w3.alloc (.map #[] 0)) 3 (.slice a3 n c3) (iv rot) := (own_zero HO3.out (by rw [iv_length, HN.out])).keep ((Chg.refl [] w3).alloc _) (by simp)
        have hmap : MapAt (w3.alloc (.map #[] 0)) w3.heap.size [] := MapAt.new w3
        have hkn : Chg [] w' (w3.alloc (.map #[] 0)) := ((Chg.refl [] w').drew.trans k3).alloc _
        have hfr := (own_rd2 HO3.out).2.1
        have hsz : (w'.drew).heap.size = w'.heap.size := rfl
        have hltn : ∀ g ∈ w3.heap.size :: (Value.slice a3 n c3).ownBlock.toList, g < (w3.alloc (.map #[] 0)).heap.size := by
          intro g hg
          rw [World.size_alloc]
          rcases List.mem_cons.1 hg with rfl | hg
          · omega
          · have := hfr g hg; omega
        have hOn : ∀ g ∈ (w3.alloc (.map #[] 0)).heap.size :: w3.heap.size :: (Value.slice a3 n c3).ownBlock.toList, w'.heap.size ≤ g := by
          have hs3 := k3.size
          intro g hg
          rw [World.size_alloc] at hg
          rcases List.mem_cons.1 hg with rfl | hg
          · omega
          · rcases List.mem_cons.1 hg with rfl | hg
            · omega
            · have := hfr g hg; omega
        have hX : FsIn ((w3.alloc (.map #[] 0)).alloc (.cells #[.int .i64 first, .int .i64 step, .slice a3 n c3, .int .i64 0, .map (some w3.heap.size)] 94)) (w3.alloc (.map #[] 0)).heap.size ((w3.alloc (.map #[] 0)).heap.size :: w3.heap.size :: (Value.slice a3 n c3).ownBlock.toList) ⟨first, step, rot, 0, [], fun _ => rootNd first⟩ w3.heap.size (.slice a3 n c3) (fun _ => .slice none 0 0) (fun _ => .slice none 0 0) := fsNew hrow hmap hltn
        have hkX : Chg [] w' ((w3.alloc (.map #[] 0)).alloc (.cells #[.int .i64 first, .int .i64 step, .slice a3 n c3, .int .i64 0, .map (some w3.heap.size)] 94)) := hkn.alloc _
        have hOX : ∀ g ∈ ((w3.alloc (.map #[] 0)).heap.size :: w3.heap.size :: (Value.slice a3 n c3).ownBlock.toList), w'.heap.size ≤ g := hOn
        obtain ⟨X, hXX⟩ : ∃ X, (w3.alloc (.map #[] 0)).alloc (.cells #[.int .i64 first, .int .i64 step, .slice a3 n c3, .int .i64 0, .map (some w3.heap.size)] 94) = X := ⟨_, rfl⟩
        rw [hXX]
        rw [hXX] at hX hkX
        clear hXX hrow hmap hltn hkn hOn
        rw [World.size_alloc] at hX hOX
        generalize w3.heap.size + 1 = F at *
        generalize w3.heap.size = M at *
        generalize (Value.slice a3 n c3).ownBlock.toList = OB at *
        have x4 : X.cell? ⟨F, 4, none⟩ = some (.map (some M)) := hX.cells.2.2.2.2
        have hltX : F < X.heap.size := lt_of_block hX.blk
        have hro := rootIn (hX.foreign (w' := X.drew) (S := []) ((Chg.refl _ _).drew) (by simp)) (by simp only; unfold inOpt at h1 h2; omega)
        have HX := Lib.hid (And.intro hkX (And.intro hOX hro))
        clear hX hkX hOX hro
        go_upto_region 10 with (fail)
        refine wp_region_held_drew (S := fun q => q.cell? ⟨F, 4, none⟩ = some (.map (some M))) (by kernel_rfl) ?_ (fun hHeld => ?_)
        · exact x4
        refine wpAnyH_take (i := 0) (oi := ?oi13) (v := ?v13) ?hi13 (by kernel_rfl) (by kernel_rfl) (by kernel_rfl) ?hQ13 (Or.inl ⟨?hw13, ?hy13⟩) (by assumption) ?hr13
        case hi13 => simp only [List.getElem?_toArray, List.getElem?_cons_zero]; rfl
        case hQ13 => exact fun _ _ _ h => h
        case hw13 => rfl
        case hy13 => intro w hSw; (try dsimp only at hSw); go_simp; (try with_reducible rfl)
        case hr13 =>
        simp only [Act.put, List.setIfInBounds_toArray, List.set_cons_zero, List.set_cons_succ]
        refine wpAnyH_take (i := 1) (oi := ?oi14) (v := ?v14) ?hi14 (by kernel_rfl) (by kernel_rfl) (by kernel_rfl) ?hQ14 (Or.inl ⟨?hw14, ?hy14⟩) (by assumption) ?hr14
        case hi14 => simp only [List.getElem?_toArray, List.getElem?_cons_succ, List.getElem?_cons_zero]; rfl
        case hQ14 => exact fun _ _ _ h => h
        case hw14 => rfl
        case hy14 => intro w hSw; (try dsimp only at hSw); go_simp; (try with_reducible rfl)
        case hr14 =>
        simp only [Act.put, List.setIfInBounds_toArray, List.set_cons_zero, List.set_cons_succ]
        refine wpAnyH_take (i := 2) (oi := ?oi15) (v := ?v15) ?hi15 (by kernel_rfl) (by kernel_rfl) (by kernel_rfl) ?hQ15 (Or.inl ⟨?hw15, ?hy15⟩) (by assumption) ?hr15
        case hi15 => simp only [List.getElem?_toArray, List.getElem?_cons_succ, List.getElem?_cons_zero]; rfl
        case hQ15 => exact fun _ _ _ h => h
        case hw15 => rfl
        case hy15 => intro w hSw; (try dsimp only at hSw); go_simp; (try with_reducible rfl)
        case hr15 =>
        simp only [Act.put, List.setIfInBounds_toArray, List.set_cons_zero, List.set_cons_succ]
        refine wpAnyH_take (i := 3) (oi := ?oi16) (v := ?v16) ?hi16 (by kernel_rfl) (by kernel_rfl) (by kernel_rfl) ?hQ16 (Or.inl ⟨?hw16, ?hy16⟩) (by assumption) ?hr16
        case hi16 => simp only [List.getElem?_toArray, List.getElem?_cons_succ, List.getElem?_cons_zero]; rfl
        case hQ16 => exact fun _ _ _ h => h
        case hw16 => rfl
        case hy16 => intro w hSw; (try dsimp only at hSw); go_simp; (try with_reducible rfl)
        case hr16 =>
        simp only [Act.put, List.setIfInBounds_toArray, List.set_cons_zero, List.set_cons_succ]
        refine wpAnyH_take (i := 4) (oi := ?oi17) (v := ?v17) ?hi17 (by kernel_rfl) (by kernel_rfl) (by kernel_rfl) ?hQ17 (Or.inl ⟨?hw17, ?hy17⟩) (by assumption) ?hr17
        case hi17 => simp only [List.getElem?_toArray, List.getElem?_cons_succ, List.getElem?_cons_zero]; rfl
        case hQ17 => exact fun _ _ _ h => h
        case hw17 => rfl
        case hy17 => intro w hSw; (try dsimp only at hSw); go_simp; (try with_reducible rfl)
        case hr17 =>
        simp only [Act.put, List.setIfInBounds_toArray, List.set_cons_zero, List.set_cons_succ]
        refine wpAnyH_take (i := 5) (oi := ?oi18) (v := ?v18) ?hi18 (by kernel_rfl) (by kernel_rfl) (by kernel_rfl) ?hQ18 (Or.inl ⟨?hw18, ?hy18⟩) (by assumption) ?hr18
        case hi18 => simp only [List.getElem?_toArray, List.getElem?_cons_succ, List.getElem?_cons_zero]; rfl
        case hQ18 => exact fun _ _ _ h => h
        case hw18 => rfl
        case hy18 => intro w hSw; (try dsimp only at hSw); go_simp; (try with_reducible rfl)
        case hr18 =>
        simp only [Act.put, List.setIfInBounds_toArray, List.set_cons_zero, List.set_cons_succ]
        refine wpAnyH_ready (rs := [6]) (by kernel_rfl) (by simp) (AllReadyH.cons (o := ?oc19) ?hc19 (fun K hK => ?hs19) AllReadyH.nil)
        case hc19 => simp only [List.getElem?_toArray, List.getElem?_cons_succ, List.getElem?_cons_zero]; rfl
        case hs19 =>
        rw [if_pos (by rfl)]
        go_simp
        go_at_call 44; refine HX.out.2.2.mono ?_; rintro e w5 ⟨b, d, rfl, h5, hn5, k5⟩; have y4 := h5.cells.2.2.2.2; obtain ⟨w1, hru, hmp, hk1, hz1⟩ := run_update_new (P := Tryz.prog) (T := 92) Tryz.underlying92 Tryz.underlying9 h5.mp (k := ba []) (b := b) (by rfl); have y5 : w1.cell? ⟨F, 4, none⟩ = some (.map (some M)) := (by obtain ⟨es, kc, hmm5, _⟩ := h5.mp; exact hk1.cell y4 (by simpa using ne_of_map h5.blk hmm5)); have H5 := Lib.hid (And.intro h5 (And.intro hn5 (And.intro k5 (And.intro hmp hk1)))); clear h5 hn5 k5 hmp hk1; have hru : (Instr.mapUpdate 92 (.map (some M)) (.string ⟨#[]⟩) (.pointer (some ⟨b, 0, none⟩))).run Tryz.prog w5 = .ok () w1 := hru
        go_wp2_with fail
        refine hK.out _ _ ?_ (fun hHeld => ?_)
        · exact y4
        clear hK K
        try simp only [Act.put, List.setIfInBounds_toArray, List.set_cons_zero, List.set_cons_succ]
        refine wpAnyH_ready (rs := [7]) (by kernel_rfl) (by simp) (AllReadyH.cons (o := ?oc20) ?hc20 (fun K hK => ?hs20) AllReadyH.nil)
        case hc20 => simp only [List.getElem?_toArray, List.getElem?_cons_succ, List.getElem?_cons_zero]; rfl
        case hs20 =>
        rw [if_pos (by rfl)]
        go_simp
        skip
        go_wp2_with fail
        refine hK.out _ _ ?_ (fun hHeld => ?_)
        · exact y5
        clear hK K
        try simp only [Act.put, List.setIfInBounds_toArray, List.set_cons_zero, List.set_cons_succ]
        refine wpAnyH_done (by kernel_rfl) ?_ _
        clear hHeld
        go_wp2_with fail
        go_ret2
        refine ⟨fun h => absurd rfl h, fun _ => ?_⟩
        obtain ⟨hkX, hOX, _⟩ := HX.out
        obtain ⟨h5, hn5, k5, hmp, hk1⟩ := H5.out
        have k5' : Chg [F] X w5 := (Chg.refl _ X).drew.trans k5
        have hs0 := HKW.out.size
        have hsX := hkX.size
        refine ⟨F, b :: (d.ownBlock.toList ++ (F :: M :: OB)), b, rfl, rooted h5 hn5 hmp hk1, fun g hg => ?_, ?_⟩
        · obtain ⟨hb1, hb2, hd⟩ := hn5.fresh
          have hsd : X.drew.heap.size = X.heap.size := rfl
          rcases List.mem_cons.1 hg with rfl | hg
          · omega
          · rcases List.mem_append.1 hg with hg | hg
            · have := (hd g (by simpa using hg)).1; omega
            · have := hOX g hg; omega
        · refine HKW.out.trans (hkX.trans' (k5'.trans' hk1 (fun x hx _ => List.mem_cons_of_mem M hx) (fun x hx _ => ?_)) (by simp) (fun x hx hl => ?_))
          · simp at hx; subst hx; simp
          · have h6 : w'.heap.size ≤ x := hOX x (by simp at hx; rcases hx with rfl | rfl <;> simp)
            omega
      case hs8 =>
        rw [if_pos (by rfl)]
        go_simp
        skip
        go_wp2_with fail
        refine hK.out _ _ ?_ (fun hHeld => ?_)
        · obtain ⟨q0, q1, q2, q3⟩ := hHeld; exact ⟨Lib.cell?_alloc_some _ q0, Lib.cell?_alloc_some _ q1, Lib.cell?_alloc_some _ q2, q3.alloc _⟩
        clear hK K
        try simp only [Act.put, List.setIfInBounds_toArray, List.set_cons_zero, List.set_cons_succ]
        refine wpAnyH_ready (rs := [6]) (by kernel_rfl) (by simp) (AllReadyH.cons (o := ?oc21) ?hc21 (fun K hK => ?hs21) AllReadyH.nil)
        case hc21 => simp only [List.getElem?_toArray, List.getElem?_cons_succ, List.getElem?_cons_zero]; rfl
        case hs21 =>
        rw [if_pos (by rfl)]
        go_simp
        go_at_call 43; refine (cloneInts _ ao n c fp rot HN.out (by omega) (HRD.out.chg (S := []) hHeld.2.2.2 (by simp))).mono ?_; rintro e w3 ⟨a3, c3, rfl, hown3, hgr3⟩; have k3 := Chg.of_grown (S := []) hgr3 (by simp); have HO3 := Lib.hid hown3; clear hown3 hgr3
        go_wp2_with fail
        refine hK.out _ _ ?_ (fun hHeld => ?_)
        · obtain ⟨q0, q1, q2, q3⟩ := hHeld; exact ⟨k3.cell q0 (by simp), k3.cell q1 (by simp), k3.cell q2 (by simp), q3.trans k3⟩
        clear hK K
        try simp only [Act.put, List.setIfInBounds_toArray, List.set_cons_zero, List.set_cons_succ]
        refine wpAnyH_take (i := 8) (oi := ?oi22) (v := ?v22) ?hi22 (by kernel_rfl) (by kernel_rfl) (by kernel_rfl) ?hQ22 (Or.inl ⟨?hw22, ?hy22⟩) (by assumption) ?hr22
        case hi22 => simp only [List.getElem?_toArray, List.getElem?_cons_succ, List.getElem?_cons_zero]; rfl
        case hQ22 => exact fun _ _ _ h => h
        case hw22 => rfl
        case hy22 => intro w hSw; (try dsimp only at hSw); go_simp; (try with_reducible rfl)
        case hr22 =>
        simp only [Act.put, List.setIfInBounds_toArray, List.set_cons_zero, List.set_cons_succ]
        refine wpAnyH_ready (rs := [9]) (by kernel_rfl) (by simp) (AllReadyH.cons (o := ?oc23) ?hc23 (fun K hK => ?hs23) AllReadyH.nil)
        case hc23 => simp only [List.getElem?_toArray, List.getElem?_cons_succ, List.getElem?_cons_zero]; rfl
        case hs23 =>
        rw [if_pos (by rfl)]
        go_simp
        skip
        go_wp2_with fail
        refine hK.out _ _ ?_ (fun hHeld => ?_)
        · obtain ⟨q0, q1, q2, q3⟩ := hHeld; exact ⟨Lib.cell?_alloc_some _ q0, Lib.cell?_alloc_some _ q1, Lib.cell?_alloc_some _ q2, q3.alloc _⟩
        clear hK K
        try simp only [Act.put, List.setIfInBounds_toArray, List.set_cons_zero, List.set_cons_succ]
        refine wpAnyH_take (i := 10) (oi := ?oi24) (v := ?v24) ?hi24 (by kernel_rfl) (by kernel_rfl) (by kernel_rfl) ?hQ24 (Or.inl ⟨?hw24, ?hy24⟩) (by assumption) ?hr24
        case hi24 => simp only [List.getElem?_toArray, List.getElem?_cons_succ, List.getElem?_cons_zero]; rfl
        case hQ24 => exact fun _ _ _ h => h
        case hw24 => rfl
        case hy24 => intro w hSw; (try dsimp only at hSw); go_simp; (try with_reducible rfl)
        case hr24 =>
        simp only [Act.put, List.setIfInBounds_toArray, List.set_cons_zero, List.set_cons_succ]
        refine wpAnyH_done (by kernel_rfl) ?_ _
        clear hHeld
        have hrow : Row w3 3 (.slice a3 n c3) (iv rot) := own_zero HO3.out (by rw [iv_length, HN.out])
        have hmap : MapAt w3 w'.heap.size [] := (MapAt.new w').chg ((Chg.refl [] _).drew.trans k3) (by simp)
        have hkn : Chg [] w' w3 := ((Chg.refl [] w').alloc _).drew.trans k3
        have hfr := (own_rd2 HO3.out).2.1
        have hsz : (w'.drew).heap.size = w'.heap.size := rfl
        have hsB := k3.size
        have hsB2 : ((w'.alloc (.map #[] 0)).drew).heap.size = w'.heap.size + 1 := by show (w'.alloc _).heap.size = _; simp
        have hltn : ∀ g ∈ w'.heap.size :: (Value.slice a3 n c3).ownBlock.toList, g < w3.heap.size := by
          intro g hg
          rcases List.mem_cons.1 hg with rfl | hg
          · omega
          · have := hfr g hg; omega
        have hOn : ∀ g ∈ w3.heap.size :: w'.heap.size :: (Value.slice a3 n c3).ownBlock.toList, w'.heap.size ≤ g := by
          intro g hg
          rcases List.mem_cons.1 hg with rfl | hg
          · omega
          · rcases List.mem_cons.1 hg with rfl | hg
            · omega
            · have := hfr g hg
              first | omega | (rw [World.size_alloc] at this; omega)
        have hX : FsIn (w3.alloc (.cells #[.int .i64 first, .int .i64 step, .slice a3 n c3, .int .i64 0, .map (some w'.heap.size)] 94)) w3.heap.size (w3.heap.size :: w'.heap.size :: (Value.slice a3 n c3).ownBlock.toList) ⟨first, step, rot, 0, [], fun _ => rootNd first⟩ w'.heap.size (.slice a3 n c3) (fun _ => .slice none 0 0) (fun _ => .slice none 0 0) := fsNew hrow hmap hltn
        have hkX : Chg [] w' (w3.alloc (.cells #[.int .i64 first, .int .i64 step, .slice a3 n c3, .int .i64 0, .map (some w'.heap.size)] 94)) := hkn.alloc _
        have hOX : ∀ g ∈ (w3.heap.size :: w'.heap.size :: (Value.slice a3 n c3).ownBlock.toList), w'.heap.size ≤ g := hOn
        obtain ⟨X, hXX⟩ : ∃ X, w3.alloc (.cells #[.int .i64 first, .int .i64 step, .slice a3 n c3, .int .i64 0, .map (some w'.heap.size)] 94) = X := ⟨_, rfl⟩
        rw [hXX]
        rw [hXX] at hX hkX
        clear hXX hrow hmap hltn hkn hOn
        skip
        generalize w3.heap.size = F at *
        generalize hM : w'.heap.size = M at hX ⊢
        replace hOX : ∀ g ∈ (F :: M :: (Value.slice a3 n c3).ownBlock.toList), w'.heap.size ≤ g := by rw [← hM]; exact hOX
        clear hM
        generalize (Value.slice a3 n c3).ownBlock.toList = OB at *
        have x4 : X.cell? ⟨F, 4, none⟩ = some (.map (some M)) := hX.cells.2.2.2.2
        have hltX : F < X.heap.size := lt_of_block hX.blk
        have hro := rootIn (hX.foreign (w' := X.drew) (S := []) ((Chg.refl _ _).drew) (by simp)) (by simp only; unfold inOpt at h1 h2; omega)
        have HX := Lib.hid (And.intro hkX (And.intro hOX hro))
        clear hX hkX hOX hro
        go_upto_region 10 with (fail)
        refine wp_region_held_drew (S := fun q => q.cell? ⟨F, 4, none⟩ = some (.map (some M))) (by kernel_rfl) ?_ (fun hHeld => ?_)
        · exact x4
        refine wpAnyH_take (i := 0) (oi := ?oi25) (v := ?v25) ?hi25 (by kernel_rfl) (by kernel_rfl) (by kernel_rfl) ?hQ25 (Or.inl ⟨?hw25, ?hy25⟩) (by assumption) ?hr25
        case hi25 => simp only [List.getElem?_toArray, List.getElem?_cons_zero]; rfl
        case hQ25 => exact fun _ _ _ h => h
        case hw25 => rfl
        case hy25 => intro w hSw; (try dsimp only at hSw); go_simp; (try with_reducible rfl)
        case hr25 =>
        simp only [Act.put, List.setIfInBounds_toArray, List.set_cons_zero, List.set_cons_succ]
        refine wpAnyH_take (i := 1) (oi := ?oi26) (v := ?v26) ?hi26 (by kernel_rfl) (by kernel_rfl) (by kernel_rfl) ?hQ26 (Or.inl ⟨?hw26, ?hy26⟩) (by assumption) ?hr26
        case hi26 => simp only [List.getElem?_toArray, List.getElem?_cons_succ, List.getElem?_cons_zero]; rfl
        case hQ26 => exact fun _ _ _ h => h
        case hw26 => rfl
        case hy26 => intro w hSw; (try dsimp only at hSw); go_simp; (try with_reducible rfl)
        case hr26 =>
        simp only [Act.put, List.setIfInBounds_toArray, List.set_cons_zero, List.set_cons_succ]
        refine wpAnyH_take (i := 2) (oi := ?oi27) (v := ?v27) ?hi27 (by kernel_rfl) (by kernel_rfl) (by kernel_rfl) ?hQ27 (Or.inl ⟨?hw27, ?hy27⟩) (by assumption) ?hr27
        case hi27 => simp only [List.getElem?_toArray, List.getElem?_cons_succ, List.getElem?_cons_zero]; rfl
        case hQ27 => exact fun _ _ _ h => h
        case hw27 => rfl
        case hy27 => intro w hSw; (try dsimp only at hSw); go_simp; (try with_reducible rfl)
        case hr27 =>
        simp only [Act.put, List.setIfInBounds_toArray, List.set_cons_zero, List.set_cons_succ]
        refine wpAnyH_take (i := 3) (oi := ?oi28) (v := ?v28) ?hi28 (by kernel_rfl) (by kernel_rfl) (by kernel_rfl) ?hQ28 (Or.inl ⟨?hw28, ?hy28⟩) (by assumption) ?hr28
        case hi28 => simp only [List.getElem?_toArray, List.getElem?_cons_succ, List.getElem?_cons_zero]; rfl
        case hQ28 => exact fun _ _ _ h => h
        case hw28 => rfl
        case hy28 => intro w hSw; (try dsimp only at hSw); go_simp; (try with_reducible rfl)
        case hr28 =>
        simp only [Act.put, List.setIfInBounds_toArray, List.set_cons_zero, List.set_cons_succ]
        refine wpAnyH_take (i := 4) (oi := ?oi29) (v := ?v29) ?hi29 (by kernel_rfl) (by kernel_rfl) (by kernel_rfl) ?hQ29 (Or.inl ⟨?hw29, ?hy29⟩) (by assumption) ?hr29
        case hi29 => simp only [List.getElem?_toArray, List.getElem?_cons_succ, List.getElem?_cons_zero]; rfl
        case hQ29 => exact fun _ _ _ h => h
        case hw29 => rfl
        case hy29 => intro w hSw; (try dsimp only at hSw); go_simp; (try with_reducible rfl)
        case hr29 =>
        simp only [Act.put, List.setIfInBounds_toArray, List.set_cons_zero, List.set_cons_succ]
        refine wpAnyH_take (i := 5) (oi := ?oi30) (v := ?v30) ?hi30 (by kernel_rfl) (by kernel_rfl) (by kernel_rfl) ?hQ30 (Or.inl ⟨?hw30, ?hy30⟩) (by assumption) ?hr30
        case hi30 => simp only [List.getElem?_toArray, List.getElem?_cons_succ, List.getElem?_cons_zero]; rfl
        case hQ30 => exact fun _ _ _ h => h
        case hw30 => rfl
        case hy30 => intro w hSw; (try dsimp only at hSw); go_simp; (try with_reducible rfl)
        case hr30 =>
        simp only [Act.put, List.setIfInBounds_toArray, List.set_cons_zero, List.set_cons_succ]
        refine wpAnyH_ready (rs := [6]) (by kernel_rfl) (by simp) (AllReadyH.cons (o := ?oc31) ?hc31 (fun K hK => ?hs31) AllReadyH.nil)
        case hc31 => simp only [List.getElem?_toArray, List.getElem?_cons_succ, List.getElem?_cons_zero]; rfl
        case hs31 =>
        rw [if_pos (by rfl)]
        go_simp
        go_at_call 44; refine HX.out.2.2.mono ?_; rintro e w5 ⟨b, d, rfl, h5, hn5, k5⟩; have y4 := h5.cells.2.2.2.2; obtain ⟨w1, hru, hmp, hk1, hz1⟩ := run_update_new (P := Tryz.prog) (T := 92) Tryz.underlying92 Tryz.underlying9 h5.mp (k := ba []) (b := b) (by rfl); have y5 : w1.cell? ⟨F, 4, none⟩ = some (.map (some M)) := (by obtain ⟨es, kc, hmm5, _⟩ := h5.mp; exact hk1.cell y4 (by simpa using ne_of_map h5.blk hmm5)); have H5 := Lib.hid (And.intro h5 (And.intro hn5 (And.intro k5 (And.intro hmp hk1)))); clear h5 hn5 k5 hmp hk1; have hru : (Instr.mapUpdate 92 (.map (some M)) (.string ⟨#[]⟩) (.pointer (some ⟨b, 0, none⟩))).run Tryz.prog w5 = .ok () w1 := hru
        go_wp2_with fail
        refine hK.out _ _ ?_ (fun hHeld => ?_)
        · exact y4
        clear hK K
        try simp only [Act.put, List.setIfInBounds_toArray, List.set_cons_zero, List.set_cons_succ]
        refine wpAnyH_ready (rs := [7]) (by kernel_rfl) (by simp) (AllReadyH.cons (o := ?oc32) ?hc32 (fun K hK => ?hs32) AllReadyH.nil)
        case hc32 => simp only [List.getElem?_toArray, List.getElem?_cons_succ, List.getElem?_cons_zero]; rfl
        case hs32 =>
        rw [if_pos (by rfl)]
        go_simp
        skip
        go_wp2_with fail
        refine hK.out _ _ ?_ (fun hHeld => ?_)
        · exact y5
        clear hK K
        try simp only [Act.put, List.setIfInBounds_toArray, List.set_cons_zero, List.set_cons_succ]
        refine wpAnyH_done (by kernel_rfl) ?_ _
        clear hHeld
        go_wp2_with fail
        go_ret2
        refine ⟨fun h => absurd rfl h, fun _ => ?_⟩
        obtain ⟨hkX, hOX, _⟩ := HX.out
        obtain ⟨h5, hn5, k5, hmp, hk1⟩ := H5.out
        have k5' : Chg [F] X w5 := (Chg.refl _ X).drew.trans k5
        have hs0 := HKW.out.size
        have hsX := hkX.size
        refine ⟨F, b :: (d.ownBlock.toList ++ (F :: M :: OB)), b, rfl, rooted h5 hn5 hmp hk1, fun g hg => ?_, ?_⟩
        · obtain ⟨hb1, hb2, hd⟩ := hn5.fresh
          have hsd : X.drew.heap.size = X.heap.size := rfl
          rcases List.mem_cons.1 hg with rfl | hg
          · omega
          · rcases List.mem_append.1 hg with hg | hg
            · have := (hd g (by simpa using hg)).1; omega
            · have := hOX g hg; omega
        · refine HKW.out.trans (hkX.trans' (k5'.trans' hk1 (fun x hx _ => List.mem_cons_of_mem M hx) (fun x hx _ => ?_)) (by simp) (fun x hx hl => ?_))
          · simp at hx; subst hx; simp
          · have h6 : w'.heap.size ≤ x := hOX x (by simp at hx; rcases hx with rfl | rfl <;> simp)
            omega
end Go.Proofs.YtfhiioopimmahaaGreatDoor
namespace Go.Proofs.YtfhiioopimmahaaGreatDoor
open Go.RowKit Go.Pax Go.Shelf
theorem Tryz.vinfoS : (Tryz.prog.info? 9).map (fun i => (i.zero, i.size, i.bytes)) = some (some (.string ⟨#[]⟩), 1, 16) := by kernel_rfl
theorem growS (w : World) (n : Nat) (h0 : 0 < n) (hb : n * 16 ≤ 140737488355328) :
    Calls Tryz.prog 117 #[.slice none 0 0, .int .i64 n] w fun e w' => ∃ cap, e = .returned (.slice (some ⟨w.heap.size, 0, none⟩) 0 cap) ∧ w'.ownsRow w.heap.size 9 1 (.slice (some ⟨w.heap.size, 0, none⟩) 0 cap) 0 [] ∧ Chg [] w w' := by
  obtain ⟨i0, hi, hz0, hz1, hz2⟩ := info_parts Tryz.vinfoS
  refine (Any8.slices_Grow_grow Tryz.gro i0 (.string ⟨#[]⟩) hi hz0 (by omega) none 0 0 n [] w (Nat.le_refl _) (by omega) (by rw [hz2]; omega) (by omega) (by simp) (fun _ => rfl) (fun a ha => by cases ha)).mono ?_
  rintro e w' ⟨rfl, rfl⟩
  have hgc := grownCap_ge w (0 + n) 0 9
  have hgm := grownCap_le_maxLen w (0 + n) 0 9 (by unfold maxLen; omega)
  have hren : Tryz.gro_ren.t 25 = 9 := rfl
  simp only [hren]
  generalize grownCap w (0 + n) 0 9 = gc at *
  refine ⟨gc, rfl, ?_, (Chg.refl [] w).drew.alloc _⟩
  exact own_mk (heap_alloc_new w.drew _) (Nat.le_refl _) (by omega) hgm (by simp [zc_size]; omega) rfl (fun j hj => by omega)
set_option maxHeartbeats 4000000 in
theorem concatS (w : World) (sb : Nat) (st : TypeId) (ao bo : Option Addr) (n1 c1 n2 c2 : Nat) (fp1 fp2 : List Nat) (l1 l2 : List ByteArray) (hs : w.heap[sb]? = some (.cells #[.slice ao n1 c1, .slice bo n2 c2] st (0, 0))) (hn1 : l1.length = n1) (hn2 : l2.length = n2)
    (h1 : Rd w fp1 ao (sv l1)) (h2 : Rd w fp2 bo (sv l2)) (h0 : 0 < n1 + n2) (hb : (n1 + n2) * 16 ≤ 140737488355328) :
    Calls Tryz.prog 97 #[.slice (some ⟨sb, 0, none⟩) 2 2] w fun e w' => ∃ a c, e = .returned (.slice a (n1 + n2) c) ∧ w'.ownsRow w.heap.size 9 1 (.slice a (n1 + n2) c) (n1 + n2) (sv (l1 ++ l2)) ∧ Chg [] w w' := by
  have d0 : w.cell? ⟨sb, 0, none⟩ = some (.slice ao n1 c1) := cell_heap hs 0 rfl
  have d1 : w.cell? ⟨sb, 1, none⟩ = some (.slice bo n2 c2) := cell_heap hs 1 rfl
  have hlt := lt_of_block hs
  have HG := Lib.hid (growS w (n1 + n2) h0 hb)
  have HR := Lib.hid (And.intro h1 (And.intro h2 (And.intro hn1 hn2)))
  clear h1 h2 hn1 hn2 hs
  have hw1 : IntKind.i64.wrap ((0 : Int) + (n1 : Int)) = (n1 : Int) := by rw [Int.zero_add]; exact IntWalk.i64_in _ (by omega)
  have hw2 : IntKind.i64.wrap ((n1 : Int) + (n2 : Int)) = ((n1 + n2 : Nat) : Int) := by rw [IntWalk.i64_in _ (by omega)]; omega
  have hnn : ¬ ((n1 : Int) < 0) := by omega
  have hnn2 : ¬ (((n1 + n2 : Nat) : Int) < 0) := by omega
  go_enter Tryz.func97, Tryz.ntmps97
  go_upto_region 3 with fail
  go_loop [3, 11] (fun s i => ∃ k : Nat, k ≤ 2 ∧ i = .int .i64 k ∧ s = .int .i64 (if k = 0 then 0 else if k = 1 then (n1 : Int) else ((n1 + n2 : Nat) : Int))) (fun _ i => 2 - (intOf i).toNat)
  case atStart => exact ⟨0, by omega, rfl, rfl⟩
  case round =>
    obtain ⟨k, hk, rfl, rfl⟩ := hrel
    have hk3 : k = 0 ∨ k = 1 ∨ k = 2 := by omega
    rcases hk3 with rfl | rfl | rfl
    · simp only [if_true]
      go_wp2
      go_round
      case rel => exact ⟨1, by omega, by go_num, by simp⟩
      case measure => simp [intOf]
    · simp only [if_true, show ¬ (1 : Nat) = 0 from by omega, if_false]
      go_wp2
      go_round
      case rel => exact ⟨2, by omega, by go_num, by simp⟩
      case measure => simp [intOf]
    · simp only [show ¬ (2 : Nat) = 0 from by omega, show ¬ (2 : Nat) = 1 from by omega, if_false]
      go_upto_region 11 with (go_at_call 117; refine HG.out.mono ?_; rintro e w1 ⟨cap, rfl, hown, k1⟩; have HO := Lib.hid (And.intro hown k1); have d0' := k1.cell d0 (by simp); have d1' := k1.cell d1 (by simp); clear hown k1)
      obtain ⟨i0, hi, hz0, hz1, hz2⟩ := info_parts Tryz.vinfoS
      have hle1 : n1 ≤ n1 + n2 := by omega
      go_loopw [6, 27] (fun v i wr => ∃ k : Nat, k ≤ 2 ∧ i = .int .i64 k ∧ Chg [] w wr ∧ wr.cell? ⟨sb, 0, none⟩ = some (.slice ao n1 c1) ∧ wr.cell? ⟨sb, 1, none⟩ = some (.slice bo n2 c2) ∧
        ∃ a c, v = .slice a (if k = 0 then 0 else if k = 1 then n1 else n1 + n2) c ∧ wr.ownsRow w.heap.size 9 1 (.slice a (if k = 0 then 0 else if k = 1 then n1 else n1 + n2) c) (if k = 0 then 0 else if k = 1 then n1 else n1 + n2) (if k = 0 then [] else if k = 1 then sv l1 else sv (l1 ++ l2))) (fun _ i _ => 2 - (intOf i).toNat)
      case atStart => exact ⟨0, by omega, rfl, HO.out.2, d0', d1', _, _, rfl, HO.out.1⟩
      case round =>
        obtain ⟨k, hk, rfl, hkw, q0, q1, a, c, rfl, hown⟩ := hrel
        have hk3 : k = 0 ∨ k = 1 ∨ k = 2 := by omega
        rcases hk3 with rfl | rfl | rfl
        · simp only [if_true] at hown ⊢
          have HW := Lib.hid (And.intro hkw hown)
          have hsz := hkw.size
          clear hkw hown
          go_wp2_with (at_builtin; refine wpList_append_rd rfl _ _ 47 rfl w.heap.size 9 i0 (.string ⟨#[]⟩) 16 Tryz.underlying47 hi hz0 hz1 hz2 rfl (.slice a 0 c) 0 [] rfl HW.out.2 ao n1 c1 fp1 (sv l1) rfl (by rw [sv_length, HR.out.2.2.1]) (HR.out.1.chg HW.out.1 (by simp)) (sv_one l1) (by omega) (by unfold maxLen; omega) hsz ?_)
          intro a' c' w' hown' hgr' _
          have hk' : Chg [] w w' := HW.out.1.grown hgr' (fun g hg hl => by
            have := (own_rd2 HW.out.2).2.1 g (by simp [hg]); omega)
          have q0' := hk'.cell d0 (by simp)
          have q1' := hk'.cell d1 (by simp)
          go_wp2
          exact ⟨⟨1, by omega, rfl, hk', q0', q1', a', c', by simp, by simpa using hown'⟩, by simp [intOf]⟩
        · simp only [if_true, show ¬ (1 : Nat) = 0 from by omega, if_false] at hown ⊢
          have HW := Lib.hid (And.intro hkw hown)
          have hsz := hkw.size
          clear hkw hown
          go_wp2_with (at_builtin; refine wpList_append_rd rfl _ _ 47 rfl w.heap.size 9 i0 (.string ⟨#[]⟩) 16 Tryz.underlying47 hi hz0 hz1 hz2 rfl (.slice a n1 c) n1 (sv l1) rfl HW.out.2 bo n2 c2 fp2 (sv l2) rfl (by rw [sv_length, HR.out.2.2.2]) (HR.out.2.1.chg HW.out.1 (by simp)) (sv_one l2) (by omega) (by unfold maxLen; omega) hsz ?_)
          intro a' c' w' hown' hgr' _
          have hk' : Chg [] w w' := HW.out.1.grown hgr' (fun g hg hl => by
            have := (own_rd2 HW.out.2).2.1 g (by simp [hg]); omega)
          have q0' := hk'.cell d0 (by simp)
          have q1' := hk'.cell d1 (by simp)
          go_wp2
          exact ⟨⟨2, by omega, rfl, hk', q0', q1', a', c', by simp, by simpa [sv] using hown'⟩, by simp [intOf]⟩
        · simp only [show ¬ (2 : Nat) = 0 from by omega, show ¬ (2 : Nat) = 1 from by omega, if_false] at hown ⊢
          have HW := Lib.hid (And.intro hkw hown)
          clear hkw hown
          go_wp2
          go_ret
          exact ⟨a, c, rfl, HW.out.2, HW.out.1⟩
/-- A row of strings, turned round in place. -/
theorem reverseS (w : World) (B : Nat) (v : Value) (l : List ByteArray) (n : Nat) (hn : l.length = n) (h0 : 0 < n) (hl : n ≤ 140737488355328) (hown : w.ownsRow B 9 1 v n (sv l)) :
    Calls Tryz.prog 98 #[v] w fun e w' => e = .returned (.tuple #[]) ∧ w'.ownsRow B 9 1 v n (sv l.reverse) ∧ Chg v.ownBlock.toList w w' := by
  obtain ⟨ao, c, rfl⟩ := own_shape hown
  rcases ao with _ | ⟨g, o, sp⟩
  · rcases hown.2 with ⟨h', h1⟩ | ⟨g', cap', cur, h', _⟩
    · omega
    · simp at h'
  have hg' : o = 0 ∧ sp = none := by
    rcases hown.2 with ⟨h', _⟩ | ⟨g', cap', cur, h', _⟩
    · simp at h'
    · simp at h'; exact ⟨h'.1.2.1, h'.1.2.2⟩
  obtain ⟨rfl, rfl⟩ := hg'
  obtain ⟨cur, hg, hb, hnc, hcm, hcs, _, hcx⟩ := own_cells hown
  have hstr : (Lib.strsOf (fun i => l.getD i ⟨#[]⟩) n).map ba = l := by
    subst hn
    apply List.ext_getElem?
    intro j
    simp only [Lib.strsOf, List.map_map, List.getElem?_map]
    by_cases hj : j < l.length
    · simp [hj, ba_toList]
    · simp [hj]
  refine (Any.slices_Reverse_string_cells Tryz.rev g 0 n c (fun i => l.getD i ⟨#[]⟩) w (by omega) (fun i hi => ?_) (fun j hj => frozen_of_row _ _ _ _ _ hg)).mono ?_
  · rw [Nat.zero_add]
    exact cell_heap hg i (by rw [hcx i hi, sv_get l i (by omega)]; simp [show i < l.length by omega])
  · rintro e w' ⟨rfl, q, rfl⟩
    have henc : (Lib.strsOf (fun i => l.getD i ⟨#[]⟩) n).reverse.map encStr = sv l.reverse := by
      have h1 : (Lib.strsOf (fun i => l.getD i ⟨#[]⟩) n).map encStr = sv l := by
        have h2 : (Lib.strsOf (fun i => l.getD i ⟨#[]⟩) n).map encStr = ((Lib.strsOf (fun i => l.getD i ⟨#[]⟩) n).map ba).map Value.string := by rw [List.map_map]; rfl
        rw [h2, hstr]; rfl
      rw [List.map_reverse, h1]
      exact List.map_reverse.symm
    rw [henc]
    refine ⟨rfl, ?_, ?_⟩
    · refine own_mk (heap_setCells (sv l.reverse) 0 (w.drewN q) cur hg) hb hnc hcm (by rw [putAt_size]; exact hcs) (by rw [sv_length]; simpa using hn) fun j hj => ?_
      rw [putAt_get _ _ _ _ (by omega), if_pos ⟨Nat.zero_le _, by rw [sv_length]; simp; omega⟩, Nat.sub_zero]
    · have hgr : w.grownBy ((w.drewN q).setCells g 0 (sv l.reverse)) (some g) := grown_setCells _ _ _ _ ⟨rfl, rfl, rfl, Nat.le_refl _, fun _ _ _ => rfl⟩
      exact Chg.of_grown hgr (fun k hk _ => by simp [Value.ownBlock] at *; exact hk.symm)
end Go.Proofs.YtfhiioopimmahaaGreatDoor
