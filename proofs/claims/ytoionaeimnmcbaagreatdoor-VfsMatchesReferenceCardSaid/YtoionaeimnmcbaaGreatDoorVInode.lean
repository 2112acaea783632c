/- paxtar/vfs: inode. -/
import Derived.Test.YtoionaeimnmcbaaGreatDoorVFind
namespace Go.Proofs.YtoionaeimnmcbaaGreatDoor
open Go.RowKit Go.Pax Go.Shelf
/-- A node that was just made, in no directory yet. -/
structure NewNode (w w' : World) (b : Nat) (nd : Nd) (dv : Value) : Prop where
  blk : w'.heap[b]? = some (.cells (nodeCells nd dv (.slice none 0 0)) 91 (0, 0))
  data : Row w' 5 dv (bv nd.data)
  fresh : w.heap.size ≤ b ∧ b < w'.heap.size ∧ ∀ g, dv.ownBlock = some g → w.heap.size ≤ g ∧ g < w'.heap.size
  none : nd.names = []
set_option maxRecDepth 100000 in
set_option maxHeartbeats 4000000 in
theorem inodeIn (w : World) (f : Nat) (O : List Nat) (σ : Fs) (m : Nat) (rv : Value) (dv nv : Nat → Value) (kind mode ino links size uid mtime : Int) (target : Str) (data : List UInt8) (ao : Option Addr) (dc : Nat) (fp : List Nat) (h : FsIn w f O σ m rv dv nv)
    (hs : -9223372036854775808 ≤ σ.next + σ.step ∧ σ.next + σ.step ≤ 9223372036854775807) (hd : Rd w fp ao (bv data)) (hdl : data.length ≤ 140737488355328) (hff : f ∉ fp) :
    Calls Tryz.prog 27 #[.pointer (some ⟨f, 0, none⟩), .agg #[.int .i64 kind, .int .i64 mode, .int .i64 ino, .int .i64 links, .int .i64 size, .string (ba target), .int .i64 uid, .int .i64 mtime], .slice ao data.length dc] w fun e w' =>
      ∃ b d, e = .returned (.pointer (some ⟨b, 0, none⟩)) ∧ FsIn w' f O { σ with next := σ.next + σ.step } m rv dv nv ∧ NewNode w w' b ⟨kind, mode, σ.next, 1, data.length, target, uid, mtime, data, []⟩ d ∧ Chg [f] w w' := by
  obtain ⟨c0, c1, c2, c3, c4⟩ := h.cells
  have hlt := lt_of_block h.blk
  have ff0 : w.frozen? ⟨f, 0, none⟩ = false := frozen_of_row _ _ _ _ _ h.blk
  have H := Lib.hid h
  have HD := Lib.hid hd
  clear h hd
  generalize hT : ba target = T at *
  have HT := Lib.hid hT
  clear hT
  obtain ⟨hs0, hs1⟩ := hs
  generalize hDL : data.length = DL at *
  have HDL := Lib.hid hDL
  clear hDL
  generalize hnx : σ.next = nx at *
  generalize hst : σ.step = st at *
  have HNX := Lib.hid (And.intro hnx hst)
  clear hnx hst
  have hw : IntKind.i64.wrap (nx + st) = nx + st := IntWalk.i64_in _ (by omega)
  go_enter Tryz.func27, Tryz.ntmps27
  go_upto_region 2 with (fail)
  go_region
  have hk1 : Chg [f] w (w.setCell ⟨f, 0, none⟩ (.int .i64 (nx + st))) := (Chg.refl _ _).setCell (fun _ => by simp) _
  have hb1 := heap_set H.out.blk 0 (.int .i64 (nx + st)) rfl
  have h1 := H.out.setF hk1 (nx + st) σ.lists hb1
  have hz1 : (w.setCell ⟨f, 0, none⟩ (.int .i64 (nx + st))).heap.size = w.heap.size := by simp [World.setCell]
  obtain ⟨W, hW⟩ : ∃ W, ((w.setCell ⟨f, 0, none⟩ (.int .i64 (nx + st))).alloc (.cells #[.int .i64 kind, .int .i64 mode, .int .i64 nx, .int .i64 1, .int .i64 (DL : Int), .string T, .int .i64 uid, .int .i64 mtime] 52)).drew = W := ⟨_, rfl⟩
  have hkW : Chg [f] w W := by rw [← hW]; exact (hk1.alloc _).drew
  have e0 : W.heap[w.heap.size]? = some (.cells #[.int .i64 kind, .int .i64 mode, .int .i64 nx, .int .i64 1, .int .i64 (DL : Int), .string T, .int .i64 uid, .int .i64 mtime] 52 (0, 0)) := by rw [← hW]; exact heap_new_at hz1.symm
  have hW1 : FsIn W f O { σ with next := nx + st } m rv dv nv := by
    have := h1.foreign (w' := W) (S := []) (by rw [← hW]; exact ((Chg.refl _ _).alloc _).drew) (by simp)
    exact this
  have HW1 := Lib.hid hW1
  have HKW := Lib.hid hkW
  have HDW := Lib.hid (HD.out.chg hkW (by simpa using fun k hk => by rintro rfl; exact hff hk))
  rw [hW]
  clear hW hb1 h1 hk1 hkW hW1 hz1 c0 c1 c2 c3 c4 ff0 hw HD
  generalize hA : w.heap.size = A at *
  have d0 : W.cell? ⟨A, 0, none⟩ = some (.int .i64 kind) := cell_heap e0 0 rfl
  have d1 : W.cell? ⟨A, 1, none⟩ = some (.int .i64 mode) := cell_heap e0 1 rfl
  have d2 : W.cell? ⟨A, 2, none⟩ = some (.int .i64 nx) := cell_heap e0 2 rfl
  have d3 : W.cell? ⟨A, 3, none⟩ = some (.int .i64 1) := cell_heap e0 3 rfl
  have d4 : W.cell? ⟨A, 4, none⟩ = some (.int .i64 (DL : Int)) := cell_heap e0 4 rfl
  have d5 : W.cell? ⟨A, 5, none⟩ = some (.string T) := cell_heap e0 5 rfl
  have d6 : W.cell? ⟨A, 6, none⟩ = some (.int .i64 uid) := cell_heap e0 6 rfl
  have d7 : W.cell? ⟨A, 7, none⟩ = some (.int .i64 mtime) := cell_heap e0 7 rfl
  have HA := Lib.hid hA
  clear e0 hA
  go_upto_region 3 with (fail)
  refine wp_region_held_drew (S := fun w' => w'.cell? ⟨A, 0, none⟩ = some (.int .i64 kind) ∧ w'.cell? ⟨A, 1, none⟩ = some (.int .i64 mode) ∧ w'.cell? ⟨A, 2, none⟩ = some (.int .i64 nx) ∧ w'.cell? ⟨A, 3, none⟩ = some (.int .i64 1) ∧ w'.cell? ⟨A, 4, none⟩ = some (.int .i64 (DL : Int)) ∧ w'.cell? ⟨A, 5, none⟩ = some (.string T) ∧ w'.cell? ⟨A, 6, none⟩ = some (.int .i64 uid) ∧ w'.cell? ⟨A, 7, none⟩ = some (.int .i64 mtime) ∧ Chg [] W w') (by kernel_rfl) ?_ (fun hHeld => ?_)
  · exact ⟨by simp [*], by simp [*], by simp [*], by simp [*], by simp [*], by simp [*], by simp [*], by simp [*], (Chg.refl _ _).drew⟩
  refine wpAnyH_take (i := 0) (oi := ?oi1) (v := ?v1) ?hi1 (by kernel_rfl) (by kernel_rfl) (by kernel_rfl) ?hQ1 (Or.inl ⟨?hw1, ?hy1⟩) (by assumption) ?hr1
  case hi1 => simp only [List.getElem?_toArray, List.getElem?_cons_zero]; rfl
  case hQ1 => exact fun _ _ _ h => h
  case hw1 => rfl
  case hy1 => intro w hSw; (try dsimp only at hSw); go_simp; (try with_reducible rfl)
  case hr1 =>
  simp only [Act.put, List.setIfInBounds_toArray, List.set_cons_zero, List.set_cons_succ]
  refine wpAnyH_take (i := 1) (oi := ?oi2) (v := ?v2) ?hi2 (by kernel_rfl) (by kernel_rfl) (by kernel_rfl) ?hQ2 (Or.inl ⟨?hw2, ?hy2⟩) (by assumption) ?hr2
  case hi2 => simp only [List.getElem?_toArray, List.getElem?_cons_succ, List.getElem?_cons_zero]; rfl
  case hQ2 => exact fun _ _ _ h => h
  case hw2 => rfl
  case hy2 => intro w hSw; (try dsimp only at hSw); go_simp; (try with_reducible rfl)
  case hr2 =>
  simp only [Act.put, List.setIfInBounds_toArray, List.set_cons_zero, List.set_cons_succ]
  refine wpAnyH_ready (rs := [2]) (by kernel_rfl) (by simp) (AllReadyH.cons (o := ?oc3) ?hc3 (fun K hK => ?hs3) AllReadyH.nil)
  case hc3 => simp only [List.getElem?_toArray, List.getElem?_cons_succ, List.getElem?_cons_zero]; rfl
  case hs3 =>
  rw [if_pos (by rfl)]
  go_simp
  go_at_call 52; refine (cloneBytes _ ao DL dc fp data HDL.out hdl (HDW.out.chg (S := []) hHeld.2.2.2.2.2.2.2.2 (by simp))).mono ?_; rintro e w3 ⟨a3, c3, rfl, hown3, hgr3⟩; have k3 : Chg [] W.drew w3 := Chg.of_grown hgr3 (by simp); have HO3 := Lib.hid hown3; clear hown3 hgr3
  go_wp2_with fail
  refine hK.out _ _ ?_ (fun hHeld => ?_)
  · obtain ⟨q0, q1, q2, q3, q4, q5, q6, q7, q8⟩ := hHeld; exact ⟨k3.cell q0 (by simp), k3.cell q1 (by simp), k3.cell q2 (by simp), k3.cell q3 (by simp), k3.cell q4 (by simp), k3.cell q5 (by simp), k3.cell q6 (by simp), k3.cell q7 (by simp), q8.trans k3⟩
  clear hK K
  try simp only [Act.put, List.setIfInBounds_toArray, List.set_cons_zero, List.set_cons_succ]
  refine wpAnyH_take (i := 3) (oi := ?oi4) (v := ?v4) ?hi4 (by kernel_rfl) (by kernel_rfl) (by kernel_rfl) ?hQ4 (Or.inl ⟨?hw4, ?hy4⟩) (by assumption) ?hr4
  case hi4 => simp only [List.getElem?_toArray, List.getElem?_cons_succ, List.getElem?_cons_zero]; rfl
  case hQ4 => exact fun _ _ _ h => h
  case hw4 => rfl
  case hy4 => intro w hSw; (try dsimp only at hSw); go_simp; (try with_reducible rfl)
  case hr4 =>
  simp only [Act.put, List.setIfInBounds_toArray, List.set_cons_zero, List.set_cons_succ]
  refine wpAnyH_ready (rs := [4]) (by kernel_rfl) (by simp) (AllReadyH.cons (o := ?oc5) ?hc5 (fun K hK => ?hs5) AllReadyH.nil)
  case hc5 => simp only [List.getElem?_toArray, List.getElem?_cons_succ, List.getElem?_cons_zero]; rfl
  case hs5 =>
  rw [if_pos (by rfl)]
  go_simp
  skip
  go_wp2_with fail
  refine hK.out _ _ ?_ (fun hHeld => ?_)
  · obtain ⟨q0, q1, q2, q3, q4, q5, q6, q7, q8⟩ := hHeld; exact ⟨Lib.cell?_alloc_some _ q0, Lib.cell?_alloc_some _ q1, Lib.cell?_alloc_some _ q2, Lib.cell?_alloc_some _ q3, Lib.cell?_alloc_some _ q4, Lib.cell?_alloc_some _ q5, Lib.cell?_alloc_some _ q6, Lib.cell?_alloc_some _ q7, q8.alloc _⟩
  clear hK K
  try simp only [Act.put, List.setIfInBounds_toArray, List.set_cons_zero, List.set_cons_succ]
  refine wpAnyH_take (i := 5) (oi := ?oi6) (v := ?v6) ?hi6 (by kernel_rfl) (by kernel_rfl) (by kernel_rfl) ?hQ6 (Or.inl ⟨?hw6, ?hy6⟩) (by assumption) ?hr6
  case hi6 => simp only [List.getElem?_toArray, List.getElem?_cons_succ, List.getElem?_cons_zero]; rfl
  case hQ6 => exact fun _ _ _ h => h
  case hw6 => rfl
  case hy6 => intro w hSw; (try dsimp only at hSw); go_simp; (try with_reducible rfl)
  case hr6 =>
  simp only [Act.put, List.setIfInBounds_toArray, List.set_cons_zero, List.set_cons_succ]
  refine wpAnyH_done (by kernel_rfl) ?_ _
  clear hHeld
  go_wp2_with fail
  go_ret
  have hz3 := k3.size
  have hzW := HKW.out.size
  rw [HA.out] at hzW
  have hzd : W.drew.heap.size = W.heap.size := rfl
  have k4 : Chg [] W (w3.alloc (.cells #[.int .i64 kind, .int .i64 mode, .int .i64 nx, .int .i64 1, .int .i64 (DL : Int), .string T, .int .i64 uid, .int .i64 mtime, .slice a3 DL c3, .slice none 0 0] 91)) := ((Chg.refl [] W).drew.trans k3).alloc _
  obtain ⟨_, hbl, _⟩ := own_rd2 HO3.out
  refine ⟨w3.heap.size, .slice a3 DL c3, rfl, ?_, ⟨?_, ?_, ⟨by rw [HA.out]; omega, by simp, fun g hg => ?_⟩, rfl⟩, ?_⟩
  · have := HW1.out.foreign k4 (by simp)
    rw [HNX.out.2] at this
    exact this
  · unfold nodeCells
    simp only
    rw [HT.out]
    exact heap_alloc_new _ _
  · exact (own_zero HO3.out (by rw [bv_length, HDL.out])).keep ((Chg.refl [] w3).alloc _) (by simp)
  · have := hbl g (by simp [hg])
    rw [HA.out]
    simp; omega
  · exact HKW.out.trans (k4.mono (by simp))
theorem inode (w : World) (f : Nat) (O : List Nat) (σ : Fs) (kind mode ino links size uid mtime : Int) (target : Str) (data : List UInt8) (ao : Option Addr) (dc : Nat) (fp : List Nat) (h : FsAt w f O σ)
    (hs : -9223372036854775808 ≤ σ.next + σ.step ∧ σ.next + σ.step ≤ 9223372036854775807) (hd : Rd w fp ao (bv data)) (hdl : data.length ≤ 140737488355328) (hff : f ∉ fp) :
    Calls Tryz.prog 27 #[.pointer (some ⟨f, 0, none⟩), .agg #[.int .i64 kind, .int .i64 mode, .int .i64 ino, .int .i64 links, .int .i64 size, .string (ba target), .int .i64 uid, .int .i64 mtime], .slice ao data.length dc] w fun e w' =>
      ∃ b dv, e = .returned (.pointer (some ⟨b, 0, none⟩)) ∧ FsAt w' f O { σ with next := σ.next + σ.step } ∧ NewNode w w' b ⟨kind, mode, σ.next, 1, data.length, target, uid, mtime, data, []⟩ dv ∧ Chg [f] w w' := by
  obtain ⟨m, rv, dv, nv, h⟩ := h
  refine (inodeIn w f O σ m rv dv nv kind mode ino links size uid mtime target data ao dc fp h hs hd hdl hff).mono ?_
  rintro e w' ⟨b, d, he, h1, h2, h3⟩
  exact ⟨b, d, he, ⟨m, rv, dv, nv, h1⟩, h2, h3⟩
end Go.Proofs.YtoionaeimnmcbaaGreatDoor
