/- paxtar/vfs: find, Lstat, place. paxtar/vfs: inode. paxtar/vfs: enter. -/
import Derived.Shelf.Spec.SearchS
import Derived.Test.YtfhiioopimmahaaGreatDoorPO02
namespace Go.Proofs.YtfhiioopimmahaaGreatDoor
open Go.RowKit Go.Pax Go.Shelf

theorem FsIn.look {w : World} {f : Nat} {O : List Nat} {σ : Fs} {m : Nat} {rv : Value} {dv nv : Nat → Value} (h : FsIn w f O σ m rv dv nv) (p : Str) (n : Nat) :
    (Instr.lookup 92 (.map (some m)) (.string (ba p)) true).run Tryz.prog (w.drewN n) =
      .ok (match lkF σ.files p with | some b => .tuple #[.pointer (some ⟨b, 0, none⟩), .bool true] | none => .tuple #[.pointer none, .bool false]) (w.drewN n) := by
  have hm : MapAt (w.drewN n) m (mapE σ.files) := h.mp.chg ((Chg.refl [] w).drewN n) (by simp)
  cases hl : lkF σ.files p with
  | none => exact run_lookup_none Tryz.underlying92 Tryz.underlying9 Tryz.zeroValue80 hm (by rw [lk_mapE, hl])
  | some b => exact run_lookup_some Tryz.underlying92 Tryz.underlying9 hm (by rw [lk_mapE, hl])

set_option maxHeartbeats 1000000 in
theorem find_nil (w : World) (s : ByteArray) : Calls Tryz.prog 36 #[.pointer none, .string s] w fun e w' => e = .returned (.tuple #[.pointer none, .int .i64 1]) ∧ w' = w := by
  go_enter Tryz.func36, Tryz.ntmps36
  go_wp2
  go_ret2
  exact ⟨rfl, rfl⟩
/-- What find returns. -/
def found (σ : Fs) (p : Str) : Value := match lkF σ.files p with
  | some b => .tuple #[.pointer (some ⟨b, 0, none⟩), .int .i64 0]
  | none => .tuple #[.pointer none, .int .i64 19]
set_option maxHeartbeats 1000000 in
theorem find (w : World) (f : Nat) (O : List Nat) (σ : Fs) (p : Str) (h : FsAt w f O σ) :
    Calls Tryz.prog 36 #[.pointer (some ⟨f, 0, none⟩), .string (ba p)] w fun e w' => e = .returned (found σ p) ∧ w' = w := by
  obtain ⟨m, rv, dv, nv, h⟩ := h
  have c4 : w.cell? ⟨f, 4, none⟩ = some (.map (some m)) := cell_heap h.blk 4 rfl
  have hl := h.look p 0
  rw [World.drewN_zero] at hl
  clear h
  unfold found
  cases hk : lkF σ.files p with
  | none =>
    rw [hk] at hl
    simp only at hl ⊢
    clear hk
    generalize ba p = P at *
    go_enter Tryz.func36, Tryz.ntmps36
    go_wp2
    go_ret2
    exact ⟨rfl, rfl⟩
  | some b =>
    rw [hk] at hl
    simp only at hl ⊢
    clear hk
    generalize ba p = P at *
    go_enter Tryz.func36, Tryz.ntmps36
    go_wp2
    go_ret2
    exact ⟨rfl, rfl⟩
/-- A file's metadata, as Lstat returns it. -/
def infoV (nd : Nd) : Value := .agg #[.int .i64 nd.kind, .int .i64 nd.mode, .int .i64 nd.ino, .int .i64 nd.links, .int .i64 nd.size, .string (ba nd.target), .int .i64 nd.uid, .int .i64 nd.mtime]
def noInfo : Value := .agg #[.int .i64 0, .int .i64 0, .int .i64 0, .int .i64 0, .int .i64 0, .string ⟨#[]⟩, .int .i64 0, .int .i64 0]
def lstatV (σ : Fs) (p : Str) : Value := match lkF σ.files p with
  | some b => .tuple #[infoV (σ.node b), .int .i64 0]
  | none => .tuple #[noInfo, .int .i64 19]
set_option maxHeartbeats 1000000 in
theorem lstat_nil (w : World) (s : ByteArray) : Calls Tryz.prog 13 #[.pointer none, .string s] w fun e w' => e = .returned (.tuple #[noInfo, .int .i64 1]) ∧ Chg [] w w' := by
  go_enter Tryz.func13, Tryz.ntmps13
  go_wp2_with (go_at_call 36; refine (find_nil _ _).mono ?_; rintro e w' ⟨rfl, rfl⟩)
  exact bodyPost_ret (v := .tuple #[noInfo, .int .i64 1]) (by simp [results, Tryz.results13, go_sem, noInfo]) rfl ⟨rfl, (Chg.refl _ _).alloc _⟩
set_option maxHeartbeats 2000000 in
theorem lstat (w : World) (f : Nat) (O : List Nat) (σ : Fs) (p : Str) (h : FsAt w f O σ) :
    Calls Tryz.prog 13 #[.pointer (some ⟨f, 0, none⟩), .string (ba p)] w fun e w' => e = .returned (lstatV σ p) ∧ Chg [] w w' := by
  have hf := fun W (k : Chg [] w W) => find W f O σ p (h.foreign k (by simp))
  have HF := Lib.hid hf
  clear hf
  unfold lstatV
  unfold found at HF
  cases hk : lkF σ.files p with
  | none =>
    rw [hk] at HF
    simp only at HF ⊢
    clear hk h
    generalize ba p = P at *
    go_enter Tryz.func13, Tryz.ntmps13
    go_wp2_with (go_at_call 36; refine (HF.out _ ((Chg.refl _ _).alloc _)).mono ?_; rintro e w' ⟨rfl, rfl⟩)
    exact bodyPost_ret (v := .tuple #[noInfo, .int .i64 19]) (by simp [results, Tryz.results13, go_sem, noInfo]) rfl ⟨rfl, (Chg.refl _ _).alloc _⟩
  | some b =>
    rw [hk] at HF
    simp only at HF ⊢
    obtain ⟨m, rv, dv, nv, h⟩ := h
    have hb := (h.nodes _ _ (lkF_mem hk)).blk
    obtain ⟨c0, c1, c2, c3, c4, c5, c6, c7, _, _⟩ := (h.nodes _ _ (lkF_mem hk)).cells
    have hlt := lt_of_block hb
    clear hk h hb
    unfold infoV
    generalize σ.node b = nd at *
    obtain ⟨kind, mode, ino, links, size, target, uid, mtime, data, names⟩ := nd
    simp only at c0 c1 c2 c3 c4 c5 c6 c7 ⊢
    generalize ba p = P at *
    generalize ba target = T at *
    go_enter Tryz.func13, Tryz.ntmps13
    go_wp2_with (go_at_call 36; refine (HF.out _ ((Chg.refl _ _).alloc _)).mono ?_; rintro e w' ⟨rfl, rfl⟩)
    exact bodyPost_ret (v := .tuple #[.agg #[.int .i64 kind, .int .i64 mode, .int .i64 ino, .int .i64 links, .int .i64 size, .string T, .int .i64 uid, .int .i64 mtime], .int .i64 0]) (by simp [results, Tryz.results13, go_sem]) rfl ⟨rfl, (Chg.refl _ _).alloc _⟩

/-- What place returns. -/
def placed (σ : Fs) (p : Str) : Value := match lkF σ.files (parentP p) with
  | some b => if (σ.node b).kind = 0 then (match lkF σ.files p with | some _ => .tuple #[.pointer none, .int .i64 14] | none => .tuple #[.pointer (some ⟨b, 0, none⟩), .int .i64 0]) else .tuple #[.pointer none, .int .i64 13]
  | none => .tuple #[.pointer none, .int .i64 13]
set_option maxRecDepth 100000 in
set_option maxHeartbeats 2000000 in
theorem place (w : World) (f : Nat) (O : List Nat) (σ : Fs) (p : Str) (h : FsAt w f O σ) (hp : p.length ≤ 140737488355328) :
    Calls Tryz.prog 60 #[.pointer (some ⟨f, 0, none⟩), .string (ba p)] w fun e w' => e = .returned (placed σ p) ∧ ∃ k, w' = w.drewN k := by
  obtain ⟨m, rv, dv, nv, h⟩ := h
  obtain ⟨_, _, _, _, c4⟩ := h.cells
  have hl1 := fun n => h.look (parentP p) n
  have hl2 := fun n => h.look p n
  have HPA := Lib.hid (fun W => parent p hp W)
  have hk1 : ∀ b, lkF σ.files (parentP p) = some b → w.cell? ⟨b, 0, none⟩ = some (.int .i64 (σ.node b).kind) := fun b hb => (h.nodes _ _ (lkF_mem hb)).cells.1
  unfold placed
  generalize ba (parentP p) = Q at *
  generalize ba p = P at *
  cases hq : lkF σ.files (parentP p) with
  | none =>
    rw [hq] at hl1
    simp only at hl1 ⊢
    clear hl2 hk1 h hq
    go_enter Tryz.func60, Tryz.ntmps60
    go_upto_region 1 with (fail)
    go_quiet ((go_at_call 82; exact Calls.quiet_of_same (HPA.out _)))
    go_wp2_with fail
    go_ret2
    exact ⟨rfl, _, rfl⟩
  | some b =>
    have c0 := hk1 b hq
    have hlt := World.block_lt_of_cell? w _ c0
    rw [hq] at hl1
    simp only at hl1 ⊢
    clear hk1 hq h
    generalize (σ.node b).kind = kd at *
    by_cases hkd : kd = 0
    · subst hkd
      rw [if_pos rfl]
      cases hpp : lkF σ.files p with
      | none =>
        rw [hpp] at hl2
        simp only at hl2 ⊢
        clear hpp
        go_enter Tryz.func60, Tryz.ntmps60
        go_upto_region 1 with (fail)
        go_quiet ((go_at_call 82; exact Calls.quiet_of_same (HPA.out _)))
        go_wp2_with fail
        go_ret2
        exact ⟨rfl, _, rfl⟩
      | some b' =>
        rw [hpp] at hl2
        simp only at hl2 ⊢
        clear hpp
        go_enter Tryz.func60, Tryz.ntmps60
        go_upto_region 1 with (fail)
        go_quiet ((go_at_call 82; exact Calls.quiet_of_same (HPA.out _)))
        go_wp2_with fail
        go_ret2
        exact ⟨rfl, _, rfl⟩
    · rw [if_neg hkd]
      have hkb : (kd == 0) = false := by simpa using hkd
      clear hl2
      go_enter Tryz.func60, Tryz.ntmps60
      go_upto_region 1 with (fail)
      go_quiet ((go_at_call 82; exact Calls.quiet_of_same (HPA.out _)))
      go_wp2_with fail
      go_ret2
      exact ⟨rfl, _, rfl⟩
end Go.Proofs.YtfhiioopimmahaaGreatDoor
namespace Go.Proofs.YtfhiioopimmahaaGreatDoor
open Go.RowKit Go.Pax Go.Shelf
/-- A node that was just made, in no directory yet. -/
structure NewNode (w w' : World) (b : Nat) (nd : Nd) (dv : Value) : Prop where
  blk : w'.heap[b]? = some (.cells (nodeCells nd dv (.slice none 0 0)) 84 (0, 0))
  data : Row w' 5 dv (bv nd.data)
  fresh : w.heap.size ≤ b ∧ b < w'.heap.size ∧ ∀ g, dv.ownBlock = some g → w.heap.size ≤ g ∧ g < w'.heap.size
  none : nd.names = []
set_option maxRecDepth 100000 in
set_option maxHeartbeats 4000000 in
theorem inodeIn (w : World) (f : Nat) (O : List Nat) (σ : Fs) (m : Nat) (rv : Value) (dv nv : Nat → Value) (kind mode ino links size uid mtime : Int) (target : Str) (data : List UInt8) (ao : Option Addr) (dc : Nat) (fp : List Nat) (h : FsIn w f O σ m rv dv nv)
    (hs : -9223372036854775808 ≤ σ.next + σ.step ∧ σ.next + σ.step ≤ 9223372036854775807) (hd : Rd w fp ao (bv data)) (hdl : data.length ≤ 140737488355328) (hff : f ∉ fp) :
    Calls Tryz.prog 44 #[.pointer (some ⟨f, 0, none⟩), .agg #[.int .i64 kind, .int .i64 mode, .int .i64 ino, .int .i64 links, .int .i64 size, .string (ba target), .int .i64 uid, .int .i64 mtime], .slice ao data.length dc] w fun e w' =>
      ∃ b d, e = .returned (.pointer (some ⟨b, 0, none⟩)) ∧ FsIn w' f O { σ with next := σ.next + σ.step } m rv dv nv ∧ NewNode w w' b ⟨kind, mode, σ.next, 1, data.length, target, uid, mtime, data, []⟩ d ∧ Chg [f] w w' := by
  obtain ⟨c0, c1, c2, c3, c4⟩ := h.cells
  have hlt := lt_of_block h.blk
  have ff0 : w.frozen? ⟨f, 0, none⟩ = false := frozen_of_row _ _ _ _ _ h.blk
  have H := Lib.hid h
  have HD := Lib.hid hd
  clear h hd
  generalize hT : ba target = T at *
  have HT := Lib.hid hT
  clear hT
  obtain ⟨hs0, hs1⟩ := hs
  generalize hDL : data.length = DL at *
  have HDL := Lib.hid hDL
  clear hDL
  generalize hnx : σ.next = nx at *
  generalize hst : σ.step = st at *
  have HNX := Lib.hid (And.intro hnx hst)
  clear hnx hst
  have hw : IntKind.i64.wrap (nx + st) = nx + st := IntWalk.i64_in _ (by omega)
  go_enter Tryz.func44, Tryz.ntmps44
  go_upto_region 2 with (fail)
  go_region
  have hk1 : Chg [f] w (w.setCell ⟨f, 0, none⟩ (.int .i64 (nx + st))) := (Chg.refl _ _).setCell (fun _ => by simp) _
  have hb1 := heap_set H.out.blk 0 (.int .i64 (nx + st)) rfl
  have h1 := H.out.setF hk1 (nx + st) σ.lists hb1
  have hz1 : (w.setCell ⟨f, 0, none⟩ (.int .i64 (nx + st))).heap.size = w.heap.size := by simp [World.setCell]
  obtain ⟨W, hW⟩ : ∃ W, ((w.setCell ⟨f, 0, none⟩ (.int .i64 (nx + st))).alloc (.cells #[.int .i64 kind, .int .i64 mode, .int .i64 nx, .int .i64 1, .int .i64 (DL : Int), .string T, .int .i64 uid, .int .i64 mtime] 40)).drew = W := ⟨_, rfl⟩
  have hkW : Chg [f] w W := by rw [← hW]; exact (hk1.alloc _).drew
  have e0 : W.heap[w.heap.size]? = some (.cells #[.int .i64 kind, .int .i64 mode, .int .i64 nx, .int .i64 1, .int .i64 (DL : Int), .string T, .int .i64 uid, .int .i64 mtime] 40 (0, 0)) := by rw [← hW]; exact heap_new_at hz1.symm
  have hW1 : FsIn W f O { σ with next := nx + st } m rv dv nv := by
    have := h1.foreign (w' := W) (S := []) (by rw [← hW]; exact ((Chg.refl _ _).alloc _).drew) (by simp)
    exact this
  have HW1 := Lib.hid hW1
  have HKW := Lib.hid hkW
  have HDW := Lib.hid (HD.out.chg hkW (by simpa using fun k hk => by rintro rfl; exact hff hk))
  rw [hW]
  clear hW hb1 h1 hk1 hkW hW1 hz1 c0 c1 c2 c3 c4 ff0 hw HD
  generalize hA : w.heap.size = A at *
  have d0 : W.cell? ⟨A, 0, none⟩ = some (.int .i64 kind) := cell_heap e0 0 rfl
  have d1 : W.cell? ⟨A, 1, none⟩ = some (.int .i64 mode) := cell_heap e0 1 rfl
  have d2 : W.cell? ⟨A, 2, none⟩ = some (.int .i64 nx) := cell_heap e0 2 rfl
  have d3 : W.cell? ⟨A, 3, none⟩ = some (.int .i64 1) := cell_heap e0 3 rfl
  have d4 : W.cell? ⟨A, 4, none⟩ = some (.int .i64 (DL : Int)) := cell_heap e0 4 rfl
  have d5 : W.cell? ⟨A, 5, none⟩ = some (.string T) := cell_heap e0 5 rfl
  have d6 : W.cell? ⟨A, 6, none⟩ = some (.int .i64 uid) := cell_heap e0 6 rfl
  have d7 : W.cell? ⟨A, 7, none⟩ = some (.int .i64 mtime) := cell_heap e0 7 rfl
  have HA := Lib.hid hA
  clear e0 hA
  go_upto_region 3 with (fail)
  refine wp_region_held_drew (S := fun w' => w'.cell? ⟨A, 0, none⟩ = some (.int .i64 kind) ∧ w'.cell? ⟨A, 1, none⟩ = some (.int .i64 mode) ∧ w'.cell? ⟨A, 2, none⟩ = some (.int .i64 nx) ∧ w'.cell? ⟨A, 3, none⟩ = some (.int .i64 1) ∧ w'.cell? ⟨A, 4, none⟩ = some (.int .i64 (DL : Int)) ∧ w'.cell? ⟨A, 5, none⟩ = some (.string T) ∧ w'.cell? ⟨A, 6, none⟩ = some (.int .i64 uid) ∧ w'.cell? ⟨A, 7, none⟩ = some (.int .i64 mtime) ∧ Chg [] W w') (by kernel_rfl) ?_ (fun hHeld => ?_)
  · exact ⟨by simp [*], by simp [*], by simp [*], by simp [*], by simp [*], by simp [*], by simp [*], by simp [*], (Chg.refl _ _).drew⟩
  refine wpAnyH_take (i := 0) (oi := ?oi1) (v := ?v1) ?hi1 (by kernel_rfl) (by kernel_rfl) (by kernel_rfl) ?hQ1 (Or.inl ⟨?hw1, ?hy1⟩) (by assumption) ?hr1
  case hi1 => simp only [List.getElem?_toArray, List.getElem?_cons_zero]; rfl
  case hQ1 => exact fun _ _ _ h => h
  case hw1 => rfl
  case hy1 => intro w hSw; (try dsimp only at hSw); go_simp; (try with_reducible rfl)
  case hr1 =>
  simp only [Act.put, List.setIfInBounds_toArray, List.set_cons_zero, List.set_cons_succ]
  refine wpAnyH_take (i := 1) (oi := ?oi2) (v := ?v2) ?hi2 (by kernel_rfl) (by kernel_rfl) (by kernel_rfl) ?hQ2 (Or.inl ⟨?hw2, ?hy2⟩) (by assumption) ?hr2
  case hi2 => simp only [List.getElem?_toArray, List.getElem?_cons_succ, List.getElem?_cons_zero]; rfl
  case hQ2 => exact fun _ _ _ h => h
  case hw2 => rfl
  case hy2 => intro w hSw; (try dsimp only at hSw); go_simp; (try with_reducible rfl)
  case hr2 =>
  simp only [Act.put, List.setIfInBounds_toArray, List.set_cons_zero, List.set_cons_succ]
  refine wpAnyH_ready (rs := [2]) (by kernel_rfl) (by simp) (AllReadyH.cons (o := ?oc3) ?hc3 (fun K hK => ?hs3) AllReadyH.nil)
  case hc3 => simp only [List.getElem?_toArray, List.getElem?_cons_succ, List.getElem?_cons_zero]; rfl
  case hs3 =>
  rw [if_pos (by rfl)]
  go_simp
  go_at_call 75; refine (cloneBytes _ ao DL dc fp data HDL.out hdl (HDW.out.chg (S := []) hHeld.2.2.2.2.2.2.2.2 (by simp))).mono ?_; rintro e w3 ⟨a3, c3, rfl, hown3, hgr3⟩; have k3 : Chg [] W.drew w3 := Chg.of_grown hgr3 (by simp); have HO3 := Lib.hid hown3; clear hown3 hgr3
  go_wp2_with fail
  refine hK.out _ _ ?_ (fun hHeld => ?_)
  · obtain ⟨q0, q1, q2, q3, q4, q5, q6, q7, q8⟩ := hHeld; exact ⟨k3.cell q0 (by simp), k3.cell q1 (by simp), k3.cell q2 (by simp), k3.cell q3 (by simp), k3.cell q4 (by simp), k3.cell q5 (by simp), k3.cell q6 (by simp), k3.cell q7 (by simp), q8.trans k3⟩
  clear hK K
  try simp only [Act.put, List.setIfInBounds_toArray, List.set_cons_zero, List.set_cons_succ]
  refine wpAnyH_take (i := 3) (oi := ?oi4) (v := ?v4) ?hi4 (by kernel_rfl) (by kernel_rfl) (by kernel_rfl) ?hQ4 (Or.inl ⟨?hw4, ?hy4⟩) (by assumption) ?hr4
  case hi4 => simp only [List.getElem?_toArray, List.getElem?_cons_succ, List.getElem?_cons_zero]; rfl
  case hQ4 => exact fun _ _ _ h => h
  case hw4 => rfl
  case hy4 => intro w hSw; (try dsimp only at hSw); go_simp; (try with_reducible rfl)
  case hr4 =>
  simp only [Act.put, List.setIfInBounds_toArray, List.set_cons_zero, List.set_cons_succ]
  refine wpAnyH_ready (rs := [4]) (by kernel_rfl) (by simp) (AllReadyH.cons (o := ?oc5) ?hc5 (fun K hK => ?hs5) AllReadyH.nil)
  case hc5 => simp only [List.getElem?_toArray, List.getElem?_cons_succ, List.getElem?_cons_zero]; rfl
  case hs5 =>
  rw [if_pos (by rfl)]
  go_simp
  skip
  go_wp2_with fail
  refine hK.out _ _ ?_ (fun hHeld => ?_)
  · obtain ⟨q0, q1, q2, q3, q4, q5, q6, q7, q8⟩ := hHeld; exact ⟨Lib.cell?_alloc_some _ q0, Lib.cell?_alloc_some _ q1, Lib.cell?_alloc_some _ q2, Lib.cell?_alloc_some _ q3, Lib.cell?_alloc_some _ q4, Lib.cell?_alloc_some _ q5, Lib.cell?_alloc_some _ q6, Lib.cell?_alloc_some _ q7, q8.alloc _⟩
  clear hK K
  try simp only [Act.put, List.setIfInBounds_toArray, List.set_cons_zero, List.set_cons_succ]
  refine wpAnyH_take (i := 5) (oi := ?oi6) (v := ?v6) ?hi6 (by kernel_rfl) (by kernel_rfl) (by kernel_rfl) ?hQ6 (Or.inl ⟨?hw6, ?hy6⟩) (by assumption) ?hr6
  case hi6 => simp only [List.getElem?_toArray, List.getElem?_cons_succ, List.getElem?_cons_zero]; rfl
  case hQ6 => exact fun _ _ _ h => h
  case hw6 => rfl
  case hy6 => intro w hSw; (try dsimp only at hSw); go_simp; (try with_reducible rfl)
  case hr6 =>
  simp only [Act.put, List.setIfInBounds_toArray, List.set_cons_zero, List.set_cons_succ]
  refine wpAnyH_done (by kernel_rfl) ?_ _
  clear hHeld
  go_wp2_with fail
  go_ret
  have hz3 := k3.size
  have hzW := HKW.out.size
  rw [HA.out] at hzW
  have hzd : W.drew.heap.size = W.heap.size := rfl
  have k4 : Chg [] W (w3.alloc (.cells #[.int .i64 kind, .int .i64 mode, .int .i64 nx, .int .i64 1, .int .i64 (DL : Int), .string T, .int .i64 uid, .int .i64 mtime, .slice a3 DL c3, .slice none 0 0] 84)) := ((Chg.refl [] W).drew.trans k3).alloc _
  obtain ⟨_, hbl, _⟩ := own_rd2 HO3.out
  refine ⟨w3.heap.size, .slice a3 DL c3, rfl, ?_, ⟨?_, ?_, ⟨by rw [HA.out]; omega, by simp, fun g hg => ?_⟩, rfl⟩, ?_⟩
  · have := HW1.out.foreign k4 (by simp)
    rw [HNX.out.2] at this
    exact this
  · unfold nodeCells
    simp only
    rw [HT.out]
    exact heap_alloc_new _ _
  · exact (own_zero HO3.out (by rw [bv_length, HDL.out])).keep ((Chg.refl [] w3).alloc _) (by simp)
  · have := hbl g (by simp [hg])
    rw [HA.out]
    simp; omega
  · exact HKW.out.trans (k4.mono (by simp))
theorem inode (w : World) (f : Nat) (O : List Nat) (σ : Fs) (kind mode ino links size uid mtime : Int) (target : Str) (data : List UInt8) (ao : Option Addr) (dc : Nat) (fp : List Nat) (h : FsAt w f O σ)
    (hs : -9223372036854775808 ≤ σ.next + σ.step ∧ σ.next + σ.step ≤ 9223372036854775807) (hd : Rd w fp ao (bv data)) (hdl : data.length ≤ 140737488355328) (hff : f ∉ fp) :
    Calls Tryz.prog 44 #[.pointer (some ⟨f, 0, none⟩), .agg #[.int .i64 kind, .int .i64 mode, .int .i64 ino, .int .i64 links, .int .i64 size, .string (ba target), .int .i64 uid, .int .i64 mtime], .slice ao data.length dc] w fun e w' =>
      ∃ b dv, e = .returned (.pointer (some ⟨b, 0, none⟩)) ∧ FsAt w' f O { σ with next := σ.next + σ.step } ∧ NewNode w w' b ⟨kind, mode, σ.next, 1, data.length, target, uid, mtime, data, []⟩ dv ∧ Chg [f] w w' := by
  obtain ⟨m, rv, dv, nv, h⟩ := h
  refine (inodeIn w f O σ m rv dv nv kind mode ino links size uid mtime target data ao dc fp h hs hd hdl hff).mono ?_
  rintro e w' ⟨b, d, he, h1, h2, h3⟩
  exact ⟨b, d, he, ⟨m, rv, dv, nv, h1⟩, h2, h3⟩
end Go.Proofs.YtfhiioopimmahaaGreatDoor
namespace Go.Pax
open Go.RowKit
/-- Where a name belongs among sorted names. -/
def bsI (l : List ByteArray) (x : ByteArray) : Nat := Lib.bsGo (fun t => Op.bytesLess (l.getD t ⟨#[]⟩).toList x.toList) l.length 0 l.length
end Go.Pax
namespace Go.Proofs.YtfhiioopimmahaaGreatDoor
open Go.RowKit Go.Pax Go.Shelf
theorem bsS (w : World) (v : Value) (l : List ByteArray) (x : ByteArray) (h : Row w 9 v (sv l)) (hl : l.length ≤ 140737488355328) :
    Calls Tryz.prog 17 #[v, .string x] w fun e w' => ∃ bl, e = .returned (.tuple #[.int .i64 (bsI l x : Nat), .bool bl]) ∧ ∃ q, w' = w.drewN q := by
  obtain ⟨ao, c, rfl⟩ := h.shape
  rw [sv_length]
  by_cases h0 : l.length = 0
  · have : l = [] := List.eq_nil_of_length_eq_zero h0
    subst this
    refine (Any2.slices_BinarySearch_string_empty Tryz.bse ao c x w).mono ?_
    rintro e w' ⟨rfl, rfl⟩
    exact ⟨false, by simp [bsI, Lib.bsGo], 0, rfl⟩
  · rcases h.2 with ⟨_, hz⟩ | ⟨g, cap, cur, hv, _⟩
    · rw [sv_length] at hz; omega
    · simp only [Value.slice.injEq] at hv
      obtain ⟨rfl, _, rfl⟩ := hv
      have hrd := (h.rd).2.1
      refine (Any2.slices_BinarySearch_string Tryz.bse g 0 l.length c (fun t => l.getD t ⟨#[]⟩) x w (by omega) (fun j hj => ?_)).mono ?_
      · obtain ⟨a, ha, _, hc⟩ := hrd j _ (sv_get l j hj)
        cases ha
        rw [show (⟨g, 0, none⟩ : Addr).add j = ⟨g, 0 + j, none⟩ by unfold Addr.add; split <;> simp_all] at hc
        rw [hc, List.getD_eq_getElem?_getD, List.getElem?_eq_getElem hj]
        rfl
      · rintro e w' ⟨rfl, q, rfl⟩
        exact ⟨_, rfl, q, rfl⟩
theorem bsGo_le (less : Nat → Bool) : ∀ (k lo hi : Nat), lo ≤ hi → Lib.bsGo less k lo hi ≤ hi
  | 0, lo, hi, h => h
  | k + 1, lo, hi, h => by
    unfold Lib.bsGo
    split
    · split
      · exact bsGo_le less k _ _ (by omega)
      · exact Nat.le_trans (bsGo_le less k _ _ (by omega)) (by omega)
    · exact h
theorem bsI_le (l : List ByteArray) (x : ByteArray) : bsI l x ≤ l.length := bsGo_le _ _ _ _ (Nat.zero_le _)
theorem FsIn.widen {w : World} {f : Nat} {O O' : List Nat} {σ : Fs} {m : Nat} {rv : Value} {dv nv : Nat → Value} (h : FsIn w f O σ m rv dv nv) (hO : ∀ g ∈ O, g ∈ O') (hl : ∀ g ∈ O', g < w.heap.size) : FsIn w f O' σ m rv dv nv :=
  ⟨h.blk, h.rot, h.mp, fun p b hb => (h.nodes p b hb).mono hO, ⟨hO _ h.own.1, hO _ h.own.2.1, fun g hg => hO _ (h.own.2.2 g hg)⟩, hl, h.apart⟩
/-- What is said of blocks that hold no file may be said anew. -/
theorem FsIn.congr {w : World} {f : Nat} {O : List Nat} {σ : Fs} {m : Nat} {rv : Value} {dv nv dv' nv' : Nat → Value} (h : FsIn w f O σ m rv dv nv) (node' : Nat → Nd) (hc : ∀ p b, (p, b) ∈ σ.files → node' b = σ.node b ∧ dv' b = dv b ∧ nv' b = nv b) : FsIn w f O { σ with node := node' } m rv dv' nv' :=
  ⟨h.blk, h.rot, h.mp, fun p b hb => by
    obtain ⟨h1, h2, h3⟩ := hc p b hb
    have := h.nodes p b hb
    simp only [h1, h2, h3]
    exact this, h.own, h.lt, fun p b p' b' hb hb' hne g hg => by
    rw [(hc p b hb).2.2] at hg
    rw [(hc p' b' hb').2.2]
    exact h.apart p b p' b' hb hb' hne g hg⟩
/-- One path more, for a node that is there. -/
theorem FsIn.addMap {w w' : World} {f : Nat} {O : List Nat} {σ : Fs} {m : Nat} {rv : Value} {dv nv : Nat → Value} (h : FsIn w f O σ m rv dv nv) {p : Str} {b : Nat} (hn : NodeAt w O b (σ.node b) (dv b) (nv b))
    (hap : ∀ p' b', (p', b') ∈ σ.files → b' ≠ b → ∀ g, (nv b').ownBlock = some g → (nv b).ownBlock ≠ some g) (k : Chg [m] w w') (hm : MapAt w' m (mapE σ.files ++ [(ba p, b)])) : FsIn w' f O { σ with files := σ.files ++ [(p, b)] } m rv dv nv := by
  obtain ⟨es, kc, hmm, _⟩ := h.mp
  have hrow : ∀ {e : TypeId} {v : Value} {xs : List Value}, Row w e v xs → ∀ g, v.ownBlock = some g → g ∉ [m] := fun hr g hg => by
    obtain ⟨c, hc⟩ := hr.block hg
    simpa using ne_of_map hc hmm
  have hnode : ∀ {b' : Nat} {nd : Nd} {d n : Value}, NodeAt w O b' nd d n → NodeAt w' O b' nd d n := fun hN => hN.keep k (by simpa using ne_of_map hN.blk hmm) (hrow hN.data) (hrow hN.names)
  refine ⟨k.heap h.blk (by simpa using ne_of_map h.blk hmm), h.rot.keep k (hrow h.rot), by simpa [mapE] using hm, fun p' b' hb' => ?_, h.own, fun g hg => Nat.lt_of_lt_of_le (h.lt g hg) k.size, fun p1 b1 p2 b2 h1 h2 hne g hg => ?_⟩
  · rcases List.mem_append.1 hb' with h' | h'
    · exact hnode (h.nodes p' b' h')
    · simp at h'
      obtain ⟨rfl, rfl⟩ := h'
      exact hnode hn
  · rcases List.mem_append.1 h1 with h1 | h1
    · rcases List.mem_append.1 h2 with h2 | h2
      · exact h.apart p1 b1 p2 b2 h1 h2 hne g hg
      · have h2' : p2 = p ∧ b2 = b := by simpa using h2
        rw [h2'.2] at hne ⊢
        exact hap p1 b1 h1 hne g hg
    · have h1' : p1 = p ∧ b1 = b := by simpa using h1
      rw [h1'.2] at hne hg
      rcases List.mem_append.1 h2 with h2 | h2
      · exact fun e => hap p2 b2 h2 (Ne.symm hne) g e hg
      · have h2' : p2 = p ∧ b2 = b := by simpa using h2
        exact absurd h2'.2.symm hne
/-- The names of one directory, written anew. -/
theorem FsIn.setNames {w w' : World} {f : Nat} {O : List Nat} {σ : Fs} {m : Nat} {rv : Value} {dv nv : Nat → Value} (h : FsIn w f O σ m rv dv nv) {p : Str} {b : Nat} (hpb : (p, b) ∈ σ.files) (k : Chg (b :: (nv b).ownBlock.toList) w w')
    (names' : List Str) (v' : Value) (hb : w'.heap[b]? = some (.cells (nodeCells (σ.node b) (dv b) v') 84 (0, 0))) (hr : Row w' 9 v' (svn names')) (hv : v'.ownBlock = (nv b).ownBlock ∨ ∃ g, v'.ownBlock = some g ∧ w.heap.size ≤ g ∧ g < w'.heap.size) :
    FsIn w' f (v'.ownBlock.toList ++ O) { σ with node := fun i => if i = b then { σ.node b with names := names' } else σ.node i } m rv dv (fun i => if i = b then v' else nv i) := by
  have hN := h.nodes p b hpb
  have hnb : ∀ g, (nv b).ownBlock = some g → ∃ c, w.heap[g]? = some (.cells c 9 (0, 0)) := fun g hg => hN.names.block hg
  have hnot : ∀ {g : Nat} {c : Array Value} {t : TypeId} {r : Nat × Nat}, w.heap[g]? = some (.cells c t r) → t ≠ 84 → t ≠ 9 → g ∉ b :: (nv b).ownBlock.toList := fun hg h1 h2 hm => by
    rcases List.mem_cons.1 hm with e | hm
    · exact ne_of_types hg hN.blk h1 e
    · obtain ⟨c', hc'⟩ := hnb _ (by simpa using hm)
      exact ne_of_types hg hc' h2 rfl
  have hrow : ∀ {e : TypeId} {v : Value} {xs : List Value}, Row w e v xs → e ≠ 84 → e ≠ 9 → ∀ g, v.ownBlock = some g → g ∉ b :: (nv b).ownBlock.toList := fun hr h1 h2 g hg => by
    obtain ⟨c, hc⟩ := hr.block hg
    exact hnot hc h1 h2
  have hm : m ∉ b :: (nv b).ownBlock.toList := by
    obtain ⟨es, c, h1, _⟩ := h.mp
    intro hm
    rcases List.mem_cons.1 hm with e | hm
    · exact ne_of_map hN.blk h1 e.symm
    · obtain ⟨c', hc'⟩ := hnb _ (by simpa using hm)
      exact ne_of_map hc' h1 rfl
  have hlt : ∀ g ∈ v'.ownBlock.toList, g < w'.heap.size := fun g hg => by
    obtain ⟨c, hc⟩ := hr.block (by simpa using hg)
    exact lt_of_block hc
  have hother : ∀ p' b', (p', b') ∈ σ.files → b' ≠ b → NodeAt w' (v'.ownBlock.toList ++ O) b' (σ.node b') (dv b') (nv b') := fun p' b' hb' hne => by
    have hN' := h.nodes p' b' hb'
    refine (hN'.keep k ?_ (hrow hN'.data (by decide) (by decide)) ?_).mono (fun g hg => List.mem_append.2 (.inr hg))
    · intro hm
      rcases List.mem_cons.1 hm with e | hm
      · exact hne e
      · obtain ⟨c', hc'⟩ := hnb _ (by simpa using hm)
        exact ne_of_types hN'.blk hc' (by decide) rfl
    · intro g hg hm
      rcases List.mem_cons.1 hm with e | hm
      · obtain ⟨c', hc'⟩ := hN'.names.block hg
        exact ne_of_types hc' hN.blk (by decide) e
      · exact h.apart p' b' p b hb' hpb hne g hg (by simpa using hm)
  refine ⟨k.heap h.blk (hnot h.blk (by decide) (by decide)), h.rot.keep k (hrow h.rot (by decide) (by decide)), h.mp.chg k hm, fun p' b' hb' => ?_, ⟨List.mem_append.2 (.inr h.own.1), List.mem_append.2 (.inr h.own.2.1), fun g hg => List.mem_append.2 (.inr (h.own.2.2 g hg))⟩, fun g hg => ?_, fun p1 b1 p2 b2 h1 h2 hne g hg => ?_⟩
  · by_cases he : b' = b
    · subst he
      simp only [if_true]
      exact ⟨hb, hN.data.keep k (hrow hN.data (by decide) (by decide)), hr, List.mem_append.2 (.inr hN.own.1), fun g hg => List.mem_append.2 (.inr (hN.own.2.1 g hg)), fun g hg => List.mem_append.2 (.inl (by simp [hg]))⟩
    · simp only [if_neg he]
      exact hother p' b' hb' he
  · rcases List.mem_append.1 hg with hg | hg
    · exact hlt g hg
    · exact Nat.lt_of_lt_of_le (h.lt g hg) k.size
  · have hnew : ∀ p' b', (p', b') ∈ σ.files → b' ≠ b → ∀ g, v'.ownBlock = some g → (nv b').ownBlock ≠ some g := fun p' b' hb' hne g hg he => by
      rcases hv with hv | ⟨g', hg', hge, _⟩
      · rw [hv] at hg
        exact h.apart p b p' b' hpb hb' (Ne.symm hne) g hg he
      · rw [hg'] at hg
        cases hg
        have := h.lt g ((h.nodes p' b' hb').own.2.2 g he)
        omega
    by_cases e1 : b1 = b
    · subst e1
      simp only [if_true] at hg
      rw [if_neg (Ne.symm hne)]
      exact hnew p2 b2 h2 (Ne.symm hne) g hg
    · simp only [if_neg e1] at hg
      by_cases e2 : b2 = b
      · subst e2
        simp only [if_true]
        exact fun e => hnew p1 b1 h1 e1 g e hg
      · simp only [if_neg e2]
        exact h.apart p1 b1 p2 b2 h1 h2 hne g hg

/-- A directory with one name more. -/
def addName (nd : Nd) (x : Str) : Nd := { nd with names := insAt nd.names (bsI (nd.names.map ba) (ba x)) x }
/-- The file system with one path more. -/
def entered (σ : Fs) (p : Str) (pb b : Nat) : Fs := { σ with files := σ.files ++ [(p, b)], node := fun i => if i = pb then addName (σ.node pb) (baseP p) else σ.node i }
set_option maxRecDepth 100000 in
set_option maxHeartbeats 4000000 in
theorem enter (w : World) (f : Nat) (O : List Nat) (σ : Fs) (m : Nat) (rv : Value) (dv nv : Nat → Value) (p pp : Str) (pb b : Nat) (h : FsIn w f O σ m rv dv nv) (hp : p.length ≤ 140737488355328) (hpb : (pp, pb) ∈ σ.files) (hnew : lkF σ.files p = none)
    (hn : NodeAt w O b (σ.node b) (dv b) (nv b)) (hap : ∀ p' b', (p', b') ∈ σ.files → b' ≠ b → ∀ g, (nv b').ownBlock = some g → (nv b).ownBlock ≠ some g) (hlen : ((σ.node pb).names.length + 1) * 16 ≤ 140737488355328) :
    Calls Tryz.prog 61 #[.pointer (some ⟨f, 0, none⟩), .string (ba p), .pointer (some ⟨pb, 0, none⟩), .pointer (some ⟨b, 0, none⟩)] w fun e w' => e = .returned (.tuple #[]) ∧ FsTo w w' f O (entered σ p pb b) := by
  obtain ⟨_, _, _, _, c4⟩ := h.cells
  obtain ⟨w1, hru, hmp, hk1, hz1⟩ := run_update_new (P := Tryz.prog) (T := 92) Tryz.underlying92 Tryz.underlying9 h.mp (k := ba p) (b := b) (by rw [lk_mapE, hnew])
  have h1 := h.addMap hn hap hk1 hmp
  have hpb1 : (pp, pb) ∈ (σ.files ++ [(p, b)]) := List.mem_append.2 (.inl hpb)
  have hN1 := h1.nodes pp pb hpb1
  obtain ⟨_, _, _, _, _, _, _, _, d8, d9⟩ := hN1.cells
  have hlt := lt_of_block h.blk
  have hltp := lt_of_block hN1.blk
  have hfp : w1.frozen? ⟨pb, 9, none⟩ = false := frozen_of_row _ _ _ _ _ hN1.blk
  have hmO := h.own.2.1
  have HB := Lib.hid (fun W => base p hp W)
  have H1 := Lib.hid h1
  have HN1 := Lib.hid hN1
  have HK1 := Lib.hid hk1
  have hbs := fun W (k : Chg [] w1 W) => bsS W (nv pb) ((σ.node pb).names.map ba) (ba (baseP p)) (hN1.names.keep k (by simp)) (by simp; omega)
  have hble := bsI_le ((σ.node pb).names.map ba) (ba (baseP p))
  have HBS := Lib.hid hbs
  obtain ⟨na, nc, hnv⟩ := hN1.names.shape
  simp only [svn_length] at hnv
  clear h h1 hN1 hk1 hmp hbs hn hap hnew
  generalize hP : ba p = P at *
  generalize hQ : ba (baseP p) = Q at *
  generalize hI : bsI ((σ.node pb).names.map ba) Q = I at *
  have HH := Lib.hid (And.intro hP (And.intro hQ (And.intro hI hnv)))
  clear hP hQ hI
  rw [hnv] at d9 HBS
  clear hnv
  go_enter Tryz.func61, Tryz.ntmps61
  go_wp2_with (first
    | (go_at_call 93; refine (HB.out _).mono ?_; rintro e w' ⟨rfl, k, rfl⟩)
    | (go_at_call 17; refine (HBS.out _ (by first | exact (Chg.refl _ _).drewN _ | exact Chg.refl _ _)).mono ?_; rintro e w' ⟨bl, rfl, q, rfl⟩))
  have hins : ∀ v, v = nv pb → Calls Tryz.prog 94 #[v, .int .i64 I, .slice (some ⟨w.heap.size, 0, none⟩) 1 1] ((w1.drewN (k + q)).alloc (.cells #[.string Q] 9)) fun e w' =>
      ∃ ao c, e = .returned (.slice ao ((σ.node pb).names.length + 1) c) ∧ w'.ownsRow 0 9 1 (.slice ao ((σ.node pb).names.length + 1) c) ((σ.node pb).names.length + 1) (sv (insAt ((σ.node pb).names.map ba) I Q)) ∧ ((w1.drewN (k + q)).alloc (.cells #[.string Q] 9)).grownBy w' v.ownBlock ∧
        ((Value.slice ao ((σ.node pb).names.length + 1) c).ownBlock = v.ownBlock ∨ (Value.slice ao ((σ.node pb).names.length + 1) c).ownBlock = some (w.heap.size + 1)) := by
    rintro v rfl
    have hN2 := HN1.out.names.keep (((Chg.refl [] w1).drewN (k + q)).alloc (.cells #[.string Q] 9)) (by simp)
    have hb2 : ((w1.drewN (k + q)).alloc (.cells #[.string Q] 9)).heap[w.heap.size]? = some (.cells #[.string Q] 9 (0, 0)) := heap_new_at (by rw [← hz1]; rfl)
    have hml : ((σ.node pb).names.map ba).length = (σ.node pb).names.length := by simp
    have h0 : (svn (σ.node pb).names).length = ((σ.node pb).names.map ba).length := by rw [svn_length, hml]
    unfold Row at hN2
    rw [h0] at hN2
    have := insertS ((w1.drewN (k + q)).alloc (.cells #[.string Q] 9)) 0 (nv pb) ((σ.node pb).names.map ba) I Q w.heap.size 9 hble (by rw [hml]; exact hlen) (Nat.zero_le _) hN2 hb2 (by
      intro hg
      obtain ⟨c, hc⟩ := HN1.out.names.block hg
      have := lt_of_block hc
      omega)
    rw [hml] at this
    have hs2 : ((w1.drewN (k + q)).alloc (.cells #[.string Q] 9)).heap.size = w.heap.size + 1 := by rw [World.size_alloc, ← hz1]; rfl
    rw [hs2] at this
    exact this
  refine (hins _ HH.out.2.2.2.symm).mono ?_
  clear hins
  rintro e w3 ⟨a3, c3, rfl, hown3, hgr3, hor3⟩
  have hgr3' : ((w1.drewN (k + q)).alloc (.cells #[.string Q] 9)).grownBy w3 (nv pb).ownBlock := by rw [HH.out.2.2.2]; exact hgr3
  have hk3 : Chg (nv pb).ownBlock.toList w1 w3 := (((Chg.refl _ w1).drewN (k + q)).alloc _).grown hgr3' (fun g hg _ => by simp [hg])
  have hpbn : pb ∉ (nv pb).ownBlock.toList := fun hm => by
    obtain ⟨c, hc⟩ := HN1.out.names.block (g := pb) (by simpa using hm)
    exact ne_of_types hc HN1.out.blk (by decide) rfl
  have hb3 := hk3.heap HN1.out.blk hpbn
  have e9 : w3.cell? ⟨pb, 9, none⟩ = some (nv pb) := cell_heap hb3 9 rfl
  have hf9 : w3.frozen? ⟨pb, 9, none⟩ = false := frozen_of_row _ _ _ _ _ hb3
  have HK3 := Lib.hid (And.intro hk3 (And.intro hown3 (And.intro hor3 hb3)))
  clear hk3 hown3 hor3 hgr3 hgr3' hb3 d9 d8
  generalize hNV : nv pb = NV at e9
  go_wp2_with fail
  go_end0
  obtain ⟨hk3, hown3, hor3, hb3⟩ := HK3.out
  refine ⟨rfl, ?_⟩
  have hk4 : Chg (pb :: (nv pb).ownBlock.toList) w1 (w3.setCell ⟨pb, 9, none⟩ (.slice a3 ((σ.node pb).names.length + 1) c3)) := (hk3.mono (fun k hk _ => List.mem_cons_of_mem _ hk)).setCell (p := ⟨pb, 9, none⟩) (fun _ => by simp) _
  have hb4 := heap_set hb3 9 (.slice a3 ((σ.node pb).names.length + 1) c3) (cs' := nodeCells (σ.node pb) (dv pb) (.slice a3 ((σ.node pb).names.length + 1) c3)) rfl
  have hrow : Row (w3.setCell ⟨pb, 9, none⟩ (.slice a3 ((σ.node pb).names.length + 1) c3)) 9 (.slice a3 ((σ.node pb).names.length + 1) c3) (svn (addName (σ.node pb) (baseP p)).names) := by
    have hs : svn (addName (σ.node pb) (baseP p)).names = sv (insAt ((σ.node pb).names.map ba) I Q) := by
      unfold addName
      simp only
      rw [svn_ins, HH.out.2.1, HH.out.2.2.1]
    rw [hs]
    have h0 := own_zero hown3 (by rw [sv_length, insAt_length _ _ _ hble]; simp)
    refine h0.keep ((Chg.refl [pb] w3).setCell (p := ⟨pb, 9, none⟩) (fun _ => by simp) _) fun g hg => ?_
    obtain ⟨c, hc⟩ := h0.block hg
    simpa using ne_of_types hc hb3 (by decide)
  have hor : (Value.slice a3 ((σ.node pb).names.length + 1) c3).ownBlock = (nv pb).ownBlock ∨ ∃ g, (Value.slice a3 ((σ.node pb).names.length + 1) c3).ownBlock = some g ∧ w1.heap.size ≤ g ∧ g < (w3.setCell ⟨pb, 9, none⟩ (.slice a3 ((σ.node pb).names.length + 1) c3)).heap.size := by
    rcases hor3 with h | h
    · exact .inl (by rw [h, HH.out.2.2.2])
    · refine .inr ⟨_, h, by omega, ?_⟩
      obtain ⟨c, hc⟩ := hrow.block h
      exact lt_of_block hc
  have hfin := H1.out.setNames hpb1 hk4 (addName (σ.node pb) (baseP p)).names _ hb4 hrow hor
  refine ⟨_, ⟨⟨_, _, _, _, hfin⟩, fun g hg => ?_⟩, (HK1.out.mono (by simpa using fun _ => hmO)).trans (hk4.mono fun g hg _ => ?_)⟩
  · rcases List.mem_append.1 hg with hg | hg
    · rcases hor with h | ⟨g', h, hge, _⟩
      · rw [h] at hg
        exact .inl (HN1.out.own.2.2 g (by simpa using hg))
      · rw [h] at hg
        simp at hg
        exact .inr (by omega)
    · exact .inl hg
  · rcases List.mem_cons.1 hg with rfl | hg
    · exact HN1.out.own.1
    · exact HN1.out.own.2.2 g (by simpa using hg)
end Go.Proofs.YtfhiioopimmahaaGreatDoor
