/- paxtar/vfs: find, Lstat, place. -/
import Derived.Test.YtoionaeimnmcbaaGreatDoorVFs
namespace Go.Proofs.YtoionaeimnmcbaaGreatDoor
open Go.RowKit Go.Pax Go.Shelf

theorem FsIn.look {w : World} {f : Nat} {O : List Nat} {σ : Fs} {m : Nat} {rv : Value} {dv nv : Nat → Value} (h : FsIn w f O σ m rv dv nv) (p : Str) (n : Nat) :
    (Instr.lookup 66 (.map (some m)) (.string (ba p)) true).run Tryz.prog (w.drewN n) =
      .ok (match lkF σ.files p with | some b => .tuple #[.pointer (some ⟨b, 0, none⟩), .bool true] | none => .tuple #[.pointer none, .bool false]) (w.drewN n) := by
  have hm : MapAt (w.drewN n) m (mapE σ.files) := h.mp.chg ((Chg.refl [] w).drewN n) (by simp)
  cases hl : lkF σ.files p with
  | none => exact run_lookup_none Tryz.underlying66 Tryz.underlying9 Tryz.zeroValue69 hm (by rw [lk_mapE, hl])
  | some b => exact run_lookup_some Tryz.underlying66 Tryz.underlying9 hm (by rw [lk_mapE, hl])

set_option maxHeartbeats 1000000 in
theorem find_nil (w : World) (s : ByteArray) : Calls Tryz.prog 38 #[.pointer none, .string s] w fun e w' => e = .returned (.tuple #[.pointer none, .int .i64 1]) ∧ w' = w := by
  go_enter Tryz.func38, Tryz.ntmps38
  go_wp2
  go_ret2
  exact ⟨rfl, rfl⟩
/-- What find returns. -/
def found (σ : Fs) (p : Str) : Value := match lkF σ.files p with
  | some b => .tuple #[.pointer (some ⟨b, 0, none⟩), .int .i64 0]
  | none => .tuple #[.pointer none, .int .i64 19]
set_option maxHeartbeats 1000000 in
theorem find (w : World) (f : Nat) (O : List Nat) (σ : Fs) (p : Str) (h : FsAt w f O σ) :
    Calls Tryz.prog 38 #[.pointer (some ⟨f, 0, none⟩), .string (ba p)] w fun e w' => e = .returned (found σ p) ∧ w' = w := by
  obtain ⟨m, rv, dv, nv, h⟩ := h
  have c4 : w.cell? ⟨f, 4, none⟩ = some (.map (some m)) := cell_heap h.blk 4 rfl
  have hl := h.look p 0
  rw [World.drewN_zero] at hl
  clear h
  unfold found
  cases hk : lkF σ.files p with
  | none =>
    rw [hk] at hl
    simp only at hl ⊢
    clear hk
    generalize ba p = P at *
    go_enter Tryz.func38, Tryz.ntmps38
    go_wp2
    go_ret2
    exact ⟨rfl, rfl⟩
  | some b =>
    rw [hk] at hl
    simp only at hl ⊢
    clear hk
    generalize ba p = P at *
    go_enter Tryz.func38, Tryz.ntmps38
    go_wp2
    go_ret2
    exact ⟨rfl, rfl⟩
/-- A file's metadata, as Lstat returns it. -/
def infoV (nd : Nd) : Value := .agg #[.int .i64 nd.kind, .int .i64 nd.mode, .int .i64 nd.ino, .int .i64 nd.links, .int .i64 nd.size, .string (ba nd.target), .int .i64 nd.uid, .int .i64 nd.mtime]
def noInfo : Value := .agg #[.int .i64 0, .int .i64 0, .int .i64 0, .int .i64 0, .int .i64 0, .string ⟨#[]⟩, .int .i64 0, .int .i64 0]
def lstatV (σ : Fs) (p : Str) : Value := match lkF σ.files p with
  | some b => .tuple #[infoV (σ.node b), .int .i64 0]
  | none => .tuple #[noInfo, .int .i64 19]
set_option maxHeartbeats 1000000 in
theorem lstat_nil (w : World) (s : ByteArray) : Calls Tryz.prog 16 #[.pointer none, .string s] w fun e w' => e = .returned (.tuple #[noInfo, .int .i64 1]) ∧ Chg [] w w' := by
  go_enter Tryz.func16, Tryz.ntmps16
  go_wp2_with (go_at_call 38; refine (find_nil _ _).mono ?_; rintro e w' ⟨rfl, rfl⟩)
  exact bodyPost_ret (v := .tuple #[noInfo, .int .i64 1]) (by simp [results, Tryz.results16, go_sem, noInfo]) rfl ⟨rfl, (Chg.refl _ _).alloc _⟩
set_option maxHeartbeats 2000000 in
theorem lstat (w : World) (f : Nat) (O : List Nat) (σ : Fs) (p : Str) (h : FsAt w f O σ) :
    Calls Tryz.prog 16 #[.pointer (some ⟨f, 0, none⟩), .string (ba p)] w fun e w' => e = .returned (lstatV σ p) ∧ Chg [] w w' := by
  have hf := fun W (k : Chg [] w W) => find W f O σ p (h.foreign k (by simp))
  have HF := Lib.hid hf
  clear hf
  unfold lstatV
  unfold found at HF
  cases hk : lkF σ.files p with
  | none =>
    rw [hk] at HF
    simp only at HF ⊢
    clear hk h
    generalize ba p = P at *
    go_enter Tryz.func16, Tryz.ntmps16
    go_wp2_with (go_at_call 38; refine (HF.out _ ((Chg.refl _ _).alloc _)).mono ?_; rintro e w' ⟨rfl, rfl⟩)
    exact bodyPost_ret (v := .tuple #[noInfo, .int .i64 19]) (by simp [results, Tryz.results16, go_sem, noInfo]) rfl ⟨rfl, (Chg.refl _ _).alloc _⟩
  | some b =>
    rw [hk] at HF
    simp only at HF ⊢
    obtain ⟨m, rv, dv, nv, h⟩ := h
    have hb := (h.nodes _ _ (lkF_mem hk)).blk
    obtain ⟨c0, c1, c2, c3, c4, c5, c6, c7, _, _⟩ := (h.nodes _ _ (lkF_mem hk)).cells
    have hlt := lt_of_block hb
    clear hk h hb
    unfold infoV
    generalize σ.node b = nd at *
    obtain ⟨kind, mode, ino, links, size, target, uid, mtime, data, names⟩ := nd
    simp only at c0 c1 c2 c3 c4 c5 c6 c7 ⊢
    generalize ba p = P at *
    generalize ba target = T at *
    go_enter Tryz.func16, Tryz.ntmps16
    go_wp2_with (go_at_call 38; refine (HF.out _ ((Chg.refl _ _).alloc _)).mono ?_; rintro e w' ⟨rfl, rfl⟩)
    exact bodyPost_ret (v := .tuple #[.agg #[.int .i64 kind, .int .i64 mode, .int .i64 ino, .int .i64 links, .int .i64 size, .string T, .int .i64 uid, .int .i64 mtime], .int .i64 0]) (by simp [results, Tryz.results16, go_sem]) rfl ⟨rfl, (Chg.refl _ _).alloc _⟩

/-- What place returns. -/
def placed (σ : Fs) (p : Str) : Value := match lkF σ.files (parentP p) with
  | some b => if (σ.node b).kind = 0 then (match lkF σ.files p with | some _ => .tuple #[.pointer none, .int .i64 14] | none => .tuple #[.pointer (some ⟨b, 0, none⟩), .int .i64 0]) else .tuple #[.pointer none, .int .i64 13]
  | none => .tuple #[.pointer none, .int .i64 13]
set_option maxRecDepth 100000 in
set_option maxHeartbeats 2000000 in
theorem place (w : World) (f : Nat) (O : List Nat) (σ : Fs) (p : Str) (h : FsAt w f O σ) (hp : p.length ≤ 140737488355328) :
    Calls Tryz.prog 49 #[.pointer (some ⟨f, 0, none⟩), .string (ba p)] w fun e w' => e = .returned (placed σ p) ∧ ∃ k, w' = w.drewN k := by
  obtain ⟨m, rv, dv, nv, h⟩ := h
  obtain ⟨_, _, _, _, c4⟩ := h.cells
  have hl1 := fun n => h.look (parentP p) n
  have hl2 := fun n => h.look p n
  have HPA := Lib.hid (fun W => parent p hp W)
  have hk1 : ∀ b, lkF σ.files (parentP p) = some b → w.cell? ⟨b, 0, none⟩ = some (.int .i64 (σ.node b).kind) := fun b hb => (h.nodes _ _ (lkF_mem hb)).cells.1
  unfold placed
  generalize ba (parentP p) = Q at *
  generalize ba p = P at *
  cases hq : lkF σ.files (parentP p) with
  | none =>
    rw [hq] at hl1
    simp only at hl1 ⊢
    clear hl2 hk1 h hq
    go_enter Tryz.func49, Tryz.ntmps49
    go_upto_region 1 with (fail)
    go_quiet ((go_at_call 75; exact Calls.quiet_of_same (HPA.out _)))
    go_wp2_with fail
    go_ret2
    exact ⟨rfl, _, rfl⟩
  | some b =>
    have c0 := hk1 b hq
    have hlt := World.block_lt_of_cell? w _ c0
    rw [hq] at hl1
    simp only at hl1 ⊢
    clear hk1 hq h
    generalize (σ.node b).kind = kd at *
    by_cases hkd : kd = 0
    · subst hkd
      rw [if_pos rfl]
      cases hpp : lkF σ.files p with
      | none =>
        rw [hpp] at hl2
        simp only at hl2 ⊢
        clear hpp
        go_enter Tryz.func49, Tryz.ntmps49
        go_upto_region 1 with (fail)
        go_quiet ((go_at_call 75; exact Calls.quiet_of_same (HPA.out _)))
        go_wp2_with fail
        go_ret2
        exact ⟨rfl, _, rfl⟩
      | some b' =>
        rw [hpp] at hl2
        simp only at hl2 ⊢
        clear hpp
        go_enter Tryz.func49, Tryz.ntmps49
        go_upto_region 1 with (fail)
        go_quiet ((go_at_call 75; exact Calls.quiet_of_same (HPA.out _)))
        go_wp2_with fail
        go_ret2
        exact ⟨rfl, _, rfl⟩
    · rw [if_neg hkd]
      have hkb : (kd == 0) = false := by simpa using hkd
      clear hl2
      go_enter Tryz.func49, Tryz.ntmps49
      go_upto_region 1 with (fail)
      go_quiet ((go_at_call 75; exact Calls.quiet_of_same (HPA.out _)))
      go_wp2_with fail
      go_ret2
      exact ⟨rfl, _, rfl⟩
end Go.Proofs.YtoionaeimnmcbaaGreatDoor
