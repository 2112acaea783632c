/- paxtar/vfs: Chown, ReadFile, Link. -/
import Derived.Test.YtoionaeimnmcbaaGreatDoorVWrap
namespace Go.Pax
open Go.RowKit
def chownE (σ : Fs) (p : Str) : Int := match lkF σ.files p with
  | some _ => 0
  | none => 19
def setNode (σ : Fs) (b : Nat) (nd : Nd) : Fs := { σ with node := fun i => if i = b then nd else σ.node i }
/-- What Link answers. -/
def linkE (σ : Fs) (p t : Str) : Int :=
  if checkP p ≠ 0 then checkP p else if placeE σ p ≠ 0 then placeE σ p else match lkF σ.files t with
  | some b => if (σ.node b).kind = 1 then 0 else 15
  | none => 19
def readE (σ : Fs) (p : Str) : Int := match lkF σ.files p with
  | some b => if (σ.node b).kind = 1 then 0 else 8
  | none => 19
end Go.Pax
namespace Go.Proofs.YtoionaeimnmcbaaGreatDoor
open Go.RowKit Go.Pax Go.Shelf
set_option maxHeartbeats 2000000 in
theorem chown_nil (w : World) (P : ByteArray) (u m : Int) : Calls Tryz.prog 31 #[.pointer none, .string P, .int .i64 u, .int .i64 m] w fun e w' => e = .returned (.int .i64 1) ∧ Chg [] w w' := by
  go_enter Tryz.func31, Tryz.ntmps31
  go_wp2_with (go_at_call 38; refine (find_nil _ _).mono ?_; rintro e w' ⟨rfl, rfl⟩)
  go_ret
  exact ⟨rfl, Chg.refl _ _⟩
set_option maxHeartbeats 4000000 in
theorem chown (w : World) (f : Nat) (O : List Nat) (σ : Fs) (p : Str) (u mt : Int) (h : FsAt w f O σ) :
    Calls Tryz.prog 31 #[.pointer (some ⟨f, 0, none⟩), .string (ba p), .int .i64 u, .int .i64 mt] w fun e w' => e = .returned (.int .i64 (chownE σ p)) ∧
      (chownE σ p ≠ 0 → Chg [] w w') ∧ (chownE σ p = 0 → ∃ b, lkF σ.files p = some b ∧ FsTo w w' f O (setNode σ b { σ.node b with uid := u, mtime := mt })) := by
  have hf := find w f O σ p h
  have HF := Lib.hid hf
  clear hf
  unfold chownE
  unfold found at HF
  cases hk : lkF σ.files p with
  | none =>
    rw [hk] at HF
    simp only at HF ⊢
    clear hk h
    generalize ba p = P at *
    go_enter Tryz.func31, Tryz.ntmps31
    go_wp2_with (go_at_call 38; refine HF.out.mono ?_; rintro e w' ⟨rfl, rfl⟩)
    go_ret
    exact ⟨rfl, fun _ => Chg.refl _ _, fun h => by cases h⟩
  | some b =>
    rw [hk] at HF
    simp only at HF ⊢
    obtain ⟨m, rv, dv, nv, h⟩ := h
    have hN := h.nodes _ _ (lkF_mem hk)
    obtain ⟨c0, c1, c2, c3, c4, c5, c6, c7, _, _⟩ := hN.cells
    have hlt := lt_of_block hN.blk
    have f6 : w.frozen? ⟨b, 6, none⟩ = false := frozen_of_row _ _ _ _ _ hN.blk
    have f7 : w.frozen? ⟨b, 7, none⟩ = false := frozen_of_row _ _ _ _ _ hN.blk
    have H := Lib.hid (And.intro h hN)
    have HK := Lib.hid hk
    clear h hN hk
    generalize ba p = P at *
    go_enter Tryz.func31, Tryz.ntmps31
    go_wp2_with (go_at_call 38; refine HF.out.mono ?_; rintro e w' ⟨rfl, rfl⟩)
    go_ret
    refine ⟨rfl, fun h => absurd rfl h, fun _ => ⟨b, rfl, ?_⟩⟩
    obtain ⟨h, hN⟩ := H.out
    have k1 : Chg [b] w' ((w'.setCell ⟨b, 6, none⟩ (.int .i64 u)).setCell ⟨b, 7, none⟩ (.int .i64 mt)) := ((Chg.refl _ _).setCell (fun _ => by simp) _).setCell (fun _ => by simp) _
    have hb := heap_set (heap_set hN.blk 6 (.int .i64 u) rfl) 7 (.int .i64 mt) rfl
    exact ⟨O, ⟨⟨m, rv, dv, nv, h.setN (lkF_mem HK.out) k1 { σ.node b with uid := u, mtime := mt } rfl rfl hb⟩, fun g hg => .inl hg⟩, k1.mono (by simpa using fun _ => hN.own.1)⟩
/-- What ReadFile returns. -/
def ReadAs (e : Ending) (w w' : World) (σ : Fs) (p : Str) : Prop :=
  (readE σ p ≠ 0 → e = .returned (.tuple #[.slice none 0 0, .int .i64 (readE σ p)]) ∧ Chg [] w w') ∧
  (readE σ p = 0 → ∃ b ao cap fp, lkF σ.files p = some b ∧ e = .returned (.tuple #[.slice ao (σ.node b).data.length cap, .int .i64 0]) ∧ Rd w' fp ao (bv (σ.node b).data) ∧ w'.ownsRow w.heap.size 5 1 (.slice ao (σ.node b).data.length cap) (σ.node b).data.length (bv (σ.node b).data) ∧ (∀ g ∈ fp, w.heap.size ≤ g) ∧ Chg [] w w')
set_option maxHeartbeats 2000000 in
theorem readFile_nil (w : World) (P : ByteArray) : Calls Tryz.prog 35 #[.pointer none, .string P] w fun e w' => e = .returned (.tuple #[.slice none 0 0, .int .i64 1]) ∧ Chg [] w w' := by
  go_enter Tryz.func35, Tryz.ntmps35
  go_wp2_with (go_at_call 38; refine (find_nil _ _).mono ?_; rintro e w' ⟨rfl, rfl⟩)
  go_ret2
  exact ⟨rfl, Chg.refl _ _⟩
set_option maxHeartbeats 4000000 in
theorem readFile (w : World) (f : Nat) (O : List Nat) (σ : Fs) (p : Str) (h : FsAt w f O σ) (hd : ∀ p b, (p, b) ∈ σ.files → (σ.node b).data.length ≤ 140737488355328) :
    Calls Tryz.prog 35 #[.pointer (some ⟨f, 0, none⟩), .string (ba p)] w fun e w' => ReadAs e w w' σ p := by
  have hf := find w f O σ p h
  have HF := Lib.hid hf
  clear hf
  unfold ReadAs readE
  unfold found at HF
  cases hk : lkF σ.files p with
  | none =>
    rw [hk] at HF
    simp only at HF ⊢
    clear hk h
    generalize ba p = P at *
    go_enter Tryz.func35, Tryz.ntmps35
    go_wp2_with (go_at_call 38; refine HF.out.mono ?_; rintro e w' ⟨rfl, rfl⟩)
    go_ret2
    exact ⟨fun _ => ⟨rfl, Chg.refl _ _⟩, fun h => by cases h⟩
  | some b =>
    rw [hk] at HF
    simp only at HF ⊢
    obtain ⟨m, rv, dv, nv, h⟩ := h
    have hN := h.nodes _ _ (lkF_mem hk)
    have hdl := hd _ _ (lkF_mem hk)
    obtain ⟨c0, _, _, _, _, _, _, _, c8, _⟩ := hN.cells
    have hlt := lt_of_block hN.blk
    obtain ⟨da, dc, hdv⟩ := hN.data.shape
    rw [hdv] at hN c8
    have hrd := hN.data.rd.2.1
    rw [bv_length] at c8 hrd
    have hcl := cloneBytes w da (σ.node b).data.length dc _ (σ.node b).data rfl hdl hrd
    have HC := Lib.hid hcl
    clear hN hcl hrd h hk hd
    generalize hnd : σ.node b = nd at *
    obtain ⟨kind, mode, ino, links, size, target, uid, mtime, data, names⟩ := nd
    simp only at c0 c8 hdl HC ⊢
    have HND := Lib.hid hnd
    clear hnd
    generalize ba p = P at *
    generalize hDL : data.length = DL at *
    have HDL := Lib.hid hDL
    clear hDL
    by_cases hkd : kind = 1
    · subst hkd
      rw [if_pos rfl]
      go_enter Tryz.func35, Tryz.ntmps35
      go_wp2_with (first
        | (go_at_call 38; refine HF.out.mono ?_; rintro e w' ⟨rfl, rfl⟩)
        | (go_at_call 52; refine HC.out.mono ?_; rintro e w2 ⟨ao, cap, rfl, hown, hgr⟩; have HO := Lib.hid (And.intro hown hgr); clear hown hgr))
      go_ret2
      obtain ⟨hown, hgr⟩ := HO.out
      obtain ⟨hr1, hr2, _⟩ := own_rd2 hown
      refine ⟨fun h => absurd rfl h, fun _ => ⟨b, ao, cap, _, rfl, ?_, ?_, ?_, fun g hg => (hr2 g hg).1, Chg.of_grown hgr (fun k hk => by cases hk)⟩⟩
      · rw [HND.out, HDL.out]; rfl
      · rw [HND.out]; exact hr1
      · rw [HND.out]; simp only [HDL.out]; exact hown
    · rw [if_neg hkd]
      have hkb : (kind == 1) = false := by simpa using hkd
      go_enter Tryz.func35, Tryz.ntmps35
      go_wp2_with (go_at_call 38; refine HF.out.mono ?_; rintro e w' ⟨rfl, rfl⟩)
      go_ret2
      exact ⟨fun _ => ⟨rfl, Chg.refl _ _⟩, fun h => by cases h⟩
/-- The file system with one link more to the file at block b. -/
def linked (σ : Fs) (p : Str) (pb b : Nat) : Fs := entered (setNode σ b { σ.node b with links := (σ.node b).links + 1 }) p pb b
def LinkedBy (w w' : World) (f : Nat) (O : List Nat) (σ : Fs) (p t : Str) : Prop :=
  (linkE σ p t ≠ 0 → Chg [] w w') ∧ (linkE σ p t = 0 → ∃ pb b, lkF σ.files (parentP p) = some pb ∧ lkF σ.files t = some b ∧ FsTo w w' f O (linked σ p pb b))
set_option maxHeartbeats 2000000 in
theorem link_nil (w : World) (P T : ByteArray) : Calls Tryz.prog 23 #[.pointer none, .string P, .string T] w fun e w' => e = .returned (.int .i64 1) ∧ Chg [] w w' := by
  go_enter Tryz.func23, Tryz.ntmps23
  go_wp2
  go_ret
  exact ⟨rfl, Chg.refl _ _⟩
set_option maxRecDepth 100000 in
set_option maxHeartbeats 8000000 in
theorem link (w : World) (f : Nat) (O : List Nat) (σ : Fs) (p t : Str) (h : FsAt w f O σ) (hok : σ.Ok) :
    Calls Tryz.prog 23 #[.pointer (some ⟨f, 0, none⟩), .string (ba p), .string (ba t)] w fun e w' => e = .returned (.int .i64 (linkE σ p t)) ∧ LinkedBy w w' f O σ p t := by
  have hpc := fun W => pathCheck p W
  have HPC := Lib.hid hpc
  have hpl := fun (hE : checkP p = 0) W (k : Chg [] w W) => place W f O σ p (h.foreign k (by simp)) (by have := checkP_len hE; omega)
  have HPL := Lib.hid hpl
  clear hpc hpl
  unfold LinkedBy
  have hLE : linkE σ p t = if checkP p ≠ 0 then checkP p else if placeE σ p ≠ 0 then placeE σ p else match lkF σ.files t with
    | some b => if (σ.node b).kind = 1 then 0 else 15
    | none => 19 := rfl
  generalize linkE σ p t = LE at *
  by_cases hE : checkP p ≠ 0
  · rw [if_pos hE] at hLE
    subst hLE
    generalize checkP p = E at *
    generalize ba p = P at *
    generalize ba t = T at *
    have hEb : (E == 0) = false := by simpa using hE
    have hEn : (E != 0) = true := by simpa using hE
    clear HPL h hok
    go_enter Tryz.func23, Tryz.ntmps23
    go_wp2_with (go_at_call 48; refine (HPC.out _).mono ?_; rintro e w2 ⟨rfl, k2⟩; have HK2 := Lib.hid k2; clear k2)
    go_ret
    exact ⟨rfl, fun _ => HK2.out, fun h => absurd h hE⟩
  have hE0 : checkP p = 0 := by simpa using hE
  rw [if_neg hE] at hLE
  rw [hE0] at HPC
  replace HPL := Lib.hid (HPL.out hE0)
  by_cases hpe : placeE σ p ≠ 0
  · rw [if_pos hpe] at hLE
    rw [placed_bad hpe] at HPL
    subst hLE
    generalize placeE σ p = PE at *
    generalize ba p = P at *
    generalize ba t = T at *
    have hpb : (PE == 0) = false := by simpa using hpe
    have hpn : (PE != 0) = true := by simpa using hpe
    clear h hok
    go_enter Tryz.func23, Tryz.ntmps23
    go_wp2_with (first
      | (go_at_call 48; refine (HPC.out _).mono ?_; rintro e w2 ⟨rfl, k2⟩; have HK2 := Lib.hid k2; clear k2)
      | (go_at_call 49; refine (HPL.out _ HK2.out).mono ?_; rintro e w4 ⟨rfl, kq, rfl⟩))
    go_ret
    exact ⟨rfl, fun _ => HK2.out.drewN _, fun h => absurd h hpe⟩
  rw [if_neg hpe] at hLE
  have hpe0 : placeE σ p = 0 := by simpa using hpe
  obtain ⟨pb, hpb, hpk, hpn, hpv⟩ := placed_ok hpe0
  rw [hpv] at HPL
  clear hpv hpe
  obtain ⟨m, rv, dv, nv, h⟩ := h
  obtain ⟨_, _, _, _, c4⟩ := h.cells
  have hlk := fun n W (k : Chg [] w W) => (h.foreign k (by simp)).look t n
  have HLK := Lib.hid hlk
  have hltf := lt_of_block h.blk
  cases hk : lkF σ.files t with
  | none =>
    rw [hk] at HLK hLE
    simp only at HLK hLE
    subst hLE
    clear h hok hlk
    generalize ba p = P at *
    generalize ba t = T at *
    go_enter Tryz.func23, Tryz.ntmps23
    go_wp2_with (first
      | (go_at_call 48; refine (HPC.out _).mono ?_; rintro e w2 ⟨rfl, k2⟩; have HK2 := Lib.hid k2; have d4 := k2.cell c4 (by simp); have hl := fun n => HLK.out n _ k2; clear k2)
      | (go_at_call 49; refine (HPL.out _ HK2.out).mono ?_; rintro e w4 ⟨rfl, kq, rfl⟩))
    go_ret
    exact ⟨rfl, fun _ => HK2.out.drewN _, fun h => by cases h⟩
  | some b =>
    rw [hk] at HLK hLE
    simp only at HLK hLE
    have hbm := lkF_mem hk
    have hN := h.nodes _ _ hbm
    obtain ⟨c0, _, _, c3, _⟩ := hN.cells
    have hltb := lt_of_block hN.blk
    have hll := hok.links _ _ hbm
    have hnl := hok.names _ _ (lkF_mem hpb)
    by_cases hkd : (σ.node b).kind = 1
    · rw [if_pos hkd] at hLE
      subst hLE
      rw [hkd] at c0
      have f3 : w.frozen? ⟨b, 3, none⟩ = false := frozen_of_row _ _ _ _ _ hN.blk
      have hst := fun W (k : Chg [] w W) => heap_set (k.heap hN.blk (by simp)) 3 (.int .i64 ((σ.node b).links + 1)) rfl
      have hset := fun W W' (k : Chg [] w W) (k' : Chg [b] W W') hb' => (h.foreign k (by simp)).setN (w' := W') hbm k' { σ.node b with links := (σ.node b).links + 1 } rfl rfl hb'
      have hfz := fun W (k : Chg [] w W) => frozen_of_row W b 3 _ _ (k.heap hN.blk (by simp))
      have HS := Lib.hid (And.intro hst (And.intro hset hfz))
      have HH := Lib.hid (And.intro h (And.intro hpb (And.intro hk (And.intro hbm hpn))))
      have HPP := Lib.hid (checkP_len hE0)
      clear h hN hok hst hset hlk hfz hpb hk hbm hpn
      generalize hLL : (σ.node b).links = LL at *
      have HLL := Lib.hid hLL
      generalize hP : ba p = P at *
      generalize hT : ba t = T at *
      have HPT := Lib.hid (And.intro hP hT)
      clear hLL hP hT
      go_enter Tryz.func23, Tryz.ntmps23
      go_wp2_with (first
        | (go_at_call 48; refine (HPC.out _).mono ?_; rintro e w2 ⟨rfl, k2⟩; have HK2 := Lib.hid k2; have d4 := k2.cell c4 (by simp); have d0 := k2.cell c0 (by simp); have d3 := k2.cell c3 (by simp); have hl := fun n => HLK.out n _ k2; have hz2 := k2.size; have hz3 := HS.out.2.2 _ k2; clear k2)
        | (go_at_call 49; refine (HPL.out _ HK2.out).mono ?_; rintro e w4 ⟨rfl, kq, rfl⟩))
      rw [← HPT.out.1]
      have hk2 := HK2.out
      have k2q : Chg [] w (w2.drewN kq) := hk2.drewN kq
      have hb' := HS.out.1 _ k2q
      obtain ⟨h0, hpb, hk, hbm, hpn⟩ := HH.out
      have k3 : Chg [b] (w2.drewN kq) ((w2.drewN kq).setCell ⟨b, 3, none⟩ (.int .i64 (LL + 1))) := (Chg.refl _ _).setCell (fun _ => by simp) _
      have h3 := HS.out.2.1 _ _ k2q k3 hb'
      have hN3 := h3.nodes _ _ hbm
      have hpbm := lkF_mem hpb
      have hlp := HPP.out
      refine (enter _ f O _ m rv _ _ p (parentP p) pb b h3 (by omega) hpbm hpn hN3 (fun p' b' hb' hne g hg => h3.apart p' b' t b hb' hbm hne g hg) (by
        have hx : (if pb = b then ({ σ.node b with links := LL + 1 } : Nd) else σ.node pb).names = (σ.node pb).names := by
          split
          · rename_i e; rw [e]
          · rfl
        show ((if pb = b then ({ σ.node b with links := LL + 1 } : Nd) else σ.node pb).names.length + 1) * 16 ≤ _
        rw [hx]
        omega)).mono ?_
      rintro e w6 ⟨rfl, hto⟩
      have HTO := Lib.hid (And.intro hto (And.intro k2q (And.intro k3 (And.intro hpb (And.intro hk hN3.own.1)))))
      clear hto k2q k3 h3 hN3 hpb hk h0 hbm hpn hpbm hk2 hb'
      go_wp2_with fail
      go_ret
      refine ⟨rfl, fun h => absurd rfl h, fun _ => ?_⟩
      obtain ⟨hto, k2q, k3, hpb, hk, hbo⟩ := HTO.out
      refine ⟨pb, b, hpb, rfl, ?_⟩
      unfold linked setNode
      rw [HLL.out]
      exact (FsTo.then_ ((k2q.mono (T := O) (by simp)).trans (k3.mono (T := O) (by simpa using fun _ => hbo))) (fun g hg => .inl hg) hto)
    · rw [if_neg hkd] at hLE
      subst hLE
      clear h hN hok hlk hk hbm
      generalize (σ.node b).kind = kd at *
      have hkb : (kd == 1) = false := by simpa using hkd
      generalize ba p = P at *
      generalize ba t = T at *
      go_enter Tryz.func23, Tryz.ntmps23
      go_wp2_with (first
        | (go_at_call 48; refine (HPC.out _).mono ?_; rintro e w2 ⟨rfl, k2⟩; have HK2 := Lib.hid k2; have d4 := k2.cell c4 (by simp); have d0 := k2.cell c0 (by simp); have hl := fun n => HLK.out n _ k2; have hz2 := k2.size; clear k2)
        | (go_at_call 49; refine (HPL.out _ HK2.out).mono ?_; rintro e w4 ⟨rfl, kq, rfl⟩))
      go_ret
      exact ⟨rfl, fun _ => HK2.out.drewN _, fun h => by cases h⟩
end Go.Proofs.YtoionaeimnmcbaaGreatDoor
