/- paxtar/vfs: make. Printed by wip/gen/genmake.py. -/
import Derived.Test.YtoionaeimnmcbaaGreatDoorVEnter
namespace Go.Pax
open Go.RowKit
/-- What place answers. -/
def placeE (σ : Fs) (p : Str) : Int := match lkF σ.files (parentP p) with
  | some b => if (σ.node b).kind = 0 then (match lkF σ.files p with | some _ => 14 | none => 0) else 13
  | none => 13
/-- What make answers. -/
def makeE (σ : Fs) (p : Str) (kind mode : Int) (target : Str) : Int :=
  if checkP p ≠ 0 then checkP p else if mode < 0 ∨ 4095 < mode then 16 else if kind = 2 ∧ checkV target ≠ 0 then checkV target else placeE σ p
/-- What the numbers of a file system keep to. -/
structure Fs.Ok (σ : Fs) : Prop where
  next : 0 ≤ σ.next ∧ σ.next + σ.step ≤ 1099511627776
  step : 0 ≤ σ.step ∧ σ.step ≤ 1048576
  names : ∀ p b, (p, b) ∈ σ.files → (σ.node b).names.length ≤ 1099511627776
  lists : 0 ≤ σ.lists ∧ σ.lists ≤ 1099511627776
  links : ∀ p b, (p, b) ∈ σ.files → 0 ≤ (σ.node b).links ∧ (σ.node b).links ≤ 1099511627776
  rot : ∀ x ∈ σ.rot, 0 ≤ x
  rotl : σ.rot.length ≤ 1099511627776
theorem checkP_len {p : Str} (h : checkP p = 0) : p.length ≤ 65536 := by
  unfold checkP at h
  by_cases hl : 65536 < p.length
  · rw [if_pos hl] at h; cases h
  · omega
end Go.Pax
namespace Go.Proofs.YtoionaeimnmcbaaGreatDoor
open Go.RowKit Go.Pax Go.Shelf
/-- The file system with a new file at block b. -/
def made (σ : Fs) (p : Str) (nd : Nd) (pb b : Nat) : Fs := entered { σ with next := σ.next + σ.step, node := fun i => if i = b then nd else σ.node i } p pb b
def newNd (σ : Fs) (kind mode : Int) (target : Str) (data : List UInt8) : Nd := ⟨kind, mode, σ.next, 1, data.length, target, 0, 0, data, []⟩
theorem placed_bad {σ : Fs} {p : Str} (h : placeE σ p ≠ 0) : placed σ p = .tuple #[.pointer none, .int .i64 (placeE σ p)] := by
  unfold placeE at h ⊢
  unfold placed
  split
  · rename_i b hb
    simp only [hb] at h ⊢
    split
    · rename_i hk
      rw [if_pos hk] at h
      split
      · rename_i b' hp; simp only [hp]
      · rename_i hp; rw [hp] at h; exact absurd rfl h
    · rfl
  · rename_i hb
    simp only [hb]
theorem placed_ok {σ : Fs} {p : Str} (h : placeE σ p = 0) : ∃ pb, lkF σ.files (parentP p) = some pb ∧ (σ.node pb).kind = 0 ∧ lkF σ.files p = none ∧ placed σ p = .tuple #[.pointer (some ⟨pb, 0, none⟩), .int .i64 0] := by
  unfold placeE at h
  unfold placed
  split at h
  · rename_i b hb
    split at h
    · rename_i hk
      split at h
      · cases h
      · rename_i hp
        exact ⟨b, hb, hk, hp, by simp only [hb, hp]; rw [if_pos hk]⟩
    · cases h
  · cases h
set_option maxRecDepth 100000 in
set_option maxHeartbeats 4000000 in
theorem make_nil (w : World) (s : ByteArray) (i0 i1 i2 i3 i4 i6 i7 : Int) (T : ByteArray) (d : Value) : Calls Tryz.prog 47 #[.pointer none, .string s, .agg #[.int .i64 i0, .int .i64 i1, .int .i64 i2, .int .i64 i3, .int .i64 i4, .string T, .int .i64 i6, .int .i64 i7], d] w fun e w' => e = .returned (.int .i64 1) ∧ Chg [] w w' := by
  go_enter Tryz.func47, Tryz.ntmps47
  go_wp2
  go_ret
  exact ⟨rfl, (Chg.refl _ _).alloc _⟩
set_option maxRecDepth 100000 in
set_option maxHeartbeats 8000000 in
theorem make (w : World) (f : Nat) (O : List Nat) (σ : Fs) (p : Str) (kind mode : Int) (target : Str) (data : List UInt8) (ao : Option Addr) (dc : Nat) (fp : List Nat) (h : FsAt w f O σ) (hok : σ.Ok) (hkeys : KeysAt w) (_hko : 1 ∉ O)
    (ht : target.length ≤ 140737488355328) (hd : Rd w fp ao (bv data)) (hdl : data.length ≤ 140737488355328) (hff : ∀ x ∈ fp, x ∉ O) :
    Calls Tryz.prog 47 #[.pointer (some ⟨f, 0, none⟩), .string (ba p), .agg #[.int .i64 kind, .int .i64 mode, .int .i64 0, .int .i64 0, .int .i64 0, .string (ba target), .int .i64 0, .int .i64 0], .slice ao data.length dc] w fun e w' =>
      e = .returned (.int .i64 (makeE σ p kind mode target)) ∧ (makeE σ p kind mode target ≠ 0 → Chg [] w w') ∧
      (makeE σ p kind mode target = 0 → ∃ pb b, lkF σ.files (parentP p) = some pb ∧ w.heap.size ≤ b ∧ FsTo w w' f O (made σ p (newNd σ kind mode target data) pb b)) := by
  have hpc := fun W => pathCheck p W
  have hrc := fun W (k : Chg [] w W) => checkRec W target (hkeys.chg k (by simp)) ht
  have hff0 : f ∉ fp := fun hm => hff f hm h.mem
  have HPC := Lib.hid hpc
  have HRC := Lib.hid hrc
  have H := Lib.hid h
  have HD := Lib.hid hd
  have HDL := Lib.hid hdl
  have HOK := Lib.hid hok
  clear hpc hrc h hd hdl hok hkeys
  have hlk : ba linkpath = (⟨#[108, 105, 110, 107, 112, 97, 116, 104]⟩ : ByteArray) := rfl
  rw [hlk] at HRC
  clear hlk
  generalize hP : ba p = P at *
  generalize hT : ba target = T at *
  generalize hcE : checkP p = E at *
  generalize hcV : checkV target = V at *
  generalize hDN : data.length = DN at *
  have HP := Lib.hid (And.intro hP hT)
  have HE := Lib.hid hcE
  have HV := Lib.hid hcV
  have HDN := Lib.hid hDN
  clear hP hT hcE hcV hDN
  have hME : makeE σ p kind mode target = if E ≠ 0 then E else if mode < 0 ∨ 4095 < mode then 16 else if kind = 2 ∧ V ≠ 0 then V else placeE σ p := by unfold makeE; rw [HE.out, HV.out]
  have HME := Lib.hid hME
  clear hME
  generalize makeE σ p kind mode target = ME at *
  by_cases hE : E ≠ 0
  · have hm := HME.out
    rw [if_pos hE] at hm
    have HM := Lib.hid hm
    have hEb : (E == 0) = false := by simpa using hE
    have hEn : (E != 0) = true := by simpa using hE
    clear hm HME
    go_enter Tryz.func47, Tryz.ntmps47
    go_upto_region 3 with (fail)
    obtain ⟨W, hW⟩ : ∃ W, w.alloc (.cells #[.int .i64 kind, .int .i64 mode, .int .i64 0, .int .i64 0, .int .i64 0, .string T, .int .i64 0, .int .i64 0] 52) = W := ⟨_, rfl⟩
    have e0 : W.heap[w.heap.size]? = some (.cells #[.int .i64 kind, .int .i64 mode, .int .i64 0, .int .i64 0, .int .i64 0, .string T, .int .i64 0, .int .i64 0] 52 (0, 0)) := by rw [← hW]; exact heap_alloc_new _ _
    have hkW : Chg [] w W := by rw [← hW]; exact (Chg.refl _ _).alloc _
    have HW := Lib.hid hkW
    rw [hW]
    clear hW hkW
    generalize hA : w.heap.size = A at *
    have d0 : W.cell? ⟨A, 0, none⟩ = some (.int .i64 kind) := cell_heap e0 0 rfl
    have d1 : W.cell? ⟨A, 1, none⟩ = some (.int .i64 mode) := cell_heap e0 1 rfl
    have d2 : W.cell? ⟨A, 2, none⟩ = some (.int .i64 0) := cell_heap e0 2 rfl
    have d3 : W.cell? ⟨A, 3, none⟩ = some (.int .i64 0) := cell_heap e0 3 rfl
    have d4 : W.cell? ⟨A, 4, none⟩ = some (.int .i64 0) := cell_heap e0 4 rfl
    have d5 : W.cell? ⟨A, 5, none⟩ = some (.string T) := cell_heap e0 5 rfl
    have d6 : W.cell? ⟨A, 6, none⟩ = some (.int .i64 0) := cell_heap e0 6 rfl
    have d7 : W.cell? ⟨A, 7, none⟩ = some (.int .i64 0) := cell_heap e0 7 rfl
    have HA := Lib.hid hA
    clear e0 hA
    go_wp2_with (go_at_call 48; refine (HPC.out _).mono ?_; rintro e w2 ⟨rfl, k2⟩; have HK2 := Lib.hid k2; have x0 := k2.cell d0 (by simp); have x1 := k2.cell d1 (by simp); have x2 := k2.cell d2 (by simp); have x3 := k2.cell d3 (by simp); have x4 := k2.cell d4 (by simp); have x5 := k2.cell d5 (by simp); have x6 := k2.cell d6 (by simp); have x7 := k2.cell d7 (by simp); clear k2)
    go_ret
    rw [HM.out]
    exact ⟨rfl, fun _ => HW.out.trans HK2.out, fun h => absurd h hE⟩
  obtain rfl : E = 0 := by simpa using hE
  by_cases hmode : mode < 0 ∨ 4095 < mode
  · have hm := HME.out
    rw [if_neg (by simp), if_pos hmode] at hm
    have HM := Lib.hid hm
    clear hm HME
    rcases hmode with hmode | hmode
    · skip
      go_enter Tryz.func47, Tryz.ntmps47
      go_upto_region 3 with (fail)
      obtain ⟨W, hW⟩ : ∃ W, w.alloc (.cells #[.int .i64 kind, .int .i64 mode, .int .i64 0, .int .i64 0, .int .i64 0, .string T, .int .i64 0, .int .i64 0] 52) = W := ⟨_, rfl⟩
      have e0 : W.heap[w.heap.size]? = some (.cells #[.int .i64 kind, .int .i64 mode, .int .i64 0, .int .i64 0, .int .i64 0, .string T, .int .i64 0, .int .i64 0] 52 (0, 0)) := by rw [← hW]; exact heap_alloc_new _ _
      have hkW : Chg [] w W := by rw [← hW]; exact (Chg.refl _ _).alloc _
      have HW := Lib.hid hkW
      rw [hW]
      clear hW hkW
      generalize hA : w.heap.size = A at *
      have d0 : W.cell? ⟨A, 0, none⟩ = some (.int .i64 kind) := cell_heap e0 0 rfl
      have d1 : W.cell? ⟨A, 1, none⟩ = some (.int .i64 mode) := cell_heap e0 1 rfl
      have d2 : W.cell? ⟨A, 2, none⟩ = some (.int .i64 0) := cell_heap e0 2 rfl
      have d3 : W.cell? ⟨A, 3, none⟩ = some (.int .i64 0) := cell_heap e0 3 rfl
      have d4 : W.cell? ⟨A, 4, none⟩ = some (.int .i64 0) := cell_heap e0 4 rfl
      have d5 : W.cell? ⟨A, 5, none⟩ = some (.string T) := cell_heap e0 5 rfl
      have d6 : W.cell? ⟨A, 6, none⟩ = some (.int .i64 0) := cell_heap e0 6 rfl
      have d7 : W.cell? ⟨A, 7, none⟩ = some (.int .i64 0) := cell_heap e0 7 rfl
      have HA := Lib.hid hA
      clear e0 hA
      go_wp2_with (go_at_call 48; refine (HPC.out _).mono ?_; rintro e w2 ⟨rfl, k2⟩; have HK2 := Lib.hid k2; have x0 := k2.cell d0 (by simp); have x1 := k2.cell d1 (by simp); have x2 := k2.cell d2 (by simp); have x3 := k2.cell d3 (by simp); have x4 := k2.cell d4 (by simp); have x5 := k2.cell d5 (by simp); have x6 := k2.cell d6 (by simp); have x7 := k2.cell d7 (by simp); clear k2)
      go_ret
      rw [HM.out]
      exact ⟨rfl, fun _ => HW.out.trans HK2.out, fun h => by cases h⟩
    · have hm0 : ¬ mode < 0 := by omega
      go_enter Tryz.func47, Tryz.ntmps47
      go_upto_region 3 with (fail)
      obtain ⟨W, hW⟩ : ∃ W, w.alloc (.cells #[.int .i64 kind, .int .i64 mode, .int .i64 0, .int .i64 0, .int .i64 0, .string T, .int .i64 0, .int .i64 0] 52) = W := ⟨_, rfl⟩
      have e0 : W.heap[w.heap.size]? = some (.cells #[.int .i64 kind, .int .i64 mode, .int .i64 0, .int .i64 0, .int .i64 0, .string T, .int .i64 0, .int .i64 0] 52 (0, 0)) := by rw [← hW]; exact heap_alloc_new _ _
      have hkW : Chg [] w W := by rw [← hW]; exact (Chg.refl _ _).alloc _
      have HW := Lib.hid hkW
      rw [hW]
      clear hW hkW
      generalize hA : w.heap.size = A at *
      have d0 : W.cell? ⟨A, 0, none⟩ = some (.int .i64 kind) := cell_heap e0 0 rfl
      have d1 : W.cell? ⟨A, 1, none⟩ = some (.int .i64 mode) := cell_heap e0 1 rfl
      have d2 : W.cell? ⟨A, 2, none⟩ = some (.int .i64 0) := cell_heap e0 2 rfl
      have d3 : W.cell? ⟨A, 3, none⟩ = some (.int .i64 0) := cell_heap e0 3 rfl
      have d4 : W.cell? ⟨A, 4, none⟩ = some (.int .i64 0) := cell_heap e0 4 rfl
      have d5 : W.cell? ⟨A, 5, none⟩ = some (.string T) := cell_heap e0 5 rfl
      have d6 : W.cell? ⟨A, 6, none⟩ = some (.int .i64 0) := cell_heap e0 6 rfl
      have d7 : W.cell? ⟨A, 7, none⟩ = some (.int .i64 0) := cell_heap e0 7 rfl
      have HA := Lib.hid hA
      clear e0 hA
      go_wp2_with (go_at_call 48; refine (HPC.out _).mono ?_; rintro e w2 ⟨rfl, k2⟩; have HK2 := Lib.hid k2; have x0 := k2.cell d0 (by simp); have x1 := k2.cell d1 (by simp); have x2 := k2.cell d2 (by simp); have x3 := k2.cell d3 (by simp); have x4 := k2.cell d4 (by simp); have x5 := k2.cell d5 (by simp); have x6 := k2.cell d6 (by simp); have x7 := k2.cell d7 (by simp); clear k2)
      go_ret
      rw [HM.out]
      exact ⟨rfl, fun _ => HW.out.trans HK2.out, fun h => by cases h⟩
  have hm0 : ¬ mode < 0 := by omega
  have hm1 : ¬ 4095 < mode := by omega
  by_cases hkv : kind = 2 ∧ V ≠ 0
  · have hm := HME.out
    rw [if_neg (by simp), if_neg hmode, if_pos hkv] at hm
    have HM := Lib.hid hm
    obtain ⟨hk2, hV⟩ := hkv
    have hkb : (kind == 2) = true := by simp [hk2]
    clear hk2
    have hVb : (V == 0) = false := by simpa using hV
    have hVn : (V != 0) = true := by simpa using hV
    clear hm HME hmode
    go_enter Tryz.func47, Tryz.ntmps47
    go_upto_region 3 with (fail)
    obtain ⟨W, hW⟩ : ∃ W, w.alloc (.cells #[.int .i64 kind, .int .i64 mode, .int .i64 0, .int .i64 0, .int .i64 0, .string T, .int .i64 0, .int .i64 0] 52) = W := ⟨_, rfl⟩
    have e0 : W.heap[w.heap.size]? = some (.cells #[.int .i64 kind, .int .i64 mode, .int .i64 0, .int .i64 0, .int .i64 0, .string T, .int .i64 0, .int .i64 0] 52 (0, 0)) := by rw [← hW]; exact heap_alloc_new _ _
    have hkW : Chg [] w W := by rw [← hW]; exact (Chg.refl _ _).alloc _
    have HW := Lib.hid hkW
    rw [hW]
    clear hW hkW
    generalize hA : w.heap.size = A at *
    have d0 : W.cell? ⟨A, 0, none⟩ = some (.int .i64 kind) := cell_heap e0 0 rfl
    have d1 : W.cell? ⟨A, 1, none⟩ = some (.int .i64 mode) := cell_heap e0 1 rfl
    have d2 : W.cell? ⟨A, 2, none⟩ = some (.int .i64 0) := cell_heap e0 2 rfl
    have d3 : W.cell? ⟨A, 3, none⟩ = some (.int .i64 0) := cell_heap e0 3 rfl
    have d4 : W.cell? ⟨A, 4, none⟩ = some (.int .i64 0) := cell_heap e0 4 rfl
    have d5 : W.cell? ⟨A, 5, none⟩ = some (.string T) := cell_heap e0 5 rfl
    have d6 : W.cell? ⟨A, 6, none⟩ = some (.int .i64 0) := cell_heap e0 6 rfl
    have d7 : W.cell? ⟨A, 7, none⟩ = some (.int .i64 0) := cell_heap e0 7 rfl
    have HA := Lib.hid hA
    clear e0 hA
    go_wp2_with (first
      | (go_at_call 48; refine (HPC.out _).mono ?_; rintro e w2 ⟨rfl, k2⟩; have HK2 := Lib.hid k2; have x0 := k2.cell d0 (by simp); have x1 := k2.cell d1 (by simp); have x2 := k2.cell d2 (by simp); have x3 := k2.cell d3 (by simp); have x4 := k2.cell d4 (by simp); have x5 := k2.cell d5 (by simp); have x6 := k2.cell d6 (by simp); have x7 := k2.cell d7 (by simp); clear k2)
      | (go_at_call 72; refine (HRC.out _ (HW.out.trans HK2.out)).mono ?_; rintro e w3 ⟨rfl, k3⟩; have HK3 := Lib.hid k3; have y0 := k3.cell x0 (by simp); have y1 := k3.cell x1 (by simp); have y2 := k3.cell x2 (by simp); have y3 := k3.cell x3 (by simp); have y4 := k3.cell x4 (by simp); have y5 := k3.cell x5 (by simp); have y6 := k3.cell x6 (by simp); have y7 := k3.cell x7 (by simp); clear k3))
    go_ret
    rw [HM.out]
    exact ⟨rfl, fun _ => (HW.out.trans HK2.out).trans HK3.out, fun h => absurd h hV⟩
  have hm := HME.out
  rw [if_neg (by simp), if_neg hmode, if_neg hkv] at hm
  have HM := Lib.hid hm
  clear hm HME hmode
  have hpl := checkP_len HE.out
  have hplace := fun W (k : Chg [] w W) => place W f O σ p (H.out.foreign k (by simp)) (by omega)
  have HPL := Lib.hid hplace
  clear hplace
  rw [HP.out.1] at HPL
  by_cases hpe : placeE σ p ≠ 0
  · rw [placed_bad hpe] at HPL
    generalize placeE σ p = PE at *
    have hPb : (PE == 0) = false := by simpa using hpe
    have hPn : (PE != 0) = true := by simpa using hpe
    by_cases hk2 : kind = 2
    · have hkb : (kind == 2) = true := by simp [hk2]
      have hV : V = 0 := Classical.byContradiction fun h => hkv ⟨hk2, h⟩
      subst hV
      clear hkv hk2
      go_enter Tryz.func47, Tryz.ntmps47
      go_upto_region 3 with (fail)
      obtain ⟨W, hW⟩ : ∃ W, w.alloc (.cells #[.int .i64 kind, .int .i64 mode, .int .i64 0, .int .i64 0, .int .i64 0, .string T, .int .i64 0, .int .i64 0] 52) = W := ⟨_, rfl⟩
      have e0 : W.heap[w.heap.size]? = some (.cells #[.int .i64 kind, .int .i64 mode, .int .i64 0, .int .i64 0, .int .i64 0, .string T, .int .i64 0, .int .i64 0] 52 (0, 0)) := by rw [← hW]; exact heap_alloc_new _ _
      have hkW : Chg [] w W := by rw [← hW]; exact (Chg.refl _ _).alloc _
      have HW := Lib.hid hkW
      rw [hW]
      clear hW hkW
      generalize hA : w.heap.size = A at *
      have d0 : W.cell? ⟨A, 0, none⟩ = some (.int .i64 kind) := cell_heap e0 0 rfl
      have d1 : W.cell? ⟨A, 1, none⟩ = some (.int .i64 mode) := cell_heap e0 1 rfl
      have d2 : W.cell? ⟨A, 2, none⟩ = some (.int .i64 0) := cell_heap e0 2 rfl
      have d3 : W.cell? ⟨A, 3, none⟩ = some (.int .i64 0) := cell_heap e0 3 rfl
      have d4 : W.cell? ⟨A, 4, none⟩ = some (.int .i64 0) := cell_heap e0 4 rfl
      have d5 : W.cell? ⟨A, 5, none⟩ = some (.string T) := cell_heap e0 5 rfl
      have d6 : W.cell? ⟨A, 6, none⟩ = some (.int .i64 0) := cell_heap e0 6 rfl
      have d7 : W.cell? ⟨A, 7, none⟩ = some (.int .i64 0) := cell_heap e0 7 rfl
      have HA := Lib.hid hA
      clear e0 hA
      go_wp2_with (first
        | (go_at_call 48; refine (HPC.out _).mono ?_; rintro e w2 ⟨rfl, k2⟩; have HK2 := Lib.hid k2; have x0 := k2.cell d0 (by simp); have x1 := k2.cell d1 (by simp); have x2 := k2.cell d2 (by simp); have x3 := k2.cell d3 (by simp); have x4 := k2.cell d4 (by simp); have x5 := k2.cell d5 (by simp); have x6 := k2.cell d6 (by simp); have x7 := k2.cell d7 (by simp); clear k2)
        | (go_at_call 72; refine (HRC.out _ (HW.out.trans HK2.out)).mono ?_; rintro e w3 ⟨rfl, k3⟩; have HK3 := Lib.hid k3; have y0 := k3.cell x0 (by simp); have y1 := k3.cell x1 (by simp); have y2 := k3.cell x2 (by simp); have y3 := k3.cell x3 (by simp); have y4 := k3.cell x4 (by simp); have y5 := k3.cell x5 (by simp); have y6 := k3.cell x6 (by simp); have y7 := k3.cell x7 (by simp); clear k3)
        | (go_at_call 49; refine (HPL.out _ ((HW.out.trans HK2.out).trans HK3.out)).mono ?_; rintro e w4 ⟨rfl, kq, rfl⟩))
      go_ret
      rw [HM.out]
      exact ⟨rfl, fun _ => ((HW.out.trans HK2.out).trans HK3.out).drewN _, fun h => absurd h hpe⟩
    · have hkb : (kind == 2) = false := by simpa using hk2
      go_enter Tryz.func47, Tryz.ntmps47
      go_upto_region 3 with (fail)
      obtain ⟨W, hW⟩ : ∃ W, w.alloc (.cells #[.int .i64 kind, .int .i64 mode, .int .i64 0, .int .i64 0, .int .i64 0, .string T, .int .i64 0, .int .i64 0] 52) = W := ⟨_, rfl⟩
      have e0 : W.heap[w.heap.size]? = some (.cells #[.int .i64 kind, .int .i64 mode, .int .i64 0, .int .i64 0, .int .i64 0, .string T, .int .i64 0, .int .i64 0] 52 (0, 0)) := by rw [← hW]; exact heap_alloc_new _ _
      have hkW : Chg [] w W := by rw [← hW]; exact (Chg.refl _ _).alloc _
      have HW := Lib.hid hkW
      rw [hW]
      clear hW hkW
      generalize hA : w.heap.size = A at *
      have d0 : W.cell? ⟨A, 0, none⟩ = some (.int .i64 kind) := cell_heap e0 0 rfl
      have d1 : W.cell? ⟨A, 1, none⟩ = some (.int .i64 mode) := cell_heap e0 1 rfl
      have d2 : W.cell? ⟨A, 2, none⟩ = some (.int .i64 0) := cell_heap e0 2 rfl
      have d3 : W.cell? ⟨A, 3, none⟩ = some (.int .i64 0) := cell_heap e0 3 rfl
      have d4 : W.cell? ⟨A, 4, none⟩ = some (.int .i64 0) := cell_heap e0 4 rfl
      have d5 : W.cell? ⟨A, 5, none⟩ = some (.string T) := cell_heap e0 5 rfl
      have d6 : W.cell? ⟨A, 6, none⟩ = some (.int .i64 0) := cell_heap e0 6 rfl
      have d7 : W.cell? ⟨A, 7, none⟩ = some (.int .i64 0) := cell_heap e0 7 rfl
      have HA := Lib.hid hA
      clear e0 hA
      go_wp2_with (first
        | (go_at_call 48; refine (HPC.out _).mono ?_; rintro e w2 ⟨rfl, k2⟩; have HK2 := Lib.hid k2; have x0 := k2.cell d0 (by simp); have x1 := k2.cell d1 (by simp); have x2 := k2.cell d2 (by simp); have x3 := k2.cell d3 (by simp); have x4 := k2.cell d4 (by simp); have x5 := k2.cell d5 (by simp); have x6 := k2.cell d6 (by simp); have x7 := k2.cell d7 (by simp); clear k2)
        | (go_at_call 49; refine (HPL.out _ (HW.out.trans HK2.out)).mono ?_; rintro e w4 ⟨rfl, kq, rfl⟩))
      go_ret
      rw [HM.out]
      exact ⟨rfl, fun _ => (HW.out.trans HK2.out).drewN _, fun h => absurd h hpe⟩
  · have hpe0 : placeE σ p = 0 := by simpa using hpe
    obtain ⟨pb, hpb, hpk, hpn, hpv⟩ := placed_ok hpe0
    rw [hpv] at HPL
    rw [hpe0] at HM
    clear hpv hpe hpe0
    have hin := fun W (k : Chg [] w W) => inode W f O σ kind mode 0 0 0 0 0 target data ao dc fp (H.out.foreign k (by simp)) (by have h1 := HOK.out.next; have h2 := HOK.out.step; omega) (HD.out.chg k (by simp)) (by rw [HDN.out]; exact HDL.out) hff0
    rw [HP.out.2, HDN.out] at hin
    have HIN := Lib.hid hin
    have HPB := Lib.hid (And.intro hpb (And.intro hpk hpn))
    clear hin hpb hpk hpn
    by_cases hk2 : kind = 2
    · have hkb : (kind == 2) = true := by simp [hk2]
      have hV : V = 0 := Classical.byContradiction fun h => hkv ⟨hk2, h⟩
      subst hV
      clear hkv hk2
      go_enter Tryz.func47, Tryz.ntmps47
      go_upto_region 3 with (fail)
      obtain ⟨W, hW⟩ : ∃ W, w.alloc (.cells #[.int .i64 kind, .int .i64 mode, .int .i64 0, .int .i64 0, .int .i64 0, .string T, .int .i64 0, .int .i64 0] 52) = W := ⟨_, rfl⟩
      have e0 : W.heap[w.heap.size]? = some (.cells #[.int .i64 kind, .int .i64 mode, .int .i64 0, .int .i64 0, .int .i64 0, .string T, .int .i64 0, .int .i64 0] 52 (0, 0)) := by rw [← hW]; exact heap_alloc_new _ _
      have hkW : Chg [] w W := by rw [← hW]; exact (Chg.refl _ _).alloc _
      have HW := Lib.hid hkW
      rw [hW]
      clear hW hkW
      generalize hA : w.heap.size = A at *
      have d0 : W.cell? ⟨A, 0, none⟩ = some (.int .i64 kind) := cell_heap e0 0 rfl
      have d1 : W.cell? ⟨A, 1, none⟩ = some (.int .i64 mode) := cell_heap e0 1 rfl
      have d2 : W.cell? ⟨A, 2, none⟩ = some (.int .i64 0) := cell_heap e0 2 rfl
      have d3 : W.cell? ⟨A, 3, none⟩ = some (.int .i64 0) := cell_heap e0 3 rfl
      have d4 : W.cell? ⟨A, 4, none⟩ = some (.int .i64 0) := cell_heap e0 4 rfl
      have d5 : W.cell? ⟨A, 5, none⟩ = some (.string T) := cell_heap e0 5 rfl
      have d6 : W.cell? ⟨A, 6, none⟩ = some (.int .i64 0) := cell_heap e0 6 rfl
      have d7 : W.cell? ⟨A, 7, none⟩ = some (.int .i64 0) := cell_heap e0 7 rfl
      have HA := Lib.hid hA
      clear e0 hA
      go_wp2_with (first
        | (go_at_call 48; refine (HPC.out _).mono ?_; rintro e w2 ⟨rfl, k2⟩; have HK2 := Lib.hid k2; have x0 := k2.cell d0 (by simp); have x1 := k2.cell d1 (by simp); have x2 := k2.cell d2 (by simp); have x3 := k2.cell d3 (by simp); have x4 := k2.cell d4 (by simp); have x5 := k2.cell d5 (by simp); have x6 := k2.cell d6 (by simp); have x7 := k2.cell d7 (by simp); clear k2)
        | (go_at_call 72; refine (HRC.out _ (HW.out.trans HK2.out)).mono ?_; rintro e w3 ⟨rfl, k3⟩; have HK3 := Lib.hid k3; have y0 := k3.cell x0 (by simp); have y1 := k3.cell x1 (by simp); have y2 := k3.cell x2 (by simp); have y3 := k3.cell x3 (by simp); have y4 := k3.cell x4 (by simp); have y5 := k3.cell x5 (by simp); have y6 := k3.cell x6 (by simp); have y7 := k3.cell x7 (by simp); clear k3)
        | (go_at_call 49; refine (HPL.out _ ((HW.out.trans HK2.out).trans HK3.out)).mono ?_; rintro e w4 ⟨rfl, kq, rfl⟩)
        | (go_at_call 27; refine (HIN.out _ (((HW.out.trans HK2.out).trans HK3.out).drewN kq)).mono ?_; rintro e w5 ⟨b, dvb, rfl, h5, hn5, k5⟩; have HI5 := Lib.hid (And.intro h5 (And.intro hn5 k5)); clear h5 hn5 k5))
      rw [← HP.out.1]
      have k0 := ((HW.out.trans HK2.out).trans HK3.out).drewN kq
      obtain ⟨h5, hn5, k5⟩ := HI5.out
      obtain ⟨hpb, hpk, hpn⟩ := HPB.out
      obtain ⟨m, rv, dv, nv, h5⟩ := h5
      have hfr := hn5.fresh
      have hs0 := k0.size
      rw [HA.out] at hs0
      obtain ⟨hbr, hbl, hdb⟩ := hfr
      have hsz : w3.heap.size = (w3.drewN kq).heap.size := rfl
      have hnb : ∀ p' b', (p', b') ∈ σ.files → b' ≠ b := fun p' b' hb' e => by
        have := H.out.lt
        obtain ⟨m', rv', dv', nv', h'⟩ := H.out
        have := h'.lt b' (h'.nodes p' b' hb').own.1
        rw [HA.out] at this
        omega
      have h6 := h5.congr (dv' := fun i => if i = b then dvb else dv i) (nv' := fun i => if i = b then .slice none 0 0 else nv i) (fun i => if i = b then newNd σ kind mode target data else σ.node i) (fun p' b' hb' => by
        have hne := hnb p' b' hb'
        exact ⟨if_neg hne, if_neg hne, if_neg hne⟩)
      have h7 := h6.widen (O' := b :: (dvb.ownBlock.toList ++ O)) (fun g hg => by simp [hg]) (fun g hg => by
        rcases List.mem_cons.1 hg with rfl | hg
        · exact hbl
        · rcases List.mem_append.1 hg with hg | hg
          · exact (hdb g (by simpa using hg)).2
          · exact h6.lt g hg)
      have hnN : NodeAt w5 (b :: (dvb.ownBlock.toList ++ O)) b (newNd σ kind mode target data) dvb (.slice none 0 0) := by
        refine ⟨?_, hn5.data, ?_, ?_, ?_, ?_⟩
        · have := hn5.blk
          unfold newNd
          rw [HDN.out]
          exact this
        · exact World.ownsRow_nil _ _ _ _
        · simp
        · intro g hg; simp [hg]
        · intro g hg; simp [Value.ownBlock] at hg
      have hpbm := lkF_mem hpb
      have hpbne := hnb _ _ hpbm
      refine (enter w5 f (b :: (dvb.ownBlock.toList ++ O)) _ m rv _ _ p (parentP p) pb b h7 (by omega) hpbm hpn (by simp only [if_true]; exact hnN) (fun p' b' hb' hne g hg => by simp only [if_true]; simp [Value.ownBlock]) (by
        simp only [if_neg hpbne]
        have := HOK.out.names _ _ hpbm
        omega)).mono ?_
      rintro e w6 ⟨rfl, hto⟩
      have HTO := Lib.hid (And.intro hto (And.intro k0 (And.intro k5 (And.intro hpb (And.intro hbr hdb)))))
      clear hto k0 k5 h7 h6 h5 hn5 hnN hpb hpk hpn hbr hbl hdb hnb hpbm hpbne hs0 hsz
      go_wp2_with fail
      go_ret
      rw [HM.out]
      refine ⟨rfl, fun h => absurd rfl h, fun _ => ?_⟩
      obtain ⟨hto, k0, k5, hpb, hbr, hdb⟩ := HTO.out
      have hs0 := k0.size
      have hsz : w3.heap.size = (w3.drewN kq).heap.size := rfl
      refine ⟨pb, b, hpb, by omega, ?_⟩
      refine FsTo.then_ ((k0.mono (T := O) (by simp)).trans (k5.mono (T := O) (by simpa using fun _ => H.out.mem))) (O1 := b :: (dvb.ownBlock.toList ++ O)) (fun g hg => ?_) hto
      rcases List.mem_cons.1 hg with rfl | hg
      · exact .inr (by omega)
      · rcases List.mem_append.1 hg with hg | hg
        · exact .inr (by have := (hdb g (by simpa using hg)).1; omega)
        · exact .inl hg
    · have hkb : (kind == 2) = false := by simpa using hk2
      go_enter Tryz.func47, Tryz.ntmps47
      go_upto_region 3 with (fail)
      obtain ⟨W, hW⟩ : ∃ W, w.alloc (.cells #[.int .i64 kind, .int .i64 mode, .int .i64 0, .int .i64 0, .int .i64 0, .string T, .int .i64 0, .int .i64 0] 52) = W := ⟨_, rfl⟩
      have e0 : W.heap[w.heap.size]? = some (.cells #[.int .i64 kind, .int .i64 mode, .int .i64 0, .int .i64 0, .int .i64 0, .string T, .int .i64 0, .int .i64 0] 52 (0, 0)) := by rw [← hW]; exact heap_alloc_new _ _
      have hkW : Chg [] w W := by rw [← hW]; exact (Chg.refl _ _).alloc _
      have HW := Lib.hid hkW
      rw [hW]
      clear hW hkW
      generalize hA : w.heap.size = A at *
      have d0 : W.cell? ⟨A, 0, none⟩ = some (.int .i64 kind) := cell_heap e0 0 rfl
      have d1 : W.cell? ⟨A, 1, none⟩ = some (.int .i64 mode) := cell_heap e0 1 rfl
      have d2 : W.cell? ⟨A, 2, none⟩ = some (.int .i64 0) := cell_heap e0 2 rfl
      have d3 : W.cell? ⟨A, 3, none⟩ = some (.int .i64 0) := cell_heap e0 3 rfl
      have d4 : W.cell? ⟨A, 4, none⟩ = some (.int .i64 0) := cell_heap e0 4 rfl
      have d5 : W.cell? ⟨A, 5, none⟩ = some (.string T) := cell_heap e0 5 rfl
      have d6 : W.cell? ⟨A, 6, none⟩ = some (.int .i64 0) := cell_heap e0 6 rfl
      have d7 : W.cell? ⟨A, 7, none⟩ = some (.int .i64 0) := cell_heap e0 7 rfl
      have HA := Lib.hid hA
      clear e0 hA
      go_wp2_with (first
        | (go_at_call 48; refine (HPC.out _).mono ?_; rintro e w2 ⟨rfl, k2⟩; have HK2 := Lib.hid k2; have x0 := k2.cell d0 (by simp); have x1 := k2.cell d1 (by simp); have x2 := k2.cell d2 (by simp); have x3 := k2.cell d3 (by simp); have x4 := k2.cell d4 (by simp); have x5 := k2.cell d5 (by simp); have x6 := k2.cell d6 (by simp); have x7 := k2.cell d7 (by simp); clear k2)
        | (go_at_call 49; refine (HPL.out _ (HW.out.trans HK2.out)).mono ?_; rintro e w4 ⟨rfl, kq, rfl⟩)
        | (go_at_call 27; refine (HIN.out _ ((HW.out.trans HK2.out).drewN kq)).mono ?_; rintro e w5 ⟨b, dvb, rfl, h5, hn5, k5⟩; have HI5 := Lib.hid (And.intro h5 (And.intro hn5 k5)); clear h5 hn5 k5))
      rw [← HP.out.1]
      have k0 := (HW.out.trans HK2.out).drewN kq
      obtain ⟨h5, hn5, k5⟩ := HI5.out
      obtain ⟨hpb, hpk, hpn⟩ := HPB.out
      obtain ⟨m, rv, dv, nv, h5⟩ := h5
      have hfr := hn5.fresh
      have hs0 := k0.size
      rw [HA.out] at hs0
      obtain ⟨hbr, hbl, hdb⟩ := hfr
      have hsz : w2.heap.size = (w2.drewN kq).heap.size := rfl
      have hnb : ∀ p' b', (p', b') ∈ σ.files → b' ≠ b := fun p' b' hb' e => by
        have := H.out.lt
        obtain ⟨m', rv', dv', nv', h'⟩ := H.out
        have := h'.lt b' (h'.nodes p' b' hb').own.1
        rw [HA.out] at this
        omega
      have h6 := h5.congr (dv' := fun i => if i = b then dvb else dv i) (nv' := fun i => if i = b then .slice none 0 0 else nv i) (fun i => if i = b then newNd σ kind mode target data else σ.node i) (fun p' b' hb' => by
        have hne := hnb p' b' hb'
        exact ⟨if_neg hne, if_neg hne, if_neg hne⟩)
      have h7 := h6.widen (O' := b :: (dvb.ownBlock.toList ++ O)) (fun g hg => by simp [hg]) (fun g hg => by
        rcases List.mem_cons.1 hg with rfl | hg
        · exact hbl
        · rcases List.mem_append.1 hg with hg | hg
          · exact (hdb g (by simpa using hg)).2
          · exact h6.lt g hg)
      have hnN : NodeAt w5 (b :: (dvb.ownBlock.toList ++ O)) b (newNd σ kind mode target data) dvb (.slice none 0 0) := by
        refine ⟨?_, hn5.data, ?_, ?_, ?_, ?_⟩
        · have := hn5.blk
          unfold newNd
          rw [HDN.out]
          exact this
        · exact World.ownsRow_nil _ _ _ _
        · simp
        · intro g hg; simp [hg]
        · intro g hg; simp [Value.ownBlock] at hg
      have hpbm := lkF_mem hpb
      have hpbne := hnb _ _ hpbm
      refine (enter w5 f (b :: (dvb.ownBlock.toList ++ O)) _ m rv _ _ p (parentP p) pb b h7 (by omega) hpbm hpn (by simp only [if_true]; exact hnN) (fun p' b' hb' hne g hg => by simp only [if_true]; simp [Value.ownBlock]) (by
        simp only [if_neg hpbne]
        have := HOK.out.names _ _ hpbm
        omega)).mono ?_
      rintro e w6 ⟨rfl, hto⟩
      have HTO := Lib.hid (And.intro hto (And.intro k0 (And.intro k5 (And.intro hpb (And.intro hbr hdb)))))
      clear hto k0 k5 h7 h6 h5 hn5 hnN hpb hpk hpn hbr hbl hdb hnb hpbm hpbne hs0 hsz
      go_wp2_with fail
      go_ret
      rw [HM.out]
      refine ⟨rfl, fun h => absurd rfl h, fun _ => ?_⟩
      obtain ⟨hto, k0, k5, hpb, hbr, hdb⟩ := HTO.out
      have hs0 := k0.size
      have hsz : w2.heap.size = (w2.drewN kq).heap.size := rfl
      refine ⟨pb, b, hpb, by omega, ?_⟩
      refine FsTo.then_ ((k0.mono (T := O) (by simp)).trans (k5.mono (T := O) (by simpa using fun _ => H.out.mem))) (O1 := b :: (dvb.ownBlock.toList ++ O)) (fun g hg => ?_) hto
      rcases List.mem_cons.1 hg with rfl | hg
      · exact .inr (by omega)
      · rcases List.mem_append.1 hg with hg | hg
        · exact .inr (by have := (hdb g (by simpa using hg)).1; omega)
        · exact .inl hg
end Go.Proofs.YtoionaeimnmcbaaGreatDoor
