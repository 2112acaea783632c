/- paxtar/vfs: make. Printed by wip/gen/genmake.py. paxtar/vfs: Mkdir, Create, Symlink, Mknod. Printed by wip/gen/genwrap.py. paxtar/vfs: Chown, ReadFile, Link. slices.ContainsFunc at []int with the closure of paxtar/vfs.New: is there a negative number? -/
import Derived.Test.YtfhiioopimmahaaGreatDoorPO03
namespace Go.Pax
open Go.RowKit
/-- What place answers. -/
def placeE (σ : Fs) (p : Str) : Int := match lkF σ.files (parentP p) with
  | some b => if (σ.node b).kind = 0 then (match lkF σ.files p with | some _ => 14 | none => 0) else 13
  | none => 13
/-- What make answers. -/
def makeE (σ : Fs) (p : Str) (kind mode : Int) (target : Str) : Int :=
  if checkP p ≠ 0 then checkP p else if mode < 0 ∨ 4095 < mode then 16 else if kind = 2 ∧ checkV target ≠ 0 then checkV target else placeE σ p
/-- What the numbers of a file system keep to. -/
structure Fs.Ok (σ : Fs) : Prop where
  next : 0 ≤ σ.next ∧ σ.next + σ.step ≤ 1099511627776
  step : 0 ≤ σ.step ∧ σ.step ≤ 1048576
  names : ∀ p b, (p, b) ∈ σ.files → (σ.node b).names.length ≤ 1099511627776
  lists : 0 ≤ σ.lists ∧ σ.lists ≤ 1099511627776
  links : ∀ p b, (p, b) ∈ σ.files → 0 ≤ (σ.node b).links ∧ (σ.node b).links ≤ 1099511627776
  rot : ∀ x ∈ σ.rot, 0 ≤ x
  rotl : σ.rot.length ≤ 1099511627776
theorem checkP_len {p : Str} (h : checkP p = 0) : p.length ≤ 65536 := by
  unfold checkP at h
  by_cases hl : 65536 < p.length
  · rw [if_pos hl] at h; cases h
  · omega
end Go.Pax
namespace Go.Proofs.YtfhiioopimmahaaGreatDoor
open Go.RowKit Go.Pax Go.Shelf
/-- The file system with a new file at block b. -/
def made (σ : Fs) (p : Str) (nd : Nd) (pb b : Nat) : Fs := entered { σ with next := σ.next + σ.step, node := fun i => if i = b then nd else σ.node i } p pb b
def newNd (σ : Fs) (kind mode : Int) (target : Str) (data : List UInt8) : Nd := ⟨kind, mode, σ.next, 1, data.length, target, 0, 0, data, []⟩
theorem placed_bad {σ : Fs} {p : Str} (h : placeE σ p ≠ 0) : placed σ p = .tuple #[.pointer none, .int .i64 (placeE σ p)] := by
  unfold placeE at h ⊢
  unfold placed
  split
  · rename_i b hb
    simp only [hb] at h ⊢
    split
    · rename_i hk
      rw [if_pos hk] at h
      split
      · rename_i b' hp; simp only [hp]
      · rename_i hp; rw [hp] at h; exact absurd rfl h
    · rfl
  · rename_i hb
    simp only [hb]
theorem placed_ok {σ : Fs} {p : Str} (h : placeE σ p = 0) : ∃ pb, lkF σ.files (parentP p) = some pb ∧ (σ.node pb).kind = 0 ∧ lkF σ.files p = none ∧ placed σ p = .tuple #[.pointer (some ⟨pb, 0, none⟩), .int .i64 0] := by
  unfold placeE at h
  unfold placed
  split at h
  · rename_i b hb
    split at h
    · rename_i hk
      split at h
      · cases h
      · rename_i hp
        exact ⟨b, hb, hk, hp, by simp only [hb, hp]; rw [if_pos hk]⟩
    · cases h
  · cases h
set_option maxRecDepth 100000 in
set_option maxHeartbeats 4000000 in
theorem make_nil (w : World) (s : ByteArray) (i0 i1 i2 i3 i4 i6 i7 : Int) (T : ByteArray) (d : Value) : Calls Tryz.prog 58 #[.pointer none, .string s, .agg #[.int .i64 i0, .int .i64 i1, .int .i64 i2, .int .i64 i3, .int .i64 i4, .string T, .int .i64 i6, .int .i64 i7], d] w fun e w' => e = .returned (.int .i64 1) ∧ Chg [] w w' := by
  go_enter Tryz.func58, Tryz.ntmps58
  go_wp2
  go_ret
  exact ⟨rfl, (Chg.refl _ _).alloc _⟩
set_option maxRecDepth 100000 in
set_option maxHeartbeats 8000000 in
theorem make (w : World) (f : Nat) (O : List Nat) (σ : Fs) (p : Str) (kind mode : Int) (target : Str) (data : List UInt8) (ao : Option Addr) (dc : Nat) (fp : List Nat) (h : FsAt w f O σ) (hok : σ.Ok) (hkeys : KeysAt w) (_hko : 0 ∉ O)
    (ht : target.length ≤ 140737488355328) (hd : Rd w fp ao (bv data)) (hdl : data.length ≤ 140737488355328) (hff : ∀ x ∈ fp, x ∉ O) :
    Calls Tryz.prog 58 #[.pointer (some ⟨f, 0, none⟩), .string (ba p), .agg #[.int .i64 kind, .int .i64 mode, .int .i64 0, .int .i64 0, .int .i64 0, .string (ba target), .int .i64 0, .int .i64 0], .slice ao data.length dc] w fun e w' =>
      e = .returned (.int .i64 (makeE σ p kind mode target)) ∧ (makeE σ p kind mode target ≠ 0 → Chg [] w w') ∧
      (makeE σ p kind mode target = 0 → ∃ pb b, lkF σ.files (parentP p) = some pb ∧ w.heap.size ≤ b ∧ FsTo w w' f O (made σ p (newNd σ kind mode target data) pb b)) := by
  have hpc := fun W => pathCheck p W
  have hrc := fun W (k : Chg [] w W) => checkRec W target (hkeys.chg k (by simp)) ht
  have hff0 : f ∉ fp := fun hm => hff f hm h.mem
  have HPC := Lib.hid hpc
  have HRC := Lib.hid hrc
  have H := Lib.hid h
  have HD := Lib.hid hd
  have HDL := Lib.hid hdl
  have HOK := Lib.hid hok
  clear hpc hrc h hd hdl hok hkeys
  have hlk : ba linkpath = (⟨#[108, 105, 110, 107, 112, 97, 116, 104]⟩ : ByteArray) := rfl
  rw [hlk] at HRC
  clear hlk
  generalize hP : ba p = P at *
  generalize hT : ba target = T at *
  generalize hcE : checkP p = E at *
  generalize hcV : checkV target = V at *
  generalize hDN : data.length = DN at *
  have HP := Lib.hid (And.intro hP hT)
  have HE := Lib.hid hcE
  have HV := Lib.hid hcV
  have HDN := Lib.hid hDN
  clear hP hT hcE hcV hDN
  have hME : makeE σ p kind mode target = if E ≠ 0 then E else if mode < 0 ∨ 4095 < mode then 16 else if kind = 2 ∧ V ≠ 0 then V else placeE σ p := by unfold makeE; rw [HE.out, HV.out]
  have HME := Lib.hid hME
  clear hME
  generalize makeE σ p kind mode target = ME at *
  by_cases hE : E ≠ 0
  · have hm := HME.out
    rw [if_pos hE] at hm
    have HM := Lib.hid hm
    have hEb : (E == 0) = false := by simpa using hE
    have hEn : (E != 0) = true := by simpa using hE
    clear hm HME
    go_enter Tryz.func58, Tryz.ntmps58
    go_upto_region 3 with (fail)
    obtain ⟨W, hW⟩ : ∃ W, w.alloc (.cells #[.int .i64 kind, .int .i64 mode, .int .i64 0, .int .i64 0, .int .i64 0, .string T, .int .i64 0, .int .i64 0] 40) = W := ⟨_, rfl⟩
    have e0 : W.heap[w.heap.size]? = some (.cells #[.int .i64 kind, .int .i64 mode, .int .i64 0, .int .i64 0, .int .i64 0, .string T, .int .i64 0, .int .i64 0] 40 (0, 0)) := by rw [← hW]; exact heap_alloc_new _ _
    have hkW : Chg [] w W := by rw [← hW]; exact (Chg.refl _ _).alloc _
    have HW := Lib.hid hkW
    rw [hW]
    clear hW hkW
    generalize hA : w.heap.size = A at *
    have d0 : W.cell? ⟨A, 0, none⟩ = some (.int .i64 kind) := cell_heap e0 0 rfl
    have d1 : W.cell? ⟨A, 1, none⟩ = some (.int .i64 mode) := cell_heap e0 1 rfl
    have d2 : W.cell? ⟨A, 2, none⟩ = some (.int .i64 0) := cell_heap e0 2 rfl
    have d3 : W.cell? ⟨A, 3, none⟩ = some (.int .i64 0) := cell_heap e0 3 rfl
    have d4 : W.cell? ⟨A, 4, none⟩ = some (.int .i64 0) := cell_heap e0 4 rfl
    have d5 : W.cell? ⟨A, 5, none⟩ = some (.string T) := cell_heap e0 5 rfl
    have d6 : W.cell? ⟨A, 6, none⟩ = some (.int .i64 0) := cell_heap e0 6 rfl
    have d7 : W.cell? ⟨A, 7, none⟩ = some (.int .i64 0) := cell_heap e0 7 rfl
    have HA := Lib.hid hA
    clear e0 hA
    go_wp2_with (go_at_call 59; refine (HPC.out _).mono ?_; rintro e w2 ⟨rfl, k2⟩; have HK2 := Lib.hid k2; have x0 := k2.cell d0 (by simp); have x1 := k2.cell d1 (by simp); have x2 := k2.cell d2 (by simp); have x3 := k2.cell d3 (by simp); have x4 := k2.cell d4 (by simp); have x5 := k2.cell d5 (by simp); have x6 := k2.cell d6 (by simp); have x7 := k2.cell d7 (by simp); clear k2)
    go_ret
    rw [HM.out]
    exact ⟨rfl, fun _ => HW.out.trans HK2.out, fun h => absurd h hE⟩
  obtain rfl : E = 0 := by simpa using hE
  by_cases hmode : mode < 0 ∨ 4095 < mode
  · have hm := HME.out
    rw [if_neg (by simp), if_pos hmode] at hm
    have HM := Lib.hid hm
    clear hm HME
    rcases hmode with hmode | hmode
    · skip
      go_enter Tryz.func58, Tryz.ntmps58
      go_upto_region 3 with (fail)
      obtain ⟨W, hW⟩ : ∃ W, w.alloc (.cells #[.int .i64 kind, .int .i64 mode, .int .i64 0, .int .i64 0, .int .i64 0, .string T, .int .i64 0, .int .i64 0] 40) = W := ⟨_, rfl⟩
      have e0 : W.heap[w.heap.size]? = some (.cells #[.int .i64 kind, .int .i64 mode, .int .i64 0, .int .i64 0, .int .i64 0, .string T, .int .i64 0, .int .i64 0] 40 (0, 0)) := by rw [← hW]; exact heap_alloc_new _ _
      have hkW : Chg [] w W := by rw [← hW]; exact (Chg.refl _ _).alloc _
      have HW := Lib.hid hkW
      rw [hW]
      clear hW hkW
      generalize hA : w.heap.size = A at *
      have d0 : W.cell? ⟨A, 0, none⟩ = some (.int .i64 kind) := cell_heap e0 0 rfl
      have d1 : W.cell? ⟨A, 1, none⟩ = some (.int .i64 mode) := cell_heap e0 1 rfl
      have d2 : W.cell? ⟨A, 2, none⟩ = some (.int .i64 0) := cell_heap e0 2 rfl
      have d3 : W.cell? ⟨A, 3, none⟩ = some (.int .i64 0) := cell_heap e0 3 rfl
      have d4 : W.cell? ⟨A, 4, none⟩ = some (.int .i64 0) := cell_heap e0 4 rfl
      have d5 : W.cell? ⟨A, 5, none⟩ = some (.string T) := cell_heap e0 5 rfl
      have d6 : W.cell? ⟨A, 6, none⟩ = some (.int .i64 0) := cell_heap e0 6 rfl
      have d7 : W.cell? ⟨A, 7, none⟩ = some (.int .i64 0) := cell_heap e0 7 rfl
      have HA := Lib.hid hA
      clear e0 hA
      go_wp2_with (go_at_call 59; refine (HPC.out _).mono ?_; rintro e w2 ⟨rfl, k2⟩; have HK2 := Lib.hid k2; have x0 := k2.cell d0 (by simp); have x1 := k2.cell d1 (by simp); have x2 := k2.cell d2 (by simp); have x3 := k2.cell d3 (by simp); have x4 := k2.cell d4 (by simp); have x5 := k2.cell d5 (by simp); have x6 := k2.cell d6 (by simp); have x7 := k2.cell d7 (by simp); clear k2)
      go_ret
      rw [HM.out]
      exact ⟨rfl, fun _ => HW.out.trans HK2.out, fun h => by cases h⟩
    · have hm0 : ¬ mode < 0 := by omega
      go_enter Tryz.func58, Tryz.ntmps58
      go_upto_region 3 with (fail)
      obtain ⟨W, hW⟩ : ∃ W, w.alloc (.cells #[.int .i64 kind, .int .i64 mode, .int .i64 0, .int .i64 0, .int .i64 0, .string T, .int .i64 0, .int .i64 0] 40) = W := ⟨_, rfl⟩
      have e0 : W.heap[w.heap.size]? = some (.cells #[.int .i64 kind, .int .i64 mode, .int .i64 0, .int .i64 0, .int .i64 0, .string T, .int .i64 0, .int .i64 0] 40 (0, 0)) := by rw [← hW]; exact heap_alloc_new _ _
      have hkW : Chg [] w W := by rw [← hW]; exact (Chg.refl _ _).alloc _
      have HW := Lib.hid hkW
      rw [hW]
      clear hW hkW
      generalize hA : w.heap.size = A at *
      have d0 : W.cell? ⟨A, 0, none⟩ = some (.int .i64 kind) := cell_heap e0 0 rfl
      have d1 : W.cell? ⟨A, 1, none⟩ = some (.int .i64 mode) := cell_heap e0 1 rfl
      have d2 : W.cell? ⟨A, 2, none⟩ = some (.int .i64 0) := cell_heap e0 2 rfl
      have d3 : W.cell? ⟨A, 3, none⟩ = some (.int .i64 0) := cell_heap e0 3 rfl
      have d4 : W.cell? ⟨A, 4, none⟩ = some (.int .i64 0) := cell_heap e0 4 rfl
      have d5 : W.cell? ⟨A, 5, none⟩ = some (.string T) := cell_heap e0 5 rfl
      have d6 : W.cell? ⟨A, 6, none⟩ = some (.int .i64 0) := cell_heap e0 6 rfl
      have d7 : W.cell? ⟨A, 7, none⟩ = some (.int .i64 0) := cell_heap e0 7 rfl
      have HA := Lib.hid hA
      clear e0 hA
      go_wp2_with (go_at_call 59; refine (HPC.out _).mono ?_; rintro e w2 ⟨rfl, k2⟩; have HK2 := Lib.hid k2; have x0 := k2.cell d0 (by simp); have x1 := k2.cell d1 (by simp); have x2 := k2.cell d2 (by simp); have x3 := k2.cell d3 (by simp); have x4 := k2.cell d4 (by simp); have x5 := k2.cell d5 (by simp); have x6 := k2.cell d6 (by simp); have x7 := k2.cell d7 (by simp); clear k2)
      go_ret
      rw [HM.out]
      exact ⟨rfl, fun _ => HW.out.trans HK2.out, fun h => by cases h⟩
  have hm0 : ¬ mode < 0 := by omega
  have hm1 : ¬ 4095 < mode := by omega
  by_cases hkv : kind = 2 ∧ V ≠ 0
  · have hm := HME.out
    rw [if_neg (by simp), if_neg hmode, if_pos hkv] at hm
    have HM := Lib.hid hm
    obtain ⟨hk2, hV⟩ := hkv
    have hkb : (kind == 2) = true := by simp [hk2]
    clear hk2
    have hVb : (V == 0) = false := by simpa using hV
    have hVn : (V != 0) = true := by simpa using hV
    clear hm HME hmode
    go_enter Tryz.func58, Tryz.ntmps58
    go_upto_region 3 with (fail)
    obtain ⟨W, hW⟩ : ∃ W, w.alloc (.cells #[.int .i64 kind, .int .i64 mode, .int .i64 0, .int .i64 0, .int .i64 0, .string T, .int .i64 0, .int .i64 0] 40) = W := ⟨_, rfl⟩
    have e0 : W.heap[w.heap.size]? = some (.cells #[.int .i64 kind, .int .i64 mode, .int .i64 0, .int .i64 0, .int .i64 0, .string T, .int .i64 0, .int .i64 0] 40 (0, 0)) := by rw [← hW]; exact heap_alloc_new _ _
    have hkW : Chg [] w W := by rw [← hW]; exact (Chg.refl _ _).alloc _
    have HW := Lib.hid hkW
    rw [hW]
    clear hW hkW
    generalize hA : w.heap.size = A at *
    have d0 : W.cell? ⟨A, 0, none⟩ = some (.int .i64 kind) := cell_heap e0 0 rfl
    have d1 : W.cell? ⟨A, 1, none⟩ = some (.int .i64 mode) := cell_heap e0 1 rfl
    have d2 : W.cell? ⟨A, 2, none⟩ = some (.int .i64 0) := cell_heap e0 2 rfl
    have d3 : W.cell? ⟨A, 3, none⟩ = some (.int .i64 0) := cell_heap e0 3 rfl
    have d4 : W.cell? ⟨A, 4, none⟩ = some (.int .i64 0) := cell_heap e0 4 rfl
    have d5 : W.cell? ⟨A, 5, none⟩ = some (.string T) := cell_heap e0 5 rfl
    have d6 : W.cell? ⟨A, 6, none⟩ = some (.int .i64 0) := cell_heap e0 6 rfl
    have d7 : W.cell? ⟨A, 7, none⟩ = some (.int .i64 0) := cell_heap e0 7 rfl
    have HA := Lib.hid hA
    clear e0 hA
    go_wp2_with (first
      | (go_at_call 59; refine (HPC.out _).mono ?_; rintro e w2 ⟨rfl, k2⟩; have HK2 := Lib.hid k2; have x0 := k2.cell d0 (by simp); have x1 := k2.cell d1 (by simp); have x2 := k2.cell d2 (by simp); have x3 := k2.cell d3 (by simp); have x4 := k2.cell d4 (by simp); have x5 := k2.cell d5 (by simp); have x6 := k2.cell d6 (by simp); have x7 := k2.cell d7 (by simp); clear k2)
      | (go_at_call 90; refine (HRC.out _ (HW.out.trans HK2.out)).mono ?_; rintro e w3 ⟨rfl, k3⟩; have HK3 := Lib.hid k3; have y0 := k3.cell x0 (by simp); have y1 := k3.cell x1 (by simp); have y2 := k3.cell x2 (by simp); have y3 := k3.cell x3 (by simp); have y4 := k3.cell x4 (by simp); have y5 := k3.cell x5 (by simp); have y6 := k3.cell x6 (by simp); have y7 := k3.cell x7 (by simp); clear k3))
    go_ret
    rw [HM.out]
    exact ⟨rfl, fun _ => (HW.out.trans HK2.out).trans HK3.out, fun h => absurd h hV⟩
  have hm := HME.out
  rw [if_neg (by simp), if_neg hmode, if_neg hkv] at hm
  have HM := Lib.hid hm
  clear hm HME hmode
  have hpl := checkP_len HE.out
  have hplace := fun W (k : Chg [] w W) => place W f O σ p (H.out.foreign k (by simp)) (by omega)
  have HPL := Lib.hid hplace
  clear hplace
  rw [HP.out.1] at HPL
  by_cases hpe : placeE σ p ≠ 0
  · rw [placed_bad hpe] at HPL
    generalize placeE σ p = PE at *
    have hPb : (PE == 0) = false := by simpa using hpe
    have hPn : (PE != 0) = true := by simpa using hpe
    by_cases hk2 : kind = 2
    · have hkb : (kind == 2) = true := by simp [hk2]
      have hV : V = 0 := Classical.byContradiction fun h => hkv ⟨hk2, h⟩
      subst hV
      clear hkv hk2
      go_enter Tryz.func58, Tryz.ntmps58
      go_upto_region 3 with (fail)
      obtain ⟨W, hW⟩ : ∃ W, w.alloc (.cells #[.int .i64 kind, .int .i64 mode, .int .i64 0, .int .i64 0, .int .i64 0, .string T, .int .i64 0, .int .i64 0] 40) = W := ⟨_, rfl⟩
      have e0 : W.heap[w.heap.size]? = some (.cells #[.int .i64 kind, .int .i64 mode, .int .i64 0, .int .i64 0, .int .i64 0, .string T, .int .i64 0, .int .i64 0] 40 (0, 0)) := by rw [← hW]; exact heap_alloc_new _ _
      have hkW : Chg [] w W := by rw [← hW]; exact (Chg.refl _ _).alloc _
      have HW := Lib.hid hkW
      rw [hW]
      clear hW hkW
      generalize hA : w.heap.size = A at *
      have d0 : W.cell? ⟨A, 0, none⟩ = some (.int .i64 kind) := cell_heap e0 0 rfl
      have d1 : W.cell? ⟨A, 1, none⟩ = some (.int .i64 mode) := cell_heap e0 1 rfl
      have d2 : W.cell? ⟨A, 2, none⟩ = some (.int .i64 0) := cell_heap e0 2 rfl
      have d3 : W.cell? ⟨A, 3, none⟩ = some (.int .i64 0) := cell_heap e0 3 rfl
      have d4 : W.cell? ⟨A, 4, none⟩ = some (.int .i64 0) := cell_heap e0 4 rfl
      have d5 : W.cell? ⟨A, 5, none⟩ = some (.string T) := cell_heap e0 5 rfl
      have d6 : W.cell? ⟨A, 6, none⟩ = some (.int .i64 0) := cell_heap e0 6 rfl
      have d7 : W.cell? ⟨A, 7, none⟩ = some (.int .i64 0) := cell_heap e0 7 rfl
      have HA := Lib.hid hA
      clear e0 hA
      go_wp2_with (first
        | (go_at_call 59; refine (HPC.out _).mono ?_; rintro e w2 ⟨rfl, k2⟩; have HK2 := Lib.hid k2; have x0 := k2.cell d0 (by simp); have x1 := k2.cell d1 (by simp); have x2 := k2.cell d2 (by simp); have x3 := k2.cell d3 (by simp); have x4 := k2.cell d4 (by simp); have x5 := k2.cell d5 (by simp); have x6 := k2.cell d6 (by simp); have x7 := k2.cell d7 (by simp); clear k2)
        | (go_at_call 90; refine (HRC.out _ (HW.out.trans HK2.out)).mono ?_; rintro e w3 ⟨rfl, k3⟩; have HK3 := Lib.hid k3; have y0 := k3.cell x0 (by simp); have y1 := k3.cell x1 (by simp); have y2 := k3.cell x2 (by simp); have y3 := k3.cell x3 (by simp); have y4 := k3.cell x4 (by simp); have y5 := k3.cell x5 (by simp); have y6 := k3.cell x6 (by simp); have y7 := k3.cell x7 (by simp); clear k3)
        | (go_at_call 60; refine (HPL.out _ ((HW.out.trans HK2.out).trans HK3.out)).mono ?_; rintro e w4 ⟨rfl, kq, rfl⟩))
      go_ret
      rw [HM.out]
      exact ⟨rfl, fun _ => ((HW.out.trans HK2.out).trans HK3.out).drewN _, fun h => absurd h hpe⟩
    · have hkb : (kind == 2) = false := by simpa using hk2
      go_enter Tryz.func58, Tryz.ntmps58
      go_upto_region 3 with (fail)
      obtain ⟨W, hW⟩ : ∃ W, w.alloc (.cells #[.int .i64 kind, .int .i64 mode, .int .i64 0, .int .i64 0, .int .i64 0, .string T, .int .i64 0, .int .i64 0] 40) = W := ⟨_, rfl⟩
      have e0 : W.heap[w.heap.size]? = some (.cells #[.int .i64 kind, .int .i64 mode, .int .i64 0, .int .i64 0, .int .i64 0, .string T, .int .i64 0, .int .i64 0] 40 (0, 0)) := by rw [← hW]; exact heap_alloc_new _ _
      have hkW : Chg [] w W := by rw [← hW]; exact (Chg.refl _ _).alloc _
      have HW := Lib.hid hkW
      rw [hW]
      clear hW hkW
      generalize hA : w.heap.size = A at *
      have d0 : W.cell? ⟨A, 0, none⟩ = some (.int .i64 kind) := cell_heap e0 0 rfl
      have d1 : W.cell? ⟨A, 1, none⟩ = some (.int .i64 mode) := cell_heap e0 1 rfl
      have d2 : W.cell? ⟨A, 2, none⟩ = some (.int .i64 0) := cell_heap e0 2 rfl
      have d3 : W.cell? ⟨A, 3, none⟩ = some (.int .i64 0) := cell_heap e0 3 rfl
      have d4 : W.cell? ⟨A, 4, none⟩ = some (.int .i64 0) := cell_heap e0 4 rfl
      have d5 : W.cell? ⟨A, 5, none⟩ = some (.string T) := cell_heap e0 5 rfl
      have d6 : W.cell? ⟨A, 6, none⟩ = some (.int .i64 0) := cell_heap e0 6 rfl
      have d7 : W.cell? ⟨A, 7, none⟩ = some (.int .i64 0) := cell_heap e0 7 rfl
      have HA := Lib.hid hA
      clear e0 hA
      go_wp2_with (first
        | (go_at_call 59; refine (HPC.out _).mono ?_; rintro e w2 ⟨rfl, k2⟩; have HK2 := Lib.hid k2; have x0 := k2.cell d0 (by simp); have x1 := k2.cell d1 (by simp); have x2 := k2.cell d2 (by simp); have x3 := k2.cell d3 (by simp); have x4 := k2.cell d4 (by simp); have x5 := k2.cell d5 (by simp); have x6 := k2.cell d6 (by simp); have x7 := k2.cell d7 (by simp); clear k2)
        | (go_at_call 60; refine (HPL.out _ (HW.out.trans HK2.out)).mono ?_; rintro e w4 ⟨rfl, kq, rfl⟩))
      go_ret
      rw [HM.out]
      exact ⟨rfl, fun _ => (HW.out.trans HK2.out).drewN _, fun h => absurd h hpe⟩
  · have hpe0 : placeE σ p = 0 := by simpa using hpe
    obtain ⟨pb, hpb, hpk, hpn, hpv⟩ := placed_ok hpe0
    rw [hpv] at HPL
    rw [hpe0] at HM
    clear hpv hpe hpe0
    have hin := fun W (k : Chg [] w W) => inode W f O σ kind mode 0 0 0 0 0 target data ao dc fp (H.out.foreign k (by simp)) (by have h1 := HOK.out.next; have h2 := HOK.out.step; omega) (HD.out.chg k (by simp)) (by rw [HDN.out]; exact HDL.out) hff0
    rw [HP.out.2, HDN.out] at hin
    have HIN := Lib.hid hin
    have HPB := Lib.hid (And.intro hpb (And.intro hpk hpn))
    clear hin hpb hpk hpn
    by_cases hk2 : kind = 2
    · have hkb : (kind == 2) = true := by simp [hk2]
      have hV : V = 0 := Classical.byContradiction fun h => hkv ⟨hk2, h⟩
      subst hV
      clear hkv hk2
      go_enter Tryz.func58, Tryz.ntmps58
      go_upto_region 3 with (fail)
      obtain ⟨W, hW⟩ : ∃ W, w.alloc (.cells #[.int .i64 kind, .int .i64 mode, .int .i64 0, .int .i64 0, .int .i64 0, .string T, .int .i64 0, .int .i64 0] 40) = W := ⟨_, rfl⟩
      have e0 : W.heap[w.heap.size]? = some (.cells #[.int .i64 kind, .int .i64 mode, .int .i64 0, .int .i64 0, .int .i64 0, .string T, .int .i64 0, .int .i64 0] 40 (0, 0)) := by rw [← hW]; exact heap_alloc_new _ _
      have hkW : Chg [] w W := by rw [← hW]; exact (Chg.refl _ _).alloc _
      have HW := Lib.hid hkW
      rw [hW]
      clear hW hkW
      generalize hA : w.heap.size = A at *
      have d0 : W.cell? ⟨A, 0, none⟩ = some (.int .i64 kind) := cell_heap e0 0 rfl
      have d1 : W.cell? ⟨A, 1, none⟩ = some (.int .i64 mode) := cell_heap e0 1 rfl
      have d2 : W.cell? ⟨A, 2, none⟩ = some (.int .i64 0) := cell_heap e0 2 rfl
      have d3 : W.cell? ⟨A, 3, none⟩ = some (.int .i64 0) := cell_heap e0 3 rfl
      have d4 : W.cell? ⟨A, 4, none⟩ = some (.int .i64 0) := cell_heap e0 4 rfl
      have d5 : W.cell? ⟨A, 5, none⟩ = some (.string T) := cell_heap e0 5 rfl
      have d6 : W.cell? ⟨A, 6, none⟩ = some (.int .i64 0) := cell_heap e0 6 rfl
      have d7 : W.cell? ⟨A, 7, none⟩ = some (.int .i64 0) := cell_heap e0 7 rfl
      have HA := Lib.hid hA
      clear e0 hA
      go_wp2_with (first
        | (go_at_call 59; refine (HPC.out _).mono ?_; rintro e w2 ⟨rfl, k2⟩; have HK2 := Lib.hid k2; have x0 := k2.cell d0 (by simp); have x1 := k2.cell d1 (by simp); have x2 := k2.cell d2 (by simp); have x3 := k2.cell d3 (by simp); have x4 := k2.cell d4 (by simp); have x5 := k2.cell d5 (by simp); have x6 := k2.cell d6 (by simp); have x7 := k2.cell d7 (by simp); clear k2)
        | (go_at_call 90; refine (HRC.out _ (HW.out.trans HK2.out)).mono ?_; rintro e w3 ⟨rfl, k3⟩; have HK3 := Lib.hid k3; have y0 := k3.cell x0 (by simp); have y1 := k3.cell x1 (by simp); have y2 := k3.cell x2 (by simp); have y3 := k3.cell x3 (by simp); have y4 := k3.cell x4 (by simp); have y5 := k3.cell x5 (by simp); have y6 := k3.cell x6 (by simp); have y7 := k3.cell x7 (by simp); clear k3)
        | (go_at_call 60; refine (HPL.out _ ((HW.out.trans HK2.out).trans HK3.out)).mono ?_; rintro e w4 ⟨rfl, kq, rfl⟩)
        | (go_at_call 44; refine (HIN.out _ (((HW.out.trans HK2.out).trans HK3.out).drewN kq)).mono ?_; rintro e w5 ⟨b, dvb, rfl, h5, hn5, k5⟩; have HI5 := Lib.hid (And.intro h5 (And.intro hn5 k5)); clear h5 hn5 k5))
      rw [← HP.out.1]
      have k0 := ((HW.out.trans HK2.out).trans HK3.out).drewN kq
      obtain ⟨h5, hn5, k5⟩ := HI5.out
      obtain ⟨hpb, hpk, hpn⟩ := HPB.out
      obtain ⟨m, rv, dv, nv, h5⟩ := h5
      have hfr := hn5.fresh
      have hs0 := k0.size
      rw [HA.out] at hs0
      obtain ⟨hbr, hbl, hdb⟩ := hfr
      have hsz : w3.heap.size = (w3.drewN kq).heap.size := rfl
      have hnb : ∀ p' b', (p', b') ∈ σ.files → b' ≠ b := fun p' b' hb' e => by
        have := H.out.lt
        obtain ⟨m', rv', dv', nv', h'⟩ := H.out
        have := h'.lt b' (h'.nodes p' b' hb').own.1
        rw [HA.out] at this
        omega
      have h6 := h5.congr (dv' := fun i => if i = b then dvb else dv i) (nv' := fun i => if i = b then .slice none 0 0 else nv i) (fun i => if i = b then newNd σ kind mode target data else σ.node i) (fun p' b' hb' => by
        have hne := hnb p' b' hb'
        exact ⟨if_neg hne, if_neg hne, if_neg hne⟩)
      have h7 := h6.widen (O' := b :: (dvb.ownBlock.toList ++ O)) (fun g hg => by simp [hg]) (fun g hg => by
        rcases List.mem_cons.1 hg with rfl | hg
        · exact hbl
        · rcases List.mem_append.1 hg with hg | hg
          · exact (hdb g (by simpa using hg)).2
          · exact h6.lt g hg)
      have hnN : NodeAt w5 (b :: (dvb.ownBlock.toList ++ O)) b (newNd σ kind mode target data) dvb (.slice none 0 0) := by
        refine ⟨?_, hn5.data, ?_, ?_, ?_, ?_⟩
        · have := hn5.blk
          unfold newNd
          rw [HDN.out]
          exact this
        · exact World.ownsRow_nil _ _ _ _
        · simp
        · intro g hg; simp [hg]
        · intro g hg; simp [Value.ownBlock] at hg
      have hpbm := lkF_mem hpb
      have hpbne := hnb _ _ hpbm
      refine (enter w5 f (b :: (dvb.ownBlock.toList ++ O)) _ m rv _ _ p (parentP p) pb b h7 (by omega) hpbm hpn (by simp only [if_true]; exact hnN) (fun p' b' hb' hne g hg => by simp only [if_true]; simp [Value.ownBlock]) (by
        simp only [if_neg hpbne]
        have := HOK.out.names _ _ hpbm
        omega)).mono ?_
      rintro e w6 ⟨rfl, hto⟩
      have HTO := Lib.hid (And.intro hto (And.intro k0 (And.intro k5 (And.intro hpb (And.intro hbr hdb)))))
      clear hto k0 k5 h7 h6 h5 hn5 hnN hpb hpk hpn hbr hbl hdb hnb hpbm hpbne hs0 hsz
      go_wp2_with fail
      go_ret
      rw [HM.out]
      refine ⟨rfl, fun h => absurd rfl h, fun _ => ?_⟩
      obtain ⟨hto, k0, k5, hpb, hbr, hdb⟩ := HTO.out
      have hs0 := k0.size
      have hsz : w3.heap.size = (w3.drewN kq).heap.size := rfl
      refine ⟨pb, b, hpb, by omega, ?_⟩
      refine FsTo.then_ ((k0.mono (T := O) (by simp)).trans (k5.mono (T := O) (by simpa using fun _ => H.out.mem))) (O1 := b :: (dvb.ownBlock.toList ++ O)) (fun g hg => ?_) hto
      rcases List.mem_cons.1 hg with rfl | hg
      · exact .inr (by omega)
      · rcases List.mem_append.1 hg with hg | hg
        · exact .inr (by have := (hdb g (by simpa using hg)).1; omega)
        · exact .inl hg
    · have hkb : (kind == 2) = false := by simpa using hk2
      go_enter Tryz.func58, Tryz.ntmps58
      go_upto_region 3 with (fail)
      obtain ⟨W, hW⟩ : ∃ W, w.alloc (.cells #[.int .i64 kind, .int .i64 mode, .int .i64 0, .int .i64 0, .int .i64 0, .string T, .int .i64 0, .int .i64 0] 40) = W := ⟨_, rfl⟩
      have e0 : W.heap[w.heap.size]? = some (.cells #[.int .i64 kind, .int .i64 mode, .int .i64 0, .int .i64 0, .int .i64 0, .string T, .int .i64 0, .int .i64 0] 40 (0, 0)) := by rw [← hW]; exact heap_alloc_new _ _
      have hkW : Chg [] w W := by rw [← hW]; exact (Chg.refl _ _).alloc _
      have HW := Lib.hid hkW
      rw [hW]
      clear hW hkW
      generalize hA : w.heap.size = A at *
      have d0 : W.cell? ⟨A, 0, none⟩ = some (.int .i64 kind) := cell_heap e0 0 rfl
      have d1 : W.cell? ⟨A, 1, none⟩ = some (.int .i64 mode) := cell_heap e0 1 rfl
      have d2 : W.cell? ⟨A, 2, none⟩ = some (.int .i64 0) := cell_heap e0 2 rfl
      have d3 : W.cell? ⟨A, 3, none⟩ = some (.int .i64 0) := cell_heap e0 3 rfl
      have d4 : W.cell? ⟨A, 4, none⟩ = some (.int .i64 0) := cell_heap e0 4 rfl
      have d5 : W.cell? ⟨A, 5, none⟩ = some (.string T) := cell_heap e0 5 rfl
      have d6 : W.cell? ⟨A, 6, none⟩ = some (.int .i64 0) := cell_heap e0 6 rfl
      have d7 : W.cell? ⟨A, 7, none⟩ = some (.int .i64 0) := cell_heap e0 7 rfl
      have HA := Lib.hid hA
      clear e0 hA
      go_wp2_with (first
        | (go_at_call 59; refine (HPC.out _).mono ?_; rintro e w2 ⟨rfl, k2⟩; have HK2 := Lib.hid k2; have x0 := k2.cell d0 (by simp); have x1 := k2.cell d1 (by simp); have x2 := k2.cell d2 (by simp); have x3 := k2.cell d3 (by simp); have x4 := k2.cell d4 (by simp); have x5 := k2.cell d5 (by simp); have x6 := k2.cell d6 (by simp); have x7 := k2.cell d7 (by simp); clear k2)
        | (go_at_call 60; refine (HPL.out _ (HW.out.trans HK2.out)).mono ?_; rintro e w4 ⟨rfl, kq, rfl⟩)
        | (go_at_call 44; refine (HIN.out _ ((HW.out.trans HK2.out).drewN kq)).mono ?_; rintro e w5 ⟨b, dvb, rfl, h5, hn5, k5⟩; have HI5 := Lib.hid (And.intro h5 (And.intro hn5 k5)); clear h5 hn5 k5))
      rw [← HP.out.1]
      have k0 := (HW.out.trans HK2.out).drewN kq
      obtain ⟨h5, hn5, k5⟩ := HI5.out
      obtain ⟨hpb, hpk, hpn⟩ := HPB.out
      obtain ⟨m, rv, dv, nv, h5⟩ := h5
      have hfr := hn5.fresh
      have hs0 := k0.size
      rw [HA.out] at hs0
      obtain ⟨hbr, hbl, hdb⟩ := hfr
      have hsz : w2.heap.size = (w2.drewN kq).heap.size := rfl
      have hnb : ∀ p' b', (p', b') ∈ σ.files → b' ≠ b := fun p' b' hb' e => by
        have := H.out.lt
        obtain ⟨m', rv', dv', nv', h'⟩ := H.out
        have := h'.lt b' (h'.nodes p' b' hb').own.1
        rw [HA.out] at this
        omega
      have h6 := h5.congr (dv' := fun i => if i = b then dvb else dv i) (nv' := fun i => if i = b then .slice none 0 0 else nv i) (fun i => if i = b then newNd σ kind mode target data else σ.node i) (fun p' b' hb' => by
        have hne := hnb p' b' hb'
        exact ⟨if_neg hne, if_neg hne, if_neg hne⟩)
      have h7 := h6.widen (O' := b :: (dvb.ownBlock.toList ++ O)) (fun g hg => by simp [hg]) (fun g hg => by
        rcases List.mem_cons.1 hg with rfl | hg
        · exact hbl
        · rcases List.mem_append.1 hg with hg | hg
          · exact (hdb g (by simpa using hg)).2
          · exact h6.lt g hg)
      have hnN : NodeAt w5 (b :: (dvb.ownBlock.toList ++ O)) b (newNd σ kind mode target data) dvb (.slice none 0 0) := by
        refine ⟨?_, hn5.data, ?_, ?_, ?_, ?_⟩
        · have := hn5.blk
          unfold newNd
          rw [HDN.out]
          exact this
        · exact World.ownsRow_nil _ _ _ _
        · simp
        · intro g hg; simp [hg]
        · intro g hg; simp [Value.ownBlock] at hg
      have hpbm := lkF_mem hpb
      have hpbne := hnb _ _ hpbm
      refine (enter w5 f (b :: (dvb.ownBlock.toList ++ O)) _ m rv _ _ p (parentP p) pb b h7 (by omega) hpbm hpn (by simp only [if_true]; exact hnN) (fun p' b' hb' hne g hg => by simp only [if_true]; simp [Value.ownBlock]) (by
        simp only [if_neg hpbne]
        have := HOK.out.names _ _ hpbm
        omega)).mono ?_
      rintro e w6 ⟨rfl, hto⟩
      have HTO := Lib.hid (And.intro hto (And.intro k0 (And.intro k5 (And.intro hpb (And.intro hbr hdb)))))
      clear hto k0 k5 h7 h6 h5 hn5 hnN hpb hpk hpn hbr hbl hdb hnb hpbm hpbne hs0 hsz
      go_wp2_with fail
      go_ret
      rw [HM.out]
      refine ⟨rfl, fun h => absurd rfl h, fun _ => ?_⟩
      obtain ⟨hto, k0, k5, hpb, hbr, hdb⟩ := HTO.out
      have hs0 := k0.size
      have hsz : w2.heap.size = (w2.drewN kq).heap.size := rfl
      refine ⟨pb, b, hpb, by omega, ?_⟩
      refine FsTo.then_ ((k0.mono (T := O) (by simp)).trans (k5.mono (T := O) (by simpa using fun _ => H.out.mem))) (O1 := b :: (dvb.ownBlock.toList ++ O)) (fun g hg => ?_) hto
      rcases List.mem_cons.1 hg with rfl | hg
      · exact .inr (by omega)
      · rcases List.mem_append.1 hg with hg | hg
        · exact .inr (by have := (hdb g (by simpa using hg)).1; omega)
        · exact .inl hg
end Go.Proofs.YtfhiioopimmahaaGreatDoor
namespace Go.Proofs.YtfhiioopimmahaaGreatDoor
open Go.RowKit Go.Pax Go.Shelf
/-- What make and the like do to a file system. -/
def MadeBy (w w' : World) (f : Nat) (O : List Nat) (σ : Fs) (p : Str) (kind mode : Int) (target : Str) (data : List UInt8) : Prop :=
  (makeE σ p kind mode target ≠ 0 → Chg [] w w') ∧
  (makeE σ p kind mode target = 0 → ∃ pb b, lkF σ.files (parentP p) = some pb ∧ w.heap.size ≤ b ∧ FsTo w w' f O (made σ p (newNd σ kind mode target data) pb b))
theorem make' (w : World) (f : Nat) (O : List Nat) (σ : Fs) (p : Str) (kind mode : Int) (target : Str) (data : List UInt8) (ao : Option Addr) (n dc : Nat) (fp : List Nat) (h : FsAt w f O σ) (hok : σ.Ok) (hkeys : KeysAt w) (hko : 0 ∉ O)
    (ht : target.length ≤ 140737488355328) (hn : data.length = n) (hd : Rd w fp ao (bv data)) (hdl : n ≤ 140737488355328) (hff : ∀ x ∈ fp, x ∉ O) (P T : ByteArray) (hP : ba p = P) (hT : ba target = T) :
    Calls Tryz.prog 58 #[.pointer (some ⟨f, 0, none⟩), .string P, .agg #[.int .i64 kind, .int .i64 mode, .int .i64 0, .int .i64 0, .int .i64 0, .string T, .int .i64 0, .int .i64 0], .slice ao n dc] w fun e w' =>
      e = .returned (.int .i64 (makeE σ p kind mode target)) ∧ MadeBy w w' f O σ p kind mode target data := by
  subst hn hP hT
  exact make w f O σ p kind mode target data ao dc fp h hok hkeys hko ht hd hdl hff
set_option maxHeartbeats 2000000 in
theorem mkdir_nil (w : World) (P : ByteArray) (mode : Int) : Calls Tryz.prog 62 #[.pointer none, .string P, .int .i64 mode] w fun e w' => e = .returned (.int .i64 1) ∧ Chg [] w w' := by
  have HM := Lib.hid (fun W i0 i1 i2 i3 i4 T i6 i7 d => make_nil W P i0 i1 i2 i3 i4 i6 i7 T d)
  go_enter Tryz.func62, Tryz.ntmps62
  go_wp2_with (go_at_call 58; refine (HM.out _ _ _ _ _ _ _ _ _ _).mono ?_; rintro e w' ⟨rfl, k⟩; have HK := Lib.hid k; clear k)
  go_ret
  exact ⟨rfl, HK.out⟩
set_option maxHeartbeats 2000000 in
theorem mkdir (w : World) (f : Nat) (O : List Nat) (σ : Fs) (p : Str) (mode : Int) (h : FsAt w f O σ) (hok : σ.Ok) (hkeys : KeysAt w) (hko : 0 ∉ O) :
    Calls Tryz.prog 62 #[.pointer (some ⟨f, 0, none⟩), .string (ba p), .int .i64 mode] w fun e w' => e = .returned (.int .i64 (makeE σ p 0 mode [])) ∧ MadeBy w w' f O σ p 0 mode [] [] := by
  have hm := make' w f O σ p 0 mode [] [] none 0 0 [] h hok hkeys hko (by simp) rfl (Rd.nil _ _ _) (by simp) (by simp) _ _ rfl rfl
  have HM := Lib.hid hm
  clear hm h hkeys 
  generalize makeE σ p 0 mode [] = ME at *
  generalize ba p = P at *
  try simp only [show ba [] = (⟨#[]⟩ : ByteArray) from rfl] at HM
  skip
  go_enter Tryz.func62, Tryz.ntmps62
  go_wp2_with (go_at_call 58; refine HM.out.mono ?_; rintro e w' ⟨rfl, k⟩; have HK := Lib.hid k; clear k)
  go_ret
  exact ⟨rfl, HK.out⟩
set_option maxHeartbeats 2000000 in
theorem create_nil (w : World) (P : ByteArray) (mode : Int) (ao : Option Addr) (n dc : Nat) : Calls Tryz.prog 27 #[.pointer none, .string P, .int .i64 mode, .slice ao n dc] w fun e w' => e = .returned (.int .i64 1) ∧ Chg [] w w' := by
  have HM := Lib.hid (fun W i0 i1 i2 i3 i4 T i6 i7 d => make_nil W P i0 i1 i2 i3 i4 i6 i7 T d)
  go_enter Tryz.func27, Tryz.ntmps27
  go_wp2_with (go_at_call 58; refine (HM.out _ _ _ _ _ _ _ _ _ _).mono ?_; rintro e w' ⟨rfl, k⟩; have HK := Lib.hid k; clear k)
  go_ret
  exact ⟨rfl, HK.out⟩
set_option maxHeartbeats 2000000 in
theorem create (w : World) (f : Nat) (O : List Nat) (σ : Fs) (p : Str) (mode : Int) (data : List UInt8) (ao : Option Addr) (dc : Nat) (fp : List Nat) (h : FsAt w f O σ) (hok : σ.Ok) (hkeys : KeysAt w) (hko : 0 ∉ O) (hd : Rd w fp ao (bv data)) (hdl : data.length ≤ 140737488355328) (hff : ∀ x ∈ fp, x ∉ O) :
    Calls Tryz.prog 27 #[.pointer (some ⟨f, 0, none⟩), .string (ba p), .int .i64 mode, .slice ao data.length dc] w fun e w' => e = .returned (.int .i64 (makeE σ p 1 mode [])) ∧ MadeBy w w' f O σ p 1 mode [] data := by
  have hm := make' w f O σ p 1 mode [] data ao data.length dc fp h hok hkeys hko (by simp) rfl hd hdl hff _ _ rfl rfl
  have HM := Lib.hid hm
  clear hm h hkeys hd hff 
  generalize makeE σ p 1 mode [] = ME at *
  generalize ba p = P at *
  try simp only [show ba [] = (⟨#[]⟩ : ByteArray) from rfl] at HM
  generalize data.length = DL at *
  go_enter Tryz.func27, Tryz.ntmps27
  go_wp2_with (go_at_call 58; refine HM.out.mono ?_; rintro e w' ⟨rfl, k⟩; have HK := Lib.hid k; clear k)
  go_ret
  exact ⟨rfl, HK.out⟩
set_option maxHeartbeats 2000000 in
theorem symlink_nil (w : World) (P : ByteArray) (T : ByteArray) : Calls Tryz.prog 63 #[.pointer none, .string P, .string T] w fun e w' => e = .returned (.int .i64 1) ∧ Chg [] w w' := by
  have HM := Lib.hid (fun W i0 i1 i2 i3 i4 T i6 i7 d => make_nil W P i0 i1 i2 i3 i4 i6 i7 T d)
  go_enter Tryz.func63, Tryz.ntmps63
  go_wp2_with (go_at_call 58; refine (HM.out _ _ _ _ _ _ _ _ _ _).mono ?_; rintro e w' ⟨rfl, k⟩; have HK := Lib.hid k; clear k)
  go_ret
  exact ⟨rfl, HK.out⟩
set_option maxHeartbeats 2000000 in
theorem symlink (w : World) (f : Nat) (O : List Nat) (σ : Fs) (p : Str) (target : Str) (h : FsAt w f O σ) (hok : σ.Ok) (hkeys : KeysAt w) (hko : 0 ∉ O) (ht : target.length ≤ 140737488355328) :
    Calls Tryz.prog 63 #[.pointer (some ⟨f, 0, none⟩), .string (ba p), .string (ba target)] w fun e w' => e = .returned (.int .i64 (makeE σ p 2 511 target)) ∧ MadeBy w w' f O σ p 2 511 target [] := by
  have hm := make' w f O σ p 2 511 target [] none 0 0 [] h hok hkeys hko ht rfl (Rd.nil _ _ _) (by simp) (by simp) _ _ rfl rfl
  have HM := Lib.hid hm
  clear hm h hkeys 
  generalize makeE σ p 2 511 target = ME at *
  generalize ba p = P at *
  generalize ba target = T at *
  skip
  go_enter Tryz.func63, Tryz.ntmps63
  go_wp2_with (go_at_call 58; refine HM.out.mono ?_; rintro e w' ⟨rfl, k⟩; have HK := Lib.hid k; clear k)
  go_ret
  exact ⟨rfl, HK.out⟩
set_option maxHeartbeats 2000000 in
theorem mknod_nil (w : World) (P : ByteArray) (mode : Int) : Calls Tryz.prog 64 #[.pointer none, .string P, .int .i64 mode] w fun e w' => e = .returned (.int .i64 1) ∧ Chg [] w w' := by
  have HM := Lib.hid (fun W i0 i1 i2 i3 i4 T i6 i7 d => make_nil W P i0 i1 i2 i3 i4 i6 i7 T d)
  go_enter Tryz.func64, Tryz.ntmps64
  go_wp2_with (go_at_call 58; refine (HM.out _ _ _ _ _ _ _ _ _ _).mono ?_; rintro e w' ⟨rfl, k⟩; have HK := Lib.hid k; clear k)
  go_ret
  exact ⟨rfl, HK.out⟩
set_option maxHeartbeats 2000000 in
theorem mknod (w : World) (f : Nat) (O : List Nat) (σ : Fs) (p : Str) (mode : Int) (h : FsAt w f O σ) (hok : σ.Ok) (hkeys : KeysAt w) (hko : 0 ∉ O) :
    Calls Tryz.prog 64 #[.pointer (some ⟨f, 0, none⟩), .string (ba p), .int .i64 mode] w fun e w' => e = .returned (.int .i64 (makeE σ p 4 mode [])) ∧ MadeBy w w' f O σ p 4 mode [] [] := by
  have hm := make' w f O σ p 4 mode [] [] none 0 0 [] h hok hkeys hko (by simp) rfl (Rd.nil _ _ _) (by simp) (by simp) _ _ rfl rfl
  have HM := Lib.hid hm
  clear hm h hkeys 
  generalize makeE σ p 4 mode [] = ME at *
  generalize ba p = P at *
  try simp only [show ba [] = (⟨#[]⟩ : ByteArray) from rfl] at HM
  skip
  go_enter Tryz.func64, Tryz.ntmps64
  go_wp2_with (go_at_call 58; refine HM.out.mono ?_; rintro e w' ⟨rfl, k⟩; have HK := Lib.hid k; clear k)
  go_ret
  exact ⟨rfl, HK.out⟩
end Go.Proofs.YtfhiioopimmahaaGreatDoor
namespace Go.Pax
open Go.RowKit
def chownE (σ : Fs) (p : Str) : Int := match lkF σ.files p with
  | some _ => 0
  | none => 19
def setNode (σ : Fs) (b : Nat) (nd : Nd) : Fs := { σ with node := fun i => if i = b then nd else σ.node i }
/-- What Link answers. -/
def linkE (σ : Fs) (p t : Str) : Int :=
  if checkP p ≠ 0 then checkP p else if placeE σ p ≠ 0 then placeE σ p else match lkF σ.files t with
  | some b => if (σ.node b).kind = 1 then 0 else 15
  | none => 19
def readE (σ : Fs) (p : Str) : Int := match lkF σ.files p with
  | some b => if (σ.node b).kind = 1 then 0 else 8
  | none => 19
end Go.Pax
namespace Go.Proofs.YtfhiioopimmahaaGreatDoor
open Go.RowKit Go.Pax Go.Shelf
set_option maxHeartbeats 2000000 in
theorem chown_nil (w : World) (P : ByteArray) (u m : Int) : Calls Tryz.prog 65 #[.pointer none, .string P, .int .i64 u, .int .i64 m] w fun e w' => e = .returned (.int .i64 1) ∧ Chg [] w w' := by
  go_enter Tryz.func65, Tryz.ntmps65
  go_wp2_with (go_at_call 36; refine (find_nil _ _).mono ?_; rintro e w' ⟨rfl, rfl⟩)
  go_ret
  exact ⟨rfl, Chg.refl _ _⟩
set_option maxHeartbeats 4000000 in
theorem chown (w : World) (f : Nat) (O : List Nat) (σ : Fs) (p : Str) (u mt : Int) (h : FsAt w f O σ) :
    Calls Tryz.prog 65 #[.pointer (some ⟨f, 0, none⟩), .string (ba p), .int .i64 u, .int .i64 mt] w fun e w' => e = .returned (.int .i64 (chownE σ p)) ∧
      (chownE σ p ≠ 0 → Chg [] w w') ∧ (chownE σ p = 0 → ∃ b, lkF σ.files p = some b ∧ FsTo w w' f O (setNode σ b { σ.node b with uid := u, mtime := mt })) := by
  have hf := find w f O σ p h
  have HF := Lib.hid hf
  clear hf
  unfold chownE
  unfold found at HF
  cases hk : lkF σ.files p with
  | none =>
    rw [hk] at HF
    simp only at HF ⊢
    clear hk h
    generalize ba p = P at *
    go_enter Tryz.func65, Tryz.ntmps65
    go_wp2_with (go_at_call 36; refine HF.out.mono ?_; rintro e w' ⟨rfl, rfl⟩)
    go_ret
    exact ⟨rfl, fun _ => Chg.refl _ _, fun h => by cases h⟩
  | some b =>
    rw [hk] at HF
    simp only at HF ⊢
    obtain ⟨m, rv, dv, nv, h⟩ := h
    have hN := h.nodes _ _ (lkF_mem hk)
    obtain ⟨c0, c1, c2, c3, c4, c5, c6, c7, _, _⟩ := hN.cells
    have hlt := lt_of_block hN.blk
    have f6 : w.frozen? ⟨b, 6, none⟩ = false := frozen_of_row _ _ _ _ _ hN.blk
    have f7 : w.frozen? ⟨b, 7, none⟩ = false := frozen_of_row _ _ _ _ _ hN.blk
    have H := Lib.hid (And.intro h hN)
    have HK := Lib.hid hk
    clear h hN hk
    generalize ba p = P at *
    go_enter Tryz.func65, Tryz.ntmps65
    go_wp2_with (go_at_call 36; refine HF.out.mono ?_; rintro e w' ⟨rfl, rfl⟩)
    go_ret
    refine ⟨rfl, fun h => absurd rfl h, fun _ => ⟨b, rfl, ?_⟩⟩
    obtain ⟨h, hN⟩ := H.out
    have k1 : Chg [b] w' ((w'.setCell ⟨b, 6, none⟩ (.int .i64 u)).setCell ⟨b, 7, none⟩ (.int .i64 mt)) := ((Chg.refl _ _).setCell (fun _ => by simp) _).setCell (fun _ => by simp) _
    have hb := heap_set (heap_set hN.blk 6 (.int .i64 u) rfl) 7 (.int .i64 mt) rfl
    exact ⟨O, ⟨⟨m, rv, dv, nv, h.setN (lkF_mem HK.out) k1 { σ.node b with uid := u, mtime := mt } rfl rfl hb⟩, fun g hg => .inl hg⟩, k1.mono (by simpa using fun _ => hN.own.1)⟩
/-- What ReadFile returns. -/
def ReadAs (e : Ending) (w w' : World) (σ : Fs) (p : Str) : Prop :=
  (readE σ p ≠ 0 → e = .returned (.tuple #[.slice none 0 0, .int .i64 (readE σ p)]) ∧ Chg [] w w') ∧
  (readE σ p = 0 → ∃ b ao cap fp, lkF σ.files p = some b ∧ e = .returned (.tuple #[.slice ao (σ.node b).data.length cap, .int .i64 0]) ∧ Rd w' fp ao (bv (σ.node b).data) ∧ w'.ownsRow w.heap.size 5 1 (.slice ao (σ.node b).data.length cap) (σ.node b).data.length (bv (σ.node b).data) ∧ (∀ g ∈ fp, w.heap.size ≤ g) ∧ Chg [] w w')
set_option maxHeartbeats 2000000 in
theorem readFile_nil (w : World) (P : ByteArray) : Calls Tryz.prog 56 #[.pointer none, .string P] w fun e w' => e = .returned (.tuple #[.slice none 0 0, .int .i64 1]) ∧ Chg [] w w' := by
  go_enter Tryz.func56, Tryz.ntmps56
  go_wp2_with (go_at_call 36; refine (find_nil _ _).mono ?_; rintro e w' ⟨rfl, rfl⟩)
  go_ret2
  exact ⟨rfl, Chg.refl _ _⟩
set_option maxHeartbeats 4000000 in
theorem readFile (w : World) (f : Nat) (O : List Nat) (σ : Fs) (p : Str) (h : FsAt w f O σ) (hd : ∀ p b, (p, b) ∈ σ.files → (σ.node b).data.length ≤ 140737488355328) :
    Calls Tryz.prog 56 #[.pointer (some ⟨f, 0, none⟩), .string (ba p)] w fun e w' => ReadAs e w w' σ p := by
  have hf := find w f O σ p h
  have HF := Lib.hid hf
  clear hf
  unfold ReadAs readE
  unfold found at HF
  cases hk : lkF σ.files p with
  | none =>
    rw [hk] at HF
    simp only at HF ⊢
    clear hk h
    generalize ba p = P at *
    go_enter Tryz.func56, Tryz.ntmps56
    go_wp2_with (go_at_call 36; refine HF.out.mono ?_; rintro e w' ⟨rfl, rfl⟩)
    go_ret2
    exact ⟨fun _ => ⟨rfl, Chg.refl _ _⟩, fun h => by cases h⟩
  | some b =>
    rw [hk] at HF
    simp only at HF ⊢
    obtain ⟨m, rv, dv, nv, h⟩ := h
    have hN := h.nodes _ _ (lkF_mem hk)
    have hdl := hd _ _ (lkF_mem hk)
    obtain ⟨c0, _, _, _, _, _, _, _, c8, _⟩ := hN.cells
    have hlt := lt_of_block hN.blk
    obtain ⟨da, dc, hdv⟩ := hN.data.shape
    rw [hdv] at hN c8
    have hrd := hN.data.rd.2.1
    rw [bv_length] at c8 hrd
    have hcl := cloneBytes w da (σ.node b).data.length dc _ (σ.node b).data rfl hdl hrd
    have HC := Lib.hid hcl
    clear hN hcl hrd h hk hd
    generalize hnd : σ.node b = nd at *
    obtain ⟨kind, mode, ino, links, size, target, uid, mtime, data, names⟩ := nd
    simp only at c0 c8 hdl HC ⊢
    have HND := Lib.hid hnd
    clear hnd
    generalize ba p = P at *
    generalize hDL : data.length = DL at *
    have HDL := Lib.hid hDL
    clear hDL
    by_cases hkd : kind = 1
    · subst hkd
      rw [if_pos rfl]
      go_enter Tryz.func56, Tryz.ntmps56
      go_wp2_with (first
        | (go_at_call 36; refine HF.out.mono ?_; rintro e w' ⟨rfl, rfl⟩)
        | (go_at_call 75; refine HC.out.mono ?_; rintro e w2 ⟨ao, cap, rfl, hown, hgr⟩; have HO := Lib.hid (And.intro hown hgr); clear hown hgr))
      go_ret2
      obtain ⟨hown, hgr⟩ := HO.out
      obtain ⟨hr1, hr2, _⟩ := own_rd2 hown
      refine ⟨fun h => absurd rfl h, fun _ => ⟨b, ao, cap, _, rfl, ?_, ?_, ?_, fun g hg => (hr2 g hg).1, Chg.of_grown hgr (fun k hk => by cases hk)⟩⟩
      · rw [HND.out, HDL.out]; rfl
      · rw [HND.out]; exact hr1
      · rw [HND.out]; simp only [HDL.out]; exact hown
    · rw [if_neg hkd]
      have hkb : (kind == 1) = false := by simpa using hkd
      go_enter Tryz.func56, Tryz.ntmps56
      go_wp2_with (go_at_call 36; refine HF.out.mono ?_; rintro e w' ⟨rfl, rfl⟩)
      go_ret2
      exact ⟨fun _ => ⟨rfl, Chg.refl _ _⟩, fun h => by cases h⟩
/-- The file system with one link more to the file at block b. -/
def linked (σ : Fs) (p : Str) (pb b : Nat) : Fs := entered (setNode σ b { σ.node b with links := (σ.node b).links + 1 }) p pb b
def LinkedBy (w w' : World) (f : Nat) (O : List Nat) (σ : Fs) (p t : Str) : Prop :=
  (linkE σ p t ≠ 0 → Chg [] w w') ∧ (linkE σ p t = 0 → ∃ pb b, lkF σ.files (parentP p) = some pb ∧ lkF σ.files t = some b ∧ FsTo w w' f O (linked σ p pb b))
set_option maxHeartbeats 2000000 in
theorem link_nil (w : World) (P T : ByteArray) : Calls Tryz.prog 28 #[.pointer none, .string P, .string T] w fun e w' => e = .returned (.int .i64 1) ∧ Chg [] w w' := by
  go_enter Tryz.func28, Tryz.ntmps28
  go_wp2
  go_ret
  exact ⟨rfl, Chg.refl _ _⟩
set_option maxRecDepth 100000 in
set_option maxHeartbeats 8000000 in
theorem link (w : World) (f : Nat) (O : List Nat) (σ : Fs) (p t : Str) (h : FsAt w f O σ) (hok : σ.Ok) :
    Calls Tryz.prog 28 #[.pointer (some ⟨f, 0, none⟩), .string (ba p), .string (ba t)] w fun e w' => e = .returned (.int .i64 (linkE σ p t)) ∧ LinkedBy w w' f O σ p t := by
  have hpc := fun W => pathCheck p W
  have HPC := Lib.hid hpc
  have hpl := fun (hE : checkP p = 0) W (k : Chg [] w W) => place W f O σ p (h.foreign k (by simp)) (by have := checkP_len hE; omega)
  have HPL := Lib.hid hpl
  clear hpc hpl
  unfold LinkedBy
  have hLE : linkE σ p t = if checkP p ≠ 0 then checkP p else if placeE σ p ≠ 0 then placeE σ p else match lkF σ.files t with
    | some b => if (σ.node b).kind = 1 then 0 else 15
    | none => 19 := rfl
  generalize linkE σ p t = LE at *
  by_cases hE : checkP p ≠ 0
  · rw [if_pos hE] at hLE
    subst hLE
    generalize checkP p = E at *
    generalize ba p = P at *
    generalize ba t = T at *
    have hEb : (E == 0) = false := by simpa using hE
    have hEn : (E != 0) = true := by simpa using hE
    clear HPL h hok
    go_enter Tryz.func28, Tryz.ntmps28
    go_wp2_with (go_at_call 59; refine (HPC.out _).mono ?_; rintro e w2 ⟨rfl, k2⟩; have HK2 := Lib.hid k2; clear k2)
    go_ret
    exact ⟨rfl, fun _ => HK2.out, fun h => absurd h hE⟩
  have hE0 : checkP p = 0 := by simpa using hE
  rw [if_neg hE] at hLE
  rw [hE0] at HPC
  replace HPL := Lib.hid (HPL.out hE0)
  by_cases hpe : placeE σ p ≠ 0
  · rw [if_pos hpe] at hLE
    rw [placed_bad hpe] at HPL
    subst hLE
    generalize placeE σ p = PE at *
    generalize ba p = P at *
    generalize ba t = T at *
    have hpb : (PE == 0) = false := by simpa using hpe
    have hpn : (PE != 0) = true := by simpa using hpe
    clear h hok
    go_enter Tryz.func28, Tryz.ntmps28
    go_wp2_with (first
      | (go_at_call 59; refine (HPC.out _).mono ?_; rintro e w2 ⟨rfl, k2⟩; have HK2 := Lib.hid k2; clear k2)
      | (go_at_call 60; refine (HPL.out _ HK2.out).mono ?_; rintro e w4 ⟨rfl, kq, rfl⟩))
    go_ret
    exact ⟨rfl, fun _ => HK2.out.drewN _, fun h => absurd h hpe⟩
  rw [if_neg hpe] at hLE
  have hpe0 : placeE σ p = 0 := by simpa using hpe
  obtain ⟨pb, hpb, hpk, hpn, hpv⟩ := placed_ok hpe0
  rw [hpv] at HPL
  clear hpv hpe
  obtain ⟨m, rv, dv, nv, h⟩ := h
  obtain ⟨_, _, _, _, c4⟩ := h.cells
  have hlk := fun n W (k : Chg [] w W) => (h.foreign k (by simp)).look t n
  have HLK := Lib.hid hlk
  have hltf := lt_of_block h.blk
  cases hk : lkF σ.files t with
  | none =>
    rw [hk] at HLK hLE
    simp only at HLK hLE
    subst hLE
    clear h hok hlk
    generalize ba p = P at *
    generalize ba t = T at *
    go_enter Tryz.func28, Tryz.ntmps28
    go_wp2_with (first
      | (go_at_call 59; refine (HPC.out _).mono ?_; rintro e w2 ⟨rfl, k2⟩; have HK2 := Lib.hid k2; have d4 := k2.cell c4 (by simp); have hl := fun n => HLK.out n _ k2; clear k2)
      | (go_at_call 60; refine (HPL.out _ HK2.out).mono ?_; rintro e w4 ⟨rfl, kq, rfl⟩))
    go_ret
    exact ⟨rfl, fun _ => HK2.out.drewN _, fun h => by cases h⟩
  | some b =>
    rw [hk] at HLK hLE
    simp only at HLK hLE
    have hbm := lkF_mem hk
    have hN := h.nodes _ _ hbm
    obtain ⟨c0, _, _, c3, _⟩ := hN.cells
    have hltb := lt_of_block hN.blk
    have hll := hok.links _ _ hbm
    have hnl := hok.names _ _ (lkF_mem hpb)
    by_cases hkd : (σ.node b).kind = 1
    · rw [if_pos hkd] at hLE
      subst hLE
      rw [hkd] at c0
      have f3 : w.frozen? ⟨b, 3, none⟩ = false := frozen_of_row _ _ _ _ _ hN.blk
      have hst := fun W (k : Chg [] w W) => heap_set (k.heap hN.blk (by simp)) 3 (.int .i64 ((σ.node b).links + 1)) rfl
      have hset := fun W W' (k : Chg [] w W) (k' : Chg [b] W W') hb' => (h.foreign k (by simp)).setN (w' := W') hbm k' { σ.node b with links := (σ.node b).links + 1 } rfl rfl hb'
      have hfz := fun W (k : Chg [] w W) => frozen_of_row W b 3 _ _ (k.heap hN.blk (by simp))
      have HS := Lib.hid (And.intro hst (And.intro hset hfz))
      have HH := Lib.hid (And.intro h (And.intro hpb (And.intro hk (And.intro hbm hpn))))
      have HPP := Lib.hid (checkP_len hE0)
      clear h hN hok hst hset hlk hfz hpb hk hbm hpn
      generalize hLL : (σ.node b).links = LL at *
      have HLL := Lib.hid hLL
      generalize hP : ba p = P at *
      generalize hT : ba t = T at *
      have HPT := Lib.hid (And.intro hP hT)
      clear hLL hP hT
      go_enter Tryz.func28, Tryz.ntmps28
      go_wp2_with (first
        | (go_at_call 59; refine (HPC.out _).mono ?_; rintro e w2 ⟨rfl, k2⟩; have HK2 := Lib.hid k2; have d4 := k2.cell c4 (by simp); have d0 := k2.cell c0 (by simp); have d3 := k2.cell c3 (by simp); have hl := fun n => HLK.out n _ k2; have hz2 := k2.size; have hz3 := HS.out.2.2 _ k2; clear k2)
        | (go_at_call 60; refine (HPL.out _ HK2.out).mono ?_; rintro e w4 ⟨rfl, kq, rfl⟩))
      rw [← HPT.out.1]
      have hk2 := HK2.out
      have k2q : Chg [] w (w2.drewN kq) := hk2.drewN kq
      have hb' := HS.out.1 _ k2q
      obtain ⟨h0, hpb, hk, hbm, hpn⟩ := HH.out
      have k3 : Chg [b] (w2.drewN kq) ((w2.drewN kq).setCell ⟨b, 3, none⟩ (.int .i64 (LL + 1))) := (Chg.refl _ _).setCell (fun _ => by simp) _
      have h3 := HS.out.2.1 _ _ k2q k3 hb'
      have hN3 := h3.nodes _ _ hbm
      have hpbm := lkF_mem hpb
      have hlp := HPP.out
      refine (enter _ f O _ m rv _ _ p (parentP p) pb b h3 (by omega) hpbm hpn hN3 (fun p' b' hb' hne g hg => h3.apart p' b' t b hb' hbm hne g hg) (by
        have hx : (if pb = b then ({ σ.node b with links := LL + 1 } : Nd) else σ.node pb).names = (σ.node pb).names := by
          split
          · rename_i e; rw [e]
          · rfl
        show ((if pb = b then ({ σ.node b with links := LL + 1 } : Nd) else σ.node pb).names.length + 1) * 16 ≤ _
        rw [hx]
        omega)).mono ?_
      rintro e w6 ⟨rfl, hto⟩
      have HTO := Lib.hid (And.intro hto (And.intro k2q (And.intro k3 (And.intro hpb (And.intro hk hN3.own.1)))))
      clear hto k2q k3 h3 hN3 hpb hk h0 hbm hpn hpbm hk2 hb'
      go_wp2_with fail
      go_ret
      refine ⟨rfl, fun h => absurd rfl h, fun _ => ?_⟩
      obtain ⟨hto, k2q, k3, hpb, hk, hbo⟩ := HTO.out
      refine ⟨pb, b, hpb, rfl, ?_⟩
      unfold linked setNode
      rw [HLL.out]
      exact (FsTo.then_ ((k2q.mono (T := O) (by simp)).trans (k3.mono (T := O) (by simpa using fun _ => hbo))) (fun g hg => .inl hg) hto)
    · rw [if_neg hkd] at hLE
      subst hLE
      clear h hN hok hlk hk hbm
      generalize (σ.node b).kind = kd at *
      have hkb : (kd == 1) = false := by simpa using hkd
      generalize ba p = P at *
      generalize ba t = T at *
      go_enter Tryz.func28, Tryz.ntmps28
      go_wp2_with (first
        | (go_at_call 59; refine (HPC.out _).mono ?_; rintro e w2 ⟨rfl, k2⟩; have HK2 := Lib.hid k2; have d4 := k2.cell c4 (by simp); have d0 := k2.cell c0 (by simp); have hl := fun n => HLK.out n _ k2; have hz2 := k2.size; clear k2)
        | (go_at_call 60; refine (HPL.out _ HK2.out).mono ?_; rintro e w4 ⟨rfl, kq, rfl⟩))
      go_ret
      exact ⟨rfl, fun _ => HK2.out.drewN _, fun h => by cases h⟩
end Go.Proofs.YtfhiioopimmahaaGreatDoor
namespace Go.Pax
open Go.RowKit
/-- The first place of a negative number from place k on, or -1. -/
def idxN : List Int → Nat → Int
  | [], _ => -1
  | y :: l, k => if y < 0 then k else idxN l (k + 1)
theorem idxN_neg : ∀ (l : List Int) (k : Nat), (0 ≤ idxN l k ↔ ∃ y ∈ l, y < 0)
  | [], _ => by simp [idxN]
  | y :: l, k => by
    simp only [idxN, List.mem_cons]
    split
    · rename_i h; simp; exact .inl h
    · rename_i h; rw [idxN_neg l (k + 1)]; simp [h]
end Go.Pax
namespace Go.Proofs.YtfhiioopimmahaaGreatDoor
open Go.RowKit Go.Pax Go.Shelf
set_option maxHeartbeats 1000000 in
theorem isNeg (w : World) (n : Int) : Calls Tryz.prog 42 #[.int .i64 n] w fun e w' => e = .returned (.bool (decide (n < 0))) ∧ w' = w := by
  go_enter Tryz.func42, Tryz.ntmps42
  go_wp2
  go_ret
  exact ⟨rfl, rfl⟩
set_option maxRecDepth 100000 in
set_option maxHeartbeats 2000000 in
theorem indexNeg (w : World) (ao : Option Addr) (c : Nat) (fp : List Nat) (l : List Int) (hl : l.length ≤ 140737488355328) (h : Rd w fp ao (iv l)) :
    Calls Tryz.prog 80 #[.slice ao l.length c, .func (.func 42) #[] #[]] w fun e w' => e = .returned (.int .i64 (idxN l 0)) ∧ w' = w := by
  have H := Lib.hid h
  clear h
  generalize hn : l.length = n at *
  have HN := Lib.hid hn
  clear hn
  go_enter Tryz.func80, Tryz.ntmps80
  go_wp2
  go_loop [8] (fun i => ∃ k : Nat, k ≤ n ∧ i = .int .i64 k ∧ idxN l 0 = idxN (l.drop k) k) (fun i => n - (intOf i).toNat)
  case atStart => exact ⟨0, Nat.zero_le _, rfl, by simp⟩
  case round =>
    obtain ⟨k, hk, rfl, hik⟩ := hrel
    have HI := Lib.hid hik
    clear hik
    by_cases hlt : k < n
    · have hkl : k < l.length := by rw [HN.out]; exact hlt
      obtain ⟨ad, rfl, _, hc⟩ := H.out k _ (iv_get l k hkl)
      have hd : l.drop k = l[k] :: l.drop (k + 1) := List.drop_eq_getElem_cons hkl
      have HD := Lib.hid hd
      clear hd
      generalize l[k] = y at *
      have hki : (k : Int) < n := by omega
      by_cases hxy : y < 0
      · go_wp2_with (go_at_call 42; refine (isNeg _ _).mono ?_; rintro e w' ⟨rfl, rfl⟩)
        go_ret
        exact ⟨by rw [HI.out, HD.out, idxN, if_pos hxy]; rfl, rfl⟩
      · have hdec : decide (y < 0) = false := by simpa using hxy
        have HXY := Lib.hid hxy
        go_wp2_with (go_at_call 42; refine (isNeg _ _).mono ?_; rintro e w' ⟨rfl, rfl⟩)
        go_round
        case rel => exact ⟨k + 1, by omega, by go_num, by rw [HI.out, HD.out, idxN, if_neg (Int.not_lt.2 HXY.out)]⟩
        case measure => simp [intOf]; omega
    · have hkn : k = n := by omega
      subst hkn
      go_wp2
      go_ret
      exact ⟨by rw [HI.out, List.drop_of_length_le (by rw [HN.out]; exact Nat.le_refl _)]; rfl, rfl⟩
set_option maxHeartbeats 1000000 in
theorem containsNeg (w : World) (ao : Option Addr) (n c : Nat) (fp : List Nat) (l : List Int) (hn : l.length = n) (hl : n ≤ 140737488355328) (h : Rd w fp ao (iv l)) :
    Calls Tryz.prog 41 #[.slice ao n c, .func (.func 42) #[] #[]] w fun e w' => e = .returned (.bool (decide (0 ≤ idxN l 0))) ∧ w' = w := by
  subst hn
  have HI := Lib.hid (indexNeg w ao c fp l hl h)
  clear h
  generalize idxN l 0 = i at *
  go_enter Tryz.func41, Tryz.ntmps41
  go_wp2_with (go_at_call 80; refine HI.out.mono ?_; rintro e w' ⟨rfl, rfl⟩)
  go_ret
  exact ⟨rfl, rfl⟩
end Go.Proofs.YtfhiioopimmahaaGreatDoor
