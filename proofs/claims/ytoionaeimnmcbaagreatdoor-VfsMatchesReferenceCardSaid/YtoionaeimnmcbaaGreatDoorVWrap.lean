/- paxtar/vfs: Mkdir, Create, Symlink, Mknod. Printed by wip/gen/genwrap.py. -/
import Derived.Test.YtoionaeimnmcbaaGreatDoorVMake
namespace Go.Proofs.YtoionaeimnmcbaaGreatDoor
open Go.RowKit Go.Pax Go.Shelf
/-- What make and the like do to a file system. -/
def MadeBy (w w' : World) (f : Nat) (O : List Nat) (σ : Fs) (p : Str) (kind mode : Int) (target : Str) (data : List UInt8) : Prop :=
  (makeE σ p kind mode target ≠ 0 → Chg [] w w') ∧
  (makeE σ p kind mode target = 0 → ∃ pb b, lkF σ.files (parentP p) = some pb ∧ w.heap.size ≤ b ∧ FsTo w w' f O (made σ p (newNd σ kind mode target data) pb b))
theorem make' (w : World) (f : Nat) (O : List Nat) (σ : Fs) (p : Str) (kind mode : Int) (target : Str) (data : List UInt8) (ao : Option Addr) (n dc : Nat) (fp : List Nat) (h : FsAt w f O σ) (hok : σ.Ok) (hkeys : KeysAt w) (hko : 1 ∉ O)
    (ht : target.length ≤ 140737488355328) (hn : data.length = n) (hd : Rd w fp ao (bv data)) (hdl : n ≤ 140737488355328) (hff : ∀ x ∈ fp, x ∉ O) (P T : ByteArray) (hP : ba p = P) (hT : ba target = T) :
    Calls Tryz.prog 47 #[.pointer (some ⟨f, 0, none⟩), .string P, .agg #[.int .i64 kind, .int .i64 mode, .int .i64 0, .int .i64 0, .int .i64 0, .string T, .int .i64 0, .int .i64 0], .slice ao n dc] w fun e w' =>
      e = .returned (.int .i64 (makeE σ p kind mode target)) ∧ MadeBy w w' f O σ p kind mode target data := by
  subst hn hP hT
  exact make w f O σ p kind mode target data ao dc fp h hok hkeys hko ht hd hdl hff
set_option maxHeartbeats 2000000 in
theorem mkdir_nil (w : World) (P : ByteArray) (mode : Int) : Calls Tryz.prog 28 #[.pointer none, .string P, .int .i64 mode] w fun e w' => e = .returned (.int .i64 1) ∧ Chg [] w w' := by
  have HM := Lib.hid (fun W i0 i1 i2 i3 i4 T i6 i7 d => make_nil W P i0 i1 i2 i3 i4 i6 i7 T d)
  go_enter Tryz.func28, Tryz.ntmps28
  go_wp2_with (go_at_call 47; refine (HM.out _ _ _ _ _ _ _ _ _ _).mono ?_; rintro e w' ⟨rfl, k⟩; have HK := Lib.hid k; clear k)
  go_ret
  exact ⟨rfl, HK.out⟩
set_option maxHeartbeats 2000000 in
theorem mkdir (w : World) (f : Nat) (O : List Nat) (σ : Fs) (p : Str) (mode : Int) (h : FsAt w f O σ) (hok : σ.Ok) (hkeys : KeysAt w) (hko : 1 ∉ O) :
    Calls Tryz.prog 28 #[.pointer (some ⟨f, 0, none⟩), .string (ba p), .int .i64 mode] w fun e w' => e = .returned (.int .i64 (makeE σ p 0 mode [])) ∧ MadeBy w w' f O σ p 0 mode [] [] := by
  have hm := make' w f O σ p 0 mode [] [] none 0 0 [] h hok hkeys hko (by simp) rfl (Rd.nil _ _ _) (by simp) (by simp) _ _ rfl rfl
  have HM := Lib.hid hm
  clear hm h hkeys 
  generalize makeE σ p 0 mode [] = ME at *
  generalize ba p = P at *
  try simp only [show ba [] = (⟨#[]⟩ : ByteArray) from rfl] at HM
  skip
  go_enter Tryz.func28, Tryz.ntmps28
  go_wp2_with (go_at_call 47; refine HM.out.mono ?_; rintro e w' ⟨rfl, k⟩; have HK := Lib.hid k; clear k)
  go_ret
  exact ⟨rfl, HK.out⟩
set_option maxHeartbeats 2000000 in
theorem create_nil (w : World) (P : ByteArray) (mode : Int) (ao : Option Addr) (n dc : Nat) : Calls Tryz.prog 22 #[.pointer none, .string P, .int .i64 mode, .slice ao n dc] w fun e w' => e = .returned (.int .i64 1) ∧ Chg [] w w' := by
  have HM := Lib.hid (fun W i0 i1 i2 i3 i4 T i6 i7 d => make_nil W P i0 i1 i2 i3 i4 i6 i7 T d)
  go_enter Tryz.func22, Tryz.ntmps22
  go_wp2_with (go_at_call 47; refine (HM.out _ _ _ _ _ _ _ _ _ _).mono ?_; rintro e w' ⟨rfl, k⟩; have HK := Lib.hid k; clear k)
  go_ret
  exact ⟨rfl, HK.out⟩
set_option maxHeartbeats 2000000 in
theorem create (w : World) (f : Nat) (O : List Nat) (σ : Fs) (p : Str) (mode : Int) (data : List UInt8) (ao : Option Addr) (dc : Nat) (fp : List Nat) (h : FsAt w f O σ) (hok : σ.Ok) (hkeys : KeysAt w) (hko : 1 ∉ O) (hd : Rd w fp ao (bv data)) (hdl : data.length ≤ 140737488355328) (hff : ∀ x ∈ fp, x ∉ O) :
    Calls Tryz.prog 22 #[.pointer (some ⟨f, 0, none⟩), .string (ba p), .int .i64 mode, .slice ao data.length dc] w fun e w' => e = .returned (.int .i64 (makeE σ p 1 mode [])) ∧ MadeBy w w' f O σ p 1 mode [] data := by
  have hm := make' w f O σ p 1 mode [] data ao data.length dc fp h hok hkeys hko (by simp) rfl hd hdl hff _ _ rfl rfl
  have HM := Lib.hid hm
  clear hm h hkeys hd hff 
  generalize makeE σ p 1 mode [] = ME at *
  generalize ba p = P at *
  try simp only [show ba [] = (⟨#[]⟩ : ByteArray) from rfl] at HM
  generalize data.length = DL at *
  go_enter Tryz.func22, Tryz.ntmps22
  go_wp2_with (go_at_call 47; refine HM.out.mono ?_; rintro e w' ⟨rfl, k⟩; have HK := Lib.hid k; clear k)
  go_ret
  exact ⟨rfl, HK.out⟩
set_option maxHeartbeats 2000000 in
theorem symlink_nil (w : World) (P : ByteArray) (T : ByteArray) : Calls Tryz.prog 29 #[.pointer none, .string P, .string T] w fun e w' => e = .returned (.int .i64 1) ∧ Chg [] w w' := by
  have HM := Lib.hid (fun W i0 i1 i2 i3 i4 T i6 i7 d => make_nil W P i0 i1 i2 i3 i4 i6 i7 T d)
  go_enter Tryz.func29, Tryz.ntmps29
  go_wp2_with (go_at_call 47; refine (HM.out _ _ _ _ _ _ _ _ _ _).mono ?_; rintro e w' ⟨rfl, k⟩; have HK := Lib.hid k; clear k)
  go_ret
  exact ⟨rfl, HK.out⟩
set_option maxHeartbeats 2000000 in
theorem symlink (w : World) (f : Nat) (O : List Nat) (σ : Fs) (p : Str) (target : Str) (h : FsAt w f O σ) (hok : σ.Ok) (hkeys : KeysAt w) (hko : 1 ∉ O) (ht : target.length ≤ 140737488355328) :
    Calls Tryz.prog 29 #[.pointer (some ⟨f, 0, none⟩), .string (ba p), .string (ba target)] w fun e w' => e = .returned (.int .i64 (makeE σ p 2 511 target)) ∧ MadeBy w w' f O σ p 2 511 target [] := by
  have hm := make' w f O σ p 2 511 target [] none 0 0 [] h hok hkeys hko ht rfl (Rd.nil _ _ _) (by simp) (by simp) _ _ rfl rfl
  have HM := Lib.hid hm
  clear hm h hkeys 
  generalize makeE σ p 2 511 target = ME at *
  generalize ba p = P at *
  generalize ba target = T at *
  skip
  go_enter Tryz.func29, Tryz.ntmps29
  go_wp2_with (go_at_call 47; refine HM.out.mono ?_; rintro e w' ⟨rfl, k⟩; have HK := Lib.hid k; clear k)
  go_ret
  exact ⟨rfl, HK.out⟩
set_option maxHeartbeats 2000000 in
theorem mknod_nil (w : World) (P : ByteArray) (mode : Int) : Calls Tryz.prog 30 #[.pointer none, .string P, .int .i64 mode] w fun e w' => e = .returned (.int .i64 1) ∧ Chg [] w w' := by
  have HM := Lib.hid (fun W i0 i1 i2 i3 i4 T i6 i7 d => make_nil W P i0 i1 i2 i3 i4 i6 i7 T d)
  go_enter Tryz.func30, Tryz.ntmps30
  go_wp2_with (go_at_call 47; refine (HM.out _ _ _ _ _ _ _ _ _ _).mono ?_; rintro e w' ⟨rfl, k⟩; have HK := Lib.hid k; clear k)
  go_ret
  exact ⟨rfl, HK.out⟩
set_option maxHeartbeats 2000000 in
theorem mknod (w : World) (f : Nat) (O : List Nat) (σ : Fs) (p : Str) (mode : Int) (h : FsAt w f O σ) (hok : σ.Ok) (hkeys : KeysAt w) (hko : 1 ∉ O) :
    Calls Tryz.prog 30 #[.pointer (some ⟨f, 0, none⟩), .string (ba p), .int .i64 mode] w fun e w' => e = .returned (.int .i64 (makeE σ p 4 mode [])) ∧ MadeBy w w' f O σ p 4 mode [] [] := by
  have hm := make' w f O σ p 4 mode [] [] none 0 0 [] h hok hkeys hko (by simp) rfl (Rd.nil _ _ _) (by simp) (by simp) _ _ rfl rfl
  have HM := Lib.hid hm
  clear hm h hkeys 
  generalize makeE σ p 4 mode [] = ME at *
  generalize ba p = P at *
  try simp only [show ba [] = (⟨#[]⟩ : ByteArray) from rfl] at HM
  skip
  go_enter Tryz.func30, Tryz.ntmps30
  go_wp2_with (go_at_call 47; refine HM.out.mono ?_; rintro e w' ⟨rfl, k⟩; have HK := Lib.hid k; clear k)
  go_ret
  exact ⟨rfl, HK.out⟩
end Go.Proofs.YtoionaeimnmcbaaGreatDoor
