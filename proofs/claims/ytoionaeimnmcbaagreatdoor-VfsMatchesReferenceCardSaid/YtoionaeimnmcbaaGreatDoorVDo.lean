/- paxtarlaw19: Do. Printed by wip/gen/gendo.py. -/
import Derived.Test.YtoionaeimnmcbaaGreatDoorVList
namespace Go.Pax
open Go.RowKit
structure AAct where
  kind : Int
  path : Str
  mode : Int
  data : List UInt8
  target : Str
def mkK (a : AAct) : Int := if a.kind = 3 then 4 else a.kind
def mkM (a : AAct) : Int := if a.kind = 2 then 511 else a.mode
def mkT (a : AAct) : Str := if a.kind = 2 then a.target else []
def mkD (a : AAct) : List UInt8 := if a.kind = 1 then a.data else []
/-- What Do answers. -/
def doE (σ : Fs) (a : AAct) : Int := if 0 ≤ a.kind ∧ a.kind ≤ 3 then makeE σ a.path (mkK a) (mkM a) (mkT a) else if a.kind = 4 then linkE σ a.path a.target else if a.kind = 5 then chownE σ a.path else 0
def actV (a : AAct) (ao : Option Addr) (dc : Nat) : Value := .agg #[.int .i64 a.kind, .string (ba a.path), .int .i64 a.mode, .slice ao a.data.length dc, .string (ba a.target)]
end Go.Pax
namespace Go.Proofs.YtoionaeimnmcbaaGreatDoor
open Go.RowKit Go.Pax Go.Shelf
/-- The file system behind a call that went well. -/
def Next (σ : Fs) (fresh : Nat → Prop) (a : AAct) (σ' : Fs) : Prop :=
  if 0 ≤ a.kind ∧ a.kind ≤ 3 then ∃ pb b, lkF σ.files (parentP a.path) = some pb ∧ fresh b ∧ σ' = made σ a.path (newNd σ (mkK a) (mkM a) (mkT a) (mkD a)) pb b
  else if a.kind = 4 then ∃ pb b, lkF σ.files (parentP a.path) = some pb ∧ lkF σ.files a.target = some b ∧ σ' = linked σ a.path pb b
  else if a.kind = 5 then ∃ b, lkF σ.files a.path = some b ∧ σ' = setNode σ b { σ.node b with uid := a.mode, mtime := a.data.length }
  else σ' = σ
def DoneBy (w w' : World) (f : Nat) (O : List Nat) (σ : Fs) (a : AAct) : Prop :=
  (doE σ a ≠ 0 → Chg [] w w') ∧ (doE σ a = 0 → ∃ σ', Next σ (fun b => w.heap.size ≤ b) a σ' ∧ FsTo w w' f O σ')
theorem FsTo.same' {w w' : World} {f : Nat} {O : List Nat} {σ : Fs} (h : FsAt w f O σ) (k : Chg [] w w') : FsTo w w' f O σ := FsTo.same h k
set_option maxRecDepth 100000 in
set_option maxHeartbeats 8000000 in
theorem doAct (w : World) (f : Nat) (O : List Nat) (σ : Fs) (a : AAct) (ao : Option Addr) (dc : Nat) (fp : List Nat) (h : FsAt w f O σ) (hok : σ.Ok) (hkeys : KeysAt w) (hko : 1 ∉ O)
    (ht : a.target.length ≤ 140737488355328) (hd : Rd w fp ao (bv a.data)) (hdl : a.data.length ≤ 140737488355328) (hff : ∀ x ∈ fp, x ∉ O) :
    Calls Tryz.prog 10 #[.pointer (some ⟨f, 0, none⟩), actV a ao dc] w fun e w' => e = .returned (.int .i64 (doE σ a)) ∧ DoneBy w w' f O σ a := by
  obtain ⟨kind, path, mode, data, target⟩ := a
  have HX := Lib.hid (And.intro h (And.intro hok (And.intro hkeys (And.intro hko (And.intro ht (And.intro hd (And.intro hdl hff)))))))
  clear h hok hkeys hd hdl hff
  unfold actV
  simp only
  have cases : kind = 0 ∨ kind = 1 ∨ kind = 2 ∨ kind = 3 ∨ kind = 4 ∨ kind = 5 ∨ (kind ≠ 0 ∧ kind ≠ 1 ∧ kind ≠ 2 ∧ kind ≠ 3 ∧ kind ≠ 4 ∧ kind ≠ 5) := by omega
  have foreign := fun W (k : Chg [] w W) => HX.out.1.foreign k (by simp)
  have kys := fun W (k : Chg [] w W) => HX.out.2.2.1.chg k (by simp)
  have rdd := fun W (k : Chg [] w W) => HX.out.2.2.2.2.2.1.chg k (by simp)
  rcases cases with rfl | rfl | rfl | rfl | rfl | rfl | ⟨n0, n1, n2, n3, n4, n5⟩
  · have hE : doE σ ⟨0, path, mode, data, target⟩ = makeE σ path 0 mode [] := rfl
    have hc := fun W (kw : Chg [] w W) => mkdir W f O σ path mode (foreign W kw) HX.out.2.1 (kys W kw) HX.out.2.2.2.1
    have HC := Lib.hid hc
    have HE := Lib.hid hE
    clear hc hE foreign kys rdd
    generalize doE σ ⟨0, path, mode, data, target⟩ = DE at *
    rw [← HE.out] at HC
    generalize hDL : data.length = DL at *
    generalize hP : ba path = P at *
    generalize hT : ba target = T at *
    have HP := Lib.hid (And.intro hP (And.intro hT hDL))
    clear hP hT hDL
    go_enter Tryz.func10, Tryz.ntmps10
    go_wp2_with (go_at_call 28; refine (HC.out _ ((Chg.refl _ _).alloc _)).mono ?_; rintro e w' ⟨rfl, hm⟩; have HM := Lib.hid hm; clear hm)
    go_ret
    refine ⟨rfl, ?_⟩
    have hE := HE.out
    have k0 : Chg [] w (w.alloc (.cells #[.int .i64 0, .string P, .int .i64 mode, .slice ao DL dc, .string T] 40)) := (Chg.refl _ _).alloc _
    unfold DoneBy
    obtain ⟨h1, h2⟩ := HM.out
    refine ⟨fun hne => ?_, fun he => ?_⟩
    · have e1 : doE σ ⟨0, path, mode, data, target⟩ = DE := hE.symm ▸ rfl
      rw [e1] at hne
      exact k0.trans (h1 (by first | exact hne | (rw [← hE]; exact hne)))
    · have e1 : doE σ ⟨0, path, mode, data, target⟩ = DE := hE.symm ▸ rfl
      rw [e1] at he
      obtain ⟨pb, b, hpb, hb, hto⟩ := h2 (by first | exact he | (rw [← hE]; exact he))
      have hs := k0.size
      exact ⟨_, ⟨pb, b, hpb, by omega, rfl⟩, FsTo.then_ (k0.mono (by simp)) (fun g hg => .inl hg) hto⟩
  · have hE : doE σ ⟨1, path, mode, data, target⟩ = makeE σ path 1 mode [] := rfl
    have hc := fun W (kw : Chg [] w W) => create W f O σ path mode data ao dc fp (foreign W kw) HX.out.2.1 (kys W kw) HX.out.2.2.2.1 (rdd W kw) HX.out.2.2.2.2.2.2.1 HX.out.2.2.2.2.2.2.2
    have HC := Lib.hid hc
    have HE := Lib.hid hE
    clear hc hE foreign kys rdd
    generalize doE σ ⟨1, path, mode, data, target⟩ = DE at *
    rw [← HE.out] at HC
    generalize hDL : data.length = DL at *
    generalize hP : ba path = P at *
    generalize hT : ba target = T at *
    have HP := Lib.hid (And.intro hP (And.intro hT hDL))
    clear hP hT hDL
    go_enter Tryz.func10, Tryz.ntmps10
    go_wp2_with (go_at_call 22; refine (HC.out _ ((Chg.refl _ _).alloc _)).mono ?_; rintro e w' ⟨rfl, hm⟩; have HM := Lib.hid hm; clear hm)
    go_ret
    refine ⟨rfl, ?_⟩
    have hE := HE.out
    have k0 : Chg [] w (w.alloc (.cells #[.int .i64 1, .string P, .int .i64 mode, .slice ao DL dc, .string T] 40)) := (Chg.refl _ _).alloc _
    unfold DoneBy
    obtain ⟨h1, h2⟩ := HM.out
    refine ⟨fun hne => ?_, fun he => ?_⟩
    · have e1 : doE σ ⟨1, path, mode, data, target⟩ = DE := hE.symm ▸ rfl
      rw [e1] at hne
      exact k0.trans (h1 (by first | exact hne | (rw [← hE]; exact hne)))
    · have e1 : doE σ ⟨1, path, mode, data, target⟩ = DE := hE.symm ▸ rfl
      rw [e1] at he
      obtain ⟨pb, b, hpb, hb, hto⟩ := h2 (by first | exact he | (rw [← hE]; exact he))
      have hs := k0.size
      exact ⟨_, ⟨pb, b, hpb, by omega, rfl⟩, FsTo.then_ (k0.mono (by simp)) (fun g hg => .inl hg) hto⟩
  · have hE : doE σ ⟨2, path, mode, data, target⟩ = makeE σ path 2 511 target := rfl
    have hc := fun W (kw : Chg [] w W) => symlink W f O σ path target (foreign W kw) HX.out.2.1 (kys W kw) HX.out.2.2.2.1 HX.out.2.2.2.2.1
    have HC := Lib.hid hc
    have HE := Lib.hid hE
    clear hc hE foreign kys rdd
    generalize doE σ ⟨2, path, mode, data, target⟩ = DE at *
    rw [← HE.out] at HC
    generalize hDL : data.length = DL at *
    generalize hP : ba path = P at *
    generalize hT : ba target = T at *
    have HP := Lib.hid (And.intro hP (And.intro hT hDL))
    clear hP hT hDL
    go_enter Tryz.func10, Tryz.ntmps10
    go_wp2_with (go_at_call 29; refine (HC.out _ ((Chg.refl _ _).alloc _)).mono ?_; rintro e w' ⟨rfl, hm⟩; have HM := Lib.hid hm; clear hm)
    go_ret
    refine ⟨rfl, ?_⟩
    have hE := HE.out
    have k0 : Chg [] w (w.alloc (.cells #[.int .i64 2, .string P, .int .i64 mode, .slice ao DL dc, .string T] 40)) := (Chg.refl _ _).alloc _
    unfold DoneBy
    obtain ⟨h1, h2⟩ := HM.out
    refine ⟨fun hne => ?_, fun he => ?_⟩
    · have e1 : doE σ ⟨2, path, mode, data, target⟩ = DE := hE.symm ▸ rfl
      rw [e1] at hne
      exact k0.trans (h1 (by first | exact hne | (rw [← hE]; exact hne)))
    · have e1 : doE σ ⟨2, path, mode, data, target⟩ = DE := hE.symm ▸ rfl
      rw [e1] at he
      obtain ⟨pb, b, hpb, hb, hto⟩ := h2 (by first | exact he | (rw [← hE]; exact he))
      have hs := k0.size
      exact ⟨_, ⟨pb, b, hpb, by omega, rfl⟩, FsTo.then_ (k0.mono (by simp)) (fun g hg => .inl hg) hto⟩
  · have hE : doE σ ⟨3, path, mode, data, target⟩ = makeE σ path 4 mode [] := rfl
    have hc := fun W (kw : Chg [] w W) => mknod W f O σ path mode (foreign W kw) HX.out.2.1 (kys W kw) HX.out.2.2.2.1
    have HC := Lib.hid hc
    have HE := Lib.hid hE
    clear hc hE foreign kys rdd
    generalize doE σ ⟨3, path, mode, data, target⟩ = DE at *
    rw [← HE.out] at HC
    generalize hDL : data.length = DL at *
    generalize hP : ba path = P at *
    generalize hT : ba target = T at *
    have HP := Lib.hid (And.intro hP (And.intro hT hDL))
    clear hP hT hDL
    go_enter Tryz.func10, Tryz.ntmps10
    go_wp2_with (go_at_call 30; refine (HC.out _ ((Chg.refl _ _).alloc _)).mono ?_; rintro e w' ⟨rfl, hm⟩; have HM := Lib.hid hm; clear hm)
    go_ret
    refine ⟨rfl, ?_⟩
    have hE := HE.out
    have k0 : Chg [] w (w.alloc (.cells #[.int .i64 3, .string P, .int .i64 mode, .slice ao DL dc, .string T] 40)) := (Chg.refl _ _).alloc _
    unfold DoneBy
    obtain ⟨h1, h2⟩ := HM.out
    refine ⟨fun hne => ?_, fun he => ?_⟩
    · have e1 : doE σ ⟨3, path, mode, data, target⟩ = DE := hE.symm ▸ rfl
      rw [e1] at hne
      exact k0.trans (h1 (by first | exact hne | (rw [← hE]; exact hne)))
    · have e1 : doE σ ⟨3, path, mode, data, target⟩ = DE := hE.symm ▸ rfl
      rw [e1] at he
      obtain ⟨pb, b, hpb, hb, hto⟩ := h2 (by first | exact he | (rw [← hE]; exact he))
      have hs := k0.size
      exact ⟨_, ⟨pb, b, hpb, by omega, rfl⟩, FsTo.then_ (k0.mono (by simp)) (fun g hg => .inl hg) hto⟩
  · have hE : doE σ ⟨4, path, mode, data, target⟩ = linkE σ path target := rfl
    have hc := fun W (kw : Chg [] w W) => link W f O σ path target (foreign W kw) HX.out.2.1
    have HC := Lib.hid hc
    have HE := Lib.hid hE
    clear hc hE foreign kys rdd
    generalize doE σ ⟨4, path, mode, data, target⟩ = DE at *
    rw [← HE.out] at HC
    generalize hDL : data.length = DL at *
    generalize hP : ba path = P at *
    generalize hT : ba target = T at *
    have HP := Lib.hid (And.intro hP (And.intro hT hDL))
    clear hP hT hDL
    go_enter Tryz.func10, Tryz.ntmps10
    go_wp2_with (go_at_call 23; refine (HC.out _ ((Chg.refl _ _).alloc _)).mono ?_; rintro e w' ⟨rfl, hm⟩; have HM := Lib.hid hm; clear hm)
    go_ret
    refine ⟨rfl, ?_⟩
    have hE := HE.out
    have k0 : Chg [] w (w.alloc (.cells #[.int .i64 4, .string P, .int .i64 mode, .slice ao DL dc, .string T] 40)) := (Chg.refl _ _).alloc _
    unfold DoneBy
    obtain ⟨h1, h2⟩ := HM.out
    refine ⟨fun hne => ?_, fun he => ?_⟩
    · have e1 : doE σ ⟨4, path, mode, data, target⟩ = DE := hE.symm ▸ rfl
      rw [e1] at hne
      exact k0.trans (h1 (by first | exact hne | (rw [← hE]; exact hne)))
    · have e1 : doE σ ⟨4, path, mode, data, target⟩ = DE := hE.symm ▸ rfl
      rw [e1] at he
      obtain ⟨pb, b, hpb, hb, hto⟩ := h2 (by first | exact he | (rw [← hE]; exact he))
      exact ⟨_, ⟨pb, b, hpb, hb, rfl⟩, FsTo.then_ (k0.mono (by simp)) (fun g hg => .inl hg) hto⟩
  · have hE : doE σ ⟨5, path, mode, data, target⟩ = chownE σ path := rfl
    have hc := fun W (kw : Chg [] w W) => chown W f O σ path mode (data.length : Int) (foreign W kw)
    have HC := Lib.hid hc
    have HE := Lib.hid hE
    clear hc hE foreign kys rdd
    generalize doE σ ⟨5, path, mode, data, target⟩ = DE at *
    rw [← HE.out] at HC
    generalize hDL : data.length = DL at *
    generalize hP : ba path = P at *
    generalize hT : ba target = T at *
    have HP := Lib.hid (And.intro hP (And.intro hT hDL))
    clear hP hT hDL
    go_enter Tryz.func10, Tryz.ntmps10
    go_wp2_with (go_at_call 31; refine (HC.out _ ((Chg.refl _ _).alloc _)).mono ?_; rintro e w' ⟨rfl, hm⟩; have HM := Lib.hid hm; clear hm)
    go_ret
    refine ⟨rfl, ?_⟩
    have hE := HE.out
    have k0 : Chg [] w (w.alloc (.cells #[.int .i64 5, .string P, .int .i64 mode, .slice ao DL dc, .string T] 40)) := (Chg.refl _ _).alloc _
    unfold DoneBy
    obtain ⟨h1, h2⟩ := HM.out
    refine ⟨fun hne => ?_, fun he => ?_⟩
    · have e1 : doE σ ⟨5, path, mode, data, target⟩ = DE := hE.symm ▸ rfl
      rw [e1] at hne
      exact k0.trans (h1 (by first | exact hne | (rw [← hE]; exact hne)))
    · have e1 : doE σ ⟨5, path, mode, data, target⟩ = DE := hE.symm ▸ rfl
      rw [e1] at he
      obtain ⟨b, hb, hto⟩ := h2 (by first | exact he | (rw [← hE]; exact he))
      refine ⟨_, ⟨b, hb, rfl⟩, ?_⟩
      simp only
      rw [HP.out.2.2]
      exact FsTo.then_ (k0.mono (by simp)) (fun g hg => .inl hg) hto
  · have hE : doE σ ⟨kind, path, mode, data, target⟩ = 0 := by
      unfold doE
      simp only
      rw [if_neg (by omega), if_neg n4, if_neg n5]
    have hN : ∀ fr, Next σ fr ⟨kind, path, mode, data, target⟩ σ := fun fr => by
      unfold Next
      dsimp only
      rw [if_neg (by omega), if_neg n4, if_neg n5]
    have HE := Lib.hid (And.intro hE hN)
    have b0 : (kind == 0) = false := by simpa using n0
    have b1 : (kind == 1) = false := by simpa using n1
    have b2 : (kind == 2) = false := by simpa using n2
    have b3 : (kind == 3) = false := by simpa using n3
    have b4 : (kind == 4) = false := by simpa using n4
    have b5 : (kind == 5) = false := by simpa using n5
    clear hE hN foreign kys rdd n0 n1 n2 n3 n4 n5
    generalize ba path = P at *
    generalize ba target = T at *
    go_enter Tryz.func10, Tryz.ntmps10
    go_wp2_with fail
    go_ret
    unfold DoneBy
    rw [HE.out.1]
    exact ⟨rfl, fun h => absurd rfl h, fun _ => ⟨σ, HE.out.2 _, FsTo.same HX.out.1 ((Chg.refl _ _).alloc _)⟩⟩
end Go.Proofs.YtoionaeimnmcbaaGreatDoor
