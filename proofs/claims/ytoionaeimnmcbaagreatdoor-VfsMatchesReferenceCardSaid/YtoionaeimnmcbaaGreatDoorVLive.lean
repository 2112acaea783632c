/- The file system's calls, in the words of a file system in use. -/
import Derived.Test.YtoionaeimnmcbaaGreatDoorVInv
namespace Go.Pax
open Go.RowKit
def actOf (kind : Int) (p : Str) (mode : Int) (data : List UInt8) (t : Str) : AAct := ⟨kind, p, mode, data, t⟩
end Go.Pax
namespace Go.Proofs.YtoionaeimnmcbaaGreatDoor
open Go.RowKit Go.Pax Go.Shelf
theorem Live.keys {w0 w : World} {f : Nat} {O : List Nat} {σ : Fs} {n : Nat} (h : Live w0 w f O σ n) (hk : KeysAt w0) : KeysAt w ∧ 1 ∉ O := by
  have hkb : 1 < w0.heap.size := by
    obtain ⟨t, h⟩ := hk
    exact lt_of_block h
  exact ⟨hk.chg h.chg (by simp), fun hm => by have := h.own _ hm; omega⟩
theorem Live.size {w0 w : World} {f : Nat} {O : List Nat} {σ : Fs} {n : Nat} (h : Live w0 w f O σ n) : w0.heap.size ≤ f ∧ f < w.heap.size := ⟨h.own _ h.fs.mem, h.fs.lt _ h.fs.mem⟩
theorem Live.lt {w0 w : World} {f : Nat} {O : List Nat} {σ : Fs} {n : Nat} (h : Live w0 w f O σ n) : ∀ x ∈ O, x < w.heap.size := h.fs.lt
/-- What make and the like do, in these words. -/
theorem Live.byMake {w0 w w' : World} {f : Nat} {O : List Nat} {σ : Fs} {n : Nat} (h : Live w0 w f O σ n) (a : AAct) (ha : 0 ≤ a.kind ∧ a.kind ≤ 3) {k m : Int} {t : Str} {d : List UInt8} (hk : mkK a = k) (hm : mkM a = m) (ht : mkT a = t) (hd : mkD a = d) (hb : MadeBy w w' f O σ a.path k m t d) :
    (makeE σ a.path k m t ≠ 0 → Live w0 w' f O σ n) ∧ (makeE σ a.path k m t = 0 → ∃ O' σ', Next σ (Fresh σ) a σ' ∧ Live w0 w' f O' σ' (n + 2)) := by
  subst hk hm ht hd
  refine ⟨fun hne => h.quiet (hb.1 hne), fun h0 => ?_⟩
  obtain ⟨pb, b, hpb, hbb, hto⟩ := hb.2 h0
  have hN : Next σ (fun b => w.heap.size ≤ b) a (made σ a.path (newNd σ (mkK a) (mkM a) (mkT a) (mkD a)) pb b) := by
    unfold Next
    rw [if_pos ha]
    exact ⟨pb, b, hpb, hbb, rfl⟩
  obtain ⟨O', hL⟩ := h.to hto (hN.inv h.inv)
  exact ⟨O', _, hN.fresh h, hL⟩
theorem liveMkdir (w0 w : World) (f : Nat) (O : List Nat) (σ : Fs) (n : Nat) (p : Str) (mode : Int) (h : Live w0 w f O σ n) (hn : n ≤ 10000) (hkeys : KeysAt w0) :
    Calls Tryz.prog 28 #[.pointer (some ⟨f, 0, none⟩), .string (ba p), .int .i64 mode] w fun e w' => e = .returned (.int .i64 (makeE σ p 0 mode [])) ∧ (makeE σ p 0 mode [] ≠ 0 → Live w0 w' f O σ n) ∧ (makeE σ p 0 mode [] = 0 → ∃ O' σ', Next σ (Fresh σ) ⟨0, p, mode, [], []⟩ σ' ∧ Live w0 w' f O' σ' (n + 2)) := by
  refine (mkdir w f O σ p mode h.fs (h.inv.ok (by omega)) (h.keys hkeys).1 (h.keys hkeys).2).mono ?_
  rintro e w' ⟨he, hb⟩
  exact ⟨he, h.byMake ⟨0, p, mode, [], []⟩ (by simp) rfl rfl rfl rfl hb⟩
theorem liveCreate (w0 w : World) (f : Nat) (O : List Nat) (σ : Fs) (n : Nat) (p : Str) (mode : Int) (data : List UInt8) (ao : Option Addr) (dc : Nat) (fp : List Nat) (h : Live w0 w f O σ n) (hn : n ≤ 10000) (hkeys : KeysAt w0) (hd : Rd w fp ao (bv data)) (hdl : data.length ≤ 140737488355328) (hff : ∀ x ∈ fp, x ∉ O) :
    Calls Tryz.prog 22 #[.pointer (some ⟨f, 0, none⟩), .string (ba p), .int .i64 mode, .slice ao data.length dc] w fun e w' => e = .returned (.int .i64 (makeE σ p 1 mode [])) ∧ (makeE σ p 1 mode [] ≠ 0 → Live w0 w' f O σ n) ∧ (makeE σ p 1 mode [] = 0 → ∃ O' σ', Next σ (Fresh σ) ⟨1, p, mode, data, []⟩ σ' ∧ Live w0 w' f O' σ' (n + 2)) := by
  refine (create w f O σ p mode data ao dc fp h.fs (h.inv.ok (by omega)) (h.keys hkeys).1 (h.keys hkeys).2 hd hdl hff).mono ?_
  rintro e w' ⟨he, hb⟩
  exact ⟨he, h.byMake ⟨1, p, mode, data, []⟩ (by simp) rfl rfl rfl rfl hb⟩
theorem liveLink (w0 w : World) (f : Nat) (O : List Nat) (σ : Fs) (n : Nat) (p t : Str) (h : Live w0 w f O σ n) (hn : n ≤ 10000) :
    Calls Tryz.prog 23 #[.pointer (some ⟨f, 0, none⟩), .string (ba p), .string (ba t)] w fun e w' => e = .returned (.int .i64 (linkE σ p t)) ∧ (linkE σ p t ≠ 0 → Live w0 w' f O σ n) ∧ (linkE σ p t = 0 → ∃ O' σ', Next σ (Fresh σ) ⟨4, p, 0, [], t⟩ σ' ∧ Live w0 w' f O' σ' (n + 2)) := by
  refine (link w f O σ p t h.fs (h.inv.ok (by omega))).mono ?_
  rintro e w' ⟨he, hb⟩
  refine ⟨he, fun hne => h.quiet (hb.1 hne), fun h0 => ?_⟩
  obtain ⟨pb, b, hpb, hbb, hto⟩ := hb.2 h0
  have hN : Next σ (fun b => w.heap.size ≤ b) ⟨4, p, 0, [], t⟩ (linked σ p pb b) := by
    unfold Next
    exact ⟨pb, b, hpb, hbb, rfl⟩
  obtain ⟨O', hL⟩ := h.to hto (hN.inv h.inv)
  exact ⟨O', _, hN.fresh h, hL⟩
theorem liveChown (w0 w : World) (f : Nat) (O : List Nat) (σ : Fs) (n : Nat) (p : Str) (u mt : Int) (h : Live w0 w f O σ n) :
    Calls Tryz.prog 31 #[.pointer (some ⟨f, 0, none⟩), .string (ba p), .int .i64 u, .int .i64 mt] w fun e w' => e = .returned (.int .i64 (chownE σ p)) ∧ (chownE σ p ≠ 0 → Live w0 w' f O σ n) ∧ (chownE σ p = 0 → ∃ O' b, lkF σ.files p = some b ∧ Live w0 w' f O' (setNode σ b { σ.node b with uid := u, mtime := mt }) n) := by
  refine (chown w f O σ p u mt h.fs).mono ?_
  rintro e w' ⟨he, h1, h2⟩
  refine ⟨he, fun hne => h.quiet (h1 hne), fun h0 => ?_⟩
  obtain ⟨b, hb, hto⟩ := h2 h0
  have hbm := lkF_mem hb
  have g1 := h.inv.names _ _ hbm
  have g2 := h.inv.links _ _ hbm
  obtain ⟨O', hL⟩ := h.to hto (h.inv.setNode b { σ.node b with uid := u, mtime := mt } g1 g2)
  exact ⟨O', b, hb, hL⟩
theorem liveStat (w0 w : World) (f : Nat) (O : List Nat) (σ : Fs) (n : Nat) (p : Str) (h : Live w0 w f O σ n) :
    Calls Tryz.prog 16 #[.pointer (some ⟨f, 0, none⟩), .string (ba p)] w fun e w' => e = .returned (lstatV σ p) ∧ Live w0 w' f O σ n ∧ Chg [] w w' := by
  refine (lstat w f O σ p h.fs).mono ?_
  rintro e w' ⟨he, k⟩
  exact ⟨he, h.quiet k, k⟩
theorem liveRead (w0 w : World) (f : Nat) (O : List Nat) (σ : Fs) (n : Nat) (p : Str) (h : Live w0 w f O σ n) (hd : ∀ p b, (p, b) ∈ σ.files → (σ.node b).data.length ≤ 140737488355328) :
    Calls Tryz.prog 35 #[.pointer (some ⟨f, 0, none⟩), .string (ba p)] w fun e w' => ReadAs e w w' σ p ∧ Live w0 w' f O σ n := by
  refine (readFile w f O σ p h.fs hd).mono ?_
  rintro e w' hr
  refine ⟨hr, h.quiet ?_⟩
  by_cases h0 : readE σ p = 0
  · obtain ⟨b, ao, cap, fp, _, _, _, _, _, k⟩ := hr.2 h0
    exact k
  · exact (hr.1 h0).2
/-- What List answers, in these words. -/
def ListLive (w0 w w' : World) (f : Nat) (O : List Nat) (σ : Fs) (n : Nat) (p : Str) (e : Ending) : Prop :=
  (listE σ p ≠ 0 → e = .returned (.tuple #[.slice none 0 0, .int .i64 (listE σ p)]) ∧ Live w0 w' f O σ n) ∧
  (listE σ p = 0 → ∃ O' b ao m c, lkF σ.files p = some b ∧ e = .returned (.tuple #[.slice ao m c, .int .i64 0]) ∧ m = (σ.node b).names.length ∧ w'.ownsRow w.heap.size 9 1 (.slice ao m c) m (svn (listed σ (σ.node b).names)) ∧ Live w0 w' f O' { σ with lists := σ.lists + 1 } (n + 1))
theorem liveList (w0 w : World) (f : Nat) (O : List Nat) (σ : Fs) (n : Nat) (p : Str) (h : Live w0 w f O σ n) (hn : n ≤ 10000) :
    Calls Tryz.prog 13 #[.pointer (some ⟨f, 0, none⟩), .string (ba p)] w fun e w' => ListLive w0 w w' f O σ n p e := by
  refine (list w f O σ p h.fs (h.inv.ok (by omega))).mono ?_
  rintro e w' ⟨h1, h2⟩
  refine ⟨fun hne => ⟨(h1 hne).1, h.quiet (h1 hne).2⟩, fun h0 => ?_⟩
  obtain ⟨b, ao, m, c, hb, he, hm, hown, hto⟩ := h2 h0
  obtain ⟨O', hL⟩ := h.to hto.to h.inv.listed
  exact ⟨O', b, ao, m, c, hb, he, hm, hown, hL⟩
end Go.Proofs.YtoionaeimnmcbaaGreatDoor
