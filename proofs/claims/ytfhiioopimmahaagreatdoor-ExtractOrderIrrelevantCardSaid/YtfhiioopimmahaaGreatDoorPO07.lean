/- A file system in use: what its numbers keep to, call by call. The file system's calls, in the words of a file system in use. A file and a second path of it: what the examples make. The order of names: insertion by halving keeps a row sorted; a sorted row is what sorting gives. Two file systems that were given the same calls; the names of a directory. Two file systems that were given the same calls: call by call. -/
import Derived.Sort.Walk0
import Derived.Test.YtfhiioopimmahaaGreatDoorPO06
namespace Go.Pax
open Go.RowKit
structure Fs.In (n : Nat) (σ : Fs) : Prop where
  next : 0 ≤ σ.next ∧ σ.next ≤ 2097152 + (n : Int) * 1048576
  step : 0 ≤ σ.step ∧ σ.step ≤ 1048576
  names : ∀ p b, (p, b) ∈ σ.files → (σ.node b).names.length ≤ n
  lists : 0 ≤ σ.lists ∧ σ.lists ≤ n
  links : ∀ p b, (p, b) ∈ σ.files → 0 ≤ (σ.node b).links ∧ (σ.node b).links ≤ (n : Int) + 1
  rot : ∀ x ∈ σ.rot, 0 ≤ x
  rotl : σ.rot.length ≤ 1099511627776
theorem Fs.In.ok {n : Nat} {σ : Fs} (h : σ.In n) (hn : n ≤ 100000) : σ.Ok where
  next := by have h1 := h.next; have h2 := h.step; omega
  step := h.step
  names := fun p b hb => by have := h.names p b hb; omega
  lists := by have := h.lists; omega
  links := fun p b hb => by have := h.links p b hb; omega
  rot := h.rot
  rotl := h.rotl
theorem Fs.In.mono {n m : Nat} {σ : Fs} (h : σ.In n) (hm : n ≤ m) : σ.In m where
  next := by have h1 := h.next; omega
  step := h.step
  names := fun p b hb => by have := h.names p b hb; omega
  lists := by have := h.lists; omega
  links := fun p b hb => by have := h.links p b hb; omega
  rot := h.rot
  rotl := h.rotl
theorem Fs.In.new {first step : Int} {rot : List Int} (b : Nat) (h1 : inOpt first) (h2 : inOpt step) (h3 : ∀ x ∈ rot, 0 ≤ x) (h4 : rot.length ≤ 1099511627776) : (newFs first step rot b).In 0 where
  next := by unfold inOpt at h1 h2; unfold newFs; simp only; omega
  step := by unfold inOpt at h2; unfold newFs; simp only; omega
  names := fun p b hb => by simp [newFs, rootNd]
  lists := by simp [newFs]
  links := fun p b hb => by simp [newFs, rootNd]
  rot := h3
  rotl := h4
theorem newE_zero {first step : Int} {rot : List Int} (h : newE first step rot = 0) : inOpt first ∧ inOpt step ∧ ∀ x ∈ rot, 0 ≤ x := by
  unfold newE at h
  split at h
  · rename_i h1
    refine ⟨h1.1, h1.2.1, fun x hx => ?_⟩
    have := (idxN_neg rot 0).2
    by_cases hneg : x < 0
    · have := this ⟨x, hx, hneg⟩; omega
    · omega
  · cases h
def Fresh (σ : Fs) (b : Nat) : Prop := ∀ p b', (p, b') ∈ σ.files → b' ≠ b
theorem Fs.In.setNode {n : Nat} {σ : Fs} (h : σ.In n) (b : Nat) (nd : Nd) (h1 : nd.names.length ≤ n) (h2 : 0 ≤ nd.links ∧ nd.links ≤ (n : Int) + 1) : (setNode σ b nd).In n where
  next := h.next
  step := h.step
  names := fun p i hb => by
    show (if i = b then nd else σ.node i).names.length ≤ n
    split
    · exact h1
    · exact h.names p i hb
  lists := h.lists
  links := fun p i hb => by
    show 0 ≤ (if i = b then nd else σ.node i).links ∧ (if i = b then nd else σ.node i).links ≤ (n : Int) + 1
    split
    · exact h2
    · exact h.links p i hb
  rot := h.rot
  rotl := h.rotl
theorem Fs.In.listed {n : Nat} {σ : Fs} (h : σ.In n) : Fs.In (n + 1) { σ with lists := σ.lists + 1 } where
  next := by have := h.next; simp only; omega
  step := h.step
  names := fun p b hb => by have := h.names p b hb; exact Nat.le_trans this (by omega)
  lists := by have := h.lists; simp only; omega
  links := fun p b hb => by have := h.links p b hb; simp only; omega
  rot := h.rot
  rotl := h.rotl
end Go.Pax
namespace Go.Proofs.YtfhiioopimmahaaGreatDoor
open Go.RowKit Go.Pax Go.Shelf
theorem addName_len (nd : Nd) (x : Str) : (addName nd x).names.length = nd.names.length + 1 := by
  unfold addName
  exact insAt_length _ _ _ (by simpa using bsI_le (nd.names.map ba) (ba x))
theorem Fs.In.entered {n : Nat} {σ : Fs} (h : σ.In n) (p : Str) (pb b : Nat) {pp qq : Str} (hpb : (pp, pb) ∈ σ.files ∨ ((σ.node pb).names.length ≤ n ∧ 0 ≤ (σ.node pb).links ∧ (σ.node pb).links ≤ (n : Int) + 1)) (hb : (qq, b) ∈ σ.files ∨ ((σ.node b).names.length ≤ n ∧ 0 ≤ (σ.node b).links ∧ (σ.node b).links ≤ (n : Int) + 1)) : (entered σ p pb b).In (n + 1) := by
  have hall : ∀ i, (i = pb ∨ i = b ∨ ∃ q, (q, i) ∈ σ.files) → (σ.node i).names.length ≤ n ∧ 0 ≤ (σ.node i).links ∧ (σ.node i).links ≤ (n : Int) + 1 := by
    rintro i (rfl | rfl | ⟨q, hq⟩)
    · rcases hpb with h1 | h1
      · exact ⟨h.names _ _ h1, h.links _ _ h1⟩
      · exact h1
    · rcases hb with h1 | h1
      · exact ⟨h.names _ _ h1, h.links _ _ h1⟩
      · exact h1
    · exact ⟨h.names _ _ hq, h.links _ _ hq⟩
  have hmem : ∀ q i, (q, i) ∈ (σ.files ++ [(p, b)]) → i = pb ∨ i = b ∨ ∃ q, (q, i) ∈ σ.files := fun q i hq => by
    rcases List.mem_append.1 hq with hq | hq
    · exact .inr (.inr ⟨q, hq⟩)
    · simp at hq; exact .inr (.inl hq.2)
  refine ⟨?_, h.step, fun q i hq => ?_, ?_, fun q i hq => ?_, h.rot, h.rotl⟩
  · have := h.next
    show 0 ≤ σ.next ∧ σ.next ≤ _
    omega
  · have h1 := hall i (hmem q i hq)
    show (if i = pb then addName (σ.node pb) (baseP p) else σ.node i).names.length ≤ n + 1
    split
    · rename_i e
      rw [addName_len, ← e]; omega
    · omega
  · have := h.lists
    show 0 ≤ σ.lists ∧ σ.lists ≤ _
    omega
  · have h1 := hall i (hmem q i hq)
    show 0 ≤ (if i = pb then addName (σ.node pb) (baseP p) else σ.node i).links ∧ (if i = pb then addName (σ.node pb) (baseP p) else σ.node i).links ≤ _
    split
    · rename_i e
      show 0 ≤ (σ.node pb).links ∧ (σ.node pb).links ≤ _
      rw [← e]; omega
    · omega
theorem Next.inv {n : Nat} {σ σ' : Fs} {fr : Nat → Prop} {a : AAct} (h : Next σ fr a σ') (hi : σ.In n) : σ'.In (n + 1 + 1) := by
  unfold Next at h
  split at h
  · obtain ⟨pb, b, hpb, hb, rfl⟩ := h
    unfold made
    have h1 : ({ σ with next := σ.next + σ.step, node := fun i => if i = b then newNd σ (mkK a) (mkM a) (mkT a) (mkD a) else σ.node i } : Fs).In (n + 1) := by
      refine ⟨?_, hi.step, fun q i hq => ?_, ?_, fun q i hq => ?_, hi.rot, hi.rotl⟩
      · have h1 := hi.next; have h2 := hi.step; show 0 ≤ σ.next + σ.step ∧ σ.next + σ.step ≤ _; omega
      · show (if i = b then newNd σ (mkK a) (mkM a) (mkT a) (mkD a) else σ.node i).names.length ≤ _
        split
        · simp [newNd]
        · have := hi.names q i hq; omega
      · have := hi.lists; show 0 ≤ σ.lists ∧ σ.lists ≤ _; omega
      · show 0 ≤ (if i = b then newNd σ (mkK a) (mkM a) (mkT a) (mkD a) else σ.node i).links ∧ (if i = b then newNd σ (mkK a) (mkM a) (mkT a) (mkD a) else σ.node i).links ≤ _
        split
        · simp [newNd]; omega
        · have := hi.links q i hq; omega
    refine Fs.In.entered h1 a.path pb b (pp := parentP a.path) (qq := []) (.inl (lkF_mem hpb)) (.inr ?_)
    simp only [if_true]
    simp [newNd]; omega
  · split at h
    · obtain ⟨pb, b, hpb, hb, rfl⟩ := h
      unfold linked
      have hbm := lkF_mem hb
      have h1 := hi.names _ _ hbm
      have h2 := hi.links _ _ hbm
      have h3 := (hi.mono (Nat.le_succ n)).setNode b { σ.node b with links := (σ.node b).links + 1 } (by simp only; omega) (by simp only; omega)
      exact Fs.In.entered h3 a.path pb b (.inl (lkF_mem hpb)) (.inl hbm)
    · split at h
      · obtain ⟨b, hb, rfl⟩ := h
        have hbm := lkF_mem hb
        have h1 := hi.names _ _ hbm
        have h2 := hi.links _ _ hbm
        exact (hi.mono (by omega)).setNode b _ (by simp only; omega) (by simp only; omega)
      · subst h; exact hi.mono (by omega)

/-- The file system σ at f, all of it made since w0; nothing else of w0 has changed. -/
structure Live (w0 w : World) (f : Nat) (O : List Nat) (σ : Fs) (n : Nat) : Prop where
  fs : FsAt w f O σ
  inv : σ.In n
  own : ∀ g ∈ O, w0.heap.size ≤ g
  chg : Chg [] w0 w
theorem Live.quiet {w0 w w' : World} {f : Nat} {O : List Nat} {σ : Fs} {n : Nat} (h : Live w0 w f O σ n) (k : Chg [] w w') : Live w0 w' f O σ n :=
  ⟨h.fs.foreign k (by simp), h.inv, h.own, h.chg.trans k⟩
theorem Live.to {w0 w w' : World} {f : Nat} {O : List Nat} {σ σ' : Fs} {n n' : Nat} (h : Live w0 w f O σ n) (k : FsTo w w' f O σ') (hi : σ'.In n') : ∃ O', Live w0 w' f O' σ' n' := by
  obtain ⟨O', ⟨h1, h2⟩, h3⟩ := k
  refine ⟨O', h1, hi, fun g hg => ?_, h.chg.trans' h3 (by simp) (fun x hx hl => ?_)⟩
  · rcases h2 g hg with h2 | h2
    · exact h.own g h2
    · have := h.chg.size; omega
  · have := h.own x hx; omega
theorem Live.fresh {w0 w : World} {f : Nat} {O : List Nat} {σ : Fs} {n : Nat} (h : Live w0 w f O σ n) {b : Nat} (hb : w.heap.size ≤ b) : Fresh σ b := fun p b' hb' e => by
  obtain ⟨m, rv, dv, nv, h1⟩ := h.fs
  have := h1.lt b' (h1.nodes p b' hb').own.1
  omega
theorem Next.fresh {w0 w : World} {f : Nat} {O : List Nat} {σ σ' : Fs} {n : Nat} {a : AAct} (h : Live w0 w f O σ n) (hn : Next σ (fun b => w.heap.size ≤ b) a σ') : Next σ (Fresh σ) a σ' := by
  unfold Next at hn ⊢
  split
  · rename_i hk
    rw [if_pos hk] at hn
    obtain ⟨pb, b, h1, h2, h3⟩ := hn
    exact ⟨pb, b, h1, h.fresh h2, h3⟩
  · rename_i hk
    rw [if_neg hk] at hn
    exact hn
/-- New, in these words. -/
theorem liveNew (w0 w : World) (first step : Int) (rot : List Int) (ao : Option Addr) (n c : Nat) (fp : List Nat) (hk : Chg [] w0 w) (hn : rot.length = n) (hl : n ≤ 17592186044416) (hl2 : n ≤ 1099511627776) (h : Rd w fp ao (iv rot)) :
    Calls Tryz.prog 20 #[.agg #[.int .i64 first, .int .i64 step, .slice ao n c]] w fun e w' =>
      (newE first step rot ≠ 0 → e = .returned (.tuple #[.pointer none, .int .i64 2]) ∧ Chg [] w w') ∧
      (newE first step rot = 0 → ∃ f O b, e = .returned (.tuple #[.pointer (some ⟨f, 0, none⟩), .int .i64 0]) ∧ Live w0 w' f O (newFs first step rot b) 0 ∧ Chg [] w w') := by
  subst hn
  refine (new w first step rot ao c fp hl h).mono ?_
  rintro e w' ⟨h1, h2⟩
  refine ⟨h1, fun hE => ?_⟩
  obtain ⟨f, O, b, he, hf, hO, hc⟩ := h2 hE
  obtain ⟨g1, g2, g3⟩ := newE_zero hE
  exact ⟨f, O, b, he, ⟨hf, Fs.In.new b g1 g2 g3 hl2, fun g hg => Nat.le_trans hk.size (hO g hg), hk.trans hc⟩, hc⟩
/-- Do, in these words. -/
theorem liveDo (w0 w : World) (f : Nat) (O : List Nat) (σ : Fs) (n : Nat) (a : AAct) (ao : Option Addr) (dc : Nat) (fp : List Nat) (h : Live w0 w f O σ n) (hn : n ≤ 10000) (hkeys : KeysAt w0)
    (ht : a.target.length ≤ 140737488355328) (hd : Rd w0 fp ao (bv a.data)) (hdl : a.data.length ≤ 140737488355328) (hff : ∀ x ∈ fp, x < w0.heap.size) :
    Calls Tryz.prog 30 #[.pointer (some ⟨f, 0, none⟩), actV a ao dc] w fun e w' => e = .returned (.int .i64 (doE σ a)) ∧ (doE σ a ≠ 0 → Live w0 w' f O σ n) ∧ (doE σ a = 0 → ∃ O' σ', Next σ (Fresh σ) a σ' ∧ Live w0 w' f O' σ' (n + 2)) := by
  have hkb : 0 < w0.heap.size := by
    obtain ⟨t, h⟩ := hkeys
    exact lt_of_block h
  refine (doAct w f O σ a ao dc fp h.fs (h.inv.ok (by omega)) (hkeys.chg h.chg (by simp)) (fun hm => by have := h.own _ hm; omega) ht (hd.chg h.chg (by simp)) hdl (fun x hx hO => by have := hff x hx; have := h.own x hO; omega)).mono ?_
  rintro e w' ⟨he, h1, h2⟩
  refine ⟨he, fun hne => h.quiet (h1 hne), fun h0 => ?_⟩
  obtain ⟨σ', hN, hT⟩ := h2 h0
  obtain ⟨O', hL⟩ := h.to hT (hN.inv h.inv)
  exact ⟨O', σ', hN.fresh h, hL⟩
end Go.Proofs.YtfhiioopimmahaaGreatDoor
namespace Go.Pax
open Go.RowKit
def actOf (kind : Int) (p : Str) (mode : Int) (data : List UInt8) (t : Str) : AAct := ⟨kind, p, mode, data, t⟩
end Go.Pax
namespace Go.Proofs.YtfhiioopimmahaaGreatDoor
open Go.RowKit Go.Pax Go.Shelf
theorem Live.keys {w0 w : World} {f : Nat} {O : List Nat} {σ : Fs} {n : Nat} (h : Live w0 w f O σ n) (hk : KeysAt w0) : KeysAt w ∧ 0 ∉ O := by
  have hkb : 0 < w0.heap.size := by
    obtain ⟨t, h⟩ := hk
    exact lt_of_block h
  exact ⟨hk.chg h.chg (by simp), fun hm => by have := h.own _ hm; omega⟩
theorem Live.size {w0 w : World} {f : Nat} {O : List Nat} {σ : Fs} {n : Nat} (h : Live w0 w f O σ n) : w0.heap.size ≤ f ∧ f < w.heap.size := ⟨h.own _ h.fs.mem, h.fs.lt _ h.fs.mem⟩
theorem Live.lt {w0 w : World} {f : Nat} {O : List Nat} {σ : Fs} {n : Nat} (h : Live w0 w f O σ n) : ∀ x ∈ O, x < w.heap.size := h.fs.lt
/-- What make and the like do, in these words. -/
theorem Live.byMake {w0 w w' : World} {f : Nat} {O : List Nat} {σ : Fs} {n : Nat} (h : Live w0 w f O σ n) (a : AAct) (ha : 0 ≤ a.kind ∧ a.kind ≤ 3) {k m : Int} {t : Str} {d : List UInt8} (hk : mkK a = k) (hm : mkM a = m) (ht : mkT a = t) (hd : mkD a = d) (hb : MadeBy w w' f O σ a.path k m t d) :
    (makeE σ a.path k m t ≠ 0 → Live w0 w' f O σ n) ∧ (makeE σ a.path k m t = 0 → ∃ O' σ', Next σ (Fresh σ) a σ' ∧ Live w0 w' f O' σ' (n + 2)) := by
  subst hk hm ht hd
  refine ⟨fun hne => h.quiet (hb.1 hne), fun h0 => ?_⟩
  obtain ⟨pb, b, hpb, hbb, hto⟩ := hb.2 h0
  have hN : Next σ (fun b => w.heap.size ≤ b) a (made σ a.path (newNd σ (mkK a) (mkM a) (mkT a) (mkD a)) pb b) := by
    unfold Next
    rw [if_pos ha]
    exact ⟨pb, b, hpb, hbb, rfl⟩
  obtain ⟨O', hL⟩ := h.to hto (hN.inv h.inv)
  exact ⟨O', _, hN.fresh h, hL⟩
theorem liveMkdir (w0 w : World) (f : Nat) (O : List Nat) (σ : Fs) (n : Nat) (p : Str) (mode : Int) (h : Live w0 w f O σ n) (hn : n ≤ 10000) (hkeys : KeysAt w0) :
    Calls Tryz.prog 62 #[.pointer (some ⟨f, 0, none⟩), .string (ba p), .int .i64 mode] w fun e w' => e = .returned (.int .i64 (makeE σ p 0 mode [])) ∧ (makeE σ p 0 mode [] ≠ 0 → Live w0 w' f O σ n) ∧ (makeE σ p 0 mode [] = 0 → ∃ O' σ', Next σ (Fresh σ) ⟨0, p, mode, [], []⟩ σ' ∧ Live w0 w' f O' σ' (n + 2)) := by
  refine (mkdir w f O σ p mode h.fs (h.inv.ok (by omega)) (h.keys hkeys).1 (h.keys hkeys).2).mono ?_
  rintro e w' ⟨he, hb⟩
  exact ⟨he, h.byMake ⟨0, p, mode, [], []⟩ (by simp) rfl rfl rfl rfl hb⟩
theorem liveCreate (w0 w : World) (f : Nat) (O : List Nat) (σ : Fs) (n : Nat) (p : Str) (mode : Int) (data : List UInt8) (ao : Option Addr) (dc : Nat) (fp : List Nat) (h : Live w0 w f O σ n) (hn : n ≤ 10000) (hkeys : KeysAt w0) (hd : Rd w fp ao (bv data)) (hdl : data.length ≤ 140737488355328) (hff : ∀ x ∈ fp, x ∉ O) :
    Calls Tryz.prog 27 #[.pointer (some ⟨f, 0, none⟩), .string (ba p), .int .i64 mode, .slice ao data.length dc] w fun e w' => e = .returned (.int .i64 (makeE σ p 1 mode [])) ∧ (makeE σ p 1 mode [] ≠ 0 → Live w0 w' f O σ n) ∧ (makeE σ p 1 mode [] = 0 → ∃ O' σ', Next σ (Fresh σ) ⟨1, p, mode, data, []⟩ σ' ∧ Live w0 w' f O' σ' (n + 2)) := by
  refine (create w f O σ p mode data ao dc fp h.fs (h.inv.ok (by omega)) (h.keys hkeys).1 (h.keys hkeys).2 hd hdl hff).mono ?_
  rintro e w' ⟨he, hb⟩
  exact ⟨he, h.byMake ⟨1, p, mode, data, []⟩ (by simp) rfl rfl rfl rfl hb⟩
theorem liveLink (w0 w : World) (f : Nat) (O : List Nat) (σ : Fs) (n : Nat) (p t : Str) (h : Live w0 w f O σ n) (hn : n ≤ 10000) :
    Calls Tryz.prog 28 #[.pointer (some ⟨f, 0, none⟩), .string (ba p), .string (ba t)] w fun e w' => e = .returned (.int .i64 (linkE σ p t)) ∧ (linkE σ p t ≠ 0 → Live w0 w' f O σ n) ∧ (linkE σ p t = 0 → ∃ O' σ', Next σ (Fresh σ) ⟨4, p, 0, [], t⟩ σ' ∧ Live w0 w' f O' σ' (n + 2)) := by
  refine (link w f O σ p t h.fs (h.inv.ok (by omega))).mono ?_
  rintro e w' ⟨he, hb⟩
  refine ⟨he, fun hne => h.quiet (hb.1 hne), fun h0 => ?_⟩
  obtain ⟨pb, b, hpb, hbb, hto⟩ := hb.2 h0
  have hN : Next σ (fun b => w.heap.size ≤ b) ⟨4, p, 0, [], t⟩ (linked σ p pb b) := by
    unfold Next
    exact ⟨pb, b, hpb, hbb, rfl⟩
  obtain ⟨O', hL⟩ := h.to hto (hN.inv h.inv)
  exact ⟨O', _, hN.fresh h, hL⟩
theorem liveChown (w0 w : World) (f : Nat) (O : List Nat) (σ : Fs) (n : Nat) (p : Str) (u mt : Int) (h : Live w0 w f O σ n) :
    Calls Tryz.prog 65 #[.pointer (some ⟨f, 0, none⟩), .string (ba p), .int .i64 u, .int .i64 mt] w fun e w' => e = .returned (.int .i64 (chownE σ p)) ∧ (chownE σ p ≠ 0 → Live w0 w' f O σ n) ∧ (chownE σ p = 0 → ∃ O' b, lkF σ.files p = some b ∧ Live w0 w' f O' (setNode σ b { σ.node b with uid := u, mtime := mt }) n) := by
  refine (chown w f O σ p u mt h.fs).mono ?_
  rintro e w' ⟨he, h1, h2⟩
  refine ⟨he, fun hne => h.quiet (h1 hne), fun h0 => ?_⟩
  obtain ⟨b, hb, hto⟩ := h2 h0
  have hbm := lkF_mem hb
  have g1 := h.inv.names _ _ hbm
  have g2 := h.inv.links _ _ hbm
  obtain ⟨O', hL⟩ := h.to hto (h.inv.setNode b { σ.node b with uid := u, mtime := mt } g1 g2)
  exact ⟨O', b, hb, hL⟩
theorem liveStat (w0 w : World) (f : Nat) (O : List Nat) (σ : Fs) (n : Nat) (p : Str) (h : Live w0 w f O σ n) :
    Calls Tryz.prog 13 #[.pointer (some ⟨f, 0, none⟩), .string (ba p)] w fun e w' => e = .returned (lstatV σ p) ∧ Live w0 w' f O σ n ∧ Chg [] w w' := by
  refine (lstat w f O σ p h.fs).mono ?_
  rintro e w' ⟨he, k⟩
  exact ⟨he, h.quiet k, k⟩
theorem liveRead (w0 w : World) (f : Nat) (O : List Nat) (σ : Fs) (n : Nat) (p : Str) (h : Live w0 w f O σ n) (hd : ∀ p b, (p, b) ∈ σ.files → (σ.node b).data.length ≤ 140737488355328) :
    Calls Tryz.prog 56 #[.pointer (some ⟨f, 0, none⟩), .string (ba p)] w fun e w' => ReadAs e w w' σ p ∧ Live w0 w' f O σ n := by
  refine (readFile w f O σ p h.fs hd).mono ?_
  rintro e w' hr
  refine ⟨hr, h.quiet ?_⟩
  by_cases h0 : readE σ p = 0
  · obtain ⟨b, ao, cap, fp, _, _, _, _, _, k⟩ := hr.2 h0
    exact k
  · exact (hr.1 h0).2
/-- What List answers, in these words. -/
def ListLive (w0 w w' : World) (f : Nat) (O : List Nat) (σ : Fs) (n : Nat) (p : Str) (e : Ending) : Prop :=
  (listE σ p ≠ 0 → e = .returned (.tuple #[.slice none 0 0, .int .i64 (listE σ p)]) ∧ Live w0 w' f O σ n) ∧
  (listE σ p = 0 → ∃ O' b ao m c, lkF σ.files p = some b ∧ e = .returned (.tuple #[.slice ao m c, .int .i64 0]) ∧ m = (σ.node b).names.length ∧ w'.ownsRow w.heap.size 9 1 (.slice ao m c) m (svn (listed σ (σ.node b).names)) ∧ Live w0 w' f O' { σ with lists := σ.lists + 1 } (n + 1))
theorem liveList (w0 w : World) (f : Nat) (O : List Nat) (σ : Fs) (n : Nat) (p : Str) (h : Live w0 w f O σ n) (hn : n ≤ 10000) :
    Calls Tryz.prog 69 #[.pointer (some ⟨f, 0, none⟩), .string (ba p)] w fun e w' => ListLive w0 w w' f O σ n p e := by
  refine (list w f O σ p h.fs (h.inv.ok (by omega))).mono ?_
  rintro e w' ⟨h1, h2⟩
  refine ⟨fun hne => ⟨(h1 hne).1, h.quiet (h1 hne).2⟩, fun h0 => ?_⟩
  obtain ⟨b, ao, m, c, hb, he, hm, hown, hto⟩ := h2 h0
  obtain ⟨O', hL⟩ := h.to hto.to h.inv.listed
  exact ⟨O', b, ao, m, c, hb, he, hm, hown, hL⟩
end Go.Proofs.YtfhiioopimmahaaGreatDoor
namespace Go.Pax
open Go.RowKit
def pA : Str := [97]
def pB : Str := [98]
end Go.Pax
namespace Go.Proofs.YtfhiioopimmahaaGreatDoor
open Go.RowKit Go.Pax Go.Shelf
theorem alive_make (r : Nat) : makeE (newFs 1 1 [] r) pA 1 420 [] = 0 := by
  have h1 : checkP pA = 0 := by decide
  have h2 : parentP pA = [] := by decide
  unfold makeE placeE
  rw [h1, h2]
  simp [newFs, lkF, pA, rootNd]
theorem alive_parent {r pb : Nat} (h : lkF (newFs 1 1 [] r).files (parentP pA) = some pb) : pb = r := by
  have h2 : parentP pA = [] := by decide
  rw [h2] at h
  simp [newFs, lkF] at h
  exact h.symm
def aliveFs (r b : Nat) : Fs := made (newFs 1 1 [] r) pA (newNd (newFs 1 1 [] r) 1 420 [] []) r b
theorem alive_link {r b : Nat} (hb : r ≠ b) : linkE (aliveFs r b) pB pA = 0 ∧ lkF (aliveFs r b).files (parentP pB) = some r ∧ lkF (aliveFs r b).files pA = some b := by
  have h1 : checkP pB = 0 := by decide
  have h2 : parentP pB = [] := by decide
  have h3 : lkF (aliveFs r b).files (parentP pB) = some r := by rw [h2]; rfl
  have h4 : lkF (aliveFs r b).files pA = some b := rfl
  have h5 : lkF (aliveFs r b).files pB = none := rfl
  refine ⟨?_, h3, h4⟩
  have hn : ((aliveFs r b).node r).kind = 0 := by
    show (if r = r then addName (if r = b then _ else rootNd 1) (baseP pA) else _).kind = 0
    rw [if_pos rfl, if_neg hb]
    rfl
  have hb2 : ((aliveFs r b).node b).kind = 1 := by
    show (if b = r then _ else if b = b then newNd (newFs 1 1 [] r) 1 420 [] [] else _).kind = 1
    rw [if_neg (Ne.symm hb), if_pos rfl]
    rfl
  unfold linkE placeE
  rw [h1, h3, h4, h5]
  simp [hn, hb2]
theorem alive_stat {r b : Nat} (hb : r ≠ b) : lstatV (linked (aliveFs r b) pB r b) pA = .tuple #[.agg #[.int .i64 1, .int .i64 420, .int .i64 2, .int .i64 2, .int .i64 0, .string ⟨#[]⟩, .int .i64 0, .int .i64 0], .int .i64 0] ∧
    lstatV (linked (aliveFs r b) pB r b) pB = .tuple #[.agg #[.int .i64 1, .int .i64 420, .int .i64 2, .int .i64 2, .int .i64 0, .string ⟨#[]⟩, .int .i64 0, .int .i64 0], .int .i64 0] := by
  have h1 : lkF (linked (aliveFs r b) pB r b).files pA = some b := rfl
  have h2 : lkF (linked (aliveFs r b) pB r b).files pB = some b := rfl
  have hn : (linked (aliveFs r b) pB r b).node b = { newNd (newFs 1 1 [] r) 1 420 [] [] with links := 2 } := by
    show (if b = r then _ else if b = b then ({ (aliveFs r b).node b with links := ((aliveFs r b).node b).links + 1 } : Nd) else _) = _
    rw [if_neg (Ne.symm hb), if_pos rfl]
    have : (aliveFs r b).node b = newNd (newFs 1 1 [] r) 1 420 [] [] := by
      show (if b = r then _ else if b = b then newNd (newFs 1 1 [] r) 1 420 [] [] else _) = _
      rw [if_neg (Ne.symm hb), if_pos rfl]
    rw [this]
    rfl
  unfold lstatV
  rw [h1, h2]
  simp only
  rw [hn]
  exact ⟨rfl, rfl⟩
theorem alive_next {r : Nat} {σ' : Fs} (h : Next (newFs 1 1 [] r) (Fresh (newFs 1 1 [] r)) ⟨1, pA, 420, [], []⟩ σ') : ∃ b, r ≠ b ∧ σ' = aliveFs r b := by
  unfold Next at h
  rw [if_pos (by simp)] at h
  obtain ⟨pb, b, hpb, hb, rfl⟩ := h
  obtain rfl := alive_parent hpb
  refine ⟨b, ?_, rfl⟩
  exact hb [] pb (by simp [newFs])
theorem alive_next2 {r b : Nat} {σ' : Fs} (hb : r ≠ b) (h : Next (aliveFs r b) (Fresh (aliveFs r b)) ⟨4, pB, 0, [], pA⟩ σ') : σ' = linked (aliveFs r b) pB r b := by
  unfold Next at h
  obtain ⟨pb, b', hpb, hb', rfl⟩ := h
  obtain ⟨_, h2, h3⟩ := alive_link hb
  have e1 := h2.symm.trans hpb
  have e2 := h3.symm.trans hb'
  cases e1; cases e2; rfl
def aliveInfo : Value := .agg #[.int .i64 1, .int .i64 420, .int .i64 2, .int .i64 2, .int .i64 0, .string ⟨#[]⟩, .int .i64 0, .int .i64 0]
end Go.Proofs.YtfhiioopimmahaaGreatDoor
namespace Go.Pax
open Go.RowKit
theorem ba_tl (l : Str) : (ba l).toList = l := by rw [Lib.toList_data, ba_data]
theorem slt_irrefl (a : Str) : ¬ a < a := List.lt_irrefl a
theorem slt_trans {a b c : Str} (h : a < b) (k : b < c) : a < c := List.lt_trans h k
theorem slt_total {a b : Str} (h : ¬ a < b) (hne : a ≠ b) : b < a := by
  rcases Classical.em (b < a) with k | k
  · exact k
  · exact absurd (List.le_antisymm (List.not_lt.1 k) (List.not_lt.1 h)) hne
theorem bsGo_cut (less : Nat → Bool) (n : Nat) (mono : ∀ s t, s ≤ t → t < n → less t = true → less s = true) : ∀ (f lo hi : Nat), hi - lo ≤ f → lo ≤ hi → hi ≤ n → (∀ t, t < lo → less t = true) → (∀ t, hi ≤ t → t < n → less t = false) →
    Lib.bsGo less f lo hi ≤ n ∧ (∀ t, t < Lib.bsGo less f lo hi → less t = true) ∧ ∀ t, Lib.bsGo less f lo hi ≤ t → t < n → less t = false
  | 0, lo, hi, hf, a, b, h1, h2 => by
    have e : lo = hi := by omega
    subst e
    exact ⟨b, h1, h2⟩
  | f + 1, lo, hi, hf, a, b, h1, h2 => by
    unfold Lib.bsGo
    by_cases h : lo < hi
    · rw [if_pos h]
      cases hm : less ((lo + hi) / 2) with
      | true =>
        rw [if_pos rfl]
        exact bsGo_cut less n mono f _ _ (by omega) (by omega) b (fun t ht => mono t _ (by omega) (by omega) hm) h2
      | false =>
        rw [if_neg (by simp)]
        refine bsGo_cut less n mono f _ _ (by omega) (by omega) (by omega) h1 (fun t ht htn => ?_)
        cases hl : less t with
        | false => rfl
        | true => rw [mono _ t ht htn hl] at hm; cases hm
    · rw [if_neg h]
      have e : lo = hi := by omega
      subst e
      exact ⟨b, h1, h2⟩
/-- Where the name goes. -/
theorem bsI_cut (l : List Str) (x : Str) (hs : l.Pairwise (· < ·)) : bsI (l.map ba) (ba x) ≤ l.length ∧ (∀ t (h : t < l.length), t < bsI (l.map ba) (ba x) → l[t] < x) ∧ ∀ t (h : t < l.length), bsI (l.map ba) (ba x) ≤ t → ¬ l[t] < x := by
  have hless : ∀ t (h : t < l.length), Op.bytesLess ((l.map ba).getD t ⟨#[]⟩).toList (ba x).toList = decide (l[t] < x) := fun t h => by
    rw [Go.Proofs.bytesLess_eq]
    have e1 : ((l.map ba).getD t ⟨#[]⟩).toList = l[t] := by
      simp only [List.getD, List.getElem?_map, List.getElem?_eq_getElem h, Option.map_some, Option.getD_some]
      exact ba_tl _
    rw [e1, ba_tl]
  have hp := List.pairwise_iff_getElem.1 hs
  have hc := bsGo_cut (fun t => Op.bytesLess ((l.map ba).getD t ⟨#[]⟩).toList (ba x).toList) l.length (fun s t hst htn hl => by
    simp only [hless t htn, decide_eq_true_eq] at hl
    simp only [hless s (by omega), decide_eq_true_eq]
    rcases Nat.lt_or_eq_of_le hst with h | h
    · exact slt_trans (hp s t (by omega) htn h) hl
    · subst h; exact hl) l.length 0 l.length (by omega) (by omega) (Nat.le_refl _) (fun t ht => by omega) (fun t ht htn => by omega)
  have e : bsI (l.map ba) (ba x) = Lib.bsGo (fun t => Op.bytesLess ((l.map ba).getD t ⟨#[]⟩).toList (ba x).toList) l.length 0 l.length := by unfold bsI; rw [List.length_map]
  rw [← e] at hc
  refine ⟨hc.1, fun t h ht => ?_, fun t h ht => ?_⟩
  · have := hc.2.1 t ht
    simp only [hless t h, decide_eq_true_eq] at this
    exact this
  · have := hc.2.2 t ht h
    simp only [hless t h, decide_eq_false_iff_not] at this
    exact this
theorem ins_sorted (l : List Str) (x : Str) (hs : l.Pairwise (· < ·)) (hx : x ∉ l) : (insAt l (bsI (l.map ba) (ba x)) x).Pairwise (· < ·) := by
  obtain ⟨h0, h1, h2⟩ := bsI_cut l x hs
  generalize bsI (l.map ba) (ba x) = k at *
  unfold insAt
  have hsp := hs
  rw [← List.take_append_drop k l, List.pairwise_append] at hsp
  obtain ⟨p1, p2, p3⟩ := hsp
  have htk : ∀ a ∈ l.take k, a < x := fun a ha => by
    obtain ⟨t, ht, rfl⟩ := List.mem_iff_getElem.1 ha
    rw [List.length_take] at ht
    rw [List.getElem_take]
    exact h1 t (by omega) (by omega)
  have hdr : ∀ a ∈ l.drop k, x < a := fun a ha => by
    obtain ⟨t, ht, rfl⟩ := List.mem_iff_getElem.1 ha
    rw [List.length_drop] at ht
    rw [List.getElem_drop]
    exact slt_total (h2 (k + t) (by omega) (by omega)) (fun e => hx (e ▸ List.getElem_mem _))
  rw [List.pairwise_append]
  refine ⟨p1, List.pairwise_cons.2 ⟨hdr, p2⟩, fun a ha b hb => ?_⟩
  rcases List.mem_cons.1 hb with rfl | hb
  · exact htk a ha
  · exact p3 a ha b hb
theorem ins_mem {l : List Str} {k : Nat} {x s : Str} (h : s ∈ insAt l k x) : s ∈ l ∨ s = x := by
  unfold insAt at h
  rcases List.mem_append.1 h with h | h
  · exact .inl (List.mem_of_mem_take h)
  · rcases List.mem_cons.1 h with h | h
    · exact .inr h
    · exact .inl (List.mem_of_mem_drop h)
theorem sort_of_perm {l m : List Str} (hp : l.Perm m) (hs : m.Pairwise (· < ·)) : l.mergeSort (fun x y => decide (x ≤ y)) = m := by
  refine List.Perm.eq_of_pairwise (le := fun x y : Str => decide (x ≤ y) = true) ?_ ?_ ?_ ((List.mergeSort_perm _ _).trans hp)
  · intro a b _ _ h1 h2
    exact List.le_antisymm (by simpa using h1) (by simpa using h2)
  · refine List.pairwise_mergeSort (fun a b c h1 h2 => ?_) (fun a b => ?_) _
    · simp only [decide_eq_true_eq] at *
      exact List.le_trans h1 h2
    · simp only [Bool.or_eq_true, decide_eq_true_eq]
      exact List.le_total a b
  · exact hs.imp (fun {a b} h => by simpa using List.le_of_lt h)
end Go.Pax
namespace Go.Pax
open Go.RowKit
def joinP (d s : Str) : Str := if d = [] then s else d ++ 47 :: s
theorem join_base {p : Str} (h : checkP p = 0) : joinP (parentP p) (baseP p) = p ∧ 47 ∉ baseP p := by
  rcases lastSl_spec p with ⟨h1, h2⟩ | ⟨i, hi, h1, h2, h3⟩
  · have e1 : parentP p = [] := by unfold parentP; rw [h1]; rfl
    have e2 : baseP p = p := by unfold baseP; rw [h1]; rfl
    rw [e1, e2]
    exact ⟨by unfold joinP; rw [if_pos rfl], h2⟩
  · have e1 : parentP p = p.take i := by unfold parentP; rw [h1, if_neg (by omega)]; rfl
    have e2 : baseP p = p.drop (i + 1) := by unfold baseP; rw [h1]; congr 1
    have hsp : p = p.take i ++ 47 :: p.drop (i + 1) := by
      have h4 := List.take_append_drop i p
      have h5 : p.drop i = 47 :: p.drop (i + 1) := by
        rw [List.drop_eq_getElem_cons hi]
        rw [List.getElem?_eq_getElem hi] at h2
        injection h2 with h2
        rw [h2]
      rw [h5] at h4
      exact h4.symm
    have hne : p.take i ≠ [] := by
      intro he
      rw [he, List.nil_append] at hsp
      have hc : (compsL p).any badC = true := by
        rw [hsp]
        have := compsL_some (a := []) (b := p.drop (i + 1)) (by simp)
        rw [List.nil_append] at this
        rw [this]
        simp [badC]
      unfold checkP at h
      split at h
      · cases h
      · first | (rw [if_pos hc] at h; cases h) | cases h
    rw [e1, e2]
    refine ⟨?_, h3⟩
    unfold joinP
    rw [if_neg hne]
    exact hsp.symm
theorem join_len (d s : Str) : s.length ≤ (joinP d s).length := by
  unfold joinP
  split
  · exact Nat.le_refl _
  · simp; omega
/-- A directory. -/
def IsDir (σ : Fs) (d : Str) : Prop := ∃ b, lkF σ.files d = some b ∧ (σ.node b).kind = 0
/-- The names of each directory. -/
structure Tidy (σ : Fs) : Prop where
  sorted : ∀ d b, lkF σ.files d = some b → (σ.node b).kind = 0 → (σ.node b).names.Pairwise (· < ·)
  there : ∀ d b, lkF σ.files d = some b → (σ.node b).kind = 0 → ∀ s ∈ (σ.node b).names, 47 ∉ s ∧ ∃ c, lkF σ.files (joinP d s) = some c
  one : ∀ d d' b, lkF σ.files d = some b → lkF σ.files d' = some b → (σ.node b).kind = 0 → d = d'
  short : ∀ p b, lkF σ.files p = some b → p.length ≤ 65536
/-- Two file systems alike but for their blocks, numbers, owners. -/
structure Sim (σ τ : Fs) : Prop where
  at_ : ∀ p, lkF σ.files p = none ↔ lkF τ.files p = none
  node : ∀ p b c, lkF σ.files p = some b → lkF τ.files p = some c → (σ.node b).kind = (τ.node c).kind ∧ (σ.node b).names = (τ.node c).names
  same : ∀ p q b c b' c', lkF σ.files p = some b → lkF τ.files p = some c → lkF σ.files q = some b' → lkF τ.files q = some c' → (b = b' ↔ c = c')
/-- A path has been entered: a new file, or one more name of the file at t. -/
structure Ent (σ σ' : Fs) (p : Str) (t : Option Str) (k : Int) (pb b : Nat) : Prop where
  lk : ∀ q, lkF σ'.files q = if q = p then some b else lkF σ.files q
  new : lkF σ.files p = none
  ok : checkP p = 0
  par : lkF σ.files (parentP p) = some pb ∧ (σ.node pb).kind = 0
  ne : b ≠ pb
  pnode : (σ'.node pb).kind = 0 ∧ (σ'.node pb).names = insAt (σ.node pb).names (bsI ((σ.node pb).names.map ba) (ba (baseP p))) (baseP p)
  other : ∀ i, i ≠ pb → i ≠ b → (σ'.node i).kind = (σ.node i).kind ∧ (σ'.node i).names = (σ.node i).names
  it : match t with
    | none => (∀ q, lkF σ.files q ≠ some b) ∧ (σ'.node b).kind = k ∧ (σ'.node b).names = []
    | some r => lkF σ.files r = some b ∧ (σ.node b).kind = 1 ∧ (σ'.node b).kind = 1 ∧ (σ'.node b).names = (σ.node b).names
theorem Ent.old {σ σ' : Fs} {p : Str} {t : Option Str} {k : Int} {pb b : Nat} (h : Ent σ σ' p t k pb b) {q : Str} {x : Nat} (hq : lkF σ.files q = some x) : lkF σ'.files q = some x := by
  rw [h.lk, if_neg (fun e => by rw [e, h.new] at hq; cases hq)]
  exact hq
/-- What a path leads to, behind it. -/
theorem Ent.cases {σ σ' : Fs} {p : Str} {t : Option Str} {k : Int} {pb b : Nat} (h : Ent σ σ' p t k pb b) {q : Str} {x : Nat} (hq : lkF σ'.files q = some x) :
    (q = p ∧ x = b) ∨ (q ≠ p ∧ lkF σ.files q = some x) := by
  rw [h.lk] at hq
  split at hq
  · rename_i e; injection hq with hq; exact .inl ⟨e, hq.symm⟩
  · rename_i e; exact .inr ⟨e, hq⟩
theorem Ent.dir {σ σ' : Fs} {p : Str} {t : Option Str} {k : Int} {pb b : Nat} (h : Ent σ σ' p t k pb b) {d : Str} {x : Nat} (hd : lkF σ.files d = some x) (hk : (σ.node x).kind = 0) : lkF σ'.files d = some x ∧ (σ'.node x).kind = 0 := by
  refine ⟨h.old hd, ?_⟩
  by_cases h1 : x = pb
  · subst h1; exact h.pnode.1
  · have h2 : x ≠ b := by
      rintro rfl
      have hi := h.it
      cases t with
      | none => exact hi.1 d hd
      | some r => have := hi.2.1; omega
    rw [(h.other x h1 h2).1]; exact hk
theorem Ent.isDir {σ σ' : Fs} {p : Str} {t : Option Str} {k : Int} {pb b : Nat} (h : Ent σ σ' p t k pb b) {d : Str} (hd : IsDir σ d) : IsDir σ' d := by
  obtain ⟨x, h1, h2⟩ := hd
  exact ⟨x, h.dir h1 h2⟩
theorem Ent.tidy {σ σ' : Fs} {p : Str} {t : Option Str} {k : Int} {pb b : Nat} (h : Ent σ σ' p t k pb b) (ht : Tidy σ) : Tidy σ' := by
  obtain ⟨hj, hns⟩ := join_base h.ok
  have hnew : baseP p ∉ (σ.node pb).names := fun hm => by
    obtain ⟨_, c, hc⟩ := ht.there _ _ h.par.1 h.par.2 _ hm
    rw [hj, h.new] at hc
    cases hc
  -- a directory behind it: the new one, or an old one
  have dirs : ∀ d x, lkF σ'.files d = some x → (σ'.node x).kind = 0 → (d = p ∧ x = b ∧ (σ'.node x).names = []) ∨ (lkF σ.files d = some x ∧ (σ.node x).kind = 0 ∧ x ≠ b ∧ (x ≠ pb → (σ'.node x).names = (σ.node x).names)) := by
    intro d x hd hk
    have hi := h.it
    rcases h.cases hd with ⟨rfl, rfl⟩ | ⟨hne, ho⟩
    · cases t with
      | none => exact .inl ⟨rfl, rfl, hi.2.2⟩
      | some r => have := hi.2.2.1; omega
    · by_cases h1 : x = pb
      · subst h1
        exact .inr ⟨ho, h.par.2, Ne.symm h.ne, fun e => absurd rfl e⟩
      · have h2 : x ≠ b := by
          rintro rfl
          cases t with
          | none => exact hi.1 d ho
          | some r => have := hi.2.2.1; omega
        exact .inr ⟨ho, by rw [← (h.other x h1 h2).1]; exact hk, h2, fun _ => (h.other x h1 h2).2⟩
  refine ⟨fun d x hd hk => ?_, fun d x hd hk s hs => ?_, fun d d' x hd hd' hk => ?_, fun q x hq => ?_⟩
  · rcases dirs d x hd hk with ⟨_, _, hn⟩ | ⟨ho, hk0, _, hn⟩
    · rw [hn]; exact List.Pairwise.nil
    · by_cases h1 : x = pb
      · subst h1
        rw [h.pnode.2]
        exact ins_sorted _ _ (ht.sorted _ _ ho hk0) hnew
      · rw [hn h1]; exact ht.sorted _ _ ho hk0
  · rcases dirs d x hd hk with ⟨_, _, hn⟩ | ⟨ho, hk0, _, hn⟩
    · rw [hn] at hs; simp at hs
    · by_cases h1 : x = pb
      · subst h1
        have hdp : d = parentP p := ht.one _ _ _ ho h.par.1 hk0
        rw [h.pnode.2] at hs
        rcases ins_mem hs with hs | rfl
        · obtain ⟨g1, c, g2⟩ := ht.there _ _ ho hk0 s hs
          exact ⟨g1, c, h.old g2⟩
        · exact ⟨hns, b, by rw [hdp, hj, h.lk, if_pos rfl]⟩
      · rw [hn h1] at hs
        obtain ⟨g1, c, g2⟩ := ht.there _ _ ho hk0 s hs
        exact ⟨g1, c, h.old g2⟩
  · rcases dirs d x hd hk with ⟨rfl, rfl, _⟩ | ⟨ho, hk0, hxb, _⟩
    · rcases dirs d' x hd' hk with ⟨rfl, _, _⟩ | ⟨_, _, hb, _⟩
      · rfl
      · exact absurd rfl hb
    · rcases dirs d' x hd' hk with ⟨_, e, _⟩ | ⟨ho', _, _, _⟩
      · exact absurd e hxb
      · exact ht.one _ _ _ ho ho' hk0
  · rcases h.cases hq with ⟨rfl, _⟩ | ⟨_, ho⟩
    · exact checkP_len h.ok
    · exact ht.short _ _ ho
/-- The same path entered in both. -/
theorem Ent.sim {σ σ' τ τ' : Fs} {p : Str} {t : Option Str} {k : Int} {pb b pc c : Nat} (h : Ent σ σ' p t k pb b) (g : Ent τ τ' p t k pc c) (hs : Sim σ τ) : Sim σ' τ' := by
  -- b and c stand at the same places
  have hbc : ∀ q x y, lkF σ.files q = some x → lkF τ.files q = some y → (x = b ↔ y = c) := by
    intro q x y hx hy
    have hi := h.it
    have gi := g.it
    cases t with
    | none =>
      constructor
      · rintro rfl; exact absurd hx (hi.1 q)
      · rintro rfl; exact absurd hy (gi.1 q)
    | some r => exact hs.same q r x y b c hx hy hi.1 gi.1
  have hpp : ∀ q x y, lkF σ.files q = some x → lkF τ.files q = some y → (x = pb ↔ y = pc) := fun q x y hx hy => hs.same q _ x y pb pc hx hy h.par.1 g.par.1
  have hpn := hs.node _ _ _ h.par.1 g.par.1
  have hit : (σ'.node b).kind = (τ'.node c).kind ∧ (σ'.node b).names = (τ'.node c).names := by
    have hi := h.it
    have gi := g.it
    cases t with
    | none => exact ⟨by rw [hi.2.1, gi.2.1], by rw [hi.2.2, gi.2.2]⟩
    | some r =>
      have := hs.node r b c hi.1 gi.1
      exact ⟨by rw [hi.2.2.1, gi.2.2.1], by rw [hi.2.2.2, gi.2.2.2]; exact this.2⟩
  refine ⟨fun q => ?_, fun q x y hx hy => ?_, fun q r x y x' y' hx hy hx' hy' => ?_⟩
  · rw [h.lk, g.lk]
    by_cases e : q = p
    · rw [if_pos e, if_pos e]; simp
    · rw [if_neg e, if_neg e]; exact hs.at_ q
  · rcases h.cases hx with ⟨e1, e2⟩ | ⟨e1, ox⟩
    · rcases g.cases hy with ⟨_, e3⟩ | ⟨e3, _⟩
      · subst e2 e3; exact hit
      · exact absurd e1 e3
    · rcases g.cases hy with ⟨e3, _⟩ | ⟨_, oy⟩
      · exact absurd e3 e1
      · have hn := hs.node q x y ox oy
        by_cases h1 : x = pb
        · have h2 := (hpp q x y ox oy).1 h1
          subst h1 h2
          rw [h.pnode.1, g.pnode.1, h.pnode.2, g.pnode.2, hpn.2]
          exact ⟨rfl, rfl⟩
        · have h2 : y ≠ pc := fun e => h1 ((hpp q x y ox oy).2 e)
          by_cases h3 : x = b
          · have h4 := (hbc q x y ox oy).1 h3
            subst h3 h4; exact hit
          · have h4 : y ≠ c := fun e => h3 ((hbc q x y ox oy).2 e)
            have a1 := h.other x h1 h3
            have a2 := g.other y h2 h4
            exact ⟨by rw [a1.1, a2.1]; exact hn.1, by rw [a1.2, a2.2]; exact hn.2⟩
  · rcases h.cases hx with ⟨e1, e2⟩ | ⟨e1, ox⟩
    · rcases g.cases hy with ⟨_, e3⟩ | ⟨e3, _⟩
      · rcases h.cases hx' with ⟨f1, f2⟩ | ⟨f1, ox'⟩
        · rcases g.cases hy' with ⟨_, f3⟩ | ⟨f3, _⟩
          · rw [e2, e3, f2, f3]; simp
          · exact absurd f1 f3
        · rcases g.cases hy' with ⟨f3, _⟩ | ⟨_, oy'⟩
          · exact absurd f3 f1
          · rw [e2, e3]
            have := hbc r x' y' ox' oy'
            constructor
            · intro e; exact (this.1 e.symm).symm
            · intro e; exact (this.2 e.symm).symm
      · exact absurd e1 e3
    · rcases g.cases hy with ⟨e3, _⟩ | ⟨_, oy⟩
      · exact absurd e3 e1
      · rcases h.cases hx' with ⟨f1, f2⟩ | ⟨f1, ox'⟩
        · rcases g.cases hy' with ⟨_, f3⟩ | ⟨f3, _⟩
          · rw [f2, f3]; exact hbc q x y ox oy
          · exact absurd f1 f3
        · rcases g.cases hy' with ⟨f3, _⟩ | ⟨_, oy'⟩
          · exact absurd f3 f1
          · exact hs.same q r x y x' y' ox oy ox' oy'
end Go.Pax
namespace Go.Pax
open Go.RowKit
theorem place_sim {σ τ : Fs} (h : Sim σ τ) (p : Str) : placeE σ p = placeE τ p := by
  unfold placeE
  have h1 := h.at_ (parentP p)
  have h2 := h.at_ p
  cases e1 : lkF σ.files (parentP p) with
  | none => rw [h1.1 e1]
  | some b =>
    cases e2 : lkF τ.files (parentP p) with
    | none => rw [h1.2 e2] at e1; cases e1
    | some c =>
      simp only
      rw [(h.node _ _ _ e1 e2).1]
      cases e3 : lkF σ.files p with
      | none => rw [h2.1 e3]
      | some x =>
        cases e4 : lkF τ.files p with
        | none => rw [h2.2 e4] at e3; cases e3
        | some y => rfl
theorem do_sim {σ τ : Fs} (h : Sim σ τ) (a : AAct) : doE σ a = doE τ a := by
  unfold doE makeE linkE chownE
  rw [place_sim h]
  have h1 := h.at_ a.target
  have h2 := h.at_ a.path
  cases e1 : lkF σ.files a.target with
  | none =>
    rw [h1.1 e1]
    cases e3 : lkF σ.files a.path with
    | none => rw [h2.1 e3]
    | some x =>
      cases e4 : lkF τ.files a.path with
      | none => rw [h2.2 e4] at e3; cases e3
      | some y => rfl
  | some b =>
    cases e2 : lkF τ.files a.target with
    | none => rw [h1.2 e2] at e1; cases e1
    | some c =>
      simp only
      rw [(h.node _ _ _ e1 e2).1]
      cases e3 : lkF σ.files a.path with
      | none => rw [h2.1 e3]
      | some x =>
        cases e4 : lkF τ.files a.path with
        | none => rw [h2.2 e4] at e3; cases e3
        | some y => rfl
/-- Only numbers and owners have changed. -/
structure FsLike (σ σ' : Fs) : Prop where
  files : σ'.files = σ.files
  node : ∀ i, (σ'.node i).kind = (σ.node i).kind ∧ (σ'.node i).names = (σ.node i).names
theorem FsLike.tidy {σ σ' : Fs} (h : FsLike σ σ') (ht : Tidy σ) : Tidy σ' := by
  refine ⟨fun d b hd hk => ?_, fun d b hd hk s hs => ?_, fun d d' b hd hd' hk => ?_, fun p b hp => ht.short p b (by rw [← h.files]; exact hp)⟩
  · rw [h.files] at hd; rw [(h.node b).1] at hk; rw [(h.node b).2]; exact ht.sorted d b hd hk
  · rw [h.files] at hd ⊢; rw [(h.node b).1] at hk; rw [(h.node b).2] at hs; exact ht.there d b hd hk s hs
  · rw [h.files] at hd hd'; rw [(h.node b).1] at hk; exact ht.one d d' b hd hd' hk
theorem FsLike.sim {σ σ' τ τ' : Fs} (h : FsLike σ σ') (g : FsLike τ τ') (hs : Sim σ τ) : Sim σ' τ' := by
  refine ⟨fun p => ?_, fun p b c hb hc => ?_, fun p q b c b' c' h1 h2 h3 h4 => ?_⟩
  · rw [h.files, g.files]; exact hs.at_ p
  · rw [h.files] at hb; rw [g.files] at hc
    have := hs.node p b c hb hc
    exact ⟨by rw [(h.node b).1, (g.node c).1]; exact this.1, by rw [(h.node b).2, (g.node c).2]; exact this.2⟩
  · rw [h.files] at h1 h3; rw [g.files] at h2 h4
    exact hs.same p q b c b' c' h1 h2 h3 h4
theorem FsLike.isDir {σ σ' : Fs} (h : FsLike σ σ') {d : Str} (hd : IsDir σ d) : IsDir σ' d := by
  obtain ⟨b, h1, h2⟩ := hd
  exact ⟨b, by rw [h.files]; exact h1, by rw [(h.node b).1]; exact h2⟩
theorem FsLike.refl (σ : Fs) : FsLike σ σ := ⟨rfl, fun _ => ⟨rfl, rfl⟩⟩
theorem sim_new (a b c d : Int) (r s : List Int) (x y : Nat) : Sim (newFs a b r x) (newFs c d s y) := by
  refine ⟨fun p => ?_, fun p b c hb hc => ?_, fun p q b c b' c' h1 h2 h3 h4 => ?_⟩
  · simp only [newFs, lkF]; split <;> simp
  · exact ⟨rfl, rfl⟩
  · simp only [newFs, lkF] at h1 h2 h3 h4
    split at h1
    · rename_i e1
      rw [if_pos e1] at h2
      split at h3
      · rename_i e2
        rw [if_pos e2] at h4
        cases h1; cases h2; cases h3; cases h4
        simp
      · cases h3
    · cases h1
theorem tidy_new (a b : Int) (r : List Int) (x : Nat) : Tidy (newFs a b r x) := by
  refine ⟨fun d b hd hk => List.Pairwise.nil, fun d b hd hk s hs => by simp [newFs, rootNd] at hs, fun d d' b h1 h2 hk => ?_, fun p b hp => ?_⟩
  rotate_left
  · simp only [newFs, lkF] at hp
    split at hp
    · rename_i e; rw [e]; simp
    · cases hp
  simp only [newFs, lkF] at h1 h2
  split at h1
  · rename_i e1
    split at h2
    · rename_i e2; rw [e1, e2]
    · cases h2
  · cases h1
end Go.Pax
namespace Go.Proofs.YtfhiioopimmahaaGreatDoor
open Go.RowKit Go.Pax Go.Shelf
theorem placed_dir {σ : Fs} {p : Str} (h : placeE σ p = 0) {pb : Nat} (hpb : lkF σ.files (parentP p) = some pb) : lkF σ.files p = none ∧ (σ.node pb).kind = 0 := by
  obtain ⟨pb', h1, h2, h3, _⟩ := placed_ok h
  rw [hpb] at h1
  cases h1
  exact ⟨h3, h2⟩
theorem make_parts {σ : Fs} {p : Str} {k m : Int} {t : Str} (h : makeE σ p k m t = 0) : checkP p = 0 ∧ placeE σ p = 0 := by
  unfold makeE at h
  split at h
  · rename_i h1; exact absurd h h1
  rename_i h1
  split at h
  · cases h
  split at h
  · rename_i h1; exact absurd h h1.2
  · exact ⟨by simpa using h1, h⟩
theorem link_parts {σ : Fs} {p t : Str} (h : linkE σ p t = 0) : checkP p = 0 ∧ placeE σ p = 0 ∧ ∀ b, lkF σ.files t = some b → (σ.node b).kind = 1 := by
  unfold linkE at h
  split at h
  · rename_i h1; exact absurd h h1
  rename_i h1
  split at h
  · rename_i h2; exact absurd h h2
  rename_i h2
  refine ⟨by simpa using h1, by simpa using h2, fun b hb => ?_⟩
  rw [hb] at h
  simp only at h
  split at h
  · rename_i h3; exact h3
  · cases h
theorem ent_made {σ : Fs} {p : Str} {nd : Nd} {pb b : Nat} (hc : checkP p = 0) (hp : placeE σ p = 0) (hpb : lkF σ.files (parentP p) = some pb) (hf : Fresh σ b) (hn : nd.names = []) : Ent σ (made σ p nd pb b) p none nd.kind pb b := by
  obtain ⟨h1, h2⟩ := placed_dir hp hpb
  have hne : b ≠ pb := fun e => hf _ _ (lkF_mem hpb) e.symm
  have hnode : ∀ i, (made σ p nd pb b).node i = if i = pb then addName (if pb = b then nd else σ.node pb) (baseP p) else if i = b then nd else σ.node i := fun i => rfl
  have hnp : (made σ p nd pb b).node pb = addName (σ.node pb) (baseP p) := by rw [hnode, if_pos rfl, if_neg (Ne.symm hne)]
  have hnb : (made σ p nd pb b).node b = nd := by rw [hnode, if_neg hne, if_pos rfl]
  refine ⟨fun q => ?_, h1, hc, ⟨hpb, h2⟩, hne, ⟨by rw [hnp]; exact h2, by rw [hnp]; rfl⟩, fun i hi hi2 => ?_, fun q hq => hf _ _ (lkF_mem hq) rfl, by rw [hnb], by rw [hnb]; exact hn⟩
  · show lkF (σ.files ++ [(p, b)]) q = _
    rw [lkF_append]
    by_cases e : q = p
    · subst e; rw [h1, if_pos rfl]; simp [lkF]
    · rw [if_neg e]; simp [lkF, e]
  · rw [hnode, if_neg hi, if_neg hi2]; exact ⟨rfl, rfl⟩
theorem ent_linked {σ : Fs} {p t : Str} {pb b : Nat} (hc : checkP p = 0) (hp : placeE σ p = 0) (hpb : lkF σ.files (parentP p) = some pb) (hb : lkF σ.files t = some b) (hk : (σ.node b).kind = 1) : Ent σ (linked σ p pb b) p (some t) 0 pb b := by
  obtain ⟨h1, h2⟩ := placed_dir hp hpb
  have hne : b ≠ pb := fun e => by rw [e, h2] at hk; omega
  have hnode : ∀ i, (linked σ p pb b).node i = if i = pb then addName (if pb = b then { σ.node b with links := (σ.node b).links + 1 } else σ.node pb) (baseP p) else if i = b then { σ.node b with links := (σ.node b).links + 1 } else σ.node i := fun i => rfl
  have hnp : (linked σ p pb b).node pb = addName (σ.node pb) (baseP p) := by rw [hnode, if_pos rfl, if_neg (Ne.symm hne)]
  have hnb : (linked σ p pb b).node b = { σ.node b with links := (σ.node b).links + 1 } := by rw [hnode, if_neg hne, if_pos rfl]
  refine ⟨fun q => ?_, h1, hc, ⟨hpb, h2⟩, hne, ⟨by rw [hnp]; exact h2, by rw [hnp]; rfl⟩, fun i hi hi2 => ?_, hb, hk, by rw [hnb]; exact hk, by rw [hnb]⟩
  · show lkF (σ.files ++ [(p, b)]) q = _
    rw [lkF_append]
    by_cases e : q = p
    · subst e; rw [h1, if_pos rfl]; simp [lkF]
    · rw [if_neg e]; simp [lkF, e]
  · rw [hnode, if_neg hi, if_neg hi2]; exact ⟨rfl, rfl⟩
/-- One call more, in both. -/
theorem next_two {σ σ' τ τ' : Fs} {a : AAct} (hs : Sim σ τ) (ht : Tidy σ) (h0 : doE σ a = 0) (hN : Next σ (Fresh σ) a σ') (hM : Next τ (Fresh τ) a τ') :
    Sim σ' τ' ∧ Tidy σ' ∧ (∀ d, IsDir σ d → IsDir σ' d) ∧ σ'.rot = σ.rot ∧ τ'.rot = τ.rot := by
  have h0' : doE τ a = 0 := by rw [← do_sim hs]; exact h0
  unfold Next at hN hM
  unfold doE at h0 h0'
  by_cases h3 : 0 ≤ a.kind ∧ a.kind ≤ 3
  · rw [if_pos h3] at hN hM h0 h0'
    obtain ⟨pb, b, hpb, hb, rfl⟩ := hN
    obtain ⟨pc, c, hpc, hc, rfl⟩ := hM
    have e1 := ent_made (make_parts h0).1 (make_parts h0).2 hpb hb (nd := newNd σ (mkK a) (mkM a) (mkT a) (mkD a)) rfl
    have e2 := ent_made (make_parts h0').1 (make_parts h0').2 hpc hc (nd := newNd τ (mkK a) (mkM a) (mkT a) (mkD a)) rfl
    exact ⟨e1.sim e2 hs, e1.tidy ht, fun d hd => e1.isDir hd, rfl, rfl⟩
  · rw [if_neg h3] at hN hM h0 h0'
    by_cases h4 : a.kind = 4
    · rw [if_pos h4] at hN hM h0 h0'
      obtain ⟨pb, b, hpb, hb, rfl⟩ := hN
      obtain ⟨pc, c, hpc, hc, rfl⟩ := hM
      obtain ⟨g1, g2, g3⟩ := link_parts h0
      obtain ⟨k1, k2, k3⟩ := link_parts h0'
      have e1 := ent_linked g1 g2 hpb hb (g3 b hb)
      have e2 := ent_linked k1 k2 hpc hc (k3 c hc)
      exact ⟨e1.sim e2 hs, e1.tidy ht, fun d hd => e1.isDir hd, rfl, rfl⟩
    · rw [if_neg h4] at hN hM
      have alike : ∀ (ρ : Fs) (b : Nat), FsLike ρ (setNode ρ b { ρ.node b with uid := a.mode, mtime := a.data.length }) := fun ρ b => ⟨rfl, fun i => by
        show (if i = b then ({ ρ.node b with uid := a.mode, mtime := a.data.length } : Nd) else ρ.node i).kind = _ ∧ (if i = b then ({ ρ.node b with uid := a.mode, mtime := a.data.length } : Nd) else ρ.node i).names = _
        split
        · rename_i e; rw [e]; exact ⟨rfl, rfl⟩
        · exact ⟨rfl, rfl⟩⟩
      by_cases h5 : a.kind = 5
      · rw [if_pos h5] at hN hM
        obtain ⟨b, hb, rfl⟩ := hN
        obtain ⟨c, hc, rfl⟩ := hM
        exact ⟨(alike σ b).sim (alike τ c) hs, (alike σ b).tidy ht, fun d hd => (alike σ b).isDir hd, rfl, rfl⟩
      · rw [if_neg h5] at hN hM
        subst hN hM
        exact ⟨hs, ht, fun d hd => hd, rfl, rfl⟩
theorem listed_perm (σ : Fs) (l : List Str) : (listed σ l).Perm l := by
  unfold listed
  simp only
  have h : ∀ k, (l.drop k ++ l.take k).Perm l := fun k => by
    have := List.perm_append_comm (l₁ := l.drop k) (l₂ := l.take k)
    rw [List.take_append_drop] at this
    exact this
  split
  · exact (List.reverse_perm _).trans (h _)
  · exact h _
theorem listed_plain (σ : Fs) (l : List Str) (h : σ.rot = []) : listed σ l = l := by
  unfold listed rotAt
  rw [h]
  simp
theorem next_tidy {σ σ' : Fs} {a : AAct} (ht : Tidy σ) (h0 : doE σ a = 0) (hN : Next σ (Fresh σ) a σ') : Tidy σ' := by
  unfold Next at hN
  unfold doE at h0
  by_cases h3 : 0 ≤ a.kind ∧ a.kind ≤ 3
  · rw [if_pos h3] at hN h0
    obtain ⟨pb, b, hpb, hb, rfl⟩ := hN
    exact (ent_made (make_parts h0).1 (make_parts h0).2 hpb hb (nd := newNd σ (mkK a) (mkM a) (mkT a) (mkD a)) rfl).tidy ht
  · rw [if_neg h3] at hN h0
    by_cases h4 : a.kind = 4
    · rw [if_pos h4] at hN h0
      obtain ⟨pb, b, hpb, hb, rfl⟩ := hN
      obtain ⟨g1, g2, g3⟩ := link_parts h0
      exact (ent_linked g1 g2 hpb hb (g3 b hb)).tidy ht
    · rw [if_neg h4] at hN
      by_cases h5 : a.kind = 5
      · rw [if_pos h5] at hN
        obtain ⟨b, hb, rfl⟩ := hN
        have alike : FsLike σ (setNode σ b { σ.node b with uid := a.mode, mtime := a.data.length }) := ⟨rfl, fun i => by
          show (if i = b then ({ σ.node b with uid := a.mode, mtime := a.data.length } : Nd) else σ.node i).kind = _ ∧ (if i = b then ({ σ.node b with uid := a.mode, mtime := a.data.length } : Nd) else σ.node i).names = _
          split
          · rename_i e; rw [e]; exact ⟨rfl, rfl⟩
          · exact ⟨rfl, rfl⟩⟩
        exact alike.tidy ht
      · rw [if_neg h5] at hN
        subst hN
        exact ht
end Go.Proofs.YtfhiioopimmahaaGreatDoor
