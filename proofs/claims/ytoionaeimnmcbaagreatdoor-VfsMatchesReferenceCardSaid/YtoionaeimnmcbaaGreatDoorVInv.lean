/- A file system in use: what its numbers keep to, call by call. -/
import Derived.Test.YtoionaeimnmcbaaGreatDoorVDo
namespace Go.Pax
open Go.RowKit
structure Fs.In (n : Nat) (σ : Fs) : Prop where
  next : 0 ≤ σ.next ∧ σ.next ≤ 2097152 + (n : Int) * 1048576
  step : 0 ≤ σ.step ∧ σ.step ≤ 1048576
  names : ∀ p b, (p, b) ∈ σ.files → (σ.node b).names.length ≤ n
  lists : 0 ≤ σ.lists ∧ σ.lists ≤ n
  links : ∀ p b, (p, b) ∈ σ.files → 0 ≤ (σ.node b).links ∧ (σ.node b).links ≤ (n : Int) + 1
  rot : ∀ x ∈ σ.rot, 0 ≤ x
  rotl : σ.rot.length ≤ 1099511627776
theorem Fs.In.ok {n : Nat} {σ : Fs} (h : σ.In n) (hn : n ≤ 100000) : σ.Ok where
  next := by have h1 := h.next; have h2 := h.step; omega
  step := h.step
  names := fun p b hb => by have := h.names p b hb; omega
  lists := by have := h.lists; omega
  links := fun p b hb => by have := h.links p b hb; omega
  rot := h.rot
  rotl := h.rotl
theorem Fs.In.mono {n m : Nat} {σ : Fs} (h : σ.In n) (hm : n ≤ m) : σ.In m where
  next := by have h1 := h.next; omega
  step := h.step
  names := fun p b hb => by have := h.names p b hb; omega
  lists := by have := h.lists; omega
  links := fun p b hb => by have := h.links p b hb; omega
  rot := h.rot
  rotl := h.rotl
theorem Fs.In.new {first step : Int} {rot : List Int} (b : Nat) (h1 : inOpt first) (h2 : inOpt step) (h3 : ∀ x ∈ rot, 0 ≤ x) (h4 : rot.length ≤ 1099511627776) : (newFs first step rot b).In 0 where
  next := by unfold inOpt at h1 h2; unfold newFs; simp only; omega
  step := by unfold inOpt at h2; unfold newFs; simp only; omega
  names := fun p b hb => by simp [newFs, rootNd]
  lists := by simp [newFs]
  links := fun p b hb => by simp [newFs, rootNd]
  rot := h3
  rotl := h4
theorem newE_zero {first step : Int} {rot : List Int} (h : newE first step rot = 0) : inOpt first ∧ inOpt step ∧ ∀ x ∈ rot, 0 ≤ x := by
  unfold newE at h
  split at h
  · rename_i h1
    refine ⟨h1.1, h1.2.1, fun x hx => ?_⟩
    have := (idxN_neg rot 0).2
    by_cases hneg : x < 0
    · have := this ⟨x, hx, hneg⟩; omega
    · omega
  · cases h
def Fresh (σ : Fs) (b : Nat) : Prop := ∀ p b', (p, b') ∈ σ.files → b' ≠ b
theorem Fs.In.setNode {n : Nat} {σ : Fs} (h : σ.In n) (b : Nat) (nd : Nd) (h1 : nd.names.length ≤ n) (h2 : 0 ≤ nd.links ∧ nd.links ≤ (n : Int) + 1) : (setNode σ b nd).In n where
  next := h.next
  step := h.step
  names := fun p i hb => by
    show (if i = b then nd else σ.node i).names.length ≤ n
    split
    · exact h1
    · exact h.names p i hb
  lists := h.lists
  links := fun p i hb => by
    show 0 ≤ (if i = b then nd else σ.node i).links ∧ (if i = b then nd else σ.node i).links ≤ (n : Int) + 1
    split
    · exact h2
    · exact h.links p i hb
  rot := h.rot
  rotl := h.rotl
theorem Fs.In.listed {n : Nat} {σ : Fs} (h : σ.In n) : Fs.In (n + 1) { σ with lists := σ.lists + 1 } where
  next := by have := h.next; simp only; omega
  step := h.step
  names := fun p b hb => by have := h.names p b hb; exact Nat.le_trans this (by omega)
  lists := by have := h.lists; simp only; omega
  links := fun p b hb => by have := h.links p b hb; simp only; omega
  rot := h.rot
  rotl := h.rotl
end Go.Pax
namespace Go.Proofs.YtoionaeimnmcbaaGreatDoor
open Go.RowKit Go.Pax Go.Shelf
theorem addName_len (nd : Nd) (x : Str) : (addName nd x).names.length = nd.names.length + 1 := by
  unfold addName
  exact insAt_length _ _ _ (by simpa using bsI_le (nd.names.map ba) (ba x))
theorem Fs.In.entered {n : Nat} {σ : Fs} (h : σ.In n) (p : Str) (pb b : Nat) {pp qq : Str} (hpb : (pp, pb) ∈ σ.files ∨ ((σ.node pb).names.length ≤ n ∧ 0 ≤ (σ.node pb).links ∧ (σ.node pb).links ≤ (n : Int) + 1)) (hb : (qq, b) ∈ σ.files ∨ ((σ.node b).names.length ≤ n ∧ 0 ≤ (σ.node b).links ∧ (σ.node b).links ≤ (n : Int) + 1)) : (entered σ p pb b).In (n + 1) := by
  have hall : ∀ i, (i = pb ∨ i = b ∨ ∃ q, (q, i) ∈ σ.files) → (σ.node i).names.length ≤ n ∧ 0 ≤ (σ.node i).links ∧ (σ.node i).links ≤ (n : Int) + 1 := by
    rintro i (rfl | rfl | ⟨q, hq⟩)
    · rcases hpb with h1 | h1
      · exact ⟨h.names _ _ h1, h.links _ _ h1⟩
      · exact h1
    · rcases hb with h1 | h1
      · exact ⟨h.names _ _ h1, h.links _ _ h1⟩
      · exact h1
    · exact ⟨h.names _ _ hq, h.links _ _ hq⟩
  have hmem : ∀ q i, (q, i) ∈ (σ.files ++ [(p, b)]) → i = pb ∨ i = b ∨ ∃ q, (q, i) ∈ σ.files := fun q i hq => by
    rcases List.mem_append.1 hq with hq | hq
    · exact .inr (.inr ⟨q, hq⟩)
    · simp at hq; exact .inr (.inl hq.2)
  refine ⟨?_, h.step, fun q i hq => ?_, ?_, fun q i hq => ?_, h.rot, h.rotl⟩
  · have := h.next
    show 0 ≤ σ.next ∧ σ.next ≤ _
    omega
  · have h1 := hall i (hmem q i hq)
    show (if i = pb then addName (σ.node pb) (baseP p) else σ.node i).names.length ≤ n + 1
    split
    · rename_i e
      rw [addName_len, ← e]; omega
    · omega
  · have := h.lists
    show 0 ≤ σ.lists ∧ σ.lists ≤ _
    omega
  · have h1 := hall i (hmem q i hq)
    show 0 ≤ (if i = pb then addName (σ.node pb) (baseP p) else σ.node i).links ∧ (if i = pb then addName (σ.node pb) (baseP p) else σ.node i).links ≤ _
    split
    · rename_i e
      show 0 ≤ (σ.node pb).links ∧ (σ.node pb).links ≤ _
      rw [← e]; omega
    · omega
theorem Next.inv {n : Nat} {σ σ' : Fs} {fr : Nat → Prop} {a : AAct} (h : Next σ fr a σ') (hi : σ.In n) : σ'.In (n + 1 + 1) := by
  unfold Next at h
  split at h
  · obtain ⟨pb, b, hpb, hb, rfl⟩ := h
    unfold made
    have h1 : ({ σ with next := σ.next + σ.step, node := fun i => if i = b then newNd σ (mkK a) (mkM a) (mkT a) (mkD a) else σ.node i } : Fs).In (n + 1) := by
      refine ⟨?_, hi.step, fun q i hq => ?_, ?_, fun q i hq => ?_, hi.rot, hi.rotl⟩
      · have h1 := hi.next; have h2 := hi.step; show 0 ≤ σ.next + σ.step ∧ σ.next + σ.step ≤ _; omega
      · show (if i = b then newNd σ (mkK a) (mkM a) (mkT a) (mkD a) else σ.node i).names.length ≤ _
        split
        · simp [newNd]
        · have := hi.names q i hq; omega
      · have := hi.lists; show 0 ≤ σ.lists ∧ σ.lists ≤ _; omega
      · show 0 ≤ (if i = b then newNd σ (mkK a) (mkM a) (mkT a) (mkD a) else σ.node i).links ∧ (if i = b then newNd σ (mkK a) (mkM a) (mkT a) (mkD a) else σ.node i).links ≤ _
        split
        · simp [newNd]; omega
        · have := hi.links q i hq; omega
    refine Fs.In.entered h1 a.path pb b (pp := parentP a.path) (qq := []) (.inl (lkF_mem hpb)) (.inr ?_)
    simp only [if_true]
    simp [newNd]; omega
  · split at h
    · obtain ⟨pb, b, hpb, hb, rfl⟩ := h
      unfold linked
      have hbm := lkF_mem hb
      have h1 := hi.names _ _ hbm
      have h2 := hi.links _ _ hbm
      have h3 := (hi.mono (Nat.le_succ n)).setNode b { σ.node b with links := (σ.node b).links + 1 } (by simp only; omega) (by simp only; omega)
      exact Fs.In.entered h3 a.path pb b (.inl (lkF_mem hpb)) (.inl hbm)
    · split at h
      · obtain ⟨b, hb, rfl⟩ := h
        have hbm := lkF_mem hb
        have h1 := hi.names _ _ hbm
        have h2 := hi.links _ _ hbm
        exact (hi.mono (by omega)).setNode b _ (by simp only; omega) (by simp only; omega)
      · subst h; exact hi.mono (by omega)

/-- The file system σ at f, all of it made since w0; nothing else of w0 has changed. -/
structure Live (w0 w : World) (f : Nat) (O : List Nat) (σ : Fs) (n : Nat) : Prop where
  fs : FsAt w f O σ
  inv : σ.In n
  own : ∀ g ∈ O, w0.heap.size ≤ g
  chg : Chg [] w0 w
theorem Live.quiet {w0 w w' : World} {f : Nat} {O : List Nat} {σ : Fs} {n : Nat} (h : Live w0 w f O σ n) (k : Chg [] w w') : Live w0 w' f O σ n :=
  ⟨h.fs.foreign k (by simp), h.inv, h.own, h.chg.trans k⟩
theorem Live.to {w0 w w' : World} {f : Nat} {O : List Nat} {σ σ' : Fs} {n n' : Nat} (h : Live w0 w f O σ n) (k : FsTo w w' f O σ') (hi : σ'.In n') : ∃ O', Live w0 w' f O' σ' n' := by
  obtain ⟨O', ⟨h1, h2⟩, h3⟩ := k
  refine ⟨O', h1, hi, fun g hg => ?_, h.chg.trans' h3 (by simp) (fun x hx hl => ?_)⟩
  · rcases h2 g hg with h2 | h2
    · exact h.own g h2
    · have := h.chg.size; omega
  · have := h.own x hx; omega
theorem Live.fresh {w0 w : World} {f : Nat} {O : List Nat} {σ : Fs} {n : Nat} (h : Live w0 w f O σ n) {b : Nat} (hb : w.heap.size ≤ b) : Fresh σ b := fun p b' hb' e => by
  obtain ⟨m, rv, dv, nv, h1⟩ := h.fs
  have := h1.lt b' (h1.nodes p b' hb').own.1
  omega
theorem Next.fresh {w0 w : World} {f : Nat} {O : List Nat} {σ σ' : Fs} {n : Nat} {a : AAct} (h : Live w0 w f O σ n) (hn : Next σ (fun b => w.heap.size ≤ b) a σ') : Next σ (Fresh σ) a σ' := by
  unfold Next at hn ⊢
  split
  · rename_i hk
    rw [if_pos hk] at hn
    obtain ⟨pb, b, h1, h2, h3⟩ := hn
    exact ⟨pb, b, h1, h.fresh h2, h3⟩
  · rename_i hk
    rw [if_neg hk] at hn
    exact hn
/-- New, in these words. -/
theorem liveNew (w0 w : World) (first step : Int) (rot : List Int) (ao : Option Addr) (n c : Nat) (fp : List Nat) (hk : Chg [] w0 w) (hn : rot.length = n) (hl : n ≤ 17592186044416) (hl2 : n ≤ 1099511627776) (h : Rd w fp ao (iv rot)) :
    Calls Tryz.prog 8 #[.agg #[.int .i64 first, .int .i64 step, .slice ao n c]] w fun e w' =>
      (newE first step rot ≠ 0 → e = .returned (.tuple #[.pointer none, .int .i64 2]) ∧ Chg [] w w') ∧
      (newE first step rot = 0 → ∃ f O b, e = .returned (.tuple #[.pointer (some ⟨f, 0, none⟩), .int .i64 0]) ∧ Live w0 w' f O (newFs first step rot b) 0 ∧ Chg [] w w') := by
  subst hn
  refine (new w first step rot ao c fp hl h).mono ?_
  rintro e w' ⟨h1, h2⟩
  refine ⟨h1, fun hE => ?_⟩
  obtain ⟨f, O, b, he, hf, hO, hc⟩ := h2 hE
  obtain ⟨g1, g2, g3⟩ := newE_zero hE
  exact ⟨f, O, b, he, ⟨hf, Fs.In.new b g1 g2 g3 hl2, fun g hg => Nat.le_trans hk.size (hO g hg), hk.trans hc⟩, hc⟩
/-- Do, in these words. -/
theorem liveDo (w0 w : World) (f : Nat) (O : List Nat) (σ : Fs) (n : Nat) (a : AAct) (ao : Option Addr) (dc : Nat) (fp : List Nat) (h : Live w0 w f O σ n) (hn : n ≤ 10000) (hkeys : KeysAt w0)
    (ht : a.target.length ≤ 140737488355328) (hd : Rd w0 fp ao (bv a.data)) (hdl : a.data.length ≤ 140737488355328) (hff : ∀ x ∈ fp, x < w0.heap.size) :
    Calls Tryz.prog 10 #[.pointer (some ⟨f, 0, none⟩), actV a ao dc] w fun e w' => e = .returned (.int .i64 (doE σ a)) ∧ (doE σ a ≠ 0 → Live w0 w' f O σ n) ∧ (doE σ a = 0 → ∃ O' σ', Next σ (Fresh σ) a σ' ∧ Live w0 w' f O' σ' (n + 2)) := by
  have hkb : 1 < w0.heap.size := by
    obtain ⟨t, h⟩ := hkeys
    exact lt_of_block h
  refine (doAct w f O σ a ao dc fp h.fs (h.inv.ok (by omega)) (hkeys.chg h.chg (by simp)) (fun hm => by have := h.own _ hm; omega) ht (hd.chg h.chg (by simp)) hdl (fun x hx hO => by have := hff x hx; have := h.own x hO; omega)).mono ?_
  rintro e w' ⟨he, h1, h2⟩
  refine ⟨he, fun hne => h.quiet (h1 hne), fun h0 => ?_⟩
  obtain ⟨σ', hN, hT⟩ := h2 h0
  obtain ⟨O', hL⟩ := h.to hT (hN.inv h.inv)
  exact ⟨O', σ', hN.fresh h, hL⟩
end Go.Proofs.YtoionaeimnmcbaaGreatDoor
