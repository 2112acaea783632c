/- paxtarlaw19.VfsInodesAreDistinct: the plain law. -/
import Derived.Test.YtoionaeimnmcbaaDoorVLawA
import Derived.Test.YtoionaeimnmcbaaDoorVMapI
namespace Go.Pax
open Go.RowKit
/-- What the law's map says of the file system. -/
structure Owns (σ : Fs) (l : List (Int × ByteArray)) : Prop where
  own : ∀ p b, (p, b) ∈ σ.files → ∃ q : Str, lkI l (σ.node b).ino = some (ba q) ∧ lkF σ.files q = some b
  low : ∀ n, σ.next ≤ n → lkI l n = none
  links : ∀ p b, (p, b) ∈ σ.files → 1 ≤ (σ.node b).links
  step : 1 ≤ σ.step
theorem owns_new {first step : Int} {b : Nat} (hs : 1 ≤ step) : Owns (newFs first step [] b) [(first, ba [])] where
  own := fun p b' h => by
    simp [newFs] at h
    obtain ⟨rfl, rfl⟩ := h
    exact ⟨[], by simp [newFs, rootNd, lkI], by simp [newFs, lkF]⟩
  low := fun n hn => by
    have : first + step ≤ n := hn
    simp only [lkI]
    rw [if_neg (by omega)]
  links := fun p b' h => by simp [newFs, rootNd]
  step := hs
theorem Owns.same {σ σ' : Fs} {l : List (Int × ByteArray)} (h : Owns σ l) (hf : σ'.files = σ.files) (hn : σ'.next = σ.next) (hs : σ'.step = σ.step) (hi : ∀ b, (σ'.node b).ino = (σ.node b).ino) (hl : ∀ b, (σ'.node b).links = (σ.node b).links) : Owns σ' l where
  own := fun p b hb => by rw [hf] at hb ⊢; rw [hi]; exact h.own p b hb
  low := fun n hn' => h.low n (by omega)
  links := fun p b hb => by rw [hf] at hb; rw [hl]; exact h.links p b hb
  step := by rw [hs]; exact h.step
end Go.Pax
namespace Go.Proofs.YtoionaeimnmcbaaDoor
open Go.RowKit Go.Pax Go.Shelf
theorem addName_info (nd : Nd) (x : Str) : infoV (addName nd x) = infoV nd := rfl
/-- Behind a call that made a new file. -/
theorem owns_made {σ : Fs} {l : List (Int × ByteArray)} (h : Owns σ l) {p : Str} {nd : Nd} {pb b : Nat} (hb : Fresh σ b) (hpb : (parentP p, pb) ∈ σ.files) (hp : lkF σ.files p = none) (hi : nd.ino = σ.next) (hl : 1 ≤ nd.links) :
    lkF (made σ p nd pb b).files p = some b ∧ infoV ((made σ p nd pb b).node b) = infoV nd ∧ lkI l nd.ino = none ∧ Owns (made σ p nd pb b) (upI l nd.ino (ba p)) := by
  have hne : b ≠ pb := fun e => hb _ _ hpb e.symm
  have hfl : (made σ p nd pb b).files = σ.files ++ [(p, b)] := rfl
  have hnode : ∀ i, (made σ p nd pb b).node i = if i = pb then addName (if pb = b then nd else σ.node pb) (baseP p) else if i = b then nd else σ.node i := fun i => rfl
  have hlk : lkF (made σ p nd pb b).files p = some b := by rw [hfl, lkF_append, hp]; simp [lkF]
  have hnb : (made σ p nd pb b).node b = nd := by rw [hnode, if_neg hne, if_pos rfl]
  have hold : ∀ i, i ≠ b → ((made σ p nd pb b).node i).ino = (σ.node i).ino ∧ ((made σ p nd pb b).node i).links = (σ.node i).links := fun i hi => by
    rw [hnode]
    by_cases h1 : i = pb
    · subst h1
      rw [if_pos rfl, if_neg hi]
      exact ⟨rfl, rfl⟩
    · rw [if_neg h1, if_neg hi]
      exact ⟨rfl, rfl⟩
  have hnone : lkI l nd.ino = none := h.low _ (by omega)
  refine ⟨hlk, by rw [hnb], hnone, ?_, ?_, ?_, h.step⟩
  · intro q i hq
    rw [hfl] at hq
    rcases List.mem_append.1 hq with hq | hq
    · have hib : i ≠ b := hb q i hq
      obtain ⟨r, h1, h2⟩ := h.own q i hq
      refine ⟨r, ?_, ?_⟩
      · rw [(hold i hib).1, lkI_upI, if_neg (fun e => by rw [e, hnone] at h1; cases h1)]
        exact h1
      · rw [hfl, lkF_append, h2]; rfl
    · simp at hq
      obtain ⟨rfl, rfl⟩ := hq
      exact ⟨q, by rw [hnb, lkI_upI, if_pos rfl], hlk⟩
  · intro n hn
    have hn' : σ.next + σ.step ≤ n := hn
    have := h.step
    rw [lkI_upI, if_neg (by omega)]
    exact h.low n (by omega)
  · intro q i hq
    rw [hfl] at hq
    rcases List.mem_append.1 hq with hq | hq
    · rw [(hold i (hb q i hq)).2]; exact h.links q i hq
    · simp at hq
      obtain ⟨rfl, rfl⟩ := hq
      rw [hnb]; exact hl
/-- Behind a hard link. -/
theorem owns_linked {σ : Fs} {l : List (Int × ByteArray)} (h : Owns σ l) {p t : Str} {pb b : Nat} (ht : lkF σ.files t = some b) (hp : lkF σ.files p = none) :
    ∃ q : Str, lkF (linked σ p pb b).files p = some b ∧ lkI l ((linked σ p pb b).node b).ino = some (ba q) ∧ lkF (linked σ p pb b).files q = some b ∧ 2 ≤ ((linked σ p pb b).node b).links ∧ Owns (linked σ p pb b) (upI l ((linked σ p pb b).node b).ino (ba p)) := by
  have hbm := lkF_mem ht
  have hfl : (linked σ p pb b).files = σ.files ++ [(p, b)] := rfl
  have hnode : ∀ i, (linked σ p pb b).node i = if i = pb then addName (if pb = b then { σ.node b with links := (σ.node b).links + 1 } else σ.node pb) (baseP p) else if i = b then { σ.node b with links := (σ.node b).links + 1 } else σ.node i := fun i => rfl
  have hino : ∀ i, ((linked σ p pb b).node i).ino = (σ.node i).ino := fun i => by
    rw [hnode]
    by_cases h1 : i = pb
    · subst h1
      rw [if_pos rfl]
      by_cases h2 : i = b
      · subst h2; rw [if_pos rfl]; rfl
      · rw [if_neg h2]; rfl
    · rw [if_neg h1]
      by_cases h2 : i = b
      · subst h2; rw [if_pos rfl]
      · rw [if_neg h2]
  have hlinks : ∀ i, ((linked σ p pb b).node i).links = (σ.node i).links + if i = b then 1 else 0 := fun i => by
    rw [hnode]
    by_cases h1 : i = pb
    · subst h1
      rw [if_pos rfl]
      by_cases h2 : i = b
      · subst h2; rw [if_pos rfl, if_pos rfl]; rfl
      · rw [if_neg h2, if_neg h2]; simp [addName]
    · rw [if_neg h1]
      by_cases h2 : i = b
      · subst h2; rw [if_pos rfl, if_pos rfl]
      · rw [if_neg h2, if_neg h2]; simp
  have hlk : lkF (linked σ p pb b).files p = some b := by rw [hfl, lkF_append, hp]; simp [lkF]
  obtain ⟨q, h1, h2⟩ := h.own t b hbm
  have hl1 := h.links t b hbm
  refine ⟨q, hlk, by rw [hino]; exact h1, by rw [hfl, lkF_append, h2]; rfl, by rw [hlinks, if_pos rfl]; omega, ?_, ?_, ?_, h.step⟩
  · intro r i hr
    rw [hino, hino, lkI_upI]
    by_cases he : (σ.node i).ino = (σ.node b).ino
    · rw [if_pos he]
      have hib : i = b := by
        rw [hfl] at hr
        rcases List.mem_append.1 hr with hr | hr
        · obtain ⟨s, h3, h4⟩ := h.own r i hr
          rw [he, h1] at h3
          injection h3 with h3
          rw [← ba_inj h3, h2] at h4
          injection h4 with h4
          exact h4.symm
        · simp at hr; exact hr.2
      subst hib
      exact ⟨p, rfl, hlk⟩
    · rw [if_neg he]
      rw [hfl] at hr
      rcases List.mem_append.1 hr with hr | hr
      · obtain ⟨s, h3, h4⟩ := h.own r i hr
        exact ⟨s, h3, by rw [hfl, lkF_append, h4]; rfl⟩
      · simp at hr
        exact absurd (by rw [hr.2]) he
  · intro n hn
    have hn' : σ.next ≤ n := hn
    rw [hino, lkI_upI, if_neg (fun e => by
      have := h.low n hn'
      rw [e, h1] at this
      cases this)]
    exact h.low n hn'
  · intro r i hr
    rw [hlinks]
    rw [hfl] at hr
    have h01 : (0 : Int) ≤ if i = b then 1 else 0 := by split <;> omega
    rcases List.mem_append.1 hr with hr | hr
    · have := h.links r i hr; omega
    · simp at hr
      rw [hr.2] at h01 ⊢; omega
end Go.Proofs.YtoionaeimnmcbaaDoor
namespace Go.Proofs.YtoionaeimnmcbaaDoor
open Go.RowKit Go.Pax Go.Shelf
theorem placed_new {σ : Fs} {p : Str} (h : placeE σ p = 0) : lkF σ.files p = none := by
  obtain ⟨pb, _, _, h, _⟩ := placed_ok h
  exact h
theorem make_place {σ : Fs} {p : Str} {k m : Int} {t : Str} (h : makeE σ p k m t = 0) : placeE σ p = 0 := by
  unfold makeE at h
  split at h
  · rename_i h1; exact absurd h h1
  split at h
  · cases h
  split at h
  · rename_i h1; exact absurd h h1.2
  · exact h
theorem link_place {σ : Fs} {p t : Str} (h : linkE σ p t = 0) : placeE σ p = 0 := by
  unfold linkE at h
  split at h
  · rename_i h1; exact absurd h h1
  split at h
  · rename_i h1; exact absurd h h1
  · rename_i h1; simpa using h1
/-- One call more: what the law sees of it. -/
theorem owns_next {σ σ' : Fs} {l : List (Int × ByteArray)} {a : AAct} (h : Owns σ l) (h0 : doE σ a = 0) (hN : Next σ (Fresh σ) a σ') (ha : 0 ≤ a.kind ∧ a.kind ≤ 4) :
    ∃ (k m i n s : Int) (t : ByteArray) (u y : Int), lstatV σ' a.path = .tuple #[.agg #[.int .i64 k, .int .i64 m, .int .i64 i, .int .i64 n, .int .i64 s, .string t, .int .i64 u, .int .i64 y], .int .i64 0] ∧ Owns σ' (upI l i (ba a.path)) ∧ (a.kind ≠ 4 → lkI l i = none) ∧
      (a.kind = 4 → 2 ≤ n ∧ ∃ q : Str, lkI l i = some (ba q) ∧ lstatV σ' q = .tuple #[.agg #[.int .i64 k, .int .i64 m, .int .i64 i, .int .i64 n, .int .i64 s, .string t, .int .i64 u, .int .i64 y], .int .i64 0]) := by
  unfold Next at hN
  unfold doE at h0
  by_cases h3 : a.kind ≤ 3
  · rw [if_pos ⟨ha.1, h3⟩] at hN h0
    obtain ⟨pb, b, hpb, hb, rfl⟩ := hN
    obtain ⟨g1, g2, g3, g4⟩ := owns_made h hb (lkF_mem hpb) (nd := newNd σ (mkK a) (mkM a) (mkT a) (mkD a)) (placed_new (make_place h0)) rfl (by simp [newNd])
    have hv : lstatV (made σ a.path (newNd σ (mkK a) (mkM a) (mkT a) (mkD a)) pb b) a.path = .tuple #[infoV (newNd σ (mkK a) (mkM a) (mkT a) (mkD a)), .int .i64 0] := by
      unfold lstatV
      rw [g1]
      simp only
      rw [g2]
    exact ⟨_, _, _, _, _, _, _, _, hv, g4, fun _ => g3, fun e => by omega⟩
  · have h4 : a.kind = 4 := by omega
    rw [if_neg (by omega), if_pos h4] at hN h0
    obtain ⟨pb, b, hpb, hb, rfl⟩ := hN
    obtain ⟨q, g1, g2, g3, g4, g5⟩ := owns_linked h (p := a.path) (pb := pb) hb (placed_new (link_place h0))
    have hv : ∀ r, lkF (linked σ a.path pb b).files r = some b → lstatV (linked σ a.path pb b) r = .tuple #[infoV ((linked σ a.path pb b).node b), .int .i64 0] := fun r hr => by
      unfold lstatV
      rw [hr]
    exact ⟨_, _, _, _, _, _, _, _, hv _ g1, g5, fun e => absurd h4 e, fun _ => ⟨g4, q, g2, hv q g3⟩⟩
theorem owns_other {σ σ' : Fs} {l : List (Int × ByteArray)} {a : AAct} (h : Owns σ l) (hN : Next σ (Fresh σ) a σ') (ha : ¬ (0 ≤ a.kind ∧ a.kind ≤ 4)) : Owns σ' l := by
  unfold Next at hN
  rw [if_neg (by omega), if_neg (by omega)] at hN
  split at hN
  · obtain ⟨b, hb, rfl⟩ := hN
    refine h.same rfl rfl rfl (fun i => ?_) (fun i => ?_)
    · show (if i = b then ({ σ.node b with uid := a.mode, mtime := a.data.length } : Nd) else σ.node i).ino = _
      split
      · rename_i e; rw [e]
      · rfl
    · show (if i = b then ({ σ.node b with uid := a.mode, mtime := a.data.length } : Nd) else σ.node i).links = _
      split
      · rename_i e; rw [e]
      · rfl
  · subst hN; exact h
/-- What lay before the call, outside the file system, lies there still. -/
def Keeps (w w' : World) (O O' : List Nat) : Prop := w.heap.size ≤ w'.heap.size ∧ ∀ m, m < w.heap.size → m ∉ O → w'.heap[m]? = w.heap[m]? ∧ m ∉ O'
theorem Live.toK {w0 w w' : World} {f : Nat} {O : List Nat} {σ σ' : Fs} {n n' : Nat} (h : Live w0 w f O σ n) (k : FsTo w w' f O σ') (hi : σ'.In n') : ∃ O', Live w0 w' f O' σ' n' ∧ Keeps w w' O O' := by
  obtain ⟨O', ⟨h1, h2⟩, h3⟩ := k
  refine ⟨O', ⟨h1, hi, fun g hg => ?_, h.chg.trans' h3 (by simp) (fun x hx hl => ?_)⟩, h3.size, fun m hm hO => ⟨h3.block m hm hO, fun hm' => ?_⟩⟩
  · rcases h2 g hg with h2 | h2
    · exact h.own g h2
    · have := h.chg.size; omega
  · have := h.own x hx; omega
  · rcases h2 m hm' with h2 | h2
    · exact hO h2
    · omega
theorem Keeps.of_chg {w w' : World} (k : Chg [] w w') (O : List Nat) : Keeps w w' O O := ⟨k.size, fun m hm hO => ⟨k.block m hm (by simp), hO⟩⟩
/-- Only a block that is none of the file system's has changed. -/
theorem Live.beside {w0 w w' : World} {f : Nat} {O : List Nat} {σ : Fs} {n m : Nat} (h : Live w0 w f O σ n) (k : Chg [m] w w') (hm : m ∉ O) (h0 : w0.heap.size ≤ m) : Live w0 w' f O σ n :=
  ⟨h.fs.foreign k (fun g hg e => by simp at e; subst e; exact hm hg), h.inv, h.own, h.chg.trans' k (by simp) (fun x hx hl => by simp at hx; omega)⟩
/-- Do, with what lay beside it. -/
theorem liveDoK (w0 w : World) (f : Nat) (O : List Nat) (σ : Fs) (n : Nat) (a : AAct) (ao : Option Addr) (dc : Nat) (fp : List Nat) (h : Live w0 w f O σ n) (hn : n ≤ 10000) (hkeys : KeysAt w0)
    (ht : a.target.length ≤ 140737488355328) (hd : Rd w0 fp ao (bv a.data)) (hdl : a.data.length ≤ 140737488355328) (hff : ∀ x ∈ fp, x < w0.heap.size) :
    Calls Tryd.prog 11 #[.pointer (some ⟨f, 0, none⟩), actV a ao dc] w fun e w' => e = .returned (.int .i64 (doE σ a)) ∧ ∃ O' σ', ((doE σ a ≠ 0 ∧ σ' = σ) ∨ (doE σ a = 0 ∧ Next σ (Fresh σ) a σ')) ∧ Live w0 w' f O' σ' (n + 2) ∧ Keeps w w' O O' := by
  refine (doAct w f O σ a ao dc fp h.fs (h.inv.ok (by omega)) (h.keys hkeys).1 (h.keys hkeys).2 ht (hd.chg h.chg (by simp)) hdl (fun x hx hO => by have := hff x hx; have := h.own x hO; omega)).mono ?_
  rintro e w' ⟨he, h1, h2⟩
  refine ⟨he, ?_⟩
  by_cases h0 : doE σ a = 0
  · obtain ⟨σ', hN, hT⟩ := h2 h0
    obtain ⟨O', hL, hK⟩ := h.toK hT (hN.inv h.inv)
    exact ⟨O', σ', .inr ⟨h0, hN.fresh h⟩, hL, hK⟩
  · exact ⟨O, σ, .inl ⟨h0, rfl⟩, (h.quiet (h1 h0)).upto (by omega), Keeps.of_chg (h1 h0) O⟩
end Go.Proofs.YtoionaeimnmcbaaDoor
