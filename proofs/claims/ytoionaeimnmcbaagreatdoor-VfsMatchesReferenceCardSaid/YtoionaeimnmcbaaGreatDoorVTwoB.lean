/- Two file systems that were given the same calls: call by call. -/
import Derived.Test.YtoionaeimnmcbaaGreatDoorVTwo
import Derived.Test.YtoionaeimnmcbaaGreatDoorVAlive
namespace Go.Pax
open Go.RowKit
theorem place_sim {σ τ : Fs} (h : Sim σ τ) (p : Str) : placeE σ p = placeE τ p := by
  unfold placeE
  have h1 := h.at_ (parentP p)
  have h2 := h.at_ p
  cases e1 : lkF σ.files (parentP p) with
  | none => rw [h1.1 e1]
  | some b =>
    cases e2 : lkF τ.files (parentP p) with
    | none => rw [h1.2 e2] at e1; cases e1
    | some c =>
      simp only
      rw [(h.node _ _ _ e1 e2).1]
      cases e3 : lkF σ.files p with
      | none => rw [h2.1 e3]
      | some x =>
        cases e4 : lkF τ.files p with
        | none => rw [h2.2 e4] at e3; cases e3
        | some y => rfl
theorem do_sim {σ τ : Fs} (h : Sim σ τ) (a : AAct) : doE σ a = doE τ a := by
  unfold doE makeE linkE chownE
  rw [place_sim h]
  have h1 := h.at_ a.target
  have h2 := h.at_ a.path
  cases e1 : lkF σ.files a.target with
  | none =>
    rw [h1.1 e1]
    cases e3 : lkF σ.files a.path with
    | none => rw [h2.1 e3]
    | some x =>
      cases e4 : lkF τ.files a.path with
      | none => rw [h2.2 e4] at e3; cases e3
      | some y => rfl
  | some b =>
    cases e2 : lkF τ.files a.target with
    | none => rw [h1.2 e2] at e1; cases e1
    | some c =>
      simp only
      rw [(h.node _ _ _ e1 e2).1]
      cases e3 : lkF σ.files a.path with
      | none => rw [h2.1 e3]
      | some x =>
        cases e4 : lkF τ.files a.path with
        | none => rw [h2.2 e4] at e3; cases e3
        | some y => rfl
/-- Only numbers and owners have changed. -/
structure FsLike (σ σ' : Fs) : Prop where
  files : σ'.files = σ.files
  node : ∀ i, (σ'.node i).kind = (σ.node i).kind ∧ (σ'.node i).names = (σ.node i).names
theorem FsLike.tidy {σ σ' : Fs} (h : FsLike σ σ') (ht : Tidy σ) : Tidy σ' := by
  refine ⟨fun d b hd hk => ?_, fun d b hd hk s hs => ?_, fun d d' b hd hd' hk => ?_, fun p b hp => ht.short p b (by rw [← h.files]; exact hp)⟩
  · rw [h.files] at hd; rw [(h.node b).1] at hk; rw [(h.node b).2]; exact ht.sorted d b hd hk
  · rw [h.files] at hd ⊢; rw [(h.node b).1] at hk; rw [(h.node b).2] at hs; exact ht.there d b hd hk s hs
  · rw [h.files] at hd hd'; rw [(h.node b).1] at hk; exact ht.one d d' b hd hd' hk
theorem FsLike.sim {σ σ' τ τ' : Fs} (h : FsLike σ σ') (g : FsLike τ τ') (hs : Sim σ τ) : Sim σ' τ' := by
  refine ⟨fun p => ?_, fun p b c hb hc => ?_, fun p q b c b' c' h1 h2 h3 h4 => ?_⟩
  · rw [h.files, g.files]; exact hs.at_ p
  · rw [h.files] at hb; rw [g.files] at hc
    have := hs.node p b c hb hc
    exact ⟨by rw [(h.node b).1, (g.node c).1]; exact this.1, by rw [(h.node b).2, (g.node c).2]; exact this.2⟩
  · rw [h.files] at h1 h3; rw [g.files] at h2 h4
    exact hs.same p q b c b' c' h1 h2 h3 h4
theorem FsLike.isDir {σ σ' : Fs} (h : FsLike σ σ') {d : Str} (hd : IsDir σ d) : IsDir σ' d := by
  obtain ⟨b, h1, h2⟩ := hd
  exact ⟨b, by rw [h.files]; exact h1, by rw [(h.node b).1]; exact h2⟩
theorem FsLike.refl (σ : Fs) : FsLike σ σ := ⟨rfl, fun _ => ⟨rfl, rfl⟩⟩
theorem sim_new (a b c d : Int) (r s : List Int) (x y : Nat) : Sim (newFs a b r x) (newFs c d s y) := by
  refine ⟨fun p => ?_, fun p b c hb hc => ?_, fun p q b c b' c' h1 h2 h3 h4 => ?_⟩
  · simp only [newFs, lkF]; split <;> simp
  · exact ⟨rfl, rfl⟩
  · simp only [newFs, lkF] at h1 h2 h3 h4
    split at h1
    · rename_i e1
      rw [if_pos e1] at h2
      split at h3
      · rename_i e2
        rw [if_pos e2] at h4
        cases h1; cases h2; cases h3; cases h4
        simp
      · cases h3
    · cases h1
theorem tidy_new (a b : Int) (r : List Int) (x : Nat) : Tidy (newFs a b r x) := by
  refine ⟨fun d b hd hk => List.Pairwise.nil, fun d b hd hk s hs => by simp [newFs, rootNd] at hs, fun d d' b h1 h2 hk => ?_, fun p b hp => ?_⟩
  rotate_left
  · simp only [newFs, lkF] at hp
    split at hp
    · rename_i e; rw [e]; simp
    · cases hp
  simp only [newFs, lkF] at h1 h2
  split at h1
  · rename_i e1
    split at h2
    · rename_i e2; rw [e1, e2]
    · cases h2
  · cases h1
end Go.Pax
namespace Go.Proofs.YtoionaeimnmcbaaGreatDoor
open Go.RowKit Go.Pax Go.Shelf
theorem placed_dir {σ : Fs} {p : Str} (h : placeE σ p = 0) {pb : Nat} (hpb : lkF σ.files (parentP p) = some pb) : lkF σ.files p = none ∧ (σ.node pb).kind = 0 := by
  obtain ⟨pb', h1, h2, h3, _⟩ := placed_ok h
  rw [hpb] at h1
  cases h1
  exact ⟨h3, h2⟩
theorem make_parts {σ : Fs} {p : Str} {k m : Int} {t : Str} (h : makeE σ p k m t = 0) : checkP p = 0 ∧ placeE σ p = 0 := by
  unfold makeE at h
  split at h
  · rename_i h1; exact absurd h h1
  rename_i h1
  split at h
  · cases h
  split at h
  · rename_i h1; exact absurd h h1.2
  · exact ⟨by simpa using h1, h⟩
theorem link_parts {σ : Fs} {p t : Str} (h : linkE σ p t = 0) : checkP p = 0 ∧ placeE σ p = 0 ∧ ∀ b, lkF σ.files t = some b → (σ.node b).kind = 1 := by
  unfold linkE at h
  split at h
  · rename_i h1; exact absurd h h1
  rename_i h1
  split at h
  · rename_i h2; exact absurd h h2
  rename_i h2
  refine ⟨by simpa using h1, by simpa using h2, fun b hb => ?_⟩
  rw [hb] at h
  simp only at h
  split at h
  · rename_i h3; exact h3
  · cases h
theorem ent_made {σ : Fs} {p : Str} {nd : Nd} {pb b : Nat} (hc : checkP p = 0) (hp : placeE σ p = 0) (hpb : lkF σ.files (parentP p) = some pb) (hf : Fresh σ b) (hn : nd.names = []) : Ent σ (made σ p nd pb b) p none nd.kind pb b := by
  obtain ⟨h1, h2⟩ := placed_dir hp hpb
  have hne : b ≠ pb := fun e => hf _ _ (lkF_mem hpb) e.symm
  have hnode : ∀ i, (made σ p nd pb b).node i = if i = pb then addName (if pb = b then nd else σ.node pb) (baseP p) else if i = b then nd else σ.node i := fun i => rfl
  have hnp : (made σ p nd pb b).node pb = addName (σ.node pb) (baseP p) := by rw [hnode, if_pos rfl, if_neg (Ne.symm hne)]
  have hnb : (made σ p nd pb b).node b = nd := by rw [hnode, if_neg hne, if_pos rfl]
  refine ⟨fun q => ?_, h1, hc, ⟨hpb, h2⟩, hne, ⟨by rw [hnp]; exact h2, by rw [hnp]; rfl⟩, fun i hi hi2 => ?_, fun q hq => hf _ _ (lkF_mem hq) rfl, by rw [hnb], by rw [hnb]; exact hn⟩
  · show lkF (σ.files ++ [(p, b)]) q = _
    rw [lkF_append]
    by_cases e : q = p
    · subst e; rw [h1, if_pos rfl]; simp [lkF]
    · rw [if_neg e]; simp [lkF, e]
  · rw [hnode, if_neg hi, if_neg hi2]; exact ⟨rfl, rfl⟩
theorem ent_linked {σ : Fs} {p t : Str} {pb b : Nat} (hc : checkP p = 0) (hp : placeE σ p = 0) (hpb : lkF σ.files (parentP p) = some pb) (hb : lkF σ.files t = some b) (hk : (σ.node b).kind = 1) : Ent σ (linked σ p pb b) p (some t) 0 pb b := by
  obtain ⟨h1, h2⟩ := placed_dir hp hpb
  have hne : b ≠ pb := fun e => by rw [e, h2] at hk; omega
  have hnode : ∀ i, (linked σ p pb b).node i = if i = pb then addName (if pb = b then { σ.node b with links := (σ.node b).links + 1 } else σ.node pb) (baseP p) else if i = b then { σ.node b with links := (σ.node b).links + 1 } else σ.node i := fun i => rfl
  have hnp : (linked σ p pb b).node pb = addName (σ.node pb) (baseP p) := by rw [hnode, if_pos rfl, if_neg (Ne.symm hne)]
  have hnb : (linked σ p pb b).node b = { σ.node b with links := (σ.node b).links + 1 } := by rw [hnode, if_neg hne, if_pos rfl]
  refine ⟨fun q => ?_, h1, hc, ⟨hpb, h2⟩, hne, ⟨by rw [hnp]; exact h2, by rw [hnp]; rfl⟩, fun i hi hi2 => ?_, hb, hk, by rw [hnb]; exact hk, by rw [hnb]⟩
  · show lkF (σ.files ++ [(p, b)]) q = _
    rw [lkF_append]
    by_cases e : q = p
    · subst e; rw [h1, if_pos rfl]; simp [lkF]
    · rw [if_neg e]; simp [lkF, e]
  · rw [hnode, if_neg hi, if_neg hi2]; exact ⟨rfl, rfl⟩
/-- One call more, in both. -/
theorem next_two {σ σ' τ τ' : Fs} {a : AAct} (hs : Sim σ τ) (ht : Tidy σ) (h0 : doE σ a = 0) (hN : Next σ (Fresh σ) a σ') (hM : Next τ (Fresh τ) a τ') :
    Sim σ' τ' ∧ Tidy σ' ∧ (∀ d, IsDir σ d → IsDir σ' d) ∧ σ'.rot = σ.rot ∧ τ'.rot = τ.rot := by
  have h0' : doE τ a = 0 := by rw [← do_sim hs]; exact h0
  unfold Next at hN hM
  unfold doE at h0 h0'
  by_cases h3 : 0 ≤ a.kind ∧ a.kind ≤ 3
  · rw [if_pos h3] at hN hM h0 h0'
    obtain ⟨pb, b, hpb, hb, rfl⟩ := hN
    obtain ⟨pc, c, hpc, hc, rfl⟩ := hM
    have e1 := ent_made (make_parts h0).1 (make_parts h0).2 hpb hb (nd := newNd σ (mkK a) (mkM a) (mkT a) (mkD a)) rfl
    have e2 := ent_made (make_parts h0').1 (make_parts h0').2 hpc hc (nd := newNd τ (mkK a) (mkM a) (mkT a) (mkD a)) rfl
    exact ⟨e1.sim e2 hs, e1.tidy ht, fun d hd => e1.isDir hd, rfl, rfl⟩
  · rw [if_neg h3] at hN hM h0 h0'
    by_cases h4 : a.kind = 4
    · rw [if_pos h4] at hN hM h0 h0'
      obtain ⟨pb, b, hpb, hb, rfl⟩ := hN
      obtain ⟨pc, c, hpc, hc, rfl⟩ := hM
      obtain ⟨g1, g2, g3⟩ := link_parts h0
      obtain ⟨k1, k2, k3⟩ := link_parts h0'
      have e1 := ent_linked g1 g2 hpb hb (g3 b hb)
      have e2 := ent_linked k1 k2 hpc hc (k3 c hc)
      exact ⟨e1.sim e2 hs, e1.tidy ht, fun d hd => e1.isDir hd, rfl, rfl⟩
    · rw [if_neg h4] at hN hM
      have alike : ∀ (ρ : Fs) (b : Nat), FsLike ρ (setNode ρ b { ρ.node b with uid := a.mode, mtime := a.data.length }) := fun ρ b => ⟨rfl, fun i => by
        show (if i = b then ({ ρ.node b with uid := a.mode, mtime := a.data.length } : Nd) else ρ.node i).kind = _ ∧ (if i = b then ({ ρ.node b with uid := a.mode, mtime := a.data.length } : Nd) else ρ.node i).names = _
        split
        · rename_i e; rw [e]; exact ⟨rfl, rfl⟩
        · exact ⟨rfl, rfl⟩⟩
      by_cases h5 : a.kind = 5
      · rw [if_pos h5] at hN hM
        obtain ⟨b, hb, rfl⟩ := hN
        obtain ⟨c, hc, rfl⟩ := hM
        exact ⟨(alike σ b).sim (alike τ c) hs, (alike σ b).tidy ht, fun d hd => (alike σ b).isDir hd, rfl, rfl⟩
      · rw [if_neg h5] at hN hM
        subst hN hM
        exact ⟨hs, ht, fun d hd => hd, rfl, rfl⟩
theorem listed_perm (σ : Fs) (l : List Str) : (listed σ l).Perm l := by
  unfold listed
  simp only
  have h : ∀ k, (l.drop k ++ l.take k).Perm l := fun k => by
    have := List.perm_append_comm (l₁ := l.drop k) (l₂ := l.take k)
    rw [List.take_append_drop] at this
    exact this
  split
  · exact (List.reverse_perm _).trans (h _)
  · exact h _
theorem listed_plain (σ : Fs) (l : List Str) (h : σ.rot = []) : listed σ l = l := by
  unfold listed rotAt
  rw [h]
  simp
end Go.Proofs.YtoionaeimnmcbaaGreatDoor
