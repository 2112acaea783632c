/- The file system and its reference: what the reference holds, and that they stay alike. -/
import Derived.Test.YtoionaeimnmcbaaGreatDoorVTwoB
namespace Go.Pax
open Go.RowKit
structure RNode where
  kind : Int
  mode : Int
  number : Int
  data : List UInt8
  target : Str
  uid : Int
  mtime : Int
  deriving Inhabited
structure RFs where
  first : Int
  step : Int
  rot : List Int
  inodes : List RNode
  paths : List (Str × Nat)
  lists : Int
def linksR (l : List (Str × Nat)) (i : Nat) : Nat := (l.filter fun x => decide (x.2 = i)).length
/-- The reference's insertion: from the right. -/
def insK (l : List Str) (s : Str) : Nat → Nat
  | 0 => 0
  | k + 1 => if s < l.getD k [] then insK l s k else k + 1
def insR (l : List Str) (s : Str) : List Str := l.take (insK l s l.length) ++ s :: l.drop (insK l s l.length)
def nameStep (d : Str) (out : List Str) (x : Str × Nat) : List Str := if x.1 ≠ [] ∧ parentP x.1 = d then insR out (baseP x.1) else out
def namesR (l : List (Str × Nat)) (d : Str) : List Str := l.foldl (nameStep d) []
theorem namesR_snoc (l : List (Str × Nat)) (x : Str × Nat) (d : Str) : namesR (l ++ [x]) d = nameStep d (namesR l d) x := by simp [namesR, List.foldl_append]
theorem insK_cut (l : List Str) (s : Str) (hs : l.Pairwise (· < ·)) : ∀ k, k ≤ l.length → (∀ t (h : t < l.length), k ≤ t → s < l[t]) → insK l s k ≤ k ∧ (∀ t (h : t < l.length), t < insK l s k → ¬ s < l[t]) ∧ ∀ t (h : t < l.length), insK l s k ≤ t → s < l[t]
  | 0, _, h => ⟨Nat.le_refl _, fun t _ ht => by simp [insK] at ht, fun t ht _ => h t ht (Nat.zero_le _)⟩
  | k + 1, hk, h => by
    unfold insK
    have hkl : k < l.length := by omega
    have hg : l.getD k [] = l[k] := by simp [hkl]
    rw [hg]
    by_cases hlt : s < l[k]
    · rw [if_pos hlt]
      obtain ⟨a, b, c⟩ := insK_cut l s hs k (by omega) (fun t ht hkt => by
        rcases Nat.lt_or_eq_of_le hkt with h1 | h1
        · exact h t ht (by omega)
        · subst h1; exact hlt)
      exact ⟨by omega, b, c⟩
    · rw [if_neg hlt]
      refine ⟨Nat.le_refl _, fun t ht htk => ?_, fun t ht htk => h t ht htk⟩
      rcases Nat.lt_or_eq_of_le (Nat.le_of_lt_succ htk) with h1 | h1
      · intro h2
        exact hlt (slt_trans h2 (List.pairwise_iff_getElem.1 hs t k ht hkl h1))
      · subst h1; exact hlt
/-- Both insertions find one place. -/
theorem ins_same (l : List Str) (s : Str) (hs : l.Pairwise (· < ·)) (hx : s ∉ l) : insAt l (bsI (l.map ba) (ba s)) s = insR l s := by
  obtain ⟨a1, a2, a3⟩ := bsI_cut l s hs
  obtain ⟨b1, b2, b3⟩ := insK_cut l s hs l.length (Nat.le_refl _) (fun t ht h => by omega)
  have e : bsI (l.map ba) (ba s) = insK l s l.length := by
    generalize bsI (l.map ba) (ba s) = i at *
    generalize insK l s l.length = k at *
    rcases Nat.lt_trichotomy i k with h | h | h
    · have hi : i < l.length := by omega
      have h1 := a3 i hi (Nat.le_refl _)
      have h2 := b2 i hi h
      exact absurd (slt_total h1 (fun e => hx (e ▸ List.getElem_mem hi))) h2
    · exact h
    · have hk : k < l.length := by omega
      have h1 := a2 k hk h
      have h2 := b3 k hk (Nat.le_refl _)
      exact absurd (slt_trans h1 h2) (slt_irrefl _)
  unfold insAt insR
  rw [e]
/-- A file and its reference. -/
def NodeIs (nd : Nd) (x : RNode) : Prop := nd.kind = x.kind ∧ nd.mode = x.mode ∧ nd.ino = x.number ∧ nd.size = x.data.length ∧ nd.target = x.target ∧ nd.uid = x.uid ∧ nd.mtime = x.mtime ∧ nd.data = x.data
structure Rel (σ : Fs) (ρ : RFs) (bs : List Nat) : Prop where
  nums : σ.step = ρ.step ∧ σ.rot = ρ.rot ∧ σ.lists = ρ.lists ∧ σ.next = ρ.first + (ρ.inodes.length : Int) * ρ.step
  len : bs.length = ρ.inodes.length
  nodup : bs.Nodup
  files : σ.files = ρ.paths.map fun x => (x.1, bs.getD x.2 0)
  idx : ∀ x ∈ ρ.paths, x.2 < bs.length
  node : ∀ i x, ρ.inodes[i]? = some x → NodeIs (σ.node (bs.getD i 0)) x
  links : ∀ i, i < bs.length → (σ.node (bs.getD i 0)).links = linksR ρ.paths i
  names : ∀ p i, lkF ρ.paths p = some i → (σ.node (bs.getD i 0)).kind = 0 → (σ.node (bs.getD i 0)).names = namesR ρ.paths p
  closed : ∀ x ∈ ρ.paths, x.1 ≠ [] → lkF ρ.paths (parentP x.1) ≠ none
  onto : ∀ i, i < bs.length → ∃ p, (p, i) ∈ ρ.paths
theorem lkF_map (l : List (Str × Nat)) (g : Nat → Nat) (p : Str) : lkF (l.map fun x => (x.1, g x.2)) p = (lkF l p).map g := by
  induction l with
  | nil => rfl
  | cons x l ih =>
    simp only [List.map_cons, lkF]
    split
    · rfl
    · exact ih
theorem Rel.lk {σ : Fs} {ρ : RFs} {bs : List Nat} (h : Rel σ ρ bs) (p : Str) : lkF σ.files p = (lkF ρ.paths p).map fun i => bs.getD i 0 := by rw [h.files]; exact lkF_map ρ.paths (fun i => bs.getD i 0) p
theorem Rel.find {σ : Fs} {ρ : RFs} {bs : List Nat} (h : Rel σ ρ bs) {p : Str} {i : Nat} (hp : lkF ρ.paths p = some i) : i < bs.length ∧ lkF σ.files p = some (bs.getD i 0) ∧ ∃ x, ρ.inodes[i]? = some x ∧ NodeIs (σ.node (bs.getD i 0)) x := by
  have hi : i < bs.length := h.idx _ (lkF_mem hp)
  refine ⟨hi, by rw [h.lk, hp]; rfl, _, List.getElem?_eq_getElem (by rw [← h.len]; exact hi), h.node i _ (List.getElem?_eq_getElem _)⟩
theorem getD_inj {bs : List Nat} (hn : bs.Nodup) {i j : Nat} (hi : i < bs.length) (hj : j < bs.length) (h : bs.getD i 0 = bs.getD j 0) : i = j := by
  simp only [List.getD, List.getElem?_eq_getElem hi, List.getElem?_eq_getElem hj, Option.getD_some] at h
  exact (List.getElem_inj hn).1 h
theorem par_ne {p : Str} (h : p ≠ []) : parentP p ≠ p := by
  intro e
  have hlt := lastSl_lt p
  unfold parentP at e
  split at e
  · exact h e.symm
  · have := congrArg List.length e
    rw [List.length_take] at this
    have hp : 0 < p.length := List.length_pos_iff.2 h
    omega
theorem linksR_snoc (l : List (Str × Nat)) (p : Str) (i j : Nat) : linksR (l ++ [(p, i)]) j = linksR l j + if i = j then 1 else 0 := by
  unfold linksR
  rw [List.filter_append, List.length_append]
  by_cases h : i = j <;> simp [h]
/-- The root alone. -/
def newR (first step : Int) (rot : List Int) : RFs := ⟨first, step, rot, [⟨0, 493, first, [], [], 0, 0⟩], [([], 0)], 0⟩
theorem rel_new (first step : Int) (rot : List Int) (b : Nat) : Rel (newFs first step rot b) (newR first step rot) [b] := by
  refine ⟨⟨rfl, rfl, rfl, ?_⟩, rfl, by simp, rfl, fun x hx => ?_, fun i x hx => ?_, fun i hi => ?_, fun p i hp hk => ?_, fun x hx hne => ?_, fun i hi => ⟨[], by simp at hi; subst hi; simp [newR]⟩⟩
  · simp [newFs, newR]
  · simp [newR] at hx; subst hx; simp
  · have hi : i = 0 := by have := (List.getElem?_eq_some_iff.1 hx).1; simp [newR] at this; exact this
    subst hi
    simp [newR] at hx
    subst hx
    exact ⟨rfl, rfl, rfl, rfl, rfl, rfl, rfl, rfl⟩
  · have h0 : i = 0 := by simp at hi; exact hi
    subst h0
    simp [newFs, rootNd, newR, linksR]
  · simp only [newR, lkF] at hp
    split at hp
    · rename_i e
      injection hp with hp
      subst hp e
      simp [newFs, rootNd, namesR, newR, nameStep]
    · cases hp
  · simp [newR] at hx; subst hx; exact absurd rfl hne
end Go.Pax
