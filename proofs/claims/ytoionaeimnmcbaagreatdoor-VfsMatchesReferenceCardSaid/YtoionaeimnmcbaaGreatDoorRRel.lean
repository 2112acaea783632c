/- The file system and its reference stay alike. -/
import Derived.Test.YtoionaeimnmcbaaGreatDoorRDo
namespace Go.Pax
open Go.RowKit
theorem namesR_none {l : List (Str × Nat)} {d : Str} (h : ∀ x ∈ l, ¬ (x.1 ≠ [] ∧ parentP x.1 = d)) : namesR l d = [] := by
  have : ∀ (l : List (Str × Nat)) (out : List Str), (∀ x ∈ l, ¬ (x.1 ≠ [] ∧ parentP x.1 = d)) → l.foldl (nameStep d) out = out := by
    intro l
    induction l with
    | nil => intro out _; rfl
    | cons x l ih =>
      intro out h
      rw [List.foldl_cons]
      have h1 : nameStep d out x = out := by unfold nameStep; rw [if_neg (h x (by simp))]
      rw [h1]
      exact ih out fun y hy => h y (by simp [hy])
  exact this l [] h
theorem linksR_none {l : List (Str × Nat)} {i : Nat} (h : ∀ x ∈ l, x.2 ≠ i) : linksR l i = 0 := by
  unfold linksR
  rw [List.length_eq_zero_iff, List.filter_eq_nil_iff]
  intro x hx
  simpa using h x hx
theorem check_ne {p : Str} (h : checkP p = 0) : p ≠ [] := by
  rintro rfl
  exact absurd h (by decide)
theorem getD_snoc_lt (bs : List Nat) (b i : Nat) (h : i < bs.length) : (bs ++ [b]).getD i 0 = bs.getD i 0 := by
  simp [List.getD_eq_getElem?_getD, List.getElem?_append_left h]
theorem getD_snoc_eq (bs : List Nat) (b : Nat) : (bs ++ [b]).getD bs.length 0 = b := by
  simp [List.getD_eq_getElem?_getD]
theorem getD_mem {bs : List Nat} {i : Nat} (h : i < bs.length) : bs.getD i 0 ∈ bs := by
  simp [List.getD_eq_getElem?_getD, List.getElem?_eq_getElem h]
end Go.Pax
namespace Go.Proofs.YtoionaeimnmcbaaGreatDoor
open Go.RowKit Go.Pax Go.Shelf
/-- All but the new path is there. -/
structure PreRel (σ : Fs) (ρ : RFs) (bs : List Nat) (i : Nat) : Prop where
  nums : σ.step = ρ.step ∧ σ.rot = ρ.rot ∧ σ.lists = ρ.lists ∧ σ.next = ρ.first + (ρ.inodes.length : Int) * ρ.step
  len : bs.length = ρ.inodes.length
  nodup : bs.Nodup
  files : σ.files = ρ.paths.map fun x => (x.1, bs.getD x.2 0)
  idx : ∀ x ∈ ρ.paths, x.2 < bs.length
  node : ∀ j x, ρ.inodes[j]? = some x → NodeIs (σ.node (bs.getD j 0)) x
  links : ∀ j, j < bs.length → (σ.node (bs.getD j 0)).links = linksR ρ.paths j + if i = j then 1 else 0
  names : ∀ p j, lkF ρ.paths p = some j → (σ.node (bs.getD j 0)).kind = 0 → (σ.node (bs.getD j 0)).names = namesR ρ.paths p
  closed : ∀ x ∈ ρ.paths, x.1 ≠ [] → lkF ρ.paths (parentP x.1) ≠ none
  onto : ∀ j, j < bs.length → j ≠ i → ∃ p, (p, j) ∈ ρ.paths
theorem PreRel.enter {σ : Fs} {ρ : RFs} {bs : List Nat} {i pb b : Nat} {p : Str} (h : PreRel σ ρ bs i) (hi : i < bs.length) (hb : bs.getD i 0 = b) (hc : checkP p = 0) (hnew : lkF ρ.paths p = none)
    (hpb : lkF σ.files (parentP p) = some pb) (hkp : (σ.node pb).kind = 0) (hne : b ≠ pb) (hsort : (σ.node pb).names.Pairwise (· < ·)) (hmem : baseP p ∉ (σ.node pb).names) (hone : ∀ q, lkF σ.files q = some pb → q = parentP p)
    (hdir : (σ.node b).kind = 0 → (σ.node b).names = [] ∧ ∀ q, lkF ρ.paths q ≠ some i) : Rel (entered σ p pb b) { ρ with paths := ρ.paths ++ [(p, i)] } bs := by
  have hpne := check_ne hc
  have hlk : ∀ q, lkF σ.files q = (lkF ρ.paths q).map fun j => bs.getD j 0 := fun q => by rw [h.files]; exact lkF_map ρ.paths (fun j => bs.getD j 0) q
  have hnode : ∀ j, (entered σ p pb b).node j = if j = pb then addName (σ.node pb) (baseP p) else σ.node j := fun j => rfl
  have hpq : lkF ρ.paths (parentP p) ≠ none := fun e => by rw [hlk, e] at hpb; cases hpb
  refine ⟨h.nums, h.len, h.nodup, ?_, fun x hx => ?_, fun j x hx => ?_, fun j hj => ?_, fun q j hq hk => ?_, fun x hx hne' => ?_, fun j hj => ?_⟩
  · show σ.files ++ [(p, b)] = _
    rw [h.files, List.map_append, List.map_cons, List.map_nil, hb]
  · rcases List.mem_append.1 hx with hx | hx
    · exact h.idx x hx
    · simp at hx; subst hx; exact hi
  · have hn := h.node j x hx
    rw [hnode]
    split
    · rename_i e
      rw [e] at hn
      exact hn
    · exact hn
  · rw [hnode, linksR_snoc]
    have hl := h.links j hj
    split
    · rename_i e
      rw [e] at hl
      show (σ.node pb).links = _
      rw [hl]
      split <;> simp
    · rw [hl]
      split <;> simp
  · have hq2 : lkF (ρ.paths ++ [(p, i)]) q = some j := hq
    rw [lkF_append] at hq2
    rw [hnode] at hk ⊢
    rw [namesR_snoc]
    by_cases e : q = p
    · subst e
      rw [hnew] at hq2
      simp [lkF] at hq2
      subst hq2
      rw [hb] at hk ⊢
      rw [if_neg hne] at hk ⊢
      have hstep : nameStep q (namesR ρ.paths q) (q, i) = namesR ρ.paths q := by
        unfold nameStep
        rw [if_neg (fun hh => par_ne hpne hh.2)]
      rw [hstep, (hdir hk).1, namesR_none]
      intro x hx hh
      have := h.closed x hx hh.1
      rw [hh.2] at this
      exact this hnew
    · have hq3 : lkF ρ.paths q = some j := by
        rcases hl : lkF ρ.paths q with _ | j'
        · rw [hl] at hq2
          simp [lkF, e] at hq2
        · rw [hl] at hq2
          simpa using hq2
      have hqb : lkF σ.files q = some (bs.getD j 0) := by rw [hlk, hq3]; rfl
      by_cases ej : bs.getD j 0 = pb
      · rw [if_pos ej] at hk ⊢
        rw [ej] at hqb
        have hqp := hone q hqb
        have hn := h.names q j hq3 (by rw [ej]; exact hkp)
        rw [ej] at hn
        have hstep : nameStep q (namesR ρ.paths q) (p, i) = insR (namesR ρ.paths q) (baseP p) := by
          unfold nameStep
          rw [if_pos ⟨hpne, hqp.symm⟩]
        rw [hstep, ← hn]
        exact ins_same _ _ hsort hmem
      · rw [if_neg ej] at hk ⊢
        have hn := h.names q j hq3 hk
        have hstep : nameStep q (namesR ρ.paths q) (p, i) = namesR ρ.paths q := by
          unfold nameStep
          rw [if_neg (fun hh => ej (by
            have h2 := hh.2
            simp only at h2
            rw [h2, hqb] at hpb
            injection hpb))]
        rw [hstep]
        exact hn
  · show lkF (ρ.paths ++ [(p, i)]) (parentP x.1) ≠ none
    rw [lkF_append]
    have hx2 : lkF ρ.paths (parentP x.1) ≠ none := by
      rcases List.mem_append.1 hx with hx | hx
      · exact h.closed x hx hne'
      · simp at hx; subst hx; exact hpq
    intro e
    rw [Option.or_eq_none_iff] at e
    exact hx2 e.1
  · by_cases e : j = i
    · exact ⟨p, List.mem_append.2 (.inr (by simp [e]))⟩
    · obtain ⟨q, hq⟩ := h.onto j hj e
      exact ⟨q, List.mem_append.2 (.inl hq)⟩
theorem placeE_rel {σ : Fs} {ρ : RFs} {bs : List Nat} (h : Rel σ ρ bs) (p : Str) : placeE σ p = placeR ρ p := by
  unfold placeE placeR
  rw [h.lk, h.lk]
  cases h1 : lkF ρ.paths (parentP p) with
  | none => rfl
  | some i =>
    obtain ⟨hi, _, x, hx, hn⟩ := h.find h1
    have hnr : nodeR ρ i = x := by unfold nodeR; rw [List.getD_eq_getElem?_getD, hx]; rfl
    simp only [Option.map_some]
    rw [hnr, hn.1]
    cases lkF ρ.paths p <;> rfl
theorem makeE_rel {σ : Fs} {ρ : RFs} {bs : List Nat} (h : Rel σ ρ bs) (p : Str) (k m : Int) (t : Str) : makeE σ p k m t = makeRE ρ p k m t := by
  unfold makeE makeRE
  rw [placeE_rel h]
theorem linkE_rel {σ : Fs} {ρ : RFs} {bs : List Nat} (h : Rel σ ρ bs) (p t : Str) : linkE σ p t = linkRE ρ p t := by
  unfold linkE linkRE
  rw [placeE_rel h, h.lk]
  cases h1 : lkF ρ.paths t with
  | none => rfl
  | some i =>
    obtain ⟨hi, _, x, hx, hn⟩ := h.find h1
    have hnr : nodeR ρ i = x := by unfold nodeR; rw [List.getD_eq_getElem?_getD, hx]; rfl
    simp only [Option.map_some]
    rw [hnr, hn.1]
theorem chownE_rel {σ : Fs} {ρ : RFs} {bs : List Nat} (h : Rel σ ρ bs) (p : Str) : chownE σ p = chownRE ρ p := by
  unfold chownE chownRE
  rw [h.lk]
  cases lkF ρ.paths p <;> rfl
theorem do_rel {σ : Fs} {ρ : RFs} {bs : List Nat} (h : Rel σ ρ bs) (a : AAct) : doE σ a = refDoE ρ a := by
  unfold doE refDoE
  rw [makeE_rel h, linkE_rel h, chownE_rel h]
theorem not_named {σ : Fs} {p : Str} {pb : Nat} (ht : Tidy σ) (hc : checkP p = 0) (hnew : lkF σ.files p = none) (hpb : lkF σ.files (parentP p) = some pb) (hkp : (σ.node pb).kind = 0) : baseP p ∉ (σ.node pb).names := fun hm => by
  obtain ⟨_, c, hcc⟩ := ht.there _ _ hpb hkp _ hm
  rw [(join_base hc).1, hnew] at hcc
  cases hcc
theorem rel_made {σ : Fs} {ρ : RFs} {bs : List Nat} (h : Rel σ ρ bs) (ht : Tidy σ) {p t : Str} {k m : Int} {d : List UInt8} {pb b : Nat} (hc : checkP p = 0) (hp : placeE σ p = 0) (hpb : lkF σ.files (parentP p) = some pb) (hf : Fresh σ b) :
    Rel (made σ p (newNd σ k m t d) pb b) (madeR ρ p k m d t) (bs ++ [b]) := by
  obtain ⟨hnew, hkp⟩ := placed_dir hp hpb
  have hne : b ≠ pb := fun e => hf _ _ (lkF_mem hpb) e.symm
  have hnewR : lkF ρ.paths p = none := by
    have := h.lk p
    rw [hnew] at this
    rcases hh : lkF ρ.paths p with _ | j
    · rfl
    · rw [hh] at this; cases this
  have hnb : ∀ j, j < bs.length → bs.getD j 0 ≠ b := fun j hj => by
    obtain ⟨q, hq⟩ := h.onto j hj
    have hm : (q, bs.getD j 0) ∈ σ.files := by rw [h.files]; exact List.mem_map.2 ⟨_, hq, rfl⟩
    exact hf _ _ hm
  have hnodup : (bs ++ [b]).Nodup := by
    rw [List.nodup_append]
    refine ⟨h.nodup, by simp, fun x hx y hy => ?_⟩
    simp at hy; subst hy
    obtain ⟨j, hj, rfl⟩ := List.mem_iff_getElem.1 hx
    have := hnb j hj
    simpa [List.getD_eq_getElem?_getD, List.getElem?_eq_getElem hj] using this
  have hnode : ∀ i, (if i = b then newNd σ k m t d else σ.node i) = (if i = b then newNd σ k m t d else σ.node i) := fun _ => rfl
  have pre : PreRel { σ with next := σ.next + σ.step, node := fun i => if i = b then newNd σ k m t d else σ.node i } { ρ with inodes := ρ.inodes ++ [⟨k, m, ρ.first + (ρ.inodes.length : Int) * ρ.step, d, t, 0, 0⟩] } (bs ++ [b]) ρ.inodes.length := by
    refine ⟨⟨h.nums.1, h.nums.2.1, h.nums.2.2.1, ?_⟩, ?_, hnodup, ?_, fun x hx => ?_, fun j x hx => ?_, fun j hj => ?_, fun q j hq hk => ?_, h.closed, fun j hj hji => ?_⟩
    · show σ.next + σ.step = ρ.first + (((ρ.inodes ++ [_]).length : Nat) : Int) * ρ.step
      rw [h.nums.2.2.2, h.nums.1, List.length_append]
      simp only [List.length_cons, List.length_nil]
      push_cast
      rw [Int.add_mul]
      omega
    · simp [h.len]
    · show σ.files = _
      rw [h.files]
      refine List.map_congr_left fun x hx => ?_
      rw [getD_snoc_lt _ _ _ (h.idx x hx)]
    · have := h.idx x hx
      rw [List.length_append]; omega
    · show NodeIs (if (bs ++ [b]).getD j 0 = b then newNd σ k m t d else σ.node ((bs ++ [b]).getD j 0)) x
      by_cases hj : j < bs.length
      · rw [getD_snoc_lt _ _ _ hj, if_neg (hnb j hj)]
        have hx2 : (ρ.inodes ++ [_])[j]? = some x := hx
        rw [List.getElem?_append_left (by rw [← h.len]; exact hj)] at hx2
        exact h.node j x hx2
      · have hjl : j < (ρ.inodes ++ [(⟨k, m, ρ.first + (ρ.inodes.length : Int) * ρ.step, d, t, 0, 0⟩ : RNode)]).length := (List.getElem?_eq_some_iff.1 hx).1
        rw [List.length_append, ← h.len] at hjl
        have hjj : j = bs.length := by simp at hjl; omega
        subst hjj
        rw [getD_snoc_eq, if_pos rfl]
        have hx2 : (ρ.inodes ++ [(⟨k, m, ρ.first + (ρ.inodes.length : Int) * ρ.step, d, t, 0, 0⟩ : RNode)])[bs.length]? = some x := hx
        rw [h.len] at hx2
        simp at hx2
        subst hx2
        exact ⟨rfl, rfl, h.nums.2.2.2, rfl, rfl, rfl, rfl, rfl⟩
    · show (if (bs ++ [b]).getD j 0 = b then newNd σ k m t d else σ.node ((bs ++ [b]).getD j 0)).links = _
      by_cases hjb : j < bs.length
      · rw [getD_snoc_lt _ _ _ hjb, if_neg (hnb j hjb), if_neg (by rw [← h.len]; omega), h.links j hjb]
        simp
      · have hjj : j = bs.length := by rw [List.length_append] at hj; simp at hj; omega
        subst hjj
        rw [getD_snoc_eq, if_pos rfl, if_pos h.len.symm, linksR_none (fun x hx e => by have := h.idx x hx; omega)]
        rfl
    · have hjb : j < bs.length := h.idx _ (lkF_mem hq)
      show (if (bs ++ [b]).getD j 0 = b then newNd σ k m t d else σ.node ((bs ++ [b]).getD j 0)).names = _
      have hk2 : (if (bs ++ [b]).getD j 0 = b then newNd σ k m t d else σ.node ((bs ++ [b]).getD j 0)).kind = 0 := hk
      rw [getD_snoc_lt _ _ _ hjb, if_neg (hnb j hjb)] at hk2 ⊢
      exact h.names q j hq hk2
    · have hjb : j < bs.length := by rw [List.length_append] at hj; simp at hj; have := h.len; omega
      exact h.onto j hjb
  have hpbn : ((if pb = b then newNd σ k m t d else σ.node pb) : Nd) = σ.node pb := if_neg (Ne.symm hne)
  refine pre.enter (by rw [List.length_append, h.len]; simp) (by rw [← h.len]; exact getD_snoc_eq bs b) hc hnewR hpb (by show (if pb = b then newNd σ k m t d else σ.node pb).kind = 0; rw [hpbn]; exact hkp) hne ?_ ?_ (fun q hq => ht.one q _ pb hq hpb hkp) (fun _ => ⟨?_, fun q hq => ?_⟩)
  · show (if pb = b then newNd σ k m t d else σ.node pb).names.Pairwise (· < ·)
    rw [hpbn]
    exact ht.sorted _ _ hpb hkp
  · show baseP p ∉ (if pb = b then newNd σ k m t d else σ.node pb).names
    rw [hpbn]
    exact not_named ht hc hnew hpb hkp
  · show (if b = b then newNd σ k m t d else σ.node b).names = []
    rw [if_pos rfl]
    rfl
  · have := h.idx _ (lkF_mem hq)
    simp only at this
    rw [h.len] at this
    exact Nat.lt_irrefl _ this
theorem rel_linked {σ : Fs} {ρ : RFs} {bs : List Nat} (h : Rel σ ρ bs) (ht : Tidy σ) {p t : Str} {pb i : Nat} (hc : checkP p = 0) (hp : placeE σ p = 0) (hpb : lkF σ.files (parentP p) = some pb) (hi : lkF ρ.paths t = some i) (hk : (σ.node (bs.getD i 0)).kind = 1) :
    Rel (linked σ p pb (bs.getD i 0)) (linkedR ρ p i) bs := by
  obtain ⟨hnew, hkp⟩ := placed_dir hp hpb
  obtain ⟨hib, hlt, _⟩ := h.find hi
  have hne : bs.getD i 0 ≠ pb := fun e => by rw [e, hkp] at hk; exact absurd hk (by decide)
  have hnewR : lkF ρ.paths p = none := by
    have := h.lk p
    rw [hnew] at this
    rcases hh : lkF ρ.paths p with _ | j
    · rfl
    · rw [hh] at this; cases this
  generalize hB : bs.getD i 0 = b at *
  have hnd : ∀ j, (setNode σ b { σ.node b with links := (σ.node b).links + 1 }).node j = if j = b then { σ.node b with links := (σ.node b).links + 1 } else σ.node j := fun _ => rfl
  have pre : PreRel (setNode σ b { σ.node b with links := (σ.node b).links + 1 }) ρ bs i := by
    refine ⟨h.nums, h.len, h.nodup, h.files, h.idx, fun j x hx => ?_, fun j hj => ?_, fun q j hq hk2 => ?_, h.closed, fun j hj _ => h.onto j hj⟩
    · have hn := h.node j x hx
      rw [hnd]
      split
      · rename_i e
        rw [e] at hn
        exact hn
      · exact hn
    · rw [hnd]
      have hl := h.links j hj
      by_cases e : i = j
      · subst e
        rw [if_pos hB, if_pos rfl]
        rw [hB] at hl
        show (σ.node b).links + 1 = _
        rw [hl]
      · rw [if_neg (fun e2 => e (getD_inj h.nodup hib hj (hB.trans e2.symm))), if_neg e, hl]
        simp
    · rw [hnd] at hk2 ⊢
      split
      · rename_i e
        rw [if_pos e] at hk2
        have hk3 : (σ.node b).kind = 0 := hk2
        rw [hk3] at hk
        exact absurd hk (by decide)
      · rename_i e
        rw [if_neg e] at hk2
        exact h.names q j hq hk2
  have hpbn : (setNode σ b { σ.node b with links := (σ.node b).links + 1 }).node pb = σ.node pb := by rw [hnd, if_neg (Ne.symm hne)]
  have hbn : (setNode σ b { σ.node b with links := (σ.node b).links + 1 }).node b = { σ.node b with links := (σ.node b).links + 1 } := by rw [hnd, if_pos rfl]
  refine pre.enter hib hB hc hnewR hpb (by rw [hpbn]; exact hkp) hne (by rw [hpbn]; exact ht.sorted _ _ hpb hkp) (by rw [hpbn]; exact not_named ht hc hnew hpb hkp) (fun q hq => ht.one q _ pb hq hpb hkp) (fun h0 => ?_)
  rw [hbn] at h0
  have h1 : (σ.node b).kind = 0 := h0
  rw [h1] at hk
  exact absurd hk (by decide)
theorem rel_chowned {σ : Fs} {ρ : RFs} {bs : List Nat} (h : Rel σ ρ bs) {p : Str} {i : Nat} (u m : Int) (hi : lkF ρ.paths p = some i) :
    Rel (setNode σ (bs.getD i 0) { σ.node (bs.getD i 0) with uid := u, mtime := m }) (chownedR ρ i u m) bs := by
  obtain ⟨hib, hlt, x, hx, hnx⟩ := h.find hi
  have hnr : nodeR ρ i = x := by unfold nodeR; rw [List.getD_eq_getElem?_getD, hx]; rfl
  generalize hB : bs.getD i 0 = b at *
  have hnd : ∀ j, (setNode σ b { σ.node b with uid := u, mtime := m }).node j = if j = b then { σ.node b with uid := u, mtime := m } else σ.node j := fun _ => rfl
  refine ⟨⟨h.nums.1, h.nums.2.1, h.nums.2.2.1, ?_⟩, ?_, h.nodup, h.files, h.idx, fun j y hy => ?_, fun j hj => ?_, fun q j hq hk2 => ?_, h.closed, h.onto⟩
  · show σ.next = ρ.first + (((ρ.inodes.set i _).length : Nat) : Int) * ρ.step
    rw [List.length_set]
    exact h.nums.2.2.2
  · show bs.length = (ρ.inodes.set i _).length
    rw [List.length_set]
    exact h.len
  · have hy2 : (ρ.inodes.set i { nodeR ρ i with uid := u, mtime := m })[j]? = some y := hy
    rw [List.getElem?_set] at hy2
    rw [hnd]
    by_cases e : i = j
    · subst e
      rw [if_pos rfl, if_pos (by rw [← h.len]; exact hib)] at hy2
      injection hy2 with hy2
      subst hy2
      rw [if_pos hB, hnr]
      obtain ⟨a1, a2, a3, a4, a5, a6, a7, a8⟩ := hnx
      exact ⟨a1, a2, a3, a4, a5, rfl, rfl, a8⟩
    · rw [if_neg e] at hy2
      have hj : j < bs.length := by rw [h.len]; exact (List.getElem?_eq_some_iff.1 hy2).1
      rw [if_neg (fun e2 => e (getD_inj h.nodup hib hj (hB.trans e2.symm)))]
      exact h.node j y hy2
  · rw [hnd]
    have hl := h.links j hj
    split
    · rename_i e
      rw [e] at hl
      exact hl
    · exact hl
  · rw [hnd] at hk2 ⊢
    split
    · rename_i e
      rw [if_pos e] at hk2
      have hn := h.names q j hq (by rw [e]; exact hk2)
      rw [e] at hn
      exact hn
    · rename_i e
      rw [if_neg e] at hk2
      exact h.names q j hq hk2
/-- One call more, in both. -/
theorem rel_next {σ σ' : Fs} {ρ ρ' : RFs} {bs : List Nat} {a : AAct} (h : Rel σ ρ bs) (ht : Tidy σ) (h0 : doE σ a = 0) (hN : Next σ (Fresh σ) a σ') (hM : RefNext ρ a ρ') : ∃ bs', Rel σ' ρ' bs' := by
  unfold Next at hN
  unfold RefNext at hM
  unfold doE at h0
  by_cases h3 : 0 ≤ a.kind ∧ a.kind ≤ 3
  · rw [if_pos h3] at hN hM h0
    obtain ⟨pb, b, hpb, hb, rfl⟩ := hN
    subst hM
    exact ⟨_, rel_made h ht (make_parts h0).1 (make_parts h0).2 hpb hb⟩
  · rw [if_neg h3] at hN hM h0
    by_cases h4 : a.kind = 4
    · rw [if_pos h4] at hN hM h0
      obtain ⟨pb, b, hpb, hb, rfl⟩ := hN
      obtain ⟨i, hi, rfl⟩ := hM
      obtain ⟨g1, g2, g3⟩ := link_parts h0
      have hlt := (h.find hi).2.1
      rw [hb] at hlt
      injection hlt with hlt
      subst hlt
      exact ⟨_, rel_linked h ht g1 g2 hpb hi (g3 _ hb)⟩
    · rw [if_neg h4] at hN hM
      by_cases h5 : a.kind = 5
      · rw [if_pos h5] at hN hM
        obtain ⟨b, hb, rfl⟩ := hN
        obtain ⟨i, hi, rfl⟩ := hM
        have hlt := (h.find hi).2.1
        rw [hb] at hlt
        injection hlt with hlt
        subst hlt
        exact ⟨_, rel_chowned h a.mode a.data.length hi⟩
      · rw [if_neg h5] at hN hM
        subst hN hM
        exact ⟨_, h⟩
end Go.Proofs.YtoionaeimnmcbaaGreatDoor
