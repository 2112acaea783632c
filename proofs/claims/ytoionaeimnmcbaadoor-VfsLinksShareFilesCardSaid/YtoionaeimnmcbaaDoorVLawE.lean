/- paxtarlaw19.VfsLinksShareFiles: the plain law. -/
import Derived.Test.YtoionaeimnmcbaaDoorVLawB
namespace Go.Pax
open Go.RowKit
/-- The law's names: f, fx, fxx .. -/
def nm (i : Nat) : Str := 102 :: List.replicate i 120
theorem nm_inj {i j : Nat} (h : nm i = nm j) : i = j := by
  have := congrArg List.length h
  simpa [nm] using this
theorem nm_add (i : Nat) : nm i ++ [120] = nm (i + 1) := by
  unfold nm
  rw [List.cons_append, ← List.replicate_succ']
theorem nm_ba (i : Nat) : ba (nm i) ++ ba [120] = ba (nm (i + 1)) := by
  rw [← nm_add]
  apply ByteArray.ext
  simp [ba]
theorem nm_ok : ∀ i < 21, checkP (nm i) = 0 ∧ parentP (nm i) = [] := by decide +kernel
/-- The file system when the file has i + 1 names. -/
structure Sh (σ : Fs) (r b i : Nat) (d : List UInt8) (uid mt : Int) : Prop where
  ne : r ≠ b
  root : lkF σ.files [] = some r ∧ (σ.node r).kind = 0
  look : ∀ j, j ≤ i → lkF σ.files (nm j) = some b
  fresh : ∀ j, i < j → lkF σ.files (nm j) = none
  node : (σ.node b).kind = 1 ∧ (σ.node b).mode = 420 ∧ (σ.node b).ino = 2 ∧ (σ.node b).links = (i : Int) + 1 ∧ (σ.node b).size = d.length ∧ (σ.node b).target = [] ∧ (σ.node b).uid = uid ∧ (σ.node b).mtime = mt
  data : (σ.node b).data = d ∧ (σ.node r).data = []
  all : ∀ p b', (p, b') ∈ σ.files → b' = r ∨ b' = b
theorem Sh.len {σ : Fs} {r b i : Nat} {d : List UInt8} {uid mt : Int} (h : Sh σ r b i d uid mt) (hd : d.length ≤ 1000) : ∀ p b', (p, b') ∈ σ.files → (σ.node b').data.length ≤ 140737488355328 := fun p b' hb => by
  rcases h.all p b' hb with rfl | rfl
  · rw [h.data.2]; simp
  · rw [h.data.1]; omega
theorem lkF_none_of {l : List (Str × Nat)} {p q : Str} {b : Nat} (h : lkF l q = none) (hne : q ≠ p) : lkF (l ++ [(p, b)]) q = none := by
  rw [lkF_append, h]
  simp [lkF, hne]
end Go.Pax
namespace Go.Proofs.YtoionaeimnmcbaaDoor
open Go.RowKit Go.Pax Go.Shelf
theorem sh_first {r : Nat} {σ' : Fs} {d : List UInt8} (hN : Next (newFs 1 1 [] r) (Fresh (newFs 1 1 [] r)) ⟨1, nm 0, 420, d, []⟩ σ') : ∃ b, Sh σ' r b 0 d 0 0 := by
  unfold Next at hN
  rw [if_pos (by simp)] at hN
  obtain ⟨pb, b, hpb, hb, rfl⟩ := hN
  have hp : parentP (nm 0) = [] := (nm_ok 0 (by omega)).2
  rw [hp] at hpb
  simp [newFs, lkF] at hpb
  subst hpb
  have hne : r ≠ b := hb [] r (by simp [newFs])
  refine ⟨b, hne, ⟨rfl, ?_⟩, ?_, ?_, ?_, ?_, ?_⟩
  · show (if r = r then addName (if r = b then _ else rootNd 1) (baseP (nm 0)) else _).kind = 0
    rw [if_pos rfl, if_neg hne]
    rfl
  · intro j hj
    obtain rfl : j = 0 := by omega
    rfl
  · intro j hj
    show lkF ([([], r)] ++ [(nm 0, b)]) (nm j) = none
    have h1 : nm j ≠ [] := by simp [nm]
    have h2 : nm j ≠ nm 0 := fun e => by have := nm_inj e; omega
    simp [lkF, h1, h2]
  · have : (made (newFs 1 1 [] r) (nm 0) (newNd (newFs 1 1 [] r) (mkK ⟨1, nm 0, 420, d, []⟩) (mkM ⟨1, nm 0, 420, d, []⟩) (mkT ⟨1, nm 0, 420, d, []⟩) (mkD ⟨1, nm 0, 420, d, []⟩)) r b).node b = newNd (newFs 1 1 [] r) 1 420 [] d := by
      show (if b = r then _ else if b = b then newNd (newFs 1 1 [] r) 1 420 [] d else _) = _
      rw [if_neg (Ne.symm hne), if_pos rfl]
    rw [this]
    exact ⟨rfl, rfl, rfl, rfl, rfl, rfl, rfl, rfl⟩
  · constructor
    · show (if b = r then addName (if r = b then _ else rootNd 1) (baseP (nm 0)) else if b = b then newNd (newFs 1 1 [] r) 1 420 [] d else _).data = d
      rw [if_neg (Ne.symm hne), if_pos rfl]
      rfl
    · show (if r = r then addName (if r = b then _ else rootNd 1) (baseP (nm 0)) else _).data = []
      rw [if_pos rfl, if_neg hne]
      rfl
  · intro p b' hm
    have hm' : (p, b') ∈ [(([] : Str), r)] ++ [(nm 0, b)] := hm
    simp at hm'
    rcases hm' with h | h
    · exact .inl h.2
    · exact .inr h.2
theorem sh_create (r : Nat) : makeE (newFs 1 1 [] r) (nm 0) 1 420 [] = 0 := by
  obtain ⟨h1, h2⟩ := nm_ok 0 (by omega)
  unfold makeE placeE
  rw [h1, h2]
  simp [newFs, lkF, nm, rootNd]
theorem sh_linkE {σ : Fs} {r b i : Nat} {d : List UInt8} {uid mt : Int} (h : Sh σ r b i d uid mt) (hi : i < 20) : linkE σ (nm (i + 1)) (nm i) = 0 := by
  obtain ⟨h1, h2⟩ := nm_ok (i + 1) (by omega)
  unfold linkE placeE
  rw [h1, h2, h.root.1, h.look i (Nat.le_refl _), h.fresh (i + 1) (by omega)]
  simp [h.root.2, h.node.1]
theorem sh_next {σ σ' : Fs} {r b i : Nat} {d : List UInt8} {uid mt : Int} (h : Sh σ r b i d uid mt) (hi : i < 20) (hN : Next σ (Fresh σ) ⟨4, nm (i + 1), 0, [], nm i⟩ σ') : Sh σ' r b (i + 1) d uid mt := by
  unfold Next at hN
  obtain ⟨pb, b', hpb, hb', rfl⟩ := hN
  have hp : parentP (nm (i + 1)) = [] := (nm_ok (i + 1) (by omega)).2
  have e1 : lkF σ.files (parentP (nm (i + 1))) = some pb := hpb
  have e2 : lkF σ.files (nm i) = some b' := hb'
  rw [hp, h.root.1] at e1
  rw [h.look i (Nat.le_refl _)] at e2
  cases e1; cases e2
  have hnode : ∀ j, (linked σ (nm (i + 1)) r b).node j = if j = r then addName (if r = b then { σ.node b with links := (σ.node b).links + 1 } else σ.node r) (baseP (nm (i + 1))) else if j = b then { σ.node b with links := (σ.node b).links + 1 } else σ.node j := fun j => rfl
  have hfl : (linked σ (nm (i + 1)) r b).files = σ.files ++ [(nm (i + 1), b)] := rfl
  have hnr : (linked σ (nm (i + 1)) r b).node r = addName (σ.node r) (baseP (nm (i + 1))) := by rw [hnode, if_pos rfl, if_neg h.ne]
  have hnb : (linked σ (nm (i + 1)) r b).node b = { σ.node b with links := (σ.node b).links + 1 } := by rw [hnode, if_neg (Ne.symm h.ne), if_pos rfl]
  refine ⟨h.ne, ⟨by rw [hfl, lkF_append, h.root.1]; rfl, by rw [hnr]; exact h.root.2⟩, ?_, ?_, ?_, ?_, ?_⟩
  · intro j hj
    rw [hfl, lkF_append]
    by_cases hji : j ≤ i
    · rw [h.look j hji]; rfl
    · obtain rfl : j = i + 1 := by omega
      rw [h.fresh _ (by omega)]
      simp [lkF]
  · intro j hj
    rw [hfl]
    exact lkF_none_of (h.fresh j (by omega)) (fun e => by have := nm_inj e; omega)
  · obtain ⟨g1, g2, g3, g4, g5, g6, g7, g8⟩ := h.node
    rw [hnb]
    exact ⟨g1, g2, g3, by simp only [g4]; omega, g5, g6, g7, g8⟩
  · rw [hnb, hnr]
    exact ⟨h.data.1, h.data.2⟩
  · intro p b' hm
    rw [hfl] at hm
    rcases List.mem_append.1 hm with hm | hm
    · exact h.all p b' hm
    · simp at hm; exact .inr hm.2
theorem sh_chown {σ : Fs} {r b i : Nat} {d : List UInt8} {uid mt : Int} (h : Sh σ r b i d uid mt) (u m : Int) : Sh (setNode σ b { σ.node b with uid := u, mtime := m }) r b i d u m := by
  have hnode : ∀ j, (setNode σ b { σ.node b with uid := u, mtime := m }).node j = if j = b then { σ.node b with uid := u, mtime := m } else σ.node j := fun j => rfl
  have hnb := hnode b
  rw [if_pos rfl] at hnb
  have hnr := hnode r
  rw [if_neg h.ne] at hnr
  obtain ⟨g1, g2, g3, g4, g5, g6, g7, g8⟩ := h.node
  exact ⟨h.ne, ⟨h.root.1, by rw [hnr]; exact h.root.2⟩, h.look, h.fresh, by rw [hnb]; exact ⟨g1, g2, g3, g4, g5, g6, rfl, rfl⟩, by rw [hnb, hnr]; exact h.data, h.all⟩
theorem sh_stat {σ : Fs} {r b i : Nat} {d : List UInt8} {uid mt : Int} (h : Sh σ r b i d uid mt) (j : Nat) (hj : j ≤ i) :
    lstatV σ (nm j) = .tuple #[.agg #[.int .i64 1, .int .i64 420, .int .i64 2, .int .i64 ((i : Int) + 1), .int .i64 d.length, .string ⟨#[]⟩, .int .i64 uid, .int .i64 mt], .int .i64 0] := by
  obtain ⟨g1, g2, g3, g4, g5, g6, g7, g8⟩ := h.node
  unfold lstatV
  rw [h.look j hj]
  simp only [infoV, g1, g2, g3, g4, g5, g6, g7, g8]
  rfl
theorem sh_read {σ : Fs} {r b i : Nat} {d : List UInt8} {uid mt : Int} (h : Sh σ r b i d uid mt) (j : Nat) (hj : j ≤ i) : readE σ (nm j) = 0 := by
  unfold readE
  rw [h.look j hj]
  simp [h.node.1]
end Go.Proofs.YtoionaeimnmcbaaDoor
