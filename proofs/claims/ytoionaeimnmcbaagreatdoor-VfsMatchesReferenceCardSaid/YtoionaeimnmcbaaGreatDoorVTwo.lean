/- Two file systems that were given the same calls; the names of a directory. -/
import Derived.Test.YtoionaeimnmcbaaGreatDoorVOrd
namespace Go.Pax
open Go.RowKit
def joinP (d s : Str) : Str := if d = [] then s else d ++ 47 :: s
theorem join_base {p : Str} (h : checkP p = 0) : joinP (parentP p) (baseP p) = p ∧ 47 ∉ baseP p := by
  rcases lastSl_spec p with ⟨h1, h2⟩ | ⟨i, hi, h1, h2, h3⟩
  · have e1 : parentP p = [] := by unfold parentP; rw [h1]; rfl
    have e2 : baseP p = p := by unfold baseP; rw [h1]; rfl
    rw [e1, e2]
    exact ⟨by unfold joinP; rw [if_pos rfl], h2⟩
  · have e1 : parentP p = p.take i := by unfold parentP; rw [h1, if_neg (by omega)]; rfl
    have e2 : baseP p = p.drop (i + 1) := by unfold baseP; rw [h1]; congr 1
    have hsp : p = p.take i ++ 47 :: p.drop (i + 1) := by
      have h4 := List.take_append_drop i p
      have h5 : p.drop i = 47 :: p.drop (i + 1) := by
        rw [List.drop_eq_getElem_cons hi]
        rw [List.getElem?_eq_getElem hi] at h2
        injection h2 with h2
        rw [h2]
      rw [h5] at h4
      exact h4.symm
    have hne : p.take i ≠ [] := by
      intro he
      rw [he, List.nil_append] at hsp
      have hc : (compsL p).any badC = true := by
        rw [hsp]
        have := compsL_some (a := []) (b := p.drop (i + 1)) (by simp)
        rw [List.nil_append] at this
        rw [this]
        simp [badC]
      unfold checkP at h
      split at h
      · cases h
      · first | (rw [if_pos hc] at h; cases h) | cases h
    rw [e1, e2]
    refine ⟨?_, h3⟩
    unfold joinP
    rw [if_neg hne]
    exact hsp.symm
theorem join_len (d s : Str) : s.length ≤ (joinP d s).length := by
  unfold joinP
  split
  · exact Nat.le_refl _
  · simp; omega
/-- A directory. -/
def IsDir (σ : Fs) (d : Str) : Prop := ∃ b, lkF σ.files d = some b ∧ (σ.node b).kind = 0
/-- The names of each directory. -/
structure Tidy (σ : Fs) : Prop where
  sorted : ∀ d b, lkF σ.files d = some b → (σ.node b).kind = 0 → (σ.node b).names.Pairwise (· < ·)
  there : ∀ d b, lkF σ.files d = some b → (σ.node b).kind = 0 → ∀ s ∈ (σ.node b).names, 47 ∉ s ∧ ∃ c, lkF σ.files (joinP d s) = some c
  one : ∀ d d' b, lkF σ.files d = some b → lkF σ.files d' = some b → (σ.node b).kind = 0 → d = d'
  short : ∀ p b, lkF σ.files p = some b → p.length ≤ 65536
/-- Two file systems alike but for their blocks, numbers, owners. -/
structure Sim (σ τ : Fs) : Prop where
  at_ : ∀ p, lkF σ.files p = none ↔ lkF τ.files p = none
  node : ∀ p b c, lkF σ.files p = some b → lkF τ.files p = some c → (σ.node b).kind = (τ.node c).kind ∧ (σ.node b).names = (τ.node c).names
  same : ∀ p q b c b' c', lkF σ.files p = some b → lkF τ.files p = some c → lkF σ.files q = some b' → lkF τ.files q = some c' → (b = b' ↔ c = c')
/-- A path has been entered: a new file, or one more name of the file at t. -/
structure Ent (σ σ' : Fs) (p : Str) (t : Option Str) (k : Int) (pb b : Nat) : Prop where
  lk : ∀ q, lkF σ'.files q = if q = p then some b else lkF σ.files q
  new : lkF σ.files p = none
  ok : checkP p = 0
  par : lkF σ.files (parentP p) = some pb ∧ (σ.node pb).kind = 0
  ne : b ≠ pb
  pnode : (σ'.node pb).kind = 0 ∧ (σ'.node pb).names = insAt (σ.node pb).names (bsI ((σ.node pb).names.map ba) (ba (baseP p))) (baseP p)
  other : ∀ i, i ≠ pb → i ≠ b → (σ'.node i).kind = (σ.node i).kind ∧ (σ'.node i).names = (σ.node i).names
  it : match t with
    | none => (∀ q, lkF σ.files q ≠ some b) ∧ (σ'.node b).kind = k ∧ (σ'.node b).names = []
    | some r => lkF σ.files r = some b ∧ (σ.node b).kind = 1 ∧ (σ'.node b).kind = 1 ∧ (σ'.node b).names = (σ.node b).names
theorem Ent.old {σ σ' : Fs} {p : Str} {t : Option Str} {k : Int} {pb b : Nat} (h : Ent σ σ' p t k pb b) {q : Str} {x : Nat} (hq : lkF σ.files q = some x) : lkF σ'.files q = some x := by
  rw [h.lk, if_neg (fun e => by rw [e, h.new] at hq; cases hq)]
  exact hq
/-- What a path leads to, behind it. -/
theorem Ent.cases {σ σ' : Fs} {p : Str} {t : Option Str} {k : Int} {pb b : Nat} (h : Ent σ σ' p t k pb b) {q : Str} {x : Nat} (hq : lkF σ'.files q = some x) :
    (q = p ∧ x = b) ∨ (q ≠ p ∧ lkF σ.files q = some x) := by
  rw [h.lk] at hq
  split at hq
  · rename_i e; injection hq with hq; exact .inl ⟨e, hq.symm⟩
  · rename_i e; exact .inr ⟨e, hq⟩
theorem Ent.dir {σ σ' : Fs} {p : Str} {t : Option Str} {k : Int} {pb b : Nat} (h : Ent σ σ' p t k pb b) {d : Str} {x : Nat} (hd : lkF σ.files d = some x) (hk : (σ.node x).kind = 0) : lkF σ'.files d = some x ∧ (σ'.node x).kind = 0 := by
  refine ⟨h.old hd, ?_⟩
  by_cases h1 : x = pb
  · subst h1; exact h.pnode.1
  · have h2 : x ≠ b := by
      rintro rfl
      have hi := h.it
      cases t with
      | none => exact hi.1 d hd
      | some r => have := hi.2.1; omega
    rw [(h.other x h1 h2).1]; exact hk
theorem Ent.isDir {σ σ' : Fs} {p : Str} {t : Option Str} {k : Int} {pb b : Nat} (h : Ent σ σ' p t k pb b) {d : Str} (hd : IsDir σ d) : IsDir σ' d := by
  obtain ⟨x, h1, h2⟩ := hd
  exact ⟨x, h.dir h1 h2⟩
theorem Ent.tidy {σ σ' : Fs} {p : Str} {t : Option Str} {k : Int} {pb b : Nat} (h : Ent σ σ' p t k pb b) (ht : Tidy σ) : Tidy σ' := by
  obtain ⟨hj, hns⟩ := join_base h.ok
  have hnew : baseP p ∉ (σ.node pb).names := fun hm => by
    obtain ⟨_, c, hc⟩ := ht.there _ _ h.par.1 h.par.2 _ hm
    rw [hj, h.new] at hc
    cases hc
  -- a directory behind it: the new one, or an old one
  have dirs : ∀ d x, lkF σ'.files d = some x → (σ'.node x).kind = 0 → (d = p ∧ x = b ∧ (σ'.node x).names = []) ∨ (lkF σ.files d = some x ∧ (σ.node x).kind = 0 ∧ x ≠ b ∧ (x ≠ pb → (σ'.node x).names = (σ.node x).names)) := by
    intro d x hd hk
    have hi := h.it
    rcases h.cases hd with ⟨rfl, rfl⟩ | ⟨hne, ho⟩
    · cases t with
      | none => exact .inl ⟨rfl, rfl, hi.2.2⟩
      | some r => have := hi.2.2.1; omega
    · by_cases h1 : x = pb
      · subst h1
        exact .inr ⟨ho, h.par.2, Ne.symm h.ne, fun e => absurd rfl e⟩
      · have h2 : x ≠ b := by
          rintro rfl
          cases t with
          | none => exact hi.1 d ho
          | some r => have := hi.2.2.1; omega
        exact .inr ⟨ho, by rw [← (h.other x h1 h2).1]; exact hk, h2, fun _ => (h.other x h1 h2).2⟩
  refine ⟨fun d x hd hk => ?_, fun d x hd hk s hs => ?_, fun d d' x hd hd' hk => ?_, fun q x hq => ?_⟩
  · rcases dirs d x hd hk with ⟨_, _, hn⟩ | ⟨ho, hk0, _, hn⟩
    · rw [hn]; exact List.Pairwise.nil
    · by_cases h1 : x = pb
      · subst h1
        rw [h.pnode.2]
        exact ins_sorted _ _ (ht.sorted _ _ ho hk0) hnew
      · rw [hn h1]; exact ht.sorted _ _ ho hk0
  · rcases dirs d x hd hk with ⟨_, _, hn⟩ | ⟨ho, hk0, _, hn⟩
    · rw [hn] at hs; simp at hs
    · by_cases h1 : x = pb
      · subst h1
        have hdp : d = parentP p := ht.one _ _ _ ho h.par.1 hk0
        rw [h.pnode.2] at hs
        rcases ins_mem hs with hs | rfl
        · obtain ⟨g1, c, g2⟩ := ht.there _ _ ho hk0 s hs
          exact ⟨g1, c, h.old g2⟩
        · exact ⟨hns, b, by rw [hdp, hj, h.lk, if_pos rfl]⟩
      · rw [hn h1] at hs
        obtain ⟨g1, c, g2⟩ := ht.there _ _ ho hk0 s hs
        exact ⟨g1, c, h.old g2⟩
  · rcases dirs d x hd hk with ⟨rfl, rfl, _⟩ | ⟨ho, hk0, hxb, _⟩
    · rcases dirs d' x hd' hk with ⟨rfl, _, _⟩ | ⟨_, _, hb, _⟩
      · rfl
      · exact absurd rfl hb
    · rcases dirs d' x hd' hk with ⟨_, e, _⟩ | ⟨ho', _, _, _⟩
      · exact absurd e hxb
      · exact ht.one _ _ _ ho ho' hk0
  · rcases h.cases hq with ⟨rfl, _⟩ | ⟨_, ho⟩
    · exact checkP_len h.ok
    · exact ht.short _ _ ho
/-- The same path entered in both. -/
theorem Ent.sim {σ σ' τ τ' : Fs} {p : Str} {t : Option Str} {k : Int} {pb b pc c : Nat} (h : Ent σ σ' p t k pb b) (g : Ent τ τ' p t k pc c) (hs : Sim σ τ) : Sim σ' τ' := by
  -- b and c stand at the same places
  have hbc : ∀ q x y, lkF σ.files q = some x → lkF τ.files q = some y → (x = b ↔ y = c) := by
    intro q x y hx hy
    have hi := h.it
    have gi := g.it
    cases t with
    | none =>
      constructor
      · rintro rfl; exact absurd hx (hi.1 q)
      · rintro rfl; exact absurd hy (gi.1 q)
    | some r => exact hs.same q r x y b c hx hy hi.1 gi.1
  have hpp : ∀ q x y, lkF σ.files q = some x → lkF τ.files q = some y → (x = pb ↔ y = pc) := fun q x y hx hy => hs.same q _ x y pb pc hx hy h.par.1 g.par.1
  have hpn := hs.node _ _ _ h.par.1 g.par.1
  have hit : (σ'.node b).kind = (τ'.node c).kind ∧ (σ'.node b).names = (τ'.node c).names := by
    have hi := h.it
    have gi := g.it
    cases t with
    | none => exact ⟨by rw [hi.2.1, gi.2.1], by rw [hi.2.2, gi.2.2]⟩
    | some r =>
      have := hs.node r b c hi.1 gi.1
      exact ⟨by rw [hi.2.2.1, gi.2.2.1], by rw [hi.2.2.2, gi.2.2.2]; exact this.2⟩
  refine ⟨fun q => ?_, fun q x y hx hy => ?_, fun q r x y x' y' hx hy hx' hy' => ?_⟩
  · rw [h.lk, g.lk]
    by_cases e : q = p
    · rw [if_pos e, if_pos e]; simp
    · rw [if_neg e, if_neg e]; exact hs.at_ q
  · rcases h.cases hx with ⟨e1, e2⟩ | ⟨e1, ox⟩
    · rcases g.cases hy with ⟨_, e3⟩ | ⟨e3, _⟩
      · subst e2 e3; exact hit
      · exact absurd e1 e3
    · rcases g.cases hy with ⟨e3, _⟩ | ⟨_, oy⟩
      · exact absurd e3 e1
      · have hn := hs.node q x y ox oy
        by_cases h1 : x = pb
        · have h2 := (hpp q x y ox oy).1 h1
          subst h1 h2
          rw [h.pnode.1, g.pnode.1, h.pnode.2, g.pnode.2, hpn.2]
          exact ⟨rfl, rfl⟩
        · have h2 : y ≠ pc := fun e => h1 ((hpp q x y ox oy).2 e)
          by_cases h3 : x = b
          · have h4 := (hbc q x y ox oy).1 h3
            subst h3 h4; exact hit
          · have h4 : y ≠ c := fun e => h3 ((hbc q x y ox oy).2 e)
            have a1 := h.other x h1 h3
            have a2 := g.other y h2 h4
            exact ⟨by rw [a1.1, a2.1]; exact hn.1, by rw [a1.2, a2.2]; exact hn.2⟩
  · rcases h.cases hx with ⟨e1, e2⟩ | ⟨e1, ox⟩
    · rcases g.cases hy with ⟨_, e3⟩ | ⟨e3, _⟩
      · rcases h.cases hx' with ⟨f1, f2⟩ | ⟨f1, ox'⟩
        · rcases g.cases hy' with ⟨_, f3⟩ | ⟨f3, _⟩
          · rw [e2, e3, f2, f3]; simp
          · exact absurd f1 f3
        · rcases g.cases hy' with ⟨f3, _⟩ | ⟨_, oy'⟩
          · exact absurd f3 f1
          · rw [e2, e3]
            have := hbc r x' y' ox' oy'
            constructor
            · intro e; exact (this.1 e.symm).symm
            · intro e; exact (this.2 e.symm).symm
      · exact absurd e1 e3
    · rcases g.cases hy with ⟨e3, _⟩ | ⟨_, oy⟩
      · exact absurd e3 e1
      · rcases h.cases hx' with ⟨f1, f2⟩ | ⟨f1, ox'⟩
        · rcases g.cases hy' with ⟨_, f3⟩ | ⟨f3, _⟩
          · rw [f2, f3]; exact hbc q x y ox oy
          · exact absurd f1 f3
        · rcases g.cases hy' with ⟨f3, _⟩ | ⟨_, oy'⟩
          · exact absurd f3 f1
          · exact hs.same q r x y x' y' ox oy ox' oy'
end Go.Pax

