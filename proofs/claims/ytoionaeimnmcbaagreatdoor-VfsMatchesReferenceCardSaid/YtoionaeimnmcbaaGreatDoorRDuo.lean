/- The file system and its reference, side by side in memory. -/
import Derived.Test.YtoionaeimnmcbaaGreatDoorRSame
import Derived.Test.YtoionaeimnmcbaaGreatDoorVPair
namespace Go.Pax
open Go.RowKit
structure RNum (n : Nat) (ρ : RFs) : Prop where
  idx : ∀ x ∈ ρ.paths, x.2 < ρ.inodes.length
  plen : ρ.paths.length ≤ n + 1
  ilen : ρ.inodes.length ≤ n + 1
  first : 0 ≤ ρ.first ∧ ρ.first ≤ 1048576
  step : 0 ≤ ρ.step ∧ ρ.step ≤ 1048576
  lists : 0 ≤ ρ.lists ∧ ρ.lists ≤ n
  rot : ∀ x ∈ ρ.rot, 0 ≤ x
  rotl : ρ.rot.length ≤ 10000
  short : ∀ x ∈ ρ.paths, x.1.length ≤ 65536
  data : ∀ x ∈ ρ.inodes, x.data.length ≤ 140737488355328
theorem RNum.ok {n : Nat} {ρ : RFs} (h : RNum n ρ) (hn : n ≤ 9000) : ROk ρ :=
  ⟨h.idx, by have := h.plen; omega, by have := h.ilen; omega, h.first, h.step, by have := h.lists; omega, h.rot, h.rotl, h.short⟩
theorem RNum.mono {n m : Nat} {ρ : RFs} (h : RNum n ρ) (hm : n ≤ m) : RNum m ρ :=
  ⟨h.idx, by have := h.plen; omega, by have := h.ilen; omega, h.first, h.step, by have := h.lists; omega, h.rot, h.rotl, h.short, h.data⟩
theorem RNum.listed {n : Nat} {ρ : RFs} (h : RNum n ρ) : RNum (n + 1) { ρ with lists := ρ.lists + 1 } :=
  ⟨h.idx, by have := h.plen; simp only; omega, by have := h.ilen; simp only; omega, h.first, h.step, by have := h.lists; simp only; omega, h.rot, h.rotl, h.short, h.data⟩
theorem RNum.new {first step : Int} {rot : List Int} (h1 : inOpt first) (h2 : inOpt step) (h3 : ∀ x ∈ rot, 0 ≤ x) (h4 : rot.length ≤ 10000) : RNum 0 (newR first step rot) := by
  unfold inOpt at h1 h2
  refine ⟨fun x hx => ?_, by simp [newR], by simp [newR], by unfold newR; simp only; omega, by unfold newR; simp only; omega, by simp [newR], h3, h4, fun x hx => ?_, fun x hx => ?_⟩
  · simp [newR] at hx; subst hx; simp [newR]
  · simp [newR] at hx; subst hx; simp
  · simp [newR] at hx; subst hx; simp
end Go.Pax
namespace Go.Proofs.YtoionaeimnmcbaaGreatDoor
open Go.RowKit Go.Pax Go.Shelf
theorem RNum.next {n : Nat} {ρ ρ' : RFs} {a : AAct} (h : RNum n ρ) (h0 : refDoE ρ a = 0) (hN : RefNext ρ a ρ') (hd : a.data.length ≤ 140737488355328) : RNum (n + 1) ρ' := by
  unfold RefNext at hN
  unfold refDoE at h0
  have hpath : ∀ i, i < ρ.inodes.length + 1 → a.path.length ≤ 65536 → ∀ x ∈ ρ.paths ++ [(a.path, i)], x.2 < ρ.inodes.length + 1 ∧ x.1.length ≤ 65536 := fun i hi hp x hx => by
    rcases List.mem_append.1 hx with hx | hx
    · exact ⟨Nat.lt_succ_of_lt (h.idx x hx), h.short x hx⟩
    · simp at hx; subst hx; exact ⟨hi, hp⟩
  by_cases h3 : 0 ≤ a.kind ∧ a.kind ≤ 3
  · rw [if_pos h3] at hN h0
    subst hN
    have hc : checkP a.path = 0 := by
      unfold makeRE at h0
      split at h0
      · rename_i h1; exact absurd h0 h1
      · rename_i h1; simpa using h1
    have hl := checkP_len hc
    refine ⟨fun x hx => ?_, ?_, ?_, h.first, h.step, by have := h.lists; unfold madeR; simp only; omega, h.rot, h.rotl, fun x hx => (hpath _ (by omega) hl x hx).2, fun x hx => ?_⟩
    · have := (hpath _ (by omega) hl x hx).1
      show x.2 < (ρ.inodes ++ [_]).length
      rw [List.length_append]
      exact this
    · show (ρ.paths ++ [_]).length ≤ _
      rw [List.length_append]
      have := h.plen
      simp; omega
    · show (ρ.inodes ++ [_]).length ≤ _
      rw [List.length_append]
      have := h.ilen
      simp; omega
    · rcases List.mem_append.1 hx with hx | hx
      · exact h.data x hx
      · simp at hx; subst hx
        unfold mkD
        simp only
        split
        · exact hd
        · simp
  · rw [if_neg h3] at hN h0
    by_cases h4 : a.kind = 4
    · rw [if_pos h4] at hN h0
      obtain ⟨i, hi, rfl⟩ := hN
      have hc : checkP a.path = 0 := by
        unfold linkRE at h0
        split at h0
        · rename_i h1; exact absurd h0 h1
        · rename_i h1; simpa using h1
      have hl := checkP_len hc
      have hii := h.idx _ (lkF_mem hi)
      refine ⟨fun x hx => ?_, ?_, by have := h.ilen; unfold linkedR; simp only; omega, h.first, h.step, by have := h.lists; unfold linkedR; simp only; omega, h.rot, h.rotl, fun x hx => (hpath i (by simp only at hii; omega) hl x hx).2, h.data⟩
      · rcases List.mem_append.1 hx with hx | hx
        · exact h.idx x hx
        · simp at hx; subst hx; exact hii
      · show (ρ.paths ++ [_]).length ≤ _
        rw [List.length_append]
        have := h.plen
        simp; omega
    · rw [if_neg h4] at hN
      by_cases h5 : a.kind = 5
      · rw [if_pos h5] at hN
        obtain ⟨i, hi, rfl⟩ := hN
        have hii := h.idx _ (lkF_mem hi)
        refine ⟨fun x hx => ?_, by have := h.plen; unfold chownedR; simp only; omega, ?_, h.first, h.step, by have := h.lists; unfold chownedR; simp only; omega, h.rot, h.rotl, h.short, fun x hx => ?_⟩
        · show x.2 < (ρ.inodes.set _ _).length
          rw [List.length_set]
          exact h.idx x hx
        · show (ρ.inodes.set _ _).length ≤ _
          rw [List.length_set]
          have := h.ilen
          omega
        · have hx2 : x ∈ ρ.inodes.set i { nodeR ρ i with uid := a.mode, mtime := a.data.length } := hx
          rcases List.mem_or_eq_of_mem_set hx2 with h6 | h6
          · exact h.data x h6
          · subst h6
            have hii2 : i < ρ.inodes.length := hii
            have hm : nodeR ρ i ∈ ρ.inodes := by
              unfold nodeR
              rw [List.getD_eq_getElem?_getD, List.getElem?_eq_getElem hii2]
              exact List.getElem_mem hii2
            exact h.data (nodeR ρ i) hm
      · rw [if_neg h5] at hN
        subst hN
        exact h.mono (by omega)
theorem next_tidy {σ σ' : Fs} {a : AAct} (ht : Tidy σ) (h0 : doE σ a = 0) (hN : Next σ (Fresh σ) a σ') : Tidy σ' := by
  unfold Next at hN
  unfold doE at h0
  by_cases h3 : 0 ≤ a.kind ∧ a.kind ≤ 3
  · rw [if_pos h3] at hN h0
    obtain ⟨pb, b, hpb, hb, rfl⟩ := hN
    exact (ent_made (make_parts h0).1 (make_parts h0).2 hpb hb (nd := newNd σ (mkK a) (mkM a) (mkT a) (mkD a)) rfl).tidy ht
  · rw [if_neg h3] at hN h0
    by_cases h4 : a.kind = 4
    · rw [if_pos h4] at hN h0
      obtain ⟨pb, b, hpb, hb, rfl⟩ := hN
      obtain ⟨g1, g2, g3⟩ := link_parts h0
      exact (ent_linked g1 g2 hpb hb (g3 b hb)).tidy ht
    · rw [if_neg h4] at hN
      by_cases h5 : a.kind = 5
      · rw [if_pos h5] at hN
        obtain ⟨b, hb, rfl⟩ := hN
        have alike : FsLike σ (setNode σ b { σ.node b with uid := a.mode, mtime := a.data.length }) := ⟨rfl, fun i => by
          show (if i = b then ({ σ.node b with uid := a.mode, mtime := a.data.length } : Nd) else σ.node i).kind = _ ∧ (if i = b then ({ σ.node b with uid := a.mode, mtime := a.data.length } : Nd) else σ.node i).names = _
          split
          · rename_i e; rw [e]; exact ⟨rfl, rfl⟩
          · exact ⟨rfl, rfl⟩⟩
        exact alike.tidy ht
      · rw [if_neg h5] at hN
        subst hN
        exact ht
structure Half (w0 w : World) (f : Nat) (O : List Nat) (σ : Fs) (r : Nat) (Q : List Nat) (ρ : RFs) (n : Nat) : Prop where
  live : Live w0 w f O σ n
  ref : RAt w r Q ρ
  own : ∀ g ∈ Q, w0.heap.size ≤ g
  ne : ∀ x ∈ O, x ∉ Q
theorem Half.quiet {w0 w w' : World} {f r n : Nat} {O Q : List Nat} {σ : Fs} {ρ : RFs} (h : Half w0 w f O σ r Q ρ n) (k : Chg [] w w') : Half w0 w' f O σ r Q ρ n := ⟨h.live.quiet k, h.ref.foreign k (by simp), h.own, h.ne⟩
structure Duo (w0 w : World) (f : Nat) (O : List Nat) (σ : Fs) (r : Nat) (Q : List Nat) (ρ : RFs) (n : Nat) (bs : List Nat) : Prop where
  half : Half w0 w f O σ r Q ρ n
  num : RNum n ρ
  rel : Rel σ ρ bs
  tidy : Tidy σ
theorem Duo.quiet {w0 w w' : World} {f r n : Nat} {O Q bs : List Nat} {σ : Fs} {ρ : RFs} (h : Duo w0 w f O σ r Q ρ n bs) (k : Chg [] w w') : Duo w0 w' f O σ r Q ρ n bs := ⟨h.half.quiet k, h.num, h.rel, h.tidy⟩
theorem like_lists' (σ : Fs) : FsLike σ { σ with lists := σ.lists + 1 } := ⟨rfl, fun _ => ⟨rfl, rfl⟩⟩
theorem halfDo (w0 w : World) {f r n : Nat} {O Q : List Nat} {σ : Fs} {ρ : RFs} (a : AAct) (ao : Option Addr) (dc : Nat) (fp : List Nat) (h : Half w0 w f O σ r Q ρ n) (hn : n ≤ 9000) (hkeys : KeysAt w0)
    (ht : a.target.length ≤ 140737488355328) (hd : Rd w0 fp ao (bv a.data)) (hdl : a.data.length ≤ 140737488355328) (hff : ∀ x ∈ fp, x < w0.heap.size) :
    Calls Tryz.prog 10 #[.pointer (some ⟨f, 0, none⟩), actV a ao dc] w fun e w' => e = .returned (.int .i64 (doE σ a)) ∧ ∃ O' σ', ((doE σ a ≠ 0 ∧ σ' = σ) ∨ (doE σ a = 0 ∧ Next σ (Fresh σ) a σ')) ∧ Half w0 w' f O' σ' r Q ρ (n + 2) ∧ Kept w w' O Q O' Q := by
  refine (doAct w f O σ a ao dc fp h.live.fs (h.live.inv.ok (by omega)) (h.live.keys hkeys).1 (h.live.keys hkeys).2 ht (hd.chg h.live.chg (by simp)) hdl (fun x hx hO => by have := hff x hx; have := h.live.own x hO; omega)).mono ?_
  rintro e w' ⟨he, h1, h2⟩
  refine ⟨he, ?_⟩
  by_cases h0 : doE σ a = 0
  · obtain ⟨σ', hN, hT⟩ := h2 h0
    have hTT := hT
    obtain ⟨O', ⟨g1, g2⟩, g3⟩ := hT
    have hQlt := h.ref.lt
    have hOQ : ∀ x ∈ O', x ∉ Q := fun x hx hQ => by
      rcases g2 x hx with h4 | h4
      · exact h.ne x h4 hQ
      · have := hQlt x hQ; omega
    have hchg : Chg [] w0 w' := h.live.chg.trans' g3 (by simp) (fun x hx hl => by have := h.live.own x hx; omega)
    refine ⟨O', σ', .inr ⟨h0, hN.fresh h.live⟩, ⟨⟨g1, hN.inv h.live.inv, fun x hx => ?_, hchg⟩, h.ref.foreign g3 (fun g hg hO => h.ne g hO hg), h.own, hOQ⟩, g3.size, fun x hx hO hQ => ⟨g3.block x hx hO, fun hx' => ?_, hQ⟩⟩
    · rcases g2 x hx with h4 | h4
      · exact h.live.own x h4
      · have := h.live.chg.size; omega
    · rcases g2 x hx' with h4 | h4
      · exact hO h4
      · omega
  · have hq := h.quiet (h1 h0)
    exact ⟨O, σ, .inl ⟨h0, rfl⟩, ⟨hq.live.upto (by omega), hq.ref, hq.own, hq.ne⟩, Kept.of_chg (h1 h0) O Q⟩
theorem halfRef (w0 w : World) {f r n m : Nat} {O Q : List Nat} {σ : Fs} {ρ : RFs} (a : AAct) (ao : Option Addr) (dc : Nat) (fp : List Nat) (h : Half w0 w f O σ r Q ρ n) (hk : RNum m ρ) (hm : m ≤ 9000)
    (hp : a.path.length ≤ 140737488355328) (ht : a.target.length ≤ 140737488355328) (hd : Rd w0 fp ao (bv a.data)) (hdl : a.data.length ≤ 140737488355328) :
    Calls Tryz.prog 11 #[.pointer (some ⟨r, 0, none⟩), actV a ao dc] w fun e w' => e = .returned (.int .i64 (refDoE ρ a)) ∧ ∃ Q' ρ', ((refDoE ρ a ≠ 0 ∧ ρ' = ρ) ∨ (refDoE ρ a = 0 ∧ RefNext ρ a ρ')) ∧ Half w0 w' f O σ r Q' ρ' n ∧ Kept w w' O Q O Q' := by
  refine (refDo w r Q ρ a ao dc fp h.ref (hk.ok hm) hp ht (hd.chg h.live.chg (by simp)) hdl).mono ?_
  rintro e w' ⟨he, h1, h2⟩
  refine ⟨he, ?_⟩
  by_cases h0 : refDoE ρ a = 0
  · obtain ⟨ρ', hN, Q', ⟨g1, g2⟩, g3⟩ := h2 h0
    have hOlt := h.live.lt
    have hOQ : ∀ x ∈ O, x ∉ Q' := fun x hx hQ => by
      rcases g2 x hQ with h4 | h4
      · exact h.ne x hx h4
      · have := hOlt x hx; omega
    refine ⟨Q', ρ', .inr ⟨h0, hN⟩, ⟨h.live.far g3 (fun x hx => h.ne x hx) (fun x hx => h.own x hx), g1, fun x hx => ?_, hOQ⟩, g3.size, fun x hx hO hQ => ⟨g3.block x hx hQ, hO, fun hx' => ?_⟩⟩
    · rcases g2 x hx with h4 | h4
      · exact h.own x h4
      · have := h.live.chg.size; omega
    · rcases g2 x hx' with h4 | h4
      · exact hQ h4
      · omega
  · exact ⟨Q, ρ, .inl ⟨h0, rfl⟩, h.quiet (h1 h0), Kept.of_chg (h1 h0) O Q⟩
/-- Both calls are done. -/
theorem Duo.done {w0 w w' : World} {f r n : Nat} {O Q bs O' Q' : List Nat} {σ σ' : Fs} {ρ ρ' : RFs} {a : AAct} (h : Duo w0 w f O σ r Q ρ n bs) (hd : a.data.length ≤ 140737488355328) (h1 : (doE σ a ≠ 0 ∧ σ' = σ) ∨ (doE σ a = 0 ∧ Next σ (Fresh σ) a σ'))
    (h2 : (refDoE ρ a ≠ 0 ∧ ρ' = ρ) ∨ (refDoE ρ a = 0 ∧ RefNext ρ a ρ')) (hh : Half w0 w' f O' σ' r Q' ρ' (n + 2)) : ∃ bs', Duo w0 w' f O' σ' r Q' ρ' (n + 2) bs' := by
  have he := do_rel h.rel a
  rcases h1 with ⟨h1, rfl⟩ | ⟨h1, h3⟩
  · rcases h2 with ⟨_, rfl⟩ | ⟨h2, _⟩
    · exact ⟨bs, hh, h.num.mono (by omega), h.rel, h.tidy⟩
    · exact absurd (he.trans h2) h1
  · rcases h2 with ⟨h2, _⟩ | ⟨h2, h4⟩
    · exact absurd (he.symm.trans h1) h2
    · obtain ⟨bs', hb⟩ := rel_next h.rel h.tidy h1 h3 h4
      exact ⟨bs', hh, (RNum.next h.num h2 h4 hd).mono (by omega), hb, next_tidy h.tidy h1 h3⟩
theorem duoSame (w0 w : World) {f r n : Nat} {O Q bs : List Nat} {σ : Fs} {ρ : RFs} (p : Str) (h : Duo w0 w f O σ r Q ρ n bs) (hn : n ≤ 9000) :
    Calls Tryz.prog 12 #[.pointer (some ⟨f, 0, none⟩), .pointer (some ⟨r, 0, none⟩), .string (ba p)] w fun e w' => e = .returned (.bool true) ∧ Chg [] w w' :=
  same w f O σ r Q ρ bs p h.half.live.fs h.half.ref (h.num.ok hn) h.rel h.num.data
theorem listE_rel {σ : Fs} {ρ : RFs} {bs : List Nat} (h : Rel σ ρ bs) (p : Str) : listE σ p = listRE ρ p := by
  unfold listE listRE
  rw [h.lk]
  cases h1 : lkF ρ.paths p with
  | none => rfl
  | some i =>
    obtain ⟨hi, _, x, hx, hn⟩ := h.find h1
    have hnr : nodeR ρ i = x := by unfold nodeR; rw [List.getD_eq_getElem?_getD, hx]; rfl
    simp only [Option.map_some]
    rw [hnr, hn.1]
theorem listed_rel {σ : Fs} {ρ : RFs} {bs : List Nat} (h : Rel σ ρ bs) {p : Str} {b : Nat} (hb : lkF σ.files p = some b) (h0 : listE σ p = 0) : (σ.node b).names = namesR ρ.paths p ∧ listed σ (σ.node b).names = listedR ρ (namesR ρ.paths p) := by
  have hl := h.lk p
  rw [hb] at hl
  cases h1 : lkF ρ.paths p with
  | none => rw [h1] at hl; cases hl
  | some i =>
    rw [h1] at hl
    simp only [Option.map_some, Option.some.injEq] at hl
    have hk : (σ.node b).kind = 0 := by
      unfold listE at h0
      rw [hb] at h0
      simp only at h0
      split at h0
      · assumption
      · cases h0
    have hn := h.names p i h1 (by rw [← hl]; exact hk)
    rw [← hl] at hn
    refine ⟨hn, ?_⟩
    unfold listed listedR rotAt rotR
    rw [hn, h.nums.2.1, h.nums.2.2.1]
/-- Both listings of a directory. -/
theorem duoList (w0 w : World) {f r n : Nat} {O Q bs : List Nat} {σ : Fs} {ρ : RFs} (p : Str) (h : Duo w0 w f O σ r Q ρ n bs) (hn : n ≤ 9000) (h0 : listE σ p = 0) :
    Calls Tryz.prog 13 #[.pointer (some ⟨f, 0, none⟩), .string (ba p)] w fun e w' => ∃ ao m c, e = .returned (.tuple #[.slice ao m c, .int .i64 0]) ∧ m = (namesR ρ.paths p).length ∧ w'.ownsRow w.heap.size 9 1 (.slice ao m c) m (svn (listedR ρ (namesR ρ.paths p))) ∧ Half w0 w' f O { σ with lists := σ.lists + 1 } r Q ρ (n + 1) ∧ Chg O w w' := by
  refine (list w f O σ p h.half.live.fs (h.half.live.inv.ok (by omega))).mono ?_
  rintro e w' ⟨_, h2⟩
  obtain ⟨b, ao, m, c, hb, he, hm, hown, hto⟩ := h2 h0
  obtain ⟨hs, k⟩ := hto
  obtain ⟨e1, e2⟩ := listed_rel h.rel hb h0
  rw [e2] at hown
  rw [e1] at hm
  refine ⟨ao, m, c, he, hm, hown, ⟨⟨hs, h.half.live.inv.listed, h.half.live.own, h.half.live.chg.trans' k (by simp) (fun x hx hl => by have := h.half.live.own x hx; omega)⟩, h.half.ref.foreign k (fun g hg hO => h.half.ne g hO hg), h.half.own, h.half.ne⟩, k⟩
theorem duoRList (w0 w1 w : World) {f r n : Nat} {O Q bs : List Nat} {σ : Fs} {ρ : RFs} (p : Str) (h : Duo w0 w1 f O σ r Q ρ n bs) (hn : n ≤ 9000) (h0 : listE σ p = 0) (hh : Half w0 w f O { σ with lists := σ.lists + 1 } r Q ρ (n + 1)) :
    Calls Tryz.prog 14 #[.pointer (some ⟨r, 0, none⟩), .string (ba p)] w fun e w' => ∃ a m c, e = .returned (.tuple #[.slice a m c, .int .i64 0]) ∧ m = (namesR ρ.paths p).length ∧ w'.ownsRow w.heap.size 9 1 (.slice a m c) m (svn (listedR ρ (namesR ρ.paths p))) ∧ Duo w0 w' f O { σ with lists := σ.lists + 1 } r Q { ρ with lists := ρ.lists + 1 } (n + 1) bs ∧ Chg Q w w' := by
  refine (rlist w r Q ρ p hh.ref (h.num.ok hn)).mono ?_
  rintro e w' ⟨_, h2⟩
  obtain ⟨a, m, c, he, hm, hown, hr, k⟩ := h2 (by rw [← listE_rel h.rel]; exact h0)
  refine ⟨a, m, c, he, hm, hown, ⟨⟨hh.live.far k (fun x hx => hh.ne x hx) (fun x hx => hh.own x hx), hr, hh.own, hh.ne⟩, h.num.listed, ?_, (like_lists' σ).tidy h.tidy⟩, k⟩
  have hrl := h.rel
  exact ⟨⟨hrl.nums.1, hrl.nums.2.1, by show σ.lists + 1 = ρ.lists + 1; rw [hrl.nums.2.2.1], hrl.nums.2.2.2⟩, hrl.len, hrl.nodup, hrl.files, hrl.idx, hrl.node, hrl.links, hrl.names, hrl.closed, hrl.onto⟩
end Go.Proofs.YtoionaeimnmcbaaGreatDoor
