/- Two file systems in use, side by side in memory. The file system and its reference, side by side in memory. New file systems, the reference's beside. Every path of a file system hangs on its root; the paths in order; what visiting keeps. Numbers of files are distinct; how many paths a file has; only regular files have several. -/
import Derived.Test.YtfhiioopimmahaaGreatDoorPI07
import Derived.Test.YtfhiioopimmahaaGreatDoorPI08
import Derived.Test.YtfhiioopimmahaaGreatDoorPI11
namespace Go.Proofs.YtfhiioopimmahaaGreatDoor
open Go.RowKit Go.Pax Go.Shelf
structure Two (w0 w : World) (f : Nat) (O : List Nat) (σ : Fs) (n : Nat) (g : Nat) (Q : List Nat) (τ : Fs) (m : Nat) : Prop where
  a : Live w0 w f O σ n
  b : Live w0 w g Q τ m
  ne : ∀ x ∈ O, x ∉ Q
theorem Two.symm {w0 w : World} {f g n m : Nat} {O Q : List Nat} {σ τ : Fs} (h : Two w0 w f O σ n g Q τ m) : Two w0 w g Q τ m f O σ n := ⟨h.b, h.a, fun x hx hO => h.ne x hO hx⟩
theorem Two.quiet {w0 w w' : World} {f g n m : Nat} {O Q : List Nat} {σ τ : Fs} (h : Two w0 w f O σ n g Q τ m) (k : Chg [] w w') : Two w0 w' f O σ n g Q τ m := ⟨h.a.quiet k, h.b.quiet k, h.ne⟩
theorem Live.far {w0 w w' : World} {f : Nat} {O S : List Nat} {σ : Fs} {n : Nat} (h : Live w0 w f O σ n) (k : Chg S w w') (hS : ∀ x ∈ O, x ∉ S) (h0 : ∀ x ∈ S, w0.heap.size ≤ x) : Live w0 w' f O σ n :=
  ⟨h.fs.foreign k hS, h.inv, h.own, h.chg.trans' k (by simp) (fun x hx hl => by have := h0 x hx; omega)⟩
/-- Only blocks that are neither's have changed. -/
theorem Two.far {w0 w w' : World} {f g n m : Nat} {O Q S : List Nat} {σ τ : Fs} (h : Two w0 w f O σ n g Q τ m) (k : Chg S w w') (h1 : ∀ x ∈ O, x ∉ S) (h2 : ∀ x ∈ Q, x ∉ S) (h0 : ∀ x ∈ S, w0.heap.size ≤ x) : Two w0 w' f O σ n g Q τ m := ⟨h.a.far k h1 h0, h.b.far k h2 h0, h.ne⟩
/-- What lay outside both lies there still. -/
def Kept (w w' : World) (O Q O' Q' : List Nat) : Prop := w.heap.size ≤ w'.heap.size ∧ ∀ x, x < w.heap.size → x ∉ O → x ∉ Q → w'.heap[x]? = w.heap[x]? ∧ x ∉ O' ∧ x ∉ Q'
theorem Kept.trans {w w1 w2 : World} {O Q O1 Q1 O2 Q2 : List Nat} (h : Kept w w1 O Q O1 Q1) (k : Kept w1 w2 O1 Q1 O2 Q2) : Kept w w2 O Q O2 Q2 :=
  ⟨Nat.le_trans h.1 k.1, fun x hx hO hQ => by
    obtain ⟨a1, a2, a3⟩ := h.2 x hx hO hQ
    obtain ⟨b1, b2, b3⟩ := k.2 x (Nat.lt_of_lt_of_le hx h.1) a2 a3
    exact ⟨b1.trans a1, b2, b3⟩⟩
theorem Kept.of_chg {w w' : World} (k : Chg [] w w') (O Q : List Nat) : Kept w w' O Q O Q := ⟨k.size, fun x hx hO hQ => ⟨k.block x hx (by simp), hO, hQ⟩⟩
theorem Kept.symm {w w' : World} {O Q O' Q' : List Nat} (h : Kept w w' O Q O' Q') : Kept w w' Q O Q' O' := ⟨h.1, fun x hx hO hQ => by
  obtain ⟨a, b, c⟩ := h.2 x hx hQ hO
  exact ⟨a, c, b⟩⟩
/-- A row that is neither's, behind it. -/
theorem Kept.row {w w' : World} {O Q O' Q' : List Nat} (h : Kept w w' O Q O' Q') {base : Nat} {e : TypeId} {v : Value} {n : Nat} {xs : List Value} (hr : w.ownsRow base e 1 v n xs) (hn : ∀ x, v.ownBlock = some x → x ∉ O ∧ x ∉ Q) :
    w'.ownsRow base e 1 v n xs ∧ ∀ x, v.ownBlock = some x → x ∉ O' ∧ x ∉ Q' := by
  have hlt : ∀ x, v.ownBlock = some x → x < w.heap.size := fun x hx => by
    rcases hr.2 with ⟨rfl, _⟩ | ⟨g', cap, cur, rfl, _, hh, _⟩
    · simp [Value.ownBlock] at hx
    · simp [Value.ownBlock] at hx; subst hx; exact lt_of_block hh
  refine ⟨⟨hr.1, ?_⟩, fun x hx => (h.2 x (hlt x hx) (hn x hx).1 (hn x hx).2).2⟩
  rcases hr.2 with hz | ⟨g, cap, cur, hv, hb, hg, rest⟩
  · exact .inl hz
  · have hx : v.ownBlock = some g := by subst hv; simp [Value.ownBlock]
    exact .inr ⟨g, cap, cur, hv, hb, by rw [(h.2 g (hlt g hx) (hn g hx).1 (hn g hx).2).1]; exact hg, rest⟩
/-- A call on the first of the two. -/
theorem Two.to {w0 w w' : World} {f g n m n' : Nat} {O Q : List Nat} {σ τ σ' : Fs} (h : Two w0 w f O σ n g Q τ m) (k : FsTo w w' f O σ') (hi : σ'.In n') : ∃ O', Two w0 w' f O' σ' n' g Q τ m ∧ Kept w w' O Q O' Q := by
  obtain ⟨O', ⟨h1, h2⟩, h3⟩ := k
  have hOQ : ∀ x ∈ O', x ∉ Q := fun x hx hQ => by
    rcases h2 x hx with h4 | h4
    · exact h.ne x h4 hQ
    · have := h.b.lt x hQ; omega
  refine ⟨O', ⟨⟨h1, hi, fun x hx => ?_, h.a.chg.trans' h3 (by simp) (fun x hx hl => ?_)⟩, h.b.far h3 (fun x hx hO => h.ne x hO hx) (fun x hx => h.a.own x hx), hOQ⟩, h3.size, fun x hx hO hQ => ⟨h3.block x hx hO, fun hx' => ?_, hQ⟩⟩
  · rcases h2 x hx with h4 | h4
    · exact h.a.own x h4
    · have := h.a.chg.size; omega
  · have := h.a.own x hx; omega
  · rcases h2 x hx' with h4 | h4
    · exact hO h4
    · omega
theorem twoDo (w0 w : World) {f g n m : Nat} {O Q : List Nat} {σ τ : Fs} (a : AAct) (ao : Option Addr) (dc : Nat) (fp : List Nat) (h : Two w0 w f O σ n g Q τ m) (hn : n ≤ 10000) (hkeys : KeysAt w0)
    (ht : a.target.length ≤ 140737488355328) (hd : Rd w0 fp ao (bv a.data)) (hdl : a.data.length ≤ 140737488355328) (hff : ∀ x ∈ fp, x < w0.heap.size) :
    Calls Tryz.prog 30 #[.pointer (some ⟨f, 0, none⟩), actV a ao dc] w fun e w' => e = .returned (.int .i64 (doE σ a)) ∧ ∃ O' σ', ((doE σ a ≠ 0 ∧ σ' = σ) ∨ (doE σ a = 0 ∧ Next σ (Fresh σ) a σ')) ∧ Two w0 w' f O' σ' (n + 2) g Q τ m ∧ Kept w w' O Q O' Q := by
  refine (doAct w f O σ a ao dc fp h.a.fs (h.a.inv.ok (by omega)) (h.a.keys hkeys).1 (h.a.keys hkeys).2 ht (hd.chg h.a.chg (by simp)) hdl (fun x hx hO => by have := hff x hx; have := h.a.own x hO; omega)).mono ?_
  rintro e w' ⟨he, h1, h2⟩
  refine ⟨he, ?_⟩
  by_cases h0 : doE σ a = 0
  · obtain ⟨σ', hN, hT⟩ := h2 h0
    obtain ⟨O', hL, hK⟩ := h.to hT (hN.inv h.a.inv)
    exact ⟨O', σ', .inr ⟨h0, hN.fresh h.a⟩, hL, hK⟩
  · have hq := h.quiet (h1 h0)
    exact ⟨O, σ, .inl ⟨h0, rfl⟩, ⟨hq.a.upto (by omega), hq.b, hq.ne⟩, Kept.of_chg (h1 h0) O Q⟩
/-- List of a directory, on the first of the two. -/
theorem twoList (w0 w : World) {f g n m : Nat} {O Q : List Nat} {σ τ : Fs} (p : Str) {b : Nat} (h : Two w0 w f O σ n g Q τ m) (hn : n ≤ 10000) (hb : lkF σ.files p = some b) (hk : (σ.node b).kind = 0) :
    Calls Tryz.prog 69 #[.pointer (some ⟨f, 0, none⟩), .string (ba p)] w fun e w' => ∃ O' ao c, e = .returned (.tuple #[.slice ao (σ.node b).names.length c, .int .i64 0]) ∧ w'.ownsRow w.heap.size 9 1 (.slice ao (σ.node b).names.length c) (σ.node b).names.length (svn (listed σ (σ.node b).names)) ∧
      Two w0 w' f O' { σ with lists := σ.lists + 1 } (n + 1) g Q τ m ∧ Kept w w' O Q O' Q ∧ (∀ x, (Value.slice ao (σ.node b).names.length c).ownBlock = some x → x ∉ O' ∧ x ∉ Q) := by
  refine (list w f O σ p h.a.fs (h.a.inv.ok (by omega))).mono ?_
  rintro e w' ⟨_, h2⟩
  have h0 : listE σ p = 0 := by unfold listE; rw [hb]; simp only; rw [if_pos hk]
  obtain ⟨b', ao, m', c, hb', he, rfl, hown, hto⟩ := h2 h0
  rw [hb] at hb'
  cases hb'
  obtain ⟨hs, k⟩ := hto
  have hlt := fun x (hx : (Value.slice ao (σ.node b).names.length c).ownBlock = some x) => own_block_ge hown hx
  refine ⟨O, ao, c, he, hown, ⟨⟨hs, h.a.inv.listed, h.a.own, h.a.chg.trans' k (by simp) (fun x hx hl => by have := h.a.own x hx; omega)⟩, h.b.far k (fun x hx hO => h.ne x hO hx) (fun x hx => h.a.own x hx), h.ne⟩, ⟨k.size, fun x hx hO hQ => ⟨k.block x hx hO, hO, hQ⟩⟩, fun x hx => ?_⟩
  have := hlt x hx
  exact ⟨fun hO => by have := h.a.lt x hO; omega, fun hQ => by have := h.b.lt x hQ; omega⟩
end Go.Proofs.YtfhiioopimmahaaGreatDoor
namespace Go.Pax
open Go.RowKit
structure RNum (n : Nat) (ρ : RFs) : Prop where
  idx : ∀ x ∈ ρ.paths, x.2 < ρ.inodes.length
  plen : ρ.paths.length ≤ n + 1
  ilen : ρ.inodes.length ≤ n + 1
  first : 0 ≤ ρ.first ∧ ρ.first ≤ 1048576
  step : 0 ≤ ρ.step ∧ ρ.step ≤ 1048576
  lists : 0 ≤ ρ.lists ∧ ρ.lists ≤ n
  rot : ∀ x ∈ ρ.rot, 0 ≤ x
  rotl : ρ.rot.length ≤ 10000
  short : ∀ x ∈ ρ.paths, x.1.length ≤ 65536
  data : ∀ x ∈ ρ.inodes, x.data.length ≤ 140737488355328
theorem RNum.ok {n : Nat} {ρ : RFs} (h : RNum n ρ) (hn : n ≤ 9000) : ROk ρ :=
  ⟨h.idx, by have := h.plen; omega, by have := h.ilen; omega, h.first, h.step, by have := h.lists; omega, h.rot, h.rotl, h.short⟩
theorem RNum.mono {n m : Nat} {ρ : RFs} (h : RNum n ρ) (hm : n ≤ m) : RNum m ρ :=
  ⟨h.idx, by have := h.plen; omega, by have := h.ilen; omega, h.first, h.step, by have := h.lists; omega, h.rot, h.rotl, h.short, h.data⟩
theorem RNum.listed {n : Nat} {ρ : RFs} (h : RNum n ρ) : RNum (n + 1) { ρ with lists := ρ.lists + 1 } :=
  ⟨h.idx, by have := h.plen; simp only; omega, by have := h.ilen; simp only; omega, h.first, h.step, by have := h.lists; simp only; omega, h.rot, h.rotl, h.short, h.data⟩
theorem RNum.new {first step : Int} {rot : List Int} (h1 : inOpt first) (h2 : inOpt step) (h3 : ∀ x ∈ rot, 0 ≤ x) (h4 : rot.length ≤ 10000) : RNum 0 (newR first step rot) := by
  unfold inOpt at h1 h2
  refine ⟨fun x hx => ?_, by simp [newR], by simp [newR], by unfold newR; simp only; omega, by unfold newR; simp only; omega, by simp [newR], h3, h4, fun x hx => ?_, fun x hx => ?_⟩
  · simp [newR] at hx; subst hx; simp [newR]
  · simp [newR] at hx; subst hx; simp
  · simp [newR] at hx; subst hx; simp
end Go.Pax
namespace Go.Proofs.YtfhiioopimmahaaGreatDoor
open Go.RowKit Go.Pax Go.Shelf
theorem RNum.next {n : Nat} {ρ ρ' : RFs} {a : AAct} (h : RNum n ρ) (h0 : refDoE ρ a = 0) (hN : RefNext ρ a ρ') (hd : a.data.length ≤ 140737488355328) : RNum (n + 1) ρ' := by
  unfold RefNext at hN
  unfold refDoE at h0
  have hpath : ∀ i, i < ρ.inodes.length + 1 → a.path.length ≤ 65536 → ∀ x ∈ ρ.paths ++ [(a.path, i)], x.2 < ρ.inodes.length + 1 ∧ x.1.length ≤ 65536 := fun i hi hp x hx => by
    rcases List.mem_append.1 hx with hx | hx
    · exact ⟨Nat.lt_succ_of_lt (h.idx x hx), h.short x hx⟩
    · simp at hx; subst hx; exact ⟨hi, hp⟩
  by_cases h3 : 0 ≤ a.kind ∧ a.kind ≤ 3
  · rw [if_pos h3] at hN h0
    subst hN
    have hc : checkP a.path = 0 := by
      unfold makeRE at h0
      split at h0
      · rename_i h1; exact absurd h0 h1
      · rename_i h1; simpa using h1
    have hl := checkP_len hc
    refine ⟨fun x hx => ?_, ?_, ?_, h.first, h.step, by have := h.lists; unfold madeR; simp only; omega, h.rot, h.rotl, fun x hx => (hpath _ (by omega) hl x hx).2, fun x hx => ?_⟩
    · have := (hpath _ (by omega) hl x hx).1
      show x.2 < (ρ.inodes ++ [_]).length
      rw [List.length_append]
      exact this
    · show (ρ.paths ++ [_]).length ≤ _
      rw [List.length_append]
      have := h.plen
      simp; omega
    · show (ρ.inodes ++ [_]).length ≤ _
      rw [List.length_append]
      have := h.ilen
      simp; omega
    · rcases List.mem_append.1 hx with hx | hx
      · exact h.data x hx
      · simp at hx; subst hx
        unfold mkD
        simp only
        split
        · exact hd
        · simp
  · rw [if_neg h3] at hN h0
    by_cases h4 : a.kind = 4
    · rw [if_pos h4] at hN h0
      obtain ⟨i, hi, rfl⟩ := hN
      have hc : checkP a.path = 0 := by
        unfold linkRE at h0
        split at h0
        · rename_i h1; exact absurd h0 h1
        · rename_i h1; simpa using h1
      have hl := checkP_len hc
      have hii := h.idx _ (lkF_mem hi)
      refine ⟨fun x hx => ?_, ?_, by have := h.ilen; unfold linkedR; simp only; omega, h.first, h.step, by have := h.lists; unfold linkedR; simp only; omega, h.rot, h.rotl, fun x hx => (hpath i (by simp only at hii; omega) hl x hx).2, h.data⟩
      · rcases List.mem_append.1 hx with hx | hx
        · exact h.idx x hx
        · simp at hx; subst hx; exact hii
      · show (ρ.paths ++ [_]).length ≤ _
        rw [List.length_append]
        have := h.plen
        simp; omega
    · rw [if_neg h4] at hN
      by_cases h5 : a.kind = 5
      · rw [if_pos h5] at hN
        obtain ⟨i, hi, rfl⟩ := hN
        have hii := h.idx _ (lkF_mem hi)
        refine ⟨fun x hx => ?_, by have := h.plen; unfold chownedR; simp only; omega, ?_, h.first, h.step, by have := h.lists; unfold chownedR; simp only; omega, h.rot, h.rotl, h.short, fun x hx => ?_⟩
        · show x.2 < (ρ.inodes.set _ _).length
          rw [List.length_set]
          exact h.idx x hx
        · show (ρ.inodes.set _ _).length ≤ _
          rw [List.length_set]
          have := h.ilen
          omega
        · have hx2 : x ∈ ρ.inodes.set i { nodeR ρ i with uid := a.mode, mtime := a.data.length } := hx
          rcases List.mem_or_eq_of_mem_set hx2 with h6 | h6
          · exact h.data x h6
          · subst h6
            have hii2 : i < ρ.inodes.length := hii
            have hm : nodeR ρ i ∈ ρ.inodes := by
              unfold nodeR
              rw [List.getD_eq_getElem?_getD, List.getElem?_eq_getElem hii2]
              exact List.getElem_mem hii2
            exact h.data (nodeR ρ i) hm
      · rw [if_neg h5] at hN
        subst hN
        exact h.mono (by omega)
structure Half (w0 w : World) (f : Nat) (O : List Nat) (σ : Fs) (r : Nat) (Q : List Nat) (ρ : RFs) (n : Nat) : Prop where
  live : Live w0 w f O σ n
  ref : RAt w r Q ρ
  own : ∀ g ∈ Q, w0.heap.size ≤ g
  ne : ∀ x ∈ O, x ∉ Q
theorem Half.quiet {w0 w w' : World} {f r n : Nat} {O Q : List Nat} {σ : Fs} {ρ : RFs} (h : Half w0 w f O σ r Q ρ n) (k : Chg [] w w') : Half w0 w' f O σ r Q ρ n := ⟨h.live.quiet k, h.ref.foreign k (by simp), h.own, h.ne⟩
structure Duo (w0 w : World) (f : Nat) (O : List Nat) (σ : Fs) (r : Nat) (Q : List Nat) (ρ : RFs) (n : Nat) (bs : List Nat) : Prop where
  half : Half w0 w f O σ r Q ρ n
  num : RNum n ρ
  rel : Rel σ ρ bs
  tidy : Tidy σ
theorem Duo.quiet {w0 w w' : World} {f r n : Nat} {O Q bs : List Nat} {σ : Fs} {ρ : RFs} (h : Duo w0 w f O σ r Q ρ n bs) (k : Chg [] w w') : Duo w0 w' f O σ r Q ρ n bs := ⟨h.half.quiet k, h.num, h.rel, h.tidy⟩
theorem like_lists' (σ : Fs) : FsLike σ { σ with lists := σ.lists + 1 } := ⟨rfl, fun _ => ⟨rfl, rfl⟩⟩
theorem halfDo (w0 w : World) {f r n : Nat} {O Q : List Nat} {σ : Fs} {ρ : RFs} (a : AAct) (ao : Option Addr) (dc : Nat) (fp : List Nat) (h : Half w0 w f O σ r Q ρ n) (hn : n ≤ 9000) (hkeys : KeysAt w0)
    (ht : a.target.length ≤ 140737488355328) (hd : Rd w0 fp ao (bv a.data)) (hdl : a.data.length ≤ 140737488355328) (hff : ∀ x ∈ fp, x < w0.heap.size) :
    Calls Tryz.prog 30 #[.pointer (some ⟨f, 0, none⟩), actV a ao dc] w fun e w' => e = .returned (.int .i64 (doE σ a)) ∧ ∃ O' σ', ((doE σ a ≠ 0 ∧ σ' = σ) ∨ (doE σ a = 0 ∧ Next σ (Fresh σ) a σ')) ∧ Half w0 w' f O' σ' r Q ρ (n + 2) ∧ Kept w w' O Q O' Q := by
  refine (doAct w f O σ a ao dc fp h.live.fs (h.live.inv.ok (by omega)) (h.live.keys hkeys).1 (h.live.keys hkeys).2 ht (hd.chg h.live.chg (by simp)) hdl (fun x hx hO => by have := hff x hx; have := h.live.own x hO; omega)).mono ?_
  rintro e w' ⟨he, h1, h2⟩
  refine ⟨he, ?_⟩
  by_cases h0 : doE σ a = 0
  · obtain ⟨σ', hN, hT⟩ := h2 h0
    have hTT := hT
    obtain ⟨O', ⟨g1, g2⟩, g3⟩ := hT
    have hQlt := h.ref.lt
    have hOQ : ∀ x ∈ O', x ∉ Q := fun x hx hQ => by
      rcases g2 x hx with h4 | h4
      · exact h.ne x h4 hQ
      · have := hQlt x hQ; omega
    have hchg : Chg [] w0 w' := h.live.chg.trans' g3 (by simp) (fun x hx hl => by have := h.live.own x hx; omega)
    refine ⟨O', σ', .inr ⟨h0, hN.fresh h.live⟩, ⟨⟨g1, hN.inv h.live.inv, fun x hx => ?_, hchg⟩, h.ref.foreign g3 (fun g hg hO => h.ne g hO hg), h.own, hOQ⟩, g3.size, fun x hx hO hQ => ⟨g3.block x hx hO, fun hx' => ?_, hQ⟩⟩
    · rcases g2 x hx with h4 | h4
      · exact h.live.own x h4
      · have := h.live.chg.size; omega
    · rcases g2 x hx' with h4 | h4
      · exact hO h4
      · omega
  · have hq := h.quiet (h1 h0)
    exact ⟨O, σ, .inl ⟨h0, rfl⟩, ⟨hq.live.upto (by omega), hq.ref, hq.own, hq.ne⟩, Kept.of_chg (h1 h0) O Q⟩
theorem halfRef (w0 w : World) {f r n m : Nat} {O Q : List Nat} {σ : Fs} {ρ : RFs} (a : AAct) (ao : Option Addr) (dc : Nat) (fp : List Nat) (h : Half w0 w f O σ r Q ρ n) (hk : RNum m ρ) (hm : m ≤ 9000)
    (hp : a.path.length ≤ 140737488355328) (ht : a.target.length ≤ 140737488355328) (hd : Rd w0 fp ao (bv a.data)) (hdl : a.data.length ≤ 140737488355328) :
    Calls Tryz.prog 31 #[.pointer (some ⟨r, 0, none⟩), actV a ao dc] w fun e w' => e = .returned (.int .i64 (refDoE ρ a)) ∧ ∃ Q' ρ', ((refDoE ρ a ≠ 0 ∧ ρ' = ρ) ∨ (refDoE ρ a = 0 ∧ RefNext ρ a ρ')) ∧ Half w0 w' f O σ r Q' ρ' n ∧ Kept w w' O Q O Q' := by
  refine (refDo w r Q ρ a ao dc fp h.ref (hk.ok hm) hp ht (hd.chg h.live.chg (by simp)) hdl).mono ?_
  rintro e w' ⟨he, h1, h2⟩
  refine ⟨he, ?_⟩
  by_cases h0 : refDoE ρ a = 0
  · obtain ⟨ρ', hN, Q', ⟨g1, g2⟩, g3⟩ := h2 h0
    have hOlt := h.live.lt
    have hOQ : ∀ x ∈ O, x ∉ Q' := fun x hx hQ => by
      rcases g2 x hQ with h4 | h4
      · exact h.ne x hx h4
      · have := hOlt x hx; omega
    refine ⟨Q', ρ', .inr ⟨h0, hN⟩, ⟨h.live.far g3 (fun x hx => h.ne x hx) (fun x hx => h.own x hx), g1, fun x hx => ?_, hOQ⟩, g3.size, fun x hx hO hQ => ⟨g3.block x hx hQ, hO, fun hx' => ?_⟩⟩
    · rcases g2 x hx with h4 | h4
      · exact h.own x h4
      · have := h.live.chg.size; omega
    · rcases g2 x hx' with h4 | h4
      · exact hQ h4
      · omega
  · exact ⟨Q, ρ, .inl ⟨h0, rfl⟩, h.quiet (h1 h0), Kept.of_chg (h1 h0) O Q⟩
/-- Both calls are done. -/
theorem Duo.done {w0 w w' : World} {f r n : Nat} {O Q bs O' Q' : List Nat} {σ σ' : Fs} {ρ ρ' : RFs} {a : AAct} (h : Duo w0 w f O σ r Q ρ n bs) (hd : a.data.length ≤ 140737488355328) (h1 : (doE σ a ≠ 0 ∧ σ' = σ) ∨ (doE σ a = 0 ∧ Next σ (Fresh σ) a σ'))
    (h2 : (refDoE ρ a ≠ 0 ∧ ρ' = ρ) ∨ (refDoE ρ a = 0 ∧ RefNext ρ a ρ')) (hh : Half w0 w' f O' σ' r Q' ρ' (n + 2)) : ∃ bs', Duo w0 w' f O' σ' r Q' ρ' (n + 2) bs' := by
  have he := do_rel h.rel a
  rcases h1 with ⟨h1, rfl⟩ | ⟨h1, h3⟩
  · rcases h2 with ⟨_, rfl⟩ | ⟨h2, _⟩
    · exact ⟨bs, hh, h.num.mono (by omega), h.rel, h.tidy⟩
    · exact absurd (he.trans h2) h1
  · rcases h2 with ⟨h2, _⟩ | ⟨h2, h4⟩
    · exact absurd (he.symm.trans h1) h2
    · obtain ⟨bs', hb⟩ := rel_next h.rel h.tidy h1 h3 h4
      exact ⟨bs', hh, (RNum.next h.num h2 h4 hd).mono (by omega), hb, next_tidy h.tidy h1 h3⟩
end Go.Proofs.YtfhiioopimmahaaGreatDoor
namespace Go.Pax
open Go.RowKit
theorem natL_pos (l : List UInt8) : ∀ x ∈ natL l, 0 ≤ x := fun x hx => by
  unfold natL at hx
  obtain ⟨b, _, rfl⟩ := List.mem_map.1 hx
  omega
end Go.Pax
namespace Go.Proofs.YtfhiioopimmahaaGreatDoor
open Go.RowKit Go.Pax Go.Shelf
theorem Duo.upto {w0 w : World} {f r n m : Nat} {O Q bs : List Nat} {σ : Fs} {ρ : RFs} (h : Duo w0 w f O σ r Q ρ n bs) (hm : n ≤ m) : Duo w0 w f O σ r Q ρ m bs :=
  ⟨⟨h.half.live.upto hm, h.half.ref, h.half.own, h.half.ne⟩, h.num.mono hm, h.rel, h.tidy⟩
theorem newRotN (w0 w : World) (first step : Int) (l : List UInt8) (n : Nat) (a : Option Addr) (cap : Nat) (h1 : inOpt first) (h2 : inOpt step) (hn : l.length = n) (hl : n ≤ 50) (k : Chg [] w0 w) (B : Nat) (hown : w.ownsRow B 3 1 (.slice a n cap) n (iv (natL l))) :
    Calls Tryz.prog 20 #[.agg #[.int .i64 first, .int .i64 step, .slice a n cap]] w fun e w' => ∃ f O b, e = .returned (.tuple #[.pointer (some ⟨f, 0, none⟩), .int .i64 0]) ∧ Live w0 w' f O (newFs first step (natL l) b) 0 ∧ Chg [] w w' := by
  obtain ⟨hr, _, _⟩ := own_rd2 hown
  refine (liveNew w0 w first step (natL l) a n cap _ k (by simp [natL, hn]) (by omega) (by omega) hr).mono ?_
  rintro e w' ⟨_, h2'⟩
  have h0 : newE first step (natL l) = 0 := by
    unfold newE
    rw [if_pos]
    refine ⟨h1, h2, ?_⟩
    by_cases hi : idxN (natL l) 0 < 0
    · exact hi
    · obtain ⟨y, hy, hy2⟩ := (idxN_neg (natL l) 0).1 (by omega)
      have := natL_pos l y hy
      omega
  exact h2' h0
theorem duo_new (w0 w w' : World) (f : Nat) (O : List Nat) (first step : Int) (rot : List Int) (b r : Nat) (Q : List Nat) (h1 : inOpt first) (h2 : inOpt step) (h3 : ∀ x ∈ rot, 0 ≤ x) (h4 : rot.length ≤ 10000) (hL : Live w0 w f O (newFs first step rot b) 0) (hr : RAt w' r Q (newR first step rot)) (hQ : ∀ g ∈ Q, w.heap.size ≤ g) (k : Chg [] w w') :
    Duo w0 w' f O (newFs first step rot b) r Q (newR first step rot) 0 [b] :=
  ⟨⟨hL.quiet k, hr, fun g hg => Nat.le_trans hL.chg.size (hQ g hg), fun x hx hq => by have := hL.lt x hx; have := hQ x hq; omega⟩, RNum.new h1 h2 h3 h4, rel_new _ _ _ _, tidy_new _ _ _ _⟩
end Go.Proofs.YtfhiioopimmahaaGreatDoor
namespace Go.Pax
open Go.RowKit
structure Rooted (n : Nat) (σ : Fs) : Prop where
  root : ∃ b, lkF σ.files [] = some b ∧ (σ.node b).kind = 0
  up : ∀ p b, lkF σ.files p = some b → p ≠ [] → checkP p = 0 ∧ ∃ d, lkF σ.files (parentP p) = some d ∧ (σ.node d).kind = 0 ∧ baseP p ∈ (σ.node d).names
  len : σ.files.length ≤ n + 1
  named : ∀ d b, lkF σ.files d = some b → (σ.node b).kind = 0 → [] ∉ (σ.node b).names
theorem compsL_append (a b : Str) : compsL (a ++ 47 :: b) = compsL a ++ compsL b := by
  induction a with
  | nil => simp [compsL]
  | cons c a ih =>
    simp only [List.cons_append, compsL]
    by_cases h : c = 47
    · rw [if_pos h, if_pos h, ih]; rfl
    · rw [if_neg h, if_neg h, ih]
      cases hc : compsL a with
      | nil => exact absurd hc (compsL_ne a)
      | cons h t => rfl
theorem base_ne {p : Str} (h : checkP p = 0) : baseP p ≠ [] := fun hb => by
  have hj := (join_base h).1
  rw [hb] at hj
  have hbad : (compsL p).any badC = true := by
    rw [← hj]
    unfold joinP
    split
    · rfl
    · rw [compsL_append]
      simp [compsL, badC]
  unfold checkP at h
  split at h
  · cases h
  · first | (rw [if_pos hbad] at h; cases h) | cases h
theorem Rooted.mono {n m : Nat} {σ : Fs} (h : Rooted n σ) (hm : n ≤ m) : Rooted m σ := ⟨h.root, h.up, by have := h.len; omega, h.named⟩
theorem mem_ins_self {α : Type} (l : List α) (i : Nat) (x : α) : x ∈ insAt l i x := by simp [insAt]
theorem mem_ins_old {α : Type} {l : List α} (i : Nat) (x : α) {y : α} (h : y ∈ l) : y ∈ insAt l i x := by
  unfold insAt
  rw [← List.take_append_drop i l] at h
  rcases List.mem_append.1 h with h | h
  · exact List.mem_append_left _ h
  · exact List.mem_append_right _ (List.mem_cons_of_mem _ h)
theorem Ent.rooted {σ σ' : Fs} {p : Str} {t : Option Str} {k : Int} {pb b n : Nat} (h : Ent σ σ' p t k pb b) (hr : Rooted n σ) (hl : σ'.files.length ≤ n + 2) : Rooted (n + 1) σ' := by
  refine ⟨?_, fun q x hq hne => ?_, hl, fun d x hd hk hm => ?_⟩
  · obtain ⟨r, h1, h2⟩ := hr.root
    exact ⟨r, h.dir h1 h2⟩
  · have old : ∀ (d : Nat) (e : Str), lkF σ.files e = some d → (σ.node d).kind = 0 → ∀ s ∈ (σ.node d).names, s ∈ (σ'.node d).names := fun d e he hk s hs => by
      by_cases h1 : d = pb
      · subst h1
        rw [h.pnode.2]
        exact mem_ins_old _ _ hs
      · have h2 : d ≠ b := by
          rintro rfl
          have hi := h.it
          cases t with
          | none => exact hi.1 e he
          | some r => have := hi.2.1; omega
        rw [(h.other d h1 h2).2]
        exact hs
    rcases h.cases hq with ⟨rfl, rfl⟩ | ⟨_, ho⟩
    · refine ⟨h.ok, pb, (h.dir h.par.1 h.par.2).1, h.pnode.1, ?_⟩
      rw [h.pnode.2]
      exact mem_ins_self _ _ _
    · obtain ⟨h1, d, h2, h3, h4⟩ := hr.up q x ho hne
      exact ⟨h1, d, (h.dir h2 h3).1, (h.dir h2 h3).2, old d _ h2 h3 _ h4⟩
  · have hi := h.it
    rcases h.cases hd with ⟨rfl, rfl⟩ | ⟨_, ho⟩
    · cases t with
      | none => rw [hi.2.2] at hm; simp at hm
      | some r => have := hi.2.2.1; omega
    · by_cases h1 : x = pb
      · subst h1
        rw [h.pnode.2] at hm
        rcases ins_mem hm with h2 | h2
        · exact hr.named _ _ ho h.par.2 h2
        · exact base_ne h.ok h2.symm
      · have h2 : x ≠ b := by
          rintro rfl
          cases t with
          | none => exact hi.1 d ho
          | some r => have := hi.2.2.1; omega
        rw [(h.other x h1 h2).2] at hm
        rw [(h.other x h1 h2).1] at hk
        exact hr.named _ _ ho hk hm
theorem FsLike.rooted {σ σ' : Fs} {n : Nat} (h : FsLike σ σ') (hr : Rooted n σ) : Rooted n σ' := by
  refine ⟨?_, fun p b hp hne => ?_, by rw [h.files]; exact hr.len, fun d b hd hk => by rw [h.files] at hd; rw [(h.node b).1] at hk; rw [(h.node b).2]; exact hr.named d b hd hk⟩
  · obtain ⟨r, h1, h2⟩ := hr.root
    exact ⟨r, by rw [h.files]; exact h1, by rw [(h.node r).1]; exact h2⟩
  · rw [h.files] at hp ⊢
    obtain ⟨h1, d, h2, h3, h4⟩ := hr.up p b hp hne
    exact ⟨h1, d, h2, by rw [(h.node d).1]; exact h3, by rw [(h.node d).2]; exact h4⟩
theorem rooted_new (a b : Int) (r : List Int) (x : Nat) : Rooted 0 (newFs a b r x) := by
  refine ⟨⟨x, by simp [newFs, lkF], by simp [newFs, rootNd]⟩, fun p y hp hne => ?_, by simp [newFs], fun d b hd hk => by simp [newFs, rootNd]⟩
  simp only [newFs, lkF, if_neg hne] at hp
  cases hp
/-- A path goes ahead of what lies below it. -/
theorem lt_below (l : Str) (c : UInt8) (r : Str) : l < l ++ c :: r := by
  induction l with
  | nil => exact List.nil_lt_cons _ _
  | cons a l ih => exact List.cons_lt_cons_iff.2 (.inr ⟨rfl, ih⟩)
theorem join_lt {d : Str} (hd : d ≠ []) (s : Str) : d < joinP d s := by
  unfold joinP
  rw [if_neg hd]
  exact lt_below _ _ _
theorem join_parts {d s : Str} (hs : 47 ∉ s) : parentP (joinP d s) = d ∧ baseP (joinP d s) = s := by
  by_cases hd : d = []
  · subst hd
    have e : joinP [] s = s := by unfold joinP; rw [if_pos rfl]
    rw [e]
    rcases lastSl_spec s with ⟨h1, _⟩ | ⟨i, hi, _, h2, _⟩
    · exact ⟨by unfold parentP; rw [h1]; rfl, by unfold baseP; rw [h1]; rfl⟩
    · exact absurd (List.mem_of_getElem? h2) hs
  · have e : joinP d s = d ++ 47 :: s := by unfold joinP; rw [if_neg hd]
    have hl : lastSl (d ++ 47 :: s) = d.length := by
      refine lastSl_at (k := d.length) (by simp) (by simp) (fun j hj hlt h47 => ?_)
      rw [List.getElem_append_right (by omega)] at h47
      obtain ⟨m, hm⟩ : ∃ m, j - d.length = m + 1 := ⟨j - d.length - 1, by omega⟩
      have h9 : (47 :: s)[j - d.length]? = some 47 := by rw [List.getElem?_eq_getElem (by simp at hj ⊢; omega)]; exact congrArg some h47
      rw [hm, List.getElem?_cons_succ] at h9
      exact hs (List.mem_of_getElem? h9)
    rw [e]
    unfold parentP baseP
    rw [hl]
    refine ⟨?_, ?_⟩
    · rw [if_neg (by omega)]
      simp
    · rw [show ((d.length : Int) + 1).toNat = d.length + 1 by omega]
      simp [List.drop_append]
theorem join_inj {d s t : Str} (hs : 47 ∉ s) (ht : 47 ∉ t) (h : joinP d s = joinP d t) : s = t := by
  have h1 := (join_parts (d := d) hs).2
  rw [h, (join_parts ht).2] at h1
  exact h1.symm
/-- All paths but the root, in order. -/
structure PathsOf (σ : Fs) (V : List Str) : Prop where
  sorted : V.Pairwise (· < ·)
  mem : ∀ q, q ∈ V ↔ (q ≠ [] ∧ ∃ b, lkF σ.files q = some b)
structure Visit (σ : Fs) (V T : List Str) : Prop where
  vs : V.Pairwise (· < ·)
  vt : ∀ v ∈ V, ∀ t ∈ T, v < t
  tn : T.Nodup
  mem : ∀ q, q ∈ V ∨ q ∈ T → q ≠ [] ∧ ∃ b, lkF σ.files q = some b
  par : ∀ q ∈ T, parentP q = [] ∨ parentP q ∈ V
  clo : ∀ q b, lkF σ.files q = some b → q ≠ [] → (parentP q = [] ∨ parentP q ∈ V) → q ∈ V ∨ q ∈ T
theorem Visit.perm {σ : Fs} {V T T' : List Str} (h : Visit σ V T) (hp : T'.Perm T) : Visit σ V T' :=
  ⟨h.vs, fun v hv t ht => h.vt v hv t (hp.mem_iff.1 ht), hp.nodup_iff.2 h.tn, fun q hq => h.mem q (hq.imp id hp.mem_iff.1), fun q hq => h.par q (hp.mem_iff.1 hq), fun q b hb hne hpar => (h.clo q b hb hne hpar).imp id hp.mem_iff.2⟩
theorem Visit.short {σ : Fs} {V T : List Str} (h : Visit σ V T) : T.length ≤ σ.files.length := by
  have := List.Nodup.length_le_of_subset h.tn (l₂ := σ.files.map Prod.fst) (fun x hx => by
    obtain ⟨_, b, hb⟩ := h.mem x (.inr hx)
    exact List.mem_map.2 ⟨(x, b), lkF_mem hb, rfl⟩)
  simpa using this
theorem Visit.vnodup {σ : Fs} {V T : List Str} (h : Visit σ V T) : V.Nodup := h.vs.imp (fun hlt e => by subst e; exact slt_irrefl _ hlt)
theorem Visit.vshort {σ : Fs} {V T : List Str} (h : Visit σ V T) : V.length ≤ σ.files.length := by
  have := List.Nodup.length_le_of_subset h.vnodup (l₂ := σ.files.map Prod.fst) (fun x hx => by
    obtain ⟨_, b, hb⟩ := h.mem x (.inl hx)
    exact List.mem_map.2 ⟨(x, b), lkF_mem hb, rfl⟩)
  simpa using this
theorem Visit.both {σ : Fs} {V T : List Str} (h : Visit σ V T) : V.length + T.length ≤ σ.files.length := by
  have hn : (V ++ T).Nodup := List.nodup_append.2 ⟨h.vnodup, h.tn, fun a ha b hb e => by subst e; exact slt_irrefl _ (h.vt a ha a hb)⟩
  have := List.Nodup.length_le_of_subset hn (l₂ := σ.files.map Prod.fst) (fun x hx => by
    obtain ⟨_, b, hb⟩ := h.mem x (List.mem_append.1 hx)
    exact List.mem_map.2 ⟨(x, b), lkF_mem hb, rfl⟩)
  simpa using this
/-- What lies below a directory. -/
def kids (σ : Fs) (d : Str) (b : Nat) : List Str := (σ.node b).names.map (joinP d)
theorem kids_ok {σ : Fs} {n : Nat} (ht : Tidy σ) (hr : Rooted n σ) {d : Str} {b : Nat} (hb : lkF σ.files d = some b) (hk : (σ.node b).kind = 0) :
    (kids σ d b).Nodup ∧ ∀ q, q ∈ kids σ d b ↔ (q ≠ [] ∧ parentP q = d ∧ ∃ c, lkF σ.files q = some c) := by
  have hth := ht.there d b hb hk
  refine ⟨?_, fun q => ⟨fun hq => ?_, fun ⟨hne, hp, c, hc⟩ => ?_⟩⟩
  · have hs := ht.sorted d b hb hk
    unfold kids
    refine List.Pairwise.map _ ?_ (hs.imp_of_mem (S := fun x y => 47 ∉ x ∧ 47 ∉ y ∧ x ≠ y) (fun hx hy hlt => ⟨(hth _ hx).1, (hth _ hy).1, fun e => by subst e; exact slt_irrefl _ hlt⟩))
    rintro x y ⟨h1, h2, h3⟩ e
    exact h3 (join_inj h1 h2 e)
  · obtain ⟨s, hs, rfl⟩ := List.mem_map.1 hq
    obtain ⟨h1, c, hc⟩ := hth s hs
    refine ⟨fun e => ?_, (join_parts h1).1, c, hc⟩
    have h2 := (join_parts (d := d) h1).2
    rw [e] at h2
    exact hr.named d b hb hk (by rw [show ([] : Str) = s from h2]; exact hs)
  · obtain ⟨h1, d', h2, h3, h4⟩ := hr.up q c hc hne
    rw [hp, hb] at h2
    cases h2
    exact List.mem_map.2 ⟨baseP q, h4, by rw [← hp]; exact (join_base h1).1⟩
theorem Visit.first {σ : Fs} {n : Nat} (ht : Tidy σ) (hr : Rooted n σ) {b : Nat} (hb : lkF σ.files [] = some b) (hk : (σ.node b).kind = 0) : Visit σ [] (kids σ [] b) := by
  obtain ⟨h1, h2⟩ := kids_ok ht hr hb hk
  refine ⟨List.Pairwise.nil, fun v hv => by simp at hv, h1, fun q hq => ?_, fun q hq => .inl ((h2 q).1 hq).2.1, fun q c hc hne hp => .inr ((h2 q).2 ⟨hne, ?_, c, hc⟩)⟩
  · rcases hq with hq | hq
    · simp at hq
    · exact ⟨((h2 q).1 hq).1, ((h2 q).1 hq).2.2⟩
  · rcases hp with hp | hp
    · exact hp
    · simp at hp
/-- The least path is taken. -/
theorem Visit.taken {σ : Fs} {V R : List Str} {x : Str} (h : Visit σ V (x :: R)) (hx : ∀ y ∈ R, ¬ y < x) :
    (V ++ [x]).Pairwise (· < ·) ∧ (∀ v ∈ V ++ [x], ∀ t ∈ R, v < t) ∧ R.Nodup ∧ x ∉ V := by
  have hn := List.nodup_cons.1 h.tn
  have hxr : ∀ y ∈ R, x < y := fun y hy => slt_total (hx y hy) (fun e => by subst e; exact hn.1 hy)
  refine ⟨List.pairwise_append.2 ⟨h.vs, List.pairwise_singleton _ _, fun a ha b hb => ?_⟩, fun v hv t ht => ?_, hn.2, fun hm => slt_irrefl _ (h.vt x hm x (by simp))⟩
  · simp at hb; subst hb; exact h.vt a ha _ (by simp)
  · rcases List.mem_append.1 hv with hv | hv
    · exact h.vt v hv t (by simp [ht])
    · simp at hv; subst hv; exact hxr t ht
theorem Visit.leaf {σ : Fs} {n : Nat} (hr : Rooted n σ) {V R : List Str} {x : Str} {b : Nat} (h : Visit σ V (x :: R)) (hx : ∀ y ∈ R, ¬ y < x) (hb : lkF σ.files x = some b) (hk : (σ.node b).kind ≠ 0) : Visit σ (V ++ [x]) R := by
  obtain ⟨h1, h2, h3, h4⟩ := h.taken hx
  refine ⟨h1, h2, h3, fun q hq => h.mem q ?_, fun q hq => (h.par q (by simp [hq])).imp id (fun hv => List.mem_append_left _ hv), fun q c hc hne hp => ?_⟩
  · rcases hq with hq | hq
    · rcases List.mem_append.1 hq with hq | hq
      · exact .inl hq
      · exact .inr (by simp at hq; simp [hq])
    · exact .inr (by simp [hq])
  · have hp2 : parentP q = [] ∨ parentP q ∈ V := by
      rcases hp with hp | hp
      · exact .inl hp
      · rcases List.mem_append.1 hp with hp | hp
        · exact .inr hp
        · simp at hp
          obtain ⟨_, d, g2, g3, _⟩ := hr.up q c hc hne
          rw [hp, hb] at g2
          cases g2
          exact absurd g3 hk
    rcases h.clo q c hc hne hp2 with g | g
    · exact .inl (List.mem_append_left _ g)
    · rcases List.mem_cons.1 g with g | g
      · exact .inl (by simp [g])
      · exact .inr g
theorem Visit.dir {σ : Fs} {n : Nat} (ht : Tidy σ) (hr : Rooted n σ) {V R : List Str} {x : Str} {b : Nat} (h : Visit σ V (x :: R)) (hx : ∀ y ∈ R, ¬ y < x) (hb : lkF σ.files x = some b) (hk : (σ.node b).kind = 0) : Visit σ (V ++ [x]) (kids σ x b ++ R) := by
  obtain ⟨h1, h2, h3, h4⟩ := h.taken hx
  obtain ⟨k1, k2⟩ := kids_ok ht hr hb hk
  have hxne : x ≠ [] := (h.mem x (.inr (by simp))).1
  have hlt : ∀ q ∈ kids σ x b, x < q := fun q hq => by
    obtain ⟨s, _, rfl⟩ := List.mem_map.1 hq
    exact join_lt hxne s
  refine ⟨h1, fun v hv t ht2 => ?_, List.nodup_append.2 ⟨k1, h3, fun a ha c hc e => ?_⟩, fun q hq => ?_, fun q hq => ?_, fun q c hc hne hp => ?_⟩
  · rcases List.mem_append.1 ht2 with ht2 | ht2
    · rcases List.mem_append.1 hv with hv | hv
      · exact slt_trans (h.vt v hv x (by simp)) (hlt t ht2)
      · simp at hv; subst hv; exact hlt t ht2
    · exact h2 v hv t ht2
  · subst e
    rcases h.par a (by simp [hc]) with hp | hp
    · rw [((k2 a).1 ha).2.1] at hp; exact hxne hp
    · rw [((k2 a).1 ha).2.1] at hp; exact h4 hp
  · rcases hq with hq | hq
    · rcases List.mem_append.1 hq with hq | hq
      · exact h.mem q (.inl hq)
      · exact h.mem q (.inr (by simp at hq; simp [hq]))
    · rcases List.mem_append.1 hq with hq | hq
      · exact ⟨((k2 q).1 hq).1, ((k2 q).1 hq).2.2⟩
      · exact h.mem q (.inr (by simp [hq]))
  · rcases List.mem_append.1 hq with hq | hq
    · exact .inr (by rw [((k2 q).1 hq).2.1]; simp)
    · exact (h.par q (by simp [hq])).imp id (fun hv => List.mem_append_left _ hv)
  · have hold : (parentP q = [] ∨ parentP q ∈ V) → q ∈ V ++ [x] ∨ q ∈ kids σ x b ++ R := fun hp2 => by
      rcases h.clo q c hc hne hp2 with g | g
      · exact .inl (List.mem_append_left _ g)
      · rcases List.mem_cons.1 g with g | g
        · exact .inl (by simp [g])
        · exact .inr (List.mem_append_right _ g)
    rcases hp with hp | hp
    · exact hold (.inl hp)
    · rcases List.mem_append.1 hp with hp | hp
      · exact hold (.inr hp)
      · simp at hp
        exact .inr (List.mem_append_left _ ((k2 q).2 ⟨hne, hp, c, hc⟩))
theorem par_short {p : Str} (h : p ≠ []) : (parentP p).length < p.length := by
  rcases lastSl_spec p with ⟨h1, _⟩ | ⟨i, hi, h1, _, _⟩
  · have : parentP p = [] := by unfold parentP; rw [h1]; rfl
    rw [this]
    exact List.length_pos_iff.2 h
  · have : parentP p = p.take i := by unfold parentP; rw [h1, if_neg (by omega)]; rfl
    rw [this, List.length_take]
    omega
theorem Visit.done {σ : Fs} {n : Nat} (hr : Rooted n σ) {V : List Str} (h : Visit σ V []) : PathsOf σ V := by
  refine ⟨h.vs, fun q => ⟨fun hq => h.mem q (.inl hq), fun ⟨hne, b, hb⟩ => ?_⟩⟩
  have key : ∀ (k : Nat) (q : Str) (b : Nat), q.length ≤ k → q ≠ [] → lkF σ.files q = some b → q ∈ V := by
    intro k
    induction k with
    | zero => intro q b hk hne _; exact absurd (List.eq_nil_of_length_eq_zero (by omega)) hne
    | succ k ih =>
      intro q b hk hne hb
      obtain ⟨_, d, h2, h3, _⟩ := hr.up q b hb hne
      have hp : parentP q = [] ∨ parentP q ∈ V := by
        by_cases e : parentP q = []
        · exact .inl e
        · exact .inr (ih (parentP q) d (by have := par_short hne; omega) e h2)
      rcases h.clo q b hb hne hp with g | g
      · exact g
      · simp at g
  exact key q.length q b (Nat.le_refl _) hne hb
end Go.Pax
namespace Go.Proofs.YtfhiioopimmahaaGreatDoor
open Go.RowKit Go.Pax Go.Shelf
theorem next_rooted {n : Nat} {σ σ' : Fs} {a : AAct} (hr : Rooted n σ) (h0 : doE σ a = 0) (hN : Next σ (Fresh σ) a σ') : Rooted (n + 1) σ' := by
  unfold Next at hN
  unfold doE at h0
  have hl := hr.len
  by_cases h3 : 0 ≤ a.kind ∧ a.kind ≤ 3
  · rw [if_pos h3] at hN h0
    obtain ⟨pb, b, hpb, hb, rfl⟩ := hN
    exact (ent_made (make_parts h0).1 (make_parts h0).2 hpb hb (nd := newNd σ (mkK a) (mkM a) (mkT a) (mkD a)) rfl).rooted hr (by show (σ.files ++ [_]).length ≤ _; rw [List.length_append]; simp; omega)
  · rw [if_neg h3] at hN h0
    by_cases h4 : a.kind = 4
    · rw [if_pos h4] at hN h0
      obtain ⟨pb, b, hpb, hb, rfl⟩ := hN
      obtain ⟨g1, g2, g3⟩ := link_parts h0
      exact (ent_linked g1 g2 hpb hb (g3 b hb)).rooted hr (by show (σ.files ++ [_]).length ≤ _; rw [List.length_append]; simp; omega)
    · rw [if_neg h4] at hN
      by_cases h5 : a.kind = 5
      · rw [if_pos h5] at hN
        obtain ⟨b, hb, rfl⟩ := hN
        have alike : FsLike σ (setNode σ b { σ.node b with uid := a.mode, mtime := a.data.length }) := ⟨rfl, fun i => by
          show (if i = b then ({ σ.node b with uid := a.mode, mtime := a.data.length } : Nd) else σ.node i).kind = _ ∧ (if i = b then ({ σ.node b with uid := a.mode, mtime := a.data.length } : Nd) else σ.node i).names = _
          split
          · rename_i e; rw [e]; exact ⟨rfl, rfl⟩
          · exact ⟨rfl, rfl⟩⟩
        exact (alike.rooted hr).mono (by omega)
      · rw [if_neg h5] at hN
        subst hN
        exact hr.mono (by omega)
end Go.Proofs.YtfhiioopimmahaaGreatDoor
namespace Go.Pax
open Go.RowKit
structure Dist (σ : Fs) : Prop where
  step : 1 ≤ σ.step
  pos : 1 ≤ σ.next
  low : ∀ p b, lkF σ.files p = some b → 1 ≤ (σ.node b).ino ∧ (σ.node b).ino < σ.next
  inj : ∀ p q b c, lkF σ.files p = some b → lkF σ.files q = some c → (σ.node b).ino = (σ.node c).ino → b = c
  one : ∀ p b, lkF σ.files p = some b → 1 ≤ (σ.node b).links
  many : ∀ p b, lkF σ.files p = some b → (2 ≤ (σ.node b).links ↔ ∃ q, q ≠ p ∧ lkF σ.files q = some b)
  sole : ∀ p q b, lkF σ.files p = some b → lkF σ.files q = some b → p ≠ q → (σ.node b).kind = 1
theorem dist_new {first step : Int} (r : List Int) (x : Nat) (h1 : 1 ≤ first) (h2 : 1 ≤ step) : Dist (newFs first step r x) := by
  have only : ∀ p b, lkF (newFs first step r x).files p = some b → p = [] ∧ b = x := fun p b h => by
    simp only [newFs, lkF] at h
    split at h
    · rename_i e; injection h with h; exact ⟨e, h.symm⟩
    · cases h
  refine ⟨h2, by show 1 ≤ first + step; omega, fun p b h => ?_, fun p q b c hp hq _ => ?_, fun p b h => ?_, fun p b h => ?_, fun p q b hp hq hne => ?_⟩
  · show 1 ≤ first ∧ first < first + step; omega
  · rw [(only p b hp).2, (only q c hq).2]
  · show (1 : Int) ≤ 1; omega
  · constructor
    · intro h3
      have h4 : (2 : Int) ≤ 1 := h3
      omega
    · rintro ⟨q, hne, hq⟩
      exact absurd ((only q b hq).1.trans (only p b h).1.symm) hne
  · exact absurd ((only p b hp).1.trans (only q b hq).1.symm) hne
theorem Dist.alike {σ σ' : Fs} (h : Dist σ) (hf : σ'.files = σ.files) (hs : σ'.step = σ.step) (hn : σ'.next = σ.next) (hi : ∀ b, (σ'.node b).ino = (σ.node b).ino ∧ (σ'.node b).links = (σ.node b).links ∧ (σ'.node b).kind = (σ.node b).kind) : Dist σ' := by
  refine ⟨by rw [hs]; exact h.step, by rw [hn]; exact h.pos, fun p b hp => ?_, fun p q b c hp hq he => ?_, fun p b hp => ?_, fun p b hp => ?_, fun p q b hp hq hne => ?_⟩
  · rw [hf] at hp; rw [(hi b).1, hn]; exact h.low p b hp
  · rw [hf] at hp hq; rw [(hi b).1, (hi c).1] at he; exact h.inj p q b c hp hq he
  · rw [hf] at hp; rw [(hi b).2.1]; exact h.one p b hp
  · rw [hf] at hp ⊢; rw [(hi b).2.1]; exact h.many p b hp
  · rw [hf] at hp hq; rw [(hi b).2.2]; exact h.sole p q b hp hq hne
end Go.Pax
namespace Go.Proofs.YtfhiioopimmahaaGreatDoor
open Go.RowKit Go.Pax Go.Shelf
theorem dist_made {σ : Fs} {p : Str} {nd : Nd} {pb b : Nat} (h : Dist σ) (hE : Ent σ (made σ p nd pb b) p none nd.kind pb b) (hi : nd.ino = σ.next) (hl : nd.links = 1) : Dist (made σ p nd pb b) := by
  have hnode : ∀ i, (made σ p nd pb b).node i = if i = pb then addName (if pb = b then nd else σ.node pb) (baseP p) else if i = b then nd else σ.node i := fun i => rfl
  have hnb : (made σ p nd pb b).node b = nd := by rw [hnode, if_neg hE.ne, if_pos rfl]
  have hold : ∀ i, i ≠ b → ((made σ p nd pb b).node i).ino = (σ.node i).ino ∧ ((made σ p nd pb b).node i).links = (σ.node i).links ∧ ((made σ p nd pb b).node i).kind = (σ.node i).kind := fun i hib => by
    rw [hnode]
    by_cases h1 : i = pb
    · subst h1
      rw [if_pos rfl, if_neg hib]
      exact ⟨rfl, rfl, rfl⟩
    · rw [if_neg h1, if_neg hib]
      exact ⟨rfl, rfl, rfl⟩
  have hnx : (made σ p nd pb b).next = σ.next + σ.step := rfl
  have hst : (made σ p nd pb b).step = σ.step := rfl
  have hfr : ∀ q x, lkF σ.files q = some x → x ≠ b := fun q x hq e => hE.it.1 q (e ▸ hq)
  have hs := h.step
  have hps := h.pos
  refine ⟨by rw [hst]; exact hs, by rw [hnx]; omega, fun q x hq => ?_, fun q r x y hq hr he => ?_, fun q x hq => ?_, fun q x hq => ?_, fun q r x hq hr hne => ?_⟩
  · rw [hnx]
    rcases hE.cases hq with ⟨_, rfl⟩ | ⟨_, ho⟩
    · rw [hnb, hi]; omega
    · rw [(hold x (hfr q x ho)).1]
      have := h.low q x ho
      omega
  · rcases hE.cases hq with ⟨_, rfl⟩ | ⟨_, ho⟩
    · rcases hE.cases hr with ⟨_, rfl⟩ | ⟨_, ho2⟩
      · rfl
      · rw [hnb, hi, (hold y (hfr r y ho2)).1] at he
        have := h.low r y ho2
        omega
    · rcases hE.cases hr with ⟨_, rfl⟩ | ⟨_, ho2⟩
      · rw [hnb, hi, (hold x (hfr q x ho)).1] at he
        have := h.low q x ho
        omega
      · rw [(hold x (hfr q x ho)).1, (hold y (hfr r y ho2)).1] at he
        exact h.inj q r x y ho ho2 he
  · rcases hE.cases hq with ⟨_, rfl⟩ | ⟨_, ho⟩
    · rw [hnb, hl]; omega
    · rw [(hold x (hfr q x ho)).2.1]
      exact h.one q x ho
  · rcases hE.cases hq with ⟨rfl, rfl⟩ | ⟨hqp, ho⟩
    · rw [hnb, hl]
      constructor
      · intro h3; omega
      · rintro ⟨r, hne, hr⟩
        rcases hE.cases hr with ⟨h4, _⟩ | ⟨_, ho⟩
        · exact absurd h4 hne
        · exact absurd rfl (hfr r _ ho)
    · rw [(hold x (hfr q x ho)).2.1, h.many q x ho]
      constructor
      · rintro ⟨r, h3, h4⟩
        exact ⟨r, h3, hE.old h4⟩
      · rintro ⟨r, h3, h4⟩
        rcases hE.cases h4 with ⟨_, h5⟩ | ⟨_, h5⟩
        · exact absurd h5 (hfr q x ho)
        · exact ⟨r, h3, h5⟩
  · rcases hE.cases hq with ⟨rfl, rfl⟩ | ⟨hqp, ho⟩
    · rcases hE.cases hr with ⟨h4, _⟩ | ⟨_, ho2⟩
      · exact absurd h4.symm hne
      · exact absurd rfl (hfr r _ ho2)
    · rcases hE.cases hr with ⟨_, h5⟩ | ⟨_, ho2⟩
      · exact absurd h5 (hfr q x ho)
      · rw [(hold x (hfr q x ho)).2.2]
        exact h.sole q r x ho ho2 hne
theorem dist_linked {σ : Fs} {p t : Str} {pb b : Nat} (h : Dist σ) (hE : Ent σ (linked σ p pb b) p (some t) 0 pb b) : Dist (linked σ p pb b) := by
  have hnode : ∀ i, (linked σ p pb b).node i = if i = pb then addName (if pb = b then { σ.node b with links := (σ.node b).links + 1 } else σ.node pb) (baseP p) else if i = b then { σ.node b with links := (σ.node b).links + 1 } else σ.node i := fun i => rfl
  have hnb : (linked σ p pb b).node b = { σ.node b with links := (σ.node b).links + 1 } := by rw [hnode, if_neg hE.ne, if_pos rfl]
  have hold : ∀ i, i ≠ b → ((linked σ p pb b).node i).ino = (σ.node i).ino ∧ ((linked σ p pb b).node i).links = (σ.node i).links ∧ ((linked σ p pb b).node i).kind = (σ.node i).kind := fun i hib => by
    rw [hnode]
    by_cases h1 : i = pb
    · subst h1
      rw [if_pos rfl, if_neg hib]
      exact ⟨rfl, rfl, rfl⟩
    · rw [if_neg h1, if_neg hib]
      exact ⟨rfl, rfl, rfl⟩
  have hino : ∀ i, ((linked σ p pb b).node i).ino = (σ.node i).ino ∧ ((linked σ p pb b).node i).kind = (σ.node i).kind := fun i => by
    by_cases e : i = b
    · subst e; rw [hnb]; exact ⟨rfl, rfl⟩
    · exact ⟨(hold i e).1, (hold i e).2.2⟩
  obtain ⟨ht, hk1, _, _⟩ := hE.it
  have hnx : (linked σ p pb b).next = σ.next := rfl
  have hst : (linked σ p pb b).step = σ.step := rfl
  have htp : t ≠ p := fun e => by rw [e, hE.new] at ht; cases ht
  have was : ∀ q x, lkF (linked σ p pb b).files q = some x → ∃ r, lkF σ.files r = some x := fun q x hq => by
    rcases hE.cases hq with ⟨_, rfl⟩ | ⟨_, ho⟩
    · exact ⟨t, ht⟩
    · exact ⟨q, ho⟩
  have hpn : lkF (linked σ p pb b).files p = some b := by rw [hE.lk, if_pos rfl]
  refine ⟨by rw [hst]; exact h.step, by rw [hnx]; exact h.pos, fun q x hq => ?_, fun q r x y hq hr he => ?_, fun q x hq => ?_, fun q x hq => ?_, fun q r x hq hr hne => ?_⟩
  · obtain ⟨r, hr⟩ := was q x hq
    rw [hnx, (hino x).1]
    exact h.low r x hr
  · obtain ⟨q', hq'⟩ := was q x hq
    obtain ⟨r', hr'⟩ := was r y hr
    rw [(hino x).1, (hino y).1] at he
    exact h.inj q' r' x y hq' hr' he
  · obtain ⟨r, hr⟩ := was q x hq
    have := h.one r x hr
    by_cases e : x = b
    · subst e; rw [hnb]; simp only; omega
    · rw [(hold x e).2.1]; exact this
  · by_cases e : x = b
    · subst e
      have := h.one t x ht
      refine ⟨fun _ => ?_, fun _ => by rw [hnb]; simp only; omega⟩
      by_cases e2 : q = p
      · subst e2
        exact ⟨t, htp, hE.old ht⟩
      · exact ⟨p, fun e3 => e2 e3.symm, hpn⟩
    · rw [(hold x e).2.1]
      rcases hE.cases hq with ⟨_, h5⟩ | ⟨_, ho⟩
      · exact absurd h5 e
      · rw [h.many q x ho]
        constructor
        · rintro ⟨r, h3, h4⟩
          exact ⟨r, h3, hE.old h4⟩
        · rintro ⟨r, h3, h4⟩
          rcases hE.cases h4 with ⟨_, h5⟩ | ⟨_, h5⟩
          · exact absurd h5 e
          · exact ⟨r, h3, h5⟩
  · rw [(hino x).2]
    by_cases e : x = b
    · subst e; exact hk1
    · rcases hE.cases hq with ⟨_, h5⟩ | ⟨_, ho⟩
      · exact absurd h5 e
      · rcases hE.cases hr with ⟨_, h5⟩ | ⟨_, ho2⟩
        · exact absurd h5 e
        · exact h.sole q r x ho ho2 hne
theorem next_dist {σ σ' : Fs} {a : AAct} (hr : Dist σ) (h0 : doE σ a = 0) (hN : Next σ (Fresh σ) a σ') : Dist σ' := by
  unfold Next at hN
  unfold doE at h0
  by_cases h3 : 0 ≤ a.kind ∧ a.kind ≤ 3
  · rw [if_pos h3] at hN h0
    obtain ⟨pb, b, hpb, hb, rfl⟩ := hN
    exact dist_made hr (ent_made (make_parts h0).1 (make_parts h0).2 hpb hb (nd := newNd σ (mkK a) (mkM a) (mkT a) (mkD a)) rfl) rfl rfl
  · rw [if_neg h3] at hN h0
    by_cases h4 : a.kind = 4
    · rw [if_pos h4] at hN h0
      obtain ⟨pb, b, hpb, hb, rfl⟩ := hN
      obtain ⟨g1, g2, g3⟩ := link_parts h0
      exact dist_linked hr (ent_linked g1 g2 hpb hb (g3 b hb))
    · rw [if_neg h4] at hN
      by_cases h5 : a.kind = 5
      · rw [if_pos h5] at hN
        obtain ⟨b, hb, rfl⟩ := hN
        refine hr.alike rfl rfl rfl fun i => ?_
        show (if i = b then ({ σ.node b with uid := a.mode, mtime := a.data.length } : Nd) else σ.node i).ino = _ ∧ (if i = b then ({ σ.node b with uid := a.mode, mtime := a.data.length } : Nd) else σ.node i).links = _ ∧ (if i = b then ({ σ.node b with uid := a.mode, mtime := a.data.length } : Nd) else σ.node i).kind = _
        split
        · rename_i e; rw [e]; exact ⟨rfl, rfl, rfl⟩
        · exact ⟨rfl, rfl, rfl⟩
      · rw [if_neg h5] at hN
        subst hN
        exact hr
/-- Rooted, its numbers distinct. -/
structure Firm (n : Nat) (σ : Fs) : Prop where
  rooted : Rooted n σ
  dist : Dist σ
theorem Firm.mono {n m : Nat} {σ : Fs} (h : Firm n σ) (hm : n ≤ m) : Firm m σ := ⟨h.rooted.mono hm, h.dist⟩
theorem firm_new {first step : Int} (r : List Int) (x : Nat) (h1 : inOpt first) (h2 : inOpt step) : Firm 0 (newFs first step r x) := ⟨rooted_new _ _ _ _, dist_new _ _ h1.1 h2.1⟩
theorem next_firm {n : Nat} {σ σ' : Fs} {a : AAct} (hr : Firm n σ) (h0 : doE σ a = 0) (hN : Next σ (Fresh σ) a σ') : Firm (n + 1) σ' := ⟨next_rooted hr.rooted h0 hN, next_dist hr.dist h0 hN⟩
end Go.Proofs.YtfhiioopimmahaaGreatDoor
