/- paxtarlaw19: alive. -/
import Derived.Test.YtoionaeimnmcbaaGreatDoorVLive
namespace Go.Pax
open Go.RowKit
def pA : Str := [97]
def pB : Str := [98]
end Go.Pax
namespace Go.Proofs.YtoionaeimnmcbaaGreatDoor
open Go.RowKit Go.Pax Go.Shelf
theorem alive_make (r : Nat) : makeE (newFs 1 1 [] r) pA 1 420 [] = 0 := by
  have h1 : checkP pA = 0 := by decide
  have h2 : parentP pA = [] := by decide
  unfold makeE placeE
  rw [h1, h2]
  simp [newFs, lkF, pA, rootNd]
theorem alive_parent {r pb : Nat} (h : lkF (newFs 1 1 [] r).files (parentP pA) = some pb) : pb = r := by
  have h2 : parentP pA = [] := by decide
  rw [h2] at h
  simp [newFs, lkF] at h
  exact h.symm
def aliveFs (r b : Nat) : Fs := made (newFs 1 1 [] r) pA (newNd (newFs 1 1 [] r) 1 420 [] []) r b
theorem alive_link {r b : Nat} (hb : r ≠ b) : linkE (aliveFs r b) pB pA = 0 ∧ lkF (aliveFs r b).files (parentP pB) = some r ∧ lkF (aliveFs r b).files pA = some b := by
  have h1 : checkP pB = 0 := by decide
  have h2 : parentP pB = [] := by decide
  have h3 : lkF (aliveFs r b).files (parentP pB) = some r := by rw [h2]; rfl
  have h4 : lkF (aliveFs r b).files pA = some b := rfl
  have h5 : lkF (aliveFs r b).files pB = none := rfl
  refine ⟨?_, h3, h4⟩
  have hn : ((aliveFs r b).node r).kind = 0 := by
    show (if r = r then addName (if r = b then _ else rootNd 1) (baseP pA) else _).kind = 0
    rw [if_pos rfl, if_neg hb]
    rfl
  have hb2 : ((aliveFs r b).node b).kind = 1 := by
    show (if b = r then _ else if b = b then newNd (newFs 1 1 [] r) 1 420 [] [] else _).kind = 1
    rw [if_neg (Ne.symm hb), if_pos rfl]
    rfl
  unfold linkE placeE
  rw [h1, h3, h4, h5]
  simp [hn, hb2]
theorem alive_stat {r b : Nat} (hb : r ≠ b) : lstatV (linked (aliveFs r b) pB r b) pA = .tuple #[.agg #[.int .i64 1, .int .i64 420, .int .i64 2, .int .i64 2, .int .i64 0, .string ⟨#[]⟩, .int .i64 0, .int .i64 0], .int .i64 0] ∧
    lstatV (linked (aliveFs r b) pB r b) pB = .tuple #[.agg #[.int .i64 1, .int .i64 420, .int .i64 2, .int .i64 2, .int .i64 0, .string ⟨#[]⟩, .int .i64 0, .int .i64 0], .int .i64 0] := by
  have h1 : lkF (linked (aliveFs r b) pB r b).files pA = some b := rfl
  have h2 : lkF (linked (aliveFs r b) pB r b).files pB = some b := rfl
  have hn : (linked (aliveFs r b) pB r b).node b = { newNd (newFs 1 1 [] r) 1 420 [] [] with links := 2 } := by
    show (if b = r then _ else if b = b then ({ (aliveFs r b).node b with links := ((aliveFs r b).node b).links + 1 } : Nd) else _) = _
    rw [if_neg (Ne.symm hb), if_pos rfl]
    have : (aliveFs r b).node b = newNd (newFs 1 1 [] r) 1 420 [] [] := by
      show (if b = r then _ else if b = b then newNd (newFs 1 1 [] r) 1 420 [] [] else _) = _
      rw [if_neg (Ne.symm hb), if_pos rfl]
    rw [this]
    rfl
  unfold lstatV
  rw [h1, h2]
  simp only
  rw [hn]
  exact ⟨rfl, rfl⟩
theorem alive_next {r : Nat} {σ' : Fs} (h : Next (newFs 1 1 [] r) (Fresh (newFs 1 1 [] r)) ⟨1, pA, 420, [], []⟩ σ') : ∃ b, r ≠ b ∧ σ' = aliveFs r b := by
  unfold Next at h
  rw [if_pos (by simp)] at h
  obtain ⟨pb, b, hpb, hb, rfl⟩ := h
  obtain rfl := alive_parent hpb
  refine ⟨b, ?_, rfl⟩
  exact hb [] pb (by simp [newFs])
theorem alive_next2 {r b : Nat} {σ' : Fs} (hb : r ≠ b) (h : Next (aliveFs r b) (Fresh (aliveFs r b)) ⟨4, pB, 0, [], pA⟩ σ') : σ' = linked (aliveFs r b) pB r b := by
  unfold Next at h
  obtain ⟨pb, b', hpb, hb', rfl⟩ := h
  obtain ⟨_, h2, h3⟩ := alive_link hb
  have e1 := h2.symm.trans hpb
  have e2 := h3.symm.trans hb'
  cases e1; cases e2; rfl
def aliveInfo : Value := .agg #[.int .i64 1, .int .i64 420, .int .i64 2, .int .i64 2, .int .i64 0, .string ⟨#[]⟩, .int .i64 0, .int .i64 0]
set_option maxRecDepth 100000 in
set_option maxHeartbeats 8000000 in
theorem alive (w : World) (hkeys : KeysAt w) : Calls Tryz.prog 6 #[] w fun e w' => e = .returned (.bool true) ∧ Chg [] w w' := by
  have HN := Lib.hid (fun W k => liveNew w W 1 1 [] none 0 0 [] k rfl (by omega) (by omega) (Rd.nil _ _ _))
  have hE0 : newE 1 1 [] = 0 := by decide
  have hc : ∀ W f O r, Live w W f O (newFs 1 1 [] r) 0 → Calls Tryz.prog 22 #[.pointer (some ⟨f, 0, none⟩), .string ⟨#[97]⟩, .int .i64 420, .slice none 0 0] W fun e w' => e = .returned (.int .i64 0) ∧ ∃ O' b, r ≠ b ∧ Live w w' f O' (aliveFs r b) 2 := by
    intro W f O r H
    refine (liveCreate w W f O _ 0 pA 420 [] none 0 [] H (by omega) hkeys (Rd.nil _ _ _) (by simp) (by simp)).mono ?_
    rintro e w' ⟨he, _, h2⟩
    rw [alive_make] at he h2
    obtain ⟨O', σ', hN, hL⟩ := h2 rfl
    obtain ⟨b, hb, rfl⟩ := alive_next hN
    exact ⟨he, O', b, hb, hL⟩
  have HC := Lib.hid hc
  have hl : ∀ W f O r b, r ≠ b → Live w W f O (aliveFs r b) 2 → Calls Tryz.prog 23 #[.pointer (some ⟨f, 0, none⟩), .string ⟨#[98]⟩, .string ⟨#[97]⟩] W fun e w' => e = .returned (.int .i64 0) ∧ ∃ O', Live w w' f O' (linked (aliveFs r b) pB r b) 4 := by
    intro W f O r b hb H
    refine (liveLink w W f O _ 2 pB pA H (by omega)).mono ?_
    rintro e w' ⟨he, _, h2⟩
    rw [(alive_link hb).1] at he h2
    obtain ⟨O', σ', hN, hL⟩ := h2 rfl
    obtain rfl := alive_next2 hb hN
    exact ⟨he, O', hL⟩
  have HL := Lib.hid hl
  have hs : ∀ W f O r b, r ≠ b → Live w W f O (linked (aliveFs r b) pB r b) 4 → Calls Tryz.prog 16 #[.pointer (some ⟨f, 0, none⟩), .string ⟨#[97]⟩] W fun e w' => e = .returned (.tuple #[.agg #[.int .i64 1, .int .i64 420, .int .i64 2, .int .i64 2, .int .i64 0, .string ⟨#[]⟩, .int .i64 0, .int .i64 0], .int .i64 0]) ∧ Live w w' f O (linked (aliveFs r b) pB r b) 4 := by
    intro W f O r b hb H
    refine (liveStat w W f O _ 4 pA H).mono ?_
    rintro e w' ⟨he, h2, _⟩
    rw [(alive_stat hb).1] at he
    exact ⟨he, h2⟩
  have HS := Lib.hid hs
  have ht : ∀ W f O r b, r ≠ b → Live w W f O (linked (aliveFs r b) pB r b) 4 → Calls Tryz.prog 16 #[.pointer (some ⟨f, 0, none⟩), .string ⟨#[98]⟩] W fun e w' => e = .returned (.tuple #[.agg #[.int .i64 1, .int .i64 420, .int .i64 2, .int .i64 2, .int .i64 0, .string ⟨#[]⟩, .int .i64 0, .int .i64 0], .int .i64 0]) ∧ Chg [] W w' ∧ Live w w' f O (linked (aliveFs r b) pB r b) 4 := by
    intro W f O r b hb H
    refine (liveStat w W f O _ 4 pB H).mono ?_
    rintro e w' ⟨he, h2, k⟩
    rw [(alive_stat hb).2] at he
    exact ⟨he, k, h2⟩
  have HT := Lib.hid ht
  clear hc hl hs ht hkeys
  go_enter Tryz.func6, Tryz.ntmps6
  go_upto_region 2 with (go_at_call 8; refine (HN.out _ (Chg.refl _ _)).mono ?_; rintro e w1 ⟨_, h⟩; obtain ⟨f, O, r, rfl, hL, _⟩ := h hE0; have H1 := Lib.hid hL; clear h hL)
  clear hE0
  go_upto_region 4 with (first
    | (go_at_call 22; refine (HC.out _ _ _ _ H1.out).mono ?_; rintro e w2 ⟨rfl, O2, b, hb, hL⟩; have H2 := Lib.hid (And.intro hb hL); clear hb hL)
    | (go_at_call 23; refine (HL.out _ _ _ _ _ H2.out.1 H2.out.2).mono ?_; rintro e w3 ⟨rfl, O3, hL⟩; have H3 := Lib.hid hL; clear hL))
  go_upto_region 5 with (go_at_call 16; refine (HS.out _ _ _ _ _ H2.out.1 H3.out).mono ?_; rintro e w4 ⟨rfl, hL⟩; have H4 := Lib.hid hL; clear hL)
  have H5 := Lib.hid (H4.out.quiet ((Chg.refl [] w4).alloc (.cells #[.int .i64 1, .int .i64 420, .int .i64 2, .int .i64 2, .int .i64 0, .string ⟨#[]⟩, .int .i64 0, .int .i64 0] 52)))
  have e0 : (w4.alloc (.cells #[.int .i64 1, .int .i64 420, .int .i64 2, .int .i64 2, .int .i64 0, .string ⟨#[]⟩, .int .i64 0, .int .i64 0] 52)).heap[w4.heap.size]? = some (.cells #[.int .i64 1, .int .i64 420, .int .i64 2, .int .i64 2, .int .i64 0, .string ⟨#[]⟩, .int .i64 0, .int .i64 0] 52 (0, 0)) := heap_alloc_new _ _
  generalize w4.alloc (.cells #[.int .i64 1, .int .i64 420, .int .i64 2, .int .i64 2, .int .i64 0, .string ⟨#[]⟩, .int .i64 0, .int .i64 0] 52) = W5 at *
  generalize w4.heap.size = g at *
  go_upto_region 6 with (go_at_call 16; refine (HT.out _ _ _ _ _ H2.out.1 H5.out).mono ?_; rintro e w6 ⟨rfl, k, hL⟩; have H6 := Lib.hid hL; have e1 := k.heap e0 (by simp); clear hL k)
  have HK := Lib.hid (H6.out.chg.alloc (.cells #[.int .i64 1, .int .i64 420, .int .i64 2, .int .i64 2, .int .i64 0, .string ⟨#[]⟩, .int .i64 0, .int .i64 0] 52))
  have e2 : (w6.alloc (.cells #[.int .i64 1, .int .i64 420, .int .i64 2, .int .i64 2, .int .i64 0, .string ⟨#[]⟩, .int .i64 0, .int .i64 0] 52)).heap[w6.heap.size]? = some (.cells #[.int .i64 1, .int .i64 420, .int .i64 2, .int .i64 2, .int .i64 0, .string ⟨#[]⟩, .int .i64 0, .int .i64 0] 52 (0, 0)) := heap_alloc_new _ _
  replace e1 : (w6.alloc (.cells #[.int .i64 1, .int .i64 420, .int .i64 2, .int .i64 2, .int .i64 0, .string ⟨#[]⟩, .int .i64 0, .int .i64 0] 52)).heap[g]? = _ := heap_keep e1
  generalize w6.alloc (.cells #[.int .i64 1, .int .i64 420, .int .i64 2, .int .i64 2, .int .i64 0, .string ⟨#[]⟩, .int .i64 0, .int .i64 0] 52) = W6 at *
  generalize w6.heap.size = g2 at *
  have d0 := cell_heap e1 0 rfl
  have b0 := cell_heap e2 0 rfl
  have d1 := cell_heap e1 1 rfl
  have b1 := cell_heap e2 1 rfl
  have d2 := cell_heap e1 2 rfl
  have b2 := cell_heap e2 2 rfl
  have d3 := cell_heap e1 3 rfl
  have b3 := cell_heap e2 3 rfl
  have d4 := cell_heap e1 4 rfl
  have b4 := cell_heap e2 4 rfl
  have d5 := cell_heap e1 5 rfl
  have b5 := cell_heap e2 5 rfl
  have d6 := cell_heap e1 6 rfl
  have b6 := cell_heap e2 6 rfl
  have d7 := cell_heap e1 7 rfl
  have b7 := cell_heap e2 7 rfl
  clear e0 e1 e2
  go_wp2_with fail
  go_ret
  exact ⟨rfl, HK.out⟩
end Go.Proofs.YtoionaeimnmcbaaGreatDoor
