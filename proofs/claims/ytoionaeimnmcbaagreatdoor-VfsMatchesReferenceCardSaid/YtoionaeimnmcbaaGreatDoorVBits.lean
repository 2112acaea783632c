/- Small words that the laws share. -/
import Derived.Test.YtoionaeimnmcbaaGreatDoorVOptN
import Derived.Test.YtoionaeimnmcbaaGreatDoorVAlive
namespace Go.Pax
open Go.RowKit
theorem Rd.tight {w : World} {fp : List Nat} {ao : Option Addr} {xs : List Value} (h : Rd w fp ao xs) : ∃ fq, Rd w fq ao xs ∧ ∀ k ∈ fq, k ∈ fp ∧ k < w.heap.size := by
  cases xs with
  | nil => exact ⟨[], Rd.nil _ _ _, by simp⟩
  | cons x l =>
    obtain ⟨a, ha, hb, hc⟩ := h 0 x rfl
    subst ha
    have hlt := World.block_lt_of_cell? w _ hc
    rw [block_add] at hlt
    refine ⟨[a.block], fun j u hu => ?_, by simp; exact ⟨hb, hlt⟩⟩
    obtain ⟨a', ha', hb', hc'⟩ := h j u hu
    cases ha'
    exact ⟨_, rfl, by simp, hc'⟩
theorem Fs.In.upto {n m : Nat} {σ : Fs} (h : σ.In n) (hm : n ≤ m) : σ.In m := h.mono hm
theorem tooE_one {L : List AAct} (h : ¬ tooE L = 0) : tooE L = 1 := by
  unfold tooE at h ⊢
  split
  · rfl
  · rename_i h1; rw [if_neg h1] at h; exact absurd rfl h
theorem tooE_zero {L : List AAct} (h : tooE L = 0) : L.length ≤ 40 ∧ actsLen L ≤ 20000 := by
  unfold tooE at h
  split at h
  · cases h
  · omega
/-- The two words of an Lstat, on their own. -/
def stE (σ : Fs) (p : Str) : Int := match lkF σ.files p with
  | some _ => 0
  | none => 19
end Go.Pax
namespace Go.Proofs.YtoionaeimnmcbaaGreatDoor
open Go.RowKit Go.Pax Go.Shelf
theorem Live.upto {w0 w : World} {f : Nat} {O : List Nat} {σ : Fs} {n m : Nat} (h : Live w0 w f O σ n) (hm : n ≤ m) : Live w0 w f O σ m := ⟨h.fs, h.inv.mono hm, h.own, h.chg⟩
theorem lstatV_at (σ : Fs) (p : Str) : ∃ (k m i l s : Int) (t : ByteArray) (u mt : Int), lstatV σ p = .tuple #[.agg #[.int .i64 k, .int .i64 m, .int .i64 i, .int .i64 l, .int .i64 s, .string t, .int .i64 u, .int .i64 mt], .int .i64 (stE σ p)] ∧ ∀ b, lkF σ.files p = some b → k = (σ.node b).kind ∧ m = (σ.node b).mode ∧ l = (σ.node b).links := by
  unfold lstatV stE
  cases h : lkF σ.files p with
  | none => exact ⟨0, 0, 0, 0, 0, ⟨#[]⟩, 0, 0, rfl, fun b hb => by cases hb⟩
  | some b => exact ⟨_, _, _, _, _, _, _, _, rfl, fun b' hb => by cases hb; exact ⟨rfl, rfl, rfl⟩⟩
/-- Options with two numbers, and New behind it. -/
theorem optsNil (w : World) (x y : Int) (hx : 0 ≤ x ∧ x ≤ 65535) (hy : 0 ≤ y ∧ y ≤ 65535) :
    Calls Tryz.prog 7 #[.int .u16 x, .int .u16 y, .slice none 0 0] w fun e w' => ∃ a cap, e = .returned (.agg #[.int .i64 (1 + x), .int .i64 (1 + y), .slice a 0 cap]) ∧ Chg [] w w' := by
  refine (options w x y [] 0 none 0 [] hx hy rfl (by omega) (Rd.nil _ _ _)).mono ?_
  rintro e w' ⟨a, cap, he, _, hk⟩
  exact ⟨a, cap, he, hk⟩
theorem newNil (w0 w : World) (x y : Int) (a : Option Addr) (cap : Nat) (k : Chg [] w0 w) (hx : 0 ≤ x ∧ x ≤ 65535) (hy : 0 ≤ y ∧ y ≤ 65535) :
    Calls Tryz.prog 8 #[.agg #[.int .i64 (1 + x), .int .i64 (1 + y), .slice a 0 cap]] w fun e w' => ∃ f O b, e = .returned (.tuple #[.pointer (some ⟨f, 0, none⟩), .int .i64 0]) ∧ Live w0 w' f O (newFs (1 + x) (1 + y) [] b) 0 ∧ Chg [] w w' := by
  refine (liveNew w0 w (1 + x) (1 + y) [] a 0 cap [] k rfl (by omega) (by omega) (fun j u hu => by simp [iv] at hu)).mono ?_
  rintro e w' ⟨_, h2⟩
  have h0 : newE (1 + x) (1 + y) [] = 0 := by
    unfold newE
    rw [if_pos]
    refine ⟨by unfold inOpt; omega, by unfold inOpt; omega, by decide⟩
  exact h2 h0
end Go.Proofs.YtoionaeimnmcbaaGreatDoor
