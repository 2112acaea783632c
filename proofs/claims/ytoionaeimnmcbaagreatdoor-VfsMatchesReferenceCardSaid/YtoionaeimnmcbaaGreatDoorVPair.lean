/- Two file systems in use, side by side in memory. -/
import Derived.Test.YtoionaeimnmcbaaGreatDoorVSort
import Derived.Test.YtoionaeimnmcbaaGreatDoorVBits
namespace Go.Proofs.YtoionaeimnmcbaaGreatDoor
open Go.RowKit Go.Pax Go.Shelf
structure Two (w0 w : World) (f : Nat) (O : List Nat) (σ : Fs) (n : Nat) (g : Nat) (Q : List Nat) (τ : Fs) (m : Nat) : Prop where
  a : Live w0 w f O σ n
  b : Live w0 w g Q τ m
  ne : ∀ x ∈ O, x ∉ Q
theorem Two.symm {w0 w : World} {f g n m : Nat} {O Q : List Nat} {σ τ : Fs} (h : Two w0 w f O σ n g Q τ m) : Two w0 w g Q τ m f O σ n := ⟨h.b, h.a, fun x hx hO => h.ne x hO hx⟩
theorem Two.quiet {w0 w w' : World} {f g n m : Nat} {O Q : List Nat} {σ τ : Fs} (h : Two w0 w f O σ n g Q τ m) (k : Chg [] w w') : Two w0 w' f O σ n g Q τ m := ⟨h.a.quiet k, h.b.quiet k, h.ne⟩
theorem Live.far {w0 w w' : World} {f : Nat} {O S : List Nat} {σ : Fs} {n : Nat} (h : Live w0 w f O σ n) (k : Chg S w w') (hS : ∀ x ∈ O, x ∉ S) (h0 : ∀ x ∈ S, w0.heap.size ≤ x) : Live w0 w' f O σ n :=
  ⟨h.fs.foreign k hS, h.inv, h.own, h.chg.trans' k (by simp) (fun x hx hl => by have := h0 x hx; omega)⟩
/-- Only blocks that are neither's have changed. -/
theorem Two.far {w0 w w' : World} {f g n m : Nat} {O Q S : List Nat} {σ τ : Fs} (h : Two w0 w f O σ n g Q τ m) (k : Chg S w w') (h1 : ∀ x ∈ O, x ∉ S) (h2 : ∀ x ∈ Q, x ∉ S) (h0 : ∀ x ∈ S, w0.heap.size ≤ x) : Two w0 w' f O σ n g Q τ m := ⟨h.a.far k h1 h0, h.b.far k h2 h0, h.ne⟩
/-- What lay outside both lies there still. -/
def Kept (w w' : World) (O Q O' Q' : List Nat) : Prop := w.heap.size ≤ w'.heap.size ∧ ∀ x, x < w.heap.size → x ∉ O → x ∉ Q → w'.heap[x]? = w.heap[x]? ∧ x ∉ O' ∧ x ∉ Q'
theorem Kept.trans {w w1 w2 : World} {O Q O1 Q1 O2 Q2 : List Nat} (h : Kept w w1 O Q O1 Q1) (k : Kept w1 w2 O1 Q1 O2 Q2) : Kept w w2 O Q O2 Q2 :=
  ⟨Nat.le_trans h.1 k.1, fun x hx hO hQ => by
    obtain ⟨a1, a2, a3⟩ := h.2 x hx hO hQ
    obtain ⟨b1, b2, b3⟩ := k.2 x (Nat.lt_of_lt_of_le hx h.1) a2 a3
    exact ⟨b1.trans a1, b2, b3⟩⟩
theorem Kept.of_chg {w w' : World} (k : Chg [] w w') (O Q : List Nat) : Kept w w' O Q O Q := ⟨k.size, fun x hx hO hQ => ⟨k.block x hx (by simp), hO, hQ⟩⟩
theorem Kept.symm {w w' : World} {O Q O' Q' : List Nat} (h : Kept w w' O Q O' Q') : Kept w w' Q O Q' O' := ⟨h.1, fun x hx hO hQ => by
  obtain ⟨a, b, c⟩ := h.2 x hx hQ hO
  exact ⟨a, c, b⟩⟩
/-- A row that is neither's, behind it. -/
theorem Kept.row {w w' : World} {O Q O' Q' : List Nat} (h : Kept w w' O Q O' Q') {base : Nat} {e : TypeId} {v : Value} {n : Nat} {xs : List Value} (hr : w.ownsRow base e 1 v n xs) (hn : ∀ x, v.ownBlock = some x → x ∉ O ∧ x ∉ Q) :
    w'.ownsRow base e 1 v n xs ∧ ∀ x, v.ownBlock = some x → x ∉ O' ∧ x ∉ Q' := by
  have hlt : ∀ x, v.ownBlock = some x → x < w.heap.size := fun x hx => by
    rcases hr.2 with ⟨rfl, _⟩ | ⟨g', cap, cur, rfl, _, hh, _⟩
    · simp [Value.ownBlock] at hx
    · simp [Value.ownBlock] at hx; subst hx; exact lt_of_block hh
  refine ⟨⟨hr.1, ?_⟩, fun x hx => (h.2 x (hlt x hx) (hn x hx).1 (hn x hx).2).2⟩
  rcases hr.2 with hz | ⟨g, cap, cur, hv, hb, hg, rest⟩
  · exact .inl hz
  · have hx : v.ownBlock = some g := by subst hv; simp [Value.ownBlock]
    exact .inr ⟨g, cap, cur, hv, hb, by rw [(h.2 g (hlt g hx) (hn g hx).1 (hn g hx).2).1]; exact hg, rest⟩
/-- A call on the first of the two. -/
theorem Two.to {w0 w w' : World} {f g n m n' : Nat} {O Q : List Nat} {σ τ σ' : Fs} (h : Two w0 w f O σ n g Q τ m) (k : FsTo w w' f O σ') (hi : σ'.In n') : ∃ O', Two w0 w' f O' σ' n' g Q τ m ∧ Kept w w' O Q O' Q := by
  obtain ⟨O', ⟨h1, h2⟩, h3⟩ := k
  have hOQ : ∀ x ∈ O', x ∉ Q := fun x hx hQ => by
    rcases h2 x hx with h4 | h4
    · exact h.ne x h4 hQ
    · have := h.b.lt x hQ; omega
  refine ⟨O', ⟨⟨h1, hi, fun x hx => ?_, h.a.chg.trans' h3 (by simp) (fun x hx hl => ?_)⟩, h.b.far h3 (fun x hx hO => h.ne x hO hx) (fun x hx => h.a.own x hx), hOQ⟩, h3.size, fun x hx hO hQ => ⟨h3.block x hx hO, fun hx' => ?_, hQ⟩⟩
  · rcases h2 x hx with h4 | h4
    · exact h.a.own x h4
    · have := h.a.chg.size; omega
  · have := h.a.own x hx; omega
  · rcases h2 x hx' with h4 | h4
    · exact hO h4
    · omega
theorem twoDo (w0 w : World) {f g n m : Nat} {O Q : List Nat} {σ τ : Fs} (a : AAct) (ao : Option Addr) (dc : Nat) (fp : List Nat) (h : Two w0 w f O σ n g Q τ m) (hn : n ≤ 10000) (hkeys : KeysAt w0)
    (ht : a.target.length ≤ 140737488355328) (hd : Rd w0 fp ao (bv a.data)) (hdl : a.data.length ≤ 140737488355328) (hff : ∀ x ∈ fp, x < w0.heap.size) :
    Calls Tryz.prog 10 #[.pointer (some ⟨f, 0, none⟩), actV a ao dc] w fun e w' => e = .returned (.int .i64 (doE σ a)) ∧ ∃ O' σ', ((doE σ a ≠ 0 ∧ σ' = σ) ∨ (doE σ a = 0 ∧ Next σ (Fresh σ) a σ')) ∧ Two w0 w' f O' σ' (n + 2) g Q τ m ∧ Kept w w' O Q O' Q := by
  refine (doAct w f O σ a ao dc fp h.a.fs (h.a.inv.ok (by omega)) (h.a.keys hkeys).1 (h.a.keys hkeys).2 ht (hd.chg h.a.chg (by simp)) hdl (fun x hx hO => by have := hff x hx; have := h.a.own x hO; omega)).mono ?_
  rintro e w' ⟨he, h1, h2⟩
  refine ⟨he, ?_⟩
  by_cases h0 : doE σ a = 0
  · obtain ⟨σ', hN, hT⟩ := h2 h0
    obtain ⟨O', hL, hK⟩ := h.to hT (hN.inv h.a.inv)
    exact ⟨O', σ', .inr ⟨h0, hN.fresh h.a⟩, hL, hK⟩
  · have hq := h.quiet (h1 h0)
    exact ⟨O, σ, .inl ⟨h0, rfl⟩, ⟨hq.a.upto (by omega), hq.b, hq.ne⟩, Kept.of_chg (h1 h0) O Q⟩
/-- List of a directory, on the first of the two. -/
theorem twoList (w0 w : World) {f g n m : Nat} {O Q : List Nat} {σ τ : Fs} (p : Str) {b : Nat} (h : Two w0 w f O σ n g Q τ m) (hn : n ≤ 10000) (hb : lkF σ.files p = some b) (hk : (σ.node b).kind = 0) :
    Calls Tryz.prog 13 #[.pointer (some ⟨f, 0, none⟩), .string (ba p)] w fun e w' => ∃ O' ao c, e = .returned (.tuple #[.slice ao (σ.node b).names.length c, .int .i64 0]) ∧ w'.ownsRow w.heap.size 9 1 (.slice ao (σ.node b).names.length c) (σ.node b).names.length (svn (listed σ (σ.node b).names)) ∧
      Two w0 w' f O' { σ with lists := σ.lists + 1 } (n + 1) g Q τ m ∧ Kept w w' O Q O' Q ∧ (∀ x, (Value.slice ao (σ.node b).names.length c).ownBlock = some x → x ∉ O' ∧ x ∉ Q) := by
  refine (list w f O σ p h.a.fs (h.a.inv.ok (by omega))).mono ?_
  rintro e w' ⟨_, h2⟩
  have h0 : listE σ p = 0 := by unfold listE; rw [hb]; simp only; rw [if_pos hk]
  obtain ⟨b', ao, m', c, hb', he, rfl, hown, hto⟩ := h2 h0
  rw [hb] at hb'
  cases hb'
  obtain ⟨hs, k⟩ := hto
  have hlt := fun x (hx : (Value.slice ao (σ.node b).names.length c).ownBlock = some x) => own_block_ge hown hx
  refine ⟨O, ao, c, he, hown, ⟨⟨hs, h.a.inv.listed, h.a.own, h.a.chg.trans' k (by simp) (fun x hx hl => by have := h.a.own x hx; omega)⟩, h.b.far k (fun x hx hO => h.ne x hO hx) (fun x hx => h.a.own x hx), h.ne⟩, ⟨k.size, fun x hx hO hQ => ⟨k.block x hx hO, hO, hQ⟩⟩, fun x hx => ?_⟩
  have := hlt x hx
  exact ⟨fun hO => by have := h.a.lt x hO; omega, fun hQ => by have := h.b.lt x hQ; omega⟩
end Go.Proofs.YtoionaeimnmcbaaGreatDoor
