/- Words on memory: what a call may change, what a slice reads as. They name no program. The components of a path; strings.Cut at one byte. DERIVED: THE SHELF's CONTRACTS AT THIS DUMP, IN PLAIN WORDS (tools/lay-plain.mjs out of 'YtfhiioopimmahaaGreatDoorVShelfT.lean', which tools/lay-shelf.mjs wrote): THE SAME DECLARATIONS UNDER THE SAME NAMES: 'import', 'namespace', 'open', 'def', 'theorem' AND NOTHING ELSE: no command of the shelf's: FOR A HAND-IN. Each laying: the table of numbers ('.._ren') and one theorem, a field a fact of the dump's own or the kernel's comparison; each contract: ONE APPLICATION. strings.Cut at one byte; paxtar/pathname.components, Check. -/
import Derived.WalkKit
import Derived.WalkSpells
import Derived.WalkLawsBesides
import Derived.Laws.CopyOwn
import Derived.Laws.AppendOwnNone
import Derived.Deep.AppendLies
import Derived.Maps.AppendAt
import Derived.BigQuiet
import Derived.Deep.QuietTactic
import Derived.Deep.RegionHeld3
import Derived.Deep.DeepMust
import Derived.Deep.DeepCutAuto
import Derived.Deep.CutBlock
import Derived.Deep.LoopGhost
import Derived.Lib.Hide
import Derived.Lib.SliceRun
import Derived.Lib.IndexLaws
import Derived.Lib.IndexBytes
import Derived.Shelf.Spec.SlicesGrow
import Derived.Shelf.Spec.SearchS
import Derived.Shelf.Spec.SlicesInsert
import Derived.Shelf.Small.Strs
import Derived.Shelf.Strings.Search1
import Derived.Shelf.Strings.Search2
import Derived.Shelf.Strings.Cut
import Derived.Shelf.LaysM
import Derived.Shelf.Strings.Shaped
import Derived.Shelf.Strings.LastIndex
import Derived.Shelf.Slices.Equal
import Derived.Ground.Names2Prog
import Derived.Shelf.Slices.ReverseS
import Derived.Shelf.Slices.Cells
import Derived.Shelf.Slices.Empties2
import Derived.Test.YtfhiioopimmahaaGreatDoorProg
import Derived.RangeFuncNested
import Derived.RangeFuncBound
import Derived.RangeFuncCalls
import Derived.RangeFuncLeaves
import Derived.Shelf.Abstract
import Derived.Shelf.RegionOpen
import Derived.OwnWalkIn
import Derived.TacticsInMore
import Derived.LoopNIn
import Derived.LoopIn
namespace Go.Pax
open Go.RowKit

/-- w' is w with new blocks, and with changes to the blocks of S alone. -/
structure Chg (S : List Nat) (w w' : World) : Prop where
  os : w'.os = w.os
  tape : w'.tape = w.tape
  output : w'.output = w.output
  size : w.heap.size ≤ w'.heap.size
  block : ∀ k, k < w.heap.size → k ∉ S → w'.heap[k]? = w.heap[k]?

theorem Chg.refl (S : List Nat) (w : World) : Chg S w w := ⟨rfl, rfl, rfl, Nat.le_refl _, fun _ _ _ => rfl⟩
theorem Chg.trans {S : List Nat} {a b c : World} (h : Chg S a b) (k : Chg S b c) : Chg S a c :=
  ⟨k.os.trans h.os, k.tape.trans h.tape, k.output.trans h.output, Nat.le_trans h.size k.size,
    fun i hi hS => (k.block i (Nat.lt_of_lt_of_le hi h.size) hS).trans (h.block i hi hS)⟩
theorem Chg.mono {S T : List Nat} {a b : World} (h : Chg S a b) (hT : ∀ k, k ∈ S → k < a.heap.size → k ∈ T) : Chg T a b :=
  ⟨h.os, h.tape, h.output, h.size, fun i hi hS => h.block i hi fun hm => hS (hT i hm hi)⟩
/-- Two steps: what the second changes counts only where the first world has it. -/
theorem Chg.trans' {S T U : List Nat} {a b c : World} (h : Chg S a b) (k : Chg T b c) (hS : ∀ k, k ∈ S → k < a.heap.size → k ∈ U) (hT : ∀ k, k ∈ T → k < a.heap.size → k ∈ U) : Chg U a c :=
  ⟨k.os.trans h.os, k.tape.trans h.tape, k.output.trans h.output, Nat.le_trans h.size k.size,
    fun i hi hU => (k.block i (Nat.lt_of_lt_of_le hi h.size) fun hm => hU (hT i hm hi)).trans (h.block i hi fun hm => hU (hS i hm hi))⟩
theorem Chg.drew {S : List Nat} {a w : World} (h : Chg S a w) : Chg S a w.drew := ⟨h.os, h.tape, h.output, h.size, h.block⟩
theorem Chg.drewN {S : List Nat} {a w : World} (h : Chg S a w) (n : Nat) : Chg S a (w.drewN n) := ⟨h.os, h.tape, h.output, h.size, h.block⟩
theorem Chg.alloc {S : List Nat} {a w : World} (h : Chg S a w) (o : Obj) : Chg S a (w.alloc o) :=
  h.trans ⟨rfl, rfl, rfl, by simp, fun k hk _ => Below.heap_alloc _ _ _ hk⟩
theorem Chg.setCell {S : List Nat} {a w : World} (h : Chg S a w) {p : Addr} (hp : p.block < a.heap.size → p.block ∈ S) (u : Value) : Chg S a (w.setCell p u) :=
  ⟨h.os, h.tape, h.output, Nat.le_trans h.size (by simp [World.setCell]), fun k hk hS => by
    rw [Below.heap_setCell _ _ _ _ (fun e => by subst e; exact hS (hp hk))]; exact h.block k hk hS⟩
theorem Chg.of_grown {w w' : World} {row : Option Nat} {S : List Nat} (hg : w.grownBy w' row) (h : ∀ k, row = some k → k < w.heap.size → k ∈ S) : Chg S w w' :=
  ⟨hg.os, hg.tape, hg.output, hg.size, fun k hk hS => hg.block k hk fun e => hS (h k e.symm hk)⟩
theorem Chg.grown {S : List Nat} {a w w' : World} {row : Option Nat} (h : Chg S a w) (hg : w.grownBy w' row) (hr : ∀ k, row = some k → k < a.heap.size → k ∈ S) : Chg S a w' :=
  ⟨hg.os.trans h.os, hg.tape.trans h.tape, hg.output.trans h.output, Nat.le_trans h.size hg.size,
    fun k hk hS => (hg.block k (Nat.lt_of_lt_of_le hk h.size) fun e => hS (hr k e.symm hk)).trans (h.block k hk hS)⟩
theorem Chg.below {S : List Nat} {B : Nat} {a w w' : World} (h : Below B a w) (k : Chg S w w') (hS : ∀ x, x ∈ S → B ≤ x) (hB : B ≤ w.heap.size) : Below B a w' :=
  h.trans ⟨k.os, k.tape, k.output, k.size, fun i hi => k.block i (by omega) fun hm => by have := hS i hm; omega⟩
theorem Chg.cell {S : List Nat} {w w' : World} (h : Chg S w w') {a : Addr} {v : Value} (hc : w.cell? a = some v) (hS : a.block ∉ S) : w'.cell? a = some v :=
  (World.cell?_of_block (h.block a.block (World.block_lt_of_cell? w a hc) hS)).trans hc
theorem Chg.heap {S : List Nat} {w w' : World} (h : Chg S w w') {k : Nat} {o : Obj} (hk : w.heap[k]? = some o) (hS : k ∉ S) : w'.heap[k]? = some o :=
  (h.block k (Array.getElem?_eq_some_iff.1 hk).1 hS).trans hk

theorem block_add (a : Addr) (j : Nat) : (a.add j).block = a.block := by unfold Addr.add; split <;> rfl
theorem add_add (a : Addr) (m n : Nat) : (a.add m).add n = a.add (m + n) := by
  by_cases hm : m = 0
  · simp [Addr.add, hm]
  by_cases hn : n = 0
  · simp [Addr.add, hn]
  · simp [Addr.add, hm, hn, Nat.add_assoc]

/-- 'Calls.quiet_of' behind an earlier quiet region. -/
theorem quiet_of2 {P : Program} {f : FuncId} {args : Array Value} {w : World} {n x : Nat} {v : Value}
    (h : Calls P f args (w.drewN (n + x)) fun e w' => e = .returned v ∧ ∃ m, w' = (w.drewN (n + x)).drewN m) : Calls P f args (w.drewN (n + x)) fun e w'' => e = .returned v ∧ ∃ k, w'' = w.drewN (n + k) :=
  h.mono fun _ _ ⟨he, m, hm⟩ => ⟨he, x + m, by rw [hm, World.drewN_drewN, Nat.add_assoc]⟩

theorem ret_int {k : IntKind} {a b : Int} (h : a = b) : Ending.returned (.int k a) = .returned (.int k b) := by rw [h]
/-- A block that is known whole, behind a store into it. -/
theorem heap_set {w : World} {p : Nat} {cs : Array Value} {t : TypeId} (h : w.heap[p]? = some (.cells cs t (0, 0))) (j : Nat) (v : Value) {cs' : Array Value} (hcs : cs.setIfInBounds j v = cs') :
    (w.setCell ⟨p, j, none⟩ v).heap[p]? = some (.cells cs' t (0, 0)) := by
  subst hcs
  simp [World.setCell, Array.getElem?_modify, h]

/-- Go's min and max of two, closed to the walk. -/
def imin (a b : Int) : Int := if b < a then b else a
def imax (a b : Int) : Int := if a < b then b else a
theorem imin_eq (a b : Int) : imin a b = if b < a then b else a := rfl
theorem imax_eq (a b : Int) : imax a b = if a < b then b else a := rfl
theorem imin_fold (a b : Int) (i : Decidable (b < a)) : @ite Int (b < a) i b a = imin a b := by unfold imin; split <;> rfl
theorem imax_fold (a b : Int) (i : Decidable (a < b)) : @ite Int (a < b) i b a = imax a b := by unfold imax; split <;> rfl

/-- At the address (if there is one) lie the cells xs, in blocks of fp. -/
def Rd (w : World) (fp : List Nat) (ao : Option Addr) (xs : List Value) : Prop :=
  ∀ j u, xs[j]? = some u → ∃ a, ao = some a ∧ a.block ∈ fp ∧ w.cell? (a.add j) = some u

theorem Rd.nil (w : World) (fp : List Nat) (ao : Option Addr) : Rd w fp ao [] := fun j u h => by simp at h
theorem Rd.kept {w w' : World} {fp : List Nat} {ao : Option Addr} {xs : List Value} (h : Rd w fp ao xs) (hk : ∀ k, k ∈ fp → k < w.heap.size → w'.heap[k]? = w.heap[k]?) : Rd w' fp ao xs := by
  intro j u hu
  obtain ⟨a, ha, hb, hc⟩ := h j u hu
  refine ⟨a, ha, hb, ?_⟩
  have hlt := World.block_lt_of_cell? w _ hc
  rw [block_add] at hlt
  rw [World.cell?_of_block (w := w) (by rw [block_add]; exact hk _ hb hlt), hc]
theorem Rd.chg {w w' : World} {S fp : List Nat} {ao : Option Addr} {xs : List Value} (h : Rd w fp ao xs) (hc : Chg S w w') (hd : ∀ k, k ∈ fp → k ∉ S) : Rd w' fp ao xs :=
  h.kept fun k hk hlt => hc.block k hlt (hd k hk)
theorem Rd.mono {w : World} {fp fp' : List Nat} {ao : Option Addr} {xs : List Value} (h : Rd w fp ao xs) (hf : ∀ k, k ∈ fp → k ∈ fp') : Rd w fp' ao xs := fun j u hu => by
  obtain ⟨a, ha, hb, hc⟩ := h j u hu
  exact ⟨a, ha, hf _ hb, hc⟩
theorem Rd.at {w : World} {fp : List Nat} {ad : Addr} {xs : List Value} (h : Rd w fp (some ad) xs) : ∀ j u, xs[j]? = some u → w.cell? (ad.add j) = some u := fun j u hu => by
  obtain ⟨a, ha, _, hc⟩ := h j u hu
  cases ha; exact hc
theorem Rd.take {w : World} {fp : List Nat} {ao : Option Addr} {xs : List Value} (h : Rd w fp ao xs) (n : Nat) : Rd w fp ao (xs.take n) := fun j u hu => by
  rw [List.getElem?_take] at hu
  split at hu
  · exact h j u hu
  · cases hu
/-- The address behind x[n:]. -/
def cutA (ao : Option Addr) (cap n : Nat) : Option Addr := if cap = n then ao else ao.map (·.add n)
theorem Rd.drop {w : World} {fp : List Nat} {ao : Option Addr} {xs : List Value} (h : Rd w fp ao xs) (n cap : Nat) (hcap : xs.length ≤ cap) : Rd w fp (cutA ao cap n) (xs.drop n) := fun j u hu => by
  rw [List.getElem?_drop] at hu
  obtain ⟨a, rfl, hb, hc⟩ := h (n + j) u hu
  have hlt : n + j < xs.length := (List.getElem?_eq_some_iff.1 hu).1
  refine ⟨a.add n, ?_, by rw [block_add]; exact hb, by rw [add_add]; exact hc⟩
  unfold cutA
  rw [if_neg (by omega)]; rfl
theorem Rd.of_own {w : World} {base : Nat} {e : TypeId} {g n cap : Nat} {xs : List Value} (h : w.ownsRow base e 1 (.slice (some ⟨g, 0, none⟩) n cap) n xs) : Rd w [g] (some ⟨g, 0, none⟩) xs :=
  fun j u hu => ⟨_, rfl, by simp, h.cells (g := g) rfl j u hu⟩

/-- What a value owns it reads, in blocks from base on. -/
theorem own_rd {w : World} {base : Nat} {e : TypeId} {ao : Option Addr} {n cap : Nat} {xs : List Value} (h : w.ownsRow base e 1 (.slice ao n cap) n xs) :
    ∃ fp, Rd w fp ao xs ∧ (∀ k ∈ fp, base ≤ k ∧ k < w.heap.size) ∧ n ≤ cap := by
  rcases h.2 with ⟨hv, h0⟩ | ⟨g, cap', cur, hv, hb, hg, hn, _⟩
  · have hx : xs = [] := List.eq_nil_of_length_eq_zero (by rw [h.1, h0])
    subst hx
    exact ⟨[], Rd.nil _ _ _, by simp, by simp at hv; omega⟩
  · have hvv := hv
    simp only [Value.slice.injEq] at hv
    obtain ⟨rfl, _, rfl⟩ := hv
    exact ⟨[g], Rd.of_own h, fun k hk => by
      simp at hk; subst hk
      exact ⟨hb, (Array.getElem?_eq_some_iff.1 hg).1⟩, hn⟩
theorem own_rd2 {w : World} {base : Nat} {e : TypeId} {ao : Option Addr} {n cap : Nat} {xs : List Value} (h : w.ownsRow base e 1 (.slice ao n cap) n xs) :
    Rd w (Value.slice ao n cap).ownBlock.toList ao xs ∧ (∀ k ∈ (Value.slice ao n cap).ownBlock.toList, base ≤ k ∧ k < w.heap.size) ∧ n ≤ cap := by
  rcases h.2 with ⟨hv, h0⟩ | ⟨g, cap', cur, hv, hb, hg, hn, _⟩
  · have hx : xs = [] := List.eq_nil_of_length_eq_zero (by rw [h.1, h0])
    subst hx
    simp only [Value.slice.injEq] at hv
    obtain ⟨rfl, rfl, rfl⟩ := hv
    exact ⟨Rd.nil _ _ _, by simp [Value.ownBlock], Nat.le_refl _⟩
  · simp only [Value.slice.injEq] at hv
    obtain ⟨rfl, _, rfl⟩ := hv
    exact ⟨Rd.of_own h, fun k hk => by
      simp [Value.ownBlock] at hk; subst hk
      exact ⟨hb, (Array.getElem?_eq_some_iff.1 hg).1⟩, hn⟩
theorem own_shape {w : World} {base : Nat} {e : TypeId} {v : Value} {n : Nat} {xs : List Value} (h : w.ownsRow base e 1 v n xs) : ∃ ao cap, v = .slice ao n cap := by
  rcases h.2 with ⟨hv, h0⟩ | ⟨g, cap', cur, hv, _⟩
  · subst h0; exact ⟨none, 0, hv⟩
  · exact ⟨_, _, hv⟩

theorem own_chg {w w' : World} {S : List Nat} {base : Nat} {e : TypeId} {v : Value} {n : Nat} {xs : List Value} (h : w.ownsRow base e 1 v n xs) (k : Chg S w w') (hd : ∀ g, base ≤ g → g ∉ S) : w'.ownsRow base e 1 v n xs := by
  refine ⟨h.1, ?_⟩
  rcases h.2 with hn | ⟨g, cap, cur, hv, hb, hg, rest⟩
  · exact .inl hn
  · exact .inr ⟨g, cap, cur, hv, hb, k.heap hg (hd g hb), rest⟩

/-- Bytes and ints as cells. -/
def bv (l : List UInt8) : List Value := l.map fun b => .int .u8 b.toNat
def iv (l : List Int) : List Value := l.map (Value.int .i64)
theorem bv_length (l : List UInt8) : (bv l).length = l.length := by simp [bv]
theorem iv_length (l : List Int) : (iv l).length = l.length := by simp [iv]
theorem bv_take (l : List UInt8) (n : Nat) : (bv l).take n = bv (l.take n) := by simp [bv, List.map_take]
theorem bv_drop (l : List UInt8) (n : Nat) : (bv l).drop n = bv (l.drop n) := by simp [bv, List.map_drop]
theorem bv_append (l m : List UInt8) : bv (l ++ m) = bv l ++ bv m := by simp [bv]
theorem bv_one (l : List UInt8) : ∀ u ∈ bv l, u.oneCell' = true := by
  intro u hu; obtain ⟨_, _, rfl⟩ := List.mem_map.1 hu; rfl
theorem iv_one (l : List Int) : ∀ u ∈ iv l, u.oneCell' = true := by
  intro u hu; obtain ⟨_, _, rfl⟩ := List.mem_map.1 hu; rfl
theorem bv_get (l : List UInt8) (j : Nat) (h : j < l.length) : (bv l)[j]? = some (.int .u8 (l[j].toNat)) := by simp [bv, h]
theorem iv_get (l : List Int) (j : Nat) (h : j < l.length) : (iv l)[j]? = some (.int .i64 l[j]) := by simp [iv, h]


/-! append onto what the call owns, from a slice that reads as 'news' (nil and empty too); elements of one cell. -/
section
variable {P : Program}
theorem run_append_zero (w : World) (base : Nat) (t ty e : TypeId) (i : TypeInfo) (size : Nat) (ht : P.underlying t = some (.slice e)) (hi : P.info? e = some i)
    (v : Value) (n : Nat) (xs : List Value) (hown : w.ownsRow base e size v n xs) (ao : Option Addr) (c : Nat) :
    (Builtin.append_ #[t, t] ty #[v, .slice ao 0 c]).run P w = .ok v w := by
  rcases hown.2 with ⟨rfl, rfl⟩ | ⟨g, cap, cur, rfl, _, _, hnc, _⟩
  · cases ao <;> simp [Builtin.append_, run_underlying ht, sizeOf, typeInfo, hi, Builtin.lenOf, Builtin.firstCells, loadCells, loadCellsFrom]
  · cases ao <;> simp [Builtin.append_, run_underlying ht, sizeOf, typeInfo, hi, Builtin.lenOf, Builtin.firstCells, hnc, storeCells, loadCells, loadCellsFrom]

theorem run_append_rd (w : World) (base : Nat) (t ty e : TypeId) (i : TypeInfo) (z : Value) (bytes : Nat) (ht : P.underlying t = some (.slice e)) (hi : P.info? e = some i) (hz : i.zero = some z)
    (hsize : i.size = 1) (hby : i.bytes = bytes) (hzs : z.cells.size = 1)
    (v : Value) (n : Nat) (xs : List Value) (hown : w.ownsRow base e 1 v n xs)
    (ao : Option Addr) (m c : Nat) (fp : List Nat) (news : List Value) (hl : news.length = m) (hrd : Rd w fp ao news) (h1 : ∀ u ∈ news, u.oneCell' = true)
    (hbytes : (n + m) * bytes ≤ 140737488355328) (h63 : n + m ≤ maxLen) (hbase : base ≤ w.heap.size) :
    ∃ a' c' w', (Builtin.append_ #[t, t] ty #[v, .slice ao m c]).run P w = .ok (.slice a' (n + m) c') w' ∧ w'.ownsRow base e 1 (.slice a' (n + m) c') (n + m) (xs ++ news) ∧ w.grownBy w' v.ownBlock ∧
      ((Value.slice a' (n + m) c').ownBlock = v.ownBlock ∨ (Value.slice a' (n + m) c').ownBlock = some w.heap.size) := by
  cases news with
  | nil =>
    simp only [List.length_nil] at hl
    subst hl
    obtain ⟨a', c', rfl⟩ := own_shape hown
    exact ⟨a', c', w, run_append_zero w base t ty e i 1 ht hi _ n xs hown ao c, by simpa using hown, World.grownBy.refl _ _, .inl rfl⟩
  | cons x l =>
    obtain ⟨ad, rfl, _, _⟩ := hrd 0 x rfl
    obtain ⟨v', w', hr, h2, h3, _, h5⟩ := run_append_own_at (P := P) w base t ty e i z 1 bytes ht hi hz hsize hby hzs (by omega) v n xs hown ad m c (x :: l) (by rw [hl, Nat.mul_one]) hrd.at h1 h63 hbytes hbase
    obtain ⟨a', c', rfl⟩ := own_shape h2
    exact ⟨a', c', w', hr, h2, h3, h5⟩

theorem wp_append_rd {w : World} {o : Oper} {a : Act} {K : Act → World → Prop} {Q : Exit → Act → World → Prop} (s x : Operand) (t : TypeId)
    (ho : o.op = .call { callee := .builtin .append, args := #[s, x], argTypes := #[t, t] })
    (base : Nat) (e : TypeId) (i : TypeInfo) (z : Value) (bytes : Nat) (ht : P.underlying t = some (.slice e)) (hi : P.info? e = some i) (hz : i.zero = some z)
    (hsize : i.size = 1) (hby : i.bytes = bytes) (hzs : z.cells.size = 1)
    (v : Value) (n : Nat) (xs : List Value) (hs : a.eval s = v) (hown : w.ownsRow base e 1 v n xs)
    (ao : Option Addr) (m c : Nat) (fp : List Nat) (news : List Value) (hx : a.eval x = .slice ao m c) (hl : news.length = m) (hrd : Rd w fp ao news) (h1 : ∀ u ∈ news, u.oneCell' = true)
    (hbytes : (n + m) * bytes ≤ 140737488355328) (h63 : n + m ≤ maxLen) (hbase : base ≤ w.heap.size)
    (h : ∀ a' c' w', w'.ownsRow base e 1 (.slice a' (n + m) c') (n + m) (xs ++ news) → w.grownBy w' v.ownBlock → ((Value.slice a' (n + m) c').ownBlock = v.ownBlock ∨ (Value.slice a' (n + m) c').ownBlock = some w.heap.size) → K (a.put o.dst (.slice a' (n + m) c')) w') : o.wp P a w K Q := by
  obtain ⟨a', c', w', hr, h2, h3, h4⟩ := run_append_rd (P := P) w base t o.type e i z bytes ht hi hz hsize hby hzs v n xs hown ao m c fp news hl hrd h1 hbytes h63 hbase
  unfold Oper.wp execOp
  simp only [ho, resolve, invoke, builtin, Sem.run_bind, Sem.run_pure, Result.andThen_ok, List.map_toArray, List.map_cons, List.map_nil, hs, hx, hr]
  exact h a' c' w' h2 h3 h4

theorem wpList_append_rd {w : World} {ops : Array Oper} {rest : List Oper} {o : Oper} {a : Act} {Q : Exit → Act → World → Prop} (hgd : o.guard = none) (s x : Operand) (t : TypeId)
    (ho : o.op = .call { callee := .builtin .append, args := #[s, x], argTypes := #[t, t] })
    (base : Nat) (e : TypeId) (i : TypeInfo) (z : Value) (bytes : Nat) (ht : P.underlying t = some (.slice e)) (hi : P.info? e = some i) (hz : i.zero = some z)
    (hsize : i.size = 1) (hby : i.bytes = bytes) (hzs : z.cells.size = 1)
    (v : Value) (n : Nat) (xs : List Value) (hs : a.eval s = v) (hown : w.ownsRow base e 1 v n xs)
    (ao : Option Addr) (m c : Nat) (fp : List Nat) (news : List Value) (hx : a.eval x = .slice ao m c) (hl : news.length = m) (hrd : Rd w fp ao news) (h1 : ∀ u ∈ news, u.oneCell' = true)
    (hbytes : (n + m) * bytes ≤ 140737488355328) (h63 : n + m ≤ maxLen) (hbase : base ≤ w.heap.size)
    (h : ∀ a' c' w', w'.ownsRow base e 1 (.slice a' (n + m) c') (n + m) (xs ++ news) → w.grownBy w' v.ownBlock → ((Value.slice a' (n + m) c').ownBlock = v.ownBlock ∨ (Value.slice a' (n + m) c').ownBlock = some w.heap.size) → wpList P ops Q rest (a.put o.dst (.slice a' (n + m) c')) w') : wpList P ops Q (o :: rest) a w :=
  wpList_plain hgd fun _ hK => wp_append_rd s x t ho base e i z bytes ht hi hz hsize hby hzs v n xs hs hown ao m c fp news hx hl hrd h1 hbytes h63 hbase fun a' c' w' h2 h3 h4 => hK _ _ (h a' c' w' h2 h3 h4)

theorem step_append_rd {w : World} {ops : Array Oper} {o : Oper} {a : Act} {K : Act → World → Prop} {Q : Exit → Act → World → Prop} {E : Prop} (hgd : o.guard = none) (s x : Operand) (t : TypeId)
    (ho : o.op = .call { callee := .builtin .append, args := #[s, x], argTypes := #[t, t] })
    (base : Nat) (e : TypeId) (i : TypeInfo) (z : Value) (bytes : Nat) (ht : P.underlying t = some (.slice e)) (hi : P.info? e = some i) (hz : i.zero = some z)
    (hsize : i.size = 1) (hby : i.bytes = bytes) (hzs : z.cells.size = 1)
    (v : Value) (n : Nat) (xs : List Value) (hs : a.eval s = v) (hown : w.ownsRow base e 1 v n xs)
    (ao : Option Addr) (m c : Nat) (fp : List Nat) (news : List Value) (hx : a.eval x = .slice ao m c) (hl : news.length = m) (hrd : Rd w fp ao news) (h1 : ∀ u ∈ news, u.oneCell' = true)
    (hbytes : (n + m) * bytes ≤ 140737488355328) (h63 : n + m ≤ maxLen) (hbase : base ≤ w.heap.size)
    (h : ∀ a' c' w', w'.ownsRow base e 1 (.slice a' (n + m) c') (n + m) (xs ++ news) → w.grownBy w' v.ownBlock → ((Value.slice a' (n + m) c').ownBlock = v.ownBlock ∨ (Value.slice a' (n + m) c').ownBlock = some w.heap.size) → K (a.put o.dst (.slice a' (n + m) c')) w') :
    if Region.wanted o (yielded ops a.tmps) = true then Oper.wp P o a w K Q else E := by
  have hw : Region.wanted o (yielded ops a.tmps) = true := by simp [Region.wanted, hgd]
  rw [if_pos hw]
  exact wp_append_rd s x t ho base e i z bytes ht hi hz hsize hby hzs v n xs hs hown ao m c fp news hx hl hrd h1 hbytes h63 hbase h
end
theorem heap_keep {w : World} {o o' : Obj} {g : Nat} (h : w.heap[g]? = some o') : (w.alloc o).heap[g]? = some o' := by
  rw [heap_alloc_old _ _ (Array.getElem?_eq_some_iff.1 h).1]; exact h
theorem heap_new_at {w : World} {o : Obj} {g : Nat} (h : g = w.heap.size) : (w.alloc o).heap[g]? = some o := by subst h; exact heap_alloc_new _ _
theorem grown_heap {w w' : World} {row : Option Nat} {o : Obj} {g : Nat} (hg : w.grownBy w' row) (h : w.heap[g]? = some o) (hr : some g ≠ row) : w'.heap[g]? = some o :=
  (hg.block g (Array.getElem?_eq_some_iff.1 h).1 hr).trans h
/-- A new, empty row. -/
theorem own_empty {w : World} {e : TypeId} {g : Nat} {base : Nat} (h : w.heap[g]? = some (.cells #[] e (0, 0))) (hb : base ≤ g) : w.ownsRow base e 1 (.slice (some ⟨g, 0, none⟩) 0 0) 0 [] :=
  ⟨by simp, .inr ⟨g, 0, #[], rfl, hb, h, Nat.le_refl _, Nat.zero_le _, by simp, by simp⟩⟩

theorem cell_heap {w : World} {p : Nat} {cs : Array Value} {t : TypeId} (h : w.heap[p]? = some (.cells cs t (0, 0))) (j : Nat) {v : Value} (hv : cs[j]? = some v) : w.cell? ⟨p, j, none⟩ = some v := by
  simp [World.cell?, h, hv]
theorem lt_of_block {w : World} {p : Nat} {o : Obj} (h : w.heap[p]? = some o) : p < w.heap.size := (Array.getElem?_eq_some_iff.1 h).1

end Go.Pax
namespace Go.Pax
open Go.RowKit
def ba (l : List UInt8) : ByteArray := ⟨l.toArray⟩
theorem ba_toList (s : ByteArray) : ba s.data.toList = s := by cases s; simp [ba]
theorem ba_data (l : List UInt8) : (ba l).data.toList = l := by simp [ba]
theorem ba_inj {a b : List UInt8} (h : ba a = ba b) : a = b := by rw [← ba_data a, h, ba_data]
theorem ba_size (l : List UInt8) : (ba l).size = l.length := by simp [ba, ByteArray.size]
/-- A path, cut at its slashes. -/
def compsL : List UInt8 → List (List UInt8)
  | [] => [[]]
  | c :: l => if c = 47 then [] :: compsL l else
    match compsL l with
    | [] => [[c]]
    | h :: t => (c :: h) :: t
theorem compsL_ne (l : List UInt8) : compsL l ≠ [] := by
  cases l with
  | nil => simp [compsL]
  | cons c l => simp only [compsL]; split; simp; split <;> simp
theorem compsL_none {l : List UInt8} (h : 47 ∉ l) : compsL l = [l] := by
  induction l with
  | nil => rfl
  | cons c l ih =>
    simp only [List.mem_cons, not_or] at h
    simp only [compsL, if_neg (Ne.symm h.1), ih h.2]
theorem compsL_some {a b : List UInt8} (h : 47 ∉ a) : compsL (a ++ 47 :: b) = a :: compsL b := by
  induction a with
  | nil => simp [compsL]
  | cons c a ih =>
    simp only [List.mem_cons, not_or] at h
    simp only [List.cons_append, compsL, if_neg (Ne.symm h.1), ih h.2]
/-- What Cut gives at one byte. -/
def cutL (l : List UInt8) : List UInt8 × List UInt8 × Bool :=
  if 0 ≤ Lib.indexByte l 47 then (l.take (Lib.indexByte l 47).toNat, l.drop ((Lib.indexByte l 47).toNat + 1), true) else (l, [], false)
theorem cutL_comps (l : List UInt8) : compsL l = if (cutL l).2.2 then (cutL l).1 :: compsL (cutL l).2.1 else [(cutL l).1] := by
  unfold cutL
  have hge := Lib.indexByte_ge l 47
  by_cases h : 0 ≤ Lib.indexByte l 47
  · rw [if_pos h]
    obtain ⟨o, ho⟩ : ∃ o : Nat, Lib.indexByte l 47 = o := ⟨_, (Int.toNat_of_nonneg h).symm⟩
    obtain ⟨h1, h2⟩ := Lib.indexByte_some ho
    rw [ho]
    simp only [Int.toNat_natCast, if_true]
    have hlt : o < l.length := (List.getElem?_eq_some_iff.1 h1).1
    have hsp : l = l.take o ++ 47 :: l.drop (o + 1) := by
      conv => lhs; rw [← List.take_append_drop o l]
      rw [List.drop_eq_getElem_cons hlt]
      rw [(List.getElem?_eq_some_iff.1 h1).2]
    have hn : 47 ∉ l.take o := by
      intro hm
      obtain ⟨k, hk, he⟩ := List.mem_iff_getElem.1 hm
      simp at hk
      exact h2 k (by omega) (by rw [List.getElem?_eq_getElem (by omega)]; simp at he; rw [he])
    conv => lhs; rw [hsp]
    exact compsL_some hn
  · rw [if_neg h]
    have : Lib.indexByte l 47 = -1 := by omega
    simp only [Bool.false_eq_true, if_false]
    refine compsL_none fun hm => ?_
    obtain ⟨k, hk, he⟩ := List.mem_iff_getElem.1 hm
    exact Lib.indexByte_none this k (by rw [List.getElem?_eq_getElem hk, he])
theorem cutL_len (l : List UInt8) (h : (cutL l).2.2 = true) : (cutL l).2.1.length < l.length := by
  unfold cutL at h ⊢
  by_cases hi : 0 ≤ Lib.indexByte l 47
  · rw [if_pos hi]
    obtain ⟨o, ho⟩ : ∃ o : Nat, Lib.indexByte l 47 = o := ⟨_, (Int.toNat_of_nonneg hi).symm⟩
    have hlt : o < l.length := (List.getElem?_eq_some_iff.1 (Lib.indexByte_some ho).1).1
    rw [ho]
    simp; omega
  · rw [if_neg hi] at h; simp at h
theorem indexByte_lt (l : List UInt8) (c : UInt8) : Lib.indexByte l c < l.length := by
  by_cases h : 0 ≤ Lib.indexByte l c
  · obtain ⟨o, ho⟩ : ∃ o : Nat, Lib.indexByte l c = o := ⟨_, (Int.toNat_of_nonneg h).symm⟩
    have hlt : o < l.length := (List.getElem?_eq_some_iff.1 (Lib.indexByte_some ho).1).1
    omega
  · omega
def badC (c : List UInt8) : Bool := decide (c = []) || decide (c = [46]) || decide (c = [46, 46]) || decide (0 ≤ Lib.indexByte c 0)
/-- paxtar/pathname.Check. -/
def checkP (p : List UInt8) : Int := if 65536 < p.length then 7 else if (compsL p).any badC then 6 else 0
end Go.Pax
namespace Go.Proofs
open Go.Shelf
def Tryz.lays137_ren : Go.Shelf.Ren := ⟨fun | 137 => 92 | 217 => 113 | 266 => 130 | n => n, fun | 9 => 9 | 5 => 5 | 3 => 3 | n => n, fun | n => n⟩
theorem Tryz.lays137 : Go.Proofs.Lays.n137 Tryz.prog Tryz.lays137_ren := {
  mixed := by kernel_rfl
  f137 := Tryz.func92.trans (congrArg some (by kernel_rfl))
  f217 := Tryz.func113.trans (congrArg some (by kernel_rfl))
  f266 := Tryz.func130.trans (congrArg some (by kernel_rfl))
  t3 := Tryz.underlying3
  a3 := Tryz.isAgg3
  z3 := Tryz.sizeOf3
  v3 := Tryz.zeroValue3
  t5 := Tryz.underlying5
  a5 := Tryz.isAgg5
  z5 := Tryz.sizeOf5
  v5 := Tryz.zeroValue5
  t9 := Tryz.underlying9
  a9 := Tryz.isAgg9
  z9 := Tryz.sizeOf9
  v9 := Tryz.zeroValue9 }
open Go.RowKit in
/-- strings.IndexByte: "IndexByte returns the index of the first instance of c in s, or -1 if c is not present in s.": IT RETURNS 'Lib.indexByte s c'; the world is as it was. (LAID: no walk: one application.) -/
theorem Tryz.strings_IndexByte (s : ByteArray) (c : Int) (w : World) :
    Calls Tryz.prog 92 #[.string s, .int .u8 c] w fun e w' => e = .returned (.int .i64 (Lib.indexByte s.data.toList c.toNat.toUInt8)) ∧ w' = w := Any.strings_IndexByte Tryz.lays137 s c w
def Tryz.lays219_ren : Go.Shelf.Ren := ⟨fun | 219 => 136 | 217 => 113 | 225 => 143 | 224 => 144 | 267 => 145 | 266 => 130 | 314 => 151 | n => n, fun | 9 => 9 | 3 => 3 | 4 => 4 | 5 => 5 | 46 => 87 | 146 => 200 | 51 => 199 | n => n, fun | 1 => 1 | n => n⟩
theorem Tryz.lays219 : Go.Proofs.Lays.n219 Tryz.prog Tryz.lays219_ren := {
  mixed := by kernel_rfl
  f217 := Tryz.func113.trans (congrArg some (by kernel_rfl))
  f219 := Tryz.func136.trans (congrArg some (by kernel_rfl))
  f224 := Tryz.func144.trans (congrArg some (by kernel_rfl))
  f225 := Tryz.func143.trans (congrArg some (by kernel_rfl))
  f266 := Tryz.func130.trans (congrArg some (by kernel_rfl))
  f267 := Tryz.func145.trans (congrArg some (by kernel_rfl))
  f314 := Tryz.func151.trans (congrArg some (by kernel_rfl))
  t3 := Tryz.underlying3
  a3 := Tryz.isAgg3
  z3 := Tryz.sizeOf3
  v3 := Tryz.zeroValue3
  t4 := Tryz.underlying4
  a4 := Tryz.isAgg4
  z4 := Tryz.sizeOf4
  v4 := Tryz.zeroValue4
  t5 := Tryz.underlying5
  a5 := Tryz.isAgg5
  z5 := Tryz.sizeOf5
  v5 := Tryz.zeroValue5
  t9 := Tryz.underlying9
  a9 := Tryz.isAgg9
  z9 := Tryz.sizeOf9
  v9 := Tryz.zeroValue9
  t46 := Tryz.underlying87
  a46 := Tryz.isAgg87
  z46 := Tryz.sizeOf87
  v46 := Tryz.zeroValue87
  t51 := Tryz.underlying199
  a51 := Tryz.isAgg199
  z51 := Tryz.sizeOf199
  v51 := Tryz.zeroValue199
  t146 := Tryz.underlying200
  a146 := Tryz.isAgg200
  z146 := Tryz.sizeOf200
  v146 := Tryz.zeroValue200
  g1 := by kernel_rfl }
open Go.RowKit Go.Lib in
/-- internal/stringslite.Index (what strings.Index calls) AT A substr OF ONE BYTE c: IT RETURNS 'Lib.indexByte s c'; the world is as it was. (LAID: no walk: one application.) -/
theorem Tryz.stringslite_Index_one (s : ByteArray) (c : UInt8) (w : World) :
    Calls Tryz.prog 136 #[.string s, .string ⟨#[c]⟩] w fun e w' => e = .returned (.int .i64 (Lib.indexByte s.data.toList c)) ∧ w' = w := Any.stringslite_Index_one Tryz.lays219 s c w
def Tryz.rev_ren : Go.Shelf.Ren := ⟨fun | 17 => 98 | n => n, fun | 24 => 47 | 9 => 9 | 3 => 3 | 4 => 4 | 0 => 0 | n => n, fun | n => n⟩
theorem Tryz.rev : Go.Proofs.Lays2.n17 Tryz.prog Tryz.rev_ren := {
  mixed := by kernel_rfl
  f17 := Tryz.func98.trans (congrArg some (by kernel_rfl))
  t0 := Tryz.underlying0
  a0 := Tryz.isAgg0
  z0 := Tryz.sizeOf0
  v0 := Tryz.zeroValue0
  t3 := Tryz.underlying3
  a3 := Tryz.isAgg3
  z3 := Tryz.sizeOf3
  v3 := Tryz.zeroValue3
  t4 := Tryz.underlying4
  a4 := Tryz.isAgg4
  z4 := Tryz.sizeOf4
  v4 := Tryz.zeroValue4
  t9 := Tryz.underlying9
  a9 := Tryz.isAgg9
  z9 := Tryz.sizeOf9
  v9 := Tryz.zeroValue9
  t24 := Tryz.underlying47
  a24 := Tryz.isAgg47
  z24 := Tryz.sizeOf47
  v24 := Tryz.zeroValue47 }
def Tryz.ins_ren : Go.Shelf.Ren := ⟨fun | 22 => 94 | 29 => 114 | 30 => 115 | 36 => 131 | 17 => 98 | n => n, fun | 24 => 47 | 9 => 9 | 3 => 3 | 4 => 4 | 0 => 0 | n => n, fun | n => n⟩
theorem Tryz.ins : Go.Proofs.Lays2.n22 Tryz.prog Tryz.ins_ren := {
  mixed := by kernel_rfl
  f17 := Tryz.func98.trans (congrArg some (by kernel_rfl))
  f22 := Tryz.func94.trans (congrArg some (by kernel_rfl))
  f29 := Tryz.func114.trans (congrArg some (by kernel_rfl))
  f30 := Tryz.func115.trans (congrArg some (by kernel_rfl))
  f36 := Tryz.func131.trans (congrArg some (by kernel_rfl))
  t0 := Tryz.underlying0
  a0 := Tryz.isAgg0
  z0 := Tryz.sizeOf0
  v0 := Tryz.zeroValue0
  t3 := Tryz.underlying3
  a3 := Tryz.isAgg3
  z3 := Tryz.sizeOf3
  v3 := Tryz.zeroValue3
  t4 := Tryz.underlying4
  a4 := Tryz.isAgg4
  z4 := Tryz.sizeOf4
  v4 := Tryz.zeroValue4
  t9 := Tryz.underlying9
  a9 := Tryz.isAgg9
  z9 := Tryz.sizeOf9
  v9 := Tryz.zeroValue9
  t24 := Tryz.underlying47
  a24 := Tryz.isAgg47
  z24 := Tryz.sizeOf47
  v24 := Tryz.zeroValue47
  i9 := by kernel_rfl }
def Tryz.bse_ren : Go.Shelf.Ren := ⟨fun | 26 => 17 | 33 => 38 | 34 => 40 | 38 => 79 | n => n, fun | 24 => 47 | 9 => 9 | 3 => 3 | 4 => 4 | 40 => 87 | 0 => 0 | n => n, fun | n => n⟩
theorem Tryz.bse : Go.Proofs.Lays2.n26 Tryz.prog Tryz.bse_ren := {
  mixed := by kernel_rfl
  f26 := Tryz.func17.trans (congrArg some (by kernel_rfl))
  f33 := Tryz.func38.trans (congrArg some (by kernel_rfl))
  f34 := Tryz.func40.trans (congrArg some (by kernel_rfl))
  f38 := Tryz.func79.trans (congrArg some (by kernel_rfl))
  t0 := Tryz.underlying0
  a0 := Tryz.isAgg0
  z0 := Tryz.sizeOf0
  v0 := Tryz.zeroValue0
  t3 := Tryz.underlying3
  a3 := Tryz.isAgg3
  z3 := Tryz.sizeOf3
  v3 := Tryz.zeroValue3
  t4 := Tryz.underlying4
  a4 := Tryz.isAgg4
  z4 := Tryz.sizeOf4
  v4 := Tryz.zeroValue4
  t9 := Tryz.underlying9
  a9 := Tryz.isAgg9
  z9 := Tryz.sizeOf9
  v9 := Tryz.zeroValue9
  t24 := Tryz.underlying47
  a24 := Tryz.isAgg47
  z24 := Tryz.sizeOf47
  v24 := Tryz.zeroValue47
  t40 := Tryz.underlying87
  a40 := Tryz.isAgg87
  z40 := Tryz.sizeOf87
  v40 := Tryz.zeroValue87 }
def Tryz.lix_ren : Go.Shelf.Ren := ⟨fun | 148 => 104 | 222 => 124 | 223 => 125 | 269 => 133 | n => n, fun | 9 => 9 | 3 => 3 | 4 => 4 | 5 => 5 | 146 => 200 | 51 => 199 | 46 => 87 | n => n, fun | n => n⟩
theorem Tryz.lix : Go.Proofs.Lays.n148 Tryz.prog Tryz.lix_ren := {
  mixed := by kernel_rfl
  f148 := Tryz.func104.trans (congrArg some (by kernel_rfl))
  f222 := Tryz.func124.trans (congrArg some (by kernel_rfl))
  f223 := Tryz.func125.trans (congrArg some (by kernel_rfl))
  f269 := Tryz.func133.trans (congrArg some (by kernel_rfl))
  t3 := Tryz.underlying3
  a3 := Tryz.isAgg3
  z3 := Tryz.sizeOf3
  v3 := Tryz.zeroValue3
  t4 := Tryz.underlying4
  a4 := Tryz.isAgg4
  z4 := Tryz.sizeOf4
  v4 := Tryz.zeroValue4
  t5 := Tryz.underlying5
  a5 := Tryz.isAgg5
  z5 := Tryz.sizeOf5
  v5 := Tryz.zeroValue5
  t9 := Tryz.underlying9
  a9 := Tryz.isAgg9
  z9 := Tryz.sizeOf9
  v9 := Tryz.zeroValue9
  t46 := Tryz.underlying87
  a46 := Tryz.isAgg87
  z46 := Tryz.sizeOf87
  v46 := Tryz.zeroValue87
  t51 := Tryz.underlying199
  a51 := Tryz.isAgg199
  z51 := Tryz.sizeOf199
  v51 := Tryz.zeroValue199
  t146 := Tryz.underlying200
  a146 := Tryz.isAgg200
  z146 := Tryz.sizeOf200
  v146 := Tryz.zeroValue200 }
def Tryz.gro_ren : Go.Shelf.Ren := ⟨fun | 4 => 117 | n => n, fun | 22 => 47 | 25 => 9 | 3 => 3 | 4 => 4 | 9 => 9 | 20 => 20 | 0 => 0 | n => n, fun | n => n⟩
theorem Tryz.gro : Go.Proofs.Lays8.n4 Tryz.prog Tryz.gro_ren := {
  mixed := by kernel_rfl
  f4 := ⟨Tryz.f117.name, by decide, Tryz.func117.trans (congrArg some (by kernel_rfl))⟩
  t0 := Tryz.underlying0
  a0 := Tryz.isAgg0
  z0 := Tryz.sizeOf0
  v0 := Tryz.zeroValue0
  t3 := Tryz.underlying3
  a3 := Tryz.isAgg3
  z3 := Tryz.sizeOf3
  v3 := Tryz.zeroValue3
  t4 := Tryz.underlying4
  a4 := Tryz.isAgg4
  z4 := Tryz.sizeOf4
  v4 := Tryz.zeroValue4
  t9 := Tryz.underlying9
  a9 := Tryz.isAgg9
  z9 := Tryz.sizeOf9
  v9 := Tryz.zeroValue9
  t20 := Tryz.underlying20
  a20 := Tryz.isAgg20
  z20 := Tryz.sizeOf20
  v20 := Tryz.zeroValue20
  t22 := Tryz.underlying47
  a22 := Tryz.isAgg47
  z22 := Tryz.sizeOf47
  v22 := Tryz.zeroValue47 }
end Go.Proofs
namespace Go.Proofs.YtfhiioopimmahaaGreatDoor
open Go.RowKit Go.Pax Go.Shelf

theorem ext_take (s : ByteArray) (k : Nat) : s.extract 0 k = ba (s.data.toList.take k) := by
  rw [← ba_toList (s.extract 0 k), Lib.extract_data]; simp
theorem ext_drop (s : ByteArray) (k : Nat) : s.extract k s.size = ba (s.data.toList.drop k) := by
  rw [← ba_toList (s.extract k s.size), Lib.extract_to_end]
theorem sz_len (s : ByteArray) : s.size = s.data.toList.length := by cases s; simp [ByteArray.size]

set_option maxHeartbeats 1000000 in
theorem slcut (l : List UInt8) (w : World) (hs : l.length ≤ 65536) :
    Calls Tryz.prog 129 #[.string (ba l), .string ⟨#[47]⟩] w fun e w' => e = .returned (.tuple #[.string (ba (cutL l).1), .string (ba (cutL l).2.1), .bool (cutL l).2.2]) ∧ ∃ k, w' = w.drewN k := by
  have h1 := Lib.indexByte_ge l 47
  have h2 := indexByte_lt l 47
  have hz : (ba l).size = l.length := ba_size l
  have ha := fun k => ext_take (ba l) k
  have hb := fun k => ext_drop (ba l) k
  simp only [ba_data] at ha hb
  have hcl : cutL l = if 0 ≤ Lib.indexByte l 47 then (l.take (Lib.indexByte l 47).toNat, l.drop ((Lib.indexByte l 47).toNat + 1), true) else (l, [], false) := rfl
  have hidx := Tryz.stringslite_Index_one (ba l) 47 w
  rw [ba_data] at hidx
  have HI := Lib.hid hidx
  clear hidx
  generalize Lib.indexByte l 47 = x at *
  by_cases hx : 0 ≤ x
  · obtain ⟨o, rfl⟩ : ∃ o : Nat, x = o := ⟨x.toNat, by omega⟩
    rw [if_pos hx] at hcl
    have HC := Lib.hid hcl
    have HA := Lib.hid (ha o)
    have HB := Lib.hid (hb (o + 1))
    have HZ := Lib.hid hz
    have hlt : (o : Int) < ((ba l).size : Int) := by rw [hz]; omega
    have hle : (o : Int) + 1 ≤ ((ba l).size : Int) := by omega
    have hle2 : ((ba l).size : Int) ≤ 65536 := by rw [hz]; omega
    clear hcl ha hb hz h1 h2 hs
    generalize ba l = s at *
    go_enter Tryz.func129, Tryz.ntmps129
    go_wp2_with (go_at_call 136; refine HI.out.mono ?_; rintro e w' ⟨rfl, rfl⟩)
    go_quiet (fail)
    go_wp2_with fail
    go_ret3
    rw [HC.out]
    simp only
    rw [Int.toNat_natCast, ← HA.out, ← HB.out]
    exact ⟨by simp, _, rfl⟩
  · rw [if_neg hx] at hcl
    have HC := Lib.hid hcl
    clear hcl ha hb hz h2 hs
    go_enter Tryz.func129, Tryz.ntmps129
    go_wp2_with (go_at_call 136; refine HI.out.mono ?_; rintro e w' ⟨rfl, rfl⟩)
    go_ret3
    rw [HC.out]
    exact ⟨rfl, 0, rfl⟩
set_option maxHeartbeats 1000000 in
theorem scut (l : List UInt8) (w : World) (hs : l.length ≤ 65536) :
    Calls Tryz.prog 112 #[.string (ba l), .string ⟨#[47]⟩] w fun e w' => e = .returned (.tuple #[.string (ba (cutL l).1), .string (ba (cutL l).2.1), .bool (cutL l).2.2]) ∧ ∃ k, w' = w.drewN k := by
  have HI := Lib.hid (slcut l w hs)
  generalize ba (cutL l).1 = a at *
  generalize ba (cutL l).2.1 = b at *
  generalize (cutL l).2.2 = c at *
  go_enter Tryz.func112, Tryz.ntmps112
  go_wp2_with (go_at_call 129; refine HI.out.mono ?_; rintro e w' ⟨rfl, k, rfl⟩)
  go_ret3
  exact ⟨rfl, k, rfl⟩
set_option maxHeartbeats 1000000 in
theorem components (s : ByteArray) (w : World) :
    Calls Tryz.prog 91 #[.string s] w fun e w' => e = .returned (.func (.func 111) #[] #[.pointer (some ⟨w.heap.size, 0, none⟩)]) ∧ w' = w.alloc (.cells #[.string s] 9) := by
  go_enter Tryz.func91, Tryz.ntmps91
  go_wp2
  go_ret
  exact ⟨rfl, rfl⟩

/-- How long the string is that block b holds. -/
def strAt (w : World) (b : Nat) : Nat :=
  match w.cell? ⟨b, 0, none⟩ with
  | some (.string s) => s.size
  | _ => 0
theorem strAt_eq {w : World} {b : Nat} {s : ByteArray} (h : w.cell? ⟨b, 0, none⟩ = some (.string s)) : strAt w b = s.size := by simp [strAt, h]
attribute [local go_sem] Oper.semAt_some
set_option maxRecDepth 100000 in
set_option maxHeartbeats 4000000 in
/-- The iterator: it hands the components on, one by one; its own cell b holds what is left. -/
theorem comp_in (F : Fence) (n : Nat) (h92 : F.fn 111) (h93 : ∀ k, F.fn k) (hro : F.round = none) (hw : F = Fence.wide) (hn : 1 ≤ n) (l b : Nat) (J Jx : List (List UInt8) → World → Prop)
    (hJb : ∀ pre W v, J pre W → J pre (W.setCell ⟨b, 0, none⟩ v)) (hJd : ∀ pre W k, J pre W → J pre (W.drewN k)) :
    ∀ (p : List UInt8) (done : List (List UInt8)) (W : World), p.length ≤ 65536 → W.heap[b]? = some (.cells #[.string (ba p)] 9 (0, 0)) → J done W →
    (∀ pre x W1, J pre W1 → YieldAt F (n - 1) Tryz.prog l #[.string (ba x)] W1 fun e W' =>
      (e = .returned (.bool true) ∧ J (pre ++ [x]) W' ∧ W'.heap[b]? = W1.heap[b]?) ∨ (e = .returned (.bool false) ∧ Jx (pre ++ [x]) W')) →
    CallsIn F n Tryz.prog 111 #[.func (.yield l) #[] #[], .pointer (some ⟨b, 0, none⟩)] W fun e W' =>
      (∃ v, e = .returned v) ∧ (J (done ++ compsL p) W' ∨ ∃ x rest1 rest2, compsL p = rest1 ++ x :: rest2 ∧ Jx (done ++ rest1 ++ [x]) W') := by
  intro p done W hp hb h0 hY
  refine callsIn_of_wp Tryz.func111 rfl h92 ?_ hro
  simp only [Tryz.ntmps111, List.size_toArray, List.length_cons, List.length_nil, Nat.reduceAdd, Nat.reduceSub, Array.replicate_succ, Array.replicate_zero, List.push_toArray, List.append_toArray, List.nil_append, List.cons_append]
  obtain rfl := hw
  gi_wp2
  gi_loopw [4] (fun _ wr => ∃ (q : List UInt8) (d : List (List UInt8)), q.length ≤ 65536 ∧ done ++ compsL p = d ++ compsL q ∧ (∃ r, d = done ++ r) ∧ wr.heap[b]? = some (.cells #[.string (ba q)] 9 (0, 0)) ∧ J d wr) (fun _ wr => strAt wr b)
  case atStart => exact ⟨p, done, hp, rfl, ⟨[], by simp⟩, hb, h0⟩
  case round =>
    obtain ⟨q, d, hq, hd, ⟨r, hr⟩, hb', hJ⟩ := hrel
    clear hb h0
    have hc := hb'
    have c1 := cell_heap hb' 0 rfl
    have f1 : wr.frozen? ⟨b, 0, none⟩ = false := frozen_of_row _ _ _ _ _ hb'
    have hct := scut q wr hq
    have hcc := cutL_comps q
    have hcl := cutL_len q
    have HQ := Lib.hid (And.intro hq (And.intro hd (And.intro hr (And.intro hcc hcl))))
    have HCT := Lib.hid hct
    have HB := Lib.hid hb'
    have HJ := Lib.hid hJ
    have HY := Lib.hid hY
    clear hq hd hr hcc hcl hct hb' hJ hY hc
    generalize hA : (cutL q).1 = A at *
    generalize hR : (cutL q).2.1 = R at *
    generalize hM : (cutL q).2.2 = M at *
    have HA := Lib.hid (And.intro hA (And.intro hR hM))
    clear hA hR hM
    gi_wp2_with (gi_at_call 112; refine (callsIn_wide.2 HCT.out).mono ?_; rintro e w' ⟨rfl, k, rfl⟩)
    all_goals
      obtain ⟨fn, tmps, assign, body, hy, hR⟩ := HY.out d A (wr.drewN k) (hJd _ _ _ HJ.out)
      rw [hy, Oper.uponIn_round]
      refine ⟨fun _ => hn, ?_⟩
      refine hR.mono ?_
      clear hR hy
      obtain ⟨hq, hd, hr, hcc, hcl⟩ := HQ.out
      rintro e W3 (⟨rfl, hJ3, hk3⟩ | ⟨rfl, hJx3⟩)
      · have hb3 : W3.heap[b]? = some (.cells #[.string (ba q)] 9 (0, 0)) := hk3.trans HB.out
        have c3 : W3.cell? ⟨b, 0, none⟩ = some (.string (ba q)) := cell_heap hb3 0 rfl
        have f3 : W3.frozen? ⟨b, 0, none⟩ = false := frozen_of_row _ _ _ _ _ hb3
        have HB3 := Lib.hid hb3
        have HJ3 := Lib.hid hJ3
        have HH := Lib.hid (And.intro hq (And.intro hd (And.intro hr (And.intro hcc hcl))))
        clear hb3 hJ3 hk3 hq hd hr hcc hcl c1 f1
        cases M with
        | true =>
          gi_wp2
          obtain ⟨hq, hd, hr, hcc, hcl⟩ := HH.out
          simp only [if_true] at hcc
          have hlt := hcl trivial
          have hb4 := heap_set HB3.out 0 (.string (ba R)) rfl
          have c0 : wr.cell? ⟨b, 0, none⟩ = some (.string (ba q)) := cell_heap HB.out 0 rfl
          have c4 : (W3.setCell ⟨b, 0, none⟩ (.string (ba R))).cell? ⟨b, 0, none⟩ = some (.string (ba R)) := cell_heap hb4 0 rfl
          go_roundw
          case rel => exact ⟨R, d ++ [A], by omega, by rw [hd, hcc]; simp, ⟨r ++ [A], by rw [hr]; simp⟩, hb4, hJb _ _ _ HJ3.out⟩
          case measure => rw [strAt_eq c4, strAt_eq c0, ba_size, ba_size]; exact hlt
        | false =>
          gi_wp2
          obtain ⟨hq, hd, hr, hcc, hcl⟩ := HH.out
          simp only [Bool.false_eq_true, if_false] at hcc

          refine bodyPost_ret (results_none rfl _ _ _) rfl ?_
          exact ⟨⟨_, rfl⟩, .inl (by rw [hd, hcc]; exact HJ3.out)⟩
      · gi_wp2
        refine bodyPost_ret (results_none rfl _ _ _) rfl ?_
        refine ⟨⟨_, rfl⟩, .inr ?_⟩
        have hq' : compsL q = A :: (if M = true then compsL R else []) := by rw [hcc]; split <;> rfl
        refine ⟨A, r, if M = true then compsL R else [], ?_, by rw [← hr]; exact hJx3⟩
        have := hd
        rw [hr, List.append_assoc] at this
        rw [List.append_cancel_left this, hq']

/-- A range over a path's components, whose body tests a component and leaves with 6 in block r where it is bad. -/
theorem range_comp {g : Operand} {assign body : Code} {Q : Exit → Act → World → Prop} {a : Act} {w : World} {b r : Nat} {p : List UInt8} {q : Tmp}
    (hg : a.eval g = .func (.func 111) #[] #[.pointer (some ⟨b, 0, none⟩)])
    (hp : p.length ≤ 65536) (hb : w.heap[b]? = some (.cells #[.string (ba p)] 9 (0, 0))) (hr : w.heap[r]? = some (.cells #[.int .i64 0] 36 (0, 0))) (hne : r ≠ b) (a₁ : List UInt8 → Act)
    (hassign : ∀ (l : Nat) (x : List UInt8) (W : World) (K : Act → World → Prop), K (a₁ x) W →
      assign.wpIn (Fence.wide.inRound l) 3 Tryz.prog (Exit.then K (fun _ _ _ => False)) { tmps := a.tmps.setIfInBounds q (.string (ba x)), defers := [] } W)
    (hbody : ∀ (l : Nat) (x : List UInt8) (W : World), W.heap[r]? = some (.cells #[.int .i64 0] 36 (0, 0)) → (badC x = false → body.wpIn (Fence.wide.inRound l) 3 Tryz.prog (fun e _ W' => e = .normal ∧ W' = W) (a₁ x) W) ∧
      (badC x = true → body.wpIn (Fence.wide.inRound l) 3 Tryz.prog (fun e _ W' => e = .ret ∧ W' = W.setCell ⟨r, 0, none⟩ (.int .i64 6)) (a₁ x) W))
    (hdone : ∀ (D : Nat) (W : World), w.heap.size ≤ D → (compsL p).any badC = false → Chg [b] w W → W.heap[D]? = some (.deferred (some [])) → Q .normal { a with defers := { target := .collected D, args := #[] } :: a.defers } W)
    (hstop : ∀ (D : Nat) (W : World), w.heap.size ≤ D → (compsL p).any badC = true → Chg [b, r] w W → W.heap[r]? = some (.cells #[.int .i64 6] 36 (0, 0)) → W.heap[D]? = some (.deferred (some [])) → Code.ret.wpIn Fence.wide 5 Tryz.prog Q { a with defers := { target := .collected D, args := #[] } :: a.defers } W) :
    (Code.rangeFunc g #[q] assign body).wpIn Fence.wide 5 Tryz.prog Q a w := by
  refine wpIn_rangeFunc fun fn hfn => ?_
  obtain ⟨rec, hrec⟩ : ∃ rec : LoopState → Option Code → Loop, rec = fun st pe => { state := st, pending := pe, fn, tmps := a.tmps, params := #[q], assign, body, defers := w.heap.size } := ⟨_, rfl⟩
  obtain ⟨W1, hW1⟩ : ∃ W1, (w.alloc (.deferred (some []))).alloc (.loop (rec .ready none)) = W1 := ⟨_, rfl⟩
  have hlb : b < w.heap.size := lt_of_block hb
  have hlr : r < w.heap.size := lt_of_block hr
  have hL1 : W1.heap[w.heap.size + 1]? = some (.loop (rec .ready none)) := by rw [← hW1]; exact heap_new_at (by simp)
  have hD1 : W1.heap[w.heap.size]? = some (.deferred (some [])) := by rw [← hW1]; exact heap_keep (heap_alloc_new _ _)
  have hb1 : W1.heap[b]? = some (.cells #[.string (ba p)] 9 (0, 0)) := by rw [← hW1]; exact heap_keep (heap_keep hb)
  have hr1 : W1.heap[r]? = some (.cells #[.int .i64 0] 36 (0, 0)) := by rw [← hW1]; exact heap_keep (heap_keep hr)
  have hk1 : Chg [b] w W1 := by rw [← hW1]; exact ((Chg.refl _ _).alloc _).alloc _
  refine ⟨w.heap.size + 1, [{ target := .collected w.heap.size, args := #[] }], W1, { target := .fn (.func 111) #[.pointer (some ⟨b, 0, none⟩)], args := #[.func (.yield (w.heap.size + 1)) #[] #[]] }, W1, 111,
    #[.func (.yield (w.heap.size + 1)) #[] #[]] ++ #[.pointer (some ⟨b, 0, none⟩)], W1, ?_, ?_, fun _ _ => trivial, ?_, (fun h => by cases h), ?_⟩
  · rw [← hW1, hrec]; exact run_enterLoop_outer _ _ _ _ _
  · simp only [resolve, hg]
    simp [go_sem]
  · simp [invoke, go_sem]
  · have hput : ∀ (W : World) (i : Nat) (o : Obj), i < W.heap.size → (W.putObj i o).heap[i]? = some o := fun W i o h => World.putObj_heap_same h
    have hoth : ∀ (W : World) (i j : Nat) (o : Obj), j ≠ i → (W.putObj i o).heap[j]? = W.heap[j]? := fun W i j o h => World.putObj_heap_other h
    have hkp : ∀ (S : List Nat) (W : World) (i : Nat) (o : Obj), w.heap.size ≤ i → Chg S w W → Chg S w (W.putObj i o) := fun S W i o hi h =>
      ⟨h.os, h.tape, h.output, by simpa [World.putObj] using h.size, fun k hk hS => (hoth _ _ _ _ (by omega)).trans (h.block k hk hS)⟩
    refine (comp_in Fence.wide 4 trivial (fun _ => trivial) rfl rfl (by decide) (w.heap.size + 1) b
      (fun pre W => (pre.any badC = false) ∧ W.heap[r]? = some (.cells #[.int .i64 0] 36 (0, 0)) ∧ W.heap[w.heap.size + 1]? = some (.loop (rec .ready none)) ∧ W.heap[w.heap.size]? = some (.deferred (some [])) ∧ Chg [b] w W)
      (fun pre W => (pre.any badC = true) ∧ W.heap[r]? = some (.cells #[.int .i64 6] 36 (0, 0)) ∧ W.heap[w.heap.size + 1]? = some (.loop (rec .done (some .ret))) ∧ W.heap[w.heap.size]? = some (.deferred (some [])) ∧ Chg [b, r] w W)
      ?_ (fun pre W k h => ⟨h.1, h.2.1, h.2.2.1, h.2.2.2.1, h.2.2.2.2.drewN k⟩) p [] W1 hp hb1 ⟨rfl, hr1, hL1, hD1, hk1⟩ ?_).mono ?_
    · rintro pre W v ⟨h1, h2, h3, h4, h5⟩
      have hh : ∀ i, i ≠ b → (W.setCell ⟨b, 0, none⟩ v).heap[i]? = W.heap[i]? := fun i hi => Below.heap_setCell _ _ _ _ hi
      exact ⟨h1, (hh _ hne).trans h2, (hh _ (by omega)).trans h3, (hh _ (by omega)).trans h4, h5.setCell (p := ⟨b, 0, none⟩) (fun _ => by simp) v⟩
    · rintro pre x W ⟨h1, h2, h3, h4, h5⟩
      have hlt : w.heap.size + 1 < W.heap.size := lt_of_block h3
      have hy : (Instr.yield (w.heap.size + 1) #[.string (ba x)]).run Tryz.prog W = .ok (.round (w.heap.size + 1) fn (a.tmps.setIfInBounds q (.string (ba x))) assign body) W := by
        have := run_yield (P := Tryz.prog) (args := #[.string (ba x)]) h3 (by rw [hrec]; rfl)
        rw [hrec] at this
        simpa using this
      refine ⟨fn, _, assign, body, hy, roundIn_of_wpIn hfn ?_⟩
      refine hassign _ x W _ ?_
      refine ⟨_, run_beginRound h3 (by rw [hrec]), ?_⟩
      generalize hW2 : W.putObj (w.heap.size + 1) (.loop { rec .ready none with state := .busy }) = W2
      have hl2 : W2.heap[w.heap.size + 1]? = some (.loop { rec .ready none with state := .busy }) := by rw [← hW2]; exact hput _ _ _ hlt
      have ho2 : ∀ i, i ≠ w.heap.size + 1 → W2.heap[i]? = W.heap[i]? := fun i hi => by rw [← hW2]; exact hoth _ _ _ _ hi
      have hr2 := (ho2 r (by omega)).trans h2
      have hd2 := (ho2 w.heap.size (by omega)).trans h4
      have hk2 : Chg [b] w W2 := by rw [← hW2]; exact hkp _ _ _ _ (by omega) h5
      have hlt2 : w.heap.size + 1 < W2.heap.size := lt_of_block hl2
      cases hbad : badC x with
      | false =>
        refine wpIn_mono ((hbody (w.heap.size + 1) x W2 hr2).1 hbad) ?_
        rintro e a3 W3 ⟨rfl, rfl⟩
        have hend := run_endRound (P := Tryz.prog) none hl2
        refine ⟨_, _, hend, .inl ⟨rfl, ⟨by simp [h1, hbad], (hoth _ _ _ _ (by omega)).trans hr2, ?_, (hoth _ _ _ _ (by omega)).trans hd2, hkp _ _ _ _ (by omega) hk2⟩, (hoth _ _ _ _ (by omega)).trans (ho2 b (by omega))⟩⟩
        rw [hput _ _ _ hlt2, hrec]; rfl
      | true =>
        refine wpIn_mono ((hbody (w.heap.size + 1) x W2 hr2).2 hbad) ?_
        rintro e a3 W3 ⟨rfl, rfl⟩
        have hh : ∀ i, i ≠ r → (W2.setCell ⟨r, 0, none⟩ (.int .i64 6)).heap[i]? = W2.heap[i]? := fun i hi => Below.heap_setCell _ _ _ _ hi
        have hl3 := (hh (w.heap.size + 1) (by omega)).trans hl2
        have hend := run_endRound (P := Tryz.prog) (some .ret) hl3
        have hr3 := heap_set hr2 0 (.int .i64 6) rfl
        refine ⟨_, _, hend, .inr ⟨rfl, ⟨by simp [hbad], (hoth _ _ _ _ (by omega)).trans hr3, ?_, (hoth _ _ _ _ (by omega)).trans ((hh _ (by omega)).trans hd2), hkp _ _ _ _ (by omega) ((hk2.mono (by simp)).setCell (p := ⟨r, 0, none⟩) (fun _ => by simp) _)⟩⟩⟩
        rw [hput _ _ _ (lt_of_block hl3), hrec]; rfl
    · rintro e W2 ⟨⟨v, rfl⟩, ⟨h1, h2, h3, h4, h5⟩ | ⟨x, r1, r2, hx, h1, h2, h3, h4, h5⟩⟩
      · refine ⟨none, _, by have := run_endLoop (P := Tryz.prog) h3 (by rw [hrec]; simp); rw [hrec] at this; exact this, hdone _ _ (Nat.le_refl _) (by simpa using h1) (hkp _ _ _ _ (by omega) h5) ((hoth _ _ _ _ (by omega)).trans h4)⟩
      · refine ⟨some .ret, _, by have := run_endLoop (P := Tryz.prog) h3 (by rw [hrec]; simp); rw [hrec] at this; exact this, hstop _ _ (Nat.le_refl _) ?_ (hkp _ _ _ _ (by omega) h5) ((hoth _ _ _ _ (by omega)).trans h2) ((hoth _ _ _ _ (by omega)).trans h4)⟩
        rw [hx]
        simp only [List.nil_append, List.any_append, List.any_cons, List.any_nil, Bool.or_false] at h1 ⊢
        rcases Bool.or_eq_true_iff.1 h1 with h | h <;> simp [h]

set_option maxRecDepth 100000 in
set_option maxHeartbeats 4000000 in
theorem pathCheck (s : List UInt8) (w : World) :
    Calls Tryz.prog 59 #[.string (ba s)] w fun e w' => e = .returned (.int .i64 (checkP s)) ∧ Chg [] w w' := by
  by_cases hs : 65536 < s.length
  · have hz : (65536 : Int) < ((ba s).size : Int) := by rw [ba_size]; omega
    have hr : checkP s = 7 := by unfold checkP; rw [if_pos hs]
    have HR := Lib.hid hr
    have hm : ((ba s).size : Int) ≤ 9223372036854775807 ∨ True := .inr trivial
    clear hs hr hm
    generalize ba s = S at *
    go_enter Tryz.func59, Tryz.ntmps59
    go_wp2
    exact bodyPost_ret (v := .int .i64 7) (by simp [results, Tryz.results59, go_sem]) rfl ⟨by rw [HR.out], (Chg.refl [] w).alloc _⟩
  · refine (callsIn_wide (n := 5)).1 ?_
    have hz : ((ba s).size : Int) ≤ 65536 := by rw [ba_size]; omega
    refine callsIn_of_wp_marks Tryz.func59 rfl trivial ?_ rfl
    simp only [Tryz.ntmps59, List.size_toArray, List.length_cons, List.length_nil, Nat.reduceAdd, Nat.reduceSub, Array.replicate_succ, Array.replicate_zero, List.push_toArray, List.append_toArray, List.nil_append, List.cons_append]
    have h93 : ∀ k, Fence.wide.fn k := fun _ => trivial
    gi_wp2_with (gi_at_call 91; refine (callsIn_wide.2 (components (ba s) _)).mono ?_; rintro e w' ⟨rfl, rfl⟩)
    clear h93
    obtain ⟨W1, hW1⟩ : ∃ W1, (w.alloc (.cells #[.int .i64 0] 36)).alloc (.cells #[.string (ba s)] 9) = W1 := ⟨_, rfl⟩
    have hk1 : Chg [] w W1 := by rw [← hW1]; exact ((Chg.refl _ _).alloc _).alloc _
    have hz1 : W1.heap.size = w.heap.size + 2 := by rw [← hW1]; simp
    have hb1 : W1.heap[w.heap.size + 1]? = some (.cells #[.string (ba s)] 9 (0, 0)) := by rw [← hW1]; exact heap_new_at (by simp)
    have hr1 : W1.heap[w.heap.size]? = some (.cells #[.int .i64 0] 36 (0, 0)) := by rw [← hW1]; exact heap_keep (heap_alloc_new _ _)
    rw [hW1]
    refine range_comp (b := w.heap.size + 1) (r := w.heap.size) (p := s) rfl (by rw [ba_size] at hz; omega) hb1 hr1 (by omega)
      (fun x => { tmps := #[.string (ba s), undef, .pointer (some ⟨w.heap.size, 0, none⟩), .string (ba x), .string (ba s), .int .i64 (ba s).size, .bool (decide (65536 < ((ba s).size : Int))), .string (ba s), .func (.func 111) #[] #[.pointer (some ⟨w.heap.size + 1, 0, none⟩)], .string (ba x), undef, undef, undef, undef, undef, undef, undef, undef, undef, undef, undef, undef, undef, undef, undef], defers := [] }) ?assign ?body ?done ?stop
    case assign =>
      intro l x W K hK
      gi_wp2
      exact hK
    case body =>
      intro l x W hrW
      have h93 : ∀ k, (Fence.wide.inRound l).fn k := fun _ => trivial
      have hc : W.cell? ⟨w.heap.size, 0, none⟩ = some (.int .i64 0) := cell_heap hrW 0 rfl
      have hf : W.frozen? ⟨w.heap.size, 0, none⟩ = false := frozen_of_row _ _ _ _ _ hrW
      clear hrW
      have hix := Tryz.strings_IndexByte (ba x) 0 W
      rw [ba_data] at hix
      have HIX := Lib.hid hix
      have h1 := Lib.indexByte_ge x 0
      have hl : (ba x).toList = x := by rw [ByteArray.toList_eq]; exact ba_data x
      clear hix
      by_cases hx0 : x = []
      · subst hx0
        refine ⟨fun h => by simp [badC] at h, fun _ => ?_⟩
        gi_wp2
      by_cases hx1 : x = [46]
      · subst hx1
        refine ⟨fun h => by simp [badC] at h, fun _ => ?_⟩
        gi_wp2
      by_cases hx2 : x = [46, 46]
      · subst hx2
        refine ⟨fun h => by simp [badC] at h, fun _ => ?_⟩
        gi_wp2
      have t0 : ((ba x).toList == ([] : List UInt8)) = false := by rw [hl]; simpa using hx0
      have t1 : ((ba x).toList == ([46] : List UInt8)) = false := by rw [hl]; simpa using hx1
      have t2 : ((ba x).toList == ([46, 46] : List UInt8)) = false := by rw [hl]; simpa using hx2
      have u0 : (ba x).toList ≠ [] := by rw [hl]; exact hx0
      have u1 : (ba x).toList ≠ [46] := by rw [hl]; exact hx1
      have u2 : (ba x).toList ≠ [46, 46] := by rw [hl]; exact hx2
      have hbd : badC x = decide (0 ≤ Lib.indexByte x 0) := by simp [badC, hx0, hx1, hx2]
      have HBD := Lib.hid hbd
      clear hbd hl hx0 hx1 hx2
      rw [show (Int.toNat 0).toUInt8 = 0 from rfl] at HIX
      generalize Lib.indexByte x 0 = i at *
      generalize ba x = X at *
      by_cases hi : 0 ≤ i
      · refine ⟨fun h => by rw [HBD.out] at h; simp at h; omega, fun _ => ?_⟩
        clear HBD
        gi_wp2_with (gi_at_call 92; refine (CallsIn.inRound l (callsIn_wide.2 HIX.out)).mono ?_; rintro e w' ⟨rfl, rfl⟩)
      · refine ⟨fun _ => ?_, fun h => by rw [HBD.out] at h; simp at h; omega⟩
        clear HBD
        gi_wp2_with (gi_at_call 92; refine (CallsIn.inRound l (callsIn_wide.2 HIX.out)).mono ?_; rintro e w' ⟨rfl, rfl⟩)
    case done =>
      intro D W hD hall hk hK
      have hcr : checkP s = 0 := by unfold checkP; rw [if_neg hs, hall]; rfl
      have HCR := Lib.hid hcr
      have hrW := (hk.mono (T := [w.heap.size + 1]) (by simp)).heap hr1 (by simp)
      have hc : W.cell? ⟨w.heap.size, 0, none⟩ = some (.int .i64 0) := cell_heap hrW 0 rfl
      have hf : W.frozen? ⟨w.heap.size, 0, none⟩ = false := frozen_of_row _ _ _ _ _ hrW
      have HK := Lib.hid (And.intro hk (And.intro hK hrW))
      clear hk hK hrW hcr hall
      gi_wp2
      obtain ⟨hk, hK, hrW⟩ := HK.out
      have hK' := (Below.heap_setCell W ⟨w.heap.size, 0, none⟩ (.int .i64 0) D (by simp; omega)).trans hK
      refine ⟨by simp, .inl ⟨_, _, rfl, run_takeDeferred hK', ?_⟩⟩
      have hr5 := heap_set hrW 0 (.int .i64 0) rfl
      have hr6 := (World.putObj_heap_other (w := W.setCell ⟨w.heap.size, 0, none⟩ (.int .i64 0)) (o := .deferred none) (show w.heap.size ≠ D by omega)).trans hr5
      have hc5 := cell_heap hr6 0 rfl
      refine ⟨.int .i64 0, by simp [results, Tryz.f59, go_sem, hc5], by rw [HCR.out], ?_⟩
      have hkw : Chg [w.heap.size + 1, w.heap.size] w W := (hk1.mono (by simp)).trans' hk (fun x hx _ => hx) (fun x hx hl => by simp at hx; omega)
      have hk2 := hkw.setCell (p := ⟨w.heap.size, 0, none⟩) (fun _ => by simp) (.int .i64 0)
      exact ⟨hk2.os, hk2.tape, hk2.output, by simpa [World.putObj] using hk2.size, fun k hk _ => (World.putObj_heap_other (by omega)).trans (hk2.block k hk (by simp; omega))⟩
    case stop =>
      intro D W hD hany hk hrW hK
      have hcr : checkP s = 6 := by unfold checkP; rw [if_neg hs, hany]; rfl
      have HCR := Lib.hid hcr
      have HK := Lib.hid (And.intro hk (And.intro hK hrW))
      clear hk hK hrW hcr hany
      gi_wp2
      obtain ⟨hk, hK, hrW⟩ := HK.out
      refine ⟨by simp, .inl ⟨_, _, rfl, run_takeDeferred hK, ?_⟩⟩
      have hr6 := (World.putObj_heap_other (w := W) (o := .deferred none) (show w.heap.size ≠ D by omega)).trans hrW
      have hc5 := cell_heap hr6 0 rfl
      refine ⟨.int .i64 6, by simp [results, Tryz.f59, go_sem, hc5], by rw [HCR.out], ?_⟩
      have hk2 : Chg [w.heap.size + 1, w.heap.size] w W := (hk1.mono (by simp)).trans' hk (fun x hx _ => hx) (fun x hx hl => by simp at hx; omega)
      exact ⟨hk2.os, hk2.tape, hk2.output, by simpa [World.putObj] using hk2.size, fun k hk _ => (World.putObj_heap_other (by omega)).trans (hk2.block k hk (by simp; omega))⟩
end Go.Proofs.YtfhiioopimmahaaGreatDoor
