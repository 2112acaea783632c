/- Words on memory: what a call may change, what a slice reads as. They name no program. -/
import Derived.WalkKit
import Derived.WalkSpells
import Derived.WalkLawsBesides
import Derived.Laws.CopyOwn
import Derived.Laws.AppendOwnNone
import Derived.Deep.AppendLies
import Derived.Maps.AppendAt
import Derived.BigQuiet
import Derived.Deep.QuietTactic
import Derived.Deep.RegionHeld3
import Derived.Deep.DeepMust
import Derived.Deep.DeepCutAuto
import Derived.Deep.CutBlock
import Derived.Deep.LoopGhost
import Derived.Lib.Hide
import Derived.Lib.SliceRun
namespace Go.Pax
open Go.RowKit

/-- w' is w with new blocks, and with changes to the blocks of S alone. -/
structure Chg (S : List Nat) (w w' : World) : Prop where
  os : w'.os = w.os
  tape : w'.tape = w.tape
  output : w'.output = w.output
  size : w.heap.size ≤ w'.heap.size
  block : ∀ k, k < w.heap.size → k ∉ S → w'.heap[k]? = w.heap[k]?

theorem Chg.refl (S : List Nat) (w : World) : Chg S w w := ⟨rfl, rfl, rfl, Nat.le_refl _, fun _ _ _ => rfl⟩
theorem Chg.trans {S : List Nat} {a b c : World} (h : Chg S a b) (k : Chg S b c) : Chg S a c :=
  ⟨k.os.trans h.os, k.tape.trans h.tape, k.output.trans h.output, Nat.le_trans h.size k.size,
    fun i hi hS => (k.block i (Nat.lt_of_lt_of_le hi h.size) hS).trans (h.block i hi hS)⟩
theorem Chg.mono {S T : List Nat} {a b : World} (h : Chg S a b) (hT : ∀ k, k ∈ S → k < a.heap.size → k ∈ T) : Chg T a b :=
  ⟨h.os, h.tape, h.output, h.size, fun i hi hS => h.block i hi fun hm => hS (hT i hm hi)⟩
/-- Two steps: what the second changes counts only where the first world has it. -/
theorem Chg.trans' {S T U : List Nat} {a b c : World} (h : Chg S a b) (k : Chg T b c) (hS : ∀ k, k ∈ S → k < a.heap.size → k ∈ U) (hT : ∀ k, k ∈ T → k < a.heap.size → k ∈ U) : Chg U a c :=
  ⟨k.os.trans h.os, k.tape.trans h.tape, k.output.trans h.output, Nat.le_trans h.size k.size,
    fun i hi hU => (k.block i (Nat.lt_of_lt_of_le hi h.size) fun hm => hU (hT i hm hi)).trans (h.block i hi fun hm => hU (hS i hm hi))⟩
theorem Chg.drew {S : List Nat} {a w : World} (h : Chg S a w) : Chg S a w.drew := ⟨h.os, h.tape, h.output, h.size, h.block⟩
theorem Chg.drewN {S : List Nat} {a w : World} (h : Chg S a w) (n : Nat) : Chg S a (w.drewN n) := ⟨h.os, h.tape, h.output, h.size, h.block⟩
theorem Chg.alloc {S : List Nat} {a w : World} (h : Chg S a w) (o : Obj) : Chg S a (w.alloc o) :=
  h.trans ⟨rfl, rfl, rfl, by simp, fun k hk _ => Below.heap_alloc _ _ _ hk⟩
theorem Chg.setCell {S : List Nat} {a w : World} (h : Chg S a w) {p : Addr} (hp : p.block < a.heap.size → p.block ∈ S) (u : Value) : Chg S a (w.setCell p u) :=
  ⟨h.os, h.tape, h.output, Nat.le_trans h.size (by simp [World.setCell]), fun k hk hS => by
    rw [Below.heap_setCell _ _ _ _ (fun e => by subst e; exact hS (hp hk))]; exact h.block k hk hS⟩
theorem Chg.of_grown {w w' : World} {row : Option Nat} {S : List Nat} (hg : w.grownBy w' row) (h : ∀ k, row = some k → k < w.heap.size → k ∈ S) : Chg S w w' :=
  ⟨hg.os, hg.tape, hg.output, hg.size, fun k hk hS => hg.block k hk fun e => hS (h k e.symm hk)⟩
theorem Chg.grown {S : List Nat} {a w w' : World} {row : Option Nat} (h : Chg S a w) (hg : w.grownBy w' row) (hr : ∀ k, row = some k → k < a.heap.size → k ∈ S) : Chg S a w' :=
  ⟨hg.os.trans h.os, hg.tape.trans h.tape, hg.output.trans h.output, Nat.le_trans h.size hg.size,
    fun k hk hS => (hg.block k (Nat.lt_of_lt_of_le hk h.size) fun e => hS (hr k e.symm hk)).trans (h.block k hk hS)⟩
theorem Chg.below {S : List Nat} {B : Nat} {a w w' : World} (h : Below B a w) (k : Chg S w w') (hS : ∀ x, x ∈ S → B ≤ x) (hB : B ≤ w.heap.size) : Below B a w' :=
  h.trans ⟨k.os, k.tape, k.output, k.size, fun i hi => k.block i (by omega) fun hm => by have := hS i hm; omega⟩
theorem Chg.cell {S : List Nat} {w w' : World} (h : Chg S w w') {a : Addr} {v : Value} (hc : w.cell? a = some v) (hS : a.block ∉ S) : w'.cell? a = some v :=
  (World.cell?_of_block (h.block a.block (World.block_lt_of_cell? w a hc) hS)).trans hc
theorem Chg.heap {S : List Nat} {w w' : World} (h : Chg S w w') {k : Nat} {o : Obj} (hk : w.heap[k]? = some o) (hS : k ∉ S) : w'.heap[k]? = some o :=
  (h.block k (Array.getElem?_eq_some_iff.1 hk).1 hS).trans hk

theorem block_add (a : Addr) (j : Nat) : (a.add j).block = a.block := by unfold Addr.add; split <;> rfl
theorem add_add (a : Addr) (m n : Nat) : (a.add m).add n = a.add (m + n) := by
  by_cases hm : m = 0
  · simp [Addr.add, hm]
  by_cases hn : n = 0
  · simp [Addr.add, hn]
  · simp [Addr.add, hm, hn, Nat.add_assoc]

/-- 'Calls.quiet_of' behind an earlier quiet region. -/
theorem quiet_of2 {P : Program} {f : FuncId} {args : Array Value} {w : World} {n x : Nat} {v : Value}
    (h : Calls P f args (w.drewN (n + x)) fun e w' => e = .returned v ∧ ∃ m, w' = (w.drewN (n + x)).drewN m) : Calls P f args (w.drewN (n + x)) fun e w'' => e = .returned v ∧ ∃ k, w'' = w.drewN (n + k) :=
  h.mono fun _ _ ⟨he, m, hm⟩ => ⟨he, x + m, by rw [hm, World.drewN_drewN, Nat.add_assoc]⟩

theorem ret_int {k : IntKind} {a b : Int} (h : a = b) : Ending.returned (.int k a) = .returned (.int k b) := by rw [h]
/-- A block that is known whole, behind a store into it. -/
theorem heap_set {w : World} {p : Nat} {cs : Array Value} {t : TypeId} (h : w.heap[p]? = some (.cells cs t (0, 0))) (j : Nat) (v : Value) {cs' : Array Value} (hcs : cs.setIfInBounds j v = cs') :
    (w.setCell ⟨p, j, none⟩ v).heap[p]? = some (.cells cs' t (0, 0)) := by
  subst hcs
  simp [World.setCell, Array.getElem?_modify, h]

/-- Go's min and max of two, closed to the walk. -/
def imin (a b : Int) : Int := if b < a then b else a
def imax (a b : Int) : Int := if a < b then b else a
theorem imin_eq (a b : Int) : imin a b = if b < a then b else a := rfl
theorem imax_eq (a b : Int) : imax a b = if a < b then b else a := rfl
theorem imin_fold (a b : Int) (i : Decidable (b < a)) : @ite Int (b < a) i b a = imin a b := by unfold imin; split <;> rfl
theorem imax_fold (a b : Int) (i : Decidable (a < b)) : @ite Int (a < b) i b a = imax a b := by unfold imax; split <;> rfl

/-- At the address (if there is one) lie the cells xs, in blocks of fp. -/
def Rd (w : World) (fp : List Nat) (ao : Option Addr) (xs : List Value) : Prop :=
  ∀ j u, xs[j]? = some u → ∃ a, ao = some a ∧ a.block ∈ fp ∧ w.cell? (a.add j) = some u

theorem Rd.nil (w : World) (fp : List Nat) (ao : Option Addr) : Rd w fp ao [] := fun j u h => by simp at h
theorem Rd.kept {w w' : World} {fp : List Nat} {ao : Option Addr} {xs : List Value} (h : Rd w fp ao xs) (hk : ∀ k, k ∈ fp → k < w.heap.size → w'.heap[k]? = w.heap[k]?) : Rd w' fp ao xs := by
  intro j u hu
  obtain ⟨a, ha, hb, hc⟩ := h j u hu
  refine ⟨a, ha, hb, ?_⟩
  have hlt := World.block_lt_of_cell? w _ hc
  rw [block_add] at hlt
  rw [World.cell?_of_block (w := w) (by rw [block_add]; exact hk _ hb hlt), hc]
theorem Rd.chg {w w' : World} {S fp : List Nat} {ao : Option Addr} {xs : List Value} (h : Rd w fp ao xs) (hc : Chg S w w') (hd : ∀ k, k ∈ fp → k ∉ S) : Rd w' fp ao xs :=
  h.kept fun k hk hlt => hc.block k hlt (hd k hk)
theorem Rd.mono {w : World} {fp fp' : List Nat} {ao : Option Addr} {xs : List Value} (h : Rd w fp ao xs) (hf : ∀ k, k ∈ fp → k ∈ fp') : Rd w fp' ao xs := fun j u hu => by
  obtain ⟨a, ha, hb, hc⟩ := h j u hu
  exact ⟨a, ha, hf _ hb, hc⟩
theorem Rd.at {w : World} {fp : List Nat} {ad : Addr} {xs : List Value} (h : Rd w fp (some ad) xs) : ∀ j u, xs[j]? = some u → w.cell? (ad.add j) = some u := fun j u hu => by
  obtain ⟨a, ha, _, hc⟩ := h j u hu
  cases ha; exact hc
theorem Rd.take {w : World} {fp : List Nat} {ao : Option Addr} {xs : List Value} (h : Rd w fp ao xs) (n : Nat) : Rd w fp ao (xs.take n) := fun j u hu => by
  rw [List.getElem?_take] at hu
  split at hu
  · exact h j u hu
  · cases hu
/-- The address behind x[n:]. -/
def cutA (ao : Option Addr) (cap n : Nat) : Option Addr := if cap = n then ao else ao.map (·.add n)
theorem Rd.drop {w : World} {fp : List Nat} {ao : Option Addr} {xs : List Value} (h : Rd w fp ao xs) (n cap : Nat) (hcap : xs.length ≤ cap) : Rd w fp (cutA ao cap n) (xs.drop n) := fun j u hu => by
  rw [List.getElem?_drop] at hu
  obtain ⟨a, rfl, hb, hc⟩ := h (n + j) u hu
  have hlt : n + j < xs.length := (List.getElem?_eq_some_iff.1 hu).1
  refine ⟨a.add n, ?_, by rw [block_add]; exact hb, by rw [add_add]; exact hc⟩
  unfold cutA
  rw [if_neg (by omega)]; rfl
theorem Rd.of_own {w : World} {base : Nat} {e : TypeId} {g n cap : Nat} {xs : List Value} (h : w.ownsRow base e 1 (.slice (some ⟨g, 0, none⟩) n cap) n xs) : Rd w [g] (some ⟨g, 0, none⟩) xs :=
  fun j u hu => ⟨_, rfl, by simp, h.cells (g := g) rfl j u hu⟩

/-- What a value owns it reads, in blocks from base on. -/
theorem own_rd {w : World} {base : Nat} {e : TypeId} {ao : Option Addr} {n cap : Nat} {xs : List Value} (h : w.ownsRow base e 1 (.slice ao n cap) n xs) :
    ∃ fp, Rd w fp ao xs ∧ (∀ k ∈ fp, base ≤ k ∧ k < w.heap.size) ∧ n ≤ cap := by
  rcases h.2 with ⟨hv, h0⟩ | ⟨g, cap', cur, hv, hb, hg, hn, _⟩
  · have hx : xs = [] := List.eq_nil_of_length_eq_zero (by rw [h.1, h0])
    subst hx
    exact ⟨[], Rd.nil _ _ _, by simp, by simp at hv; omega⟩
  · have hvv := hv
    simp only [Value.slice.injEq] at hv
    obtain ⟨rfl, _, rfl⟩ := hv
    exact ⟨[g], Rd.of_own h, fun k hk => by
      simp at hk; subst hk
      exact ⟨hb, (Array.getElem?_eq_some_iff.1 hg).1⟩, hn⟩
theorem own_rd2 {w : World} {base : Nat} {e : TypeId} {ao : Option Addr} {n cap : Nat} {xs : List Value} (h : w.ownsRow base e 1 (.slice ao n cap) n xs) :
    Rd w (Value.slice ao n cap).ownBlock.toList ao xs ∧ (∀ k ∈ (Value.slice ao n cap).ownBlock.toList, base ≤ k ∧ k < w.heap.size) ∧ n ≤ cap := by
  rcases h.2 with ⟨hv, h0⟩ | ⟨g, cap', cur, hv, hb, hg, hn, _⟩
  · have hx : xs = [] := List.eq_nil_of_length_eq_zero (by rw [h.1, h0])
    subst hx
    simp only [Value.slice.injEq] at hv
    obtain ⟨rfl, rfl, rfl⟩ := hv
    exact ⟨Rd.nil _ _ _, by simp [Value.ownBlock], Nat.le_refl _⟩
  · simp only [Value.slice.injEq] at hv
    obtain ⟨rfl, _, rfl⟩ := hv
    exact ⟨Rd.of_own h, fun k hk => by
      simp [Value.ownBlock] at hk; subst hk
      exact ⟨hb, (Array.getElem?_eq_some_iff.1 hg).1⟩, hn⟩
theorem own_shape {w : World} {base : Nat} {e : TypeId} {v : Value} {n : Nat} {xs : List Value} (h : w.ownsRow base e 1 v n xs) : ∃ ao cap, v = .slice ao n cap := by
  rcases h.2 with ⟨hv, h0⟩ | ⟨g, cap', cur, hv, _⟩
  · subst h0; exact ⟨none, 0, hv⟩
  · exact ⟨_, _, hv⟩

theorem own_chg {w w' : World} {S : List Nat} {base : Nat} {e : TypeId} {v : Value} {n : Nat} {xs : List Value} (h : w.ownsRow base e 1 v n xs) (k : Chg S w w') (hd : ∀ g, base ≤ g → g ∉ S) : w'.ownsRow base e 1 v n xs := by
  refine ⟨h.1, ?_⟩
  rcases h.2 with hn | ⟨g, cap, cur, hv, hb, hg, rest⟩
  · exact .inl hn
  · exact .inr ⟨g, cap, cur, hv, hb, k.heap hg (hd g hb), rest⟩

/-- Bytes and ints as cells. -/
def bv (l : List UInt8) : List Value := l.map fun b => .int .u8 b.toNat
def iv (l : List Int) : List Value := l.map (Value.int .i64)
theorem bv_length (l : List UInt8) : (bv l).length = l.length := by simp [bv]
theorem iv_length (l : List Int) : (iv l).length = l.length := by simp [iv]
theorem bv_take (l : List UInt8) (n : Nat) : (bv l).take n = bv (l.take n) := by simp [bv, List.map_take]
theorem bv_drop (l : List UInt8) (n : Nat) : (bv l).drop n = bv (l.drop n) := by simp [bv, List.map_drop]
theorem bv_append (l m : List UInt8) : bv (l ++ m) = bv l ++ bv m := by simp [bv]
theorem bv_one (l : List UInt8) : ∀ u ∈ bv l, u.oneCell' = true := by
  intro u hu; obtain ⟨_, _, rfl⟩ := List.mem_map.1 hu; rfl
theorem iv_one (l : List Int) : ∀ u ∈ iv l, u.oneCell' = true := by
  intro u hu; obtain ⟨_, _, rfl⟩ := List.mem_map.1 hu; rfl
theorem bv_get (l : List UInt8) (j : Nat) (h : j < l.length) : (bv l)[j]? = some (.int .u8 (l[j].toNat)) := by simp [bv, h]
theorem iv_get (l : List Int) (j : Nat) (h : j < l.length) : (iv l)[j]? = some (.int .i64 l[j]) := by simp [iv, h]


/-! append onto what the call owns, from a slice that reads as 'news' (nil and empty too); elements of one cell. -/
section
variable {P : Program}
theorem run_append_zero (w : World) (base : Nat) (t ty e : TypeId) (i : TypeInfo) (size : Nat) (ht : P.underlying t = some (.slice e)) (hi : P.info? e = some i)
    (v : Value) (n : Nat) (xs : List Value) (hown : w.ownsRow base e size v n xs) (ao : Option Addr) (c : Nat) :
    (Builtin.append_ #[t, t] ty #[v, .slice ao 0 c]).run P w = .ok v w := by
  rcases hown.2 with ⟨rfl, rfl⟩ | ⟨g, cap, cur, rfl, _, _, hnc, _⟩
  · cases ao <;> simp [Builtin.append_, run_underlying ht, sizeOf, typeInfo, hi, Builtin.lenOf, Builtin.firstCells, loadCells, loadCellsFrom]
  · cases ao <;> simp [Builtin.append_, run_underlying ht, sizeOf, typeInfo, hi, Builtin.lenOf, Builtin.firstCells, hnc, storeCells, loadCells, loadCellsFrom]

theorem run_append_rd (w : World) (base : Nat) (t ty e : TypeId) (i : TypeInfo) (z : Value) (bytes : Nat) (ht : P.underlying t = some (.slice e)) (hi : P.info? e = some i) (hz : i.zero = some z)
    (hsize : i.size = 1) (hby : i.bytes = bytes) (hzs : z.cells.size = 1)
    (v : Value) (n : Nat) (xs : List Value) (hown : w.ownsRow base e 1 v n xs)
    (ao : Option Addr) (m c : Nat) (fp : List Nat) (news : List Value) (hl : news.length = m) (hrd : Rd w fp ao news) (h1 : ∀ u ∈ news, u.oneCell' = true)
    (hbytes : (n + m) * bytes ≤ 140737488355328) (h63 : n + m ≤ maxLen) (hbase : base ≤ w.heap.size) :
    ∃ a' c' w', (Builtin.append_ #[t, t] ty #[v, .slice ao m c]).run P w = .ok (.slice a' (n + m) c') w' ∧ w'.ownsRow base e 1 (.slice a' (n + m) c') (n + m) (xs ++ news) ∧ w.grownBy w' v.ownBlock ∧
      ((Value.slice a' (n + m) c').ownBlock = v.ownBlock ∨ (Value.slice a' (n + m) c').ownBlock = some w.heap.size) := by
  cases news with
  | nil =>
    simp only [List.length_nil] at hl
    subst hl
    obtain ⟨a', c', rfl⟩ := own_shape hown
    exact ⟨a', c', w, run_append_zero w base t ty e i 1 ht hi _ n xs hown ao c, by simpa using hown, World.grownBy.refl _ _, .inl rfl⟩
  | cons x l =>
    obtain ⟨ad, rfl, _, _⟩ := hrd 0 x rfl
    obtain ⟨v', w', hr, h2, h3, _, h5⟩ := run_append_own_at (P := P) w base t ty e i z 1 bytes ht hi hz hsize hby hzs (by omega) v n xs hown ad m c (x :: l) (by rw [hl, Nat.mul_one]) hrd.at h1 h63 hbytes hbase
    obtain ⟨a', c', rfl⟩ := own_shape h2
    exact ⟨a', c', w', hr, h2, h3, h5⟩

theorem wp_append_rd {w : World} {o : Oper} {a : Act} {K : Act → World → Prop} {Q : Exit → Act → World → Prop} (s x : Operand) (t : TypeId)
    (ho : o.op = .call { callee := .builtin .append, args := #[s, x], argTypes := #[t, t] })
    (base : Nat) (e : TypeId) (i : TypeInfo) (z : Value) (bytes : Nat) (ht : P.underlying t = some (.slice e)) (hi : P.info? e = some i) (hz : i.zero = some z)
    (hsize : i.size = 1) (hby : i.bytes = bytes) (hzs : z.cells.size = 1)
    (v : Value) (n : Nat) (xs : List Value) (hs : a.eval s = v) (hown : w.ownsRow base e 1 v n xs)
    (ao : Option Addr) (m c : Nat) (fp : List Nat) (news : List Value) (hx : a.eval x = .slice ao m c) (hl : news.length = m) (hrd : Rd w fp ao news) (h1 : ∀ u ∈ news, u.oneCell' = true)
    (hbytes : (n + m) * bytes ≤ 140737488355328) (h63 : n + m ≤ maxLen) (hbase : base ≤ w.heap.size)
    (h : ∀ a' c' w', w'.ownsRow base e 1 (.slice a' (n + m) c') (n + m) (xs ++ news) → w.grownBy w' v.ownBlock → ((Value.slice a' (n + m) c').ownBlock = v.ownBlock ∨ (Value.slice a' (n + m) c').ownBlock = some w.heap.size) → K (a.put o.dst (.slice a' (n + m) c')) w') : o.wp P a w K Q := by
  obtain ⟨a', c', w', hr, h2, h3, h4⟩ := run_append_rd (P := P) w base t o.type e i z bytes ht hi hz hsize hby hzs v n xs hown ao m c fp news hl hrd h1 hbytes h63 hbase
  unfold Oper.wp execOp
  simp only [ho, resolve, invoke, builtin, Sem.run_bind, Sem.run_pure, Result.andThen_ok, List.map_toArray, List.map_cons, List.map_nil, hs, hx, hr]
  exact h a' c' w' h2 h3 h4

theorem wpList_append_rd {w : World} {ops : Array Oper} {rest : List Oper} {o : Oper} {a : Act} {Q : Exit → Act → World → Prop} (hgd : o.guard = none) (s x : Operand) (t : TypeId)
    (ho : o.op = .call { callee := .builtin .append, args := #[s, x], argTypes := #[t, t] })
    (base : Nat) (e : TypeId) (i : TypeInfo) (z : Value) (bytes : Nat) (ht : P.underlying t = some (.slice e)) (hi : P.info? e = some i) (hz : i.zero = some z)
    (hsize : i.size = 1) (hby : i.bytes = bytes) (hzs : z.cells.size = 1)
    (v : Value) (n : Nat) (xs : List Value) (hs : a.eval s = v) (hown : w.ownsRow base e 1 v n xs)
    (ao : Option Addr) (m c : Nat) (fp : List Nat) (news : List Value) (hx : a.eval x = .slice ao m c) (hl : news.length = m) (hrd : Rd w fp ao news) (h1 : ∀ u ∈ news, u.oneCell' = true)
    (hbytes : (n + m) * bytes ≤ 140737488355328) (h63 : n + m ≤ maxLen) (hbase : base ≤ w.heap.size)
    (h : ∀ a' c' w', w'.ownsRow base e 1 (.slice a' (n + m) c') (n + m) (xs ++ news) → w.grownBy w' v.ownBlock → ((Value.slice a' (n + m) c').ownBlock = v.ownBlock ∨ (Value.slice a' (n + m) c').ownBlock = some w.heap.size) → wpList P ops Q rest (a.put o.dst (.slice a' (n + m) c')) w') : wpList P ops Q (o :: rest) a w :=
  wpList_plain hgd fun _ hK => wp_append_rd s x t ho base e i z bytes ht hi hz hsize hby hzs v n xs hs hown ao m c fp news hx hl hrd h1 hbytes h63 hbase fun a' c' w' h2 h3 h4 => hK _ _ (h a' c' w' h2 h3 h4)

theorem step_append_rd {w : World} {ops : Array Oper} {o : Oper} {a : Act} {K : Act → World → Prop} {Q : Exit → Act → World → Prop} {E : Prop} (hgd : o.guard = none) (s x : Operand) (t : TypeId)
    (ho : o.op = .call { callee := .builtin .append, args := #[s, x], argTypes := #[t, t] })
    (base : Nat) (e : TypeId) (i : TypeInfo) (z : Value) (bytes : Nat) (ht : P.underlying t = some (.slice e)) (hi : P.info? e = some i) (hz : i.zero = some z)
    (hsize : i.size = 1) (hby : i.bytes = bytes) (hzs : z.cells.size = 1)
    (v : Value) (n : Nat) (xs : List Value) (hs : a.eval s = v) (hown : w.ownsRow base e 1 v n xs)
    (ao : Option Addr) (m c : Nat) (fp : List Nat) (news : List Value) (hx : a.eval x = .slice ao m c) (hl : news.length = m) (hrd : Rd w fp ao news) (h1 : ∀ u ∈ news, u.oneCell' = true)
    (hbytes : (n + m) * bytes ≤ 140737488355328) (h63 : n + m ≤ maxLen) (hbase : base ≤ w.heap.size)
    (h : ∀ a' c' w', w'.ownsRow base e 1 (.slice a' (n + m) c') (n + m) (xs ++ news) → w.grownBy w' v.ownBlock → ((Value.slice a' (n + m) c').ownBlock = v.ownBlock ∨ (Value.slice a' (n + m) c').ownBlock = some w.heap.size) → K (a.put o.dst (.slice a' (n + m) c')) w') :
    if Region.wanted o (yielded ops a.tmps) = true then Oper.wp P o a w K Q else E := by
  have hw : Region.wanted o (yielded ops a.tmps) = true := by simp [Region.wanted, hgd]
  rw [if_pos hw]
  exact wp_append_rd s x t ho base e i z bytes ht hi hz hsize hby hzs v n xs hs hown ao m c fp news hx hl hrd h1 hbytes h63 hbase h
end
theorem heap_keep {w : World} {o o' : Obj} {g : Nat} (h : w.heap[g]? = some o') : (w.alloc o).heap[g]? = some o' := by
  rw [heap_alloc_old _ _ (Array.getElem?_eq_some_iff.1 h).1]; exact h
theorem heap_new_at {w : World} {o : Obj} {g : Nat} (h : g = w.heap.size) : (w.alloc o).heap[g]? = some o := by subst h; exact heap_alloc_new _ _
theorem grown_heap {w w' : World} {row : Option Nat} {o : Obj} {g : Nat} (hg : w.grownBy w' row) (h : w.heap[g]? = some o) (hr : some g ≠ row) : w'.heap[g]? = some o :=
  (hg.block g (Array.getElem?_eq_some_iff.1 h).1 hr).trans h
/-- A new, empty row. -/
theorem own_empty {w : World} {e : TypeId} {g : Nat} {base : Nat} (h : w.heap[g]? = some (.cells #[] e (0, 0))) (hb : base ≤ g) : w.ownsRow base e 1 (.slice (some ⟨g, 0, none⟩) 0 0) 0 [] :=
  ⟨by simp, .inr ⟨g, 0, #[], rfl, hb, h, Nat.le_refl _, Nat.zero_le _, by simp, by simp⟩⟩

theorem cell_heap {w : World} {p : Nat} {cs : Array Value} {t : TypeId} (h : w.heap[p]? = some (.cells cs t (0, 0))) (j : Nat) {v : Value} (hv : cs[j]? = some v) : w.cell? ⟨p, j, none⟩ = some v := by
  simp [World.cell?, h, hv]
theorem lt_of_block {w : World} {p : Nat} {o : Obj} (h : w.heap[p]? = some o) : p < w.heap.size := (Array.getElem?_eq_some_iff.1 h).1

end Go.Pax
