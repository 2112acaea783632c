/- A file system in memory: what it holds, and what a change of one part leaves of the others. -/
import Derived.Test.YtoionaeimnmcbaaGreatDoorVIns
import Derived.Test.YtoionaeimnmcbaaGreatDoorVMap
import Derived.Test.YtoionaeimnmcbaaGreatDoorVClone
namespace Go.Pax
open Go.RowKit
abbrev Str := List UInt8
structure Nd where
  kind : Int
  mode : Int
  ino : Int
  links : Int
  size : Int
  target : Str
  uid : Int
  mtime : Int
  data : List UInt8
  names : List Str
structure Fs where
  next : Int
  step : Int
  rot : List Int
  lists : Int
  files : List (Str × Nat)
  node : Nat → Nd
def mapE (l : List (Str × Nat)) : List (ByteArray × Nat) := l.map fun x => (ba x.1, x.2)
/-- The block of a path. -/
def lkF : List (Str × Nat) → Str → Option Nat
  | [], _ => none
  | x :: l, k => if k = x.1 then some x.2 else lkF l k
theorem lk_mapE (l : List (Str × Nat)) (k : Str) : lk (mapE l) (ba k) = lkF l k := by
  induction l with
  | nil => rfl
  | cons x l ih =>
    simp only [mapE, List.map_cons, lk, lkF]
    by_cases h : k = x.1
    · rw [if_pos h, if_pos (by rw [h])]
    · rw [if_neg h, if_neg (fun e => h (ba_inj e))]; exact ih
theorem lkF_mem {l : List (Str × Nat)} {k : Str} {b : Nat} (h : lkF l k = some b) : (k, b) ∈ l := by
  induction l with
  | nil => simp [lkF] at h
  | cons x l ih =>
    simp only [lkF] at h
    split at h
    · rename_i e; subst e; injection h with h; subst h; simp
    · exact List.mem_cons_of_mem _ (ih h)
theorem lkF_append (l m : List (Str × Nat)) (k : Str) : lkF (l ++ m) k = (lkF l k).or (lkF m k) := by
  induction l with
  | nil => simp [lkF]
  | cons x l ih => simp only [List.cons_append, lkF]; split <;> simp [ih]

/-- A row of cells in a block of its own, or nothing. -/
def Row (w : World) (e : TypeId) (v : Value) (xs : List Value) : Prop := w.ownsRow 0 e 1 v xs.length xs
theorem own_keep {w w' : World} {S : List Nat} {base : Nat} {e : TypeId} {v : Value} {n : Nat} {xs : List Value} (h : w.ownsRow base e 1 v n xs) (k : Chg S w w') (hd : ∀ g ∈ v.ownBlock.toList, g ∉ S) : w'.ownsRow base e 1 v n xs := by
  refine ⟨h.1, ?_⟩
  rcases h.2 with hn | ⟨g, cap, cur, hv, hb, hg, rest⟩
  · exact .inl hn
  · exact .inr ⟨g, cap, cur, hv, hb, k.heap hg (hd g (by subst hv; simp [Value.ownBlock])), rest⟩
theorem Row.keep {w w' : World} {S : List Nat} {e : TypeId} {v : Value} {xs : List Value} (h : Row w e v xs) (k : Chg S w w') (hd : ∀ g, v.ownBlock = some g → g ∉ S) : Row w' e v xs :=
  own_keep h k fun g hg => hd g (by simpa using hg)
theorem own_zero {w : World} {base : Nat} {e : TypeId} {v : Value} {n : Nat} {xs : List Value} (h : w.ownsRow base e 1 v n xs) (hn : xs.length = n) : Row w e v xs := by
  subst hn
  refine ⟨h.1, ?_⟩
  rcases h.2 with hn | ⟨g, cap, cur, hv, hb, rest⟩
  · exact .inl hn
  · exact .inr ⟨g, cap, cur, hv, Nat.zero_le _, rest⟩
theorem Row.block {w : World} {e : TypeId} {v : Value} {xs : List Value} (h : Row w e v xs) {g : Nat} (hg : v.ownBlock = some g) : ∃ c, w.heap[g]? = some (.cells c e (0, 0)) := by
  rcases h.2 with ⟨rfl, _⟩ | ⟨g', cap, cur, rfl, _, hh, _⟩
  · simp [Value.ownBlock] at hg
  · simp [Value.ownBlock] at hg; subst hg; exact ⟨cur, hh⟩
theorem Row.shape {w : World} {e : TypeId} {v : Value} {xs : List Value} (h : Row w e v xs) : ∃ ao c, v = .slice ao xs.length c := own_shape h
theorem Row.rd {w : World} {e : TypeId} {ao : Option Addr} {n c : Nat} {xs : List Value} (h : Row w e (.slice ao n c) xs) : n = xs.length ∧ Rd w (Value.slice ao n c).ownBlock.toList ao xs ∧ n ≤ c := by
  obtain ⟨a', c', he⟩ := h.shape
  have hn : n = xs.length := by simp at he; exact he.2.1
  subst hn
  have := own_rd2 h
  exact ⟨rfl, this.1, this.2.2⟩
theorem ne_of_types {w : World} {g g' : Nat} {c c' : Array Value} {t t' : TypeId} {r r' : Nat × Nat} (h : w.heap[g]? = some (.cells c t r)) (h' : w.heap[g']? = some (.cells c' t' r')) (hn : t ≠ t') : g ≠ g' := by
  rintro rfl
  rw [h] at h'
  injection h' with h'
  injection h' with _ h2 _
  exact hn h2
theorem ne_of_map {w : World} {g g' : Nat} {c : Array Value} {t : TypeId} {r : Nat × Nat} {es : Array MapEntry} {k : Nat} (h : w.heap[g]? = some (.cells c t r)) (h' : w.heap[g']? = some (.map es k)) : g ≠ g' := by
  rintro rfl
  rw [h] at h'
  cases h'
def svn (l : List Str) : List Value := sv (l.map ba)
theorem svn_length (l : List Str) : (svn l).length = l.length := by simp [svn, sv]
theorem svn_ins (l : List Str) (i : Nat) (x : Str) : svn (insAt l i x) = sv (insAt (l.map ba) i (ba x)) := by simp [svn, insAt, List.map_take, List.map_drop]
end Go.Pax
namespace Go.Proofs.YtoionaeimnmcbaaGreatDoor
open Go.RowKit Go.Pax Go.Shelf
def nodeCells (nd : Nd) (dv nv : Value) : Array Value :=
  #[.int .i64 nd.kind, .int .i64 nd.mode, .int .i64 nd.ino, .int .i64 nd.links, .int .i64 nd.size, .string (ba nd.target), .int .i64 nd.uid, .int .i64 nd.mtime, dv, nv]
structure NodeAt (w : World) (O : List Nat) (b : Nat) (nd : Nd) (dv nv : Value) : Prop where
  blk : w.heap[b]? = some (.cells (nodeCells nd dv nv) 91 (0, 0))
  data : Row w 5 dv (bv nd.data)
  names : Row w 9 nv (svn nd.names)
  own : b ∈ O ∧ (∀ g, dv.ownBlock = some g → g ∈ O) ∧ (∀ g, nv.ownBlock = some g → g ∈ O)
theorem NodeAt.cells {w : World} {O : List Nat} {b : Nat} {nd : Nd} {dv nv : Value} (h : NodeAt w O b nd dv nv) :
    w.cell? ⟨b, 0, none⟩ = some (.int .i64 nd.kind) ∧ w.cell? ⟨b, 1, none⟩ = some (.int .i64 nd.mode) ∧ w.cell? ⟨b, 2, none⟩ = some (.int .i64 nd.ino) ∧ w.cell? ⟨b, 3, none⟩ = some (.int .i64 nd.links) ∧ w.cell? ⟨b, 4, none⟩ = some (.int .i64 nd.size) ∧ w.cell? ⟨b, 5, none⟩ = some (.string (ba nd.target)) ∧ w.cell? ⟨b, 6, none⟩ = some (.int .i64 nd.uid) ∧ w.cell? ⟨b, 7, none⟩ = some (.int .i64 nd.mtime) ∧ w.cell? ⟨b, 8, none⟩ = some dv ∧ w.cell? ⟨b, 9, none⟩ = some nv :=
  ⟨cell_heap h.blk 0 rfl, cell_heap h.blk 1 rfl, cell_heap h.blk 2 rfl, cell_heap h.blk 3 rfl, cell_heap h.blk 4 rfl, cell_heap h.blk 5 rfl, cell_heap h.blk 6 rfl, cell_heap h.blk 7 rfl, cell_heap h.blk 8 rfl, cell_heap h.blk 9 rfl⟩
theorem NodeAt.keep {w w' : World} {O S : List Nat} {b : Nat} {nd : Nd} {dv nv : Value} (h : NodeAt w O b nd dv nv) (k : Chg S w w') (hb : b ∉ S) (hd : ∀ g, dv.ownBlock = some g → g ∉ S) (hn : ∀ g, nv.ownBlock = some g → g ∉ S) : NodeAt w' O b nd dv nv :=
  ⟨k.heap h.blk hb, h.data.keep k hd, h.names.keep k hn, h.own⟩
theorem NodeAt.mono {w : World} {O O' : List Nat} {b : Nat} {nd : Nd} {dv nv : Value} (h : NodeAt w O b nd dv nv) (hO : ∀ g ∈ O, g ∈ O') : NodeAt w O' b nd dv nv :=
  ⟨h.blk, h.data, h.names, hO _ h.own.1, fun g hg => hO _ (h.own.2.1 g hg), fun g hg => hO _ (h.own.2.2 g hg)⟩
/-- The file system at f, all of it in blocks of O. -/
structure FsIn (w : World) (f : Nat) (O : List Nat) (σ : Fs) (m : Nat) (rv : Value) (dv nv : Nat → Value) : Prop where
  blk : w.heap[f]? = some (.cells #[.int .i64 σ.next, .int .i64 σ.step, rv, .int .i64 σ.lists, .map (some m)] 68 (0, 0))
  rot : Row w 3 rv (iv σ.rot)
  mp : MapAt w m (mapE σ.files)
  nodes : ∀ p b, (p, b) ∈ σ.files → NodeAt w O b (σ.node b) (dv b) (nv b)
  own : f ∈ O ∧ m ∈ O ∧ ∀ g, rv.ownBlock = some g → g ∈ O
  lt : ∀ g ∈ O, g < w.heap.size
  apart : ∀ p b p' b', (p, b) ∈ σ.files → (p', b') ∈ σ.files → b ≠ b' → ∀ g, (nv b).ownBlock = some g → (nv b').ownBlock ≠ some g
theorem FsIn.cells {w : World} {f : Nat} {O : List Nat} {σ : Fs} {m : Nat} {rv : Value} {dv nv : Nat → Value} (h : FsIn w f O σ m rv dv nv) :
    w.cell? ⟨f, 0, none⟩ = some (.int .i64 σ.next) ∧ w.cell? ⟨f, 1, none⟩ = some (.int .i64 σ.step) ∧ w.cell? ⟨f, 2, none⟩ = some rv ∧ w.cell? ⟨f, 3, none⟩ = some (.int .i64 σ.lists) ∧ w.cell? ⟨f, 4, none⟩ = some (.map (some m)) :=
  ⟨cell_heap h.blk 0 rfl, cell_heap h.blk 1 rfl, cell_heap h.blk 2 rfl, cell_heap h.blk 3 rfl, cell_heap h.blk 4 rfl⟩
def FsAt (w : World) (f : Nat) (O : List Nat) (σ : Fs) : Prop := ∃ m rv dv nv, FsIn w f O σ m rv dv nv
theorem FsIn.foreign {w w' : World} {f : Nat} {O S : List Nat} {σ : Fs} {m : Nat} {rv : Value} {dv nv : Nat → Value} (h : FsIn w f O σ m rv dv nv) (k : Chg S w w') (hS : ∀ g ∈ O, g ∉ S) : FsIn w' f O σ m rv dv nv :=
  ⟨k.heap h.blk (hS _ h.own.1), h.rot.keep k (fun g hg => hS _ (h.own.2.2 g hg)), h.mp.chg k (hS _ h.own.2.1),
    fun p b hb => (h.nodes p b hb).keep k (hS _ (h.nodes p b hb).own.1) (fun g hg => hS _ ((h.nodes p b hb).own.2.1 g hg)) (fun g hg => hS _ ((h.nodes p b hb).own.2.2 g hg)),
    h.own, fun g hg => Nat.lt_of_lt_of_le (h.lt g hg) k.size, h.apart⟩
theorem FsAt.foreign {w w' : World} {f : Nat} {O S : List Nat} {σ : Fs} (h : FsAt w f O σ) (k : Chg S w w') (hS : ∀ g ∈ O, g ∉ S) : FsAt w' f O σ := by
  obtain ⟨m, rv, dv, nv, h⟩ := h
  exact ⟨m, rv, dv, nv, h.foreign k hS⟩
theorem FsAt.lt {w : World} {f : Nat} {O : List Nat} {σ : Fs} (h : FsAt w f O σ) : ∀ g ∈ O, g < w.heap.size := by
  obtain ⟨m, rv, dv, nv, h⟩ := h
  exact h.lt
theorem FsAt.mem {w : World} {f : Nat} {O : List Nat} {σ : Fs} (h : FsAt w f O σ) : f ∈ O := by
  obtain ⟨m, rv, dv, nv, h⟩ := h
  exact h.own.1
/-- Only the struct at f has changed, in its numbers. -/
theorem FsIn.setF {w w' : World} {f : Nat} {O : List Nat} {σ : Fs} {m : Nat} {rv : Value} {dv nv : Nat → Value} (h : FsIn w f O σ m rv dv nv) (k : Chg [f] w w') (next lists : Int)
    (hb : w'.heap[f]? = some (.cells #[.int .i64 next, .int .i64 σ.step, rv, .int .i64 lists, .map (some m)] 68 (0, 0))) : FsIn w' f O { σ with next := next, lists := lists } m rv dv nv := by
  have hrow : ∀ {e : TypeId} {v : Value} {xs : List Value}, Row w e v xs → e ≠ 68 → ∀ g, v.ownBlock = some g → g ∉ [f] := fun hr hne g hg => by
    obtain ⟨c, hc⟩ := hr.block hg
    simpa using ne_of_types hc h.blk hne
  have hm : m ∉ [f] := by
    obtain ⟨es, c, h1, _⟩ := h.mp
    simpa using Ne.symm (ne_of_map h.blk h1)
  refine ⟨hb, h.rot.keep k (hrow h.rot (by decide)), h.mp.chg k hm, fun p b hb => ?_, h.own, fun g hg => Nat.lt_of_lt_of_le (h.lt g hg) k.size, h.apart⟩
  have hn := h.nodes p b hb
  exact hn.keep k (by simpa using ne_of_types hn.blk h.blk (by decide)) (hrow hn.data (by decide)) (hrow hn.names (by decide))
/-- Only the inode at b has changed, in its numbers. -/
theorem FsIn.setN {w w' : World} {f : Nat} {O : List Nat} {σ : Fs} {m : Nat} {rv : Value} {dv nv : Nat → Value} (h : FsIn w f O σ m rv dv nv) {p : Str} {b : Nat} (hpb : (p, b) ∈ σ.files) (k : Chg [b] w w') (nd : Nd) (hd : nd.data = (σ.node b).data) (hn : nd.names = (σ.node b).names)
    (hb : w'.heap[b]? = some (.cells (nodeCells nd (dv b) (nv b)) 91 (0, 0))) : FsIn w' f O { σ with node := fun i => if i = b then nd else σ.node i } m rv dv nv := by
  have hbb := (h.nodes p b hpb).blk
  have hrow : ∀ {e : TypeId} {v : Value} {xs : List Value}, Row w e v xs → e ≠ 91 → ∀ g, v.ownBlock = some g → g ∉ [b] := fun hr hne g hg => by
    obtain ⟨c, hc⟩ := hr.block hg
    simpa using ne_of_types hc hbb hne
  have hm : m ∉ [b] := by
    obtain ⟨es, c, h1, _⟩ := h.mp
    simpa using Ne.symm (ne_of_map hbb h1)
  refine ⟨k.heap h.blk (by simpa using ne_of_types h.blk hbb (by decide)), h.rot.keep k (hrow h.rot (by decide)), h.mp.chg k hm, fun p' b' hb' => ?_, h.own, fun g hg => Nat.lt_of_lt_of_le (h.lt g hg) k.size, h.apart⟩
  have hn' := h.nodes p' b' hb'
  by_cases he : b' = b
  · subst he
    simp only [if_true]
    exact ⟨hb, by rw [hd]; exact hn'.data.keep k (hrow hn'.data (by decide)), by rw [hn]; exact hn'.names.keep k (hrow hn'.names (by decide)), hn'.own⟩
  · simp only [if_neg he]
    exact hn'.keep k (by simpa using he) (hrow hn'.data (by decide)) (hrow hn'.names (by decide))
/-- From w to w' the file system has come to σ, and changed nothing but itself. -/
def FsTo (w w' : World) (f : Nat) (O : List Nat) (σ : Fs) : Prop := ∃ O', (FsAt w' f O' σ ∧ ∀ g ∈ O', g ∈ O ∨ w.heap.size ≤ g) ∧ Chg O w w'
theorem FsTo.same {w w' : World} {f : Nat} {O : List Nat} {σ : Fs} (h : FsAt w f O σ) (k : Chg [] w w') : FsTo w w' f O σ :=
  ⟨O, ⟨h.foreign k (by simp), fun g hg => .inl hg⟩, k.mono (by simp)⟩
theorem FsTo.then_ {w w1 w2 : World} {f : Nat} {O O1 : List Nat} {σ : Fs} (k : Chg O w w1) (hO : ∀ g ∈ O1, g ∈ O ∨ w.heap.size ≤ g) (h : FsTo w1 w2 f O1 σ) : FsTo w w2 f O σ := by
  obtain ⟨O2, ⟨h1, h2⟩, k2⟩ := h
  refine ⟨O2, ⟨h1, fun g hg => ?_⟩, k.trans' k2 (fun x hx _ => hx) (fun x hx hl => ?_)⟩
  · rcases h2 g hg with h | h
    · exact hO g h
    · have := k.size; exact .inr (by omega)
  · rcases hO x hx with h | h
    · exact h
    · omega
theorem FsTo.behind {w w1 w2 : World} {f : Nat} {O : List Nat} {σ : Fs} (h : FsTo w w1 f O σ) (k : Chg [] w1 w2) : FsTo w w2 f O σ := by
  obtain ⟨O2, ⟨h1, h2⟩, k2⟩ := h
  exact ⟨O2, ⟨h1.foreign k (by simp), h2⟩, k2.trans (k.mono (by simp))⟩
end Go.Proofs.YtoionaeimnmcbaaGreatDoor
