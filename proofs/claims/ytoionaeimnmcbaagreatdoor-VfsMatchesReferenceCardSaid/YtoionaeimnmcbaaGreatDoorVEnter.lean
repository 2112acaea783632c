/- paxtar/vfs: enter. -/
import Derived.Test.YtoionaeimnmcbaaGreatDoorVInode
import Derived.Shelf.Spec.SearchS
namespace Go.Pax
open Go.RowKit
/-- Where a name belongs among sorted names. -/
def bsI (l : List ByteArray) (x : ByteArray) : Nat := Lib.bsGo (fun t => Op.bytesLess (l.getD t ⟨#[]⟩).toList x.toList) l.length 0 l.length
end Go.Pax
namespace Go.Proofs.YtoionaeimnmcbaaGreatDoor
open Go.RowKit Go.Pax Go.Shelf
theorem bsS (w : World) (v : Value) (l : List ByteArray) (x : ByteArray) (h : Row w 9 v (sv l)) (hl : l.length ≤ 140737488355328) :
    Calls Tryz.prog 77 #[v, .string x] w fun e w' => ∃ bl, e = .returned (.tuple #[.int .i64 (bsI l x : Nat), .bool bl]) ∧ ∃ q, w' = w.drewN q := by
  obtain ⟨ao, c, rfl⟩ := h.shape
  rw [sv_length]
  by_cases h0 : l.length = 0
  · have : l = [] := List.eq_nil_of_length_eq_zero h0
    subst this
    refine (Any2.slices_BinarySearch_string_empty Tryz.bse ao c x w).mono ?_
    rintro e w' ⟨rfl, rfl⟩
    exact ⟨false, by simp [bsI, Lib.bsGo], 0, rfl⟩
  · rcases h.2 with ⟨_, hz⟩ | ⟨g, cap, cur, hv, _⟩
    · rw [sv_length] at hz; omega
    · simp only [Value.slice.injEq] at hv
      obtain ⟨rfl, _, rfl⟩ := hv
      have hrd := (h.rd).2.1
      refine (Any2.slices_BinarySearch_string Tryz.bse g 0 l.length c (fun t => l.getD t ⟨#[]⟩) x w (by omega) (fun j hj => ?_)).mono ?_
      · obtain ⟨a, ha, _, hc⟩ := hrd j _ (sv_get l j hj)
        cases ha
        rw [show (⟨g, 0, none⟩ : Addr).add j = ⟨g, 0 + j, none⟩ by unfold Addr.add; split <;> simp_all] at hc
        rw [hc, List.getD_eq_getElem?_getD, List.getElem?_eq_getElem hj]
        rfl
      · rintro e w' ⟨rfl, q, rfl⟩
        exact ⟨_, rfl, q, rfl⟩
theorem bsGo_le (less : Nat → Bool) : ∀ (k lo hi : Nat), lo ≤ hi → Lib.bsGo less k lo hi ≤ hi
  | 0, lo, hi, h => h
  | k + 1, lo, hi, h => by
    unfold Lib.bsGo
    split
    · split
      · exact bsGo_le less k _ _ (by omega)
      · exact Nat.le_trans (bsGo_le less k _ _ (by omega)) (by omega)
    · exact h
theorem bsI_le (l : List ByteArray) (x : ByteArray) : bsI l x ≤ l.length := bsGo_le _ _ _ _ (Nat.zero_le _)
theorem FsIn.widen {w : World} {f : Nat} {O O' : List Nat} {σ : Fs} {m : Nat} {rv : Value} {dv nv : Nat → Value} (h : FsIn w f O σ m rv dv nv) (hO : ∀ g ∈ O, g ∈ O') (hl : ∀ g ∈ O', g < w.heap.size) : FsIn w f O' σ m rv dv nv :=
  ⟨h.blk, h.rot, h.mp, fun p b hb => (h.nodes p b hb).mono hO, ⟨hO _ h.own.1, hO _ h.own.2.1, fun g hg => hO _ (h.own.2.2 g hg)⟩, hl, h.apart⟩
/-- What is said of blocks that hold no file may be said anew. -/
theorem FsIn.congr {w : World} {f : Nat} {O : List Nat} {σ : Fs} {m : Nat} {rv : Value} {dv nv dv' nv' : Nat → Value} (h : FsIn w f O σ m rv dv nv) (node' : Nat → Nd) (hc : ∀ p b, (p, b) ∈ σ.files → node' b = σ.node b ∧ dv' b = dv b ∧ nv' b = nv b) : FsIn w f O { σ with node := node' } m rv dv' nv' :=
  ⟨h.blk, h.rot, h.mp, fun p b hb => by
    obtain ⟨h1, h2, h3⟩ := hc p b hb
    have := h.nodes p b hb
    simp only [h1, h2, h3]
    exact this, h.own, h.lt, fun p b p' b' hb hb' hne g hg => by
    rw [(hc p b hb).2.2] at hg
    rw [(hc p' b' hb').2.2]
    exact h.apart p b p' b' hb hb' hne g hg⟩
/-- One path more, for a node that is there. -/
theorem FsIn.addMap {w w' : World} {f : Nat} {O : List Nat} {σ : Fs} {m : Nat} {rv : Value} {dv nv : Nat → Value} (h : FsIn w f O σ m rv dv nv) {p : Str} {b : Nat} (hn : NodeAt w O b (σ.node b) (dv b) (nv b))
    (hap : ∀ p' b', (p', b') ∈ σ.files → b' ≠ b → ∀ g, (nv b').ownBlock = some g → (nv b).ownBlock ≠ some g) (k : Chg [m] w w') (hm : MapAt w' m (mapE σ.files ++ [(ba p, b)])) : FsIn w' f O { σ with files := σ.files ++ [(p, b)] } m rv dv nv := by
  obtain ⟨es, kc, hmm, _⟩ := h.mp
  have hrow : ∀ {e : TypeId} {v : Value} {xs : List Value}, Row w e v xs → ∀ g, v.ownBlock = some g → g ∉ [m] := fun hr g hg => by
    obtain ⟨c, hc⟩ := hr.block hg
    simpa using ne_of_map hc hmm
  have hnode : ∀ {b' : Nat} {nd : Nd} {d n : Value}, NodeAt w O b' nd d n → NodeAt w' O b' nd d n := fun hN => hN.keep k (by simpa using ne_of_map hN.blk hmm) (hrow hN.data) (hrow hN.names)
  refine ⟨k.heap h.blk (by simpa using ne_of_map h.blk hmm), h.rot.keep k (hrow h.rot), by simpa [mapE] using hm, fun p' b' hb' => ?_, h.own, fun g hg => Nat.lt_of_lt_of_le (h.lt g hg) k.size, fun p1 b1 p2 b2 h1 h2 hne g hg => ?_⟩
  · rcases List.mem_append.1 hb' with h' | h'
    · exact hnode (h.nodes p' b' h')
    · simp at h'
      obtain ⟨rfl, rfl⟩ := h'
      exact hnode hn
  · rcases List.mem_append.1 h1 with h1 | h1
    · rcases List.mem_append.1 h2 with h2 | h2
      · exact h.apart p1 b1 p2 b2 h1 h2 hne g hg
      · have h2' : p2 = p ∧ b2 = b := by simpa using h2
        rw [h2'.2] at hne ⊢
        exact hap p1 b1 h1 hne g hg
    · have h1' : p1 = p ∧ b1 = b := by simpa using h1
      rw [h1'.2] at hne hg
      rcases List.mem_append.1 h2 with h2 | h2
      · exact fun e => hap p2 b2 h2 (Ne.symm hne) g e hg
      · have h2' : p2 = p ∧ b2 = b := by simpa using h2
        exact absurd h2'.2.symm hne
/-- The names of one directory, written anew. -/
theorem FsIn.setNames {w w' : World} {f : Nat} {O : List Nat} {σ : Fs} {m : Nat} {rv : Value} {dv nv : Nat → Value} (h : FsIn w f O σ m rv dv nv) {p : Str} {b : Nat} (hpb : (p, b) ∈ σ.files) (k : Chg (b :: (nv b).ownBlock.toList) w w')
    (names' : List Str) (v' : Value) (hb : w'.heap[b]? = some (.cells (nodeCells (σ.node b) (dv b) v') 91 (0, 0))) (hr : Row w' 9 v' (svn names')) (hv : v'.ownBlock = (nv b).ownBlock ∨ ∃ g, v'.ownBlock = some g ∧ w.heap.size ≤ g ∧ g < w'.heap.size) :
    FsIn w' f (v'.ownBlock.toList ++ O) { σ with node := fun i => if i = b then { σ.node b with names := names' } else σ.node i } m rv dv (fun i => if i = b then v' else nv i) := by
  have hN := h.nodes p b hpb
  have hnb : ∀ g, (nv b).ownBlock = some g → ∃ c, w.heap[g]? = some (.cells c 9 (0, 0)) := fun g hg => hN.names.block hg
  have hnot : ∀ {g : Nat} {c : Array Value} {t : TypeId} {r : Nat × Nat}, w.heap[g]? = some (.cells c t r) → t ≠ 91 → t ≠ 9 → g ∉ b :: (nv b).ownBlock.toList := fun hg h1 h2 hm => by
    rcases List.mem_cons.1 hm with e | hm
    · exact ne_of_types hg hN.blk h1 e
    · obtain ⟨c', hc'⟩ := hnb _ (by simpa using hm)
      exact ne_of_types hg hc' h2 rfl
  have hrow : ∀ {e : TypeId} {v : Value} {xs : List Value}, Row w e v xs → e ≠ 91 → e ≠ 9 → ∀ g, v.ownBlock = some g → g ∉ b :: (nv b).ownBlock.toList := fun hr h1 h2 g hg => by
    obtain ⟨c, hc⟩ := hr.block hg
    exact hnot hc h1 h2
  have hm : m ∉ b :: (nv b).ownBlock.toList := by
    obtain ⟨es, c, h1, _⟩ := h.mp
    intro hm
    rcases List.mem_cons.1 hm with e | hm
    · exact ne_of_map hN.blk h1 e.symm
    · obtain ⟨c', hc'⟩ := hnb _ (by simpa using hm)
      exact ne_of_map hc' h1 rfl
  have hlt : ∀ g ∈ v'.ownBlock.toList, g < w'.heap.size := fun g hg => by
    obtain ⟨c, hc⟩ := hr.block (by simpa using hg)
    exact lt_of_block hc
  have hother : ∀ p' b', (p', b') ∈ σ.files → b' ≠ b → NodeAt w' (v'.ownBlock.toList ++ O) b' (σ.node b') (dv b') (nv b') := fun p' b' hb' hne => by
    have hN' := h.nodes p' b' hb'
    refine (hN'.keep k ?_ (hrow hN'.data (by decide) (by decide)) ?_).mono (fun g hg => List.mem_append.2 (.inr hg))
    · intro hm
      rcases List.mem_cons.1 hm with e | hm
      · exact hne e
      · obtain ⟨c', hc'⟩ := hnb _ (by simpa using hm)
        exact ne_of_types hN'.blk hc' (by decide) rfl
    · intro g hg hm
      rcases List.mem_cons.1 hm with e | hm
      · obtain ⟨c', hc'⟩ := hN'.names.block hg
        exact ne_of_types hc' hN.blk (by decide) e
      · exact h.apart p' b' p b hb' hpb hne g hg (by simpa using hm)
  refine ⟨k.heap h.blk (hnot h.blk (by decide) (by decide)), h.rot.keep k (hrow h.rot (by decide) (by decide)), h.mp.chg k hm, fun p' b' hb' => ?_, ⟨List.mem_append.2 (.inr h.own.1), List.mem_append.2 (.inr h.own.2.1), fun g hg => List.mem_append.2 (.inr (h.own.2.2 g hg))⟩, fun g hg => ?_, fun p1 b1 p2 b2 h1 h2 hne g hg => ?_⟩
  · by_cases he : b' = b
    · subst he
      simp only [if_true]
      exact ⟨hb, hN.data.keep k (hrow hN.data (by decide) (by decide)), hr, List.mem_append.2 (.inr hN.own.1), fun g hg => List.mem_append.2 (.inr (hN.own.2.1 g hg)), fun g hg => List.mem_append.2 (.inl (by simp [hg]))⟩
    · simp only [if_neg he]
      exact hother p' b' hb' he
  · rcases List.mem_append.1 hg with hg | hg
    · exact hlt g hg
    · exact Nat.lt_of_lt_of_le (h.lt g hg) k.size
  · have hnew : ∀ p' b', (p', b') ∈ σ.files → b' ≠ b → ∀ g, v'.ownBlock = some g → (nv b').ownBlock ≠ some g := fun p' b' hb' hne g hg he => by
      rcases hv with hv | ⟨g', hg', hge, _⟩
      · rw [hv] at hg
        exact h.apart p b p' b' hpb hb' (Ne.symm hne) g hg he
      · rw [hg'] at hg
        cases hg
        have := h.lt g ((h.nodes p' b' hb').own.2.2 g he)
        omega
    by_cases e1 : b1 = b
    · subst e1
      simp only [if_true] at hg
      rw [if_neg (Ne.symm hne)]
      exact hnew p2 b2 h2 (Ne.symm hne) g hg
    · simp only [if_neg e1] at hg
      by_cases e2 : b2 = b
      · subst e2
        simp only [if_true]
        exact fun e => hnew p1 b1 h1 e1 g e hg
      · simp only [if_neg e2]
        exact h.apart p1 b1 p2 b2 h1 h2 hne g hg

/-- A directory with one name more. -/
def addName (nd : Nd) (x : Str) : Nd := { nd with names := insAt nd.names (bsI (nd.names.map ba) (ba x)) x }
/-- The file system with one path more. -/
def entered (σ : Fs) (p : Str) (pb b : Nat) : Fs := { σ with files := σ.files ++ [(p, b)], node := fun i => if i = pb then addName (σ.node pb) (baseP p) else σ.node i }
set_option maxRecDepth 100000 in
set_option maxHeartbeats 4000000 in
theorem enter (w : World) (f : Nat) (O : List Nat) (σ : Fs) (m : Nat) (rv : Value) (dv nv : Nat → Value) (p pp : Str) (pb b : Nat) (h : FsIn w f O σ m rv dv nv) (hp : p.length ≤ 140737488355328) (hpb : (pp, pb) ∈ σ.files) (hnew : lkF σ.files p = none)
    (hn : NodeAt w O b (σ.node b) (dv b) (nv b)) (hap : ∀ p' b', (p', b') ∈ σ.files → b' ≠ b → ∀ g, (nv b').ownBlock = some g → (nv b).ownBlock ≠ some g) (hlen : ((σ.node pb).names.length + 1) * 16 ≤ 140737488355328) :
    Calls Tryz.prog 50 #[.pointer (some ⟨f, 0, none⟩), .string (ba p), .pointer (some ⟨pb, 0, none⟩), .pointer (some ⟨b, 0, none⟩)] w fun e w' => e = .returned (.tuple #[]) ∧ FsTo w w' f O (entered σ p pb b) := by
  obtain ⟨_, _, _, _, c4⟩ := h.cells
  obtain ⟨w1, hru, hmp, hk1, hz1⟩ := run_update_new (P := Tryz.prog) (T := 66) Tryz.underlying66 Tryz.underlying9 h.mp (k := ba p) (b := b) (by rw [lk_mapE, hnew])
  have h1 := h.addMap hn hap hk1 hmp
  have hpb1 : (pp, pb) ∈ (σ.files ++ [(p, b)]) := List.mem_append.2 (.inl hpb)
  have hN1 := h1.nodes pp pb hpb1
  obtain ⟨_, _, _, _, _, _, _, _, d8, d9⟩ := hN1.cells
  have hlt := lt_of_block h.blk
  have hltp := lt_of_block hN1.blk
  have hfp : w1.frozen? ⟨pb, 9, none⟩ = false := frozen_of_row _ _ _ _ _ hN1.blk
  have hmO := h.own.2.1
  have HB := Lib.hid (fun W => base p hp W)
  have H1 := Lib.hid h1
  have HN1 := Lib.hid hN1
  have HK1 := Lib.hid hk1
  have hbs := fun W (k : Chg [] w1 W) => bsS W (nv pb) ((σ.node pb).names.map ba) (ba (baseP p)) (hN1.names.keep k (by simp)) (by simp; omega)
  have hble := bsI_le ((σ.node pb).names.map ba) (ba (baseP p))
  have HBS := Lib.hid hbs
  obtain ⟨na, nc, hnv⟩ := hN1.names.shape
  simp only [svn_length] at hnv
  clear h h1 hN1 hk1 hmp hbs hn hap hnew
  generalize hP : ba p = P at *
  generalize hQ : ba (baseP p) = Q at *
  generalize hI : bsI ((σ.node pb).names.map ba) Q = I at *
  have HH := Lib.hid (And.intro hP (And.intro hQ (And.intro hI hnv)))
  clear hP hQ hI
  rw [hnv] at d9 HBS
  clear hnv
  go_enter Tryz.func50, Tryz.ntmps50
  go_wp2_with (first
    | (go_at_call 76; refine (HB.out _).mono ?_; rintro e w' ⟨rfl, k, rfl⟩)
    | (go_at_call 77; refine (HBS.out _ (by first | exact (Chg.refl _ _).drewN _ | exact Chg.refl _ _)).mono ?_; rintro e w' ⟨bl, rfl, q, rfl⟩))
  have hins : ∀ v, v = nv pb → Calls Tryz.prog 78 #[v, .int .i64 I, .slice (some ⟨w.heap.size, 0, none⟩) 1 1] ((w1.drewN (k + q)).alloc (.cells #[.string Q] 9)) fun e w' =>
      ∃ ao c, e = .returned (.slice ao ((σ.node pb).names.length + 1) c) ∧ w'.ownsRow 0 9 1 (.slice ao ((σ.node pb).names.length + 1) c) ((σ.node pb).names.length + 1) (sv (insAt ((σ.node pb).names.map ba) I Q)) ∧ ((w1.drewN (k + q)).alloc (.cells #[.string Q] 9)).grownBy w' v.ownBlock ∧
        ((Value.slice ao ((σ.node pb).names.length + 1) c).ownBlock = v.ownBlock ∨ (Value.slice ao ((σ.node pb).names.length + 1) c).ownBlock = some (w.heap.size + 1)) := by
    rintro v rfl
    have hN2 := HN1.out.names.keep (((Chg.refl [] w1).drewN (k + q)).alloc (.cells #[.string Q] 9)) (by simp)
    have hb2 : ((w1.drewN (k + q)).alloc (.cells #[.string Q] 9)).heap[w.heap.size]? = some (.cells #[.string Q] 9 (0, 0)) := heap_new_at (by rw [← hz1]; rfl)
    have hml : ((σ.node pb).names.map ba).length = (σ.node pb).names.length := by simp
    have h0 : (svn (σ.node pb).names).length = ((σ.node pb).names.map ba).length := by rw [svn_length, hml]
    unfold Row at hN2
    rw [h0] at hN2
    have := insertS ((w1.drewN (k + q)).alloc (.cells #[.string Q] 9)) 0 (nv pb) ((σ.node pb).names.map ba) I Q w.heap.size 9 hble (by rw [hml]; exact hlen) (Nat.zero_le _) hN2 hb2 (by
      intro hg
      obtain ⟨c, hc⟩ := HN1.out.names.block hg
      have := lt_of_block hc
      omega)
    rw [hml] at this
    have hs2 : ((w1.drewN (k + q)).alloc (.cells #[.string Q] 9)).heap.size = w.heap.size + 1 := by rw [World.size_alloc, ← hz1]; rfl
    rw [hs2] at this
    exact this
  refine (hins _ HH.out.2.2.2.symm).mono ?_
  clear hins
  rintro e w3 ⟨a3, c3, rfl, hown3, hgr3, hor3⟩
  have hgr3' : ((w1.drewN (k + q)).alloc (.cells #[.string Q] 9)).grownBy w3 (nv pb).ownBlock := by rw [HH.out.2.2.2]; exact hgr3
  have hk3 : Chg (nv pb).ownBlock.toList w1 w3 := (((Chg.refl _ w1).drewN (k + q)).alloc _).grown hgr3' (fun g hg _ => by simp [hg])
  have hpbn : pb ∉ (nv pb).ownBlock.toList := fun hm => by
    obtain ⟨c, hc⟩ := HN1.out.names.block (g := pb) (by simpa using hm)
    exact ne_of_types hc HN1.out.blk (by decide) rfl
  have hb3 := hk3.heap HN1.out.blk hpbn
  have e9 : w3.cell? ⟨pb, 9, none⟩ = some (nv pb) := cell_heap hb3 9 rfl
  have hf9 : w3.frozen? ⟨pb, 9, none⟩ = false := frozen_of_row _ _ _ _ _ hb3
  have HK3 := Lib.hid (And.intro hk3 (And.intro hown3 (And.intro hor3 hb3)))
  clear hk3 hown3 hor3 hgr3 hgr3' hb3 d9 d8
  generalize hNV : nv pb = NV at e9
  go_wp2_with fail
  go_end0
  obtain ⟨hk3, hown3, hor3, hb3⟩ := HK3.out
  refine ⟨rfl, ?_⟩
  have hk4 : Chg (pb :: (nv pb).ownBlock.toList) w1 (w3.setCell ⟨pb, 9, none⟩ (.slice a3 ((σ.node pb).names.length + 1) c3)) := (hk3.mono (fun k hk _ => List.mem_cons_of_mem _ hk)).setCell (p := ⟨pb, 9, none⟩) (fun _ => by simp) _
  have hb4 := heap_set hb3 9 (.slice a3 ((σ.node pb).names.length + 1) c3) (cs' := nodeCells (σ.node pb) (dv pb) (.slice a3 ((σ.node pb).names.length + 1) c3)) rfl
  have hrow : Row (w3.setCell ⟨pb, 9, none⟩ (.slice a3 ((σ.node pb).names.length + 1) c3)) 9 (.slice a3 ((σ.node pb).names.length + 1) c3) (svn (addName (σ.node pb) (baseP p)).names) := by
    have hs : svn (addName (σ.node pb) (baseP p)).names = sv (insAt ((σ.node pb).names.map ba) I Q) := by
      unfold addName
      simp only
      rw [svn_ins, HH.out.2.1, HH.out.2.2.1]
    rw [hs]
    have h0 := own_zero hown3 (by rw [sv_length, insAt_length _ _ _ hble]; simp)
    refine h0.keep ((Chg.refl [pb] w3).setCell (p := ⟨pb, 9, none⟩) (fun _ => by simp) _) fun g hg => ?_
    obtain ⟨c, hc⟩ := h0.block hg
    simpa using ne_of_types hc hb3 (by decide)
  have hor : (Value.slice a3 ((σ.node pb).names.length + 1) c3).ownBlock = (nv pb).ownBlock ∨ ∃ g, (Value.slice a3 ((σ.node pb).names.length + 1) c3).ownBlock = some g ∧ w1.heap.size ≤ g ∧ g < (w3.setCell ⟨pb, 9, none⟩ (.slice a3 ((σ.node pb).names.length + 1) c3)).heap.size := by
    rcases hor3 with h | h
    · exact .inl (by rw [h, HH.out.2.2.2])
    · refine .inr ⟨_, h, by omega, ?_⟩
      obtain ⟨c, hc⟩ := hrow.block h
      exact lt_of_block hc
  have hfin := H1.out.setNames hpb1 hk4 (addName (σ.node pb) (baseP p)).names _ hb4 hrow hor
  refine ⟨_, ⟨⟨_, _, _, _, hfin⟩, fun g hg => ?_⟩, (HK1.out.mono (by simpa using fun _ => hmO)).trans (hk4.mono fun g hg _ => ?_)⟩
  · rcases List.mem_append.1 hg with hg | hg
    · rcases hor with h | ⟨g', h, hge, _⟩
      · rw [h] at hg
        exact .inl (HN1.out.own.2.2 g (by simpa using hg))
      · rw [h] at hg
        simp at hg
        exact .inr (by omega)
    · exact .inl hg
  · rcases List.mem_cons.1 hg with rfl | hg
    · exact HN1.out.own.1
    · exact HN1.out.own.2.2 g (by simpa using hg)
end Go.Proofs.YtoionaeimnmcbaaGreatDoor
