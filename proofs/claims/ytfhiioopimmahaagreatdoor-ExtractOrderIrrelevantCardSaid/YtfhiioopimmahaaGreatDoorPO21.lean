/- paxtarlaw21.alive. paxtarlaw13.TooLarge; lists of nodes read by a slice. append of rows whose elements have several cells, from whatever slice; nodes' cells in a row. From a walk to a row: what the arguments read as, and a law's row out of its walk. The arguments of these laws, opened; the listed variables, as they lie. Lists of nodes as arguments, opened. Printed out of XVLift (open_act5) by hand. DERIVED: THE SHELF's CONTRACTS AT THIS DUMP, IN PLAIN WORDS (tools/lay-plain.mjs out of 'YtfhiioopimmahaaGreatDoorVShelfST.lean', which tools/lay-shelf.mjs wrote): THE SAME DECLARATIONS UNDER THE SAME NAMES: 'import', 'namespace', 'open', 'def', 'theorem' AND NOTHING ELSE: no command of the shelf's: FOR A HAND-IN. Each laying: the table of numbers ('.._ren') and one theorem, a field a fact of the dump's own or the kernel's comparison; each contract: ONE APPLICATION. -/
import Derived.Test.YtfhiioopimmahaaGreatDoorRows
import Derived.ProofKit
import Derived.SizedLaws
import Derived.Lib.SmallJoins
import Derived.Deep.Slices
import Derived.Deep.Fields
import Derived.ChangeSame
import Derived.LaidMore
import Derived.OpenShut
import Derived.ChangeMaps5
import Derived.Stop.Joined
import Derived.SevenTiedAt
import Derived.Test.YtfhiioopimmahaaGreatDoorTie
import Derived.Test.YtfhiioopimmahaaGreatDoorCards
import Derived.Shelf.Small.Strs
import Derived.Shelf.Strconv.Itoa0
import Derived.Shelf.Strconv.Itoa1
import Derived.Shelf.LaysM
import Derived.Shelf.Strconv.Itoa2
import Derived.Shelf.Strconv.Itoa3
import Derived.Shelf.Strings.Search1
import Derived.Shelf.Strings.Search2
import Derived.Shelf.Strings.Cut
import Derived.Shelf.Strings.Shaped
import Derived.Shelf.Strings.LastIndex
import Derived.Shelf.Slices.Equal
import Derived.Ground.Names2Prog
import Derived.Shelf.Slices.ReverseS
import Derived.Shelf.Slices.Clone
import Derived.Shelf.Slices.Cells
import Derived.Shelf.Slices.Empties2
import Derived.Ground.SlgnProg
import Derived.Shelf.SlicesE.Clone
import Derived.Test.YtfhiioopimmahaaGreatDoorProg
import Derived.Test.YtfhiioopimmahaaGreatDoorPO07
import Derived.Test.YtfhiioopimmahaaGreatDoorPO09
import Derived.Test.YtfhiioopimmahaaGreatDoorPO14
import Derived.Test.YtfhiioopimmahaaGreatDoorPO15
import Derived.Test.YtfhiioopimmahaaGreatDoorPO20
namespace Go.Proofs.YtfhiioopimmahaaGreatDoor
open Go.RowKit Go.Pax Go.Shelf
set_option maxRecDepth 100000 in
set_option maxHeartbeats 8000000 in
theorem alive21 (w : World) (hkeys : KeysAt w) : Calls Tryz.prog 19 #[] w fun e w' => e = .returned (.bool true) ∧ Chg [] w w' := by
  have HN := Lib.hid (fun W k => liveNew w W 1 1 [] none 0 0 [] k rfl (by omega) (by omega) (Rd.nil _ _ _))
  have hE0 : newE 1 1 [] = 0 := by decide
  have HKB := Lib.hid (show 0 < w.heap.size from by
    obtain ⟨t, ht⟩ := hkeys
    exact lt_of_block ht)
  have HX := Lib.hid (fun W f O r g (hL : Live w W f O (newFs 1 1 [] r) 0) (hg : g ∉ O) (hgl : g < W.heap.size) (hb : W.heap[g]? = some (.cells #[.int .i64 1, .string ⟨#[98]⟩, .int .i64 0, .string ⟨#[]⟩, .slice none 0 0, .int .i64 1, .int .i64 1, .string ⟨#[97]⟩, .int .i64 0, .string ⟨#[]⟩, .slice none 0 0, .int .i64 1] 45 (0, 0))) =>
    (show Calls Tryz.prog 21 #[.slice (some ⟨g, 0, none⟩) 2 2, .pointer (some ⟨f, 0, none⟩)] W fun e w' => e = .returned (.int .i64 0) ∧ ∃ b O', r ≠ b ∧ FsAt w' f O' (linked (aliveFz r b) pB r b) ∧ Chg [] w w' from by
      refine (extractTree W f O (newFs 1 1 [] r) 0 (some ⟨g, 0, none⟩) 2 2 [g] [] (treeZ.map fun x => (x, .slice none 0 0)) hL.fs hL.inv (by omega) ⟨r, rfl, by simp [newFs, rootNd]⟩ (fun i hi => ?_) rfl (by omega) (fun x hx => ?_) (fun x hx => ?_) (fun y hy => by simp at hy; subst hy; exact ⟨hgl, hg⟩) (fun y hy => by simp at hy) (hL.keys hkeys).1 (hL.keys hkeys).2).mono ?_
      · have hi2 : i < 2 := hi
        obtain rfl | rfl : i = 0 ∨ i = 1 := by omega
        · refine ⟨⟨g, 0, none⟩, rfl, by unfold Addr.add; split <;> simp, cell_heap hb 0 rfl, fun j u hu => ?_⟩
          match j, hu with
          | 0, hu => simp [treeZ, ndc] at hu; subst hu; exact cell_heap hb 0 rfl
          | 1, hu => simp [treeZ, ndc] at hu; subst hu; exact cell_heap hb 1 rfl
          | 2, hu => simp [treeZ, ndc] at hu; subst hu; exact cell_heap hb 2 rfl
          | 3, hu => simp [treeZ, ndc] at hu; subst hu; exact cell_heap hb 3 rfl
          | 4, hu => simp [treeZ, ndc] at hu; subst hu; exact cell_heap hb 4 rfl
          | 5, hu => simp [treeZ, ndc] at hu; subst hu; exact cell_heap hb 5 rfl
          | j + 6, hu => simp [treeZ, ndc] at hu
        · refine ⟨⟨g, 0, none⟩, rfl, by unfold Addr.add; split <;> simp, cell_heap hb 6 rfl, fun j u hu => ?_⟩
          match j, hu with
          | 0, hu => simp [treeZ, ndc] at hu; subst hu; exact cell_heap hb 6 rfl
          | 1, hu => simp [treeZ, ndc] at hu; subst hu; exact cell_heap hb 7 rfl
          | 2, hu => simp [treeZ, ndc] at hu; subst hu; exact cell_heap hb 8 rfl
          | 3, hu => simp [treeZ, ndc] at hu; subst hu; exact cell_heap hb 9 rfl
          | 4, hu => simp [treeZ, ndc] at hu; subst hu; exact cell_heap hb 10 rfl
          | 5, hu => simp [treeZ, ndc] at hu; subst hu; exact cell_heap hb 11 rfl
          | j + 6, hu => simp [treeZ, ndc] at hu
      · obtain ⟨y, hy, rfl⟩ := List.mem_map.1 hx
        have hd : y.data = [] := by simp [treeZ] at hy; rcases hy with rfl | rfl <;> rfl
        simp only [hd]
        exact ⟨RdD.nil _ _, by simp⟩
      · obtain ⟨y, hy, rfl⟩ := List.mem_map.1 hx
        simp [treeZ] at hy
        rcases hy with rfl | rfl <;> simp [pA, pB]
      · rintro e w' ⟨E, σ', rfl, hE, O', ⟨h1, h2⟩, h3⟩
        have e1 : (treeZ.map fun x => (x, Value.slice none 0 0)).map Prod.fst = treeZ := rfl
        rw [e1] at hE
        obtain ⟨rfl, b, hb, rfl⟩ := extZ hE
        exact ⟨rfl, b, O', hb, h1, hL.chg.trans' h3 (by simp) (fun x hx hl => by have := hL.own x hx; omega)⟩))
  have HST := Lib.hid (fun W f O r b (hb : r ≠ b) (h : FsAt W f O (linked (aliveFz r b) pB r b)) => (show Calls Tryz.prog 13 #[.pointer (some ⟨f, 0, none⟩), .string ⟨#[97]⟩] W (fun e w' => e = .returned (.tuple #[.agg #[.int .i64 1, .int .i64 0, .int .i64 2, .int .i64 2, .int .i64 0, .string ⟨#[]⟩, .int .i64 0, .int .i64 0], .int .i64 0]) ∧ Chg [] W w') ∧ Calls Tryz.prog 13 #[.pointer (some ⟨f, 0, none⟩), .string ⟨#[98]⟩] W (fun e w' => e = .returned (.tuple #[.agg #[.int .i64 1, .int .i64 0, .int .i64 2, .int .i64 2, .int .i64 0, .string ⟨#[]⟩, .int .i64 0, .int .i64 0], .int .i64 0]) ∧ Chg [] W w') from by
    have h1 := lstat W f O _ pA h
    have h2 := lstat W f O _ pB h
    rw [(aliveZ_stat hb).1] at h1
    rw [(aliveZ_stat hb).2] at h2
    exact ⟨h1, h2⟩))
  clear hkeys
  go_enter Tryz.func19, Tryz.ntmps19
  go_upto_region 2 with (go_at_call 20; refine (HN.out _ (Chg.refl _ _)).mono ?_; rintro e w1 ⟨_, h⟩; obtain ⟨f, O, r, rfl, hL, _⟩ := h hE0; have H1 := Lib.hid hL; clear h hL)
  clear hE0
  go_upto_region 4 with (go_at_call 21; refine (HX.out _ f O r _ (H1.out.quiet ((Chg.refl _ _).alloc _)) (fun hm => by have := H1.out.lt _ hm; omega) (by simp) (heap_alloc_new _ _)).mono ?_; rintro e w2 ⟨rfl, b, O2, hb, hf, k⟩; have H2 := Lib.hid (And.intro hb (And.intro hf k)); clear hb hf k)
  go_upto_region 5 with (go_at_call 13; refine (HST.out _ _ _ _ _ H2.out.1 H2.out.2.1).1.mono ?_; rintro e w3 ⟨rfl, k⟩; have HK3 := Lib.hid k; clear k)
  have hk4 : Chg [] w3 (w3.alloc (.cells #[.int .i64 1, .int .i64 0, .int .i64 2, .int .i64 2, .int .i64 0, .string ⟨#[]⟩, .int .i64 0, .int .i64 0] 40)) := (Chg.refl _ _).alloc _
  have HE4 := Lib.hid (heap_alloc_new w3 (.cells #[.int .i64 1, .int .i64 0, .int .i64 2, .int .i64 2, .int .i64 0, .string ⟨#[]⟩, .int .i64 0, .int .i64 0] 40))
  have HK4 := Lib.hid (HK3.out.trans hk4)
  clear hk4
  generalize w3.alloc (.cells #[.int .i64 1, .int .i64 0, .int .i64 2, .int .i64 2, .int .i64 0, .string ⟨#[]⟩, .int .i64 0, .int .i64 0] 40) = W4 at *
  generalize w3.heap.size = g4 at *
  go_upto_region 6 with (go_at_call 13; refine (HST.out _ _ _ _ _ H2.out.1 (H2.out.2.1.foreign HK4.out (by simp))).2.mono ?_; rintro e w5 ⟨rfl, k⟩; have HK5 := Lib.hid (HK4.out.trans k); have HE5 := Lib.hid (k.heap HE4.out (by simp)); clear k)
  have hk6 : Chg [] w5 (w5.alloc (.cells #[.int .i64 1, .int .i64 0, .int .i64 2, .int .i64 2, .int .i64 0, .string ⟨#[]⟩, .int .i64 0, .int .i64 0] 40)) := (Chg.refl _ _).alloc _
  have HE6 := Lib.hid (And.intro (hk6.heap HE5.out (by simp)) (heap_alloc_new w5 (.cells #[.int .i64 1, .int .i64 0, .int .i64 2, .int .i64 2, .int .i64 0, .string ⟨#[]⟩, .int .i64 0, .int .i64 0] 40)))
  have HK6 := Lib.hid (H2.out.2.2.trans (HK5.out.trans hk6))
  clear hk6
  generalize w5.alloc (.cells #[.int .i64 1, .int .i64 0, .int .i64 2, .int .i64 2, .int .i64 0, .string ⟨#[]⟩, .int .i64 0, .int .i64 0] 40) = W6 at *
  generalize w5.heap.size = g6 at *
  have c0 := cell_heap HE6.out.1 0 (v := .int .i64 1) rfl
  have c1 := cell_heap HE6.out.1 1 (v := .int .i64 0) rfl
  have c2 := cell_heap HE6.out.1 2 (v := .int .i64 2) rfl
  have c3 := cell_heap HE6.out.1 3 (v := .int .i64 2) rfl
  have c4 := cell_heap HE6.out.1 4 (v := .int .i64 0) rfl
  have c5 := cell_heap HE6.out.1 5 (v := .string ⟨#[]⟩) rfl
  have c6 := cell_heap HE6.out.1 6 (v := .int .i64 0) rfl
  have c7 := cell_heap HE6.out.1 7 (v := .int .i64 0) rfl
  have d0 := cell_heap HE6.out.2 0 (v := .int .i64 1) rfl
  have d1 := cell_heap HE6.out.2 1 (v := .int .i64 0) rfl
  have d2 := cell_heap HE6.out.2 2 (v := .int .i64 2) rfl
  have d3 := cell_heap HE6.out.2 3 (v := .int .i64 2) rfl
  have d4 := cell_heap HE6.out.2 4 (v := .int .i64 0) rfl
  have d5 := cell_heap HE6.out.2 5 (v := .string ⟨#[]⟩) rfl
  have d6 := cell_heap HE6.out.2 6 (v := .int .i64 0) rfl
  have d7 := cell_heap HE6.out.2 7 (v := .int .i64 0) rfl
  go_wp2_with fail
  go_ret
  exact ⟨rfl, HK6.out⟩
end Go.Proofs.YtfhiioopimmahaaGreatDoor
namespace Go.Pax
open Go.RowKit
def ndLen (x : ANode) : Nat := x.path.length + x.target.length + x.data.length
def ndsLen (l : List ANode) : Nat := (l.map ndLen).sum
theorem ndsLen_snoc (l : List ANode) (x : ANode) : ndsLen (l ++ [x]) = ndsLen l + ndLen x := by simp [ndsLen]
/-- What TooLarge answers. -/
def tooN (l : List ANode) : Int := if l.length ≤ 40 ∧ ndsLen l ≤ 100000 ∧ (l.all fun x => decide (ndLen x ≤ 70000)) = true then 0 else 1
theorem tooN_zero {l : List ANode} (h : tooN l = 0) : l.length ≤ 40 ∧ ndsLen l ≤ 100000 ∧ ∀ x ∈ l, ndLen x ≤ 70000 := by
  unfold tooN at h
  split at h
  · rename_i h1
    exact ⟨h1.1, h1.2.1, fun x hx => by simpa using List.all_eq_true.1 h1.2.2 x hx⟩
  · cases h
theorem tooN_one {l : List ANode} (h : tooN l ≠ 0) : tooN l = 1 := by
  unfold tooN at h ⊢
  split
  · rename_i h1; rw [if_pos h1] at h; exact absurd rfl h
  · rfl
theorem NdRd.mono {w : World} {fp fp' : List Nat} {ao : Option Addr} {L : List (ANode × Value)} (h : NdRd w fp ao L) (hf : ∀ k, k ∈ fp → k ∈ fp') : NdRd w fp' ao L := fun i hi => by
  obtain ⟨ad, h1, h2, h3⟩ := h i hi
  exact ⟨ad, h1, hf _ h2, h3⟩
theorem lt_of_cell {w : World} {a : Addr} {v : Value} (h : w.cell? a = some v) : a.block < w.heap.size := by
  unfold World.cell? at h
  split at h
  · rename_i hb; exact (Array.getElem?_eq_some_iff.1 hb).1
  · cases h
/-- Only blocks that are there count. -/
theorem NdRd.tight {w : World} {fp : List Nat} {ao : Option Addr} {L : List (ANode × Value)} (h : NdRd w fp ao L) : NdRd w (fp.filter fun g => decide (g < w.heap.size)) ao L := fun i hi => by
  obtain ⟨ad, h1, h2, h3, h4⟩ := h i hi
  exact ⟨ad, h1, List.mem_filter.2 ⟨h2, by simpa using lt_of_cell h3⟩, h3, h4⟩
theorem RdD.tight {w : World} {fp : List Nat} {dv : Value} {d : List UInt8} (h : RdD w fp dv d) : RdD w (fp.filter fun g => decide (g < w.heap.size)) dv d := by
  obtain ⟨ao, c, h1, h2⟩ := h
  refine ⟨ao, c, h1, fun j u hu => ?_⟩
  obtain ⟨a, e1, e2, e3⟩ := h2 j u hu
  refine ⟨a, e1, List.mem_filter.2 ⟨e2, ?_⟩, e3⟩
  have := lt_of_cell e3
  have hb : (a.add j).block = a.block := by unfold Addr.add; split <;> rfl
  rw [hb] at this
  simpa using this
end Go.Pax
namespace Go.Proofs.YtfhiioopimmahaaGreatDoor
open Go.RowKit Go.Pax Go.Shelf
set_option maxRecDepth 100000 in
set_option maxHeartbeats 8000000 in
theorem tooLargeN (w : World) (ao : Option Addr) (n cap : Nat) (fp : List Nat) (L : List (ANode × Value)) (h : NdRd w fp ao L) (hl : L.length = n) (hnB : n ≤ 140737488355328) (hd : ∀ x ∈ L, ∃ a c, x.2 = .slice a x.1.data.length c)
    (hs : ∀ x ∈ L, x.1.path.length ≤ 140737488355328 ∧ x.1.target.length ≤ 140737488355328 ∧ x.1.data.length ≤ 140737488355328) :
    Calls Tryz.prog 18 #[.slice ao n cap] w fun e w' => e = .returned (.int .i64 (tooN (L.map Prod.fst))) ∧ Chg [] w w' := by
  obtain ⟨R, hR⟩ : ∃ R, R = tooN (L.map Prod.fst) := ⟨_, rfl⟩
  rw [← hR]
  have HRE := Lib.hid hR
  clear hR
  have H := Lib.hid (And.intro h (And.intro hl (And.intro hd hs)))
  clear h hl hd hs
  go_enter Tryz.func18, Tryz.ntmps18
  by_cases h40 : n ≤ 40
  · have h40i : ¬ (n : Int) > 40 := by omega
    go_wp2_with fail
    go_loopw [11, 3] (fun u v wr => ∃ k m : Nat, u = .int .i64 k ∧ v = .int .i64 m ∧ k ≤ n ∧ m = ndsLen ((L.map Prod.fst).take k) ∧ m ≤ k * 70000 ∧ (∀ x ∈ (L.map Prod.fst).take k, ndLen x ≤ 70000) ∧ Chg [] w wr) (fun u _ _ => n - (intOf u).toNat)
    case atStart => exact ⟨0, 0, rfl, rfl, Nat.zero_le _, rfl, by omega, fun x hx => by simp at hx, Chg.refl _ _⟩
    case round =>
      obtain ⟨k, m, rfl, rfl, hkn, hm, hmk, hall, hk⟩ := hrel
      have HK := Lib.hid (And.intro hm (And.intro hall hk))
      have hmB : m ≤ 2800000 := by omega
      clear hm hall hk
      by_cases hlt : k < n
      · have hkL : k < L.length := by rw [H.out.2.1]; exact hlt
        obtain ⟨ad, rfl, _, c0, hcl⟩ := (H.out.1.chg HK.out.2.2 (by simp)) k hkL
        obtain ⟨da, dc, hde⟩ := H.out.2.2.1 _ (List.getElem_mem hkL)
        obtain ⟨hpl, htl, hdl⟩ := H.out.2.2.2 _ (List.getElem_mem hkL)
        rw [hde] at hcl
        have c1 := hcl 1 _ rfl
        have c2 := hcl 2 _ rfl
        have c3 := hcl 3 _ rfl
        have c4 := hcl 4 _ rfl
        have c5 := hcl 5 _ rfl
        have HTK := Lib.hid (show (L.map Prod.fst).take (k + 1) = (L.map Prod.fst).take k ++ [L[k].1] from by
          rw [List.take_add_one, List.getElem?_eq_getElem (by simpa using hkL)]
          simp [Option.toList])
        have hps : ((ba L[k].1.path).size : Int) = (L[k].1.path.length : Int) := by rw [ba_size]
        have hts : ((ba L[k].1.target).size : Int) = (L[k].1.target.length : Int) := by rw [ba_size]
        have HXM := Lib.hid (show L[k].1 ∈ L.map Prod.fst from List.mem_map.2 ⟨_, List.getElem_mem hkL, rfl⟩)
        have HLN := Lib.hid (show ndLen L[k].1 = L[k].1.path.length + L[k].1.target.length + L[k].1.data.length from rfl)
        clear hcl hde
        generalize L[k].1 = X at *
        generalize X.path.length = lp at *
        generalize X.target.length = lt at *
        generalize X.data.length = ld at *
        generalize X.kind = x1 at *
        generalize ba X.path = P at *
        generalize X.mode = x3 at *
        generalize ba X.target = T at *
        generalize X.cls = x6 at *
        go_upto_region 7 with (fail)
        have e1 := heap_alloc_new wr (.cells #[.int .i64 x1, .string P, .int .i64 x3, .string T, .slice da ld dc, .int .i64 x6] 45)
        have hk1 : Chg [] wr (wr.alloc (.cells #[.int .i64 x1, .string P, .int .i64 x3, .string T, .slice da ld dc, .int .i64 x6] 45)) := (Chg.refl _ _).alloc _
        have HK1 := Lib.hid (HK.out.2.2.trans hk1)
        clear hk1 c0 c1 c2 c3 c4 c5
        generalize wr.alloc (.cells #[.int .i64 x1, .string P, .int .i64 x3, .string T, .slice da ld dc, .int .i64 x6] 45) = W1 at *
        generalize wr.heap.size = g1 at *
        have j1 := cell_heap e1 1 (v := .string P) rfl
        have j3 := cell_heap e1 3 (v := .string T) rfl
        have j4 := cell_heap e1 4 (v := .slice da ld dc) rfl
        clear e1
        by_cases hbig : lp + lt + ld ≤ 70000
        · have hbi : ¬ ((lp : Int) + (lt : Int) + (ld : Int)) > 70000 := by omega
          obtain ⟨mm, hmm⟩ : ∃ x, x = m + (lp + lt + ld) := ⟨_, rfl⟩
          have hsum : IntKind.i64.wrap ((m : Int) + ((lp : Int) + (lt : Int) + (ld : Int))) = (mm : Int) := by rw [show (m : Int) + ((lp : Int) + (lt : Int) + (ld : Int)) = (mm : Int) by omega]; exact IntWalk.i64_in _ (by omega)
          have HS := Lib.hid (show m + (lp + lt + ld) = ndsLen ((L.map Prod.fst).take (k + 1)) ∧ m + (lp + lt + ld) ≤ (k + 1) * 70000 ∧ ∀ x ∈ (L.map Prod.fst).take (k + 1), ndLen x ≤ 70000 from by
            rw [HTK.out, ndsLen_snoc, ← HK.out.1, HLN.out]
            refine ⟨rfl, by omega, fun x hx => ?_⟩
            rcases List.mem_append.1 hx with h1 | h1
            · exact HK.out.2.1 x h1
            · obtain rfl : x = X := by simpa using h1
              rw [HLN.out]; exact hbig)
          rw [← hmm] at HS
          go_wp2_with fail
          go_roundw
          case rel => exact ⟨k + 1, mm, by go_num, by first | rfl | go_num, by omega, HS.out.1, HS.out.2.1, HS.out.2.2, HK1.out⟩
          case measure => simp [intOf]; omega
        · have hbi : ((lp : Int) + (lt : Int) + (ld : Int)) > 70000 := by omega
          go_wp2_with fail
          go_ret
          refine ⟨?_, HK1.out⟩
          rw [HRE.out, tooN_one (fun h0 => hbig (by rw [← HLN.out]; exact (tooN_zero h0).2.2 X (HXM.out)))]
          rfl
      · obtain rfl : k = n := by omega
        have hfull : (L.map Prod.fst).take k = L.map Prod.fst := List.take_of_length_le (by rw [List.length_map, H.out.2.1]; exact Nat.le_refl _)
        have HF := Lib.hid hfull
        clear hfull
        by_cases hbig : m ≤ 100000
        · have hbi : ¬ (m : Int) > 100000 := by omega
          go_wp2_with fail
          go_ret
          refine ⟨?_, HK.out.2.2⟩
          have h1 := HK.out.1
          have h2 := HK.out.2.1
          rw [HF.out] at h1 h2
          rw [HRE.out]
          unfold tooN
          rw [if_pos ⟨by rw [List.length_map, H.out.2.1]; exact h40, by omega, List.all_eq_true.2 fun x hx => by simpa using h2 x hx⟩]
          rfl
        · have hbi : (m : Int) > 100000 := by omega
          go_wp2_with fail
          go_ret
          refine ⟨?_, HK.out.2.2⟩
          have h1 := HK.out.1
          rw [HF.out] at h1
          rw [HRE.out, tooN_one (fun h0 => by have := (tooN_zero h0).2.1; omega)]
          rfl
  · have h40i : (n : Int) > 40 := by omega
    go_wp2_with fail
    go_ret
    refine ⟨?_, Chg.refl _ _⟩
    rw [HRE.out, tooN_one (fun h0 => by have := (tooN_zero h0).1; rw [List.length_map, H.out.2.1] at this; omega)]
    rfl
end Go.Proofs.YtfhiioopimmahaaGreatDoor
namespace Go.Pax
open Go.RowKit
def RdC (w : World) (ao : Option Addr) (xs : List Value) : Prop := ∀ j u, xs[j]? = some u → ∃ a, ao = some a ∧ w.cell? (a.add j) = some u
theorem NdRd.cells {w : World} {fp : List Nat} {ao : Option Addr} {L : List (ANode × Value)} (h : NdRd w fp ao L) : RdC w ao (ndcells L) := fun j u hu => by
  have hj : j < L.length * 6 := by have := (List.getElem?_eq_some_iff.1 hu).1; rwa [ndcells_length] at this
  have hi : j / 6 < L.length := by omega
  obtain ⟨ad, h1, _, h3, h4⟩ := h (j / 6) hi
  have e : j = j / 6 * 6 + j % 6 := by omega
  have hc : (ndc L[j / 6].1 L[j / 6].2)[j % 6]? = some u := by
    rw [← ndcells_get L (j / 6) hi (j % 6) (by omega), ← e]; exact hu
  refine ⟨ad, h1, ?_⟩
  by_cases h0 : j = 0
  · subst h0
    have := h4 0 u hc
    have h5 : (ad.add (0 / 6 * 6)) = ad := by simp [Addr.add]
    rw [h5] at h3
    simp [ndc] at hc
    subst hc
    have h6 : ad.add 0 = ad := by simp [Addr.add]
    rw [h6]
    exact h3
  · have h5 := h4 (j % 6) u hc
    have h7 : ad.add j = ⟨(ad.add (j / 6 * 6)).block, (ad.add (j / 6 * 6)).off + j % 6, none⟩ := by
      unfold Addr.add
      rw [if_neg h0]
      split
      · simp only [Addr.mk.injEq, true_and, and_true]; omega
      · simp only [Addr.mk.injEq, true_and, and_true]; omega
    rw [h7]
    exact h5
theorem nd_one_cells {L : List (ANode × Value)} (h : ∀ x ∈ L, ∃ a l c, x.2 = .slice a l c) : ∀ u ∈ ndcells L, u.oneCell' = true := by
  induction L with
  | nil => intro u hu; simp [ndcells] at hu
  | cons x L ih =>
    intro u hu
    simp only [ndcells, List.mem_append] at hu
    rcases hu with hu | hu
    · obtain ⟨a, l, c, e⟩ := h x (by simp)
      unfold ndc at hu
      rw [e] at hu
      simp at hu
      rcases hu with rfl | rfl | rfl | rfl | rfl | rfl <;> rfl
    · exact ih (fun y hy => h y (List.mem_cons_of_mem _ hy)) u hu
section
variable {P : Program}
theorem own_shapeS {w : World} {B : Nat} {e : TypeId} {s : Nat} {v : Value} {n : Nat} {xs : List Value} (h : w.ownsRow B e s v n xs) : ∃ a c, v = .slice a n c := by
  rcases h.2 with ⟨rfl, rfl⟩ | ⟨g, cap, cur, rfl, _⟩
  · exact ⟨_, _, rfl⟩
  · exact ⟨_, _, rfl⟩
theorem run_append_rdS (w : World) (base : Nat) (t ty e : TypeId) (i : TypeInfo) (z : Value) (size bytes : Nat) (ht : P.underlying t = some (.slice e)) (hi : P.info? e = some i) (hz : i.zero = some z)
    (hsize : i.size = size) (hby : i.bytes = bytes) (hzs : z.cells.size = size) (hsz : 0 < size)
    (v : Value) (n : Nat) (xs : List Value) (hown : w.ownsRow base e size v n xs)
    (ao : Option Addr) (m c : Nat) (news : List Value) (hl : news.length = m * size) (hrd : RdC w ao news) (h1 : ∀ u ∈ news, u.oneCell' = true)
    (hbytes : (n + m) * bytes ≤ 140737488355328) (h63 : n + m ≤ maxLen) (hbase : base ≤ w.heap.size) :
    ∃ a' c' w', (Builtin.append_ #[t, t] ty #[v, .slice ao m c]).run P w = .ok (.slice a' (n + m) c') w' ∧ w'.ownsRow base e size (.slice a' (n + m) c') (n + m) (xs ++ news) ∧ w.grownBy w' v.ownBlock ∧
      ((Value.slice a' (n + m) c').ownBlock = v.ownBlock ∨ (Value.slice a' (n + m) c').ownBlock = some w.heap.size) := by
  cases news with
  | nil =>
    have hm : m = 0 := by
      rcases Nat.eq_zero_or_pos m with h | h
      · exact h
      · have := Nat.mul_pos h hsz
        simp at hl
        omega
    subst hm
    obtain ⟨a', c', rfl⟩ := own_shapeS hown
    exact ⟨a', c', w, run_append_zero w base t ty e i size ht hi _ n xs hown ao c, by simpa using hown, World.grownBy.refl _ _, .inl rfl⟩
  | cons x l =>
    obtain ⟨ad, rfl, _⟩ := hrd 0 x rfl
    obtain ⟨v', w', hr, h2, h3, _, h5⟩ := run_append_own_at (P := P) w base t ty e i z size bytes ht hi hz hsize hby hzs hsz v n xs hown ad m c (x :: l) hl (fun j u hu => by
      obtain ⟨a, ha, hc⟩ := hrd j u hu
      cases ha
      exact hc) h1 h63 hbytes hbase
    obtain ⟨a', c', rfl⟩ := own_shapeS h2
    exact ⟨a', c', w', hr, h2, h3, h5⟩
theorem wpList_append_rdS {w : World} {ops : Array Oper} {rest : List Oper} {o : Oper} {a : Act} {Q : Exit → Act → World → Prop} (hgd : o.guard = none) (s x : Operand) (t : TypeId)
    (ho : o.op = .call { callee := .builtin .append, args := #[s, x], argTypes := #[t, t] })
    (base : Nat) (e : TypeId) (i : TypeInfo) (z : Value) (size bytes : Nat) (ht : P.underlying t = some (.slice e)) (hi : P.info? e = some i) (hz : i.zero = some z)
    (hsize : i.size = size) (hby : i.bytes = bytes) (hzs : z.cells.size = size) (hsz : 0 < size)
    (v : Value) (n : Nat) (xs : List Value) (hs : a.eval s = v) (hown : w.ownsRow base e size v n xs)
    (ao : Option Addr) (m c : Nat) (news : List Value) (hx : a.eval x = .slice ao m c) (hl : news.length = m * size) (hrd : RdC w ao news) (h1 : ∀ u ∈ news, u.oneCell' = true)
    (hbytes : (n + m) * bytes ≤ 140737488355328) (h63 : n + m ≤ maxLen) (hbase : base ≤ w.heap.size)
    (h : ∀ a' c' w', w'.ownsRow base e size (.slice a' (n + m) c') (n + m) (xs ++ news) → w.grownBy w' v.ownBlock → ((Value.slice a' (n + m) c').ownBlock = v.ownBlock ∨ (Value.slice a' (n + m) c').ownBlock = some w.heap.size) → wpList P ops Q rest (a.put o.dst (.slice a' (n + m) c')) w') : wpList P ops Q (o :: rest) a w := by
  refine wpList_plain hgd fun K hK => ?_
  obtain ⟨a', c', w', hr, h2, h3, h4⟩ := run_append_rdS (P := P) w base t o.type e i z size bytes ht hi hz hsize hby hzs hsz v n xs hown ao m c news hl hrd h1 hbytes h63 hbase
  unfold Oper.wp execOp
  simp only [ho, resolve, invoke, builtin, Sem.run_bind, Sem.run_pure, Result.andThen_ok, List.map_toArray, List.map_cons, List.map_nil, hs, hx, hr]
  exact hK _ _ (h a' c' w' h2 h3 h4)
end
end Go.Pax
namespace Go.Pax
open Go.ChangeShapes Go.WideShapes Go.ChangeAt Go.RowKit

section
variable {H : Type} {enc : TypeId × Value → H} {P : Program} {W : World}

theorem Chg.to_below {w w' : World} (h : Chg [] w w') : Below w.heap.size w w' := ⟨h.os, h.tape, h.output, h.size, fun k hk => h.block k hk (by simp)⟩

theorem trodAll_below (hl : laidOutB P = true) {W' : World} (hb : Below W.heap.size W W') : ∀ {ts : List TypeId} {vs : List Value} {ds : List (DataW H)} {ps : List MemPlace},
    DataW.TrodAll enc P W 0 (fun _ => true) true ts vs ds ps → (∀ t ∈ ts, P.readableRec t = true ∧ t < P.types.size) → (∀ x ∈ ps, x.block < W.heap.size) →
    DataW.TrodAll enc P W' 0 (fun b => decide (b < W.heap.size)) true ts vs ds ps
  | [], vs, ds, ps, h, _, _ => by cases vs <;> cases ds <;> simp [DataW.TrodAll] at h ⊢; exact h
  | t :: ts, vs, ds, ps, h, hr, hlt => by
    obtain ⟨v, vs', d, ds', p, q, rfl, rfl, rfl, h0, h1⟩ := trodAll_cons h
    refine ⟨p, q, Below.trod hl (hr t (by simp)).1 (hr t (by simp)).2 h0 hb (fun x hx => hlt x (by simp [hx])), trodAll_below hl hb h1 (fun t ht => hr t (by simp [ht])) (fun x hx => hlt x (by simp [hx])), rfl⟩

/-- A LAW's ROW: the call returns true, of what was there nothing has changed. -/
theorem law_post {fn : Func} {s : ChangeSpec} {apart : Bool} {args : Array Value} {ds gs : List (DataW H)} {before : List MemPlace} {tb : TypeId} {W' : World}
    (hl : laidOutB P = true) (hv : s.vars = []) (hrt : fn.resultTypes = #[tb]) (htb : P.underlying tb = some .bool) (hr : ∀ t ∈ fn.params.toList, P.readableRec t = true ∧ t < P.types.size)
    (hspec : (s.fn H ds).results = [.lit (.bool true)] ∧ (s.fn H ds).args = ds ∧ (s.fn H ds).vars = [])
    (hW : DataW.Whole enc P fn.params.toList s.vars apart W args.toList ds gs before) (hc : Chg [] W W') :
    s.post enc P fn apart true false false W args (.bool true) W' := by
  have hW' := hW
  obtain ⟨p, q, hA, hV, rfl, hfz, hnd⟩ := hW
  rw [hv] at hV
  obtain ⟨rfl, rfl⟩ := trodVars_none hV
  have hlt : ∀ x ∈ p, x.block < W.heap.size := fun x hx => hW'.lt x (by simp [hx])
  refine ⟨ds, [], _, [], p, [], hW', ?_, ?_, ?_, hc.to_below.frame _, fun h => by cases h⟩
  · rw [List.append_nil, hspec.1, hrt]
    exact trodAll_mk1 (shut_bool htb true)
  · rw [List.append_nil, hspec.2.1]
    exact trodAll_below hl hc.to_below hA hr hlt
  · rw [List.append_nil, hspec.2.2, hv]
    exact rfl

/-- []byte. -/
theorem open_bytes {t e : TypeId} {fuel : Nat} {cs : List Value} {x : DataW H × List MemPlace} (ht : P.underlying t = some (.slice e)) (he : P.underlying e = some (.int .u8)) (hc : P.cellsOf e = 1) (hb : P.bytesOf e = 1)
    (h : DataW.trod enc P W 0 (fun _ => true) true fuel t cs = some x) (hs : ∀ n ∈ x.1.weights P t, n ≤ reachBytes) :
    ∃ ao cap b fp, cs = [.slice ao b.length cap] ∧ b.length ≤ 140737488355328 ∧ b.length ≤ cap ∧ Rd W fp ao (bv b) := by
  rcases open_ints ht he hc h with ⟨rfl, rfl⟩ | ⟨a, len, cap, zs, rfl, _, hl, hm, hz, rfl, hcell, hwz⟩
  · exact ⟨none, 0, [], [], rfl, by simp, by simp, Rd.nil _ _ _⟩
  · simp only [if_true] at hz
    have hreach := hs ((zs.take len).length * 1 + (zs.drop len).length * 1) (by simp [DataW.weights, ht, hb, lits])
    have hlen : ((zs.take len).map fun n => UInt8.ofNat n.toNat).length = len := by simp; omega
    refine ⟨some a, cap, (zs.take len).map fun n => UInt8.ofNat n.toNat, [a.block], by rw [hlen], ?_, by rw [hlen]; exact hl, ?_⟩
    · rw [hlen]; simp only [List.length_take, List.length_drop, reachBytes] at hreach; omega
    · intro j u hu
      have hj : j < len ∧ j < zs.length := by
        have := (List.getElem?_eq_some_iff.1 hu).1
        simp [bv] at this
        omega
      refine ⟨a, rfl, by simp, ?_⟩
      rw [hcell j hj.2, ← hu]
      have hw := hwz zs[j] (List.getElem_mem hj.2)
      have hr : 0 ≤ zs[j] ∧ zs[j] ≤ 255 := by simpa [Lit.wf, IntKind.min, IntKind.max, IntKind.signed, IntKind.bits] using hw
      simp [bv, hj.1, hj.2, List.getD]
      omega

/-- []int, []int64. -/
theorem open_i64s {t e : TypeId} {fuel : Nat} {cs : List Value} {x : DataW H × List MemPlace} (ht : P.underlying t = some (.slice e)) (he : P.underlying e = some (.int .i64)) (hc : P.cellsOf e = 1) (hb : P.bytesOf e = 8)
    (h : DataW.trod enc P W 0 (fun _ => true) true fuel t cs = some x) (hs : ∀ n ∈ x.1.weights P t, n ≤ reachBytes) :
    ∃ ao cap l fp, cs = [.slice ao l.length cap] ∧ l.length * 8 ≤ 140737488355328 ∧ Rd W fp ao (iv l) ∧ ∀ n ∈ l, -9223372036854775808 ≤ n ∧ n ≤ 9223372036854775807 := by
  rcases open_ints ht he hc h with ⟨rfl, rfl⟩ | ⟨a, len, cap, zs, rfl, _, hl, hm, hz, rfl, hcell, hwz⟩
  · exact ⟨none, 0, [], [], rfl, by simp, Rd.nil _ _ _, by simp⟩
  · simp only [if_true] at hz
    have hreach := hs (((zs.take len).length + (zs.drop len).length) * 8) (by simp [DataW.weights, ht, hb, lits])
    have hlen : (zs.take len).length = len := by simp; omega
    refine ⟨some a, cap, zs.take len, [a.block], by rw [hlen], ?_, ?_, ?_⟩
    · rw [hlen]; simp only [List.length_take, List.length_drop, reachBytes] at hreach; omega
    · intro j u hu
      have hj : j < len ∧ j < zs.length := by
        have := (List.getElem?_eq_some_iff.1 hu).1
        simp [iv] at this
        omega
      refine ⟨a, rfl, by simp, ?_⟩
      rw [hcell j hj.2, ← hu]
      simp [iv, hj.1, hj.2, List.getD]
    · intro n hn
      have hw := hwz n (List.mem_of_mem_take hn)
      simpa [Lit.wf, IntKind.min, IntKind.max, IntKind.signed, IntKind.bits] using hw
end
end Go.Pax

namespace Go.Pax
open Go.ChangeShapes Go.WideShapes Go.ChangeAt Go.RowKit Go.Deep
/-- One listed variable, out of the whole list's reading. -/
theorem laid_get {P : Program} {w : World} : ∀ {l : List (String × DataW Unit)} {ps : List MemPlace} {n : String} {d : DataW Unit}, DataW.LaidVars P w l ps → (n, d) ∈ l →
    ∃ g t cs fuel p, P.globalNamed n = some g ∧ (P.globals[g]?).map (·.type) = some t ∧ w.var? P n = some cs ∧ DataW.trod (fun _ => ()) P w 0 (fun _ => true) false fuel t cs.toList = some (d, p) ∧ ∀ x ∈ MemPlace.row ⟨g, 0, none⟩ cs.size, x ∈ ps
  | [], _, _, _, _, h => by simp at h
  | (n0, d0) :: r, ps, n, d, h, hm => by
    obtain ⟨g, t, cs, fuel, p, q, h1, h2, h3, h4, h5, rfl⟩ := h
    rcases List.mem_cons.1 hm with e | hm
    · cases e
      exact ⟨g, t, cs, fuel, p, h1, h2, h3, h4, fun x hx => by simp [hx]⟩
    · obtain ⟨g', t', cs', fuel', p', a1, a2, a3, a4, a5⟩ := laid_get h5 hm
      exact ⟨g', t', cs', fuel', p', a1, a2, a3, a4, fun x hx => by simp [a5 x hx]⟩
/-- A listed array of three strings, as it lies. -/
theorem laid_three {P : Program} {w : World} {l : List (String × DataW Unit)} {n : String} {s0 s1 s2 : List UInt8} {g t e : Nat} (h : laidMet P l w) (hm : (n, (.agg [.lit (.string s0), .lit (.string s1), .lit (.string s2)] : DataW Unit)) ∈ l)
    (hg : P.globalNamed n = some g) (ht : (P.globals[g]?).map (·.type) = some t) (hu : P.underlying t = some (.array 3 e)) (he : P.underlying e = some .string) (hc : P.cellsOf e = 1) (hct : P.cellsOf t = 3) :
    ∃ tt, w.heap[g]? = some (.cells #[.string (ba s0), .string (ba s1), .string (ba s2)] tt (0, 0)) := by
  obtain ⟨ps, hl, _, hp⟩ := h
  obtain ⟨g', t', cs, fuel, p, a1, a2, a3, a4, a5⟩ := laid_get hl hm
  obtain rfl := Option.some.inj (hg.symm.trans a1)
  obtain rfl := Option.some.inj (ht.symm.trans a2)
  obtain ⟨xs, m, _, hx, hlen, hn, hel⟩ := DataW.trod_array hu a4
  rw [hct] at hlen
  have hel0 := hel 0 (by omega)
  have hel1 := hel 1 (by omega)
  have hel2 := hel 2 (by omega)
  rw [hc] at hel0 hel1 hel2
  obtain ⟨cl⟩ := cs
  match cl, hlen, xs, hn with
  | [c0, c1, c2], _, [x0, x1, x2], _ =>
    simp only [Prod.mk.injEq, DataW.agg.injEq, List.map_cons, List.map_nil, List.cons.injEq] at hx
    obtain ⟨⟨k0, k1, k2, _⟩, _⟩ := hx
    obtain ⟨b0, e0, f0, _⟩ := DataW.trod_string he hel0
    obtain ⟨b1, e1, f1, _⟩ := DataW.trod_string he hel1
    obtain ⟨b2, e2, f2, _⟩ := DataW.trod_string he hel2
    simp at e0 e1 e2
    subst e0 e1 e2
    subst f0 f1 f2
    simp at k0 k1 k2
    have q0 : ba s0 = b0 := by rw [k0, ba_toList]
    have q1 : ba s1 = b1 := by rw [k1, ba_toList]
    have q2 : ba s2 = b2 := by rw [k2, ba_toList]
    obtain ⟨⟨c, tt, hb⟩, _⟩ := hp g 0 (a5 _ (by simp [MemPlace.row]))
    refine ⟨tt, ?_⟩
    have hv := a3
    unfold World.var? at hv
    rw [hg] at hv
    simp only [Option.bind_some, hb] at hv
    injection hv with hv
    rw [hb, hv, q0, q1, q2]

section
variable {H : Type} {enc : TypeId × Value → H} {P : Program} {W : World}
theorem weightsAll_mem {e : TypeId} : ∀ {l : List (DataW H)} {d : DataW H}, d ∈ l → ∀ n ∈ d.weights P e, n ∈ DataW.weightsAll P e l
  | d0 :: r, d, hd, n, hn => by
    simp only [DataW.weightsAll, List.mem_append]
    rcases List.mem_cons.1 hd with rfl | h
    · exact Or.inl hn
    · exact Or.inr (weightsAll_mem h n hn)
theorem open_act5 {t e ti ts tb q : TypeId} {f0 f1 f2 f3 f4 : Field} {fuel : Nat} {cs : List Value} {x : DataW H × List MemPlace} (ht : P.underlying t = some (.slice e)) (he : P.underlying e = some (.struct #[f0, f1, f2, f3, f4]))
    (e0 : f0.type = ti) (e1 : f1.type = ts) (e2 : f2.type = ti) (e3 : f3.type = tb) (e4 : f4.type = ts) (hk : P.underlying ti = some (.int .i64)) (hst : P.underlying ts = some .string) (hbq : P.underlying tb = some (.slice q)) (hq : P.underlying q = some (.int .u8))
    (hcq : P.cellsOf q = 1) (hb1 : P.bytesOf q = 1) (hone : oneCellFields P #[f0, f1, f2, f3, f4] = true) (hC : P.cellsOf e = 5) {B : Nat} (hB : P.bytesOf e = B)
    (h : DataW.trod enc P W 0 (fun _ => true) true fuel t cs = some x) (hs : ∀ n ∈ x.1.weights P t, n ≤ reachBytes) :
    ∃ ao cap L fp, cs = [.slice ao L.length cap] ∧ (L.length * B ≤ 140737488355328 ∧ ∀ y ∈ L, y.wf) ∧ RdAct W fp ao L := by
  rcases open_slice ht h with ⟨rfl, rfl⟩ | ⟨a, len, cap, m, n, D, Pl, rfl, hb0, hl, hm, hmm, rfl, hi⟩
  · exact ⟨none, 0, [], [], rfl, ⟨by simp, by simp⟩, fun i y hy => by simp at hy⟩
  simp only [if_true] at hmm
  have each : ∀ i, i < len → ∃ y : AAct × Option Addr × Nat × List Nat, W.cell? ((a.add (i * 5)).add 0) = some (.int .i64 y.1.kind) ∧ W.cell? ((a.add (i * 5)).add 1) = some (.string (ba y.1.path)) ∧
      W.cell? ((a.add (i * 5)).add 2) = some (.int .i64 y.1.mode) ∧ W.cell? ((a.add (i * 5)).add 3) = some (.slice y.2.1 y.1.data.length y.2.2.1) ∧ W.cell? ((a.add (i * 5)).add 4) = some (.string (ba y.1.target)) ∧
      y.1.data.length ≤ y.2.2.1 ∧ Rd W y.2.2.2 y.2.1 (bv y.1.data) ∧ y.1.wf := by
    intro i hil
    obtain ⟨cs', hc, ht'⟩ := hi i (by omega)
    rw [hC] at hc
    obtain ⟨ys, n', hn', hy, hlen, hyl, hf⟩ := DataW.trod_struct he ht'
    obtain ⟨_, hcl, hat⟩ := World.cells?_some hc
    simp only [Prod.mk.injEq] at hy
    have hwt : ∀ j (hj : j < 5) (f : Field), #[f0, f1, f2, f3, f4][j]? = some f → ∀ y : DataW H × List MemPlace, ys[j]? = some y → ∀ k ∈ y.1.weights P f.type, k ≤ reachBytes := by
      intro j hj f hfj y hyj k hk'
      refine hs k ?_
      simp only [DataW.weights, ht]
      refine List.mem_cons_of_mem _ (List.mem_append_left _ (weightsAll_mem (d := D i) (List.mem_map.2 ⟨i, List.mem_range.2 hil, rfl⟩) k ?_))
      rw [hy.1]
      simp only [DataW.weights, he]
      exact DataW.weights_mem_each (j := j) (t := f.type) (d := y.1) (by rw [List.getElem?_map, Array.getElem?_toList, hfj]; rfl) (by rw [List.getElem?_map, hyj]; rfl) k hk'
    have hfield : ∀ j (hj : j < 5) (f : Field), #[f0, f1, f2, f3, f4][j]? = some f → ∃ (v : Value) (y : DataW H × List MemPlace), W.cell? ((a.add (i * 5)).add j) = some v ∧ ys[j]? = some y ∧ DataW.trod enc P W 0 (fun _ => true) true n' f.type [v] = some y := by
      intro j hj f hfj
      obtain ⟨ho, hk'⟩ := hone_of hone j f hfj
      have hv : cs'[j]? = some (cs'[j]'(by omega)) := List.getElem?_eq_getElem (by omega)
      have h1 := hf j f hfj
      rw [ho, hk'] at h1
      have hone' : (cs'.drop j).take 1 = [cs'[j]'(by omega)] := by
        rw [List.drop_eq_getElem_cons (by omega)]
        rfl
      rw [hone'] at h1
      have hyl' : ys.length = 5 := hyl
      have hys : ys[j]? = some (ys[j]'(by omega)) := List.getElem?_eq_getElem (by omega)
      exact ⟨_, _, by rw [hat j hj, hv], hys, h1.trans hys⟩
    obtain ⟨v0, y0, c0, g0, t0⟩ := hfield 0 (by omega) f0 rfl
    obtain ⟨v1, y1, c1, g1, t1⟩ := hfield 1 (by omega) f1 rfl
    obtain ⟨v2, y2, c2, g2, t2⟩ := hfield 2 (by omega) f2 rfl
    obtain ⟨v3, y3, c3, g3, t3⟩ := hfield 3 (by omega) f3 rfl
    obtain ⟨v4, y4, c4, g4, t4⟩ := hfield 4 (by omega) f4 rfl
    rw [e0] at t0
    rw [e1] at t1
    rw [e2] at t2
    rw [e3] at t3
    rw [e4] at t4
    obtain ⟨k0, hk0, _, w0⟩ := DataW.trod_int hk t0
    obtain ⟨k2, hk2, _, w2⟩ := DataW.trod_int hk t2
    obtain ⟨s1, hs1, hx1, _⟩ := DataW.trod_string hst t1
    obtain ⟨s4, hs4, hx4, _⟩ := DataW.trod_string hst t4
    obtain ⟨ao, c, b, f, h1, h2, h3, h4⟩ := open_bytes hbq hq hcq hb1 t3 (fun k hk' => hwt 3 (by omega) f3 rfl y3 g3 k (by rw [e3]; exact hk'))
    have z1 : s1.data.toList.length ≤ reachBytes := hwt 1 (by omega) f1 rfl y1 g1 _ (by rw [hx1, e1]; simp [DataW.weights])
    have z4 : s4.data.toList.length ≤ reachBytes := hwt 4 (by omega) f4 rfl y4 g4 _ (by rw [hx4, e4]; simp [DataW.weights])
    simp at hk0 hk2 hs1 hs4 h1
    subst hk0 hk2 hs1 hs4 h1
    simp only [reachBytes] at z1 z4
    exact ⟨(⟨k0, s1.data.toList, k2, b, s4.data.toList⟩, ao, c, f), c0, by rw [ba_toList]; exact c1, c2, c3, by rw [ba_toList]; exact c4, h3, h4, by simpa [Lit.wf, IntKind.min, IntKind.max, IntKind.signed, IntKind.bits] using w0, by simpa [Lit.wf, IntKind.min, IntKind.max, IntKind.signed, IntKind.bits] using w2, by simp only; omega, h2, by simp only; omega⟩
  obtain ⟨y, hy⟩ := choose_lt each
  have hreach := hs ((len + (m - len)) * B) (by simp [DataW.weights, ht, hB])
  have hlen : ((List.range len).map fun i => (y i).1).length = len := by simp
  refine ⟨some a, cap, (List.range len).map (fun i => (y i).1), a.block :: (List.range len).flatMap (fun i => (y i).2.2.2), by rw [hlen], ⟨?_, ?_⟩, ?_⟩
  · rw [hlen]
    have h1 : len * B ≤ (len + (m - len)) * B := Nat.mul_le_mul_right _ (by omega)
    simp only [reachBytes] at hreach
    omega
  · intro z hz
    obtain ⟨i, hi', rfl⟩ := List.mem_map.1 hz
    exact (hy i (List.mem_range.1 hi')).2.2.2.2.2.2.2
  · intro i z hz
    have hi' : i < len := by have := (List.getElem?_eq_some_iff.1 hz).1; simpa using this
    simp [hi'] at hz
    subst hz
    obtain ⟨c0, c1, c2, c3, c4, h3, h4, _⟩ := hy i hi'
    exact ⟨a, _, _, rfl, by simp, c0, c1, c2, c3, c4, h3, h4.mono (fun k hk => List.mem_cons_of_mem _ (List.mem_flatMap.2 ⟨i, List.mem_range.2 hi', hk⟩))⟩
end
end Go.Pax
namespace Go.Proofs.YtfhiioopimmahaaGreatDoor
open Go.ChangeShapes Go.WideShapes Go.ChangeAt Go.RowKit Go.Pax Go.Joins Go.Deep

theorem Tryz.own : ownKnob Tryz.prog.godebug = none := by kernel_rfl
theorem Tryz.laidOut : laidOutB Tryz.prog = true := by kernel_rfl

theorem Tryz.vcellsI : Tryz.prog.cellsOf 3 = 1 := by kernel_rfl
theorem Tryz.vcellsB : Tryz.prog.cellsOf 5 = 1 := by kernel_rfl
theorem Tryz.vbytesI : Tryz.prog.bytesOf 3 = 8 := by kernel_rfl
theorem Tryz.vbytesB : Tryz.prog.bytesOf 5 = 1 := by kernel_rfl
theorem Tryz.vbytesS : Tryz.prog.bytesOf 9 = 16 := by kernel_rfl
theorem Tryz.vcellsS : Tryz.prog.cellsOf 9 = 1 := by kernel_rfl

theorem Tryz.readable {ts : List TypeId} (h : (ts.all fun t => Tryz.prog.readableRec t && decide (t < Tryz.prog.types.size)) = true) : ∀ t ∈ ts, Tryz.prog.readableRec t = true ∧ t < Tryz.prog.types.size := by
  intro t ht
  have := List.all_eq_true.1 h t ht
  simpa using this

section
variable {H : Type} {enc : TypeId × Value → H} {W : World}
theorem Tryz.sized {ts : List TypeId} {ds : List (DataW H)} (h : (DataW.weightsEach Tryz.prog ts ds).all (· ≤ reachBytes) = true) (j : Nat) {t : TypeId} {d : DataW H} (ht : ts[j]? = some t) (hd : ds[j]? = some d) : ∀ n ∈ d.weights Tryz.prog t, n ≤ reachBytes := by
  intro n hn
  simpa using List.all_eq_true.1 h _ (DataW.weights_mem_each ht hd n hn)

theorem Tryz.law_reads {fn : Func} {s : ChangeSpec} {apart : Bool} {args : Array Value} {ds gs : List (DataW H)} {before : List MemPlace} (hv : s.vars = [])
    (hW : DataW.Whole enc Tryz.prog fn.params.toList s.vars apart W args.toList ds gs before) (hsz : (DataW.weightsEach Tryz.checked.prog (fn.params.toList ++ s.plain.varTypes Tryz.checked.prog) (ds ++ gs)).all (· ≤ reachBytes) = true) :
    DataW.TrodAll enc Tryz.prog W 0 (fun _ => true) true fn.params.toList args.toList ds before ∧ (DataW.weightsEach Tryz.prog fn.params.toList ds).all (· ≤ reachBytes) = true := by
  obtain ⟨p, q, hA, hV, rfl, hfz, hnd⟩ := hW
  rw [hv] at hV
  obtain ⟨rfl, rfl⟩ := trodVars_none hV
  have hvt : s.plain.varTypes Tryz.checked.prog = [] := by
    have h0 : s.plain.vars = [] := hv
    unfold DataSpec.varTypes
    rw [h0]
    rfl
  rw [hvt, List.append_nil, List.append_nil] at hsz
  exact ⟨by simpa using hA, hsz⟩

set_option maxRecDepth 100000 in
theorem Tryz.openB {r : Reach} {b0 : Nat} {v : Value} {d : DataW H} {p : List MemPlace} (hv : Value.okWide Tryz.prog W r b0 43 v) (h : DataW.Trod enc Tryz.prog W 0 (fun _ => true) true 43 v d p) (hs : ∀ n ∈ d.weights Tryz.prog 43, n ≤ reachBytes) :
    ∃ ao cap b fp, v = .slice ao b.length cap ∧ b.length ≤ 140737488355328 ∧ b.length ≤ cap ∧ Rd W fp ao (bv b) := by
  obtain ⟨a, l, c, rfl⟩ := okWide_slice Tryz.underlying43 hv
  obtain ⟨fuel, hf⟩ := h
  obtain ⟨ao, cap, b, fp, hcs, h1, h2, h3⟩ := open_bytes Tryz.underlying43 Tryz.underlying5 Tryz.vcellsB Tryz.vbytesB hf hs
  simp [Value.cells] at hcs
  obtain ⟨rfl, rfl, rfl⟩ := hcs
  exact ⟨_, _, b, fp, rfl, h1, h2, h3⟩
set_option maxRecDepth 100000 in
theorem Tryz.openI {r : Reach} {b0 : Nat} {v : Value} {d : DataW H} {p : List MemPlace} (hv : Value.okWide Tryz.prog W r b0 31 v) (h : DataW.Trod enc Tryz.prog W 0 (fun _ => true) true 31 v d p) (hs : ∀ n ∈ d.weights Tryz.prog 31, n ≤ reachBytes) :
    ∃ ao cap l fp, v = .slice ao l.length cap ∧ l.length * 8 ≤ 140737488355328 ∧ Rd W fp ao (iv l) ∧ ∀ n ∈ l, -9223372036854775808 ≤ n ∧ n ≤ 9223372036854775807 := by
  obtain ⟨a, l, c, rfl⟩ := okWide_slice Tryz.underlying31 hv
  obtain ⟨fuel, hf⟩ := h
  obtain ⟨ao, cap, b, fp, hcs, h1, h2, h3⟩ := open_i64s Tryz.underlying31 Tryz.underlying3 Tryz.vcellsI Tryz.vbytesI hf hs
  simp [Value.cells] at hcs
  obtain ⟨rfl, rfl, rfl⟩ := hcs
  exact ⟨_, _, b, fp, rfl, h1, h2, h3⟩
set_option maxRecDepth 100000 in
theorem Tryz.openS {r : Reach} {b0 : Nat} {v : Value} {d : DataW H} {p : List MemPlace} (hv : Value.okWide Tryz.prog W r b0 9 v) (h : DataW.Trod enc Tryz.prog W 0 (fun _ => true) true 9 v d p) (hs : ∀ n ∈ d.weights Tryz.prog 9, n ≤ reachBytes) :
    ∃ l : List UInt8, v = .string (ba l) ∧ l.length ≤ 140737488355328 := by
  obtain ⟨s, rfl, rfl, _, _⟩ := Go.ChangeMaps.open_string Tryz.underlying9 hv h
  refine ⟨s.data.toList, by rw [ba_toList], ?_⟩
  have := hs s.data.toList.length (by simp [DataW.weights])
  simp only [reachBytes] at this
  omega
set_option maxRecDepth 100000 in
theorem Tryz.openA {r : Reach} {b0 : Nat} {v : Value} {d : DataW H} {p : List MemPlace} (hv : Value.okWide Tryz.prog W r b0 24 v) (h : DataW.Trod enc Tryz.prog W 0 (fun _ => true) true 24 v d p) (hs : ∀ n ∈ d.weights Tryz.prog 24, n ≤ reachBytes) :
    ∃ ao cap L fp, v = .slice ao L.length cap ∧ (L.length ≤ 140737488355328 ∧ ∀ y ∈ L, y.wf) ∧ RdAct W fp ao L := by
  obtain ⟨a, l, c, rfl⟩ := okWide_slice Tryz.underlying24 hv
  obtain ⟨fuel, hf⟩ := h
  obtain ⟨ao, cap, b, fp, hcs, h1, h2⟩ := open_act5 (ti := 3) (ts := 9) (tb := 43) Tryz.underlying24 Tryz.underlying53 rfl rfl rfl rfl rfl Tryz.underlying3 Tryz.underlying9 Tryz.underlying43 Tryz.underlying5 Tryz.vcellsB Tryz.vbytesB (by kernel_rfl) (by kernel_rfl) (B := 72) (by kernel_rfl) hf hs
  simp [Value.cells] at hcs
  obtain ⟨rfl, rfl, rfl⟩ := hcs
  exact ⟨_, _, b, fp, rfl, ⟨by omega, h1.2⟩, h2⟩
end
/-- The listed variable paxrec.keys, as it lies. -/
theorem Tryz.keysAt {W : World} {l : List (String × DataW Unit)} (hm : ("paxtar/paxrec.keys", (Rows.laid_paxtar_paxrec_keys : DataW Unit)) ∈ l) (h : laidMetH Tryz.prog l W) (hn : (l.all fun x => x.2.handleName?.isNone) = true) : KeysAt W := by
  rw [MakeChecks.laidMetH_plain _ _ _ hn] at h
  exact laid_three (n := "paxtar/paxrec.keys") h hm (by kernel_rfl) (t := 177) (by kernel_rfl) (e := 9) Tryz.underlying177 Tryz.underlying9 Tryz.vcellsS (by kernel_rfl)
end Go.Proofs.YtfhiioopimmahaaGreatDoor
namespace Go.Pax
open Go.ChangeShapes Go.WideShapes Go.ChangeAt Go.RowKit Go.Joins Go.Deep
def ANode.wf (x : ANode) : Prop := (-9223372036854775808 ≤ x.kind ∧ x.kind ≤ 9223372036854775807) ∧ (-9223372036854775808 ≤ x.mode ∧ x.mode ≤ 9223372036854775807) ∧ (-9223372036854775808 ≤ x.cls ∧ x.cls ≤ 9223372036854775807) ∧ x.path.length ≤ 140737488355328 ∧ x.target.length ≤ 140737488355328 ∧ x.data.length ≤ 140737488355328
/-- A node of an argument: its numbers and strings in their bounds, its data as the slice reads. -/
def NdWf (w : World) (fd : List Nat) (x : ANode × Value) : Prop := x.1.wf ∧ RdD w fd x.2 x.1.data
theorem NdWf.mono {w : World} {fp gp : List Nat} {x : ANode × Value} (h : NdWf w fp x) (hs : ∀ k ∈ fp, k ∈ gp) : NdWf w gp x := by
  refine ⟨h.1, ?_⟩
  obtain ⟨a, c, h1, h2⟩ := h.2
  exact ⟨a, c, h1, h2.mono hs⟩
instance : Inhabited ANode := ⟨⟨0, [], 0, [], [], 0⟩⟩
section
variable {P : Program} {H : Type} {enc : TypeId × Value → H} {W : World}
theorem open_node6 {t e ti ts tb q : TypeId} {f0 f1 f2 f3 f4 f5 : Field} {fuel : Nat} {cs : List Value} {x : DataW H × List MemPlace} (ht : P.underlying t = some (.slice e)) (he : P.underlying e = some (.struct #[f0, f1, f2, f3, f4, f5]))
    (e0 : f0.type = ti) (e1 : f1.type = ts) (e2 : f2.type = ti) (e3 : f3.type = ts) (e4 : f4.type = tb) (e5 : f5.type = ti) (hk : P.underlying ti = some (.int .i64)) (hst : P.underlying ts = some .string) (hbq : P.underlying tb = some (.slice q)) (hq : P.underlying q = some (.int .u8))
    (hcq : P.cellsOf q = 1) (hb1 : P.bytesOf q = 1) (hone : oneCellFields P #[f0, f1, f2, f3, f4, f5] = true) (hC : P.cellsOf e = 6) {B : Nat} (hB : P.bytesOf e = B)
    (h : DataW.trod enc P W 0 (fun _ => true) true fuel t cs = some x) (hs : ∀ n ∈ x.1.weights P t, n ≤ reachBytes) :
    ∃ ao cap L fp, cs = [.slice ao L.length cap] ∧ (L.length * B ≤ 140737488355328 ∧ ∀ y ∈ L, NdWf W fp y) ∧ NdRd W fp ao L := by
  rcases open_slice ht h with ⟨rfl, rfl⟩ | ⟨a, len, cap, m, n, D, Pl, rfl, hb0, hl, hm, hmm, rfl, hi⟩
  · exact ⟨none, 0, [], [], rfl, ⟨by simp, by simp⟩, fun i hi => by simp at hi⟩
  simp only [if_true] at hmm
  have each : ∀ i, i < len → ∃ y : ANode × Option Addr × Nat × List Nat, W.cell? ((a.add (i * 6)).add 0) = some (.int .i64 y.1.kind) ∧ W.cell? ((a.add (i * 6)).add 1) = some (.string (ba y.1.path)) ∧
      W.cell? ((a.add (i * 6)).add 2) = some (.int .i64 y.1.mode) ∧ W.cell? ((a.add (i * 6)).add 3) = some (.string (ba y.1.target)) ∧ W.cell? ((a.add (i * 6)).add 4) = some (.slice y.2.1 y.1.data.length y.2.2.1) ∧ W.cell? ((a.add (i * 6)).add 5) = some (.int .i64 y.1.cls) ∧
      Rd W y.2.2.2 y.2.1 (bv y.1.data) ∧ y.1.wf := by
    intro i hil
    obtain ⟨cs', hc, ht'⟩ := hi i (by omega)
    rw [hC] at hc
    obtain ⟨ys, n', hn', hy, hlen, hyl, hf⟩ := DataW.trod_struct he ht'
    obtain ⟨_, hcl, hat⟩ := World.cells?_some hc
    simp only [Prod.mk.injEq] at hy
    have hwt : ∀ j (hj : j < 6) (f : Field), #[f0, f1, f2, f3, f4, f5][j]? = some f → ∀ y : DataW H × List MemPlace, ys[j]? = some y → ∀ k ∈ y.1.weights P f.type, k ≤ reachBytes := by
      intro j hj f hfj y hyj k hk'
      refine hs k ?_
      simp only [DataW.weights, ht]
      refine List.mem_cons_of_mem _ (List.mem_append_left _ (weightsAll_mem (d := D i) (List.mem_map.2 ⟨i, List.mem_range.2 hil, rfl⟩) k ?_))
      rw [hy.1]
      simp only [DataW.weights, he]
      exact DataW.weights_mem_each (j := j) (t := f.type) (d := y.1) (by rw [List.getElem?_map, Array.getElem?_toList, hfj]; rfl) (by rw [List.getElem?_map, hyj]; rfl) k hk'
    have hfield : ∀ j (hj : j < 6) (f : Field), #[f0, f1, f2, f3, f4, f5][j]? = some f → ∃ (v : Value) (y : DataW H × List MemPlace), W.cell? ((a.add (i * 6)).add j) = some v ∧ ys[j]? = some y ∧ DataW.trod enc P W 0 (fun _ => true) true n' f.type [v] = some y := by
      intro j hj f hfj
      obtain ⟨ho, hk'⟩ := hone_of hone j f hfj
      have hv : cs'[j]? = some (cs'[j]'(by omega)) := List.getElem?_eq_getElem (by omega)
      have h1 := hf j f hfj
      rw [ho, hk'] at h1
      have hone' : (cs'.drop j).take 1 = [cs'[j]'(by omega)] := by
        rw [List.drop_eq_getElem_cons (by omega)]
        rfl
      rw [hone'] at h1
      have hyl' : ys.length = 6 := hyl
      have hys : ys[j]? = some (ys[j]'(by omega)) := List.getElem?_eq_getElem (by omega)
      exact ⟨_, _, by rw [hat j hj, hv], hys, h1.trans hys⟩
    obtain ⟨v0, y0, c0, g0, t0⟩ := hfield 0 (by omega) f0 rfl
    obtain ⟨v1, y1, c1, g1, t1⟩ := hfield 1 (by omega) f1 rfl
    obtain ⟨v2, y2, c2, g2, t2⟩ := hfield 2 (by omega) f2 rfl
    obtain ⟨v3, y3, c3, g3, t3⟩ := hfield 3 (by omega) f3 rfl
    obtain ⟨v4, y4, c4, g4, t4⟩ := hfield 4 (by omega) f4 rfl
    obtain ⟨v5, y5, c5, g5, t5⟩ := hfield 5 (by omega) f5 rfl
    rw [e0] at t0
    rw [e1] at t1
    rw [e2] at t2
    rw [e3] at t3
    rw [e4] at t4
    rw [e5] at t5
    obtain ⟨k0, hk0, _, w0⟩ := DataW.trod_int hk t0
    obtain ⟨k2, hk2, _, w2⟩ := DataW.trod_int hk t2
    obtain ⟨k5, hk5, _, w5⟩ := DataW.trod_int hk t5
    obtain ⟨s1, hs1, hx1, _⟩ := DataW.trod_string hst t1
    obtain ⟨s3, hs3, hx3, _⟩ := DataW.trod_string hst t3
    obtain ⟨ao, c, b, f, h1, h2, h3, h4⟩ := open_bytes hbq hq hcq hb1 t4 (fun k hk' => hwt 4 (by omega) f4 rfl y4 g4 k (by rw [e4]; exact hk'))
    have z1 : s1.data.toList.length ≤ reachBytes := hwt 1 (by omega) f1 rfl y1 g1 _ (by rw [hx1, e1]; simp [DataW.weights])
    have z3 : s3.data.toList.length ≤ reachBytes := hwt 3 (by omega) f3 rfl y3 g3 _ (by rw [hx3, e3]; simp [DataW.weights])
    simp at hk0 hk2 hk5 hs1 hs3 h1
    subst hk0 hk2 hk5 hs1 hs3 h1
    simp only [reachBytes] at z1 z3
    exact ⟨(⟨k0, s1.data.toList, k2, s3.data.toList, b, k5⟩, ao, c, f), c0, by rw [ba_toList]; exact c1, c2, by rw [ba_toList]; exact c3, c4, c5, h4, by simpa [Lit.wf, IntKind.min, IntKind.max, IntKind.signed, IntKind.bits] using w0, by simpa [Lit.wf, IntKind.min, IntKind.max, IntKind.signed, IntKind.bits] using w2, by simpa [Lit.wf, IntKind.min, IntKind.max, IntKind.signed, IntKind.bits] using w5, by simp only; omega, by simp only; omega, h2⟩
  obtain ⟨y, hy⟩ := choose_lt each
  have hreach := hs ((len + (m - len)) * B) (by simp [DataW.weights, ht, hB])
  have hlen : ((List.range len).map fun i => ((y i).1, Value.slice (y i).2.1 (y i).1.data.length (y i).2.2.1)).length = len := by simp
  refine ⟨some a, cap, (List.range len).map (fun i => ((y i).1, Value.slice (y i).2.1 (y i).1.data.length (y i).2.2.1)), a.block :: (List.range len).flatMap (fun i => (y i).2.2.2), by rw [hlen], ⟨?_, ?_⟩, ?_⟩
  · rw [hlen]
    have h1 : len * B ≤ (len + (m - len)) * B := Nat.mul_le_mul_right _ (by omega)
    simp only [reachBytes] at hreach
    omega
  · intro z hz
    obtain ⟨i, hi', rfl⟩ := List.mem_map.1 hz
    obtain ⟨_, _, _, _, _, _, h4, h5⟩ := hy i (List.mem_range.1 hi')
    exact ⟨h5, _, _, rfl, h4.mono (fun k hk => List.mem_cons_of_mem _ (List.mem_flatMap.2 ⟨i, hi', hk⟩))⟩
  · intro i hi0
    have hi' : i < len := by rw [hlen] at hi0; exact hi0
    obtain ⟨c0, c1, c2, c3, c4, c5, _, _⟩ := hy i hi'
    have hblk : (a.add (i * 6)).block = a.block := by unfold Addr.add; split <;> rfl
    have e0 : (a.add (i * 6)).add 0 = a.add (i * 6) := by simp [Addr.add]
    rw [e0] at c0
    have hspot : (a.add (i * 6)).spot = none := by
      cases hsp : (a.add (i * 6)).spot with
      | none => rfl
      | some z => unfold World.cell? at c0; rw [hsp] at c0; split at c0 <;> simp at c0
    have es : ∀ j, j ≠ 0 → (a.add (i * 6)).add j = ⟨(a.add (i * 6)).block, (a.add (i * 6)).off + j, none⟩ := fun j hj => by
      generalize a.add (i * 6) = ad
      unfold Addr.add
      rw [if_neg hj]
    have ez : a.add (i * 6) = ⟨(a.add (i * 6)).block, (a.add (i * 6)).off + 0, none⟩ := by
      rw [Nat.add_zero, ← hspot]
    rw [List.getElem_map, List.getElem_range]
    refine ⟨a, rfl, by rw [hblk]; simp, c0, fun j u hu => ?_⟩
    match j, hu with
    | 0, hu => simp [ndc] at hu; subst hu; rw [← ez]; exact c0
    | 1, hu => simp [ndc] at hu; subst hu; rw [← es 1 (by omega)]; exact c1
    | 2, hu => simp [ndc] at hu; subst hu; rw [← es 2 (by omega)]; exact c2
    | 3, hu => simp [ndc] at hu; subst hu; rw [← es 3 (by omega)]; exact c3
    | 4, hu => simp [ndc] at hu; subst hu; rw [← es 4 (by omega)]; exact c4
    | 5, hu => simp [ndc] at hu; subst hu; rw [← es 5 (by omega)]; exact c5
    | j + 6, hu => simp [ndc] at hu
end
end Go.Pax
namespace Go.Proofs.YtfhiioopimmahaaGreatDoor
open Go.ChangeShapes Go.WideShapes Go.ChangeAt Go.RowKit Go.Pax Go.Joins Go.Deep
section
variable {H : Type} {enc : TypeId × Value → H} {W : World}
set_option maxRecDepth 100000 in
theorem Tryz.openM {r : Reach} {b0 : Nat} {v : Value} {d : DataW H} {p : List MemPlace} (hv : Value.okWide Tryz.prog W r b0 35 v) (h : DataW.Trod enc Tryz.prog W 0 (fun _ => true) true 35 v d p) (hs : ∀ n ∈ d.weights Tryz.prog 35, n ≤ reachBytes) :
    ∃ ao cap L fp, v = .slice ao L.length cap ∧ (L.length ≤ 140737488355328 ∧ ∀ y ∈ L, NdWf W fp y) ∧ NdRd W fp ao L := by
  obtain ⟨a, l, c, rfl⟩ := okWide_slice Tryz.underlying35 hv
  obtain ⟨fuel, hf⟩ := h
  obtain ⟨ao, cap, b, fp, hcs, h1, h2⟩ := open_node6 (ti := 3) (ts := 9) (tb := 43) Tryz.underlying35 Tryz.underlying45 rfl rfl rfl rfl rfl rfl Tryz.underlying3 Tryz.underlying9 Tryz.underlying43 Tryz.underlying5 Tryz.vcellsB Tryz.vbytesB (by kernel_rfl) (by kernel_rfl) (B := 80) (by kernel_rfl) hf hs
  simp [Value.cells] at hcs
  obtain ⟨rfl, rfl, rfl⟩ := hcs
  exact ⟨_, _, b, fp, rfl, ⟨by omega, h1.2⟩, h2⟩
end
end Go.Proofs.YtfhiioopimmahaaGreatDoor
namespace Go.Proofs
open Go.Shelf
def Tryz.lays193_ren : Go.Shelf.Ren := ⟨fun | 193 => 22 | n => n, fun | 31 => 47 | 9 => 9 | 4 => 4 | 3 => 3 | 0 => 0 | n => n, fun | n => n⟩
theorem Tryz.lays193 : Go.Proofs.Lays.n193 Tryz.prog Tryz.lays193_ren := {
  mixed := by kernel_rfl
  f193 := Tryz.func22.trans (congrArg some (by kernel_rfl))
  t0 := Tryz.underlying0
  a0 := Tryz.isAgg0
  z0 := Tryz.sizeOf0
  v0 := Tryz.zeroValue0
  t3 := Tryz.underlying3
  a3 := Tryz.isAgg3
  z3 := Tryz.sizeOf3
  v3 := Tryz.zeroValue3
  t4 := Tryz.underlying4
  a4 := Tryz.isAgg4
  z4 := Tryz.sizeOf4
  v4 := Tryz.zeroValue4
  t9 := Tryz.underlying9
  a9 := Tryz.isAgg9
  z9 := Tryz.sizeOf9
  v9 := Tryz.zeroValue9
  t31 := Tryz.underlying47
  a31 := Tryz.isAgg47
  z31 := Tryz.sizeOf47
  v31 := Tryz.zeroValue47 }
open Go.RowKit Go.Lib in
/-- slices.Equal at []string: "Equal reports whether two slices are equal: the same length and all elements equal. If the lengths are different, Equal returns false. Otherwise, the elements are compared in increasing index order, and the comparison stops at the first unequal pair. Empty and nil slices are considered equal.": IT RETURNS WHETHER THE TWO LISTS OF ELEMENTS ARE ONE; the world is as it was but for the count of draws (the test 's1[i] != s2[i]' has two reads, whose order the model draws, once a round). 'xs', 'ys': what the cells behind the two addresses hold (the spare capacity too, if you have it); 'xs.take n', 'ys.take m': the elements. THE TWO SLICES MAY OVERLAP. (LAID: no walk: one application.) -/
theorem Tryz.slices_Equal_string (b1 o1 n c b2 o2 m d : Nat) (xs ys : List ByteArray) (w : World) (hx : n ≤ xs.length) (hy : m ≤ ys.length) (hbig : n ≤ 9223372036854775807) (hbig2 : m ≤ 9223372036854775807) (hc1 : ∀ j, j < xs.length → w.cell? ⟨b1, o1 + j, none⟩ = some (.string (xs.getD j ByteArray.empty))) (hc2 : ∀ j, j < ys.length → w.cell? ⟨b2, o2 + j, none⟩ = some (.string (ys.getD j ByteArray.empty))) :
    Calls Tryz.prog 22 #[.slice (some ⟨b1, o1, none⟩) n c, .slice (some ⟨b2, o2, none⟩) m d] w fun e w' => e = .returned (.bool (decide (xs.take n = ys.take m))) ∧ ∃ q, w' = w.drewN q := Any.slices_Equal_string Tryz.lays193 b1 o1 n c b2 o2 m d xs ys w hx hy hbig hbig2 hc1 hc2
open Go.RowKit Go.Lib in
/-- The same where the first is of length 0 (a nil one too): no cell is asked for. (LAID: no walk: one application.) -/
theorem Tryz.slices_Equal_string_empty (a1 a2 : Option Addr) (c m d : Nat) (w : World) (hbig2 : m ≤ 9223372036854775807) :
    Calls Tryz.prog 22 #[.slice a1 0 c, .slice a2 m d] w fun e w' => e = .returned (.bool (decide (m = 0))) ∧ w' = w := Any.slices_Equal_string_empty Tryz.lays193 a1 a2 c m d w hbig2
def Tryz.laysNm216_ren : Go.Shelf.Ren := ⟨fun | 16 => 95 | n => n, fun | 24 => 47 | 9 => 9 | 4 => 4 | n => n, fun | n => n⟩
theorem Tryz.laysNm216 : Go.Proofs.Lays2.n16 Tryz.prog Tryz.laysNm216_ren := {
  mixed := by kernel_rfl
  f16 := Tryz.func95.trans (congrArg some (by kernel_rfl))
  t4 := Tryz.underlying4
  a4 := Tryz.isAgg4
  z4 := Tryz.sizeOf4
  v4 := Tryz.zeroValue4
  t9 := Tryz.underlying9
  a9 := Tryz.isAgg9
  z9 := Tryz.sizeOf9
  v9 := Tryz.zeroValue9
  t24 := Tryz.underlying47
  a24 := Tryz.isAgg47
  z24 := Tryz.sizeOf47
  v24 := Tryz.zeroValue47
  i9 := by kernel_rfl }
open Go.RowKit Go.Lib in
theorem Tryz.slices_Equal_string_lens (a1 a2 : Option Addr) (n c m d : Nat) (w : World) (hnm : n ≠ m) :
    Calls Tryz.prog 22 #[.slice a1 n c, .slice a2 m d] w fun e w' => e = .returned (.bool false) ∧ w' = w := Any.slices_Equal_string_lens Tryz.lays193 a1 a2 n c m d w hnm
end Go.Proofs
