/- Maps from integers to integers: what they hold; their lookup and their store. tree.counts at nodes and their classes. tree.Canon: how the classes are numbered. What tree.Check answers: plain. What extract.Tree does: plain. -/
import Derived.Test.YtfhiioopimmahaaGreatDoorPO02
import Derived.Test.YtfhiioopimmahaaGreatDoorPO07
import Derived.Test.YtfhiioopimmahaaGreatDoorPO10
import Derived.Test.YtfhiioopimmahaaGreatDoorPO12
import Derived.Test.YtfhiioopimmahaaGreatDoorPO13
namespace Go.Pax
open Go.RowKit
def entJ (x : Int × Int) : Value × Value := (.int .i64 x.1, .int .i64 x.2)
def MapJ (w : World) (m : Nat) (l : List (Int × Int)) : Prop :=
  ∃ es clock, w.heap[m]? = some (.map es clock) ∧ es.toList.map (fun e => (e.key, e.val)) = l.map entJ
def lkJ : List (Int × Int) → Int → Option Int
  | [], _ => none
  | x :: l, k => if k = x.1 then some x.2 else lkJ l k
/-- The list behind a store. -/
def upJ : List (Int × Int) → Int → Int → List (Int × Int)
  | [], k, v => [(k, v)]
  | x :: l, k, v => if k = x.1 then (k, v) :: l else x :: upJ l k v
theorem lkJ_upJ (l : List (Int × Int)) (k : Int) (v : Int) (j : Int) : lkJ (upJ l k v) j = if j = k then some v else lkJ l j := by
  induction l with
  | nil => simp only [upJ, lkJ]
  | cons x l ih =>
    simp only [upJ]
    split
    · rename_i h
      subst h
      simp only [lkJ]
      split
      · rfl
      · rfl
    · rename_i h
      simp only [lkJ, ih]
      by_cases h1 : j = x.1
      · rw [if_pos h1, if_pos h1, if_neg (fun e => h (e.symm.trans h1))]
      · rw [if_neg h1, if_neg h1]
theorem MapJ.chg {w w' : World} {m : Nat} {l : List (Int × Int)} {S : List Nat} (h : MapJ w m l) (k : Chg S w w') (hm : m ∉ S) : MapJ w' m l := by
  obtain ⟨es, c, h1, h2⟩ := h
  exact ⟨es, c, k.heap h1 hm, h2⟩
theorem MapJ.block {w w' : World} {m : Nat} {l : List (Int × Int)} (h : MapJ w m l) (k : w'.heap[m]? = w.heap[m]?) : MapJ w' m l := by
  obtain ⟨es, c, h1, h2⟩ := h
  exact ⟨es, c, by rw [k, h1], h2⟩
theorem MapJ.lt {w : World} {m : Nat} {l : List (Int × Int)} (h : MapJ w m l) : m < w.heap.size := by
  obtain ⟨es, c, h1, _⟩ := h
  exact (Array.getElem?_eq_some_iff.1 h1).1
theorem MapJ.new (w : World) : MapJ (w.alloc (.map #[] 0)) w.heap.size [] := ⟨#[], 0, heap_alloc_new _ _, rfl⟩
theorem findJ_none (k : Int) : ∀ (es : List MapEntry) (l : List (Int × Int)) (_ : es.map (fun e => (e.key, e.val)) = l.map entJ) (i : Nat), lkJ l k = none → Instr.findNow (.int .i64) (.int .i64 k) es i = some none ∧ upJ l k = fun v => l ++ [(k, v)]
  | [], [], _, i, _ => ⟨rfl, rfl⟩
  | [], x :: l, h, i, _ => by simp at h
  | e :: es, [], h, i, _ => by simp at h
  | e :: es, x :: l, h, i, hl => by
    simp only [List.map_cons, List.cons.injEq, entJ, Prod.mk.injEq] at h
    obtain ⟨⟨h1, h2⟩, h3⟩ := h
    simp only [lkJ] at hl
    split at hl
    · cases hl
    · rename_i hne
      have hb : (k == x.1) = false := by simpa using hne
      obtain ⟨g1, g2⟩ := findJ_none k es l h3 (i + 1) hl
      refine ⟨by simp only [Instr.findNow, h1, Instr.sameNow, hb, if_true]; exact g1, ?_⟩
      funext v
      simp only [upJ, if_neg hne, g2, List.cons_append]
theorem findJ_some (k : Int) (b : Int) : ∀ (es : List MapEntry) (l : List (Int × Int)) (_ : es.map (fun e => (e.key, e.val)) = l.map entJ) (i : Nat), lkJ l k = some b →
    ∃ j, Instr.findNow (.int .i64) (.int .i64 k) es i = some (some (i + j, .int .i64 b)) ∧ (es[j]?).map (·.key) = some (.int .i64 k) ∧ ∀ v, upJ l k v = l.take j ++ (k, v) :: l.drop (j + 1)
  | [], [], _, i, h => by simp [lkJ] at h
  | [], x :: l, h, i, _ => by simp at h
  | e :: es, [], h, i, _ => by simp at h
  | e :: es, x :: l, h, i, hl => by
    simp only [List.map_cons, List.cons.injEq, entJ, Prod.mk.injEq] at h
    obtain ⟨⟨h1, h2⟩, h3⟩ := h
    simp only [lkJ] at hl
    split at hl
    · rename_i he
      have hb : (k == x.1) = true := by simpa using he
      injection hl with hl
      subst hl
      refine ⟨0, by simp only [Instr.findNow, h1, Instr.sameNow, hb, if_true, h2, Nat.add_zero], by simp [h1, he], fun v => by simp [upJ, he]⟩
    · rename_i hne
      have hb : (k == x.1) = false := by simpa using hne
      obtain ⟨j, g1, g2, g3⟩ := findJ_some k b es l h3 (i + 1) hl
      refine ⟨j + 1, ?_, by simpa using g2, fun v => by simp [upJ, if_neg hne, g3]⟩
      simp only [Instr.findNow, h1, Instr.sameNow, hb, if_true]
      rw [g1, show i + 1 + j = i + (j + 1) by omega]
section
variable {P : Program} {w : World} {m : Nat} {l : List (Int × Int)} {T K E : TypeId}
theorem run_checkKey_intJ {em : Bool} (hK : P.underlying K = some (.int .i64)) (k : Int) (w : World) : (Instr.checkKey em 10000 K (.int .i64 k)).run P w = .ok () w := by
  rw [show (10000 : Nat) = 9999 + 1 from rfl, Instr.checkKey]
  simp [run_underlying hK]
theorem run_lookupJ_some (hT : P.underlying T = some (.map K E)) (hK : P.underlying K = some (.int .i64)) (h : MapJ w m l) {k : Int} {b : Int} (hl : lkJ l k = some b) :
    (Instr.lookup T (.map (some m)) (.int .i64 k) true).run P w = .ok (.tuple #[.int .i64 b, .bool true]) w := by
  obtain ⟨es, c, hb, he⟩ := h
  obtain ⟨j, hj, _, _⟩ := findJ_some k b es.toList l he 0 hl
  simp [Instr.lookup, run_underlying hT, MapKept.run_getObj_map hb, run_checkKey_intJ hK, MapKept.run_findKey hK hj, Result.andThen]
theorem run_lookupJ_none (hT : P.underlying T = some (.map K E)) (hK : P.underlying K = some (.int .i64)) (hz : ∀ W, (zeroValue E).run P W = .ok (.int .i64 0) W) (h : MapJ w m l) {k : Int} (hl : lkJ l k = none) :
    (Instr.lookup T (.map (some m)) (.int .i64 k) true).run P w = .ok (.tuple #[.int .i64 0, .bool false]) w := by
  obtain ⟨es, c, hb, he⟩ := h
  have hj := (findJ_none k es.toList l he 0 hl).1
  simp [Instr.lookup, run_underlying hT, MapKept.run_getObj_map hb, run_checkKey_intJ hK, MapKept.run_findKey hK hj, hz, Result.andThen]
theorem run_lookupJ1_some (hT : P.underlying T = some (.map K E)) (hK : P.underlying K = some (.int .i64)) (h : MapJ w m l) {k : Int} {b : Int} (hl : lkJ l k = some b) :
    (Instr.lookup T (.map (some m)) (.int .i64 k) false).run P w = .ok (.int .i64 b) w := by
  obtain ⟨es, c, hb, he⟩ := h
  obtain ⟨j, hj, _, _⟩ := findJ_some k b es.toList l he 0 hl
  simp [Instr.lookup, run_underlying hT, MapKept.run_getObj_map hb, run_checkKey_intJ hK, MapKept.run_findKey hK hj, Result.andThen]
theorem run_lookupJ1_none (hT : P.underlying T = some (.map K E)) (hK : P.underlying K = some (.int .i64)) (hz : ∀ W, (zeroValue E).run P W = .ok (.int .i64 0) W) (h : MapJ w m l) {k : Int} (hl : lkJ l k = none) :
    (Instr.lookup T (.map (some m)) (.int .i64 k) false).run P w = .ok (.int .i64 0) w := by
  obtain ⟨es, c, hb, he⟩ := h
  have hj := (findJ_none k es.toList l he 0 hl).1
  simp [Instr.lookup, run_underlying hT, MapKept.run_getObj_map hb, run_checkKey_intJ hK, MapKept.run_findKey hK hj, hz, Result.andThen]
/-- What a lookup gives, 0 where there is none. -/
theorem run_lookupJ1 (hT : P.underlying T = some (.map K E)) (hK : P.underlying K = some (.int .i64)) (hz : ∀ W, (zeroValue E).run P W = .ok (.int .i64 0) W) (h : MapJ w m l) (k : Int) :
    (Instr.lookup T (.map (some m)) (.int .i64 k) false).run P w = .ok (.int .i64 ((lkJ l k).getD 0)) w := by
  cases hl : lkJ l k with
  | none => exact run_lookupJ1_none hT hK hz h hl
  | some b => exact run_lookupJ1_some hT hK h hl
theorem same_intJ (k : Int) : Instr.sameBits 10000 (.int .i64 k) (.int .i64 k) = true := by
  rw [show (10000 : Nat) = 9999 + 1 from rfl, Instr.sameBits]
  simp
theorem run_updateJ (hT : P.underlying T = some (.map K E)) (hK : P.underlying K = some (.int .i64)) (h : MapJ w m l) (k : Int) (v : Int) :
    ∃ w', (Instr.mapUpdate T (.map (some m)) (.int .i64 k) (.int .i64 v)).run P w = .ok () w' ∧ MapJ w' m (upJ l k v) ∧ Chg [m] w w' ∧ w'.heap.size = w.heap.size := by
  obtain ⟨es, c, hb, he⟩ := h
  have hlt := (Array.getElem?_eq_some_iff.1 hb).1
  cases hl : lkJ l k with
  | none =>
    obtain ⟨hj, hup⟩ := findJ_none k es.toList l he 0 hl
    refine ⟨{ w with heap := w.heap.setIfInBounds m (.map (es.push { key := .int .i64 k, val := .int .i64 v, born := c }) (c + 1)) }, ?_, ⟨es.push { key := .int .i64 k, val := .int .i64 v, born := c }, c + 1, ?_, ?_⟩, ⟨rfl, rfl, rfl, ?_, ?_⟩, ?_⟩
    · simp [Instr.mapUpdate, run_underlying hT, MapKept.run_getObj_map hb, run_checkKey_intJ hK, MapKept.run_findKey hK hj, MapKept.run_setObj_map _ hb, Result.andThen]
    · simp [hlt]
    · rw [hup]; simp [he, entJ]
    · simp
    · intro i hi hm
      simp at hm
      simp [Ne.symm hm]
    · simp
  | some b =>
    obtain ⟨j, hj, hkey, hup⟩ := findJ_some k b es.toList l he 0 hl
    rw [Nat.zero_add] at hj
    have hkey' : (es[j]?).map (·.key) = some (.int .i64 k) := by simpa using hkey
    refine ⟨{ w with heap := w.heap.setIfInBounds m (.map (es.modify j fun e => { e with key := .int .i64 k, val := .int .i64 v }) c) }, ?_, ⟨_, c, by simp [hlt]; rfl, ?_⟩, ⟨rfl, rfl, rfl, ?_, ?_⟩, ?_⟩
    · simp [Instr.mapUpdate, run_underlying hT, MapKept.run_getObj_map hb, run_checkKey_intJ hK, MapKept.run_findKey hK hj, MapKept.run_setObj_map _ hb, Result.andThen, hkey', Instr.keyThatStays, same_intJ]
    · have hjl : j < es.toList.length := by
        cases h1 : es.toList[j]? with
        | none => rw [h1] at hkey; simp at hkey
        | some x => exact (List.getElem?_eq_some_iff.1 h1).1
      have hlen : es.toList.length = l.length := by simpa using congrArg List.length he
      have e1 : l.take j ++ (k, v) :: l.drop (j + 1) = l.set j (k, v) := by
        rw [List.set_eq_take_append_cons_drop, if_pos (by omega)]
      rw [hup, e1]
      apply List.ext_getElem?
      intro i
      have hi := congrArg (fun z => z[i]?) he
      simp only [List.getElem?_map] at hi
      rw [List.getElem?_map, Array.toList_modify, List.getElem?_modify, List.getElem?_map, List.getElem?_set]
      by_cases hij : j = i
      · subst hij
        rw [List.getElem?_eq_getElem hjl]
        simp [hlen ▸ hjl, entJ]
      · simp only [if_neg hij]
        simpa [hij] using hi
    · simp
    · intro i hi hm
      simp at hm
      simp [Ne.symm hm]
    · simp
end
end Go.Pax
namespace Go.Pax
open Go.RowKit
/-- Nodes that a slice reads as. -/
def NdRd (w : World) (fp : List Nat) (ao : Option Addr) (L : List (ANode × Value)) : Prop :=
  ∀ i (hi : i < L.length), ∃ ad, ao = some ad ∧ (ad.add (i * 6)).block ∈ fp ∧ w.cell? (ad.add (i * 6)) = some (.int .i64 L[i].1.kind) ∧ ∀ j u, (ndc L[i].1 L[i].2)[j]? = some u → w.cell? ⟨(ad.add (i * 6)).block, (ad.add (i * 6)).off + j, none⟩ = some u
theorem NdRd.chg {w w' : World} {S fp : List Nat} {ao : Option Addr} {L : List (ANode × Value)} (h : NdRd w fp ao L) (k : Chg S w w') (hS : ∀ g ∈ fp, g ∉ S) : NdRd w' fp ao L := fun i hi => by
  obtain ⟨ad, h1, h2, h0, h3⟩ := h i hi
  exact ⟨ad, h1, h2, k.cell h0 (hS _ h2), fun j u hu => k.cell (h3 j u hu) (hS _ h2)⟩
def cntUp (l : List (Int × Int)) (k : Int) : List (Int × Int) := upJ l k ((lkJ l k).getD 0 + 1)
def cnts (L : List (ANode × Value)) : List (Int × Int) := L.foldl (fun l x => cntUp l x.1.cls) []
def cntOf (L : List (ANode × Value)) (k : Int) : Nat := (L.filter fun x => decide (x.1.cls = k)).length
theorem cnts_snoc (L : List (ANode × Value)) (x : ANode × Value) : cnts (L ++ [x]) = cntUp (cnts L) x.1.cls := by simp [cnts, List.foldl_append]
theorem cnts_acc (k : Int) : ∀ (L : List (ANode × Value)) (acc : List (Int × Int)), (lkJ (L.foldl (fun l x => cntUp l x.1.cls) acc) k).getD 0 = (lkJ acc k).getD 0 + cntOf L k
  | [], acc => by simp [cntOf]
  | x :: L, acc => by
    rw [List.foldl_cons, cnts_acc k L]
    unfold cntUp
    rw [lkJ_upJ]
    by_cases h : k = x.1.cls
    · subst h
      have e : cntOf (x :: L) x.1.cls = cntOf L x.1.cls + 1 := by simp [cntOf]
      rw [if_pos rfl, e]
      simp only [Option.getD_some]
      omega
    · have e : cntOf (x :: L) k = cntOf L k := by unfold cntOf; rw [List.filter_cons_of_neg (by simpa using Ne.symm h)]
      rw [if_neg h, e]
theorem cnts_at (L : List (ANode × Value)) (k : Int) : (lkJ (cnts L) k).getD 0 = cntOf L k := by
  unfold cnts
  rw [cnts_acc]
  simp [lkJ]
theorem cntOf_le (L : List (ANode × Value)) (k : Int) : cntOf L k ≤ L.length := List.length_filter_le _ _
end Go.Pax
namespace Go.Proofs.YtfhiioopimmahaaGreatDoor
open Go.RowKit Go.Pax Go.Shelf
theorem ndRd_of_own {w : World} {B : Nat} {v : Value} {n : Nat} {L : List (ANode × Value)} (h : w.ownsRow B 45 6 v n (ndcells L)) : ∃ ao c, v = .slice ao n c ∧ NdRd w v.ownBlock.toList ao L := by
  obtain ⟨ao, c, rfl, _, hr⟩ := own_rdS h
  refine ⟨ao, c, rfl, fun i hi => ?_⟩
  have hf := own_fld h
  have hc0 : (ndcells L)[i * 6]? = some (.int .i64 L[i].1.kind) := by
    have := ndcells_get L i hi 0 (by omega)
    rw [Nat.add_zero] at this
    rw [this]; rfl
  obtain ⟨ad, h1, h2, h0⟩ := hr (i * 6) _ hc0
  refine ⟨ad, h1, by rw [block_add]; exact h2, h0, fun j u hu => ?_⟩
  have hj : j < 6 := by have := (List.getElem?_eq_some_iff.1 hu).1; simpa [ndc] using this
  obtain ⟨a, h3, h4⟩ := hf (i * 6) j u (by rw [ndcells_get L i hi j hj]; exact hu)
  rw [h1] at h3
  cases h3
  exact h4
set_option maxHeartbeats 2000000 in
theorem clsNd (x : ANode) (a : Option Addr) (l c : Nat) (w : World) : Calls Tryz.prog 74 #[ndV x (.slice a l c)] w fun e w' => e = .returned (.int .i64 x.cls) ∧ Chg [] w w' := by
  unfold ndV
  generalize x.kind = x1 at *
  generalize ba x.path = x2 at *
  generalize x.mode = x3 at *
  generalize ba x.target = x4 at *
  generalize x.cls = x5 at *
  go_enter Tryz.func74, Tryz.ntmps74
  go_wp2_with fail
  go_ret
  exact ⟨rfl, (Chg.refl _ _).alloc _⟩
set_option maxRecDepth 100000 in
set_option maxHeartbeats 8000000 in
theorem counts (w : World) (ao : Option Addr) (n cap : Nat) (fp : List Nat) (L : List (ANode × Value)) (h : NdRd w fp ao L) (hn : L.length = n) (hnB : n ≤ 1000000) (hdv : ∀ x ∈ L, ∃ a l c, x.2 = .slice a l c) (hfp : ∀ g ∈ fp, g < w.heap.size) :
    Calls Tryz.prog 73 #[.slice ao n cap, .func (.func 74) #[] #[]] w fun e w' => ∃ m, e = .returned (.map (some m)) ∧ w.heap.size ≤ m ∧ MapJ w' m (cnts L) ∧ Chg [] w w' := by
  have H := Lib.hid (And.intro h (And.intro hn (And.intro hdv hfp)))
  have hmm := @run_makeMap Tryz.prog
  have HMN := Lib.hid (MapJ.new w)
  have hkm : Chg [] w (w.alloc (.map #[] 0)) := (Chg.refl _ _).alloc _
  have HKM := Lib.hid hkm
  clear h hn hdv hkm hfp
  go_enter Tryz.func73, Tryz.ntmps73
  go_wp2_with fail
  obtain ⟨m, hm⟩ : ∃ x, x = w.heap.size := ⟨_, rfl⟩
  rw [← hm] at HMN ⊢
  have HME := Lib.hid hm
  clear hm hmm
  generalize w.alloc (.map #[] 0) = W0 at *
  go_loopw [11, 7] (fun u _ wr => ∃ k : Nat, u = .int .i64 k ∧ k ≤ n ∧ MapJ wr m (cnts (L.take k)) ∧ Chg [m] W0 wr) (fun u _ _ => n - (intOf u).toNat)
  case atStart => exact ⟨0, rfl, Nat.zero_le _, HMN.out, Chg.refl _ _⟩
  case round =>
    obtain ⟨k, rfl, hkn, hmp, hk⟩ := hrel
    have HK := Lib.hid (And.intro hmp (And.intro hkn hk))
    have hkB : k ≤ 1000000 := by omega
    clear hmp hkn hk
    by_cases hlt : k < n
    · have hkL : k < L.length := by rw [H.out.2.1]; exact hlt
      obtain ⟨ad, rfl, hbl, c0, hcl⟩ := ((H.out.1.chg HKM.out (by simp)).chg HK.out.2.2 (fun g hg hm => by have := H.out.2.2.2 g hg; have := HME.out; simp at hm; omega)) k hkL
      obtain ⟨a, l, c, hd⟩ := H.out.2.2.1 _ (List.getElem_mem hkL)
      rw [hd] at hcl
      have hts : cnts (L.take (k + 1)) = cntUp (cnts (L.take k)) L[k].1.cls := by rw [List.take_add_one, List.getElem?_eq_getElem hkL]; simp only [Option.toList]; rw [cnts_snoc]
      have HTS := Lib.hid hts
      have HCL := Lib.hid (fun W => clsNd L[k].1 a l c W)
      have c1 := hcl 1 _ rfl
      have c2 := hcl 2 _ rfl
      have c3 := hcl 3 _ rfl
      have c4 := hcl 4 _ rfl
      have c5 := hcl 5 _ rfl
      clear hcl hts hd hbl
      generalize L[k].1 = X at *
      unfold ndV at HCL
      generalize X.kind = x1 at *
      generalize ba X.path = x2 at *
      generalize X.mode = x3 at *
      generalize ba X.target = x4 at *
      generalize X.cls = x6 at *
      have HLU := Lib.hid (fun W (kw : Chg [] wr W) => And.intro (run_lookupJ1 (P := Tryz.prog) (T := 136) Tryz.underlying136 Tryz.underlying3 (fun W => by kernel_rfl) (HK.out.1.chg kw (by simp)) x6) (run_updateJ (P := Tryz.prog) (T := 136) Tryz.underlying136 Tryz.underlying3 (HK.out.1.chg kw (by simp)) x6 ((lkJ (cnts (L.take k)) x6).getD 0 + 1)))
      have hcb := cntOf_le (L.take k) x6
      have hca := cnts_at (L.take k) x6
      have HUP := Lib.hid (show cntUp (cnts (L.take k)) x6 = upJ (cnts (L.take k)) x6 ((lkJ (cnts (L.take k)) x6).getD 0 + 1) from rfl)
      have hcn : (L.take k).length ≤ 1000000 := by rw [List.length_take]; omega
      obtain ⟨C, hC⟩ : ∃ z : Int, z = (lkJ (cnts (L.take k)) x6).getD 0 := ⟨_, rfl⟩
      rw [← hC] at HLU HUP hca
      have hC0 : 0 ≤ C := by omega
      have hC1 : C ≤ 1000000 := by omega
      clear hca hcb hcn hC
      go_upto_region 5 with (fail)
      clear c0 c1 c2 c3 c4 c5
      have e1 := heap_alloc_new wr (.cells #[.int .i64 x1, .string x2, .int .i64 x3, .string x4, .slice a l c, .int .i64 x6] 45)
      have hk1 : Chg [] wr (wr.alloc (.cells #[.int .i64 x1, .string x2, .int .i64 x3, .string x4, .slice a l c, .int .i64 x6] 45)) := (Chg.refl _ _).alloc _
      have HK1 := Lib.hid hk1
      clear hk1
      generalize wr.alloc (.cells #[.int .i64 x1, .string x2, .int .i64 x3, .string x4, .slice a l c, .int .i64 x6] 45) = W1 at *
      obtain ⟨bn, hbn⟩ : ∃ x, x = wr.heap.size := ⟨_, rfl⟩
      rw [← hbn] at e1 ⊢
      clear hbn
      have j0 := cell_heap e1 0 (v := .int .i64 x1) rfl
      have j1 := cell_heap e1 1 (v := .string x2) rfl
      have j2 := cell_heap e1 2 (v := .int .i64 x3) rfl
      have j3 := cell_heap e1 3 (v := .string x4) rfl
      have j4 := cell_heap e1 4 (v := .slice a l c) rfl
      have j5 := cell_heap e1 5 (v := .int .i64 x6) rfl
      clear e1
      go_wp2_with (go_at_call 74; refine (HCL.out _).mono ?_; rintro e w2 ⟨rfl, hk2⟩; have HK2 := Lib.hid (HK1.out.trans hk2); have hlu := (HLU.out w2 HK2.out).1; obtain ⟨w3, hup, hm3, hk3, _⟩ := (HLU.out w2 HK2.out).2; have HW3 := Lib.hid (And.intro hm3 hk3); clear hk2 hm3 hk3)
      go_roundw
      case rel => exact ⟨k + 1, by go_num, by omega, by rw [HTS.out, HUP.out]; exact HW3.out.1, (HK.out.2.2.trans (HK2.out.mono (by simp))).trans HW3.out.2⟩
      case measure => simp [intOf]; omega
    · have hkk : k = n := by have := HK.out.2.1; omega
      subst hkk
      go_wp2_with fail
      go_ret
      refine ⟨m, rfl, Nat.le_of_eq HME.out.symm, ?_, HKM.out.trans' HK.out.2.2 (by simp) (fun x hx hl => by have := HME.out; simp at hx; omega)⟩
      have := HK.out.1
      rw [List.take_of_length_le (Nat.le_of_eq H.out.2.1)] at this
      exact this
end Go.Proofs.YtfhiioopimmahaaGreatDoor
namespace Go.Pax
open Go.RowKit
/-- One node's new class, and the numbers behind it. -/
def numStep (cnt : Int → Int) (s : List (Int × Int)) (c : Int) : List (Int × Int) × Int :=
  if c ≤ 0 ∨ cnt c < 2 then (s, 0) else match lkJ s c with
    | some b => (s, b)
    | none => (upJ s c ((s.length : Int) + 1), (s.length : Int) + 1)
def canonStep (cnt : Int → Int) (r : List (Int × Int) × List ANode) (x : ANode) : List (Int × Int) × List ANode :=
  ((numStep cnt r.1 x.cls).1, r.2 ++ [{ x with cls := (numStep cnt r.1 x.cls).2 }])
def canonS (cnt : Int → Int) (l : List ANode) : List (Int × Int) × List ANode := l.foldl (canonStep cnt) ([], [])
theorem canonS_snoc (cnt : Int → Int) (l : List ANode) (x : ANode) : canonS cnt (l ++ [x]) = canonStep cnt (canonS cnt l) x := by simp [canonS, List.foldl_append]
theorem upJ_new_length (l : List (Int × Int)) (k v : Int) (h : lkJ l k = none) : (upJ l k v).length = l.length + 1 := by
  induction l with
  | nil => rfl
  | cons x l ih =>
    simp only [lkJ] at h
    split at h
    · cases h
    · rename_i hne
      simp only [upJ, if_neg hne, List.length_cons, ih h]
/-- Numbers from 1 on, each to one class. -/
structure NumOk (s : List (Int × Int)) : Prop where
  range : ∀ c b, lkJ s c = some b → 1 ≤ b ∧ b ≤ s.length
  inj : ∀ c d b, lkJ s c = some b → lkJ s d = some b → c = d
theorem NumOk.nil : NumOk [] := ⟨fun c b h => by simp [lkJ] at h, fun c d b h => by simp [lkJ] at h⟩
theorem NumOk.step {cnt : Int → Int} {s : List (Int × Int)} (h : NumOk s) (c : Int) : NumOk (numStep cnt s c).1 ∧ (∀ d b, lkJ s d = some b → lkJ (numStep cnt s c).1 d = some b) ∧ (numStep cnt s c).1.length ≤ s.length + 1 ∧
    (¬ (c ≤ 0 ∨ cnt c < 2) → lkJ (numStep cnt s c).1 c = some (numStep cnt s c).2) ∧ ((c ≤ 0 ∨ cnt c < 2) → (numStep cnt s c).2 = 0) := by
  unfold numStep
  by_cases h0 : c ≤ 0 ∨ cnt c < 2
  · rw [if_pos h0]
    exact ⟨h, fun _ _ hb => hb, by simp, fun hn => absurd h0 hn, fun _ => rfl⟩
  · rw [if_neg h0]
    cases hl : lkJ s c with
    | some b => exact ⟨h, fun _ _ hb => hb, by simp, fun _ => hl, fun hp => absurd hp h0⟩
    | none =>
      have hlen := upJ_new_length s c ((s.length : Int) + 1) hl
      refine ⟨⟨fun d b hd => ?_, fun d e' b hd he => ?_⟩, fun d b hd => ?_, Nat.le_of_eq hlen, fun _ => by simp only; rw [lkJ_upJ, if_pos rfl], fun hp => absurd hp h0⟩
      · simp only at hd ⊢
        rw [hlen]
        rw [lkJ_upJ] at hd
        by_cases e : d = c
        · rw [if_pos e] at hd; cases hd; omega
        · rw [if_neg e] at hd; have := h.range d b hd; omega
      · simp only at hd he
        rw [lkJ_upJ] at hd he
        by_cases e : d = c
        · rw [if_pos e] at hd
          by_cases e2 : e' = c
          · rw [e, e2]
          · rw [if_neg e2] at he; cases hd; have := h.range _ _ he; omega
        · rw [if_neg e] at hd
          by_cases e2 : e' = c
          · rw [if_pos e2] at he; cases he; have := h.range _ _ hd; omega
          · rw [if_neg e2] at he; exact h.inj _ _ _ hd he
      · simp only
        rw [lkJ_upJ, if_neg (fun e => by rw [e, hl] at hd; cases hd)]
        exact hd
/-- The class that the canonical form gives. -/
def newCls (cnt : Int → Int) (s : List (Int × Int)) (c : Int) : Int := if c ≤ 0 ∨ cnt c < 2 then 0 else (lkJ s c).getD 0
theorem canon_fold (cnt : Int → Int) : ∀ (l : List ANode) (s : List (Int × Int)) (out : List ANode), NumOk s →
    NumOk (l.foldl (canonStep cnt) (s, out)).1 ∧ (∀ d b, lkJ s d = some b → lkJ (l.foldl (canonStep cnt) (s, out)).1 d = some b) ∧ (l.foldl (canonStep cnt) (s, out)).1.length ≤ s.length + l.length ∧
      (l.foldl (canonStep cnt) (s, out)).2 = out ++ l.map (fun x => { x with cls := newCls cnt (l.foldl (canonStep cnt) (s, out)).1 x.cls }) ∧ ∀ x ∈ l, ¬ (x.cls ≤ 0 ∨ cnt x.cls < 2) → ∃ b, lkJ (l.foldl (canonStep cnt) (s, out)).1 x.cls = some b
  | [], s, out, h => ⟨h, fun _ _ hb => hb, by simp, by simp, fun x hx => by simp at hx⟩
  | x :: l, s, out, h => by
    obtain ⟨h1, h2, h3, h4, h5⟩ := h.step (cnt := cnt) x.cls
    obtain ⟨g1, g2, g3, g4, g5⟩ := canon_fold cnt l (numStep cnt s x.cls).1 (out ++ [{ x with cls := (numStep cnt s x.cls).2 }]) h1
    have e : (x :: l).foldl (canonStep cnt) (s, out) = l.foldl (canonStep cnt) ((numStep cnt s x.cls).1, out ++ [{ x with cls := (numStep cnt s x.cls).2 }]) := rfl
    rw [e]
    generalize l.foldl (canonStep cnt) ((numStep cnt s x.cls).1, out ++ [{ x with cls := (numStep cnt s x.cls).2 }]) = r at *
    have hx : newCls cnt r.1 x.cls = (numStep cnt s x.cls).2 := by
      unfold newCls
      by_cases hc : x.cls ≤ 0 ∨ cnt x.cls < 2
      · rw [if_pos hc, h5 hc]
      · rw [if_neg hc, g2 _ _ (h4 hc)]
        rfl
    refine ⟨g1, fun d b hb => g2 d b (h2 d b hb), by simp only [List.length_cons]; omega, ?_, fun y hy hn => ?_⟩
    · rw [g4, List.map_cons, hx]
      simp
    · rcases List.mem_cons.1 hy with rfl | hy
      · exact ⟨_, g2 _ _ (h4 hn)⟩
      · exact g5 y hy hn
theorem canonS_ok (cnt : Int → Int) (l : List ANode) : NumOk (canonS cnt l).1 ∧ (canonS cnt l).1.length ≤ l.length ∧ (canonS cnt l).2 = l.map (fun x => { x with cls := newCls cnt (canonS cnt l).1 x.cls }) ∧ ∀ x ∈ l, ¬ (x.cls ≤ 0 ∨ cnt x.cls < 2) → ∃ b, lkJ (canonS cnt l).1 x.cls = some b := by
  obtain ⟨h1, _, h3, h4, h5⟩ := canon_fold cnt l [] [] NumOk.nil
  exact ⟨h1, by simpa [canonS] using h3, by simpa [canonS] using h4, h5⟩
/-- Two nodes share a class behind it just where they shared one that counts. -/
theorem newCls_eq {cnt : Int → Int} {s : List (Int × Int)} (h : NumOk s) {c d : Int} (hc : ¬ (c ≤ 0 ∨ cnt c < 2) → ∃ b, lkJ s c = some b) (hd : ¬ (d ≤ 0 ∨ cnt d < 2) → ∃ b, lkJ s d = some b) :
    (0 < newCls cnt s c ↔ ¬ (c ≤ 0 ∨ cnt c < 2)) ∧ ((0 < newCls cnt s c ∧ newCls cnt s c = newCls cnt s d) ↔ (¬ (c ≤ 0 ∨ cnt c < 2) ∧ c = d)) := by
  have pos : ∀ c, (¬ (c ≤ 0 ∨ cnt c < 2) → ∃ b, lkJ s c = some b) → (0 < newCls cnt s c ↔ ¬ (c ≤ 0 ∨ cnt c < 2)) := fun c hc => by
    unfold newCls
    by_cases h0 : c ≤ 0 ∨ cnt c < 2
    · rw [if_pos h0]; exact ⟨fun hz => absurd hz (by omega), fun hn => absurd h0 hn⟩
    · obtain ⟨b, hb⟩ := hc h0
      rw [if_neg h0, hb]
      have := h.range c b hb
      exact ⟨fun _ => h0, fun _ => by simp only [Option.getD_some]; omega⟩
  refine ⟨pos c hc, fun ⟨h1, h2⟩ => ?_, fun ⟨h1, h2⟩ => ?_⟩
  · have h3 := (pos c hc).1 h1
    have h4 := (pos d hd).1 (by rw [← h2]; exact h1)
    obtain ⟨b, hb⟩ := hc h3
    obtain ⟨b', hb'⟩ := hd h4
    unfold newCls at h2
    rw [if_neg h3, if_neg h4, hb, hb'] at h2
    simp only [Option.getD_some] at h2
    subst h2
    exact ⟨h3, h.inj _ _ _ hb hb'⟩
  · subst h2
    exact ⟨(pos c hc).2 h1, rfl⟩
end Go.Pax
namespace Go.Pax
open Go.RowKit
def cntA (l : List ANode) (c : Int) : Int := ((l.filter fun x => decide (x.cls = c)).length : Int)
theorem cnts_cntA (L : List (ANode × Value)) : (fun c => (lkJ (cnts L) c).getD 0) = cntA (L.map Prod.fst) := by
  funext c
  rw [cnts_at]
  unfold cntOf cntA
  rw [List.filter_map, List.length_map]
  rfl
end Go.Pax
namespace Go.Pax
open Go.RowKit
def ndAt (l : List ANode) (i : Nat) : ANode := l.getD i ⟨0, [], 0, [], [], 0⟩
theorem ndAt_eq {l : List ANode} {i : Nat} (h : i < l.length) : ndAt l i = l[i] := by unfold ndAt; simp [List.getD, List.getElem?_eq_getElem h]
def hasDir (l : List ANode) (p : Str) : Bool := decide (p = []) || l.any fun x => decide (x.kind = 0) && decide (x.path = p)
/-- A further node of a class, against the first. -/
def togM (o : Option ANode) (x : ANode) : Int := match o with
  | none => 0
  | some m => if m.mode ≠ x.mode ∨ m.data ≠ x.data then 15 else 0
/-- A node in the context of the list. -/
def togE (l : List ANode) (i : Nat) : Int :=
  if (l.take i).any (fun x => decide (x.path = (ndAt l i).path)) then 14
  else if hasDir l (parentP (ndAt l i).path) = false then 13
  else if (ndAt l i).cls = 0 then 0
  else togM ((l.take i).find? fun x => decide (x.cls = (ndAt l i).cls)) (ndAt l i)
def treeE (l : List ANode) : Nat × Int :=
  match (List.range l.length).find? fun i => decide (nodeE (ndAt l i) ≠ 0) with
  | some i => (i, nodeE (ndAt l i))
  | none => match (List.range l.length).find? fun i => decide (togE l i ≠ 0) with
    | some i => (i, togE l i)
    | none => (l.length, 0)
theorem find_range {n k : Nat} {p : Nat → Bool} (hk : k < n) (h : ∀ j, j < k → p j = false) (hp : p k = true) : (List.range n).find? p = some k := by
  rw [List.find?_eq_some_iff_getElem]
  refine ⟨hp, k, by simpa using hk, by simp, fun j hj => ?_⟩
  simp only [List.getElem_range]
  rw [h j hj]
  rfl
theorem find_range_none {n : Nat} {p : Nat → Bool} (h : ∀ j, j < n → p j = false) : (List.range n).find? p = none := by
  rw [List.find?_eq_none]
  intro x hx
  rw [h x (List.mem_range.1 hx)]
  exact Bool.false_ne_true
theorem treeE_node {l : List ANode} {k : Nat} (hk : k < l.length) (h : ∀ j, j < k → nodeE (ndAt l j) = 0) (hp : nodeE (ndAt l k) ≠ 0) : treeE l = (k, nodeE (ndAt l k)) := by
  unfold treeE
  rw [find_range hk (fun j hj => by simp [h j hj]) (by simp [hp])]
theorem treeE_tog {l : List ANode} {k : Nat} (hk : k < l.length) (hn : ∀ j, j < l.length → nodeE (ndAt l j) = 0) (h : ∀ j, j < k → togE l j = 0) (hp : togE l k ≠ 0) : treeE l = (k, togE l k) := by
  unfold treeE
  rw [find_range_none (fun j hj => by simp [hn j hj])]
  simp only
  rw [find_range hk (fun j hj => by simp [h j hj]) (by simp [hp])]
theorem treeE_ok {l : List ANode} (hn : ∀ j, j < l.length → nodeE (ndAt l j) = 0) (h : ∀ j, j < l.length → togE l j = 0) : treeE l = (l.length, 0) := by
  unfold treeE
  rw [find_range_none (fun j hj => by simp [hn j hj])]
  simp only
  rw [find_range_none (fun j hj => by simp [h j hj])]
theorem find_range_some {n k : Nat} {p : Nat → Bool} (h : (List.range n).find? p = some k) : k < n ∧ p k = true := ⟨List.mem_range.1 (List.mem_of_find?_eq_some h), List.find?_some h⟩
/-- What a valid tree's nodes are. -/
theorem treeE_zero {l : List ANode} (h : (treeE l).2 = 0) : (∀ j, j < l.length → nodeE (ndAt l j) = 0) ∧ (∀ j, j < l.length → togE l j = 0) ∧ treeE l = (l.length, 0) := by
  have h1 : (List.range l.length).find? (fun i => decide (nodeE (ndAt l i) ≠ 0)) = none := by
    cases hf : (List.range l.length).find? (fun i => decide (nodeE (ndAt l i) ≠ 0)) with
    | none => rfl
    | some i =>
      have h2 := (find_range_some hf).2
      unfold treeE at h
      rw [hf] at h
      simp at h2
      exact absurd h h2
  have h3 : (List.range l.length).find? (fun i => decide (togE l i ≠ 0)) = none := by
    cases hf : (List.range l.length).find? (fun i => decide (togE l i ≠ 0)) with
    | none => rfl
    | some i =>
      have h2 := (find_range_some hf).2
      unfold treeE at h
      rw [h1] at h
      simp only at h
      rw [hf] at h
      simp at h2
      exact absurd h h2
  have g1 := List.find?_eq_none.1 h1
  have g3 := List.find?_eq_none.1 h3
  refine ⟨fun j hj => by simpa using g1 j (List.mem_range.2 hj), fun j hj => by simpa using g3 j (List.mem_range.2 hj), ?_⟩
  unfold treeE
  rw [h1]
  simp only
  rw [h3]
theorem nodeE_kind {x : ANode} (h : nodeE x = 0) : x.kind = 0 ∨ x.kind = 1 ∨ x.kind = 2 := by
  unfold nodeE at h
  by_cases h1 : ¬ (x.kind = 0 ∨ x.kind = 1 ∨ x.kind = 2)
  · rw [if_pos h1] at h; cases h
  · exact Classical.not_not.1 h1
/-- A canonical list's nodes: those of the list, with other classes. -/
theorem canon_of {cnt : Int → Int} {M l : List ANode} (hM : M.Perm l) {x : ANode} (hx : x ∈ (canonS cnt M).2) : ∃ y ∈ l, x.kind = y.kind ∧ x.path = y.path ∧ x.mode = y.mode ∧ x.target = y.target ∧ x.data = y.data := by
  rw [(canonS_ok cnt M).2.2.1] at hx
  obtain ⟨y, hy, rfl⟩ := List.mem_map.1 hx
  exact ⟨y, hM.mem_iff.1 hy, rfl, rfl, rfl, rfl, rfl⟩
theorem canon_len (cnt : Int → Int) (M : List ANode) : (canonS cnt M).2.length = M.length := by rw [(canonS_ok cnt M).2.2.1, List.length_map]
/-- The directories that Check remembers. -/
def dirsOf (l : List ANode) : List (Str × Bool) := l.foldl (fun d x => if x.kind = 0 then upG d x.path true else d) [([], true)]
def seenOf (l : List ANode) : List (Str × Bool) := l.foldl (fun d x => upG d x.path true) []
def firstUp (f : List (Int × (ANode × Value))) (x : ANode × Value) : List (Int × (ANode × Value)) := if x.1.cls = 0 then f else match lkG f x.1.cls with | none => upG f x.1.cls x | some _ => f
def firstOf (L : List (ANode × Value)) : List (Int × (ANode × Value)) := L.foldl firstUp []
theorem dirs_acc (p : Str) : ∀ (l : List ANode) (d : List (Str × Bool)), (lkG (l.foldl (fun d x => if x.kind = 0 then upG d x.path true else d) d) p).getD false = ((lkG d p).getD false || l.any fun x => decide (x.kind = 0) && decide (x.path = p))
  | [], d => by simp
  | x :: l, d => by
    rw [List.foldl_cons, dirs_acc p l]
    by_cases h : x.kind = 0
    · rw [if_pos h, lkG_upG]
      by_cases h2 : p = x.path
      · simp [h, h2]
      · have h3 : ¬ x.path = p := fun e => h2 e.symm
        simp [h2, h3]
    · simp [h]
theorem dirs_at (l : List ANode) (p : Str) : (lkG (dirsOf l) p).getD false = hasDir l p := by
  unfold dirsOf hasDir
  rw [dirs_acc]
  congr 1
  by_cases h : p = [] <;> simp [lkG, h]
theorem dirs_snoc (l : List ANode) (x : ANode) : dirsOf (l ++ [x]) = if x.kind = 0 then upG (dirsOf l) x.path true else dirsOf l := by simp [dirsOf, List.foldl_append]
theorem seen_acc (p : Str) : ∀ (l : List ANode) (d : List (Str × Bool)), (lkG (l.foldl (fun d x => upG d x.path true) d) p).getD false = ((lkG d p).getD false || l.any fun x => decide (x.path = p))
  | [], d => by simp
  | x :: l, d => by
    rw [List.foldl_cons, seen_acc p l, lkG_upG]
    by_cases h2 : p = x.path
    · simp [h2]
    · have h3 : ¬ x.path = p := fun e => h2 e.symm
      simp [h2, h3]
theorem seen_at (l : List ANode) (p : Str) : (lkG (seenOf l) p).getD false = l.any fun x => decide (x.path = p) := by
  unfold seenOf
  rw [seen_acc]
  simp [lkG]
theorem seen_snoc (l : List ANode) (x : ANode) : seenOf (l ++ [x]) = upG (seenOf l) x.path true := by simp [seenOf, List.foldl_append]
theorem first_snoc (L : List (ANode × Value)) (x : ANode × Value) : firstOf (L ++ [x]) = firstUp (firstOf L) x := by simp [firstOf, List.foldl_append]
theorem firstUp_none {f : List (Int × (ANode × Value))} {x : ANode × Value} {c : Int} (hc : x.1.cls = c) (h0 : c ≠ 0) (h : lkG f c = none) : firstUp f x = upG f c x := by
  subst hc
  unfold firstUp
  rw [if_neg h0, h]
theorem firstUp_some {f : List (Int × (ANode × Value))} {x y : ANode × Value} {c : Int} (hc : x.1.cls = c) (h0 : c ≠ 0) (h : lkG f c = some y) : firstUp f x = f := by
  subst hc
  unfold firstUp
  rw [if_neg h0, h]
theorem firstUp_zero {f : List (Int × (ANode × Value))} {x : ANode × Value} (h : x.1.cls = 0) : firstUp f x = f := by
  unfold firstUp
  rw [if_pos h]
theorem first_acc (c : Int) (hc : c ≠ 0) : ∀ (L : List (ANode × Value)) (f : List (Int × (ANode × Value))), lkG (L.foldl firstUp f) c = (lkG f c).or (L.find? fun x => decide (x.1.cls = c))
  | [], f => by simp
  | x :: L, f => by
    rw [List.foldl_cons, first_acc c hc L]
    unfold firstUp
    by_cases h0 : x.1.cls = 0
    · rw [if_pos h0, List.find?_cons_of_neg (by simp [h0]; exact fun e => hc e.symm)]
    · rw [if_neg h0]
      by_cases h1 : x.1.cls = c
      · rw [List.find?_cons_of_pos (by simp [h1])]
        subst h1
        cases hl : lkG f x.1.cls with
        | none => simp only [lkG_upG, if_true]; simp
        | some y => simp [hl]
      · rw [List.find?_cons_of_neg (by simp [h1])]
        cases hl : lkG f x.1.cls with
        | none => simp only [lkG_upG, if_neg (Ne.symm h1)]
        | some y => rfl
theorem first_at (L : List (ANode × Value)) (c : Int) (hc : c ≠ 0) : lkG (firstOf L) c = L.find? fun x => decide (x.1.cls = c) := by
  unfold firstOf
  rw [first_acc c hc]
  simp [lkG]
theorem find_map_fst (L : List (ANode × Value)) (p : ANode → Bool) : (L.map Prod.fst).find? p = (L.find? fun x => p x.1).map Prod.fst := by
  rw [List.find?_map]
  rfl
end Go.Pax
namespace Go.Pax
open Go.RowKit
def nodeAct (least : List (Int × Str)) (x : ANode) : AAct := if x.kind = 0 then ⟨0, x.path, x.mode, [], []⟩ else if x.kind = 1 then Go.Proofs.YtfhiioopimmahaaGreatDoor.fileAct least x else ⟨2, x.path, 0, [], x.target⟩
def nodeLeast (least : List (Int × Str)) (x : ANode) : List (Int × Str) := if x.kind = 1 then Go.Proofs.YtfhiioopimmahaaGreatDoor.leastUp least x else least
def leastAt (C : List ANode) (k : Nat) : List (Int × Str) := (C.take k).foldl nodeLeast []
def actAt (C : List ANode) (k : Nat) : AAct := nodeAct (leastAt C k) (ndAt C k)
theorem leastAt_succ {C : List ANode} {k : Nat} (h : k < C.length) : leastAt C (k + 1) = nodeLeast (leastAt C k) (ndAt C k) := by
  unfold leastAt
  rw [List.take_add_one, List.getElem?_eq_getElem h, ndAt_eq h, List.foldl_append]
  rfl
end Go.Pax
namespace Go.Proofs.YtfhiioopimmahaaGreatDoor
open Go.RowKit Go.Pax Go.Shelf
/-- Calls that all go well. -/
inductive RunOk (σ : Fs) : List AAct → Fs → Prop
  | nil : RunOk σ [] σ
  | snoc {l : List AAct} {a : AAct} {σ1 σ2 : Fs} : RunOk σ l σ1 → doE σ1 a = 0 → Next σ1 (Fresh σ1) a σ2 → RunOk σ (l ++ [a]) σ2
theorem RunOk.inv {σ σ' : Fs} {l : List AAct} (h : RunOk σ l σ') {n : Nat} (hi : σ.In n) : σ'.In (n + 2 * l.length) := by
  induction h with
  | nil => exact hi
  | snoc _ _ hN ih => exact (hN.inv ih).mono (by simp; omega)
theorem FsAt.fresh {w : World} {f : Nat} {O : List Nat} {σ : Fs} (h : FsAt w f O σ) {b : Nat} (hb : w.heap.size ≤ b) : Fresh σ b := fun p b' hb' e => by
  obtain ⟨m, rv, dv, nv, h1⟩ := h
  have := h1.lt b' (h1.nodes p b' hb').own.1
  omega
theorem FsAt.next {w : World} {f : Nat} {O : List Nat} {σ σ' : Fs} {a : AAct} (h : FsAt w f O σ) (hn : Next σ (fun b => w.heap.size ≤ b) a σ') : Next σ (Fresh σ) a σ' := by
  unfold Next at hn ⊢
  split
  · rename_i hk
    rw [if_pos hk] at hn
    obtain ⟨pb, b, h1, h2, h3⟩ := hn
    exact ⟨pb, b, h1, h.fresh h2, h3⟩
  · rename_i hk
    rw [if_neg hk] at hn
    exact hn
def rootNames (σ : Fs) : List Str := match lkF σ.files [] with
  | some b => (σ.node b).names
  | none => []
/-- What extract.Tree answers and leaves. -/
def ExtBy (σ : Fs) (l : List ANode) (E : Int) (σ' : Fs) : Prop :=
  (rootNames σ ≠ [] ∧ E = 20 ∧ σ' = ls σ 1) ∨ (rootNames σ = [] ∧ (treeE l).2 ≠ 0 ∧ E = (treeE l).2 ∧ σ' = ls σ 1) ∨
  (rootNames σ = [] ∧ (treeE l).2 = 0 ∧ ∃ M, M.Perm l ∧ (M.Pairwise fun x y => ¬ y.path < x.path) ∧ ∃ j, j ≤ l.length ∧ RunOk (ls σ 1) ((List.range j).map (actAt (canonS (cntA l) M).2)) σ' ∧
    ((j = l.length ∧ E = 0) ∨ (j < l.length ∧ E ≠ 0 ∧ E = doE σ' (actAt (canonS (cntA l) M).2 j))))
/-- In the midst of the files' being made: k of them. -/
structure EMid (w9 wr : World) (f : Nat) (O : List Nat) (σ0 : Fs) (cb mc rg : Nat) (C : List ANode) (n k : Nat) (Ok : List Nat) (σk : Fs) : Prop where
  fs : FsAt wr f Ok σk
  run : RunOk σ0 ((List.range k).map (actAt C)) σk
  own : ∀ g ∈ Ok, g ∈ O ∨ w9.heap.size ≤ g
  chg : Chg (mc :: O) w9 wr
  cr : CrAt wr cb mc f Ok (leastAt C k)
theorem EMid.ok {w9 wr : World} {f cb mc rg n m k : Nat} {O Ok : List Nat} {σ0 σk : Fs} {C : List ANode} (h : EMid w9 wr f O σ0 cb mc rg C n k Ok σk) (hi : σ0.In m) (hn : m + 2 * k ≤ 100000) : σk.Ok := by
  have := h.run.inv hi
  rw [List.length_map, List.length_range] at this
  exact this.ok hn
/-- A step that went well. -/
theorem EMid.step {w9 wr w1 w' : World} {f cb mc rg n k : Nat} {O Ok : List Nat} {σ0 σk : Fs} {C : List ANode} (h : EMid w9 wr f O σ0 cb mc rg C n k Ok σk) (hk : Chg [mc] wr w1) (hc : CrAt w1 cb mc f Ok (leastAt C (k + 1))) (h0 : doE σk (actAt C k) = 0)
    (hd : DoneBy w1 w' f Ok σk (actAt C k)) : ∃ Ok' σk', EMid w9 w' f O σ0 cb mc rg C n (k + 1) Ok' σk' := by
  obtain ⟨σ', hN, O', ⟨g1, g2⟩, g3⟩ := hd.2 h0
  have hfs1 : FsAt w1 f Ok σk := h.fs.foreign hk (fun g hg hm => h.cr.mcO (by simp at hm; exact hm ▸ hg))
  have hlt := hfs1.lt
  have hcb : cb < w1.heap.size := lt_of_block hc.blk
  have hmc := hc.map.lt
  have h9 := h.chg.size
  have h91 := hk.size
  have hO' : ∀ g ∈ O', g ∈ O ∨ w9.heap.size ≤ g := fun g hg => by
    rcases g2 g hg with h4 | h4
    · exact h.own g h4
    · exact .inr (by omega)
  refine ⟨O', σ', ⟨g1, ?_, hO', ?_, ⟨g3.heap hc.blk hc.cbO, hc.map.chg g3 hc.mcO, fun hm => ?_, fun hm => ?_, hc.ne⟩⟩⟩
  · rw [List.range_succ, List.map_append]
    exact RunOk.snoc h.run h0 (hfs1.next hN)
  · refine (h.chg.trans (hk.mono (by simp))).trans' g3 (by intro x hx _; exact hx) (fun x hx hl => ?_)
    rcases h.own x hx with h4 | h4
    · exact List.mem_cons_of_mem _ h4
    · omega
  · rcases g2 cb hm with h4 | h4
    · exact hc.cbO h4
    · omega
  · rcases g2 mc hm with h4 | h4
    · exact hc.mcO h4
    · omega
theorem EMid.to {w w9 wr w' : World} {f cb mc rg n k : Nat} {O Ok : List Nat} {σ0 σk : Fs} {C : List ANode} (h : EMid w9 wr f O σ0 cb mc rg C n k Ok σk) (hw : Chg O w w9) (hmc : w.heap.size ≤ mc) (hk : Chg [mc] wr w') : FsTo w w' f O σk := by
  refine ⟨Ok, ⟨h.fs.foreign hk (fun g hg hm => h.cr.mcO (by simp at hm; exact hm ▸ hg)), fun g hg => ?_⟩, hw.trans' (h.chg.trans (hk.mono (by simp))) (fun x hx _ => hx) (fun x hx hl => ?_)⟩
  · have := hw.size
    rcases h.own g hg with h1 | h1
    · exact .inl h1
    · exact .inr (by omega)
  · rcases List.mem_cons.1 hx with h1 | h1
    · omega
    · exact h1
end Go.Proofs.YtfhiioopimmahaaGreatDoor
