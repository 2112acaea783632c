/- Maps from integers to strings: what they hold; their lookup and their store. -/
import Derived.Test.YtoionaeimnmcbaaDoorVMap
namespace Go.Pax
open Go.RowKit
def entI (x : Int × ByteArray) : Value × Value := (.int .i64 x.1, .string x.2)
def MapI (w : World) (m : Nat) (l : List (Int × ByteArray)) : Prop :=
  ∃ es clock, w.heap[m]? = some (.map es clock) ∧ es.toList.map (fun e => (e.key, e.val)) = l.map entI
def lkI : List (Int × ByteArray) → Int → Option ByteArray
  | [], _ => none
  | x :: l, k => if k = x.1 then some x.2 else lkI l k
/-- The list behind a store. -/
def upI : List (Int × ByteArray) → Int → ByteArray → List (Int × ByteArray)
  | [], k, v => [(k, v)]
  | x :: l, k, v => if k = x.1 then (k, v) :: l else x :: upI l k v
theorem lkI_upI (l : List (Int × ByteArray)) (k : Int) (v : ByteArray) (j : Int) : lkI (upI l k v) j = if j = k then some v else lkI l j := by
  induction l with
  | nil => simp only [upI, lkI]
  | cons x l ih =>
    simp only [upI]
    split
    · rename_i h
      subst h
      simp only [lkI]
      split
      · rfl
      · rfl
    · rename_i h
      simp only [lkI, ih]
      by_cases h1 : j = x.1
      · rw [if_pos h1, if_pos h1, if_neg (fun e => h (e.symm.trans h1))]
      · rw [if_neg h1, if_neg h1]
theorem MapI.chg {w w' : World} {m : Nat} {l : List (Int × ByteArray)} {S : List Nat} (h : MapI w m l) (k : Chg S w w') (hm : m ∉ S) : MapI w' m l := by
  obtain ⟨es, c, h1, h2⟩ := h
  exact ⟨es, c, k.heap h1 hm, h2⟩
theorem MapI.block {w w' : World} {m : Nat} {l : List (Int × ByteArray)} (h : MapI w m l) (k : w'.heap[m]? = w.heap[m]?) : MapI w' m l := by
  obtain ⟨es, c, h1, h2⟩ := h
  exact ⟨es, c, by rw [k, h1], h2⟩
theorem MapI.lt {w : World} {m : Nat} {l : List (Int × ByteArray)} (h : MapI w m l) : m < w.heap.size := by
  obtain ⟨es, c, h1, _⟩ := h
  exact (Array.getElem?_eq_some_iff.1 h1).1
theorem MapI.new (w : World) : MapI (w.alloc (.map #[] 0)) w.heap.size [] := ⟨#[], 0, heap_alloc_new _ _, rfl⟩
theorem findI_none (k : Int) : ∀ (es : List MapEntry) (l : List (Int × ByteArray)) (_ : es.map (fun e => (e.key, e.val)) = l.map entI) (i : Nat), lkI l k = none → Instr.findNow (.int .i64) (.int .i64 k) es i = some none ∧ upI l k = fun v => l ++ [(k, v)]
  | [], [], _, i, _ => ⟨rfl, rfl⟩
  | [], x :: l, h, i, _ => by simp at h
  | e :: es, [], h, i, _ => by simp at h
  | e :: es, x :: l, h, i, hl => by
    simp only [List.map_cons, List.cons.injEq, entI, Prod.mk.injEq] at h
    obtain ⟨⟨h1, h2⟩, h3⟩ := h
    simp only [lkI] at hl
    split at hl
    · cases hl
    · rename_i hne
      have hb : (k == x.1) = false := by simpa using hne
      obtain ⟨g1, g2⟩ := findI_none k es l h3 (i + 1) hl
      refine ⟨by simp only [Instr.findNow, h1, Instr.sameNow, hb, if_true]; exact g1, ?_⟩
      funext v
      simp only [upI, if_neg hne, g2, List.cons_append]
theorem findI_some (k : Int) (b : ByteArray) : ∀ (es : List MapEntry) (l : List (Int × ByteArray)) (_ : es.map (fun e => (e.key, e.val)) = l.map entI) (i : Nat), lkI l k = some b →
    ∃ j, Instr.findNow (.int .i64) (.int .i64 k) es i = some (some (i + j, .string b)) ∧ (es[j]?).map (·.key) = some (.int .i64 k) ∧ ∀ v, upI l k v = l.take j ++ (k, v) :: l.drop (j + 1)
  | [], [], _, i, h => by simp [lkI] at h
  | [], x :: l, h, i, _ => by simp at h
  | e :: es, [], h, i, _ => by simp at h
  | e :: es, x :: l, h, i, hl => by
    simp only [List.map_cons, List.cons.injEq, entI, Prod.mk.injEq] at h
    obtain ⟨⟨h1, h2⟩, h3⟩ := h
    simp only [lkI] at hl
    split at hl
    · rename_i he
      have hb : (k == x.1) = true := by simpa using he
      injection hl with hl
      subst hl
      refine ⟨0, by simp only [Instr.findNow, h1, Instr.sameNow, hb, if_true, h2, Nat.add_zero], by simp [h1, he], fun v => by simp [upI, he]⟩
    · rename_i hne
      have hb : (k == x.1) = false := by simpa using hne
      obtain ⟨j, g1, g2, g3⟩ := findI_some k b es l h3 (i + 1) hl
      refine ⟨j + 1, ?_, by simpa using g2, fun v => by simp [upI, if_neg hne, g3]⟩
      simp only [Instr.findNow, h1, Instr.sameNow, hb, if_true]
      rw [g1, show i + 1 + j = i + (j + 1) by omega]
section
variable {P : Program} {w : World} {m : Nat} {l : List (Int × ByteArray)} {T K E : TypeId}
theorem run_checkKey_int {em : Bool} (hK : P.underlying K = some (.int .i64)) (k : Int) (w : World) : (Instr.checkKey em 10000 K (.int .i64 k)).run P w = .ok () w := by
  rw [show (10000 : Nat) = 9999 + 1 from rfl, Instr.checkKey]
  simp [run_underlying hK]
theorem run_lookupI_some (hT : P.underlying T = some (.map K E)) (hK : P.underlying K = some (.int .i64)) (h : MapI w m l) {k : Int} {b : ByteArray} (hl : lkI l k = some b) :
    (Instr.lookup T (.map (some m)) (.int .i64 k) true).run P w = .ok (.tuple #[.string b, .bool true]) w := by
  obtain ⟨es, c, hb, he⟩ := h
  obtain ⟨j, hj, _, _⟩ := findI_some k b es.toList l he 0 hl
  simp [Instr.lookup, run_underlying hT, MapKept.run_getObj_map hb, run_checkKey_int hK, MapKept.run_findKey hK hj, Result.andThen]
theorem run_lookupI_none (hT : P.underlying T = some (.map K E)) (hK : P.underlying K = some (.int .i64)) (hz : ∀ W, (zeroValue E).run P W = .ok (.string ⟨#[]⟩) W) (h : MapI w m l) {k : Int} (hl : lkI l k = none) :
    (Instr.lookup T (.map (some m)) (.int .i64 k) true).run P w = .ok (.tuple #[.string ⟨#[]⟩, .bool false]) w := by
  obtain ⟨es, c, hb, he⟩ := h
  have hj := (findI_none k es.toList l he 0 hl).1
  simp [Instr.lookup, run_underlying hT, MapKept.run_getObj_map hb, run_checkKey_int hK, MapKept.run_findKey hK hj, hz, Result.andThen]
theorem same_int (k : Int) : Instr.sameBits 10000 (.int .i64 k) (.int .i64 k) = true := by
  rw [show (10000 : Nat) = 9999 + 1 from rfl, Instr.sameBits]
  simp
theorem run_updateI (hT : P.underlying T = some (.map K E)) (hK : P.underlying K = some (.int .i64)) (h : MapI w m l) (k : Int) (v : ByteArray) :
    ∃ w', (Instr.mapUpdate T (.map (some m)) (.int .i64 k) (.string v)).run P w = .ok () w' ∧ MapI w' m (upI l k v) ∧ Chg [m] w w' ∧ w'.heap.size = w.heap.size := by
  obtain ⟨es, c, hb, he⟩ := h
  have hlt := (Array.getElem?_eq_some_iff.1 hb).1
  cases hl : lkI l k with
  | none =>
    obtain ⟨hj, hup⟩ := findI_none k es.toList l he 0 hl
    refine ⟨{ w with heap := w.heap.setIfInBounds m (.map (es.push { key := .int .i64 k, val := .string v, born := c }) (c + 1)) }, ?_, ⟨es.push { key := .int .i64 k, val := .string v, born := c }, c + 1, ?_, ?_⟩, ⟨rfl, rfl, rfl, ?_, ?_⟩, ?_⟩
    · simp [Instr.mapUpdate, run_underlying hT, MapKept.run_getObj_map hb, run_checkKey_int hK, MapKept.run_findKey hK hj, MapKept.run_setObj_map _ hb, Result.andThen]
    · simp [hlt]
    · rw [hup]; simp [he, entI]
    · simp
    · intro i hi hm
      simp at hm
      simp [Ne.symm hm]
    · simp
  | some b =>
    obtain ⟨j, hj, hkey, hup⟩ := findI_some k b es.toList l he 0 hl
    rw [Nat.zero_add] at hj
    have hkey' : (es[j]?).map (·.key) = some (.int .i64 k) := by simpa using hkey
    refine ⟨{ w with heap := w.heap.setIfInBounds m (.map (es.modify j fun e => { e with key := .int .i64 k, val := .string v }) c) }, ?_, ⟨_, c, by simp [hlt]; rfl, ?_⟩, ⟨rfl, rfl, rfl, ?_, ?_⟩, ?_⟩
    · simp [Instr.mapUpdate, run_underlying hT, MapKept.run_getObj_map hb, run_checkKey_int hK, MapKept.run_findKey hK hj, MapKept.run_setObj_map _ hb, Result.andThen, hkey', Instr.keyThatStays, same_int]
    · have hjl : j < es.toList.length := by
        cases h1 : es.toList[j]? with
        | none => rw [h1] at hkey; simp at hkey
        | some x => exact (List.getElem?_eq_some_iff.1 h1).1
      have hlen : es.toList.length = l.length := by simpa using congrArg List.length he
      have e1 : l.take j ++ (k, v) :: l.drop (j + 1) = l.set j (k, v) := by
        rw [List.set_eq_take_append_cons_drop, if_pos (by omega)]
      rw [hup, e1]
      apply List.ext_getElem?
      intro i
      have hi := congrArg (fun z => z[i]?) he
      simp only [List.getElem?_map] at hi
      rw [List.getElem?_map, Array.toList_modify, List.getElem?_modify, List.getElem?_map, List.getElem?_set]
      by_cases hij : j = i
      · subst hij
        rw [List.getElem?_eq_getElem hjl]
        simp [hlen ▸ hjl, entI]
      · simp only [if_neg hij]
        simpa [hij] using hi
    · simp
    · intro i hi hm
      simp at hm
      simp [Ne.symm hm]
    · simp
end
end Go.Pax
