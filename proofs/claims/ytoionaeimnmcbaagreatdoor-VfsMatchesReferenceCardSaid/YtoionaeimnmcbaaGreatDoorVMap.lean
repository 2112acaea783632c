/- Maps from strings to pointers: what they hold, entry by entry; their lookup and their store. -/
import Derived.Test.YtoionaeimnmcbaaGreatDoorVBase
import Derived.WideShapes
import Derived.MapKept
namespace Go.Pax
open Go.RowKit

def entOf (x : ByteArray × Nat) : Value × Value := (.string x.1, .pointer (some ⟨x.2, 0, none⟩))
/-- Block m is a map of just these entries, in the order in which they came. -/
def MapAt (w : World) (m : Nat) (l : List (ByteArray × Nat)) : Prop :=
  ∃ es clock, w.heap[m]? = some (.map es clock) ∧ es.toList.map (fun e => (e.key, e.val)) = l.map entOf
def lk : List (ByteArray × Nat) → ByteArray → Option Nat
  | [], _ => none
  | x :: l, k => if k = x.1 then some x.2 else lk l k
theorem lk_append (l m : List (ByteArray × Nat)) (k : ByteArray) : lk (l ++ m) k = (lk l k).or (lk m k) := by
  induction l with
  | nil => simp [lk]
  | cons x l ih => simp only [List.cons_append, lk]; split <;> simp [ih]
theorem lk_mem {l : List (ByteArray × Nat)} {k : ByteArray} {b : Nat} (h : lk l k = some b) : (k, b) ∈ l := by
  induction l with
  | nil => simp [lk] at h
  | cons x l ih =>
    simp only [lk] at h
    split at h
    · rename_i e; subst e; injection h with h; subst h; simp
    · exact List.mem_cons_of_mem _ (ih h)
theorem MapAt.chg {w w' : World} {m : Nat} {l : List (ByteArray × Nat)} {S : List Nat} (h : MapAt w m l) (k : Chg S w w') (hm : m ∉ S) : MapAt w' m l := by
  obtain ⟨es, c, h1, h2⟩ := h
  exact ⟨es, c, k.heap h1 hm, h2⟩
theorem MapAt.lt {w : World} {m : Nat} {l : List (ByteArray × Nat)} (h : MapAt w m l) : m < w.heap.size := by
  obtain ⟨es, c, h1, _⟩ := h
  exact (Array.getElem?_eq_some_iff.1 h1).1
theorem MapAt.new (w : World) : MapAt (w.alloc (.map #[] 0)) w.heap.size [] := ⟨#[], 0, heap_alloc_new _ _, rfl⟩

theorem findNow_none (k : ByteArray) : ∀ (es : List MapEntry) (l : List (ByteArray × Nat)) (_ : es.map (fun e => (e.key, e.val)) = l.map entOf) (i : Nat), lk l k = none → Instr.findNow .string (.string k) es i = some none
  | [], l, _, i, _ => rfl
  | e :: es, [], h, i, _ => by simp at h
  | e :: es, x :: l, h, i, hl => by
    simp only [List.map_cons, List.cons.injEq, entOf, Prod.mk.injEq] at h
    obtain ⟨⟨h1, h2⟩, h3⟩ := h
    simp only [lk] at hl
    split at hl
    · cases hl
    · rename_i hne
      have hb : (k == x.1) = false := by rw [Bool.eq_false_iff]; exact fun h => hne ((MapKept.bytes_beq _ _).1 h)
      simp only [Instr.findNow, h1, Instr.sameNow, hb]
      exact findNow_none k es l h3 (i + 1) hl
theorem findNow_some (k : ByteArray) (b : Nat) : ∀ (es : List MapEntry) (l : List (ByteArray × Nat)) (_ : es.map (fun e => (e.key, e.val)) = l.map entOf) (i : Nat), lk l k = some b → ∃ j, Instr.findNow .string (.string k) es i = some (some (j, .pointer (some ⟨b, 0, none⟩)))
  | [], [], _, i, h => by simp [lk] at h
  | [], x :: l, h, i, _ => by simp at h
  | e :: es, [], h, i, _ => by simp at h
  | e :: es, x :: l, h, i, hl => by
    simp only [List.map_cons, List.cons.injEq, entOf, Prod.mk.injEq] at h
    obtain ⟨⟨h1, h2⟩, h3⟩ := h
    simp only [lk] at hl
    split at hl
    · rename_i he
      have hb : (k == x.1) = true := (MapKept.bytes_beq _ _).2 he
      injection hl with hl
      subst hl
      exact ⟨i, by simp only [Instr.findNow, h1, Instr.sameNow, hb, h2]⟩
    · rename_i hne
      have hb : (k == x.1) = false := by rw [Bool.eq_false_iff]; exact fun h => hne ((MapKept.bytes_beq _ _).1 h)
      simp only [Instr.findNow, h1, Instr.sameNow, hb]
      exact findNow_some k b es l h3 (i + 1) hl

section
variable {P : Program} {w : World} {m : Nat} {l : List (ByteArray × Nat)} {T K E : TypeId}
theorem run_checkKey_str {em : Bool} (hK : P.underlying K = some .string) (k : ByteArray) (w : World) : (Instr.checkKey em 10000 K (.string k)).run P w = .ok () w := by
  rw [show (10000 : Nat) = 9999 + 1 from rfl, Instr.checkKey]
  simp [run_underlying hK]
theorem run_lookup_some (hT : P.underlying T = some (.map K E)) (hK : P.underlying K = some .string) (h : MapAt w m l) {k : ByteArray} {b : Nat} (hl : lk l k = some b) :
    (Instr.lookup T (.map (some m)) (.string k) true).run P w = .ok (.tuple #[.pointer (some ⟨b, 0, none⟩), .bool true]) w := by
  obtain ⟨es, c, hb, he⟩ := h
  obtain ⟨j, hj⟩ := findNow_some k b es.toList l he 0 hl
  simp [Instr.lookup, run_underlying hT, MapKept.run_getObj_map hb, run_checkKey_str hK, MapKept.run_findKey hK hj, Result.andThen]
theorem run_lookup_none (hT : P.underlying T = some (.map K E)) (hK : P.underlying K = some .string) (hz : ∀ W, (zeroValue E).run P W = .ok (.pointer none) W) (h : MapAt w m l) {k : ByteArray} (hl : lk l k = none) :
    (Instr.lookup T (.map (some m)) (.string k) true).run P w = .ok (.tuple #[.pointer none, .bool false]) w := by
  obtain ⟨es, c, hb, he⟩ := h
  have hj := findNow_none k es.toList l he 0 hl
  simp [Instr.lookup, run_underlying hT, MapKept.run_getObj_map hb, run_checkKey_str hK, MapKept.run_findKey hK hj, hz, Result.andThen]
/-- A store under a new key. -/
theorem run_update_new (hT : P.underlying T = some (.map K E)) (hK : P.underlying K = some .string) (h : MapAt w m l) {k : ByteArray} {b : Nat} (hl : lk l k = none) :
    ∃ w', (Instr.mapUpdate T (.map (some m)) (.string k) (.pointer (some ⟨b, 0, none⟩))).run P w = .ok () w' ∧ MapAt w' m (l ++ [(k, b)]) ∧ Chg [m] w w' ∧ w'.heap.size = w.heap.size := by
  obtain ⟨es, c, hb, he⟩ := h
  have hj := findNow_none k es.toList l he 0 hl
  have hlt := (Array.getElem?_eq_some_iff.1 hb).1
  refine ⟨{ w with heap := w.heap.setIfInBounds m (.map (es.push { key := .string k, val := .pointer (some ⟨b, 0, none⟩), born := c }) (c + 1)) }, ?_, ⟨es.push { key := .string k, val := .pointer (some ⟨b, 0, none⟩), born := c }, c + 1, ?_, ?_⟩, ⟨rfl, rfl, rfl, ?_, ?_⟩, ?_⟩
  · simp [Instr.mapUpdate, run_underlying hT, MapKept.run_getObj_map hb, run_checkKey_str hK, MapKept.run_findKey hK hj, MapKept.run_setObj_map _ hb, Result.andThen]
  · simp [hlt]
  · simp [he, entOf]
  · simp
  · intro i hi hm
    simp at hm
    simp [Ne.symm hm]
  · simp
end
end Go.Pax
