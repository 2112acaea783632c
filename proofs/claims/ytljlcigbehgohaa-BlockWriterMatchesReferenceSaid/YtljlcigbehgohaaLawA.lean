/- paxtarlaw04.alive. -/
import Derived.Test.YtljlcigbehgohaaSrcLaw
import Derived.Lib.SlBytesConst
namespace Go.Pax
open Go.RowKit
/-- Bytes as a string. -/
def sb (l : List UInt8) : ByteArray := ⟨l.toArray⟩
theorem run_conv {P : Program} (w : World) (src dst e : TypeId) (hs : P.underlying src = some (.slice e)) (he : P.underlying e = some (.int .u8)) (hd : P.underlying dst = some .string)
    (fp : List Nat) (ao : Option Addr) (n cap : Nat) (l : List UInt8) (hl : l.length = n) (h : Rd w fp ao (bv l)) :
    (convert src dst (.slice ao n cap)).run P w = .ok (.string (sb l)) w := by
  cases ao with
  | none =>
    have : l = [] := by
      cases l with
      | nil => rfl
      | cons x r => obtain ⟨a, ha, _⟩ := h 0 _ rfl; cases ha
    subst this
    exact run_convert_bytes_nil w src e hs he _ _ dst hd
  | some ad =>
    rw [run_convert_bytes_string w src dst e _ n cap hs he hd]
    have hlc := run_loadCells_list (P := P) w ad (bv l) h.at
    rw [bv_length, hl] at hlc
    have hb : (bv l).toArray = ((l.map fun b => (b.toNat : Int)).map (Value.int .u8)).toArray := by simp [bv]
    rw [hb] at hlc
    rw [run_bytesToString w ad n cap (l.map fun b => (b.toNat : Int)) hlc, foldl_push_bytes]
    have hm : (l.map fun b => (b.toNat : Int)).map (fun n => UInt8.ofNat n.toNat) = l := by
      rw [List.map_map]
      exact (List.map_congr_left (fun b _ => by simp)).trans (List.map_id l)
    rw [hm]
    simp [sb, ByteArray.empty, ByteArray.emptyWithCapacity]
    rfl
theorem Rd.row {w : World} {g : Nat} {cs : Array Value} {t : TypeId} {fr : Nat × Nat} {fp : List Nat} {xs : List Value} (h : w.heap[g]? = some (.cells cs t fr)) (hx : cs.toList = xs) (hg : g ∈ fp) : Rd w fp (some ⟨g, 0, none⟩) xs := by
  subst hx
  exact fun j u hu => ⟨_, rfl, hg, World.news_of_block h j u hu⟩
end Go.Pax
namespace Go.Proofs.Ytljlcigbehgohaa
open Go.RowKit Go.Pax
theorem Try.conv (w : World) (fp : List Nat) (ao : Option Addr) (n cap : Nat) (l : List UInt8) (hl : l.length = n) (h : Rd w fp ao (bv l)) :
    (convert 22 9 (.slice ao n cap)).run Try.prog w = .ok (.string (sb l)) w := run_conv w 22 9 5 Try.underlying22 Try.underlying5 Try.underlying9 fp ao n cap l hl h
/-- What a call made reads as a string as long as its blocks stand. -/
theorem conv_own {w w' : World} {base : Nat} {ao : Option Addr} {n cap : Nat} {l : List UInt8} {S : List Nat} (hl : l.length = n) (h : w.ownsRow base 5 1 (.slice ao n cap) n (bv l)) (hc : Chg S w w') (hS : ∀ k, base ≤ k → k ∉ S) :
    (convert 22 9 (.slice ao n cap)).run Try.prog w' = .ok (.string (sb l)) w' := by
  obtain ⟨r1, b1, _⟩ := own_rd2 (own_chg h hc hS)
  exact Try.conv w' _ ao n cap l hl r1

theorem rd1 : Src.read ⟨[97, 98, 99], [2, 1], -1, 0, 0⟩ 9 = (0, [97, 98], ⟨[99], [2, 1], -1, 2, 1⟩) := by kernel_rfl
theorem rd2 : Src.read ⟨[99], [2, 1], -1, 2, 1⟩ 9 = (0, [99], ⟨[], [2, 1], -1, 3, 2⟩) := by kernel_rfl
theorem rd3 : Src.read ⟨[], [2, 1], -1, 3, 2⟩ 9 = (4, [], ⟨[], [2, 1], -1, 3, 2⟩) := by kernel_rfl

set_option maxRecDepth 100000 in
set_option maxHeartbeats 1000000 in
theorem srcAlive (w : World) : Calls Try.prog 23 #[] w fun e w' => e = .returned (.bool true) ∧ Chg [] w w' := by
  have kc := fun (w : World) (C : Array Value) (n c : Nat) => Lib.run_convert_bytes_const (P := Try.prog) w 22 5 C n c Try.underlying22 Try.underlying5
  go_enter Try.func23, Try.ntmps23
  go_wp2_with fail
  have hc0 : Chg [] w ((w.alloc (.cells #[.int .u8 97, .int .u8 98, .int .u8 99] 5 (3, 4))).alloc (.cells #[.int .i64 2, .int .i64 1] 3)) := ((Chg.refl _ _).alloc _).alloc _
  have r1 : Rd ((w.alloc (.cells #[.int .u8 97, .int .u8 98, .int .u8 99] 5 (3, 4))).alloc (.cells #[.int .i64 2, .int .i64 1] 3)) [w.heap.size, w.heap.size + 1] (some ⟨w.heap.size, 0, none⟩) (bv [97, 98, 99]) :=
    Rd.row (heap_keep (heap_alloc_new _ _)) rfl (by simp)
  have r2 : Rd ((w.alloc (.cells #[.int .u8 97, .int .u8 98, .int .u8 99] 5 (3, 4))).alloc (.cells #[.int .i64 2, .int .i64 1] 3)) [w.heap.size, w.heap.size + 1] (some ⟨w.heap.size + 1, 0, none⟩) (iv [2, 1]) :=
    Rd.row (heap_new_at (by simp)) rfl (by simp)
  refine (srcNew _ _ _ 3 2 [97, 98, 99] [2, 1] (-1) _ (by decide) (by decide) r1 r2).mono ?_
  rintro e w1 ⟨p, fp, rfl, hs1, hc1, hp, hfp⟩
  go_wp2_with fail
  refine (srcRead _ p fp _ 9 hs1 (by decide) (by decide) (by decide) (by decide)).mono ?_
  rintro e w2 ⟨⟨a2, c2, he2, hown2⟩, hs2, hc2⟩
  rw [rd1] at he2 hown2 hs2
  subst he2
  go_wp2_with fail
  refine (srcRead _ p fp _ 9 hs2 (by decide) (by decide) (by decide) (by decide)).mono ?_
  rintro e w3 ⟨⟨a3, c3, he3, hown3⟩, hs3, hc3⟩
  rw [rd2] at he3 hown3 hs3
  subst he3
  go_wp2_with fail
  refine (srcRead _ p fp _ 9 hs3 (by decide) (by decide) (by decide) (by decide)).mono ?_
  rintro e w4 ⟨⟨a4, c4, he4, hown4⟩, hs4, hc4⟩
  rw [rd3] at he4 hown4 hs4
  subst he4
  have hp2 := hs2.lt
  have hlt1 := hs1.lt
  have v2 : (convert 22 9 (.slice a2 2 c2)).run Try.prog w4 = .ok (.string (sb [97, 98])) w4 := conv_own (S := [p]) rfl hown2 (hc3.trans hc4) (fun k hk => by simp; omega)
  have v3 : (convert 22 9 (.slice a3 1 c3)).run Try.prog w4 = .ok (.string (sb [99])) w4 := conv_own (S := [p]) rfl hown3 hc4 (fun k hk => by simp; omega)
  have hfin : Chg [] w w4 := ((hc0.trans hc1).trans' hc2 (by simp) (U := []) (fun k hk hlt => by simp at hk; have := hc0.size; omega)).trans' (hc3.trans hc4) (by simp) (fun k hk hlt => by simp at hk; have := hc0.size; omega)
  simp only [sb] at v2 v3
  clear hs1 hs2 hs3 hs4 hown2 hown3 hown4 hc0 hc1 hc2 hc3 hc4 r1 r2 hfp
  go_wp2
  go_ret
  exact ⟨rfl, hfin⟩
end Go.Proofs.Ytljlcigbehgohaa
