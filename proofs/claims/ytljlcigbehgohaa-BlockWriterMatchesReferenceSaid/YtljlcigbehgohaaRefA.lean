/- paxtarref04: what its functions do. -/
import Derived.Test.YtljlcigbehgohaaSourceB
namespace Go.Pax
open Go.RowKit
structure RSrc where
  b : List UInt8
  chunks : List Int
  fail : Int
  off : Int
  reads : Int
def RSrc.end0 (ρ : RSrc) : Int := if 0 ≤ ρ.fail ∧ ρ.fail < ρ.b.length then ρ.fail else ρ.b.length
def RSrc.most (ρ : RSrc) (n : Int) : Int := imin n (chunkOf ρ.chunks ρ.reads)
def RSrc.fin (ρ : RSrc) (n : Int) : Int := if ρ.most n < ρ.end0 - ρ.off then ρ.off + ρ.most n else ρ.end0
def RSrc.read (ρ : RSrc) (n : Int) : Int × List UInt8 × RSrc :=
  if n < 1 then (2, [], ρ) else if 0 ≤ ρ.fail ∧ ρ.off = ρ.fail then (11, [], ρ) else if ρ.b.length ≤ ρ.off then (4, [], ρ)
  else (0, (ρ.b.drop ρ.off.toNat).take (ρ.fin n - ρ.off).toNat, { ρ with off := ρ.fin n, reads := wrap64 (ρ.reads + 1) })
end Go.Pax
namespace Go.Proofs.Ytljlcigbehgohaa
open Go.RowKit Go.Pax

def RSrcAt (w : World) (p : Nat) (fp : List Nat) (ρ : RSrc) : Prop :=
  ∃ ra rc ca cc, w.heap[p]? = some (.cells #[.slice ra ρ.b.length rc, .slice ca ρ.chunks.length cc, .int .i64 ρ.fail, .int .i64 ρ.off, .int .i64 ρ.reads] 43 (0, 0)) ∧
    Rd w fp ra (bv ρ.b) ∧ Rd w fp ca (iv ρ.chunks) ∧ p ∉ fp ∧ ρ.b.length ≤ rc
theorem RSrcAt.chg {w w' : World} {p : Nat} {fp S : List Nat} {σ : RSrc} (h : RSrcAt w p fp σ) (k : Chg S w w') (hp : p ∉ S) (hf : ∀ x ∈ fp, x ∉ S) : RSrcAt w' p fp σ := by
  obtain ⟨ra, rc, ca, cc, h1, h2, h3, h4, h5⟩ := h
  exact ⟨ra, rc, ca, cc, k.heap h1 hp, h2.chg k hf, h3.chg k hf, h4, h5⟩
theorem RSrcAt.lt {w : World} {p : Nat} {fp : List Nat} {σ : RSrc} (h : RSrcAt w p fp σ) : p < w.heap.size := by
  obtain ⟨ra, rc, ca, cc, h1, _⟩ := h
  exact lt_of_block h1

set_option maxHeartbeats 400000 in
theorem refChunk (w : World) (ca : Option Addr) (cc : Nat) (chunks : List Int) (fp : List Nat) (fail reads : Int) (hC : Rd w fp ca (iv chunks)) (hr : 0 ≤ reads) (hl : chunks.length ≤ 140737488355328) :
    Calls Try.prog 62 #[.agg #[.slice ca chunks.length cc, .int .i64 fail], .int .i64 reads] w fun e w' => e = .returned (.int .i64 (chunkOf chunks reads)) ∧ Chg [] w w' := by
  by_cases hn : chunks = []
  · subst hn
    simp only [List.length_nil]
    clear hC
    go_enter Try.func62, Try.ntmps62
    go_wp2
    go_ret
    exact ⟨rfl, (Chg.refl _ _).alloc _⟩
  · have hn0 : 0 < chunks.length := List.length_pos_iff.2 hn
    have hb1 : ¬ chunks.length = 0 := by omega
    have hm1 : 0 ≤ reads % chunks.length := Int.emod_nonneg _ (by omega)
    have hm2 : reads % chunks.length < chunks.length := Int.emod_lt_of_pos _ (by omega)
    obtain ⟨ad, rfl, _, h5⟩ := hC (reads % chunks.length).toNat _ (iv_get chunks _ (by omega))
    have hv : chunkOf chunks reads = max 1 (chunks[(reads % chunks.length).toNat]'(by omega)) := by
      unfold chunkOf; rw [if_neg hn, List.getD_eq_getElem?_getD, List.getElem?_eq_getElem (by omega)]; rfl
    have HV := Lib.hid hv
    clear hv hC
    generalize chunks[(reads % chunks.length).toNat]'(by omega) = v at *
    have HN := Lib.hid hn
    clear hn
    generalize chunkOf chunks reads = V at *
    generalize chunks.length = n at *
    have hb : ((n : Int) == 0) = false := by simp; omega
    have h6 : (w.alloc (.cells #[.slice (some ad) n cc, .int .i64 fail] 25)).cell? (ad.add (reads % n).toNat) = some (.int .i64 v) := Lib.cell?_alloc_some _ h5
    go_enter Try.func62, Try.ntmps62
    go_wp2_with fail
    go_quiet (fail)
    by_cases hv1 : v < 1
    · go_wp2
      go_ret
      exact ⟨ret_int (by rw [HV.out]; omega), ((Chg.refl _ _).alloc _).drewN _⟩
    · go_wp2
      go_ret
      exact ⟨ret_int (by rw [HV.out]; omega), ((Chg.refl _ _).alloc _).drewN _⟩


theorem Try.infoB : ∃ i, Try.prog.info? 5 = some i ∧ i.zero = some (.int .u8 0) ∧ i.size = 1 ∧ i.bytes = 1 := info_parts Try.info5
theorem Try.infoI : ∃ i, Try.prog.info? 3 = some i ∧ i.zero = some (.int .i64 0) ∧ i.size = 1 ∧ i.bytes = 8 := info_parts Try.info3

theorem keep2g {w w1 w2 : World} {row : Option Nat} {va vb : Value} (hg : w1.grownBy w2 row) (hr : ∀ k, row = some k → w.heap.size < k) (h : w1.cell? ⟨w.heap.size, 0, none⟩ = some va ∧ w1.cell? ⟨w.heap.size, 1, none⟩ = some vb ∧ Chg [] w w1) :
    w2.cell? ⟨w.heap.size, 0, none⟩ = some va ∧ w2.cell? ⟨w.heap.size, 1, none⟩ = some vb ∧ Chg [] w w2 :=
  ⟨hg.cell h.1 (fun e => Nat.lt_irrefl _ (hr _ e.symm)), hg.cell h.2.1 (fun e => Nat.lt_irrefl _ (hr _ e.symm)), h.2.2.grown hg fun k hk hlt => by have := hr k hk; omega⟩

theorem refNew_fin {w w1 w2 : World} {a1 a2 : Option Addr} {c1 c2 : Nat} {b : List UInt8} {c : List Int} {fail : Int} (h1 : w1.ownsRow w.heap.size 5 1 (.slice a1 b.length c1) b.length (bv b))
    (h2 : w2.ownsRow w.heap.size 3 1 (.slice a2 c.length c2) c.length (iv c)) (hk : ∀ k, (Value.slice a1 b.length c1).ownBlock = some k → w2.heap[k]? = w1.heap[k]?) (hc : Chg [] w w2) (hs : w1.heap.size ≤ w2.heap.size) :
    Made (.returned (.pointer (some ⟨w2.heap.size, 0, none⟩))) w (w2.alloc (.cells #[.slice a1 b.length c1, .slice a2 c.length c2, .int .i64 fail, .int .i64 0, .int .i64 0] 43)) fun w' p fp => RSrcAt w' p fp ⟨b, c, fail, 0, 0⟩ := by
  obtain ⟨r1, b1, l1⟩ := own_rd2 h1
  obtain ⟨r2, b2, l2⟩ := own_rd2 h2
  have k3 : Chg [] w2 (w2.alloc (.cells #[.slice a1 b.length c1, .slice a2 c.length c2, .int .i64 fail, .int .i64 0, .int .i64 0] 43)) := (Chg.refl _ _).alloc _
  have s0 := hc.size
  refine ⟨w2.heap.size, (Value.slice a1 b.length c1).ownBlock.toList ++ (Value.slice a2 c.length c2).ownBlock.toList, rfl, ⟨a1, c1, a2, c2, heap_alloc_new _ _, ?_, ?_, ?_, l1⟩, hc.trans k3, by omega, ?_⟩
  · refine ((r1.kept fun k hm _ => ?_).chg k3 (by simp)).mono (fun k hk => List.mem_append_left _ hk)
    exact hk k (by simpa using hm)
  · exact (r2.chg k3 (by simp)).mono (fun k hk => List.mem_append_right _ hk)
  · intro hm
    rcases List.mem_append.1 hm with hm | hm
    · have := b1 _ hm; omega
    · have := b2 _ hm; omega
  · intro k hm
    rcases List.mem_append.1 hm with hm | hm
    · have := b1 _ hm; exact ⟨by omega, Nat.lt_of_lt_of_le (by omega) k3.size⟩
    · have := b2 _ hm; exact ⟨by omega, Nat.lt_of_lt_of_le (by omega) k3.size⟩

set_option maxHeartbeats 1000000 in
theorem refNew (w : World) (bo co : Option Addr) (bc cc : Nat) (b : List UInt8) (c : List Int) (fail : Int) (fp : List Nat) (hb : b.length ≤ 140737488355328) (hcl : c.length * 8 ≤ 140737488355328)
    (h1 : Rd w fp bo (bv b)) (h2 : Rd w fp co (iv c)) :
    Calls Try.prog 28 #[.slice bo b.length bc, .agg #[.slice co c.length cc, .int .i64 fail]] w fun e w' => Made e w w' fun w' p fp => RSrcAt w' p fp ⟨b, c, fail, 0, 0⟩ := by
  have H1 := Lib.hid h1
  have H2 := Lib.hid h2
  clear h1 h2
  obtain ⟨ib, hib, hib0, hib1, hib2⟩ := Try.infoB
  obtain ⟨ii, hii, hii0, hii1, hii2⟩ := Try.infoI
  go_enter Try.func28, Try.ntmps28
  go_wp2_with fail
  have hc0 : (w.alloc (.cells #[.slice co c.length cc, .int .i64 fail] 25)).cell? ⟨w.heap.size, 0, none⟩ = some (.slice co c.length cc) := by go_simp
  have hc1 : (w.alloc (.cells #[.slice co c.length cc, .int .i64 fail] 25)).cell? ⟨w.heap.size, 1, none⟩ = some (.int .i64 fail) := by go_simp
  have hcW : Chg [] w (w.alloc (.cells #[.slice co c.length cc, .int .i64 fail] 25)) := (Chg.refl _ _).alloc _
  have hWs : w.heap.size + 1 = (w.alloc (.cells #[.slice co c.length cc, .int .i64 fail] 25)).heap.size := by simp
  generalize w.alloc (.cells #[.slice co c.length cc, .int .i64 fail] 25) = W at *
  have HWs := Lib.hid hWs
  clear hWs
  go_region_held3 (fun w' => w'.cell? ⟨w.heap.size, 0, none⟩ = some (.slice co c.length cc) ∧ w'.cell? ⟨w.heap.size, 1, none⟩ = some (.int .i64 fail) ∧ Chg [] w w')
    (first
      | exact ⟨by simp [*], by simp [*], hcW.drew⟩
      | exact keep2 ((Chg.refl _ _).alloc _) (by assumption)
      | exact keep2 (Chg.refl _ _).drew (keep2 ((Chg.refl _ _).alloc _) (by assumption))
      | exact keep2g hgr2 (by intro k hk; have h1 := HWs.out; have h2 := hgr1.size; simp [Value.ownBlock] at hk; simp at h2; omega) (by assumption)
      | exact keep2g hgr1 (by intro k hk; have := HWs.out; simp [Value.ownBlock] at hk; omega) (by assumption))
    (first
      | (refine step_append_rd rfl (.tmp 5) (.tmp 6) 22 rfl w.heap.size 5 ib (.int .u8 0) 1 Try.underlying22 hib hib0 hib1 hib2 rfl (.slice (some ⟨_, 0, none⟩) 0 0) 0 [] rfl (own_empty (by first | (simp only [heap_drew]; exact heap_new_at (by simp)) | (simp only [heap_drew]; exact heap_keep (heap_new_at (by simp)))) (by have := HWs.out; omega)) bo b.length bc fp (bv b) rfl (bv_length b) (H1.out.chg (S := []) (by go_split_ands; assumption) (by simp)) (bv_one b) (by omega) (by unfold maxLen; omega) (by go_split_ands; exact Chg.size (S := []) (w := w) (by assumption)) ?_; intro a1 c1 w1 hown1 hgr1 hat1; simp only [Nat.zero_add, List.nil_append] at hown1 hat1)
      | (refine step_append_rd rfl (.tmp 8) (.tmp 10) 23 rfl w.heap.size 3 ii (.int .i64 0) 8 Try.underlying23 hii hii0 hii1 hii2 rfl (.slice (some ⟨_, 0, none⟩) 0 0) 0 [] rfl (own_empty (by first | exact grown_heap hgr1 (by simp only [heap_drew]; first | exact heap_new_at (by simp) | exact heap_keep (heap_new_at (by simp))) (by simp [Value.ownBlock]) | exact heap_new_at (by simp)) (by have h1 := HWs.out; have h2 := hgr1.size; simp at h2; omega)) co c.length cc fp (iv c) rfl (iv_length c) (H2.out.chg (S := []) (by go_split_ands; assumption) (by simp)) (iv_one c) (by omega) (by unfold maxLen; omega) (by go_split_ands; exact Chg.size (S := []) (w := w) (by assumption)) ?_; intro a2 c2 w2 hown2 hgr2 hat2; simp only [Nat.zero_add, List.nil_append] at hown2 hat2))
  all_goals (go_wp2; go_ret)
  all_goals
    rename_i hS
    have hs1 := hgr1.size
    have hs2 := hgr2.size
    have hs0 := HWs.out
    simp at hs1 hs2
    refine refNew_fin hown1 hown2 (fun k hk => ?_) (by obtain ⟨_, _, h3⟩ := hS; exact ⟨h3.os, h3.tape, h3.output, by omega, fun k hlt hn => by rw [← h3.block k hlt hn, heap_alloc_old _ _ (by omega)]⟩) (by omega)
    have hlt := hown1.lt k hk
    rw [hk] at hat1
    simp [Value.ownBlock] at hat1
    rw [hgr2.block k (by first | omega | (simp; omega)) (by simp [Value.ownBlock]; omega)]
    try exact heap_alloc_old _ _ (by omega)
end Go.Proofs.Ytljlcigbehgohaa
