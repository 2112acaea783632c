/- package source: what its functions do, in words on the source's own state. -/
import Derived.Test.YtljlcigbehgohaaClone
import Derived.BigQuiet
import Derived.Deep.QuietTactic
import Derived.Deep.RegionHeld3
import Derived.Deep.DeepMust
namespace Go.Pax
structure Src where
  rest : List UInt8
  chunks : List Int
  fail : Int
  off : Int
  reads : Int
end Go.Pax
namespace Go.Proofs.Ytljlcigbehgohaa
open Go.RowKit Go.Pax

def SrcAt (w : World) (p : Nat) (fp : List Nat) (σ : Src) : Prop :=
  ∃ ra rc ca cc, w.heap[p]? = some (.cells #[.slice ra σ.rest.length rc, .slice ca σ.chunks.length cc, .int .i64 σ.fail, .int .i64 σ.off, .int .i64 σ.reads] 103 (0, 0)) ∧
    Rd w fp ra (bv σ.rest) ∧ Rd w fp ca (iv σ.chunks) ∧ p ∉ fp ∧ σ.rest.length ≤ rc

/-- A value that a call has made: it owns bytes. -/
def Made (e : Ending) (w w' : World) (S : World → Nat → List Nat → Prop) : Prop :=
  ∃ p fp, e = .returned (.pointer (some ⟨p, 0, none⟩)) ∧ S w' p fp ∧ Chg [] w w' ∧ w.heap.size ≤ p ∧ ∀ k ∈ fp, w.heap.size ≤ k ∧ k < w'.heap.size

theorem keep2 {w w1 w2 : World} {a b : Addr} {va vb : Value} (k : Chg [] w1 w2) (h : w1.cell? a = some va ∧ w1.cell? b = some vb ∧ Chg [] w w1) :
    w2.cell? a = some va ∧ w2.cell? b = some vb ∧ Chg [] w w2 := ⟨k.cell h.1 (by simp), k.cell h.2.1 (by simp), h.2.2.trans k⟩

set_option maxHeartbeats 1000000 in
theorem srcNew (w : World) (bo co : Option Addr) (bc cc : Nat) (b : List UInt8) (c : List Int) (fail : Int) (fp : List Nat) (hb : b.length ≤ 140737488355328) (hcl : c.length * 8 ≤ 140737488355328)
    (h1 : Rd w fp bo (bv b)) (h2 : Rd w fp co (iv c)) :
    Calls Try.prog 24 #[.slice bo b.length bc, .agg #[.slice co c.length cc, .int .i64 fail]] w fun e w' => Made e w w' fun w' p fp => SrcAt w' p fp ⟨b, c, fail, 0, 0⟩ := by
  have H1 := Lib.hid h1
  have H2 := Lib.hid h2
  clear h1 h2
  go_enter Try.func24, Try.ntmps24
  go_wp2_with fail
  have hc0 : (w.alloc (.cells #[.slice co c.length cc, .int .i64 fail] 25)).cell? ⟨w.heap.size, 0, none⟩ = some (.slice co c.length cc) := by go_simp
  have hc1 : (w.alloc (.cells #[.slice co c.length cc, .int .i64 fail] 25)).cell? ⟨w.heap.size, 1, none⟩ = some (.int .i64 fail) := by go_simp
  have hcW : Chg [] w (w.alloc (.cells #[.slice co c.length cc, .int .i64 fail] 25)) := (Chg.refl _ _).alloc _
  generalize w.alloc (.cells #[.slice co c.length cc, .int .i64 fail] 25) = W at *
  go_region_held3 (fun w' => w'.cell? ⟨w.heap.size, 0, none⟩ = some (.slice co c.length cc) ∧ w'.cell? ⟨w.heap.size, 1, none⟩ = some (.int .i64 fail) ∧ Chg [] w w')
    (first
      | exact ⟨by simp [*], by simp [*], hcW.drew⟩
      | exact keep2 (Chg.of_grown hgr1 (by simp)) (by assumption)
      | exact keep2 (Chg.of_grown hgr2 (by simp)) (by assumption)
      | exact keep2 ((Chg.refl _ _).alloc _) (by assumption))
    (first
      | (go_at_call 59; refine (cloneBytes _ bo _ bc fp b rfl hb (H1.out.chg (S := []) (by go_split_ands; assumption) (by simp))).mono ?_; rintro e w1 ⟨a1, c1, rfl, hown1, hgr1⟩)
      | (go_at_call 60; refine (cloneInts _ co _ cc fp c rfl hcl (H2.out.chg (S := []) (by go_split_ands; assumption) (by simp))).mono ?_; rintro e w2 ⟨a2, c2, rfl, hown2, hgr2⟩))
  go_wp2
  go_ret
  obtain ⟨f1, r1, b1, l1⟩ := own_rd hown1
  obtain ⟨f2, r2, b2, l2⟩ := own_rd hown2
  have k1 : Chg [] W w1 := (Chg.refl _ _).drew.trans (Chg.of_grown hgr1 (by simp))
  have k2 : Chg [] w1 w2 := Chg.of_grown hgr2 (by simp)
  have k3 : Chg [] w2 (w2.alloc (.cells #[.slice a1 b.length c1, .slice a2 c.length c2, .int .i64 fail, .int .i64 0, .int .i64 0] 103)) := (Chg.refl _ _).alloc _
  have s0 := hcW.size
  have s1 := k1.size
  have s2 := k2.size
  have hd : W.drew.heap.size = W.heap.size := rfl
  refine ⟨w2.heap.size, f1 ++ f2, rfl, ⟨a1, c1, a2, c2, heap_alloc_new _ _, ?_, ?_, ?_, l1⟩, ((hcW.trans k1).trans k2).trans k3, by omega, ?_⟩
  · exact ((r1.chg k2 (by simp)).chg k3 (by simp)).mono (fun k hk => List.mem_append_left _ hk)
  · exact (r2.chg k3 (by simp)).mono (fun k hk => List.mem_append_right _ hk)
  · intro hm
    rcases List.mem_append.1 hm with hm | hm
    · have := b1 _ hm; omega
    · have := b2 _ hm; omega
  · intro k hm
    rcases List.mem_append.1 hm with hm | hm
    · have := b1 _ hm; exact ⟨by omega, Nat.lt_of_lt_of_le (by omega) k3.size⟩
    · have := b2 _ hm; exact ⟨by omega, Nat.lt_of_lt_of_le (by omega) k3.size⟩

end Go.Proofs.Ytljlcigbehgohaa
namespace Go.Pax
open Go.RowKit
def chunkOf (chunks : List Int) (i : Int) : Int := if chunks = [] then 1048576 else max 1 (chunks.getD (i % chunks.length).toNat 0)
theorem chunkOf_pos (chunks : List Int) (i : Int) : 1 ≤ chunkOf chunks i := by unfold chunkOf; split <;> omega
/-- How many bytes a read delivers when it delivers some. -/
def Src.k0 (σ : Src) (n : Int) : Int := imin (imin n (chunkOf σ.chunks σ.reads)) σ.rest.length
def Src.k (σ : Src) (n : Int) : Int := if 0 < wrap64 (σ.fail - σ.off) then imin (σ.k0 n) (wrap64 (σ.fail - σ.off)) else σ.k0 n
def Src.step (σ : Src) (k : Nat) : Src := { σ with rest := σ.rest.drop k, off := wrap64 (σ.off + k), reads := wrap64 (σ.reads + 1) }
def Src.read (σ : Src) (n : Int) : Int × List UInt8 × Src :=
  if n < 1 then (2, [], σ) else if σ.off = σ.fail then (11, [], σ) else if σ.rest = [] then (4, [], σ)
  else (0, σ.rest.take (σ.k n).toNat, σ.step (σ.k n).toNat)
end Go.Pax
namespace Go.Proofs.Ytljlcigbehgohaa
open Go.RowKit Go.Pax

theorem cell_heap {w : World} {p : Nat} {cs : Array Value} {t : TypeId} {fr : Nat × Nat} (h : w.heap[p]? = some (.cells cs t fr)) (j : Nat) {u : Value} (hu : cs[j]? = some u) : w.cell? ⟨p, j, none⟩ = some u := by
  rw [cell_of_row w p j cs t fr h, hu]

set_option maxHeartbeats 400000 in
theorem srcChunk (w : World) (p : Nat) (fp : List Nat) (σ : Src) (h : SrcAt w p fp σ) (hr : 0 ≤ σ.reads) (hl : σ.chunks.length ≤ 140737488355328) :
    Calls Try.prog 61 #[.pointer (some ⟨p, 0, none⟩)] w fun e w' => e = .returned (.int .i64 (chunkOf σ.chunks σ.reads)) ∧ ∃ k, w' = w.drewN k := by
  obtain ⟨ra, rc, ca, cc, hp, hR, hC, _, _⟩ := h
  have h0 := cell_heap hp 1 rfl
  have h4 := cell_heap hp 4 rfl
  obtain ⟨rest, chunks, fail, off, reads⟩ := σ
  simp only at *
  clear hp hR
  by_cases hn : chunks = []
  · subst hn
    simp only [List.length_nil] at h0
    clear hC
    go_enter Try.func61, Try.ntmps61
    go_wp2
    go_ret
    exact ⟨rfl, 0, rfl⟩
  · have hn0 : 0 < chunks.length := List.length_pos_iff.2 hn
    have hb1 : ¬ chunks.length = 0 := by omega
    have hm1 : 0 ≤ reads % chunks.length := Int.emod_nonneg _ (by omega)
    have hm2 : reads % chunks.length < chunks.length := Int.emod_lt_of_pos _ (by omega)
    obtain ⟨ad, rfl, _, h5⟩ := hC (reads % chunks.length).toNat _ (iv_get chunks _ (by omega))
    have hv : chunkOf chunks reads = max 1 (chunks[(reads % chunks.length).toNat]'(by omega)) := by
      unfold chunkOf; rw [if_neg hn, List.getD_eq_getElem?_getD, List.getElem?_eq_getElem (by omega)]; rfl
    have HV := Lib.hid hv
    clear hv hC
    generalize chunks[(reads % chunks.length).toNat]'(by omega) = v at *
    have HN := Lib.hid hn
    clear hn
    generalize chunkOf chunks reads = V at *
    generalize chunks.length = n at *
    have hb : ((n : Int) == 0) = false := by simp; omega
    go_enter Try.func61, Try.ntmps61
    go_wp2_with fail
    go_quiet (fail)
    go_wp2
    all_goals
      go_ret
      exact ⟨by rw [HV.out]; congr 2; simp; omega, _, rfl⟩


theorem srcStep_at {w w1 : World} {p : Nat} {fp : List Nat} {σ : Src} {ra ca : Option Addr} {rc cc k : Nat} (_hk : k ≤ σ.rest.length) (k1 : Chg [] w w1) (hR : Rd w fp ra (bv σ.rest)) (hC : Rd w fp ca (iv σ.chunks)) (hpf : p ∉ fp) (hrc : σ.rest.length ≤ rc)
    (hp1 : w1.heap[p]? = some (.cells #[.slice ra σ.rest.length rc, .slice ca σ.chunks.length cc, .int .i64 σ.fail, .int .i64 σ.off, .int .i64 σ.reads] 103 (0, 0))) {ra2 : Option Addr} (hra : ra2 = cutA ra rc k) :
    SrcAt (((w1.setCell ⟨p, 0, none⟩ (.slice ra2 (σ.rest.length - k) (rc - k))).setCell ⟨p, 3, none⟩ (.int .i64 (wrap64 (σ.off + k)))).setCell ⟨p, 4, none⟩ (.int .i64 (wrap64 (σ.reads + 1)))) p fp (σ.step k) ∧
    Chg [p] w1 (((w1.setCell ⟨p, 0, none⟩ (.slice ra2 (σ.rest.length - k) (rc - k))).setCell ⟨p, 3, none⟩ (.int .i64 (wrap64 (σ.off + k)))).setCell ⟨p, 4, none⟩ (.int .i64 (wrap64 (σ.reads + 1)))) := by
  subst hra
  have h2 := heap_set (heap_set (heap_set hp1 0 (.slice (cutA ra rc k) (σ.rest.length - k) (rc - k)) rfl) 3 (.int .i64 (wrap64 (σ.off + k))) rfl) 4 (.int .i64 (wrap64 (σ.reads + 1))) rfl
  have k2 : Chg [p] w1 (((w1.setCell ⟨p, 0, none⟩ (.slice (cutA ra rc k) (σ.rest.length - k) (rc - k))).setCell ⟨p, 3, none⟩ (.int .i64 (wrap64 (σ.off + k)))).setCell ⟨p, 4, none⟩ (.int .i64 (wrap64 (σ.reads + 1)))) :=
    (((Chg.refl _ _).setCell (fun _ => by simp) _).setCell (fun _ => by simp) _).setCell (fun _ => by simp) _
  have k3 := (k1.mono (T := [p]) (by simp)).trans k2
  refine ⟨⟨cutA ra rc k, rc - k, ca, cc, ?_, ?_, ?_, hpf, ?_⟩, k2⟩
  · rw [h2]; simp [Src.step]
  · have := (hR.drop k rc (by rw [bv_length]; exact hrc)).chg k3 (by intro x hx; simp; rintro rfl; exact hpf hx)
    rwa [bv_drop] at this
  · exact hC.chg k3 (by intro x hx; simp; rintro rfl; exact hpf hx)
  · simp [Src.step]; omega

set_option maxHeartbeats 1000000 in
theorem srcRead_ok (w : World) (p : Nat) (fp : List Nat) (σ : Src) (n : Int) (h : SrcAt w p fp σ) (hr : 0 ≤ σ.reads) (hl : σ.chunks.length ≤ 140737488355328) (hl2 : σ.rest.length ≤ 140737488355328)
    (h1 : 1 ≤ n) (h2 : n ≤ 9223372036854775807) (h3 : σ.off ≠ σ.fail) (h4 : σ.rest ≠ []) :
    Calls Try.prog 25 #[.pointer (some ⟨p, 0, none⟩), .int .i64 n] w fun e w' => ∃ ao cap, e = .returned (.tuple #[.slice ao (σ.k n).toNat cap, .int .i64 0]) ∧
      w'.ownsRow w.heap.size 5 1 (.slice ao (σ.k n).toNat cap) (σ.k n).toNat (bv (σ.rest.take (σ.k n).toNat)) ∧ SrcAt w' p fp (σ.step (σ.k n).toNat) ∧ Chg [p] w w' := by
  have H := h
  obtain ⟨ra, rc, ca, cc, hp, hR, hC, hpf, hrc⟩ := h
  have c0 : w.cell? ⟨p, 0, none⟩ = some (.slice ra σ.rest.length rc) := cell_heap hp 0 rfl
  have c2 : w.cell? ⟨p, 2, none⟩ = some (.int .i64 σ.fail) := cell_heap hp 2 rfl
  have c3 : w.cell? ⟨p, 3, none⟩ = some (.int .i64 σ.off) := cell_heap hp 3 rfl
  have hlen : 0 < σ.rest.length := List.length_pos_iff.2 h4
  have hb0 : ((σ.rest.length : Int) == 0) = false := by simp; omega
  have hb1 : (σ.off == σ.fail) = false := by simpa using h3
  have hch := chunkOf_pos σ.chunks σ.reads
  have HR := Lib.hid hR
  have HC := Lib.hid hC
  have HH := Lib.hid H
  have HP := Lib.hid hp
  clear hR hC hp H h3 h4
  go_enter Try.func25, Try.ntmps25
  go_wp2_with fail
  go_quiet (fail)
  go_wp2_with fail
  go_quiet ((go_at_call 61; exact quiet_of2 (srcChunk _ p fp σ HH.out hr hl)))
  simp only [imin_fold]
  generalize hK0 : imin (imin n (chunkOf σ.chunks σ.reads)) σ.rest.length = K0
  have b0 : 1 ≤ K0 ∧ K0 ≤ σ.rest.length := by rw [← hK0]; unfold imin; omega
  obtain ⟨b01, b02⟩ := b0
  have HK0 := Lib.hid hK0
  clear hK0
  go_wp2_with fail
  go_quiet (fail)
  go_upto_region 12 with (fail)
  generalize hD : wrap64 (σ.fail - σ.off) = D
  have HD := Lib.hid hD
  clear hD
  have hK : σ.k n = if 0 < D then imin K0 D else K0 := by
    unfold Src.k; rw [HD.out]; unfold Src.k0; rw [HK0.out]
  obtain ⟨K, hKd⟩ : ∃ K, K = if 0 < D then imin K0 D else K0 := ⟨_, rfl⟩
  rw [← hKd] at hK
  have b3 : 1 ≤ K ∧ K ≤ σ.rest.length := by rw [hKd]; unfold imin; split <;> omega
  obtain ⟨b31, b32⟩ := b3
  by_cases hd : 0 < D
  all_goals
    go_upto_region 14 with (fail)
    first | (rw [if_pos hd] at hKd; simp only [imin_fold]) | rw [if_neg hd] at hKd
    rw [← hKd]
    clear hKd
    obtain ⟨k, rfl⟩ : ∃ k : Nat, K = k := ⟨K.toNat, by omega⟩
    have HK := Lib.hid hK
    clear hK
    go_wp2_with fail
    refine (cloneBytes _ ra k rc fp (σ.rest.take k) (by rw [List.length_take]; omega) (by omega) (by rw [← bv_take]; exact (HR.out.chg (S := []) ((Chg.refl _ _).drewN _) (by simp)).take k)).mono ?_
    rintro e w1 ⟨a1, cp1, rfl, hown1, hgr1⟩
    have k1 : Chg [] w w1 := ((Chg.refl _ _).drewN _).trans (Chg.of_grown hgr1 (by simp))
    have hp1 := k1.heap HP.out (by simp)
    have d0 : w1.cell? ⟨p, 0, none⟩ = some (.slice ra σ.rest.length rc) := cell_heap hp1 0 rfl
    have d3 : w1.cell? ⟨p, 3, none⟩ = some (.int .i64 σ.off) := cell_heap hp1 3 rfl
    have d4 : w1.cell? ⟨p, 4, none⟩ = some (.int .i64 σ.reads) := cell_heap hp1 4 rfl
    have e0 : w1.frozen? ⟨p, 0, none⟩ = false := frozen_of_row _ _ _ _ _ hp1
    have e3 : w1.frozen? ⟨p, 3, none⟩ = false := frozen_of_row _ _ _ _ _ hp1
    have e4 : w1.frozen? ⟨p, 4, none⟩ = false := frozen_of_row _ _ _ _ _ hp1
    have HP1 := Lib.hid hp1
    have HO := Lib.hid hown1
    have HK1 := Lib.hid k1
    clear hp1 hown1 k1 hgr1
    by_cases hrk : rc = k
    · subst hrk
      go_wp2_with fail
      go_ret2
      have hkk : (σ.k n).toNat = rc := by rw [HK.out]; rfl
      rw [hkk]
      have hh := srcStep_at (k := rc) (ra2 := ra) (by omega) HK1.out HR.out HC.out hpf hrc HP1.out (by unfold cutA; rw [if_pos rfl])
      rw [Nat.sub_self, show σ.rest.length - rc = 0 from by omega] at hh
      exact ⟨a1, cp1, rfl, own_chg HO.out hh.2 (fun g hg => by simp; rintro rfl; exact absurd (lt_of_block HP.out) (Nat.not_lt.2 hg)), hh.1, (HK1.out.mono (by simp)).trans hh.2⟩
    · go_wp2_with fail
      go_ret2
      have hkk : (σ.k n).toNat = k := by rw [HK.out]; rfl
      rw [hkk]
      have hh := srcStep_at (k := k) (by omega) HK1.out HR.out HC.out hpf hrc HP1.out (by unfold cutA; rw [if_neg hrk])
      exact ⟨a1, cp1, rfl, own_chg HO.out hh.2 (fun g hg => by simp; rintro rfl; exact absurd (lt_of_block HP.out) (Nat.not_lt.2 hg)), hh.1, (HK1.out.mono (by simp)).trans hh.2⟩
end Go.Proofs.Ytljlcigbehgohaa
