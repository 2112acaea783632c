/- paxtarref05: New, Write, WriteAll. -/
import Derived.Test.YtljlcigbehgohaaSinkB
namespace Go.Proofs.Ytljlcigbehgohaa
open Go.RowKit Go.Pax

def RSnkAt (w : World) (p : Nat) (fp own : List Nat) (σ : Snk) : Prop :=
  ∃ ba bc ca cc, w.heap[p]? = some (.cells #[.slice ba σ.b.length bc, .slice ca σ.chunks.length cc, .int .i64 σ.fail, .int .i64 σ.writes] 60 (0, 0)) ∧
    Rd w fp ca (iv σ.chunks) ∧ Rd w own ba (bv σ.b) ∧ (∀ x ∈ fp, x ≠ p ∧ x < w.heap.size) ∧ (∀ x ∈ own, x ≠ p ∧ x < w.heap.size)
theorem RSnkAt.chg {w w' : World} {p : Nat} {fp own S : List Nat} {σ : Snk} (h : RSnkAt w p fp own σ) (k : Chg S w w') (hp : p ∉ S) (hf : ∀ x ∈ fp, x ∉ S) (ho : ∀ x ∈ own, x ∉ S) : RSnkAt w' p fp own σ := by
  obtain ⟨ba, bc, ca, cc, h1, h2, h3, h4, h5⟩ := h
  exact ⟨ba, bc, ca, cc, k.heap h1 hp, h2.chg k hf, h3.chg k ho, fun x hx => ⟨(h4 x hx).1, Nat.lt_of_lt_of_le (h4 x hx).2 k.size⟩, fun x hx => ⟨(h5 x hx).1, Nat.lt_of_lt_of_le (h5 x hx).2 k.size⟩⟩
theorem RSnkAt.lt {w : World} {p : Nat} {fp own : List Nat} {σ : Snk} (h : RSnkAt w p fp own σ) : p < w.heap.size := by
  obtain ⟨ba, bc, ca, cc, h1, _⟩ := h
  exact lt_of_block h1
def RSnkTo (w w' : World) (p : Nat) (fp own : List Nat) (σ : Snk) : Prop :=
  ∃ own', (RSnkAt w' p fp own' σ ∧ ∀ g ∈ own', g ∈ own ∨ w.heap.size ≤ g) ∧ Chg [p] w w'

theorem rsinkStep_at {w w2 : World} {p : Nat} {fp own : List Nat} {b b' : List UInt8} {chunks : List Int} {fail writes W : Int} {ba a2 ca : Option Addr} {bc c2 cc m : Nat} (k2 : Chg [] w w2)
    (hp : w.heap[p]? = some (.cells #[.slice ba b.length bc, .slice ca chunks.length cc, .int .i64 fail, .int .i64 writes] 60 (0, 0)))
    (hC : Rd w fp ca (iv chunks)) (hfl : ∀ x ∈ fp, x ≠ p ∧ x < w.heap.size) (hm : m = b'.length) (hown : w2.ownsRow w.heap.size 5 1 (.slice a2 m c2) m (bv b')) :
    RSnkTo w ((w2.setCell ⟨p, 0, none⟩ (.slice a2 m c2)).setCell ⟨p, 3, none⟩ (.int .i64 W)) p fp own ⟨b', chunks, fail, W⟩ := by
  subst hm
  have hplt := lt_of_block hp
  have hp2 := k2.heap hp (by simp)
  have h3 := heap_set (heap_set hp2 0 (.slice a2 b'.length c2) rfl) 3 (.int .i64 W) rfl
  have k3 : Chg [p] w2 ((w2.setCell ⟨p, 0, none⟩ (.slice a2 b'.length c2)).setCell ⟨p, 3, none⟩ (.int .i64 W)) :=
    ((Chg.refl _ _).setCell (fun _ => by simp) _).setCell (fun _ => by simp) _
  have k4 : Chg [p] w _ := (k2.mono (T := [p]) (by simp)).trans k3
  obtain ⟨r1, r2, _⟩ := own_rd2 hown
  refine ⟨_, ⟨⟨a2, c2, ca, cc, ?_, hC.chg k4 (fun x hx => by simp; exact (hfl x hx).1), r1.chg k3 (fun x hx => by simp; rintro rfl; have := r2 _ hx; omega), fun x hx => ⟨(hfl x hx).1, Nat.lt_of_lt_of_le (hfl x hx).2 k4.size⟩, fun x hx => ⟨?_, ?_⟩⟩, fun g hg => .inr (r2 g hg).1⟩, k4⟩
  · rw [h3]; simp
  · rintro rfl; have := r2 _ hx; omega
  · exact Nat.lt_of_lt_of_le (r2 x hx).2 k3.size

set_option maxRecDepth 100000 in
set_option maxHeartbeats 8000000 in
theorem rsinkWrite (w : World) (p : Nat) (fp own fa : List Nat) (σ : Snk) (x : List UInt8) (bo : Option Addr) (bc : Nat) (h : RSnkAt w p fp own σ) (hok : σ.Ok) (hx : Rd w fa bo (bv x)) (hxc : x.length ≤ bc)
    (hb : σ.b.length + x.length ≤ 140737488355328) :
    Calls Try.prog 39 #[.pointer (some ⟨p, 0, none⟩), .slice bo x.length bc] w fun e w' => e = .returned (.tuple #[.int .i64 (σ.write x).1, .int .i64 (σ.write x).2.1]) ∧ RSnkTo w w' p fp own (σ.write x).2.2 := by
  have H := Lib.hid h
  have HX := Lib.hid hx
  clear hx
  by_cases hx0 : x = []
  · rw [show σ.write x = (0, 0, σ) from by unfold Snk.write; rw [if_pos hx0]]
    subst hx0
    clear hok hb h
    go_enter Try.func39, Try.ntmps39
    go_wp2
    go_ret2
    exact ⟨rfl, own, ⟨H.out, fun g hg => .inl hg⟩, Chg.refl _ _⟩
  have hlen : 0 < x.length := List.length_pos_iff.2 hx0
  have hwc := σ.write_cases hok hx0
  have hnd : σ.n x = imin x.length (if 0 ≤ σ.fail then imin (chunkOf σ.chunks σ.writes) (σ.fail - σ.b.length) else chunkOf σ.chunks σ.writes) := rfl
  have w0 := hok.writes0
  have w1 := hok.writesl
  have hl := hok.clen
  have hff := hok.failf
  obtain ⟨hfr0, hfr1⟩ := hok.failr
  clear hok hx0
  obtain ⟨b, chunks, fail, writes⟩ := σ
  obtain ⟨ba, bk, ca, cc, hp, hC, hR, hfl, hol⟩ := h
  simp only at *
  have d0 := cell_heap hp 0 rfl
  have d1 := cell_heap hp 1 rfl
  have d2 := cell_heap hp 2 rfl
  have d3 := cell_heap hp 3 rfl
  have HP := Lib.hid hp
  have HC := Lib.hid hC
  have HR := Lib.hid hR
  have HFL := Lib.hid hfl
  have HOL := Lib.hid hol
  clear hp hC hR hfl hol
  have hch := chunkOf_pos chunks writes
  obtain ⟨ib, hib, hib0, hib1, hib2⟩ := Try.infoB
  rcases hwc with ⟨hw, hf, hc⟩ | ⟨N, n1, n2, n3, n4, hw⟩
  · rw [hw]
    clear hw hnd hff
    generalize hBL : b.length = L at *
    have HBL := Lib.hid hBL
    clear hBL
    generalize hXL : x.length = X at *
    have HXL := Lib.hid hXL
    clear hXL
    have hcb : ((L : Int) == fail) = true := by simpa using hc
    clear hc
    go_enter Try.func39, Try.ntmps39
    go_wp2_with fail
    go_quiet (fail)
    go_wp2
    go_ret2
    exact ⟨rfl, own, ⟨H.out.chg ((Chg.refl [] w).drewN _) (by simp) (by simp) (by simp), fun g hg => .inl hg⟩, (Chg.refl _ _).drewN _⟩
  rw [hw]
  rw [← n3] at hnd
  have HND := Lib.hid hnd
  have N4 := Lib.hid n4
  clear hw hnd n3 n4
  generalize hBL : b.length = L at *
  have HBL := Lib.hid hBL
  clear hBL
  generalize hXL : x.length = X at *
  have HXL := Lib.hid hXL
  clear hXL
  have hNc : (N : Int) ≤ bc := by omega
  by_cases hf : 0 ≤ fail
  · have hcb : ((L : Int) == fail) = false := by have := N4.out; simp; omega
    have hl0 := hff hf
    clear hff
    go_enter Try.func39, Try.ntmps39
    go_wp2_with fail
    go_quiet (fail)
    go_upto_region 6 with (fail)
    go_region_held3 (fun w' => w'.cell? ⟨p, 1, none⟩ = some (.slice ca chunks.length cc) ∧ w'.cell? ⟨p, 2, none⟩ = some (.int .i64 fail) ∧ w'.cell? ⟨p, 3, none⟩ = some (.int .i64 writes) ∧ Chg [] w w')
      (first | exact ⟨by simp [*], by simp [*], by simp [*], ((Chg.refl _ _).drewN _).drew⟩ | exact keep3 hk1 (by assumption))
      (first | (go_at_call 62; refine (refChunk _ ca cc chunks fp fail writes (HC.out.chg (S := []) (by go_split_ands; assumption) (by simp)) w0 hl).mono ?_; rintro e w1 ⟨rfl, hk1⟩))
    rename_i hS
    have k1 : Chg [] w w1 := hS.2.2.2
    clear hS hk1 d0 d1 d2 d3
    have hp1 := k1.heap HP.out (by simp)
    have d0 : w1.cell? ⟨p, 0, none⟩ = some (.slice ba L bk) := cell_heap hp1 0 rfl
    have d2 : w1.cell? ⟨p, 2, none⟩ = some (.int .i64 fail) := cell_heap hp1 2 rfl
    have HP1 := Lib.hid hp1
    have HK1 := Lib.hid k1
    clear hp1 k1
    generalize chunkOf chunks writes = V at *
    by_cases hv : V < X
    · by_cases hm : fail - (L : Int) < V
      · go_upto_region 9 with (fail)
        go_quiet (fail)
        · go_upto_region 12 with (fail)
          have hEE : fail - (L : Int) = (N : Int) := by have := HND.out; unfold imin at this; omega
          rw [hEE]
          clear hEE
          have da : ∀ n, ((w1.drewN n).alloc (.cells #[] 5)).cell? ⟨p, 0, none⟩ = some (.slice ba L bk) := fun n => Lib.cell?_alloc_some _ d0
          go_region_law (first
            | (refine step_append_rd rfl (.tmp 70) (.tmp 74) 22 rfl w.heap.size 5 ib (.int .u8 0) 1 Try.underlying22 hib hib0 hib1 hib2 rfl (.slice (some ⟨_, 0, none⟩) 0 0) 0 [] rfl (own_empty (heap_new_at (by first | rfl | simp)) (by have h1 := HK1.out.size; simp; omega)) ba L bk own (bv b) rfl (by rw [bv_length, HBL.out]) (HR.out.chg (S := []) ((HK1.out.drewN _).alloc _) (by simp)) (bv_one _) (by omega) (by unfold maxLen; omega) (by have h1 := HK1.out.size; simp; omega) ?_; intro a2 c2 w2 hown2 hgr2 hat2; simp only [Nat.zero_add, List.nil_append] at hown2 hat2; have hk2 : Chg [] w w2 := ((HK1.out.drewN _).alloc (.cells #[] 5)).grown hgr2 (fun k hk hlt => absurd hlt (by have h1 := HK1.out.size; simp [Value.ownBlock] at hk; subst hk; simp; omega)); have HOWN2 := Lib.hid hown2; have HK2 := Lib.hid hk2; clear hown2 hgr2 hat2 hk2)
            | (refine step_append_rd rfl (.tmp 75) (.tmp 78) 22 rfl w.heap.size 5 ib (.int .u8 0) 1 Try.underlying22 hib hib0 hib1 hib2 rfl (.slice a2 L c2) L (bv b) rfl HOWN2.out bo N bc fa (bv (x.take N)) rfl (by rw [bv_length, List.length_take, HXL.out]; omega) (by rw [← bv_take]; exact (HX.out.take N).chg (S := []) HK2.out (by simp)) (bv_one _) (by omega) (by unfold maxLen; omega) HK2.out.size ?_; intro a3 c3 w3 hown3 hgr3 hat3; have hk3 : Chg [] w w3 := HK2.out.grown hgr3 (fun k hk hlt => by have h1 := HOWN2.out.lt k hk; omega); have hp3 := hk3.heap HP.out (by simp); have e0 : w3.cell? ⟨p, 0, none⟩ = some (.slice ba L bk) := cell_heap hp3 0 rfl; have f0 : w3.frozen? ⟨p, 0, none⟩ = false := frozen_of_row _ _ _ _ _ hp3; have e3 : w3.cell? ⟨p, 3, none⟩ = some (.int .i64 writes) := cell_heap hp3 3 rfl; have f3 : w3.frozen? ⟨p, 3, none⟩ = false := frozen_of_row _ _ _ _ _ hp3; rw [← bv_append] at hown3; have HOWN3 := Lib.hid hown3; have HK3 := Lib.hid hk3; clear hown3 hgr3 hat3 hk3 hp3))
          all_goals
            go_wp2_with fail
            go_ret2
            exact ⟨rfl, rsinkStep_at HK3.out (by rw [HBL.out]; exact HP.out) HC.out HFL.out (by rw [List.length_append, List.length_take, HBL.out, HXL.out]; omega) HOWN3.out⟩
      · go_upto_region 9 with (fail)
        go_quiet (fail)
        · go_upto_region 12 with (fail)
          have hEE : V = (N : Int) := by have := HND.out; unfold imin at this; omega
          rw [hEE]
          clear hEE
          have da : ∀ n, ((w1.drewN n).alloc (.cells #[] 5)).cell? ⟨p, 0, none⟩ = some (.slice ba L bk) := fun n => Lib.cell?_alloc_some _ d0
          go_region_law (first
            | (refine step_append_rd rfl (.tmp 70) (.tmp 74) 22 rfl w.heap.size 5 ib (.int .u8 0) 1 Try.underlying22 hib hib0 hib1 hib2 rfl (.slice (some ⟨_, 0, none⟩) 0 0) 0 [] rfl (own_empty (heap_new_at (by first | rfl | simp)) (by have h1 := HK1.out.size; simp; omega)) ba L bk own (bv b) rfl (by rw [bv_length, HBL.out]) (HR.out.chg (S := []) ((HK1.out.drewN _).alloc _) (by simp)) (bv_one _) (by omega) (by unfold maxLen; omega) (by have h1 := HK1.out.size; simp; omega) ?_; intro a2 c2 w2 hown2 hgr2 hat2; simp only [Nat.zero_add, List.nil_append] at hown2 hat2; have hk2 : Chg [] w w2 := ((HK1.out.drewN _).alloc (.cells #[] 5)).grown hgr2 (fun k hk hlt => absurd hlt (by have h1 := HK1.out.size; simp [Value.ownBlock] at hk; subst hk; simp; omega)); have HOWN2 := Lib.hid hown2; have HK2 := Lib.hid hk2; clear hown2 hgr2 hat2 hk2)
            | (refine step_append_rd rfl (.tmp 75) (.tmp 78) 22 rfl w.heap.size 5 ib (.int .u8 0) 1 Try.underlying22 hib hib0 hib1 hib2 rfl (.slice a2 L c2) L (bv b) rfl HOWN2.out bo N bc fa (bv (x.take N)) rfl (by rw [bv_length, List.length_take, HXL.out]; omega) (by rw [← bv_take]; exact (HX.out.take N).chg (S := []) HK2.out (by simp)) (bv_one _) (by omega) (by unfold maxLen; omega) HK2.out.size ?_; intro a3 c3 w3 hown3 hgr3 hat3; have hk3 : Chg [] w w3 := HK2.out.grown hgr3 (fun k hk hlt => by have h1 := HOWN2.out.lt k hk; omega); have hp3 := hk3.heap HP.out (by simp); have e0 : w3.cell? ⟨p, 0, none⟩ = some (.slice ba L bk) := cell_heap hp3 0 rfl; have f0 : w3.frozen? ⟨p, 0, none⟩ = false := frozen_of_row _ _ _ _ _ hp3; have e3 : w3.cell? ⟨p, 3, none⟩ = some (.int .i64 writes) := cell_heap hp3 3 rfl; have f3 : w3.frozen? ⟨p, 3, none⟩ = false := frozen_of_row _ _ _ _ _ hp3; rw [← bv_append] at hown3; have HOWN3 := Lib.hid hown3; have HK3 := Lib.hid hk3; clear hown3 hgr3 hat3 hk3 hp3))
          all_goals
            go_wp2_with fail
            go_ret2
            exact ⟨rfl, rsinkStep_at HK3.out (by rw [HBL.out]; exact HP.out) HC.out HFL.out (by rw [List.length_append, List.length_take, HBL.out, HXL.out]; omega) HOWN3.out⟩
    · by_cases hm : fail - (L : Int) < X
      · go_upto_region 9 with (fail)
        go_quiet (fail)
        · go_upto_region 12 with (fail)
          have hEE : fail - (L : Int) = (N : Int) := by have := HND.out; unfold imin at this; omega
          rw [hEE]
          clear hEE
          have da : ∀ n, ((w1.drewN n).alloc (.cells #[] 5)).cell? ⟨p, 0, none⟩ = some (.slice ba L bk) := fun n => Lib.cell?_alloc_some _ d0
          go_region_law (first
            | (refine step_append_rd rfl (.tmp 70) (.tmp 74) 22 rfl w.heap.size 5 ib (.int .u8 0) 1 Try.underlying22 hib hib0 hib1 hib2 rfl (.slice (some ⟨_, 0, none⟩) 0 0) 0 [] rfl (own_empty (heap_new_at (by first | rfl | simp)) (by have h1 := HK1.out.size; simp; omega)) ba L bk own (bv b) rfl (by rw [bv_length, HBL.out]) (HR.out.chg (S := []) ((HK1.out.drewN _).alloc _) (by simp)) (bv_one _) (by omega) (by unfold maxLen; omega) (by have h1 := HK1.out.size; simp; omega) ?_; intro a2 c2 w2 hown2 hgr2 hat2; simp only [Nat.zero_add, List.nil_append] at hown2 hat2; have hk2 : Chg [] w w2 := ((HK1.out.drewN _).alloc (.cells #[] 5)).grown hgr2 (fun k hk hlt => absurd hlt (by have h1 := HK1.out.size; simp [Value.ownBlock] at hk; subst hk; simp; omega)); have HOWN2 := Lib.hid hown2; have HK2 := Lib.hid hk2; clear hown2 hgr2 hat2 hk2)
            | (refine step_append_rd rfl (.tmp 75) (.tmp 78) 22 rfl w.heap.size 5 ib (.int .u8 0) 1 Try.underlying22 hib hib0 hib1 hib2 rfl (.slice a2 L c2) L (bv b) rfl HOWN2.out bo N bc fa (bv (x.take N)) rfl (by rw [bv_length, List.length_take, HXL.out]; omega) (by rw [← bv_take]; exact (HX.out.take N).chg (S := []) HK2.out (by simp)) (bv_one _) (by omega) (by unfold maxLen; omega) HK2.out.size ?_; intro a3 c3 w3 hown3 hgr3 hat3; have hk3 : Chg [] w w3 := HK2.out.grown hgr3 (fun k hk hlt => by have h1 := HOWN2.out.lt k hk; omega); have hp3 := hk3.heap HP.out (by simp); have e0 : w3.cell? ⟨p, 0, none⟩ = some (.slice ba L bk) := cell_heap hp3 0 rfl; have f0 : w3.frozen? ⟨p, 0, none⟩ = false := frozen_of_row _ _ _ _ _ hp3; have e3 : w3.cell? ⟨p, 3, none⟩ = some (.int .i64 writes) := cell_heap hp3 3 rfl; have f3 : w3.frozen? ⟨p, 3, none⟩ = false := frozen_of_row _ _ _ _ _ hp3; rw [← bv_append] at hown3; have HOWN3 := Lib.hid hown3; have HK3 := Lib.hid hk3; clear hown3 hgr3 hat3 hk3 hp3))
          all_goals
            go_wp2_with fail
            go_ret2
            exact ⟨rfl, rsinkStep_at HK3.out (by rw [HBL.out]; exact HP.out) HC.out HFL.out (by rw [List.length_append, List.length_take, HBL.out, HXL.out]; omega) HOWN3.out⟩
      · go_upto_region 9 with (fail)
        go_quiet (fail)
        · go_upto_region 12 with (fail)
          have hEE : (X : Int) = (N : Int) := by have := HND.out; unfold imin at this; omega
          rw [hEE]
          clear hEE
          have da : ∀ n, ((w1.drewN n).alloc (.cells #[] 5)).cell? ⟨p, 0, none⟩ = some (.slice ba L bk) := fun n => Lib.cell?_alloc_some _ d0
          go_region_law (first
            | (refine step_append_rd rfl (.tmp 70) (.tmp 74) 22 rfl w.heap.size 5 ib (.int .u8 0) 1 Try.underlying22 hib hib0 hib1 hib2 rfl (.slice (some ⟨_, 0, none⟩) 0 0) 0 [] rfl (own_empty (heap_new_at (by first | rfl | simp)) (by have h1 := HK1.out.size; simp; omega)) ba L bk own (bv b) rfl (by rw [bv_length, HBL.out]) (HR.out.chg (S := []) ((HK1.out.drewN _).alloc _) (by simp)) (bv_one _) (by omega) (by unfold maxLen; omega) (by have h1 := HK1.out.size; simp; omega) ?_; intro a2 c2 w2 hown2 hgr2 hat2; simp only [Nat.zero_add, List.nil_append] at hown2 hat2; have hk2 : Chg [] w w2 := ((HK1.out.drewN _).alloc (.cells #[] 5)).grown hgr2 (fun k hk hlt => absurd hlt (by have h1 := HK1.out.size; simp [Value.ownBlock] at hk; subst hk; simp; omega)); have HOWN2 := Lib.hid hown2; have HK2 := Lib.hid hk2; clear hown2 hgr2 hat2 hk2)
            | (refine step_append_rd rfl (.tmp 75) (.tmp 78) 22 rfl w.heap.size 5 ib (.int .u8 0) 1 Try.underlying22 hib hib0 hib1 hib2 rfl (.slice a2 L c2) L (bv b) rfl HOWN2.out bo N bc fa (bv (x.take N)) rfl (by rw [bv_length, List.length_take, HXL.out]; omega) (by rw [← bv_take]; exact (HX.out.take N).chg (S := []) HK2.out (by simp)) (bv_one _) (by omega) (by unfold maxLen; omega) HK2.out.size ?_; intro a3 c3 w3 hown3 hgr3 hat3; have hk3 : Chg [] w w3 := HK2.out.grown hgr3 (fun k hk hlt => by have h1 := HOWN2.out.lt k hk; omega); have hp3 := hk3.heap HP.out (by simp); have e0 : w3.cell? ⟨p, 0, none⟩ = some (.slice ba L bk) := cell_heap hp3 0 rfl; have f0 : w3.frozen? ⟨p, 0, none⟩ = false := frozen_of_row _ _ _ _ _ hp3; have e3 : w3.cell? ⟨p, 3, none⟩ = some (.int .i64 writes) := cell_heap hp3 3 rfl; have f3 : w3.frozen? ⟨p, 3, none⟩ = false := frozen_of_row _ _ _ _ _ hp3; rw [← bv_append] at hown3; have HOWN3 := Lib.hid hown3; have HK3 := Lib.hid hk3; clear hown3 hgr3 hat3 hk3 hp3))
          all_goals
            go_wp2_with fail
            go_ret2
            exact ⟨rfl, rsinkStep_at HK3.out (by rw [HBL.out]; exact HP.out) HC.out HFL.out (by rw [List.length_append, List.length_take, HBL.out, HXL.out]; omega) HOWN3.out⟩
  · have hf1 : decide (0 ≤ fail) = false := by simpa using hf
    clear hff
    go_enter Try.func39, Try.ntmps39
    go_wp2_with fail
    go_quiet (fail)
    go_upto_region 6 with (fail)
    go_region_held3 (fun w' => w'.cell? ⟨p, 1, none⟩ = some (.slice ca chunks.length cc) ∧ w'.cell? ⟨p, 2, none⟩ = some (.int .i64 fail) ∧ w'.cell? ⟨p, 3, none⟩ = some (.int .i64 writes) ∧ Chg [] w w')
      (first | exact ⟨by simp [*], by simp [*], by simp [*], ((Chg.refl _ _).drewN _).drew⟩ | exact keep3 hk1 (by assumption))
      (first | (go_at_call 62; refine (refChunk _ ca cc chunks fp fail writes (HC.out.chg (S := []) (by go_split_ands; assumption) (by simp)) w0 hl).mono ?_; rintro e w1 ⟨rfl, hk1⟩))
    rename_i hS
    have k1 : Chg [] w w1 := hS.2.2.2
    clear hS hk1 d0 d1 d2 d3
    have hp1 := k1.heap HP.out (by simp)
    have d0 : w1.cell? ⟨p, 0, none⟩ = some (.slice ba L bk) := cell_heap hp1 0 rfl
    have d2 : w1.cell? ⟨p, 2, none⟩ = some (.int .i64 fail) := cell_heap hp1 2 rfl
    have HP1 := Lib.hid hp1
    have HK1 := Lib.hid k1
    clear hp1 k1
    generalize chunkOf chunks writes = V at *
    by_cases hv : V < X
    · go_upto_region 9 with (fail)
      go_quiet (fail)
      · go_upto_region 12 with (fail)
        have hEE : V = (N : Int) := by have := HND.out; unfold imin at this; omega
        rw [hEE]
        clear hEE
        have da : ∀ n, ((w1.drewN n).alloc (.cells #[] 5)).cell? ⟨p, 0, none⟩ = some (.slice ba L bk) := fun n => Lib.cell?_alloc_some _ d0
        go_region_law (first
          | (refine step_append_rd rfl (.tmp 70) (.tmp 74) 22 rfl w.heap.size 5 ib (.int .u8 0) 1 Try.underlying22 hib hib0 hib1 hib2 rfl (.slice (some ⟨_, 0, none⟩) 0 0) 0 [] rfl (own_empty (heap_new_at (by first | rfl | simp)) (by have h1 := HK1.out.size; simp; omega)) ba L bk own (bv b) rfl (by rw [bv_length, HBL.out]) (HR.out.chg (S := []) ((HK1.out.drewN _).alloc _) (by simp)) (bv_one _) (by omega) (by unfold maxLen; omega) (by have h1 := HK1.out.size; simp; omega) ?_; intro a2 c2 w2 hown2 hgr2 hat2; simp only [Nat.zero_add, List.nil_append] at hown2 hat2; have hk2 : Chg [] w w2 := ((HK1.out.drewN _).alloc (.cells #[] 5)).grown hgr2 (fun k hk hlt => absurd hlt (by have h1 := HK1.out.size; simp [Value.ownBlock] at hk; subst hk; simp; omega)); have HOWN2 := Lib.hid hown2; have HK2 := Lib.hid hk2; clear hown2 hgr2 hat2 hk2)
          | (refine step_append_rd rfl (.tmp 75) (.tmp 78) 22 rfl w.heap.size 5 ib (.int .u8 0) 1 Try.underlying22 hib hib0 hib1 hib2 rfl (.slice a2 L c2) L (bv b) rfl HOWN2.out bo N bc fa (bv (x.take N)) rfl (by rw [bv_length, List.length_take, HXL.out]; omega) (by rw [← bv_take]; exact (HX.out.take N).chg (S := []) HK2.out (by simp)) (bv_one _) (by omega) (by unfold maxLen; omega) HK2.out.size ?_; intro a3 c3 w3 hown3 hgr3 hat3; have hk3 : Chg [] w w3 := HK2.out.grown hgr3 (fun k hk hlt => by have h1 := HOWN2.out.lt k hk; omega); have hp3 := hk3.heap HP.out (by simp); have e0 : w3.cell? ⟨p, 0, none⟩ = some (.slice ba L bk) := cell_heap hp3 0 rfl; have f0 : w3.frozen? ⟨p, 0, none⟩ = false := frozen_of_row _ _ _ _ _ hp3; have e3 : w3.cell? ⟨p, 3, none⟩ = some (.int .i64 writes) := cell_heap hp3 3 rfl; have f3 : w3.frozen? ⟨p, 3, none⟩ = false := frozen_of_row _ _ _ _ _ hp3; rw [← bv_append] at hown3; have HOWN3 := Lib.hid hown3; have HK3 := Lib.hid hk3; clear hown3 hgr3 hat3 hk3 hp3))
        all_goals
          go_wp2_with fail
          go_ret2
          exact ⟨rfl, rsinkStep_at HK3.out (by rw [HBL.out]; exact HP.out) HC.out HFL.out (by rw [List.length_append, List.length_take, HBL.out, HXL.out]; omega) HOWN3.out⟩
    · go_upto_region 9 with (fail)
      go_quiet (fail)
      · go_upto_region 12 with (fail)
        have hEE : (X : Int) = (N : Int) := by have := HND.out; unfold imin at this; omega
        rw [hEE]
        clear hEE
        have da : ∀ n, ((w1.drewN n).alloc (.cells #[] 5)).cell? ⟨p, 0, none⟩ = some (.slice ba L bk) := fun n => Lib.cell?_alloc_some _ d0
        go_region_law (first
          | (refine step_append_rd rfl (.tmp 70) (.tmp 74) 22 rfl w.heap.size 5 ib (.int .u8 0) 1 Try.underlying22 hib hib0 hib1 hib2 rfl (.slice (some ⟨_, 0, none⟩) 0 0) 0 [] rfl (own_empty (heap_new_at (by first | rfl | simp)) (by have h1 := HK1.out.size; simp; omega)) ba L bk own (bv b) rfl (by rw [bv_length, HBL.out]) (HR.out.chg (S := []) ((HK1.out.drewN _).alloc _) (by simp)) (bv_one _) (by omega) (by unfold maxLen; omega) (by have h1 := HK1.out.size; simp; omega) ?_; intro a2 c2 w2 hown2 hgr2 hat2; simp only [Nat.zero_add, List.nil_append] at hown2 hat2; have hk2 : Chg [] w w2 := ((HK1.out.drewN _).alloc (.cells #[] 5)).grown hgr2 (fun k hk hlt => absurd hlt (by have h1 := HK1.out.size; simp [Value.ownBlock] at hk; subst hk; simp; omega)); have HOWN2 := Lib.hid hown2; have HK2 := Lib.hid hk2; clear hown2 hgr2 hat2 hk2)
          | (refine step_append_rd rfl (.tmp 75) (.tmp 78) 22 rfl w.heap.size 5 ib (.int .u8 0) 1 Try.underlying22 hib hib0 hib1 hib2 rfl (.slice a2 L c2) L (bv b) rfl HOWN2.out bo N bc fa (bv (x.take N)) rfl (by rw [bv_length, List.length_take, HXL.out]; omega) (by rw [← bv_take]; exact (HX.out.take N).chg (S := []) HK2.out (by simp)) (bv_one _) (by omega) (by unfold maxLen; omega) HK2.out.size ?_; intro a3 c3 w3 hown3 hgr3 hat3; have hk3 : Chg [] w w3 := HK2.out.grown hgr3 (fun k hk hlt => by have h1 := HOWN2.out.lt k hk; omega); have hp3 := hk3.heap HP.out (by simp); have e0 : w3.cell? ⟨p, 0, none⟩ = some (.slice ba L bk) := cell_heap hp3 0 rfl; have f0 : w3.frozen? ⟨p, 0, none⟩ = false := frozen_of_row _ _ _ _ _ hp3; have e3 : w3.cell? ⟨p, 3, none⟩ = some (.int .i64 writes) := cell_heap hp3 3 rfl; have f3 : w3.frozen? ⟨p, 3, none⟩ = false := frozen_of_row _ _ _ _ _ hp3; rw [← bv_append] at hown3; have HOWN3 := Lib.hid hown3; have HK3 := Lib.hid hk3; clear hown3 hgr3 hat3 hk3 hp3))
        all_goals
          go_wp2_with fail
          go_ret2
          exact ⟨rfl, rsinkStep_at HK3.out (by rw [HBL.out]; exact HP.out) HC.out HFL.out (by rw [List.length_append, List.length_take, HBL.out, HXL.out]; omega) HOWN3.out⟩
end Go.Proofs.Ytljlcigbehgohaa
