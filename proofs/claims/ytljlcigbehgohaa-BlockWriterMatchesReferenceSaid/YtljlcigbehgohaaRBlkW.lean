/- paxtarref06: Writer.Write, Pad, Zeros. -/
import Derived.Test.YtljlcigbehgohaaRBlkR
import Derived.RegionTactic
namespace Go.Proofs.Ytljlcigbehgohaa
open Go.RowKit Go.Pax

structure RWrtAt (w : World) (r p : Nat) (fp own : List Nat) (err : Int) (σ : Snk) : Prop where
  blk : w.heap[r]? = some (.cells #[.pointer (some ⟨p, 0, none⟩), .int .i64 σ.b.length, .int .i64 err] 83 (0, 0))
  s : RSnkAt w p fp own σ
  rp : r ≠ p
  rf : r ∉ fp
  ro : r ∉ own
theorem RWrtAt.chg {w w' : World} {r p : Nat} {fp own S : List Nat} {err : Int} {σ : Snk} (h : RWrtAt w r p fp own err σ) (k : Chg S w w') (hr : r ∉ S) (hp : p ∉ S) (hf : ∀ x ∈ fp, x ∉ S) (ho : ∀ x ∈ own, x ∉ S) : RWrtAt w' r p fp own err σ :=
  ⟨k.heap h.blk hr, h.s.chg k hp hf ho, h.rp, h.rf, h.ro⟩
theorem RWrtAt.lt {w : World} {r p : Nat} {fp own : List Nat} {err : Int} {σ : Snk} (h : RWrtAt w r p fp own err σ) : r < w.heap.size := lt_of_block h.blk
/-- From w to w' the writer has come to (err, σ), and changed nothing but itself and its sink. -/
def RWrtTo (w w' : World) (r p : Nat) (fp own : List Nat) (err : Int) (σ : Snk) : Prop :=
  ∃ own', (RWrtAt w' r p fp own' err σ ∧ ∀ g ∈ own', g ∈ own ∨ w.heap.size ≤ g) ∧ Chg [r, p] w w'

set_option maxRecDepth 100000 in
set_option maxHeartbeats 2000000 in
theorem rwriterWrite (w : World) (r p : Nat) (fp own fa : List Nat) (err : Int) (σ : Snk) (x : List UInt8) (bo : Option Addr) (bc : Nat) (h : RWrtAt w r p fp own err σ) (hok : σ.Ok) (hx : Rd w fa bo (bv x)) (hxc : x.length ≤ bc)
    (hfa : ∀ k ∈ fa, k ≠ p) (hb : σ.b.length + x.length ≤ 140737488355328) :
    Calls Try.prog 51 #[.pointer (some ⟨r, 0, none⟩), .slice bo x.length bc] w fun e w' => e = .returned (.int .i64 (wWrite err σ x).1) ∧ RWrtTo w w' r p fp own (wWrite err σ x).1 (wWrite err σ x).2 := by
  by_cases he : err = 0
  · subst he
    rw [wWrite_ok]
    have c0 := cell_heap h.blk 0 rfl
    have c2 := cell_heap h.blk 2 rfl
    obtain ⟨ma, mc, ra, rc, hq, _⟩ := h.s
    have d0 := cell_heap hq 0 rfl
    have hst := rsinkAll w p fp own fa σ x bo bc h.s hok hx hxc hfa hb
    have hln := Snk.allF_len _ σ x hok (Nat.le_refl _)
    have hok1 := Snk.ok_all hok x
    have hge : σ.b.length ≤ (σ.all x).2.b.length := by
      obtain ⟨_, _, _, h4⟩ := Snk.allF_is _ σ x hok (Nat.le_refl _)
      unfold Snk.all
      rcases h4 with ⟨_, j2, _⟩ | ⟨_, j2, j3, j4⟩
      · rw [j2]; simp
      · rw [j4, List.length_take, List.length_append]; have := hok.failf j2; omega
    have hln2 : (σ.all x).2.b.length ≤ σ.b.length + x.length := hln
    generalize σ.all x = R at *
    obtain ⟨cd, σ1⟩ := R
    simp only at hst hln2 hok1 hge
    have H := Lib.hid h
    have HST := Lib.hid hst
    clear h hst hq hok hx hfa hln hok1
    generalize hL : σ.b.length = L at *
    generalize x.length = X at *
    have HL := Lib.hid hL
    clear hL
    go_enter Try.func51, Try.ntmps51
    go_upto_region 4 with (fail)
    have h0 := H.out
    go_upto_region 5 with (go_at_call 38; refine HST.out.mono ?_; rintro e w2 ⟨rfl, own2, ⟨hs2, hn2⟩, hk2⟩; have hb2 := hk2.heap H.out.blk (by simpa using H.out.rp); have e0 := cell_heap hb2 0 rfl; have e2 := cell_heap hb2 2 rfl; have f2 : w2.frozen? ⟨r, 2, none⟩ = false := frozen_of_row _ _ _ _ _ hb2; have HS2 := Lib.hid hs2; have HN2 := Lib.hid hn2; have HK2 := Lib.hid hk2; have HB2 := Lib.hid hb2; clear hs2 hn2 hk2 hb2)
    have k3 : Chg [r] w2 (w2.setCell ⟨r, 2, none⟩ (.int .i64 cd)) := (Chg.refl _ _).setCell (fun _ => by simp) _
    have hb3 := heap_set HB2.out 2 (.int .i64 cd) rfl
    have hrp := H.out.rp
    have hrf := H.out.rf
    have hlt := H.out.lt
    have hro2 : r ∉ own2 := fun hm => by
      rcases HN2.out r hm with h | h
      · exact H.out.ro h
      · omega
    have hs3 := HS2.out.chg k3 (by simpa using Ne.symm hrp) (fun y hy => by simp; rintro rfl; exact hrf hy) (fun y hy => by simp; rintro rfl; exact hro2 hy)
    have hk3 : Chg [r, p] w (w2.setCell ⟨r, 2, none⟩ (.int .i64 cd)) := (HK2.out.mono (T := [r, p]) (by simp)).trans (k3.mono (by simp))
    generalize w2.setCell ⟨r, 2, none⟩ (.int .i64 cd) = w3 at *
    have HS3 := Lib.hid hs3
    obtain ⟨mb, mbc, ra2, rc2, hq3, _⟩ := hs3
    have g0 := cell_heap hq3 0 rfl
    have g1 := cell_heap hb3 0 rfl
    have g2 := cell_heap hb3 1 rfl
    have g3 := cell_heap hb3 2 rfl
    have g4 : w3.frozen? ⟨r, 1, none⟩ = false := frozen_of_row _ _ _ _ _ hb3
    have HB3 := Lib.hid hb3
    have HK3 := Lib.hid hk3
    have HRO := Lib.hid hro2
    clear hq3 hb3 hk3 k3 HB2 HST hro2
    rw [HL.out] at g2
    generalize hL1 : σ1.b.length = L1 at *
    have HL1 := Lib.hid hL1
    clear hL1
    go_region
    all_goals
      go_wp2_with fail
      go_ret
      have hw : (L : Int) + ((L1 : Int) - L) = L1 := by omega
      rw [hw]
      have k4 : Chg [r] w3 (w3.setCell ⟨r, 1, none⟩ (.int .i64 L1)) := (Chg.refl _ _).setCell (fun _ => by simp) _
      refine ⟨rfl, own2, ⟨⟨?_, HS3.out.chg (k4.drew) (by simpa using Ne.symm hrp) (fun y hy => by simp; rintro rfl; exact hrf hy) (fun y hy => by simp; rintro rfl; exact HRO.out hy), hrp, hrf, HRO.out⟩, HN2.out⟩, HK3.out.trans (k4.drew.mono (by simp))⟩
      rw [HL1.out]
      exact heap_set HB3.out 1 _ rfl
  · rw [wWrite_err he]
    have c1 := cell_heap h.blk 2 rfl
    have heb : (err == 0) = false := by simpa using he
    have H := Lib.hid h
    clear h hok hx hfa he
    go_enter Try.func51, Try.ntmps51
    go_wp2_with fail
    go_ret
    exact ⟨rfl, own, ⟨H.out, fun g hg => .inl hg⟩, Chg.refl _ _⟩

theorem RWrtTo.before {w w1 w2 : World} {r p : Nat} {fp own : List Nat} {err : Int} {σ : Snk} (k : Chg [] w w1) (h : RWrtTo w1 w2 r p fp own err σ) : RWrtTo w w2 r p fp own err σ := by
  obtain ⟨own2, ⟨h1, h2⟩, k2⟩ := h
  refine ⟨own2, ⟨h1, fun g hg => ?_⟩, (k.mono (T := [r, p]) (by simp)).trans k2⟩
  rcases h2 g hg with h | h
  · exact .inl h
  · have := k.size; exact .inr (by omega)
/-- A write of zero bytes that were just made. -/
theorem rzerosWrite (w : World) (r p : Nat) (fp own : List Nat) (err : Int) (σ : Snk) (N : Nat) (h : RWrtAt w r p fp own err σ) (hok : σ.Ok) (hb : σ.b.length + N ≤ 140737488355328) (hp : p < w.heap.size) :
    ∀ w1, w.grownBy w1 none → Rd w1 [w.heap.size] (some ⟨w.heap.size, 0, none⟩) (bv (List.replicate N 0)) →
    Calls Try.prog 51 #[.pointer (some ⟨r, 0, none⟩), .slice (some ⟨w.heap.size, 0, none⟩) N N] w1 fun e w' => e = .returned (.int .i64 (wWrite err σ (List.replicate N 0)).1) ∧ RWrtTo w1 w' r p fp own (wWrite err σ (List.replicate N 0)).1 (wWrite err σ (List.replicate N 0)).2 := by
  intro w1 hg hr
  have hl : (List.replicate N (0 : UInt8)).length = N := by simp
  have k : Chg [] w w1 := Chg.of_grown hg (by simp)
  have h0 := rwriterWrite w1 r p fp own [w.heap.size] err σ (List.replicate N 0) _ N (h.chg k (by simp) (by simp) (by simp) (by simp)) hok hr (by rw [hl]; exact Nat.le_refl _) (fun y hy => by simp at hy; omega) (by rw [hl]; exact hb)
  rw [hl] at h0
  exact h0
theorem RWrtAt.plt {w : World} {r p : Nat} {fp own : List Nat} {err : Int} {σ : Snk} (h : RWrtAt w r p fp own err σ) : p < w.heap.size := h.s.lt

set_option maxRecDepth 100000 in
set_option maxHeartbeats 2000000 in
theorem rwriterPad (w : World) (r p : Nat) (fp own : List Nat) (err : Int) (σ : Snk) (h : RWrtAt w r p fp own err σ) (hok : σ.Ok) (hb : σ.b.length + 512 ≤ 140737488355328) :
    Calls Try.prog 52 #[.pointer (some ⟨r, 0, none⟩)] w fun e w' => e = .returned (.int .i64 (wWrite err σ (List.replicate (padN σ.b.length) 0)).1) ∧
      RWrtTo w w' r p fp own (wWrite err σ (List.replicate (padN σ.b.length) 0)).1 (wWrite err σ (List.replicate (padN σ.b.length) 0)).2 := by
  have c0 := cell_heap h.blk 1 rfl
  have hp0 : ((512 : Int) - (σ.b.length : Int) % 512) % 512 = (padN σ.b.length : Nat) := by unfold padN; omega
  have hpl := padN_lt σ.b.length
  have hst := rzerosWrite w r p fp own err σ (padN σ.b.length) h hok (by omega) h.plt
  have HST := Lib.hid hst
  obtain ⟨ib, hib, hib0, hib1, hib2⟩ := Try.infoB
  clear hst h hok
  generalize padN σ.b.length = N at *
  generalize σ.b.length = L at *
  go_enter Try.func52, Try.ntmps52
  go_wp2_with (first
    | (at_make; refine wpList_make_full _ rfl (.tmp 10) (.tmp 10) 22 rfl w.heap.size 5 ib (.int .u8 0) 1 Try.underlying22 hib hib0 hib1 .i64 .i64 _ _ N rfl rfl (by first | rfl | exact hp0) (by first | rfl | exact hp0) (by rw [hib2]; omega) (by unfold maxLen; omega) (Nat.le_refl _) ?_; intro w4 hown4 hgr4; have HO4 := Lib.hid hown4; have HG4 := Lib.hid hgr4; clear hown4 hgr4)
    | (go_at_call 51; refine (HST.out w4 HG4.out (by
        have h := HO4.out
        simp only [Value.cells, Nat.mul_one] at h
        rw [toList_madeCells_one, zeros_bv] at h
        exact Rd.of_own h)).mono ?_; rintro e w5 ⟨rfl, hto⟩; have HTO := Lib.hid hto; clear hto))
  go_ret
  exact ⟨rfl, HTO.out.before (Chg.of_grown HG4.out (by simp))⟩
set_option maxHeartbeats 2000000 in
theorem rwriterZeros_bad (w : World) (r : Nat) (n : Int) (h : n < 0 ∨ 1024 < n) : Calls Try.prog 54 #[.pointer (some ⟨r, 0, none⟩), .int .i64 n] w fun e w' => e = .returned (.int .i64 2) ∧ w' = w := by
  rcases h with h | h
  · go_enter Try.func54, Try.ntmps54
    go_wp2
    go_ret
    exact ⟨rfl, rfl⟩
  · have h0 : ¬ n < 0 := by omega
    go_enter Try.func54, Try.ntmps54
    go_wp2
    go_ret
    exact ⟨rfl, rfl⟩
set_option maxRecDepth 100000 in
set_option maxHeartbeats 2000000 in
theorem rwriterZeros (w : World) (r p : Nat) (fp own : List Nat) (err : Int) (σ : Snk) (n : Nat) (hn : n ≤ 1024) (h : RWrtAt w r p fp own err σ) (hok : σ.Ok) (hb : σ.b.length + 512 * n ≤ 140737488355328) :
    Calls Try.prog 54 #[.pointer (some ⟨r, 0, none⟩), .int .i64 n] w fun e w' => e = .returned (.int .i64 (wWrite err σ (List.replicate (512 * n) 0)).1) ∧
      RWrtTo w w' r p fp own (wWrite err σ (List.replicate (512 * n) 0)).1 (wWrite err σ (List.replicate (512 * n) 0)).2 := by
  have hst := rzerosWrite w r p fp own err σ (512 * n) h hok hb h.plt
  obtain ⟨ib, hib, hib0, hib1, hib2⟩ := Try.infoB
  have HST := Lib.hid hst
  have hm : (512 : Int) * (n : Int) = ((512 * n : Nat) : Int) := by simp
  have hN : 512 * n ≤ 524288 := by omega
  generalize 512 * n = N at *
  clear hst h hok
  have hn0 : (0 : Int) ≤ n := by omega
  go_enter Try.func54, Try.ntmps54
  go_wp2_with (first
    | (at_make; refine wpList_make_full _ rfl (.tmp 13) (.tmp 13) 22 rfl w.heap.size 5 ib (.int .u8 0) 1 Try.underlying22 hib hib0 hib1 .i64 .i64 _ _ N rfl rfl rfl rfl (by rw [hib2]; omega) (by unfold maxLen; omega) (Nat.le_refl _) ?_; intro w4 hown4 hgr4; have HO4 := Lib.hid hown4; have HG4 := Lib.hid hgr4; clear hown4 hgr4)
    | (go_at_call 51; refine (HST.out w4 HG4.out (by
        have h := HO4.out
        simp only [Value.cells, Nat.mul_one] at h
        rw [toList_madeCells_one, zeros_bv] at h
        exact Rd.of_own h)).mono ?_; rintro e w5 ⟨rfl, hto⟩; have HTO := Lib.hid hto; clear hto))
  go_ret
  exact ⟨rfl, HTO.out.before (Chg.of_grown HG4.out (by simp))⟩
end Go.Proofs.Ytljlcigbehgohaa
