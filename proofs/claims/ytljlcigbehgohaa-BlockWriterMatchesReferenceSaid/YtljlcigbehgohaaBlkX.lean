/- package block: Writer.Write, Pad, Zeros; payload.Write. -/
import Derived.Test.YtljlcigbehgohaaBlkW
import Derived.IntWalk
namespace Go.Pax
open Go.RowKit
theorem and511 (x : Int) : bits .and .i64 x 511 = x % 512 := by
  unfold bits
  have hb : (BitVec.ofInt IntKind.i64.bits 511).toNat = 511 := by decide
  have ha : (BitVec.ofInt IntKind.i64.bits x).toNat = (x % 18446744073709551616).toNat := by rw [BitVec.toNat_ofInt]; rfl
  simp only [BitVec.toNat_and, hb, ha]
  rw [show (511 : Nat) = 2 ^ 9 - 1 from rfl, Nat.and_two_pow_sub_one_eq_mod]
  have h : ((x % 18446744073709551616).toNat % 2 ^ 9 : Nat) < 512 := Nat.mod_lt _ (by decide)
  rw [IntWalk.i64_in _ (by omega)]
  omega
theorem pad_and (L : Nat) : bits .and .i64 (-(L : Int)) 511 = (padN L : Nat) := by
  rw [and511]; unfold padN; omega
theorem padN_lt (L : Nat) : padN L < 512 := by unfold padN; omega
end Go.Pax
namespace Go.Proofs.Ytljlcigbehgohaa
open Go.RowKit Go.Pax

/-- The writer's block in a loop of writes. -/
def WLoop (B : Nat) (w wr : World) (r p : Nat) (fp own fa : List Nat) (σ : Snk) (x : List UInt8) (v : Value) : Prop :=
  ∃ (σ' : Snk) (x' : List UInt8) (ao : Option Addr) (c f : Nat) (own' : List Nat), v = .slice ao x'.length c ∧ x'.length ≤ c ∧ x'.length ≤ f ∧ σ'.b.length + x'.length ≤ 140737488355328 ∧
    σ'.Ok ∧ Snk.all σ x = Snk.allF f σ' x' ∧ Rd wr fa ao (bv x') ∧ WrtAt B wr r p fp own' 0 σ' ∧ (∀ g ∈ own', g ∈ own ∨ w.heap.size ≤ g) ∧ Chg (r :: p :: own) w wr

theorem wrt_step {B : Nat} {w w1 w2 : World} {r p : Nat} {fp own own1 : List Nat} {σ σ1 : Snk} (h : WrtAt B w1 r p fp own1 0 σ) (k : Chg (r :: p :: own) w w1) (hn : ∀ g ∈ own1, g ∈ own ∨ w.heap.size ≤ g)
    (hto : SnkTo B w1 w2 p fp own1 σ1) : ∃ own2, SnkAt B w2 p fp own2 σ1 ∧ (∀ g ∈ own2, g ∈ own ∨ w.heap.size ≤ g) ∧ r ∉ own2 ∧ w2.heap[r]? = some (.cells #[.int .i64 σ.b.length, .int .i64 0, .pointer (some ⟨p, 0, none⟩)] 113 (0, 0)) ∧ Chg (r :: p :: own) w w2 ∧ Chg (p :: own1) w1 w2 := by
  obtain ⟨own2, ⟨h1, h2⟩, k2⟩ := hto
  have hlt := h.lt
  refine ⟨own2, h1, fun g hg => ?_, fun hm => ?_, k2.heap h.blk (by simp; exact ⟨h.rp, h.ro⟩), k.trans' k2 (fun x hx _ => hx) (fun x hx hl => ?_), k2⟩
  · rcases h2 g hg with h | h
    · exact hn g h
    · have := k.size; exact .inr (by omega)
  · rcases h2 r hm with h' | h'
    · exact h.ro h'
    · omega
  · rcases List.mem_cons.1 hx with rfl | hx
    · simp
    · rcases hn x hx with h | h
      · simp [h]
      · omega

set_option maxHeartbeats 2000000 in
theorem writerWrite0 (w : World) (B r p : Nat) (fp own fa : List Nat) (σ : Snk) (x : List UInt8) (bo : Option Addr) (bc : Nat) (h : WrtAt B w r p fp own 0 σ) (hok : σ.Ok) (hx : Rd w fa bo (bv x)) (hxc : x.length ≤ bc)
    (hfa : ∀ k ∈ fa, k ≠ r ∧ k ≠ p ∧ k ∉ own ∧ k < w.heap.size) (hb : σ.b.length + x.length ≤ 140737488355328) :
    Calls Try.prog 48 #[.pointer (some ⟨r, 0, none⟩), .slice bo x.length bc] w fun e w' => e = .returned (.int .i64 (σ.all x).1) ∧ WrtTo B w w' r p fp own (σ.all x).1 (σ.all x).2 := by
  have c1 := cell_heap h.blk 1 rfl
  have H := Lib.hid h
  have HX := Lib.hid hx
  have HOK := Lib.hid hok
  have HFA := Lib.hid hfa
  clear h hx hok hfa
  go_enter Try.func48, Try.ntmps48
  go_wp2_with fail
  go_loopw [1] (fun v wr => WLoop B w wr r p fp own fa σ x v) (fun v _ => slen v)
  case atStart => exact ⟨σ, x, bo, bc, x.length, own, rfl, hxc, Nat.le_refl _, hb, HOK.out, rfl, HX.out, H.out, fun g hg => .inl hg, Chg.refl _ _⟩
  case round =>
    clear c1
    obtain ⟨σ', x', ao, c, f, own', rfl, h1, h2, h3, hok', he, hx', hs', hn', hk'⟩ := hrel
    have c2 := cell_heap hs'.blk 2 rfl
    have HE := Lib.hid he
    have HX' := Lib.hid hx'
    have HS' := Lib.hid hs'
    have HN' := Lib.hid hn'
    have HK' := Lib.hid hk'
    have HOK' := Lib.hid hok'
    clear he hx' hs' hn' hk' hok'
    by_cases hx0 : x' = []
    · subst hx0
      simp only [List.length_nil]
      go_wp2_with fail
      go_ret
      rw [HE.out, Snk.allF_nil]
      exact ⟨rfl, own', ⟨HS'.out, HN'.out⟩, HK'.out⟩
    have hlen := List.length_pos_iff.2 hx0
    obtain ⟨f, rfl⟩ : ∃ g, f = g + 1 := ⟨f - 1, by omega⟩
    have hstep := sinkWrite _ B p fp own' fa σ' x' ao c HS'.out.s HOK'.out HX'.out h1 h3
    have hoks := σ'.ok_write HOK'.out x'
    rcases σ'.write_cases HOK'.out hx0 with ⟨hw, c0, c1⟩ | ⟨N, n1, n2, -, -, hw⟩
    · rw [hw] at hstep
      have hE := HE.out
      have hres : Snk.all σ x = (11, σ') := by rw [hE]; unfold Snk.allF; rw [if_neg hx0, hw]; rfl
      have HRES := Lib.hid hres
      have HST := Lib.hid hstep
      clear hstep hE hw hres hoks
      generalize x'.length = X at *
      go_upto_region 8 with (go_at_call 30; refine HST.out.mono ?_; rintro e w2 ⟨rfl, hto⟩; have HTO := Lib.hid hto; clear hto)
      obtain ⟨own2, hs2, hn2, hr2, hb2, hk2, _⟩ := wrt_step HS'.out HK'.out HN'.out HTO.out
      have HS2 := Lib.hid hs2
      have HN2 := Lib.hid hn2
      have HR2 := Lib.hid hr2
      have HB2 := Lib.hid hb2
      have HK2 := Lib.hid hk2
      clear hs2 hn2 hr2 hb2 hk2
      go_wp2_with (go_at_call 64; refine (statusFail _ r 11 _ _ HB2.out (by simp)).mono ?_; rintro e w3 ⟨rfl, rfl⟩)
      go_ret
      rw [HRES.out]
      have k3 : Chg [r] w2 (w2.setCell ⟨r, 1, none⟩ (.int .i64 11)) := (Chg.refl _ _).setCell (fun _ => by simp) _
      refine ⟨rfl, own2, ⟨⟨?_, HS2.out.chg k3 (by simpa using Ne.symm HS'.out.rp) (fun y hy => by simp; rintro rfl; exact HS'.out.rf hy) (fun y hy => by simp; rintro rfl; exact HR2.out hy), HS'.out.rp, HS'.out.rf, HR2.out⟩, HN2.out⟩, HK2.out.trans (k3.mono (by simp))⟩
      exact heap_set HB2.out 1 _ rfl
    · rw [hw] at hstep hoks
      have hE := HE.out
      have hres : Snk.all σ x = Snk.allF f { σ' with b := σ'.b ++ x'.take N, writes := σ'.writes + 1 } (x'.drop N) := by
        rw [hE]; conv => lhs; unfold Snk.allF
        rw [if_neg hx0, hw]; simp
      have HRES := Lib.hid hres
      have HST := Lib.hid hstep
      have HOKS := Lib.hid hoks
      clear hstep hE hw hres hoks hx0
      generalize hXL : x'.length = X at *
      have HXL := Lib.hid hXL
      clear hXL
      have hNc : (N : Int) ≤ X := by omega
      have hsl : σ'.b.length ≤ 140737488355328 := by omega
      go_upto_region 9 with (go_at_call 30; refine HST.out.mono ?_; rintro e w2 ⟨rfl, hto⟩; have HTO := Lib.hid hto; clear hto)
      obtain ⟨own2, hs2, hn2, hr2, hb2, hk2, hk12⟩ := wrt_step HS'.out HK'.out HN'.out HTO.out
      have d0 := cell_heap hb2 0 rfl
      have f0 : w2.frozen? ⟨r, 0, none⟩ = false := frozen_of_row _ _ _ _ _ hb2
      have HS2 := Lib.hid hs2
      have HN2 := Lib.hid hn2
      have HR2 := Lib.hid hr2
      have HB2 := Lib.hid hb2
      have HK2 := Lib.hid hk2
      have HK12 := Lib.hid hk12
      clear hs2 hn2 hr2 hb2 hk2 hk12
      have hcall : ∀ ao', ao' = cutA ao c N → WLoop B w (w2.setCell ⟨r, 0, none⟩ (.int .i64 (σ'.b.length + N))) r p fp own fa σ x (.slice ao' (X - N) (c - N)) := by
        intro ao' hao
        have hl := HXL.out
        have k3 : Chg [r] w2 (w2.setCell ⟨r, 0, none⟩ (.int .i64 (σ'.b.length + N))) := (Chg.refl _ _).setCell (fun _ => by simp) _
        refine ⟨_, x'.drop N, ao', c - N, f, own2, by rw [List.length_drop, hl], by rw [List.length_drop, hl]; omega, by rw [List.length_drop, hl]; omega, ?_, HOKS.out, HRES.out, ?_,
          ⟨?_, HS2.out.chg k3 (by simpa using Ne.symm HS'.out.rp) (fun y hy => by simp; rintro rfl; exact HS'.out.rf hy) (fun y hy => by simp; rintro rfl; exact HR2.out hy), HS'.out.rp, HS'.out.rf, HR2.out⟩, HN2.out, HK2.out.trans (k3.mono (by simp))⟩
        · simp only [List.length_append, List.length_take, List.length_drop, hl]; omega
        · have hh := HX'.out.drop N c (by rw [bv_length, hl]; exact h1)
          rw [bv_drop, ← hao] at hh
          refine (hh.chg HK12.out ?_).chg k3 ?_
          · intro k hk hm
            obtain ⟨_, y1, y2, y3⟩ := HFA.out k hk
            rcases List.mem_cons.1 hm with h | h
            · exact y1 h
            · rcases HN'.out k h with h | h
              · exact y2 h
              · omega
          · intro k hk
            obtain ⟨y0, _⟩ := HFA.out k hk
            simpa using y0
        · refine heap_set HB2.out 0 _ ?_
          simp only [List.length_append, List.length_take, hl, Nat.min_eq_left n2]
          rw [Int.natCast_add]
          rfl
      have HCALL := Lib.hid hcall
      clear hcall
      by_cases hcN : c = N
      · subst hcN
        go_wp2_with fail
        go_roundw
        case rel => have hh := HCALL.out ao (by unfold cutA; rw [if_pos rfl]); rw [Nat.sub_self, show X - c = 0 by omega] at hh; exact hh
        case measure => simp [slen]; omega
      · go_wp2_with fail
        go_roundw
        case rel => exact HCALL.out _ (by unfold cutA; rw [if_neg hcN])
        case measure => simp [slen]; omega

set_option maxHeartbeats 2000000 in
theorem writerWrite (w : World) (B r p : Nat) (fp own fa : List Nat) (err : Int) (σ : Snk) (x : List UInt8) (bo : Option Addr) (bc : Nat) (h : WrtAt B w r p fp own err σ) (hok : σ.Ok) (hx : Rd w fa bo (bv x)) (hxc : x.length ≤ bc)
    (hfa : ∀ k ∈ fa, k ≠ r ∧ k ≠ p ∧ k ∉ own ∧ k < w.heap.size) (hb : σ.b.length + x.length ≤ 140737488355328) :
    Calls Try.prog 48 #[.pointer (some ⟨r, 0, none⟩), .slice bo x.length bc] w fun e w' => e = .returned (.int .i64 (wWrite err σ x).1) ∧ WrtTo B w w' r p fp own (wWrite err σ x).1 (wWrite err σ x).2 := by
  by_cases he : err = 0
  · subst he
    rw [wWrite_ok]
    exact writerWrite0 w B r p fp own fa σ x bo bc h hok hx hxc hfa hb
  · rw [wWrite_err he]
    have c1 := cell_heap h.blk 1 rfl
    have heb : (err == 0) = false := by simpa using he
    have H := Lib.hid h
    clear h hok hx hfa he
    go_enter Try.func48, Try.ntmps48
    go_wp2_with fail
    go_ret
    exact ⟨rfl, own, ⟨H.out, fun g hg => .inl hg⟩, Chg.refl _ _⟩

theorem WrtTo.before {B : Nat} {w w1 w2 : World} {r p : Nat} {fp own : List Nat} {err : Int} {σ : Snk} (k : Chg [] w w1) (h : WrtTo B w1 w2 r p fp own err σ) : WrtTo B w w2 r p fp own err σ := by
  obtain ⟨own2, ⟨h1, h2⟩, k2⟩ := h
  refine ⟨own2, ⟨h1, fun g hg => ?_⟩, (k.mono (T := r :: p :: own) (by simp)).trans k2⟩
  rcases h2 g hg with h | h
  · exact .inl h
  · have := k.size; exact .inr (by omega)
theorem WrtTo.trans {B : Nat} {w w1 w2 : World} {r p : Nat} {fp own own1 : List Nat} {err : Int} {σ : Snk} (k : Chg (r :: p :: own) w w1) (hn : ∀ g ∈ own1, g ∈ own ∨ w.heap.size ≤ g) (h : WrtTo B w1 w2 r p fp own1 err σ) : WrtTo B w w2 r p fp own err σ := by
  obtain ⟨own2, ⟨h1, h2⟩, k2⟩ := h
  refine ⟨own2, ⟨h1, fun g hg => ?_⟩, k.trans' k2 (fun x hx _ => hx) (fun x hx hl => ?_)⟩
  · rcases h2 g hg with h | h
    · exact hn g h
    · have := k.size; exact .inr (by omega)
  · rcases List.mem_cons.1 hx with rfl | hx
    · simp
    · rcases List.mem_cons.1 hx with rfl | hx
      · simp
      · rcases hn x hx with h | h
        · simp [h]
        · omega
/-- A write of zero bytes that were just made. -/
theorem zerosWrite (w : World) (B r p : Nat) (fp own : List Nat) (err : Int) (σ : Snk) (N : Nat) (h : WrtAt B w r p fp own err σ) (hok : σ.Ok) (hb : σ.b.length + N ≤ 140737488355328) :
    ∀ w1, w.grownBy w1 none → Rd w1 [w.heap.size] (some ⟨w.heap.size, 0, none⟩) (bv (List.replicate N 0)) →
    Calls Try.prog 48 #[.pointer (some ⟨r, 0, none⟩), .slice (some ⟨w.heap.size, 0, none⟩) N N] w1 fun e w' => e = .returned (.int .i64 (wWrite err σ (List.replicate N 0)).1) ∧ WrtTo B w1 w' r p fp own (wWrite err σ (List.replicate N 0)).1 (wWrite err σ (List.replicate N 0)).2 := by
  intro w1 hg hr
  have hl : (List.replicate N (0 : UInt8)).length = N := by simp
  have k : Chg [] w w1 := Chg.of_grown hg (by simp)
  obtain ⟨fq, hfq, hfl⟩ := hr.tight
  have h0 := writerWrite w1 B r p fp own fq err σ (List.replicate N 0) _ N (h.chg k (by simp) (by simp) (by simp) (by simp)) hok hfq (by rw [hl]; exact Nat.le_refl _) (fun y hy => by
    obtain ⟨h1, h2⟩ := hfl y hy
    simp at h1
    subst h1
    refine ⟨?_, ?_, ?_, h2⟩
    · have := h.lt; omega
    · have := h.s.lt; omega
    · intro hm; have := (h.s.ownlt _ hm).2; omega) (by rw [hl]; exact hb)
  rw [hl] at h0
  exact h0
set_option maxRecDepth 100000 in
set_option maxHeartbeats 2000000 in
theorem writerPad (w : World) (B r p : Nat) (fp own : List Nat) (err : Int) (σ : Snk) (h : WrtAt B w r p fp own err σ) (hok : σ.Ok) (hb : σ.b.length + 512 ≤ 140737488355328) :
    Calls Try.prog 49 #[.pointer (some ⟨r, 0, none⟩)] w fun e w' => e = .returned (.int .i64 (wWrite err σ (List.replicate (padN σ.b.length) 0)).1) ∧
      WrtTo B w w' r p fp own (wWrite err σ (List.replicate (padN σ.b.length) 0)).1 (wWrite err σ (List.replicate (padN σ.b.length) 0)).2 := by
  have c0 := cell_heap h.blk 0 rfl
  have H := Lib.hid h
  have HOK := Lib.hid hok
  obtain ⟨ib, hib, hib0, hib1, hib2⟩ := Try.infoB
  clear h hok
  generalize hL : σ.b.length = L at *
  have HL := Lib.hid hL
  clear hL
  go_enter Try.func49, Try.ntmps49
  have hp := pad_and L
  have hpl := padN_lt L
  generalize padN L = N at *
  have hst := zerosWrite w B r p fp own err σ N H.out HOK.out (by rw [HL.out]; omega)
  have HST := Lib.hid hst
  clear hst
  go_upto_region 3 with fail
  go_wp2_with (first
    | (at_make; refine wpList_make_full _ rfl (.tmp 12) (.tmp 12) 22 rfl w.heap.size 5 ib (.int .u8 0) 1 Try.underlying22 hib hib0 hib1 .i64 .i64 _ _ N rfl rfl rfl rfl (by rw [hib2]; omega) (by unfold maxLen; omega) (Nat.le_refl _) ?_; intro w4 hown4 hgr4; have HO4 := Lib.hid hown4; have HG4 := Lib.hid hgr4; clear hown4 hgr4)
    | (go_at_call 48; refine (HST.out w4 HG4.out (by
        have h := HO4.out
        simp only [Value.cells, Nat.mul_one] at h
        rw [toList_madeCells_one, zeros_bv] at h
        exact Rd.of_own h)).mono ?_; rintro e w5 ⟨rfl, hto⟩; have HTO := Lib.hid hto; clear hto))
  go_ret
  exact ⟨rfl, HTO.out.before (Chg.of_grown HG4.out (by simp))⟩

set_option maxHeartbeats 2000000 in
theorem writerZeros_bad (w : World) (r : Nat) (n : Int) (h : n < 0 ∨ 1024 < n) : Calls Try.prog 53 #[.pointer (some ⟨r, 0, none⟩), .int .i64 n] w fun e w' => e = .returned (.int .i64 2) ∧ w' = w := by
  rcases h with h | h
  · go_enter Try.func53, Try.ntmps53
    go_wp2
    go_ret
    exact ⟨rfl, rfl⟩
  · have h0 : ¬ n < 0 := by omega
    go_enter Try.func53, Try.ntmps53
    go_wp2
    go_ret
    exact ⟨rfl, rfl⟩
set_option maxRecDepth 100000 in
set_option maxHeartbeats 2000000 in
theorem writerZeros (w : World) (B r p : Nat) (fp own : List Nat) (err : Int) (σ : Snk) (n : Nat) (hn : n ≤ 1024) (h : WrtAt B w r p fp own err σ) (hok : σ.Ok) (hb : σ.b.length + 512 * n ≤ 140737488355328) :
    Calls Try.prog 53 #[.pointer (some ⟨r, 0, none⟩), .int .i64 n] w fun e w' => e = .returned (.int .i64 (wWrite err σ (List.replicate (512 * n) 0)).1) ∧
      WrtTo B w w' r p fp own (wWrite err σ (List.replicate (512 * n) 0)).1 (wWrite err σ (List.replicate (512 * n) 0)).2 := by
  have hst := zerosWrite w B r p fp own err σ (512 * n) h hok hb
  obtain ⟨ib, hib, hib0, hib1, hib2⟩ := Try.infoB
  have HST := Lib.hid hst
  have hm : (512 : Int) * (n : Int) = ((512 * n : Nat) : Int) := by simp
  have hN : 512 * n ≤ 524288 := by omega
  generalize 512 * n = N at *
  clear hst h hok
  have hn0 : (0 : Int) ≤ n := by omega
  go_enter Try.func53, Try.ntmps53
  go_wp2_with (first
    | (at_make; refine wpList_make_full _ rfl (.tmp 17) (.tmp 17) 22 rfl w.heap.size 5 ib (.int .u8 0) 1 Try.underlying22 hib hib0 hib1 .i64 .i64 _ _ N rfl rfl rfl rfl (by rw [hib2]; omega) (by unfold maxLen; omega) (Nat.le_refl _) ?_; intro w4 hown4 hgr4; have HO4 := Lib.hid hown4; have HG4 := Lib.hid hgr4; clear hown4 hgr4)
    | (go_at_call 48; refine (HST.out w4 HG4.out (by
        have h := HO4.out
        simp only [Value.cells, Nat.mul_one] at h
        rw [toList_madeCells_one, zeros_bv] at h
        exact Rd.of_own h)).mono ?_; rintro e w5 ⟨rfl, hto⟩; have HTO := Lib.hid hto; clear hto))
  go_ret
  exact ⟨rfl, HTO.out.before (Chg.of_grown HG4.out (by simp))⟩
end Go.Proofs.Ytljlcigbehgohaa
