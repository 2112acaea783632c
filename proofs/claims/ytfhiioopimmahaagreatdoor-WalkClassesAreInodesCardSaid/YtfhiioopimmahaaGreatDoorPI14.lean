/- container/heap over pathheap's paths: down. Printed by wip/gen/genhdown.py. pathheap: New, Push, Pop. pathheap.New, Push of one path, Pop. walk.visit: a directory's names are pushed. Printed by wip/gen/genwexp.py. walk.visit: what stands in memory between two steps. -/
import Derived.Test.YtfhiioopimmahaaGreatDoorPI08
import Derived.Test.YtfhiioopimmahaaGreatDoorPI12
import Derived.Test.YtfhiioopimmahaaGreatDoorPI13
namespace Go.Proofs.YtfhiioopimmahaaGreatDoor
open Go.RowKit Go.Pax Go.Shelf
set_option maxRecDepth 100000 in
set_option maxHeartbeats 16000000 in
theorem hdown (w : World) (h : Nat) (Q : List Nat) (L : List Str) (v : Value) (i0 N : Nat) (H : HpIn w h Q v L) (hl : L.length ≤ 1000001) (hN : N ≤ L.length) (hi0 : i0 ≤ N) (hd : DownAt L i0 N) :
    Calls Tryz.prog 116 #[hv h, .int .i64 i0, .int .i64 N] w fun e w' => (∃ b, e = .returned b) ∧ ∃ L', HpIn w' h Q v L' ∧ L'.Perm L ∧ HeapN L' N ∧ (∀ k, N ≤ k → gx L' k = gx L k) ∧ Chg Q w w' := by
  unfold hv
  have HH := Lib.hid H
  have HU := Lib.hid hd
  clear H hd
  go_enter Tryz.func116, Tryz.ntmps116
  go_wp2_with fail
  go_loopw [7] (fun u wr => ∃ (k : Nat) (L' : List Str), u = .int .i64 k ∧ k ≤ N ∧ HpIn wr h Q v L' ∧ L'.Perm L ∧ DownAt L' k N ∧ (∀ k, N ≤ k → gx L' k = gx L k) ∧ Chg Q w wr) (fun u _ => N - (intOf u).toNat)
  case atStart => exact ⟨i0, L, rfl, hi0, HH.out, List.Perm.refl _, HU.out, fun _ _ => rfl, Chg.refl _ _⟩
  case round =>
    obtain ⟨k, L', rfl, hk, hi, hp, hu', hg, kk⟩ := hrel
    obtain ⟨ao, c, hv⟩ := own_shape hi.row
    have c0 := cell_heap hi.blk 0 (v := v) rfl
    obtain ⟨n, hn⟩ : ∃ n, n = L'.length := ⟨_, rfl⟩
    have hlen := hp.length_eq
    rw [← hn] at hv
    subst hv
    have hNn : N ≤ n := by omega
    have hn1 : n ≤ 1000001 := by omega
    have HI := Lib.hid hi
    have HP := Lib.hid (And.intro hp (And.intro hu' (And.intro kk (And.intro hn hg))))
    have HR := Lib.hid (show wr.ownsRow 0 9 1 (.slice ao n c) n (svn L') by have := hi.row; rw [← hn] at this; exact this)
    have HF := Lib.hid (fun g (hg : (Value.slice ao n c).ownBlock = some g) => hi.far hg)
    have hm := methLess wr h _ c0
    have HCC := Lib.hid (fun W (kw : Chg [] wr W) => kw.cell c0 (by simp))
    have HHI := Lib.hid hi0
    clear hi hp hu' kk hlen hn c0 hg hi0
    obtain ⟨j1, hj1⟩ : ∃ j1, j1 = 2 * k + 1 := ⟨_, rfl⟩
    have e1 : 2 * (k : Int) + 1 = (j1 : Int) := by omega
    by_cases hleaf : N ≤ j1
    · have hle : (N : Int) ≤ (j1 : Int) := by omega
      have HLF := Lib.hid (HP.out.2.1.leaf (by omega))
      have hkB : k ≤ 1000001 := by omega
      have hNB : N ≤ 1000001 := by omega
      clear hm hNn hn1 hk hl hN hleaf hj1
      go_wp2_with fail
      go_ret
      exact ⟨⟨_, rfl⟩, L', HI.out, HP.out.1, HLF.out, HP.out.2.2.2.2, HP.out.2.2.1⟩
    · obtain ⟨j2, hj2⟩ : ∃ j2, j2 = j1 + 1 := ⟨_, rfl⟩
      have e3 : (j1 : Int) + 1 = (j2 : Int) := by omega
      have hlt1 : ¬ (N : Int) ≤ (j1 : Int) := by omega
      have hlt0 : ¬ (j1 : Int) < 0 := by omega
      have hkn : k < n := by omega
      have hj1n : j1 < n := by omega
      have hj1k : (j1 - 1) / 2 = k := by omega
      have hj2k : (j2 - 1) / 2 = k := by omega
      have hjN : j1 < N := by omega
      have hkB : k ≤ 1000001 := by omega
      have hNB : N ≤ 1000001 := by omega
      have HNB2 := Lib.hid hn1
      have HK := Lib.hid (fun x (h0 : 0 < x) (hx : (x - 1) / 2 = k) => (show x = j1 ∨ x = j2 by omega))
      have HNS := Lib.hid (And.intro hkn (And.intro hj1n (And.intro hj1k (And.intro hj2k (And.intro hjN (And.intro hNn (And.intro (show k < j1 by omega) (show j1 < j2 by omega))))))))
      clear hj1 hj2 hNn hn1 hk hl hN hleaf hj1k hj2k
      by_cases hr : j2 < N
      · have hri : (j2 : Int) < (N : Int) := by omega
        have hj2n : j2 < n := by have := HNS.out; omega
        have HLL := Lib.hid (hless wr ao n c _ L' HP.out.2.2.2.1.symm (own_rd2 HR.out).1 j2 j1 hj2n hj1n)
        by_cases hb : gx L' j2 < gx L' j1
        · have hbd : decide (gx L' j2 < gx L' j1) = true := by simpa using hb
          rw [hbd] at HLL
          have HM := Lib.hid (fun x (h0 : 0 < x) (hxN : x < N) (hx : (x - 1) / 2 = k) => (show ¬ gx L' x < gx L' j2 by
            rcases HK.out x h0 hx with e | e
            · rw [e]; exact nlt_of hb
            · rw [e]; exact slt_irrefl _))
          have HJN := Lib.hid (And.intro hj2n (And.intro HNS.out.2.2.2.1 hr))
          have hjl : j2 < 1000002 := by omega
          clear hbd hb hr hjN hj1n hj2n
          have HL := Lib.hid (fun W (kw : Chg [] wr W) => hless W ao n c _ L' HP.out.2.2.2.1.symm (own_rd2 (own_chg HR.out kw (by simp))).1 j2 k HJN.out.1 HNS.out.1)
          clear hkn
          by_cases hlt : gx L' j2 < gx L' k
          · have hd : decide (gx L' j2 < gx L' k) = true := by simpa using hlt
            rw [hd] at HL
            have HLT := Lib.hid hlt
            have hSW : ∀ W, Chg [] wr W → (Calls Tryz.prog 183 #[.slice ao n c, .int .i64 k, .int .i64 j2] W fun e w' => e = .returned (.tuple #[]) ∧ (HpIn w' h Q (.slice ao n c) (sw L' k j2) ∧ Chg Q wr w')) := fun W kw => by
              refine (hswap W 0 (.slice ao n c) n L' HP.out.2.2.2.1.symm (own_chg HR.out kw (by simp)) k j2 HNS.out.1 HJN.out.1 (by have := HNB2.out; omega)).mono ?_
              rintro e w' ⟨rfl, h1, h2⟩
              have k0 : Chg (Value.slice ao n c).ownBlock.toList wr w' := (kw.mono (by simp)).trans h2
              have k1 : Chg Q wr w' := k0.mono (fun x hx _ => by simp at hx; exact HI.out.own.2 x hx)
              refine ⟨rfl, ⟨k0.heap HI.out.blk (fun hm => by simp at hm; exact HF.out _ hm rfl), ?_, HI.out.own, fun g hg => Nat.lt_of_lt_of_le (HI.out.lt g hg) k1.size⟩, k1⟩
              rw [sw_length, ← HP.out.2.2.2.1]
              exact h1
            have HSW := Lib.hid hSW
            clear hd hlt hSW
            go_upto_region 8 with (go_at_call 182; refine HLL.out.mono ?_; rintro e w2 ⟨rfl, q0, hw2⟩; have HK2 := Lib.hid (show Chg [] wr w2 by rw [hw2]; exact (Chg.refl _ _).drewN q0); have hm2 := methLess w2 h (.slice ao n c) (HCC.out _ HK2.out); clear hw2)
            go_wp2_with (first
              | (go_at_call 182; refine (HL.out _ HK2.out).mono ?_; rintro e w3 ⟨rfl, q, hw3⟩; have HK3 := Lib.hid (show Chg [] wr w3 by rw [hw3]; exact HK2.out.drewN q); have hm3 := methSwap w3 h (.slice ao n c) (HCC.out _ HK3.out); clear hw3)
              | (go_at_call 183; refine (HSW.out _ HK3.out).mono ?_; rintro e w4 ⟨rfl, hw4⟩; have HW3 := Lib.hid hw4; clear hw4))
            go_roundw
            case rel => exact ⟨j2, sw L' k j2, rfl, by have := HJN.out; omega, HW3.out.1, (sw_perm (by rw [← HP.out.2.2.2.1]; exact HNS.out.1) (by rw [← HP.out.2.2.2.1]; exact HJN.out.1)).trans HP.out.1, HP.out.2.1.step (by have := HNS.out; omega) HJN.out.2.2 (by rw [← HP.out.2.2.2.1]; exact HNS.out.2.2.2.2.2.1) HJN.out.2.1 HM.out HLT.out, fun x hx => by have := HNS.out; have := HJN.out; rw [sw_gx (by rw [← HP.out.2.2.2.1]; exact HNS.out.1) (by rw [← HP.out.2.2.2.1]; exact HJN.out.1) (by omega) (by omega)]; exact HP.out.2.2.2.2 x hx, HP.out.2.2.1.trans HW3.out.2⟩
            case measure => have := HNS.out; have := HJN.out; simp [intOf]; omega
          · have hd : decide (gx L' j2 < gx L' k) = false := by simpa using hlt
            rw [hd] at HL
            have HLT := Lib.hid hlt
            clear hd hlt
            go_upto_region 8 with (go_at_call 182; refine HLL.out.mono ?_; rintro e w2 ⟨rfl, q0, hw2⟩; have HK2 := Lib.hid (show Chg [] wr w2 by rw [hw2]; exact (Chg.refl _ _).drewN q0); have hm2 := methLess w2 h (.slice ao n c) (HCC.out _ HK2.out); clear hw2)
            go_wp2_with (go_at_call 182; refine (HL.out _ HK2.out).mono ?_; rintro e w3 ⟨rfl, q, hw3⟩; have HK3 := Lib.hid (show Chg [] wr w3 by rw [hw3]; exact HK2.out.drewN q); clear hw3)
            go_ret
            exact ⟨⟨_, rfl⟩, L', HI.out.foreign HK3.out (by simp), HP.out.1, HP.out.2.1.stop HM.out HLT.out, HP.out.2.2.2.2, HP.out.2.2.1.trans (HK3.out.mono (by simp))⟩
        · have hbd : decide (gx L' j2 < gx L' j1) = false := by simpa using hb
          rw [hbd] at HLL
          have HM := Lib.hid (fun x (h0 : 0 < x) (hxN : x < N) (hx : (x - 1) / 2 = k) => (show ¬ gx L' x < gx L' j1 by
            rcases HK.out x h0 hx with e | e
            · rw [e]; exact slt_irrefl _
            · rw [e]; exact hb))
          have HJN := Lib.hid (And.intro hj1n (And.intro HNS.out.2.2.1 hjN))
          have hjl : j1 < 1000002 := by omega
          clear hbd hb hr hjN hj1n hj2n
          have HL := Lib.hid (fun W (kw : Chg [] wr W) => hless W ao n c _ L' HP.out.2.2.2.1.symm (own_rd2 (own_chg HR.out kw (by simp))).1 j1 k HJN.out.1 HNS.out.1)
          clear hkn
          by_cases hlt : gx L' j1 < gx L' k
          · have hd : decide (gx L' j1 < gx L' k) = true := by simpa using hlt
            rw [hd] at HL
            have HLT := Lib.hid hlt
            have hSW : ∀ W, Chg [] wr W → (Calls Tryz.prog 183 #[.slice ao n c, .int .i64 k, .int .i64 j1] W fun e w' => e = .returned (.tuple #[]) ∧ (HpIn w' h Q (.slice ao n c) (sw L' k j1) ∧ Chg Q wr w')) := fun W kw => by
              refine (hswap W 0 (.slice ao n c) n L' HP.out.2.2.2.1.symm (own_chg HR.out kw (by simp)) k j1 HNS.out.1 HJN.out.1 (by have := HNB2.out; omega)).mono ?_
              rintro e w' ⟨rfl, h1, h2⟩
              have k0 : Chg (Value.slice ao n c).ownBlock.toList wr w' := (kw.mono (by simp)).trans h2
              have k1 : Chg Q wr w' := k0.mono (fun x hx _ => by simp at hx; exact HI.out.own.2 x hx)
              refine ⟨rfl, ⟨k0.heap HI.out.blk (fun hm => by simp at hm; exact HF.out _ hm rfl), ?_, HI.out.own, fun g hg => Nat.lt_of_lt_of_le (HI.out.lt g hg) k1.size⟩, k1⟩
              rw [sw_length, ← HP.out.2.2.2.1]
              exact h1
            have HSW := Lib.hid hSW
            clear hd hlt hSW
            go_upto_region 8 with (go_at_call 182; refine HLL.out.mono ?_; rintro e w2 ⟨rfl, q0, hw2⟩; have HK2 := Lib.hid (show Chg [] wr w2 by rw [hw2]; exact (Chg.refl _ _).drewN q0); have hm2 := methLess w2 h (.slice ao n c) (HCC.out _ HK2.out); clear hw2)
            go_wp2_with (first
              | (go_at_call 182; refine (HL.out _ HK2.out).mono ?_; rintro e w3 ⟨rfl, q, hw3⟩; have HK3 := Lib.hid (show Chg [] wr w3 by rw [hw3]; exact HK2.out.drewN q); have hm3 := methSwap w3 h (.slice ao n c) (HCC.out _ HK3.out); clear hw3)
              | (go_at_call 183; refine (HSW.out _ HK3.out).mono ?_; rintro e w4 ⟨rfl, hw4⟩; have HW3 := Lib.hid hw4; clear hw4))
            go_roundw
            case rel => exact ⟨j1, sw L' k j1, rfl, by have := HJN.out; omega, HW3.out.1, (sw_perm (by rw [← HP.out.2.2.2.1]; exact HNS.out.1) (by rw [← HP.out.2.2.2.1]; exact HJN.out.1)).trans HP.out.1, HP.out.2.1.step (by have := HNS.out; omega) HJN.out.2.2 (by rw [← HP.out.2.2.2.1]; exact HNS.out.2.2.2.2.2.1) HJN.out.2.1 HM.out HLT.out, fun x hx => by have := HNS.out; have := HJN.out; rw [sw_gx (by rw [← HP.out.2.2.2.1]; exact HNS.out.1) (by rw [← HP.out.2.2.2.1]; exact HJN.out.1) (by omega) (by omega)]; exact HP.out.2.2.2.2 x hx, HP.out.2.2.1.trans HW3.out.2⟩
            case measure => have := HNS.out; have := HJN.out; simp [intOf]; omega
          · have hd : decide (gx L' j1 < gx L' k) = false := by simpa using hlt
            rw [hd] at HL
            have HLT := Lib.hid hlt
            clear hd hlt
            go_upto_region 8 with (go_at_call 182; refine HLL.out.mono ?_; rintro e w2 ⟨rfl, q0, hw2⟩; have HK2 := Lib.hid (show Chg [] wr w2 by rw [hw2]; exact (Chg.refl _ _).drewN q0); have hm2 := methLess w2 h (.slice ao n c) (HCC.out _ HK2.out); clear hw2)
            go_wp2_with (go_at_call 182; refine (HL.out _ HK2.out).mono ?_; rintro e w3 ⟨rfl, q, hw3⟩; have HK3 := Lib.hid (show Chg [] wr w3 by rw [hw3]; exact HK2.out.drewN q); clear hw3)
            go_ret
            exact ⟨⟨_, rfl⟩, L', HI.out.foreign HK3.out (by simp), HP.out.1, HP.out.2.1.stop HM.out HLT.out, HP.out.2.2.2.2, HP.out.2.2.1.trans (HK3.out.mono (by simp))⟩
      · have hri : ¬ (j2 : Int) < (N : Int) := by omega
        have HM := Lib.hid (fun x (h0 : 0 < x) (hxN : x < N) (hx : (x - 1) / 2 = k) => (show ¬ gx L' x < gx L' j1 by
            rcases HK.out x h0 hx with e | e
            · rw [e]; exact slt_irrefl _
            · omega))
        have HJN := Lib.hid (And.intro hj1n (And.intro HNS.out.2.2.1 hjN))
        have hjl : j1 < 1000002 := by omega
        clear hr hjN hj1n
        have HL := Lib.hid (fun W (kw : Chg [] wr W) => hless W ao n c _ L' HP.out.2.2.2.1.symm (own_rd2 (own_chg HR.out kw (by simp))).1 j1 k HJN.out.1 HNS.out.1)
        clear hkn
        by_cases hlt : gx L' j1 < gx L' k
        · have hd : decide (gx L' j1 < gx L' k) = true := by simpa using hlt
          rw [hd] at HL
          have HLT := Lib.hid hlt
          have hSW : ∀ W, Chg [] wr W → (Calls Tryz.prog 183 #[.slice ao n c, .int .i64 k, .int .i64 j1] W fun e w' => e = .returned (.tuple #[]) ∧ (HpIn w' h Q (.slice ao n c) (sw L' k j1) ∧ Chg Q wr w')) := fun W kw => by
            refine (hswap W 0 (.slice ao n c) n L' HP.out.2.2.2.1.symm (own_chg HR.out kw (by simp)) k j1 HNS.out.1 HJN.out.1 (by have := HNB2.out; omega)).mono ?_
            rintro e w' ⟨rfl, h1, h2⟩
            have k0 : Chg (Value.slice ao n c).ownBlock.toList wr w' := (kw.mono (by simp)).trans h2
            have k1 : Chg Q wr w' := k0.mono (fun x hx _ => by simp at hx; exact HI.out.own.2 x hx)
            refine ⟨rfl, ⟨k0.heap HI.out.blk (fun hm => by simp at hm; exact HF.out _ hm rfl), ?_, HI.out.own, fun g hg => Nat.lt_of_lt_of_le (HI.out.lt g hg) k1.size⟩, k1⟩
            rw [sw_length, ← HP.out.2.2.2.1]
            exact h1
          have HSW := Lib.hid hSW
          clear hd hlt hSW
          have HK2 := Lib.hid (Chg.refl [] wr)
          go_wp2_with (first
            | (go_at_call 182; refine (HL.out _ HK2.out).mono ?_; rintro e w3 ⟨rfl, q, hw3⟩; have HK3 := Lib.hid (show Chg [] wr w3 by rw [hw3]; exact HK2.out.drewN q); have hm3 := methSwap w3 h (.slice ao n c) (HCC.out _ HK3.out); clear hw3)
            | (go_at_call 183; refine (HSW.out _ HK3.out).mono ?_; rintro e w4 ⟨rfl, hw4⟩; have HW3 := Lib.hid hw4; clear hw4))
          go_roundw
          case rel => exact ⟨j1, sw L' k j1, rfl, by have := HJN.out; omega, HW3.out.1, (sw_perm (by rw [← HP.out.2.2.2.1]; exact HNS.out.1) (by rw [← HP.out.2.2.2.1]; exact HJN.out.1)).trans HP.out.1, HP.out.2.1.step (by have := HNS.out; omega) HJN.out.2.2 (by rw [← HP.out.2.2.2.1]; exact HNS.out.2.2.2.2.2.1) HJN.out.2.1 HM.out HLT.out, fun x hx => by have := HNS.out; have := HJN.out; rw [sw_gx (by rw [← HP.out.2.2.2.1]; exact HNS.out.1) (by rw [← HP.out.2.2.2.1]; exact HJN.out.1) (by omega) (by omega)]; exact HP.out.2.2.2.2 x hx, HP.out.2.2.1.trans HW3.out.2⟩
          case measure => have := HNS.out; have := HJN.out; simp [intOf]; omega
        · have hd : decide (gx L' j1 < gx L' k) = false := by simpa using hlt
          rw [hd] at HL
          have HLT := Lib.hid hlt
          clear hd hlt
          have HK2 := Lib.hid (Chg.refl [] wr)
          go_wp2_with (go_at_call 182; refine (HL.out _ HK2.out).mono ?_; rintro e w3 ⟨rfl, q, hw3⟩; have HK3 := Lib.hid (show Chg [] wr w3 by rw [hw3]; exact HK2.out.drewN q); clear hw3)
          go_ret
          exact ⟨⟨_, rfl⟩, L', HI.out.foreign HK3.out (by simp), HP.out.1, HP.out.2.1.stop HM.out HLT.out, HP.out.2.2.2.2, HP.out.2.2.1.trans (HK3.out.mono (by simp))⟩
end Go.Proofs.YtfhiioopimmahaaGreatDoor
namespace Go.Proofs.YtfhiioopimmahaaGreatDoor
open Go.RowKit Go.Pax Go.Shelf
theorem own_cut {w : World} {base : Nat} {e : TypeId} {g n c m : Nat} {xs : List Value} (h : w.ownsRow base e 1 (.slice (some ⟨g, 0, none⟩) n c) n xs) (hm : m ≤ n) : w.ownsRow base e 1 (.slice (some ⟨g, 0, none⟩) m c) m (xs.take m) := by
  rcases h.2 with ⟨hv, _⟩ | ⟨g', cap, cur, hv, hb, hg, hn, hmx, hs, ht⟩
  · cases hv
  simp only [Value.slice.injEq, Option.some.injEq, Addr.mk.injEq] at hv
  obtain ⟨⟨rfl, _⟩, _, rfl⟩ := hv
  have h1 := h.1
  refine ⟨by rw [List.length_take, h1]; omega, .inr ⟨g, c, cur, rfl, hb, hg, by omega, hmx, hs, ?_⟩⟩
  rw [← ht, List.take_take]
  congr 1; omega
set_option maxRecDepth 100000 in
set_option maxHeartbeats 4000000 in
theorem hpopm (w : World) (h : Nat) (Q : List Nat) (L : List Str) (v : Value) (n : Nat) (H : HpIn w h Q v L) (hn : L.length = n + 1) (hl : n ≤ 1000001) :
    Calls Tryz.prog 184 #[.pointer (some ⟨h, 0, none⟩)] w fun e w' => e = .returned (.iface 9 (.string (ba (gx L n)))) ∧ HpTo w w' h Q (L.take n) := by
  obtain ⟨ao, c, rfl⟩ := own_shape H.row
  have hrow : w.ownsRow 0 9 1 (.slice ao (n + 1) c) (n + 1) (svn L) := by have := H.row; rw [hn] at this; exact this
  obtain ⟨g, rfl, _, hc, hfz, hcl⟩ := own_at hrow (by omega)
  have d1 := hcl n _ (svn_get (by omega))
  have c0 := cell_heap H.blk 0 (v := .slice (some ⟨g, 0, none⟩) (n + 1) c) (by rw [hn]; rfl)
  have f0 : w.frozen? ⟨h, 0, none⟩ = false := frozen_of_row _ _ _ _ _ H.blk
  have hT : HpTo w (w.setCell ⟨h, 0, none⟩ (.slice (some ⟨g, 0, none⟩) n c)) h Q (L.take n) := by
    refine H.put (Chg.refl _ _) (n1 := n) ?_ (by simp; omega) (.inl rfl)
    have := own_cut hrow (m := n) (by omega)
    have e : svn (L.take n) = (svn L).take n := by simp [svn, sv, List.map_take]
    rw [e]
    exact this
  have HT := Lib.hid hT
  have e1 : IntKind.i64.wrap (((n + 1 : Nat) : Int) - 1) = (n : Int) := by rw [show ((n + 1 : Nat) : Int) - 1 = (n : Int) by omega]; exact IntWalk.i64_in _ (by omega)
  have e2 : ((n + 1 : Nat) : Int) - 1 = (n : Int) := by omega
  have hnc : n ≤ c := by omega
  clear hcl hfz hT H hrow hn
  generalize ba (gx L n) = X at *
  go_enter Tryz.func184, Tryz.ntmps184
  go_wp2_with fail
  go_ret
  exact ⟨rfl, HT.out⟩
set_option maxRecDepth 100000 in
set_option maxHeartbeats 4000000 in
theorem hinit (w : World) (h : Nat) (Q : List Nat) (v : Value) (H : HpIn w h Q v []) :
    Calls Tryz.prog 96 #[hv h] w fun e w' => e = .returned (.tuple #[]) ∧ w' = w := by
  obtain ⟨ao, c, rfl⟩ := own_shape H.row
  have c0 := cell_heap H.blk 0 (v := .slice ao 0 c) rfl
  have hm := methLen w h _ c0
  have HL := Lib.hid (hlen w ao 0 c)
  clear H
  unfold hv
  have e1 : ((0 : Nat) : Int).tdiv 2 = 0 := rfl
  go_enter Tryz.func96, Tryz.ntmps96
  go_wp2_with (go_at_call 119; refine HL.out.mono ?_; rintro e w2 ⟨rfl, hw2⟩; obtain rfl := hw2.symm)
  go_loopw [3] (fun u wr => u = .int .i64 (-1) ∧ wr = w) (fun _ _ => 0)
  case atStart => exact ⟨rfl, rfl⟩
  case round =>
    obtain ⟨rfl, rfl⟩ := hrel
    go_wp2_with fail
    go_end0
    exact ⟨rfl, rfl⟩
/-- The heap afterwards. -/
def HpNew (w w' : World) (h : Nat) (Q : List Nat) (L : List Str) : Prop := ∃ L', HpTo w w' h Q L' ∧ L'.Perm L ∧ HeapN L' L'.length
theorem HpIn.to {w w' : World} {h : Nat} {Q : List Nat} {v : Value} {L : List Str} (H : HpIn w' h Q v L) (k : Chg Q w w') : HpTo w w' h Q L := ⟨Q, ⟨⟨v, H⟩, fun _ hg => .inl hg⟩, k⟩
set_option maxRecDepth 100000 in
set_option maxHeartbeats 4000000 in
theorem hadd (w : World) (h : Nat) (Q : List Nat) (L : List Str) (x : Str) (H : HpAt w h Q L) (hh : HeapN L L.length) (hl : L.length ≤ 1000000) :
    Calls Tryz.prog 99 #[hv h, .iface 9 (.string (ba x))] w fun e w' => e = .returned (.tuple #[]) ∧ HpNew w w' h Q (x :: L) := by
  have HP := Lib.hid (hpush w h Q L x H hl)
  have HU := Lib.hid (fun W Q1 v (H1 : HpIn W h Q1 v (L ++ [x])) => hup W h Q1 (L ++ [x]) v L.length H1 (by simp; omega) (by simp) (hh.pushed x))
  have hp0 := methPush w h
  have HM := Lib.hid (fun W Q1 v (H1 : HpIn W h Q1 v (L ++ [x])) => And.intro (methLen W h v (cell_heap H1.blk 0 rfl)) (show ∃ ao c, v = .slice ao (L.length + 1) c from (by obtain ⟨ao, c, e⟩ := own_shape H1.row; exact ⟨ao, c, by simpa using e⟩)))
  have hperm : (L ++ [x]).Perm (x :: L) := List.perm_append_singleton x L
  have HPM := Lib.hid hperm
  clear H hh hperm
  unfold hv at *
  generalize ba x = X at *
  obtain ⟨n, hn⟩ : ∃ n, n = L.length := ⟨_, rfl⟩
  rw [← hn] at HU HM hl
  have e2 : ((n + 1 : Nat) : Int) - 1 = (n : Int) := by omega
  clear hn
  go_enter Tryz.func99, Tryz.ntmps99
  go_upto_region 1 with (go_at_call 185; refine HP.out.mono ?_; rintro e w1 ⟨rfl, Q1, ⟨⟨v1, hv1⟩, hq1⟩, hk1⟩; have HV := Lib.hid (And.intro hv1 (And.intro hq1 hk1)); clear hv1 hq1 hk1)
  obtain ⟨hm1, ao, c, rfl⟩ := HM.out w1 Q1 v1 HV.out.1
  have HLN := Lib.hid (hlen w1 ao (n + 1) c)
  go_wp2_with (first
    | (go_at_call 119; refine HLN.out.mono ?_; rintro e w2 ⟨rfl, hw2⟩; obtain rfl := hw2.symm)
    | (go_at_call 118; refine (HU.out _ _ _ HV.out.1).mono ?_; rintro e w3 ⟨rfl, L', hl1, hl2, hl3, hl4⟩; have HW := Lib.hid (And.intro hl1 (And.intro hl2 (And.intro hl3 hl4))); clear hl1 hl2 hl3 hl4))
  go_end0
  exact ⟨rfl, L', HpTo.then_ HV.out.2.2 HV.out.2.1 (HW.out.1.to HW.out.2.2.2), HW.out.2.1.trans HPM.out, HW.out.2.2.1⟩
set_option maxRecDepth 100000 in
set_option maxHeartbeats 4000000 in
theorem htake (w : World) (h : Nat) (Q : List Nat) (L : List Str) (n : Nat) (H : HpAt w h Q L) (hh : HeapN L L.length) (hn : L.length = n + 1) (hl : n ≤ 1000000) :
    Calls Tryz.prog 101 #[hv h] w fun e w' => e = .returned (.iface 9 (.string (ba (gx L 0)))) ∧ ∃ R, HpTo w w' h Q R ∧ (gx L 0 :: R).Perm L ∧ HeapN R R.length ∧ ∀ y ∈ R, ¬ y < gx L 0 := by
  obtain ⟨v, H⟩ := H
  obtain ⟨ao, c, rfl⟩ := own_shape H.row
  have hrow : w.ownsRow 0 9 1 (.slice ao (n + 1) c) (n + 1) (svn L) := by have := H.row; rw [hn] at this; exact this
  have c0 := cell_heap H.blk 0 (v := .slice ao (n + 1) c) (by rw [hn]; rfl)
  have hm1 := methLen w h _ c0
  have hm2 := methSwap w h _ c0
  have HLN := Lib.hid (hlen w ao (n + 1) c)
  have hsl : (sw L 0 n).length = n + 1 := by rw [sw_length, hn]
  have HSW := Lib.hid (show Calls Tryz.prog 183 #[.slice ao (n + 1) c, .int .i64 0, .int .i64 n] w (fun e w' => e = .returned (.tuple #[]) ∧ (HpIn w' h Q (.slice ao (n + 1) c) (sw L 0 n) ∧ Chg Q w w')) from by
    refine (hswap w 0 (.slice ao (n + 1) c) (n + 1) L hn hrow 0 n (by omega) (by omega) (by omega)).mono ?_
    rintro e w' ⟨rfl, h1, h2⟩
    have k1 : Chg Q w w' := h2.mono (fun x hx _ => by simp at hx; rw [hn] at H; exact H.own.2 x hx)
    refine ⟨rfl, ⟨h2.heap (by rw [hn] at H; exact H.blk) (fun hm => by simp at hm; rw [hn] at H; exact H.far hm rfl), ?_, by rw [hn] at H; exact H.own, fun g hg => Nat.lt_of_lt_of_le (H.lt g hg) k1.size⟩, k1⟩
    rw [hsl]
    exact h1)
  rw [hn] at hh
  have HD := Lib.hid (fun W (H1 : HpIn W h Q (.slice ao (n + 1) c) (sw L 0 n)) => hdown W h Q (sw L 0 n) (.slice ao (n + 1) c) 0 n H1 (by rw [hsl]; omega) (by rw [hsl]; omega) (Nat.zero_le _) (hh.popped hn))
  have HPP := Lib.hid (fun W L2 (H1 : HpIn W h Q (.slice ao (n + 1) c) L2) (hp : L2.length = n + 1) => hpopm W h Q L2 (.slice ao (n + 1) c) n H1 hp (by omega))
  have HX := Lib.hid (fun L2 (hp : L2.Perm (sw L 0 n)) (hN : HeapN L2 n) (hg : ∀ k, n ≤ k → gx L2 k = gx (sw L 0 n) k) => (show L2.length = n + 1 ∧ gx L2 n = gx L 0 ∧ (gx L 0 :: L2.take n).Perm L ∧ HeapN (L2.take n) (L2.take n).length ∧ ∀ y ∈ L2.take n, ¬ y < gx L 0 by
    have hl2 : L2.length = n + 1 := by rw [hp.length_eq, hsl]
    have hgn : gx L2 n = gx L 0 := by rw [hg n (Nat.le_refl _), sw_j (by omega) (by omega)]
    have hpL : L2.Perm L := hp.trans (sw_perm (by omega) (by omega))
    have hcut : L2 = L2.take n ++ [gx L2 n] := by
      rw [gx_eq (by omega), List.take_append_getElem, List.take_of_length_le (by omega)]
    refine ⟨hl2, hgn, ?_, hN.take (by omega), fun y hy => ?_⟩
    · rw [← hgn]
      refine (List.perm_append_singleton _ _).symm.trans ?_
      rw [← hcut]
      exact hpL
    · have hyL : y ∈ L := hpL.mem_iff.1 (List.mem_of_mem_take hy)
      obtain ⟨k, hk, rfl⟩ := List.mem_iff_getElem.1 hyL
      have := hh.least k (by omega)
      rw [gx_eq hk] at this
      exact this))
  have HM := Lib.hid (fun W => methPop W h)
  clear H hh hn c0 hsl hrow
  unfold hv at *
  have e2 : ((n + 1 : Nat) : Int) - 1 = (n : Int) := by omega
  generalize gx L 0 = x0 at *
  generalize sw L 0 n = L1 at *
  go_enter Tryz.func101, Tryz.ntmps101
  go_upto_region 4 with (first
    | (go_at_call 119; refine HLN.out.mono ?_; rintro e w2 ⟨rfl, hw2⟩; obtain rfl := hw2.symm)
    | (go_at_call 183; refine HSW.out.mono ?_; rintro e w3 ⟨rfl, h1, h2⟩; have HW3 := Lib.hid (And.intro h1 h2); clear h1 h2)
    | (go_at_call 116; refine (HD.out _ HW3.out.1).mono ?_; rintro e w4 ⟨⟨b, rfl⟩, L2, h1, h2, h3, h4, h5⟩; have HW4 := Lib.hid (And.intro h1 (And.intro (HX.out L2 h2 h3 h4) h5)); clear h1 h2 h3 h4 h5))
  have hm4 := HM.out w4
  go_wp2_with (go_at_call 184; refine (HPP.out _ _ HW4.out.1 HW4.out.2.1.1).mono ?_; rintro e w5 ⟨rfl, h5⟩; have HW5 := Lib.hid h5; clear h5)
  go_ret
  rw [HW4.out.2.1.2.1]
  exact ⟨rfl, L2.take n, HpTo.then_ (HW3.out.2.trans HW4.out.2.2) (fun g hg => .inl hg) HW5.out, HW4.out.2.1.2.2.1, HW4.out.2.1.2.2.2⟩
end Go.Proofs.YtfhiioopimmahaaGreatDoor
namespace Go.Proofs.YtfhiioopimmahaaGreatDoor
open Go.RowKit Go.Pax Go.Shelf
theorem Tryz.hnilS : ∀ (w : World) (a : Option Addr) (n c n' c' : Nat), (binOp .eql 47 (.slice a n c) (.slice none n' c')).run Tryz.prog w = .ok (.bool a.isNone) w := fun w a n c n' c' => Lib.run_eql_slice_nil w _ _ a n c n' c' Tryz.underlying47
set_option maxHeartbeats 1000000 in
theorem cloneS_nil (w : World) (n c : Nat) : Calls Tryz.prog 95 #[.slice none n c] w fun e w' => e = .returned (.slice none 0 0) ∧ w' = w := by
  have hq := Tryz.hnilS
  go_enter Tryz.func95, Tryz.ntmps95
  go_wp2
  go_ret
  exact ⟨rfl, rfl⟩
set_option maxHeartbeats 2000000 in
theorem hnew (w : World) : Calls Tryz.prog 67 #[.slice none 0 0] w fun e w' => e = .returned (.pointer (some ⟨w.heap.size, 0, none⟩)) ∧ HpAt w' w.heap.size [w.heap.size] [] ∧ Chg [] w w' := by
  have HC := Lib.hid (fun W => cloneS_nil W 0 0)
  have HI : HpIn (w.alloc (.cells #[.slice none 0 0] 161)) w.heap.size [w.heap.size] (.slice none 0 0) [] :=
    ⟨heap_alloc_new _ _, ⟨rfl, .inl ⟨rfl, rfl⟩⟩, ⟨by simp, fun g hg => by cases hg⟩, fun g hg => by simp at hg; subst hg; simp⟩
  have HN := Lib.hid (hinit _ _ _ _ HI)
  have HH := Lib.hid HI
  clear HI
  unfold hv at HN
  go_enter Tryz.func67, Tryz.ntmps67
  go_wp2_with (first
    | (go_at_call 95; refine (HC.out _).mono ?_; rintro e w2 ⟨rfl, hw2⟩; obtain rfl := hw2.symm)
    | (go_at_call 96; refine HN.out.mono ?_; rintro e w3 ⟨rfl, hw3⟩; obtain rfl := hw3.symm))
  go_ret
  exact ⟨rfl, ⟨_, HH.out⟩, (Chg.refl _ _).alloc _⟩
set_option maxRecDepth 100000 in
set_option maxHeartbeats 4000000 in
theorem hone (w : World) (h : Nat) (Q : List Nat) (L : List Str) (x : Str) (b : Nat) (t : TypeId) (H : HpAt w h Q L) (hh : HeapN L L.length) (hl : L.length ≤ 1000000) (hb : w.heap[b]? = some (.cells #[.string (ba x)] t (0, 0))) :
    Calls Tryz.prog 70 #[.pointer (some ⟨h, 0, none⟩), .slice (some ⟨b, 0, none⟩) 1 1] w fun e w' => e = .returned (.tuple #[]) ∧ HpNew w w' h Q (x :: L) := by
  have HA := Lib.hid (hadd w h Q L x H hh hl)
  have c0 := cell_heap hb 0 (v := .string (ba x)) rfl
  clear H hh hb
  unfold hv at HA
  generalize ba x = X at *
  go_enter Tryz.func70, Tryz.ntmps70
  go_wp2_with fail
  refine wp_loop_rounds 2 ?_
  rw [rounds_succ]
  go_wp2_with (go_at_call 99; refine HA.out.mono ?_; rintro e w1 ⟨rfl, hw1⟩; have HW := Lib.hid hw1; clear hw1)
  rw [rounds_succ]
  go_wp2_with fail
  go_end0
  exact ⟨rfl, HW.out⟩
set_option maxRecDepth 100000 in
set_option maxHeartbeats 4000000 in
theorem hlenH (w : World) (h : Nat) (Q : List Nat) (L : List Str) (H : HpAt w h Q L) : Calls Tryz.prog 100 #[.pointer (some ⟨h, 0, none⟩)] w fun e w' => e = .returned (.int .i64 L.length) ∧ w' = w := by
  obtain ⟨v, H⟩ := H
  obtain ⟨ao, c, rfl⟩ := own_shape H.row
  have c0 := cell_heap H.blk 0 (v := .slice ao L.length c) rfl
  have HL := Lib.hid (hlen w ao L.length c)
  clear H
  generalize L.length = n at *
  go_enter Tryz.func100, Tryz.ntmps100
  go_wp2_with (go_at_call 119; refine HL.out.mono ?_; rintro e w2 ⟨rfl, hw2⟩; obtain rfl := hw2.symm)
  go_ret
  exact ⟨rfl, rfl⟩
set_option maxRecDepth 100000 in
set_option maxHeartbeats 4000000 in
theorem hpop0 (w : World) (h : Nat) (Q : List Nat) (H : HpAt w h Q []) : Calls Tryz.prog 72 #[.pointer (some ⟨h, 0, none⟩)] w fun e w' => e = .returned (.tuple #[.string ⟨#[]⟩, .bool false]) ∧ w' = w := by
  have HL := Lib.hid (hlenH w h Q [] H)
  go_enter Tryz.func72, Tryz.ntmps72
  go_wp2_with (go_at_call 100; refine HL.out.mono ?_; rintro e w2 ⟨rfl, hw2⟩; obtain rfl := hw2.symm)
  go_ret2
  exact ⟨rfl, rfl⟩
set_option maxRecDepth 100000 in
set_option maxHeartbeats 4000000 in
theorem hpop (w : World) (h : Nat) (Q : List Nat) (L : List Str) (H : HpAt w h Q L) (hh : HeapN L L.length) (hl : L.length ≤ 1000000) (h0 : L ≠ []) :
    Calls Tryz.prog 72 #[.pointer (some ⟨h, 0, none⟩)] w fun e w' => ∃ x R, e = .returned (.tuple #[.string (ba x), .bool true]) ∧ HpTo w w' h Q R ∧ (x :: R).Perm L ∧ HeapN R R.length ∧ ∀ y ∈ R, ¬ y < x := by
  have HL := Lib.hid (hlenH w h Q L H)
  obtain ⟨n, hn⟩ : ∃ n, L.length = n + 1 := ⟨L.length - 1, by have := List.length_pos_iff.2 h0; omega⟩
  have HT := Lib.hid (htake w h Q L n H hh hn (by omega))
  have hta := fun X W => assertS2 20 X W
  rw [hn] at HL
  clear H hh hn h0
  unfold hv at HT
  have hnz : ¬ ((n + 1 : Nat) : Int) = 0 := by omega
  go_enter Tryz.func72, Tryz.ntmps72
  go_wp2_with (first
    | (go_at_call 100; refine HL.out.mono ?_; rintro e w2 ⟨rfl, hw2⟩; obtain rfl := hw2.symm)
    | (go_at_call 101; refine HT.out.mono ?_; rintro e w3 ⟨rfl, R, hR⟩; have HW := Lib.hid hR; clear hR))
  go_ret2
  exact ⟨_, R, rfl, HW.out⟩
end Go.Proofs.YtfhiioopimmahaaGreatDoor
namespace Go.Proofs.YtfhiioopimmahaaGreatDoor
open Go.RowKit Go.Pax Go.Shelf
theorem HpNew.mono {w w' : World} {h : Nat} {Q : List Nat} {L M : List Str} (H : HpNew w w' h Q L) (hp : L.Perm M) : HpNew w w' h Q M := by
  obtain ⟨L', h1, h2, h3⟩ := H
  exact ⟨L', h1, h2.trans hp, h3⟩
set_option maxRecDepth 100000 in
set_option maxHeartbeats 8000000 in
theorem expand (w : World) (f : Nat) (O : List Nat) (σ : Fs) (h : Nat) (Q : List Nat) (L : List Str) (d : Str) (b bf bt : Nat) (tf tt : TypeId) (hf : FsAt w f O σ) (hok : σ.Ok) (ht : Tidy σ) (hH : HpAt w h Q L) (hh : HeapN L L.length) (hQO : ∀ g ∈ Q, g ∉ O)
    (hbf : w.heap[bf]? = some (.cells #[.pointer (some ⟨f, 0, none⟩)] tf (0, 0))) (hbt : w.heap[bt]? = some (.cells #[.pointer (some ⟨h, 0, none⟩)] tt (0, 0))) (hto : bt ∉ O) (htq : bt ∉ Q)
    (hd : lkF σ.files d = some b) (hk : (σ.node b).kind = 0) (hL : L.length + (σ.node b).names.length ≤ 1000000) :
    Calls Tryz.prog 68 #[.string (ba d), .pointer (some ⟨bf, 0, none⟩), .pointer (some ⟨bt, 0, none⟩)] w fun e w' => e = .returned (.int .i64 0) ∧ FsAt w' f O { σ with lists := σ.lists + 1 } ∧ Chg (O ++ Q) w w' ∧ ∃ Q' L', HpAt w' h Q' L' ∧ (∀ g ∈ Q', g ∈ Q ∨ w.heap.size ≤ g) ∧ L'.Perm (kids σ d b ++ L) ∧ HeapN L' L'.length := by
  have hdl : d.length ≤ 1000000 := by have := ht.short d b hd; omega
  have hn0 : ∀ s ∈ listed σ (σ.node b).names, s.length ≤ 1000000 := fun s hs => by
    obtain ⟨_, c, hc⟩ := ht.there d b hd hk s ((listed_perm σ _).mem_iff.1 hs)
    have := ht.short _ _ hc
    have := join_len d s
    omega
  have hLE : listE σ d = 0 := by unfold listE; rw [hd]; simp only; rw [if_pos hk]
  have HLS := Lib.hid (show Calls Tryz.prog 69 #[.pointer (some ⟨f, 0, none⟩), .string (ba d)] w (fun e w' => ∃ ao n c, e = .returned (.tuple #[.slice ao n c, .int .i64 0]) ∧ n = (σ.node b).names.length ∧ w'.ownsRow w.heap.size 9 1 (.slice ao n c) n (svn (listed σ (σ.node b).names)) ∧ FsSame w w' f O { σ with lists := σ.lists + 1 }) from by
    refine (list w f O σ d hf hok).mono ?_
    rintro e w' ⟨_, h2⟩
    obtain ⟨b', ao, n, c, hb', he, hn, ho, hs⟩ := h2 hLE
    rw [hd] at hb'
    cases hb'
    exact ⟨ao, n, c, he, hn, ho, hs⟩)
  have hnl : (listed σ (σ.node b).names).length = (σ.node b).names.length := (listed_perm σ _).length_eq
  have hpm : ((listed σ (σ.node b).names).map (joinP d) ++ L).Perm (kids σ d b ++ L) := ((listed_perm σ _).map _).append_right L
  have HPM := Lib.hid hpm
  have c0 := cell_heap hbf 0 (v := .pointer (some ⟨f, 0, none⟩)) rfl
  have HBT := Lib.hid (fun W (k : Chg O w W) => (k.heap hbt hto))
  have HH := Lib.hid (And.intro hH (And.intro hh hQO))
  have HQL := Lib.hid hH.lt
  have HTQ := Lib.hid htq
  have HN0 := Lib.hid (And.intro hn0 hdl)
  generalize listed σ (σ.node b).names = M at *
  generalize (σ.node b).names.length = N at *
  have HNL := Lib.hid hnl
  have HLN := Lib.hid hL
  have HDD := Lib.hid (show ba d = ba d from rfl)
  clear hf hok ht hH hh hQO hbf hbt hto htq hd hk hn0 hLE hnl hpm hdl hL
  obtain ⟨D, hD⟩ : ∃ D, D = ba d := ⟨_, rfl⟩
  rw [← hD] at HLS ⊢
  have HDE := Lib.hid hD
  clear hD HDD
  go_enter Tryz.func68, Tryz.ntmps68
  go_wp2_with (go_at_call 69; refine HLS.out.mono ?_; rintro e w1 ⟨ao, n, c, rfl, hn, ho, hs⟩; have HS1 := Lib.hid (And.intro ho hs); have HN1 := Lib.hid hn; clear hn ho hs)
  have HRD := Lib.hid (own_rd2 HS1.out.1)
  have HH1 := Lib.hid (HH.out.1.foreign HS1.out.2.2 HH.out.2.2)
  have HNB := Lib.hid (show n ≤ 1000000 by have := HLN.out; have := HN1.out; omega)
  go_loopw [17, 8] (fun i u wr => ∃ (k : Nat) (L' : List Str), i = .int .i64 k ∧ k ≤ n ∧ HpTo w1 wr h Q L' ∧ L'.Perm ((M.take k).map (joinP d) ++ L) ∧ HeapN L' L'.length) (fun i _ _ => n - (intOf i).toNat)
  case atStart => exact ⟨0, L, rfl, Nat.zero_le _, ⟨Q, ⟨HH1.out, fun _ hg => .inl hg⟩, Chg.refl _ _⟩, by simp, HH.out.2.1⟩
  case round =>
    obtain ⟨k, L', rfl, hkn, hto, hp, hh⟩ := hrel
    have HT := Lib.hid (And.intro hto (And.intro hp hh))
    clear hto hp hh
    have hnb := HNB.out
    by_cases hlt : k < n
    · have hkM : k < M.length := by rw [HNL.out, ← HN1.out]; exact hlt
      obtain ⟨Q1, ⟨hA, hQ1⟩, hK⟩ := HT.out.1
      have HA := Lib.hid (And.intro hA (And.intro hQ1 hK))
      obtain ⟨ad, rfl, _, d3⟩ := (HRD.out.1.chg hK (fun x hx hq => by have := (HRD.out.2.1 x hx).1; have := HQL.out x hq; omega)) k (.string (ba M[k])) (by unfold svn; rw [sv_get _ _ (by simpa using hkM)]; simp)
      have hbt := hK.heap (HBT.out w1 HS1.out.2.2) HTQ.out
      have HBW := Lib.hid hbt
      have HCE := Lib.hid (fun W (kw : Chg [] wr W) => cell_heap (kw.heap hbt (by simp)) 0 (v := .pointer (some ⟨h, 0, none⟩)) rfl)
      have hj := fun W => joinS W d M[k] HN0.out.2 (HN0.out.1 _ (List.getElem_mem hkM))
      rw [← HDE.out] at hj
      have HJ := Lib.hid hj
      have hpl : L'.length ≤ 1000000 := by
        have h1 := HT.out.2.1.length_eq
        have h2 := HLN.out
        have h3 := HN1.out
        simp at h1
        omega
      have HON := Lib.hid (fun W (kw : Chg [] wr W) (hb : W.heap[wr.heap.size]? = some (.cells #[.string (ba (joinP d M[k]))] 9 (0, 0))) => hone W h Q1 L' (joinP d M[k]) wr.heap.size _ (hA.foreign kw (by simp)) HT.out.2.2 hpl hb)
      have hpk : (joinP d M[k] :: L').Perm ((M.take (k + 1)).map (joinP d) ++ L) := by
        rw [List.take_add_one, List.getElem?_eq_getElem hkM]
        simp only [Option.toList, List.map_append, List.map_cons, List.map_nil, List.append_assoc, List.cons_append, List.nil_append]
        exact ((HT.out.2.1.cons _).trans List.perm_middle.symm)
      have HPK := Lib.hid hpk
      have hQ1s := Lib.hid (fun g (hg : g ∈ Q1) => hA.lt g hg)
      have HCB := Lib.hid (fun (W W' : World) (hn : HpNew (wr.drew.alloc (.cells #[.string (ba (joinP d M[k]))] 9)) W' h Q1 (joinP d M[k] :: L')) => (show W'.cell? ⟨bt, 0, none⟩ = some (.pointer (some ⟨h, 0, none⟩)) by
        obtain ⟨L2, ⟨Q2, _, hk2⟩, _⟩ := hn
        have hb2 := (((Chg.refl [] wr).drew.alloc (.cells #[.string (ba (joinP d M[k]))] 9)).heap hbt (by simp))
        refine cell_heap (hk2.heap hb2 (fun hm => ?_)) 0 rfl
        rcases hQ1 bt hm with h4 | h4
        · exact HTQ.out h4
        · have := lt_of_block (HBT.out w1 HS1.out.2.2); omega))
      clear hA hQ1 hK hbt hj hpl hpk
      generalize ba M[k] = X at *
      generalize ba (joinP d M[k]) = Y at *
      go_upto_region 5 with (fail)
      refine wp_region_held_drew (S := fun q => q.cell? ⟨bt, 0, none⟩ = some (.pointer (some ⟨h, 0, none⟩))) (by kernel_rfl) ?_ (fun hHeld => ?_)
      · exact HCE.out _ (Chg.refl _ _).drew
      refine wpAnyH_take (i := 0) (oi := ?oi1) (v := ?v1) ?hi1 (by kernel_rfl) (by kernel_rfl) (by kernel_rfl) ?hQ1 (Or.inl ⟨?hw1, ?hy1⟩) (by assumption) ?hr1
      case hi1 => simp only [List.getElem?_toArray, List.getElem?_cons_zero]; rfl
      case hQ1 => exact fun _ _ _ h => h
      case hw1 => rfl
      case hy1 => intro w hSw; (try dsimp only at hSw); go_simp; (try with_reducible rfl)
      case hr1 =>
      simp only [Act.put, List.setIfInBounds_toArray, List.set_cons_zero, List.set_cons_succ]
      refine wpAnyH_take (i := 1) (oi := ?oi2) (v := ?v2) ?hi2 (by kernel_rfl) (by kernel_rfl) (by kernel_rfl) ?hQ2 (Or.inl ⟨?hw2, ?hy2⟩) (by assumption) ?hr2
      case hi2 => simp only [List.getElem?_toArray, List.getElem?_cons_succ, List.getElem?_cons_zero]; rfl
      case hQ2 => exact fun _ _ _ h => h
      case hw2 => rfl
      case hy2 => intro w hSw; (try dsimp only at hSw); go_simp; (try with_reducible rfl)
      case hr2 =>
      simp only [Act.put, List.setIfInBounds_toArray, List.set_cons_zero, List.set_cons_succ]
      refine wpAnyH_take (i := 2) (oi := ?oi3) (v := ?v3) ?hi3 (by kernel_rfl) (by kernel_rfl) (by kernel_rfl) ?hQ3 (Or.inl ⟨?hw3, ?hy3⟩) (by assumption) ?hr3
      case hi3 => simp only [List.getElem?_toArray, List.getElem?_cons_succ, List.getElem?_cons_zero]; rfl
      case hQ3 => exact fun _ _ _ h => h
      case hw3 => rfl
      case hy3 => intro w hSw; (try dsimp only at hSw); go_simp; (try with_reducible rfl)
      case hr3 =>
      simp only [Act.put, List.setIfInBounds_toArray, List.set_cons_zero, List.set_cons_succ]
      refine wpAnyH_ready (rs := [3]) (by kernel_rfl) (by simp) (AllReadyH.cons (o := ?oc4) ?hc4 (fun K hK => ?hs4) AllReadyH.nil)
      case hc4 => simp only [List.getElem?_toArray, List.getElem?_cons_succ, List.getElem?_cons_zero]; rfl
      case hs4 =>
      rw [if_pos (by rfl)]
      go_simp
      go_at_call 71; refine (HJ.out _).mono ?_; rintro e w2 ⟨rfl, hw2⟩; obtain rfl := hw2.symm
      go_wp2_with fail
      refine hK.out _ _ ?_ (fun hHeld => ?_)
      · exact hHeld
      clear hK K
      try simp only [Act.put, List.setIfInBounds_toArray, List.set_cons_zero, List.set_cons_succ]
      refine wpAnyH_ready (rs := [4]) (by kernel_rfl) (by simp) (AllReadyH.cons (o := ?oc5) ?hc5 (fun K hK => ?hs5) AllReadyH.nil)
      case hc5 => simp only [List.getElem?_toArray, List.getElem?_cons_succ, List.getElem?_cons_zero]; rfl
      case hs5 =>
      rw [if_pos (by rfl)]
      go_simp
      
      go_wp2_with fail
      refine hK.out _ _ ?_ (fun hHeld => ?_)
      · exact HCE.out _ ((Chg.refl _ _).drew.alloc _)
      clear hK K
      try simp only [Act.put, List.setIfInBounds_toArray, List.set_cons_zero, List.set_cons_succ]
      refine wpAnyH_ready (rs := [5]) (by kernel_rfl) (by simp) (AllReadyH.cons (o := ?oc6) ?hc6 (fun K hK => ?hs6) AllReadyH.nil)
      case hc6 => simp only [List.getElem?_toArray, List.getElem?_cons_succ, List.getElem?_cons_zero]; rfl
      case hs6 =>
      rw [if_pos (by rfl)]
      go_simp
      go_at_call 70; refine (HON.out _ ((Chg.refl _ _).drew.alloc _) (heap_alloc_new _ _)).mono ?_; rintro e w3 ⟨rfl, hw3⟩; have HW3 := Lib.hid hw3; clear hw3
      go_wp2_with fail
      refine hK.out _ _ ?_ (fun hHeld => ?_)
      · exact HCB.out wr _ HW3.out
      clear hK K
      try simp only [Act.put, List.setIfInBounds_toArray, List.set_cons_zero, List.set_cons_succ]
      refine wpAnyH_done (by kernel_rfl) ?_ _
      go_wp2_with fail
      obtain ⟨L2, hl1, hl2, hl3⟩ := HW3.out
      have hA2 : HpTo w1 w3 h Q L2 := HpTo.then_ HA.out.2.2 HA.out.2.1 (HpTo.then_ (((Chg.refl [] wr).drew.alloc (.cells #[.string Y] 9)).mono (by simp)) (fun g hg => .inl hg) hl1)
      have HL2 := Lib.hid (And.intro hA2 (And.intro (hl2.trans HPK.out) hl3))
      clear hl1 hl2 hl3 hA2
      go_roundw
      case rel => exact ⟨k + 1, L2, by go_num, by omega, HL2.out⟩
      case measure => simp [intOf]; omega
    · have hkk : k = n := by omega
      subst hkk
      obtain ⟨Q1, ⟨hA, hQ1⟩, hK⟩ := HT.out.1
      have HA := Lib.hid (And.intro hA (And.intro hQ1 hK))
      clear hA hQ1 hK
      go_wp2_with fail
      go_ret
      have hpf := HT.out.2.1
      rw [List.take_of_length_le (by rw [HNL.out, ← HN1.out]; exact Nat.le_refl _)] at hpf
      refine ⟨rfl, HS1.out.2.1.foreign HA.out.2.2 (fun g hg hq => HH.out.2.2 g hq hg), ?_, Q1, L', HA.out.1, fun g hg => ?_, hpf.trans HPM.out, HT.out.2.2⟩
      · exact HS1.out.2.2.trans' HA.out.2.2 (fun x hx _ => List.mem_append_left _ hx) (fun x hx _ => List.mem_append_right _ hx)
      · rcases HA.out.2.1 g hg with h4 | h4
        · exact .inl h4
        · exact .inr (Nat.le_trans HS1.out.2.2.size h4)
end Go.Proofs.YtfhiioopimmahaaGreatDoor
namespace Go.Pax
open Go.RowKit
/-- The file system after k listings more. -/
def ls (σ : Fs) (k : Nat) : Fs := { σ with lists := σ.lists + k }
theorem ls_in {σ : Fs} {n : Nat} (h : σ.In n) (k : Nat) : (ls σ k).In (n + k) :=
  ⟨by have := h.next; show 0 ≤ σ.next ∧ σ.next ≤ _; omega, h.step, fun p b hb => by have := h.names p b hb; show (σ.node b).names.length ≤ _; omega, by have := h.lists; show 0 ≤ σ.lists + (k : Int) ∧ σ.lists + (k : Int) ≤ _; omega, fun p b hb => by have := h.links p b hb; show 0 ≤ (σ.node b).links ∧ (σ.node b).links ≤ _; omega, h.rot, h.rotl⟩
theorem ls_like (σ : Fs) (k : Nat) : FsLike σ (ls σ k) := ⟨rfl, fun _ => ⟨rfl, rfl⟩⟩
theorem ls_succ (σ : Fs) (k : Nat) : { ls σ k with lists := (ls σ k).lists + 1 } = ls σ (k + 1) := by
  unfold ls
  simp only [Fs.mk.injEq, true_and, and_true]
  omega
end Go.Pax
namespace Go.Proofs.YtfhiioopimmahaaGreatDoor
open Go.RowKit Go.Pax Go.Shelf
/-- The file system (own blocks O), the heap of paths (h; Q) and what the caller keeps (J; R). -/
structure Mst (J : World → List Nat → List Str → Prop) (w w' : World) (f h bf bt : Nat) (O R0 : List Nat) (σ : Fs) (k : Nat) (Q R : List Nat) (V L : List Str) : Prop where
  fs : FsAt w' f O (ls σ k)
  hp : HpAt w' h Q L
  j : J w' R V
  qo : ∀ g ∈ Q, g ∉ O ∧ g ∉ R ∧ g ≠ bf ∧ g ≠ bt ∧ w.heap.size ≤ g
  ro : ∀ g ∈ R, g ∉ O ∧ g ≠ bf ∧ g ≠ bt ∧ (g ∈ R0 ∨ w.heap.size ≤ g) ∧ g < w'.heap.size
  bf : w'.heap[bf]? = some (.cells #[.pointer (some ⟨f, 0, none⟩)] 27 (0, 0)) ∧ bf ∉ O
  bt : w'.heap[bt]? = some (.cells #[.pointer (some ⟨h, 0, none⟩)] 129 (0, 0)) ∧ bt ∉ O
  chg : Chg (O ++ R0) w w'
/-- What the caller keeps stands where its blocks stand. -/
def Stays (J : World → List Nat → List Str → Prop) : Prop := ∀ w w' R V S, J w R V → Chg S w w' → (∀ g ∈ R, g ∉ S) → J w' R V
theorem Mst.quiet {J : World → List Nat → List Str → Prop} (hJ : Stays J) {w w1 w2 : World} {f h bf bt k : Nat} {O R0 Q R : List Nat} {σ : Fs} {V L : List Str} (H : Mst J w w1 f h bf bt O R0 σ k Q R V L) (c : Chg [] w1 w2) : Mst J w w2 f h bf bt O R0 σ k Q R V L :=
  ⟨H.fs.foreign c (by simp), H.hp.foreign c (by simp), hJ _ _ _ _ _ H.j c (by simp), H.qo, fun g hg => ⟨(H.ro g hg).1, (H.ro g hg).2.1, (H.ro g hg).2.2.1, (H.ro g hg).2.2.2.1, Nat.lt_of_lt_of_le (H.ro g hg).2.2.2.2 c.size⟩, ⟨c.heap H.bf.1 (by simp), H.bf.2⟩, ⟨c.heap H.bt.1 (by simp), H.bt.2⟩, H.chg.trans (c.mono (by simp))⟩
theorem Mst.heapTo {J : World → List Nat → List Str → Prop} (hJ : Stays J) {w w1 w2 : World} {f h bf bt k : Nat} {O R0 Q R : List Nat} {σ : Fs} {V L L2 : List Str} (H : Mst J w w1 f h bf bt O R0 σ k Q R V L) (c : HpTo w1 w2 h Q L2) : ∃ Q2, Mst J w w2 f h bf bt O R0 σ k Q2 R V L2 := by
  obtain ⟨Q2, ⟨h1, h2⟩, h3⟩ := c
  have hO := H.fs.lt
  have hbf := lt_of_block H.bf.1
  have hbt := lt_of_block H.bt.1
  refine ⟨Q2, H.fs.foreign h3 (fun g hg hq => (H.qo g hq).1 hg), h1, hJ _ _ _ _ _ H.j h3 (fun g hg hq => (H.qo g hq).2.1 hg), fun g hg => ?_, fun g hg => ⟨(H.ro g hg).1, (H.ro g hg).2.1, (H.ro g hg).2.2.1, (H.ro g hg).2.2.2.1, Nat.lt_of_lt_of_le (H.ro g hg).2.2.2.2 h3.size⟩, ⟨h3.heap H.bf.1 (fun hq => (H.qo _ hq).2.2.1 rfl), H.bf.2⟩, ⟨h3.heap H.bt.1 (fun hq => (H.qo _ hq).2.2.2.1 rfl), H.bt.2⟩, H.chg.trans' h3 (fun x hx _ => hx) (fun x hx hl => by have := (H.qo x hx).2.2.2.2; omega)⟩
  rcases h2 g hg with h4 | h4
  · exact H.qo g h4
  · have := H.chg.size
    exact ⟨fun hm => by have := hO g hm; omega, fun hm => by have := (H.ro g hm).2.2.2.2; omega, by omega, by omega, by omega⟩
theorem Mst.kept {J : World → List Nat → List Str → Prop} {w w1 w2 : World} {f h bf bt k : Nat} {O R0 Q R R2 : List Nat} {σ : Fs} {V V2 L : List Str} (H : Mst J w w1 f h bf bt O R0 σ k Q R V L) (c : Chg R w1 w2) (hj : J w2 R2 V2) (hr : ∀ g ∈ R2, g ∈ R ∨ w1.heap.size ≤ g) (hl : ∀ g ∈ R2, g < w2.heap.size) : Mst J w w2 f h bf bt O R0 σ k Q R2 V2 L := by
  have hO := H.fs.lt
  have hQ := H.hp.lt
  have hbf := lt_of_block H.bf.1
  have hbt := lt_of_block H.bt.1
  have hsz := H.chg.size
  refine ⟨H.fs.foreign c (fun g hg hq => (H.ro g hq).1 hg), H.hp.foreign c (fun g hg hq => (H.qo g hg).2.1 hq), hj, fun g hg => ⟨(H.qo g hg).1, fun hm => ?_, (H.qo g hg).2.2⟩, fun g hg => ?_, ⟨c.heap H.bf.1 (fun hq => (H.ro _ hq).2.1 rfl), H.bf.2⟩, ⟨c.heap H.bt.1 (fun hq => (H.ro _ hq).2.2.1 rfl), H.bt.2⟩, H.chg.trans' c (fun x hx _ => hx) (fun x hx hl => ?_)⟩
  · rcases hr g hm with h4 | h4
    · exact (H.qo g hg).2.1 h4
    · have := hQ g hg; omega
  · rcases hr g hg with h4 | h4
    · exact ⟨(H.ro g h4).1, (H.ro g h4).2.1, (H.ro g h4).2.2.1, (H.ro g h4).2.2.2.1, hl g hg⟩
    · exact ⟨fun hm => by have := hO g hm; omega, by omega, by omega, .inr (by omega), hl g hg⟩
  · rcases (H.ro x hx).2.2.2.1 with h4 | h4
    · exact List.mem_append_right _ h4
    · omega
theorem Mst.lost {J : World → List Nat → List Str → Prop} {w w1 w2 : World} {f h bf bt k : Nat} {O R0 Q R : List Nat} {σ : Fs} {V L : List Str} (H : Mst J w w1 f h bf bt O R0 σ k Q R V L) (c : Chg R w1 w2) : FsAt w2 f O (ls σ k) ∧ Chg (O ++ R0) w w2 := by
  refine ⟨H.fs.foreign c (fun g hg hq => (H.ro g hq).1 hg), H.chg.trans' c (fun x hx _ => hx) (fun x hx hl => ?_)⟩
  rcases (H.ro x hx).2.2.2.1 with h4 | h4
  · exact List.mem_append_right _ h4
  · omega
theorem Mst.expanded {J : World → List Nat → List Str → Prop} (hJ : Stays J) {w w1 w2 : World} {f h bf bt k : Nat} {O R0 Q R Q2 : List Nat} {σ : Fs} {V L L2 : List Str} (H : Mst J w w1 f h bf bt O R0 σ k Q R V L) (hf : FsAt w2 f O { ls σ k with lists := (ls σ k).lists + 1 }) (c : Chg (O ++ Q) w1 w2) (hp : HpAt w2 h Q2 L2) (hq : ∀ g ∈ Q2, g ∈ Q ∨ w1.heap.size ≤ g) :
    Mst J w w2 f h bf bt O R0 σ (k + 1) Q2 R V L2 := by
  rw [ls_succ] at hf
  have hO := H.fs.lt
  have hbf := lt_of_block H.bf.1
  have hbt := lt_of_block H.bt.1
  have hsz := H.chg.size
  have hb : ∀ x, (w1.heap[x]? ≠ none) → x ∉ O → x ∉ Q → x ∉ O ++ Q := fun x _ h1 h2 hm => by
    rcases List.mem_append.1 hm with h3 | h3
    · exact h1 h3
    · exact h2 h3
  refine ⟨hf, hp, hJ _ _ _ _ _ H.j c (fun g hg hm => ?_), fun g hg => ?_, fun g hg => ⟨(H.ro g hg).1, (H.ro g hg).2.1, (H.ro g hg).2.2.1, (H.ro g hg).2.2.2.1, Nat.lt_of_lt_of_le (H.ro g hg).2.2.2.2 c.size⟩, ⟨c.heap H.bf.1 (fun hm => ?_), H.bf.2⟩, ⟨c.heap H.bt.1 (fun hm => ?_), H.bt.2⟩, H.chg.trans' c (fun x hx _ => hx) (fun x hx hl => ?_)⟩
  · rcases List.mem_append.1 hm with h3 | h3
    · exact (H.ro g hg).1 h3
    · exact (H.qo g h3).2.1 hg
  · rcases hq g hg with h4 | h4
    · exact H.qo g h4
    · exact ⟨fun hm => by have := hO g hm; omega, fun hm => by have := (H.ro g hm).2.2.2.2; omega, by omega, by omega, by omega⟩
  · rcases List.mem_append.1 hm with h3 | h3
    · exact H.bf.2 h3
    · exact (H.qo _ h3).2.2.1 rfl
  · rcases List.mem_append.1 hm with h3 | h3
    · exact H.bt.2 h3
    · exact (H.qo _ h3).2.2.2.1 rfl
  · rcases List.mem_append.1 hx with h3 | h3
    · exact List.mem_append_left _ h3
    · have := (H.qo x h3).2.2.2.2; omega
end Go.Proofs.YtfhiioopimmahaaGreatDoor
