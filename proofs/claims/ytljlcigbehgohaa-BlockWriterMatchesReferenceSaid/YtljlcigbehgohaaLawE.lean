/- paxtarlaw04.SourceChunkSizes. -/
import Derived.Test.YtljlcigbehgohaaLawD
namespace Go.Pax
open Go.RowKit
/-- Bytes as ints. -/
def b2i (l : List UInt8) : List Int := l.map fun b => (b.toNat : Int)
theorem b2i_length (l : List UInt8) : (b2i l).length = l.length := by simp [b2i]
theorem b2i_get (l : List UInt8) (j : Nat) (h : j < l.length) : (b2i l)[j]'(by rw [b2i_length]; exact h) = (l[j].toNat : Int) := by simp [b2i]
theorem b2i_le (l : List UInt8) (i : Int) : chunkOf (b2i l) i ≤ 1048576 ∧ (l ≠ [] → chunkOf (b2i l) i ≤ 255) := by
  have h : ∀ j, (b2i l).getD j 0 ≤ 255 := by
    intro j
    rw [List.getD_eq_getElem?_getD]
    cases hj : (b2i l)[j]? with
    | none => simp
    | some x =>
      obtain ⟨b, _, rfl⟩ := List.mem_map.1 (List.mem_of_getElem? hj)
      have := b.toNat_lt
      simp; omega
  have hh := h (i % (b2i l).length).toNat
  unfold chunkOf
  constructor
  · split <;> omega
  · intro hne
    rw [if_neg (by intro e; exact hne (by simpa [b2i] using e))]
    omega
/-- The first k are laid, the others are nought. -/
def filled (l : List Int) (k : Nat) : List Int := l.take k ++ List.replicate (l.length - k) 0
theorem filled_zero (l : List Int) : filled l 0 = List.replicate l.length 0 := by simp [filled]
theorem filled_all (l : List Int) : filled l l.length = l := by simp [filled]
theorem filled_set (l : List Int) (k : Nat) (h : k < l.length) : (iv (filled l k)).set k (.int .i64 l[k]) = iv (filled l (k + 1)) := by
  unfold iv filled
  rw [← List.map_set]
  congr 1
  apply List.ext_getElem?
  intro j
  have hl : (l.take k).length = k := by simp; omega
  rw [List.getElem?_set, List.take_succ_eq_append_getElem h]
  by_cases hj : k = j
  · subst hj
    rw [if_pos rfl, if_pos (by simp; omega), List.append_assoc, List.getElem?_append_right (by omega), hl]
    simp
  · rw [if_neg hj]
    by_cases hlt : j < k
    · rw [List.getElem?_append_left (by omega), List.append_assoc, List.getElem?_append_left (by omega)]
    · rw [List.getElem?_append_right (by omega), List.getElem?_append_right (by simp; omega)]
      simp only [List.length_append, hl, List.length_cons, List.length_nil, List.getElem?_replicate]
      congr 1
      exact propext ⟨fun _ => by omega, fun _ => by omega⟩
theorem zeros_bv (n : Nat) : List.replicate n (Value.int .u8 0) = bv (List.replicate n 0) := by simp [bv]
theorem zeros_iv (n : Nat) : List.replicate n (Value.int .i64 0) = iv (List.replicate n 0) := by simp [iv]
theorem chunkOf_at {l : List Int} {k : Nat} (hl : l.length = k) (i : Int) (h : (i % k).toNat < l.length) : chunkOf l i = max 1 (l[(i % k).toNat]'h) := by
  subst hl
  unfold chunkOf
  rw [if_neg (by intro e; subst e; simp at h), List.getD_eq_getElem?_getD, List.getElem?_eq_getElem h]; rfl
theorem own_keep {w w' : World} {S : List Nat} {base : Nat} {e : TypeId} {v : Value} {n : Nat} {xs : List Value} (h : w.ownsRow base e 1 v n xs) (k : Chg S w w') (hd : ∀ g ∈ v.ownBlock.toList, g ∉ S) : w'.ownsRow base e 1 v n xs := by
  refine ⟨h.1, ?_⟩
  rcases h.2 with hn | ⟨g, cap, cur, hv, hb, hg, rest⟩
  · exact .inl hn
  · exact .inr ⟨g, cap, cur, hv, hb, k.heap hg (hd g (by subst hv; simp [Value.ownBlock])), rest⟩
/-- A read of a source that does not fail. -/
theorem RSrc.read_free {ρ : RSrc} (h : ρ.Ok) (hf : ρ.fail = -1) (n : Int) (hn : 1 ≤ n) (hc : chunkOf ρ.chunks ρ.reads ≤ n) (hl : ρ.off < ρ.b.length) :
    (ρ.read n).1 = 0 ∧ ((ρ.read n).2.1.length : Int) = imin (ρ.b.length - ρ.off) (chunkOf ρ.chunks ρ.reads) ∧
      (ρ.read n).2.2 = { ρ with off := ρ.off + imin (ρ.b.length - ρ.off) (chunkOf ρ.chunks ρ.reads), reads := ρ.reads + 1 } := by
  have h0 := h.off0
  have h1 := h.readsl
  have h2 := h.blen
  have h3 := h.reads0
  have hp := chunkOf_pos ρ.chunks ρ.reads
  unfold RSrc.read
  rw [if_neg (by omega), if_neg (by omega), if_neg (by omega)]
  have hfin : ρ.fin n = ρ.off + imin (ρ.b.length - ρ.off) (chunkOf ρ.chunks ρ.reads) := by
    unfold RSrc.fin RSrc.end0 RSrc.most
    generalize chunkOf ρ.chunks ρ.reads = V at *
    unfold imin
    omega
  have hw : wrap64 (ρ.reads + 1) = ρ.reads + 1 := by unfold wrap64; omega
  refine ⟨rfl, ?_, by simp only [hfin, hw]⟩
  simp only
  rw [List.length_take, List.length_drop, hfin]
  generalize chunkOf ρ.chunks ρ.reads = V at *
  unfold imin
  omega
end Go.Pax
namespace Go.Proofs.Ytljlcigbehgohaa
open Go.RowKit Go.Pax

theorem srcReadsIs (w : World) (p : Nat) (fp : List Nat) (ρ : RSrc) (r : Int) (h : SrcAt w p fp ρ.src) (hr : ρ.reads = r) : Calls Try.prog 27 #[.pointer (some ⟨p, 0, none⟩)] w fun e w' => e = .returned (.int .i64 r) ∧ w' = w := by
  subst hr; exact srcReads' w p fp ρ h

set_option maxRecDepth 100000 in
set_option maxHeartbeats 16000000 in
theorem srcSizes (w : World) (bo : Option Addr) (bc : Nat) (b : List UInt8) (n : Int) (fp : List Nat) (hn : 0 ≤ n ∧ n ≤ 65535) (h1 : Rd w fp bo (bv b)) :
    Calls Try.prog 5 #[.int .u16 n, .slice bo b.length bc] w fun e w' => e = .returned (.bool true) ∧ Chg [] w w' := by
  obtain ⟨hn0, hn1⟩ := hn
  have H1 := Lib.hid h1
  clear h1
  by_cases g1 : b.length = 0
  · have g1b : ((b.length : Int) == 0) = true := by simp [g1]
    clear g1
    go_enter Try.func5, Try.ntmps5
    go_wp2_with (go_at_call 23; refine (srcAlive _).mono ?_; rintro e w9 ⟨rfl, hc9⟩)
    go_ret
    exact ⟨rfl, hc9⟩
  have g1b : ((b.length : Int) == 0) = false := by simpa using g1
  by_cases g2 : 100 < b.length
  · clear g1
    go_enter Try.func5, Try.ntmps5
    go_wp2_with (go_at_call 23; refine (srcAlive _).mono ?_; rintro e w9 ⟨rfl, hc9⟩)
    go_ret
    exact ⟨rfl, hc9⟩
  obtain ⟨ib, hib, hib0, hib1, hib2⟩ := Try.infoB
  obtain ⟨ii, hii, hii0, hii1, hii2⟩ := Try.infoI
  generalize hL : b.length = N at *
  have HL := Lib.hid hL
  clear hL
  go_enter Try.func5, Try.ntmps5
  go_upto_region 4 with (at_make; refine wpList_make_full _ rfl (.tmp 26) (.tmp 26) 23 rfl w.heap.size 3 ii (.int .i64 0) 1 Try.underlying23 hii hii0 hii1 .i64 .i64 _ _ N rfl rfl rfl rfl (by rw [hii2]; omega) (by unfold maxLen; omega) (Nat.le_refl _) ?_; intro w1 hown1 hgr1)
  have hll : (b2i b).length = N := by rw [b2i_length, HL.out]
  have hown1' : w1.ownsRow w.heap.size 3 1 (.slice (some ⟨w.heap.size, 0, none⟩) N N) N (iv (filled (b2i b) 0)) := by
    have h := hown1
    simp only [Value.cells, Nat.mul_one] at h
    rw [toList_madeCells_one, zeros_iv] at h
    rw [filled_zero, hll]
    exact h
  have k1 : Chg [] w w1 := Chg.of_grown hgr1 (by simp)
  have HO1 := Lib.hid hown1'
  have K1 := Lib.hid k1
  have HLL := Lib.hid hll
  clear hown1 hgr1 hown1' k1 hll
  go_wp2_with fail
  go_loopw [30] (fun i wr => ∃ k : Nat, k ≤ N ∧ i = .int .i64 k ∧ Chg [] w wr ∧ wr.ownsRow w.heap.size 3 1 (.slice (some ⟨w.heap.size, 0, none⟩) N N) N (iv (filled (b2i b) k))) (fun i _ => N - (intOf i).toNat)
  case atStart => exact ⟨0, Nat.zero_le _, rfl, K1.out, HO1.out⟩
  case round =>
    obtain ⟨k, hk, rfl, hkr, hor⟩ := hrel
    by_cases hlt : k < N
    · have hkb : k < b.length := by rw [HL.out]; exact hlt
      have hkl : k < (b2i b).length := by rw [HLL.out]; exact hlt
      obtain ⟨ad, rfl, _, hcell⟩ := (H1.out.chg hkr (by simp)) k _ (bv_get b k hkb)
      have hset := hor.stored k (.int .i64 (b2i b)[k])
      rw [filled_set _ _ hkl, b2i_get b k hkb] at hset
      have hz : (0 : Int) ≤ (b[k].toNat : Int) ∧ (b[k].toNat : Int) ≤ 255 := by have := b[k].toNat_lt; omega
      obtain ⟨hz0, hz1⟩ := hz
      generalize (b[k].toNat : Int) = z at *
      have hlen : k < (iv (filled (b2i b) k)).length := by have := hor.1; omega
      have hc := hor.cellAt k (by omega)
      rw [List.getElem?_eq_getElem hlen] at hc
      generalize (iv (filled (b2i b) k))[k] = u at *
      have hfr := hor.frozenAt k
      have HKR := Lib.hid hkr
      have HSET := Lib.hid hset
      clear hkr hset hor hlen hkb hkl
      go_wp2_with fail
      go_roundw
      case rel => exact ⟨k + 1, by omega, by go_num, HKR.out.grown HSET.out.2 (fun x hx hl => by simp at hx; omega), HSET.out.1⟩
      case measure => simp [intOf]; omega
    · have hkk : k = N := by omega
      subst hkk
      have hfa : filled (b2i b) k = b2i b := by rw [← HLL.out]; exact filled_all _
      rw [hfa] at hor
      have HOR := Lib.hid hor
      have HKR := Lib.hid hkr
      clear hor hkr hfa
      go_upto_region 10 with (fail)
      obtain ⟨L0, hL0⟩ : ∃ L0 : Nat, n % 3000 = L0 := ⟨(n % 3000).toNat, by omega⟩
      have hL1 : L0 < 3000 := by omega
      rw [hL0]
      clear hL0
      go_upto_region 11 with (first
        | (at_make; refine wpList_make_full _ rfl (.tmp 44) (.tmp 44) 22 rfl wr.heap.size 5 ib (.int .u8 0) 1 Try.underlying22 hib hib0 hib1 .i64 .i64 _ _ L0 rfl rfl rfl rfl (by rw [hib2]; omega) (by unfold maxLen; omega) (Nat.le_refl _) ?_; intro w2 hown2 hgr2)
        | (go_at_call 24; refine (srcNewN _ (some ⟨wr.heap.size, 0, none⟩) (some ⟨w.heap.size, 0, none⟩) L0 L0 k k (List.replicate L0 0) (b2i b) (-1) [wr.heap.size, w.heap.size] (by simp) HLL.out (by omega) (by omega) (by
            have h := hown2
            simp only [Value.cells, Nat.mul_one] at h
            rw [toList_madeCells_one, zeros_bv] at h
            exact (Rd.of_own h).mono (by simp)) ((Rd.of_own (own_chg HOR.out (Chg.of_grown hgr2 (by simp)) (S := []) (by simp))).mono (by simp))).mono ?_; rintro e w3 ⟨p, f1, rfl, s3, k3, b3, bf3⟩))
      have k2 : Chg [] wr w2 := Chg.of_grown hgr2 (by simp)
      have hor3 := own_chg HOR.out (k2.trans k3) (by simp)
      have hk3 : Chg [] w w3 := (HKR.out.trans k2).trans k3
      have z1 := HKR.out.size
      have z2 := k2.size
      have hgc : w.heap.size < wr.heap.size := (HOR.out.lt w.heap.size rfl).2
      have HS3 := Lib.hid s3
      have HK3 := Lib.hid hk3
      have HOR3 := Lib.hid hor3
      clear hown2 hgr2 k2 k3 bf3 s3 hk3 hor3
      go_wp2_with fail
      go_loopw [8, 10] (fun xl xi wq => ∃ (l i : Int), xl = .int .i64 l ∧ xi = .int .i64 i ∧ 0 ≤ l ∧ l ≤ L0 ∧ RSrc.Ok ⟨List.replicate L0 0, b2i b, -1, L0 - l, i⟩ ∧ SrcAt wq p f1 (RSrc.mk (List.replicate L0 0) (b2i b) (-1) (L0 - l) i).src ∧ wq.ownsRow w.heap.size 3 1 (.slice (some ⟨w.heap.size, 0, none⟩) k k) k (iv (b2i b)) ∧ Chg [] w wq) (fun xl _ _ => (intOf xl).toNat)
      case atStart =>
        refine ⟨L0, 0, rfl, rfl, by omega, by omega, ?_, ?_, HOR3.out, HK3.out⟩
        · rw [Int.sub_self]; exact RSrc.ok_new (by simp; omega) (by rw [HLL.out]; omega) (by omega)
        · rw [Int.sub_self]; exact HS3.out
      case round =>
        obtain ⟨l, i, rfl, rfl, hl0, hl1, hok, hs, hor, hkr⟩ := hrel
        have HOK := Lib.hid hok
        have HS := Lib.hid hs
        have HR := Lib.hid hor
        have HKQ := Lib.hid hkr
        clear hok hs hor hkr
        by_cases hlt : 0 < l
        · have hi0 : 0 ≤ i := HOK.out.reads0
          have hi1 : i ≤ L0 := by have := HOK.out.readsl; simp only at this; omega
          have hm1 : 0 ≤ i % k := Int.emod_nonneg _ (by omega)
          have hm2 : i % k < k := Int.emod_lt_of_pos _ (by omega)
          have hcell := HR.out.cellAt (i % k).toNat (by omega)
          rw [iv_get (b2i b) _ (by rw [HLL.out]; omega)] at hcell
          have hV := chunkOf_at HLL.out i (by rw [HLL.out]; omega)
          have hV2 : chunkOf (b2i b) i ≤ 255 := (b2i_le b i).2 (by intro e; have := HL.out; rw [e] at this; simp at this; omega)
          have hfree := RSrc.read_free HOK.out rfl 10000 (by decide) (by simp only; omega) (by simp; omega)
          simp only [List.length_replicate] at hfree
          rw [show (L0 : Int) - (L0 - l) = l by omega] at hfree
          have hV0 := chunkOf_pos (b2i b) i
          generalize (b2i b)[(i % k).toNat]'(by rw [HLL.out]; omega) = v at *
          generalize chunkOf (b2i b) i = V at *
          have HF := Lib.hid hfree
          have HV := Lib.hid hV
          clear hfree hV
          go_upto_region 17 with (fail)
          simp only [imax_fold, imin_fold]
          have hW : imin l (imax 1 v) = imin l V := by rw [HV.out]; unfold imin imax; omega
          rw [hW]
          clear hW
          have hW1 : 1 ≤ imin l V ∧ imin l V ≤ l := by unfold imin; omega
          generalize imin l V = W at *
          obtain ⟨hW1, hW2⟩ := hW1
          go_wp2_with fail
          refine (srcRead' _ p f1 _ 10000 HOK.out HS.out (by decide)).mono ?_
          rintro e w4 ⟨⟨a4, c4, rfl, hown4⟩, hs4, hk4⟩
          have hok4 := RSrc.ok_read HOK.out 10000
          obtain ⟨e1, e2, e3⟩ := HF.out
          rw [e1]
          rw [e3] at hs4 hok4
          generalize hrd : (RSrc.read ⟨List.replicate L0 0, b2i b, -1, L0 - l, i⟩ 10000).2.1 = bs at *
          clear hrd hown4
          generalize bs.length = m at *
          have e2' : (m : Int) = W := e2
          have HS4 := Lib.hid hs4
          have HOK4 := Lib.hid hok4
          have HK4 := Lib.hid hk4
          clear hs4 hok4 hk4 e1 e2 e3
          subst e2'
          go_wp2_with fail
          refine (srcReadsIs _ p f1 _ (i + 1) HS4.out rfl).mono ?_
          rintro e w5 ⟨rfl, rfl⟩
          go_wp2_with fail
          go_roundw
          case rel =>
            have h0 : (L0 : Int) - (l - m) = L0 - l + m := by omega
            have h1 := (HKQ.out.trans' HK4.out (U := []) (by simp) (fun x hx hl => by simp at hx; omega))
            refine ⟨l - m, i + 1, by go_num, by go_num, by omega, by omega, ?_, ?_, own_keep HR.out HK4.out (by intro g hg; simp [Value.ownBlock] at hg; subst hg; simp; omega), h1⟩
            · rw [h0]; exact HOK4.out
            · rw [h0]; exact HS4.out
          case measure => simp [intOf]; omega
        · have hl : l = 0 := by omega
          subst hl
          have hend : ∀ ρ : RSrc, ρ.Ok → ρ.fail = -1 → ρ.off = ρ.b.length → ρ.read 1 = (4, [], ρ) := by
            intro ρ h1 h2 h3
            unfold RSrc.read
            rw [if_neg (by omega), if_neg (by omega), if_pos (by omega)]
          have hrd := hend _ HOK.out rfl (by simp)
          go_wp2_with fail
          refine (srcRead' _ p f1 _ 1 HOK.out HS.out (by decide)).mono ?_
          rintro e w4 ⟨⟨a4, c4, rfl, hown4⟩, hs4, hk4⟩
          rw [hrd]
          have HK4 := Lib.hid hk4
          clear hs4 hown4 hk4 hrd hend
          go_wp2_with fail
          refine (srcAlive _).mono ?_
          rintro e w9 ⟨rfl, hc9⟩
          go_wp2_with fail
          go_ret
          exact ⟨rfl, (HKQ.out.trans' HK4.out (U := []) (by simp) (fun x hx hl => by simp at hx; omega)).trans hc9⟩
end Go.Proofs.Ytljlcigbehgohaa
