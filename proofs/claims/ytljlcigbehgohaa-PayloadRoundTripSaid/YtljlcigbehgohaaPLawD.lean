/- paxtarlaw11.PayloadRoundTrip. -/
import Derived.Test.YtljlcigbehgohaaPLawC
namespace Go.Pax
open Go.RowKit
theorem payRd_cut {X : List UInt8} {c : List Int} (hok : RSrc.Ok ⟨X, c, -1, 0, 0⟩) {L : Nat} (h0 : 1 ≤ L) (hL : L ≤ 1099511627776) (h : X.length < 512 * blocksOf L) :
    ∃ e ρ', payRd 0 ⟨X, c, -1, 0, 0⟩ L = (([], (X.length : Int), 5), e, ρ') := by
  unfold payRd
  rw [if_neg (by omega), if_neg (by omega), if_neg (by omega)]
  obtain ⟨_, _, _, h4⟩ := rdLoop_free (b := X) (blocksOf L) [] ⟨X, c, -1, 0, 0⟩ hok rfl rfl
  rcases h4 with ⟨k1, _⟩ | ⟨k1, k2, k3, k4⟩
  · simp only at k1; omega
  · generalize rdLoop (blocksOf L) [] ⟨X, c, -1, 0, 0⟩ = R at *
    obtain ⟨c, x, e, ρ⟩ := R
    simp only at k2 k3
    subst k2
    exact ⟨e, ρ, by rw [payEnd_err _ _ (by decide), k3]⟩
theorem payRd_bad {b : List UInt8} {c : List Int} {i : Nat} (hok : RSrc.Ok ⟨(padded b).set i 1, c, -1, 0, 0⟩) (hi : b.length ≤ i) (hi2 : i < (padded b).length) (hx : b.length ≤ 1099511627776) :
    ∃ ρ', payRd 0 ⟨(padded b).set i 1, c, -1, 0, 0⟩ b.length = (([], (i : Int), 10), 0, ρ') := by
  obtain ⟨l1, l2⟩ := padded_len b
  have hl : 0 < b.length := by
    rcases Nat.eq_zero_or_pos b.length with h | h
    · rw [l2, h] at hi2; simp [padN] at hi2
    · exact h
  obtain ⟨g1, g2, g3, g4⟩ := rdLoop_free (b := (padded b).set i 1) (blocksOf b.length) [] ⟨(padded b).set i 1, c, -1, 0, 0⟩ hok rfl rfl
  unfold payRd
  rw [if_neg (by omega), if_neg (by omega), if_neg (by omega)]
  have hsl : ((padded b).set i 1).length = (padded b).length := List.length_set
  rcases g4 with ⟨k1, k2, k3, k4, k5⟩ | ⟨k1, _⟩
  · generalize rdLoop (blocksOf b.length) [] ⟨(padded b).set i 1, c, -1, 0, 0⟩ = R at *
    obtain ⟨c1, acc, e, ρ'⟩ := R
    simp only [List.nil_append] at g1 g2 g3 k2 k3 k4 k5
    have hacc : acc = (padded b).set i 1 := by rw [k3]; simp only [Int.toNat_zero, List.drop_zero]; exact List.take_of_length_le (by omega)
    subst k2
    refine ⟨ρ', ?_⟩
    have hix : idxNZ (((padded b).set i 1).drop b.length) = ((i - b.length : Nat) : Int) := by
      refine idxNZ_at (by rw [List.length_drop, hsl]; omega) (fun j hj => ?_) ?_
      · rw [List.getElem_drop, List.getElem_set, if_neg (by omega)]
        unfold padded
        rw [List.getElem_append_right (by omega)]
        simp
      · rw [List.getElem_drop, List.getElem_set, if_pos (by omega)]
        decide
    rw [payEnd_ok]
    unfold padOut
    rw [hacc, Int.toNat_natCast, hix, if_neg (by omega)]
    congr 2
    congr 1
    simp only
    omega
  · simp only at k1; omega
theorem own_set {w : World} {base g n cap : Nat} {e : TypeId} {xs : List Value} (h : w.ownsRow base e 1 (.slice (some ⟨g, 0, none⟩) n cap) n xs) (j : Nat) (v : Value) :
    (w.setCell ⟨g, j, none⟩ v).ownsRow base e 1 (.slice (some ⟨g, 0, none⟩) n cap) n (xs.set j v) := by
  refine ⟨by rw [List.length_set]; exact h.1, ?_⟩
  rcases h.2 with ⟨h', _⟩ | ⟨g', cap', cur, h', hb, hg, h1, h2, h3, h4⟩
  · simp at h'
  · have h'' := h'
    simp only [Value.slice.injEq, Option.some.injEq, Addr.mk.injEq, and_true, true_and] at h''
    obtain ⟨rfl, rfl⟩ := h''
    refine .inr ⟨_, _, _, h', hb, heap_set hg j v rfl, h1, h2, by simpa using h3, ?_⟩
    rw [← h4, Array.toList_setIfInBounds, List.take_set]
theorem own_pos {w : World} {base n cap : Nat} {e : TypeId} {ao : Option Addr} {xs : List Value} (h : w.ownsRow base e 1 (.slice ao n cap) n xs) (hn : 0 < n) : ∃ g, ao = some ⟨g, 0, none⟩ ∧ base ≤ g ∧ n ≤ cap ∧ g < w.heap.size := by
  rcases h.2 with ⟨h', h0⟩ | ⟨g', cap', cur, h', hb, hg, h1, h2, h3, h4⟩
  · omega
  · simp only [Value.slice.injEq] at h'
    obtain ⟨rfl, _, rfl⟩ := h'
    exact ⟨g', rfl, hb, h1, lt_of_block hg⟩
end Go.Pax
namespace Go.Proofs.Ytljlcigbehgohaa
open Go.RowKit Go.Pax

theorem payWriteN (w : World) (B r p : Nat) (fp own fa : List Nat) (err : Int) (σ : Snk) (x : List UInt8) (L : Nat) (bo : Option Addr) (bc : Nat) (hL : x.length = L) {R : Int × Snk} (hR : payW err σ x = R) (h : WrtAt B w r p fp own err σ) (hok : σ.Ok) (hx : Rd w fa bo (bv x)) (hxc : L ≤ bc)
    (hfa : ∀ k ∈ fa, k ≠ r ∧ k ≠ p ∧ k ∉ own ∧ k < w.heap.size) (hb : σ.b.length + L + 512 ≤ 140737488355328) :
    Calls Try.prog 58 #[.pointer (some ⟨r, 0, none⟩), .slice bo L bc] w fun e w' => e = .returned (.int .i64 R.1) ∧ WrtTo B w w' r p fp own R.1 R.2 := by
  subst hL hR
  exact payWrite w B r p fp own fa err σ x bo bc h hok hx hxc hfa hb
theorem sinkBytesN (w : World) (B p N : Nat) (fp own : List Nat) (σ : Snk) (hN : σ.b.length = N) (h : SnkAt B w p fp own σ) (hb : N ≤ 140737488355328) :
    Calls Try.prog 32 #[.pointer (some ⟨p, 0, none⟩)] w fun e w' => Cloned e w w' 5 N (bv σ.b) := by
  subst hN
  exact sinkBytes w B p fp own σ h hb

set_option maxRecDepth 100000 in
set_option maxHeartbeats 16000000 in
theorem payRound (w : World) (bo co : Option Addr) (bc cc : Nat) (b : List UInt8) (c : List Int) (fail : Int) (A : Nat) (fp : List Nat) (hA : A ≤ 65535)
    (hb : b.length ≤ 140737488355328) (hbc : b.length ≤ bc) (hcl : c.length * 8 ≤ 140737488355328)
    (h1 : Rd w fp bo (bv b)) (h2 : Rd w fp co (iv c)) :
    Calls Try.prog 21 #[.slice bo b.length bc, .agg #[.slice co c.length cc, .int .i64 fail], .int .u16 A] w fun e w' => e = .returned (.bool true) ∧ Chg [] w w' := by
  have H2 := Lib.hid h2
  obtain ⟨f4, hr4, hb4⟩ := h1.tight
  have H1 := Lib.hid hr4
  have HB4 := Lib.hid hb4
  clear h1 h2 hr4 hb4
  by_cases g2 : 3000 < b.length
  · go_enter Try.func21, Try.ntmps21
    go_wp2_with (go_at_call 41; refine (payAlive _).mono ?_; rintro e w9 ⟨rfl, hc9⟩)
    go_ret
    exact ⟨rfl, ((Chg.refl _ _).alloc _).trans hc9⟩
  by_cases g3 : 300 < c.length
  · go_enter Try.func21, Try.ntmps21
    go_wp2_with (go_at_call 41; refine (payAlive _).mono ?_; rintro e w9 ⟨rfl, hc9⟩)
    go_ret
    exact ⟨rfl, ((Chg.refl _ _).alloc _).trans hc9⟩
  have hokS : Snk.Ok ⟨[], c, -1, 0⟩ := Snk.ok_new (by omega) (by decide)
  obtain ⟨p1, p2, p3, p4⟩ := payW_free hokS (show (-1 : Int) < 0 by decide) b
  obtain ⟨l1, l2⟩ := padded_len b
  have hpl := padN_lt b.length
  replace p2 : (payW 0 ⟨[], c, -1, 0⟩ b).2.b = padded b := by rw [p2]; simp [padded]
  have hbq : (if (b.length : Int) ≤ 0 then 0 else ((b.length : Int) - 1) / 512 + 1) = (blocksOf b.length : Nat) := by unfold blocksOf; split <;> omega
  obtain ⟨R, hR⟩ : ∃ R, payW 0 ⟨[], c, -1, 0⟩ b = R := ⟨_, rfl⟩
  obtain ⟨c1, σ⟩ := R
  rw [hR] at p1 p2 p3 p4
  simp only at p1 p2 p3 p4
  subst p1
  have hrd1 : ∀ c, RSrc.Ok ⟨padded b, c, -1, 0, 0⟩ → ∃ ρ', payRd 0 ⟨padded b, c, -1, 0, 0⟩ b.length = ((b, ((padded b).length : Int), 0), 0, ρ') := fun c hok => by
    obtain ⟨ρ', g1, _⟩ := payRd_at (pre := []) (x := b) (post := []) hok rfl (by simp) rfl (by omega)
    exact ⟨ρ', by rw [g1]; simp⟩
  have hrd2 : ∀ c i, RSrc.Ok ⟨(padded b).set i 1, c, -1, 0, 0⟩ → b.length ≤ i → i < (padded b).length → ∃ ρ', payRd 0 ⟨(padded b).set i 1, c, -1, 0, 0⟩ b.length = (([], (i : Int), 10), 0, ρ') := fun c i h h2 h3 => payRd_bad h h2 h3 (by omega)
  have hrd3 : ∀ X c, RSrc.Ok ⟨X, c, -1, 0, 0⟩ → 1 ≤ b.length → X.length < (padded b).length → ∃ e ρ', payRd 0 ⟨X, c, -1, 0, 0⟩ b.length = (([], (X.length : Int), 5), e, ρ') := fun X c h h0 h3 => payRd_cut h h0 (by omega) (by omega)
  have hz : b.length = 0 → (padded b).length = 0 := fun h => by rw [l1, h]; rfl
  have hsl : σ.b.length = (padded b).length := by rw [p2]
  generalize blocksOf b.length = Q at *
  generalize hN : (padded b).length = N at *
  generalize hL : b.length = L at *
  generalize hM : c.length = M at *
  have hNQ : (512 : Int) * (Q : Int) = N := by omega
  have hLN : L ≤ N := by omega
  have hN3 : N ≤ 4000 := by omega
  have HL := Lib.hid hL
  have HM := Lib.hid hM
  have HN := Lib.hid hN
  have HR := Lib.hid hR
  have HP2 := Lib.hid p2
  have HSL := Lib.hid hsl
  have HRD1 := Lib.hid hrd1
  have HRD2 := Lib.hid hrd2
  have HRD3 := Lib.hid hrd3
  have HZ := Lib.hid hz
  have HBQ := Lib.hid hbq
  have HOKS := Lib.hid hokS
  clear hL hM hN hR p2 p3 p4 hsl hrd1 hrd2 hrd3 hz hbq hokS l1 l2 hpl
  go_enter Try.func21, Try.ntmps21
  go_upto_region 4 with (fail)
  have hW : Chg [] w ((w.alloc (.cells #[.slice co M cc, .int .i64 fail] 25)).alloc (.cells #[.slice co M cc, .int .i64 (-1)] 25)) := ((Chg.refl _ _).alloc _).alloc _
  have e0 : ((w.alloc (.cells #[.slice co M cc, .int .i64 fail] 25)).alloc (.cells #[.slice co M cc, .int .i64 (-1)] 25)).heap[w.heap.size + 1]? = some (.cells #[.slice co M cc, .int .i64 (-1)] 25 (0, 0)) := heap_new_at (by simp)
  have d1 : ((w.alloc (.cells #[.slice co M cc, .int .i64 fail] 25)).alloc (.cells #[.slice co M cc, .int .i64 (-1)] 25)).cell? ⟨w.heap.size + 1, 0, none⟩ = some (.slice co M cc) := cell_heap e0 0 rfl
  have d2 : ((w.alloc (.cells #[.slice co M cc, .int .i64 fail] 25)).alloc (.cells #[.slice co M cc, .int .i64 (-1)] 25)).cell? ⟨w.heap.size + 1, 1, none⟩ = some (.int .i64 (-1)) := cell_heap e0 1 rfl
  have hwl : w.heap.size + 1 < ((w.alloc (.cells #[.slice co M cc, .int .i64 fail] 25)).alloc (.cells #[.slice co M cc, .int .i64 (-1)] 25)).heap.size := by simp
  clear e0
  generalize (w.alloc (.cells #[.slice co M cc, .int .i64 fail] 25)).alloc (.cells #[.slice co M cc, .int .i64 (-1)] 25) = W at *
  have HW := Lib.hid hW
  have HWL := Lib.hid hwl
  have HD := Lib.hid (And.intro d1 d2)
  clear hW hwl
  go_upto_region 5 with (go_at_call 36; refine (sinkNew _ w.heap.size co M cc c (-1) fp HM.out hcl HW.out.size (H2.out.chg HW.out (by simp))).mono ?_; rintro e w6 ⟨q, f3, rfl, s6, k6, b6, bf6⟩; have HS6 := Lib.hid s6; have HK6 := Lib.hid k6; have HBF6 := Lib.hid bf6; have HB6 := Lib.hid b6; clear s6 k6 bf6 b6)
  go_upto_region 7 with (first
    | (go_at_call 47; refine (newWriter _ w.heap.size q f3 [] _ HS6.out rfl).mono ?_; rintro e w7 ⟨r3, rfl, h7, k7, hr7⟩; have HW7 := Lib.hid h7; have HK7 := Lib.hid k7; have HR7 := Lib.hid hr7; clear h7 k7 hr7)
    | (go_at_call 58; refine (payWriteN _ w.heap.size r3 q f3 [] f4 0 ⟨[], c, -1, 0⟩ b L bo bc HL.out HR.out HW7.out HOKS.out (H1.out.chg (HW.out.trans (HK6.out.trans HK7.out)) (by simp)) hbc (fun y hy => by
        have h1 := (HB4.out y hy).2
        have h2 := HW.out.size
        have h3 := HB6.out
        have h4 := HR7.out
        have h5 := HK6.out.size
        have h6 := HK7.out.size
        exact ⟨by omega, by omega, by simp, by omega⟩) (by simp only [List.length_nil]; omega)).mono ?_; rintro e w8 ⟨rfl, hto⟩; have HTO := Lib.hid hto; clear hto))
  obtain ⟨o, ⟨hw8, _⟩, hk8⟩ := HTO.out
  have hkw8 : Chg [] W w8 := (HK6.out.trans HK7.out).nil_of hk8 (Nat.le_refl _) (by have := HB6.out; have := HR7.out; have := HK6.out.size; simp; omega)
  have HW8 := Lib.hid hw8
  have HK8 := Lib.hid hkw8
  clear hw8 hk8 hkw8 d1 d2
  go_upto_region 8 with (go_at_call 32; refine (sinkBytesN _ w.heap.size q N f3 o σ HSL.out HW8.out.s (by omega)).mono ?_; rintro e w10 ⟨a10, c10, rfl, hown10, hgr10⟩; have HK10 := Lib.hid (Chg.of_grown (S := []) hgr10 (by simp)); have HO10 := Lib.hid hown10; clear hown10 hgr10)
  have hk10 : Chg [] W w10 := HK8.out.trans HK10.out
  have ho10 := HO10.out
  rw [HP2.out] at ho10
  obtain ⟨hr10, hrb10, hc10⟩ := own_rd2 ho10
  have hok1 : RSrc.Ok ⟨padded b, c, -1, 0, 0⟩ := RSrc.ok_new (by rw [HN.out]; omega) (by rw [HM.out]; omega) (by decide)
  obtain ⟨ρ1, hρ1⟩ := HRD1.out c hok1
  have hs8 : W.heap.size ≤ w8.heap.size := HK8.out.size
  have HKW10 := Lib.hid hk10
  have HOW := Lib.hid ho10
  have HR10 := Lib.hid hr10
  have HRB10 := Lib.hid hrb10
  have HOK1 := Lib.hid hok1
  have HRHO := Lib.hid hρ1
  have HS8 := Lib.hid hs8
  have e1 := hk10.cell HD.out.1 (by simp)
  have e2 := hk10.cell HD.out.2 (by simp)
  clear hk10 ho10 hr10 hrb10 hok1 hρ1 hs8
  go_upto_region 9 with (first
    | (go_at_call 24; refine (srcNewN _ a10 co N c10 M cc (padded b) c (-1) _ HN.out HM.out (by omega) hcl (HR10.out.mono (fun k hk => List.mem_append_left _ hk)) ((H2.out.chg (HW.out.trans HKW10.out) (by simp)).mono (fun k hk => List.mem_append_right _ hk))).mono ?_; rintro e w11 ⟨p, f1, rfl, s11, k11, b11, bf11⟩; have HS11 := Lib.hid s11; have HK11 := Lib.hid k11; have HB11 := Lib.hid b11; have HBF11 := Lib.hid bf11; clear s11 k11 b11 bf11)
    | (go_at_call 43; refine (newReader _ p f1 ⟨padded b, c, -1, 0, 0⟩ HS11.out rfl (fun hm => by have := (HBF11.out _ hm).2; omega)).mono ?_; rintro e w12 ⟨r, rfl, s12, k12, hr12⟩; have HS12 := Lib.hid s12; have HK12 := Lib.hid k12; have HR12 := Lib.hid hr12; clear s12 k12 hr12)
    | (go_at_call 55; refine (payRead _ r p f1 0 _ L HS12.out HOK1.out (by obtain ⟨_, _, _, _, _, _, _, h, _⟩ := HS11.out; exact h)).mono ?_; rintro e w13 ⟨⟨a13, c13, fq13, h13, hr13, hb13⟩, s13, k13⟩; rw [HRHO.out] at h13 hr13; dsimp only at h13 hr13; rw [HL.out] at h13; subst h13; have HK13 := Lib.hid k13; have HR13 := Lib.hid hr13; clear hr13 hb13 s13 k13))
  have hk13 : Chg [] w10 w13 := (HK11.out.trans HK12.out).nil_of HK13.out (Nat.le_refl _) (by have := HB11.out; have := HR12.out; have := HK11.out.size; simp; omega)
  have v1 : (convert 22 9 (.slice a13 L c13)).run Try.prog w13 = .ok (.string (sb b)) w13 := Try.conv w13 _ a13 L c13 b HL.out HR13.out
  have v2 : (convert 22 9 (.slice bo L bc)).run Try.prog w13 = .ok (.string (sb b)) w13 := Try.conv w13 _ bo L bc b HL.out (H1.out.chg (HW.out.trans (HKW10.out.trans hk13)) (by simp))
  have HK1013 := Lib.hid hk13
  clear hk13 e1 e2
  go_upto_region 11 with (go_at_call 40; refine (payBlocks _ L (by omega)).mono ?_; rintro e w14 ⟨rfl, hww⟩; obtain rfl := hww.symm; rw [HBQ.out])
  clear v1 v2
  by_cases hN0 : N = 0
  · subst hN0
    go_wp2_with (go_at_call 41; refine (payAlive _).mono ?_; rintro e w9 ⟨rfl, hc9⟩; have HC9 := Lib.hid hc9; clear hc9)
    go_ret
    exact ⟨rfl, (HW.out.trans (HKW10.out.trans HK1013.out)).trans HC9.out⟩
  have hL1 : 1 ≤ L := by rcases Nat.eq_zero_or_pos L with h | h; exact absurd (HZ.out h) hN0; exact h
  obtain ⟨g, rfl, hg1, hg2, hg3⟩ := own_pos HOW.out (by omega)
  obtain ⟨D, hD⟩ : ∃ D : Nat, (N : Int) - L = D := ⟨N - L, by omega⟩
  have HG := Lib.hid (And.intro hg1 hg3)
  clear hg1 hg3
  go_upto_if 96 with (fail)
  go_cut [13] (fun t wx => t = .int .i64 D ∧ ∃ B2 : List UInt8, B2.length = N ∧ wx.ownsRow w8.heap.size 5 1 (.slice (some ⟨g, 0, none⟩) N c10) N (bv B2) ∧ Chg [] W wx)
  case first =>
    by_cases hD0 : 0 < D
    · obtain ⟨R1, hR1, hR1D⟩ : ∃ R1 : Nat, Int.tmod (A : Int) (D : Int) = R1 ∧ R1 < D := ⟨A % D, by rw [Int.tmod_eq_emod_of_nonneg (by omega)]; rfl, Nat.mod_lt _ hD0⟩
      obtain ⟨I, hI⟩ : ∃ I : Nat, (L : Int) + R1 = I := ⟨L + R1, by omega⟩
      have hIN : I < N := by omega
      have hLI : L ≤ I := by omega
      go_upto_region 16 with (fail)
      have how := own_chg HOW.out HK1013.out (by simp)
      have hscr := Scr.of_own how (bv_int _)
      obtain ⟨z, hcz⟩ := hscr.cell hIN
      have hfz := hscr.free I
      have how2 := own_set how I (.int .u8 1)
      have hbv : (bv (padded b)).set I (.int .u8 1) = bv ((padded b).set I 1) := by unfold bv; rw [List.map_set]; rfl
      rw [hbv] at how2
      have hk2 : Chg [] W (w13.setCell ⟨g, I, none⟩ (.int .u8 1)) := (HKW10.out.trans HK1013.out).setCell (fun h => by have := HG.out.1; have := HS8.out; simp at h; omega) _
      have HOW2 := Lib.hid how2
      have HKK2 := Lib.hid hk2
      clear how hscr how2 hbv hk2
      go_upto_region 17 with (fail)
      clear hcz hfz
      generalize w13.setCell ⟨g, I, none⟩ (.int .u8 1) = W2 at *
      have e1 := HKK2.out.cell HD.out.1 (by simp)
      have e2 := HKK2.out.cell HD.out.2 (by simp)
      obtain ⟨hr2, hrb2, _⟩ := own_rd2 HOW2.out
      have hsl2 : ((padded b).set I 1).length = N := by rw [List.length_set, HN.out]
      have hok2 : RSrc.Ok ⟨(padded b).set I 1, c, -1, 0, 0⟩ := RSrc.ok_new (by rw [hsl2]; omega) (by rw [HM.out]; omega) (by decide)
      obtain ⟨ρ2, hρ2⟩ := HRD2.out c I hok2 hLI hIN
      generalize (padded b).set I 1 = B2 at *
      have HSL2 := Lib.hid hsl2
      have HOK2 := Lib.hid hok2
      have HRHO2 := Lib.hid hρ2
      have HR2 := Lib.hid hr2
      clear hsl2 hok2 hρ2 hr2 hrb2
      go_upto_region 18 with (first
        | (go_at_call 24; refine (srcNewN _ _ co N c10 M cc B2 c (-1) _ HSL2.out HM.out (by omega) hcl (HR2.out.mono (fun k hk => List.mem_append_left _ hk)) ((H2.out.chg (HW.out.trans HKK2.out) (by simp)).mono (fun k hk => List.mem_append_right _ hk))).mono ?_; rintro e w21 ⟨p2, f2, rfl, s21, k21, b21, bf21⟩; have HS21 := Lib.hid s21; have HK21 := Lib.hid k21; have HB21 := Lib.hid b21; have HBF21 := Lib.hid bf21; clear s21 k21 b21 bf21)
        | (go_at_call 43; refine (newReader _ p2 f2 ⟨B2, c, -1, 0, 0⟩ HS21.out rfl (fun hm => by have := (HBF21.out _ hm).2; omega)).mono ?_; rintro e w22 ⟨r2, rfl, s22, k22, hr22⟩; have HS22 := Lib.hid s22; have HK22 := Lib.hid k22; have HR22 := Lib.hid hr22; clear s22 k22 hr22)
        | (go_at_call 55; refine (payRead _ r2 p2 f2 0 _ L HS22.out HOK2.out (by obtain ⟨_, _, _, _, _, _, _, h, _⟩ := HS21.out; exact h)).mono ?_; rintro e w23 ⟨⟨a23, c23, fq23, h23, _, _⟩, s23, k23⟩; rw [HRHO2.out] at h23; dsimp only at h23; subst h23; have HK23 := Lib.hid k23; clear s23 k23))
      go_wp2_with fail
      go_meet
      have hk23 : Chg [] W2 w23 := (HK21.out.trans HK22.out).nil_of HK23.out (Nat.le_refl _) (by have := HB21.out; have := HR22.out; have := HK21.out.size; simp; omega)
      exact ⟨rfl, B2, HSL2.out, own_chg HOW2.out hk23 (by simp), HKK2.out.trans hk23⟩
    · go_wp2_with fail
      go_meet
      exact ⟨rfl, padded b, HN.out, own_chg HOW.out HK1013.out (by simp), HKW10.out.trans HK1013.out⟩
  case rest =>
  obtain ⟨rfl, B2, hB2, hown2, hkx⟩ := hcut
  have hwc : w.heap.size + 1 < wc.heap.size := by have := HWL.out; have := hkx.size; omega
  obtain ⟨C, hC, hCN⟩ : ∃ C : Nat, Int.tmod (A : Int) (N : Int) = C ∧ C < N := ⟨A % N, by rw [Int.tmod_eq_emod_of_nonneg (by omega)]; rfl, Nat.mod_lt _ (by omega)⟩
  have e1 := hkx.cell HD.out.1 (by simp)
  have e2 := hkx.cell HD.out.2 (by simp)
  have hrx := (own_rd2 hown2).1.take C
  rw [bv_take] at hrx
  have hxl : (B2.take C).length = C := by rw [List.length_take, hB2]; omega
  generalize B2.take C = X at *
  have hok3 : RSrc.Ok ⟨X, c, -1, 0, 0⟩ := RSrc.ok_new (by rw [hxl]; omega) (by rw [HM.out]; omega) (by decide)
  obtain ⟨e3, ρ3, hρ3⟩ := HRD3.out X c hok3 hL1 (by omega)
  rw [hxl] at hρ3
  have hkwc : Chg [] w wc := HW.out.trans hkx
  have hcc : C ≤ c10 := by have := HG.out; omega
  have hcci : (C : Int) ≤ c10 := by omega
  have HXL := Lib.hid hxl
  have HRX := Lib.hid hrx
  have HOK3 := Lib.hid hok3
  have HRHO3 := Lib.hid hρ3
  have HWC := Lib.hid hkwc
  have HWCL := Lib.hid hwc
  clear hxl hrx hok3 hρ3 hkwc hwc hown2 hkx hB2
  go_upto_region 21 with (fail)
  refine wp_region_held_drew (S := fun w' => w'.cell? ⟨w.heap.size + 1, 0, none⟩ = some (.slice co M cc) ∧ w'.cell? ⟨w.heap.size + 1, 1, none⟩ = some (.int .i64 (-1)) ∧ Chg [] wc w') (by kernel_rfl) ?_ (fun hHeld => ?_)
  · exact ⟨by simp [*], by simp [*], (Chg.refl _ _).drew⟩
  refine wpAnyH_take (i := 0) (oi := ?oi1) (v := ?v1) ?hi1 (by kernel_rfl) (by kernel_rfl) (by kernel_rfl) ?hQ1 (Or.inl ⟨?hw1, ?hy1⟩) (by assumption) ?hr1
  case hi1 => simp only [List.getElem?_toArray, List.getElem?_cons_zero]; rfl
  case hQ1 => exact fun _ _ _ h => h
  case hw1 => rfl
  case hy1 => intro w hSw; (try dsimp only at hSw); go_simp; (try with_reducible rfl)
  case hr1 =>
  simp only [Act.put, List.setIfInBounds_toArray, List.set_cons_zero, List.set_cons_succ]
  refine wpAnyH_take (i := 1) (oi := ?oi2) (v := ?v2) ?hi2 (by kernel_rfl) (by kernel_rfl) (by kernel_rfl) ?hQ2 (Or.inl ⟨?hw2, ?hy2⟩) (by assumption) ?hr2
  case hi2 => simp only [List.getElem?_toArray, List.getElem?_cons_succ, List.getElem?_cons_zero]; rfl
  case hQ2 => exact fun _ _ _ h => h
  case hw2 => rfl
  case hy2 => intro w hSw; (try dsimp only at hSw); go_simp; (try with_reducible rfl)
  case hr2 =>
  simp only [Act.put, List.setIfInBounds_toArray, List.set_cons_zero, List.set_cons_succ]
  refine wpAnyH_take (i := 2) (oi := ?oi3) (v := ?v3) ?hi3 (by kernel_rfl) (by kernel_rfl) (by kernel_rfl) ?hQ3 (Or.inl ⟨?hw3, ?hy3⟩) (by assumption) ?hr3
  case hi3 => simp only [List.getElem?_toArray, List.getElem?_cons_succ, List.getElem?_cons_zero]; rfl
  case hQ3 => exact fun _ _ _ h => h
  case hw3 => rfl
  case hy3 => intro w hSw; (try dsimp only at hSw); go_simp; (try with_reducible rfl)
  case hr3 =>
  simp only [Act.put, List.setIfInBounds_toArray, List.set_cons_zero, List.set_cons_succ]
  refine wpAnyH_take (i := 3) (oi := ?oi4) (v := ?v4) ?hi4 (by kernel_rfl) (by kernel_rfl) (by kernel_rfl) ?hQ4 (Or.inl ⟨?hw4, ?hy4⟩) (by assumption) ?hr4
  case hi4 => simp only [List.getElem?_toArray, List.getElem?_cons_succ, List.getElem?_cons_zero]; rfl
  case hQ4 => exact fun _ _ _ h => h
  case hw4 => rfl
  case hy4 => intro w hSw; (try dsimp only at hSw); go_simp; (try with_reducible rfl)
  case hr4 =>
  simp only [Act.put, List.setIfInBounds_toArray, List.set_cons_zero, List.set_cons_succ]
  refine wpAnyH_take (i := 6) (oi := ?oi5) (v := ?v5) ?hi5 (by kernel_rfl) (by kernel_rfl) (by kernel_rfl) ?hQ5 (Or.inl ⟨?hw5, ?hy5⟩) (by assumption) ?hr5
  case hi5 => simp only [List.getElem?_toArray, List.getElem?_cons_succ, List.getElem?_cons_zero]; rfl
  case hQ5 => exact fun _ _ _ h => h
  case hw5 => rfl
  case hy5 => intro w hSw; (try dsimp only at hSw); go_simp; (try with_reducible rfl)
  case hr5 =>
  simp only [Act.put, List.setIfInBounds_toArray, List.set_cons_zero, List.set_cons_succ]
  refine wpAnyH_take (i := 7) (oi := ?oi6) (v := ?v6) ?hi6 (by kernel_rfl) (by kernel_rfl) (by kernel_rfl) ?hQ6 (Or.inl ⟨?hw6, ?hy6⟩) (by assumption) ?hr6
  case hi6 => simp only [List.getElem?_toArray, List.getElem?_cons_succ, List.getElem?_cons_zero]; rfl
  case hQ6 => exact fun _ _ _ h => h
  case hw6 => rfl
  case hy6 => intro w hSw; (try dsimp only at hSw); go_simp; (try with_reducible rfl)
  case hr6 =>
  simp only [Act.put, List.setIfInBounds_toArray, List.set_cons_zero, List.set_cons_succ]
  refine wpAnyH_ready (rs := [4]) (by kernel_rfl) (by simp) (AllReadyH.cons (o := ?oc7) ?hc7 (fun K hK => ?hs7) AllReadyH.nil)
  case hc7 => simp only [List.getElem?_toArray, List.getElem?_cons_succ, List.getElem?_cons_zero]; rfl
  case hs7 =>
  rw [if_pos (by rfl)]
  go_simp
  go_at_call 24; refine (srcNewN _ _ co C c10 M cc X c (-1) _ HXL.out HM.out (by omega) hcl ((HRX.out.chg (S := []) hHeld.2.2 (by simp)).mono (fun k hk => List.mem_append_left _ hk)) (((H2.out.chg HWC.out (by simp)).chg (S := []) hHeld.2.2 (by simp)).mono (fun k hk => List.mem_append_right _ hk))).mono ?_; rintro e w31 ⟨p3, f5, rfl, s31, k31, b31, bf31⟩; have HS31 := Lib.hid s31; have HB31 : Hid (wc.heap.size ≤ p3) := Lib.hid b31; have HBF31 := Lib.hid bf31; have HZ31 : Hid (wc.heap.size ≤ w31.heap.size) := Lib.hid k31.size; clear s31 bf31 b31
  go_wp2_with fail
  refine hK.out _ _ ?_ (fun hHeld => ?_)
  · exact ⟨k31.cell hHeld.1 (by simp), k31.cell hHeld.2.1 (by simp), hHeld.2.2.trans k31⟩
  clear hK K
  try simp only [Act.put, List.setIfInBounds_toArray, List.set_cons_zero, List.set_cons_succ]
  refine wpAnyH_ready (rs := [5]) (by kernel_rfl) (by simp) (AllReadyH.cons (o := ?oc8) ?hc8 (fun K hK => ?hs8) AllReadyH.nil)
  case hc8 => simp only [List.getElem?_toArray, List.getElem?_cons_succ, List.getElem?_cons_zero]; rfl
  case hs8 =>
  rw [if_pos (by rfl)]
  go_simp
  go_at_call 43; refine (newReader _ p3 f5 ⟨X, c, -1, 0, 0⟩ HS31.out rfl (fun hm => by have := (HBF31.out _ hm).2; omega)).mono ?_; rintro e w32 ⟨r4, rfl, s32, k32, hr32⟩; have HS32 := Lib.hid s32; have HR32 := Lib.hid hr32; clear s32 hr32
  go_wp2_with fail
  refine hK.out _ _ ?_ (fun hHeld => ?_)
  · exact ⟨k32.cell hHeld.1 (by simp), k32.cell hHeld.2.1 (by simp), hHeld.2.2.trans k32⟩
  clear hK K
  try simp only [Act.put, List.setIfInBounds_toArray, List.set_cons_zero, List.set_cons_succ]
  refine wpAnyH_ready (rs := [8]) (by kernel_rfl) (by simp) (AllReadyH.cons (o := ?oc9) ?hc9 (fun K hK => ?hs9) AllReadyH.nil)
  case hc9 => simp only [List.getElem?_toArray, List.getElem?_cons_succ, List.getElem?_cons_zero]; rfl
  case hs9 =>
  rw [if_pos (by rfl)]
  go_simp
  go_at_call 55; refine (payRead _ r4 p3 f5 0 _ L HS32.out HOK3.out (by obtain ⟨_, _, _, _, _, _, _, h, _⟩ := HS31.out; exact h)).mono ?_; rintro e w33 ⟨⟨a33, c33, fq33, h33, _, _⟩, s33, k33⟩; rw [HRHO3.out] at h33; dsimp only at h33; subst h33; clear s33; have hrp3 : wc.heap.size ≤ r4 ∧ wc.heap.size ≤ p3 := ⟨by have := HR32.out; have := HZ31.out; omega, HB31.out⟩; have hlt3 := HWCL.out
  go_wp2_with fail
  refine hK.out _ _ ?_ (fun hHeld => ?_)
  · exact ⟨k33.cell hHeld.1 (by simp; omega), k33.cell hHeld.2.1 (by simp; omega), hHeld.2.2.nil_of k33 (Nat.le_refl _) (by simp; omega)⟩
  clear hK K
  try simp only [Act.put, List.setIfInBounds_toArray, List.set_cons_zero, List.set_cons_succ]
  refine wpAnyH_take (i := 9) (oi := ?oi10) (v := ?v10) ?hi10 (by kernel_rfl) (by kernel_rfl) (by kernel_rfl) ?hQ10 (Or.inl ⟨?hw10, ?hy10⟩) (by assumption) ?hr10
  case hi10 => simp only [List.getElem?_toArray, List.getElem?_cons_succ, List.getElem?_cons_zero]; rfl
  case hQ10 => exact fun _ _ _ h => h
  case hw10 => rfl
  case hy10 => intro w hSw; (try dsimp only at hSw); go_simp; (try with_reducible rfl)
  case hr10 =>
  simp only [Act.put, List.setIfInBounds_toArray, List.set_cons_zero, List.set_cons_succ]
  refine wpAnyH_take (i := 10) (oi := ?oi11) (v := ?v11) ?hi11 (by kernel_rfl) (by kernel_rfl) (by kernel_rfl) ?hQ11 (Or.inl ⟨?hw11, ?hy11⟩) (by assumption) ?hr11
  case hi11 => simp only [List.getElem?_toArray, List.getElem?_cons_succ, List.getElem?_cons_zero]; rfl
  case hQ11 => exact fun _ _ _ h => h
  case hw11 => rfl
  case hy11 => intro w hSw; (try dsimp only at hSw); go_simp; (try with_reducible rfl)
  case hr11 =>
  simp only [Act.put, List.setIfInBounds_toArray, List.set_cons_zero, List.set_cons_succ]
  refine wpAnyH_take (i := 11) (oi := ?oi12) (v := ?v12) ?hi12 (by kernel_rfl) (by kernel_rfl) (by kernel_rfl) ?hQ12 (Or.inl ⟨?hw12, ?hy12⟩) (by assumption) ?hr12
  case hi12 => simp only [List.getElem?_toArray, List.getElem?_cons_succ, List.getElem?_cons_zero]; rfl
  case hQ12 => exact fun _ _ _ h => h
  case hw12 => rfl
  case hy12 => intro w hSw; (try dsimp only at hSw); go_simp; (try with_reducible rfl)
  case hr12 =>
  simp only [Act.put, List.setIfInBounds_toArray, List.set_cons_zero, List.set_cons_succ]
  refine wpAnyH_take (i := 12) (oi := ?oi13) (v := ?v13) ?hi13 (by kernel_rfl) (by kernel_rfl) (by kernel_rfl) ?hQ13 (Or.inl ⟨?hw13, ?hy13⟩) (by assumption) ?hr13
  case hi13 => simp only [List.getElem?_toArray, List.getElem?_cons_succ, List.getElem?_cons_zero]; rfl
  case hQ13 => exact fun _ _ _ h => h
  case hw13 => rfl
  case hy13 => intro w hSw; (try dsimp only at hSw); go_simp; (try with_reducible rfl)
  case hr13 =>
  simp only [Act.put, List.setIfInBounds_toArray, List.set_cons_zero, List.set_cons_succ]
  refine wpAnyH_take (i := 13) (oi := ?oi14) (v := ?v14) ?hi14 (by kernel_rfl) (by kernel_rfl) (by kernel_rfl) ?hQ14 (Or.inl ⟨?hw14, ?hy14⟩) (by assumption) ?hr14
  case hi14 => simp only [List.getElem?_toArray, List.getElem?_cons_succ, List.getElem?_cons_zero]; rfl
  case hQ14 => exact fun _ _ _ h => h
  case hw14 => rfl
  case hy14 => intro w hSw; (try dsimp only at hSw); go_simp; (try with_reducible rfl)
  case hr14 =>
  simp only [Act.put, List.setIfInBounds_toArray, List.set_cons_zero, List.set_cons_succ]
  refine wpAnyH_take (i := 14) (oi := ?oi15) (v := ?v15) ?hi15 (by kernel_rfl) (by kernel_rfl) (by kernel_rfl) ?hQ15 (Or.inl ⟨?hw15, ?hy15⟩) (by assumption) ?hr15
  case hi15 => simp only [List.getElem?_toArray, List.getElem?_cons_succ, List.getElem?_cons_zero]; rfl
  case hQ15 => exact fun _ _ _ h => h
  case hw15 => rfl
  case hy15 => intro w hSw; (try dsimp only at hSw); go_simp; (try with_reducible rfl)
  case hr15 =>
  simp only [Act.put, List.setIfInBounds_toArray, List.set_cons_zero, List.set_cons_succ]
  refine wpAnyH_take (i := 15) (oi := ?oi16) (v := ?v16) ?hi16 (by kernel_rfl) (by kernel_rfl) (by kernel_rfl) ?hQ16 (Or.inl ⟨?hw16, ?hy16⟩) (by assumption) ?hr16
  case hi16 => simp only [List.getElem?_toArray, List.getElem?_cons_succ, List.getElem?_cons_zero]; rfl
  case hQ16 => exact fun _ _ _ h => h
  case hw16 => rfl
  case hy16 => intro w hSw; (try dsimp only at hSw); go_simp; (try with_reducible rfl)
  case hr16 =>
  simp only [Act.put, List.setIfInBounds_toArray, List.set_cons_zero, List.set_cons_succ]
  refine wpAnyH_done (by kernel_rfl) ?_ _
  have HK33 := Lib.hid hHeld.2.2
  clear hHeld e1 e2
  go_wp2_with (go_at_call 41; refine (payAlive _).mono ?_; rintro e w9 ⟨rfl, hc9⟩; have HC9 := Lib.hid hc9; clear hc9)
  go_ret
  exact ⟨rfl, (HWC.out.trans HK33.out).trans HC9.out⟩
theorem payRounds (w : World) (bo co : Option Addr) (bc cc : Nat) (b : List UInt8) (c : List Int) (fail n : Int) (fp : List Nat) (hn : 0 ≤ n ∧ n ≤ 65535)
    (hb : b.length ≤ 140737488355328) (hbc : b.length ≤ bc) (hcl : c.length * 8 ≤ 140737488355328)
    (h1 : Rd w fp bo (bv b)) (h2 : Rd w fp co (iv c)) :
    Calls Try.prog 21 #[.slice bo b.length bc, .agg #[.slice co c.length cc, .int .i64 fail], .int .u16 n] w fun e w' => e = .returned (.bool true) ∧ Chg [] w w' := by
  obtain ⟨A, rfl⟩ : ∃ A : Nat, n = A := ⟨n.toNat, by omega⟩
  exact payRound w bo co bc cc b c fail A fp (by omega) hb hbc hcl h1 h2
end Go.Proofs.Ytljlcigbehgohaa
