/- paxtarlaw06.BlockWriterMatchesReference. -/
import Derived.Test.YtljlcigbehgohaaBPair
namespace Go.Proofs.Ytljlcigbehgohaa
open Go.RowKit Go.Pax

set_option maxRecDepth 100000 in
set_option maxHeartbeats 16000000 in
theorem blkWrites (w : World) (co lo : Option Addr) (cc lc : Nat) (c : List Int) (fail : Int) (L : List Acted) (fp : List Nat)
    (hf : -9223372036854775808 ≤ fail ∧ fail ≤ 9223372036854775807) (hcl : c.length * 8 ≤ 140737488355328) (hll : L.length * 40 ≤ 140737488355328) (hwf : ∀ y ∈ L, y.wf)
    (h1 : Rd w fp co (iv c)) (h2 : RdA w fp lo L) :
    Calls Try.prog 16 #[.agg #[.slice co c.length cc, .int .i64 fail], .slice lo L.length lc] w fun e w' => e = .returned (.bool true) ∧ Chg [] w w' := by
  have H1 := Lib.hid h1
  have H2 := Lib.hid h2
  have HWF := Lib.hid hwf
  clear h1 h2 hwf
  by_cases g2 : 50 < L.length
  · go_enter Try.func16, Try.ntmps16
    go_wp2_with (go_at_call 42; refine (blkAlive _).mono ?_; rintro e w9 ⟨rfl, hc9⟩)
    go_ret
    exact ⟨rfl, ((Chg.refl _ _).alloc _).trans hc9⟩
  by_cases g3 : 300 < c.length
  · go_enter Try.func16, Try.ntmps16
    go_wp2_with (go_at_call 42; refine (blkAlive _).mono ?_; rintro e w9 ⟨rfl, hc9⟩)
    go_ret
    exact ⟨rfl, ((Chg.refl _ _).alloc _).trans hc9⟩
  have hok : Snk.Ok ⟨[], c, fail, 0⟩ := Snk.ok_new (by omega) hf
  have HOKS := Lib.hid hok
  clear hok
  generalize hN : L.length = N at *
  generalize hM : c.length = M at *
  have HN := Lib.hid hN
  have HM := Lib.hid hM
  clear hN hM
  go_enter Try.func16, Try.ntmps16
  go_upto_region 3 with (fail)
  have hW : Chg [] w (w.alloc (.cells #[.slice co M cc, .int .i64 fail] 25)) := (Chg.refl _ _).alloc _
  have e0 : (w.alloc (.cells #[.slice co M cc, .int .i64 fail] 25)).heap[w.heap.size]? = some (.cells #[.slice co M cc, .int .i64 fail] 25 (0, 0)) := heap_alloc_new _ _
  have d1 : (w.alloc (.cells #[.slice co M cc, .int .i64 fail] 25)).cell? ⟨w.heap.size, 0, none⟩ = some (.slice co M cc) := cell_heap e0 0 rfl
  have d2 : (w.alloc (.cells #[.slice co M cc, .int .i64 fail] 25)).cell? ⟨w.heap.size, 1, none⟩ = some (.int .i64 fail) := cell_heap e0 1 rfl
  clear e0
  generalize w.alloc (.cells #[.slice co M cc, .int .i64 fail] 25) = W at *
  have HW := Lib.hid hW
  clear hW
  refine wp_region_held_drew (S := fun w' => w'.cell? ⟨w.heap.size, 0, none⟩ = some (.slice co M cc) ∧ w'.cell? ⟨w.heap.size, 1, none⟩ = some (.int .i64 fail) ∧ Chg [] W w') (by kernel_rfl) ?_ (fun hHeld => ?_)
  · exact ⟨by simp [*], by simp [*], (Chg.refl _ _).drew⟩
  refine wpAnyH_take (i := 0) (oi := ?oi1) (v := ?v1) ?hi1 (by kernel_rfl) (by kernel_rfl) (by kernel_rfl) ?hQ1 (Or.inl ⟨?hw1, ?hy1⟩) (by assumption) ?hr1
  case hi1 => simp only [List.getElem?_toArray, List.getElem?_cons_zero]; rfl
  case hQ1 => exact fun _ _ _ h => h
  case hw1 => rfl
  case hy1 => intro w hSw; (try dsimp only at hSw); go_simp; (try with_reducible rfl)
  case hr1 =>
  simp only [Act.put, List.setIfInBounds_toArray, List.set_cons_zero, List.set_cons_succ]
  refine wpAnyH_take (i := 2) (oi := ?oi2) (v := ?v2) ?hi2 (by kernel_rfl) (by kernel_rfl) (by kernel_rfl) ?hQ2 (Or.inl ⟨?hw2, ?hy2⟩) (by assumption) ?hr2
  case hi2 => simp only [List.getElem?_toArray, List.getElem?_cons_succ, List.getElem?_cons_zero]; rfl
  case hQ2 => exact fun _ _ _ h => h
  case hw2 => rfl
  case hy2 => intro w hSw; (try dsimp only at hSw); go_simp; (try with_reducible rfl)
  case hr2 =>
  simp only [Act.put, List.setIfInBounds_toArray, List.set_cons_zero, List.set_cons_succ]
  refine wpAnyH_ready (rs := [1]) (by kernel_rfl) (by simp) (AllReadyH.cons (o := ?oc3) ?hc3 (fun K hK => ?hs3) AllReadyH.nil)
  case hc3 => simp only [List.getElem?_toArray, List.getElem?_cons_succ, List.getElem?_cons_zero]; rfl
  case hs3 =>
  rw [if_pos (by rfl)]
  go_simp
  go_at_call 36; refine (sinkNew _ W.heap.size co M cc c fail fp HM.out hcl hHeld.2.2.size ((H1.out.chg HW.out (by simp)).chg (S := []) hHeld.2.2 (by simp))).mono ?_; rintro e w3 ⟨p, f1, rfl, s3, k3, b3, bf3⟩; have HS3 := Lib.hid s3; have HB3 := Lib.hid b3; have HBF3 := Lib.hid bf3; clear s3 b3 bf3
  go_wp2_with fail
  refine hK.out _ _ ?_ (fun hHeld => ?_)
  · exact ⟨k3.cell hHeld.1 (by simp), k3.cell hHeld.2.1 (by simp), hHeld.2.2.trans k3⟩
  clear hK K
  try simp only [Act.put, List.setIfInBounds_toArray, List.set_cons_zero, List.set_cons_succ]
  refine wpAnyH_ready (rs := [3]) (by kernel_rfl) (by simp) (AllReadyH.cons (o := ?oc4) ?hc4 (fun K hK => ?hs4) AllReadyH.nil)
  case hc4 => simp only [List.getElem?_toArray, List.getElem?_cons_succ, List.getElem?_cons_zero]; rfl
  case hs4 =>
  rw [if_pos (by rfl)]
  go_simp
  go_at_call 37; refine (rsinkNew _ co M cc c fail fp HM.out hcl ((H1.out.chg HW.out (by simp)).chg (S := []) hHeld.2.2 (by simp))).mono ?_; rintro e w4 ⟨p2, f2, rfl, s4, k4, b4, bf4⟩; have HS4 := Lib.hid s4; have HB4 := Lib.hid b4; have HBF4 := Lib.hid bf4; clear s4 b4 bf4
  go_wp2_with fail
  refine hK.out _ _ ?_ (fun hHeld => ?_)
  · exact ⟨k4.cell hHeld.1 (by simp), k4.cell hHeld.2.1 (by simp), hHeld.2.2.trans k4⟩
  clear hK K
  try simp only [Act.put, List.setIfInBounds_toArray, List.set_cons_zero, List.set_cons_succ]
  refine wpAnyH_take (i := 4) (oi := ?oi5) (v := ?v5) ?hi5 (by kernel_rfl) (by kernel_rfl) (by kernel_rfl) ?hQ5 (Or.inl ⟨?hw5, ?hy5⟩) (by assumption) ?hr5
  case hi5 => simp only [List.getElem?_toArray, List.getElem?_cons_succ, List.getElem?_cons_zero]; rfl
  case hQ5 => exact fun _ _ _ h => h
  case hw5 => rfl
  case hy5 => intro w hSw; (try dsimp only at hSw); go_simp; (try with_reducible rfl)
  case hr5 =>
  simp only [Act.put, List.setIfInBounds_toArray, List.set_cons_zero, List.set_cons_succ]
  refine wpAnyH_take (i := 5) (oi := ?oi6) (v := ?v6) ?hi6 (by kernel_rfl) (by kernel_rfl) (by kernel_rfl) ?hQ6 (Or.inl ⟨?hw6, ?hy6⟩) (by assumption) ?hr6
  case hi6 => simp only [List.getElem?_toArray, List.getElem?_cons_succ, List.getElem?_cons_zero]; rfl
  case hQ6 => exact fun _ _ _ h => h
  case hw6 => rfl
  case hy6 => intro w hSw; (try dsimp only at hSw); go_simp; (try with_reducible rfl)
  case hr6 =>
  simp only [Act.put, List.setIfInBounds_toArray, List.set_cons_zero, List.set_cons_succ]
  refine wpAnyH_done (by kernel_rfl) ?_ _
  have HK4 := Lib.hid hHeld.2.2
  have KAA := Lib.hid (And.intro k3 k4)
  clear hHeld k3 k4 d1 d2
  go_upto_region 7 with (go_at_call 47; refine (newWriter _ W.heap.size p f1 [] _ (HS3.out.chg KAA.out.2 (by simp) (by simp) (by simp)) rfl).mono ?_; rintro e w5 ⟨r, rfl, s5, k5, hr5⟩; have HS5 := Lib.hid s5; have HK5 := Lib.hid k5; have HR5 := Lib.hid hr5; clear s5 k5 hr5)
  have hk6 : Chg [] W (w5.alloc (.cells #[.pointer (some ⟨p2, 0, none⟩), .int .i64 0, .int .i64 0] 83)) := (HK4.out.trans HK5.out).alloc _
  have hpair : WPair W.heap.size W.heap.size (w5.alloc (.cells #[.pointer (some ⟨p2, 0, none⟩), .int .i64 0, .int .i64 0] 83)) r p w5.heap.size p2 f1 f2 [] [] 0 ⟨[], c, fail, 0⟩ := by
    have z3 := HS3.out.lt
    have z4 := HS4.out.lt
    have z5 := HS5.out.lt
    have y1 : W.heap.size ≤ w3.heap.size := KAA.out.1.size
    have y2 := KAA.out.2.size
    have y3 := HK5.out.size
    have y4 := HR5.out
    have y5 := HB4.out
    have y6 : W.heap.size ≤ p := HB3.out
    have hs4 := HS4.out.chg (S := []) (HK5.out.alloc (.cells #[.pointer (some ⟨p2, 0, none⟩), .int .i64 0, .int .i64 0] 83)) (by simp) (by simp) (by simp)
    refine ⟨HS5.out.chg (S := []) ((Chg.refl _ _).alloc _) (by simp) (by simp) (by simp) (by simp), ⟨heap_alloc_new _ _, hs4, by omega, fun hm => by have := (HBF4.out _ hm).2; omega, by simp⟩, by omega, fun x hx => by have := HBF3.out x hx; omega, by simp, ⟨fun hm => by have := HBF4.out _ hm; omega, by simp, fun hm => by have := HBF4.out _ hm; omega, by simp⟩, ⟨by omega, by omega, by omega, by omega⟩, by simp⟩
  generalize w5.alloc (.cells #[.pointer (some ⟨p2, 0, none⟩), .int .i64 0, .int .i64 0] 83) = W6 at *
  generalize w5.heap.size = r2 at *
  have HK6 := Lib.hid hk6
  have HP6 := Lib.hid hpair
  clear hk6 hpair
  go_wp2_with fail
  go_loopw [40] (fun i wr => ∃ k : Nat, k ≤ N ∧ i = .int .i64 k ∧ Chg [] W wr ∧ ∃ err σ o o2, WPair W.heap.size W.heap.size wr r p r2 p2 f1 f2 o o2 err σ ∧ σ.Ok ∧ σ.b.length ≤ k * 6000) (fun i _ => N - (intOf i).toNat)
  case atStart => exact ⟨0, Nat.zero_le _, rfl, HK6.out, 0, _, [], [], HP6.out, HOKS.out, by simp⟩
  case round =>
    obtain ⟨k, hk, rfl, hkr, err, σ, o, o2, hpr, hok, hsl⟩ := hrel
    have HKR := Lib.hid hkr
    have HPR := Lib.hid hpr
    have HOK := Lib.hid hok
    have HSL := Lib.hid hsl
    clear hkr hpr hok hsl
    by_cases hlt : k < N
    · obtain ⟨y, hkL⟩ : ∃ y, L[k]? = some y := ⟨_, List.getElem?_eq_getElem (by rw [HN.out]; exact hlt)⟩
      obtain ⟨ad, a, bc, rfl, hfp, c0, c1, c2, hbc, hrow⟩ := H2.out k _ hkL
      obtain ⟨wk, wn, wb⟩ := HWF.out _ (List.mem_of_getElem? hkL)
      obtain ⟨f4, hr4, hb4⟩ := hrow.tight
      have hkw := HW.out.trans HKR.out
      replace c0 := hkw.cell c0 (by simp)
      replace c1 := hkw.cell c1 (by simp)
      replace c2 := hkw.cell c2 (by simp)
      obtain ⟨K, x, n⟩ := y
      simp only at c0 c1 c2 hbc hr4 wk wn wb
      have c0' : wr.cell? (ad.add (k * 3)) = some (.int .i64 K) := by simpa [Addr.add] using c0
      have c1' : wr.cell? ⟨(ad.add (k * 3)).block, (ad.add (k * 3)).off + 1, none⟩ = some (.slice a x.length bc) := by simpa [Addr.add] using c1
      have c2' : wr.cell? ⟨(ad.add (k * 3)).block, (ad.add (k * 3)).off + 2, none⟩ = some (.int .i64 n) := by simpa [Addr.add] using c2
      clear c0 c1 c2
      have HR4 := Lib.hid (hr4.chg hkw (by simp))
      have HB4' := Lib.hid hb4
      clear hr4 hb4 hrow hkL hkw
      generalize hXL : x.length = XL at *
      have HXL := Lib.hid hXL
      clear hXL
      go_upto_region 10 with (fail)
      have hk9 : Chg [] wr (wr.alloc (.cells #[.int .i64 K, .slice a XL bc, .int .i64 n] 85)) := (Chg.refl _ _).alloc _
      have e0 : (wr.alloc (.cells #[.int .i64 K, .slice a XL bc, .int .i64 n] 85)).heap[wr.heap.size]? = some (.cells #[.int .i64 K, .slice a XL bc, .int .i64 n] 85 (0, 0)) := heap_alloc_new _ _
      have d0 : (wr.alloc (.cells #[.int .i64 K, .slice a XL bc, .int .i64 n] 85)).cell? ⟨wr.heap.size, 0, none⟩ = some (.int .i64 K) := cell_heap e0 0 rfl
      have d1 : (wr.alloc (.cells #[.int .i64 K, .slice a XL bc, .int .i64 n] 85)).cell? ⟨wr.heap.size, 1, none⟩ = some (.slice a XL bc) := cell_heap e0 1 rfl
      have d2 : (wr.alloc (.cells #[.int .i64 K, .slice a XL bc, .int .i64 n] 85)).cell? ⟨wr.heap.size, 2, none⟩ = some (.int .i64 n) := cell_heap e0 2 rfl
      have hp9 := HPR.out.chg hk9
      have hr9 := HR4.out.chg hk9 (by simp)
      have hkw9 := HKR.out.trans hk9
      clear e0 c0' c1' c2' hk9
      generalize (wr.alloc (.cells #[.int .i64 K, .slice a XL bc, .int .i64 n] 85)) = W9 at *
      have HP9 := Lib.hid hp9
      have HR9 := Lib.hid hr9
      have HK9 := Lib.hid hkw9
      clear hp9 hr9 hkw9
      by_cases hbig : 2000 < XL
      · go_wp2_with fail
        go_roundw
        case rel => exact ⟨k + 1, by omega, by go_num, HK9.out, err, σ, o, o2, HP9.out, HOK.out, by have := HSL.out; omega⟩
        case measure => simp [intOf]; omega
      by_cases hmid : 9 < n ∧ n ≤ 1024
      · obtain ⟨hm1, hm2⟩ := hmid
        go_wp2_with fail
        go_roundw
        case rel => exact ⟨k + 1, by omega, by go_num, HK9.out, err, σ, o, o2, HP9.out, HOK.out, by have := HSL.out; omega⟩
        case measure => simp [intOf]; omega
      go_upto_block 2 with (fail)
      go_cut [11, 12] (fun e f wx => ∃ v err' σ' o' o2', e = .int .i64 v ∧ f = .int .i64 v ∧ Chg [] W wx ∧ WPair W.heap.size W.heap.size wx r p r2 p2 f1 f2 o' o2' err' σ' ∧ σ'.Ok ∧ σ'.b.length ≤ (k + 1) * 6000)
      case first =>
        go_upto_region 13 with (fail)
        go_cut [52] (fun t wx => t = .bool false ∧ wx = W9)
        case first =>
          by_cases h9 : 9 < n
          · have h10 : ¬ n ≤ 1024 := by omega
            go_wp2_with fail
            go_meet
            exact ⟨congrArg Value.bool (decide_eq_false (by omega)), rfl⟩
          · go_wp2_with fail
            go_meet
            exact ⟨congrArg Value.bool (decide_eq_false (by omega)), rfl⟩
        case rest =>
        obtain ⟨rfl, hwx⟩ := hcut
        obtain rfl := hwx.symm
        clear hwx
        by_cases hK1 : K = 1
        · subst hK1
          have hsl := HSL.out
          have hpl := padN_lt σ.b.length
          have hst := writerPad W9 W.heap.size r p f1 o err σ HP9.out.a HOK.out (by omega)
          have hst2 := fun w1 (h : RWrtAt w1 r2 p2 f2 o2 err σ) => rwriterPad w1 r2 p2 f2 o2 err σ h HOK.out (by omega)
          obtain ⟨q1, q2, _⟩ := wWrite_sink (err := err) HOK.out (List.replicate (padN σ.b.length) 0)
          rw [List.length_replicate] at q2
          generalize wWrite err σ (List.replicate (padN σ.b.length) 0) = R at *
          obtain ⟨v, σ'⟩ := R
          simp only at hst hst2 q1 q2
          have HST := Lib.hid hst
          have HST2 := Lib.hid hst2
          have HQ := Lib.hid (And.intro q1 (show σ'.b.length ≤ (k + 1) * 6000 by omega))
          clear hsl hpl hst hst2 q1 q2
          go_wp2_with (first
            | (go_at_call 49; refine HST.out.mono ?_; rintro e w10 ⟨rfl, hto⟩; have HTO := Lib.hid hto; clear hto)
            | (go_at_call 52; refine (HST2.out _ (HP9.out.first HTO.out)).mono ?_; rintro e w11 ⟨rfl, hto⟩; have HTO2 := Lib.hid hto; clear hto))
          go_meet
          obtain ⟨o', o2', hpp⟩ := HP9.out.step HK9.out.size HTO.out HTO2.out
          exact ⟨v, v, σ', o', o2', rfl, rfl, HP9.out.quiet2 (HP9.out.quiet HK9.out (Nat.le_refl _) HTO.out) (Nat.le_refl _) HTO2.out, hpp, HQ.out.1, HQ.out.2⟩
        have hpd := HP9.out.chg (w' := W9.drew) (Chg.refl [] W9).drew
        have HPD := Lib.hid hpd
        have hkd := HK9.out.drew
        have HKD := Lib.hid hkd
        have hzA := HPR.out
        have hAr : wr.heap.size ∉ r :: p :: o := by
          have z1 := hzA.a.lt
          have z2 := hzA.a.s.lt
          intro hm
          rcases List.mem_cons.1 hm with e | hm
          · omega
          · rcases List.mem_cons.1 hm with e | hm
            · omega
            · have := (hzA.a.s.ownlt _ hm).2; omega
        have hA2 : wr.heap.size ∉ [r2, p2] := by
          have z1 := hzA.b.lt
          have z2 := hzA.b.s.lt
          simp; omega
        have HAR := Lib.hid (And.intro hAr hA2)
        clear hpd hkd hzA hAr hA2
        by_cases hK0 : K = 0
        · subst hK0
          have hsl := HSL.out
          have hxl := HXL.out
          have hst : Calls Try.prog 48 #[.pointer (some ⟨r, 0, none⟩), .slice a XL bc] W9.drew fun e w' => e = .returned (.int .i64 (wWrite err σ x).1) ∧ WrtTo W.heap.size W9.drew w' r p f1 o (wWrite err σ x).1 (wWrite err σ x).2 := by
            rw [← HXL.out]
            refine writerWrite _ W.heap.size r p f1 o f4 err σ x a bc HPD.out.a HOK.out (HR9.out.chg (Chg.refl [] W9).drew (by simp)) (by rw [HXL.out]; exact hbc) (fun y hy => ?_) (by omega)
            have h1 := (HB4'.out y hy).2
            have h2 := HW.out.size
            have h3 := HPD.out.ge
            have h4 := HKD.out.size
            exact ⟨by omega, by omega, fun hm => by have := h3.2 y hm; omega, by omega⟩
          have hst2 : ∀ w1 : World, RWrtAt w1 r2 p2 f2 o2 err σ → Rd w1 f4 a (bv x) → Calls Try.prog 51 #[.pointer (some ⟨r2, 0, none⟩), .slice a XL bc] w1 fun e w' => e = .returned (.int .i64 (wWrite err σ x).1) ∧ RWrtTo w1 w' r2 p2 f2 o2 (wWrite err σ x).1 (wWrite err σ x).2 := by
            intro w1 h hx
            rw [← HXL.out]
            refine rwriterWrite _ r2 p2 f2 o2 f4 err σ x a bc h HOK.out hx (by rw [HXL.out]; exact hbc) (fun y hy => ?_) (by omega)
            have h1 := (HB4'.out y hy).2
            have h2 := HW.out.size
            have h3 := HPD.out.ge
            omega
          obtain ⟨q1, q2, _⟩ := wWrite_sink (err := err) HOK.out x
          rw [HXL.out] at q2
          have hf4 : ∀ y ∈ f4, y ∉ r :: p :: o := fun y hy hm => by
            have h1 := (HB4'.out y hy).2
            have h2 := HW.out.size
            have h3 := HPD.out.ge
            rcases List.mem_cons.1 hm with e | hm
            · omega
            · rcases List.mem_cons.1 hm with e | hm
              · omega
              · have := h3.2 y hm; omega
          have HF4 := Lib.hid hf4
          generalize wWrite err σ x = R at *
          obtain ⟨v, σ'⟩ := R
          simp only at hst hst2 q1 q2
          have HST := Lib.hid hst
          have HST2 := Lib.hid hst2
          have HQ := Lib.hid (And.intro q1 (show σ'.b.length ≤ (k + 1) * 6000 by omega))
          clear hsl hxl hst hst2 q1 q2 hf4
          go_upto_region 15 with (fail)
          refine wp_region_held_drew (S := fun w' => w'.cell? ⟨wr.heap.size, 1, none⟩ = some (.slice a XL bc)) (by kernel_rfl) ?_ (fun hHeld => ?_)
          · simp [*]
          refine wpAnyH_take (i := 0) (oi := ?oi7) (v := ?v7) ?hi7 (by kernel_rfl) (by kernel_rfl) (by kernel_rfl) ?hQ7 (Or.inl ⟨?hw7, ?hy7⟩) (by assumption) ?hr7
          case hi7 => simp only [List.getElem?_toArray, List.getElem?_cons_zero]; rfl
          case hQ7 => exact fun _ _ _ h => h
          case hw7 => rfl
          case hy7 => intro w hSw; (try dsimp only at hSw); go_simp; (try with_reducible rfl)
          case hr7 =>
          simp only [Act.put, List.setIfInBounds_toArray, List.set_cons_zero, List.set_cons_succ]
          refine wpAnyH_take (i := 1) (oi := ?oi8) (v := ?v8) ?hi8 (by kernel_rfl) (by kernel_rfl) (by kernel_rfl) ?hQ8 (Or.inl ⟨?hw8, ?hy8⟩) (by assumption) ?hr8
          case hi8 => simp only [List.getElem?_toArray, List.getElem?_cons_succ, List.getElem?_cons_zero]; rfl
          case hQ8 => exact fun _ _ _ h => h
          case hw8 => rfl
          case hy8 => intro w hSw; (try dsimp only at hSw); go_simp; (try with_reducible rfl)
          case hr8 =>
          simp only [Act.put, List.setIfInBounds_toArray, List.set_cons_zero, List.set_cons_succ]
          refine wpAnyH_take (i := 2) (oi := ?oi9) (v := ?v9) ?hi9 (by kernel_rfl) (by kernel_rfl) (by kernel_rfl) ?hQ9 (Or.inl ⟨?hw9, ?hy9⟩) (by assumption) ?hr9
          case hi9 => simp only [List.getElem?_toArray, List.getElem?_cons_succ, List.getElem?_cons_zero]; rfl
          case hQ9 => exact fun _ _ _ h => h
          case hw9 => rfl
          case hy9 => intro w hSw; (try dsimp only at hSw); go_simp; (try with_reducible rfl)
          case hr9 =>
          simp only [Act.put, List.setIfInBounds_toArray, List.set_cons_zero, List.set_cons_succ]
          refine wpAnyH_take (i := 4) (oi := ?oi10) (v := ?v10) ?hi10 (by kernel_rfl) (by kernel_rfl) (by kernel_rfl) ?hQ10 (Or.inl ⟨?hw10, ?hy10⟩) (by assumption) ?hr10
          case hi10 => simp only [List.getElem?_toArray, List.getElem?_cons_succ, List.getElem?_cons_zero]; rfl
          case hQ10 => exact fun _ _ _ h => h
          case hw10 => rfl
          case hy10 => intro w hSw; (try dsimp only at hSw); go_simp; (try with_reducible rfl)
          case hr10 =>
          simp only [Act.put, List.setIfInBounds_toArray, List.set_cons_zero, List.set_cons_succ]
          refine wpAnyH_take (i := 5) (oi := ?oi11) (v := ?v11) ?hi11 (by kernel_rfl) (by kernel_rfl) (by kernel_rfl) ?hQ11 (Or.inl ⟨?hw11, ?hy11⟩) (by assumption) ?hr11
          case hi11 => simp only [List.getElem?_toArray, List.getElem?_cons_succ, List.getElem?_cons_zero]; rfl
          case hQ11 => exact fun _ _ _ h => h
          case hw11 => rfl
          case hy11 => intro w hSw; (try dsimp only at hSw); go_simp; (try with_reducible rfl)
          case hr11 =>
          simp only [Act.put, List.setIfInBounds_toArray, List.set_cons_zero, List.set_cons_succ]
          refine wpAnyH_take (i := 6) (oi := ?oi12) (v := ?v12) ?hi12 (by kernel_rfl) (by kernel_rfl) (by kernel_rfl) ?hQ12 (Or.inl ⟨?hw12, ?hy12⟩) (by assumption) ?hr12
          case hi12 => simp only [List.getElem?_toArray, List.getElem?_cons_succ, List.getElem?_cons_zero]; rfl
          case hQ12 => exact fun _ _ _ h => h
          case hw12 => rfl
          case hy12 => intro w hSw; (try dsimp only at hSw); go_simp; (try with_reducible rfl)
          case hr12 =>
          simp only [Act.put, List.setIfInBounds_toArray, List.set_cons_zero, List.set_cons_succ]
          refine wpAnyH_ready (rs := [3]) (by kernel_rfl) (by simp) (AllReadyH.cons (o := ?oc13) ?hc13 (fun K hK => ?hs13) AllReadyH.nil)
          case hc13 => simp only [List.getElem?_toArray, List.getElem?_cons_succ, List.getElem?_cons_zero]; rfl
          case hs13 =>
          rw [if_pos (by rfl)]
          go_simp
          go_at_call 48; refine HST.out.mono ?_; rintro e w10 ⟨rfl, hto⟩; have HTO := Lib.hid hto; obtain ⟨o1, _, k10⟩ := hto
          go_wp2_with fail
          refine hK.out _ _ ?_ (fun hHeld => ?_)
          · exact k10.cell hHeld HAR.out.1
          clear hK K
          try simp only [Act.put, List.setIfInBounds_toArray, List.set_cons_zero, List.set_cons_succ]
          refine wpAnyH_ready (rs := [7]) (by kernel_rfl) (by simp) (AllReadyH.cons (o := ?oc14) ?hc14 (fun K hK => ?hs14) AllReadyH.nil)
          case hc14 => simp only [List.getElem?_toArray, List.getElem?_cons_succ, List.getElem?_cons_zero]; rfl
          case hs14 =>
          rw [if_pos (by rfl)]
          go_simp
          go_at_call 51; refine (HST2.out _ (HPD.out.first HTO.out) ((HR9.out.chg (Chg.refl [] W9).drew (by simp)).chg k10 HF4.out)).mono ?_; rintro e w11 ⟨rfl, hto⟩; have HTO2 := Lib.hid hto; obtain ⟨o3, _, k11⟩ := hto
          go_wp2_with fail
          refine hK.out _ _ ?_ (fun hHeld => ?_)
          · exact k11.cell hHeld HAR.out.2
          clear hK K
          try simp only [Act.put, List.setIfInBounds_toArray, List.set_cons_zero, List.set_cons_succ]
          refine wpAnyH_take (i := 8) (oi := ?oi15) (v := ?v15) ?hi15 (by kernel_rfl) (by kernel_rfl) (by kernel_rfl) ?hQ15 (Or.inl ⟨?hw15, ?hy15⟩) (by assumption) ?hr15
          case hi15 => simp only [List.getElem?_toArray, List.getElem?_cons_succ, List.getElem?_cons_zero]; rfl
          case hQ15 => exact fun _ _ _ h => h
          case hw15 => rfl
          case hy15 => intro w hSw; (try dsimp only at hSw); go_simp; (try with_reducible rfl)
          case hr15 =>
          simp only [Act.put, List.setIfInBounds_toArray, List.set_cons_zero, List.set_cons_succ]
          refine wpAnyH_take (i := 9) (oi := ?oi16) (v := ?v16) ?hi16 (by kernel_rfl) (by kernel_rfl) (by kernel_rfl) ?hQ16 (Or.inl ⟨?hw16, ?hy16⟩) (by assumption) ?hr16
          case hi16 => simp only [List.getElem?_toArray, List.getElem?_cons_succ, List.getElem?_cons_zero]; rfl
          case hQ16 => exact fun _ _ _ h => h
          case hw16 => rfl
          case hy16 => intro w hSw; (try dsimp only at hSw); go_simp; (try with_reducible rfl)
          case hr16 =>
          simp only [Act.put, List.setIfInBounds_toArray, List.set_cons_zero, List.set_cons_succ]
          refine wpAnyH_done (by kernel_rfl) ?_ _
          clear hHeld k10 k11
          go_wp2_with fail
          go_meet
          obtain ⟨o', o2', hpp⟩ := HPD.out.step HKD.out.size HTO.out HTO2.out
          exact ⟨v, v, σ', o', o2', rfl, rfl, HPD.out.quiet2 (HPD.out.quiet HKD.out (Nat.le_refl _) HTO.out) (Nat.le_refl _) HTO2.out, hpp, HQ.out.1, HQ.out.2⟩
        · have hK0b : (K == 0) = false := by simpa using hK0
          have hK1b : (K == 1) = false := by simpa using hK1
          by_cases hn : n < 0 ∨ 1024 < n
          · have hst := fun w1 => writerZeros_bad w1 r n hn
            have hst2 := fun w1 => rwriterZeros_bad w1 r2 n hn
            have HST := Lib.hid hst
            have HST2 := Lib.hid hst2
            clear hst hst2 hn hmid
            go_upto_region 12 with (fail)
            refine wp_region_held_drew (S := fun w' => w'.cell? ⟨wr.heap.size, 2, none⟩ = some (.int .i64 n)) (by kernel_rfl) ?_ (fun hHeld => ?_)
            · simp [*]
            refine wpAnyH_take (i := 0) (oi := ?oi17) (v := ?v17) ?hi17 (by kernel_rfl) (by kernel_rfl) (by kernel_rfl) ?hQ17 (Or.inl ⟨?hw17, ?hy17⟩) (by assumption) ?hr17
            case hi17 => simp only [List.getElem?_toArray, List.getElem?_cons_zero]; rfl
            case hQ17 => exact fun _ _ _ h => h
            case hw17 => rfl
            case hy17 => intro w hSw; (try dsimp only at hSw); go_simp; (try with_reducible rfl)
            case hr17 =>
            simp only [Act.put, List.setIfInBounds_toArray, List.set_cons_zero, List.set_cons_succ]
            refine wpAnyH_take (i := 1) (oi := ?oi18) (v := ?v18) ?hi18 (by kernel_rfl) (by kernel_rfl) (by kernel_rfl) ?hQ18 (Or.inl ⟨?hw18, ?hy18⟩) (by assumption) ?hr18
            case hi18 => simp only [List.getElem?_toArray, List.getElem?_cons_succ, List.getElem?_cons_zero]; rfl
            case hQ18 => exact fun _ _ _ h => h
            case hw18 => rfl
            case hy18 => intro w hSw; (try dsimp only at hSw); go_simp; (try with_reducible rfl)
            case hr18 =>
            simp only [Act.put, List.setIfInBounds_toArray, List.set_cons_zero, List.set_cons_succ]
            refine wpAnyH_take (i := 2) (oi := ?oi19) (v := ?v19) ?hi19 (by kernel_rfl) (by kernel_rfl) (by kernel_rfl) ?hQ19 (Or.inl ⟨?hw19, ?hy19⟩) (by assumption) ?hr19
            case hi19 => simp only [List.getElem?_toArray, List.getElem?_cons_succ, List.getElem?_cons_zero]; rfl
            case hQ19 => exact fun _ _ _ h => h
            case hw19 => rfl
            case hy19 => intro w hSw; (try dsimp only at hSw); go_simp; (try with_reducible rfl)
            case hr19 =>
            simp only [Act.put, List.setIfInBounds_toArray, List.set_cons_zero, List.set_cons_succ]
            refine wpAnyH_take (i := 4) (oi := ?oi20) (v := ?v20) ?hi20 (by kernel_rfl) (by kernel_rfl) (by kernel_rfl) ?hQ20 (Or.inl ⟨?hw20, ?hy20⟩) (by assumption) ?hr20
            case hi20 => simp only [List.getElem?_toArray, List.getElem?_cons_succ, List.getElem?_cons_zero]; rfl
            case hQ20 => exact fun _ _ _ h => h
            case hw20 => rfl
            case hy20 => intro w hSw; (try dsimp only at hSw); go_simp; (try with_reducible rfl)
            case hr20 =>
            simp only [Act.put, List.setIfInBounds_toArray, List.set_cons_zero, List.set_cons_succ]
            refine wpAnyH_take (i := 5) (oi := ?oi21) (v := ?v21) ?hi21 (by kernel_rfl) (by kernel_rfl) (by kernel_rfl) ?hQ21 (Or.inl ⟨?hw21, ?hy21⟩) (by assumption) ?hr21
            case hi21 => simp only [List.getElem?_toArray, List.getElem?_cons_succ, List.getElem?_cons_zero]; rfl
            case hQ21 => exact fun _ _ _ h => h
            case hw21 => rfl
            case hy21 => intro w hSw; (try dsimp only at hSw); go_simp; (try with_reducible rfl)
            case hr21 =>
            simp only [Act.put, List.setIfInBounds_toArray, List.set_cons_zero, List.set_cons_succ]
            refine wpAnyH_take (i := 6) (oi := ?oi22) (v := ?v22) ?hi22 (by kernel_rfl) (by kernel_rfl) (by kernel_rfl) ?hQ22 (Or.inl ⟨?hw22, ?hy22⟩) (by assumption) ?hr22
            case hi22 => simp only [List.getElem?_toArray, List.getElem?_cons_succ, List.getElem?_cons_zero]; rfl
            case hQ22 => exact fun _ _ _ h => h
            case hw22 => rfl
            case hy22 => intro w hSw; (try dsimp only at hSw); go_simp; (try with_reducible rfl)
            case hr22 =>
            simp only [Act.put, List.setIfInBounds_toArray, List.set_cons_zero, List.set_cons_succ]
            refine wpAnyH_ready (rs := [3]) (by kernel_rfl) (by simp) (AllReadyH.cons (o := ?oc23) ?hc23 (fun K hK => ?hs23) AllReadyH.nil)
            case hc23 => simp only [List.getElem?_toArray, List.getElem?_cons_succ, List.getElem?_cons_zero]; rfl
            case hs23 =>
            rw [if_pos (by rfl)]
            go_simp
            go_at_call 53; refine (HST.out _).mono ?_; rintro e w10 ⟨rfl, hww⟩; obtain rfl := hww.symm
            go_wp2_with fail
            refine hK.out _ _ ?_ (fun hHeld => ?_)
            · exact hHeld
            clear hK K
            try simp only [Act.put, List.setIfInBounds_toArray, List.set_cons_zero, List.set_cons_succ]
            refine wpAnyH_ready (rs := [7]) (by kernel_rfl) (by simp) (AllReadyH.cons (o := ?oc24) ?hc24 (fun K hK => ?hs24) AllReadyH.nil)
            case hc24 => simp only [List.getElem?_toArray, List.getElem?_cons_succ, List.getElem?_cons_zero]; rfl
            case hs24 =>
            rw [if_pos (by rfl)]
            go_simp
            go_at_call 54; refine (HST2.out _).mono ?_; rintro e w11 ⟨rfl, hww⟩; obtain rfl := hww.symm
            go_wp2_with fail
            refine hK.out _ _ ?_ (fun hHeld => ?_)
            · exact hHeld
            clear hK K
            try simp only [Act.put, List.setIfInBounds_toArray, List.set_cons_zero, List.set_cons_succ]
            refine wpAnyH_take (i := 8) (oi := ?oi25) (v := ?v25) ?hi25 (by kernel_rfl) (by kernel_rfl) (by kernel_rfl) ?hQ25 (Or.inl ⟨?hw25, ?hy25⟩) (by assumption) ?hr25
            case hi25 => simp only [List.getElem?_toArray, List.getElem?_cons_succ, List.getElem?_cons_zero]; rfl
            case hQ25 => exact fun _ _ _ h => h
            case hw25 => rfl
            case hy25 => intro w hSw; (try dsimp only at hSw); go_simp; (try with_reducible rfl)
            case hr25 =>
            simp only [Act.put, List.setIfInBounds_toArray, List.set_cons_zero, List.set_cons_succ]
            refine wpAnyH_take (i := 9) (oi := ?oi26) (v := ?v26) ?hi26 (by kernel_rfl) (by kernel_rfl) (by kernel_rfl) ?hQ26 (Or.inl ⟨?hw26, ?hy26⟩) (by assumption) ?hr26
            case hi26 => simp only [List.getElem?_toArray, List.getElem?_cons_succ, List.getElem?_cons_zero]; rfl
            case hQ26 => exact fun _ _ _ h => h
            case hw26 => rfl
            case hy26 => intro w hSw; (try dsimp only at hSw); go_simp; (try with_reducible rfl)
            case hr26 =>
            simp only [Act.put, List.setIfInBounds_toArray, List.set_cons_zero, List.set_cons_succ]
            refine wpAnyH_done (by kernel_rfl) ?_ _
            clear hHeld
            go_wp2_with fail
            go_meet
            exact ⟨2, err, σ, o, o2, rfl, rfl, HKD.out, HPD.out, HOK.out, by have := HSL.out; omega⟩
          · obtain ⟨m, rfl⟩ : ∃ m : Nat, n = m := ⟨n.toNat, by omega⟩
            have hm9 : m ≤ 9 := by omega
            have hsl := HSL.out
            have hst := writerZeros W9.drew W.heap.size r p f1 o err σ m (by omega) HPD.out.a HOK.out (by omega)
            have hst2 := fun w1 (h : RWrtAt w1 r2 p2 f2 o2 err σ) => rwriterZeros w1 r2 p2 f2 o2 err σ m (by omega) h HOK.out (by omega)
            obtain ⟨q1, q2, _⟩ := wWrite_sink (err := err) HOK.out (List.replicate (512 * m) 0)
            rw [List.length_replicate] at q2
            generalize wWrite err σ (List.replicate (512 * m) 0) = R at *
            obtain ⟨v, σ'⟩ := R
            simp only at hst hst2 q1 q2
            have HST := Lib.hid hst
            have HST2 := Lib.hid hst2
            have HQ := Lib.hid (And.intro q1 (show σ'.b.length ≤ (k + 1) * 6000 by omega))
            clear hsl hst hst2 q1 q2 hn hmid
            go_upto_region 12 with (fail)
            refine wp_region_held_drew (S := fun w' => w'.cell? ⟨wr.heap.size, 2, none⟩ = some (.int .i64 (m : Int))) (by kernel_rfl) ?_ (fun hHeld => ?_)
            · simp [*]
            refine wpAnyH_take (i := 0) (oi := ?oi27) (v := ?v27) ?hi27 (by kernel_rfl) (by kernel_rfl) (by kernel_rfl) ?hQ27 (Or.inl ⟨?hw27, ?hy27⟩) (by assumption) ?hr27
            case hi27 => simp only [List.getElem?_toArray, List.getElem?_cons_zero]; rfl
            case hQ27 => exact fun _ _ _ h => h
            case hw27 => rfl
            case hy27 => intro w hSw; (try dsimp only at hSw); go_simp; (try with_reducible rfl)
            case hr27 =>
            simp only [Act.put, List.setIfInBounds_toArray, List.set_cons_zero, List.set_cons_succ]
            refine wpAnyH_take (i := 1) (oi := ?oi28) (v := ?v28) ?hi28 (by kernel_rfl) (by kernel_rfl) (by kernel_rfl) ?hQ28 (Or.inl ⟨?hw28, ?hy28⟩) (by assumption) ?hr28
            case hi28 => simp only [List.getElem?_toArray, List.getElem?_cons_succ, List.getElem?_cons_zero]; rfl
            case hQ28 => exact fun _ _ _ h => h
            case hw28 => rfl
            case hy28 => intro w hSw; (try dsimp only at hSw); go_simp; (try with_reducible rfl)
            case hr28 =>
            simp only [Act.put, List.setIfInBounds_toArray, List.set_cons_zero, List.set_cons_succ]
            refine wpAnyH_take (i := 2) (oi := ?oi29) (v := ?v29) ?hi29 (by kernel_rfl) (by kernel_rfl) (by kernel_rfl) ?hQ29 (Or.inl ⟨?hw29, ?hy29⟩) (by assumption) ?hr29
            case hi29 => simp only [List.getElem?_toArray, List.getElem?_cons_succ, List.getElem?_cons_zero]; rfl
            case hQ29 => exact fun _ _ _ h => h
            case hw29 => rfl
            case hy29 => intro w hSw; (try dsimp only at hSw); go_simp; (try with_reducible rfl)
            case hr29 =>
            simp only [Act.put, List.setIfInBounds_toArray, List.set_cons_zero, List.set_cons_succ]
            refine wpAnyH_take (i := 4) (oi := ?oi30) (v := ?v30) ?hi30 (by kernel_rfl) (by kernel_rfl) (by kernel_rfl) ?hQ30 (Or.inl ⟨?hw30, ?hy30⟩) (by assumption) ?hr30
            case hi30 => simp only [List.getElem?_toArray, List.getElem?_cons_succ, List.getElem?_cons_zero]; rfl
            case hQ30 => exact fun _ _ _ h => h
            case hw30 => rfl
            case hy30 => intro w hSw; (try dsimp only at hSw); go_simp; (try with_reducible rfl)
            case hr30 =>
            simp only [Act.put, List.setIfInBounds_toArray, List.set_cons_zero, List.set_cons_succ]
            refine wpAnyH_take (i := 5) (oi := ?oi31) (v := ?v31) ?hi31 (by kernel_rfl) (by kernel_rfl) (by kernel_rfl) ?hQ31 (Or.inl ⟨?hw31, ?hy31⟩) (by assumption) ?hr31
            case hi31 => simp only [List.getElem?_toArray, List.getElem?_cons_succ, List.getElem?_cons_zero]; rfl
            case hQ31 => exact fun _ _ _ h => h
            case hw31 => rfl
            case hy31 => intro w hSw; (try dsimp only at hSw); go_simp; (try with_reducible rfl)
            case hr31 =>
            simp only [Act.put, List.setIfInBounds_toArray, List.set_cons_zero, List.set_cons_succ]
            refine wpAnyH_take (i := 6) (oi := ?oi32) (v := ?v32) ?hi32 (by kernel_rfl) (by kernel_rfl) (by kernel_rfl) ?hQ32 (Or.inl ⟨?hw32, ?hy32⟩) (by assumption) ?hr32
            case hi32 => simp only [List.getElem?_toArray, List.getElem?_cons_succ, List.getElem?_cons_zero]; rfl
            case hQ32 => exact fun _ _ _ h => h
            case hw32 => rfl
            case hy32 => intro w hSw; (try dsimp only at hSw); go_simp; (try with_reducible rfl)
            case hr32 =>
            simp only [Act.put, List.setIfInBounds_toArray, List.set_cons_zero, List.set_cons_succ]
            refine wpAnyH_ready (rs := [3]) (by kernel_rfl) (by simp) (AllReadyH.cons (o := ?oc33) ?hc33 (fun K hK => ?hs33) AllReadyH.nil)
            case hc33 => simp only [List.getElem?_toArray, List.getElem?_cons_succ, List.getElem?_cons_zero]; rfl
            case hs33 =>
            rw [if_pos (by rfl)]
            go_simp
            go_at_call 53; refine HST.out.mono ?_; rintro e w10 ⟨rfl, hto⟩; have HTO := Lib.hid hto; obtain ⟨o1, _, k10⟩ := hto
            go_wp2_with fail
            refine hK.out _ _ ?_ (fun hHeld => ?_)
            · exact k10.cell hHeld HAR.out.1
            clear hK K
            try simp only [Act.put, List.setIfInBounds_toArray, List.set_cons_zero, List.set_cons_succ]
            refine wpAnyH_ready (rs := [7]) (by kernel_rfl) (by simp) (AllReadyH.cons (o := ?oc34) ?hc34 (fun K hK => ?hs34) AllReadyH.nil)
            case hc34 => simp only [List.getElem?_toArray, List.getElem?_cons_succ, List.getElem?_cons_zero]; rfl
            case hs34 =>
            rw [if_pos (by rfl)]
            go_simp
            go_at_call 54; refine (HST2.out _ (HPD.out.first HTO.out)).mono ?_; rintro e w11 ⟨rfl, hto⟩; have HTO2 := Lib.hid hto; obtain ⟨o3, _, k11⟩ := hto
            go_wp2_with fail
            refine hK.out _ _ ?_ (fun hHeld => ?_)
            · exact k11.cell hHeld HAR.out.2
            clear hK K
            try simp only [Act.put, List.setIfInBounds_toArray, List.set_cons_zero, List.set_cons_succ]
            refine wpAnyH_take (i := 8) (oi := ?oi35) (v := ?v35) ?hi35 (by kernel_rfl) (by kernel_rfl) (by kernel_rfl) ?hQ35 (Or.inl ⟨?hw35, ?hy35⟩) (by assumption) ?hr35
            case hi35 => simp only [List.getElem?_toArray, List.getElem?_cons_succ, List.getElem?_cons_zero]; rfl
            case hQ35 => exact fun _ _ _ h => h
            case hw35 => rfl
            case hy35 => intro w hSw; (try dsimp only at hSw); go_simp; (try with_reducible rfl)
            case hr35 =>
            simp only [Act.put, List.setIfInBounds_toArray, List.set_cons_zero, List.set_cons_succ]
            refine wpAnyH_take (i := 9) (oi := ?oi36) (v := ?v36) ?hi36 (by kernel_rfl) (by kernel_rfl) (by kernel_rfl) ?hQ36 (Or.inl ⟨?hw36, ?hy36⟩) (by assumption) ?hr36
            case hi36 => simp only [List.getElem?_toArray, List.getElem?_cons_succ, List.getElem?_cons_zero]; rfl
            case hQ36 => exact fun _ _ _ h => h
            case hw36 => rfl
            case hy36 => intro w hSw; (try dsimp only at hSw); go_simp; (try with_reducible rfl)
            case hr36 =>
            simp only [Act.put, List.setIfInBounds_toArray, List.set_cons_zero, List.set_cons_succ]
            refine wpAnyH_done (by kernel_rfl) ?_ _
            clear hHeld k10 k11
            go_wp2_with fail
            go_meet
            obtain ⟨o', o2', hpp⟩ := HPD.out.step HKD.out.size HTO.out HTO2.out
            exact ⟨v, v, σ', o', o2', rfl, rfl, HPD.out.quiet2 (HPD.out.quiet HKD.out (Nat.le_refl _) HTO.out) (Nat.le_refl _) HTO2.out, hpp, HQ.out.1, HQ.out.2⟩
      case rest =>
      clear d0 d1 d2
      obtain ⟨v, err', σ', o', o2', rfl, rfl, hkx, hpx, hokx, hslx⟩ := hcut
      have hsl2 : σ'.b.length ≤ 140737488355328 := by omega
      obtain ⟨ma, mc, ra, rc, hq2, -, hmr, -⟩ := hpx.b.s
      have m0 := cell_heap hq2 0 rfl
      have m1 := cell_heap hpx.b.blk 1 rfl
      have HMR := Lib.hid hmr
      have HKX := Lib.hid hkx
      have HPX := Lib.hid hpx
      have HOKX := Lib.hid hokx
      have HSLX := Lib.hid hslx
      have v7 : ∀ n, (convert 22 9 (.slice ma σ'.b.length mc)).run Try.prog (wc.drewN n) = .ok (.string (sb σ'.b)) (wc.drewN n) := fun n => Try.conv _ o2' _ _ _ _ rfl (HMR.out.chg (S := []) ((Chg.refl [] wc).drewN n) (by simp))
      clear hq2 hmr hkx hpx hokx hslx
      generalize hSL : σ'.b.length = SL at *
      have HSLN := Lib.hid hSL
      clear hSL
      go_upto_region 18 with (fail)
      refine wp_region_held_drew (S := fun w' => w'.cell? ⟨r2, 1, none⟩ = some (.int .i64 SL) ∧ w'.cell? ⟨p2, 0, none⟩ = some (.slice ma SL mc) ∧ (convert 22 9 (.slice ma SL mc)).run Try.prog w' = .ok (.string (sb σ'.b)) w' ∧ Chg [] wc w') (by kernel_rfl) ?_ (fun hHeld => ?_)
      · exact ⟨by simp [*], by simp [*], v7 1, (Chg.refl _ _).drew⟩
      refine wpAnyH_take (i := 0) (oi := ?oi37) (v := ?v37) ?hi37 (by kernel_rfl) (by kernel_rfl) (by kernel_rfl) ?hQ37 (Or.inl ⟨?hw37, ?hy37⟩) (by assumption) ?hr37
      case hi37 => simp only [List.getElem?_toArray, List.getElem?_cons_zero]; rfl
      case hQ37 => exact fun _ _ _ h => h
      case hw37 => rfl
      case hy37 => intro w hSw; (try dsimp only at hSw); go_simp; (try with_reducible rfl)
      case hr37 =>
      simp only [Act.put, List.setIfInBounds_toArray, List.set_cons_zero, List.set_cons_succ]
      refine wpAnyH_take (i := 1) (oi := ?oi38) (v := ?v38) ?hi38 (by kernel_rfl) (by kernel_rfl) (by kernel_rfl) ?hQ38 (Or.inl ⟨?hw38, ?hy38⟩) (by assumption) ?hr38
      case hi38 => simp only [List.getElem?_toArray, List.getElem?_cons_succ, List.getElem?_cons_zero]; rfl
      case hQ38 => exact fun _ _ _ h => h
      case hw38 => rfl
      case hy38 => intro w hSw; (try dsimp only at hSw); go_simp; (try with_reducible rfl)
      case hr38 =>
      simp only [Act.put, List.setIfInBounds_toArray, List.set_cons_zero, List.set_cons_succ]
      refine wpAnyH_take (i := 2) (oi := ?oi39) (v := ?v39) ?hi39 (by kernel_rfl) (by kernel_rfl) (by kernel_rfl) ?hQ39 (Or.inl ⟨?hw39, ?hy39⟩) (by assumption) ?hr39
      case hi39 => simp only [List.getElem?_toArray, List.getElem?_cons_succ, List.getElem?_cons_zero]; rfl
      case hQ39 => exact fun _ _ _ h => h
      case hw39 => rfl
      case hy39 => intro w hSw; (try dsimp only at hSw); go_simp; (try with_reducible rfl)
      case hr39 =>
      simp only [Act.put, List.setIfInBounds_toArray, List.set_cons_zero, List.set_cons_succ]
      refine wpAnyH_take (i := 3) (oi := ?oi40) (v := ?v40) ?hi40 (by kernel_rfl) (by kernel_rfl) (by kernel_rfl) ?hQ40 (Or.inl ⟨?hw40, ?hy40⟩) (by assumption) ?hr40
      case hi40 => simp only [List.getElem?_toArray, List.getElem?_cons_succ, List.getElem?_cons_zero]; rfl
      case hQ40 => exact fun _ _ _ h => h
      case hw40 => rfl
      case hy40 => intro w hSw; (try dsimp only at hSw); go_simp; (try with_reducible rfl)
      case hr40 =>
      simp only [Act.put, List.setIfInBounds_toArray, List.set_cons_zero, List.set_cons_succ]
      refine wpAnyH_take (i := 4) (oi := ?oi41) (v := ?v41) ?hi41 (by kernel_rfl) (by kernel_rfl) (by kernel_rfl) ?hQ41 (Or.inl ⟨?hw41, ?hy41⟩) (by assumption) ?hr41
      case hi41 => simp only [List.getElem?_toArray, List.getElem?_cons_succ, List.getElem?_cons_zero]; rfl
      case hQ41 => exact fun _ _ _ h => h
      case hw41 => rfl
      case hy41 => intro w hSw; (try dsimp only at hSw); go_simp; (try with_reducible rfl)
      case hr41 =>
      simp only [Act.put, List.setIfInBounds_toArray, List.set_cons_zero, List.set_cons_succ]
      refine wpAnyH_take (i := 6) (oi := ?oi42) (v := ?v42) ?hi42 (by kernel_rfl) (by kernel_rfl) (by kernel_rfl) ?hQ42 (Or.inl ⟨?hw42, ?hy42⟩) (by assumption) ?hr42
      case hi42 => simp only [List.getElem?_toArray, List.getElem?_cons_succ, List.getElem?_cons_zero]; rfl
      case hQ42 => exact fun _ _ _ h => h
      case hw42 => rfl
      case hy42 => intro w hSw; (try dsimp only at hSw); go_simp; (try with_reducible rfl)
      case hr42 =>
      simp only [Act.put, List.setIfInBounds_toArray, List.set_cons_zero, List.set_cons_succ]
      refine wpAnyH_take (i := 7) (oi := ?oi43) (v := ?v43) ?hi43 (by kernel_rfl) (by kernel_rfl) (by kernel_rfl) ?hQ43 (Or.inl ⟨?hw43, ?hy43⟩) (by assumption) ?hr43
      case hi43 => simp only [List.getElem?_toArray, List.getElem?_cons_succ, List.getElem?_cons_zero]; rfl
      case hQ43 => exact fun _ _ _ h => h
      case hw43 => rfl
      case hy43 => intro w hSw; (try dsimp only at hSw); go_simp; (try with_reducible rfl)
      case hr43 =>
      simp only [Act.put, List.setIfInBounds_toArray, List.set_cons_zero, List.set_cons_succ]
      refine wpAnyH_take (i := 8) (oi := ?oi44) (v := ?v44) ?hi44 (by kernel_rfl) (by kernel_rfl) (by kernel_rfl) ?hQ44 (Or.inl ⟨?hw44, ?hy44⟩) (by assumption) ?hr44
      case hi44 => simp only [List.getElem?_toArray, List.getElem?_cons_succ, List.getElem?_cons_zero]; rfl
      case hQ44 => exact fun _ _ _ h => h
      case hw44 => rfl
      case hy44 => intro w hSw; (try dsimp only at hSw); go_simp; (try with_reducible rfl)
      case hr44 =>
      simp only [Act.put, List.setIfInBounds_toArray, List.set_cons_zero, List.set_cons_succ]
      refine wpAnyH_take (i := 9) (oi := ?oi45) (v := ?v45) ?hi45 (by kernel_rfl) (by kernel_rfl) (by kernel_rfl) ?hQ45 (Or.inl ⟨?hw45, ?hy45⟩) (by assumption) ?hr45
      case hi45 => simp only [List.getElem?_toArray, List.getElem?_cons_succ, List.getElem?_cons_zero]; rfl
      case hQ45 => exact fun _ _ _ h => h
      case hw45 => rfl
      case hy45 => intro w hSw; (try dsimp only at hSw); go_simp; (try with_reducible rfl)
      case hr45 =>
      simp only [Act.put, List.setIfInBounds_toArray, List.set_cons_zero, List.set_cons_succ]
      refine wpAnyH_ready (rs := [5]) (by kernel_rfl) (by simp) (AllReadyH.cons (o := ?oc46) ?hc46 (fun K hK => ?hs46) AllReadyH.nil)
      case hc46 => simp only [List.getElem?_toArray, List.getElem?_cons_succ, List.getElem?_cons_zero]; rfl
      case hs46 =>
      rw [if_pos (by rfl)]
      go_simp
      go_at_call 50; refine (writerOffset _ W.heap.size r p f1 o' err' σ' (HPX.out.chg (Chg.refl [] wc).drew).a).mono ?_; rintro e w4 ⟨rfl, hww⟩; obtain rfl := hww.symm; rw [HSLN.out]
      go_wp2_with fail
      refine hK.out _ _ ?_ (fun hHeld => ?_)
      · exact hHeld
      clear hK K
      try simp only [Act.put, List.setIfInBounds_toArray, List.set_cons_zero, List.set_cons_succ]
      refine wpAnyH_take (i := 10) (oi := ?oi47) (v := ?v47) ?hi47 (by kernel_rfl) (by kernel_rfl) (by kernel_rfl) ?hQ47 (Or.inl ⟨?hw47, ?hy47⟩) (by assumption) ?hr47
      case hi47 => simp only [List.getElem?_toArray, List.getElem?_cons_succ, List.getElem?_cons_zero]; rfl
      case hQ47 => exact fun _ _ _ h => h
      case hw47 => rfl
      case hy47 => intro w hSw; (try dsimp only at hSw); go_simp; (try with_reducible rfl)
      case hr47 =>
      simp only [Act.put, List.setIfInBounds_toArray, List.set_cons_zero, List.set_cons_succ]
      refine wpAnyH_take (i := 11) (oi := ?oi48) (v := ?v48) ?hi48 (by kernel_rfl) (by kernel_rfl) (by kernel_rfl) ?hQ48 (Or.inl ⟨?hw48, ?hy48⟩) (by assumption) ?hr48
      case hi48 => simp only [List.getElem?_toArray, List.getElem?_cons_succ, List.getElem?_cons_zero]; rfl
      case hQ48 => exact fun _ _ _ h => h
      case hw48 => rfl
      case hy48 => intro w hSw; (try dsimp only at hSw); go_simp; (try with_reducible rfl)
      case hr48 =>
      simp only [Act.put, List.setIfInBounds_toArray, List.set_cons_zero, List.set_cons_succ]
      refine wpAnyH_take (i := 12) (oi := ?oi49) (v := ?v49) ?hi49 (by kernel_rfl) (by kernel_rfl) (by kernel_rfl) ?hQ49 (Or.inl ⟨?hw49, ?hy49⟩) (by assumption) ?hr49
      case hi49 => simp only [List.getElem?_toArray, List.getElem?_cons_succ, List.getElem?_cons_zero]; rfl
      case hQ49 => exact fun _ _ _ h => h
      case hw49 => rfl
      case hy49 => intro w hSw; (try dsimp only at hSw); go_simp; (try with_reducible rfl)
      case hr49 =>
      simp only [Act.put, List.setIfInBounds_toArray, List.set_cons_zero, List.set_cons_succ]
      refine wpAnyH_take (i := 13) (oi := ?oi50) (v := ?v50) ?hi50 (by kernel_rfl) (by kernel_rfl) (by kernel_rfl) ?hQ50 (Or.inl ⟨?hw50, ?hy50⟩) (by assumption) ?hr50
      case hi50 => simp only [List.getElem?_toArray, List.getElem?_cons_succ, List.getElem?_cons_zero]; rfl
      case hQ50 => exact fun _ _ _ h => h
      case hw50 => rfl
      case hy50 => intro w hSw; (try dsimp only at hSw); go_simp; (try with_reducible rfl)
      case hr50 =>
      simp only [Act.put, List.setIfInBounds_toArray, List.set_cons_zero, List.set_cons_succ]
      refine wpAnyH_take (i := 16) (oi := ?oi51) (v := ?v51) ?hi51 (by kernel_rfl) (by kernel_rfl) (by kernel_rfl) ?hQ51 (Or.inl ⟨?hw51, ?hy51⟩) (by assumption) ?hr51
      case hi51 => simp only [List.getElem?_toArray, List.getElem?_cons_succ, List.getElem?_cons_zero]; rfl
      case hQ51 => exact fun _ _ _ h => h
      case hw51 => rfl
      case hy51 => intro w hSw; (try dsimp only at hSw); go_simp; (try with_reducible rfl)
      case hr51 =>
      simp only [Act.put, List.setIfInBounds_toArray, List.set_cons_zero, List.set_cons_succ]
      refine wpAnyH_take (i := 17) (oi := ?oi52) (v := ?v52) ?hi52 (by kernel_rfl) (by kernel_rfl) (by kernel_rfl) ?hQ52 (Or.inl ⟨?hw52, ?hy52⟩) (by assumption) ?hr52
      case hi52 => simp only [List.getElem?_toArray, List.getElem?_cons_succ, List.getElem?_cons_zero]; rfl
      case hQ52 => exact fun _ _ _ h => h
      case hw52 => rfl
      case hy52 => intro w hSw; (try dsimp only at hSw); go_simp; (try with_reducible rfl)
      case hr52 =>
      simp only [Act.put, List.setIfInBounds_toArray, List.set_cons_zero, List.set_cons_succ]
      refine wpAnyH_take (i := 18) (oi := ?oi53) (v := ?v53) ?hi53 (by kernel_rfl) (by kernel_rfl) (by kernel_rfl) ?hQ53 (Or.inl ⟨?hw53, ?hy53⟩) (by assumption) ?hr53
      case hi53 => simp only [List.getElem?_toArray, List.getElem?_cons_succ, List.getElem?_cons_zero]; rfl
      case hQ53 => exact fun _ _ _ h => h
      case hw53 => rfl
      case hy53 => intro w hSw; (try dsimp only at hSw); go_simp; (try with_reducible rfl)
      case hr53 =>
      simp only [Act.put, List.setIfInBounds_toArray, List.set_cons_zero, List.set_cons_succ]
      refine wpAnyH_take (i := 19) (oi := ?oi54) (v := ?v54) ?hi54 (by kernel_rfl) (by kernel_rfl) (by kernel_rfl) ?hQ54 (Or.inl ⟨?hw54, ?hy54⟩) (by assumption) ?hr54
      case hi54 => simp only [List.getElem?_toArray, List.getElem?_cons_succ, List.getElem?_cons_zero]; rfl
      case hQ54 => exact fun _ _ _ h => h
      case hw54 => rfl
      case hy54 => intro w hSw; (try dsimp only at hSw); go_simp; (try with_reducible rfl)
      case hr54 =>
      simp only [Act.put, List.setIfInBounds_toArray, List.set_cons_zero, List.set_cons_succ]
      refine wpAnyH_take (i := 20) (oi := ?oi55) (v := ?v55) ?hi55 (by kernel_rfl) (by kernel_rfl) (by kernel_rfl) ?hQ55 (Or.inl ⟨?hw55, ?hy55⟩) (by assumption) ?hr55
      case hi55 => simp only [List.getElem?_toArray, List.getElem?_cons_succ, List.getElem?_cons_zero]; rfl
      case hQ55 => exact fun _ _ _ h => h
      case hw55 => rfl
      case hy55 => intro w hSw; (try dsimp only at hSw); go_simp; (try with_reducible rfl)
      case hr55 =>
      simp only [Act.put, List.setIfInBounds_toArray, List.set_cons_zero, List.set_cons_succ]
      refine wpAnyH_ready (rs := [14]) (by kernel_rfl) (by simp) (AllReadyH.cons (o := ?oc56) ?hc56 (fun K hK => ?hs56) AllReadyH.nil)
      case hc56 => simp only [List.getElem?_toArray, List.getElem?_cons_succ, List.getElem?_cons_zero]; rfl
      case hs56 =>
      rw [if_pos (by rfl)]
      go_simp
      go_at_call 32; refine (sinkBytes _ W.heap.size p f1 o' σ' (HPX.out.chg (Chg.refl [] wc).drew).a.s (by rw [HSLN.out]; exact hsl2)).mono ?_; rintro e w5 ⟨a5, c5, rfl, hown5, hgr5⟩; rw [HSLN.out] at hown5 ⊢; have hc5 : Chg [] wc w5 := (Chg.refl [] wc).drew.trans (Chg.of_grown hgr5 (by simp)); have v5 : (convert 22 9 (.slice a5 SL c5)).run Try.prog w5 = .ok (.string (sb σ'.b)) w5 := conv_own (S := []) HSLN.out hown5 (Chg.refl _ _) (by simp); have v6 : (convert 22 9 (.slice ma SL mc)).run Try.prog w5 = .ok (.string (sb σ'.b)) w5 := Try.conv _ o2' _ _ _ _ HSLN.out (HMR.out.chg (S := []) hc5 (by simp)); have HC5 := Lib.hid hc5; have HOW5 := Lib.hid hown5; clear hown5 hgr5 hc5
      go_wp2_with fail
      refine hK.out _ _ ?_ (fun hHeld => ?_)
      · exact ⟨HC5.out.cell m1 (by simp), HC5.out.cell m0 (by simp), v6, HC5.out⟩
      clear hK K
      try simp only [Act.put, List.setIfInBounds_toArray, List.set_cons_zero, List.set_cons_succ]
      refine wpAnyH_weaken (S := fun w' => w'.cell? ⟨r2, 1, none⟩ = some (.int .i64 SL) ∧ w'.cell? ⟨p2, 0, none⟩ = some (.slice ma SL mc) ∧ (convert 22 9 (.slice ma SL mc)).run Try.prog w' = .ok (.string (sb σ'.b)) w' ∧ (convert 22 9 (.slice a5 SL c5)).run Try.prog w' = .ok (.string (sb σ'.b)) w' ∧ Chg [] wc w') (fun w' h => ⟨h.1, h.2.1, h.2.2.1, h.2.2.2.2⟩) ?_
      have hHeld : (fun w' => w'.cell? ⟨r2, 1, none⟩ = some (.int .i64 SL) ∧ w'.cell? ⟨p2, 0, none⟩ = some (.slice ma SL mc) ∧ (convert 22 9 (.slice ma SL mc)).run Try.prog w' = .ok (.string (sb σ'.b)) w' ∧ (convert 22 9 (.slice a5 SL c5)).run Try.prog w' = .ok (.string (sb σ'.b)) w' ∧ Chg [] wc w') w5 := ⟨hHeld.1, hHeld.2.1, hHeld.2.2.1, v5, hHeld.2.2.2⟩
      refine wpAnyH_take (i := 15) (oi := ?oi57) (v := ?v57) ?hi57 (by kernel_rfl) (by kernel_rfl) (by kernel_rfl) ?hQ57 (Or.inl ⟨?hw57, ?hy57⟩) (by assumption) ?hr57
      case hi57 => simp only [List.getElem?_toArray, List.getElem?_cons_succ, List.getElem?_cons_zero]; rfl
      case hQ57 => exact fun _ _ _ h => h
      case hw57 => rfl
      case hy57 => intro w hSw; (try dsimp only at hSw); go_simp; (try with_reducible rfl)
      case hr57 =>
      simp only [Act.put, List.setIfInBounds_toArray, List.set_cons_zero, List.set_cons_succ]
      refine wpAnyH_take (i := 21) (oi := ?oi58) (v := ?v58) ?hi58 (by kernel_rfl) (by kernel_rfl) (by kernel_rfl) ?hQ58 (Or.inl ⟨?hw58, ?hy58⟩) (by assumption) ?hr58
      case hi58 => simp only [List.getElem?_toArray, List.getElem?_cons_succ, List.getElem?_cons_zero]; rfl
      case hQ58 => exact fun _ _ _ h => h
      case hw58 => rfl
      case hy58 => intro w hSw; (try dsimp only at hSw); go_simp; (try with_reducible rfl)
      case hr58 =>
      simp only [Act.put, List.setIfInBounds_toArray, List.set_cons_zero, List.set_cons_succ]
      refine wpAnyH_take (i := 22) (oi := ?oi59) (v := ?v59) ?hi59 (by kernel_rfl) (by kernel_rfl) (by kernel_rfl) ?hQ59 (Or.inl ⟨?hw59, ?hy59⟩) (by assumption) ?hr59
      case hi59 => simp only [List.getElem?_toArray, List.getElem?_cons_succ, List.getElem?_cons_zero]; rfl
      case hQ59 => exact fun _ _ _ h => h
      case hw59 => rfl
      case hy59 => intro w hSw; (try dsimp only at hSw); go_simp; (try with_reducible rfl)
      case hr59 =>
      simp only [Act.put, List.setIfInBounds_toArray, List.set_cons_zero, List.set_cons_succ]
      refine wpAnyH_done (by kernel_rfl) ?_ _
      clear hHeld
      go_wp2_with fail
      go_roundw
      case rel => exact ⟨k + 1, by omega, by go_num, HKX.out.trans HC5.out, err', σ', o', o2', HPX.out.chg HC5.out, HOKX.out, by have := HSLX.out; have := HSLN.out; omega⟩
      case measure => simp [intOf]; omega
    · go_wp2_with (go_at_call 42; refine (blkAlive _).mono ?_; rintro e w9 ⟨rfl, hc9⟩; have HC9 := Lib.hid hc9; clear hc9)
      go_ret
      exact ⟨rfl, (HW.out.trans HKR.out).trans HC9.out⟩
end Go.Proofs.Ytljlcigbehgohaa
