/- paxtarlaw06.BlockReaderMatchesReference. -/
import Derived.Test.YtljlcigbehgohaaRBlkR
namespace Go.Pax
open Go.RowKit
theorem rdNext_sound {err : Int} {ρ : RSrc} (h : ρ.Ok) : (rdNext err ρ).2.2.Ok := by
  by_cases he : err = 0
  · subst he; rw [rdNext_ok]; exact (nextF_is 512 [] ρ h (Nat.zero_le _) (Nat.le_add_left _ _)).1
  · rw [rdNext_err he]; exact h
end Go.Pax
namespace Go.Proofs.Ytljlcigbehgohaa
open Go.RowKit Go.Pax

theorem refNewN (w : World) (bo co : Option Addr) (L bc M cc : Nat) (b : List UInt8) (c : List Int) (fail : Int) (fp : List Nat) (hL : b.length = L) (hM : c.length = M) (hb : L ≤ 140737488355328) (hcl : M * 8 ≤ 140737488355328)
    (h1 : Rd w fp bo (bv b)) (h2 : Rd w fp co (iv c)) :
    Calls Try.prog 28 #[.slice bo L bc, .agg #[.slice co M cc, .int .i64 fail]] w fun e w' => Made e w w' fun w' p fp => RSrcAt w' p fp ⟨b, c, fail, 0, 0⟩ := by
  subst hL; subst hM
  exact refNew w bo co bc cc b c fail fp hb hcl h1 h2
/-- A reader and its reference, side by side. -/
structure BPair (B : Nat) (w : World) (r p r2 q : Nat) (f1 f2 : List Nat) (err : Int) (ρ : RSrc) : Prop where
  ok : ρ.Ok
  s : RdrAt w r p f1 err ρ
  m : RRdrAt w r2 q f2 err ρ
structure BApart (B r p r2 q : Nat) (f1 f2 : List Nat) : Prop where
  br : B ≤ r
  bp : B ≤ p
  br2 : B ≤ r2
  bq : B ≤ q
  pf : p ∉ f1
  qf : q ∉ f2
  n1 : r ≠ r2 ∧ r ≠ q ∧ p ≠ r2 ∧ p ≠ q
  n2 : r ∉ f2 ∧ p ∉ f2 ∧ r2 ∉ f1 ∧ q ∉ f1
theorem BPair.chg {B : Nat} {w w' : World} {r p r2 q : Nat} {f1 f2 : List Nat} {err : Int} {ρ : RSrc} (h : BPair B w r p r2 q f1 f2 err ρ) (k : Chg [] w w') : BPair B w' r p r2 q f1 f2 err ρ :=
  ⟨h.ok, h.s.chg k (by simp) (by simp) (by simp), h.m.chg k (by simp) (by simp) (by simp)⟩

set_option maxRecDepth 100000 in
set_option maxHeartbeats 8000000 in
theorem blkReads (w : World) (bo co : Option Addr) (bc cc : Nat) (b : List UInt8) (c : List Int) (fail : Int) (fp : List Nat)
    (hb : b.length ≤ 140737488355328) (hcl : c.length * 8 ≤ 140737488355328) (hf : -9223372036854775808 ≤ fail ∧ fail ≤ 9223372036854775807)
    (h1 : Rd w fp bo (bv b)) (h2 : Rd w fp co (iv c)) :
    Calls Try.prog 13 #[.slice bo b.length bc, .agg #[.slice co c.length cc, .int .i64 fail]] w fun e w' => e = .returned (.bool true) ∧ Chg [] w w' := by
  have H1 := Lib.hid h1
  have H2 := Lib.hid h2
  have HF := Lib.hid hf
  clear h1 h2 hf
  by_cases g2 : 5000 < b.length
  · go_enter Try.func13, Try.ntmps13
    go_wp2_with (go_at_call 42; refine (blkAlive _).mono ?_; rintro e w9 ⟨rfl, hc9⟩)
    go_ret
    exact ⟨rfl, ((Chg.refl _ _).alloc _).trans hc9⟩
  by_cases g3 : 300 < c.length
  · go_enter Try.func13, Try.ntmps13
    go_wp2_with (go_at_call 42; refine (blkAlive _).mono ?_; rintro e w9 ⟨rfl, hc9⟩)
    go_ret
    exact ⟨rfl, ((Chg.refl _ _).alloc _).trans hc9⟩
  have hok : RSrc.Ok ⟨b, c, fail, 0, 0⟩ := RSrc.ok_new hb (by omega) HF.out
  have HOK := Lib.hid hok
  clear hok
  generalize hL : b.length = L at *
  generalize hM : c.length = M at *
  have HL := Lib.hid hL
  have HM := Lib.hid hM
  clear hL hM
  go_enter Try.func13, Try.ntmps13
  go_upto_region 3 with (fail)
  have hc0 : (w.alloc (.cells #[.slice co M cc, .int .i64 fail] 25)).cell? ⟨w.heap.size, 0, none⟩ = some (.slice co M cc) := by go_simp
  have hc1 : (w.alloc (.cells #[.slice co M cc, .int .i64 fail] 25)).cell? ⟨w.heap.size, 1, none⟩ = some (.int .i64 fail) := by go_simp
  have hcW : Chg [] w (w.alloc (.cells #[.slice co M cc, .int .i64 fail] 25)) := (Chg.refl _ _).alloc _
  generalize w.alloc (.cells #[.slice co M cc, .int .i64 fail] 25) = W at *
  have HC := Lib.hid hcW
  clear hcW
  go_upto_region 4 with (first
    | (go_at_call 24; refine (srcNewN _ bo co L bc M cc b c fail fp HL.out HM.out hb hcl (H1.out.chg HC.out (by simp)) (H2.out.chg HC.out (by simp))).mono ?_; rintro e w2 ⟨p, f1, rfl, s2, k2, b2, bf2⟩; have HS2 := Lib.hid s2; have HK2 := Lib.hid k2; have HBF2 := Lib.hid bf2; clear s2 k2 bf2)
    | (go_at_call 43; refine (newReader _ p f1 ⟨b, c, fail, 0, 0⟩ HS2.out rfl (fun hm => by have := (HBF2.out _ hm).2; omega)).mono ?_; rintro e w3 ⟨r, rfl, s3, k3, hr3⟩; have HS3 := Lib.hid s3; have HK3 := Lib.hid k3; have HR3 := Lib.hid hr3; clear s3 k3 hr3))
  have d0 := (HK2.out.trans HK3.out).cell hc0 (by simp)
  have d1 := (HK2.out.trans HK3.out).cell hc1 (by simp)
  clear hc0 hc1
  have HCX := Lib.hid (HC.out.trans (HK2.out.trans HK3.out))
  go_upto_region 5 with (go_at_call 28; refine (refNewN _ bo co L bc M cc b c fail fp HL.out HM.out hb hcl (H1.out.chg HCX.out (by simp)) (H2.out.chg HCX.out (by simp))).mono ?_; rintro e w4 ⟨q, f2, rfl, s4, k4, b4, bf4⟩; have HS4 := Lib.hid s4; have HK4 := Lib.hid k4; have HBF4 := Lib.hid bf4; clear s4 k4 bf4)
  have k5 : Chg [] w4 (w4.alloc (.cells #[.pointer (some ⟨q, 0, none⟩), .int .i64 0, .int .i64 0] 72)) := (Chg.refl _ _).alloc _
  have hz1 := HC.out.size
  have hz2 := HS2.out.lt
  have hz3 := HR3.out
  have hz4 := HS3.out.lt
  have hz5 := HS4.out.lt
  have hpf : p ∉ f1 := by obtain ⟨_, _, _, _, _, _, _, h, _⟩ := HS2.out; exact h
  have hqf : q ∉ f2 := by obtain ⟨_, _, _, _, _, _, _, h, _⟩ := HS4.out; exact h
  have hap : BApart w.heap.size r p w4.heap.size q f1 f2 := ⟨by omega, by omega, by omega, by omega, hpf, hqf, ⟨by omega, by omega, by omega, by omega⟩,
    ⟨fun hm => by have := HBF4.out _ hm; omega, fun hm => by have := HBF4.out _ hm; omega, fun hm => by have := HBF2.out _ hm; omega, fun hm => by have := HBF2.out _ hm; omega⟩⟩
  have hpr : BPair w.heap.size (w4.alloc (.cells #[.pointer (some ⟨q, 0, none⟩), .int .i64 0, .int .i64 0] 72)) r p w4.heap.size q f1 f2 0 ⟨b, c, fail, 0, 0⟩ :=
    ⟨HOK.out, HS3.out.chg (HK4.out.trans k5) (by simp) (by simp) (by simp), ⟨heap_alloc_new _ _, HS4.out.chg k5 (by simp) (by simp), by omega, fun hm => by have := HBF4.out _ hm; omega⟩⟩
  have hk0 := (HCX.out.trans HK4.out).trans k5
  have HAP := Lib.hid hap
  have HPR0 := Lib.hid hpr
  have HK0 := Lib.hid hk0
  clear k5 hz1 hz2 hz3 hz4 hz5 hpf hqf hap hpr hk0 d0 d1
  generalize w4.alloc (.cells #[.pointer (some ⟨q, 0, none⟩), .int .i64 0, .int .i64 0] 72) = W5 at *
  generalize w4.heap.size = r2 at *
  have hq0 : 0 ≤ (L : Int) / 512 ∧ (L : Int) / 512 ≤ L := by omega
  obtain ⟨hq0, hq1⟩ := hq0
  go_wp2_with fail
  obtain ⟨N, hN⟩ : ∃ N : Nat, (L : Int) / 512 + 3 = N := ⟨((L : Int) / 512 + 3).toNat, by omega⟩
  rw [hN]
  have hNl : N ≤ 5003 := by omega
  clear hN hq0 hq1
  go_loopw [36] (fun i wr => ∃ k : Nat, k ≤ N ∧ i = .int .i64 k ∧ Chg [] w wr ∧ ∃ err ρ, BPair w.heap.size wr r p r2 q f1 f2 err ρ) (fun i _ => N - (intOf i).toNat)
  case atStart => exact ⟨0, Nat.zero_le _, rfl, HK0.out, 0, _, HPR0.out⟩
  case round =>
    obtain ⟨k, hk, rfl, hkr, err, ρ, hpr⟩ := hrel
    have HKR := Lib.hid hkr
    have HPR := Lib.hid hpr
    clear hkr hpr
    by_cases hlt : k < N
    · go_upto_region 10 with (go_at_call 44; refine (readerNext _ r p f1 err ρ HPR.out.s HPR.out.ok HAP.out.pf).mono ?_; rintro e w5 ⟨⟨a5, c5, rfl, hown5⟩, s5, k5⟩; have HO5 := Lib.hid hown5; have HS5 := Lib.hid s5; have HK5 := Lib.hid k5; clear hown5 s5 k5)
      have hm5 := HPR.out.m.chg HK5.out (by simp; exact ⟨Ne.symm HAP.out.n1.1, Ne.symm HAP.out.n1.2.2.1⟩) (by simp; exact ⟨Ne.symm HAP.out.n1.2.1, Ne.symm HAP.out.n1.2.2.2⟩) (fun x hx => by simp; exact ⟨by rintro rfl; exact HAP.out.n2.1 hx, by rintro rfl; exact HAP.out.n2.2.1 hx⟩)
      have HM5 := Lib.hid hm5
      clear hm5
      go_upto_region 11 with (go_at_call 45; refine (rreaderNext _ r2 q f2 err ρ HM5.out HPR.out.ok HAP.out.qf).mono ?_; rintro e w6 ⟨⟨a6, c6, rfl, hown6⟩, s6, k6⟩; have HO6 := Lib.hid hown6; have HS6 := Lib.hid s6; have HK6 := Lib.hid k6; clear hown6 s6 k6)
      have hok6 := rdNext_sound (err := err) HPR.out.ok
      have hlr2 := HPR.out.m.lt
      have hlq : q < wr.heap.size := HPR.out.m.s.lt
      have hs6 := HS5.out.chg HK6.out (by simp; exact ⟨HAP.out.n1.1, HAP.out.n1.2.1⟩) (by simp; exact ⟨HAP.out.n1.2.2.1, HAP.out.n1.2.2.2⟩) (fun x hx => by simp; exact ⟨by rintro rfl; exact HAP.out.n2.2.2.1 hx, by rintro rfl; exact HAP.out.n2.2.2.2 hx⟩)
      have ho6 := HO6.out
      have ho5 := HO5.out
      have hm6 := HS6.out
      have hk6 := HK6.out
      generalize rdNext err ρ = R at *
      obtain ⟨code, bs, ρ'⟩ := R
      simp only at hs6 ho5 ho6 hm6 hok6
      have v5 : ∀ n, (convert 22 9 (.slice a5 bs.length c5)).run Try.prog (w6.drewN n) = .ok (.string (sb bs)) (w6.drewN n) := fun n => conv_own (S := [r2, q]) rfl ho5 (hk6.drewN n) (fun x hx => by simp; omega)
      have v6 : ∀ n, (convert 22 9 (.slice a6 bs.length c6)).run Try.prog (w6.drewN n) = .ok (.string (sb bs)) (w6.drewN n) := fun n => conv_own (S := []) rfl ho6 ((Chg.refl _ _).drewN n) (by simp)
      have m1 := cell_heap hm6.blk 1 rfl
      have hpr6 : BPair w.heap.size w6 r p r2 q f1 f2 code ρ' := ⟨hok6, hs6, hm6⟩
      have hk06 := (HKR.out.trans' HK5.out (U := []) (by simp) (by have h1 := HAP.out.br; have h2 := HAP.out.bp; simp; omega)).trans' hk6 (U := []) (by simp) (by have h1 := HAP.out.br2; have h2 := HAP.out.bq; simp; omega)
      have HPR6 := Lib.hid hpr6
      have HK06 := Lib.hid hk06
      clear hs6 ho6 ho5 hm6 hk6 hpr6 hk06 hok6 hlr2 hlq HO5 HO6 HS5 HS6 HM5
      refine wp_region_held_drew (S := fun w' => (convert 22 9 (.slice a5 bs.length c5)).run Try.prog w' = .ok (.string (sb bs)) w' ∧ (convert 22 9 (.slice a6 bs.length c6)).run Try.prog w' = .ok (.string (sb bs)) w' ∧ w'.cell? ⟨r2, 1, none⟩ = some (.int .i64 ρ'.off) ∧ Chg [] w6 w') (by kernel_rfl) ?_ (fun hHeld => ?_)
      · exact ⟨v5 1, v6 1, by simp [*], (Chg.refl _ _).drew⟩
      refine wpAnyH_take (i := 0) (oi := ?oi1) (v := ?v1) ?hi1 (by kernel_rfl) (by kernel_rfl) (by kernel_rfl) ?hQ1 (Or.inl ⟨?hw1, ?hy1⟩) (by assumption) ?hr1
      case hi1 => simp only [List.getElem?_toArray, List.getElem?_cons_zero]; rfl
      case hQ1 => exact fun _ _ _ h => h
      case hw1 => rfl
      case hy1 => intro w hSw; (try dsimp only at hSw); go_simp; (try with_reducible rfl)
      case hr1 =>
      simp only [Act.put, List.setIfInBounds_toArray, List.set_cons_zero, List.set_cons_succ]
      refine wpAnyH_take (i := 1) (oi := ?oi2) (v := ?v2) ?hi2 (by kernel_rfl) (by kernel_rfl) (by kernel_rfl) ?hQ2 (Or.inl ⟨?hw2, ?hy2⟩) (by assumption) ?hr2
      case hi2 => simp only [List.getElem?_toArray, List.getElem?_cons_succ, List.getElem?_cons_zero]; rfl
      case hQ2 => exact fun _ _ _ h => h
      case hw2 => rfl
      case hy2 => intro w hSw; (try dsimp only at hSw); go_simp; (try with_reducible rfl)
      case hr2 =>
      simp only [Act.put, List.setIfInBounds_toArray, List.set_cons_zero, List.set_cons_succ]
      refine wpAnyH_take (i := 2) (oi := ?oi3) (v := ?v3) ?hi3 (by kernel_rfl) (by kernel_rfl) (by kernel_rfl) ?hQ3 (Or.inl ⟨?hw3, ?hy3⟩) (by assumption) ?hr3
      case hi3 => simp only [List.getElem?_toArray, List.getElem?_cons_succ, List.getElem?_cons_zero]; rfl
      case hQ3 => exact fun _ _ _ h => h
      case hw3 => rfl
      case hy3 => intro w hSw; (try dsimp only at hSw); go_simp; (try with_reducible rfl)
      case hr3 =>
      simp only [Act.put, List.setIfInBounds_toArray, List.set_cons_zero, List.set_cons_succ]
      refine wpAnyH_take (i := 3) (oi := ?oi4) (v := ?v4) ?hi4 (by kernel_rfl) (by kernel_rfl) (by kernel_rfl) ?hQ4 (Or.inl ⟨?hw4, ?hy4⟩) (by assumption) ?hr4
      case hi4 => simp only [List.getElem?_toArray, List.getElem?_cons_succ, List.getElem?_cons_zero]; rfl
      case hQ4 => exact fun _ _ _ h => h
      case hw4 => rfl
      case hy4 => intro w hSw; (try dsimp only at hSw); go_simp; (try with_reducible rfl)
      case hr4 =>
      simp only [Act.put, List.setIfInBounds_toArray, List.set_cons_zero, List.set_cons_succ]
      refine wpAnyH_take (i := 4) (oi := ?oi5) (v := ?v5) ?hi5 (by kernel_rfl) (by kernel_rfl) (by kernel_rfl) ?hQ5 (Or.inl ⟨?hw5, ?hy5⟩) (by assumption) ?hr5
      case hi5 => simp only [List.getElem?_toArray, List.getElem?_cons_succ, List.getElem?_cons_zero]; rfl
      case hQ5 => exact fun _ _ _ h => h
      case hw5 => rfl
      case hy5 => intro w hSw; (try dsimp only at hSw); go_simp; (try with_reducible rfl)
      case hr5 =>
      simp only [Act.put, List.setIfInBounds_toArray, List.set_cons_zero, List.set_cons_succ]
      refine wpAnyH_take (i := 5) (oi := ?oi6) (v := ?v6) ?hi6 (by kernel_rfl) (by kernel_rfl) (by kernel_rfl) ?hQ6 (Or.inl ⟨?hw6, ?hy6⟩) (by assumption) ?hr6
      case hi6 => simp only [List.getElem?_toArray, List.getElem?_cons_succ, List.getElem?_cons_zero]; rfl
      case hQ6 => exact fun _ _ _ h => h
      case hw6 => rfl
      case hy6 => intro w hSw; (try dsimp only at hSw); go_simp; (try with_reducible rfl)
      case hr6 =>
      simp only [Act.put, List.setIfInBounds_toArray, List.set_cons_zero, List.set_cons_succ]
      refine wpAnyH_take (i := 6) (oi := ?oi7) (v := ?v7) ?hi7 (by kernel_rfl) (by kernel_rfl) (by kernel_rfl) ?hQ7 (Or.inl ⟨?hw7, ?hy7⟩) (by assumption) ?hr7
      case hi7 => simp only [List.getElem?_toArray, List.getElem?_cons_succ, List.getElem?_cons_zero]; rfl
      case hQ7 => exact fun _ _ _ h => h
      case hw7 => rfl
      case hy7 => intro w hSw; (try dsimp only at hSw); go_simp; (try with_reducible rfl)
      case hr7 =>
      simp only [Act.put, List.setIfInBounds_toArray, List.set_cons_zero, List.set_cons_succ]
      refine wpAnyH_take (i := 7) (oi := ?oi8) (v := ?v8) ?hi8 (by kernel_rfl) (by kernel_rfl) (by kernel_rfl) ?hQ8 (Or.inl ⟨?hw8, ?hy8⟩) (by assumption) ?hr8
      case hi8 => simp only [List.getElem?_toArray, List.getElem?_cons_succ, List.getElem?_cons_zero]; rfl
      case hQ8 => exact fun _ _ _ h => h
      case hw8 => rfl
      case hy8 => intro w hSw; (try dsimp only at hSw); go_simp; (try with_reducible rfl)
      case hr8 =>
      simp only [Act.put, List.setIfInBounds_toArray, List.set_cons_zero, List.set_cons_succ]
      refine wpAnyH_take (i := 8) (oi := ?oi9) (v := ?v9) ?hi9 (by kernel_rfl) (by kernel_rfl) (by kernel_rfl) ?hQ9 (Or.inl ⟨?hw9, ?hy9⟩) (by assumption) ?hr9
      case hi9 => simp only [List.getElem?_toArray, List.getElem?_cons_succ, List.getElem?_cons_zero]; rfl
      case hQ9 => exact fun _ _ _ h => h
      case hw9 => rfl
      case hy9 => intro w hSw; (try dsimp only at hSw); go_simp; (try with_reducible rfl)
      case hr9 =>
      simp only [Act.put, List.setIfInBounds_toArray, List.set_cons_zero, List.set_cons_succ]
      refine wpAnyH_take (i := 9) (oi := ?oi10) (v := ?v10) ?hi10 (by kernel_rfl) (by kernel_rfl) (by kernel_rfl) ?hQ10 (Or.inl ⟨?hw10, ?hy10⟩) (by assumption) ?hr10
      case hi10 => simp only [List.getElem?_toArray, List.getElem?_cons_succ, List.getElem?_cons_zero]; rfl
      case hQ10 => exact fun _ _ _ h => h
      case hw10 => rfl
      case hy10 => intro w hSw; (try dsimp only at hSw); go_simp; (try with_reducible rfl)
      case hr10 =>
      simp only [Act.put, List.setIfInBounds_toArray, List.set_cons_zero, List.set_cons_succ]
      refine wpAnyH_take (i := 10) (oi := ?oi11) (v := ?v11) ?hi11 (by kernel_rfl) (by kernel_rfl) (by kernel_rfl) ?hQ11 (Or.inl ⟨?hw11, ?hy11⟩) (by assumption) ?hr11
      case hi11 => simp only [List.getElem?_toArray, List.getElem?_cons_succ, List.getElem?_cons_zero]; rfl
      case hQ11 => exact fun _ _ _ h => h
      case hw11 => rfl
      case hy11 => intro w hSw; (try dsimp only at hSw); go_simp; (try with_reducible rfl)
      case hr11 =>
      simp only [Act.put, List.setIfInBounds_toArray, List.set_cons_zero, List.set_cons_succ]
      refine wpAnyH_take (i := 11) (oi := ?oi12) (v := ?v12) ?hi12 (by kernel_rfl) (by kernel_rfl) (by kernel_rfl) ?hQ12 (Or.inl ⟨?hw12, ?hy12⟩) (by assumption) ?hr12
      case hi12 => simp only [List.getElem?_toArray, List.getElem?_cons_succ, List.getElem?_cons_zero]; rfl
      case hQ12 => exact fun _ _ _ h => h
      case hw12 => rfl
      case hy12 => intro w hSw; (try dsimp only at hSw); go_simp; (try with_reducible rfl)
      case hr12 =>
      simp only [Act.put, List.setIfInBounds_toArray, List.set_cons_zero, List.set_cons_succ]
      refine wpAnyH_take (i := 13) (oi := ?oi13) (v := ?v13) ?hi13 (by kernel_rfl) (by kernel_rfl) (by kernel_rfl) ?hQ13 (Or.inl ⟨?hw13, ?hy13⟩) (by assumption) ?hr13
      case hi13 => simp only [List.getElem?_toArray, List.getElem?_cons_succ, List.getElem?_cons_zero]; rfl
      case hQ13 => exact fun _ _ _ h => h
      case hw13 => rfl
      case hy13 => intro w hSw; (try dsimp only at hSw); go_simp; (try with_reducible rfl)
      case hr13 =>
      simp only [Act.put, List.setIfInBounds_toArray, List.set_cons_zero, List.set_cons_succ]
      refine wpAnyH_take (i := 14) (oi := ?oi14) (v := ?v14) ?hi14 (by kernel_rfl) (by kernel_rfl) (by kernel_rfl) ?hQ14 (Or.inl ⟨?hw14, ?hy14⟩) (by assumption) ?hr14
      case hi14 => simp only [List.getElem?_toArray, List.getElem?_cons_succ, List.getElem?_cons_zero]; rfl
      case hQ14 => exact fun _ _ _ h => h
      case hw14 => rfl
      case hy14 => intro w hSw; (try dsimp only at hSw); go_simp; (try with_reducible rfl)
      case hr14 =>
      simp only [Act.put, List.setIfInBounds_toArray, List.set_cons_zero, List.set_cons_succ]
      refine wpAnyH_take (i := 15) (oi := ?oi15) (v := ?v15) ?hi15 (by kernel_rfl) (by kernel_rfl) (by kernel_rfl) ?hQ15 (Or.inl ⟨?hw15, ?hy15⟩) (by assumption) ?hr15
      case hi15 => simp only [List.getElem?_toArray, List.getElem?_cons_succ, List.getElem?_cons_zero]; rfl
      case hQ15 => exact fun _ _ _ h => h
      case hw15 => rfl
      case hy15 => intro w hSw; (try dsimp only at hSw); go_simp; (try with_reducible rfl)
      case hr15 =>
      simp only [Act.put, List.setIfInBounds_toArray, List.set_cons_zero, List.set_cons_succ]
      refine wpAnyH_take (i := 16) (oi := ?oi16) (v := ?v16) ?hi16 (by kernel_rfl) (by kernel_rfl) (by kernel_rfl) ?hQ16 (Or.inl ⟨?hw16, ?hy16⟩) (by assumption) ?hr16
      case hi16 => simp only [List.getElem?_toArray, List.getElem?_cons_succ, List.getElem?_cons_zero]; rfl
      case hQ16 => exact fun _ _ _ h => h
      case hw16 => rfl
      case hy16 => intro w hSw; (try dsimp only at hSw); go_simp; (try with_reducible rfl)
      case hr16 =>
      simp only [Act.put, List.setIfInBounds_toArray, List.set_cons_zero, List.set_cons_succ]
      refine wpAnyH_ready (rs := [12]) (by kernel_rfl) (by simp) (AllReadyH.cons (o := ?oc17) ?hc17 (fun K hK => ?hs17) AllReadyH.nil)
      case hc17 => simp only [List.getElem?_toArray, List.getElem?_cons_succ, List.getElem?_cons_zero]; rfl
      case hs17 =>
      rw [if_pos (by rfl)]
      go_simp
      go_at_call 46; refine (readerOffset _ r p f1 code ρ' (HPR6.out.s.chg (S := []) hHeld.2.2.2 (by simp) (by simp) (by simp))).mono ?_; rintro e w7 ⟨rfl, rfl⟩
      go_wp2_with fail
      refine hK.out _ _ ?_ (fun hHeld => ?_)
      · exact hHeld
      clear hK K
      try simp only [Act.put, List.setIfInBounds_toArray, List.set_cons_zero, List.set_cons_succ]
      refine wpAnyH_take (i := 17) (oi := ?oi18) (v := ?v18) ?hi18 (by kernel_rfl) (by kernel_rfl) (by kernel_rfl) ?hQ18 (Or.inl ⟨?hw18, ?hy18⟩) (by assumption) ?hr18
      case hi18 => simp only [List.getElem?_toArray, List.getElem?_cons_succ, List.getElem?_cons_zero]; rfl
      case hQ18 => exact fun _ _ _ h => h
      case hw18 => rfl
      case hy18 => intro w hSw; (try dsimp only at hSw); go_simp; (try with_reducible rfl)
      case hr18 =>
      simp only [Act.put, List.setIfInBounds_toArray, List.set_cons_zero, List.set_cons_succ]
      refine wpAnyH_take (i := 18) (oi := ?oi19) (v := ?v19) ?hi19 (by kernel_rfl) (by kernel_rfl) (by kernel_rfl) ?hQ19 (Or.inl ⟨?hw19, ?hy19⟩) (by assumption) ?hr19
      case hi19 => simp only [List.getElem?_toArray, List.getElem?_cons_succ, List.getElem?_cons_zero]; rfl
      case hQ19 => exact fun _ _ _ h => h
      case hw19 => rfl
      case hy19 => intro w hSw; (try dsimp only at hSw); go_simp; (try with_reducible rfl)
      case hr19 =>
      simp only [Act.put, List.setIfInBounds_toArray, List.set_cons_zero, List.set_cons_succ]
      refine wpAnyH_done (by kernel_rfl) ?_ _
      go_wp2_with fail
      go_roundw
      case rel => exact ⟨k + 1, by omega, by go_num, HK06.out.trans hHeld.2.2.2, code, ρ', HPR6.out.chg hHeld.2.2.2⟩
      case measure => simp [intOf]; omega
    · have hkk : k = N := by omega
      subst hkk
      go_wp2_with (go_at_call 42; refine (blkAlive _).mono ?_; rintro e w9 ⟨rfl, hc9⟩)
      go_ret
      exact ⟨rfl, HKR.out.trans hc9⟩
end Go.Proofs.Ytljlcigbehgohaa
