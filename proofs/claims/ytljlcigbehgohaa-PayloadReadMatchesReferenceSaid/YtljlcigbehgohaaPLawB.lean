/- paxtarlaw11.PayloadReadMatchesReference. -/
import Derived.Test.YtljlcigbehgohaaRPayR
import Derived.Test.YtljlcigbehgohaaOpenC
namespace Go.Pax
open Go.RowKit
theorem rdLoop_sound : ∀ (n : Nat) (acc : List UInt8) (ρ : RSrc), ρ.Ok → (rdLoop n acc ρ).2.2.2.Ok
  | 0, _, _, h => h
  | n + 1, acc, ρ, h => by
    have hu : rdLoop (n + 1) acc ρ = if (rdNext 0 ρ).1 = 0 then rdLoop n (acc ++ (rdNext 0 ρ).2.1) (rdNext 0 ρ).2.2 else ((if (rdNext 0 ρ).1 = 4 then 5 else (rdNext 0 ρ).1), [], (rdNext 0 ρ).1, (rdNext 0 ρ).2.2) := rfl
    have hk : (rdNext 0 ρ).2.2.Ok := by rw [rdNext_ok]; exact (nextF_is 512 [] ρ h (Nat.zero_le _) (Nat.le_add_left _ _)).1
    rw [hu]
    split
    · exact rdLoop_sound n _ _ hk
    · exact hk
theorem payRd_sound {err : Int} {ρ : RSrc} (h : ρ.Ok) (size : Int) : (payRd err ρ size).2.2.Ok := by
  unfold payRd
  split
  · exact h
  split
  · exact h
  split
  · exact h
  · unfold payEnd
    split
    · exact rdLoop_sound _ _ _ h
    · exact rdLoop_sound _ _ _ h
end Go.Pax
namespace Go.Proofs.Ytljlcigbehgohaa
open Go.RowKit Go.Pax

theorem refNewN (w : World) (bo co : Option Addr) (L bc M cc : Nat) (b : List UInt8) (c : List Int) (fail : Int) (fp : List Nat) (hL : b.length = L) (hM : c.length = M) (hb : L ≤ 140737488355328) (hcl : M * 8 ≤ 140737488355328)
    (h1 : Rd w fp bo (bv b)) (h2 : Rd w fp co (iv c)) :
    Calls Try.prog 28 #[.slice bo L bc, .agg #[.slice co M cc, .int .i64 fail]] w fun e w' => Made e w w' fun w' p fp => RSrcAt w' p fp ⟨b, c, fail, 0, 0⟩ := by
  subst hL; subst hM
  exact refNew w bo co bc cc b c fail fp hb hcl h1 h2
/-- A reader and its reference, side by side. -/
structure PPair (w : World) (r p r2 q : Nat) (f1 f2 : List Nat) (err : Int) (ρ : RSrc) : Prop where
  ok : ρ.Ok
  s : RdrAt w r p f1 err ρ
  m : RRdrAt w r2 q f2 err ρ
/-- They lie in blocks of their own: the reader's below the reference's. -/
structure PApart (B r p r2 q : Nat) (f1 f2 : List Nat) : Prop where
  bp : B ≤ p
  pr : p < r
  rq : r < q
  qr : q < r2
  hf1 : ∀ x ∈ f1, x < r
  hf2 : ∀ x ∈ f2, r < x
  pf : p ∉ f1
  qf : q ∉ f2

set_option maxRecDepth 100000 in
set_option maxHeartbeats 8000000 in
theorem payReads (w : World) (bo co so : Option Addr) (bc cc sc : Nat) (b : List UInt8) (c z : List Int) (fail : Int) (fp : List Nat)
    (hb : b.length ≤ 140737488355328) (hcl : c.length * 8 ≤ 140737488355328) (hzl : z.length * 8 ≤ 140737488355328) (hf : -9223372036854775808 ≤ fail ∧ fail ≤ 9223372036854775807) (hz : ∀ n ∈ z, -9223372036854775808 ≤ n ∧ n ≤ 9223372036854775807)
    (h1 : Rd w fp bo (bv b)) (h2 : Rd w fp co (iv c)) (h3 : Rd w fp so (iv z)) :
    Calls Try.prog 19 #[.slice bo b.length bc, .agg #[.slice co c.length cc, .int .i64 fail], .slice so z.length sc] w fun e w' => e = .returned (.bool true) ∧ Chg [] w w' := by
  have H1 := Lib.hid h1
  have H2 := Lib.hid h2
  have H3 := Lib.hid h3
  have HF := Lib.hid hf
  have HZ := Lib.hid hz
  clear h1 h2 h3 hf hz
  by_cases g2 : 5000 < b.length
  · go_enter Try.func19, Try.ntmps19
    go_wp2_with (go_at_call 41; refine (payAlive _).mono ?_; rintro e w9 ⟨rfl, hc9⟩)
    go_ret
    exact ⟨rfl, ((Chg.refl _ _).alloc _).trans hc9⟩
  by_cases g3 : 300 < c.length
  · go_enter Try.func19, Try.ntmps19
    go_wp2_with (go_at_call 41; refine (payAlive _).mono ?_; rintro e w9 ⟨rfl, hc9⟩)
    go_ret
    exact ⟨rfl, ((Chg.refl _ _).alloc _).trans hc9⟩
  by_cases g4 : 20 < z.length
  · go_enter Try.func19, Try.ntmps19
    go_wp2_with (go_at_call 41; refine (payAlive _).mono ?_; rintro e w9 ⟨rfl, hc9⟩)
    go_ret
    exact ⟨rfl, ((Chg.refl _ _).alloc _).trans hc9⟩
  have hok : RSrc.Ok ⟨b, c, fail, 0, 0⟩ := RSrc.ok_new hb (by omega) HF.out
  have HOK := Lib.hid hok
  clear hok
  generalize hL : b.length = L at *
  generalize hM : c.length = M at *
  generalize hN : z.length = N at *
  have HL := Lib.hid hL
  have HM := Lib.hid hM
  have HN := Lib.hid hN
  clear hL hM hN
  go_enter Try.func19, Try.ntmps19
  go_upto_region 3 with (fail)
  have hc0 : (w.alloc (.cells #[.slice co M cc, .int .i64 fail] 25)).cell? ⟨w.heap.size, 0, none⟩ = some (.slice co M cc) := by go_simp
  have hc1 : (w.alloc (.cells #[.slice co M cc, .int .i64 fail] 25)).cell? ⟨w.heap.size, 1, none⟩ = some (.int .i64 fail) := by go_simp
  have hcW : Chg [] w (w.alloc (.cells #[.slice co M cc, .int .i64 fail] 25)) := (Chg.refl _ _).alloc _
  generalize w.alloc (.cells #[.slice co M cc, .int .i64 fail] 25) = W at *
  have HC := Lib.hid hcW
  clear hcW
  refine wp_region_held_drew (S := fun w' => w'.cell? ⟨w.heap.size, 0, none⟩ = some (.slice co M cc) ∧ w'.cell? ⟨w.heap.size, 1, none⟩ = some (.int .i64 fail) ∧ Chg [] W w') (by kernel_rfl) ?_ (fun hHeld => ?_)
  · exact ⟨by simp [*], by simp [*], (Chg.refl _ _).drew⟩
  refine wpAnyH_take (i := 0) (oi := ?oi1) (v := ?v1) ?hi1 (by kernel_rfl) (by kernel_rfl) (by kernel_rfl) ?hQ1 (Or.inl ⟨?hw1, ?hy1⟩) (by assumption) ?hr1
  case hi1 => simp only [List.getElem?_toArray, List.getElem?_cons_zero]; rfl
  case hQ1 => exact fun _ _ _ h => h
  case hw1 => rfl
  case hy1 => intro w hSw; (try dsimp only at hSw); go_simp; (try with_reducible rfl)
  case hr1 =>
  simp only [Act.put, List.setIfInBounds_toArray, List.set_cons_zero, List.set_cons_succ]
  refine wpAnyH_take (i := 1) (oi := ?oi2) (v := ?v2) ?hi2 (by kernel_rfl) (by kernel_rfl) (by kernel_rfl) ?hQ2 (Or.inl ⟨?hw2, ?hy2⟩) (by assumption) ?hr2
  case hi2 => simp only [List.getElem?_toArray, List.getElem?_cons_succ, List.getElem?_cons_zero]; rfl
  case hQ2 => exact fun _ _ _ h => h
  case hw2 => rfl
  case hy2 => intro w hSw; (try dsimp only at hSw); go_simp; (try with_reducible rfl)
  case hr2 =>
  simp only [Act.put, List.setIfInBounds_toArray, List.set_cons_zero, List.set_cons_succ]
  refine wpAnyH_take (i := 4) (oi := ?oi3) (v := ?v3) ?hi3 (by kernel_rfl) (by kernel_rfl) (by kernel_rfl) ?hQ3 (Or.inl ⟨?hw3, ?hy3⟩) (by assumption) ?hr3
  case hi3 => simp only [List.getElem?_toArray, List.getElem?_cons_succ, List.getElem?_cons_zero]; rfl
  case hQ3 => exact fun _ _ _ h => h
  case hw3 => rfl
  case hy3 => intro w hSw; (try dsimp only at hSw); go_simp; (try with_reducible rfl)
  case hr3 =>
  simp only [Act.put, List.setIfInBounds_toArray, List.set_cons_zero, List.set_cons_succ]
  refine wpAnyH_take (i := 5) (oi := ?oi4) (v := ?v4) ?hi4 (by kernel_rfl) (by kernel_rfl) (by kernel_rfl) ?hQ4 (Or.inl ⟨?hw4, ?hy4⟩) (by assumption) ?hr4
  case hi4 => simp only [List.getElem?_toArray, List.getElem?_cons_succ, List.getElem?_cons_zero]; rfl
  case hQ4 => exact fun _ _ _ h => h
  case hw4 => rfl
  case hy4 => intro w hSw; (try dsimp only at hSw); go_simp; (try with_reducible rfl)
  case hr4 =>
  simp only [Act.put, List.setIfInBounds_toArray, List.set_cons_zero, List.set_cons_succ]
  refine wpAnyH_ready (rs := [2]) (by kernel_rfl) (by simp) (AllReadyH.cons (o := ?oc5) ?hc5 (fun K hK => ?hs5) AllReadyH.nil)
  case hc5 => simp only [List.getElem?_toArray, List.getElem?_cons_succ, List.getElem?_cons_zero]; rfl
  case hs5 =>
  rw [if_pos (by rfl)]
  go_simp
  go_at_call 24; refine (srcNewN _ bo co L bc M cc b c fail fp HL.out HM.out hb hcl ((H1.out.chg HC.out (by simp)).chg (S := []) hHeld.2.2 (by simp)) ((H2.out.chg HC.out (by simp)).chg (S := []) hHeld.2.2 (by simp))).mono ?_; rintro e w2 ⟨p, f1, rfl, s2, k2, b2, bf2⟩; have HS2 := Lib.hid s2; have HBF2 := Lib.hid bf2; clear s2 bf2
  go_wp2_with fail
  refine hK.out _ _ ?_ (fun hHeld => ?_)
  · exact ⟨k2.cell hHeld.1 (by simp), k2.cell hHeld.2.1 (by simp), hHeld.2.2.trans k2⟩
  clear hK K
  try simp only [Act.put, List.setIfInBounds_toArray, List.set_cons_zero, List.set_cons_succ]
  refine wpAnyH_ready (rs := [3]) (by kernel_rfl) (by simp) (AllReadyH.cons (o := ?oc6) ?hc6 (fun K hK => ?hs6) AllReadyH.nil)
  case hc6 => simp only [List.getElem?_toArray, List.getElem?_cons_succ, List.getElem?_cons_zero]; rfl
  case hs6 =>
  rw [if_pos (by rfl)]
  go_simp
  go_at_call 43; refine (newReader _ p f1 ⟨b, c, fail, 0, 0⟩ HS2.out rfl (fun hm => by have := (HBF2.out _ hm).2; omega)).mono ?_; rintro e w3 ⟨r, rfl, s3, k3, hr3⟩; have HS3 := Lib.hid s3; have HR3 := Lib.hid hr3; clear s3 hr3
  go_wp2_with fail
  refine hK.out _ _ ?_ (fun hHeld => ?_)
  · exact ⟨k3.cell hHeld.1 (by simp), k3.cell hHeld.2.1 (by simp), hHeld.2.2.trans k3⟩
  clear hK K
  try simp only [Act.put, List.setIfInBounds_toArray, List.set_cons_zero, List.set_cons_succ]
  refine wpAnyH_ready (rs := [6]) (by kernel_rfl) (by simp) (AllReadyH.cons (o := ?oc7) ?hc7 (fun K hK => ?hs7) AllReadyH.nil)
  case hc7 => simp only [List.getElem?_toArray, List.getElem?_cons_succ, List.getElem?_cons_zero]; rfl
  case hs7 =>
  rw [if_pos (by rfl)]
  go_simp
  go_at_call 28; refine (refNewN _ bo co L bc M cc b c fail fp HL.out HM.out hb hcl ((H1.out.chg HC.out (by simp)).chg (S := []) hHeld.2.2 (by simp)) ((H2.out.chg HC.out (by simp)).chg (S := []) hHeld.2.2 (by simp))).mono ?_; rintro e w4 ⟨q, f2, rfl, s4, k4, b4, bf4⟩; have HS4 := Lib.hid s4; have HBF4 := Lib.hid bf4; clear s4 bf4
  go_wp2_with fail
  refine hK.out _ _ ?_ (fun hHeld => ?_)
  · exact ⟨k4.cell hHeld.1 (by simp), k4.cell hHeld.2.1 (by simp), hHeld.2.2.trans k4⟩
  clear hK K
  try simp only [Act.put, List.setIfInBounds_toArray, List.set_cons_zero, List.set_cons_succ]
  refine wpAnyH_take (i := 7) (oi := ?oi8) (v := ?v8) ?hi8 (by kernel_rfl) (by kernel_rfl) (by kernel_rfl) ?hQ8 (Or.inl ⟨?hw8, ?hy8⟩) (by assumption) ?hr8
  case hi8 => simp only [List.getElem?_toArray, List.getElem?_cons_succ, List.getElem?_cons_zero]; rfl
  case hQ8 => exact fun _ _ _ h => h
  case hw8 => rfl
  case hy8 => intro w hSw; (try dsimp only at hSw); go_simp; (try with_reducible rfl)
  case hr8 =>
  simp only [Act.put, List.setIfInBounds_toArray, List.set_cons_zero, List.set_cons_succ]
  refine wpAnyH_take (i := 9) (oi := ?oi9) (v := ?v9) ?hi9 (by kernel_rfl) (by kernel_rfl) (by kernel_rfl) ?hQ9 (Or.inl ⟨?hw9, ?hy9⟩) (by assumption) ?hr9
  case hi9 => simp only [List.getElem?_toArray, List.getElem?_cons_succ, List.getElem?_cons_zero]; rfl
  case hQ9 => exact fun _ _ _ h => h
  case hw9 => rfl
  case hy9 => intro w hSw; (try dsimp only at hSw); go_simp; (try with_reducible rfl)
  case hr9 =>
  simp only [Act.put, List.setIfInBounds_toArray, List.set_cons_zero, List.set_cons_succ]
  refine wpAnyH_ready (rs := [8]) (by kernel_rfl) (by simp) (AllReadyH.cons (o := ?oc10) ?hc10 (fun K hK => ?hs10) AllReadyH.nil)
  case hc10 => simp only [List.getElem?_toArray, List.getElem?_cons_succ, List.getElem?_cons_zero]; rfl
  case hs10 =>
  rw [if_pos (by rfl)]
  go_simp
  have k5 : Chg [] w4 (w4.alloc (.cells #[.pointer (some ⟨q, 0, none⟩), .int .i64 0, .int .i64 0] 72)) := (Chg.refl _ _).alloc _
  go_wp2_with fail
  refine hK.out _ _ ?_ (fun hHeld => ?_)
  · exact ⟨k5.cell hHeld.1 (by simp), k5.cell hHeld.2.1 (by simp), hHeld.2.2.trans k5⟩
  clear hK K
  try simp only [Act.put, List.setIfInBounds_toArray, List.set_cons_zero, List.set_cons_succ]
  refine wpAnyH_take (i := 10) (oi := ?oi11) (v := ?v11) ?hi11 (by kernel_rfl) (by kernel_rfl) (by kernel_rfl) ?hQ11 (Or.inl ⟨?hw11, ?hy11⟩) (by assumption) ?hr11
  case hi11 => simp only [List.getElem?_toArray, List.getElem?_cons_succ, List.getElem?_cons_zero]; rfl
  case hQ11 => exact fun _ _ _ h => h
  case hw11 => rfl
  case hy11 => intro w hSw; (try dsimp only at hSw); go_simp; (try with_reducible rfl)
  case hr11 =>
  simp only [Act.put, List.setIfInBounds_toArray, List.set_cons_zero, List.set_cons_succ]
  refine wpAnyH_done (by kernel_rfl) ?_ _
  have hk0 := HC.out.trans hHeld.2.2
  have hzW : w.heap.size ≤ W.drew.heap.size := HC.out.size
  have z2 := HS2.out.lt
  have z3 := HS3.out.lt
  have z4 := HS4.out.lt
  have zr := HR3.out
  have y3 := k3.size
  have y4 := k4.size
  have hpf : p ∉ f1 := by obtain ⟨_, _, _, _, _, _, _, h, _⟩ := HS2.out; exact h
  have hqf : q ∉ f2 := by obtain ⟨_, _, _, _, _, _, _, h, _⟩ := HS4.out; exact h
  have hap : PApart w.heap.size r p w4.heap.size q f1 f2 := ⟨by omega, by omega, by omega, by omega, fun x hx => by have := HBF2.out x hx; omega, fun x hx => by have := HBF4.out x hx; omega, hpf, hqf⟩
  have hpr : PPair (w4.alloc (.cells #[.pointer (some ⟨q, 0, none⟩), .int .i64 0, .int .i64 0] 72)) r p w4.heap.size q f1 f2 0 ⟨b, c, fail, 0, 0⟩ :=
    ⟨HOK.out, HS3.out.chg (k4.trans k5) (by simp) (by simp) (by simp), ⟨heap_alloc_new _ _, HS4.out.chg k5 (by simp) (by simp), by omega, fun hm => by have := HBF4.out _ hm; omega⟩⟩
  have HAP := Lib.hid hap
  have HPR0 := Lib.hid hpr
  have HK0 := Lib.hid hk0
  clear hk0 hzW z2 z3 z4 zr y3 y4 hpf hqf hap hpr hHeld k2 k3 k4 k5 hc0 hc1 b2 b4
  generalize w4.alloc (.cells #[.pointer (some ⟨q, 0, none⟩), .int .i64 0, .int .i64 0] 72) = W5 at *
  generalize w4.heap.size = r2 at *
  go_wp2_with fail
  go_loopw [46] (fun i wr => ∃ k : Nat, k ≤ N ∧ i = .int .i64 k ∧ Chg [] w wr ∧ ∃ err ρ, PPair wr r p r2 q f1 f2 err ρ) (fun i _ => N - (intOf i).toNat)
  case atStart => exact ⟨0, Nat.zero_le _, rfl, HK0.out, 0, _, HPR0.out⟩
  case round =>
    obtain ⟨k, hk, rfl, hkr, err, ρ, hpr⟩ := hrel
    have HKR := Lib.hid hkr
    have HPR := Lib.hid hpr
    clear hkr hpr
    by_cases hlt : k < N
    · have hkz : k < z.length := by rw [HN.out]; exact hlt
      obtain ⟨ad, rfl, _, hcell⟩ := (H3.out.chg HKR.out (by simp)) k _ (iv_get z k hkz)
      obtain ⟨hz0, hz1⟩ := HZ.out _ (List.getElem_mem hkz)
      generalize z[k] = sz at *
      clear hkz
      have hst := payRead wr r p f1 err ρ sz HPR.out.s HPR.out.ok HAP.out.pf
      have hst2 : ∀ w5, Chg [r, p] wr w5 → Calls Try.prog 56 #[.pointer (some ⟨r2, 0, none⟩), .int .i64 sz] w5 fun e w' => Got3 w5 w' e (payRd err ρ sz).1 ∧ RRdrAt w' r2 q f2 (payRd err ρ sz).2.1 (payRd err ρ sz).2.2 ∧ Chg [r2, q] w5 w' := fun w5 hk5 => by
        have hO := HAP.out
        have o1 := hO.pr
        have o2 := hO.rq
        have o3 := hO.qr
        exact rpayRead w5 r2 q f2 err ρ sz (HPR.out.m.chg hk5 (by simp; omega) (by simp; omega) (fun x hx => by have := hO.hf2 x hx; simp; omega)) HPR.out.ok hO.qf
      have hsn := payRd_sound (err := err) HPR.out.ok sz
      have hb1 := fun w => payBlocks w sz ⟨hz0, hz1⟩
      have hb2 := fun w => rpayBlocks w sz ⟨hz0, hz1⟩
      generalize (if sz ≤ 0 then 0 else (sz - 1) / 512 + 1) = BB at *
      generalize payRd err ρ sz = R at *
      obtain ⟨⟨bs, at_, cd⟩, err', ρ'⟩ := R
      simp only at hst hst2 hsn
      have HST := Lib.hid hst
      have HST2 := Lib.hid hst2
      have HSN := Lib.hid hsn
      have HB1 := Lib.hid hb1
      have HB2 := Lib.hid hb2
      clear hst hst2 hsn hb1 hb2
      go_upto_region 8 with (go_at_call 55; refine HST.out.mono ?_; rintro e w5 ⟨⟨a5, c5, fq5, rfl, hr5, hq5⟩, s5, k5⟩; have HR5 := Lib.hid hr5; have HQ5 := Lib.hid hq5; have HS5 := Lib.hid s5; have HK5 := Lib.hid k5; clear hr5 hq5 s5 k5)
      go_upto_region 9 with (go_at_call 56; refine (HST2.out _ HK5.out).mono ?_; rintro e w6 ⟨⟨a6, c6, fq6, rfl, hr6, hq6⟩, s6, k6⟩; have HR6 := Lib.hid hr6; have HS6 := Lib.hid s6; have HK6 := Lib.hid k6; clear hr6 hq6 s6 k6)
      have hO := HAP.out
      have o1 := hO.pr
      have o2 := hO.rq
      have o3 := hO.qr
      have o4 := hO.bp
      have hl2 := HPR.out.m.lt
      have hs6 := HS5.out.chg HK6.out (by simp; omega) (by simp; omega) (fun x hx => by have := hO.hf1 x hx; simp; omega)
      have hx6 := HR5.out.chg HK6.out (fun x hx => by have := (HQ5.out x hx).1; simp; omega)
      have v5 : (convert 22 9 (.slice a5 bs.length c5)).run Try.prog w6 = .ok (.string (sb bs)) w6 := Try.conv _ _ _ _ _ _ rfl hx6
      have v6 : (convert 22 9 (.slice a6 bs.length c6)).run Try.prog w6 = .ok (.string (sb bs)) w6 := Try.conv _ _ _ _ _ _ rfl HR6.out
      have hk06 := (HKR.out.nil_of HK5.out (Nat.le_refl _) (by simp; omega)).nil_of HK6.out (Nat.le_refl _) (by simp; omega)
      have hpr6 : PPair w6 r p r2 q f1 f2 err' ρ' := ⟨HSN.out, hs6, HS6.out⟩
      have HPR6 := Lib.hid hpr6
      have HK06 := Lib.hid hk06
      clear hO o1 o2 o3 o4 hl2 hs6 hx6 hk06 hpr6
      go_wp2_with (first
        | (go_at_call 40; refine (HB1.out _).mono ?_; rintro e w' ⟨rfl, hww⟩; obtain rfl := hww.symm)
        | (go_at_call 57; refine (HB2.out _).mono ?_; rintro e w' ⟨rfl, hww⟩; obtain rfl := hww.symm))
      go_roundw
      case rel => exact ⟨k + 1, by omega, by go_num, HK06.out, err', ρ', HPR6.out⟩
      case measure => simp [intOf]; omega
    · have hkk : k = N := by omega
      subst hkk
      go_wp2_with (first
        | (go_at_call 55; refine (payRead_none _ 1).mono ?_; rintro e w' ⟨rfl, hww⟩; obtain rfl := hww.symm)
        | (go_at_call 41; refine (payAlive _).mono ?_; rintro e w9 ⟨rfl, hc9⟩; have HC9 := Lib.hid hc9; clear hc9))
      go_ret
      exact ⟨rfl, HKR.out.trans HC9.out⟩
end Go.Proofs.Ytljlcigbehgohaa
