/- paxtarlaw06.BlockChunkingIrrelevant. -/
import Derived.Test.YtljlcigbehgohaaBLawC
namespace Go.Pax
open Go.RowKit
/-- The error and the bytes of the k-th Next of a stream that does not fail. -/
def eAt (L k : Nat) : Int := if 512 * k + 512 ≤ L then 0 else if 512 * k < L then 5 else 4
def bAt (b : List UInt8) (k : Nat) : List UInt8 := if 512 * k + 512 ≤ b.length then (b.drop (512 * k)).take 512 else []
theorem nextPair {ρ : RSrc} (h : ρ.Ok) {b : List UInt8} {k : Nat} (hb : ρ.b = b) (hf : ρ.fail = -1) (ho : ρ.off = 512 * k) :
    (nextF 512 [] ρ).1 = eAt b.length k ∧ (nextF 512 [] ρ).2.1 = bAt b k ∧ (nextF 512 [] ρ).2.2.Ok ∧ (nextF 512 [] ρ).2.2.b = b ∧ (nextF 512 [] ρ).2.2.fail = -1 ∧ (k < b.length / 512 → (nextF 512 [] ρ).2.2.off = 512 * (k + 1)) := by
  obtain ⟨i1, i2, i3, i4, i5⟩ := nextF_is 512 [] ρ h (Nat.zero_le _) (Nat.le_add_left _ _)
  have he : ρ.end0 = b.length := by unfold RSrc.end0; rw [hb, hf, if_neg (by omega)]
  rw [he, ho, hb, hf] at i5
  simp only [List.length_nil, List.nil_append] at i5
  unfold eAt bAt
  rcases i5 with ⟨j1, j2, j3, j4⟩ | ⟨j1, j2, j3, j4⟩
  · have hc : 512 * k + 512 ≤ b.length := by omega
    rw [if_pos hc, if_pos hc]
    refine ⟨j1, ?_, i1, by rw [i2, hb], by rw [i3, hf], fun _ => by rw [j3]; omega⟩
    rw [j4, show (512 * (k : Int)).toNat = 512 * k by omega]
  · have hc : ¬ 512 * k + 512 ≤ b.length := by omega
    rw [if_neg hc, if_neg hc]
    refine ⟨?_, j3, i1, by rw [i2, hb], by rw [i3, hf], fun hlt => by omega⟩
    rw [j4, if_neg (by omega : ¬ ((0 : Int) ≤ -1 ∧ (-1 : Int) ≤ b.length))]
    by_cases h1 : 512 * k < b.length
    · rw [if_pos h1, if_pos (by omega)]
    · rw [if_neg h1, if_neg (by omega)]
theorem bAt_take (b : List UInt8) (k : Nat) : b.take (512 * min k (b.length / 512)) ++ bAt b k = b.take (512 * min (k + 1) (b.length / 512)) := by
  unfold bAt
  by_cases h : 512 * k + 512 ≤ b.length
  · rw [if_pos h, show min k (b.length / 512) = k by omega, show min (k + 1) (b.length / 512) = k + 1 by omega, Nat.mul_succ, List.take_add]
  · rw [if_neg h, List.append_nil]
    congr 2
    omega
end Go.Pax
namespace Go.Proofs.Ytljlcigbehgohaa
open Go.RowKit Go.Pax

structure Ord3 (B r p r2 p2 r3 q : Nat) (f1 f2 f3 : List Nat) : Prop where
  bp : B ≤ p
  pr : p < r
  rp : r < p2
  p2r : p2 < r2
  rq : r2 < q
  qr : q < r3
  hf1 : ∀ x ∈ f1, x < r
  hf2 : ∀ x ∈ f2, r < x ∧ x < r2
  hf3 : ∀ x ∈ f3, r2 < x ∧ x < r3
  n1 : p ∉ f1
  n2 : p2 ∉ f2
/-- Where the readers stand behind k rounds. -/
def Rds (wr : World) (r p r2 p2 : Nat) (f1 f2 : List Nat) (b : List UInt8) (k : Nat) : Prop :=
  ∃ ρ1 ρ2, RdrAt wr r p f1 0 ρ1 ∧ RdrAt wr r2 p2 f2 0 ρ2 ∧ ρ1.Ok ∧ ρ2.Ok ∧ ρ1.b = b ∧ ρ2.b = b ∧ ρ1.fail = -1 ∧ ρ2.fail = -1 ∧ ρ1.off = 512 * k ∧ ρ2.off = 512 * k

set_option maxRecDepth 100000 in
set_option maxHeartbeats 8000000 in
theorem blkChunks (w : World) (bo co do_ : Option Addr) (bc cc dc : Nat) (b : List UInt8) (c d : List Int) (fail1 fail2 : Int) (fp : List Nat)
    (hb : b.length ≤ 140737488355328) (hbc : b.length ≤ bc) (hcl : c.length * 8 ≤ 140737488355328) (hdl : d.length * 8 ≤ 140737488355328)
    (h1 : Rd w fp bo (bv b)) (h2 : Rd w fp co (iv c)) (h3 : Rd w fp do_ (iv d)) :
    Calls Try.prog 14 #[.slice bo b.length bc, .agg #[.slice co c.length cc, .int .i64 fail1], .agg #[.slice do_ d.length dc, .int .i64 fail2]] w fun e w' => e = .returned (.bool true) ∧ Chg [] w w' := by
  have H1 := Lib.hid h1
  have H2 := Lib.hid h2
  have H3 := Lib.hid h3
  clear h1 h2 h3
  by_cases g2 : 3000 < b.length
  · go_enter Try.func14, Try.ntmps14
    go_wp2_with (go_at_call 42; refine (blkAlive _).mono ?_; rintro e w9 ⟨rfl, hc9⟩)
    go_ret
    exact ⟨rfl, (((Chg.refl _ _).alloc _).alloc _).trans hc9⟩
  by_cases g3 : 300 < c.length
  · go_enter Try.func14, Try.ntmps14
    go_wp2_with (go_at_call 42; refine (blkAlive _).mono ?_; rintro e w9 ⟨rfl, hc9⟩)
    go_ret
    exact ⟨rfl, (((Chg.refl _ _).alloc _).alloc _).trans hc9⟩
  by_cases g4 : 300 < d.length
  · go_enter Try.func14, Try.ntmps14
    go_wp2_with (go_at_call 42; refine (blkAlive _).mono ?_; rintro e w9 ⟨rfl, hc9⟩)
    go_ret
    exact ⟨rfl, (((Chg.refl _ _).alloc _).alloc _).trans hc9⟩
  have hok1 : RSrc.Ok ⟨b, c, -1, 0, 0⟩ := RSrc.ok_new hb (by omega) (by decide)
  have hok2 : RSrc.Ok ⟨b, d, -1, 0, 0⟩ := RSrc.ok_new hb (by omega) (by decide)
  have HOK1 := Lib.hid hok1
  have HOK2 := Lib.hid hok2
  clear hok1 hok2
  generalize hL : b.length = L at *
  generalize hM : c.length = M at *
  generalize hM2 : d.length = M2 at *
  have HL := Lib.hid hL
  have HM := Lib.hid hM
  have HM2 := Lib.hid hM2
  clear hL hM hM2
  go_enter Try.func14, Try.ntmps14
  go_upto_region 5 with (fail)
  have hW : Chg [] w ((((w.alloc (.cells #[.slice co M cc, .int .i64 fail1] 25)).alloc (.cells #[.slice do_ M2 dc, .int .i64 fail2] 25)).alloc (.cells #[.slice co M cc, .int .i64 (-1)] 25)).alloc (.cells #[.slice do_ M2 dc, .int .i64 (-1)] 25)) := ((((Chg.refl _ _).alloc _).alloc _).alloc _).alloc _
  have e0 : ((((w.alloc (.cells #[.slice co M cc, .int .i64 fail1] 25)).alloc (.cells #[.slice do_ M2 dc, .int .i64 fail2] 25)).alloc (.cells #[.slice co M cc, .int .i64 (-1)] 25)).alloc (.cells #[.slice do_ M2 dc, .int .i64 (-1)] 25)).heap[w.heap.size + 1 + 1]? = some (.cells #[.slice co M cc, .int .i64 (-1)] 25 (0, 0)) := heap_keep (heap_new_at (by simp))
  have e1 : ((((w.alloc (.cells #[.slice co M cc, .int .i64 fail1] 25)).alloc (.cells #[.slice do_ M2 dc, .int .i64 fail2] 25)).alloc (.cells #[.slice co M cc, .int .i64 (-1)] 25)).alloc (.cells #[.slice do_ M2 dc, .int .i64 (-1)] 25)).heap[w.heap.size + 1 + 1 + 1]? = some (.cells #[.slice do_ M2 dc, .int .i64 (-1)] 25 (0, 0)) := heap_new_at (by simp)
  have d0 := cell_heap e0 0 rfl
  have d1 := cell_heap e0 1 rfl
  have d2 := cell_heap e1 0 rfl
  have d3 := cell_heap e1 1 rfl
  clear e0 e1
  generalize (((w.alloc (.cells #[.slice co M cc, .int .i64 fail1] 25)).alloc (.cells #[.slice do_ M2 dc, .int .i64 fail2] 25)).alloc (.cells #[.slice co M cc, .int .i64 (-1)] 25)).alloc (.cells #[.slice do_ M2 dc, .int .i64 (-1)] 25) = W at *
  have HW := Lib.hid hW
  clear hW
  refine wp_region_held_drew (S := fun w' => w'.cell? ⟨w.heap.size + 1 + 1, 0, none⟩ = some (.slice co M cc) ∧ w'.cell? ⟨w.heap.size + 1 + 1, 1, none⟩ = some (.int .i64 (-1)) ∧ w'.cell? ⟨w.heap.size + 1 + 1 + 1, 0, none⟩ = some (.slice do_ M2 dc) ∧ w'.cell? ⟨w.heap.size + 1 + 1 + 1, 1, none⟩ = some (.int .i64 (-1)) ∧ Chg [] W w') (by kernel_rfl) ?_ (fun hHeld => ?_)
  · exact ⟨by simp [*], by simp [*], by simp [*], by simp [*], (Chg.refl _ _).drew⟩
  refine wpAnyH_take (i := 0) (oi := ?oi30) (v := ?v30) ?hi30 (by kernel_rfl) (by kernel_rfl) (by kernel_rfl) ?hQ30 (Or.inl ⟨?hw30, ?hy30⟩) (by assumption) ?hr30
  case hi30 => simp only [List.getElem?_toArray, List.getElem?_cons_zero]; rfl
  case hQ30 => exact fun _ _ _ h => h
  case hw30 => rfl
  case hy30 => intro w hSw; (try dsimp only at hSw); go_simp; (try with_reducible rfl)
  case hr30 =>
  simp only [Act.put, List.setIfInBounds_toArray, List.set_cons_zero, List.set_cons_succ]
  refine wpAnyH_take (i := 1) (oi := ?oi31) (v := ?v31) ?hi31 (by kernel_rfl) (by kernel_rfl) (by kernel_rfl) ?hQ31 (Or.inl ⟨?hw31, ?hy31⟩) (by assumption) ?hr31
  case hi31 => simp only [List.getElem?_toArray, List.getElem?_cons_succ, List.getElem?_cons_zero]; rfl
  case hQ31 => exact fun _ _ _ h => h
  case hw31 => rfl
  case hy31 => intro w hSw; (try dsimp only at hSw); go_simp; (try with_reducible rfl)
  case hr31 =>
  simp only [Act.put, List.setIfInBounds_toArray, List.set_cons_zero, List.set_cons_succ]
  refine wpAnyH_take (i := 4) (oi := ?oi32) (v := ?v32) ?hi32 (by kernel_rfl) (by kernel_rfl) (by kernel_rfl) ?hQ32 (Or.inl ⟨?hw32, ?hy32⟩) (by assumption) ?hr32
  case hi32 => simp only [List.getElem?_toArray, List.getElem?_cons_succ, List.getElem?_cons_zero]; rfl
  case hQ32 => exact fun _ _ _ h => h
  case hw32 => rfl
  case hy32 => intro w hSw; (try dsimp only at hSw); go_simp; (try with_reducible rfl)
  case hr32 =>
  simp only [Act.put, List.setIfInBounds_toArray, List.set_cons_zero, List.set_cons_succ]
  refine wpAnyH_take (i := 5) (oi := ?oi33) (v := ?v33) ?hi33 (by kernel_rfl) (by kernel_rfl) (by kernel_rfl) ?hQ33 (Or.inl ⟨?hw33, ?hy33⟩) (by assumption) ?hr33
  case hi33 => simp only [List.getElem?_toArray, List.getElem?_cons_succ, List.getElem?_cons_zero]; rfl
  case hQ33 => exact fun _ _ _ h => h
  case hw33 => rfl
  case hy33 => intro w hSw; (try dsimp only at hSw); go_simp; (try with_reducible rfl)
  case hr33 =>
  simp only [Act.put, List.setIfInBounds_toArray, List.set_cons_zero, List.set_cons_succ]
  refine wpAnyH_ready (rs := [2]) (by kernel_rfl) (by simp) (AllReadyH.cons (o := ?oc34) ?hc34 (fun K hK => ?hs34) AllReadyH.nil)
  case hc34 => simp only [List.getElem?_toArray, List.getElem?_cons_succ, List.getElem?_cons_zero]; rfl
  case hs34 =>
  rw [if_pos (by rfl)]
  go_simp
  go_at_call 24; refine (srcNewN _ bo co L bc M cc b c (-1) fp HL.out HM.out hb hcl ((H1.out.chg HW.out (by simp)).chg (S := []) hHeld.2.2.2.2 (by simp)) ((H2.out.chg HW.out (by simp)).chg (S := []) hHeld.2.2.2.2 (by simp))).mono ?_; rintro e w2 ⟨p, f1, rfl, s2, k2, b2, bf2⟩; have HS2 := Lib.hid s2; have HBF2 := Lib.hid bf2; clear s2 bf2
  go_wp2_with fail
  refine hK.out _ _ ?_ (fun hHeld => ?_)
  · exact ⟨k2.cell hHeld.1 (by simp), k2.cell hHeld.2.1 (by simp), k2.cell hHeld.2.2.1 (by simp), k2.cell hHeld.2.2.2.1 (by simp), hHeld.2.2.2.2.trans k2⟩
  clear hK K
  try simp only [Act.put, List.setIfInBounds_toArray, List.set_cons_zero, List.set_cons_succ]
  refine wpAnyH_ready (rs := [3]) (by kernel_rfl) (by simp) (AllReadyH.cons (o := ?oc35) ?hc35 (fun K hK => ?hs35) AllReadyH.nil)
  case hc35 => simp only [List.getElem?_toArray, List.getElem?_cons_succ, List.getElem?_cons_zero]; rfl
  case hs35 =>
  rw [if_pos (by rfl)]
  go_simp
  go_at_call 43; refine (newReader _ p f1 ⟨b, c, -1, 0, 0⟩ HS2.out rfl (fun hm => by have := (HBF2.out _ hm).2; omega)).mono ?_; rintro e w3 ⟨r, rfl, s3, k3, hr3⟩; have HS3 := Lib.hid s3; have HR3 := Lib.hid hr3; clear s3 hr3
  go_wp2_with fail
  refine hK.out _ _ ?_ (fun hHeld => ?_)
  · exact ⟨k3.cell hHeld.1 (by simp), k3.cell hHeld.2.1 (by simp), k3.cell hHeld.2.2.1 (by simp), k3.cell hHeld.2.2.2.1 (by simp), hHeld.2.2.2.2.trans k3⟩
  clear hK K
  try simp only [Act.put, List.setIfInBounds_toArray, List.set_cons_zero, List.set_cons_succ]
  refine wpAnyH_ready (rs := [6]) (by kernel_rfl) (by simp) (AllReadyH.cons (o := ?oc36) ?hc36 (fun K hK => ?hs36) AllReadyH.nil)
  case hc36 => simp only [List.getElem?_toArray, List.getElem?_cons_succ, List.getElem?_cons_zero]; rfl
  case hs36 =>
  rw [if_pos (by rfl)]
  go_simp
  go_at_call 24; refine (srcNewN _ bo do_ L bc M2 dc b d (-1) fp HL.out HM2.out hb hdl ((H1.out.chg HW.out (by simp)).chg (S := []) hHeld.2.2.2.2 (by simp)) ((H3.out.chg HW.out (by simp)).chg (S := []) hHeld.2.2.2.2 (by simp))).mono ?_; rintro e w4 ⟨p2, f2, rfl, s4, k4, b4, bf4⟩; have HS4 := Lib.hid s4; have HBF4 := Lib.hid bf4; clear s4 bf4
  go_wp2_with fail
  refine hK.out _ _ ?_ (fun hHeld => ?_)
  · exact ⟨k4.cell hHeld.1 (by simp), k4.cell hHeld.2.1 (by simp), k4.cell hHeld.2.2.1 (by simp), k4.cell hHeld.2.2.2.1 (by simp), hHeld.2.2.2.2.trans k4⟩
  clear hK K
  try simp only [Act.put, List.setIfInBounds_toArray, List.set_cons_zero, List.set_cons_succ]
  refine wpAnyH_ready (rs := [7]) (by kernel_rfl) (by simp) (AllReadyH.cons (o := ?oc37) ?hc37 (fun K hK => ?hs37) AllReadyH.nil)
  case hc37 => simp only [List.getElem?_toArray, List.getElem?_cons_succ, List.getElem?_cons_zero]; rfl
  case hs37 =>
  rw [if_pos (by rfl)]
  go_simp
  go_at_call 43; refine (newReader _ p2 f2 ⟨b, d, -1, 0, 0⟩ HS4.out rfl (fun hm => by have := (HBF4.out _ hm).2; omega)).mono ?_; rintro e w5 ⟨r2, rfl, s5, k5, hr5⟩; have HS5 := Lib.hid s5; have HR5 := Lib.hid hr5; clear s5 hr5
  go_wp2_with fail
  refine hK.out _ _ ?_ (fun hHeld => ?_)
  · exact ⟨k5.cell hHeld.1 (by simp), k5.cell hHeld.2.1 (by simp), k5.cell hHeld.2.2.1 (by simp), k5.cell hHeld.2.2.2.1 (by simp), hHeld.2.2.2.2.trans k5⟩
  clear hK K
  try simp only [Act.put, List.setIfInBounds_toArray, List.set_cons_zero, List.set_cons_succ]
  refine wpAnyH_take (i := 8) (oi := ?oi38) (v := ?v38) ?hi38 (by kernel_rfl) (by kernel_rfl) (by kernel_rfl) ?hQ38 (Or.inl ⟨?hw38, ?hy38⟩) (by assumption) ?hr38
  case hi38 => simp only [List.getElem?_toArray, List.getElem?_cons_succ, List.getElem?_cons_zero]; rfl
  case hQ38 => exact fun _ _ _ h => h
  case hw38 => rfl
  case hy38 => intro w hSw; (try dsimp only at hSw); go_simp; (try with_reducible rfl)
  case hr38 =>
  simp only [Act.put, List.setIfInBounds_toArray, List.set_cons_zero, List.set_cons_succ]
  refine wpAnyH_take (i := 9) (oi := ?oi39) (v := ?v39) ?hi39 (by kernel_rfl) (by kernel_rfl) (by kernel_rfl) ?hQ39 (Or.inl ⟨?hw39, ?hy39⟩) (by assumption) ?hr39
  case hi39 => simp only [List.getElem?_toArray, List.getElem?_cons_succ, List.getElem?_cons_zero]; rfl
  case hQ39 => exact fun _ _ _ h => h
  case hw39 => rfl
  case hy39 => intro w hSw; (try dsimp only at hSw); go_simp; (try with_reducible rfl)
  case hr39 =>
  simp only [Act.put, List.setIfInBounds_toArray, List.set_cons_zero, List.set_cons_succ]
  refine wpAnyH_done (by kernel_rfl) ?_ _
  have K5 := Lib.hid (HW.out.trans hHeld.2.2.2.2)
  have h5c0 := hHeld.1
  have h5c1 := hHeld.2.1
  have KAA : Hid (Chg [] W.drew w2 ∧ Chg [] w2 w3 ∧ Chg [] w3 w4 ∧ Chg [] w4 w5) := Lib.hid ⟨k2, k3, k4, k5⟩
  clear hHeld d0 d1 d2 d3 k2 k3 k4 k5
  obtain ⟨Q, hQ⟩ : ∃ Q : Nat, (L : Int) / 512 = Q := ⟨L / 512, by omega⟩
  obtain ⟨T, hT⟩ : ∃ T : Nat, (Q : Int) * 512 = T := ⟨512 * Q, by omega⟩
  have hQT : T = 512 * Q := by omega
  have hTL : T ≤ L := by omega
  have hQL : b.length / 512 = Q := by rw [HL.out]; omega
  have hQl : Q ≤ 3000 := by omega
  have HQT := Lib.hid hQT
  have HQL := Lib.hid hQL
  have HLT := Lib.hid (show L < T + 512 by omega)
  clear hQT hQL
  go_upto_region 11 with (first
    | (go_at_call 36; refine (sinkNew _ w.heap.size co M cc c (-1) fp HM.out hcl K5.out.size (H2.out.chg K5.out (by simp))).mono ?_; rintro e w6 ⟨q, f3, rfl, s6, k6, b6, bf6⟩; have HS6 := Lib.hid s6; have HK6 := Lib.hid k6; have HBF6 := Lib.hid bf6; clear s6 k6 bf6)
    | (go_at_call 47; refine (newWriter _ w.heap.size q f3 [] _ HS6.out rfl).mono ?_; rintro e w7 ⟨r3, rfl, h7, k7, hr7⟩; have HW7 := Lib.hid h7; have HK7 := Lib.hid k7; have HR7 := Lib.hid hr7; clear h7 k7 hr7))
  obtain ⟨k2, k3, k4, k5⟩ := KAA.out
  have hzW : w.heap.size ≤ W.drew.heap.size := HW.out.size
  have z2 := HS2.out.lt
  have z3 := HS3.out.lt
  have z4 := HS4.out.lt
  have z5 := HS5.out.lt
  have z6 := HS6.out.lt
  have zr := HR3.out
  have zr5 := HR5.out
  have zr7 := HR7.out
  have y3 := k3.size
  have y4 := k4.size
  have y5 := k5.size
  have hpf : p ∉ f1 := by obtain ⟨_, _, _, _, _, _, _, h, _⟩ := HS2.out; exact h
  have hqf : p2 ∉ f2 := by obtain ⟨_, _, _, _, _, _, _, h, _⟩ := HS4.out; exact h
  have hord : Ord3 w.heap.size r p r2 p2 r3 q f1 f2 f3 := ⟨by omega, by omega, by omega, by omega, by omega, by omega, fun x hx => by have := HBF2.out x hx; omega,
    fun x hx => by have := HBF4.out x hx; omega, fun x hx => by have := HBF6.out x hx; omega, hpf, hqf⟩
  have k67 : Chg [] w5 w7 := HK6.out.trans HK7.out
  have hrds : Rds w7 r p r2 p2 f1 f2 b 0 := ⟨⟨b, c, -1, 0, 0⟩, ⟨b, d, -1, 0, 0⟩, HS3.out.chg ((k4.trans k5).trans k67) (by simp) (by simp) (by simp), HS5.out.chg k67 (by simp) (by simp) (by simp), HOK1.out, HOK2.out, rfl, rfl, rfl, rfl, rfl, rfl⟩
  have hkw : Chg [] w w7 := K5.out.trans k67
  have hoks : Snk.Ok ⟨[], c, -1, 0⟩ := Snk.ok_new (by rw [HM.out]; omega) (by decide)
  have HORD := Lib.hid hord
  have HRDS := Lib.hid hrds
  have HKW := Lib.hid hkw
  have HOKS := Lib.hid hoks
  clear k2 k3 k4 k5 z2 z3 z4 z5 z6 zr zr5 zr7 y3 y4 y5 hpf hqf hord k67 hrds hkw hoks hzW b2 b4 b6 h5c0 h5c1
  go_loopw [69] (fun i wr => ∃ k : Nat, k ≤ Q + 1 ∧ i = .int .i64 k ∧ Chg [] w wr ∧ ∃ o σ, WrtAt w.heap.size wr r3 q f3 o 0 σ ∧ σ.Ok ∧ σ.fail = -1 ∧ (∀ g ∈ o, r3 < g) ∧ σ.b = b.take (512 * min k (b.length / 512)) ∧ (k ≤ Q → Rds wr r p r2 p2 f1 f2 b k)) (fun i _ => Q + 1 - (intOf i).toNat)
  case atStart => exact ⟨0, Nat.zero_le _, rfl, HKW.out, [], _, HW7.out, HOKS.out, rfl, by simp, by simp, fun _ => HRDS.out⟩
  case round =>
    obtain ⟨k, hk, rfl, hkr, o, σ, hwt, hok, hsf, hog, hsb, hrd⟩ := hrel
    have HKR := Lib.hid hkr
    have HWT := Lib.hid hwt
    have HOK := Lib.hid hok
    have HSF := Lib.hid hsf
    have HOG := Lib.hid hog
    have HSB := Lib.hid hsb
    clear hkr hwt hok hsf hog hsb
    by_cases hlt : k < Q + 1
    · obtain ⟨ρ1, ρ2, s1, s2, ok1, ok2, rb1, rb2, rf1, rf2, ro1, ro2⟩ := hrd (by omega)
      obtain ⟨i1, i2, i3, i4, i5, i6⟩ := nextPair ok1 rb1 rf1 ro1
      obtain ⟨j1, j2, j3, j4, j5, j6⟩ := nextPair ok2 rb2 rf2 ro2
      have hst1 := readerNext wr r p f1 0 ρ1 s1 ok1 HORD.out.n1
      rw [rdNext_ok] at hst1
      have hst2 : ∀ w5, Chg [r, p] wr w5 → Calls Try.prog 44 #[.pointer (some ⟨r2, 0, none⟩)] w5 fun e w' => GotB w5 w' e (nextF 512 [] ρ2).1 (nextF 512 [] ρ2).2.1 ∧ RdrAt w' r2 p2 f2 (nextF 512 [] ρ2).1 (nextF 512 [] ρ2).2.2 ∧ Chg [r2, p2] w5 w' := fun w5 hk5 => by
        have hO := HORD.out
        have h1 := hO.pr
        have h2 := hO.rp
        have h3 := hO.p2r
        have h := readerNext w5 r2 p2 f2 0 ρ2 (s2.chg hk5 (by simp; omega) (by simp; omega) (fun x hx => by have := hO.hf2 x hx; simp; omega)) ok2 hO.n2
        rw [rdNext_ok] at h
        exact h
      have hbsl : (bAt b k).length ≤ 512 := by unfold bAt; split <;> simp <;> omega
      have hE : k < Q → eAt b.length k = 0 := fun h => by unfold eAt; rw [if_pos (by rw [HL.out]; have := HQT.out; omega)]
      have htk := bAt_take b k
      generalize nextF 512 [] ρ1 = R1 at *
      generalize nextF 512 [] ρ2 = R2 at *
      obtain ⟨e1, x1, ρ1'⟩ := R1
      obtain ⟨e2, x2, ρ2'⟩ := R2
      simp only at i1 i2 i3 i4 i5 i6 j1 j2 j3 j4 j5 j6 hst1 hst2
      subst i1 i2 j1 j2
      generalize eAt b.length k = E at *
      generalize bAt b k = bs at *
      have HST1 := Lib.hid hst1
      have HST2 := Lib.hid hst2
      have HI := Lib.hid (And.intro i3 (And.intro i4 (And.intro i5 i6)))
      have HJ := Lib.hid (And.intro j3 (And.intro j4 (And.intro j5 j6)))
      have HE := Lib.hid hE
      have HTK := Lib.hid htk
      clear hst1 hst2 i3 i4 i5 i6 j3 j4 j5 j6 hE htk s1 s2 ok1 ok2 rb1 rb2 rf1 rf2 ro1 ro2 hrd
      go_upto_region 13 with (go_at_call 44; refine HST1.out.mono ?_; rintro e w8 ⟨⟨a8, c8, rfl, hown8⟩, s8, k8⟩; have HO8 := Lib.hid hown8; have HS8 := Lib.hid s8; have HK8 := Lib.hid k8; clear hown8 s8 k8)
      go_upto_region 14 with (go_at_call 44; refine (HST2.out _ HK8.out).mono ?_; rintro e w9 ⟨⟨a9, c9, rfl, hown9⟩, s9, k9⟩; have HO9 := Lib.hid hown9; have HS9 := Lib.hid s9; have HK9 := Lib.hid k9; clear hown9 s9 k9)
      have hO := HORD.out
      have o1 := hO.bp
      have o2 := hO.pr
      have o3 := hO.rp
      have o4 := hO.p2r
      have o5 := hO.rq
      have o6 := hO.qr
      have hwl := HWT.out.lt
      have hs9 := HS8.out.chg HK9.out (by simp; omega) (by simp; omega) (fun x hx => by have := hO.hf1 x hx; simp; omega)
      have hw9 := (HWT.out.chg HK8.out (by simp; omega) (by simp; omega) (fun x hx => by have := hO.hf3 x hx; simp; omega) (fun x hx => by have := HOG.out x hx; simp; omega)).chg HK9.out (by simp; omega) (by simp; omega) (fun x hx => by have := hO.hf3 x hx; simp; omega) (fun x hx => by have := HOG.out x hx; simp; omega)
      have hx9 := own_keep HO8.out HK9.out (fun g hg hm => by have h1 := (HO8.out.lt g (by simpa using hg)).1; simp at hm; omega)
      have v8 : (convert 22 9 (.slice a8 bs.length c8)).run Try.prog w9 = .ok (.string (sb bs)) w9 := conv_own (S := []) rfl hx9 (Chg.refl _ _) (by simp)
      have v9 : (convert 22 9 (.slice a9 bs.length c9)).run Try.prog w9 = .ok (.string (sb bs)) w9 := conv_own (S := []) rfl HO9.out (Chg.refl _ _) (by simp)
      obtain ⟨hrd9, hrb9, hrc9⟩ := own_rd2 hx9
      have hol := HWT.out.s.ownlt
      obtain ⟨σ1, w1a, w1b, w1c, w1d⟩ := wWrite_free HOK.out (by rw [HSF.out]; decide) bs
      have hsl : σ.b.length ≤ 3000 := by rw [HSB.out, List.length_take, HL.out]; omega
      have hst := writerWrite w9 w.heap.size r3 q f3 o _ 0 σ bs a8 c8 hw9 HOK.out hrd9 hrc9 (fun y hy => by
        obtain ⟨h1, h2⟩ := hrb9 y hy
        exact ⟨by omega, by omega, fun hm => by have := (hol y hm).2; omega, h2⟩) (by omega)
      rw [w1a] at hst
      have hk9 : Chg [] w w9 := (HKR.out.nil_of HK8.out (Nat.le_refl _) (by simp; omega)).nil_of HK9.out (Nat.le_refl _) (by simp; omega)
      have HS9' := Lib.hid hs9
      have HST3 := Lib.hid hst
      have HK09 := Lib.hid hk9
      have HW1 := Lib.hid (And.intro w1b (And.intro w1c w1d))
      have HSL := Lib.hid hsl
      clear hO o1 o2 o3 o4 o5 o6 hwl hs9 hw9 hx9 hrd9 hrb9 hrc9 hol w1a w1b w1c w1d hsl hst hk9
      generalize hBL : bs.length = BL at *
      have HBL := Lib.hid hBL
      clear hBL
      go_wp2_with (go_at_call 48; refine HST3.out.mono ?_; rintro e w10 ⟨rfl, hto⟩; have HTO := Lib.hid hto; clear hto)
      go_roundw
      case rel =>
        obtain ⟨o', ⟨h1, h2⟩, h3⟩ := HTO.out
        have hO := HORD.out
        have o1 := hO.bp
        have o2 := hO.pr
        have o3 := hO.rp
        have o4 := hO.p2r
        have o5 := hO.rq
        have o6 := hO.qr
        have hwl := HWT.out.lt
        have hz := HK8.out.size
        have hz2 := HK9.out.size
        refine ⟨k + 1, by omega, by go_num, HK09.out.nil_of h3 (Nat.le_refl _) ?_, o', σ1, h1, HW1.out.2.2, by rw [HW1.out.2.1, HSF.out], ?_, by rw [HW1.out.1, HSB.out, HTK.out], ?_⟩
        · intro y hy
          rcases List.mem_cons.1 hy with rfl | hy
          · omega
          · rcases List.mem_cons.1 hy with rfl | hy
            · omega
            · have := HOG.out y hy; omega
        · intro g hg
          rcases h2 g hg with h | h
          · exact HOG.out g h
          · omega
        · intro hkQ
          have hE0 := HE.out (by omega)
          have a1 := HS9'.out
          have a2 := HS9.out
          rw [hE0] at a1 a2
          have nm : ∀ x, x < q → x ∉ r3 :: q :: o := fun x hx hm => by
            rcases List.mem_cons.1 hm with rfl | hm
            · omega
            · rcases List.mem_cons.1 hm with rfl | hm
              · omega
              · have := HOG.out x hm; omega
          exact ⟨ρ1', ρ2', a1.chg h3 (nm r (by omega)) (nm p (by omega)) (fun x hx => nm x (by have := hO.hf1 x hx; omega)), a2.chg h3 (nm r2 (by omega)) (nm p2 (by omega)) (fun x hx => nm x (by have := hO.hf2 x hx; omega)),
            HI.out.1, HJ.out.1, HI.out.2.1, HJ.out.2.1, HI.out.2.2.1, HJ.out.2.2.1, by have := HI.out.2.2.2 (by rw [HQL.out]; omega); omega, by have := HJ.out.2.2.2 (by rw [HQL.out]; omega); omega⟩
      case measure => simp [intOf]; omega
    · have hkk : k = Q + 1 := by omega
      subst hkk
      go_upto_region 17 with (fail)
      have hsb : σ.b = b.take T := by rw [HSB.out, HQL.out, show min (Q + 1) Q = Q by omega, HQT.out]
      have hsl : σ.b.length = T := by rw [hsb, List.length_take, HL.out]; omega
      have hrt := H1.out.take T
      rw [bv_take] at hrt
      obtain ⟨σ2, w2a, w2b, w2c, w2d⟩ := wWrite_free HOK.out (by rw [HSF.out]; decide) (List.replicate (padN σ.b.length) 0)
      have hpz : padN σ.b.length = 0 := by rw [hsl, HQT.out]; unfold padN; omega
      have hs2l : σ2.b.length = T := by rw [w2b, hpz]; simp [hsl]
      have hTc : T ≤ bc := by omega
      have hTci : (T : Int) ≤ bc := by omega
      have hwq : IntKind.i64.wrap (Q : Int) = Q := IntWalk.i64_in _ (by omega)
      have hwt : IntKind.i64.wrap (T : Int) = T := IntWalk.i64_in _ (by omega)
      have HSBT := Lib.hid hsb
      have HSL := Lib.hid hsl
      have HRT := Lib.hid hrt
      have HW2 := Lib.hid w2a
      have HS2L := Lib.hid hs2l
      clear hsb hsl hrt w2a w2b w2c w2d hpz hs2l hrd
      refine wp_region_held_drew (S := fun w' => (convert 22 9 (.slice bo T bc)).run Try.prog w' = .ok (.string (sb (b.take T))) w' ∧ Chg [] w w') (by kernel_rfl) ?_ (fun hHeld => ?_)
      · exact ⟨Try.conv _ _ _ _ _ _ (by rw [List.length_take, HL.out]; omega) (HRT.out.chg (S := []) HKR.out.drew (by simp)), HKR.out.drew⟩
      refine wpAnyH_ready (rs := [0]) (by kernel_rfl) (by simp) (AllReadyH.cons (o := ?oc1) ?hc1 (fun K hK => ?hs1) AllReadyH.nil)
      case hc1 => simp only [List.getElem?_toArray, List.getElem?_cons_zero]; rfl
      case hs1 =>
      rw [if_pos (by rfl)]
      go_simp
      go_at_call 42; refine (blkAlive _).mono ?_; rintro e w9 ⟨rfl, hc9⟩; have hwt9 := HWT.out.chg ((Chg.refl [] wr).drew.trans hc9) (by simp) (by simp) (by simp) (by simp); have HWT9 := Lib.hid hwt9; have HK9 := Lib.hid (hHeld.2.trans hc9); clear hc9 hwt9
      go_wp2_with fail
      refine hK.out _ _ ?_ (fun hHeld => ?_)
      · exact ⟨Try.conv _ _ _ _ _ _ (by rw [List.length_take, HL.out]; omega) (HRT.out.chg (S := []) HK9.out (by simp)), HK9.out⟩
      clear hK K
      try simp only [Act.put, List.setIfInBounds_toArray, List.set_cons_zero, List.set_cons_succ]
      refine wpAnyH_take (i := 1) (oi := ?oi2) (v := ?v2) ?hi2 (by kernel_rfl) (by kernel_rfl) (by kernel_rfl) ?hQ2 (Or.inl ⟨?hw2, ?hy2⟩) (by assumption) ?hr2
      case hi2 => simp only [List.getElem?_toArray, List.getElem?_cons_succ, List.getElem?_cons_zero]; rfl
      case hQ2 => exact fun _ _ _ h => h
      case hw2 => rfl
      case hy2 => intro w hSw; (try dsimp only at hSw); go_simp; (try with_reducible rfl)
      case hr2 =>
      simp only [Act.put, List.setIfInBounds_toArray, List.set_cons_zero, List.set_cons_succ]
      refine wpAnyH_take (i := 2) (oi := ?oi3) (v := ?v3) ?hi3 (by kernel_rfl) (by kernel_rfl) (by kernel_rfl) ?hQ3 (Or.inl ⟨?hw3, ?hy3⟩) (by assumption) ?hr3
      case hi3 => simp only [List.getElem?_toArray, List.getElem?_cons_succ, List.getElem?_cons_zero]; rfl
      case hQ3 => exact fun _ _ _ h => h
      case hw3 => rfl
      case hy3 => intro w hSw; (try dsimp only at hSw); go_simp; (try with_reducible rfl)
      case hr3 =>
      simp only [Act.put, List.setIfInBounds_toArray, List.set_cons_zero, List.set_cons_succ]
      refine wpAnyH_take (i := 5) (oi := ?oi4) (v := ?v4) ?hi4 (by kernel_rfl) (by kernel_rfl) (by kernel_rfl) ?hQ4 (Or.inl ⟨?hw4, ?hy4⟩) (by assumption) ?hr4
      case hi4 => simp only [List.getElem?_toArray, List.getElem?_cons_succ, List.getElem?_cons_zero]; rfl
      case hQ4 => exact fun _ _ _ h => h
      case hw4 => rfl
      case hy4 => intro w hSw; (try dsimp only at hSw); go_simp; (try with_reducible rfl)
      case hr4 =>
      simp only [Act.put, List.setIfInBounds_toArray, List.set_cons_zero, List.set_cons_succ]
      refine wpAnyH_take (i := 6) (oi := ?oi5) (v := ?v5) ?hi5 (by kernel_rfl) (by kernel_rfl) (by kernel_rfl) ?hQ5 (Or.inl ⟨?hw5, ?hy5⟩) (by assumption) ?hr5
      case hi5 => simp only [List.getElem?_toArray, List.getElem?_cons_succ, List.getElem?_cons_zero]; rfl
      case hQ5 => exact fun _ _ _ h => h
      case hw5 => rfl
      case hy5 => intro w hSw; (try dsimp only at hSw); go_simp; (try with_reducible rfl)
      case hr5 =>
      simp only [Act.put, List.setIfInBounds_toArray, List.set_cons_zero, List.set_cons_succ]
      refine wpAnyH_take (i := 7) (oi := ?oi6) (v := ?v6) ?hi6 (by kernel_rfl) (by kernel_rfl) (by kernel_rfl) ?hQ6 (Or.inl ⟨?hw6, ?hy6⟩) (by assumption) ?hr6
      case hi6 => simp only [List.getElem?_toArray, List.getElem?_cons_succ, List.getElem?_cons_zero]; rfl
      case hQ6 => exact fun _ _ _ h => h
      case hw6 => rfl
      case hy6 => intro w hSw; (try dsimp only at hSw); go_simp; (try with_reducible rfl)
      case hr6 =>
      simp only [Act.put, List.setIfInBounds_toArray, List.set_cons_zero, List.set_cons_succ]
      refine wpAnyH_take (i := 8) (oi := ?oi7) (v := ?v7) ?hi7 (by kernel_rfl) (by kernel_rfl) (by kernel_rfl) ?hQ7 (Or.inl ⟨?hw7, ?hy7⟩) (by assumption) ?hr7
      case hi7 => simp only [List.getElem?_toArray, List.getElem?_cons_succ, List.getElem?_cons_zero]; rfl
      case hQ7 => exact fun _ _ _ h => h
      case hw7 => rfl
      case hy7 => intro w hSw; (try dsimp only at hSw); go_simp; (try with_reducible rfl)
      case hr7 =>
      simp only [Act.put, List.setIfInBounds_toArray, List.set_cons_zero, List.set_cons_succ]
      refine wpAnyH_take (i := 9) (oi := ?oi8) (v := ?v8) ?hi8 (by kernel_rfl) (by kernel_rfl) (by kernel_rfl) ?hQ8 (Or.inl ⟨?hw8, ?hy8⟩) (by assumption) ?hr8
      case hi8 => simp only [List.getElem?_toArray, List.getElem?_cons_succ, List.getElem?_cons_zero]; rfl
      case hQ8 => exact fun _ _ _ h => h
      case hw8 => rfl
      case hy8 => intro w hSw; (try dsimp only at hSw); go_simp; (try with_reducible rfl)
      case hr8 =>
      simp only [Act.put, List.setIfInBounds_toArray, List.set_cons_zero, List.set_cons_succ]
      refine wpAnyH_take (i := 10) (oi := ?oi9) (v := ?v9) ?hi9 (by kernel_rfl) (by kernel_rfl) (by kernel_rfl) ?hQ9 (Or.inl ⟨?hw9, ?hy9⟩) (by assumption) ?hr9
      case hi9 => simp only [List.getElem?_toArray, List.getElem?_cons_succ, List.getElem?_cons_zero]; rfl
      case hQ9 => exact fun _ _ _ h => h
      case hw9 => rfl
      case hy9 => intro w hSw; (try dsimp only at hSw); go_simp; (try with_reducible rfl)
      case hr9 =>
      simp only [Act.put, List.setIfInBounds_toArray, List.set_cons_zero, List.set_cons_succ]
      refine wpAnyH_take (i := 11) (oi := ?oi10) (v := ?v10) ?hi10 (by kernel_rfl) (by kernel_rfl) (by kernel_rfl) ?hQ10 (Or.inl ⟨?hw10, ?hy10⟩) (by assumption) ?hr10
      case hi10 => simp only [List.getElem?_toArray, List.getElem?_cons_succ, List.getElem?_cons_zero]; rfl
      case hQ10 => exact fun _ _ _ h => h
      case hw10 => rfl
      case hy10 => intro w hSw; (try dsimp only at hSw); go_simp; (try with_reducible rfl)
      case hr10 =>
      simp only [Act.put, List.setIfInBounds_toArray, List.set_cons_zero, List.set_cons_succ]
      refine wpAnyH_ready (rs := [3]) (by kernel_rfl) (by simp) (AllReadyH.cons (o := ?oc11) ?hc11 (fun K hK => ?hs11) AllReadyH.nil)
      case hc11 => simp only [List.getElem?_toArray, List.getElem?_cons_succ, List.getElem?_cons_zero]; rfl
      case hs11 =>
      rw [if_pos (by rfl)]
      go_simp
      go_at_call 32; refine (sinkBytes _ w.heap.size q f3 o σ HWT9.out.s (by rw [HSL.out]; omega)).mono ?_; rintro e w10 ⟨a10, c10, rfl, hown10, hgr10⟩; rw [HSL.out] at hown10 ⊢; rw [HSBT.out] at hown10; have hc10 : Chg [] w9 w10 := Chg.of_grown hgr10 (by simp); have v10 : (convert 22 9 (.slice a10 T c10)).run Try.prog w10 = .ok (.string (sb (b.take T))) w10 := conv_own (S := []) (by rw [List.length_take, HL.out]; omega) hown10 (Chg.refl _ _) (by simp); have HO10 := Lib.hid hown10; have HWT10 := Lib.hid (HWT9.out.chg hc10 (by simp) (by simp) (by simp) (by simp)); have HK10 := Lib.hid (hHeld.2.trans hc10); clear hown10 hgr10 hc10
      go_wp2_with fail
      refine hK.out _ _ ?_ (fun hHeld => ?_)
      · exact ⟨Try.conv _ _ _ _ _ _ (by rw [List.length_take, HL.out]; omega) (HRT.out.chg (S := []) HK10.out (by simp)), HK10.out⟩
      clear hK K
      try simp only [Act.put, List.setIfInBounds_toArray, List.set_cons_zero, List.set_cons_succ]
      refine wpAnyH_weaken (S := fun w' => (convert 22 9 (.slice a10 T c10)).run Try.prog w' = .ok (.string (sb (b.take T))) w' ∧ (convert 22 9 (.slice bo T bc)).run Try.prog w' = .ok (.string (sb (b.take T))) w' ∧ Chg [] w w') (fun w' h => ⟨h.2.1, h.2.2⟩) ?_
      have hHeld : (fun w' => (convert 22 9 (.slice a10 T c10)).run Try.prog w' = .ok (.string (sb (b.take T))) w' ∧ (convert 22 9 (.slice bo T bc)).run Try.prog w' = .ok (.string (sb (b.take T))) w' ∧ Chg [] w w') w10 := ⟨v10, Try.conv _ _ _ _ _ _ (by rw [List.length_take, HL.out]; omega) (HRT.out.chg (S := []) HK10.out (by simp)), HK10.out⟩
      refine wpAnyH_take (i := 4) (oi := ?oi12) (v := ?v12) ?hi12 (by kernel_rfl) (by kernel_rfl) (by kernel_rfl) ?hQ12 (Or.inl ⟨?hw12, ?hy12⟩) (by assumption) ?hr12
      case hi12 => simp only [List.getElem?_toArray, List.getElem?_cons_succ, List.getElem?_cons_zero]; rfl
      case hQ12 => exact fun _ _ _ h => h
      case hw12 => rfl
      case hy12 => intro w hSw; (try dsimp only at hSw); go_simp; (try with_reducible rfl)
      case hr12 =>
      simp only [Act.put, List.setIfInBounds_toArray, List.set_cons_zero, List.set_cons_succ]
      refine wpAnyH_take (i := 12) (oi := ?oi13) (v := ?v13) ?hi13 (by kernel_rfl) (by kernel_rfl) (by kernel_rfl) ?hQ13 (Or.inl ⟨?hw13, ?hy13⟩) (by assumption) ?hr13
      case hi13 => simp only [List.getElem?_toArray, List.getElem?_cons_succ, List.getElem?_cons_zero]; rfl
      case hQ13 => exact fun _ _ _ h => h
      case hw13 => rfl
      case hy13 => intro w hSw; (try dsimp only at hSw); go_simp; (try with_reducible rfl)
      case hr13 =>
      simp only [Act.put, List.setIfInBounds_toArray, List.set_cons_zero, List.set_cons_succ]
      refine wpAnyH_take (i := 13) (oi := ?oi14) (v := ?v14) ?hi14 (by kernel_rfl) (by kernel_rfl) (by kernel_rfl) ?hQ14 (Or.inl ⟨?hw14, ?hy14⟩) (by assumption) ?hr14
      case hi14 => simp only [List.getElem?_toArray, List.getElem?_cons_succ, List.getElem?_cons_zero]; rfl
      case hQ14 => exact fun _ _ _ h => h
      case hw14 => rfl
      case hy14 => intro w hSw; (try dsimp only at hSw); go_simp; (try with_reducible rfl)
      case hr14 =>
      simp only [Act.put, List.setIfInBounds_toArray, List.set_cons_zero, List.set_cons_succ]
      refine wpAnyH_take (i := 14) (oi := ?oi15) (v := ?v15) ?hi15 (by kernel_rfl) (by kernel_rfl) (by kernel_rfl) ?hQ15 (Or.inl ⟨?hw15, ?hy15⟩) (by assumption) ?hr15
      case hi15 => simp only [List.getElem?_toArray, List.getElem?_cons_succ, List.getElem?_cons_zero]; rfl
      case hQ15 => exact fun _ _ _ h => h
      case hw15 => rfl
      case hy15 => intro w hSw; (try dsimp only at hSw); go_simp; (try with_reducible rfl)
      case hr15 =>
      simp only [Act.put, List.setIfInBounds_toArray, List.set_cons_zero, List.set_cons_succ]
      refine wpAnyH_take (i := 15) (oi := ?oi16) (v := ?v16) ?hi16 (by kernel_rfl) (by kernel_rfl) (by kernel_rfl) ?hQ16 (Or.inl ⟨?hw16, ?hy16⟩) (by assumption) ?hr16
      case hi16 => simp only [List.getElem?_toArray, List.getElem?_cons_succ, List.getElem?_cons_zero]; rfl
      case hQ16 => exact fun _ _ _ h => h
      case hw16 => rfl
      case hy16 => intro w hSw; (try dsimp only at hSw); go_simp; (try with_reducible rfl)
      case hr16 =>
      simp only [Act.put, List.setIfInBounds_toArray, List.set_cons_zero, List.set_cons_succ]
      refine wpAnyH_ready (rs := [16]) (by kernel_rfl) (by simp) (AllReadyH.cons (o := ?oc17) ?hc17 (fun K hK => ?hs17) AllReadyH.nil)
      case hc17 => simp only [List.getElem?_toArray, List.getElem?_cons_succ, List.getElem?_cons_zero]; rfl
      case hs17 =>
      rw [if_pos (by rfl)]
      go_simp
      go_at_call 49; refine (writerPad _ w.heap.size r3 q f3 o 0 σ HWT10.out HOK.out (by rw [HSL.out]; omega)).mono ?_; rintro e w11 ⟨rfl, hto⟩; rw [HW2.out] at hto ⊢; obtain ⟨o11, ⟨h11, _⟩, k11⟩ := hto; have v11 : (convert 22 9 (.slice a10 T c10)).run Try.prog w11 = .ok (.string (sb (b.take T))) w11 := conv_own (by rw [List.length_take, HL.out]; omega) HO10.out k11 (fun x hx hm => by have hO := HORD.out; have o6 := hO.qr; have hl := HWT9.out.lt; have hl2 := HWT9.out.s.ownlt; rcases List.mem_cons.1 hm with rfl | hm; omega; rcases List.mem_cons.1 hm with rfl | hm; omega; have := (hl2 x hm).2; omega); have K11 := Lib.hid (HK10.out.nil_of k11 (Nat.le_refl _) (by intro y hy; have hO := HORD.out; have o1 := hO.bp; have o2 := hO.pr; have o3 := hO.rp; have o4 := hO.p2r; have o5 := hO.rq; have o6 := hO.qr; rcases List.mem_cons.1 hy with rfl | hy; omega; rcases List.mem_cons.1 hy with rfl | hy; omega; have := HOG.out y hy; omega)); have HWT11 := Lib.hid h11; clear h11 k11
      go_wp2_with fail
      refine hK.out _ _ ?_ (fun hHeld => ?_)
      · exact ⟨v11, Try.conv _ _ _ _ _ _ (by rw [List.length_take, HL.out]; omega) (HRT.out.chg (S := []) K11.out (by simp)), K11.out⟩
      clear hK K
      try simp only [Act.put, List.setIfInBounds_toArray, List.set_cons_zero, List.set_cons_succ]
      refine wpAnyH_take (i := 17) (oi := ?oi18) (v := ?v18) ?hi18 (by kernel_rfl) (by kernel_rfl) (by kernel_rfl) ?hQ18 (Or.inl ⟨?hw18, ?hy18⟩) (by assumption) ?hr18
      case hi18 => simp only [List.getElem?_toArray, List.getElem?_cons_succ, List.getElem?_cons_zero]; rfl
      case hQ18 => exact fun _ _ _ h => h
      case hw18 => rfl
      case hy18 => intro w hSw; (try dsimp only at hSw); go_simp; (try with_reducible rfl)
      case hr18 =>
      simp only [Act.put, List.setIfInBounds_toArray, List.set_cons_zero, List.set_cons_succ]
      refine wpAnyH_take (i := 18) (oi := ?oi19) (v := ?v19) ?hi19 (by kernel_rfl) (by kernel_rfl) (by kernel_rfl) ?hQ19 (Or.inl ⟨?hw19, ?hy19⟩) (by assumption) ?hr19
      case hi19 => simp only [List.getElem?_toArray, List.getElem?_cons_succ, List.getElem?_cons_zero]; rfl
      case hQ19 => exact fun _ _ _ h => h
      case hw19 => rfl
      case hy19 => intro w hSw; (try dsimp only at hSw); go_simp; (try with_reducible rfl)
      case hr19 =>
      simp only [Act.put, List.setIfInBounds_toArray, List.set_cons_zero, List.set_cons_succ]
      refine wpAnyH_take (i := 19) (oi := ?oi20) (v := ?v20) ?hi20 (by kernel_rfl) (by kernel_rfl) (by kernel_rfl) ?hQ20 (Or.inl ⟨?hw20, ?hy20⟩) (by assumption) ?hr20
      case hi20 => simp only [List.getElem?_toArray, List.getElem?_cons_succ, List.getElem?_cons_zero]; rfl
      case hQ20 => exact fun _ _ _ h => h
      case hw20 => rfl
      case hy20 => intro w hSw; (try dsimp only at hSw); go_simp; (try with_reducible rfl)
      case hr20 =>
      simp only [Act.put, List.setIfInBounds_toArray, List.set_cons_zero, List.set_cons_succ]
      refine wpAnyH_take (i := 20) (oi := ?oi21) (v := ?v21) ?hi21 (by kernel_rfl) (by kernel_rfl) (by kernel_rfl) ?hQ21 (Or.inl ⟨?hw21, ?hy21⟩) (by assumption) ?hr21
      case hi21 => simp only [List.getElem?_toArray, List.getElem?_cons_succ, List.getElem?_cons_zero]; rfl
      case hQ21 => exact fun _ _ _ h => h
      case hw21 => rfl
      case hy21 => intro w hSw; (try dsimp only at hSw); go_simp; (try with_reducible rfl)
      case hr21 =>
      simp only [Act.put, List.setIfInBounds_toArray, List.set_cons_zero, List.set_cons_succ]
      refine wpAnyH_take (i := 22) (oi := ?oi22) (v := ?v22) ?hi22 (by kernel_rfl) (by kernel_rfl) (by kernel_rfl) ?hQ22 (Or.inl ⟨?hw22, ?hy22⟩) (by assumption) ?hr22
      case hi22 => simp only [List.getElem?_toArray, List.getElem?_cons_succ, List.getElem?_cons_zero]; rfl
      case hQ22 => exact fun _ _ _ h => h
      case hw22 => rfl
      case hy22 => intro w hSw; (try dsimp only at hSw); go_simp; (try with_reducible rfl)
      case hr22 =>
      simp only [Act.put, List.setIfInBounds_toArray, List.set_cons_zero, List.set_cons_succ]
      refine wpAnyH_take (i := 23) (oi := ?oi23) (v := ?v23) ?hi23 (by kernel_rfl) (by kernel_rfl) (by kernel_rfl) ?hQ23 (Or.inl ⟨?hw23, ?hy23⟩) (by assumption) ?hr23
      case hi23 => simp only [List.getElem?_toArray, List.getElem?_cons_succ, List.getElem?_cons_zero]; rfl
      case hQ23 => exact fun _ _ _ h => h
      case hw23 => rfl
      case hy23 => intro w hSw; (try dsimp only at hSw); go_simp; (try with_reducible rfl)
      case hr23 =>
      simp only [Act.put, List.setIfInBounds_toArray, List.set_cons_zero, List.set_cons_succ]
      refine wpAnyH_take (i := 24) (oi := ?oi24) (v := ?v24) ?hi24 (by kernel_rfl) (by kernel_rfl) (by kernel_rfl) ?hQ24 (Or.inl ⟨?hw24, ?hy24⟩) (by assumption) ?hr24
      case hi24 => simp only [List.getElem?_toArray, List.getElem?_cons_succ, List.getElem?_cons_zero]; rfl
      case hQ24 => exact fun _ _ _ h => h
      case hw24 => rfl
      case hy24 => intro w hSw; (try dsimp only at hSw); go_simp; (try with_reducible rfl)
      case hr24 =>
      simp only [Act.put, List.setIfInBounds_toArray, List.set_cons_zero, List.set_cons_succ]
      refine wpAnyH_take (i := 25) (oi := ?oi25) (v := ?v25) ?hi25 (by kernel_rfl) (by kernel_rfl) (by kernel_rfl) ?hQ25 (Or.inl ⟨?hw25, ?hy25⟩) (by assumption) ?hr25
      case hi25 => simp only [List.getElem?_toArray, List.getElem?_cons_succ, List.getElem?_cons_zero]; rfl
      case hQ25 => exact fun _ _ _ h => h
      case hw25 => rfl
      case hy25 => intro w hSw; (try dsimp only at hSw); go_simp; (try with_reducible rfl)
      case hr25 =>
      simp only [Act.put, List.setIfInBounds_toArray, List.set_cons_zero, List.set_cons_succ]
      refine wpAnyH_ready (rs := [21]) (by kernel_rfl) (by simp) (AllReadyH.cons (o := ?oc26) ?hc26 (fun K hK => ?hs26) AllReadyH.nil)
      case hc26 => simp only [List.getElem?_toArray, List.getElem?_cons_succ, List.getElem?_cons_zero]; rfl
      case hs26 =>
      rw [if_pos (by rfl)]
      go_simp
      go_at_call 50; refine (writerOffset _ w.heap.size r3 q f3 o11 0 σ2 HWT11.out).mono ?_; rintro e w12 ⟨rfl, hww⟩; obtain rfl := hww.symm; rw [HS2L.out]
      go_wp2_with fail
      refine hK.out _ _ ?_ (fun hHeld => ?_)
      · exact ⟨v11, Try.conv _ _ _ _ _ _ (by rw [List.length_take, HL.out]; omega) (HRT.out.chg (S := []) K11.out (by simp)), K11.out⟩
      clear hK K
      try simp only [Act.put, List.setIfInBounds_toArray, List.set_cons_zero, List.set_cons_succ]
      refine wpAnyH_take (i := 26) (oi := ?oi27) (v := ?v27) ?hi27 (by kernel_rfl) (by kernel_rfl) (by kernel_rfl) ?hQ27 (Or.inl ⟨?hw27, ?hy27⟩) (by assumption) ?hr27
      case hi27 => simp only [List.getElem?_toArray, List.getElem?_cons_succ, List.getElem?_cons_zero]; rfl
      case hQ27 => exact fun _ _ _ h => h
      case hw27 => rfl
      case hy27 => intro w hSw; (try dsimp only at hSw); go_simp; (try with_reducible rfl)
      case hr27 =>
      simp only [Act.put, List.setIfInBounds_toArray, List.set_cons_zero, List.set_cons_succ]
      refine wpAnyH_take (i := 27) (oi := ?oi28) (v := ?v28) ?hi28 (by kernel_rfl) (by kernel_rfl) (by kernel_rfl) ?hQ28 (Or.inl ⟨?hw28, ?hy28⟩) (by assumption) ?hr28
      case hi28 => simp only [List.getElem?_toArray, List.getElem?_cons_succ, List.getElem?_cons_zero]; rfl
      case hQ28 => exact fun _ _ _ h => h
      case hw28 => rfl
      case hy28 => intro w hSw; (try dsimp only at hSw); go_simp; (try with_reducible rfl)
      case hr28 =>
      simp only [Act.put, List.setIfInBounds_toArray, List.set_cons_zero, List.set_cons_succ]
      refine wpAnyH_take (i := 28) (oi := ?oi29) (v := ?v29) ?hi29 (by kernel_rfl) (by kernel_rfl) (by kernel_rfl) ?hQ29 (Or.inl ⟨?hw29, ?hy29⟩) (by assumption) ?hr29
      case hi29 => simp only [List.getElem?_toArray, List.getElem?_cons_succ, List.getElem?_cons_zero]; rfl
      case hQ29 => exact fun _ _ _ h => h
      case hw29 => rfl
      case hy29 => intro w hSw; (try dsimp only at hSw); go_simp; (try with_reducible rfl)
      case hr29 =>
      simp only [Act.put, List.setIfInBounds_toArray, List.set_cons_zero, List.set_cons_succ]
      refine wpAnyH_done (by kernel_rfl) ?_ _
      go_wp2_with fail
      go_ret
      exact ⟨rfl, K11.out⟩
end Go.Proofs.Ytljlcigbehgohaa
