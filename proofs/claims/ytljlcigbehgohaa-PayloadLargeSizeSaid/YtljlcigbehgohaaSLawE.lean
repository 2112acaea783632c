/- paxtarlaw05.SinkIsolated. -/
import Derived.Test.YtljlcigbehgohaaSLawD
namespace Go.Proofs.Ytljlcigbehgohaa
open Go.RowKit Go.Pax

/-- Two sinks of one state, that share nothing and lie in blocks from Z on. -/
structure Twin (B Z : Nat) (w : World) (p q : Nat) (f1 f2 o1 o2 : List Nat) (σ : Snk) : Prop where
  s : SnkAt B w p f1 o1 σ
  t : SnkAt B w q f2 o2 σ
  zp : Z ≤ p
  zq : Z ≤ q
  zf1 : ∀ g ∈ f1, Z ≤ g
  zf2 : ∀ g ∈ f2, Z ≤ g
  zo1 : ∀ g ∈ o1, Z ≤ g
  zo2 : ∀ g ∈ o2, Z ≤ g
theorem Twin.chg {B Z : Nat} {w w' : World} {p q : Nat} {f1 f2 o1 o2 S : List Nat} {σ : Snk} (h : Twin B Z w p q f1 f2 o1 o2 σ) (k : Chg S w w') (hS : ∀ g ∈ S, g < Z ∨ w.heap.size ≤ g) : Twin B Z w' p q f1 f2 o1 o2 σ := by
  have hp := h.s.lt
  have hq := h.t.lt
  have h1 : ∀ g ∈ f1, g < w.heap.size := by obtain ⟨_, _, _, _, _, _, _, _, _, _, h7, _⟩ := h.s; exact h7
  have h2 : ∀ g ∈ f2, g < w.heap.size := by obtain ⟨_, _, _, _, _, _, _, _, _, _, h7, _⟩ := h.t; exact h7
  have n : ∀ g, Z ≤ g → g < w.heap.size → g ∉ S := fun g a b hm => by have := hS g hm; omega
  exact ⟨h.s.chg k (n p h.zp hp) (fun g hg => n g (h.zf1 g hg) (h1 g hg)) (fun g hg => n g (h.zo1 g hg) (h.s.ownlt g hg).2),
    h.t.chg k (n q h.zq hq) (fun g hg => n g (h.zf2 g hg) (h2 g hg)) (fun g hg => n g (h.zo2 g hg) (h.t.ownlt g hg).2), h.zp, h.zq, h.zf1, h.zf2, h.zo1, h.zo2⟩

set_option maxRecDepth 100000 in
set_option maxHeartbeats 8000000 in
theorem sinkIsolated (w : World) (bo co : Option Addr) (bc cc : Nat) (b : List UInt8) (c : List Int) (fail : Int) (fp : List Nat)
    (hb : b.length ≤ 140737488355328) (hbc : b.length ≤ bc) (hcl : c.length * 8 ≤ 140737488355328) (hf : -9223372036854775808 ≤ fail ∧ fail ≤ 9223372036854775807)
    (h1 : Rd w fp co (iv c)) (h2 : Rd w fp bo (bv b)) :
    Calls Try.prog 9 #[.agg #[.slice co c.length cc, .int .i64 fail], .slice bo b.length bc] w fun e w' => e = .returned (.bool true) ∧ Chg [] w w' := by
  have H1 := Lib.hid h1
  have H2 := Lib.hid h2
  have HF := Lib.hid hf
  clear h1 h2 hf
  by_cases g2 : 2000 < b.length
  · clear hb
    go_enter Try.func9, Try.ntmps9
    go_wp2_with (go_at_call 35; refine (sinkAlive _).mono ?_; rintro e w9 ⟨rfl, hc9⟩)
    go_ret
    exact ⟨rfl, ((Chg.refl _ _).alloc _).trans hc9⟩
  by_cases g3 : 300 < c.length
  · go_enter Try.func9, Try.ntmps9
    go_wp2_with (go_at_call 35; refine (sinkAlive _).mono ?_; rintro e w9 ⟨rfl, hc9⟩)
    go_ret
    exact ⟨rfl, ((Chg.refl _ _).alloc _).trans hc9⟩
  obtain ⟨ib, hib, hib0, hib1, hib2⟩ := Try.infoB
  obtain ⟨ii, hii, hii0, hii1, hii2⟩ := Try.infoI
  have hok : Snk.Ok ⟨[], c, fail, 0⟩ := Snk.ok_new (by omega) HF.out
  have HOK := Lib.hid hok
  clear hok
  generalize hL : b.length = L at *
  have HL := Lib.hid hL
  generalize hM : c.length = M at *
  have HM := Lib.hid hM
  clear hL hM
  go_enter Try.func9, Try.ntmps9
  go_upto_region 3 with (fail)
  have hc0 : (w.alloc (.cells #[.slice co M cc, .int .i64 fail] 25)).cell? ⟨w.heap.size, 0, none⟩ = some (.slice co M cc) := by go_simp
  have hc1 : (w.alloc (.cells #[.slice co M cc, .int .i64 fail] 25)).cell? ⟨w.heap.size, 1, none⟩ = some (.int .i64 fail) := by go_simp
  have hcW : Chg [] w (w.alloc (.cells #[.slice co M cc, .int .i64 fail] 25)) := (Chg.refl _ _).alloc _
  have hsz : (w.alloc (.cells #[.slice co M cc, .int .i64 fail] 25)).heap.size = w.heap.size + 1 := by simp
  generalize w.alloc (.cells #[.slice co M cc, .int .i64 fail] 25) = W at *
  have HS := Lib.hid hsz
  have HC := Lib.hid hcW
  clear hsz hcW
  have hd0 : (W.alloc (.cells #[] 3)).cell? ⟨w.heap.size, 0, none⟩ = some (.slice co M cc) := Lib.cell?_alloc_some _ hc0
  go_upto_region 4 with (at_builtin; refine wpList_append_rd rfl (.tmp 27) (.tmp 29) 23 rfl (w.heap.size + 1) 3 ii (.int .i64 0) 8 Try.underlying23 hii hii0 hii1 hii2 rfl (.slice (some ⟨_, 0, none⟩) 0 0) 0 [] rfl (own_empty (heap_alloc_new _ _) (by rw [HS.out]; omega)) co M cc fp (iv c) rfl (by rw [iv_length, HM.out]) ((H1.out.chg HC.out (by simp)).chg (S := []) ((Chg.refl _ _).alloc _) (by simp)) (iv_one c) (by omega) (by unfold maxLen; omega) (by have := HS.out; simp; omega) ?_; intro a1 c1 w1 hown1 hgr1 hat1; simp only [Nat.zero_add, List.nil_append] at hown1 hat1)
  have k1 : Chg [] W w1 := ((Chg.refl [] W).alloc _).grown hgr1 (by intro k hk hlt; simp [Value.ownBlock] at hk; omega)
  have d0 := k1.cell hc0 (by simp)
  have d1 := k1.cell hc1 (by simp)
  have z1 := k1.size
  have HO1 := Lib.hid hown1
  have K1 := Lib.hid k1
  clear hc0 hc1 hd0 hown1 hgr1 hat1 k1
  go_upto_region 5 with (at_builtin; refine wpList_append_rd rfl (.tmp 31) (.tmp 32) 22 rfl (w.heap.size + 1) 5 ib (.int .u8 0) 1 Try.underlying22 hib hib0 hib1 hib2 rfl (.slice (some ⟨_, 0, none⟩) 0 0) 0 [] rfl (own_empty (heap_alloc_new _ _) (by rw [HS.out] at z1; omega)) bo L bc fp (bv b) rfl (by rw [bv_length, HL.out]) (((H2.out.chg HC.out (by simp)).chg K1.out (by simp)).chg (S := []) ((Chg.refl _ _).alloc _) (by simp)) (bv_one b) (by omega) (by unfold maxLen; omega) (by rw [HS.out] at z1; simp; omega) ?_; intro a2 c2 w2 hown2 hgr2 hat2; simp only [Nat.zero_add, List.nil_append] at hown2 hat2)
  have k2 : Chg [] w1 w2 := ((Chg.refl [] w1).alloc _).grown hgr2 (by intro k hk hlt; simp [Value.ownBlock] at hk; omega)
  have e0 := k2.cell d0 (by simp)
  have e1 := k2.cell d1 (by simp)
  have z2 : w.heap.size + 1 ≤ w2.heap.size := by have := k2.size; rw [HS.out] at z1; omega
  have kW : Chg [] w w2 := (HC.out.trans K1.out).trans k2
  have o1 := own_chg HO1.out k2 (by simp)
  have HO2 := Lib.hid hown2
  have O1 := Lib.hid o1
  have KW := Lib.hid kW
  have hne : ∀ g1 g2, (Value.slice a1 M c1).ownBlock = some g1 → (Value.slice a2 L c2).ownBlock = some g2 → g1 ≠ g2 := by
    intro g1 g2 e1 e2
    have b1 := HO1.out.lt g1 e1
    rw [e2] at hat2
    simp [Value.ownBlock] at hat2
    omega
  obtain ⟨q1, bq1, _⟩ := own_rd2 o1
  obtain ⟨q2, bq2, bq3⟩ := own_rd2 hown2
  clear d0 d1 hown2 hgr2 hat2 k2 kW o1 z1
  have Q1 := Lib.hid q1
  have Q2 := Lib.hid q2
  have BQ1 := Lib.hid bq1
  have BQ2 := Lib.hid bq2
  have HNE := Lib.hid hne
  clear q1 q2 bq1 bq2 hne
  refine wp_region_held_drew (S := fun w' => w'.cell? ⟨w.heap.size, 0, none⟩ = some (.slice co M cc) ∧ w'.cell? ⟨w.heap.size, 1, none⟩ = some (.int .i64 fail) ∧ Chg [] w2 w') (by kernel_rfl) ?_ (fun hHeld => ?_)
  · exact ⟨by simp [*], by simp [*], (Chg.refl _ _).drew⟩
  refine wpAnyH_take (i := 0) (oi := ?oi1) (v := ?v1) ?hi1 (by kernel_rfl) (by kernel_rfl) (by kernel_rfl) ?hQ1 (Or.inl ⟨?hw1, ?hy1⟩) (by assumption) ?hr1
  case hi1 => simp only [List.getElem?_toArray, List.getElem?_cons_zero]; rfl
  case hQ1 => exact fun _ _ _ h => h
  case hw1 => rfl
  case hy1 => intro w hSw; (try dsimp only at hSw); go_simp; (try with_reducible rfl)
  case hr1 =>
  simp only [Act.put, List.setIfInBounds_toArray, List.set_cons_zero, List.set_cons_succ]
  refine wpAnyH_take (i := 1) (oi := ?oi2) (v := ?v2) ?hi2 (by kernel_rfl) (by kernel_rfl) (by kernel_rfl) ?hQ2 (Or.inl ⟨?hw2, ?hy2⟩) (by assumption) ?hr2
  case hi2 => simp only [List.getElem?_toArray, List.getElem?_cons_succ, List.getElem?_cons_zero]; rfl
  case hQ2 => exact fun _ _ _ h => h
  case hw2 => rfl
  case hy2 => intro w hSw; (try dsimp only at hSw); go_simp; (try with_reducible rfl)
  case hr2 =>
  simp only [Act.put, List.setIfInBounds_toArray, List.set_cons_zero, List.set_cons_succ]
  refine wpAnyH_take (i := 2) (oi := ?oi3) (v := ?v3) ?hi3 (by kernel_rfl) (by kernel_rfl) (by kernel_rfl) ?hQ3 (Or.inl ⟨?hw3, ?hy3⟩) (by assumption) ?hr3
  case hi3 => simp only [List.getElem?_toArray, List.getElem?_cons_succ, List.getElem?_cons_zero]; rfl
  case hQ3 => exact fun _ _ _ h => h
  case hw3 => rfl
  case hy3 => intro w hSw; (try dsimp only at hSw); go_simp; (try with_reducible rfl)
  case hr3 =>
  simp only [Act.put, List.setIfInBounds_toArray, List.set_cons_zero, List.set_cons_succ]
  refine wpAnyH_take (i := 3) (oi := ?oi4) (v := ?v4) ?hi4 (by kernel_rfl) (by kernel_rfl) (by kernel_rfl) ?hQ4 (Or.inl ⟨?hw4, ?hy4⟩) (by assumption) ?hr4
  case hi4 => simp only [List.getElem?_toArray, List.getElem?_cons_succ, List.getElem?_cons_zero]; rfl
  case hQ4 => exact fun _ _ _ h => h
  case hw4 => rfl
  case hy4 => intro w hSw; (try dsimp only at hSw); go_simp; (try with_reducible rfl)
  case hr4 =>
  simp only [Act.put, List.setIfInBounds_toArray, List.set_cons_zero, List.set_cons_succ]
  refine wpAnyH_take (i := 5) (oi := ?oi5) (v := ?v5) ?hi5 (by kernel_rfl) (by kernel_rfl) (by kernel_rfl) ?hQ5 (Or.inl ⟨?hw5, ?hy5⟩) (by assumption) ?hr5
  case hi5 => simp only [List.getElem?_toArray, List.getElem?_cons_succ, List.getElem?_cons_zero]; rfl
  case hQ5 => exact fun _ _ _ h => h
  case hw5 => rfl
  case hy5 => intro w hSw; (try dsimp only at hSw); go_simp; (try with_reducible rfl)
  case hr5 =>
  simp only [Act.put, List.setIfInBounds_toArray, List.set_cons_zero, List.set_cons_succ]
  refine wpAnyH_ready (rs := [4]) (by kernel_rfl) (by simp) (AllReadyH.cons (o := ?oc6) ?hc6 (fun K hK => ?hs6) AllReadyH.nil)
  case hc6 => simp only [List.getElem?_toArray, List.getElem?_cons_succ, List.getElem?_cons_zero]; rfl
  case hs6 =>
  rw [if_pos (by rfl)]
  go_simp
  go_at_call 36; refine (sinkNew _ (w.heap.size + 1) a1 M c1 c fail _ HM.out (by omega) (show w.heap.size + 1 ≤ w2.drew.heap.size by have := z2; show _ ≤ w2.heap.size; omega) (Q1.out.chg (S := []) ((Chg.refl [] w2).drew) (by simp))).mono ?_; rintro e w3 ⟨p, f1, rfl, s3, k3, b3, bf3⟩
  go_wp2_with fail
  refine hK.out _ _ ?_ (fun hHeld => ?_)
  · exact ⟨k3.cell (by simp [*]) (by simp), k3.cell (by simp [*]) (by simp), (Chg.refl [] w2).drew.trans k3⟩
  clear hK K
  try simp only [Act.put, List.setIfInBounds_toArray, List.set_cons_zero, List.set_cons_succ]
  refine wpAnyH_ready (rs := [6]) (by kernel_rfl) (by simp) (AllReadyH.cons (o := ?oc7) ?hc7 (fun K hK => ?hs7) AllReadyH.nil)
  case hc7 => simp only [List.getElem?_toArray, List.getElem?_cons_succ, List.getElem?_cons_zero]; rfl
  case hs7 =>
  rw [if_pos (by rfl)]
  go_simp
  go_at_call 36; refine (sinkNew _ (w.heap.size + 1) co M cc c fail fp HM.out (by omega) (by have := k3.size; have h : w2.drew.heap.size = w2.heap.size := rfl; omega) ((H1.out.chg KW.out (by simp)).chg (S := []) ((Chg.refl [] w2).drew.trans k3) (by simp))).mono ?_; rintro e w4 ⟨q, f2, rfl, s4, k4, b4, bf4⟩
  go_wp2_with fail
  refine hK.out _ _ ?_ (fun hHeld => ?_)
  · exact ⟨k4.cell hHeld.1 (by simp), k4.cell hHeld.2.1 (by simp), hHeld.2.2.trans k4⟩
  clear hK K
  try simp only [Act.put, List.setIfInBounds_toArray, List.set_cons_zero, List.set_cons_succ]
  refine wpAnyH_take (i := 7) (oi := ?oi8) (v := ?v8) ?hi8 (by kernel_rfl) (by kernel_rfl) (by kernel_rfl) ?hQ8 (Or.inl ⟨?hw8, ?hy8⟩) (by assumption) ?hr8
  case hi8 => simp only [List.getElem?_toArray, List.getElem?_cons_succ, List.getElem?_cons_zero]; rfl
  case hQ8 => exact fun _ _ _ h => h
  case hw8 => rfl
  case hy8 => intro w hSw; (try dsimp only at hSw); go_simp; (try with_reducible rfl)
  case hr8 =>
  simp only [Act.put, List.setIfInBounds_toArray, List.set_cons_zero, List.set_cons_succ]
  refine wpAnyH_take (i := 8) (oi := ?oi9) (v := ?v9) ?hi9 (by kernel_rfl) (by kernel_rfl) (by kernel_rfl) ?hQ9 (Or.inl ⟨?hw9, ?hy9⟩) (by assumption) ?hr9
  case hi9 => simp only [List.getElem?_toArray, List.getElem?_cons_succ, List.getElem?_cons_zero]; rfl
  case hQ9 => exact fun _ _ _ h => h
  case hw9 => rfl
  case hy9 => intro w hSw; (try dsimp only at hSw); go_simp; (try with_reducible rfl)
  case hr9 =>
  simp only [Act.put, List.setIfInBounds_toArray, List.set_cons_zero, List.set_cons_succ]
  refine wpAnyH_done (by kernel_rfl) ?_ _
  have kX : Chg [] w2 w4 := hHeld.2.2
  clear hHeld e0 e1
  have hz3 : w2.drew.heap.size = w2.heap.size := rfl
  have hz4 := k3.size
  have hz5 := k4.size
  have hTw : Twin (w.heap.size + 1) w2.heap.size w4 p q f1 f2 [] [] ⟨[], c, fail, 0⟩ :=
    ⟨s3.chg k4 (by simp) (by simp) (by simp), s4, by omega, by omega, fun g hg => by have := bf3 g hg; omega, fun g hg => by have := bf4 g hg; omega, by simp, by simp⟩
  have o4 := own_chg O1.out kX (by simp)
  have o5 := own_chg HO2.out kX (by simp)
  have hpq : p ≠ q ∧ p ∉ f2 ∧ q ∉ f1 := ⟨by have := s3.lt; omega, fun hm => by have := bf4 _ hm; have := s3.lt; omega, fun hm => by have := bf3 _ hm; omega⟩
  have hx1 : ∀ g, (Value.slice a1 M c1).ownBlock = some g → Scr w4 g 3 .i64 M := by
    intro g hg
    cases a1 with
    | none => simp [Value.ownBlock] at hg
    | some ad =>
      rcases o4.2 with ⟨h', _⟩ | ⟨g', cap', cur, h', _⟩
      · simp at h'
      · simp only [Value.slice.injEq, Option.some.injEq, true_and] at h'
        obtain ⟨rfl, rfl⟩ := h'
        simp [Value.ownBlock] at hg
        subst hg
        exact Scr.of_own o4 (iv_int c)
  have HTW := Lib.hid hTw
  have HPQ := Lib.hid hpq
  have KX := Lib.hid kX
  have O4 := Lib.hid o4
  have O5 := Lib.hid o5
  have HX1 := Lib.hid hx1
  have hB1 : ∀ g ∈ (Value.slice a1 M c1).ownBlock.toList, g < w2.heap.size := fun g hg => (BQ1.out g hg).2
  have hB2 : ∀ g ∈ (Value.slice a2 L c2).ownBlock.toList, g < w2.heap.size := fun g hg => (BQ2.out g hg).2
  have HB1 := Lib.hid hB1
  have HB2 := Lib.hid hB2
  clear hTw hpq kX o4 o5 hx1 s3 s4 k3 k4 b3 b4 bf3 bf4 hz3 hz4 hz5 hB1 hB2
  go_wp2_with fail
  go_loopw [49] (fun i wr => ∃ k : Nat, k ≤ M ∧ i = .int .i64 k ∧ Chg (Value.slice a1 M c1).ownBlock.toList w4 wr ∧ ∀ g, (Value.slice a1 M c1).ownBlock = some g → Scr wr g 3 .i64 M) (fun i _ => M - (intOf i).toNat)
  case atStart => exact ⟨0, Nat.zero_le _, rfl, Chg.refl _ _, HX1.out⟩
  case round =>
    obtain ⟨k, hk, rfl, hkr, hsc⟩ := hrel
    have HKR := Lib.hid hkr
    have HSC := Lib.hid hsc
    clear hkr hsc
    by_cases hlt : k < M
    · obtain ⟨g, rfl, _⟩ := own_block O4.out (by omega)
      obtain ⟨z, hz⟩ := (HSC.out g rfl).cell hlt
      have hfr := (HSC.out g rfl).free k
      go_wp2_with fail
      go_roundw
      case rel => exact ⟨k + 1, by omega, by go_num, HKR.out.setCell (fun _ => by simp [Value.ownBlock]) _, fun g' hg' => by simp [Value.ownBlock] at hg'; subst hg'; exact (HSC.out g rfl).set k 1⟩
      case measure => simp [intOf]; omega
    · have hkk : k = M := by omega
      subst hkk
      have hT := HTW.out.chg HKR.out (fun g hg => .inl (HB1.out g hg))
      have hO := own_keep O5.out HKR.out (fun g hg hm => HNE.out g g (by simpa using hm) (by simpa using hg) rfl)
      obtain ⟨r2, _, _⟩ := own_rd2 hO
      have hkw : Chg [] w wr := (KW.out.trans KX.out).nil_of (B := w.heap.size + 1) HKR.out (by omega) (fun g hg => (BQ1.out g hg).1)
      have hst := sinkWrite wr (w.heap.size + 1) p f1 [] _ ⟨[], c, fail, 0⟩ b a2 c2 hT.s HOK.out r2 (by rw [HL.out]; exact bq3) (by have := HL.out; simp; omega)
      rw [HL.out] at hst
      have HST := Lib.hid hst
      have HT := Lib.hid hT
      have HO := Lib.hid hO
      have HKW := Lib.hid hkw
      clear hst hT hO hkw r2
      have hlen := (Snk.write_len ⟨[], c, fail, 0⟩ HOK.out b).1
      go_upto_region 14 with (go_at_call 30; refine HST.out.mono ?_; rintro e w5 ⟨rfl, hto⟩; have HTO := Lib.hid hto; clear hto)
      obtain ⟨o1, ⟨hs5, hn5⟩, hk5⟩ := HTO.out
      have hkw5 : Chg [] w w5 := HKW.out.nil_of (B := w.heap.size + 1) hk5 (by omega) (by simp; have := HT.out.zp; omega)
      have ht5 := HT.out.t.chg hk5 (by simpa using Ne.symm HPQ.out.1) (fun x hx => by simp; rintro rfl; exact HPQ.out.2.1 hx) (by simp)
      have hws : wr.heap.size ≤ w5.heap.size := hk5.size
      have hst := sinkWrite w5 (w.heap.size + 1) q f2 [] fp ⟨[], c, fail, 0⟩ b bo bc ht5 HOK.out (H2.out.chg hkw5 (by simp)) (by rw [HL.out]; exact hbc) (by have := HL.out; simp; omega)
      rw [HL.out] at hst
      generalize hW : Snk.write ⟨[], c, fail, 0⟩ b = R at *
      obtain ⟨n1, e1, σ1⟩ := R
      simp only at hst hlen hs5
      have HST5 := Lib.hid hst
      have HS5 := Lib.hid hs5
      have HN5 := Lib.hid hn5
      have HK5 := Lib.hid hk5
      have HKW5 := Lib.hid hkw5
      clear hst hs5 hn5 hk5 hkw5 ht5 hW
      go_upto_region 15 with (go_at_call 30; refine HST5.out.mono ?_; rintro e w6 ⟨rfl, hto⟩; have HTO6 := Lib.hid hto; clear hto)
      obtain ⟨o2, ⟨ht6, hn6⟩, hk6⟩ := HTO6.out
      have hkw6 : Chg [] w w6 := HKW5.out.nil_of (B := w.heap.size + 1) hk6 (by omega) (by simp; have := HT.out.zq; omega)
      have hzz : w2.heap.size ≤ wr.heap.size := by have h1 := KX.out.size; have h2 := HKR.out.size; omega
      have hT6 : Twin (w.heap.size + 1) w2.heap.size w6 p q f1 f2 o1 o2 σ1 :=
        ⟨HS5.out.chg hk6 (by simpa using HPQ.out.1) (fun x hx => by simp; rintro rfl; exact HPQ.out.2.2 hx) (fun x hx => by
            simp; rintro rfl
            rcases HN5.out _ hx with h | h
            · simp at h
            · have := HT.out.t.lt; omega), ht6, HT.out.zp, HT.out.zq, HT.out.zf1, HT.out.zf2,
          fun g hg => by
            rcases HN5.out g hg with h | h
            · simp at h
            · omega,
          fun g hg => by
            rcases hn6 g hg with h | h
            · simp at h
            · omega⟩
      have hO6 := (own_keep (own_keep HO.out HK5.out (fun g hg hm => by simp at hm; subst hm; have h1 := HB2.out _ hg; have h2 := HT.out.zp; omega)) hk6 (fun g hg hm => by simp at hm; subst hm; have h1 := HB2.out _ hg; have h2 := HT.out.zq; omega))
      have hx2 : ∀ g, (Value.slice a2 L c2).ownBlock = some g → Scr w6 g 5 .u8 L := Scr.of_made hO6
      have HT6 := Lib.hid hT6
      have HO6 := Lib.hid hO6
      have HKW6 := Lib.hid hkw6
      have HX2 := Lib.hid hx2
      clear hT6 hO6 hkw6 hx2 ht6 hn6 hk6 hzz hws
      go_wp2_with fail
      go_loopw [70] (fun i wr => ∃ k2 : Nat, k2 ≤ L ∧ i = .int .i64 k2 ∧ Chg (Value.slice a2 L c2).ownBlock.toList w6 wr ∧ ∀ g, (Value.slice a2 L c2).ownBlock = some g → Scr wr g 5 .u8 L) (fun i _ => L - (intOf i).toNat)
      case atStart => exact ⟨0, Nat.zero_le _, rfl, Chg.refl _ _, HX2.out⟩
      case round =>
        obtain ⟨k2, hk2, rfl, hkr2, hsc2⟩ := hrel
        have HKR2 := Lib.hid hkr2
        have HSC2 := Lib.hid hsc2
        clear hkr2 hsc2
        by_cases hlt2 : k2 < L
        · obtain ⟨g, rfl, _⟩ := own_block HO6.out (by omega)
          obtain ⟨z, hz⟩ := (HSC2.out g rfl).cell hlt2
          have hfr := (HSC2.out g rfl).free k2
          go_wp2_with fail
          go_roundw
          case rel => exact ⟨k2 + 1, by omega, by go_num, HKR2.out.setCell (fun _ => by simp [Value.ownBlock]) _, fun g' hg' => by simp [Value.ownBlock] at hg'; subst hg'; exact (HSC2.out g rfl).set k2 _⟩
          case measure => simp [intOf]; omega
        · have hkk : k2 = L := by omega
          subst hkk
          have hT7 := HT6.out.chg HKR2.out (fun g hg => .inl (HB2.out g hg))
          have hkw7 : Chg [] w wr := HKW6.out.nil_of (B := w.heap.size + 1) HKR2.out (by omega) (fun g hg => (BQ2.out g hg).1)
          have hbs : σ1.b.length ≤ 5000 := by have := HL.out; simp at hlen; omega
          have HT7 := Lib.hid hT7
          have HKW7 := Lib.hid hkw7
          clear hT7 hkw7 hlen
          go_upto_region 21 with (go_at_call 32; refine (sinkBytes _ (w.heap.size + 1) p f1 o1 σ1 HT7.out.s (by omega)).mono ?_; rintro e w7 ⟨a7, c7, rfl, hown7, hgr7⟩; have HO7 := Lib.hid hown7; have HG7 := Lib.hid hgr7; clear hown7 hgr7)
          have hk7 : Chg [] wr w7 := Chg.of_grown HG7.out (by simp)
          have hT8 := HT7.out.chg hk7 (by simp)
          have hkw8 := HKW7.out.trans hk7
          have hx7 : ∀ g, (Value.slice a7 σ1.b.length c7).ownBlock = some g → Scr w7 g 5 .u8 σ1.b.length := Scr.of_made HO7.out
          have hg7 : ∀ g ∈ (Value.slice a7 σ1.b.length c7).ownBlock.toList, wr.heap.size ≤ g := fun g hg => (HO7.out.lt g (by simpa using hg)).1
          have hlt7 : ∀ g, Twin (w.heap.size + 1) w2.heap.size wr p q f1 f2 o1 o2 σ1 → g ∈ (p :: q :: (f1 ++ f2 ++ o1 ++ o2)) → g < wr.heap.size := by
            intro g h hg
            have h1 := h.s.lt
            have h2 := h.t.lt
            have h3 : ∀ g ∈ f1, g < wr.heap.size := by obtain ⟨_, _, _, _, _, _, _, _, _, _, h7, _⟩ := h.s; exact h7
            have h4 : ∀ g ∈ f2, g < wr.heap.size := by obtain ⟨_, _, _, _, _, _, _, _, _, _, h7, _⟩ := h.t; exact h7
            simp only [List.mem_cons, List.mem_append] at hg
            rcases hg with rfl | rfl | ((hg | hg) | hg) | hg
            · exact h1
            · exact h2
            · exact h3 g hg
            · exact h4 g hg
            · exact (h.s.ownlt g hg).2
            · exact (h.t.ownlt g hg).2
          have hap : ∀ g ∈ (p :: q :: (f1 ++ f2 ++ o1 ++ o2)), g ∉ (Value.slice a7 σ1.b.length c7).ownBlock.toList := fun g hg hm => by
            have h1 := hlt7 g HT7.out hg
            have h2 := hg7 g hm
            omega
          have HT8 := Lib.hid hT8
          have HKW8 := Lib.hid hkw8
          have HX7 := Lib.hid hx7
          have HAP := Lib.hid hap
          have HG7' := Lib.hid hg7
          clear hk7 hT8 hkw8 hx7 hap hg7 hlt7
          go_wp2_with fail
          go_loopw [84] (fun i wr => ∃ k3 : Nat, k3 ≤ σ1.b.length ∧ i = .int .i64 k3 ∧ Chg (Value.slice a7 σ1.b.length c7).ownBlock.toList w7 wr ∧ ∀ g, (Value.slice a7 σ1.b.length c7).ownBlock = some g → Scr wr g 5 .u8 σ1.b.length) (fun i _ => σ1.b.length - (intOf i).toNat)
          case atStart => exact ⟨0, Nat.zero_le _, rfl, Chg.refl _ _, HX7.out⟩
          case round =>
          obtain ⟨k3, hk3, rfl, hkr3, hsc3⟩ := hrel
          have HKR3 := Lib.hid hkr3
          have HSC3 := Lib.hid hsc3
          clear hkr3 hsc3
          by_cases hlt3 : k3 < σ1.b.length
          · obtain ⟨g, rfl, _⟩ := own_block HO7.out (by omega)
            obtain ⟨z, hz⟩ := (HSC3.out g rfl).cell hlt3
            have hfr := (HSC3.out g rfl).free k3
            go_wp2_with fail
            go_roundw
            case rel => exact ⟨k3 + 1, by omega, by go_num, HKR3.out.setCell (fun _ => by simp [Value.ownBlock]) _, fun g' hg' => by simp [Value.ownBlock] at hg'; subst hg'; exact (HSC3.out g rfl).set k3 _⟩
            case measure => simp [intOf]; omega
          have hkk : k3 = σ1.b.length := by omega
          subst hkk
          have hkw9 : Chg [] w wr := HKW8.out.nil_of HKR3.out (Nat.le_refl _) (fun g hg => by have h1 := HG7'.out g hg; have h2 := HKW7.out.size; omega)
          have hsa : SnkAt (w.heap.size + 1) wr p f1 o1 σ1 := HT8.out.s.chg HKR3.out (HAP.out p (by simp)) (fun g hg => HAP.out g (by simp [hg])) (fun g hg => HAP.out g (by simp [hg]))
          have hta : SnkAt (w.heap.size + 1) wr q f2 o2 σ1 := HT8.out.t.chg HKR3.out (HAP.out q (by simp)) (fun g hg => HAP.out g (by simp [hg])) (fun g hg => HAP.out g (by simp [hg]))
          have HSA := Lib.hid hsa
          have HTA := Lib.hid hta
          have HKW9 := Lib.hid hkw9
          clear hsa hta hkw9
          go_upto_region 26 with (fail)
          refine wp_region_held_drew (S := fun w' => Chg [] wr w') (by kernel_rfl) ?_ (fun hHeld => ?_)
          · exact (Chg.refl _ _).drew
          refine wpAnyH_ready (rs := [0]) (by kernel_rfl) (by simp) (AllReadyH.cons (o := ?oc10) ?hc10 (fun K hK => ?hs10) AllReadyH.nil)
          case hc10 => simp only [List.getElem?_toArray, List.getElem?_cons_zero]; rfl
          case hs10 =>
          rw [if_pos (by rfl)]
          go_simp
          go_at_call 35; refine (sinkAlive _).mono ?_; rintro e w9 ⟨rfl, hc9⟩; have HC9 := Lib.hid ((Chg.refl [] wr).drew.trans hc9); clear hc9
          go_wp2_with fail
          refine hK.out _ _ ?_ (fun hHeld => ?_)
          · exact HC9.out
          clear hK K
          try simp only [Act.put, List.setIfInBounds_toArray, List.set_cons_zero, List.set_cons_succ]
          refine wpAnyH_take (i := 1) (oi := ?oi11) (v := ?v11) ?hi11 (by kernel_rfl) (by kernel_rfl) (by kernel_rfl) ?hQ11 (Or.inl ⟨?hw11, ?hy11⟩) (by assumption) ?hr11
          case hi11 => simp only [List.getElem?_toArray, List.getElem?_cons_succ, List.getElem?_cons_zero]; rfl
          case hQ11 => exact fun _ _ _ h => h
          case hw11 => rfl
          case hy11 => intro w hSw; (try dsimp only at hSw); go_simp; (try with_reducible rfl)
          case hr11 =>
          simp only [Act.put, List.setIfInBounds_toArray, List.set_cons_zero, List.set_cons_succ]
          refine wpAnyH_take (i := 2) (oi := ?oi12) (v := ?v12) ?hi12 (by kernel_rfl) (by kernel_rfl) (by kernel_rfl) ?hQ12 (Or.inl ⟨?hw12, ?hy12⟩) (by assumption) ?hr12
          case hi12 => simp only [List.getElem?_toArray, List.getElem?_cons_succ, List.getElem?_cons_zero]; rfl
          case hQ12 => exact fun _ _ _ h => h
          case hw12 => rfl
          case hy12 => intro w hSw; (try dsimp only at hSw); go_simp; (try with_reducible rfl)
          case hr12 =>
          simp only [Act.put, List.setIfInBounds_toArray, List.set_cons_zero, List.set_cons_succ]
          refine wpAnyH_take (i := 3) (oi := ?oi13) (v := ?v13) ?hi13 (by kernel_rfl) (by kernel_rfl) (by kernel_rfl) ?hQ13 (Or.inl ⟨?hw13, ?hy13⟩) (by assumption) ?hr13
          case hi13 => simp only [List.getElem?_toArray, List.getElem?_cons_succ, List.getElem?_cons_zero]; rfl
          case hQ13 => exact fun _ _ _ h => h
          case hw13 => rfl
          case hy13 => intro w hSw; (try dsimp only at hSw); go_simp; (try with_reducible rfl)
          case hr13 =>
          simp only [Act.put, List.setIfInBounds_toArray, List.set_cons_zero, List.set_cons_succ]
          refine wpAnyH_take (i := 4) (oi := ?oi14) (v := ?v14) ?hi14 (by kernel_rfl) (by kernel_rfl) (by kernel_rfl) ?hQ14 (Or.inl ⟨?hw14, ?hy14⟩) (by assumption) ?hr14
          case hi14 => simp only [List.getElem?_toArray, List.getElem?_cons_succ, List.getElem?_cons_zero]; rfl
          case hQ14 => exact fun _ _ _ h => h
          case hw14 => rfl
          case hy14 => intro w hSw; (try dsimp only at hSw); go_simp; (try with_reducible rfl)
          case hr14 =>
          simp only [Act.put, List.setIfInBounds_toArray, List.set_cons_zero, List.set_cons_succ]
          refine wpAnyH_take (i := 5) (oi := ?oi15) (v := ?v15) ?hi15 (by kernel_rfl) (by kernel_rfl) (by kernel_rfl) ?hQ15 (Or.inl ⟨?hw15, ?hy15⟩) (by assumption) ?hr15
          case hi15 => simp only [List.getElem?_toArray, List.getElem?_cons_succ, List.getElem?_cons_zero]; rfl
          case hQ15 => exact fun _ _ _ h => h
          case hw15 => rfl
          case hy15 => intro w hSw; (try dsimp only at hSw); go_simp; (try with_reducible rfl)
          case hr15 =>
          simp only [Act.put, List.setIfInBounds_toArray, List.set_cons_zero, List.set_cons_succ]
          refine wpAnyH_take (i := 6) (oi := ?oi16) (v := ?v16) ?hi16 (by kernel_rfl) (by kernel_rfl) (by kernel_rfl) ?hQ16 (Or.inl ⟨?hw16, ?hy16⟩) (by assumption) ?hr16
          case hi16 => simp only [List.getElem?_toArray, List.getElem?_cons_succ, List.getElem?_cons_zero]; rfl
          case hQ16 => exact fun _ _ _ h => h
          case hw16 => rfl
          case hy16 => intro w hSw; (try dsimp only at hSw); go_simp; (try with_reducible rfl)
          case hr16 =>
          simp only [Act.put, List.setIfInBounds_toArray, List.set_cons_zero, List.set_cons_succ]
          refine wpAnyH_take (i := 7) (oi := ?oi17) (v := ?v17) ?hi17 (by kernel_rfl) (by kernel_rfl) (by kernel_rfl) ?hQ17 (Or.inl ⟨?hw17, ?hy17⟩) (by assumption) ?hr17
          case hi17 => simp only [List.getElem?_toArray, List.getElem?_cons_succ, List.getElem?_cons_zero]; rfl
          case hQ17 => exact fun _ _ _ h => h
          case hw17 => rfl
          case hy17 => intro w hSw; (try dsimp only at hSw); go_simp; (try with_reducible rfl)
          case hr17 =>
          simp only [Act.put, List.setIfInBounds_toArray, List.set_cons_zero, List.set_cons_succ]
          refine wpAnyH_take (i := 8) (oi := ?oi18) (v := ?v18) ?hi18 (by kernel_rfl) (by kernel_rfl) (by kernel_rfl) ?hQ18 (Or.inl ⟨?hw18, ?hy18⟩) (by assumption) ?hr18
          case hi18 => simp only [List.getElem?_toArray, List.getElem?_cons_succ, List.getElem?_cons_zero]; rfl
          case hQ18 => exact fun _ _ _ h => h
          case hw18 => rfl
          case hy18 => intro w hSw; (try dsimp only at hSw); go_simp; (try with_reducible rfl)
          case hr18 =>
          simp only [Act.put, List.setIfInBounds_toArray, List.set_cons_zero, List.set_cons_succ]
          refine wpAnyH_take (i := 9) (oi := ?oi19) (v := ?v19) ?hi19 (by kernel_rfl) (by kernel_rfl) (by kernel_rfl) ?hQ19 (Or.inl ⟨?hw19, ?hy19⟩) (by assumption) ?hr19
          case hi19 => simp only [List.getElem?_toArray, List.getElem?_cons_succ, List.getElem?_cons_zero]; rfl
          case hQ19 => exact fun _ _ _ h => h
          case hw19 => rfl
          case hy19 => intro w hSw; (try dsimp only at hSw); go_simp; (try with_reducible rfl)
          case hr19 =>
          simp only [Act.put, List.setIfInBounds_toArray, List.set_cons_zero, List.set_cons_succ]
          refine wpAnyH_take (i := 10) (oi := ?oi20) (v := ?v20) ?hi20 (by kernel_rfl) (by kernel_rfl) (by kernel_rfl) ?hQ20 (Or.inl ⟨?hw20, ?hy20⟩) (by assumption) ?hr20
          case hi20 => simp only [List.getElem?_toArray, List.getElem?_cons_succ, List.getElem?_cons_zero]; rfl
          case hQ20 => exact fun _ _ _ h => h
          case hw20 => rfl
          case hy20 => intro w hSw; (try dsimp only at hSw); go_simp; (try with_reducible rfl)
          case hr20 =>
          simp only [Act.put, List.setIfInBounds_toArray, List.set_cons_zero, List.set_cons_succ]
          refine wpAnyH_take (i := 11) (oi := ?oi21) (v := ?v21) ?hi21 (by kernel_rfl) (by kernel_rfl) (by kernel_rfl) ?hQ21 (Or.inl ⟨?hw21, ?hy21⟩) (by assumption) ?hr21
          case hi21 => simp only [List.getElem?_toArray, List.getElem?_cons_succ, List.getElem?_cons_zero]; rfl
          case hQ21 => exact fun _ _ _ h => h
          case hw21 => rfl
          case hy21 => intro w hSw; (try dsimp only at hSw); go_simp; (try with_reducible rfl)
          case hr21 =>
          simp only [Act.put, List.setIfInBounds_toArray, List.set_cons_zero, List.set_cons_succ]
          refine wpAnyH_take (i := 12) (oi := ?oi22) (v := ?v22) ?hi22 (by kernel_rfl) (by kernel_rfl) (by kernel_rfl) ?hQ22 (Or.inl ⟨?hw22, ?hy22⟩) (by assumption) ?hr22
          case hi22 => simp only [List.getElem?_toArray, List.getElem?_cons_succ, List.getElem?_cons_zero]; rfl
          case hQ22 => exact fun _ _ _ h => h
          case hw22 => rfl
          case hy22 => intro w hSw; (try dsimp only at hSw); go_simp; (try with_reducible rfl)
          case hr22 =>
          simp only [Act.put, List.setIfInBounds_toArray, List.set_cons_zero, List.set_cons_succ]
          refine wpAnyH_take (i := 15) (oi := ?oi23) (v := ?v23) ?hi23 (by kernel_rfl) (by kernel_rfl) (by kernel_rfl) ?hQ23 (Or.inl ⟨?hw23, ?hy23⟩) (by assumption) ?hr23
          case hi23 => simp only [List.getElem?_toArray, List.getElem?_cons_succ, List.getElem?_cons_zero]; rfl
          case hQ23 => exact fun _ _ _ h => h
          case hw23 => rfl
          case hy23 => intro w hSw; (try dsimp only at hSw); go_simp; (try with_reducible rfl)
          case hr23 =>
          simp only [Act.put, List.setIfInBounds_toArray, List.set_cons_zero, List.set_cons_succ]
          refine wpAnyH_ready (rs := [13]) (by kernel_rfl) (by simp) (AllReadyH.cons (o := ?oc24) ?hc24 (fun K hK => ?hs24) AllReadyH.nil)
          case hc24 => simp only [List.getElem?_toArray, List.getElem?_cons_succ, List.getElem?_cons_zero]; rfl
          case hs24 =>
          rw [if_pos (by rfl)]
          go_simp
          go_at_call 32; refine (sinkBytes _ (w.heap.size + 1) p f1 o1 σ1 (HSA.out.chg (S := []) HC9.out (by simp) (by simp) (by simp)) (by omega)).mono ?_; rintro e w10 ⟨a5, c5, rfl, hown5, hgr5⟩; have hc5 : Chg [] w9 w10 := Chg.of_grown hgr5 (by simp); have HC5 := Lib.hid (HC9.out.trans hc5); have v5 : (convert 22 9 (.slice a5 σ1.b.length c5)).run Try.prog w10 = .ok (.string (sb σ1.b)) w10 := conv_own (S := []) rfl hown5 (Chg.refl _ _) (by simp); have HO5 := Lib.hid hown5; clear hown5 hgr5 hc5
          go_wp2_with fail
          refine hK.out _ _ ?_ (fun hHeld => ?_)
          · exact HC5.out
          clear hK K
          try simp only [Act.put, List.setIfInBounds_toArray, List.set_cons_zero, List.set_cons_succ]
          refine wpAnyH_weaken (S := fun w' => (convert 22 9 (.slice a5 σ1.b.length c5)).run Try.prog w' = .ok (.string (sb σ1.b)) w' ∧ Chg [] wr w') (fun w' h => h.2) ?_
          have hHeld : (fun w' => (convert 22 9 (.slice a5 σ1.b.length c5)).run Try.prog w' = .ok (.string (sb σ1.b)) w' ∧ Chg [] wr w') w10 := ⟨v5, HC5.out⟩
          refine wpAnyH_take (i := 14) (oi := ?oi25) (v := ?v25) ?hi25 (by kernel_rfl) (by kernel_rfl) (by kernel_rfl) ?hQ25 (Or.inl ⟨?hw25, ?hy25⟩) (by assumption) ?hr25
          case hi25 => simp only [List.getElem?_toArray, List.getElem?_cons_succ, List.getElem?_cons_zero]; rfl
          case hQ25 => exact fun _ _ _ h => h
          case hw25 => rfl
          case hy25 => intro w hSw; (try dsimp only at hSw); go_simp; (try with_reducible rfl)
          case hr25 =>
          simp only [Act.put, List.setIfInBounds_toArray, List.set_cons_zero, List.set_cons_succ]
          refine wpAnyH_ready (rs := [16]) (by kernel_rfl) (by simp) (AllReadyH.cons (o := ?oc26) ?hc26 (fun K hK => ?hs26) AllReadyH.nil)
          case hc26 => simp only [List.getElem?_toArray, List.getElem?_cons_succ, List.getElem?_cons_zero]; rfl
          case hs26 =>
          rw [if_pos (by rfl)]
          go_simp
          go_at_call 32; refine (sinkBytes _ (w.heap.size + 1) q f2 o2 σ1 (HTA.out.chg (S := []) HC5.out (by simp) (by simp) (by simp)) (by omega)).mono ?_; rintro e w11 ⟨a6, c6, rfl, hown6, hgr6⟩; have hc6 : Chg [] w10 w11 := Chg.of_grown hgr6 (by simp); have HC6 := Lib.hid (HC5.out.trans hc6); have v6 : (convert 22 9 (.slice a6 σ1.b.length c6)).run Try.prog w11 = .ok (.string (sb σ1.b)) w11 := conv_own (S := []) rfl hown6 (Chg.refl _ _) (by simp); have v7 : (convert 22 9 (.slice a5 σ1.b.length c5)).run Try.prog w11 = .ok (.string (sb σ1.b)) w11 := conv_own (S := []) rfl HO5.out hc6 (by simp); clear hown6 hgr6 hc6
          go_wp2_with fail
          refine hK.out _ _ ?_ (fun hHeld => ?_)
          · exact ⟨v7, HC6.out⟩
          clear hK K
          try simp only [Act.put, List.setIfInBounds_toArray, List.set_cons_zero, List.set_cons_succ]
          refine wpAnyH_weaken (S := fun w' => (convert 22 9 (.slice a5 σ1.b.length c5)).run Try.prog w' = .ok (.string (sb σ1.b)) w' ∧ (convert 22 9 (.slice a6 σ1.b.length c6)).run Try.prog w' = .ok (.string (sb σ1.b)) w' ∧ Chg [] wr w') (fun w' h => ⟨h.1, h.2.2⟩) ?_
          have hHeld : (fun w' => (convert 22 9 (.slice a5 σ1.b.length c5)).run Try.prog w' = .ok (.string (sb σ1.b)) w' ∧ (convert 22 9 (.slice a6 σ1.b.length c6)).run Try.prog w' = .ok (.string (sb σ1.b)) w' ∧ Chg [] wr w') w11 := ⟨v7, v6, HC6.out⟩
          refine wpAnyH_take (i := 17) (oi := ?oi27) (v := ?v27) ?hi27 (by kernel_rfl) (by kernel_rfl) (by kernel_rfl) ?hQ27 (Or.inl ⟨?hw27, ?hy27⟩) (by assumption) ?hr27
          case hi27 => simp only [List.getElem?_toArray, List.getElem?_cons_succ, List.getElem?_cons_zero]; rfl
          case hQ27 => exact fun _ _ _ h => h
          case hw27 => rfl
          case hy27 => intro w hSw; (try dsimp only at hSw); go_simp; (try with_reducible rfl)
          case hr27 =>
          simp only [Act.put, List.setIfInBounds_toArray, List.set_cons_zero, List.set_cons_succ]
          refine wpAnyH_take (i := 18) (oi := ?oi28) (v := ?v28) ?hi28 (by kernel_rfl) (by kernel_rfl) (by kernel_rfl) ?hQ28 (Or.inl ⟨?hw28, ?hy28⟩) (by assumption) ?hr28
          case hi28 => simp only [List.getElem?_toArray, List.getElem?_cons_succ, List.getElem?_cons_zero]; rfl
          case hQ28 => exact fun _ _ _ h => h
          case hw28 => rfl
          case hy28 => intro w hSw; (try dsimp only at hSw); go_simp; (try with_reducible rfl)
          case hr28 =>
          simp only [Act.put, List.setIfInBounds_toArray, List.set_cons_zero, List.set_cons_succ]
          refine wpAnyH_take (i := 19) (oi := ?oi29) (v := ?v29) ?hi29 (by kernel_rfl) (by kernel_rfl) (by kernel_rfl) ?hQ29 (Or.inl ⟨?hw29, ?hy29⟩) (by assumption) ?hr29
          case hi29 => simp only [List.getElem?_toArray, List.getElem?_cons_succ, List.getElem?_cons_zero]; rfl
          case hQ29 => exact fun _ _ _ h => h
          case hw29 => rfl
          case hy29 => intro w hSw; (try dsimp only at hSw); go_simp; (try with_reducible rfl)
          case hr29 =>
          simp only [Act.put, List.setIfInBounds_toArray, List.set_cons_zero, List.set_cons_succ]
          refine wpAnyH_take (i := 20) (oi := ?oi30) (v := ?v30) ?hi30 (by kernel_rfl) (by kernel_rfl) (by kernel_rfl) ?hQ30 (Or.inl ⟨?hw30, ?hy30⟩) (by assumption) ?hr30
          case hi30 => simp only [List.getElem?_toArray, List.getElem?_cons_succ, List.getElem?_cons_zero]; rfl
          case hQ30 => exact fun _ _ _ h => h
          case hw30 => rfl
          case hy30 => intro w hSw; (try dsimp only at hSw); go_simp; (try with_reducible rfl)
          case hr30 =>
          simp only [Act.put, List.setIfInBounds_toArray, List.set_cons_zero, List.set_cons_succ]
          refine wpAnyH_done (by kernel_rfl) ?_ _
          go_wp2_with fail
          go_ret
          exact ⟨rfl, HKW9.out.trans HC6.out⟩
end Go.Proofs.Ytljlcigbehgohaa
