/- paxtarlaw05.SinkKeepsPrefix. -/
import Derived.Test.YtljlcigbehgohaaSCat
namespace Go.Proofs.Ytljlcigbehgohaa
open Go.RowKit Go.Pax

/-- Behind the loop: all that was written, in pieces, until the first error. -/
def Kept (B : Nat) (W : World) (p : Nat) (f1 : List Nat) (fail : Int) (t fl : Value) (wx : World) : Prop :=
  ∃ (x : List UInt8) (e : Int) (o1 : List Nat) (σ : Snk), Cat B wx [] p f1 o1 σ t x ∧ Pre fail x e σ.b ∧ fl = .bool (decide (e ≠ 0)) ∧ x.length ≤ 5000 ∧ Chg [] W wx

set_option maxRecDepth 100000 in
set_option maxHeartbeats 8000000 in
theorem sinkKeeps (w : World) (co lo : Option Addr) (cc lc : Nat) (c : List Int) (fail : Int) (L : List (List UInt8)) (fp : List Nat)
    (hcl : c.length * 8 ≤ 140737488355328) (hf : -9223372036854775808 ≤ fail ∧ fail ≤ 9223372036854775807) (hb : ∀ b ∈ L, b.length ≤ 140737488355328)
    (h1 : Rd w fp co (iv c)) (h2 : RdB w fp lo L) (hll : L.length ≤ 140737488355328) :
    Calls Try.prog 8 #[.agg #[.slice co c.length cc, .int .i64 fail], .slice lo L.length lc] w fun e w' => e = .returned (.bool true) ∧ Chg [] w w' := by
  have H1 := Lib.hid h1
  have H2 := Lib.hid h2
  have HB := Lib.hid hb
  have HF := Lib.hid hf
  clear h1 h2 hb hf
  by_cases g2 : 100 < L.length
  · go_enter Try.func8, Try.ntmps8
    go_wp2_with (first
        | (go_at_call 34; refine (sinkSize _ lo lc L fp (H2.out.chg (S := []) ((Chg.refl _ _).alloc _) (by simp)) (by omega) HB.out).mono ?_; rintro e w' ⟨rfl, rfl⟩)
        | (go_at_call 35; refine (sinkAlive _).mono ?_; rintro e w9 ⟨rfl, hc9⟩))
    go_ret
    exact ⟨rfl, ((Chg.refl _ _).alloc _).trans hc9⟩
  by_cases g3 : 5000 < total L
  · go_enter Try.func8, Try.ntmps8
    go_wp2_with (first
        | (go_at_call 34; refine (sinkSize _ lo lc L fp (H2.out.chg (S := []) ((Chg.refl _ _).alloc _) (by simp)) (by omega) HB.out).mono ?_; rintro e w' ⟨rfl, rfl⟩)
        | (go_at_call 35; refine (sinkAlive _).mono ?_; rintro e w9 ⟨rfl, hc9⟩))
    go_ret
    exact ⟨rfl, ((Chg.refl _ _).alloc _).trans hc9⟩
  by_cases g4 : 300 < c.length
  · go_enter Try.func8, Try.ntmps8
    go_wp2_with (first
        | (go_at_call 34; refine (sinkSize _ lo lc L fp (H2.out.chg (S := []) ((Chg.refl _ _).alloc _) (by simp)) (by omega) HB.out).mono ?_; rintro e w' ⟨rfl, rfl⟩)
        | (go_at_call 35; refine (sinkAlive _).mono ?_; rintro e w9 ⟨rfl, hc9⟩))
    go_ret
    exact ⟨rfl, ((Chg.refl _ _).alloc _).trans hc9⟩
  obtain ⟨ib, hib, hib0, hib1, hib2⟩ := Try.infoB
  go_enter Try.func8, Try.ntmps8
  go_upto_region 3 with (go_at_call 34; refine (sinkSize _ lo lc L fp (H2.out.chg (S := []) ((Chg.refl _ _).alloc _) (by simp)) (by omega) HB.out).mono ?_; rintro e w' ⟨rfl, rfl⟩)
  have hc0 : (w.alloc (.cells #[.slice co c.length cc, .int .i64 fail] 25)).cell? ⟨w.heap.size, 0, none⟩ = some (.slice co c.length cc) := by go_simp
  have hc1 : (w.alloc (.cells #[.slice co c.length cc, .int .i64 fail] 25)).cell? ⟨w.heap.size, 1, none⟩ = some (.int .i64 fail) := by go_simp
  have hcW : Chg [] w (w.alloc (.cells #[.slice co c.length cc, .int .i64 fail] 25)) := (Chg.refl _ _).alloc _
  have hsz : (w.alloc (.cells #[.slice co c.length cc, .int .i64 fail] 25)).heap.size = w.heap.size + 1 := by simp
  generalize w.alloc (.cells #[.slice co c.length cc, .int .i64 fail] 25) = W at *
  have HC := Lib.hid hcW
  have HS := Lib.hid hsz
  clear hcW hsz
  go_upto_region 6 with (go_at_call 36; refine (sinkNew _ W.heap.size co _ cc c fail fp rfl hcl (Nat.le_refl _) (H1.out.chg HC.out (by simp))).mono ?_; rintro e w1 ⟨p, f1, rfl, s1, k1, b1, bf1⟩)
  go_upto_block 0 with (fail)
  have hCat0 : Cat W.heap.size (w1.alloc (.cells #[] 5)) [] p f1 [] ⟨[], c, fail, 0⟩ (.slice (some ⟨w1.heap.size, 0, none⟩) 0 0) [] :=
    ⟨Snk.ok_new (by omega) HF.out, s1.chg ((Chg.refl [] _).alloc _) (by simp) (by simp) (by simp), own_empty (heap_alloc_new _ _) k1.size, b1, fun g hg => by
      simp [Value.ownBlock] at hg
      subst hg
      exact ⟨by have := s1.lt; omega, fun hm => by have := bf1 _ hm; omega, by simp⟩, by simp⟩
  have hk0 : Chg [] W (w1.alloc (.cells #[] 5)) := k1.alloc _
  have hend : ∀ o, SnkAt W.heap.size w1 p f1 o ⟨[], c, fail, 0⟩ → True := fun _ _ => trivial
  have HC0 := Lib.hid hCat0
  have HK0 := Lib.hid hk0
  have HTT := Lib.hid (fun i => (Nat.le_trans (total_le L i) (by omega) : total (L.take i) ≤ 5000))
  clear hCat0 hk0 s1 k1 bf1 hend
  generalize w1.alloc (.cells #[] 5) = W1 at *
  generalize w1.heap.size = n1 at *
  generalize hN : L.length = N at *
  have HN := Lib.hid hN
  clear hN
  go_cut [6, 7] (fun t fl wx => Kept W.heap.size W p f1 fail t fl wx)
  case first =>
    go_wp2_with fail
    go_loopw [6, 7, 34] (fun t fl i wr => ∃ k : Nat, k ≤ N ∧ i = .int .i64 k ∧ fl = .bool false ∧ Chg [] W wr ∧ ∃ o1 σ, Cat W.heap.size wr [] p f1 o1 σ t (cat (L.take k)) ∧ σ.fail = fail ∧ Pre fail (cat (L.take k)) 0 σ.b) (fun _ _ i _ => N - (intOf i).toNat)
    case atStart => exact ⟨0, Nat.zero_le _, rfl, rfl, HK0.out, [], _, HC0.out, rfl, Pre.new⟩
    case round =>
      obtain ⟨k, hk, rfl, rfl, hkr, o1, σ, hct, hsf, hpre⟩ := hrel
      have HKR := Lib.hid hkr
      have HCT := Lib.hid hct
      have HPRE := Lib.hid hpre
      have HSF := Lib.hid hsf
      clear hkr hct hpre hsf
      by_cases hlt : k < N
      · have hkL : k < L.length := by rw [HN.out]; exact hlt
        obtain ⟨ad, a, bc, rfl, hcell0, hbc, hrow⟩ := (H2.out.chg HC.out (by simp)).at k hkL
        have hcell := HKR.out.cell hcell0 (by simp)
        obtain ⟨fq, hfq, hfl⟩ := hrow.tight
        have hfb : ∀ x ∈ fq, x ≠ p ∧ x ∉ o1 ∧ x < wr.heap.size := fun x hx => by
          have h1 := (hfl x hx).2
          have h2 := HCT.out.bp
          have h3 := HKR.out.size
          exact ⟨by omega, fun hm => by have := HCT.out.s.ownlt x hm; omega, by omega⟩
        have hfv : ∀ x ∈ fq, x < W.heap.size := fun x hx => (hfl x hx).2
        have hsl : (cat (L.take k)).length ≤ 5000 := by rw [cat_length]; exact HTT.out k
        have hsl2 : (cat (L.take k) ++ L[k]).length ≤ 5000 := by rw [← cat_take L k hkL, cat_length]; exact HTT.out (k + 1)
        have hct := cat_take L k hkL
        have hrow' := hfq.chg HKR.out (by simp)
        have HCK := Lib.hid hct
        have HR := Lib.hid hrow'
        have HFB := Lib.hid hfb
        have HFV := Lib.hid hfv
        clear hcell0 hrow hfl hfq hfb hfv hct hrow'
        generalize hBk : L[k] = b at *
        clear hBk
        have hbl : (cat (L.take k)).length + b.length ≤ 5000 := by have h := hsl2; rw [List.length_append] at h; omega
        have hpl := HPRE.out.len
        generalize cat (L.take k) = x at *
        have hst := sinkAll _ W.heap.size p f1 o1 fq σ b a bc HCT.out.s HCT.out.ok HR.out hbc HFB.out (by omega)
        have hpre := Pre.step (by rw [HSF.out]; exact HPRE.out) HCT.out.ok b
        have hok1 := Snk.ok_all HCT.out.ok b
        have hfe := σ.all_fail HCT.out.ok b
        rw [HSF.out] at hpre hfe
        generalize σ.all b = R at *
        obtain ⟨cd, σ1⟩ := R
        simp only at hst hpre hok1 hfe
        have HST := Lib.hid hst
        have HP1 := Lib.hid hpre
        have HOK1 := Lib.hid hok1
        have HFE := Lib.hid hfe
        have hcd : cd = 0 ∨ cd = 11 := by rcases hpre with ⟨h, _⟩ | ⟨h, _⟩ <;> omega
        clear hst hpre hok1 hfe
        generalize hXL : x.length = X at *
        generalize hBL : b.length = M at *
        have HXL := Lib.hid hXL
        have HBL := Lib.hid hBL
        obtain ⟨va, vc, rfl⟩ := own_shape HCT.out.own
        clear hXL hBL
        go_upto_region 12 with (go_at_call 31; refine HST.out.mono ?_; rintro e w2 ⟨rfl, hto⟩; have HTO := Lib.hid hto; clear hto)
        obtain ⟨o2, hc2, hk2⟩ := HCT.out.write HOK1.out HTO.out
        have hk02 := HKR.out.nil_of hk2 (Nat.le_refl _) (by
          intro y hy
          rcases List.mem_cons.1 hy with rfl | hy
          · exact HCT.out.bp
          · exact (HCT.out.s.ownlt y hy).1)
        have HC2 := Lib.hid hc2
        have HK02 := Lib.hid hk02
        have HR2 := Lib.hid (HR.out.chg hk2 (fun y hy hm => by
          obtain ⟨a1, a2, _⟩ := HFB.out y hy
          rcases List.mem_cons.1 hm with h | h
          · exact a1 h
          · exact a2 h))
        clear hc2 hk2 hk02
        go_upto_region 13 with (at_builtin; refine wpList_append_rd rfl (.tmp 41) (.tmp 42) 22 rfl W.heap.size 5 ib (.int .u8 0) 1 Try.underlying22 hib hib0 hib1 hib2 rfl (.slice va x.length vc) x.length (bv x) rfl HC2.out.own a M bc fq (bv b) rfl (by rw [bv_length, HBL.out]) HR2.out (bv_one _) (by rw [HXL.out]; omega) (by unfold maxLen; rw [HXL.out]; omega) HC2.out.f1lt.2 ?_; intro a3 c3 w3 hown3 hgr3 hat3; have HO3 := Lib.hid hown3; have HG3 := Lib.hid hgr3; have HA3 := Lib.hid hat3; clear hown3 hgr3 hat3)
        obtain ⟨hc3, hk3⟩ := HC2.out.append (y := b) HG3.out (by rw [List.length_append, HBL.out, bv_append]; exact HO3.out) HA3.out
        have hk03 := HK02.out.nil_of hk3 (Nat.le_refl _) (fun y hy => (HC2.out.ownlt y hy).1)
        have HC3 := Lib.hid hc3
        have HK3 := Lib.hid hk03
        clear hc3 hk3 hk03
        have hb5 : (x ++ b).length ≤ 5000 := hsl2
        have HB5 := Lib.hid hb5
        clear hb5 hsl2
        rcases hcd with rfl | rfl
        · go_wp2_with fail
          go_roundw
          case rel => exact ⟨k + 1, by omega, by go_num, rfl, HK3.out, o2, σ1, by rw [HCK.out]; exact HC3.out, HFE.out, by rw [HCK.out]; exact HP1.out⟩
          case measure => simp [intOf]; omega
        · go_wp2_with fail
          go_meet
          exact ⟨x ++ b, 11, o2, σ1, HC3.out, HP1.out, rfl, HB5.out, HK3.out⟩
      · have hkk : k = N := by omega
        subst hkk
        have hsl : (cat (L.take k)).length ≤ 5000 := by rw [cat_length]; exact HTT.out k
        have HSL := Lib.hid hsl
        clear hsl
        go_wp2_with fail
        go_meet
        exact ⟨_, 0, o1, σ, HCT.out, HPRE.out, rfl, HSL.out, HKR.out⟩
  case rest =>
    obtain ⟨x, e, o1, σ, hct, hpre, rfl, hxl, hkx⟩ := hcut
    obtain ⟨va, vc, rfl⟩ := own_shape hct.own
    have hc1x := hkx.cell hc1 (by simp)
    have HCT := Lib.hid hct
    have HPRE := Lib.hid hpre
    have HKX := Lib.hid hkx
    have HXL := Lib.hid hxl
    clear hct hpre hkx hc0 hc1 hxl
    generalize hXL : x.length = X at *
    have HXE := Lib.hid hXL
    have hX5 : X ≤ 5000 := HXL.out
    clear hXL
    have hbl := HPRE.out.len
    have hcase : ∃ V : Nat, V ≤ X ∧ σ.b = x.take V ∧ decide (e ≠ 0) = decide (V < X) ∧ ((fail < 0 ∧ V = X) ∨ (0 ≤ fail ∧ X ≤ fail ∧ V = X) ∨ (0 ≤ fail ∧ fail < X ∧ (V : Int) = fail)) := by
      rcases HPRE.out with ⟨h0, h1, h2⟩ | ⟨h0, h1, h2, h3⟩
      · refine ⟨X, Nat.le_refl _, by rw [h1, List.take_of_length_le (by rw [HXE.out]; omega)], by simp [h0], ?_⟩
        rw [HXE.out] at h2
        omega
      · rw [HXE.out] at h2
        refine ⟨fail.toNat, by omega, h3, ?_, by omega⟩
        rw [decide_eq_true (p := e ≠ 0) (by omega), decide_eq_true (by omega)]
    obtain ⟨V, hV, hbV, heb, hcs⟩ := hcase
    have HEB : Hid (decide (e ≠ 0) = decide (V < X)) := Lib.hid heb
    generalize decide (e ≠ 0) = eb at *
    have HBV := Lib.hid hbV
    have HCS := Lib.hid hcs
    clear heb hbV hcs hbl
    go_upto_region 19 with (fail)
    go_cut [59] (fun t wx => t = .bool (decide (0 ≤ fail ∧ fail < X)) ∧ wx = wc)
    case first =>
      by_cases h0 : 0 ≤ fail
      · by_cases h1 : fail < X
        · go_wp2_with fail
          go_meet
          exact ⟨congrArg Value.bool (decide_eq_true (p := 0 ≤ fail ∧ fail < X) ⟨h0, h1⟩).symm, rfl⟩
        · go_wp2_with fail
          go_meet
          exact ⟨congrArg Value.bool (decide_eq_false (p := 0 ≤ fail ∧ fail < X) (by omega)).symm, rfl⟩
      · go_wp2_with fail
        go_meet
        exact ⟨congrArg Value.bool (decide_eq_false (p := 0 ≤ fail ∧ fail < X) (by omega)).symm, rfl⟩
    case rest =>
    obtain ⟨rfl, rfl⟩ := hcut
    go_upto_if 59 with (fail)
    go_cut [11] (fun t wx => t = .int .i64 V ∧ wx = wc)
    case first =>
      by_cases h1 : 0 ≤ fail ∧ fail < X
      · have hd : decide (0 ≤ fail ∧ fail < X) = true := decide_eq_true h1
        have hVf : (V : Int) = fail := by have := HCS.out; omega
        have HVF := Lib.hid hVf
        clear hVf
        rw [hd]
        clear hd
        go_wp2_with fail
        go_meet
        exact ⟨by rw [HVF.out], rfl⟩
      · have hd : decide (0 ≤ fail ∧ fail < X) = false := decide_eq_false h1
        have hVf : V = X := by have := HCS.out; omega
        have HVF := Lib.hid hVf
        clear hVf
        rw [hd]
        clear hd
        go_wp2_with fail
        go_meet
        exact ⟨by rw [HVF.out], rfl⟩
    case rest =>
    obtain ⟨rfl, rfl⟩ := hcut
    go_upto_region 21 with (fail)
    have hown := HCT.out.own
    rw [HXE.out] at hown
    obtain ⟨hrd0, hrb, hrc⟩ := own_rd2 hown
    have hrd := hrd0.take V
    rw [bv_take] at hrd
    have HRD := Lib.hid hrd
    have hrc' : X ≤ vc := hrc
    have hVc : V ≤ vc := Nat.le_trans hV hrc'
    have hbl : σ.b.length ≤ 5000 := Nat.le_trans HPRE.out.len (by rw [HXE.out]; exact HXL.out)
    have hsx : sb (x.take V) = sb σ.b := by rw [HBV.out]
    have HSX := Lib.hid hsx
    clear hrd0 hrd hrb hrc hsx hown
    refine wp_region_held_drew (S := fun w' => Chg [] wc w') (by kernel_rfl) ?_ (fun hHeld => ?_)
    · exact (Chg.refl _ _).drew
    refine wpAnyH_ready (rs := [0]) (by kernel_rfl) (by simp) (AllReadyH.cons (o := ?oc1) ?hc1 (fun K hK => ?hs1) AllReadyH.nil)
    case hc1 => simp only [List.getElem?_toArray, List.getElem?_cons_zero]; rfl
    case hs1 =>
    rw [if_pos (by rfl)]
    go_simp
    go_at_call 35; refine (sinkAlive _).mono ?_; rintro e w9 ⟨rfl, hc9⟩; have HC9 := Lib.hid ((Chg.refl [] wc).drew.trans hc9); clear hc9
    go_wp2_with fail
    refine hK.out _ _ ?_ (fun hHeld => ?_)
    · exact HC9.out
    clear hK K
    try simp only [Act.put, List.setIfInBounds_toArray, List.set_cons_zero, List.set_cons_succ]
    refine wpAnyH_weaken (S := fun w' => (convert 22 9 (.slice va V vc)).run Try.prog w' = .ok (.string (sb (x.take V))) w' ∧ Chg [] wc w') (fun w' h => h.2) ?_
    have hHeld : (fun w' => (convert 22 9 (.slice va V vc)).run Try.prog w' = .ok (.string (sb (x.take V))) w' ∧ Chg [] wc w') w9 := ⟨Try.conv _ _ _ _ _ _ (by rw [List.length_take, HXE.out]; omega) (HRD.out.chg (S := []) HC9.out (by simp)), HC9.out⟩
    refine wpAnyH_take (i := 1) (oi := ?oi2) (v := ?v2) ?hi2 (by kernel_rfl) (by kernel_rfl) (by kernel_rfl) ?hQ2 (Or.inl ⟨?hw2, ?hy2⟩) (by assumption) ?hr2
    case hi2 => simp only [List.getElem?_toArray, List.getElem?_cons_succ, List.getElem?_cons_zero]; rfl
    case hQ2 => exact fun _ _ _ h => h
    case hw2 => rfl
    case hy2 => intro w hSw; (try dsimp only at hSw); go_simp; (try with_reducible rfl)
    case hr2 =>
    simp only [Act.put, List.setIfInBounds_toArray, List.set_cons_zero, List.set_cons_succ]
    refine wpAnyH_take (i := 2) (oi := ?oi3) (v := ?v3) ?hi3 (by kernel_rfl) (by kernel_rfl) (by kernel_rfl) ?hQ3 (Or.inl ⟨?hw3, ?hy3⟩) (by assumption) ?hr3
    case hi3 => simp only [List.getElem?_toArray, List.getElem?_cons_succ, List.getElem?_cons_zero]; rfl
    case hQ3 => exact fun _ _ _ h => h
    case hw3 => rfl
    case hy3 => intro w hSw; (try dsimp only at hSw); go_simp; (try with_reducible rfl)
    case hr3 =>
    simp only [Act.put, List.setIfInBounds_toArray, List.set_cons_zero, List.set_cons_succ]
    refine wpAnyH_take (i := 5) (oi := ?oi4) (v := ?v4) ?hi4 (by kernel_rfl) (by kernel_rfl) (by kernel_rfl) ?hQ4 (Or.inl ⟨?hw4, ?hy4⟩) (by assumption) ?hr4
    case hi4 => simp only [List.getElem?_toArray, List.getElem?_cons_succ, List.getElem?_cons_zero]; rfl
    case hQ4 => exact fun _ _ _ h => h
    case hw4 => rfl
    case hy4 => intro w hSw; (try dsimp only at hSw); go_simp; (try with_reducible rfl)
    case hr4 =>
    simp only [Act.put, List.setIfInBounds_toArray, List.set_cons_zero, List.set_cons_succ]
    refine wpAnyH_take (i := 6) (oi := ?oi5) (v := ?v5) ?hi5 (by kernel_rfl) (by kernel_rfl) (by kernel_rfl) ?hQ5 (Or.inl ⟨?hw5, ?hy5⟩) (by assumption) ?hr5
    case hi5 => simp only [List.getElem?_toArray, List.getElem?_cons_succ, List.getElem?_cons_zero]; rfl
    case hQ5 => exact fun _ _ _ h => h
    case hw5 => rfl
    case hy5 => intro w hSw; (try dsimp only at hSw); go_simp; (try with_reducible rfl)
    case hr5 =>
    simp only [Act.put, List.setIfInBounds_toArray, List.set_cons_zero, List.set_cons_succ]
    refine wpAnyH_take (i := 7) (oi := ?oi6) (v := ?v6) ?hi6 (by kernel_rfl) (by kernel_rfl) (by kernel_rfl) ?hQ6 (Or.inl ⟨?hw6, ?hy6⟩) (by assumption) ?hr6
    case hi6 => simp only [List.getElem?_toArray, List.getElem?_cons_succ, List.getElem?_cons_zero]; rfl
    case hQ6 => exact fun _ _ _ h => h
    case hw6 => rfl
    case hy6 => intro w hSw; (try dsimp only at hSw); go_simp; (try with_reducible rfl)
    case hr6 =>
    simp only [Act.put, List.setIfInBounds_toArray, List.set_cons_zero, List.set_cons_succ]
    refine wpAnyH_take (i := 8) (oi := ?oi7) (v := ?v7) ?hi7 (by kernel_rfl) (by kernel_rfl) (by kernel_rfl) ?hQ7 (Or.inl ⟨?hw7, ?hy7⟩) (by assumption) ?hr7
    case hi7 => simp only [List.getElem?_toArray, List.getElem?_cons_succ, List.getElem?_cons_zero]; rfl
    case hQ7 => exact fun _ _ _ h => h
    case hw7 => rfl
    case hy7 => intro w hSw; (try dsimp only at hSw); go_simp; (try with_reducible rfl)
    case hr7 =>
    simp only [Act.put, List.setIfInBounds_toArray, List.set_cons_zero, List.set_cons_succ]
    refine wpAnyH_ready (rs := [3]) (by kernel_rfl) (by simp) (AllReadyH.cons (o := ?oc8) ?hc8 (fun K hK => ?hs8) AllReadyH.nil)
    case hc8 => simp only [List.getElem?_toArray, List.getElem?_cons_succ, List.getElem?_cons_zero]; rfl
    case hs8 =>
    rw [if_pos (by rfl)]
    go_simp
    go_at_call 32; refine (sinkBytes _ W.heap.size p f1 o1 σ (HCT.out.s.chg (S := []) HC9.out (by simp) (by simp) (by simp)) (by omega)).mono ?_; rintro e w5 ⟨a5, c5, rfl, hown5, hgr5⟩; have hc5 : Chg [] w9 w5 := Chg.of_grown hgr5 (by simp); have HC5 := Lib.hid (HC9.out.trans hc5); have v5 : (convert 22 9 (.slice a5 σ.b.length c5)).run Try.prog w5 = .ok (.string (sb σ.b)) w5 := conv_own (S := []) rfl hown5 (Chg.refl _ _) (by simp); rw [← HSX.out] at v5; clear hown5 hgr5 hc5
    go_wp2_with fail
    refine hK.out _ _ ?_ (fun hHeld => ?_)
    · exact ⟨Try.conv _ _ _ _ _ _ (by rw [List.length_take, HXE.out]; omega) (HRD.out.chg (S := []) HC5.out (by simp)), HC5.out⟩
    clear hK K
    try simp only [Act.put, List.setIfInBounds_toArray, List.set_cons_zero, List.set_cons_succ]
    refine wpAnyH_weaken (S := fun w' => (convert 22 9 (.slice va V vc)).run Try.prog w' = .ok (.string (sb (x.take V))) w' ∧ (convert 22 9 (.slice a5 σ.b.length c5)).run Try.prog w' = .ok (.string (sb (x.take V))) w' ∧ Chg [] wc w') (fun w' h => ⟨h.1, h.2.2⟩) ?_
    have hHeld : (fun w' => (convert 22 9 (.slice va V vc)).run Try.prog w' = .ok (.string (sb (x.take V))) w' ∧ (convert 22 9 (.slice a5 σ.b.length c5)).run Try.prog w' = .ok (.string (sb (x.take V))) w' ∧ Chg [] wc w') w5 := ⟨Try.conv _ _ _ _ _ _ (by rw [List.length_take, HXE.out]; omega) (HRD.out.chg (S := []) HC5.out (by simp)), v5, HC5.out⟩
    refine wpAnyH_take (i := 4) (oi := ?oi9) (v := ?v9) ?hi9 (by kernel_rfl) (by kernel_rfl) (by kernel_rfl) ?hQ9 (Or.inl ⟨?hw9, ?hy9⟩) (by assumption) ?hr9
    case hi9 => simp only [List.getElem?_toArray, List.getElem?_cons_succ, List.getElem?_cons_zero]; rfl
    case hQ9 => exact fun _ _ _ h => h
    case hw9 => rfl
    case hy9 => intro w hSw; (try dsimp only at hSw); go_simp; (try with_reducible rfl)
    case hr9 =>
    simp only [Act.put, List.setIfInBounds_toArray, List.set_cons_zero, List.set_cons_succ]
    refine wpAnyH_take (i := 9) (oi := ?oi10) (v := ?v10) ?hi10 (by kernel_rfl) (by kernel_rfl) (by kernel_rfl) ?hQ10 (Or.inl ⟨?hw10, ?hy10⟩) (by assumption) ?hr10
    case hi10 => simp only [List.getElem?_toArray, List.getElem?_cons_succ, List.getElem?_cons_zero]; rfl
    case hQ10 => exact fun _ _ _ h => h
    case hw10 => rfl
    case hy10 => intro w hSw; (try dsimp only at hSw); go_simp; (try with_reducible rfl)
    case hr10 =>
    simp only [Act.put, List.setIfInBounds_toArray, List.set_cons_zero, List.set_cons_succ]
    refine wpAnyH_take (i := 10) (oi := ?oi11) (v := ?v11) ?hi11 (by kernel_rfl) (by kernel_rfl) (by kernel_rfl) ?hQ11 (Or.inl ⟨?hw11, ?hy11⟩) (by assumption) ?hr11
    case hi11 => simp only [List.getElem?_toArray, List.getElem?_cons_succ, List.getElem?_cons_zero]; rfl
    case hQ11 => exact fun _ _ _ h => h
    case hw11 => rfl
    case hy11 => intro w hSw; (try dsimp only at hSw); go_simp; (try with_reducible rfl)
    case hr11 =>
    simp only [Act.put, List.setIfInBounds_toArray, List.set_cons_zero, List.set_cons_succ]
    refine wpAnyH_take (i := 11) (oi := ?oi12) (v := ?v12) ?hi12 (by kernel_rfl) (by kernel_rfl) (by kernel_rfl) ?hQ12 (Or.inl ⟨?hw12, ?hy12⟩) (by assumption) ?hr12
    case hi12 => simp only [List.getElem?_toArray, List.getElem?_cons_succ, List.getElem?_cons_zero]; rfl
    case hQ12 => exact fun _ _ _ h => h
    case hw12 => rfl
    case hy12 => intro w hSw; (try dsimp only at hSw); go_simp; (try with_reducible rfl)
    case hr12 =>
    simp only [Act.put, List.setIfInBounds_toArray, List.set_cons_zero, List.set_cons_succ]
    refine wpAnyH_take (i := 12) (oi := ?oi13) (v := ?v13) ?hi13 (by kernel_rfl) (by kernel_rfl) (by kernel_rfl) ?hQ13 (Or.inl ⟨?hw13, ?hy13⟩) (by assumption) ?hr13
    case hi13 => simp only [List.getElem?_toArray, List.getElem?_cons_succ, List.getElem?_cons_zero]; rfl
    case hQ13 => exact fun _ _ _ h => h
    case hw13 => rfl
    case hy13 => intro w hSw; (try dsimp only at hSw); go_simp; (try with_reducible rfl)
    case hr13 =>
    simp only [Act.put, List.setIfInBounds_toArray, List.set_cons_zero, List.set_cons_succ]
    refine wpAnyH_take (i := 13) (oi := ?oi14) (v := ?v14) ?hi14 (by kernel_rfl) (by kernel_rfl) (by kernel_rfl) ?hQ14 (Or.inl ⟨?hw14, ?hy14⟩) (by assumption) ?hr14
    case hi14 => simp only [List.getElem?_toArray, List.getElem?_cons_succ, List.getElem?_cons_zero]; rfl
    case hQ14 => exact fun _ _ _ h => h
    case hw14 => rfl
    case hy14 => intro w hSw; (try dsimp only at hSw); go_simp; (try with_reducible rfl)
    case hr14 =>
    simp only [Act.put, List.setIfInBounds_toArray, List.set_cons_zero, List.set_cons_succ]
    refine wpAnyH_take (i := 14) (oi := ?oi15) (v := ?v15) ?hi15 (by kernel_rfl) (by kernel_rfl) (by kernel_rfl) ?hQ15 (Or.inl ⟨?hw15, ?hy15⟩) (by assumption) ?hr15
    case hi15 => simp only [List.getElem?_toArray, List.getElem?_cons_succ, List.getElem?_cons_zero]; rfl
    case hQ15 => exact fun _ _ _ h => h
    case hw15 => rfl
    case hy15 => intro w hSw; (try dsimp only at hSw); go_simp; (try with_reducible rfl)
    case hr15 =>
    simp only [Act.put, List.setIfInBounds_toArray, List.set_cons_zero, List.set_cons_succ]
    refine wpAnyH_take (i := 15) (oi := ?oi16) (v := ?v16) ?hi16 (by kernel_rfl) (by kernel_rfl) (by kernel_rfl) ?hQ16 (Or.inl ⟨?hw16, ?hy16⟩) (by assumption) ?hr16
    case hi16 => simp only [List.getElem?_toArray, List.getElem?_cons_succ, List.getElem?_cons_zero]; rfl
    case hQ16 => exact fun _ _ _ h => h
    case hw16 => rfl
    case hy16 => intro w hSw; (try dsimp only at hSw); go_simp; (try with_reducible rfl)
    case hr16 =>
    simp only [Act.put, List.setIfInBounds_toArray, List.set_cons_zero, List.set_cons_succ]
    refine wpAnyH_take (i := 16) (oi := ?oi17) (v := ?v17) ?hi17 (by kernel_rfl) (by kernel_rfl) (by kernel_rfl) ?hQ17 (Or.inl ⟨?hw17, ?hy17⟩) (by assumption) ?hr17
    case hi17 => simp only [List.getElem?_toArray, List.getElem?_cons_succ, List.getElem?_cons_zero]; rfl
    case hQ17 => exact fun _ _ _ h => h
    case hw17 => rfl
    case hy17 => intro w hSw; (try dsimp only at hSw); go_simp; (try with_reducible rfl)
    case hr17 =>
    simp only [Act.put, List.setIfInBounds_toArray, List.set_cons_zero, List.set_cons_succ]
    refine wpAnyH_take (i := 17) (oi := ?oi18) (v := ?v18) ?hi18 (by kernel_rfl) (by kernel_rfl) (by kernel_rfl) ?hQ18 (Or.inl ⟨?hw18, ?hy18⟩) (by assumption) ?hr18
    case hi18 => simp only [List.getElem?_toArray, List.getElem?_cons_succ, List.getElem?_cons_zero]; rfl
    case hQ18 => exact fun _ _ _ h => h
    case hw18 => rfl
    case hy18 => intro w hSw; (try dsimp only at hSw); go_simp; (try with_reducible rfl)
    case hr18 =>
    simp only [Act.put, List.setIfInBounds_toArray, List.set_cons_zero, List.set_cons_succ]
    refine wpAnyH_take (i := 18) (oi := ?oi19) (v := ?v19) ?hi19 (by kernel_rfl) (by kernel_rfl) (by kernel_rfl) ?hQ19 (Or.inl ⟨?hw19, ?hy19⟩) (by assumption) ?hr19
    case hi19 => simp only [List.getElem?_toArray, List.getElem?_cons_succ, List.getElem?_cons_zero]; rfl
    case hQ19 => exact fun _ _ _ h => h
    case hw19 => rfl
    case hy19 => intro w hSw; (try dsimp only at hSw); go_simp; (try with_reducible rfl)
    case hr19 =>
    simp only [Act.put, List.setIfInBounds_toArray, List.set_cons_zero, List.set_cons_succ]
    refine wpAnyH_take (i := 19) (oi := ?oi20) (v := ?v20) ?hi20 (by kernel_rfl) (by kernel_rfl) (by kernel_rfl) ?hQ20 (Or.inl ⟨?hw20, ?hy20⟩) (by assumption) ?hr20
    case hi20 => simp only [List.getElem?_toArray, List.getElem?_cons_succ, List.getElem?_cons_zero]; rfl
    case hQ20 => exact fun _ _ _ h => h
    case hw20 => rfl
    case hy20 => intro w hSw; (try dsimp only at hSw); go_simp; (try with_reducible rfl)
    case hr20 =>
    simp only [Act.put, List.setIfInBounds_toArray, List.set_cons_zero, List.set_cons_succ]
    refine wpAnyH_done (by kernel_rfl) ?_ _
    go_wp2_with fail
    go_ret
    exact ⟨by rw [HEB.out]; simp, (HC.out.trans HKX.out).trans HC5.out⟩
end Go.Proofs.Ytljlcigbehgohaa
