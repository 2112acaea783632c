/- paxtarlaw05.SinkWriteAllSplits. -/
import Derived.Test.YtljlcigbehgohaaSCat
namespace Go.Proofs.Ytljlcigbehgohaa
open Go.RowKit Go.Pax

set_option maxRecDepth 100000 in
set_option maxHeartbeats 8000000 in
theorem sinkSplits (w : World) (co lo : Option Addr) (cc lc : Nat) (c : List Int) (fail : Int) (L : List (List UInt8)) (fp : List Nat)
    (hcl : c.length * 8 ≤ 140737488355328) (hf : -9223372036854775808 ≤ fail ∧ fail ≤ 9223372036854775807) (hb : ∀ b ∈ L, b.length ≤ 140737488355328)
    (h1 : Rd w fp co (iv c)) (h2 : RdB w fp lo L) (hll : L.length ≤ 140737488355328) :
    Calls Try.prog 10 #[.agg #[.slice co c.length cc, .int .i64 fail], .slice lo L.length lc] w fun e w' => e = .returned (.bool true) ∧ Chg [] w w' := by
  have H1 := Lib.hid h1
  have H2 := Lib.hid h2
  have HB := Lib.hid hb
  have HF := Lib.hid hf
  clear h1 h2 hb hf
  by_cases g2 : 100 < L.length
  · go_enter Try.func10, Try.ntmps10
    go_wp2_with (first
        | (go_at_call 34; refine (sinkSize _ lo lc L fp (H2.out.chg (S := []) ((Chg.refl _ _).alloc _) (by simp)) (by omega) HB.out).mono ?_; rintro e w' ⟨rfl, rfl⟩)
        | (go_at_call 35; refine (sinkAlive _).mono ?_; rintro e w9 ⟨rfl, hc9⟩))
    go_ret
    exact ⟨rfl, ((Chg.refl _ _).alloc _).trans hc9⟩
  by_cases g3 : 5000 < total L
  · go_enter Try.func10, Try.ntmps10
    go_wp2_with (first
        | (go_at_call 34; refine (sinkSize _ lo lc L fp (H2.out.chg (S := []) ((Chg.refl _ _).alloc _) (by simp)) (by omega) HB.out).mono ?_; rintro e w' ⟨rfl, rfl⟩)
        | (go_at_call 35; refine (sinkAlive _).mono ?_; rintro e w9 ⟨rfl, hc9⟩))
    go_ret
    exact ⟨rfl, ((Chg.refl _ _).alloc _).trans hc9⟩
  by_cases g4 : 300 < c.length
  · go_enter Try.func10, Try.ntmps10
    go_wp2_with (first
        | (go_at_call 34; refine (sinkSize _ lo lc L fp (H2.out.chg (S := []) ((Chg.refl _ _).alloc _) (by simp)) (by omega) HB.out).mono ?_; rintro e w' ⟨rfl, rfl⟩)
        | (go_at_call 35; refine (sinkAlive _).mono ?_; rintro e w9 ⟨rfl, hc9⟩))
    go_ret
    exact ⟨rfl, ((Chg.refl _ _).alloc _).trans hc9⟩
  obtain ⟨ib, hib, hib0, hib1, hib2⟩ := Try.infoB
  go_enter Try.func10, Try.ntmps10
  go_upto_region 3 with (go_at_call 34; refine (sinkSize _ lo lc L fp (H2.out.chg (S := []) ((Chg.refl _ _).alloc _) (by simp)) (by omega) HB.out).mono ?_; rintro e w' ⟨rfl, rfl⟩)
  have hc0 : (w.alloc (.cells #[.slice co c.length cc, .int .i64 fail] 25)).cell? ⟨w.heap.size, 0, none⟩ = some (.slice co c.length cc) := by go_simp
  have hc1 : (w.alloc (.cells #[.slice co c.length cc, .int .i64 fail] 25)).cell? ⟨w.heap.size, 1, none⟩ = some (.int .i64 fail) := by go_simp
  have hcW : Chg [] w (w.alloc (.cells #[.slice co c.length cc, .int .i64 fail] 25)) := (Chg.refl _ _).alloc _
  have hsz : (w.alloc (.cells #[.slice co c.length cc, .int .i64 fail] 25)).heap.size = w.heap.size + 1 := by simp
  generalize w.alloc (.cells #[.slice co c.length cc, .int .i64 fail] 25) = W at *
  have HC := Lib.hid hcW
  have HS := Lib.hid hsz
  clear hcW hsz
  refine wp_region_held_drew (S := fun w' => w'.cell? ⟨w.heap.size, 0, none⟩ = some (.slice co c.length cc) ∧ w'.cell? ⟨w.heap.size, 1, none⟩ = some (.int .i64 fail) ∧ Chg [] W w') (by kernel_rfl) ?_ (fun hHeld => ?_)
  · exact ⟨by simp [*], by simp [*], (Chg.refl _ _).drew⟩
  refine wpAnyH_take (i := 0) (oi := ?oi1) (v := ?v1) ?hi1 (by kernel_rfl) (by kernel_rfl) (by kernel_rfl) ?hQ1 (Or.inl ⟨?hw1, ?hy1⟩) (by assumption) ?hr1
  case hi1 => simp only [List.getElem?_toArray, List.getElem?_cons_zero]; rfl
  case hQ1 => exact fun _ _ _ h => h
  case hw1 => rfl
  case hy1 => intro w hSw; (try dsimp only at hSw); go_simp; (try with_reducible rfl)
  case hr1 =>
  simp only [Act.put, List.setIfInBounds_toArray, List.set_cons_zero, List.set_cons_succ]
  refine wpAnyH_take (i := 2) (oi := ?oi2) (v := ?v2) ?hi2 (by kernel_rfl) (by kernel_rfl) (by kernel_rfl) ?hQ2 (Or.inl ⟨?hw2, ?hy2⟩) (by assumption) ?hr2
  case hi2 => simp only [List.getElem?_toArray, List.getElem?_cons_succ, List.getElem?_cons_zero]; rfl
  case hQ2 => exact fun _ _ _ h => h
  case hw2 => rfl
  case hy2 => intro w hSw; (try dsimp only at hSw); go_simp; (try with_reducible rfl)
  case hr2 =>
  simp only [Act.put, List.setIfInBounds_toArray, List.set_cons_zero, List.set_cons_succ]
  refine wpAnyH_ready (rs := [1]) (by kernel_rfl) (by simp) (AllReadyH.cons (o := ?oc3) ?hc3 (fun K hK => ?hs3) AllReadyH.nil)
  case hc3 => simp only [List.getElem?_toArray, List.getElem?_cons_succ, List.getElem?_cons_zero]; rfl
  case hs3 =>
  rw [if_pos (by rfl)]
  go_simp
  go_at_call 36; refine (sinkNew _ W.heap.size co _ cc c fail fp rfl hcl (show W.heap.size ≤ W.drew.heap.size from Nat.le_refl _) (H1.out.chg (S := []) (HC.out.drew) (by simp))).mono ?_; rintro e w1 ⟨p, f1, rfl, s1, k1, b1, bf1⟩
  go_wp2_with fail
  refine hK.out _ _ ?_ (fun hHeld => ?_)
  · exact ⟨k1.cell (by simp [*]) (by simp), k1.cell (by simp [*]) (by simp), (Chg.refl [] W).drew.trans k1⟩
  clear hK K
  try simp only [Act.put, List.setIfInBounds_toArray, List.set_cons_zero, List.set_cons_succ]
  refine wpAnyH_ready (rs := [3]) (by kernel_rfl) (by simp) (AllReadyH.cons (o := ?oc4) ?hc4 (fun K hK => ?hs4) AllReadyH.nil)
  case hc4 => simp only [List.getElem?_toArray, List.getElem?_cons_succ, List.getElem?_cons_zero]; rfl
  case hs4 =>
  rw [if_pos (by rfl)]
  go_simp
  go_at_call 36; refine (sinkNew _ W.heap.size co _ cc c fail fp rfl hcl k1.size (H1.out.chg (S := []) ((HC.out.drew).trans k1) (by simp))).mono ?_; rintro e w2 ⟨q, f2, rfl, s2, k2, b2, bf2⟩
  go_wp2_with fail
  refine hK.out _ _ ?_ (fun hHeld => ?_)
  · exact ⟨k2.cell hHeld.1 (by simp), k2.cell hHeld.2.1 (by simp), hHeld.2.2.trans k2⟩
  clear hK K
  try simp only [Act.put, List.setIfInBounds_toArray, List.set_cons_zero, List.set_cons_succ]
  refine wpAnyH_take (i := 4) (oi := ?oi5) (v := ?v5) ?hi5 (by kernel_rfl) (by kernel_rfl) (by kernel_rfl) ?hQ5 (Or.inl ⟨?hw5, ?hy5⟩) (by assumption) ?hr5
  case hi5 => simp only [List.getElem?_toArray, List.getElem?_cons_succ, List.getElem?_cons_zero]; rfl
  case hQ5 => exact fun _ _ _ h => h
  case hw5 => rfl
  case hy5 => intro w hSw; (try dsimp only at hSw); go_simp; (try with_reducible rfl)
  case hr5 =>
  simp only [Act.put, List.setIfInBounds_toArray, List.set_cons_zero, List.set_cons_succ]
  refine wpAnyH_take (i := 5) (oi := ?oi6) (v := ?v6) ?hi6 (by kernel_rfl) (by kernel_rfl) (by kernel_rfl) ?hQ6 (Or.inl ⟨?hw6, ?hy6⟩) (by assumption) ?hr6
  case hi6 => simp only [List.getElem?_toArray, List.getElem?_cons_succ, List.getElem?_cons_zero]; rfl
  case hQ6 => exact fun _ _ _ h => h
  case hw6 => rfl
  case hy6 => intro w hSw; (try dsimp only at hSw); go_simp; (try with_reducible rfl)
  case hr6 =>
  simp only [Act.put, List.setIfInBounds_toArray, List.set_cons_zero, List.set_cons_succ]
  refine wpAnyH_done (by kernel_rfl) ?_ _
  have kW2 := hHeld.2.2
  clear hHeld hc0 hc1
  go_upto_block 0 with (fail)
  have hCat0 : Cat W.heap.size (w2.alloc (.cells #[] 5)) (q :: f2) p f1 [] ⟨[], c, fail, 0⟩ (.slice (some ⟨w2.heap.size, 0, none⟩) 0 0) [] :=
    ⟨Snk.ok_new (by omega) HF.out, s1.chg (k2.trans ((Chg.refl [] _).alloc _)) (by simp) (by simp) (by simp), own_empty (heap_alloc_new _ _) kW2.size, b1, fun g hg => by
      simp [Value.ownBlock] at hg
      subst hg
      exact ⟨by have := s1.lt; have := k2.size; omega, fun hm => by have := bf1 _ hm; have := k2.size; omega, by simp⟩, fun g hg => by
      have hz := s2.lt
      have hz1 := s1.lt
      simp only [World.size_alloc, Value.ownBlock, Option.toList, List.mem_singleton, List.not_mem_nil, not_false_eq_true, true_and]
      rcases List.mem_cons.1 hg with rfl | hg
      · exact ⟨by omega, by omega, by omega⟩
      · have := bf2 _ hg
        exact ⟨by omega, by omega, by omega⟩⟩
  have hT0 : SnkAt W.heap.size (w2.alloc (.cells #[] 5)) q f2 [] ⟨[], c, fail, 0⟩ := s2.chg ((Chg.refl [] _).alloc _) (by simp) (by simp) (by simp)
  have hqf : q ∉ f1 := fun hm => by have := bf1 _ hm; omega
  have hqB : W.heap.size ≤ q := Nat.le_trans k1.size b2
  have hok0 : Snk.Ok ⟨[], c, fail, 0⟩ := Snk.ok_new (by omega) HF.out
  have hk0 : Chg [] W (w2.alloc (.cells #[] 5)) := kW2.alloc _
  have HC0 := Lib.hid hCat0
  have HT0 := Lib.hid hT0
  have HQF := Lib.hid hqf
  have HQB := Lib.hid hqB
  have HOK0 := Lib.hid hok0
  have HK0 := Lib.hid hk0
  have HTT := Lib.hid (fun i => (Nat.le_trans (total_le L i) (by omega) : total (L.take i) ≤ 5000))
  clear hCat0 hk0 s1 k1 bf1 hT0 hqf hqB hok0 s2 k2 bf2 b1 b2 kW2
  generalize w2.alloc (.cells #[] 5) = W1 at *
  generalize w2.heap.size = n1 at *
  generalize hN : L.length = N at *
  have HN := Lib.hid hN
  clear hN
  go_wp2_with fail
  go_loopw [7, 8, 40] (fun t ec i wr => ∃ k : Nat, k ≤ N ∧ i = .int .i64 k ∧ ∃ cd : Int, ec = .int .i64 cd ∧ Chg [] W wr ∧ ∃ o1 σ, Cat W.heap.size wr (q :: f2) p f1 o1 σ t (cat (L.take k)) ∧ σ.fail = fail ∧ Pre fail (cat (L.take k)) cd σ.b ∧ SnkAt W.heap.size wr q f2 [] ⟨[], c, fail, 0⟩) (fun _ _ i _ => N - (intOf i).toNat)
  case atStart => exact ⟨0, Nat.zero_le _, rfl, 0, rfl, HK0.out, [], _, HC0.out, rfl, Pre.new, HT0.out⟩
  case round =>
    obtain ⟨k, hk, rfl, cd, rfl, hkr, o1, σ, hct, hsf, hpre, hta⟩ := hrel
    have HKR := Lib.hid hkr
    have HCT := Lib.hid hct
    have HPRE := Lib.hid hpre
    have HSF := Lib.hid hsf
    have HTA := Lib.hid hta
    clear hkr hct hpre hsf hta
    by_cases hlt : k < N
    · have hkL : k < L.length := by rw [HN.out]; exact hlt
      obtain ⟨ad, a, bc, rfl, hcell0, hbc, hrow⟩ := (H2.out.chg HC.out (by simp)).at k hkL
      have hcell := HKR.out.cell hcell0 (by simp)
      obtain ⟨fq, hfq, hfl⟩ := hrow.tight
      have hfv : ∀ x ∈ fq, x < W.heap.size := fun x hx => (hfl x hx).2
      have hsl : (cat (L.take k)).length ≤ 5000 := by rw [cat_length]; exact HTT.out k
      have hsl2 : (cat (L.take k) ++ L[k]).length ≤ 5000 := by rw [← cat_take L k hkL, cat_length]; exact HTT.out (k + 1)
      have hct := cat_take L k hkL
      have hrow' := hfq.chg HKR.out (by simp)
      have HCK := Lib.hid hct
      have HR := Lib.hid hrow'
      have HFV := Lib.hid hfv
      clear hcell0 hrow hfl hfq hfv hct hrow'
      generalize hBk : L[k] = b at *
      clear hBk
      have hbl : (cat (L.take k)).length + b.length ≤ 5000 := by have h := hsl2; rw [List.length_append] at h; omega
      have hpl := HPRE.out.len
      generalize cat (L.take k) = x at *
      generalize hXL : x.length = X at *
      generalize hBL : b.length = M at *
      have HXL := Lib.hid hXL
      have HBL := Lib.hid hBL
      obtain ⟨va, vc, rfl⟩ := own_shape HCT.out.own
      clear hXL hBL hsl2
      go_upto_region 12 with (at_builtin; refine wpList_append_rd rfl (.tmp 44) (.tmp 45) 22 rfl W.heap.size 5 ib (.int .u8 0) 1 Try.underlying22 hib hib0 hib1 hib2 rfl (.slice va x.length vc) x.length (bv x) rfl HCT.out.own a M bc fq (bv b) rfl (by rw [bv_length, HBL.out]) HR.out (bv_one _) (by rw [HXL.out]; omega) (by unfold maxLen; rw [HXL.out]; omega) HCT.out.f1lt.2 ?_; intro a3 c3 w3 hown3 hgr3 hat3; have HO3 := Lib.hid hown3; have HG3 := Lib.hid hgr3; have HA3 := Lib.hid hat3; clear hown3 hgr3 hat3)
      obtain ⟨hc3, hk3⟩ := HCT.out.append (y := b) HG3.out (by rw [List.length_append, HBL.out, bv_append]; exact HO3.out) HA3.out
      have hk03 := HKR.out.nil_of hk3 (Nat.le_refl _) (fun y hy => (HCT.out.ownlt y hy).1)
      have hta3 := HTA.out.chg hk3 (fun hm => (HCT.out.fr q (by simp)).2.2.1 hm) (fun y hy hm => (HCT.out.fr y (by simp [hy])).2.2.1 hm) (by simp)
      have hr3 := HR.out.chg hk3 (fun y hy hm => by
        have h1 := HFV.out y hy
        have h2 := HCT.out.ownlt y hm
        omega)
      have HC3 := Lib.hid hc3
      have HK3 := Lib.hid hk03
      have HT3 := Lib.hid hta3
      have HR3 := Lib.hid hr3
      clear hc3 hk3 hk03 hta3 hr3
      by_cases hcd : cd = 0
      · subst hcd
        have hpre := Pre.step (by rw [HSF.out]; exact HPRE.out) HCT.out.ok b
        have hok1 := Snk.ok_all HCT.out.ok b
        have hfe := σ.all_fail HCT.out.ok b
        have hst := sinkAll _ W.heap.size p f1 o1 fq σ b a bc HC3.out.s HCT.out.ok HR3.out (by rw [HBL.out]; exact hbc) (fun y hy => by
          have h1 := HFV.out y hy
          have h2 := HCT.out.bp
          have h3 := HK3.out.size
          exact ⟨by omega, fun hm => by have := HCT.out.s.ownlt y hm; omega, by omega⟩) (by rw [HBL.out]; omega)
        rw [HSF.out] at hpre hfe
        rw [HBL.out] at hst
        generalize σ.all b = R at *
        obtain ⟨cd, σ1⟩ := R
        simp only at hst hpre hok1 hfe
        have HST := Lib.hid hst
        have HP1 := Lib.hid hpre
        have HOK1 := Lib.hid hok1
        have HFE := Lib.hid hfe
        clear hst hpre hok1 hfe
        go_wp2_with (go_at_call 31; refine HST.out.mono ?_; rintro e w4 ⟨rfl, hto⟩; have HTO := Lib.hid hto; clear hto)
        obtain ⟨o2, hc4, hk4⟩ := HC3.out.write HOK1.out HTO.out
        have hk04 := HK3.out.nil_of hk4 (Nat.le_refl _) (by
          intro y hy
          rcases List.mem_cons.1 hy with rfl | hy
          · exact HCT.out.bp
          · exact (HCT.out.s.ownlt y hy).1)
        have hta4 := HT3.out.chg hk4 (fun hm => by
          obtain ⟨a1, a2, _⟩ := HC3.out.fr q (by simp)
          rcases List.mem_cons.1 hm with h | h
          · exact a1 h
          · exact a2 h) (fun y hy hm => by
          obtain ⟨a1, a2, _⟩ := HC3.out.fr y (by simp [hy])
          rcases List.mem_cons.1 hm with h | h
          · exact a1 h
          · exact a2 h) (by simp)
        have HC4 := Lib.hid hc4
        have HK4 := Lib.hid hk04
        have HT4 := Lib.hid hta4
        clear hc4 hk4 hk04 hta4
        go_roundw
        case rel => exact ⟨k + 1, by omega, by go_num, cd, rfl, HK4.out, o2, σ1, by rw [HCK.out]; exact HC4.out, HFE.out, by rw [HCK.out]; exact HP1.out, HT4.out⟩
        case measure => simp [intOf]; omega
      · have hcb : ((cd : Int) == 0) = false := by simpa using hcd
        have HCD := Lib.hid hcd
        clear hcd
        go_wp2_with fail
        go_roundw
        case rel => exact ⟨k + 1, by omega, by go_num, cd, rfl, HK3.out, o1, σ, by rw [HCK.out]; exact HC3.out, HSF.out, by rw [HCK.out]; exact HPRE.out.stay HCD.out b, HT3.out⟩
        case measure => simp [intOf]; omega
    · have hkk : k = N := by omega
      subst hkk
      have hsl : (cat (L.take k)).length ≤ 5000 := by rw [cat_length]; exact HTT.out k
      have hsb := HPRE.out.len
      generalize cat (L.take k) = x at *
      obtain ⟨va, vc, rfl⟩ := own_shape HCT.out.own
      obtain ⟨hrd, hrb, hrc⟩ := own_rd2 HCT.out.own
      have hst := sinkAll _ W.heap.size q f2 [] _ ⟨[], c, fail, 0⟩ x va vc HTA.out HOK0.out hrd hrc (fun y hy => by
        refine ⟨?_, by simp, (hrb y hy).2⟩
        rintro rfl
        exact (HCT.out.fr y (by simp)).2.2.1 hy) (by simp; omega)
      have hpre := Pre.step (σ := ⟨[], c, fail, 0⟩) (x := []) Pre.new HOK0.out x
      obtain ⟨hd1, hd2⟩ := Pre.det hpre HPRE.out
      generalize Snk.all ⟨[], c, fail, 0⟩ x = R at *
      obtain ⟨c2, σ2⟩ := R
      simp only at hst hd1 hd2
      subst hd1
      have HST := Lib.hid hst
      have HSB := Lib.hid hd2
      have hbl : σ.b.length ≤ 5000 := by omega
      clear hst hd2 hpre hrd hrb hrc hsb
      generalize hXL : x.length = X at *
      clear hXL
      go_upto_region 16 with (go_at_call 31; refine HST.out.mono ?_; rintro e wx ⟨rfl, hto⟩; have HTO := Lib.hid hto; clear hto)
      obtain ⟨o2, ⟨hta, _⟩, hkx⟩ := HTO.out
      have hsa := HCT.out.s.chg hkx (by simp; exact Ne.symm (HCT.out.fr q (by simp)).1) (fun y hy => by simp; rintro rfl; exact HQF.out hy) (fun y hy => by simp; rintro rfl; exact (HCT.out.fr y (by simp)).2.1 hy)
      have hkw := HKR.out.nil_of hkx (Nat.le_refl _) (by simp; exact HQB.out)
      have HSA := Lib.hid hsa
      have HTA := Lib.hid hta
      have HKW := Lib.hid hkw
      clear hta hkx hsa hkw
      refine wp_region_held_drew (S := fun w' => Chg [] wx w') (by kernel_rfl) ?_ (fun hHeld => ?_)
      · exact (Chg.refl _ _).drew
      refine wpAnyH_ready (rs := [0]) (by kernel_rfl) (by simp) (AllReadyH.cons (o := ?oc7) ?hc7 (fun K hK => ?hs7) AllReadyH.nil)
      case hc7 => simp only [List.getElem?_toArray, List.getElem?_cons_zero]; rfl
      case hs7 =>
      rw [if_pos (by rfl)]
      go_simp
      go_at_call 35; refine (sinkAlive _).mono ?_; rintro e w9 ⟨rfl, hc9⟩; have HC9 := Lib.hid ((Chg.refl [] wx).drew.trans hc9); clear hc9
      go_wp2_with fail
      refine hK.out _ _ ?_ (fun hHeld => ?_)
      · exact HC9.out
      clear hK K
      try simp only [Act.put, List.setIfInBounds_toArray, List.set_cons_zero, List.set_cons_succ]
      refine wpAnyH_take (i := 1) (oi := ?oi8) (v := ?v8) ?hi8 (by kernel_rfl) (by kernel_rfl) (by kernel_rfl) ?hQ8 (Or.inl ⟨?hw8, ?hy8⟩) (by assumption) ?hr8
      case hi8 => simp only [List.getElem?_toArray, List.getElem?_cons_succ, List.getElem?_cons_zero]; rfl
      case hQ8 => exact fun _ _ _ h => h
      case hw8 => rfl
      case hy8 => intro w hSw; (try dsimp only at hSw); go_simp; (try with_reducible rfl)
      case hr8 =>
      simp only [Act.put, List.setIfInBounds_toArray, List.set_cons_zero, List.set_cons_succ]
      refine wpAnyH_take (i := 2) (oi := ?oi9) (v := ?v9) ?hi9 (by kernel_rfl) (by kernel_rfl) (by kernel_rfl) ?hQ9 (Or.inl ⟨?hw9, ?hy9⟩) (by assumption) ?hr9
      case hi9 => simp only [List.getElem?_toArray, List.getElem?_cons_succ, List.getElem?_cons_zero]; rfl
      case hQ9 => exact fun _ _ _ h => h
      case hw9 => rfl
      case hy9 => intro w hSw; (try dsimp only at hSw); go_simp; (try with_reducible rfl)
      case hr9 =>
      simp only [Act.put, List.setIfInBounds_toArray, List.set_cons_zero, List.set_cons_succ]
      refine wpAnyH_take (i := 3) (oi := ?oi10) (v := ?v10) ?hi10 (by kernel_rfl) (by kernel_rfl) (by kernel_rfl) ?hQ10 (Or.inl ⟨?hw10, ?hy10⟩) (by assumption) ?hr10
      case hi10 => simp only [List.getElem?_toArray, List.getElem?_cons_succ, List.getElem?_cons_zero]; rfl
      case hQ10 => exact fun _ _ _ h => h
      case hw10 => rfl
      case hy10 => intro w hSw; (try dsimp only at hSw); go_simp; (try with_reducible rfl)
      case hr10 =>
      simp only [Act.put, List.setIfInBounds_toArray, List.set_cons_zero, List.set_cons_succ]
      refine wpAnyH_take (i := 4) (oi := ?oi11) (v := ?v11) ?hi11 (by kernel_rfl) (by kernel_rfl) (by kernel_rfl) ?hQ11 (Or.inl ⟨?hw11, ?hy11⟩) (by assumption) ?hr11
      case hi11 => simp only [List.getElem?_toArray, List.getElem?_cons_succ, List.getElem?_cons_zero]; rfl
      case hQ11 => exact fun _ _ _ h => h
      case hw11 => rfl
      case hy11 => intro w hSw; (try dsimp only at hSw); go_simp; (try with_reducible rfl)
      case hr11 =>
      simp only [Act.put, List.setIfInBounds_toArray, List.set_cons_zero, List.set_cons_succ]
      refine wpAnyH_take (i := 5) (oi := ?oi12) (v := ?v12) ?hi12 (by kernel_rfl) (by kernel_rfl) (by kernel_rfl) ?hQ12 (Or.inl ⟨?hw12, ?hy12⟩) (by assumption) ?hr12
      case hi12 => simp only [List.getElem?_toArray, List.getElem?_cons_succ, List.getElem?_cons_zero]; rfl
      case hQ12 => exact fun _ _ _ h => h
      case hw12 => rfl
      case hy12 => intro w hSw; (try dsimp only at hSw); go_simp; (try with_reducible rfl)
      case hr12 =>
      simp only [Act.put, List.setIfInBounds_toArray, List.set_cons_zero, List.set_cons_succ]
      refine wpAnyH_take (i := 6) (oi := ?oi13) (v := ?v13) ?hi13 (by kernel_rfl) (by kernel_rfl) (by kernel_rfl) ?hQ13 (Or.inl ⟨?hw13, ?hy13⟩) (by assumption) ?hr13
      case hi13 => simp only [List.getElem?_toArray, List.getElem?_cons_succ, List.getElem?_cons_zero]; rfl
      case hQ13 => exact fun _ _ _ h => h
      case hw13 => rfl
      case hy13 => intro w hSw; (try dsimp only at hSw); go_simp; (try with_reducible rfl)
      case hr13 =>
      simp only [Act.put, List.setIfInBounds_toArray, List.set_cons_zero, List.set_cons_succ]
      refine wpAnyH_take (i := 7) (oi := ?oi14) (v := ?v14) ?hi14 (by kernel_rfl) (by kernel_rfl) (by kernel_rfl) ?hQ14 (Or.inl ⟨?hw14, ?hy14⟩) (by assumption) ?hr14
      case hi14 => simp only [List.getElem?_toArray, List.getElem?_cons_succ, List.getElem?_cons_zero]; rfl
      case hQ14 => exact fun _ _ _ h => h
      case hw14 => rfl
      case hy14 => intro w hSw; (try dsimp only at hSw); go_simp; (try with_reducible rfl)
      case hr14 =>
      simp only [Act.put, List.setIfInBounds_toArray, List.set_cons_zero, List.set_cons_succ]
      refine wpAnyH_take (i := 10) (oi := ?oi15) (v := ?v15) ?hi15 (by kernel_rfl) (by kernel_rfl) (by kernel_rfl) ?hQ15 (Or.inl ⟨?hw15, ?hy15⟩) (by assumption) ?hr15
      case hi15 => simp only [List.getElem?_toArray, List.getElem?_cons_succ, List.getElem?_cons_zero]; rfl
      case hQ15 => exact fun _ _ _ h => h
      case hw15 => rfl
      case hy15 => intro w hSw; (try dsimp only at hSw); go_simp; (try with_reducible rfl)
      case hr15 =>
      simp only [Act.put, List.setIfInBounds_toArray, List.set_cons_zero, List.set_cons_succ]
      refine wpAnyH_ready (rs := [8]) (by kernel_rfl) (by simp) (AllReadyH.cons (o := ?oc16) ?hc16 (fun K hK => ?hs16) AllReadyH.nil)
      case hc16 => simp only [List.getElem?_toArray, List.getElem?_cons_succ, List.getElem?_cons_zero]; rfl
      case hs16 =>
      rw [if_pos (by rfl)]
      go_simp
      go_at_call 32; refine (sinkBytes _ W.heap.size p f1 o1 σ (HSA.out.chg (S := []) HC9.out (by simp) (by simp) (by simp)) (by omega)).mono ?_; rintro e w5 ⟨a5, c5, rfl, hown5, hgr5⟩; have hc5 : Chg [] w9 w5 := Chg.of_grown hgr5 (by simp); have HC5 := Lib.hid (HC9.out.trans hc5); have v5 : (convert 22 9 (.slice a5 σ.b.length c5)).run Try.prog w5 = .ok (.string (sb σ.b)) w5 := conv_own (S := []) rfl hown5 (Chg.refl _ _) (by simp); have HO5 := Lib.hid hown5; clear hown5 hgr5 hc5
      go_wp2_with fail
      refine hK.out _ _ ?_ (fun hHeld => ?_)
      · exact HC5.out
      clear hK K
      try simp only [Act.put, List.setIfInBounds_toArray, List.set_cons_zero, List.set_cons_succ]
      refine wpAnyH_weaken (S := fun w' => (convert 22 9 (.slice a5 σ.b.length c5)).run Try.prog w' = .ok (.string (sb σ.b)) w' ∧ Chg [] wx w') (fun w' h => h.2) ?_
      have hHeld : (fun w' => (convert 22 9 (.slice a5 σ.b.length c5)).run Try.prog w' = .ok (.string (sb σ.b)) w' ∧ Chg [] wx w') w5 := ⟨v5, HC5.out⟩
      refine wpAnyH_take (i := 9) (oi := ?oi17) (v := ?v17) ?hi17 (by kernel_rfl) (by kernel_rfl) (by kernel_rfl) ?hQ17 (Or.inl ⟨?hw17, ?hy17⟩) (by assumption) ?hr17
      case hi17 => simp only [List.getElem?_toArray, List.getElem?_cons_succ, List.getElem?_cons_zero]; rfl
      case hQ17 => exact fun _ _ _ h => h
      case hw17 => rfl
      case hy17 => intro w hSw; (try dsimp only at hSw); go_simp; (try with_reducible rfl)
      case hr17 =>
      simp only [Act.put, List.setIfInBounds_toArray, List.set_cons_zero, List.set_cons_succ]
      refine wpAnyH_ready (rs := [11]) (by kernel_rfl) (by simp) (AllReadyH.cons (o := ?oc18) ?hc18 (fun K hK => ?hs18) AllReadyH.nil)
      case hc18 => simp only [List.getElem?_toArray, List.getElem?_cons_succ, List.getElem?_cons_zero]; rfl
      case hs18 =>
      rw [if_pos (by rfl)]
      go_simp
      go_at_call 32; refine (sinkBytes _ W.heap.size q f2 o2 σ2 (HTA.out.chg (S := []) HC5.out (by simp) (by simp) (by simp)) (by rw [HSB.out]; omega)).mono ?_; rintro e w6 ⟨a6, c6, rfl, hown6, hgr6⟩; rw [HSB.out] at hown6 ⊢; have hc6 : Chg [] w5 w6 := Chg.of_grown hgr6 (by simp); have HC6 := Lib.hid (HC5.out.trans hc6); have v6 : (convert 22 9 (.slice a6 σ.b.length c6)).run Try.prog w6 = .ok (.string (sb σ.b)) w6 := conv_own (S := []) rfl hown6 (Chg.refl _ _) (by simp); have v7 : (convert 22 9 (.slice a5 σ.b.length c5)).run Try.prog w6 = .ok (.string (sb σ.b)) w6 := conv_own (S := []) rfl HO5.out hc6 (by simp); clear hown6 hgr6 hc6
      go_wp2_with fail
      refine hK.out _ _ ?_ (fun hHeld => ?_)
      · exact ⟨v7, HC6.out⟩
      clear hK K
      try simp only [Act.put, List.setIfInBounds_toArray, List.set_cons_zero, List.set_cons_succ]
      refine wpAnyH_weaken (S := fun w' => (convert 22 9 (.slice a5 σ.b.length c5)).run Try.prog w' = .ok (.string (sb σ.b)) w' ∧ (convert 22 9 (.slice a6 σ.b.length c6)).run Try.prog w' = .ok (.string (sb σ.b)) w' ∧ Chg [] wx w') (fun w' h => ⟨h.1, h.2.2⟩) ?_
      have hHeld : (fun w' => (convert 22 9 (.slice a5 σ.b.length c5)).run Try.prog w' = .ok (.string (sb σ.b)) w' ∧ (convert 22 9 (.slice a6 σ.b.length c6)).run Try.prog w' = .ok (.string (sb σ.b)) w' ∧ Chg [] wx w') w6 := ⟨v7, v6, HC6.out⟩
      refine wpAnyH_take (i := 12) (oi := ?oi19) (v := ?v19) ?hi19 (by kernel_rfl) (by kernel_rfl) (by kernel_rfl) ?hQ19 (Or.inl ⟨?hw19, ?hy19⟩) (by assumption) ?hr19
      case hi19 => simp only [List.getElem?_toArray, List.getElem?_cons_succ, List.getElem?_cons_zero]; rfl
      case hQ19 => exact fun _ _ _ h => h
      case hw19 => rfl
      case hy19 => intro w hSw; (try dsimp only at hSw); go_simp; (try with_reducible rfl)
      case hr19 =>
      simp only [Act.put, List.setIfInBounds_toArray, List.set_cons_zero, List.set_cons_succ]
      refine wpAnyH_take (i := 13) (oi := ?oi20) (v := ?v20) ?hi20 (by kernel_rfl) (by kernel_rfl) (by kernel_rfl) ?hQ20 (Or.inl ⟨?hw20, ?hy20⟩) (by assumption) ?hr20
      case hi20 => simp only [List.getElem?_toArray, List.getElem?_cons_succ, List.getElem?_cons_zero]; rfl
      case hQ20 => exact fun _ _ _ h => h
      case hw20 => rfl
      case hy20 => intro w hSw; (try dsimp only at hSw); go_simp; (try with_reducible rfl)
      case hr20 =>
      simp only [Act.put, List.setIfInBounds_toArray, List.set_cons_zero, List.set_cons_succ]
      refine wpAnyH_take (i := 14) (oi := ?oi21) (v := ?v21) ?hi21 (by kernel_rfl) (by kernel_rfl) (by kernel_rfl) ?hQ21 (Or.inl ⟨?hw21, ?hy21⟩) (by assumption) ?hr21
      case hi21 => simp only [List.getElem?_toArray, List.getElem?_cons_succ, List.getElem?_cons_zero]; rfl
      case hQ21 => exact fun _ _ _ h => h
      case hw21 => rfl
      case hy21 => intro w hSw; (try dsimp only at hSw); go_simp; (try with_reducible rfl)
      case hr21 =>
      simp only [Act.put, List.setIfInBounds_toArray, List.set_cons_zero, List.set_cons_succ]
      refine wpAnyH_take (i := 15) (oi := ?oi22) (v := ?v22) ?hi22 (by kernel_rfl) (by kernel_rfl) (by kernel_rfl) ?hQ22 (Or.inl ⟨?hw22, ?hy22⟩) (by assumption) ?hr22
      case hi22 => simp only [List.getElem?_toArray, List.getElem?_cons_succ, List.getElem?_cons_zero]; rfl
      case hQ22 => exact fun _ _ _ h => h
      case hw22 => rfl
      case hy22 => intro w hSw; (try dsimp only at hSw); go_simp; (try with_reducible rfl)
      case hr22 =>
      simp only [Act.put, List.setIfInBounds_toArray, List.set_cons_zero, List.set_cons_succ]
      refine wpAnyH_take (i := 16) (oi := ?oi23) (v := ?v23) ?hi23 (by kernel_rfl) (by kernel_rfl) (by kernel_rfl) ?hQ23 (Or.inl ⟨?hw23, ?hy23⟩) (by assumption) ?hr23
      case hi23 => simp only [List.getElem?_toArray, List.getElem?_cons_succ, List.getElem?_cons_zero]; rfl
      case hQ23 => exact fun _ _ _ h => h
      case hw23 => rfl
      case hy23 => intro w hSw; (try dsimp only at hSw); go_simp; (try with_reducible rfl)
      case hr23 =>
      simp only [Act.put, List.setIfInBounds_toArray, List.set_cons_zero, List.set_cons_succ]
      refine wpAnyH_take (i := 18) (oi := ?oi24) (v := ?v24) ?hi24 (by kernel_rfl) (by kernel_rfl) (by kernel_rfl) ?hQ24 (Or.inl ⟨?hw24, ?hy24⟩) (by assumption) ?hr24
      case hi24 => simp only [List.getElem?_toArray, List.getElem?_cons_succ, List.getElem?_cons_zero]; rfl
      case hQ24 => exact fun _ _ _ h => h
      case hw24 => rfl
      case hy24 => intro w hSw; (try dsimp only at hSw); go_simp; (try with_reducible rfl)
      case hr24 =>
      simp only [Act.put, List.setIfInBounds_toArray, List.set_cons_zero, List.set_cons_succ]
      refine wpAnyH_ready (rs := [17]) (by kernel_rfl) (by simp) (AllReadyH.cons (o := ?oc25) ?hc25 (fun K hK => ?hs25) AllReadyH.nil)
      case hc25 => simp only [List.getElem?_toArray, List.getElem?_cons_succ, List.getElem?_cons_zero]; rfl
      case hs25 =>
      rw [if_pos (by rfl)]
      go_simp
      go_at_call 33; refine (sinkLen _ W.heap.size p f1 o1 σ (HSA.out.chg (S := []) HC6.out (by simp) (by simp) (by simp))).mono ?_; rintro e w7 ⟨rfl, rfl⟩
      go_wp2_with fail
      refine hK.out _ _ ?_ (fun hHeld => ?_)
      · exact ⟨v7, v6, HC6.out⟩
      clear hK K
      try simp only [Act.put, List.setIfInBounds_toArray, List.set_cons_zero, List.set_cons_succ]
      refine wpAnyH_ready (rs := [19]) (by kernel_rfl) (by simp) (AllReadyH.cons (o := ?oc26) ?hc26 (fun K hK => ?hs26) AllReadyH.nil)
      case hc26 => simp only [List.getElem?_toArray, List.getElem?_cons_succ, List.getElem?_cons_zero]; rfl
      case hs26 =>
      rw [if_pos (by rfl)]
      go_simp
      go_at_call 33; refine (sinkLen _ W.heap.size q f2 o2 σ2 (HTA.out.chg (S := []) HC6.out (by simp) (by simp) (by simp))).mono ?_; rintro e w8 ⟨rfl, rfl⟩; rw [HSB.out]
      go_wp2_with fail
      refine hK.out _ _ ?_ (fun hHeld => ?_)
      · exact ⟨v7, v6, HC6.out⟩
      clear hK K
      try simp only [Act.put, List.setIfInBounds_toArray, List.set_cons_zero, List.set_cons_succ]
      refine wpAnyH_take (i := 20) (oi := ?oi27) (v := ?v27) ?hi27 (by kernel_rfl) (by kernel_rfl) (by kernel_rfl) ?hQ27 (Or.inl ⟨?hw27, ?hy27⟩) (by assumption) ?hr27
      case hi27 => simp only [List.getElem?_toArray, List.getElem?_cons_succ, List.getElem?_cons_zero]; rfl
      case hQ27 => exact fun _ _ _ h => h
      case hw27 => rfl
      case hy27 => intro w hSw; (try dsimp only at hSw); go_simp; (try with_reducible rfl)
      case hr27 =>
      simp only [Act.put, List.setIfInBounds_toArray, List.set_cons_zero, List.set_cons_succ]
      refine wpAnyH_take (i := 21) (oi := ?oi28) (v := ?v28) ?hi28 (by kernel_rfl) (by kernel_rfl) (by kernel_rfl) ?hQ28 (Or.inl ⟨?hw28, ?hy28⟩) (by assumption) ?hr28
      case hi28 => simp only [List.getElem?_toArray, List.getElem?_cons_succ, List.getElem?_cons_zero]; rfl
      case hQ28 => exact fun _ _ _ h => h
      case hw28 => rfl
      case hy28 => intro w hSw; (try dsimp only at hSw); go_simp; (try with_reducible rfl)
      case hr28 =>
      simp only [Act.put, List.setIfInBounds_toArray, List.set_cons_zero, List.set_cons_succ]
      refine wpAnyH_take (i := 22) (oi := ?oi29) (v := ?v29) ?hi29 (by kernel_rfl) (by kernel_rfl) (by kernel_rfl) ?hQ29 (Or.inl ⟨?hw29, ?hy29⟩) (by assumption) ?hr29
      case hi29 => simp only [List.getElem?_toArray, List.getElem?_cons_succ, List.getElem?_cons_zero]; rfl
      case hQ29 => exact fun _ _ _ h => h
      case hw29 => rfl
      case hy29 => intro w hSw; (try dsimp only at hSw); go_simp; (try with_reducible rfl)
      case hr29 =>
      simp only [Act.put, List.setIfInBounds_toArray, List.set_cons_zero, List.set_cons_succ]
      refine wpAnyH_done (by kernel_rfl) ?_ _
      go_wp2_with fail
      go_ret
      exact ⟨rfl, (HC.out.trans HKW.out).trans HC6.out⟩
end Go.Proofs.Ytljlcigbehgohaa
