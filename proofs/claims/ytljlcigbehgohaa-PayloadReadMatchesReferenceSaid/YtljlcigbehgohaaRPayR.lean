/- paxtarref11: Blocks, Read. -/
import Derived.Test.YtljlcigbehgohaaPayT
import Derived.Test.YtljlcigbehgohaaRBlkR
namespace Go.Proofs.Ytljlcigbehgohaa
open Go.RowKit Go.Pax

set_option maxHeartbeats 400000 in
theorem rpayBlocks (w : World) (n : Int) (h : -9223372036854775808 ≤ n ∧ n ≤ 9223372036854775807) :
    Calls Try.prog 57 #[.int .i64 n] w fun e w' => e = .returned (.int .i64 (if n ≤ 0 then 0 else (n - 1) / 512 + 1)) ∧ w' = w := by
  obtain ⟨h0, h1⟩ := h
  by_cases hn : n < 0
  · rw [if_pos (by omega)]
    go_enter Try.func57, Try.ntmps57
    go_wp2
    go_ret
    exact ⟨rfl, rfl⟩
  · by_cases hm : n % 512 = 0
    · have hmb : ((n : Int) % 512 == 0) = true := by simpa using hm
      have hv : (if n ≤ 0 then 0 else (n - 1) / 512 + 1) = n / 512 := by split <;> omega
      rw [hv]
      clear hv
      go_enter Try.func57, Try.ntmps57
      go_wp2
      go_ret
      exact ⟨rfl, rfl⟩
    · have hmb : ((n : Int) % 512 == 0) = false := by simpa using hm
      have hv : (if n ≤ 0 then 0 else (n - 1) / 512 + 1) = n / 512 + 1 := by split <;> omega
      rw [hv]
      clear hv
      go_enter Try.func57, Try.ntmps57
      go_wp2
      go_ret
      exact ⟨rfl, rfl⟩

set_option maxRecDepth 100000 in
set_option maxHeartbeats 1000000 in
theorem rpayRead_range (w : World) (r p : Nat) (fp : List Nat) (err : Int) (ρ : RSrc) (size : Int) (h : RRdrAt w r p fp err ρ) (hs : size < 0 ∨ 1099511627776 < size) :
    Calls Try.prog 56 #[.pointer (some ⟨r, 0, none⟩), .int .i64 size] w fun e w' => e = .returned (.tuple #[.slice none 0 0, .int .i64 ρ.off, .int .i64 3]) ∧ Chg [] w w' := by
  have c1 := cell_heap h.blk 1 rfl
  clear h
  rcases hs with h0 | h0
  · go_enter Try.func56, Try.ntmps56
    go_upto_region 2 with (fail)
    go_quiet (fail)
    go_wp2_with fail
    go_ret3
    exact ⟨rfl, (Chg.refl _ _).drewN _⟩
  · have h1 : ¬ size < 0 := by omega
    go_enter Try.func56, Try.ntmps56
    go_upto_region 2 with (fail)
    go_quiet (fail)
    go_wp2_with fail
    go_ret3
    exact ⟨rfl, (Chg.refl _ _).drewN _⟩

set_option maxRecDepth 100000 in
set_option maxHeartbeats 2000000 in
theorem rpayRead_zero (w : World) (r p : Nat) (fp : List Nat) (err : Int) (ρ : RSrc) (h : RRdrAt w r p fp err ρ) :
    Calls Try.prog 56 #[.pointer (some ⟨r, 0, none⟩), .int .i64 0] w fun e w' => Got3 w w' e ([], ρ.off, 0) ∧ RRdrAt w' r p fp err ρ ∧ Chg [r, p] w w' := by
  have c1 := cell_heap h.blk 1 rfl
  have H := Lib.hid h
  clear h
  generalize hOF : ρ.off = o0 at *
  have HOF := Lib.hid hOF
  clear hOF
  go_enter Try.func56, Try.ntmps56
  go_wp2_with fail
  go_loopw [8] (fun v wr => v = .slice none 0 0 ∧ wr = w) (fun _ _ => 0)
  case atStart => exact ⟨rfl, rfl⟩
  case round =>
  obtain ⟨rfl, hwr⟩ := hrel
  obtain rfl := hwr.symm
  go_wp2_with fail
  go_loopw [11] (fun m wr => m = .int .i64 0 ∧ wr = w) (fun _ _ => 0)
  case atStart => exact ⟨rfl, rfl⟩
  case round =>
  obtain ⟨rfl, hwr⟩ := hrel
  obtain rfl := hwr.symm
  go_upto_region 17 with (fail)
  refine wp_region_held_drew (S := fun w' => w'.cell? ⟨r, 1, none⟩ = some (.int .i64 o0) ∧ Chg [] w w') (by kernel_rfl) ?_ (fun hHeld => ?_)
  · exact ⟨by simp [*], (Chg.refl _ _).drew⟩
  refine wpAnyH_take (i := 0) (oi := ?oi1) (v := ?v1) ?hi1 (by kernel_rfl) (by kernel_rfl) (by kernel_rfl) ?hQ1 (Or.inl ⟨?hw1, ?hy1⟩) (by assumption) ?hr1
  case hi1 => simp only [List.getElem?_toArray, List.getElem?_cons_zero]; rfl
  case hQ1 => exact fun _ _ _ h => h
  case hw1 => rfl
  case hy1 => intro w hSw; (try dsimp only at hSw); go_simp; (try with_reducible rfl)
  case hr1 =>
  simp only [Act.put, List.setIfInBounds_toArray, List.set_cons_zero, List.set_cons_succ]
  refine wpAnyH_take (i := 1) (oi := ?oi2) (v := ?v2) ?hi2 (by kernel_rfl) (by kernel_rfl) (by kernel_rfl) ?hQ2 (Or.inl ⟨?hw2, ?hy2⟩) (by assumption) ?hr2
  case hi2 => simp only [List.getElem?_toArray, List.getElem?_cons_succ, List.getElem?_cons_zero]; rfl
  case hQ2 => exact fun _ _ _ h => h
  case hw2 => rfl
  case hy2 => intro w hSw; (try dsimp only at hSw); go_simp; (try with_reducible rfl)
  case hr2 =>
  simp only [Act.put, List.setIfInBounds_toArray, List.set_cons_zero, List.set_cons_succ]
  refine wpAnyH_take (i := 2) (oi := ?oi3) (v := ?v3) ?hi3 (by kernel_rfl) (by kernel_rfl) (by kernel_rfl) ?hQ3 (Or.inl ⟨?hw3, ?hy3⟩) (by assumption) ?hr3
  case hi3 => simp only [List.getElem?_toArray, List.getElem?_cons_succ, List.getElem?_cons_zero]; rfl
  case hQ3 => exact fun _ _ _ h => h
  case hw3 => rfl
  case hy3 => intro w hSw; (try dsimp only at hSw); go_simp; (try with_reducible rfl)
  case hr3 =>
  simp only [Act.put, List.setIfInBounds_toArray, List.set_cons_zero, List.set_cons_succ]
  refine wpAnyH_take (i := 3) (oi := ?oi4) (v := ?v4) ?hi4 (by kernel_rfl) (by kernel_rfl) (by kernel_rfl) ?hQ4 (Or.inl ⟨?hw4, ?hy4⟩) (by assumption) ?hr4
  case hi4 => simp only [List.getElem?_toArray, List.getElem?_cons_succ, List.getElem?_cons_zero]; rfl
  case hQ4 => exact fun _ _ _ h => h
  case hw4 => rfl
  case hy4 => intro w hSw; (try dsimp only at hSw); go_simp; (try with_reducible rfl)
  case hr4 =>
  simp only [Act.put, List.setIfInBounds_toArray, List.set_cons_zero, List.set_cons_succ]
  refine wpAnyH_take (i := 4) (oi := ?oi5) (v := ?v5) ?hi5 (by kernel_rfl) (by kernel_rfl) (by kernel_rfl) ?hQ5 (Or.inl ⟨?hw5, ?hy5⟩) (by assumption) ?hr5
  case hi5 => simp only [List.getElem?_toArray, List.getElem?_cons_succ, List.getElem?_cons_zero]; rfl
  case hQ5 => exact fun _ _ _ h => h
  case hw5 => rfl
  case hy5 => intro w hSw; (try dsimp only at hSw); go_simp; (try with_reducible rfl)
  case hr5 =>
  simp only [Act.put, List.setIfInBounds_toArray, List.set_cons_zero, List.set_cons_succ]
  refine wpAnyH_take (i := 5) (oi := ?oi6) (v := ?v6) ?hi6 (by kernel_rfl) (by kernel_rfl) (by kernel_rfl) ?hQ6 (Or.inl ⟨?hw6, ?hy6⟩) (by assumption) ?hr6
  case hi6 => simp only [List.getElem?_toArray, List.getElem?_cons_succ, List.getElem?_cons_zero]; rfl
  case hQ6 => exact fun _ _ _ h => h
  case hw6 => rfl
  case hy6 => intro w hSw; (try dsimp only at hSw); go_simp; (try with_reducible rfl)
  case hr6 =>
  simp only [Act.put, List.setIfInBounds_toArray, List.set_cons_zero, List.set_cons_succ]
  refine wpAnyH_take (i := 6) (oi := ?oi7) (v := ?v7) ?hi7 (by kernel_rfl) (by kernel_rfl) (by kernel_rfl) ?hQ7 (Or.inl ⟨?hw7, ?hy7⟩) (by assumption) ?hr7
  case hi7 => simp only [List.getElem?_toArray, List.getElem?_cons_succ, List.getElem?_cons_zero]; rfl
  case hQ7 => exact fun _ _ _ h => h
  case hw7 => rfl
  case hy7 => intro w hSw; (try dsimp only at hSw); go_simp; (try with_reducible rfl)
  case hr7 =>
  simp only [Act.put, List.setIfInBounds_toArray, List.set_cons_zero, List.set_cons_succ]
  refine wpAnyH_take (i := 7) (oi := ?oi8) (v := ?v8) ?hi8 (by kernel_rfl) (by kernel_rfl) (by kernel_rfl) ?hQ8 (Or.inl ⟨?hw8, ?hy8⟩) (by assumption) ?hr8
  case hi8 => simp only [List.getElem?_toArray, List.getElem?_cons_succ, List.getElem?_cons_zero]; rfl
  case hQ8 => exact fun _ _ _ h => h
  case hw8 => rfl
  case hy8 => intro w hSw; (try dsimp only at hSw); go_simp; (try with_reducible rfl)
  case hr8 =>
  simp only [Act.put, List.setIfInBounds_toArray, List.set_cons_zero, List.set_cons_succ]
  refine wpAnyH_take (i := 8) (oi := ?oi9) (v := ?v9) ?hi9 (by kernel_rfl) (by kernel_rfl) (by kernel_rfl) ?hQ9 (Or.inl ⟨?hw9, ?hy9⟩) (by assumption) ?hr9
  case hi9 => simp only [List.getElem?_toArray, List.getElem?_cons_succ, List.getElem?_cons_zero]; rfl
  case hQ9 => exact fun _ _ _ h => h
  case hw9 => rfl
  case hy9 => intro w hSw; (try dsimp only at hSw); go_simp; (try with_reducible rfl)
  case hr9 =>
  simp only [Act.put, List.setIfInBounds_toArray, List.set_cons_zero, List.set_cons_succ]
  refine wpAnyH_take (i := 9) (oi := ?oi10) (v := ?v10) ?hi10 (by kernel_rfl) (by kernel_rfl) (by kernel_rfl) ?hQ10 (Or.inl ⟨?hw10, ?hy10⟩) (by assumption) ?hr10
  case hi10 => simp only [List.getElem?_toArray, List.getElem?_cons_succ, List.getElem?_cons_zero]; rfl
  case hQ10 => exact fun _ _ _ h => h
  case hw10 => rfl
  case hy10 => intro w hSw; (try dsimp only at hSw); go_simp; (try with_reducible rfl)
  case hr10 =>
  simp only [Act.put, List.setIfInBounds_toArray, List.set_cons_zero, List.set_cons_succ]
  refine wpAnyH_done (by kernel_rfl) ?_ _
  go_wp2_with fail
  go_ret3
  exact ⟨Got3.nil rfl, H.out.chg (S := []) hHeld.2 (by simp) (by simp) (by simp), hHeld.2.mono (by simp)⟩

set_option maxRecDepth 100000 in
set_option maxHeartbeats 2000000 in
theorem rpayRead_err (w : World) (r p : Nat) (fp : List Nat) (err : Int) (ρ : RSrc) (S : Nat) (h : RRdrAt w r p fp err ρ) (hok : ρ.Ok) (hp : p ∉ fp) (he : err ≠ 0) (hS0 : 1 ≤ S) (hS : S ≤ 1099511627776) :
    Calls Try.prog 56 #[.pointer (some ⟨r, 0, none⟩), .int .i64 S] w fun e w' => Got3 w w' e ([], ρ.off, if err = 4 then 5 else err) ∧ RRdrAt w' r p fp err ρ ∧ Chg [r, p] w w' := by
  have hst := rreaderNext w r p fp err ρ h hok hp
  rw [rdNext_err he] at hst
  have c1 := cell_heap h.blk 1 rfl
  have H := Lib.hid h
  have HST := Lib.hid hst
  have hb0 : (err == 0) = false := by simpa using he
  clear h hok hp hst he
  by_cases he4 : err = 4
  · subst he4
    rw [if_pos rfl]
    go_enter Try.func56, Try.ntmps56
    go_wp2_with fail
    go_loopw [8] (fun v wr => v = .slice none 0 0 ∧ wr = w) (fun _ _ => 0)
    case atStart => exact ⟨rfl, rfl⟩
    case round =>
    obtain ⟨rfl, hwr⟩ := hrel
    obtain rfl := hwr.symm
    go_upto_region 10 with (go_at_call 45; refine HST.out.mono ?_; rintro e w2 ⟨⟨a2, c2, rfl, hown2⟩, hs2, hk2⟩; have HS2 := Lib.hid hs2; have HK2 := Lib.hid hk2; clear hown2 hs2 hk2)
    have c2 := cell_heap HS2.out.blk 1 rfl
    go_quiet (fail)
    go_wp2_with fail
    go_ret3
    exact ⟨Got3.nil rfl, HS2.out.chg (S := []) ((Chg.refl _ _).drewN _) (by simp) (by simp) (by simp), HK2.out.drewN _⟩
  · have hb4 : (err == 4) = false := by simpa using he4
    rw [if_neg he4]
    clear he4
    go_enter Try.func56, Try.ntmps56
    go_wp2_with fail
    go_loopw [8] (fun v wr => v = .slice none 0 0 ∧ wr = w) (fun _ _ => 0)
    case atStart => exact ⟨rfl, rfl⟩
    case round =>
    obtain ⟨rfl, hwr⟩ := hrel
    obtain rfl := hwr.symm
    go_upto_region 10 with (go_at_call 45; refine HST.out.mono ?_; rintro e w2 ⟨⟨a2, c2, rfl, hown2⟩, hs2, hk2⟩; have HS2 := Lib.hid hs2; have HK2 := Lib.hid hk2; clear hown2 hs2 hk2)
    have c2 := cell_heap HS2.out.blk 1 rfl
    go_quiet (fail)
    go_wp2_with fail
    go_ret3
    exact ⟨Got3.nil rfl, HS2.out.chg (S := []) ((Chg.refl _ _).drewN _) (by simp) (by simp) (by simp), HK2.out.drewN _⟩

/-- The loop of the reference's Read. -/
def RPLoop (w wr : World) (r p N : Nat) (fp : List Nat) (ρ : RSrc) (v : Value) : Prop :=
  ∃ (n : Nat) (acc : List UInt8) (ρ' : RSrc) (ao : Option Addr) (cap : Nat), v = .slice ao acc.length cap ∧ n ≤ N ∧ acc.length + 512 * n = 512 * N ∧ (acc.length : Int) = ρ'.off - ρ.off ∧ ρ'.Ok ∧ ρ'.b = ρ.b ∧
    rdLoop N [] ρ = rdLoop n acc ρ' ∧ wr.ownsRow w.heap.size 5 1 (.slice ao acc.length cap) acc.length (bv acc) ∧ RRdrAt wr r p fp 0 ρ' ∧ Chg [r, p] w wr

set_option maxRecDepth 100000 in
set_option maxHeartbeats 4000000 in
theorem rpayRead0 (w : World) (r p : Nat) (fp : List Nat) (ρ : RSrc) (S : Nat) (h : RRdrAt w r p fp 0 ρ) (hok : ρ.Ok) (hp : p ∉ fp) (hfp : ∀ k ∈ fp, k < w.heap.size) (hS0 : 1 ≤ S) (hS : S ≤ 1099511627776) :
    Calls Try.prog 56 #[.pointer (some ⟨r, 0, none⟩), .int .i64 S] w fun e w' => Got3 w w' e (payRd 0 ρ S).1 ∧ RRdrAt w' r p fp (payRd 0 ρ S).2.1 (payRd 0 ρ S).2.2 ∧ Chg [r, p] w w' := by
  have hpr : payRd 0 ρ S = payEnd ρ.off S (rdLoop (blocksOf S) [] ρ) := by
    unfold payRd
    rw [if_neg (by omega), if_neg (by omega), if_neg (by omega)]
  rw [hpr]
  have hbn : S ≤ 512 * blocksOf S ∧ 512 * blocksOf S < S + 512 := by unfold blocksOf; split <;> omega
  generalize blocksOf S = N at *
  obtain ⟨hbn0, hbn1⟩ := hbn
  have hrl := h.lt
  have hpl : p < w.heap.size := h.s.lt
  have c1 := cell_heap h.blk 1 rfl
  have H := Lib.hid h
  have HOK := Lib.hid hok
  have HP := Lib.hid hp
  have HFP := Lib.hid hfp
  have ho0 := hok.off0
  have hol : ρ.off ≤ 140737488355328 := by have h1 := hok.offl; have h2 := hok.blen; omega
  have hbL := hok.blen
  clear h hok hp hfp hpr
  obtain ⟨ib, hib, hib0, hib1, hib2⟩ := Try.infoB
  generalize hOF : ρ.off = o0 at *
  have HOF := Lib.hid hOF
  clear hOF
  go_enter Try.func56, Try.ntmps56
  go_wp2_with fail
  clear c1
  go_loopw [8] (fun v wr => RPLoop w wr r p N fp ρ v) (fun v _ => 512 * N - slen v)
  case atStart => exact ⟨N, [], ρ, none, 0, rfl, Nat.le_refl _, by simp, by rw [HOF.out]; simp, HOK.out, rfl, rfl, World.ownsRow_nil _ _ _ _, H.out, Chg.refl _ _⟩
  case round =>
    obtain ⟨n, acc, ρ', ao, cap, rfl, hnN, hal, hao, hok', hb', he, hown, hrd, hk⟩ := hrel
    rw [HOF.out] at hao
    have hol' : ρ'.off ≤ 140737488355328 := by have h1 := hok'.offl; rw [hb'] at h1; omega
    have HE := Lib.hid he
    have HO := Lib.hid hown
    have HRD := Lib.hid hrd
    have HK := Lib.hid hk
    have HOK' := Lib.hid hok'
    have HB' := Lib.hid hb'
    clear he hown hrd hk hok' hb'
    by_cases hn : n = 0
    · subst hn
      have hdl : (acc.drop S).length = acc.length - S := List.length_drop
      have hSA : S ≤ acc.length := by omega
      obtain ⟨hr0, hrb, hrc⟩ := own_rd2 HO.out
      have htk := hr0.take S
      rw [bv_take] at htk
      have hpo : padOut o0 S acc ρ'.off = if idxNZ (acc.drop S) = -1 then (acc.take S, ρ'.off, 0) else ([], o0 + S + idxNZ (acc.drop S), 10) := by unfold padOut; simp
      have HR0 := Lib.hid hr0
      have HPO := Lib.hid hpo
      have HTK := Lib.hid htk
      have HRB := Lib.hid hrb
      have HE0 : Hid (rdLoop N [] ρ = (0, acc, 0, ρ')) := Lib.hid HE.out
      have hSc : S ≤ cap := by omega
      have HAS : Hid ((acc.take S).length = S) := Lib.hid (by rw [List.length_take]; omega)
      have HDL := Lib.hid hdl
      have c9 := cell_heap HRD.out.blk 1 rfl
      clear hr0 hrb htk hpo hdl
      generalize hAL : acc.length = A at *
      have HAL := Lib.hid hAL
      clear hAL
      go_wp2_with fail
      obtain ⟨wz, hwz⟩ : ∃ wz : World, wz = wr := ⟨_, rfl⟩
      have HWZ := Lib.hid hwz
      clear hwz
      go_loopw [11] (fun m wq => ∃ j : Nat, S + j ≤ A ∧ m = .int .i64 (S + j : Nat) ∧ wq = wr ∧ ∀ t, (ht : t < (acc.drop S).length) → t < j → (acc.drop S)[t] = 0) (fun m _ => A - (intOf m).toNat)
      case atStart => exact ⟨0, by omega, rfl, rfl, by simp⟩
      case round =>
        obtain ⟨j, hj, rfl, hwq, hz⟩ := hrel
        obtain rfl := hwq.symm
        have HZ := Lib.hid hz
        clear hz
        by_cases hlt : S + j < A
        · have hkl : S + j < acc.length := by rw [HAL.out]; exact hlt
          obtain ⟨ad, had, _, hcell⟩ := HR0.out (S + j) _ (bv_get acc (S + j) hkl)
          subst had
          have hgd : (acc.drop S)[j]'(by rw [HDL.out]; omega) = acc[S + j] := by rw [List.getElem_drop]
          by_cases hv : acc[S + j] = 0
          · have hzz : ((acc[S + j].toNat : Int) == 0) = true := by rw [hv]; rfl
            have HV := Lib.hid (hgd.trans hv)
            clear hv hgd
            generalize hX : (acc[S + j].toNat : Int) = X at *
            clear hX
            go_wp2_with fail
            go_roundw
            case rel => exact ⟨j + 1, by omega, by go_num, trivial, fun t ht htj => by
              by_cases e : t = j
              · subst e; exact HV.out
              · exact HZ.out t ht (by omega)⟩
            case measure => simp [intOf]; omega
          · have hne : (acc[S + j].toNat : Int) ≠ 0 := by
              intro e
              apply hv
              apply UInt8.toNat_inj.1
              simpa using e
            have hzz : ((acc[S + j].toNat : Int) == 0) = false := by simpa using hne
            have hix : idxNZ (acc.drop S) = j := idxNZ_at (by rw [HDL.out]; omega) (fun t ht => HZ.out t (by rw [HDL.out]; omega) ht) (by rw [hgd]; exact hv)
            have HIX := Lib.hid hix
            clear hv hne hix hgd
            generalize hX : (acc[S + j].toNat : Int) = X at *
            clear hX
            go_wp2_with fail
            go_ret3
            rw [HE0.out, payEnd_ok, HPO.out, HIX.out, if_neg (by omega)]
            refine ⟨Got3.nil ?_, HRD.out, HK.out⟩
            rw [Int.add_assoc]
            rfl
        · have hjA : S + j = A := by omega
          have hix : idxNZ (acc.drop S) = -1 := idxNZ_none (fun t ht => HZ.out t ht (by rw [HDL.out] at ht; omega))
          have hpo : padOut o0 S acc ρ'.off = (acc.take S, ρ'.off, 0) := by rw [HPO.out, hix]; simp
          have HPO2 := Lib.hid hpo
          clear hix hpo
          rw [hjA]
          generalize hOF2 : ρ'.off = o2 at *
          go_upto_region 17 with (fail)
          refine wp_region_held_drew (S := fun w' => w'.cell? ⟨r, 1, none⟩ = some (.int .i64 o2) ∧ Chg [] wr w') (by kernel_rfl) ?_ (fun hHeld => ?_)
          · exact ⟨by simp [*], (Chg.refl _ _).drew⟩
          refine wpAnyH_take (i := 0) (oi := ?oi11) (v := ?v11) ?hi11 (by kernel_rfl) (by kernel_rfl) (by kernel_rfl) ?hQ11 (Or.inl ⟨?hw11, ?hy11⟩) (by assumption) ?hr11
          case hi11 => simp only [List.getElem?_toArray, List.getElem?_cons_zero]; rfl
          case hQ11 => exact fun _ _ _ h => h
          case hw11 => rfl
          case hy11 => intro w hSw; (try dsimp only at hSw); go_simp; (try with_reducible rfl)
          case hr11 =>
          simp only [Act.put, List.setIfInBounds_toArray, List.set_cons_zero, List.set_cons_succ]
          refine wpAnyH_take (i := 1) (oi := ?oi12) (v := ?v12) ?hi12 (by kernel_rfl) (by kernel_rfl) (by kernel_rfl) ?hQ12 (Or.inl ⟨?hw12, ?hy12⟩) (by assumption) ?hr12
          case hi12 => simp only [List.getElem?_toArray, List.getElem?_cons_succ, List.getElem?_cons_zero]; rfl
          case hQ12 => exact fun _ _ _ h => h
          case hw12 => rfl
          case hy12 => intro w hSw; (try dsimp only at hSw); go_simp; (try with_reducible rfl)
          case hr12 =>
          simp only [Act.put, List.setIfInBounds_toArray, List.set_cons_zero, List.set_cons_succ]
          refine wpAnyH_take (i := 2) (oi := ?oi13) (v := ?v13) ?hi13 (by kernel_rfl) (by kernel_rfl) (by kernel_rfl) ?hQ13 (Or.inl ⟨?hw13, ?hy13⟩) (by assumption) ?hr13
          case hi13 => simp only [List.getElem?_toArray, List.getElem?_cons_succ, List.getElem?_cons_zero]; rfl
          case hQ13 => exact fun _ _ _ h => h
          case hw13 => rfl
          case hy13 => intro w hSw; (try dsimp only at hSw); go_simp; (try with_reducible rfl)
          case hr13 =>
          simp only [Act.put, List.setIfInBounds_toArray, List.set_cons_zero, List.set_cons_succ]
          refine wpAnyH_take (i := 3) (oi := ?oi14) (v := ?v14) ?hi14 (by kernel_rfl) (by kernel_rfl) (by kernel_rfl) ?hQ14 (Or.inl ⟨?hw14, ?hy14⟩) (by assumption) ?hr14
          case hi14 => simp only [List.getElem?_toArray, List.getElem?_cons_succ, List.getElem?_cons_zero]; rfl
          case hQ14 => exact fun _ _ _ h => h
          case hw14 => rfl
          case hy14 => intro w hSw; (try dsimp only at hSw); go_simp; (try with_reducible rfl)
          case hr14 =>
          simp only [Act.put, List.setIfInBounds_toArray, List.set_cons_zero, List.set_cons_succ]
          refine wpAnyH_take (i := 4) (oi := ?oi15) (v := ?v15) ?hi15 (by kernel_rfl) (by kernel_rfl) (by kernel_rfl) ?hQ15 (Or.inl ⟨?hw15, ?hy15⟩) (by assumption) ?hr15
          case hi15 => simp only [List.getElem?_toArray, List.getElem?_cons_succ, List.getElem?_cons_zero]; rfl
          case hQ15 => exact fun _ _ _ h => h
          case hw15 => rfl
          case hy15 => intro w hSw; (try dsimp only at hSw); go_simp; (try with_reducible rfl)
          case hr15 =>
          simp only [Act.put, List.setIfInBounds_toArray, List.set_cons_zero, List.set_cons_succ]
          refine wpAnyH_take (i := 5) (oi := ?oi16) (v := ?v16) ?hi16 (by kernel_rfl) (by kernel_rfl) (by kernel_rfl) ?hQ16 (Or.inl ⟨?hw16, ?hy16⟩) (by assumption) ?hr16
          case hi16 => simp only [List.getElem?_toArray, List.getElem?_cons_succ, List.getElem?_cons_zero]; rfl
          case hQ16 => exact fun _ _ _ h => h
          case hw16 => rfl
          case hy16 => intro w hSw; (try dsimp only at hSw); go_simp; (try with_reducible rfl)
          case hr16 =>
          simp only [Act.put, List.setIfInBounds_toArray, List.set_cons_zero, List.set_cons_succ]
          refine wpAnyH_take (i := 6) (oi := ?oi17) (v := ?v17) ?hi17 (by kernel_rfl) (by kernel_rfl) (by kernel_rfl) ?hQ17 (Or.inl ⟨?hw17, ?hy17⟩) (by assumption) ?hr17
          case hi17 => simp only [List.getElem?_toArray, List.getElem?_cons_succ, List.getElem?_cons_zero]; rfl
          case hQ17 => exact fun _ _ _ h => h
          case hw17 => rfl
          case hy17 => intro w hSw; (try dsimp only at hSw); go_simp; (try with_reducible rfl)
          case hr17 =>
          simp only [Act.put, List.setIfInBounds_toArray, List.set_cons_zero, List.set_cons_succ]
          refine wpAnyH_take (i := 7) (oi := ?oi18) (v := ?v18) ?hi18 (by kernel_rfl) (by kernel_rfl) (by kernel_rfl) ?hQ18 (Or.inl ⟨?hw18, ?hy18⟩) (by assumption) ?hr18
          case hi18 => simp only [List.getElem?_toArray, List.getElem?_cons_succ, List.getElem?_cons_zero]; rfl
          case hQ18 => exact fun _ _ _ h => h
          case hw18 => rfl
          case hy18 => intro w hSw; (try dsimp only at hSw); go_simp; (try with_reducible rfl)
          case hr18 =>
          simp only [Act.put, List.setIfInBounds_toArray, List.set_cons_zero, List.set_cons_succ]
          refine wpAnyH_take (i := 8) (oi := ?oi19) (v := ?v19) ?hi19 (by kernel_rfl) (by kernel_rfl) (by kernel_rfl) ?hQ19 (Or.inl ⟨?hw19, ?hy19⟩) (by assumption) ?hr19
          case hi19 => simp only [List.getElem?_toArray, List.getElem?_cons_succ, List.getElem?_cons_zero]; rfl
          case hQ19 => exact fun _ _ _ h => h
          case hw19 => rfl
          case hy19 => intro w hSw; (try dsimp only at hSw); go_simp; (try with_reducible rfl)
          case hr19 =>
          simp only [Act.put, List.setIfInBounds_toArray, List.set_cons_zero, List.set_cons_succ]
          refine wpAnyH_take (i := 9) (oi := ?oi20) (v := ?v20) ?hi20 (by kernel_rfl) (by kernel_rfl) (by kernel_rfl) ?hQ20 (Or.inl ⟨?hw20, ?hy20⟩) (by assumption) ?hr20
          case hi20 => simp only [List.getElem?_toArray, List.getElem?_cons_succ, List.getElem?_cons_zero]; rfl
          case hQ20 => exact fun _ _ _ h => h
          case hw20 => rfl
          case hy20 => intro w hSw; (try dsimp only at hSw); go_simp; (try with_reducible rfl)
          case hr20 =>
          simp only [Act.put, List.setIfInBounds_toArray, List.set_cons_zero, List.set_cons_succ]
          refine wpAnyH_done (by kernel_rfl) ?_ _
          go_wp2_with fail
          go_ret3
          rw [HE0.out, payEnd_ok, hOF2, HPO2.out]
          exact ⟨Got3.of rfl HAS.out (HTK.out.chg (S := []) hHeld.2 (by simp)) (fun k hk => ⟨(HRB.out k hk).1, Nat.lt_of_lt_of_le (HRB.out k hk).2 hHeld.2.size⟩), HRD.out.chg (S := []) hHeld.2 (by simp) (by simp) (by simp), HK.out.trans (hHeld.2.mono (by simp))⟩
    · obtain ⟨n, rfl⟩ : ∃ m, n = m + 1 := ⟨n - 1, by omega⟩
      have hst := rreaderNext wr r p fp 0 ρ' HRD.out HOK'.out HP.out
      have hnx : rdLoop (n + 1) acc ρ' = if (rdNext 0 ρ').1 = 0 then rdLoop n (acc ++ (rdNext 0 ρ').2.1) (rdNext 0 ρ').2.2 else ((if (rdNext 0 ρ').1 = 4 then 5 else (rdNext 0 ρ').1), [], (rdNext 0 ρ').1, (rdNext 0 ρ').2.2) := rfl
      rw [hnx] at HE
      have hno := next_ok HOK'.out
      obtain ⟨hk1, hk2⟩ := next_keep HOK'.out
      have hwz := HK.out.size
      clear hnx
      generalize rdNext 0 ρ' = R at *
      obtain ⟨cd, bs, ρ2⟩ := R
      simp only at hst hno hk1 hk2 HE
      have hlS : acc.length < S := by omega
      by_cases hc0 : cd = 0
      · subst hc0
        obtain ⟨n1, n2, n3⟩ := hno rfl
        simp only [if_true] at HE
        have HST := Lib.hid hst
        have HN := Lib.hid (And.intro n1 n2)
        have HKK := Lib.hid (And.intro hk1 (hk2.trans HB'.out))
        clear hst hno n1 n2 n3 hk1 hk2
        generalize hAL : acc.length = A at *
        have HAL := Lib.hid hAL
        clear hAL
        go_upto_region 11 with (go_at_call 45; refine HST.out.mono ?_; rintro e w2 ⟨⟨a2, c2, rfl, hown2⟩, hs2, hk2⟩; rw [HN.out.1] at hown2 ⊢; have HS2 := Lib.hid hs2; have HK2 := Lib.hid hk2; have HO2 := Lib.hid hown2; clear hown2 hs2 hk2)
        have hrb := own_rd2 HO2.out
        have ho2 := own_keep HO.out HK2.out (fun g hg hm => by simp at hm; have h1 := (HO.out.lt _ (by simpa using hg)).1; omega)
        have HRB := Lib.hid hrb
        have HO' := Lib.hid ho2
        have HK02 := Lib.hid (HK.out.trans HK2.out)
        clear hrb ho2
        have hA : A ≤ 140737488355328 := by omega
        go_wp2_with (at_builtin; refine wpList_append_rd rfl (.tmp 44) (.tmp 45) 22 rfl w.heap.size 5 ib (.int .u8 0) 1 Try.underlying22 hib hib0 hib1 hib2 rfl (.slice ao A cap) A (bv acc) rfl HO'.out a2 512 c2 _ (bv bs) rfl (by rw [bv_length, HN.out.1]) HRB.out.1 (bv_one _) (by omega) (by unfold maxLen; omega) (by have := HK02.out.size; omega) ?_; intro a3 c3 w3 hown3 hgr3 hat3; have HO3 := Lib.hid hown3; have HG3 := Lib.hid hgr3; clear hown3 hgr3 hat3)
        have hog : ∀ g ∈ (Value.slice ao A cap).ownBlock.toList, w.heap.size ≤ g := fun g hg => (HO'.out.lt g (by simpa using hg)).1
        have k23 : Chg (Value.slice ao A cap).ownBlock.toList w2 w3 := (Chg.refl _ _).grown HG3.out (fun g hg _ => by simp [hg])
        have hrd3 := HS2.out.chg k23 (fun hm => by have := hog _ hm; omega) (fun hm => by have := hog _ hm; omega) (fun y hy hm => by have h1 := hog _ hm; have h2 := HFP.out y hy; omega)
        have hk03 : Chg [r, p] w w3 := HK02.out.trans' k23 (fun x hx _ => hx) (fun x hx hl => by have := hog x hx; omega)
        have HRD3 := Lib.hid hrd3
        have HK03 := Lib.hid hk03
        clear hog k23 hrd3 hk03
        go_roundw
        case rel =>
          have hlen : (acc ++ bs).length = A + 512 := by rw [List.length_append, HAL.out, HN.out.1]
          exact ⟨n, acc ++ bs, ρ2, a3, c3, by rw [hlen], by omega, by rw [hlen]; omega, by rw [hlen, HN.out.2, HOF.out]; omega, HKK.out.1, HKK.out.2, HE.out, by rw [hlen, bv_append]; exact HO3.out, HRD3.out, HK03.out⟩
        case measure => simp [slen]; omega
      · simp only [hc0, if_false] at HE
        by_cases hc4 : cd = 4
        · subst hc4
          simp only [if_true] at HE
          have HST := Lib.hid hst
          clear hst hno hk1 hk2 hc0
          generalize hAL : acc.length = A at *
          clear hAL
          go_upto_region 10 with (go_at_call 45; refine HST.out.mono ?_; rintro e w2 ⟨⟨a2, c2, rfl, hown2⟩, hs2, hk2⟩; have HS2 := Lib.hid hs2; have HK2 := Lib.hid hk2; clear hown2 hs2 hk2)
          have c2 := cell_heap HS2.out.blk 1 rfl
          go_quiet (fail)
          go_wp2_with fail
          go_ret3
          rw [HE.out, payEnd_err _ _ (by decide)]
          exact ⟨Got3.nil rfl, HS2.out.chg (S := []) ((Chg.refl _ _).drewN _) (by simp) (by simp) (by simp), (HK.out.trans HK2.out).drewN _⟩
        · simp only [hc4, if_false] at HE
          have hb0 : (cd == 0) = false := by simpa using hc0
          have hb4 : (cd == 4) = false := by simpa using hc4
          have HST := Lib.hid hst
          have HC0 := Lib.hid hc0
          clear hst hno hk1 hk2 hc0 hc4
          generalize hAL : acc.length = A at *
          clear hAL
          go_upto_region 10 with (go_at_call 45; refine HST.out.mono ?_; rintro e w2 ⟨⟨a2, c2, rfl, hown2⟩, hs2, hk2⟩; have HS2 := Lib.hid hs2; have HK2 := Lib.hid hk2; clear hown2 hs2 hk2)
          have c2 := cell_heap HS2.out.blk 1 rfl
          go_quiet (fail)
          go_wp2_with fail
          go_ret3
          rw [HE.out, payEnd_err _ _ HC0.out]
          exact ⟨Got3.nil rfl, HS2.out.chg (S := []) ((Chg.refl _ _).drewN _) (by simp) (by simp) (by simp), (HK.out.trans HK2.out).drewN _⟩

theorem rpayRead (w : World) (r p : Nat) (fp : List Nat) (err : Int) (ρ : RSrc) (size : Int) (h : RRdrAt w r p fp err ρ) (hok : ρ.Ok) (hp : p ∉ fp) :
    Calls Try.prog 56 #[.pointer (some ⟨r, 0, none⟩), .int .i64 size] w fun e w' => Got3 w w' e (payRd err ρ size).1 ∧ RRdrAt w' r p fp (payRd err ρ size).2.1 (payRd err ρ size).2.2 ∧ Chg [r, p] w w' := by
  by_cases h0 : size < 0 ∨ 1099511627776 < size
  · rw [show payRd err ρ size = (([], ρ.off, 3), err, ρ) from by unfold payRd; rw [if_pos h0]]
    refine (rpayRead_range w r p fp err ρ size h h0).mono ?_
    rintro e w' ⟨rfl, hk⟩
    exact ⟨Got3.nil rfl, h.chg hk (by simp) (by simp) (by simp), hk.mono (by simp)⟩
  obtain ⟨S, rfl⟩ : ∃ S : Nat, size = S := ⟨size.toNat, by omega⟩
  by_cases h1 : err ≠ 0 ∧ 0 < (S : Int)
  · rw [show payRd err ρ S = (([], ρ.off, if err = 4 then 5 else err), err, ρ) from by unfold payRd; rw [if_neg h0, if_pos h1]]
    exact rpayRead_err w r p fp err ρ S h hok hp h1.1 (by omega) (by omega)
  by_cases h2 : (S : Int) = 0
  · rw [show payRd err ρ S = (([], ρ.off, 0), err, ρ) from by unfold payRd; rw [if_neg h0, if_neg h1, if_pos h2], h2]
    exact rpayRead_zero w r p fp err ρ h
  have he : err = 0 := by
    by_cases he : err = 0
    · exact he
    · exact absurd ⟨he, by omega⟩ h1
  subst he
  obtain ⟨fq, hs, hq⟩ := h.s.tight
  refine (rpayRead0 w r p fq ρ S ⟨h.blk, hs, h.rp, fun hm => h.rf (hq r hm).1⟩ hok (fun hm => hp (hq p hm).1) (fun k hk => (hq k hk).2) (by omega) (by omega)).mono ?_
  rintro e w' ⟨g1, g2, g3⟩
  exact ⟨g1, ⟨g2.blk, g2.s.mono (fun k hk => (hq k hk).1) hp, g2.rp, h.rf⟩, g3⟩
end Go.Proofs.Ytljlcigbehgohaa
