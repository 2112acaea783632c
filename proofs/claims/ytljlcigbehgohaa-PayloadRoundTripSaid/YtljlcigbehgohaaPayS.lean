/- payload.Read. -/
import Derived.Test.YtljlcigbehgohaaPayR
namespace Go.Proofs.Ytljlcigbehgohaa
open Go.RowKit Go.Pax

/-- Bytes, an offset and an error; the bytes lie in new memory. -/
def Got3 (w w' : World) (e : Ending) (o : List UInt8 × Int × Int) : Prop :=
  ∃ ao cap fq, e = .returned (.tuple #[.slice ao o.1.length cap, .int .i64 o.2.1, .int .i64 o.2.2]) ∧ Rd w' fq ao (bv o.1) ∧ ∀ k ∈ fq, w.heap.size ≤ k ∧ k < w'.heap.size
theorem Got3.nil {w w' : World} {at_ code : Int} {e : Ending} (h : e = .returned (.tuple #[.slice none 0 0, .int .i64 at_, .int .i64 code])) : Got3 w w' e ([], at_, code) :=
  ⟨none, 0, [], h, Rd.nil _ _ _, by simp⟩

theorem Got3.of {w w' : World} {e : Ending} {bs : List UInt8} {at_ code : Int} {ao : Option Addr} {n cap : Nat} {fq : List Nat} (h : e = .returned (.tuple #[.slice ao n cap, .int .i64 at_, .int .i64 code])) (hn : bs.length = n) (hr : Rd w' fq ao (bv bs)) (hf : ∀ k ∈ fq, w.heap.size ≤ k ∧ k < w'.heap.size) : Got3 w w' e (bs, at_, code) := by
  subst hn; exact ⟨ao, cap, fq, h, hr, hf⟩

set_option maxHeartbeats 400000 in
theorem payRead_none (w : World) (n : Int) : Calls Try.prog 55 #[.pointer none, .int .i64 n] w fun e w' => e = .returned (.tuple #[.slice none 0 0, .int .i64 0, .int .i64 1]) ∧ w' = w := by
  go_enter Try.func55, Try.ntmps55
  go_wp2
  go_ret3
  exact ⟨rfl, rfl⟩

set_option maxRecDepth 100000 in
set_option maxHeartbeats 1000000 in
theorem payRead_range (w : World) (r p : Nat) (fp : List Nat) (err : Int) (ρ : RSrc) (size : Int) (h : RdrAt w r p fp err ρ) (hs : size < 0 ∨ 1099511627776 < size) :
    Calls Try.prog 55 #[.pointer (some ⟨r, 0, none⟩), .int .i64 size] w fun e w' => e = .returned (.tuple #[.slice none 0 0, .int .i64 ρ.off, .int .i64 3]) ∧ w' = w := by
  have H := Lib.hid h
  clear h
  rcases hs with h0 | h0
  · go_enter Try.func55, Try.ntmps55
    go_wp2_with (go_at_call 46; refine (readerOffset _ r p fp err ρ H.out).mono ?_; rintro e w' ⟨rfl, hww⟩; obtain rfl := hww.symm)
    go_ret3
    exact ⟨rfl, rfl⟩
  · have h1 : ¬ size < 0 := by omega
    go_enter Try.func55, Try.ntmps55
    go_wp2_with (go_at_call 46; refine (readerOffset _ r p fp err ρ H.out).mono ?_; rintro e w' ⟨rfl, hww⟩; obtain rfl := hww.symm)
    go_ret3
    exact ⟨rfl, rfl⟩

/-- The loop of payload.Read. -/
def PLoop (w wr : World) (r p N : Nat) (fp : List Nat) (ρ : RSrc) (v m : Value) : Prop :=
  ∃ (n : Nat) (acc : List UInt8) (ρ' : RSrc) (ao : Option Addr) (cap : Nat), m = .int .i64 n ∧ v = .slice ao acc.length cap ∧ n ≤ N ∧ acc.length + 512 * n = 512 * N ∧ (acc.length : Int) = ρ'.off - ρ.off ∧ ρ'.Ok ∧ ρ'.b = ρ.b ∧
    rdLoop N [] ρ = rdLoop n acc ρ' ∧ wr.ownsRow w.heap.size 5 1 (.slice ao acc.length cap) acc.length (bv acc) ∧ RdrAt wr r p fp 0 ρ' ∧ Chg [r, p] w wr
theorem next_keep {ρ : RSrc} (h : ρ.Ok) : (rdNext 0 ρ).2.2.Ok ∧ (rdNext 0 ρ).2.2.b = ρ.b := by
  rw [rdNext_ok]
  obtain ⟨i1, i2, _⟩ := nextF_is 512 [] ρ h (Nat.zero_le _) (Nat.le_add_left _ _)
  exact ⟨i1, i2⟩

set_option maxRecDepth 100000 in
set_option maxHeartbeats 4000000 in
theorem payRead0 (w : World) (r p : Nat) (fp : List Nat) (ρ : RSrc) (S : Nat) (h : RdrAt w r p fp 0 ρ) (hok : ρ.Ok) (hp : p ∉ fp) (hfp : ∀ k ∈ fp, k < w.heap.size) (hS0 : 1 ≤ S) (hS : S ≤ 1099511627776) :
    Calls Try.prog 55 #[.pointer (some ⟨r, 0, none⟩), .int .i64 S] w fun e w' => Got3 w w' e (payRd 0 ρ S).1 ∧ RdrAt w' r p fp (payRd 0 ρ S).2.1 (payRd 0 ρ S).2.2 ∧ Chg [r, p] w w' := by
  have hpr : payRd 0 ρ S = payEnd ρ.off S (rdLoop (blocksOf S) [] ρ) := by
    unfold payRd
    rw [if_neg (by omega), if_neg (by omega), if_neg (by omega)]
  rw [hpr]
  have hbl : (if (S : Int) ≤ 0 then 0 else ((S : Int) - 1) / 512 + 1) = (blocksOf S : Nat) := by unfold blocksOf; split <;> omega
  have hbn : S ≤ 512 * blocksOf S ∧ 512 * blocksOf S < S + 512 := by unfold blocksOf; split <;> omega
  have hpb := payBlocks w S (by omega)
  rw [hbl] at hpb
  generalize blocksOf S = N at *
  obtain ⟨hbn0, hbn1⟩ := hbn
  have hrl := h.lt
  have hpl := h.s.lt
  have H := Lib.hid h
  have HOK := Lib.hid hok
  have HP := Lib.hid hp
  have HFP := Lib.hid hfp
  have HPB := Lib.hid hpb
  have ho0 := hok.off0
  have hol : ρ.off ≤ 140737488355328 := by have h1 := hok.offl; have h2 := hok.blen; omega
  have hbL := hok.blen
  clear h hok hp hfp hpr hbl hpb
  obtain ⟨ib, hib, hib0, hib1, hib2⟩ := Try.infoB
  generalize hOF : ρ.off = o0 at *
  have HOF := Lib.hid hOF
  clear hOF
  go_enter Try.func55, Try.ntmps55
  go_upto_block 1 with (first
    | (go_at_call 46; refine (readerOffset _ r p fp 0 ρ H.out).mono ?_; rintro e w' ⟨rfl, hww⟩; obtain rfl := hww.symm; rw [HOF.out])
    | (go_at_call 40; refine HPB.out.mono ?_; rintro e w' ⟨rfl, hww⟩; obtain rfl := hww.symm))
  go_wp2_with fail
  go_loopw [8, 9] (fun v m wr => PLoop w wr r p N fp ρ v m) (fun _ m _ => (intOf m).toNat)
  case atStart => exact ⟨N, [], ρ, none, 0, rfl, rfl, Nat.le_refl _, by simp, by rw [HOF.out]; simp, HOK.out, rfl, rfl, World.ownsRow_nil _ _ _ _, H.out, Chg.refl _ _⟩
  case round =>
    obtain ⟨n, acc, ρ', ao, cap, rfl, rfl, hnN, hal, hao, hok', hb', he, hown, hrd, hk⟩ := hrel
    rw [HOF.out] at hao
    have hol' : ρ'.off ≤ 140737488355328 := by have h1 := hok'.offl; rw [hb'] at h1; omega
    have HE := Lib.hid he
    have HO := Lib.hid hown
    have HRD := Lib.hid hrd
    have HK := Lib.hid hk
    have HOK' := Lib.hid hok'
    have HB' := Lib.hid hb'
    clear he hown hrd hk hok' hb'
    by_cases hn : n = 0
    · subst hn
      have hdl : (acc.drop S).length = acc.length - S := List.length_drop
      have hSA : S ≤ acc.length := by omega
      obtain ⟨hr0, hrb, hrc⟩ := own_rd2 HO.out
      have hdr := hr0.drop S cap (by rw [bv_length]; exact hrc)
      rw [bv_drop] at hdr
      have htk := hr0.take S
      rw [bv_take] at htk
      have hix : ∀ ao' c' , ao' = cutA ao cap S → Calls Try.prog 65 #[.slice ao' (acc.length - S) c', Value.func (.func 66) #[] #[]] wr fun e w' => e = .returned (.int .i64 (idxNZ (acc.drop S))) ∧ w' = wr := fun ao' c' h => by
        have h2 := idxWalk wr ao' c' (acc.drop S) _ _ rfl (by rw [hdl]; omega) (by rw [h]; exact hdr)
        rw [hdl] at h2
        exact h2
      have hpo : padOut o0 S acc ρ'.off = if idxNZ (acc.drop S) = -1 then (acc.take S, ρ'.off, 0) else ([], o0 + S + idxNZ (acc.drop S), 10) := by unfold padOut; simp
      have HIX := Lib.hid hix
      have HPO := Lib.hid hpo
      have HTK := Lib.hid htk
      have HRB := Lib.hid hrb
      have HE0 : Hid (rdLoop N [] ρ = (0, acc, 0, ρ')) := Lib.hid HE.out
      have hSc : S ≤ cap := by omega
      have hways := idxNZ_ways (acc.drop S)
      rw [hdl] at hways
      have HAS : Hid ((acc.take S).length = S) := Lib.hid (by rw [List.length_take]; omega)
      clear hdl hr0 hrb hdr htk hix hpo
      generalize hAL : acc.length = A at *
      generalize idxNZ (acc.drop S) = I at *
      clear hAL
      rcases hways with ⟨rfl, -⟩ | ⟨K, hK, rfl⟩
      · by_cases hcT : cap = S
        · subst hcT
          have hi0 := HIX.out ao 0 (by unfold cutA; rw [if_pos rfl])
          rw [show A - cap = 0 by omega] at hi0
          have HI0 := Lib.hid hi0
          clear hi0
          go_upto_region 20 with (go_at_call 65; refine HI0.out.mono ?_; rintro e w' ⟨rfl, hww⟩; obtain rfl := hww.symm)
          refine wp_region_held_drew (S := fun w' => Chg [] wr w') (by kernel_rfl) ?_ (fun hHeld => ?_)
          · exact (Chg.refl _ _).drew
          refine wpAnyH_take (i := 0) (oi := ?oi1) (v := ?v1) ?hi1 (by kernel_rfl) (by kernel_rfl) (by kernel_rfl) ?hQ1 (Or.inl ⟨?hw1, ?hy1⟩) (by assumption) ?hr1
          case hi1 => simp only [List.getElem?_toArray, List.getElem?_cons_zero]; rfl
          case hQ1 => exact fun _ _ _ h => h
          case hw1 => rfl
          case hy1 => intro w hSw; (try dsimp only at hSw); go_simp; (try with_reducible rfl)
          case hr1 =>
          simp only [Act.put, List.setIfInBounds_toArray, List.set_cons_zero, List.set_cons_succ]
          refine wpAnyH_take (i := 1) (oi := ?oi2) (v := ?v2) ?hi2 (by kernel_rfl) (by kernel_rfl) (by kernel_rfl) ?hQ2 (Or.inl ⟨?hw2, ?hy2⟩) (by assumption) ?hr2
          case hi2 => simp only [List.getElem?_toArray, List.getElem?_cons_succ, List.getElem?_cons_zero]; rfl
          case hQ2 => exact fun _ _ _ h => h
          case hw2 => rfl
          case hy2 => intro w hSw; (try dsimp only at hSw); go_simp; (try with_reducible rfl)
          case hr2 =>
          simp only [Act.put, List.setIfInBounds_toArray, List.set_cons_zero, List.set_cons_succ]
          refine wpAnyH_take (i := 2) (oi := ?oi3) (v := ?v3) ?hi3 (by kernel_rfl) (by kernel_rfl) (by kernel_rfl) ?hQ3 (Or.inl ⟨?hw3, ?hy3⟩) (by assumption) ?hr3
          case hi3 => simp only [List.getElem?_toArray, List.getElem?_cons_succ, List.getElem?_cons_zero]; rfl
          case hQ3 => exact fun _ _ _ h => h
          case hw3 => rfl
          case hy3 => intro w hSw; (try dsimp only at hSw); go_simp; (try with_reducible rfl)
          case hr3 =>
          simp only [Act.put, List.setIfInBounds_toArray, List.set_cons_zero, List.set_cons_succ]
          refine wpAnyH_take (i := 3) (oi := ?oi4) (v := ?v4) ?hi4 (by kernel_rfl) (by kernel_rfl) (by kernel_rfl) ?hQ4 (Or.inl ⟨?hw4, ?hy4⟩) (by assumption) ?hr4
          case hi4 => simp only [List.getElem?_toArray, List.getElem?_cons_succ, List.getElem?_cons_zero]; rfl
          case hQ4 => exact fun _ _ _ h => h
          case hw4 => rfl
          case hy4 => intro w hSw; (try dsimp only at hSw); go_simp; (try with_reducible rfl)
          case hr4 =>
          simp only [Act.put, List.setIfInBounds_toArray, List.set_cons_zero, List.set_cons_succ]
          refine wpAnyH_ready (rs := [4]) (by kernel_rfl) (by simp) (AllReadyH.cons (o := ?oc5) ?hc5 (fun K hK => ?hs5) AllReadyH.nil)
          case hc5 => simp only [List.getElem?_toArray, List.getElem?_cons_succ, List.getElem?_cons_zero]; rfl
          case hs5 =>
          rw [if_pos (by rfl)]
          go_simp
          go_at_call 46; refine (readerOffset _ r p fp 0 ρ' (HRD.out.chg (S := []) hHeld (by simp) (by simp) (by simp))).mono ?_; rintro e w' ⟨rfl, hww⟩; obtain rfl := hww.symm
          go_wp2_with fail
          refine hK.out _ _ ?_ (fun hHeld => ?_)
          · exact hHeld
          clear hK K
          try simp only [Act.put, List.setIfInBounds_toArray, List.set_cons_zero, List.set_cons_succ]
          refine wpAnyH_take (i := 5) (oi := ?oi6) (v := ?v6) ?hi6 (by kernel_rfl) (by kernel_rfl) (by kernel_rfl) ?hQ6 (Or.inl ⟨?hw6, ?hy6⟩) (by assumption) ?hr6
          case hi6 => simp only [List.getElem?_toArray, List.getElem?_cons_succ, List.getElem?_cons_zero]; rfl
          case hQ6 => exact fun _ _ _ h => h
          case hw6 => rfl
          case hy6 => intro w hSw; (try dsimp only at hSw); go_simp; (try with_reducible rfl)
          case hr6 =>
          simp only [Act.put, List.setIfInBounds_toArray, List.set_cons_zero, List.set_cons_succ]
          refine wpAnyH_take (i := 6) (oi := ?oi7) (v := ?v7) ?hi7 (by kernel_rfl) (by kernel_rfl) (by kernel_rfl) ?hQ7 (Or.inl ⟨?hw7, ?hy7⟩) (by assumption) ?hr7
          case hi7 => simp only [List.getElem?_toArray, List.getElem?_cons_succ, List.getElem?_cons_zero]; rfl
          case hQ7 => exact fun _ _ _ h => h
          case hw7 => rfl
          case hy7 => intro w hSw; (try dsimp only at hSw); go_simp; (try with_reducible rfl)
          case hr7 =>
          simp only [Act.put, List.setIfInBounds_toArray, List.set_cons_zero, List.set_cons_succ]
          refine wpAnyH_take (i := 7) (oi := ?oi8) (v := ?v8) ?hi8 (by kernel_rfl) (by kernel_rfl) (by kernel_rfl) ?hQ8 (Or.inl ⟨?hw8, ?hy8⟩) (by assumption) ?hr8
          case hi8 => simp only [List.getElem?_toArray, List.getElem?_cons_succ, List.getElem?_cons_zero]; rfl
          case hQ8 => exact fun _ _ _ h => h
          case hw8 => rfl
          case hy8 => intro w hSw; (try dsimp only at hSw); go_simp; (try with_reducible rfl)
          case hr8 =>
          simp only [Act.put, List.setIfInBounds_toArray, List.set_cons_zero, List.set_cons_succ]
          refine wpAnyH_done (by kernel_rfl) ?_ _
          go_wp2_with fail
          go_ret3
          rw [HE0.out, payEnd_ok, show padOut o0 cap acc ρ'.off = (acc.take cap, ρ'.off, 0) from by simpa using HPO.out]
          exact ⟨Got3.of rfl HAS.out (HTK.out.chg (S := []) hHeld (by simp)) (fun k hk => ⟨(HRB.out k hk).1, Nat.lt_of_lt_of_le (HRB.out k hk).2 hHeld.size⟩), HRD.out.chg (S := []) hHeld (by simp) (by simp) (by simp), HK.out.trans (hHeld.mono (by simp))⟩
        · go_upto_region 20 with (go_at_call 65; refine (HIX.out _ _ (by unfold cutA; rw [if_neg hcT])).mono ?_; rintro e w' ⟨rfl, hww⟩; obtain rfl := hww.symm)
          refine wp_region_held_drew (S := fun w' => Chg [] wr w') (by kernel_rfl) ?_ (fun hHeld => ?_)
          · exact (Chg.refl _ _).drew
          refine wpAnyH_take (i := 0) (oi := ?oi9) (v := ?v9) ?hi9 (by kernel_rfl) (by kernel_rfl) (by kernel_rfl) ?hQ9 (Or.inl ⟨?hw9, ?hy9⟩) (by assumption) ?hr9
          case hi9 => simp only [List.getElem?_toArray, List.getElem?_cons_zero]; rfl
          case hQ9 => exact fun _ _ _ h => h
          case hw9 => rfl
          case hy9 => intro w hSw; (try dsimp only at hSw); go_simp; (try with_reducible rfl)
          case hr9 =>
          simp only [Act.put, List.setIfInBounds_toArray, List.set_cons_zero, List.set_cons_succ]
          refine wpAnyH_take (i := 1) (oi := ?oi10) (v := ?v10) ?hi10 (by kernel_rfl) (by kernel_rfl) (by kernel_rfl) ?hQ10 (Or.inl ⟨?hw10, ?hy10⟩) (by assumption) ?hr10
          case hi10 => simp only [List.getElem?_toArray, List.getElem?_cons_succ, List.getElem?_cons_zero]; rfl
          case hQ10 => exact fun _ _ _ h => h
          case hw10 => rfl
          case hy10 => intro w hSw; (try dsimp only at hSw); go_simp; (try with_reducible rfl)
          case hr10 =>
          simp only [Act.put, List.setIfInBounds_toArray, List.set_cons_zero, List.set_cons_succ]
          refine wpAnyH_take (i := 2) (oi := ?oi11) (v := ?v11) ?hi11 (by kernel_rfl) (by kernel_rfl) (by kernel_rfl) ?hQ11 (Or.inl ⟨?hw11, ?hy11⟩) (by assumption) ?hr11
          case hi11 => simp only [List.getElem?_toArray, List.getElem?_cons_succ, List.getElem?_cons_zero]; rfl
          case hQ11 => exact fun _ _ _ h => h
          case hw11 => rfl
          case hy11 => intro w hSw; (try dsimp only at hSw); go_simp; (try with_reducible rfl)
          case hr11 =>
          simp only [Act.put, List.setIfInBounds_toArray, List.set_cons_zero, List.set_cons_succ]
          refine wpAnyH_take (i := 3) (oi := ?oi12) (v := ?v12) ?hi12 (by kernel_rfl) (by kernel_rfl) (by kernel_rfl) ?hQ12 (Or.inl ⟨?hw12, ?hy12⟩) (by assumption) ?hr12
          case hi12 => simp only [List.getElem?_toArray, List.getElem?_cons_succ, List.getElem?_cons_zero]; rfl
          case hQ12 => exact fun _ _ _ h => h
          case hw12 => rfl
          case hy12 => intro w hSw; (try dsimp only at hSw); go_simp; (try with_reducible rfl)
          case hr12 =>
          simp only [Act.put, List.setIfInBounds_toArray, List.set_cons_zero, List.set_cons_succ]
          refine wpAnyH_ready (rs := [4]) (by kernel_rfl) (by simp) (AllReadyH.cons (o := ?oc13) ?hc13 (fun K hK => ?hs13) AllReadyH.nil)
          case hc13 => simp only [List.getElem?_toArray, List.getElem?_cons_succ, List.getElem?_cons_zero]; rfl
          case hs13 =>
          rw [if_pos (by rfl)]
          go_simp
          go_at_call 46; refine (readerOffset _ r p fp 0 ρ' (HRD.out.chg (S := []) hHeld (by simp) (by simp) (by simp))).mono ?_; rintro e w' ⟨rfl, hww⟩; obtain rfl := hww.symm
          go_wp2_with fail
          refine hK.out _ _ ?_ (fun hHeld => ?_)
          · exact hHeld
          clear hK K
          try simp only [Act.put, List.setIfInBounds_toArray, List.set_cons_zero, List.set_cons_succ]
          refine wpAnyH_take (i := 5) (oi := ?oi14) (v := ?v14) ?hi14 (by kernel_rfl) (by kernel_rfl) (by kernel_rfl) ?hQ14 (Or.inl ⟨?hw14, ?hy14⟩) (by assumption) ?hr14
          case hi14 => simp only [List.getElem?_toArray, List.getElem?_cons_succ, List.getElem?_cons_zero]; rfl
          case hQ14 => exact fun _ _ _ h => h
          case hw14 => rfl
          case hy14 => intro w hSw; (try dsimp only at hSw); go_simp; (try with_reducible rfl)
          case hr14 =>
          simp only [Act.put, List.setIfInBounds_toArray, List.set_cons_zero, List.set_cons_succ]
          refine wpAnyH_take (i := 6) (oi := ?oi15) (v := ?v15) ?hi15 (by kernel_rfl) (by kernel_rfl) (by kernel_rfl) ?hQ15 (Or.inl ⟨?hw15, ?hy15⟩) (by assumption) ?hr15
          case hi15 => simp only [List.getElem?_toArray, List.getElem?_cons_succ, List.getElem?_cons_zero]; rfl
          case hQ15 => exact fun _ _ _ h => h
          case hw15 => rfl
          case hy15 => intro w hSw; (try dsimp only at hSw); go_simp; (try with_reducible rfl)
          case hr15 =>
          simp only [Act.put, List.setIfInBounds_toArray, List.set_cons_zero, List.set_cons_succ]
          refine wpAnyH_take (i := 7) (oi := ?oi16) (v := ?v16) ?hi16 (by kernel_rfl) (by kernel_rfl) (by kernel_rfl) ?hQ16 (Or.inl ⟨?hw16, ?hy16⟩) (by assumption) ?hr16
          case hi16 => simp only [List.getElem?_toArray, List.getElem?_cons_succ, List.getElem?_cons_zero]; rfl
          case hQ16 => exact fun _ _ _ h => h
          case hw16 => rfl
          case hy16 => intro w hSw; (try dsimp only at hSw); go_simp; (try with_reducible rfl)
          case hr16 =>
          simp only [Act.put, List.setIfInBounds_toArray, List.set_cons_zero, List.set_cons_succ]
          refine wpAnyH_done (by kernel_rfl) ?_ _
          go_wp2_with fail
          go_ret3
          rw [HE0.out, payEnd_ok, show padOut o0 S acc ρ'.off = (acc.take S, ρ'.off, 0) from by simpa using HPO.out]
          exact ⟨Got3.of rfl HAS.out (HTK.out.chg (S := []) hHeld (by simp)) (fun k hk => ⟨(HRB.out k hk).1, Nat.lt_of_lt_of_le (HRB.out k hk).2 hHeld.size⟩), HRD.out.chg (S := []) hHeld (by simp) (by simp) (by simp), HK.out.trans (hHeld.mono (by simp))⟩
      · have hKi : (0 : Int) ≤ K := by omega
        by_cases hcT : cap = S
        · subst hcT
          exact absurd hK (by omega)
        · go_wp2_with (go_at_call 65; refine (HIX.out _ _ (by unfold cutA; rw [if_neg hcT])).mono ?_; rintro e w' ⟨rfl, hww⟩; obtain rfl := hww.symm)
          go_ret3
          rw [HE0.out, payEnd_ok, HPO.out, if_neg (by omega)]
          exact ⟨Got3.nil rfl, HRD.out, HK.out⟩
    · obtain ⟨n, rfl⟩ : ∃ m, n = m + 1 := ⟨n - 1, by omega⟩
      have hst := readerNext wr r p fp 0 ρ' HRD.out HOK'.out HP.out
      have hnx : rdLoop (n + 1) acc ρ' = if (rdNext 0 ρ').1 = 0 then rdLoop n (acc ++ (rdNext 0 ρ').2.1) (rdNext 0 ρ').2.2 else ((if (rdNext 0 ρ').1 = 4 then 5 else (rdNext 0 ρ').1), [], (rdNext 0 ρ').1, (rdNext 0 ρ').2.2) := rfl
      rw [hnx] at HE
      have hno := next_ok HOK'.out
      obtain ⟨hk1, hk2⟩ := next_keep HOK'.out
      have hwz := HK.out.size
      clear hnx
      generalize rdNext 0 ρ' = R at *
      obtain ⟨cd, bs, ρ2⟩ := R
      simp only at hst hno hk1 hk2 HE
      have hn0 : (0 : Int) < ((n + 1 : Nat) : Int) := by omega
      by_cases hc0 : cd = 0
      · subst hc0
        obtain ⟨n1, n2, n3⟩ := hno rfl
        simp only [if_true] at HE
        have HST := Lib.hid hst
        have HN := Lib.hid (And.intro n1 n2)
        have HKK := Lib.hid (And.intro hk1 (hk2.trans HB'.out))
        clear hst hno n1 n2 n3 hk1 hk2
        generalize hAL : acc.length = A at *
        have HAL := Lib.hid hAL
        clear hAL
        go_upto_region 14 with (go_at_call 44; refine HST.out.mono ?_; rintro e w2 ⟨⟨a2, c2, rfl, hown2⟩, hs2, hk2⟩; rw [HN.out.1] at hown2 ⊢; have HS2 := Lib.hid hs2; have HK2 := Lib.hid hk2; have HO2 := Lib.hid hown2; clear hown2 hs2 hk2)
        have hrb := own_rd2 HO2.out
        have ho2 := own_keep HO.out HK2.out (fun g hg hm => by simp at hm; have h1 := (HO.out.lt _ (by simpa using hg)).1; omega)
        have HRB := Lib.hid hrb
        have HO' := Lib.hid ho2
        have HK02 := Lib.hid (HK.out.trans HK2.out)
        clear hrb ho2
        have hA : A ≤ 140737488355328 := by omega
        go_upto_region 9 with (at_builtin; refine wpList_append_rd rfl (.tmp 44) (.tmp 45) 22 rfl w.heap.size 5 ib (.int .u8 0) 1 Try.underlying22 hib hib0 hib1 hib2 rfl (.slice ao A cap) A (bv acc) rfl HO'.out a2 512 c2 _ (bv bs) rfl (by rw [bv_length, HN.out.1]) HRB.out.1 (bv_one _) (by omega) (by unfold maxLen; omega) (by have := HK02.out.size; omega) ?_; intro a3 c3 w3 hown3 hgr3 hat3; have HO3 := Lib.hid hown3; have HG3 := Lib.hid hgr3; clear hown3 hgr3 hat3)
        have hog : ∀ g ∈ (Value.slice ao A cap).ownBlock.toList, w.heap.size ≤ g := fun g hg => (HO'.out.lt g (by simpa using hg)).1
        have k23 : Chg (Value.slice ao A cap).ownBlock.toList w2 w3 := (Chg.refl _ _).grown HG3.out (fun g hg _ => by simp [hg])
        have hrd3 := HS2.out.chg k23 (fun hm => by have := hog _ hm; omega) (fun hm => by have := hog _ hm; omega) (fun y hy hm => by have h1 := hog _ hm; have h2 := HFP.out y hy; omega)
        have hk03 : Chg [r, p] w w3 := HK02.out.trans' k23 (fun x hx _ => hx) (fun x hx hl => by have := hog x hx; omega)
        have HRD3 := Lib.hid hrd3
        have HK03 := Lib.hid hk03
        clear hog k23 hrd3 hk03
        go_wp2_with fail
        go_roundw
        case rel =>
          have hlen : (acc ++ bs).length = A + 512 := by rw [List.length_append, HAL.out, HN.out.1]
          exact ⟨n, acc ++ bs, ρ2, a3, c3, by go_num, by rw [hlen], by omega, by rw [hlen]; omega, by rw [hlen, HN.out.2, HOF.out]; omega, HKK.out.1, HKK.out.2, HE.out, by rw [hlen, bv_append]; exact HO3.out, HRD3.out, HK03.out⟩
        case measure => simp [intOf]
      · simp only [hc0, if_false] at HE
        by_cases hc4 : cd = 4
        · subst hc4
          simp only [if_true] at HE
          have HST := Lib.hid hst
          clear hst hno hk1 hk2 hc0
          generalize hAL : acc.length = A at *
          clear hAL
          go_wp2_with (first
            | (go_at_call 44; refine HST.out.mono ?_; rintro e w2 ⟨⟨a2, c2, rfl, hown2⟩, hs2, hk2⟩; have HS2 := Lib.hid hs2; have HK2 := Lib.hid hk2; clear hown2 hs2 hk2)
            | (go_at_call 46; refine (readerOffset _ r p fp 4 ρ2 HS2.out).mono ?_; rintro e w' ⟨rfl, hww⟩; obtain rfl := hww.symm))
          go_ret3
          rw [HE.out, payEnd_err _ _ (by decide)]
          exact ⟨Got3.nil rfl, HS2.out, HK.out.trans HK2.out⟩
        · simp only [hc4, if_false] at HE
          have hb0 : (cd == 0) = false := by simpa using hc0
          have hb4 : (cd == 4) = false := by simpa using hc4
          have HST := Lib.hid hst
          have HC0 := Lib.hid hc0
          clear hst hno hk1 hk2 hc0 hc4
          generalize hAL : acc.length = A at *
          clear hAL
          go_wp2_with (first
            | (go_at_call 44; refine HST.out.mono ?_; rintro e w2 ⟨⟨a2, c2, rfl, hown2⟩, hs2, hk2⟩; have HS2 := Lib.hid hs2; have HK2 := Lib.hid hk2; clear hown2 hs2 hk2)
            | (go_at_call 46; refine (readerOffset _ r p fp cd ρ2 HS2.out).mono ?_; rintro e w' ⟨rfl, hww⟩; obtain rfl := hww.symm))
          go_ret3
          rw [HE.out, payEnd_err _ _ HC0.out]
          exact ⟨Got3.nil rfl, HS2.out, HK.out.trans HK2.out⟩
end Go.Proofs.Ytljlcigbehgohaa
