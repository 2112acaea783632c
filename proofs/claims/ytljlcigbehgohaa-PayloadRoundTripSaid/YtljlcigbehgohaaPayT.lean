/- payload.Read, all ways. -/
import Derived.Test.YtljlcigbehgohaaPayS
namespace Go.Proofs.Ytljlcigbehgohaa
open Go.RowKit Go.Pax

set_option maxRecDepth 100000 in
set_option maxHeartbeats 2000000 in
theorem payRead_zero (w : World) (r p : Nat) (fp : List Nat) (err : Int) (ρ : RSrc) (h : RdrAt w r p fp err ρ) :
    Calls Try.prog 55 #[.pointer (some ⟨r, 0, none⟩), .int .i64 0] w fun e w' => Got3 w w' e ([], ρ.off, 0) ∧ RdrAt w' r p fp err ρ ∧ Chg [r, p] w w' := by
  have H := Lib.hid h
  have hpb := payBlocks w 0 (by decide)
  have hix := idxWalk w none 0 [] [] _ rfl (by simp) (Rd.nil _ _ _)
  have HPB := Lib.hid hpb
  have HIX : Hid (Calls Try.prog 65 #[.slice none 0 0, .func (.func 66) #[] #[]] w fun e w' => e = .returned (.int .i64 (-1)) ∧ w' = w) := Lib.hid hix
  clear h hpb hix
  generalize hOF : ρ.off = o0 at *
  have HOF := Lib.hid hOF
  clear hOF
  go_enter Try.func55, Try.ntmps55
  go_wp2_with (first
    | (go_at_call 46; refine (readerOffset _ r p fp err ρ H.out).mono ?_; rintro e w' ⟨rfl, hww⟩; obtain rfl := hww.symm; rw [HOF.out])
    | (go_at_call 40; refine HPB.out.mono ?_; rintro e w' ⟨rfl, hww⟩; obtain rfl := hww.symm))
  go_loopw [8, 9] (fun v m wr => v = .slice none 0 0 ∧ m = .int .i64 0 ∧ wr = w) (fun _ _ _ => 0)
  case atStart => exact ⟨rfl, rfl, rfl⟩
  case round =>
  obtain ⟨rfl, rfl, hwr⟩ := hrel
  obtain rfl := hwr.symm
  go_upto_region 20 with (go_at_call 65; refine HIX.out.mono ?_; rintro e w' ⟨rfl, hww⟩; obtain rfl := hww.symm)
  refine wp_region_held_drew (S := fun w' => Chg [] w w') (by kernel_rfl) ?_ (fun hHeld => ?_)
  · exact (Chg.refl _ _).drew
  refine wpAnyH_take (i := 0) (oi := ?oi1) (v := ?v1) ?hi1 (by kernel_rfl) (by kernel_rfl) (by kernel_rfl) ?hQ1 (Or.inl ⟨?hw1, ?hy1⟩) (by assumption) ?hr1
  case hi1 => simp only [List.getElem?_toArray, List.getElem?_cons_zero]; rfl
  case hQ1 => exact fun _ _ _ h => h
  case hw1 => rfl
  case hy1 => intro w hSw; (try dsimp only at hSw); go_simp; (try with_reducible rfl)
  case hr1 =>
  simp only [Act.put, List.setIfInBounds_toArray, List.set_cons_zero, List.set_cons_succ]
  refine wpAnyH_take (i := 1) (oi := ?oi2) (v := ?v2) ?hi2 (by kernel_rfl) (by kernel_rfl) (by kernel_rfl) ?hQ2 (Or.inl ⟨?hw2, ?hy2⟩) (by assumption) ?hr2
  case hi2 => simp only [List.getElem?_toArray, List.getElem?_cons_succ, List.getElem?_cons_zero]; rfl
  case hQ2 => exact fun _ _ _ h => h
  case hw2 => rfl
  case hy2 => intro w hSw; (try dsimp only at hSw); go_simp; (try with_reducible rfl)
  case hr2 =>
  simp only [Act.put, List.setIfInBounds_toArray, List.set_cons_zero, List.set_cons_succ]
  refine wpAnyH_take (i := 2) (oi := ?oi3) (v := ?v3) ?hi3 (by kernel_rfl) (by kernel_rfl) (by kernel_rfl) ?hQ3 (Or.inl ⟨?hw3, ?hy3⟩) (by assumption) ?hr3
  case hi3 => simp only [List.getElem?_toArray, List.getElem?_cons_succ, List.getElem?_cons_zero]; rfl
  case hQ3 => exact fun _ _ _ h => h
  case hw3 => rfl
  case hy3 => intro w hSw; (try dsimp only at hSw); go_simp; (try with_reducible rfl)
  case hr3 =>
  simp only [Act.put, List.setIfInBounds_toArray, List.set_cons_zero, List.set_cons_succ]
  refine wpAnyH_take (i := 3) (oi := ?oi4) (v := ?v4) ?hi4 (by kernel_rfl) (by kernel_rfl) (by kernel_rfl) ?hQ4 (Or.inl ⟨?hw4, ?hy4⟩) (by assumption) ?hr4
  case hi4 => simp only [List.getElem?_toArray, List.getElem?_cons_succ, List.getElem?_cons_zero]; rfl
  case hQ4 => exact fun _ _ _ h => h
  case hw4 => rfl
  case hy4 => intro w hSw; (try dsimp only at hSw); go_simp; (try with_reducible rfl)
  case hr4 =>
  simp only [Act.put, List.setIfInBounds_toArray, List.set_cons_zero, List.set_cons_succ]
  refine wpAnyH_ready (rs := [4]) (by kernel_rfl) (by simp) (AllReadyH.cons (o := ?oc5) ?hc5 (fun K hK => ?hs5) AllReadyH.nil)
  case hc5 => simp only [List.getElem?_toArray, List.getElem?_cons_succ, List.getElem?_cons_zero]; rfl
  case hs5 =>
  rw [if_pos (by rfl)]
  go_simp
  go_at_call 46; refine (readerOffset _ r p fp err ρ (H.out.chg (S := []) hHeld (by simp) (by simp) (by simp))).mono ?_; rintro e w' ⟨rfl, hww⟩; obtain rfl := hww.symm
  go_wp2_with fail
  refine hK.out _ _ ?_ (fun hHeld => ?_)
  · exact hHeld
  clear hK K
  try simp only [Act.put, List.setIfInBounds_toArray, List.set_cons_zero, List.set_cons_succ]
  refine wpAnyH_take (i := 5) (oi := ?oi6) (v := ?v6) ?hi6 (by kernel_rfl) (by kernel_rfl) (by kernel_rfl) ?hQ6 (Or.inl ⟨?hw6, ?hy6⟩) (by assumption) ?hr6
  case hi6 => simp only [List.getElem?_toArray, List.getElem?_cons_succ, List.getElem?_cons_zero]; rfl
  case hQ6 => exact fun _ _ _ h => h
  case hw6 => rfl
  case hy6 => intro w hSw; (try dsimp only at hSw); go_simp; (try with_reducible rfl)
  case hr6 =>
  simp only [Act.put, List.setIfInBounds_toArray, List.set_cons_zero, List.set_cons_succ]
  refine wpAnyH_take (i := 6) (oi := ?oi7) (v := ?v7) ?hi7 (by kernel_rfl) (by kernel_rfl) (by kernel_rfl) ?hQ7 (Or.inl ⟨?hw7, ?hy7⟩) (by assumption) ?hr7
  case hi7 => simp only [List.getElem?_toArray, List.getElem?_cons_succ, List.getElem?_cons_zero]; rfl
  case hQ7 => exact fun _ _ _ h => h
  case hw7 => rfl
  case hy7 => intro w hSw; (try dsimp only at hSw); go_simp; (try with_reducible rfl)
  case hr7 =>
  simp only [Act.put, List.setIfInBounds_toArray, List.set_cons_zero, List.set_cons_succ]
  refine wpAnyH_take (i := 7) (oi := ?oi8) (v := ?v8) ?hi8 (by kernel_rfl) (by kernel_rfl) (by kernel_rfl) ?hQ8 (Or.inl ⟨?hw8, ?hy8⟩) (by assumption) ?hr8
  case hi8 => simp only [List.getElem?_toArray, List.getElem?_cons_succ, List.getElem?_cons_zero]; rfl
  case hQ8 => exact fun _ _ _ h => h
  case hw8 => rfl
  case hy8 => intro w hSw; (try dsimp only at hSw); go_simp; (try with_reducible rfl)
  case hr8 =>
  simp only [Act.put, List.setIfInBounds_toArray, List.set_cons_zero, List.set_cons_succ]
  refine wpAnyH_done (by kernel_rfl) ?_ _
  go_wp2_with fail
  go_ret3
  rw [HOF.out]
  exact ⟨Got3.nil rfl, H.out.chg (S := []) hHeld (by simp) (by simp) (by simp), hHeld.mono (by simp)⟩

set_option maxRecDepth 100000 in
set_option maxHeartbeats 2000000 in
theorem payRead_err (w : World) (r p : Nat) (fp : List Nat) (err : Int) (ρ : RSrc) (S : Nat) (h : RdrAt w r p fp err ρ) (hok : ρ.Ok) (hp : p ∉ fp) (he : err ≠ 0) (hS0 : 1 ≤ S) (hS : S ≤ 1099511627776) :
    Calls Try.prog 55 #[.pointer (some ⟨r, 0, none⟩), .int .i64 S] w fun e w' => Got3 w w' e ([], ρ.off, if err = 4 then 5 else err) ∧ RdrAt w' r p fp err ρ ∧ Chg [r, p] w w' := by
  have hbl : (if (S : Int) ≤ 0 then 0 else ((S : Int) - 1) / 512 + 1) = (blocksOf S : Nat) := by unfold blocksOf; split <;> omega
  have hbn : 1 ≤ blocksOf S ∧ 512 * blocksOf S < S + 512 := by unfold blocksOf; split <;> omega
  have hpb := payBlocks w S (by omega)
  have hst := readerNext w r p fp err ρ h hok hp
  rw [rdNext_err he] at hst
  rw [hbl] at hpb
  generalize blocksOf S = N at *
  obtain ⟨hbn0, hbn1⟩ := hbn
  have H := Lib.hid h
  have HST := Lib.hid hst
  have HPB := Lib.hid hpb
  have hb0 : (err == 0) = false := by simpa using he
  have HE := Lib.hid he
  clear h hok hp hst hpb hbl he
  generalize hOF : ρ.off = o0 at *
  have HOF := Lib.hid hOF
  clear hOF
  by_cases he4 : err = 4
  · subst he4
    go_enter Try.func55, Try.ntmps55
    go_wp2_with (first
      | (go_at_call 46; refine (readerOffset _ r p fp 4 ρ H.out).mono ?_; rintro e w' ⟨rfl, hww⟩; obtain rfl := hww.symm; rw [HOF.out])
      | (go_at_call 40; refine HPB.out.mono ?_; rintro e w' ⟨rfl, hww⟩; obtain rfl := hww.symm))
    go_loopw [9] (fun m wr => m = .int .i64 N ∧ wr = w) (fun _ _ => 0)
    case atStart => exact ⟨rfl, rfl⟩
    case round =>
    obtain ⟨rfl, hwr⟩ := hrel
    obtain rfl := hwr.symm
    go_wp2_with (first
      | (go_at_call 44; refine HST.out.mono ?_; rintro e w2 ⟨⟨a2, c2, rfl, hown2⟩, hs2, hk2⟩; have HS2 := Lib.hid hs2; have HK2 := Lib.hid hk2; clear hown2 hs2 hk2)
      | (go_at_call 46; refine (readerOffset _ r p fp 4 ρ HS2.out).mono ?_; rintro e w' ⟨rfl, hww⟩; obtain rfl := hww.symm; rw [HOF.out]))
    go_ret3
    exact ⟨Got3.nil rfl, HS2.out, HK2.out⟩
  · have hb4 : (err == 4) = false := by simpa using he4
    rw [if_neg he4]
    clear he4
    go_enter Try.func55, Try.ntmps55
    go_wp2_with (first
      | (go_at_call 46; refine (readerOffset _ r p fp err ρ H.out).mono ?_; rintro e w' ⟨rfl, hww⟩; obtain rfl := hww.symm; rw [HOF.out])
      | (go_at_call 40; refine HPB.out.mono ?_; rintro e w' ⟨rfl, hww⟩; obtain rfl := hww.symm))
    go_loopw [9] (fun m wr => m = .int .i64 N ∧ wr = w) (fun _ _ => 0)
    case atStart => exact ⟨rfl, rfl⟩
    case round =>
    obtain ⟨rfl, hwr⟩ := hrel
    obtain rfl := hwr.symm
    go_wp2_with (first
      | (go_at_call 44; refine HST.out.mono ?_; rintro e w2 ⟨⟨a2, c2, rfl, hown2⟩, hs2, hk2⟩; have HS2 := Lib.hid hs2; have HK2 := Lib.hid hk2; clear hown2 hs2 hk2)
      | (go_at_call 46; refine (readerOffset _ r p fp err ρ HS2.out).mono ?_; rintro e w' ⟨rfl, hww⟩; obtain rfl := hww.symm; rw [HOF.out]))
    go_ret3
    exact ⟨Got3.nil rfl, HS2.out, HK2.out⟩

theorem payRead (w : World) (r p : Nat) (fp : List Nat) (err : Int) (ρ : RSrc) (size : Int) (h : RdrAt w r p fp err ρ) (hok : ρ.Ok) (hp : p ∉ fp) :
    Calls Try.prog 55 #[.pointer (some ⟨r, 0, none⟩), .int .i64 size] w fun e w' => Got3 w w' e (payRd err ρ size).1 ∧ RdrAt w' r p fp (payRd err ρ size).2.1 (payRd err ρ size).2.2 ∧ Chg [r, p] w w' := by
  by_cases h0 : size < 0 ∨ 1099511627776 < size
  · rw [show payRd err ρ size = (([], ρ.off, 3), err, ρ) from by unfold payRd; rw [if_pos h0]]
    refine (payRead_range w r p fp err ρ size h h0).mono ?_
    rintro e w' ⟨rfl, hww⟩
    subst hww
    exact ⟨Got3.nil rfl, h, Chg.refl _ _⟩
  obtain ⟨S, rfl⟩ : ∃ S : Nat, size = S := ⟨size.toNat, by omega⟩
  by_cases h1 : err ≠ 0 ∧ 0 < (S : Int)
  · rw [show payRd err ρ S = (([], ρ.off, if err = 4 then 5 else err), err, ρ) from by unfold payRd; rw [if_neg h0, if_pos h1]]
    exact payRead_err w r p fp err ρ S h hok hp h1.1 (by omega) (by omega)
  by_cases h2 : (S : Int) = 0
  · rw [show payRd err ρ S = (([], ρ.off, 0), err, ρ) from by unfold payRd; rw [if_neg h0, if_neg h1, if_pos h2], h2]
    exact payRead_zero w r p fp err ρ h
  have he : err = 0 := by
    by_cases he : err = 0
    · exact he
    · exact absurd ⟨he, by omega⟩ h1
  subst he
  obtain ⟨fq, hs, hq⟩ := h.s.tight
  refine (payRead0 w r p fq ρ S ⟨h.blk, hs, h.rp, fun hm => h.rf (hq r hm).1⟩ hok (fun hm => hp (hq p hm).1) (fun k hk => (hq k hk).2) (by omega) (by omega)).mono ?_
  rintro e w' ⟨g1, g2, g3⟩
  exact ⟨g1, ⟨g2.blk, g2.s.mono (fun k hk => (hq k hk).1) hp, g2.rp, h.rf⟩, g3⟩
end Go.Proofs.Ytljlcigbehgohaa
