/- paxtarlaw06.BlockErrorsAreSticky. -/
import Derived.Test.YtljlcigbehgohaaRBlkW
namespace Go.Proofs.Ytljlcigbehgohaa
open Go.RowKit Go.Pax

set_option maxRecDepth 100000 in
set_option maxHeartbeats 8000000 in
theorem blkSticky (w : World) (bo co : Option Addr) (bc cc : Nat) (b : List UInt8) (c : List Int) (fail n : Int) (fp : List Nat) (hn : 0 ≤ n ∧ n ≤ 255)
    (hb : b.length ≤ 140737488355328) (hcl : c.length * 8 ≤ 140737488355328) (hf : -9223372036854775808 ≤ fail ∧ fail ≤ 9223372036854775807)
    (h1 : Rd w fp bo (bv b)) (h2 : Rd w fp co (iv c)) :
    Calls Try.prog 15 #[.slice bo b.length bc, .agg #[.slice co c.length cc, .int .i64 fail], .int .u8 n] w fun e w' => e = .returned (.bool true) ∧ Chg [] w w' := by
  have H1 := Lib.hid h1
  have H2 := Lib.hid h2
  have HF := Lib.hid hf
  clear h1 h2
  obtain ⟨hf0, hf1⟩ := hf
  obtain ⟨hn0, hn1⟩ := hn
  by_cases g2 : 3000 < b.length
  · clear hf0 hf1
    go_enter Try.func15, Try.ntmps15
    go_wp2_with (go_at_call 42; refine (blkAlive _).mono ?_; rintro e w9 ⟨rfl, hc9⟩)
    go_ret
    exact ⟨rfl, ((Chg.refl _ _).alloc _).trans hc9⟩
  by_cases g3 : 300 < c.length
  · clear hf0 hf1
    go_enter Try.func15, Try.ntmps15
    go_wp2_with (go_at_call 42; refine (blkAlive _).mono ?_; rintro e w9 ⟨rfl, hc9⟩)
    go_ret
    exact ⟨rfl, ((Chg.refl _ _).alloc _).trans hc9⟩
  have hok : RSrc.Ok ⟨b, c, fail, 0, 0⟩ := RSrc.ok_new hb (by omega) HF.out
  have HOK := Lib.hid hok
  clear hok
  generalize hL : b.length = L at *
  generalize hM : c.length = M at *
  have HL := Lib.hid hL
  have HM := Lib.hid hM
  clear hL hM
  go_enter Try.func15, Try.ntmps15
  go_upto_region 3 with (fail)
  have hc0 : (w.alloc (.cells #[.slice co M cc, .int .i64 fail] 25)).cell? ⟨w.heap.size, 0, none⟩ = some (.slice co M cc) := by go_simp
  have hc1 : (w.alloc (.cells #[.slice co M cc, .int .i64 fail] 25)).cell? ⟨w.heap.size, 1, none⟩ = some (.int .i64 fail) := by go_simp
  have hcW : Chg [] w (w.alloc (.cells #[.slice co M cc, .int .i64 fail] 25)) := (Chg.refl _ _).alloc _
  have hsz : (w.alloc (.cells #[.slice co M cc, .int .i64 fail] 25)).heap.size = w.heap.size + 1 := by simp
  generalize w.alloc (.cells #[.slice co M cc, .int .i64 fail] 25) = W at *
  have HC := Lib.hid hcW
  have HS := Lib.hid hsz
  clear hcW hsz
  go_upto_region 4 with (first
    | (go_at_call 24; refine (srcNewN _ bo co L bc M cc b c fail fp HL.out HM.out hb hcl (H1.out.chg HC.out (by simp)) (H2.out.chg HC.out (by simp))).mono ?_; rintro e w2 ⟨p, f1, rfl, s2, k2, b2, bf2⟩; have HS2 := Lib.hid s2; have HK2 := Lib.hid k2; have HBF2 := Lib.hid bf2; clear s2 k2 bf2)
    | (go_at_call 43; refine (newReader _ p f1 ⟨b, c, fail, 0, 0⟩ HS2.out rfl (fun hm => by have := (HBF2.out _ hm).2; omega)).mono ?_; rintro e w3 ⟨r, rfl, s3, k3, hr3⟩; have HS3 := Lib.hid s3; have HK3 := Lib.hid k3; have HR3 := Lib.hid hr3; clear s3 k3 hr3))
  have hkW : Chg [] W w3 := HK2.out.trans HK3.out
  have hpf : p ∉ f1 := by obtain ⟨_, _, _, _, _, _, _, h, _⟩ := HS2.out; exact h
  have hrW : W.heap.size ≤ r ∧ W.heap.size ≤ p := ⟨by have := HR3.out; have := HK2.out.size; omega, b2⟩
  have HKW := Lib.hid hkW
  have HPF := Lib.hid hpf
  have HRW := Lib.hid hrW
  have HC1 := Lib.hid hc1
  clear hkW hpf hrW hc0 hc1 b2
  have hq0 : 0 ≤ (L : Int) / 512 ∧ (L : Int) / 512 ≤ L ∧ (L : Int) < 512 * ((L : Int) / 512 + 1) := by omega
  obtain ⟨hq0, hq1, hq2⟩ := hq0
  obtain ⟨N, hN⟩ : ∃ N : Nat, (L : Int) / 512 + 2 = N := ⟨((L : Int) / 512 + 2).toNat, by omega⟩
  have hNL : (L : Int) < 512 * N := by omega
  go_wp2_with fail
  have hNl : N ≤ 5003 := by omega
  clear hN hq0 hq1 hq2
  go_loopw [33] (fun i wr => ∃ k : Nat, k ≤ N ∧ i = .int .i64 k ∧ Chg [] W wr ∧ ∃ ρ, ρ.Ok ∧ RdrAt wr r p f1 0 ρ ∧ ρ.off = 512 * k ∧ ρ.b = b ∧ ρ.fail = fail) (fun i _ => N - (intOf i).toNat)
  case atStart => exact ⟨0, Nat.zero_le _, rfl, HKW.out, _, HOK.out, HS3.out, rfl, rfl, rfl⟩
  case round =>
    obtain ⟨k, hk, rfl, hkr, ρ, hok, hrd, hof, hrb, hrf⟩ := hrel
    have hofl : ρ.off ≤ L := by have := hok.offl; rw [hrb, HL.out] at this; exact this
    have hkL : 512 * (k : Int) ≤ L := by omega
    have hlt : k < N := by omega
    obtain ⟨i1, i2, i3, i4, i5⟩ := nextF_is 512 [] ρ hok (Nat.zero_le _) (Nat.le_add_left _ _)
    have hst := readerNext wr r p f1 0 ρ hrd hok HPF.out
    rw [rdNext_ok] at hst
    have he0 : ρ.end0 = if 0 ≤ fail ∧ fail < L then fail else L := by unfold RSrc.end0; rw [hrb, hrf, HL.out]
    rw [hrb, HL.out, hrf, he0, hof] at i5
    simp only [List.length_nil] at i5
    have hoff : 0 ≤ fail → 512 * (k : Int) ≤ fail := by have := hok.offf; rw [hrf, hof] at this; exact this
    generalize nextF 512 [] ρ = R at *
    obtain ⟨cd, bs, ρ'⟩ := R
    simp only at hst i1 i2 i3 i5
    have HKR := Lib.hid hkr
    have HST := Lib.hid hst
    have HI1 := Lib.hid i1
    have HI2 := Lib.hid (i2.trans hrb)
    have HI3 := Lib.hid (i3.trans hrf)
    clear hkr hst i1 i2 i3 i4 hrd hok hof hrb hrf he0 hofl
    rcases i5 with ⟨rfl, j2, j3, j4⟩ | ⟨j1, j2, j3, j4⟩
    · have HJ3 := Lib.hid j3
      clear j2 j3 j4 hoff
      go_wp2_with (go_at_call 44; refine HST.out.mono ?_; rintro e w5 ⟨⟨a5, c5, rfl, hown5⟩, s5, k5⟩; have HS5 := Lib.hid s5; have HK5 := Lib.hid k5; clear hown5 s5 k5)
      go_roundw
      case rel => exact ⟨k + 1, by omega, by go_num, HKR.out.nil_of HK5.out (Nat.le_refl _) (by have := HRW.out; simp; omega), ρ', HI1.out, HS5.out, by rw [HJ3.out]; omega, HI2.out, HI3.out⟩
      case measure => simp [intOf]; omega
    · subst j3
      have hcase : (cd = 11 ∧ 0 ≤ fail ∧ fail < L ∧ ρ'.off = fail) ∨ (cd = 11 ∧ fail = L ∧ ρ'.off = L) ∨ (cd = 5 ∧ ρ'.off = L ∧ ¬ (L : Int) % 512 = 0) ∨ (cd = 4 ∧ ρ'.off = L ∧ (L : Int) % 512 = 0 ∧ ¬ fail = L) := by
        by_cases h0 : 0 ≤ fail ∧ fail ≤ L
        · rw [if_pos h0] at j4
          by_cases h1 : fail < L
          · rw [if_pos ⟨h0.1, h1⟩] at j2; exact .inl ⟨j4, h0.1, h1, j2⟩
          · rw [if_neg (by omega)] at j2; exact .inr (.inl ⟨j4, by omega, j2⟩)
        · have hin : ¬ (0 ≤ fail ∧ fail < (L : Int)) := by omega
          rw [if_neg h0, if_neg hin] at j4
          rw [if_neg hin] at j1 j2
          by_cases h1 : (0 : Int) < ((0 : Nat) : Int) + ((L : Int) - 512 * k)
          · rw [if_pos h1] at j4; exact .inr (.inr (.inl ⟨j4, j2, by omega⟩))
          · rw [if_neg h1] at j4; exact .inr (.inr (.inr ⟨j4, j2, by omega, by omega⟩))
      have hcd : (cd == 0) = false := by rcases hcase with ⟨h, _⟩ | ⟨h, _⟩ | ⟨h, _⟩ | ⟨h, _⟩ <;> simp [h]
      have hcd' : ¬ cd = 0 := by simpa using hcd
      have HCD := Lib.hid hcd'
      have HCS := Lib.hid hcase
      clear j1 j2 j4 hcase hcd'
      generalize hAT : ρ'.off = at_ at *
      have HAT := Lib.hid hAT
      clear hAT
      go_upto_region 12 with (first
        | (go_at_call 44; refine HST.out.mono ?_; rintro e w5 ⟨⟨a5, c5, rfl, hown5⟩, s5, k5⟩; have HS5 := Lib.hid s5; have HK5 := Lib.hid k5; clear hown5 s5 k5)
        | (go_at_call 46; refine (readerOffset _ r p f1 _ _ HS5.out).mono ?_; rintro e w6 ⟨rfl, rfl⟩; rw [HAT.out]))
      obtain ⟨M9, hM9⟩ : ∃ M9 : Nat, n % 9 + 1 = M9 := ⟨(n % 9 + 1).toNat, by omega⟩
      have hM9l : M9 ≤ 9 := by omega
      rw [hM9]
      have hk6 := HKR.out.nil_of HK5.out (Nat.le_refl _) (by have := HRW.out; simp; omega)
      have HK6 := Lib.hid hk6
      clear hM9 hk6
      go_loopw [47] (fun i wr => ∃ j : Nat, j ≤ M9 ∧ i = .int .u8 j ∧ Chg [] W wr ∧ RdrAt wr r p f1 cd ρ') (fun i _ => M9 - (intOf i).toNat)
      case atStart => exact ⟨0, Nat.zero_le _, rfl, HK6.out, HS5.out⟩
      case round =>
        obtain ⟨j, hj, rfl, hkj, hrj⟩ := hrel
        have HKJ := Lib.hid hkj
        have HRJ := Lib.hid hrj
        clear hkj hrj
        by_cases hltj : j < M9
        · have hst := readerNext wr r p f1 cd ρ' HRJ.out HI1.out HPF.out
          rw [rdNext_err HCD.out] at hst
          have HST2 := Lib.hid hst
          clear hst
          go_wp2_with (first
            | (go_at_call 44; refine HST2.out.mono ?_; rintro e w7 ⟨⟨a7, c7, rfl, hown7⟩, s7, k7⟩; have HS7 := Lib.hid s7; have HK7 := Lib.hid k7; clear hown7 s7 k7)
            | (go_at_call 46; refine (readerOffset _ r p f1 _ _ HS7.out).mono ?_; rintro e w6 ⟨rfl, rfl⟩; rw [HAT.out]))
          go_roundw
          case rel => exact ⟨j + 1, by omega, by go_num, HKJ.out.nil_of HK7.out (Nat.le_refl _) (by have := HRW.out; simp; omega), HS7.out⟩
          case measure => simp [intOf]; omega
        · have hd1 := HKJ.out.cell HC1.out (by simp)
          rcases HCS.out with ⟨rfl, h0, h1, rfl⟩ | ⟨rfl, rfl, rfl⟩ | ⟨rfl, rfl, h0⟩ | ⟨rfl, rfl, h0, h1⟩
          · have e1 : ((at_ : Int) == L) = false := by simp; omega
            go_wp2_with (go_at_call 42; refine (blkAlive _).mono ?_; rintro e w9 ⟨rfl, hc9⟩; have hd9 := hc9.cell hd1 (by simp); have HC9 := Lib.hid hc9; clear hc9)
            go_ret
            exact ⟨rfl, (HC.out.trans HKJ.out).trans HC9.out⟩
          · by_cases h0 : (L : Int) % 512 = 0
            · have e1 : ((L : Int) % 512 == 0) = true := by simpa using h0
              go_wp2_with (go_at_call 42; refine (blkAlive _).mono ?_; rintro e w9 ⟨rfl, hc9⟩; have hd9 := hc9.cell hd1 (by simp); have HC9 := Lib.hid hc9; clear hc9)
              go_ret
              exact ⟨rfl, (HC.out.trans HKJ.out).trans HC9.out⟩
            · have e1 : ((L : Int) % 512 == 0) = false := by simpa using h0
              go_wp2_with (go_at_call 42; refine (blkAlive _).mono ?_; rintro e w9 ⟨rfl, hc9⟩; have hd9 := hc9.cell hd1 (by simp); have HC9 := Lib.hid hc9; clear hc9)
              go_ret
              exact ⟨rfl, (HC.out.trans HKJ.out).trans HC9.out⟩
          · have e1 : ((L : Int) % 512 == 0) = false := by simpa using h0
            go_wp2_with (go_at_call 42; refine (blkAlive _).mono ?_; rintro e w9 ⟨rfl, hc9⟩; have hd9 := hc9.cell hd1 (by simp); have HC9 := Lib.hid hc9; clear hc9)
            go_ret
            exact ⟨rfl, (HC.out.trans HKJ.out).trans HC9.out⟩
          · have e1 : ((L : Int) % 512 == 0) = true := by simpa using h0
            have e2 : ((fail : Int) == L) = false := by simpa using h1
            have e3 : ((fail : Int) != L) = true := by simpa using h1
            go_wp2_with (go_at_call 42; refine (blkAlive _).mono ?_; rintro e w9 ⟨rfl, hc9⟩; have hd9 := hc9.cell hd1 (by simp); have HC9 := Lib.hid hc9; clear hc9)
            go_ret
            exact ⟨rfl, (HC.out.trans HKJ.out).trans HC9.out⟩
end Go.Proofs.Ytljlcigbehgohaa
