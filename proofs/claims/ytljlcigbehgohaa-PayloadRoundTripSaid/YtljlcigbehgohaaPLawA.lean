/- paxtarlaw11.PayloadLargeSize. -/
import Derived.Test.YtljlcigbehgohaaPayT
namespace Go.Pax
open Go.RowKit
/-- n blocks of a stream that does not fail. -/
theorem rdLoop_free {b : List UInt8} : ∀ (n : Nat) (acc : List UInt8) (ρ : RSrc), ρ.Ok → ρ.b = b → ρ.fail = -1 →
    (rdLoop n acc ρ).2.2.2.Ok ∧ (rdLoop n acc ρ).2.2.2.b = b ∧ (rdLoop n acc ρ).2.2.2.fail = -1 ∧
    ((ρ.off + 512 * n ≤ b.length ∧ (rdLoop n acc ρ).1 = 0 ∧ (rdLoop n acc ρ).2.1 = acc ++ (b.drop ρ.off.toNat).take (512 * n) ∧ (rdLoop n acc ρ).2.2.2.off = ρ.off + 512 * n ∧ (rdLoop n acc ρ).2.2.1 = 0) ∨
     ((b.length : Int) < ρ.off + 512 * n ∧ (rdLoop n acc ρ).1 = 5 ∧ (rdLoop n acc ρ).2.2.2.off = b.length ∧ (rdLoop n acc ρ).2.1 = []))
  | 0, acc, ρ, h, hb, hf => by
    have h1 := h.offl
    rw [hb] at h1
    exact ⟨h, hb, hf, .inl ⟨by simpa using h1, rfl, by simp [rdLoop], by simp [rdLoop], rfl⟩⟩
  | n + 1, acc, ρ, h, hb, hf => by
    have h0 := h.off0
    have hl := h.offl
    rw [hb] at hl
    have hnx := nextF_is 512 [] ρ h (Nat.zero_le _) (Nat.le_add_left _ _)
    rw [← rdNext_ok] at hnx
    obtain ⟨i1, i2, i3, i4, i5⟩ := hnx
    have he : ρ.end0 = b.length := by unfold RSrc.end0; rw [hb, hf, if_neg (by omega)]
    rw [he, hb, hf] at i5
    simp only [List.length_nil, List.nil_append] at i5
    have hu : rdLoop (n + 1) acc ρ = if (rdNext 0 ρ).1 = 0 then rdLoop n (acc ++ (rdNext 0 ρ).2.1) (rdNext 0 ρ).2.2 else ((if (rdNext 0 ρ).1 = 4 then 5 else (rdNext 0 ρ).1), [], (rdNext 0 ρ).1, (rdNext 0 ρ).2.2) := rfl
    rw [hu]
    rcases i5 with ⟨j1, j2, j3, j4⟩ | ⟨j1, j2, j3, j4⟩
    · rw [if_pos j1]
      obtain ⟨g1, g2, g3, g4⟩ := rdLoop_free (b := b) n (acc ++ (rdNext 0 ρ).2.1) (rdNext 0 ρ).2.2 i1 (by rw [i2, hb]) (by rw [i3, hf])
      refine ⟨g1, g2, g3, ?_⟩
      rw [j3] at g4
      rcases g4 with ⟨k1, k2, k3, k4, k5⟩ | ⟨k1, k2, k3, k4⟩
      · refine .inl ⟨by omega, k2, ?_, by rw [k4]; omega, k5⟩
        rw [k3, j4, List.append_assoc, show (ρ.off + (512 - ((0 : Nat) : Int))).toNat = ρ.off.toNat + 512 by omega, Nat.mul_succ, Nat.add_comm (512 * n) 512, List.take_add, List.drop_drop]
      · exact .inr ⟨by omega, k2, k3, k4⟩
    · have hne : (rdNext 0 ρ).1 ≠ 0 := by
        rw [j4, if_neg (by omega : ¬ ((0 : Int) ≤ -1 ∧ (-1 : Int) ≤ b.length))]
        split <;> decide
      rw [if_neg hne]
      refine ⟨i1, by rw [i2, hb], by rw [i3, hf], .inr ⟨by omega, ?_, j2, rfl⟩⟩
      simp only
      rw [j4, if_neg (by omega : ¬ ((0 : Int) ≤ -1 ∧ (-1 : Int) ≤ b.length))]
      split <;> rfl
theorem blocksOf_ge {size : Int} : size ≤ 512 * (blocksOf size : Int) ∧ (0 < size → 512 * (blocksOf size : Int) < size + 512) := by unfold blocksOf; constructor <;> (try intro) <;> split <;> omega
end Go.Pax
namespace Go.Proofs.Ytljlcigbehgohaa
open Go.RowKit Go.Pax

set_option maxRecDepth 100000 in
set_option maxHeartbeats 4000000 in
theorem payLarge (w : World) (bo : Option Addr) (bc : Nat) (b : List UInt8) (size : Int) (fp : List Nat) (h1 : Rd w fp bo (bv b)) (hb : b.length ≤ 140737488355328) :
    Calls Try.prog 20 #[.slice bo b.length bc, .int .i64 size] w fun e w' => e = .returned (.bool true) ∧ Chg [] w w' := by
  have H1 := Lib.hid h1
  clear h1
  by_cases g2 : 3000 < b.length
  · go_enter Try.func20, Try.ntmps20
    go_wp2_with (go_at_call 41; refine (payAlive _).mono ?_; rintro e w9 ⟨rfl, hc9⟩)
    go_ret
    exact ⟨rfl, hc9⟩
  have hok : RSrc.Ok ⟨b, [], -1, 0, 0⟩ := RSrc.ok_new (by omega) (by decide) (by decide)
  have hbad : (size < 0 ∨ 1099511627776 < size) → payRd 0 ⟨b, [], -1, 0, 0⟩ size = (([], 0, 3), 0, ⟨b, [], -1, 0, 0⟩) := fun h => by unfold payRd; rw [if_pos h]
  have hbig : ¬ (size < 0 ∨ 1099511627776 < size) → (b.length : Int) < size → (payRd 0 ⟨b, [], -1, 0, 0⟩ size).1 = ([], (b.length : Int), 5) := fun h h2 => by
    unfold payRd
    rw [if_neg h, if_neg (by omega), if_neg (by omega)]
    obtain ⟨_, _, _, h4⟩ := rdLoop_free (b := b) (blocksOf size) [] ⟨b, [], -1, 0, 0⟩ hok rfl rfl
    have hg := (blocksOf_ge (size := size)).1
    rcases h4 with ⟨k1, _⟩ | ⟨k1, k2, k3, k4⟩
    · simp only at k1; omega
    · generalize rdLoop (blocksOf size) [] ⟨b, [], -1, 0, 0⟩ = R at *
      obtain ⟨c, x, e, ρ⟩ := R
      simp only at k2 k3
      subst k2
      rw [payEnd_err _ _ (by decide), k3]
  have HOK := Lib.hid hok
  have HBAD := Lib.hid hbad
  have HBIG := Lib.hid hbig
  clear hok hbad hbig
  have hs1 : (([] : List Int).length = 0) := rfl
  generalize hL : b.length = L at *
  have HL := Lib.hid hL
  clear hL hs1
  go_enter Try.func20, Try.ntmps20
  go_upto_region 4 with (first
    | (go_at_call 24; refine (srcNewN _ bo none L bc 0 0 b [] (-1) fp HL.out rfl (by omega) (by decide) H1.out (Rd.nil _ _ _)).mono ?_; rintro e w2 ⟨p, f1, rfl, s2, k2, b2, bf2⟩; have HS2 := Lib.hid s2; have HK2 := Lib.hid k2; have HBF2 := Lib.hid bf2; clear s2 k2 bf2)
    | (go_at_call 43; refine (newReader _ p f1 ⟨b, [], -1, 0, 0⟩ HS2.out rfl (fun hm => by have := (HBF2.out _ hm).2; omega)).mono ?_; rintro e w3 ⟨r, rfl, s3, k3, hr3⟩; have HS3 := Lib.hid s3; have HK3 := Lib.hid k3; have HR3 := Lib.hid hr3; clear s3 k3 hr3))
  have hpf : p ∉ f1 := by obtain ⟨_, _, _, _, _, _, _, h, _⟩ := HS2.out; exact h
  have K03 := Lib.hid (HK2.out.trans HK3.out)
  have HRB : Hid (w.heap.size ≤ r ∧ w.heap.size ≤ p) := Lib.hid ⟨by have := HR3.out; have := HK2.out.size; omega, b2⟩
  have hrd := payRead w3 r p f1 0 _ size HS3.out HOK.out hpf
  clear b2 hpf
  by_cases hbad : size < 0 ∨ 1099511627776 < size
  · rw [HBAD.out hbad] at hrd
    have HRD := Lib.hid hrd
    clear hrd
    rcases hbad with h0 | h0
    · go_wp2_with (first
      | (go_at_call 55; refine HRD.out.mono ?_; rintro e w4 ⟨⟨a4, c4, fq4, rfl, _, _⟩, s4, k4⟩; have HS4 := Lib.hid s4; have HK4 := Lib.hid k4; clear s4 k4)
      | (go_at_call 41; refine (payAlive _).mono ?_; rintro e w9 ⟨rfl, hc9⟩; have HC9 := Lib.hid hc9; clear hc9)
      | (go_at_call 46; refine (readerOffset _ r p f1 _ _ (HS4.out.chg HC9.out (by simp) (by simp) (by simp))).mono ?_; rintro e w10 ⟨rfl, hww⟩; obtain rfl := hww.symm))
      go_ret
      exact ⟨rfl, ((K03.out.nil_of HK4.out (Nat.le_refl _) (by simp; exact HRB.out)).trans HC9.out)⟩
    · have h1 : ¬ size < 0 := by omega
      go_wp2_with (first
      | (go_at_call 55; refine HRD.out.mono ?_; rintro e w4 ⟨⟨a4, c4, fq4, rfl, _, _⟩, s4, k4⟩; have HS4 := Lib.hid s4; have HK4 := Lib.hid k4; clear s4 k4)
      | (go_at_call 41; refine (payAlive _).mono ?_; rintro e w9 ⟨rfl, hc9⟩; have HC9 := Lib.hid hc9; clear hc9)
      | (go_at_call 46; refine (readerOffset _ r p f1 _ _ (HS4.out.chg HC9.out (by simp) (by simp) (by simp))).mono ?_; rintro e w10 ⟨rfl, hww⟩; obtain rfl := hww.symm))
      go_ret
      exact ⟨rfl, ((K03.out.nil_of HK4.out (Nat.le_refl _) (by simp; exact HRB.out)).trans HC9.out)⟩
  have hs0 : ¬ size < 0 := by omega
  have hs1 : ¬ 1099511627776 < size := by omega
  by_cases hlt : (L : Int) < size
  · have h5 := HBIG.out hbad hlt
    generalize payRd 0 ⟨b, [], -1, 0, 0⟩ size = R at *
    obtain ⟨o, e1, ρ1⟩ := R
    simp only at hrd h5
    subst h5
    have HRD := Lib.hid hrd
    clear hrd hbad
    go_wp2_with (first
      | (go_at_call 55; refine HRD.out.mono ?_; rintro e w4 ⟨⟨a4, c4, fq4, rfl, _, _⟩, s4, k4⟩; have HS4 := Lib.hid s4; have HK4 := Lib.hid k4; clear s4 k4)
      | (go_at_call 41; refine (payAlive _).mono ?_; rintro e w9 ⟨rfl, hc9⟩; have HC9 := Lib.hid hc9; clear hc9)
      | (go_at_call 46; refine (readerOffset _ r p f1 _ _ (HS4.out.chg HC9.out (by simp) (by simp) (by simp))).mono ?_; rintro e w10 ⟨rfl, hww⟩; obtain rfl := hww.symm))
    go_ret
    exact ⟨rfl, ((K03.out.nil_of HK4.out (Nat.le_refl _) (by simp; exact HRB.out)).trans HC9.out)⟩
  · generalize payRd 0 ⟨b, [], -1, 0, 0⟩ size = R at *
    obtain ⟨⟨o1, o2, o3⟩, e1, ρ1⟩ := R
    simp only at hrd
    have HRD := Lib.hid hrd
    clear hrd hbad
    generalize o1.length = O1 at *
    go_wp2_with (first
      | (go_at_call 55; refine HRD.out.mono ?_; rintro e w4 ⟨⟨a4, c4, fq4, rfl, _, _⟩, s4, k4⟩; have HS4 := Lib.hid s4; have HK4 := Lib.hid k4; clear s4 k4)
      | (go_at_call 41; refine (payAlive _).mono ?_; rintro e w9 ⟨rfl, hc9⟩; have HC9 := Lib.hid hc9; clear hc9)
      | (go_at_call 46; refine (readerOffset _ r p f1 _ _ (HS4.out.chg HC9.out (by simp) (by simp) (by simp))).mono ?_; rintro e w10 ⟨rfl, hww⟩; obtain rfl := hww.symm))
    go_ret
    exact ⟨rfl, ((K03.out.nil_of HK4.out (Nat.le_refl _) (by simp; exact HRB.out)).trans HC9.out)⟩
end Go.Proofs.Ytljlcigbehgohaa
