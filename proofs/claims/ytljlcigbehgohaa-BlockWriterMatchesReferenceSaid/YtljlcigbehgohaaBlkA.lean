/- paxtarlaw06.alive. -/
import Derived.Test.YtljlcigbehgohaaBlkS
namespace Go.Pax
open Go.RowKit
theorem nx1 (b : List UInt8) (hb : b.length = 600) (ho : RSrc.Ok ⟨b, [], -1, 0, 0⟩) : (rdNext 0 ⟨b, [], -1, 0, 0⟩).1 = 0 ∧ (rdNext 0 ⟨b, [], -1, 0, 0⟩).2.1.length = 512 ∧ (rdNext 0 ⟨b, [], -1, 0, 0⟩).2.2.Ok ∧
    (rdNext 0 (rdNext 0 ⟨b, [], -1, 0, 0⟩).2.2).1 = 5 := by
  obtain ⟨h1, h2, h3, h4, h5⟩ := nextF_is 512 [] _ ho (Nat.zero_le _) (Nat.le_add_left _ _)
  rw [rdNext_ok]
  have he : (RSrc.mk b [] (-1) 0 0).end0 = 600 := by unfold RSrc.end0; simp only; rw [if_neg (by omega), hb]; rfl
  rw [he] at h5
  simp only [List.length_nil] at h5
  generalize nextF 512 [] ⟨b, [], -1, 0, 0⟩ = R at *
  obtain ⟨c, bs, ρ⟩ := R
  simp only at *
  rcases h5 with ⟨j1, j2, j3, j4⟩ | ⟨j1, _⟩
  · refine ⟨j1, ?_, h1, ?_⟩
    · rw [j4, List.nil_append, List.length_take, List.length_drop, hb]; rfl
    rw [rdNext_ok]
    obtain ⟨g1, g2, g3, g4, g5⟩ := nextF_is 512 [] ρ h1 (Nat.zero_le _) (Nat.le_add_left _ _)
    have he2 : ρ.end0 = 600 := by unfold RSrc.end0; rw [h2, h3, if_neg (by omega), hb]; rfl
    rw [he2, j3] at g5
    simp only [List.length_nil] at g5
    rcases g5 with ⟨k1, k2, _⟩ | ⟨k1, k2, k3, k4⟩
    · omega
    · rw [k4, h3, if_neg (by omega)]; rfl
  · omega
end Go.Pax
namespace Go.Proofs.Ytljlcigbehgohaa
open Go.RowKit Go.Pax
theorem wr3 : (wWrite 0 ⟨[], [], -1, 0⟩ [97, 98, 99]).1 = 0 ∧ (wWrite 0 ⟨[], [], -1, 0⟩ [97, 98, 99]).2.Ok ∧ (wWrite 0 ⟨[], [], -1, 0⟩ [97, 98, 99]).2.b.length = 3 ∧
    (wWrite 0 (wWrite 0 ⟨[], [], -1, 0⟩ [97, 98, 99]).2 (List.replicate (padN 3) 0)).1 = 0 ∧ (wWrite 0 (wWrite 0 ⟨[], [], -1, 0⟩ [97, 98, 99]).2 (List.replicate (padN 3) 0)).2.b.length = 512 := by
  have hok : Snk.Ok ⟨[], [], -1, 0⟩ := Snk.ok_new (by decide) (by decide)
  rw [wWrite_ok, wWrite_ok]
  obtain ⟨h1, h2, h3, h4⟩ := Snk.all_free hok (by decide) [97, 98, 99]
  obtain ⟨g1, g2, g3, g4⟩ := Snk.all_free h4 (by rw [h3]; decide) (List.replicate (padN 3) 0)
  exact ⟨h1, h4, by rw [h2]; rfl, g1, by rw [g2, h2]; simp only [List.length_append, List.length_replicate]; rfl⟩

set_option maxRecDepth 100000 in
set_option maxHeartbeats 4000000 in
theorem blkAlive (w : World) : Calls Try.prog 42 #[] w fun e w' => e = .returned (.bool true) ∧ Chg [] w w' := by
  have kc := fun (w : World) (C : Array Value) (n c : Nat) => Lib.run_convert_bytes_const (P := Try.prog) w 22 5 C n c Try.underlying22 Try.underlying5
  obtain ⟨ib, hib, hib0, hib1, hib2⟩ := Try.infoB
  have WR := Lib.hid wr3
  obtain ⟨bz, hbz⟩ : ∃ bz : List UInt8, bz = List.replicate 600 0 := ⟨_, rfl⟩
  have hN : bz.length = 600 := by rw [hbz, List.length_replicate]
  have hok : RSrc.Ok ⟨bz, [], -1, 0, 0⟩ := RSrc.ok_new (by rw [hN]; decide) (by decide) (by decide)
  have NX := Lib.hid (nx1 bz hN hok)
  have HN := Lib.hid hN
  have HOK := Lib.hid hok
  have HBZ := Lib.hid hbz
  clear hN hok hbz
  go_enter Try.func42, Try.ntmps42
  go_upto_region 2 with (first
    | (at_make; refine wpList_make_full _ rfl (.const (.int .i64 600)) (.const (.int .i64 600)) 22 rfl w.heap.size 5 ib (.int .u8 0) 1 Try.underlying22 hib hib0 hib1 .i64 .i64 _ _ 600 rfl rfl rfl rfl (by rw [hib2]; omega) (by unfold maxLen; omega) (Nat.le_refl _) ?_; intro w1 hown1 hgr1; have HO1 := Lib.hid hown1; have HG1 := Lib.hid hgr1; clear hown1 hgr1)
    | (go_at_call 24; refine (srcNewN _ (some ⟨w.heap.size, 0, none⟩) none 600 600 0 0 bz [] (-1) [w.heap.size] HN.out rfl (by decide) (by decide) (by
        have h := HO1.out
        simp only [Value.cells, Nat.mul_one] at h
        rw [toList_madeCells_one, zeros_bv, ← HBZ.out] at h
        exact Rd.of_own h) (Rd.nil _ _ _)).mono ?_; rintro e w2 ⟨p, f1, rfl, s2, k2, b2, bf2⟩; have HS2 := Lib.hid s2; have HK2 := Lib.hid k2; have HBF2 := Lib.hid bf2; clear s2 k2 bf2)
    | (go_at_call 43; refine (newReader _ p f1 ⟨bz, [], -1, 0, 0⟩ HS2.out rfl (fun hm => by have := (HBF2.out _ hm).2; omega)).mono ?_; rintro e w3 ⟨r, rfl, s3, k3, hr3⟩; have HS3 := Lib.hid s3; have HK3 := Lib.hid k3; have HR3 := Lib.hid hr3; clear s3 k3 hr3))
  have k1 : Chg [] w w1 := Chg.of_grown HG1.out (by simp)
  have K03 := Lib.hid ((k1.trans HK2.out).trans HK3.out)
  clear k1
  go_upto_region 3 with (first
    | (go_at_call 36; refine (sinkNew _ 0 none 0 0 [] (-1) [] rfl (by decide) (by simp) (Rd.nil _ _ _)).mono ?_; rintro e w4 ⟨q, f2, rfl, s4, k4, b4, bf4⟩; have HS4 := Lib.hid s4; have HK4 := Lib.hid k4; have HBF4 := Lib.hid bf4; clear s4 k4 bf4)
    | (go_at_call 47; refine (newWriter _ 0 q f2 [] _ HS4.out rfl).mono ?_; rintro e w5 ⟨r2, rfl, h5, k5, hr5⟩; have HW5 := Lib.hid h5; have HK5 := Lib.hid k5; have HR5 := Lib.hid hr5; clear h5 k5 hr5))
  have K05 := Lib.hid ((K03.out.trans HK4.out).trans HK5.out)
  have hpf : p ∉ f1 := by obtain ⟨_, _, _, _, _, _, _, h, _⟩ := HS2.out; exact h
  have HPF := Lib.hid hpf
  clear hpf
  go_upto_region 6 with (go_at_call 44; refine (readerNext _ r p f1 0 _ (HS3.out.chg (HK4.out.trans HK5.out) (by simp) (by simp) (by simp)) HOK.out HPF.out).mono ?_; rintro e w6 ⟨⟨a6, c6, rfl, _⟩, s6, k6⟩; rw [NX.out.1, NX.out.2.1]; have HS6 := Lib.hid s6; have HK6 := Lib.hid k6; clear s6 k6)
  have hs6 := HS6.out
  rw [NX.out.1] at hs6
  have HS6' := Lib.hid hs6
  clear hs6
  go_upto_region 7 with (go_at_call 44; refine (readerNext _ r p f1 0 _ HS6'.out NX.out.2.2.1 HPF.out).mono ?_; rintro e w7 ⟨⟨a7, c7, rfl, _⟩, s7, k7⟩; rw [NX.out.2.2.2]; have HK7 := Lib.hid k7; clear s7 k7)
  have hw7 : WrtAt 0 w7 r2 q f2 [] 0 ⟨[], [], -1, 0⟩ := by
    have e3 := HR3.out
    have e5 := HR5.out
    have hp := HS2.out.lt
    have hz3 := HS3.out.lt
    have hz4 := HK4.out.size
    have hz5 := HS4.out.lt
    refine HW5.out.chg (HK6.out.trans HK7.out) (by simp; omega) (by simp; omega) (fun y hy => ?_) (by simp)
    have := HBF4.out y hy
    simp; omega
  have k07 : Chg [] w w7 := by
    have e3 := HR3.out
    have hz2 := HK2.out.size
    have hz1 := HG1.out.size
    have hp2 := HS2.out.lt
    exact K05.out.trans' (HK6.out.trans HK7.out) (by simp) (by simp; omega)
  have HW7 := Lib.hid hw7
  have K07 := Lib.hid k07
  clear hw7 k07
  go_wp2_with (first
    | (go_at_call 48; refine (writerWrite _ 0 r2 q f2 [] [w7.heap.size] 0 ⟨[], [], -1, 0⟩ [97, 98, 99] _ 3 (HW7.out.chg (S := []) ((Chg.refl [] _).alloc _) (by simp) (by simp) (by simp) (by simp)) (Snk.ok_new (by decide) (by decide)) (Rd.row (heap_alloc_new _ _) rfl (by simp)) (by decide) (by simp; have h1 := HW7.out.lt; have h2 := HW7.out.s.lt; omega) (by decide)).mono ?_; rintro e w8 ⟨rfl, hto8⟩; rw [WR.out.1]; have HTO8 := Lib.hid hto8; clear hto8)
    | (go_at_call 49; obtain ⟨o8, ⟨h8, n8⟩, k8⟩ := HTO8.out; rw [WR.out.1] at h8; have H8 := Lib.hid h8; have K8 := Lib.hid k8; have N8 := Lib.hid n8; clear h8 n8 k8; refine (writerPad _ 0 r2 q f2 o8 0 _ H8.out WR.out.2.1 (by rw [WR.out.2.2.1]; decide)).mono ?_; rintro e w9 ⟨rfl, hto9⟩; rw [WR.out.2.2.1] at hto9 ⊢; rw [WR.out.2.2.2.1]; have HTO9 := Lib.hid hto9; clear hto9)
    | (go_at_call 50; obtain ⟨o9, ⟨h9, n9⟩, k9⟩ := HTO9.out; have H9 := Lib.hid h9; have K9 := Lib.hid k9; clear h9 n9 k9; refine (writerOffset _ 0 r2 q f2 o9 _ _ H9.out).mono ?_; rintro e w10 ⟨rfl, rfl⟩; rw [WR.out.2.2.2.2]))
  go_ret
  have e5 := HR5.out
  have z5 := HS4.out.lt
  have hz := K03.out.size
  have h8 : Chg [] w w8 := (K07.out.alloc _).trans' K8.out (by simp) (fun x hx hl => by simp at hx; omega)
  have h9 : Chg [] w w10 := h8.trans' K9.out (by simp) (fun x hx hl => by
    rcases List.mem_cons.1 hx with rfl | hx
    · omega
    · rcases List.mem_cons.1 hx with rfl | hx
      · omega
      · rcases N8.out x hx with h | h
        · simp at h
        · have := K07.out.size; simp at h; omega)
  exact ⟨rfl, h9⟩
end Go.Proofs.Ytljlcigbehgohaa
