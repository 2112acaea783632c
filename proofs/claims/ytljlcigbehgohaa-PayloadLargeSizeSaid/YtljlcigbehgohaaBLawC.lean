/- paxtarlaw06.BlockPadAligns. -/
import Derived.Test.YtljlcigbehgohaaBLawB
namespace Go.Pax
open Go.RowKit
/-- A write through a writer over a sink that does not fail. -/
theorem wWrite_free {σ : Snk} (h : σ.Ok) (hf : σ.fail < 0) (x : List UInt8) : ∃ σ' : Snk, wWrite 0 σ x = (0, σ') ∧ σ'.b = σ.b ++ x ∧ σ'.fail = σ.fail ∧ σ'.Ok := by
  obtain ⟨h1, h2, h3, h4⟩ := Snk.all_free h hf x
  exact ⟨(σ.all x).2, by rw [wWrite_ok, ← h1], h2, h3, h4⟩
theorem padN_after (T : Nat) : (T + padN T) % 512 = 0 ∧ padN (T + padN T) = 0 := by unfold padN; omega
end Go.Pax
namespace Go.Proofs.Ytljlcigbehgohaa
open Go.RowKit Go.Pax

set_option maxRecDepth 100000 in
set_option maxHeartbeats 8000000 in
theorem blkPads (w : World) (bo : Option Addr) (bc : Nat) (b : List UInt8) (n : Int) (fp : List Nat) (hn : 0 ≤ n ∧ n ≤ 255) (hbc : b.length ≤ bc) (h1 : Rd w fp bo (bv b)) :
    Calls Try.prog 18 #[.slice bo b.length bc, .int .u8 n] w fun e w' => e = .returned (.bool true) ∧ Chg [] w w' := by
  obtain ⟨fq, hfq, hfl⟩ := h1.tight
  have H1 := Lib.hid hfq
  have HFL := Lib.hid hfl
  clear h1 hfq hfl
  obtain ⟨hn0, hn1⟩ := hn
  by_cases g2 : 3000 < b.length
  · go_enter Try.func18, Try.ntmps18
    go_wp2_with (go_at_call 42; refine (blkAlive _).mono ?_; rintro e w9 ⟨rfl, hc9⟩)
    go_ret
    exact ⟨rfl, hc9⟩
  obtain ⟨k5, hk5⟩ : ∃ k5 : Nat, n % 5 = k5 := ⟨(n % 5).toNat, by omega⟩
  have hk5l : k5 ≤ 4 := by omega
  have hok0 : Snk.Ok ⟨[], [], -1, 0⟩ := Snk.ok_new (by decide) (by decide)
  obtain ⟨σ1, a1, b1, c1, d1⟩ := wWrite_free hok0 (by decide) (List.replicate (512 * k5) 0)
  have hf1 : σ1.fail < 0 := by rw [c1]; decide
  obtain ⟨σ2, a2, b2, c2, d2⟩ := wWrite_free d1 hf1 b
  have hf2 : σ2.fail < 0 := by rw [c2]; exact hf1
  obtain ⟨σ3, a3, b3, c3, d3⟩ := wWrite_free d2 hf2 (List.replicate (padN σ2.b.length) 0)
  have hf3 : σ3.fail < 0 := by rw [c3]; exact hf2
  have l1 : σ1.b.length = 512 * k5 := by rw [b1]; simp
  have l2 : σ2.b.length = 512 * k5 + b.length := by rw [b2, List.length_append, l1]
  have l3 : σ3.b.length = σ2.b.length + padN σ2.b.length := by rw [b3]; simp
  obtain ⟨p1, p2⟩ := padN_after σ2.b.length
  have hpl := padN_lt σ2.b.length
  obtain ⟨σ4, a4, b4, c4, d4⟩ := wWrite_free d3 hf3 (List.replicate (padN σ3.b.length) 0)
  have l4 : σ4.b.length = σ3.b.length := by rw [b4, l3, p2]; simp; omega
  have hz : ∀ j, j < padN σ2.b.length → (σ3.b.drop σ2.b.length)[j]? = some 0 := by
    intro j hj
    rw [b3, List.drop_left, List.getElem?_replicate, if_pos hj]
  have A1 := Lib.hid a1
  have A2 := Lib.hid a2
  have A3 := Lib.hid a3
  have A4 := Lib.hid a4
  have D0 := Lib.hid hok0
  have D1 := Lib.hid d1
  have D2 := Lib.hid d2
  have D3 := Lib.hid d3
  have L1 := Lib.hid l1
  have L4 := Lib.hid l4
  have HZ := Lib.hid hz
  have hT0 : σ2.b.length = σ2.b.length := rfl
  generalize hT : σ2.b.length = T at *
  generalize hP : padN T = P at *
  generalize hL : b.length = L at *
  generalize hU : σ3.b.length = U at *
  have HT := Lib.hid hT
  have HP := Lib.hid hP
  have HL := Lib.hid hL
  have HU := Lib.hid hU
  have HT2 := Lib.hid l2
  have HU2 := Lib.hid l3
  have hTl : T ≤ 6000 := by omega
  have hUT : T ≤ U := by omega
  have hUl : U < T + 512 := by omega
  have hU5 : (U : Int) % 512 = 0 := by omega
  clear a1 a2 a3 a4 b1 b2 b3 b4 c1 c2 c3 c4 d1 d2 d3 d4 hf1 hf2 hf3 l1 l4 p1 p2 hz hT hP hL hU hok0 hT0 hpl l2 l3
  go_enter Try.func18, Try.ntmps18
  go_upto_region 5 with (first
    | (go_at_call 36; refine (sinkNew _ w.heap.size none 0 0 [] (-1) [] rfl (by decide) (Nat.le_refl _) (Rd.nil _ _ _)).mono ?_; rintro e w4 ⟨q, f2, rfl, s4, k4, b4, bf4⟩; have HS4 := Lib.hid s4; have HK4 := Lib.hid k4; have HBF4 := Lib.hid bf4; clear s4 k4 bf4)
    | (go_at_call 47; refine (newWriter _ w.heap.size q f2 [] _ HS4.out rfl).mono ?_; rintro e w5 ⟨r2, rfl, h5, k5, hr5⟩; have HW5 := Lib.hid h5; have HK5 := Lib.hid k5; have HR5 := Lib.hid hr5; clear h5 k5 hr5))
  have K05 := Lib.hid (HK4.out.trans HK5.out)
  have hbr : w.heap.size ≤ r2 := by have := HR5.out; have := HK4.out.size; omega
  go_upto_region 7 with (first
    | (go_at_call 53; refine (writerZeros _ w.heap.size r2 q f2 [] 0 _ k5 (by omega) HW5.out D0.out (by simp; omega)).mono ?_; rintro e w6 ⟨rfl, hto⟩; rw [A1.out] at hto ⊢; have HTO6 := Lib.hid hto; clear hto)
    | (go_at_call 48; obtain ⟨o6, ⟨h6, n6⟩, k6⟩ := HTO6.out; have HW6 := Lib.hid h6; have N6 := Lib.hid n6; have K6 := Lib.hid k6; clear h6 n6 k6; have K06 := Lib.hid (K05.out.nil_of K6.out (Nat.le_refl _) (by simp; omega)); have hst := writerWrite _ w.heap.size r2 q f2 o6 fq 0 σ1 b bo bc HW6.out D1.out (H1.out.chg K06.out (by simp)) (by rw [HL.out]; exact hbc) (fun y hy => by
        have h1 := (HFL.out y hy).2
        have h2 := K06.out.size
        exact ⟨by omega, by omega, fun hm => by have := HW6.out.s.ownlt y hm; omega, by omega⟩) (by rw [L1.out, HL.out]; omega); rw [HL.out] at hst; refine hst.mono ?_; clear hst; rintro e w7 ⟨rfl, hto⟩; rw [A2.out] at hto ⊢; have HTO7 := Lib.hid hto; clear hto))
  obtain ⟨o7, ⟨h7, n7⟩, k7⟩ := HTO7.out
  have h06 : ∀ y ∈ o6, w.heap.size ≤ y := fun y hy => (HW6.out.s.ownlt y hy).1
  have hk07 := K06.out.nil_of k7 (Nat.le_refl _) (by
    intro y hy
    rcases List.mem_cons.1 hy with rfl | hy
    · exact hbr
    · rcases List.mem_cons.1 hy with rfl | hy
      · exact b4
      · exact h06 y hy)
  have HW7 := Lib.hid h7
  have K07 := Lib.hid hk07
  clear h7 n7 k7 h06 hk07
  go_upto_region 12 with (first
    | (go_at_call 50; refine (writerOffset _ w.heap.size r2 q f2 o7 0 σ2 HW7.out).mono ?_; rintro e w8 ⟨rfl, hww⟩; obtain rfl := hww.symm; rw [HT.out])
    | (go_at_call 49; refine (writerPad _ w.heap.size r2 q f2 o7 0 σ2 HW7.out D2.out (by rw [HT.out]; omega)).mono ?_; rintro e w8 ⟨rfl, hto⟩; rw [HT.out, HP.out, A3.out] at hto; rw [HT.out, HP.out, A3.out]; have HTO8 := Lib.hid hto; clear hto; obtain ⟨o8, ⟨h8, n8⟩, k8⟩ := HTO8.out; have HW8 := Lib.hid h8; have K8 := Lib.hid k8; clear h8 n8 k8)
    | (go_at_call 50; refine (writerOffset _ w.heap.size r2 q f2 o8 0 σ3 HW8.out).mono ?_; rintro e w9 ⟨rfl, hww⟩; obtain rfl := hww.symm; rw [HU.out])
    | (go_at_call 32; refine (sinkBytes _ w.heap.size q f2 o8 σ3 HW8.out.s (by rw [HU.out]; omega)).mono ?_; rintro e w9 ⟨a9, c9, rfl, hown9, hgr9⟩; rw [HU.out] at hown9 ⊢; have HO9 := Lib.hid hown9; have HG9 := Lib.hid hgr9; clear hown9 hgr9))
  have hT2 : (512 : Int) * k5 + L = T := by have := HT2.out; omega
  obtain ⟨hrd, _, hU9⟩ := own_rd2 HO9.out
  have hdr := hrd.drop T c9 (by rw [bv_length, HU.out]; exact hU9)
  have HRD := Lib.hid hdr
  have k89 : Chg [] w8 w9 := Chg.of_grown HG9.out (by simp)
  have h07 : ∀ y ∈ o7, w.heap.size ≤ y := fun y hy => (HW7.out.s.ownlt y hy).1
  have hk09 := (K07.out.nil_of K8.out (Nat.le_refl _) (by
    intro y hy
    rcases List.mem_cons.1 hy with rfl | hy
    · exact hbr
    · rcases List.mem_cons.1 hy with rfl | hy
      · exact b4
      · exact h07 y hy)).trans k89
  have hw9 := HW8.out.chg k89 (by simp) (by simp) (by simp) (by simp)
  have HW9 := Lib.hid hw9
  have K09 := Lib.hid hk09
  clear hrd hdr k89 h07 hk09 hw9
  go_upto_region 14 with (fail)
  have hTi : (T : Int) ≤ U := by omega
  have hUi : (U : Int) ≤ c9 := by omega
  have hend : ∀ w', Chg [] w9 w' → Calls Try.prog 49 #[.pointer (some ⟨r2, 0, none⟩)] w' fun e w'' => e = .returned (.int .i64 0) ∧ ∃ o9, WrtAt w.heap.size w'' r2 q f2 o9 0 σ4 ∧ Chg [] w w'' := fun w' hk => by
    refine (writerPad w' w.heap.size r2 q f2 o8 0 σ3 (HW9.out.chg hk (by simp) (by simp) (by simp) (by simp)) D3.out (by rw [HU.out]; omega)).mono ?_
    rintro e w'' ⟨he, o9, ⟨h9, _⟩, k9⟩
    rw [HU.out] at he h9
    rw [A4.out] at he h9
    refine ⟨he, o9, h9, (K09.out.trans hk).nil_of k9 (Nat.le_refl _) ?_⟩
    intro y hy
    rcases List.mem_cons.1 hy with rfl | hy
    · exact hbr
    · rcases List.mem_cons.1 hy with rfl | hy
      · exact b4
      · exact (HW9.out.s.ownlt y hy).1
  have HEND := Lib.hid hend
  clear hend
  by_cases hcT : c9 = T
  · have hUT' : U = T := by omega
    subst hcT
    subst hUT'
    go_wp2_with fail
    go_loopw [84] (fun i wr => i = .int .i64 0 ∧ wr = w9) (fun i _ => 0)
    case atStart => exact ⟨rfl, rfl⟩
    case round =>
      obtain ⟨rfl, rfl⟩ := hrel
      go_wp2_with (first
          | (go_at_call 42; refine (blkAlive _).mono ?_; rintro e w10 ⟨rfl, hc10⟩; have HC10 := Lib.hid hc10; clear hc10)
          | (go_at_call 49; refine (HEND.out _ HC10.out).mono ?_; rintro e w11 ⟨rfl, o9, h9, k9⟩; have HW11 := Lib.hid h9; have K11 := Lib.hid k9; clear h9 k9)
          | (go_at_call 50; refine (writerOffset _ w.heap.size r2 q f2 _ 0 σ4 HW11.out).mono ?_; rintro e w12 ⟨rfl, hww⟩; obtain rfl := hww.symm; rw [L4.out]))
      go_ret
      exact ⟨rfl, K11.out⟩
  · obtain ⟨D, hD⟩ : ∃ D : Nat, (U : Int) - T = D := ⟨U - T, by omega⟩
    have hDn : U - T = D := by omega
    have hDP : D = P := by have := HU2.out; omega
    have HD := Lib.hid hDP
    clear hDP
    go_wp2_with fail
    go_loopw [84] (fun i wr => ∃ j : Nat, j ≤ D ∧ i = .int .i64 j ∧ wr = w9) (fun i _ => D - (intOf i).toNat)
    case atStart => exact ⟨0, Nat.zero_le _, rfl, rfl⟩
    case round =>
      obtain ⟨j, hj, rfl, rfl⟩ := hrel
      by_cases hlt : j < D
      · have hv : ((bv σ3.b).drop T)[j]? = some (.int .u8 0) := by
          rw [bv_drop]
          unfold bv
          rw [List.getElem?_map, HZ.out j (by have := HD.out; omega)]; rfl
        obtain ⟨ad, hao, _, hcell⟩ := HRD.out j _ hv
        unfold cutA at hao
        rw [if_neg hcT] at hao
        obtain ⟨g, hg9, _⟩ := own_block HO9.out (by omega)
        subst hg9
        simp only [Option.map_some, Option.some.injEq] at hao
        subst hao
        have hcell2 := HO9.out.cellAt (T + j) (by omega)
        have hv2 : (bv σ3.b)[T + j]? = some (.int .u8 0) := by rw [← hv, List.getElem?_drop]
        rw [hv2] at hcell2
        go_wp2_with fail
        go_roundw
        case rel => exact ⟨j + 1, by omega, by go_num, trivial⟩
        case measure => simp [intOf]; omega
      · have hjj : j = D := by omega
        subst hjj
        go_wp2_with (first
          | (go_at_call 42; refine (blkAlive _).mono ?_; rintro e w10 ⟨rfl, hc10⟩; have HC10 := Lib.hid hc10; clear hc10)
          | (go_at_call 49; refine (HEND.out _ HC10.out).mono ?_; rintro e w11 ⟨rfl, o9, h9, k9⟩; have HW11 := Lib.hid h9; have K11 := Lib.hid k9; clear h9 k9)
          | (go_at_call 50; refine (writerOffset _ w.heap.size r2 q f2 _ 0 σ4 HW11.out).mono ?_; rintro e w12 ⟨rfl, hww⟩; obtain rfl := hww.symm; rw [L4.out]))
        go_ret
        exact ⟨rfl, K11.out⟩
end Go.Proofs.Ytljlcigbehgohaa
