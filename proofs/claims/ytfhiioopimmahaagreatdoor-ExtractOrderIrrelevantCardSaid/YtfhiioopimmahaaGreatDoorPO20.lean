/- slices.SortStableFunc at a row of nodes. tree.Canon at any row of nodes. extract.empty, extract.Tree. -/
import Derived.Test.YtfhiioopimmahaaGreatDoorPO06
import Derived.Test.YtfhiioopimmahaaGreatDoorPO14
import Derived.Test.YtfhiioopimmahaaGreatDoorPO16
import Derived.Test.YtfhiioopimmahaaGreatDoorPO17
import Derived.Test.YtfhiioopimmahaaGreatDoorPO19
namespace Go.Proofs.YtfhiioopimmahaaGreatDoor
open Go.RowKit Go.Pax Go.Shelf
set_option maxRecDepth 100000 in
set_option maxHeartbeats 16000000 in
theorem stabN (w : World) (g n c : Nat) (L : List (ANode × Value)) (h : NRow w g n c L) :
    Calls Tryz.prog 102 #[.slice (some ⟨g, 0, none⟩) n c, .int .i64 n, .func (.func 77) #[] #[]] w fun e w' => e = .returned (.tuple #[]) ∧ SortedTo w w' g n c L 0 n := by
  have HI := Lib.hid (fun W L1 (k : NRow W g n c L1) a b (h1 : a ≤ b) (h2 : b ≤ n) => insN W g n c L1 a b k h1 h2)
  have HM := Lib.hid (fun W L1 (k : NRow W g n c L1) a m b (k1 : Asc nkey L1 a m) (k2 : Asc nkey L1 m b) (h1 : a < m) (h2 : m < b) (h3 : b ≤ n) => symN g n c _ W L1 a m b k k1 k2 h1 h2 h3 (Nat.le_refl _))
  have hnB : n ≤ 1000000 := h.short
  have H0 := Lib.hid h
  clear h
  go_enter Tryz.func102, Tryz.ntmps102
  go_wp2_with fail
  go_loopw [7, 8] (fun u v wr => ∃ (a : Nat) (L1 : List (ANode × Value)), u = .int .i64 a ∧ v = .int .i64 (a + 20 : Nat) ∧ NRow wr g n c L1 ∧ Shuf L L1 0 n ∧ BlkUp nkey L1 20 a n ∧ Chg [g] w wr) (fun u _ _ => n + 1 - (intOf u).toNat)
  case atStart => exact ⟨0, L, rfl, rfl, H0.out, Shuf.refl _ _ _, BlkUp.start _ _ _, Chg.refl _ _⟩
  case round =>
    obtain ⟨a, L1, rfl, rfl, hr, hsh, hup, hk⟩ := hrel
    have haB : a ≤ 1000000 := by have := hup.le; omega
    have HK := Lib.hid (And.intro hr (And.intro hsh (And.intro hup hk)))
    clear hr hsh hup hk
    by_cases hlt : a + 20 ≤ n
    · have hlti : ((a + 20 : Nat) : Int) ≤ (n : Int) := by omega
      have HIN := Lib.hid (HI.out wr L1 HK.out.1 a (a + 20) (by omega) hlt)
      obtain ⟨b, hb⟩ : ∃ x, x = a + 20 := ⟨_, rfl⟩
      rw [← hb] at HIN hlti ⊢
      have HBE := Lib.hid hb
      have hbB : b ≤ 1000000 := by omega
      clear hb
      go_wp2_with (go_at_call 120; refine HIN.out.mono ?_; rintro e w3 ⟨rfl, hw3⟩; have HW3 := Lib.hid hw3; clear hw3)
      obtain ⟨L2, q1, q2, q3, q4⟩ := HW3.out
      rw [HBE.out] at q2 q3
      go_roundw
      case rel => exact ⟨b, L2, rfl, by go_num, q1, HK.out.2.1.trans (q2.wide (by omega) (by omega) hlt), by rw [HBE.out]; exact HK.out.2.2.1.next hlt q2 q3, HK.out.2.2.2.trans q4⟩
      case measure => have := HBE.out; simp [intOf]; omega
    · have hlti : ¬ ((a + 20 : Nat) : Int) ≤ (n : Int) := by omega
      have HIN := Lib.hid (HI.out wr L1 HK.out.1 a n HK.out.2.2.1.le (Nat.le_refl _))
      have HLT := Lib.hid hlt
      obtain ⟨b, hb⟩ : ∃ x, x = a + 20 := ⟨_, rfl⟩
      rw [← hb] at hlti ⊢
      clear hb hlt
      go_wp2_with (go_at_call 120; refine HIN.out.mono ?_; rintro e w3 ⟨rfl, hw3⟩; have HW3 := Lib.hid hw3; clear hw3)
      have HB3 := Lib.hid (show ∃ L2, NRow w3 g n c L2 ∧ Shuf L L2 0 n ∧ Blk nkey L2 20 n ∧ Chg [g] w w3 from by
        obtain ⟨L2, q1, q2, q3, q4⟩ := HW3.out
        exact ⟨L2, q1, HK.out.2.1.trans (q2.wide (by omega) HK.out.2.2.1.le (Nat.le_refl _)), HK.out.2.2.1.last (by have := HLT.out; omega) q2 q3, HK.out.2.2.2.trans q4⟩)
      clear HW3 HK HIN HI H0
      go_loopw [6, 7, 8, 9] (fun u _ _ _ wr => ∃ (z : Nat) (L2 : List (ANode × Value)), u = .int .i64 z ∧ 1 ≤ z ∧ z ≤ 2000000 ∧ NRow wr g n c L2 ∧ Shuf L L2 0 n ∧ Blk nkey L2 z n ∧ Chg [g] w wr) (fun u _ _ _ _ => n - (intOf u).toNat)
      case atStart =>
        obtain ⟨L2, q⟩ := HB3.out
        exact ⟨20, L2, rfl, by omega, by omega, q⟩
      case round =>
        obtain ⟨z, L2, rfl, hz1, hz2, hr, hsh, hbl, hk⟩ := hrel
        have HZ := Lib.hid (And.intro hz1 (And.intro hr (And.intro hsh (And.intro hbl hk))))
        clear hz1 hk hr hsh hbl HB3
        by_cases hzn : z < n
        · obtain ⟨t, ht⟩ : ∃ x, x = 2 * z := ⟨_, rfl⟩
          have hti : 2 * (z : Int) = (t : Int) := by omega
          have htB : t ≤ 2000000 := by omega
          have HT := Lib.hid ht
          have hzB : z ≤ 1000000 := by omega
          clear ht hz2
          go_upto_region 9 with (fail)
          go_loopw [7, 8] (fun u v wr => ∃ (q : Nat) (L3 : List (ANode × Value)), u = .int .i64 q ∧ v = .int .i64 (q + t : Nat) ∧ NRow wr g n c L3 ∧ Shuf L L3 0 n ∧ BlkMid nkey L3 z q n ∧ Chg [g] w wr) (fun u _ _ => n + 1 - (intOf u).toNat)
          case atStart => exact ⟨0, L2, rfl, by simp, HZ.out.2.1, HZ.out.2.2.1, BlkMid.start HZ.out.2.2.2.1, HZ.out.2.2.2.2⟩
          case round =>
            obtain ⟨q, L3, rfl, rfl, hr, hsh, hbm, hk⟩ := hrel
            have hqB : q ≤ 1000000 := by have := hbm.le; omega
            have HQ := Lib.hid (And.intro hr (And.intro hsh (And.intro hbm hk)))
            clear hr hsh hbm hk
            obtain ⟨mm, hmm⟩ : ∃ x, x = q + z := ⟨_, rfl⟩
            have hmi : (q : Int) + (z : Int) = (mm : Int) := by omega
            have hmB : mm ≤ 2000000 := by omega
            by_cases hbn : q + t ≤ n
            · have hbi : ((q + t : Nat) : Int) ≤ (n : Int) := by omega
              have hpt : Asc nkey L3 q mm ∧ Asc nkey L3 mm (q + t) := by
                have h1 := HT.out
                have h2 := HZ.out.1
                have h3 := HQ.out.2.2.1.parts (by omega)
                rw [Nat.min_eq_left (by omega), ← h1, ← hmm] at h3
                exact h3
              have HS := Lib.hid (HM.out wr L3 HQ.out.1 q mm (q + t) hpt.1 hpt.2 (by have := HZ.out.1; omega) (by have := HZ.out.1; have := HT.out; omega) hbn)
              obtain ⟨b2, hb2⟩ : ∃ x, x = q + t := ⟨_, rfl⟩
              rw [← hb2] at HS hbi ⊢
              have HBE := Lib.hid hb2
              have hbB : b2 ≤ 1000000 := by omega
              obtain ⟨b3, hb3⟩ : ∃ x, x = b2 + t := ⟨_, rfl⟩
              have hni : (b2 : Int) + (t : Int) = (b3 : Int) := by omega
              have hb3B : b3 ≤ 4000000 := by omega
              have hb3w : IntKind.i64.wrap (b3 : Int) = (b3 : Int) := IntWalk.i64_in _ (by omega)
              have HB3 := Lib.hid hb3
              have HBN := Lib.hid hbn
              clear hb2 hmm hb3 hpt hbn
              go_wp2_with (go_at_call 121; refine HS.out.mono ?_; rintro e w5 ⟨rfl, hw5⟩; have HW5 := Lib.hid hw5; clear hw5)
              obtain ⟨L4, q1, q2, q3, q4⟩ := HW5.out
              rw [HBE.out] at q2 q3
              go_roundw
              case rel =>
                refine ⟨b2, L4, rfl, by rw [HB3.out], q1, HQ.out.2.1.trans (q2.wide (by omega) (by omega) HBN.out), ?_, HQ.out.2.2.2.trans q4⟩
                have h1 := HBN.out
                rw [HBE.out]
                rw [HT.out] at q2 q3 h1 ⊢
                exact HQ.out.2.2.1.next h1 q2 q3
              case measure => have := HBE.out; have := HT.out; have := HZ.out.1; simp [intOf]; omega
            · have hbi : ¬ ((q + t : Nat) : Int) ≤ (n : Int) := by omega
              have HBN := Lib.hid (And.intro hbn hmm)
              obtain ⟨b2, hb2⟩ : ∃ x, x = q + t := ⟨_, rfl⟩
              rw [← hb2] at hbi ⊢
              by_cases hmn : mm < n
              · have hmni : (mm : Int) < (n : Int) := by omega
                have hpt : Asc nkey L3 q mm ∧ Asc nkey L3 mm n := by
                  have h1 := HT.out
                  have h2 := HZ.out.1
                  have h3 := HQ.out.2.2.1.parts (by omega)
                  rw [Nat.min_eq_right (by omega), ← hmm] at h3
                  exact h3
                have HS := Lib.hid (HM.out wr L3 HQ.out.1 q mm n hpt.1 hpt.2 (by have := HZ.out.1; omega) hmn (Nat.le_refl _))
                clear hb2 hmm hbn hpt
                go_wp2_with (go_at_call 121; refine HS.out.mono ?_; rintro e w5 ⟨rfl, hw5⟩; have HW5 := Lib.hid hw5; clear hw5)
                obtain ⟨L4, q1, q2, q3, q4⟩ := HW5.out
                go_roundw
                case rel =>
                  refine ⟨t, L4, by first | rfl | go_num, by have := HT.out; have := HZ.out.1; omega, by omega, q1, HQ.out.2.1.trans (q2.wide (by omega) HQ.out.2.2.1.le (Nat.le_refl _)), ?_, HQ.out.2.2.2.trans q4⟩
                  rw [HT.out]
                  exact HQ.out.2.2.1.last (by have := HBN.out; have := HT.out; omega) q2 q3
                case measure => have := HT.out; have := HZ.out.1; simp [intOf]; omega
              · have hmni : ¬ (mm : Int) < (n : Int) := by omega
                have HSH := Lib.hid (HQ.out.2.2.1.short (show n ≤ q + z by omega))
                clear hb2 hmm hbn
                go_wp2_with fail
                go_roundw
                case rel =>
                  refine ⟨t, L3, by first | rfl | go_num, by have := HT.out; have := HZ.out.1; omega, by omega, HQ.out.1, HQ.out.2.1, ?_, HQ.out.2.2.2⟩
                  rw [HT.out]
                  exact HQ.out.2.2.1.last (by have := HBN.out; have := HT.out; omega) (Shuf.refl _ _ _) HSH.out
                case measure => have := HT.out; have := HZ.out.1; simp [intOf]; omega
        · have hzi : ¬ (z : Int) < (n : Int) := by omega
          go_wp2_with fail
          go_end0
          exact ⟨rfl, L2, HZ.out.2.1, HZ.out.2.2.1, HZ.out.2.2.2.1.whole (by omega), HZ.out.2.2.2.2⟩
set_option maxHeartbeats 4000000 in
theorem sortN (w : World) (g n c : Nat) (L : List (ANode × Value)) (h : NRow w g n c L) :
    Calls Tryz.prog 76 #[.slice (some ⟨g, 0, none⟩) n c, .func (.func 77) #[] #[]] w fun e w' => e = .returned (.tuple #[]) ∧ SortedTo w w' g n c L 0 n := by
  have HS := Lib.hid (stabN w g n c L h)
  clear h
  go_enter Tryz.func76, Tryz.ntmps76
  go_wp2_with (go_at_call 102; refine HS.out.mono ?_; rintro e w2 ⟨rfl, hk⟩; have HK := Lib.hid hk; clear hk)
  go_end0
  exact ⟨rfl, HK.out⟩
end Go.Proofs.YtfhiioopimmahaaGreatDoor
namespace Go.Proofs.YtfhiioopimmahaaGreatDoor
open Go.RowKit Go.Pax Go.Shelf
set_option maxRecDepth 100000 in
set_option maxHeartbeats 16000000 in
theorem canonN (w : World) (ao : Option Addr) (n cap : Nat) (fp fd : List Nat) (L : List (ANode × Value)) (h : NdRd w fp ao L) (hn : L.length = n) (hnB : n ≤ 1000000) (hd : ∀ x ∈ L, RdD w fd x.2 x.1.data ∧ x.1.data.length ≤ 140737488355328) (hfp : ∀ g ∈ fp, g < w.heap.size) (hfd : ∀ g ∈ fd, g < w.heap.size) :
    Calls Tryz.prog 35 #[.slice ao n cap] w fun e w' => ∃ (M : List ANode) (L' : List (ANode × Value)), M.Perm (L.map Prod.fst) ∧ (M.Pairwise fun x y => ¬ y.path < x.path) ∧ e = .returned (.slice (some ⟨w.heap.size, 0, none⟩) n n) ∧ w'.ownsRow w.heap.size 45 6 (.slice (some ⟨w.heap.size, 0, none⟩) n n) n (ndcells L') ∧ L'.map Prod.fst = (canonS (fun c => (lkJ (cnts L) c).getD 0) M).2 ∧
      (∀ x ∈ L', ∃ fq, RdD w' fq x.2 x.1.data ∧ ∀ y ∈ fq, w.heap.size ≤ y ∧ y < w'.heap.size ∧ y ≠ w.heap.size) ∧ Chg [] w w' := by
  have hdv : ∀ x ∈ L, ∃ a l c, x.2 = .slice a l c := fun x hx => by
    obtain ⟨a, c, h1, _⟩ := (hd x hx).1
    exact ⟨a, _, c, h1⟩
  have HC := Lib.hid (fun W (k : Chg [] w W) => counts W ao n cap fp L (h.chg k (by simp)) hn hnB hdv (fun g hg => Nat.lt_of_lt_of_le (hfp g hg) k.size))
  have H := Lib.hid (And.intro h (And.intro hn (And.intro hd (And.intro hfp hfd))))
  obtain ⟨ni, hni, hni0, hni1, hni2⟩ := info_parts Tryz.infoND
  clear h hn hd hfp hfd hdv
  go_enter Tryz.func35, Tryz.ntmps35
  go_upto_region 3 with (first
    | (at_make; refine wpList_make_full _ rfl (.tmp 11) (.tmp 11) 35 rfl w.heap.size 45 ni (.agg #[.int .i64 0, .string ⟨#[]⟩, .int .i64 0, .string ⟨#[]⟩, .slice none 0 0, .int .i64 0]) 6 Tryz.underlying35 hni hni0 hni1 .i64 .i64 _ _ n rfl rfl rfl rfl (by rw [hni2]; omega) (by unfold maxLen; omega) (Nat.le_refl _) ?_; intro w1 hown hgr; rw [made_nodes] at hown; have HW1 := Lib.hid (And.intro hown ((Chg.refl [] w).grown hgr (by simp))); clear hown hgr)
    | (go_at_call 73; refine (HC.out _ HW1.out.2).mono ?_; rintro e w2 ⟨mc, rfl, hmc, hmj, hk2⟩; have HW2 := Lib.hid (And.intro hmc (And.intro hmj hk2)); clear hmc hmj hk2))
  have hC0 : Copied w w2 w.heap.size n L 0 [] := ⟨rfl, by simp, by rw [List.nil_append, Nat.sub_zero]; exact own_keepS HW1.out.1 HW2.out.2.2 (by simp), fun x hx => by simp at hx, HW1.out.2.trans HW2.out.2.2⟩
  have HC0 := Lib.hid hC0
  clear hC0
  obtain ⟨g, hg⟩ : ∃ x, x = w.heap.size := ⟨_, rfl⟩
  rw [← hg] at HC0 ⊢
  have HG := Lib.hid hg
  clear hg
  have HMM := Lib.hid (show g ≠ mc from fun e => by have := HW2.out.1; have := HW1.out.1; obtain ⟨x, hx⟩ := own_blockS this (g := w.heap.size) rfl; have := lt_of_block hx; have := HG.out; omega)
  go_wp2_with fail
  go_loopw [17, 5, 6] (fun u _ _ wr => ∃ (k : Nat) (C : List (ANode × Value)), u = .int .i64 k ∧ k ≤ n ∧ Copied w wr g n L k C ∧ Chg [g] w2 wr) (fun u _ _ _ => n - (intOf u).toNat)
  case atStart => exact ⟨0, [], rfl, Nat.zero_le _, HC0.out, Chg.refl _ _⟩
  case round =>
    obtain ⟨k, C, rfl, hkn, hcp, hk2⟩ := hrel
    have HK := Lib.hid (And.intro hcp (And.intro hkn hk2))
    have hkB : k ≤ 1000000 := by omega
    clear hcp hkn hk2
    by_cases hlt : k < n
    · have hkL : k < L.length := by rw [H.out.2.1]; exact hlt
      obtain ⟨ad, rfl, hbl, c0, hcl⟩ := (H.out.1.chg HK.out.1.chg (by simp)) k hkL
      obtain ⟨hrd, hdl⟩ := H.out.2.2.1 _ (List.getElem_mem hkL)
      obtain ⟨da, dc, hde, hdr⟩ := hrd
      rw [hde] at hcl
      have c1 := hcl 1 _ rfl
      have c2 := hcl 2 _ rfl
      have c3 := hcl 3 _ rfl
      have c4 := hcl 4 _ rfl
      have c5 := hcl 5 _ rfl
      have HCL := Lib.hid (fun W (kw : Chg [] w W) => cloneBytes W da L[k].1.data.length dc fd L[k].1.data rfl hdl (hdr.chg kw (by simp)))
      clear hcl hbl hdr
      generalize hX : L[k].1 = X at *
      have HX := Lib.hid (And.intro hX (And.intro hde hdl))
      clear hX hde hdl
      generalize hx1 : X.kind = x1 at *
      generalize hx2 : ba X.path = x2 at *
      generalize hx3 : X.mode = x3 at *
      generalize hx4 : ba X.target = x4 at *
      generalize hx6 : X.cls = x6 at *
      generalize hdl : X.data.length = dl at *
      have HF := Lib.hid (And.intro hx1 (And.intro hx2 (And.intro hx3 (And.intro hx4 (And.intro hx6 hdl)))))
      clear hx1 hx2 hx3 hx4 hx6 hdl
      go_upto_region 6 with (fail)
      clear c0 c1 c2 c3 c4 c5
      have e1 := heap_alloc_new wr (.cells #[.int .i64 x1, .string x2, .int .i64 x3, .string x4, .slice da dl dc, .int .i64 x6] 45)
      have hk1 : Chg [] wr (wr.alloc (.cells #[.int .i64 x1, .string x2, .int .i64 x3, .string x4, .slice da dl dc, .int .i64 x6] 45)) := (Chg.refl _ _).alloc _
      have hgb : g ≠ wr.heap.size := fun e => by obtain ⟨x, hx⟩ := own_blockS HK.out.1.row (g := g) rfl; have := lt_of_block hx; omega
      have HK1 := Lib.hid (And.intro hk1 hgb)
      clear hk1 hgb
      generalize wr.alloc (.cells #[.int .i64 x1, .string x2, .int .i64 x3, .string x4, .slice da dl dc, .int .i64 x6] 45) = W1 at *
      obtain ⟨bn, hbn⟩ : ∃ x, x = wr.heap.size := ⟨_, rfl⟩
      rw [← hbn] at e1 HK1 ⊢
      clear hbn
      have j0 := cell_heap e1 0 (v := .int .i64 x1) rfl
      have j1 := cell_heap e1 1 (v := .string x2) rfl
      have j2 := cell_heap e1 2 (v := .int .i64 x3) rfl
      have j3 := cell_heap e1 3 (v := .string x4) rfl
      have j4 := cell_heap e1 4 (v := .slice da dl dc) rfl
      have j5 := cell_heap e1 5 (v := .int .i64 x6) rfl
      have HTH := Lib.hid (own_there (own_keepS HK.out.1.row HK1.out.1 (by simp)) (o := k * 6) (m := 6) (by omega))
      have hkg : Chg [g] W1 (W1.setCells g (k * 6) [.int .i64 x1, .string x2, .int .i64 x3, .string x4, .slice da dl dc, .int .i64 x6]) := setCells_chg
      have hr2 := own_putNd (own_keepS HK.out.1.row HK1.out.1 (by simp)) hlt X (.slice da dl dc)
      have hnd : ndc X (.slice da dl dc) = [.int .i64 x1, .string x2, .int .i64 x3, .string x4, .slice da dl dc, .int .i64 x6] := by unfold ndc; rw [HF.out.1, HF.out.2.1, HF.out.2.2.1, HF.out.2.2.2.1, HF.out.2.2.2.2.1]
      rw [hnd] at hr2
      have j4' := cell_heap (hkg.heap e1 (by have := HK1.out.2; simp; exact fun e => this e.symm)) 4 (v := .slice da dl dc) rfl
      have HR2 := Lib.hid (And.intro hr2 hkg)
      clear e1 hr2 hkg hnd
      obtain ⟨W2, hW2⟩ : ∃ x, x = W1.setCells g (k * 6) [.int .i64 x1, .string x2, .int .i64 x3, .string x4, .slice da dl dc, .int .i64 x6] := ⟨_, rfl⟩
      rw [← hW2] at j4' HR2
      have HW2E := Lib.hid hW2
      clear hW2
      have hcw : Chg [] w W2 := (HK.out.1.chg.trans HK1.out.1).trans' HR2.out.2 (by simp) (fun x hx hl => by have := HG.out; simp at hx; omega)
      have HCW := Lib.hid hcw
      clear hcw
      go_wp2_with (first
        | (refine wpList_store_mid rfl 45 (.tmp 25) (.tmp 24) rfl g (k * 6) #[.int .i64 x1, .string x2, .int .i64 x3, .string x4, .slice da dl dc, .int .i64 x6] rfl rfl HTH.out Tryz.nodeSize (nd_ones _ _ _ _ _ _ _ _) ?_; rw [← HW2E.out])
        | (go_at_call 75; refine (HCL.out _ HCW.out).mono ?_; rintro e w5 ⟨ca, cc, rfl, ho5, hg5⟩; have hk5 : Chg [] W2 w5 := (Chg.refl _ _).grown hg5 (by simp); have hth5 := there_one (own_there (own_keepS HR2.out.1 hk5 (by simp)) (o := k * 6) (m := 6) (by omega)) (j := 4) (by omega); obtain ⟨⟨v5, c5⟩, f5⟩ := hth5; have HW5 := Lib.hid (And.intro ho5 hk5); clear ho5 hg5 hk5))
      have hst := Copied.step (dv := .slice da dl dc) (ca := ca) (cc := cc) (w5 := w5) HK.out.1 HG.out hkL hlt HX.out.1 HK1.out.1 HR2.out.1 HR2.out.2 HW5.out.2 (by rw [HF.out.2.2.2.2.2]; exact HW5.out.1)
      rw [HF.out.2.2.2.2.2] at hst
      have HST := Lib.hid hst
      clear hst
      go_roundw
      case rel => exact ⟨k + 1, _, by go_num, by omega, HST.out.1, HK.out.2.2.trans HST.out.2⟩
      case measure => simp [intOf]; omega
    · have hkk : k = n := by have := HK.out.2.1; omega
      subst hkk
      have hrow := HK.out.1.row
      rw [Nat.sub_self, List.replicate_zero, List.append_nil] at hrow
      have hnr : NRow wr g k k C := ⟨⟨_, hrow⟩, HK.out.1.len, fun x hx => by
        obtain ⟨fq, ⟨a, c, h1, _⟩, _⟩ := HK.out.1.data x hx
        exact ⟨a, _, c, h1⟩, hnB⟩
      have HSR := Lib.hid (sortN wr g k k C hnr)
      have HCO := Lib.hid (And.intro HK.out.1.len (And.intro HK.out.1.data HK.out.1.same))
      clear hrow hnr
      go_upto_region 10 with (go_at_call 76; refine HSR.out.mono ?_; rintro e w6 ⟨rfl, C, hr', hsh, hasc, hk6⟩; have HS6 := Lib.hid (And.intro hr' (And.intro hsh hasc)); have HK6 := Lib.hid hk6; clear hr' hsh hasc hk6)
      have hperm := HS6.out.2.1.all (Nat.zero_le _)
      have HCP := Lib.hid (show C.length = k ∧ (∀ x ∈ C, ∃ fq, RdD w6 fq x.2 x.1.data ∧ ∀ y ∈ fq, w.heap.size ≤ y ∧ y < w6.heap.size ∧ y ≠ w.heap.size) ∧ (C.map Prod.fst).Perm (L.map Prod.fst) ∧ (C.map Prod.fst).Pairwise fun x y => ¬ y.path < x.path from by
        refine ⟨HS6.out.1.len, fun x hx => ?_, ?_, ?_⟩
        · obtain ⟨fq, h1, h2⟩ := HCO.out.2.1 x (hperm.mem_iff.1 hx)
          have h3 := HG.out
          have h4 := HK6.out.size
          exact ⟨fq, h1.chg HK6.out (fun y hy hm => by have := h2 y hy; simp at hm; omega), fun y hy => by have := h2 y hy; omega⟩
        · have h1 := HCO.out.2.2
          rw [List.take_of_length_le (Nat.le_of_eq H.out.2.1)] at h1
          rw [← h1]
          exact hperm.map _
        · have h1 := HS6.out.2.2
          unfold Asc seg at h1
          rw [List.drop_zero, Nat.sub_zero, List.take_of_length_le (by have := HS6.out.1.len; omega)] at h1
          exact List.pairwise_map.2 h1)
      have hk6w : Chg [] w w6 := HK.out.1.chg.trans' HK6.out (by simp) (fun x hx hl => by have := HG.out; simp at hx; omega)
      have hmc6 : MapJ w6 mc (cnts L) := (HW2.out.2.1.chg HK.out.2.2 (by have := HMM.out; simp; exact fun e => this e.symm)).chg HK6.out (by have := HMM.out; simp; exact fun e => this e.symm)
      have hr6 : w6.ownsRow w.heap.size 45 6 (.slice (some ⟨g, 0, none⟩) k k) k (ndcells C) := by
        obtain ⟨B6, h6⟩ := HS6.out.1.row
        exact own_base h6 (fun x hx => by have := HG.out; simp [Value.ownBlock] at hx; omega)
      clear hperm
      have hmm := @run_makeMap Tryz.prog
      have HM6 := Lib.hid (And.intro (MapJ.new w6) (And.intro ((Chg.refl [] w6).alloc (.map #[] 0)) (And.intro hk6w (And.intro hmc6 hr6))))
      have hgl6 : g < w6.heap.size := by obtain ⟨x, hx⟩ := own_blockS hr6 (g := g) rfl; exact lt_of_block hx
      have HNE := Lib.hid (And.intro hgl6 hmc6.lt)
      clear hk6w hmc6 hr6 hgl6
      go_upto_region 11 with (fail)
      obtain ⟨mn, hmn⟩ : ∃ x, x = w6.heap.size := ⟨_, rfl⟩
      rw [← hmn] at HM6 HNE ⊢
      have HMN := Lib.hid hmn
      clear hmn hmm
      generalize w6.alloc (.map #[] 0) = w7 at *
      go_wp2_with fail
      obtain ⟨cnt, hcnt⟩ : ∃ f : Int → Int, f = fun c => (lkJ (cnts L) c).getD 0 := ⟨_, rfl⟩
      have HCNT := Lib.hid hcnt
      clear hcnt
      go_loopw [39, 8, 9] (fun u _ _ wq => ∃ (i : Nat) (D : List (ANode × Value)), u = .int .i64 i ∧ Numbered w w7 wq g mn k cnt C i D) (fun u _ _ _ => k - (intOf u).toNat)
      case atStart => exact ⟨0, [], rfl, Nat.zero_le _, rfl, rfl, rfl, by rw [List.nil_append, List.drop_zero]; exact own_keepS HM6.out.2.2.2.2 HM6.out.2.1 (by simp), HM6.out.1, Chg.refl _ _⟩
      case round =>
        obtain ⟨i, D, rfl, hq⟩ := hrel
        have hiB : i ≤ 1000000 := by have := hq.le; omega
        have HQ := Lib.hid hq
        clear hq
        by_cases hlt : i < k
        · have hCk := HCP.out.1
          have hi : i < C.length := by omega
          obtain ⟨hj, hje⟩ := HQ.out.at hi
          have c5 := HQ.out.row.cells (g := g) rfl (i * 6 + 5) (.int .i64 C[i].1.cls) (by rw [ndcells_get _ i hj 5 (by omega), hje]; rfl)
          rw [add_at] at c5
          have hgm : g ≠ mn := by have := HNE.out.1; omega
          have HFX := Lib.hid (fun W (kw : Chg [mn] wr W) => (show W.cell? ⟨g, i * 6 + 5, none⟩ = some (.int .i64 C[i].1.cls) ∧ W.frozen? ⟨g, i * 6 + 5, none⟩ = false from
            ⟨kw.cell c5 (by simpa using hgm), (there_one (own_there (own_keepS HQ.out.row kw (fun x hx hm => by simp [Value.ownBlock] at hx hm; omega)) (o := i * 6) (m := 6) (by omega)) (j := 5) (by omega)).2⟩))
          have HFIN := Lib.hid (fun W z (kw : Chg [mn] wr W) (hm : MapJ W mn (numStep cnt (canonS cnt ((C.take i).map Prod.fst)).1 C[i].1.cls).1) (hz : z = (numStep cnt (canonS cnt ((C.take i).map Prod.fst)).1 C[i].1.cls).2) => (show ∃ D', Numbered w w7 (W.setCell ⟨g, i * 6 + 5, none⟩ (.int .i64 z)) g mn k cnt C (i + 1) D' from by
            have kf : Chg [g] W (W.setCell ⟨g, i * 6 + 5, none⟩ (.int .i64 z)) := (Chg.refl _ _).setCell (fun _ => by simp) _
            refine ⟨_, HQ.out.step hCk hi hz (hm.chg kf (by simp; exact fun e => hgm e.symm)) ?_ ((kw.mono (by simp)).trans (kf.mono (by simp)))⟩
            exact own_putFld (own_keepS HQ.out.row kw (fun x hx hm => by simp [Value.ownBlock] at hx hm; omega)) hj 5 (by omega) _ _ (by rw [hje]; rfl)))
          have hmcw : MapJ wr mc (cnts L) := (HM6.out.2.2.2.1.chg HM6.out.2.1 (by simp)).chg HQ.out.chg (by have h1 := HMM.out; have h2 := HNE.out.2; simp; exact ⟨fun e => h1 e.symm, by omega⟩)
          have hl1 := run_lookupJ1 (P := Tryz.prog) (T := 136) Tryz.underlying136 Tryz.underlying3 (fun W => by kernel_rfl) hmcw C[i].1.cls
          have hcv : (lkJ (cnts L) C[i].1.cls).getD 0 = cnt C[i].1.cls := by rw [HCNT.out]
          rw [hcv] at hl1
          have HMP := Lib.hid HQ.out.map
          have f5 := (HFX.out wr (Chg.refl _ _)).2
          clear hmcw hcv hj hje
          have HOK := Lib.hid (And.intro (canonS_ok cnt ((C.take i).map Prod.fst)).1 (show (canonS cnt ((C.take i).map Prod.fst)).1.length ≤ 1000000 from by have := (canonS_ok cnt ((C.take i).map Prod.fst)).2.1; rw [List.length_map, List.length_take] at this; omega))
          generalize hS : (canonS cnt ((C.take i).map Prod.fst)).1 = S at *
          generalize hcl : C[i].1.cls = cl at *
          clear hS hcl
          by_cases h0 : cl ≤ 0
          · have hns : numStep cnt S cl = (S, 0) := by unfold numStep; rw [if_pos (.inl h0)]
            rw [hns] at HFIN
            have HF0 := Lib.hid (HFIN.out wr 0 (Chg.refl _ _) HMP.out rfl)
            clear hns
            go_wp2_with fail
            obtain ⟨D', hD'⟩ := HF0.out
            go_roundw
            case rel => exact ⟨i + 1, D', by go_num, hD'⟩
            case measure => simp [intOf]; omega
          · by_cases h2 : cnt cl < 2
            · have hns : numStep cnt S cl = (S, 0) := by unfold numStep; rw [if_pos (.inr h2)]
              rw [hns] at HFIN
              have HF0 := Lib.hid (HFIN.out wr 0 (Chg.refl _ _) HMP.out rfl)
              clear hns
              generalize cnt cl = cv at *
              go_wp2_with fail
              obtain ⟨D', hD'⟩ := HF0.out
              go_roundw
              case rel => exact ⟨i + 1, D', by go_num, hD'⟩
              case measure => simp [intOf]; omega
            · have h2i : ¬ (cnt cl : Int) < 2 := h2
              cases hl : lkJ S cl with
              | some b =>
                have hns : numStep cnt S cl = (S, b) := by unfold numStep; rw [if_neg (by omega), hl]
                rw [hns] at HFIN
                have HF0 := Lib.hid (HFIN.out wr b (Chg.refl _ _) HMP.out rfl)
                have hl2 := run_lookupJ1_some (P := Tryz.prog) (T := 136) Tryz.underlying136 Tryz.underlying3 HMP.out hl
                have hb := HOK.out.1.range cl b hl
                have hb0 : ¬ b = 0 := by omega
                clear hns hl hb
                generalize cnt cl = cv at *
                go_wp2_with fail
                obtain ⟨D', hD'⟩ := HF0.out
                go_roundw
                case rel => exact ⟨i + 1, D', by go_num, hD'⟩
                case measure => simp [intOf]; omega
              | none =>
                have hns : numStep cnt S cl = (upJ S cl ((S.length : Int) + 1), (S.length : Int) + 1) := by unfold numStep; rw [if_neg (by omega), hl]
                rw [hns] at HFIN
                have hl2 := run_lookupJ1_none (P := Tryz.prog) (T := 136) Tryz.underlying136 Tryz.underlying3 (fun W => by kernel_rfl) HMP.out hl
                obtain ⟨W8, hup, hm8, hk8, _⟩ := run_updateJ (P := Tryz.prog) (T := 136) Tryz.underlying136 Tryz.underlying3 HMP.out cl ((S.length : Int) + 1)
                have hl3 := run_lookupJ1_some (P := Tryz.prog) (T := 136) Tryz.underlying136 Tryz.underlying3 hm8 (k := cl) (b := (S.length : Int) + 1) (by rw [lkJ_upJ, if_pos rfl])
                have HF0 := Lib.hid (HFIN.out W8 _ hk8 hm8 rfl)
                have c8 := (HFX.out W8 hk8).1
                have f8 := (HFX.out W8 hk8).2
                obtain ⟨es, ck, hes, hmap⟩ := HMP.out
                have hsz : es.size = S.length := by have := congrArg List.length hmap; simpa using this
                have hSB := HOK.out.2
                have hlenm := run_len_map (P := Tryz.prog) (w := wr) 136 3 mn es ck (by kernel_rfl) hes
                rw [hsz] at hlenm
                clear hns hl hm8 hk8 hes hmap hsz f5
                generalize cnt cl = cv at *
                generalize S.length = SL at *
                go_wp2_with fail
                obtain ⟨D', hD'⟩ := HF0.out
                go_roundw
                case rel => exact ⟨i + 1, D', by go_num, hD'⟩
                case measure => simp [intOf]; omega
        · have hii : i = k := by have := HQ.out.le; omega
          subst hii
          go_wp2_with fail
          go_ret
          have hCk := HCP.out.1
          have hgw := HG.out
          have hrow := HQ.out.row
          rw [List.drop_of_length_le (by omega), List.append_nil] at hrow
          have hcl := HQ.out.cls
          have hvl := HQ.out.val
          rw [List.take_of_length_le (by omega)] at hcl hvl
          have hw7 : Chg [] w w7 := HM6.out.2.2.1.trans HM6.out.2.1
          have hwr : Chg [] w wr := hw7.trans' HQ.out.chg (by simp) (fun x hx hl => by
            have := HMN.out
            have := HM6.out.2.2.1.size
            simp at hx; omega)
          have hdat : ∀ x ∈ D, ∃ fq, RdD wr fq x.2 x.1.data ∧ ∀ y ∈ fq, w.heap.size ≤ y ∧ y < wr.heap.size ∧ y ≠ w.heap.size := fun x hx => by
            obtain ⟨j, hj, rfl⟩ := List.mem_iff_getElem.1 hx
            have hDl := HQ.out.len
            have hjC : j < C.length := by omega
            have e1 : D[j].2 = C[j].2 := by
              have := congrArg (fun l => l[j]?) hvl
              simpa [List.getElem?_map, List.getElem?_eq_getElem hj, List.getElem?_eq_getElem hjC] using this
            have e2 : D[j].1.data = C[j].1.data := by
              have := congrArg (fun l => l[j]?) hcl
              rw [(canonS_ok cnt (C.map Prod.fst)).2.2.1] at this
              simp only [List.getElem?_map, List.getElem?_eq_getElem hj, List.getElem?_eq_getElem hjC, Option.map_some, Option.some.injEq] at this
              rw [this]
            obtain ⟨fq, h1, h2⟩ := HCP.out.2.1 _ (List.getElem_mem hjC)
            rw [e1, e2]
            have hmn := HMN.out
            have h8 := HM6.out.2.1.size
            have h9 := HQ.out.chg.size
            refine ⟨fq, (h1.chg HM6.out.2.1 (by simp)).chg HQ.out.chg (fun y hy hm => ?_), fun y hy => ?_⟩
            · have := h2 y hy
              simp at hm; omega
            · have := h2 y hy
              omega
          rw [hgw] at hrow ⊢
          refine ⟨C.map Prod.fst, D, HCP.out.2.2.1, HCP.out.2.2.2, rfl, hrow, ?_, hdat, hwr⟩
          rw [hcl, HCNT.out]
theorem canonSorted (w : World) (ao : Option Addr) (n cap : Nat) (fp fd : List Nat) (L : List (ANode × Value)) (h : NdRd w fp ao L) (hn : L.length = n) (hnB : n ≤ 1000000) (hd : ∀ x ∈ L, RdD w fd x.2 x.1.data ∧ x.1.data.length ≤ 140737488355328) (hfp : ∀ g ∈ fp, g < w.heap.size) (hfd : ∀ g ∈ fd, g < w.heap.size)
    (hs : ∀ i j (hi : i < L.length) (hj : j < L.length), i < j → L[i].1.path < L[j].1.path) :
    Calls Tryz.prog 35 #[.slice ao n cap] w fun e w' => ∃ L' : List (ANode × Value), e = .returned (.slice (some ⟨w.heap.size, 0, none⟩) n n) ∧ w'.ownsRow w.heap.size 45 6 (.slice (some ⟨w.heap.size, 0, none⟩) n n) n (ndcells L') ∧ L'.map Prod.fst = (canonS (fun c => (lkJ (cnts L) c).getD 0) (L.map Prod.fst)).2 ∧
      (∀ x ∈ L', ∃ fq, RdD w' fq x.2 x.1.data ∧ ∀ y ∈ fq, w.heap.size ≤ y ∧ y < w'.heap.size ∧ y ≠ w.heap.size) ∧ Chg [] w w' := by
  refine (canonN w ao n cap fp fd L h hn hnB hd hfp hfd).mono ?_
  rintro e w' ⟨M, L', hM, hMs, rfl, hr, hL, hdat, hk⟩
  refine ⟨L', rfl, hr, ?_, hdat, hk⟩
  have hs2 : (L.map Prod.fst).Pairwise fun x y => x.path < y.path := List.pairwise_map.2 (List.pairwise_iff_getElem.2 hs)
  rw [hL, asc_unique (key := ANode.path) hM hMs hs2]
end Go.Proofs.YtfhiioopimmahaaGreatDoor
namespace Go.Proofs.YtfhiioopimmahaaGreatDoor
open Go.RowKit Go.Pax Go.Shelf
set_option maxHeartbeats 4000000 in
theorem emptyNil (w : World) : Calls Tryz.prog 45 #[.pointer none] w fun e w' => e = .returned (.int .i64 1) ∧ Chg [] w w' := by
  have HL := Lib.hid (fun W P => list_nil W P)
  go_enter Tryz.func45, Tryz.ntmps45
  go_wp2_with (go_at_call 69; refine (HL.out _ _).mono ?_; rintro e w2 ⟨rfl, k⟩; have HK := Lib.hid k; clear k)
  go_ret
  exact ⟨rfl, HK.out⟩
set_option maxHeartbeats 4000000 in
theorem emptyC (w : World) (f : Nat) (O : List Nat) (σ : Fs) (h : FsAt w f O σ) (hok : σ.Ok) (hr : ∃ b, lkF σ.files [] = some b ∧ (σ.node b).kind = 0) :
    Calls Tryz.prog 45 #[.pointer (some ⟨f, 0, none⟩)] w fun e w' => e = .returned (.int .i64 (if rootNames σ = [] then 0 else 20)) ∧ FsAt w' f O (ls σ 1) ∧ Chg O w w' := by
  obtain ⟨b, hb, hk⟩ := hr
  have hE : listE σ [] = 0 := by unfold listE; rw [hb]; simp [hk]
  have hRN : rootNames σ = (σ.node b).names := by unfold rootNames; rw [hb]
  obtain ⟨R, hR⟩ : ∃ R : Int, R = if rootNames σ = [] then 0 else 20 := ⟨_, rfl⟩
  rw [← hR]
  have HL := Lib.hid (list w f O σ [] h hok)
  rw [show ba ([] : Str) = (⟨#[]⟩ : ByteArray) from rfl] at HL
  have HB := Lib.hid (And.intro hb (And.intro hE (And.intro hRN hR)))
  clear h hok hb hk hE hRN hR
  go_enter Tryz.func45, Tryz.ntmps45
  go_upto_region 2 with (go_at_call 69; refine HL.out.mono ?_; rintro e w2 h2; obtain ⟨b2, ao, n, c, hb2, rfl, hn, _, hf⟩ := h2.2 HB.out.2.1; have HF := Lib.hid (And.intro hb2 (And.intro hn hf)); clear h2 hb2 hn hf)
  have hbb : b2 = b := by have h1 := HF.out.1; rw [HB.out.1] at h1; injection h1 with h1; exact h1.symm
  by_cases hn : n = 0
  · have h0 : rootNames σ = [] := by rw [HB.out.2.2.1, ← hbb]; exact List.length_eq_zero_iff.1 (by rw [← HF.out.2.1]; exact hn)
    have HR := Lib.hid (show R = 0 from by rw [HB.out.2.2.2, if_pos h0])
    subst hn
    clear h0 hbb
    go_wp2_with fail
    go_ret
    exact ⟨by rw [HR.out]; rfl, HF.out.2.2.1, HF.out.2.2.2⟩
  · have h0 : rootNames σ ≠ [] := fun h => hn (by rw [HF.out.2.1, hbb, ← HB.out.2.2.1, h]; rfl)
    have HR := Lib.hid (show R = 20 from by rw [HB.out.2.2.2, if_neg h0])
    have hpos : (n : Int) > 0 := by omega
    clear h0 hbb
    go_wp2_with fail
    go_ret
    exact ⟨by rw [HR.out]; rfl, HF.out.2.2.1, HF.out.2.2.2⟩
set_option maxHeartbeats 4000000 in
theorem treeNil (w : World) (ao : Option Addr) (n c : Nat) : Calls Tryz.prog 21 #[.slice ao n c, .pointer none] w fun e w' => e = .returned (.int .i64 1) ∧ Chg [] w w' := by
  have HE := Lib.hid (fun W => emptyNil W)
  go_enter Tryz.func21, Tryz.ntmps21
  go_wp2_with (go_at_call 45; refine (HE.out _).mono ?_; rintro e w2 ⟨rfl, k⟩; have HK := Lib.hid k; clear k)
  go_ret
  exact ⟨rfl, HK.out⟩
set_option maxRecDepth 100000 in
set_option maxHeartbeats 16000000 in
theorem extractTree (w : World) (f : Nat) (O : List Nat) (σ : Fs) (n : Nat) (ao : Option Addr) (ln cap : Nat) (fp fd : List Nat) (L : List (ANode × Value)) (h : FsAt w f O σ) (hin : σ.In n) (hnB : n ≤ 9000) (hr : ∃ b, lkF σ.files [] = some b ∧ (σ.node b).kind = 0)
    (hN : NdRd w fp ao L) (hl : L.length = ln) (hlB : ln ≤ 1000) (hd : ∀ x ∈ L, RdD w fd x.2 x.1.data ∧ x.1.data.length ≤ 140737488355328) (hs : ∀ x ∈ L, x.1.path.length ≤ 140737488355328 ∧ x.1.target.length ≤ 140737488355328)
    (hfp : ∀ g ∈ fp, g < w.heap.size ∧ g ∉ O) (hfd : ∀ g ∈ fd, g < w.heap.size ∧ g ∉ O) (hkeys : KeysAt w) (hko : 0 ∉ O) :
    Calls Tryz.prog 21 #[.slice ao ln cap, .pointer (some ⟨f, 0, none⟩)] w fun e w' => ∃ E σ', e = .returned (.int .i64 E) ∧ ExtBy σ (L.map Prod.fst) E σ' ∧ FsTo w w' f O σ' := by
  have HE := Lib.hid (emptyC w f O σ h (hin.ok (by omega)) hr)
  have HC := Lib.hid (fun W (k : Chg O w W) => treeCheck W ao ln cap fp fd L (hN.chg k (fun g hg => (hfp g hg).2)) hl (by omega) (fun x hx => ⟨(hd x hx).1.chg k (fun g hg => (hfd g hg).2), (hd x hx).2⟩) hs (fun g hg => Nat.lt_of_lt_of_le (hfp g hg).1 k.size) (fun g hg => Nat.lt_of_lt_of_le (hfd g hg).1 k.size) (hkeys.chg k hko))
  have HN := Lib.hid (fun W (k : Chg O w W) => canonN W ao ln cap fp fd L (hN.chg k (fun g hg => (hfp g hg).2)) hl (by omega) (fun x hx => ⟨(hd x hx).1.chg k (fun g hg => (hfd g hg).2), (hd x hx).2⟩) (fun g hg => Nat.lt_of_lt_of_le (hfp g hg).1 k.size) (fun g hg => Nat.lt_of_lt_of_le (hfd g hg).1 k.size))
  rw [cnts_cntA] at HN
  have H := Lib.hid (And.intro h (And.intro hin (And.intro hl (And.intro hkeys (And.intro hd hs)))))
  clear h hin hN hl hd hs hfp hfd hkeys hr
  go_enter Tryz.func21, Tryz.ntmps21
  by_cases h0 : rootNames σ = []
  · rw [if_pos h0] at HE
    go_upto_region 4 with (go_at_call 45; refine HE.out.mono ?_; rintro e w2 ⟨rfl, hf, k⟩; have HF2 := Lib.hid (And.intro hf k); clear hf k)
    have HC2 := Lib.hid (HC.out w2 HF2.out.2)
    generalize hTE : treeE (L.map Prod.fst) = TE at *
    have HTE := Lib.hid hTE
    clear hTE
    obtain ⟨ti, te⟩ := TE
    simp only at HC2
    by_cases ht : te = 0
    · subst ht
      go_upto_region 7 with (go_at_call 46; refine HC2.out.mono ?_; rintro e w3 ⟨rfl, k⟩; have HK3 := Lib.hid (HF2.out.2.trans (k.mono (by simp))); have HF3 := Lib.hid (HF2.out.1.foreign k (by simp)); clear k)
      have hmm := @run_makeMap Tryz.prog
      obtain ⟨V1, hV1⟩ : ∃ x, x = w3.alloc (.map #[] 0) := ⟨_, rfl⟩
      obtain ⟨mc, hmc⟩ : ∃ x, x = w3.heap.size := ⟨_, rfl⟩
      obtain ⟨V2, hV2⟩ : ∃ x, x = V1.alloc (.cells #[.pointer (some ⟨f, 0, none⟩), .map (some mc)] 102) := ⟨_, rfl⟩
      obtain ⟨cb, hcb⟩ : ∃ x, x = V1.heap.size := ⟨_, rfl⟩
      have k1 : Chg [] w3 V1 := by rw [hV1]; exact (Chg.refl _ _).alloc _
      have k2 : Chg [] V1 V2 := by rw [hV2]; exact (Chg.refl _ _).alloc _
      have m1 : MapG kvI kvS V1 mc [] := by rw [hV1, hmc]; exact MapG.new _
      have e2 : V2.heap[cb]? = some (.cells #[.pointer (some ⟨f, 0, none⟩), .map (some mc)] 102 (0, 0)) := by rw [hV2, hcb]; exact heap_alloc_new _ _
      have hcb' : w3.heap.size + 1 = cb := by rw [hcb, hV1]; simp
      have HV := Lib.hid (And.intro hV1 (And.intro hmc (And.intro hV2 hcb')))
      have HM2 := Lib.hid (And.intro (m1.chg k2 (by simp)) (And.intro e2 (k1.trans k2)))
      clear hV1 hmc hV2 hcb hcb' k1 k2 m1 e2
      go_upto_region 8 with (fail)
      rw [HV.out.2.2.2, ← HV.out.2.1, ← HV.out.1, ← HV.out.2.2.1]
      have hmd : Chg [] V2 (V2.alloc (.map #[] 0)) := (Chg.refl _ _).alloc _
      obtain ⟨u1, hr1, n1, q1, z1⟩ := run_updateG (P := Tryz.prog) (T := 104) (ν := Value) (vv := id) keyI Tryz.underlying104 Tryz.underlying3 (MapG.new V2) 0 (.func (.func 47) #[.pointer (some ⟨cb, 0, none⟩)] #[])
      obtain ⟨u2, hr2, n2, q2, z2⟩ := run_updateG (P := Tryz.prog) (T := 104) (ν := Value) (vv := id) keyI Tryz.underlying104 Tryz.underlying3 n1 1 (.func (.func 48) #[.pointer (some ⟨cb, 0, none⟩)] #[])
      obtain ⟨u3, hr3, n3, q3, z3⟩ := run_updateG (P := Tryz.prog) (T := 104) (ν := Value) (vv := id) keyI Tryz.underlying104 Tryz.underlying3 n2 2 (.func (.func 49) #[.pointer (some ⟨cb, 0, none⟩)] #[])
      have hr1 : (Instr.mapUpdate 104 (.map (some V2.heap.size)) (.int .i64 0) (.func (.func 47) #[.pointer (some ⟨cb, 0, none⟩)] #[])).run Tryz.prog (V2.alloc (.map #[] 0)) = .ok () u1 := hr1
      have hr2 : (Instr.mapUpdate 104 (.map (some V2.heap.size)) (.int .i64 1) (.func (.func 48) #[.pointer (some ⟨cb, 0, none⟩)] #[])).run Tryz.prog u1 = .ok () u2 := hr2
      have hr3 : (Instr.mapUpdate 104 (.map (some V2.heap.size)) (.int .i64 2) (.func (.func 49) #[.pointer (some ⟨cb, 0, none⟩)] #[])).run Tryz.prog u2 = .ok () u3 := hr3
      have HU3 := Lib.hid (show Chg [] V2 u3 ∧ MapG kvI (id : Value → Value) u3 V2.heap.size (upG (upG (upG [] 0 (.func (.func 47) #[.pointer (some ⟨cb, 0, none⟩)] #[])) 1 (.func (.func 48) #[.pointer (some ⟨cb, 0, none⟩)] #[])) 2 (.func (.func 49) #[.pointer (some ⟨cb, 0, none⟩)] #[])) from
        ⟨hmd.trans' ((q1.trans q2).trans q3) (by simp) (fun x hx hl => by simp at hx; omega), n3⟩)
      clear n1 n2 n3 q1 q2 q3 z1 z2 z3 hmd
      go_upto_region 9 with (fail)
      clear hr1 hr2 hr3 hmm
      have HW3 := Lib.hid (show Chg O w u3 ∧ Chg [] w3 u3 from ⟨HK3.out.trans ((HM2.out.2.2.trans HU3.out.1).mono (by simp)), HM2.out.2.2.trans HU3.out.1⟩)
      obtain ⟨md, hmd⟩ : ∃ x, x = V2.heap.size := ⟨_, rfl⟩
      rw [← hmd] at HU3 ⊢
      have HMD := Lib.hid hmd
      clear hmd
      go_wp2_with (go_at_call 35; refine (HN.out u3 HW3.out.1).mono ?_; rintro e w5 ⟨M, L', hM, hMs, rfl, hrow, hL', hdat, hk5⟩; have HL := Lib.hid (And.intro hM (And.intro hMs (And.intro hrow (And.intro hL' (And.intro hdat hk5))))); clear hM hMs hrow hL' hdat hk5)
      obtain ⟨rg, hrg⟩ : ∃ x, x = u3.heap.size := ⟨_, rfl⟩
      rw [← hrg] at HL ⊢
      have HRG := Lib.hid hrg
      clear hrg
      obtain ⟨C, hC⟩ : ∃ x, x = (canonS (cntA (L.map Prod.fst)) M).2 := ⟨_, rfl⟩
      have HCE := Lib.hid hC
      have hLC : L'.map Prod.fst = C := by rw [hC]; exact HL.out.2.2.2.1
      have hlen : L'.length = ln := by
        have h1 := congrArg List.length hLC
        rw [List.length_map, hC, canon_len, HL.out.1.length_eq, List.length_map, H.out.2.2.1] at h1
        exact h1
      have HLC := Lib.hid (And.intro hLC (And.intro hlen (show C.length = ln from by rw [← hLC, List.length_map]; exact hlen)))
      have hz := treeE_zero (l := L.map Prod.fst) (by rw [HTE.out])
      have HCN := Lib.hid (show ∀ x ∈ C, (x.kind = 0 ∨ x.kind = 1 ∨ x.kind = 2) ∧ x.target.length ≤ 140737488355328 ∧ x.data.length ≤ 140737488355328 from fun x hx => by
        rw [hC] at hx
        obtain ⟨y, hy, e1, _, _, e4, e5⟩ := canon_of HL.out.1 hx
        obtain ⟨z, hz2, rfl⟩ := List.mem_map.1 hy
        refine ⟨?_, by rw [e4]; exact (H.out.2.2.2.2.2 z hz2).2, by rw [e5]; exact (H.out.2.2.2.2.1 z hz2).2⟩
        rw [e1]
        obtain ⟨j, hj, hje⟩ := List.mem_iff_getElem.1 hy
        have h1 := hz.1 j hj
        rw [ndAt_eq hj, hje] at h1
        exact nodeE_kind h1)
      have HNR := Lib.hid (show NRow w5 rg ln ln L' from ⟨⟨_, HL.out.2.2.1⟩, hlen, fun x hx => by
        obtain ⟨fq, ⟨a, c, h1, _⟩, _⟩ := HL.out.2.2.2.2.1 x hx
        exact ⟨a, _, c, h1⟩, by omega⟩)
      have hOlt := H.out.1.lt
      have hw3s := HK3.out.size
      have h3u := HW3.out.2.size
      have h23 := HM2.out.2.2.size
      have hV2u := HU3.out.1.size
      have h5s := HL.out.2.2.2.2.2.size
      have hmcV := HM2.out.1.lt
      have hcbV := lt_of_block HM2.out.2.1
      have hmcE := HV.out.2.1
      have hcbE := HV.out.2.2.2
      have hmdE := HMD.out
      have hrgE := HRG.out
      have HNB := Lib.hid (show (∀ g ∈ O, g < w3.heap.size) ∧ mc = w3.heap.size ∧ cb = w3.heap.size + 1 ∧ cb < md ∧ md < u3.heap.size ∧ rg = u3.heap.size ∧ rg < w5.heap.size ∧ w.heap.size ≤ w3.heap.size from
        ⟨fun g hg => by have := hOlt g hg; omega, hmcE, hcbE.symm, by omega, HU3.out.2.lt, hrgE, by
          obtain ⟨c9, hc9⟩ := own_blockS HL.out.2.2.1 (g := rg) rfl
          exact lt_of_block hc9, hw3s⟩)
      have HM0 := Lib.hid (show EMid w5 w5 f O (ls σ 1) cb mc rg C n 0 O (ls σ 1) from
        ⟨HF3.out.foreign (HW3.out.2.trans HL.out.2.2.2.2.2) (by simp), RunOk.nil, fun g hg => .inl hg, Chg.refl _ _,
          ⟨(HU3.out.1.trans HL.out.2.2.2.2.2).heap HM2.out.2.1 (by simp), HM2.out.1.chg (HU3.out.1.trans HL.out.2.2.2.2.2) (by simp), fun hm => by have := HNB.out.1 _ hm; have := HNB.out.2.2.1; omega, fun hm => by have := HNB.out.1 _ hm; have := HNB.out.2.1; omega, by have := HNB.out; omega⟩⟩)
      have HMDM := Lib.hid (HU3.out.2.chg HL.out.2.2.2.2.2 (by simp))
      have HK5 := Lib.hid (show Chg O w w5 from HW3.out.1.trans (HL.out.2.2.2.2.2.mono (by simp)))
      have HKY := Lib.hid (show 0 < w.heap.size from by
        obtain ⟨t, ht⟩ := H.out.2.2.2.1
        exact lt_of_block ht)
      have HEX := Lib.hid (fun E σ' (hj : ∃ j, j ≤ ln ∧ RunOk (ls σ 1) ((List.range j).map (actAt C)) σ' ∧ ((j = ln ∧ E = 0) ∨ (j < ln ∧ E ≠ 0 ∧ E = doE σ' (actAt C j)))) => (show ExtBy σ (L.map Prod.fst) E σ' from .inr (.inr ⟨h0, by rw [HTE.out], M, HL.out.1, HL.out.2.1, by
        rw [List.length_map, H.out.2.2.1, ← HCE.out]
        exact hj⟩)))
      clear hC hLC hlen hz hOlt hw3s h3u h23 hV2u h5s hmcV hcbV hmcE hcbE hmdE hrgE HC HN HC2 HE HF2 HU3 HM2 HF3
      go_loopw [41] (fun u wr => ∃ (k : Nat) (Ok : List Nat) (σk : Fs), u = .int .i64 k ∧ k ≤ ln ∧ EMid w5 wr f O (ls σ 1) cb mc rg C n k Ok σk) (fun u _ => ln - (intOf u).toNat)
      case atStart => exact ⟨0, O, ls σ 1, rfl, Nat.zero_le _, HM0.out⟩
      case round =>
        obtain ⟨k, Ok, σk, rfl, hkn, hm⟩ := hrel
        have HM := Lib.hid hm
        have hkB : k ≤ 1000 := by omega
        clear hm HM0
        by_cases hlt : k < ln
        · have hnr := HNR.out.chg HM.out.chg (fun hmm => by
            have := HNB.out
            rcases List.mem_cons.1 hmm with h1 | h1
            · omega
            · have := this.1 _ h1; omega)
          obtain ⟨x, xa, xl, xc, hx, hxe⟩ := hnr.at hlt
          have hkL : k < L'.length := by rw [HLC.out.2.1]; exact hlt
          have hxL : L'[k] = (x, .slice xa xl xc) := by rw [List.getElem?_eq_getElem hkL] at hxe; injection hxe
          have hmL : (x, Value.slice xa xl xc) ∈ L' := by rw [← hxL]; exact List.getElem_mem hkL
          have hmC : x ∈ C := by rw [← HLC.out.1]; exact List.mem_map.2 ⟨_, hmL, rfl⟩
          have hnd : ndAt C k = x := by
            have hkC : k < C.length := by rw [HLC.out.2.2]; exact hlt
            have h1 : C[k]? = some x := by rw [← HLC.out.1, List.getElem?_map, hxe]; rfl
            rw [ndAt_eq hkC]
            rw [List.getElem?_eq_getElem hkC] at h1
            injection h1
          obtain ⟨fq, ⟨a2, c2, hde, hrd⟩, hfq⟩ := HL.out.2.2.2.2.1 _ hmL
          simp only [Value.slice.injEq] at hde
          obtain ⟨rfl, rfl, rfl⟩ := hde
          have hrd := hrd.chg HM.out.chg (fun y hy hmm => by
            have h9 := hfq y hy
            have := HNB.out
            rcases List.mem_cons.1 hmm with h1 | h1
            · omega
            · have := this.1 _ h1; omega)
          have HRD := Lib.hid (And.intro hrd (show ∀ y ∈ fq, y ∉ Ok ∧ y ≠ mc from fun y hy => by
            have h9 := hfq y hy
            have h8 := HNB.out
            refine ⟨fun h7 => ?_, by omega⟩
            rcases HM.out.own y h7 with h6 | h6
            · have := h8.1 _ h6; omega
            · omega))
          have hcn := HCN.out x hmC
          have hko2 : 0 ∉ Ok := fun hmm => by
            rcases HM.out.own _ hmm with h1 | h1
            · exact hko h1
            · have := HKY.out; have := HK5.out.size; omega
          have hkm : 0 ≠ mc := by have := HKY.out; have := HNB.out; omega
          have hok := HM.out.ok (m := n + 1) H.out.2.1.listed (by omega)
          have hky : KeysAt wr := (H.out.2.2.2.1.chg HK5.out hko).chg HM.out.chg (fun hmm => by
            rcases List.mem_cons.1 hmm with h1 | h1
            · exact hkm h1
            · exact hko h1)
          have hmdm := HMDM.out.chg HM.out.chg (fun hmm => by
            have := HNB.out
            rcases List.mem_cons.1 hmm with h1 | h1
            · omega
            · have := this.1 _ h1; omega)
          have HSTEP := Lib.hid (fun w1 w' (e1 : Chg [mc] wr w1) (e2 : CrAt w1 cb mc f Ok (nodeLeast (leastAt C k) x)) (e3 : DoneBy w1 w' f Ok σk (nodeAct (leastAt C k) x)) => (show (doE σk (nodeAct (leastAt C k) x) = 0 → ∃ Ok' σk', EMid w5 w' f O (ls σ 1) cb mc rg C n (k + 1) Ok' σk') ∧
              (doE σk (nodeAct (leastAt C k) x) ≠ 0 → ExtBy σ (L.map Prod.fst) (doE σk (nodeAct (leastAt C k) x)) σk ∧ FsTo w w' f O σk) from by
            have ha : actAt C k = nodeAct (leastAt C k) x := by unfold actAt; rw [hnd]
            refine ⟨fun e0 => HM.out.step e1 (by rw [leastAt_succ (by rw [HLC.out.2.2]; exact hlt), hnd]; exact e2) (by rw [ha]; exact e0) (by rw [ha]; exact e3), fun e0 => ⟨HEX.out _ _ ⟨k, by omega, HM.out.run, .inr ⟨hlt, e0, by rw [ha]⟩⟩, HM.out.to HK5.out (by have := HNB.out; omega) (e1.trans ((e3.1 e0).mono (by simp)))⟩⟩))
          have HCR := Lib.hid (And.intro HM.out.cr (And.intro HM.out.fs (And.intro hok (And.intro hky (And.intro hmdm hcn)))))
          clear hcn hok hky hmdm hrd hfq hmL hmC hnd hxL hxe hkL hnr HM
          generalize leastAt C k = LS at *
          have HX := Lib.hid hx
          clear hx
          rcases HCR.out.2.2.2.2.2.1 with hk0 | hk1 | hk2
          · have hE : nodeAct LS x = ⟨0, x.path, x.mode, [], []⟩ ∧ nodeLeast LS x = LS := by unfold nodeAct nodeLeast; rw [if_pos hk0, if_neg (by rw [hk0]; decide)]; exact ⟨rfl, rfl⟩
            rw [hE.1, hE.2] at HSTEP
            have HD := Lib.hid (fun W (kw : Chg [] wr W) => crDir W f Ok σk cb mc LS x xa x.data.length xc (HCR.out.1.chg kw) (HCR.out.2.1.foreign kw (by simp)) HCR.out.2.2.1 (HCR.out.2.2.2.1.chg kw (by simp)) hko2)
            have HLK := Lib.hid (fun W (kw : Chg [] wr W) => (show (Instr.lookup 104 (.map (some md)) (.int .i64 0) false).run Tryz.prog W = .ok (.func (.func 47) #[.pointer (some ⟨cb, 0, none⟩)] #[]) W from run_lookupG_some (ν := Value) (vv := id) keyI Tryz.underlying104 Tryz.underlying3 (HCR.out.2.2.2.2.1.chg kw (by simp)) (by rfl)))
            generalize doE σk (⟨0, x.path, x.mode, [], []⟩) = ER at *
            clear hE
            obtain ⟨k0, p, m, t, d, cl⟩ := x
            simp only at hk0 
            subst hk0
            unfold ndV at HD
            unfold NdAt at HX
            simp only at HD HX
            generalize ba p = P at *
            generalize ba t = T at *
            generalize d.length = dl at *
            have c0 := HX.out.1
            have c1 := HX.out.2.1
            have d2' := HX.out.2.2.1
            have c3 := HX.out.2.2.2.1
            have c4 := HX.out.2.2.2.2.1
            have c5 := HX.out.2.2.2.2.2
            go_upto_region 12 with (fail)
            clear c0 c1 d2' c3 c4 c5
            have e1 := heap_alloc_new wr (.cells #[.int .i64 0, .string P, .int .i64 m, .string T, .slice xa dl xc, .int .i64 cl] 45)
            have hk1 : Chg [] wr (wr.alloc (.cells #[.int .i64 0, .string P, .int .i64 m, .string T, .slice xa dl xc, .int .i64 cl] 45)) := (Chg.refl _ _).alloc _
            have HK1 := Lib.hid (And.intro (hk1.mono (S := []) (T := [mc]) (by simp)) (And.intro hk1 e1))
            clear hk1 e1
            generalize wr.alloc (.cells #[.int .i64 0, .string P, .int .i64 m, .string T, .slice xa dl xc, .int .i64 cl] 45) = W1 at *
            generalize wr.heap.size = g1 at *
            have j0 := cell_heap HK1.out.2.2 0 (v := .int .i64 0) rfl
            have j1 := cell_heap HK1.out.2.2 1 (v := .string P) rfl
            have j2 := cell_heap HK1.out.2.2 2 (v := .int .i64 m) rfl
            have j3 := cell_heap HK1.out.2.2 3 (v := .string T) rfl
            have j4 := cell_heap HK1.out.2.2 4 (v := .slice xa dl xc) rfl
            have j5 := cell_heap HK1.out.2.2 5 (v := .int .i64 cl) rfl
            have hlk := HLK.out W1 HK1.out.2.1
            go_upto_region 13 with (go_at_call 47; refine (HD.out _ HK1.out.2.1).mono ?_; rintro e w7 ⟨rfl, hd⟩; have HS := Lib.hid (HSTEP.out W1 w7 HK1.out.1 (HCR.out.1.chg HK1.out.2.1) hd); clear hd)
            clear j0 j1 j2 j3 j4 j5 hlk
            by_cases hER : ER = 0
            · subst hER
              obtain ⟨Ok', σk', hm'⟩ := HS.out.1 rfl
              have HM' := Lib.hid hm'
              clear hm'
              go_wp2_with fail
              go_roundw
              case rel => exact ⟨k + 1, Ok', σk', by go_num, by omega, HM'.out⟩
              case measure => simp [intOf]; omega
            · go_wp2_with fail
              go_ret
              exact ⟨ER, σk, rfl, HS.out.2 hER⟩
          · have hE : nodeAct LS x = fileAct LS x ∧ nodeLeast LS x = leastUp LS x := by unfold nodeAct nodeLeast; rw [if_neg (by rw [hk1]; decide), if_pos hk1, if_pos hk1]; exact ⟨rfl, rfl⟩
            rw [hE.1, hE.2] at HSTEP
            have HD := Lib.hid (fun W (kw : Chg [] wr W) => crFile W f Ok σk cb mc LS x xa xc fq (HCR.out.1.chg kw) (HCR.out.2.1.foreign kw (by simp)) HCR.out.2.2.1 (HCR.out.2.2.2.1.chg kw (by simp)) hko2 (HRD.out.1.chg kw (by simp)) HCR.out.2.2.2.2.2.2.2 HRD.out.2 hkm)
            have HLK := Lib.hid (fun W (kw : Chg [] wr W) => (show (Instr.lookup 104 (.map (some md)) (.int .i64 1) false).run Tryz.prog W = .ok (.func (.func 48) #[.pointer (some ⟨cb, 0, none⟩)] #[]) W from run_lookupG_some (ν := Value) (vv := id) keyI Tryz.underlying104 Tryz.underlying3 (HCR.out.2.2.2.2.1.chg kw (by simp)) (by rfl)))
            generalize doE σk (fileAct LS x) = ER at *
            clear hE
            obtain ⟨k0, p, m, t, d, cl⟩ := x
            simp only at hk1 
            subst hk1
            unfold ndV at HD
            unfold NdAt at HX
            simp only at HD HX
            generalize ba p = P at *
            generalize ba t = T at *
            generalize d.length = dl at *
            have c0 := HX.out.1
            have c1 := HX.out.2.1
            have d2' := HX.out.2.2.1
            have c3 := HX.out.2.2.2.1
            have c4 := HX.out.2.2.2.2.1
            have c5 := HX.out.2.2.2.2.2
            go_upto_region 12 with (fail)
            clear c0 c1 d2' c3 c4 c5
            have e1 := heap_alloc_new wr (.cells #[.int .i64 1, .string P, .int .i64 m, .string T, .slice xa dl xc, .int .i64 cl] 45)
            have hk1 : Chg [] wr (wr.alloc (.cells #[.int .i64 1, .string P, .int .i64 m, .string T, .slice xa dl xc, .int .i64 cl] 45)) := (Chg.refl _ _).alloc _
            have HK1 := Lib.hid (And.intro (hk1.mono (S := []) (T := [mc]) (by simp)) (And.intro hk1 e1))
            clear hk1 e1
            generalize wr.alloc (.cells #[.int .i64 1, .string P, .int .i64 m, .string T, .slice xa dl xc, .int .i64 cl] 45) = W1 at *
            generalize wr.heap.size = g1 at *
            have j0 := cell_heap HK1.out.2.2 0 (v := .int .i64 1) rfl
            have j1 := cell_heap HK1.out.2.2 1 (v := .string P) rfl
            have j2 := cell_heap HK1.out.2.2 2 (v := .int .i64 m) rfl
            have j3 := cell_heap HK1.out.2.2 3 (v := .string T) rfl
            have j4 := cell_heap HK1.out.2.2 4 (v := .slice xa dl xc) rfl
            have j5 := cell_heap HK1.out.2.2 5 (v := .int .i64 cl) rfl
            have hlk := HLK.out W1 HK1.out.2.1
            go_upto_region 13 with (go_at_call 48; refine (HD.out _ HK1.out.2.1).mono ?_; rintro e w7 ⟨rfl, hd⟩; obtain ⟨w6, g1, g2, g3⟩ := hd; have HS := Lib.hid (HSTEP.out w6 w7 (HK1.out.1.trans g1) g2 g3); clear g1 g2 g3)
            clear j0 j1 j2 j3 j4 j5 hlk
            by_cases hER : ER = 0
            · subst hER
              obtain ⟨Ok', σk', hm'⟩ := HS.out.1 rfl
              have HM' := Lib.hid hm'
              clear hm'
              go_wp2_with fail
              go_roundw
              case rel => exact ⟨k + 1, Ok', σk', by go_num, by omega, HM'.out⟩
              case measure => simp [intOf]; omega
            · go_wp2_with fail
              go_ret
              exact ⟨ER, σk, rfl, HS.out.2 hER⟩
          · have hE : nodeAct LS x = ⟨2, x.path, 0, [], x.target⟩ ∧ nodeLeast LS x = LS := by unfold nodeAct nodeLeast; rw [if_neg (by rw [hk2]; decide), if_neg (by rw [hk2]; decide), if_neg (by rw [hk2]; decide)]; exact ⟨rfl, rfl⟩
            rw [hE.1, hE.2] at HSTEP
            have HD := Lib.hid (fun W (kw : Chg [] wr W) => crLink W f Ok σk cb mc LS x xa x.data.length xc (HCR.out.1.chg kw) (HCR.out.2.1.foreign kw (by simp)) HCR.out.2.2.1 (HCR.out.2.2.2.1.chg kw (by simp)) hko2 HCR.out.2.2.2.2.2.2.1)
            have HLK := Lib.hid (fun W (kw : Chg [] wr W) => (show (Instr.lookup 104 (.map (some md)) (.int .i64 2) false).run Tryz.prog W = .ok (.func (.func 49) #[.pointer (some ⟨cb, 0, none⟩)] #[]) W from run_lookupG_some (ν := Value) (vv := id) keyI Tryz.underlying104 Tryz.underlying3 (HCR.out.2.2.2.2.1.chg kw (by simp)) (by rfl)))
            generalize doE σk (⟨2, x.path, 0, [], x.target⟩) = ER at *
            clear hE
            obtain ⟨k0, p, m, t, d, cl⟩ := x
            simp only at hk2 
            subst hk2
            unfold ndV at HD
            unfold NdAt at HX
            simp only at HD HX
            generalize ba p = P at *
            generalize ba t = T at *
            generalize d.length = dl at *
            have c0 := HX.out.1
            have c1 := HX.out.2.1
            have d2' := HX.out.2.2.1
            have c3 := HX.out.2.2.2.1
            have c4 := HX.out.2.2.2.2.1
            have c5 := HX.out.2.2.2.2.2
            go_upto_region 12 with (fail)
            clear c0 c1 d2' c3 c4 c5
            have e1 := heap_alloc_new wr (.cells #[.int .i64 2, .string P, .int .i64 m, .string T, .slice xa dl xc, .int .i64 cl] 45)
            have hk1 : Chg [] wr (wr.alloc (.cells #[.int .i64 2, .string P, .int .i64 m, .string T, .slice xa dl xc, .int .i64 cl] 45)) := (Chg.refl _ _).alloc _
            have HK1 := Lib.hid (And.intro (hk1.mono (S := []) (T := [mc]) (by simp)) (And.intro hk1 e1))
            clear hk1 e1
            generalize wr.alloc (.cells #[.int .i64 2, .string P, .int .i64 m, .string T, .slice xa dl xc, .int .i64 cl] 45) = W1 at *
            generalize wr.heap.size = g1 at *
            have j0 := cell_heap HK1.out.2.2 0 (v := .int .i64 2) rfl
            have j1 := cell_heap HK1.out.2.2 1 (v := .string P) rfl
            have j2 := cell_heap HK1.out.2.2 2 (v := .int .i64 m) rfl
            have j3 := cell_heap HK1.out.2.2 3 (v := .string T) rfl
            have j4 := cell_heap HK1.out.2.2 4 (v := .slice xa dl xc) rfl
            have j5 := cell_heap HK1.out.2.2 5 (v := .int .i64 cl) rfl
            have hlk := HLK.out W1 HK1.out.2.1
            go_upto_region 13 with (go_at_call 49; refine (HD.out _ HK1.out.2.1).mono ?_; rintro e w7 ⟨rfl, hd⟩; have HS := Lib.hid (HSTEP.out W1 w7 HK1.out.1 (HCR.out.1.chg HK1.out.2.1) hd); clear hd)
            clear j0 j1 j2 j3 j4 j5 hlk
            by_cases hER : ER = 0
            · subst hER
              obtain ⟨Ok', σk', hm'⟩ := HS.out.1 rfl
              have HM' := Lib.hid hm'
              clear hm'
              go_wp2_with fail
              go_roundw
              case rel => exact ⟨k + 1, Ok', σk', by go_num, by omega, HM'.out⟩
              case measure => simp [intOf]; omega
            · go_wp2_with fail
              go_ret
              exact ⟨ER, σk, rfl, HS.out.2 hER⟩
        · have hkk : k = ln := by omega
          subst hkk
          go_wp2_with fail
          go_ret
          exact ⟨0, σk, rfl, HEX.out 0 σk ⟨k, Nat.le_refl _, HM.out.run, .inl ⟨rfl, rfl⟩⟩, HM.out.to HK5.out (by have := HNB.out; omega) (Chg.refl _ _)⟩
    · go_wp2_with (go_at_call 46; refine HC2.out.mono ?_; rintro e w3 ⟨rfl, k⟩; have HK3 := Lib.hid (And.intro k (And.intro (HF2.out.2.trans (k.mono (by simp))) (HF2.out.1.foreign k (by simp)))); clear k)
      go_ret
      exact ⟨te, ls σ 1, rfl, .inr (.inl ⟨h0, by rw [HTE.out]; exact ht, by rw [HTE.out], rfl⟩), O, ⟨HK3.out.2.2, fun g hg => .inl hg⟩, HK3.out.2.1⟩
  · rw [if_neg h0] at HE
    go_wp2_with (go_at_call 45; refine HE.out.mono ?_; rintro e w2 ⟨rfl, hf, k⟩; have HF2 := Lib.hid (And.intro hf k); clear hf k)
    go_ret
    exact ⟨20, ls σ 1, rfl, .inl ⟨h0, rfl, rfl⟩, O, ⟨HF2.out.1, fun g hg => .inl hg⟩, HF2.out.2⟩
end Go.Proofs.YtfhiioopimmahaaGreatDoor
