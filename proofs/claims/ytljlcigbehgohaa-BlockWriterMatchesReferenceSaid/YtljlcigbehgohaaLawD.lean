/- paxtarlaw04.SourceDeliversPrefix. -/
import Derived.Test.YtljlcigbehgohaaLawC
namespace Go.Pax
open Go.RowKit
theorem RSrc.read_cases {ρ : RSrc} (h : ρ.Ok) (n : Int) (hn : 1 ≤ n) :
    ((ρ.read n).1 = 11 ∧ (ρ.read n).2 = ([], ρ) ∧ 0 ≤ ρ.fail ∧ ρ.off = ρ.fail) ∨
    ((ρ.read n).1 = 4 ∧ (ρ.read n).2 = ([], ρ) ∧ ρ.off = ρ.b.length ∧ ¬ (0 ≤ ρ.fail ∧ ρ.off = ρ.fail)) ∨
    ((ρ.read n).1 = 0 ∧ 1 ≤ (ρ.read n).2.1.length ∧ ((ρ.read n).2.1.length : Int) ≤ n ∧ (ρ.read n).2.2.b = ρ.b ∧ (ρ.read n).2.2.chunks = ρ.chunks ∧ (ρ.read n).2.2.fail = ρ.fail ∧
      (ρ.read n).2.2.off = ρ.off + (ρ.read n).2.1.length ∧ ρ.b.take (ρ.read n).2.2.off.toNat = ρ.b.take ρ.off.toNat ++ (ρ.read n).2.1) := by
  have h0 := h.off0
  have h1 := h.offl
  unfold RSrc.read
  rw [if_neg (by omega)]
  by_cases c1 : 0 ≤ ρ.fail ∧ ρ.off = ρ.fail
  · rw [if_pos c1]; exact .inl ⟨rfl, rfl, c1.1, c1.2⟩
  rw [if_neg c1]
  by_cases c2 : (ρ.b.length : Int) ≤ ρ.off
  · rw [if_pos c2]; exact .inr (.inl ⟨rfl, rfl, by omega, c1⟩)
  rw [if_neg c2]
  obtain ⟨b1, b2, b3, b4⟩ := RSrc.fin_bounds (n := n) h hn c1 c2
  have hl : ((ρ.b.drop ρ.off.toNat).take (ρ.fin n - ρ.off).toNat).length = (ρ.fin n - ρ.off).toNat := by
    rw [List.length_take, List.length_drop]; omega
  refine .inr (.inr ⟨rfl, by simp only; omega, by simp only; omega, rfl, rfl, rfl, by simp only; omega, ?_⟩)
  have he : (ρ.fin n).toNat = ρ.off.toNat + (ρ.fin n - ρ.off).toNat := by omega
  simp only
  rw [he, List.take_add]
theorem RSrc.read_same (ρ : RSrc) (m n : Int) (hm : 1 ≤ m) (_hn : 1 ≤ n) : ((0 ≤ ρ.fail ∧ ρ.off = ρ.fail) → (ρ.read m).1 = 11) ∧ (((ρ.b.length : Int) ≤ ρ.off ∧ ¬ (0 ≤ ρ.fail ∧ ρ.off = ρ.fail)) → (ρ.read m).1 = 4) := by
  unfold RSrc.read
  rw [if_neg (by omega)]
  exact ⟨fun c => by rw [if_pos c], fun c => by rw [if_neg c.2, if_pos c.1]⟩
end Go.Pax
namespace Go.Proofs.Ytljlcigbehgohaa
open Go.RowKit Go.Pax

/-- After k reads: what was got is a prefix. -/
def DPInv (w wr : World) (B p : Nat) (f1 : List Nat) (b : List UInt8) (c : List Int) (fail : Int) (gv : Value) (k : Nat) : Prop :=
  ∃ ρ : RSrc, ρ.Ok ∧ ρ.b = b ∧ ρ.chunks = c ∧ ρ.fail = fail ∧ (k : Int) ≤ ρ.off ∧ SrcAt wr p f1 ρ.src ∧ Chg [] w wr ∧ B ≤ wr.heap.size ∧
    ∃ ga gc gn, gv = .slice ga gn gc ∧ (b.take ρ.off.toNat).length = gn ∧ wr.ownsRow B 5 1 (.slice ga gn gc) gn (bv (b.take ρ.off.toNat))

set_option maxRecDepth 100000 in
set_option maxHeartbeats 16000000 in
theorem srcPrefix (w : World) (bo co : Option Addr) (bc cc : Nat) (b : List UInt8) (c : List Int) (fail n : Int) (fp : List Nat)
    (hb : b.length ≤ 140737488355328) (hbc : b.length ≤ bc) (hcl : c.length * 8 ≤ 140737488355328) (hf : -9223372036854775808 ≤ fail ∧ fail ≤ 9223372036854775807) (hn : 0 ≤ n ∧ n ≤ 65535)
    (h1 : Rd w fp bo (bv b)) (h2 : Rd w fp co (iv c)) :
    Calls Try.prog 4 #[.slice bo b.length bc, .agg #[.slice co c.length cc, .int .i64 fail], .int .u16 n] w fun e w' => e = .returned (.bool true) ∧ Chg [] w w' := by
  obtain ⟨hn0, hn1⟩ := hn
  have H1 := Lib.hid h1
  have H2 := Lib.hid h2
  clear h1 h2
  by_cases g2 : 2000 < b.length
  · clear hb
    go_enter Try.func4, Try.ntmps4
    go_wp2_with (go_at_call 23; refine (srcAlive _).mono ?_; rintro e w9 ⟨rfl, hc9⟩)
    go_ret
    exact ⟨rfl, ((Chg.refl _ _).alloc _).trans hc9⟩
  by_cases g3 : 300 < c.length
  · go_enter Try.func4, Try.ntmps4
    go_wp2_with (go_at_call 23; refine (srcAlive _).mono ?_; rintro e w9 ⟨rfl, hc9⟩)
    go_ret
    exact ⟨rfl, ((Chg.refl _ _).alloc _).trans hc9⟩
  obtain ⟨ib, hib, hib0, hib1, hib2⟩ := Try.infoB
  generalize hL : b.length = L at *
  have HL := Lib.hid hL
  clear hL
  go_enter Try.func4, Try.ntmps4
  go_upto_region 7 with (go_at_call 24; refine (srcNewN _ bo co L bc c.length cc b c fail fp HL.out rfl (by omega) hcl (H1.out.chg (S := []) ((Chg.refl _ _).alloc _) (by simp)) (H2.out.chg (S := []) ((Chg.refl _ _).alloc _) (by simp))).mono ?_; rintro e w1 ⟨p, f1, rfl, s1, k1, b1, bf1⟩)
  have hx1 : w1.cell? ⟨w.heap.size, 1, none⟩ = some (.int .i64 fail) := k1.cell (by go_simp) (by simp)
  have hkW : Chg [] w w1 := ((Chg.refl _ _).alloc _).trans k1
  simp only [World.size_alloc] at b1 bf1
  have HS1 := Lib.hid s1
  have HK1 := Lib.hid hkW
  clear s1 k1 hkW
  by_cases hf0 : 0 ≤ fail
  · by_cases hfl : fail ≤ L
    · obtain ⟨F, rfl⟩ : ∃ F : Nat, fail = F := ⟨fail.toNat, by omega⟩
      have hwant : ((F : Int) ≤ L) := by omega
      have HWANT := Lib.hid hwant
      clear hwant
      have hwl : (0 : Int) ≤ (F : Int) ∧ (F : Int) ≤ (bc : Int) := by omega
      obtain ⟨hw0, hw1⟩ := hwl
      go_upto_region 10 with (fail)
      have hown0 : (w1.alloc (.cells #[] 5)).ownsRow w1.heap.size 5 1 (.slice (some ⟨w1.heap.size, 0, none⟩) 0 0) 0 (bv (b.take 0)) := own_empty (heap_alloc_new _ _) (Nat.le_refl _)
      have s1' := HS1.out.chg ((Chg.refl [] w1).alloc (.cells #[] 5)) (by simp) (by simp)
      have k1' := HK1.out.alloc (.cells #[] 5)
      have hz1 : w1.heap.size ≤ (w1.alloc (.cells #[] 5)).heap.size := by simp
      generalize w1.alloc (.cells #[] 5) = w2 at *
      have HO2 := Lib.hid hown0
      have HS2 := Lib.hid s1'
      have HK2 := Lib.hid k1'
      clear hown0 s1' k1'
      go_wp2_with fail
      go_loopw [10, 48] (fun gv i wr => ∃ k : Nat, k ≤ L + 1 ∧ i = .int .i64 k ∧ DPInv w wr w1.heap.size p f1 b c (F : Int) gv k) (fun _ i _ => L + 1 - (intOf i).toNat)
      case atStart => exact ⟨0, Nat.zero_le _, rfl, ⟨b, c, (F : Int), 0, 0⟩, RSrc.ok_new (by rw [HL.out]; omega) (by omega) hf, rfl, rfl, rfl, by simp, HS2.out, HK2.out, hz1, _, _, _, rfl, by simp, HO2.out⟩
      case round =>
        obtain ⟨k, hk, rfl, ρ, hok, hρb, hρc, hρf, hko, hs, hc, hsz, ga, gc, gn, rfl, hgn, hg⟩ := hrel
        have hofl := hok.offl
        rw [hρb, HL.out] at hofl
        have hlt : k < L + 1 := by omega
        have hrc := RSrc.read_cases hok (1 + n) (by omega)
        have hra := RSrc.read_cases hok 1 (by decide)
        have HRC := Lib.hid hrc
        have HRA := Lib.hid hra
        have HOK := Lib.hid hok
        have HS := Lib.hid hs
        have HC := Lib.hid hc
        have HG := Lib.hid hg
        have HOF := Lib.hid (And.intro hρb (And.intro hρc hρf))
        clear hrc hra hok hs hc hg hρb hρc hρf
        go_wp2_with fail
        refine (srcRead' _ p f1 ρ (1 + n) HOK.out HS.out (by omega)).mono ?_
        rintro e w3 ⟨⟨a3, c3, rfl, hown3⟩, hs3, hk3⟩
        have hok3 := RSrc.ok_read HOK.out (1 + n)
        rcases HRC.out with ⟨e1, e2, e3, e4⟩ | ⟨e1, e2, e3, e4⟩ | ⟨e1, e2, e3, e4, e5, e6, e7, e8⟩
        · rw [e2] at hown3 hs3 ⊢
          rw [e1]
          simp only [List.length_nil] at hown3 ⊢
          have hs3' := hs3
          have HS3 := Lib.hid hs3
          have HK3 := Lib.hid hk3
          have E3 := Lib.hid e3
          have E4 := Lib.hid e4
          clear hs3 hs3' hk3 hown3 e1 e2 e3 e4 hok3
          go_wp2_with fail
          refine (srcRead' _ p f1 ρ 1 HOK.out HS3.out (by decide)).mono ?_
          rintro e w4 ⟨⟨a4, c4, rfl, hown4⟩, hs4, hk4⟩
          have hrd1 : (ρ.read 1).1 = 11 ∧ (ρ.read 1).2 = ([], ρ) := by
            have x3 := E3.out
            have x4 := E4.out
            have hne := RSrc.read_same ρ 1 (1 + n) (by omega) (by omega)
            rcases HRA.out with ⟨y1, y2, y3, y4⟩ | ⟨y1, y2, y3, y4⟩ | ⟨y1, y2, y3, y4, y5, y6, y7, y8⟩
            · exact ⟨y1, y2⟩
            · exact absurd ⟨x3, x4⟩ y4
            · have := HOK.out.offf; exact absurd y1 (by rw [(hne.1 ⟨x3, x4⟩)]; decide)
          rw [hrd1.2] at hown4 hs4 ⊢
          rw [hrd1.1]
          simp only [List.length_nil] at hown4 ⊢
          have hoff : ρ.off = (F : Int) := by
            have x3 := E3.out
            have x4 := E4.out
            have h1 := HWANT.out
            have h2 := HOK.out.offf
            obtain ⟨q1, q2, q3⟩ := HOF.out
            rw [q3] at x4 x3
            omega
          have hcp : Chg [p] wr w4 := HK3.out.trans hk4
          have hplt := HS.out.lt
          have hkp : Chg [] w w4 := HC.out.trans' hcp (by simp) (fun x hx hl => by simp at hx; omega)
          have hgw := own_chg HG.out hcp (by intro x hx; simp; rintro rfl; have := HS1.out.lt; omega)
          have hv1 := conv_own (S := []) (w' := w4.drew) (l := b.take ρ.off.toNat) hgn hgw (Chg.refl [] w4).drew (by simp)
          have hv2 : (convert 22 9 (.slice bo F bc)).run Try.prog w4.drew = .ok (.string (sb (b.take ρ.off.toNat))) w4.drew :=
            Try.conv _ fp _ _ _ _ (by rw [List.length_take, HL.out, hoff]; omega) (by have hh := (H1.out.chg hkp.drew (by simp)).take ρ.off.toNat; rwa [bv_take] at hh)
          have HS4 := Lib.hid hs4
          have HGW := Lib.hid hgw
          have HKP := Lib.hid hkp
          have HHO := Lib.hid hoff
          clear hs4 hkp hcp hgw hown4 hk4 hoff hrd1 HRA HRC
          go_wp2_with fail
          go_region_held3 (fun w' => (convert 22 9 (.slice ga gn gc)).run Try.prog w' = .ok (.string (sb (b.take ρ.off.toNat))) w' ∧ (convert 22 9 (.slice bo F bc)).run Try.prog w' = .ok (.string (sb (b.take ρ.off.toNat))) w' ∧ Chg [] w4 w')
            (first
              | exact ⟨hv1, hv2, (Chg.refl _ _).drew⟩
              | assumption
              | exact ⟨hcv1, hcv2, hk8'⟩)
            (first
              | (go_at_call 23; refine (srcAlive _).mono ?_; rintro e w8 ⟨rfl, hk8⟩; have hk8' : Chg [] w4 w8 := (Chg.refl [] w4).drew.trans hk8; have hcv1 := conv_own (S := []) (w' := w8) (l := b.take ρ.off.toNat) hgn HGW.out hk8' (by simp); have hcv2 : (convert 22 9 (.slice bo F bc)).run Try.prog w8 = .ok (.string (sb (b.take ρ.off.toNat))) w8 := Try.conv _ fp _ _ _ _ (by rw [List.length_take, HL.out, HHO.out]; omega) (by have hh := (H1.out.chg (HKP.out.trans hk8') (by simp)).take ρ.off.toNat; rwa [bv_take] at hh))
              | (go_at_call 26; refine (srcOffset' _ p f1 ρ (HS4.out.chg (S := []) (by go_split_ands; assumption) (by simp) (by simp))).mono ?_; rintro e w9 ⟨rfl, rfl⟩))
          rename_i hS
          have hkf := hS.2.2
          clear hS
          go_wp2_with fail
          go_ret
          exact ⟨by rw [HHO.out]; simp, HKP.out.trans hkf⟩
        · exfalso
          have h1 := HWANT.out
          have h2 := HOK.out.offf
          have h3 := HOK.out.offl
          obtain ⟨q1, q2, q3⟩ := HOF.out
          rw [q1, HL.out] at e3
          rw [q3] at e4 h2
          omega
        · generalize hrd : ρ.read (1 + n) = R at *
          obtain ⟨code, bs, ρ'⟩ := R
          simp only at e1 e2 e3 e4 e5 e6 e7 e8 hown3 hs3 hok3 ⊢
          subst e1
          have hplt := HS1.out.lt
          have hgw := own_chg HG.out hk3 (by intro x hx; simp; rintro rfl; omega)
          have rd3 := (own_rd2 hown3).1
          have hgl : gn ≤ L := by rw [← hgn, List.length_take, HL.out]; omega
          have HGW := Lib.hid hgw
          have RD3 := Lib.hid rd3
          have HS3 := Lib.hid hs3
          have HK3 := Lib.hid hk3
          have HOK3 := Lib.hid hok3
          have E4 := Lib.hid (And.intro e4 (And.intro e5 (And.intro e6 (And.intro e7 e8))))
          have HRD := Lib.hid hrd
          have HGN := Lib.hid hgn
          have z3 := hk3.size
          clear hgw rd3 hs3 hk3 hok3 e4 e5 e6 e7 e8 hrd hgn hown3 HRC HRA
          generalize hbl : bs.length = m at *
          have HBL := Lib.hid hbl
          clear hbl
          go_wp2_with (at_builtin; refine wpList_append_rd rfl (.tmp 102) (.tmp 103) 22 rfl w1.heap.size 5 ib (.int .u8 0) 1 Try.underlying22 hib hib0 hib1 hib2 rfl (.slice ga gn gc) gn (bv (b.take ρ.off.toNat)) rfl HGW.out a3 m c3 _ (bv bs) rfl (by rw [bv_length, HBL.out]) RD3.out (bv_one _) (by omega) (by unfold maxLen; omega) (by omega) ?_; intro a5 c5 w5 hown5 hgr5 hat5)
          have k5 : Chg (Value.slice ga gn gc).ownBlock.toList w3 w5 := Chg.of_grown hgr5 (fun x hx _ => by simp [hx])
          have hgb : ∀ x ∈ (Value.slice ga gn gc).ownBlock.toList, w1.heap.size ≤ x := fun x hx => (HG.out.lt x (by simpa using hx)).1
          have z0 := HK1.out.size
          go_roundw
          case rel =>
            obtain ⟨x4, x5, x6, x7, x8⟩ := E4.out
            obtain ⟨q1, q2, q3⟩ := HOF.out
            refine ⟨k + 1, by omega, by go_num, ρ', HOK3.out, x4.trans q1, x5.trans q2, x6.trans q3, by omega, HS3.out.chg k5 (fun hm => by have := hgb _ hm; omega) (fun x hx hm => by have := hgb _ hm; have := bf1 _ hx; omega), ?_, by have := k5.size; omega, a5, c5, gn + m, rfl, ?_, ?_⟩
            · exact (HC.out.trans' HK3.out (U := []) (by simp) (fun x hx hl => by simp at hx; omega)).trans' k5 (by simp) (fun x hx hl => by have := hgb _ hx; omega)
            · rw [q1] at x8; rw [x8, List.length_append, HGN.out, HBL.out]
            · rw [q1] at x8; rw [x8, bv_append]; exact hown5
          case measure => simp [intOf]; omega
    · skip
      have hwant : ((L : Int) < fail) := by omega
      have HWANT := Lib.hid hwant
      clear hwant
      have hwl : (0 : Int) ≤ (L : Int) ∧ (L : Int) ≤ (bc : Int) := by omega
      obtain ⟨hw0, hw1⟩ := hwl
      go_upto_region 10 with (fail)
      have hown0 : (w1.alloc (.cells #[] 5)).ownsRow w1.heap.size 5 1 (.slice (some ⟨w1.heap.size, 0, none⟩) 0 0) 0 (bv (b.take 0)) := own_empty (heap_alloc_new _ _) (Nat.le_refl _)
      have s1' := HS1.out.chg ((Chg.refl [] w1).alloc (.cells #[] 5)) (by simp) (by simp)
      have k1' := HK1.out.alloc (.cells #[] 5)
      have hz1 : w1.heap.size ≤ (w1.alloc (.cells #[] 5)).heap.size := by simp
      generalize w1.alloc (.cells #[] 5) = w2 at *
      have HO2 := Lib.hid hown0
      have HS2 := Lib.hid s1'
      have HK2 := Lib.hid k1'
      clear hown0 s1' k1'
      go_wp2_with fail
      go_loopw [10, 48] (fun gv i wr => ∃ k : Nat, k ≤ L + 1 ∧ i = .int .i64 k ∧ DPInv w wr w1.heap.size p f1 b c fail gv k) (fun _ i _ => L + 1 - (intOf i).toNat)
      case atStart => exact ⟨0, Nat.zero_le _, rfl, ⟨b, c, fail, 0, 0⟩, RSrc.ok_new (by rw [HL.out]; omega) (by omega) hf, rfl, rfl, rfl, by simp, HS2.out, HK2.out, hz1, _, _, _, rfl, by simp, HO2.out⟩
      case round =>
        obtain ⟨k, hk, rfl, ρ, hok, hρb, hρc, hρf, hko, hs, hc, hsz, ga, gc, gn, rfl, hgn, hg⟩ := hrel
        have hofl := hok.offl
        rw [hρb, HL.out] at hofl
        have hlt : k < L + 1 := by omega
        have hrc := RSrc.read_cases hok (1 + n) (by omega)
        have hra := RSrc.read_cases hok 1 (by decide)
        have HRC := Lib.hid hrc
        have HRA := Lib.hid hra
        have HOK := Lib.hid hok
        have HS := Lib.hid hs
        have HC := Lib.hid hc
        have HG := Lib.hid hg
        have HOF := Lib.hid (And.intro hρb (And.intro hρc hρf))
        clear hrc hra hok hs hc hg hρb hρc hρf
        go_wp2_with fail
        refine (srcRead' _ p f1 ρ (1 + n) HOK.out HS.out (by omega)).mono ?_
        rintro e w3 ⟨⟨a3, c3, rfl, hown3⟩, hs3, hk3⟩
        have hok3 := RSrc.ok_read HOK.out (1 + n)
        rcases HRC.out with ⟨e1, e2, e3, e4⟩ | ⟨e1, e2, e3, e4⟩ | ⟨e1, e2, e3, e4, e5, e6, e7, e8⟩
        · exfalso
          have h1 := HWANT.out
          have h2 := HOK.out.offf
          have h3 := HOK.out.offl
          obtain ⟨q1, q2, q3⟩ := HOF.out
          rw [q1, HL.out] at h3
          rw [q3] at e3 e4
          omega
        · rw [e2] at hown3 hs3 ⊢
          rw [e1]
          simp only [List.length_nil] at hown3 ⊢
          have hs3' := hs3
          have HS3 := Lib.hid hs3
          have HK3 := Lib.hid hk3
          have E3 := Lib.hid e3
          have E4 := Lib.hid e4
          clear hs3 hs3' hk3 hown3 e1 e2 e3 e4 hok3
          go_wp2_with fail
          refine (srcRead' _ p f1 ρ 1 HOK.out HS3.out (by decide)).mono ?_
          rintro e w4 ⟨⟨a4, c4, rfl, hown4⟩, hs4, hk4⟩
          have hrd1 : (ρ.read 1).1 = 4 ∧ (ρ.read 1).2 = ([], ρ) := by
            have x3 := E3.out
            have x4 := E4.out
            have hne := RSrc.read_same ρ 1 (1 + n) (by omega) (by omega)
            rcases HRA.out with ⟨y1, y2, y3, y4⟩ | ⟨y1, y2, y3, y4⟩ | ⟨y1, y2, y3, y4, y5, y6, y7, y8⟩
            · exact absurd ⟨y3, y4⟩ x4
            · exact ⟨y1, y2⟩
            · exact absurd y1 (by rw [(hne.2 ⟨by omega, x4⟩)]; decide)
          rw [hrd1.2] at hown4 hs4 ⊢
          rw [hrd1.1]
          simp only [List.length_nil] at hown4 ⊢
          have hoff : ρ.off = (L : Int) := by
            have x3 := E3.out
            have x4 := E4.out
            have h1 := HWANT.out
            have h2 := HOK.out.offf
            obtain ⟨q1, q2, q3⟩ := HOF.out
            rw [q3] at x4 h2
            rw [q1, HL.out] at x3
            omega
          have hcp : Chg [p] wr w4 := HK3.out.trans hk4
          have hplt := HS.out.lt
          have hkp : Chg [] w w4 := HC.out.trans' hcp (by simp) (fun x hx hl => by simp at hx; omega)
          have hgw := own_chg HG.out hcp (by intro x hx; simp; rintro rfl; have := HS1.out.lt; omega)
          have hv1 := conv_own (S := []) (w' := w4.drew) (l := b.take ρ.off.toNat) hgn hgw (Chg.refl [] w4).drew (by simp)
          have hv2 : (convert 22 9 (.slice bo L bc)).run Try.prog w4.drew = .ok (.string (sb (b.take ρ.off.toNat))) w4.drew :=
            Try.conv _ fp _ _ _ _ (by rw [List.length_take, HL.out, hoff]; omega) (by have hh := (H1.out.chg hkp.drew (by simp)).take ρ.off.toNat; rwa [bv_take] at hh)
          have HS4 := Lib.hid hs4
          have HGW := Lib.hid hgw
          have HKP := Lib.hid hkp
          have HHO := Lib.hid hoff
          clear hs4 hkp hcp hgw hown4 hk4 hoff hrd1 HRA HRC
          go_wp2_with fail
          go_region_held3 (fun w' => (convert 22 9 (.slice ga gn gc)).run Try.prog w' = .ok (.string (sb (b.take ρ.off.toNat))) w' ∧ (convert 22 9 (.slice bo L bc)).run Try.prog w' = .ok (.string (sb (b.take ρ.off.toNat))) w' ∧ Chg [] w4 w')
            (first
              | exact ⟨hv1, hv2, (Chg.refl _ _).drew⟩
              | assumption
              | exact ⟨hcv1, hcv2, hk8'⟩)
            (first
              | (go_at_call 23; refine (srcAlive _).mono ?_; rintro e w8 ⟨rfl, hk8⟩; have hk8' : Chg [] w4 w8 := (Chg.refl [] w4).drew.trans hk8; have hcv1 := conv_own (S := []) (w' := w8) (l := b.take ρ.off.toNat) hgn HGW.out hk8' (by simp); have hcv2 : (convert 22 9 (.slice bo L bc)).run Try.prog w8 = .ok (.string (sb (b.take ρ.off.toNat))) w8 := Try.conv _ fp _ _ _ _ (by rw [List.length_take, HL.out, HHO.out]; omega) (by have hh := (H1.out.chg (HKP.out.trans hk8') (by simp)).take ρ.off.toNat; rwa [bv_take] at hh))
              | (go_at_call 26; refine (srcOffset' _ p f1 ρ (HS4.out.chg (S := []) (by go_split_ands; assumption) (by simp) (by simp))).mono ?_; rintro e w9 ⟨rfl, rfl⟩))
          rename_i hS
          have hkf := hS.2.2
          clear hS
          go_wp2_with fail
          go_ret
          exact ⟨by rw [HHO.out]; simp, HKP.out.trans hkf⟩
        · generalize hrd : ρ.read (1 + n) = R at *
          obtain ⟨code, bs, ρ'⟩ := R
          simp only at e1 e2 e3 e4 e5 e6 e7 e8 hown3 hs3 hok3 ⊢
          subst e1
          have hplt := HS1.out.lt
          have hgw := own_chg HG.out hk3 (by intro x hx; simp; rintro rfl; omega)
          have rd3 := (own_rd2 hown3).1
          have hgl : gn ≤ L := by rw [← hgn, List.length_take, HL.out]; omega
          have HGW := Lib.hid hgw
          have RD3 := Lib.hid rd3
          have HS3 := Lib.hid hs3
          have HK3 := Lib.hid hk3
          have HOK3 := Lib.hid hok3
          have E4 := Lib.hid (And.intro e4 (And.intro e5 (And.intro e6 (And.intro e7 e8))))
          have HRD := Lib.hid hrd
          have HGN := Lib.hid hgn
          have z3 := hk3.size
          clear hgw rd3 hs3 hk3 hok3 e4 e5 e6 e7 e8 hrd hgn hown3 HRC HRA
          generalize hbl : bs.length = m at *
          have HBL := Lib.hid hbl
          clear hbl
          go_wp2_with (at_builtin; refine wpList_append_rd rfl (.tmp 102) (.tmp 103) 22 rfl w1.heap.size 5 ib (.int .u8 0) 1 Try.underlying22 hib hib0 hib1 hib2 rfl (.slice ga gn gc) gn (bv (b.take ρ.off.toNat)) rfl HGW.out a3 m c3 _ (bv bs) rfl (by rw [bv_length, HBL.out]) RD3.out (bv_one _) (by omega) (by unfold maxLen; omega) (by omega) ?_; intro a5 c5 w5 hown5 hgr5 hat5)
          have k5 : Chg (Value.slice ga gn gc).ownBlock.toList w3 w5 := Chg.of_grown hgr5 (fun x hx _ => by simp [hx])
          have hgb : ∀ x ∈ (Value.slice ga gn gc).ownBlock.toList, w1.heap.size ≤ x := fun x hx => (HG.out.lt x (by simpa using hx)).1
          have z0 := HK1.out.size
          go_roundw
          case rel =>
            obtain ⟨x4, x5, x6, x7, x8⟩ := E4.out
            obtain ⟨q1, q2, q3⟩ := HOF.out
            refine ⟨k + 1, by omega, by go_num, ρ', HOK3.out, x4.trans q1, x5.trans q2, x6.trans q3, by omega, HS3.out.chg k5 (fun hm => by have := hgb _ hm; omega) (fun x hx hm => by have := hgb _ hm; have := bf1 _ hx; omega), ?_, by have := k5.size; omega, a5, c5, gn + m, rfl, ?_, ?_⟩
            · exact (HC.out.trans' HK3.out (U := []) (by simp) (fun x hx hl => by simp at hx; omega)).trans' k5 (by simp) (fun x hx hl => by have := hgb _ hx; omega)
            · rw [q1] at x8; rw [x8, List.length_append, HGN.out, HBL.out]
            · rw [q1] at x8; rw [x8, bv_append]; exact hown5
          case measure => simp [intOf]; omega
  · skip
    have hwant : (fail < 0) := by omega
    have HWANT := Lib.hid hwant
    clear hwant
    have hwl : (0 : Int) ≤ (L : Int) ∧ (L : Int) ≤ (bc : Int) := by omega
    obtain ⟨hw0, hw1⟩ := hwl
    go_upto_region 10 with (fail)
    have hown0 : (w1.alloc (.cells #[] 5)).ownsRow w1.heap.size 5 1 (.slice (some ⟨w1.heap.size, 0, none⟩) 0 0) 0 (bv (b.take 0)) := own_empty (heap_alloc_new _ _) (Nat.le_refl _)
    have s1' := HS1.out.chg ((Chg.refl [] w1).alloc (.cells #[] 5)) (by simp) (by simp)
    have k1' := HK1.out.alloc (.cells #[] 5)
    have hz1 : w1.heap.size ≤ (w1.alloc (.cells #[] 5)).heap.size := by simp
    generalize w1.alloc (.cells #[] 5) = w2 at *
    have HO2 := Lib.hid hown0
    have HS2 := Lib.hid s1'
    have HK2 := Lib.hid k1'
    clear hown0 s1' k1'
    go_wp2_with fail
    go_loopw [10, 48] (fun gv i wr => ∃ k : Nat, k ≤ L + 1 ∧ i = .int .i64 k ∧ DPInv w wr w1.heap.size p f1 b c fail gv k) (fun _ i _ => L + 1 - (intOf i).toNat)
    case atStart => exact ⟨0, Nat.zero_le _, rfl, ⟨b, c, fail, 0, 0⟩, RSrc.ok_new (by rw [HL.out]; omega) (by omega) hf, rfl, rfl, rfl, by simp, HS2.out, HK2.out, hz1, _, _, _, rfl, by simp, HO2.out⟩
    case round =>
      obtain ⟨k, hk, rfl, ρ, hok, hρb, hρc, hρf, hko, hs, hc, hsz, ga, gc, gn, rfl, hgn, hg⟩ := hrel
      have hofl := hok.offl
      rw [hρb, HL.out] at hofl
      have hlt : k < L + 1 := by omega
      have hrc := RSrc.read_cases hok (1 + n) (by omega)
      have hra := RSrc.read_cases hok 1 (by decide)
      have HRC := Lib.hid hrc
      have HRA := Lib.hid hra
      have HOK := Lib.hid hok
      have HS := Lib.hid hs
      have HC := Lib.hid hc
      have HG := Lib.hid hg
      have HOF := Lib.hid (And.intro hρb (And.intro hρc hρf))
      clear hrc hra hok hs hc hg hρb hρc hρf
      go_wp2_with fail
      refine (srcRead' _ p f1 ρ (1 + n) HOK.out HS.out (by omega)).mono ?_
      rintro e w3 ⟨⟨a3, c3, rfl, hown3⟩, hs3, hk3⟩
      have hok3 := RSrc.ok_read HOK.out (1 + n)
      rcases HRC.out with ⟨e1, e2, e3, e4⟩ | ⟨e1, e2, e3, e4⟩ | ⟨e1, e2, e3, e4, e5, e6, e7, e8⟩
      · exfalso
        have h1 := HWANT.out
        have h2 := HOK.out.offf
        have h3 := HOK.out.offl
        obtain ⟨q1, q2, q3⟩ := HOF.out
        rw [q1, HL.out] at h3
        rw [q3] at e3 e4
        omega
      · rw [e2] at hown3 hs3 ⊢
        rw [e1]
        simp only [List.length_nil] at hown3 ⊢
        have hs3' := hs3
        have HS3 := Lib.hid hs3
        have HK3 := Lib.hid hk3
        have E3 := Lib.hid e3
        have E4 := Lib.hid e4
        clear hs3 hs3' hk3 hown3 e1 e2 e3 e4 hok3
        go_wp2_with fail
        refine (srcRead' _ p f1 ρ 1 HOK.out HS3.out (by decide)).mono ?_
        rintro e w4 ⟨⟨a4, c4, rfl, hown4⟩, hs4, hk4⟩
        have hrd1 : (ρ.read 1).1 = 4 ∧ (ρ.read 1).2 = ([], ρ) := by
          have x3 := E3.out
          have x4 := E4.out
          have hne := RSrc.read_same ρ 1 (1 + n) (by omega) (by omega)
          rcases HRA.out with ⟨y1, y2, y3, y4⟩ | ⟨y1, y2, y3, y4⟩ | ⟨y1, y2, y3, y4, y5, y6, y7, y8⟩
          · exact absurd ⟨y3, y4⟩ x4
          · exact ⟨y1, y2⟩
          · exact absurd y1 (by rw [(hne.2 ⟨by omega, x4⟩)]; decide)
        rw [hrd1.2] at hown4 hs4 ⊢
        rw [hrd1.1]
        simp only [List.length_nil] at hown4 ⊢
        have hoff : ρ.off = (L : Int) := by
          have x3 := E3.out
          have x4 := E4.out
          have h1 := HWANT.out
          have h2 := HOK.out.offf
          obtain ⟨q1, q2, q3⟩ := HOF.out
          rw [q3] at x4 h2
          rw [q1, HL.out] at x3
          omega
        have hcp : Chg [p] wr w4 := HK3.out.trans hk4
        have hplt := HS.out.lt
        have hkp : Chg [] w w4 := HC.out.trans' hcp (by simp) (fun x hx hl => by simp at hx; omega)
        have hgw := own_chg HG.out hcp (by intro x hx; simp; rintro rfl; have := HS1.out.lt; omega)
        have hv1 := conv_own (S := []) (w' := w4.drew) (l := b.take ρ.off.toNat) hgn hgw (Chg.refl [] w4).drew (by simp)
        have hv2 : (convert 22 9 (.slice bo L bc)).run Try.prog w4.drew = .ok (.string (sb (b.take ρ.off.toNat))) w4.drew :=
          Try.conv _ fp _ _ _ _ (by rw [List.length_take, HL.out, hoff]; omega) (by have hh := (H1.out.chg hkp.drew (by simp)).take ρ.off.toNat; rwa [bv_take] at hh)
        have HS4 := Lib.hid hs4
        have HGW := Lib.hid hgw
        have HKP := Lib.hid hkp
        have HHO := Lib.hid hoff
        clear hs4 hkp hcp hgw hown4 hk4 hoff hrd1 HRA HRC
        go_wp2_with fail
        go_region_held3 (fun w' => (convert 22 9 (.slice ga gn gc)).run Try.prog w' = .ok (.string (sb (b.take ρ.off.toNat))) w' ∧ (convert 22 9 (.slice bo L bc)).run Try.prog w' = .ok (.string (sb (b.take ρ.off.toNat))) w' ∧ Chg [] w4 w')
          (first
            | exact ⟨hv1, hv2, (Chg.refl _ _).drew⟩
            | assumption
            | exact ⟨hcv1, hcv2, hk8'⟩)
          (first
            | (go_at_call 23; refine (srcAlive _).mono ?_; rintro e w8 ⟨rfl, hk8⟩; have hk8' : Chg [] w4 w8 := (Chg.refl [] w4).drew.trans hk8; have hcv1 := conv_own (S := []) (w' := w8) (l := b.take ρ.off.toNat) hgn HGW.out hk8' (by simp); have hcv2 : (convert 22 9 (.slice bo L bc)).run Try.prog w8 = .ok (.string (sb (b.take ρ.off.toNat))) w8 := Try.conv _ fp _ _ _ _ (by rw [List.length_take, HL.out, HHO.out]; omega) (by have hh := (H1.out.chg (HKP.out.trans hk8') (by simp)).take ρ.off.toNat; rwa [bv_take] at hh))
            | (go_at_call 26; refine (srcOffset' _ p f1 ρ (HS4.out.chg (S := []) (by go_split_ands; assumption) (by simp) (by simp))).mono ?_; rintro e w9 ⟨rfl, rfl⟩))
        rename_i hS
        have hkf := hS.2.2
        clear hS
        go_wp2_with fail
        go_ret
        exact ⟨by rw [HHO.out]; simp, HKP.out.trans hkf⟩
      · generalize hrd : ρ.read (1 + n) = R at *
        obtain ⟨code, bs, ρ'⟩ := R
        simp only at e1 e2 e3 e4 e5 e6 e7 e8 hown3 hs3 hok3 ⊢
        subst e1
        have hplt := HS1.out.lt
        have hgw := own_chg HG.out hk3 (by intro x hx; simp; rintro rfl; omega)
        have rd3 := (own_rd2 hown3).1
        have hgl : gn ≤ L := by rw [← hgn, List.length_take, HL.out]; omega
        have HGW := Lib.hid hgw
        have RD3 := Lib.hid rd3
        have HS3 := Lib.hid hs3
        have HK3 := Lib.hid hk3
        have HOK3 := Lib.hid hok3
        have E4 := Lib.hid (And.intro e4 (And.intro e5 (And.intro e6 (And.intro e7 e8))))
        have HRD := Lib.hid hrd
        have HGN := Lib.hid hgn
        have z3 := hk3.size
        clear hgw rd3 hs3 hk3 hok3 e4 e5 e6 e7 e8 hrd hgn hown3 HRC HRA
        generalize hbl : bs.length = m at *
        have HBL := Lib.hid hbl
        clear hbl
        go_wp2_with (at_builtin; refine wpList_append_rd rfl (.tmp 102) (.tmp 103) 22 rfl w1.heap.size 5 ib (.int .u8 0) 1 Try.underlying22 hib hib0 hib1 hib2 rfl (.slice ga gn gc) gn (bv (b.take ρ.off.toNat)) rfl HGW.out a3 m c3 _ (bv bs) rfl (by rw [bv_length, HBL.out]) RD3.out (bv_one _) (by omega) (by unfold maxLen; omega) (by omega) ?_; intro a5 c5 w5 hown5 hgr5 hat5)
        have k5 : Chg (Value.slice ga gn gc).ownBlock.toList w3 w5 := Chg.of_grown hgr5 (fun x hx _ => by simp [hx])
        have hgb : ∀ x ∈ (Value.slice ga gn gc).ownBlock.toList, w1.heap.size ≤ x := fun x hx => (HG.out.lt x (by simpa using hx)).1
        have z0 := HK1.out.size
        go_roundw
        case rel =>
          obtain ⟨x4, x5, x6, x7, x8⟩ := E4.out
          obtain ⟨q1, q2, q3⟩ := HOF.out
          refine ⟨k + 1, by omega, by go_num, ρ', HOK3.out, x4.trans q1, x5.trans q2, x6.trans q3, by omega, HS3.out.chg k5 (fun hm => by have := hgb _ hm; omega) (fun x hx hm => by have := hgb _ hm; have := bf1 _ hx; omega), ?_, by have := k5.size; omega, a5, c5, gn + m, rfl, ?_, ?_⟩
          · exact (HC.out.trans' HK3.out (U := []) (by simp) (fun x hx hl => by simp at hx; omega)).trans' k5 (by simp) (fun x hx hl => by have := hgb _ hx; omega)
          · rw [q1] at x8; rw [x8, List.length_append, HGN.out, HBL.out]
          · rw [q1] at x8; rw [x8, bv_append]; exact hown5
        case measure => simp [intOf]; omega
end Go.Proofs.Ytljlcigbehgohaa
