/- package block: Reader.Next. -/
import Derived.Test.YtljlcigbehgohaaBlkR
namespace Go.Proofs.Ytljlcigbehgohaa
open Go.RowKit Go.Pax

theorem GotB.of {w w' : World} {e : Ending} {code : Int} {b : List UInt8} {ao : Option Addr} {n cap : Nat} (h : e = .returned (.tuple #[.slice ao n cap, .int .i64 code])) (hn : b.length = n) (ho : w'.ownsRow w.heap.size 5 1 (.slice ao n cap) n (bv b)) : GotB w w' e code b := by
  subst hn; exact ⟨ao, cap, h, ho⟩
/-- A reader in a loop of reads. -/
def RLoop (w wr : World) (r p : Nat) (fp : List Nat) (ρ : RSrc) (v : Value) : Prop :=
  ∃ (acc : List UInt8) (ρ' : RSrc) (f : Nat) (ao : Option Addr) (cap : Nat), v = .slice ao acc.length cap ∧ acc.length ≤ 512 ∧ 512 ≤ acc.length + f ∧ ρ'.Ok ∧ nextF 512 [] ρ = nextF f acc ρ' ∧
    wr.ownsRow w.heap.size 5 1 (.slice ao acc.length cap) acc.length (bv acc) ∧ RdrAt wr r p fp 0 ρ' ∧ Chg [r, p] w wr

theorem rdr_step {w w1 w2 : World} {r p : Nat} {fp : List Nat} {ρ : RSrc} {err : Int} (h : RdrAt w1 r p fp err ρ) (k : Chg [r, p] w w1) (hk : Chg [p] w1 w2) :
    w2.heap[r]? = some (.cells #[.int .i64 ρ.off, .int .i64 err, .pointer (some ⟨p, 0, none⟩)] 110 (0, 0)) ∧ Chg [r, p] w w2 :=
  ⟨hk.heap h.blk (by simpa using h.rp), k.trans (hk.mono (by simp))⟩

theorem rdr_fail {w w2 : World} {r p : Nat} {fp : List Nat} {ρ ρ' : RSrc} {err e : Int} (hrp : r ≠ p) (hrf : r ∉ fp) (hs : SrcAt w2 p fp ρ'.src) (hb : w2.heap[r]? = some (.cells #[.int .i64 ρ.off, .int .i64 err, .pointer (some ⟨p, 0, none⟩)] 110 (0, 0)))
    (ho : ρ'.off = ρ.off) (k : Chg [r, p] w w2) : RdrAt (w2.setCell ⟨r, 1, none⟩ (.int .i64 e)) r p fp e ρ' ∧ Chg [r, p] w (w2.setCell ⟨r, 1, none⟩ (.int .i64 e)) := by
  have k3 : Chg [r] w2 (w2.setCell ⟨r, 1, none⟩ (.int .i64 e)) := (Chg.refl _ _).setCell (fun _ => by simp) _
  exact ⟨⟨by rw [ho]; exact heap_set hb 1 _ rfl, hs.chg k3 (by simpa using Ne.symm hrp) (fun y hy => by simp; rintro rfl; exact hrf hy), hrp, hrf⟩, k.trans (k3.mono (by simp))⟩

set_option maxRecDepth 100000 in
set_option maxHeartbeats 2000000 in
theorem readerNext0 (w : World) (r p : Nat) (fp : List Nat) (ρ : RSrc) (h : RdrAt w r p fp 0 ρ) (hok : ρ.Ok) (hfp : ∀ k ∈ fp, k < w.heap.size) :
    Calls Try.prog 44 #[.pointer (some ⟨r, 0, none⟩)] w fun e w' => GotB w w' e (nextF 512 [] ρ).1 (nextF 512 [] ρ).2.1 ∧ RdrAt w' r p fp (nextF 512 [] ρ).1 (nextF 512 [] ρ).2.2 ∧ Chg [r, p] w w' := by
  have c1 := cell_heap h.blk 1 rfl
  have hrl := h.lt
  have hpl := h.s.lt
  have H := Lib.hid h
  have HOK := Lib.hid hok
  have HFP := Lib.hid hfp
  obtain ⟨ib, hib, hib0, hib1, hib2⟩ := Try.infoB
  clear h hok hfp
  go_enter Try.func44, Try.ntmps44
  go_wp2_with (at_make; refine wpList_make_own _ rfl (.const (.int .i64 0)) (.const (.int .i64 512)) 22 rfl w.heap.size 5 ib (.int .u8 0) 1 Try.underlying22 hib hib0 hib1 .i64 .i64 _ 512 rfl rfl rfl (by rw [hib2]; omega) (by unfold maxLen; omega) (Nat.le_refl _) ?_; intro w1 hown1 hgr1; have HO1 := Lib.hid hown1; have HG1 := Lib.hid hgr1; clear hown1 hgr1)
  have k1 : Chg [] w w1 := Chg.of_grown HG1.out (by simp)
  have K1 := Lib.hid k1
  clear k1
  go_loopw [4] (fun v wr => RLoop w wr r p fp ρ v) (fun v _ => 512 - slen v)
  case atStart => exact ⟨[], ρ, 512, _, _, rfl, by simp, by simp, HOK.out, rfl, HO1.out, H.out.chg K1.out (by simp) (by simp) (by simp), K1.out.mono (by simp)⟩
  case round =>
    clear c1
    obtain ⟨acc, ρ', f, ao, cap, rfl, hal, haf, hok', he, hown, hrd, hk⟩ := hrel
    have c2 := cell_heap hrd.blk 2 rfl
    have HE := Lib.hid he
    have HO := Lib.hid hown
    have HRD := Lib.hid hrd
    have HK := Lib.hid hk
    have HOK' := Lib.hid hok'
    clear he hown hrd hk hok'
    by_cases hfull : 512 ≤ acc.length
    · have hal' : acc.length = 512 := by omega
      generalize hAL : acc.length = A at *
      subst hal'
      have HAL := Lib.hid hAL
      clear hAL
      go_wp2_with fail
      go_ret2
      rw [HE.out, nextF_full f (by rw [HAL.out]; exact Nat.le_refl _)]
      exact ⟨GotB.of rfl HAL.out HO.out, HRD.out, HK.out⟩
    obtain ⟨f, rfl⟩ : ∃ g, f = g + 1 := ⟨f - 1, by omega⟩
    have hst := srcRead' wr p fp ρ' (512 - acc.length) HOK'.out HRD.out.s (by omega)
    have hnx : nextF (f + 1) acc ρ' = if (ρ'.read (512 - acc.length)).1 = 0 then nextF f (acc ++ (ρ'.read (512 - acc.length)).2.1) (ρ'.read (512 - acc.length)).2.2
        else ((if (ρ'.read (512 - acc.length)).1 = 4 ∧ 0 < acc.length then 5 else (ρ'.read (512 - acc.length)).1), [], ρ') := by
      conv => lhs; unfold nextF
      rw [if_neg hfull]
    rw [hnx] at HE
    have hwz := HK.out.size
    rcases ρ'.read_ways HOK'.out (n := 512 - acc.length) (by omega) with ⟨hr, r1, r2⟩ | ⟨hr, r1, r2⟩ | ⟨bs, ρ2, hr, b1, b2, b3, b4, b5, b6, b7, b8⟩
    · rw [hr] at hst HE
      simp only [show ((11 : Int) = 0) = False by simp, show ((11 : Int) = 4) = False by simp, false_and, if_false] at HE
      have HST := Lib.hid hst
      clear hst hr hnx
      generalize acc.length = A at *
      go_upto_region 8 with (go_at_call 25; refine HST.out.mono ?_; rintro e w2 ⟨⟨a2, c2, rfl, hown2⟩, hs2, hk2⟩; have HS2 := Lib.hid hs2; have HK2 := Lib.hid hk2; clear hown2 hs2 hk2)
      obtain ⟨hb2, hk02⟩ := rdr_step HRD.out HK.out HK2.out
      have HB2 := Lib.hid hb2
      have HK02 := Lib.hid hk02
      clear hb2 hk02
      go_wp2_with (go_at_call 64; refine (statusFail _ r 11 _ _ HB2.out (by simp)).mono ?_; rintro e w3 ⟨rfl, rfl⟩)
      go_ret2
      rw [HE.out]
      obtain ⟨g1, g2⟩ := rdr_fail (e := 11) HRD.out.rp HRD.out.rf HS2.out HB2.out rfl HK02.out
      exact ⟨⟨none, 0, rfl, World.ownsRow_nil _ _ _ _⟩, g1, g2⟩
    · rw [hr] at hst HE
      by_cases ha : 0 < acc.length
      · simp only [show ((4 : Int) = 0) = False by simp, if_false, true_and, ha, if_true] at HE
        have HST := Lib.hid hst
        clear hst hr hnx
        generalize acc.length = A at *
        go_upto_region 8 with (go_at_call 25; refine HST.out.mono ?_; rintro e w2 ⟨⟨a2, c2, rfl, hown2⟩, hs2, hk2⟩; have HS2 := Lib.hid hs2; have HK2 := Lib.hid hk2; clear hown2 hs2 hk2)
        obtain ⟨hb2, hk02⟩ := rdr_step HRD.out HK.out HK2.out
        have HB2 := Lib.hid hb2
        have HK02 := Lib.hid hk02
        clear hb2 hk02
        go_wp2_with (go_at_call 64; refine (statusFail _ r 5 _ _ HB2.out (by simp)).mono ?_; rintro e w3 ⟨rfl, rfl⟩)
        go_ret2
        rw [HE.out]
        obtain ⟨g1, g2⟩ := rdr_fail (e := 5) HRD.out.rp HRD.out.rf HS2.out HB2.out rfl HK02.out
        exact ⟨⟨none, 0, rfl, World.ownsRow_nil _ _ _ _⟩, g1, g2⟩
      · simp only [show ((4 : Int) = 0) = False by simp, if_false, true_and, ha] at HE
        have HST := Lib.hid hst
        clear hst hr hnx
        generalize acc.length = A at *
        go_upto_region 8 with (go_at_call 25; refine HST.out.mono ?_; rintro e w2 ⟨⟨a2, c2, rfl, hown2⟩, hs2, hk2⟩; have HS2 := Lib.hid hs2; have HK2 := Lib.hid hk2; clear hown2 hs2 hk2)
        obtain ⟨hb2, hk02⟩ := rdr_step HRD.out HK.out HK2.out
        have HB2 := Lib.hid hb2
        have HK02 := Lib.hid hk02
        clear hb2 hk02
        go_wp2_with (go_at_call 64; refine (statusFail _ r 4 _ _ HB2.out (by simp)).mono ?_; rintro e w3 ⟨rfl, rfl⟩)
        go_ret2
        rw [HE.out]
        obtain ⟨g1, g2⟩ := rdr_fail (e := 4) HRD.out.rp HRD.out.rf HS2.out HB2.out rfl HK02.out
        exact ⟨⟨none, 0, rfl, World.ownsRow_nil _ _ _ _⟩, g1, g2⟩
    · rw [hr] at hst HE
      simp only [if_true] at HE hst
      have HST := Lib.hid hst
      have HB3 := Lib.hid b3
      have HB8 := Lib.hid b8
      have hol : ρ'.off ≤ 140737488355328 := by have h1 := HOK'.out.offl; have h2 := HOK'.out.blen; omega
      have ho0 := HOK'.out.off0
      clear hst hr hnx b3 b4 b5 b6 b7 b8
      generalize hAL : acc.length = A at *
      generalize hBL : bs.length = M at *
      have HAL := Lib.hid hAL
      have HBL := Lib.hid hBL
      clear hAL hBL
      go_upto_region 12 with (go_at_call 25; refine HST.out.mono ?_; rintro e w2 ⟨⟨a2, c2, rfl, hown2⟩, hs2, hk2⟩; have HS2 := Lib.hid hs2; have HK2 := Lib.hid hk2; have HO2 := Lib.hid hown2; clear hown2 hs2 hk2; rw [HBL.out])
      obtain ⟨hb2, hk02⟩ := rdr_step HRD.out HK.out HK2.out
      have HB2 := Lib.hid hb2
      have HK02 := Lib.hid hk02
      have hrb := own_rd2 HO2.out
      have ho2 := own_keep HO.out HK2.out (fun g hg hm => by simp at hm; subst hm; have h1 := (HO.out.lt _ (by simpa using hg)).1; omega)
      have HRB := Lib.hid hrb
      have HO' := Lib.hid ho2
      clear hb2 hk02 hrb ho2
      go_upto_region 13 with (at_builtin; refine wpList_append_rd rfl (.tmp 57) (.tmp 58) 22 rfl w.heap.size 5 ib (.int .u8 0) 1 Try.underlying22 hib hib0 hib1 hib2 rfl (.slice ao A cap) A (bv acc) rfl HO'.out a2 M c2 _ (bv bs) rfl (by rw [bv_length, HBL.out]) HRB.out.1 (bv_one _) (by omega) (by unfold maxLen; omega) (by have := HK02.out.size; omega) ?_; intro a3 c3 w3 hown3 hgr3 hat3; have HO3 := Lib.hid hown3; have HG3 := Lib.hid hgr3; clear hown3 hgr3 hat3)
      have hog : ∀ g ∈ (Value.slice ao A cap).ownBlock.toList, w.heap.size ≤ g := fun g hg => (HO'.out.lt g (by simpa using hg)).1
      have k23 : Chg (Value.slice ao A cap).ownBlock.toList w2 w3 := (Chg.refl _ _).grown HG3.out (fun g hg _ => by simp [hg])
      have hb3 := k23.heap HB2.out (fun hm => by have := hog _ hm; omega)
      have hs3 := HS2.out.chg k23 (fun hm => by have := hog _ hm; omega) (fun y hy hm => by have h1 := hog _ hm; have h2 := HFP.out y hy; omega)
      have hk03 : Chg [r, p] w w3 := HK02.out.trans' k23 (fun x hx _ => hx) (fun x hx hl => by have := hog x hx; omega)
      have d0 := cell_heap hb3 0 rfl
      have f0 : w3.frozen? ⟨r, 0, none⟩ = false := frozen_of_row _ _ _ _ _ hb3
      have HBK := Lib.hid hb3
      have HS3 := Lib.hid hs3
      have HK03 := Lib.hid hk03
      have HOG := Lib.hid hog
      clear hb3 hs3 hk03 hog k23
      generalize hOF : ρ'.off = of at *
      have HOF := Lib.hid hOF
      clear hOF
      go_wp2_with fail
      go_roundw
      case rel =>
        have k4 : Chg [r] w3 (w3.setCell ⟨r, 0, none⟩ (.int .i64 (of + M))) := (Chg.refl _ _).setCell (fun _ => by simp) _
        have hlen : (acc ++ bs).length = A + M := by rw [List.length_append, HAL.out, HBL.out]
        refine ⟨acc ++ bs, ρ2, f, a3, c3, by rw [hlen], by rw [hlen]; omega, by rw [hlen]; omega, HB8.out, HE.out, ?_, ⟨?_, HS3.out.chg k4 (by simpa using Ne.symm HRD.out.rp) (fun y hy => by simp; rintro rfl; exact HRD.out.rf hy), HRD.out.rp, HRD.out.rf⟩, HK03.out.trans (k4.mono (by simp))⟩
        · rw [hlen, bv_append]
          exact own_chg HO3.out k4 (fun g hg => by simp; omega)
        · rw [HB3.out]
          exact heap_set HBK.out 0 _ rfl
      case measure => simp [slen]; omega

set_option maxRecDepth 100000 in
set_option maxHeartbeats 2000000 in
theorem readerNext (w : World) (r p : Nat) (fp : List Nat) (err : Int) (ρ : RSrc) (h : RdrAt w r p fp err ρ) (hok : ρ.Ok) (hp : p ∉ fp) :
    Calls Try.prog 44 #[.pointer (some ⟨r, 0, none⟩)] w fun e w' => GotB w w' e (rdNext err ρ).1 (rdNext err ρ).2.1 ∧ RdrAt w' r p fp (rdNext err ρ).1 (rdNext err ρ).2.2 ∧ Chg [r, p] w w' := by
  by_cases he : err = 0
  · subst he
    rw [rdNext_ok]
    obtain ⟨fq, hs, hq⟩ := h.s.tight
    refine (readerNext0 w r p fq ρ ⟨h.blk, hs, h.rp, fun hm => h.rf (hq r hm).1⟩ hok (fun k hk => (hq k hk).2)).mono ?_
    rintro e w' ⟨h1, h2, h3⟩
    exact ⟨h1, ⟨h2.blk, h2.s.mono (fun k hk => (hq k hk).1) hp, h2.rp, h.rf⟩, h3⟩
  · rw [rdNext_err he]
    have c1 := cell_heap h.blk 1 rfl
    have heb : (err == 0) = false := by simpa using he
    have H := Lib.hid h
    clear h hok he
    go_enter Try.func44, Try.ntmps44
    go_upto_region 4 with (fail)
    go_quiet (fail)
    go_wp2_with fail
    go_ret2
    exact ⟨⟨none, 0, rfl, World.ownsRow_nil _ _ _ _⟩, H.out.chg (S := []) ((Chg.refl _ _).drewN _) (by simp) (by simp) (by simp), (Chg.refl _ _).drewN _⟩
end Go.Proofs.Ytljlcigbehgohaa
