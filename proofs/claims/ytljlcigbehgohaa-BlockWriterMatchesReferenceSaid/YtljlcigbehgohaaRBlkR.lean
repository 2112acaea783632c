/- paxtarref06: Reader.Next. -/
import Derived.Test.YtljlcigbehgohaaBlkA
namespace Go.Proofs.Ytljlcigbehgohaa
open Go.RowKit Go.Pax

structure RRdrAt (w : World) (r p : Nat) (fp : List Nat) (err : Int) (ρ : RSrc) : Prop where
  blk : w.heap[r]? = some (.cells #[.pointer (some ⟨p, 0, none⟩), .int .i64 ρ.off, .int .i64 err] 72 (0, 0))
  s : RSrcAt w p fp ρ
  rp : r ≠ p
  rf : r ∉ fp
theorem RRdrAt.chg {w w' : World} {r p : Nat} {fp S : List Nat} {err : Int} {ρ : RSrc} (h : RRdrAt w r p fp err ρ) (k : Chg S w w') (hr : r ∉ S) (hp : p ∉ S) (hf : ∀ x ∈ fp, x ∉ S) : RRdrAt w' r p fp err ρ :=
  ⟨k.heap h.blk hr, h.s.chg k hp hf, h.rp, h.rf⟩
theorem RRdrAt.lt {w : World} {r p : Nat} {fp : List Nat} {err : Int} {ρ : RSrc} (h : RRdrAt w r p fp err ρ) : r < w.heap.size := lt_of_block h.blk
theorem RSrcAt.tight {w : World} {p : Nat} {fp : List Nat} {σ : RSrc} (h : RSrcAt w p fp σ) : ∃ fq, RSrcAt w p fq σ ∧ ∀ k ∈ fq, k ∈ fp ∧ k < w.heap.size := by
  obtain ⟨ra, rc, ca, cc, h1, h2, h3, h4, h5⟩ := h
  obtain ⟨f1, a1, a2⟩ := h2.tight
  obtain ⟨f2, b1, b2⟩ := h3.tight
  refine ⟨f1 ++ f2, ⟨ra, rc, ca, cc, h1, a1.mono (fun k hk => List.mem_append_left _ hk), b1.mono (fun k hk => List.mem_append_right _ hk), fun hm => ?_, h5⟩, fun k hk => ?_⟩
  · rcases List.mem_append.1 hm with h | h
    · exact h4 (a2 _ h).1
    · exact h4 (b2 _ h).1
  · rcases List.mem_append.1 hk with h | h
    · exact a2 _ h
    · exact b2 _ h
theorem RSrcAt.mono {w : World} {p : Nat} {fp fq : List Nat} {σ : RSrc} (h : RSrcAt w p fq σ) (hf : ∀ k ∈ fq, k ∈ fp) (hp : p ∉ fp) : RSrcAt w p fp σ := by
  obtain ⟨ra, rc, ca, cc, h1, h2, h3, h4, h5⟩ := h
  exact ⟨ra, rc, ca, cc, h1, h2.mono hf, h3.mono hf, hp, h5⟩
/-- A reader in a loop of reads. -/
def RRLoop (w wr : World) (r p : Nat) (fp : List Nat) (ρ : RSrc) (v : Value) : Prop :=
  ∃ (acc : List UInt8) (ρ' : RSrc) (f : Nat) (ao : Option Addr) (cap : Nat), v = .slice ao acc.length cap ∧ acc.length ≤ 512 ∧ 512 ≤ acc.length + f ∧ ρ'.Ok ∧ nextF 512 [] ρ = nextF f acc ρ' ∧
    wr.ownsRow w.heap.size 5 1 (.slice ao acc.length cap) acc.length (bv acc) ∧ RRdrAt wr r p fp 0 ρ' ∧ Chg [r, p] w wr
theorem rrdr_step {w w1 w2 : World} {r p : Nat} {fp : List Nat} {ρ : RSrc} {err : Int} (h : RRdrAt w1 r p fp err ρ) (k : Chg [r, p] w w1) (hk : Chg [p] w1 w2) :
    w2.heap[r]? = some (.cells #[.pointer (some ⟨p, 0, none⟩), .int .i64 ρ.off, .int .i64 err] 72 (0, 0)) ∧ Chg [r, p] w w2 :=
  ⟨hk.heap h.blk (by simpa using h.rp), k.trans (hk.mono (by simp))⟩
theorem rrdr_fail {w w2 : World} {r p : Nat} {fp : List Nat} {ρ : RSrc} {err e : Int} (hrp : r ≠ p) (hrf : r ∉ fp) (hs : RSrcAt w2 p fp ρ) (hb : w2.heap[r]? = some (.cells #[.pointer (some ⟨p, 0, none⟩), .int .i64 ρ.off, .int .i64 err] 72 (0, 0)))
    (k : Chg [r, p] w w2) : RRdrAt (w2.setCell ⟨r, 2, none⟩ (.int .i64 e)) r p fp e ρ ∧ Chg [r, p] w (w2.setCell ⟨r, 2, none⟩ (.int .i64 e)) := by
  have k3 : Chg [r] w2 (w2.setCell ⟨r, 2, none⟩ (.int .i64 e)) := (Chg.refl _ _).setCell (fun _ => by simp) _
  exact ⟨⟨heap_set hb 2 _ rfl, hs.chg k3 (by simpa using Ne.symm hrp) (fun y hy => by simp; rintro rfl; exact hrf hy), hrp, hrf⟩, k.trans (k3.mono (by simp))⟩

set_option maxRecDepth 100000 in
set_option maxHeartbeats 4000000 in
theorem rreaderNext0 (w : World) (r p : Nat) (fp : List Nat) (ρ : RSrc) (h : RRdrAt w r p fp 0 ρ) (hok : ρ.Ok) (hfp : ∀ k ∈ fp, k < w.heap.size) :
    Calls Try.prog 45 #[.pointer (some ⟨r, 0, none⟩)] w fun e w' => GotB w w' e (nextF 512 [] ρ).1 (nextF 512 [] ρ).2.1 ∧ RRdrAt w' r p fp (nextF 512 [] ρ).1 (nextF 512 [] ρ).2.2 ∧ Chg [r, p] w w' := by
  have c1 := cell_heap h.blk 2 rfl
  have hrl := h.lt
  have hpl := h.s.lt
  have H := Lib.hid h
  have HOK := Lib.hid hok
  have HFP := Lib.hid hfp
  obtain ⟨ib, hib, hib0, hib1, hib2⟩ := Try.infoB
  clear h hok hfp
  go_enter Try.func45, Try.ntmps45
  go_wp2_with fail
  go_loopw [4] (fun v wr => RRLoop w wr r p fp ρ v) (fun v _ => 512 - slen v)
  case atStart => exact ⟨[], ρ, 512, _, _, rfl, by simp, by simp, HOK.out, rfl, World.ownsRow_nil _ _ _ _, H.out, Chg.refl _ _⟩
  case round =>
    clear c1
    obtain ⟨acc, ρ', f, ao, cap, rfl, hal, haf, hok', he, hown, hrd, hk⟩ := hrel
    have c2 := cell_heap hrd.blk 0 rfl
    have HE := Lib.hid he
    have HO := Lib.hid hown
    have HRD := Lib.hid hrd
    have HK := Lib.hid hk
    have HOK' := Lib.hid hok'
    clear he hown hrd hk hok'
    by_cases hfull : 512 ≤ acc.length
    · have hal' : acc.length = 512 := by omega
      generalize hAL : acc.length = A at *
      subst hal'
      have HAL := Lib.hid hAL
      clear hAL
      go_wp2_with fail
      go_ret2
      rw [HE.out, nextF_full f (by rw [HAL.out]; exact Nat.le_refl _)]
      exact ⟨GotB.of rfl HAL.out HO.out, HRD.out, HK.out⟩
    obtain ⟨f, rfl⟩ : ∃ g, f = g + 1 := ⟨f - 1, by omega⟩
    have hst := refRead wr p fp ρ' (512 - acc.length) HRD.out.s HOK'.out (by omega)
    have hnx : nextF (f + 1) acc ρ' = if (ρ'.read (512 - acc.length)).1 = 0 then nextF f (acc ++ (ρ'.read (512 - acc.length)).2.1) (ρ'.read (512 - acc.length)).2.2
        else ((if (ρ'.read (512 - acc.length)).1 = 4 ∧ 0 < acc.length then 5 else (ρ'.read (512 - acc.length)).1), [], ρ') := by
      conv => lhs; unfold nextF
      rw [if_neg hfull]
    rw [hnx] at HE
    have hwz := HK.out.size
    rcases ρ'.read_ways HOK'.out (n := 512 - acc.length) (by omega) with ⟨hr, r1, r2⟩ | ⟨hr, r1, r2⟩ | ⟨bs, ρ2, hr, b1, b2, b3, b4, b5, b6, b7, b8⟩
    · rw [hr] at hst HE
      simp only [show ((11 : Int) = 0) = False by simp, show ((11 : Int) = 4) = False by simp, false_and, if_false] at HE
      have HST := Lib.hid hst
      clear hst hr hnx
      generalize acc.length = A at *
      go_upto_region 7 with (go_at_call 29; refine HST.out.mono ?_; rintro e w2 ⟨⟨a2, c2, rfl, hown2⟩, hs2, hk2⟩; have HS2 := Lib.hid hs2; have HK2 := Lib.hid hk2; clear hown2 hs2 hk2)
      obtain ⟨hb2, hk02⟩ := rrdr_step HRD.out HK.out HK2.out
      have d2 := cell_heap hb2 2 rfl
      have f2 : w2.frozen? ⟨r, 2, none⟩ = false := frozen_of_row _ _ _ _ _ hb2
      have HB2 := Lib.hid hb2
      have HK02 := Lib.hid hk02
      clear hb2 hk02
      go_wp2_with fail
      go_quiet (fail)
      go_wp2_with fail
      go_ret2
      rw [HE.out]
      obtain ⟨g1, g2⟩ := rrdr_fail (e := 11) HRD.out.rp HRD.out.rf HS2.out HB2.out HK02.out
      exact ⟨⟨none, 0, rfl, World.ownsRow_nil _ _ _ _⟩, g1.chg (S := []) ((Chg.refl _ _).drewN _) (by simp) (by simp) (by simp), g2.drewN _⟩
    · rw [hr] at hst HE
      by_cases ha : 0 < acc.length
      · simp only [show ((4 : Int) = 0) = False by simp, if_false, true_and, ha, if_true] at HE
        have HST := Lib.hid hst
        clear hst hr hnx
        generalize acc.length = A at *
        go_upto_region 7 with (go_at_call 29; refine HST.out.mono ?_; rintro e w2 ⟨⟨a2, c2, rfl, hown2⟩, hs2, hk2⟩; have HS2 := Lib.hid hs2; have HK2 := Lib.hid hk2; clear hown2 hs2 hk2)
        obtain ⟨hb2, hk02⟩ := rrdr_step HRD.out HK.out HK2.out
        have d2 := cell_heap hb2 2 rfl
        have f2 : w2.frozen? ⟨r, 2, none⟩ = false := frozen_of_row _ _ _ _ _ hb2
        have HB2 := Lib.hid hb2
        have HK02 := Lib.hid hk02
        clear hb2 hk02
        obtain ⟨g1, g2⟩ := rrdr_fail (e := 4) HRD.out.rp HRD.out.rf HS2.out HB2.out HK02.out
        have G1 := Lib.hid g1
        have G2 := Lib.hid g2
        clear g1 g2
        go_upto_region 9 with (fail)
        have f3 := frozen_of_row _ r 2 _ _ G1.out.blk
        go_wp2_with fail
        go_quiet (fail)
        go_wp2_with fail
        go_ret2
        rw [HE.out]
        have k3 : ∀ W : World, Chg [r] W (W.setCell ⟨r, 2, none⟩ (.int .i64 5)) := fun W => (Chg.refl _ _).setCell (fun _ => by simp) _
        have g3 : RRdrAt ((w2.setCell ⟨r, 2, none⟩ (.int .i64 4)).setCell ⟨r, 2, none⟩ (.int .i64 5)) r p fp 5 ρ' :=
          ⟨heap_set G1.out.blk 2 _ rfl, G1.out.s.chg (k3 _) (by simpa using Ne.symm HRD.out.rp) (fun y hy => by simp; rintro rfl; exact HRD.out.rf hy), HRD.out.rp, HRD.out.rf⟩
        have g4 := G2.out.trans ((k3 (w2.setCell ⟨r, 2, none⟩ (.int .i64 4))).mono (T := [r, p]) (by simp))
        exact ⟨⟨none, 0, rfl, World.ownsRow_nil _ _ _ _⟩, g3.chg (S := []) ((Chg.refl _ _).drewN _) (by simp) (by simp) (by simp), g4.drewN _⟩
      · simp only [show ((4 : Int) = 0) = False by simp, if_false, true_and, ha] at HE
        have HST := Lib.hid hst
        clear hst hr hnx
        generalize acc.length = A at *
        go_upto_region 7 with (go_at_call 29; refine HST.out.mono ?_; rintro e w2 ⟨⟨a2, c2, rfl, hown2⟩, hs2, hk2⟩; have HS2 := Lib.hid hs2; have HK2 := Lib.hid hk2; clear hown2 hs2 hk2)
        obtain ⟨hb2, hk02⟩ := rrdr_step HRD.out HK.out HK2.out
        have d2 := cell_heap hb2 2 rfl
        have f2 : w2.frozen? ⟨r, 2, none⟩ = false := frozen_of_row _ _ _ _ _ hb2
        have HB2 := Lib.hid hb2
        have HK02 := Lib.hid hk02
        clear hb2 hk02
        go_wp2_with fail
        go_quiet (fail)
        go_wp2_with fail
        go_ret2
        rw [HE.out]
        obtain ⟨g1, g2⟩ := rrdr_fail (e := 4) HRD.out.rp HRD.out.rf HS2.out HB2.out HK02.out
        exact ⟨⟨none, 0, rfl, World.ownsRow_nil _ _ _ _⟩, g1.chg (S := []) ((Chg.refl _ _).drewN _) (by simp) (by simp) (by simp), g2.drewN _⟩
    · rw [hr] at hst HE
      simp only [if_true] at HE hst
      have HST := Lib.hid hst
      have HB3 := Lib.hid b3
      have HB8 := Lib.hid b8
      have hol : ρ'.off ≤ 140737488355328 := by have h1 := HOK'.out.offl; have h2 := HOK'.out.blen; omega
      have ho0 := HOK'.out.off0
      clear hst hr hnx b3 b4 b5 b6 b7 b8
      generalize hAL : acc.length = A at *
      generalize hBL : bs.length = M at *
      have HAL := Lib.hid hAL
      have HBL := Lib.hid hBL
      clear hAL hBL
      go_upto_region 11 with (go_at_call 29; refine HST.out.mono ?_; rintro e w2 ⟨⟨a2, c2, rfl, hown2⟩, hs2, hk2⟩; have HS2 := Lib.hid hs2; have HK2 := Lib.hid hk2; have HO2 := Lib.hid hown2; clear hown2 hs2 hk2; rw [HBL.out])
      obtain ⟨hb2, hk02⟩ := rrdr_step HRD.out HK.out HK2.out
      have HB2 := Lib.hid hb2
      have HK02 := Lib.hid hk02
      have hrb := own_rd2 HO2.out
      have ho2 := own_keep HO.out HK2.out (fun g hg hm => by simp at hm; subst hm; have h1 := (HO.out.lt _ (by simpa using hg)).1; omega)
      have HRB := Lib.hid hrb
      have HO' := Lib.hid ho2
      clear hb2 hk02 hrb ho2
      go_upto_region 12 with (at_builtin; refine wpList_append_rd rfl (.tmp 50) (.tmp 51) 22 rfl w.heap.size 5 ib (.int .u8 0) 1 Try.underlying22 hib hib0 hib1 hib2 rfl (.slice ao A cap) A (bv acc) rfl HO'.out a2 M c2 _ (bv bs) rfl (by rw [bv_length, HBL.out]) HRB.out.1 (bv_one _) (by omega) (by unfold maxLen; omega) (by have := HK02.out.size; omega) ?_; intro a3 c3 w3 hown3 hgr3 hat3; have HO3 := Lib.hid hown3; have HG3 := Lib.hid hgr3; clear hown3 hgr3 hat3)
      have hog : ∀ g ∈ (Value.slice ao A cap).ownBlock.toList, w.heap.size ≤ g := fun g hg => (HO'.out.lt g (by simpa using hg)).1
      have k23 : Chg (Value.slice ao A cap).ownBlock.toList w2 w3 := (Chg.refl _ _).grown HG3.out (fun g hg _ => by simp [hg])
      have hb3 := k23.heap HB2.out (fun hm => by have := hog _ hm; omega)
      have hs3 := HS2.out.chg k23 (fun hm => by have := hog _ hm; omega) (fun y hy hm => by have h1 := hog _ hm; have h2 := HFP.out y hy; omega)
      have hk03 : Chg [r, p] w w3 := HK02.out.trans' k23 (fun x hx _ => hx) (fun x hx hl => by have := hog x hx; omega)
      have d0 := cell_heap hb3 1 rfl
      have f0 : w3.frozen? ⟨r, 1, none⟩ = false := frozen_of_row _ _ _ _ _ hb3
      have HBK := Lib.hid hb3
      have HS3 := Lib.hid hs3
      have HK03 := Lib.hid hk03
      have HOG := Lib.hid hog
      clear hb3 hs3 hk03 hog k23
      generalize hOF : ρ'.off = of at *
      have HOF := Lib.hid hOF
      clear hOF
      go_wp2_with fail
      go_roundw
      case rel =>
        have k4 : Chg [r] w3 (w3.setCell ⟨r, 1, none⟩ (.int .i64 (of + M))) := (Chg.refl _ _).setCell (fun _ => by simp) _
        have hlen : (acc ++ bs).length = A + M := by rw [List.length_append, HAL.out, HBL.out]
        refine ⟨acc ++ bs, ρ2, f, a3, c3, by rw [hlen], by rw [hlen]; omega, by rw [hlen]; omega, HB8.out, HE.out, ?_, ⟨?_, HS3.out.chg k4 (by simpa using Ne.symm HRD.out.rp) (fun y hy => by simp; rintro rfl; exact HRD.out.rf hy), HRD.out.rp, HRD.out.rf⟩, HK03.out.trans (k4.mono (by simp))⟩
        · rw [hlen, bv_append]
          exact own_chg HO3.out k4 (fun g hg => by simp; omega)
        · rw [HB3.out]
          exact heap_set HBK.out 1 _ rfl
      case measure => simp [slen]; omega

set_option maxRecDepth 100000 in
set_option maxHeartbeats 2000000 in
theorem rreaderNext (w : World) (r p : Nat) (fp : List Nat) (err : Int) (ρ : RSrc) (h : RRdrAt w r p fp err ρ) (hok : ρ.Ok) (hp : p ∉ fp) :
    Calls Try.prog 45 #[.pointer (some ⟨r, 0, none⟩)] w fun e w' => GotB w w' e (rdNext err ρ).1 (rdNext err ρ).2.1 ∧ RRdrAt w' r p fp (rdNext err ρ).1 (rdNext err ρ).2.2 ∧ Chg [r, p] w w' := by
  by_cases he : err = 0
  · subst he
    rw [rdNext_ok]
    obtain ⟨fq, hs, hq⟩ := h.s.tight
    refine (rreaderNext0 w r p fq ρ ⟨h.blk, hs, h.rp, fun hm => h.rf (hq r hm).1⟩ hok (fun k hk => (hq k hk).2)).mono ?_
    rintro e w' ⟨h1, h2, h3⟩
    exact ⟨h1, ⟨h2.blk, h2.s.mono (fun k hk => (hq k hk).1) hp, h2.rp, h.rf⟩, h3⟩
  · rw [rdNext_err he]
    have c1 := cell_heap h.blk 2 rfl
    have heb : (err == 0) = false := by simpa using he
    have H := Lib.hid h
    clear h hok he
    go_enter Try.func45, Try.ntmps45
    go_upto_region 2 with (fail)
    go_quiet (fail)
    go_wp2_with fail
    go_ret2
    exact ⟨⟨none, 0, rfl, World.ownsRow_nil _ _ _ _⟩, H.out.chg (S := []) ((Chg.refl _ _).drewN _) (by simp) (by simp) (by simp), (Chg.refl _ _).drewN _⟩
end Go.Proofs.Ytljlcigbehgohaa
