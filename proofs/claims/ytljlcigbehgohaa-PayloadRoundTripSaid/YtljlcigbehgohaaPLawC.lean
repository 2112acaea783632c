/- paxtarlaw11.PayloadConsecutive. -/
import Derived.Test.YtljlcigbehgohaaPLawA
import Derived.Test.YtljlcigbehgohaaOpenB
namespace Go.Pax
open Go.RowKit
/-- A payload, padded; payloads, one after the other. -/
def padded (x : List UInt8) : List UInt8 := x ++ List.replicate (padN x.length) 0
def strm (L : List (List UInt8)) : List UInt8 := (L.map padded).flatten
theorem padded_len (x : List UInt8) : (padded x).length = 512 * blocksOf x.length ∧ (padded x).length = x.length + padN x.length := by
  have h : (padded x).length = x.length + padN x.length := by simp [padded]
  refine ⟨?_, h⟩
  rw [h]
  unfold blocksOf padN
  split <;> omega
theorem strm_take (L : List (List UInt8)) (i : Nat) (h : i < L.length) : strm (L.take (i + 1)) = strm (L.take i) ++ padded L[i] := by
  unfold strm
  rw [List.take_succ_eq_append_getElem h, List.map_append, List.flatten_append]; simp
theorem strm_all (L : List (List UInt8)) : strm (L.take L.length) = strm L := by rw [List.take_length]
theorem strm_split (L : List (List UInt8)) (i : Nat) (h : i < L.length) : ∃ post, strm L = strm (L.take i) ++ padded L[i] ++ post := by
  refine ⟨strm (L.drop (i + 1)), ?_⟩
  rw [← strm_take L i h]
  conv => lhs; rw [← List.take_append_drop (i + 1) L]
  unfold strm
  rw [List.map_append, List.flatten_append]
theorem strm_mod (L : List (List UInt8)) : (strm L).length % 512 = 0 := by
  induction L with
  | nil => rfl
  | cons x l ih =>
    have h : strm (x :: l) = padded x ++ strm l := by simp [strm]
    rw [h, List.length_append, (padded_len x).1]; omega
theorem strm_le (L : List (List UInt8)) : (strm L).length ≤ total L + 511 * L.length := by
  induction L with
  | nil => simp [strm, total]
  | cons x l ih =>
    have h : strm (x :: l) = padded x ++ strm l := by simp [strm]
    have h2 : total (x :: l) = x.length + total l := by simp [total]
    have h3 := padN_lt x.length
    rw [h, List.length_append, (padded_len x).2, h2, List.length_cons]; omega
theorem padN_mod {T : Nat} (h : T % 512 = 0) (n : Nat) : padN (T + n) = padN n := by unfold padN; omega
theorem idxNZ_zeros (n : Nat) : idxNZ (List.replicate n 0) = -1 := idxNZ_none (fun j hj => by simp)
theorem total_pre (L : List (List UInt8)) (i : Nat) : total (L.take i) ≤ total L := by
  unfold total
  conv => rhs; rw [← List.take_append_drop i L, List.map_append, List.sum_append]
  omega
/-- What was written is read back. -/
theorem payRd_at {ρ : RSrc} (h : ρ.Ok) (hf : ρ.fail = -1) {pre x post : List UInt8} (hb : ρ.b = pre ++ padded x ++ post) (ho : ρ.off = pre.length) (hx : x.length ≤ 1099511627776) :
    ∃ ρ', payRd 0 ρ x.length = ((x, ρ.off + (padded x).length, 0), 0, ρ') ∧ ρ'.off = ρ.off + (padded x).length ∧ ρ'.Ok ∧ ρ'.b = ρ.b ∧ ρ'.fail = -1 := by
  obtain ⟨l1, l2⟩ := padded_len x
  by_cases h0 : x = []
  · subst h0
    refine ⟨ρ, ?_, ?_, h, rfl, hf⟩
    · unfold payRd
      rw [if_neg (by simp), if_neg (by simp), if_pos (by simp), l2]; simp [padN]
    · rw [l2]; simp [padN]
  have hl := List.length_pos_iff.2 h0
  obtain ⟨g1, g2, g3, g4⟩ := rdLoop_free (b := ρ.b) (blocksOf x.length) [] ρ h rfl hf
  have hbl : ρ.b.length = pre.length + (padded x).length + post.length := by rw [hb]; simp [Nat.add_assoc]
  unfold payRd
  rw [if_neg (by omega), if_neg (by omega), if_neg (by omega)]
  have hacc : (ρ.b.drop ρ.off.toNat).take (512 * blocksOf x.length) = padded x := by
    rw [ho, hb, Int.toNat_natCast, List.append_assoc, List.drop_left, ← l1, List.take_left]
  rcases g4 with ⟨k1, k2, k3, k4, k5⟩ | ⟨k1, _⟩
  · generalize rdLoop (blocksOf x.length) [] ρ = R at *
    obtain ⟨c, acc, e, ρ'⟩ := R
    simp only [List.nil_append] at g1 g2 g3 k2 k3 k4 k5
    rw [hacc] at k3
    subst k2 k3
    refine ⟨ρ', ?_, by rw [k4]; omega, g1, g2, g3⟩
    rw [payEnd_ok]
    unfold padOut
    rw [Int.toNat_natCast, show (padded x).drop x.length = List.replicate (padN x.length) 0 by unfold padded; rw [List.drop_left], idxNZ_zeros, if_pos rfl, show (padded x).take x.length = x by unfold padded; rw [List.take_left], k4]
    congr 2
    congr 1
    omega
  · omega
end Go.Pax
namespace Go.Proofs.Ytljlcigbehgohaa
open Go.RowKit Go.Pax

/-- The first loop of the law: the lengths are summed. -/
def Summed (L : List (List UInt8)) (k : Nat) (v : Value) : Prop := ∃ x : Int, v = .int .i64 x ∧ (L.length ≤ 50 → x = total (L.take k))

set_option maxRecDepth 100000 in
set_option maxHeartbeats 16000000 in
theorem payRow (w : World) (lo co : Option Addr) (lc cc : Nat) (L : List (List UInt8)) (c : List Int) (fail : Int) (fp : List Nat)
    (hb : ∀ b ∈ L, b.length ≤ 140737488355328) (hll : L.length ≤ 140737488355328) (hcl : c.length * 8 ≤ 140737488355328)
    (h1 : RdB w fp lo L) (h2 : Rd w fp co (iv c)) :
    Calls Try.prog 22 #[.slice lo L.length lc, .agg #[.slice co c.length cc, .int .i64 fail]] w fun e w' => e = .returned (.bool true) ∧ Chg [] w w' := by
  have H1 := Lib.hid h1
  have H2 := Lib.hid h2
  have HB := Lib.hid hb
  have HTB := Lib.hid (total_bound L _ hb)
  clear h1 h2 hb
  generalize hN : L.length = N at *
  generalize hM : c.length = M at *
  have HN := Lib.hid hN
  have HM := Lib.hid hM
  clear hN hM
  go_enter Try.func22, Try.ntmps22
  go_upto_region 1 with (fail)
  have hW0 : Chg [] w (w.alloc (.cells #[.slice co M cc, .int .i64 fail] 25)) := (Chg.refl _ _).alloc _
  have e0 : (w.alloc (.cells #[.slice co M cc, .int .i64 fail] 25)).heap[w.heap.size]? = some (.cells #[.slice co M cc, .int .i64 fail] 25 (0, 0)) := heap_alloc_new _ _
  have hsz0 : (w.alloc (.cells #[.slice co M cc, .int .i64 fail] 25)).heap.size = w.heap.size + 1 := by simp
  have d0 := cell_heap e0 0 rfl
  clear e0
  generalize w.alloc (.cells #[.slice co M cc, .int .i64 fail] 25) = W0 at *
  have HW0 := Lib.hid hW0
  have HSZ0 := Lib.hid hsz0
  clear hW0 hsz0
  go_wp2_with fail
  go_loopw [5, 21] (fun s i wr => ∃ k : Nat, k ≤ N ∧ i = .int .i64 k ∧ wr = W0 ∧ Summed L k s) (fun _ i _ => N - (intOf i).toNat)
  case atStart => exact ⟨0, Nat.zero_le _, rfl, rfl, 0, rfl, fun _ => by simp [total]⟩
  case round =>
    obtain ⟨k, hk, rfl, hwr, x, rfl, hx⟩ := hrel
    obtain rfl := hwr.symm
    have HX := Lib.hid hx
    clear hx
    by_cases hlt : k < N
    · have hkL : k < L.length := by rw [HN.out]; exact hlt
      obtain ⟨ad, a, bc, rfl, hcell, hbc, hrow⟩ := (H1.out.chg HW0.out (by simp)).at k hkL
      have ht := total_take L k hkL
      have hbl := HB.out _ (List.getElem_mem hkL)
      have HT := Lib.hid ht
      have hbnd : N ≤ 50 → total (L.take k) ≤ 7036874417766400 := fun h => by
        have h1 := HTB.out k
        have h2 : k * 140737488355328 ≤ 50 * 140737488355328 := Nat.mul_le_mul_right _ (by omega)
        omega
      have HBD := Lib.hid hbnd
      clear ht hrow hbnd
      generalize L[k].length = b at *
      by_cases h50 : N ≤ 50
      · have hxe := HX.out (by rw [HN.out]; exact h50)
        have hx0 : 0 ≤ x := by omega
        have hx1 : x ≤ 7036874417766400 := by have := HBD.out h50; omega
        have HXE := Lib.hid hxe
        clear hxe
        go_wp2_with fail
        go_roundw
        case rel => exact ⟨k + 1, by omega, by go_num, trivial, x + b, rfl, fun _ => by rw [HT.out, HXE.out]; simp⟩
        case measure => simp [intOf]; omega
      · go_wp2_with fail
        go_roundw
        case rel => exact ⟨k + 1, by omega, by go_num, trivial, _, rfl, fun h => absurd (by rw [HN.out] at h; exact h) h50⟩
        case measure => simp [intOf]; omega
    · have hkk : k = N := by omega
      subst hkk
      by_cases h50 : 50 < k
      · go_wp2_with (go_at_call 41; refine (payAlive _).mono ?_; rintro e w9 ⟨rfl, hc9⟩; have HC9 := Lib.hid hc9; clear hc9)
        all_goals
          go_ret
          exact ⟨rfl, HW0.out.trans HC9.out⟩
      have hxe := HX.out (by rw [HN.out]; omega)
      rw [← HN.out, total_all] at hxe
      have HXE := Lib.hid hxe
      clear hxe
      by_cases h5 : 5000 < x
      · go_wp2_with (go_at_call 41; refine (payAlive _).mono ?_; rintro e w9 ⟨rfl, hc9⟩; have HC9 := Lib.hid hc9; clear hc9)
        go_ret
        exact ⟨rfl, HW0.out.trans HC9.out⟩
      by_cases h3 : 300 < M
      · go_wp2_with (go_at_call 41; refine (payAlive _).mono ?_; rintro e w9 ⟨rfl, hc9⟩; have HC9 := Lib.hid hc9; clear hc9)
        go_ret
        exact ⟨rfl, HW0.out.trans HC9.out⟩
      have htl : total L ≤ 5000 := by have := HXE.out; omega
      have HTL := Lib.hid htl
      have hokS : Snk.Ok ⟨[], c, -1, 0⟩ := Snk.ok_new (by rw [HM.out]; omega) (by decide)
      have HOKS := Lib.hid hokS
      clear htl hokS
      go_upto_region 10 with (fail)
      have hW : Chg [] w (W0.alloc (.cells #[.slice co M cc, .int .i64 (-1)] 25)) := HW0.out.alloc _
      have e0 : (W0.alloc (.cells #[.slice co M cc, .int .i64 (-1)] 25)).heap[W0.heap.size]? = some (.cells #[.slice co M cc, .int .i64 (-1)] 25 (0, 0)) := heap_alloc_new _ _
      have d1 := cell_heap e0 0 rfl
      have d2 := cell_heap e0 1 rfl
      clear e0
      generalize W0.alloc (.cells #[.slice co M cc, .int .i64 (-1)] 25) = W at *
      have HW := Lib.hid hW
      clear hW d0
      go_upto_region 12 with (first
        | (go_at_call 36; refine (sinkNew _ w.heap.size co M cc c (-1) fp HM.out hcl HW.out.size (H2.out.chg HW.out (by simp))).mono ?_; rintro e w6 ⟨q, f3, rfl, s6, k6, b6, bf6⟩; have HS6 := Lib.hid s6; have HK6 := Lib.hid k6; have HBF6 := Lib.hid bf6; have HB6 := Lib.hid b6; clear s6 k6 bf6 b6)
        | (go_at_call 47; refine (newWriter _ w.heap.size q f3 [] _ HS6.out rfl).mono ?_; rintro e w7 ⟨r3, rfl, h7, k7, hr7⟩; have HW7 := Lib.hid h7; have HK7 := Lib.hid k7; have HR7 := Lib.hid hr7; clear h7 k7 hr7))
      have hz : W.heap.size ≤ q ∧ W.heap.size ≤ r3 := ⟨HB6.out, by have := HR7.out; have := HK6.out.size; omega⟩
      have hzw : w.heap.size ≤ W.heap.size := HW.out.size
      have hk7 : Chg [] W w7 := HK6.out.trans HK7.out
      have HZ := Lib.hid hz
      have HZW := Lib.hid hzw
      have HKW := Lib.hid hk7
      have HD := Lib.hid (And.intro d1 d2)
      clear hz hzw hk7 d1 d2
      go_wp2_with fail
      go_loopw [53] (fun i wr => ∃ m : Nat, m ≤ k ∧ i = .int .i64 m ∧ Chg [] W wr ∧ ∃ o σ, WrtAt w.heap.size wr r3 q f3 o 0 σ ∧ σ.Ok ∧ σ.fail = -1 ∧ (∀ g ∈ o, W.heap.size ≤ g) ∧ σ.b = strm (L.take m)) (fun i _ => k - (intOf i).toNat)
      case atStart => exact ⟨0, Nat.zero_le _, rfl, HKW.out, [], _, HW7.out, HOKS.out, rfl, by simp, by simp [strm]⟩
      case round =>
        obtain ⟨m, hm, rfl, hkr, o, σ, hwt, hok, hsf, hog, hsb⟩ := hrel
        have HKR := Lib.hid hkr
        have HWT := Lib.hid hwt
        have HOK := Lib.hid hok
        have HSF := Lib.hid hsf
        have HOG := Lib.hid hog
        have HSB := Lib.hid hsb
        clear hkr hwt hok hsf hog hsb
        have hsl : σ.b.length ≤ 33000 := by
          rw [HSB.out]
          have h1 := strm_le (L.take m)
          have h2 := total_pre L m
          have h3 : (L.take m).length ≤ 50 := by rw [List.length_take, HN.out]; omega
          have h4 := HTL.out
          omega
        have HSL := Lib.hid hsl
        clear hsl
        by_cases hlt : m < k
        · have hkL : m < L.length := by rw [HN.out]; exact hlt
          obtain ⟨ad, a, bc, rfl, hcell, hbc, hrow⟩ := H1.out.at m hkL
          obtain ⟨f4, hr4, hb4⟩ := hrow.tight
          have hkw : Chg [] w wr := HW.out.trans HKR.out
          replace hcell := hkw.cell hcell (by simp)
          have hrl : L[m].length ≤ 5000 := by
            have h1 := total_take L m hkL
            have h2 := total_pre L (m + 1)
            have h3 := HTL.out
            omega
          obtain ⟨p1, p2, p3, p4⟩ := payW_free HOK.out (by rw [HSF.out]; decide) L[m]
          have hol := HWT.out.s.ownlt
          have hst := payWrite wr w.heap.size r3 q f3 o f4 0 σ L[m] a bc HWT.out HOK.out (hr4.chg hkw (by simp)) hbc (fun y hy => by
            have h2 := (hb4 y hy).2
            have hz := HZ.out
            have hzw := HZW.out
            have hs := hkw.size
            exact ⟨by omega, by omega, fun hm => by have := HOG.out y hm; omega, by omega⟩) (by have := HSL.out; omega)
          have htk := strm_take L m hkL
          have hpm : padN (σ.b.length + L[m].length) = padN L[m].length := padN_mod (by rw [HSB.out]; exact strm_mod _) _
          rw [hpm] at p2
          have hsb' : (payW 0 σ L[m]).2.b = strm (L.take (m + 1)) := by rw [p2, htk, HSB.out]; unfold padded; rw [List.append_assoc]
          generalize payW 0 σ L[m] = PW at *
          obtain ⟨c1, σ1⟩ := PW
          simp only at p1 p3 p4 hst hsb'
          subst p1
          have HST := Lib.hid hst
          have HP := Lib.hid (And.intro p3 (And.intro p4 hsb'))
          clear p2 p3 p4 hol hst htk hpm hsb' hrow hr4 hb4 hkw
          generalize L[m].length = b at *
          go_wp2_with (go_at_call 58; refine HST.out.mono ?_; rintro e w8 ⟨rfl, hto⟩; have HTO := Lib.hid hto; clear hto)
          go_roundw
          case rel =>
            obtain ⟨o', ⟨h1, h2⟩, h3⟩ := HTO.out
            have hz := HZ.out
            have hs := HKR.out.size
            refine ⟨m + 1, by omega, by go_num, HKR.out.nil_of h3 (Nat.le_refl _) ?_, o', σ1, h1, HP.out.2.1, by rw [HP.out.1, HSF.out], ?_, HP.out.2.2⟩
            · intro y hy
              rcases List.mem_cons.1 hy with rfl | hy
              · omega
              · rcases List.mem_cons.1 hy with rfl | hy
                · omega
                · exact HOG.out y hy
            · intro g hg
              rcases h2 g hg with h | h
              · exact HOG.out g h
              · omega
          case measure => simp [intOf]; omega
        · have hmk : m = k := by omega
          subst hmk
          have hsb : σ.b = strm L := by rw [HSB.out, ← HN.out, strm_all]
          have HSBL := Lib.hid hsb
          clear hsb
          have dd1 := HKR.out.cell HD.out.1 (by simp)
          have dd2 := HKR.out.cell HD.out.2 (by simp)
          have hokr : RSrc.Ok ⟨σ.b, c, -1, 0, 0⟩ := RSrc.ok_new (by have := HSL.out; omega) (by rw [HM.out]; omega) (by decide)
          have HOKR := Lib.hid hokr
          clear hokr
          have hSLo : σ.b.length ≤ 33000 := HSL.out
          go_upto_region 18 with (fail)
          refine wp_region_held_drew (S := fun w' => w'.cell? ⟨W0.heap.size, 0, none⟩ = some (.slice co M cc) ∧ w'.cell? ⟨W0.heap.size, 1, none⟩ = some (.int .i64 (-1)) ∧ Chg [] W w') (by kernel_rfl) ?_ (fun hHeld => ?_)
          · exact ⟨by simp [*], by simp [*], HKR.out.drew⟩
          refine wpAnyH_take (i := 0) (oi := ?oi1) (v := ?v1) ?hi1 (by kernel_rfl) (by kernel_rfl) (by kernel_rfl) ?hQ1 (Or.inl ⟨?hw1, ?hy1⟩) (by assumption) ?hr1
          case hi1 => simp only [List.getElem?_toArray, List.getElem?_cons_zero]; rfl
          case hQ1 => exact fun _ _ _ h => h
          case hw1 => rfl
          case hy1 => intro w hSw; (try dsimp only at hSw); go_simp; (try with_reducible rfl)
          case hr1 =>
          simp only [Act.put, List.setIfInBounds_toArray, List.set_cons_zero, List.set_cons_succ]
          refine wpAnyH_take (i := 2) (oi := ?oi2) (v := ?v2) ?hi2 (by kernel_rfl) (by kernel_rfl) (by kernel_rfl) ?hQ2 (Or.inl ⟨?hw2, ?hy2⟩) (by assumption) ?hr2
          case hi2 => simp only [List.getElem?_toArray, List.getElem?_cons_succ, List.getElem?_cons_zero]; rfl
          case hQ2 => exact fun _ _ _ h => h
          case hw2 => rfl
          case hy2 => intro w hSw; (try dsimp only at hSw); go_simp; (try with_reducible rfl)
          case hr2 =>
          simp only [Act.put, List.setIfInBounds_toArray, List.set_cons_zero, List.set_cons_succ]
          refine wpAnyH_ready (rs := [1]) (by kernel_rfl) (by simp) (AllReadyH.cons (o := ?oc3) ?hc3 (fun K hK => ?hs3) AllReadyH.nil)
          case hc3 => simp only [List.getElem?_toArray, List.getElem?_cons_succ, List.getElem?_cons_zero]; rfl
          case hs3 =>
          rw [if_pos (by rfl)]
          go_simp
          go_at_call 32; refine (sinkBytes _ w.heap.size q f3 o σ (HWT.out.s.chg (Chg.refl [] wr).drew (by simp) (by simp) (by simp)) (Nat.le_trans hSLo (by decide))).mono ?_; rintro e w10 ⟨a10, c10, rfl, hown10, hgr10⟩; have k10 : Chg [] wr.drew w10 := Chg.of_grown hgr10 (by simp); have HO10 := Lib.hid hown10; clear hown10 hgr10
          go_wp2_with fail
          refine hK.out _ _ ?_ (fun hHeld => ?_)
          · exact ⟨k10.cell hHeld.1 (by simp), k10.cell hHeld.2.1 (by simp), hHeld.2.2.trans k10⟩
          clear hK K
          try simp only [Act.put, List.setIfInBounds_toArray, List.set_cons_zero, List.set_cons_succ]
          refine wpAnyH_ready (rs := [3]) (by kernel_rfl) (by simp) (AllReadyH.cons (o := ?oc4) ?hc4 (fun K hK => ?hs4) AllReadyH.nil)
          case hc4 => simp only [List.getElem?_toArray, List.getElem?_cons_succ, List.getElem?_cons_zero]; rfl
          case hs4 =>
          rw [if_pos (by rfl)]
          go_simp
          go_at_call 24; refine (srcNewN _ a10 co σ.b.length c10 M cc σ.b c (-1) _ rfl HM.out (by omega) hcl ((own_rd2 HO10.out).1.mono (fun k hk => List.mem_append_left _ hk)) (((H2.out.chg HW.out (by simp)).chg (S := []) hHeld.2.2 (by simp)).mono (fun k hk => List.mem_append_right _ hk))).mono ?_; rintro e w11 ⟨p, f1, rfl, s11, k11, b11, bf11⟩; have HS11 := Lib.hid s11; have HBF11 := Lib.hid bf11; clear s11 bf11
          go_wp2_with fail
          refine hK.out _ _ ?_ (fun hHeld => ?_)
          · exact ⟨k11.cell hHeld.1 (by simp), k11.cell hHeld.2.1 (by simp), hHeld.2.2.trans k11⟩
          clear hK K
          try simp only [Act.put, List.setIfInBounds_toArray, List.set_cons_zero, List.set_cons_succ]
          refine wpAnyH_ready (rs := [4]) (by kernel_rfl) (by simp) (AllReadyH.cons (o := ?oc5) ?hc5 (fun K hK => ?hs5) AllReadyH.nil)
          case hc5 => simp only [List.getElem?_toArray, List.getElem?_cons_succ, List.getElem?_cons_zero]; rfl
          case hs5 =>
          rw [if_pos (by rfl)]
          go_simp
          go_at_call 43; refine (newReader _ p f1 ⟨σ.b, c, -1, 0, 0⟩ HS11.out rfl (fun hm => by have := (HBF11.out _ hm).2; omega)).mono ?_; rintro e w12 ⟨r, rfl, s12, k12, hr12⟩; have HS12 := Lib.hid s12; have HR12 := Lib.hid hr12; clear s12 hr12
          go_wp2_with fail
          refine hK.out _ _ ?_ (fun hHeld => ?_)
          · exact ⟨k12.cell hHeld.1 (by simp), k12.cell hHeld.2.1 (by simp), hHeld.2.2.trans k12⟩
          clear hK K
          try simp only [Act.put, List.setIfInBounds_toArray, List.set_cons_zero, List.set_cons_succ]
          refine wpAnyH_take (i := 5) (oi := ?oi6) (v := ?v6) ?hi6 (by kernel_rfl) (by kernel_rfl) (by kernel_rfl) ?hQ6 (Or.inl ⟨?hw6, ?hy6⟩) (by assumption) ?hr6
          case hi6 => simp only [List.getElem?_toArray, List.getElem?_cons_succ, List.getElem?_cons_zero]; rfl
          case hQ6 => exact fun _ _ _ h => h
          case hw6 => rfl
          case hy6 => intro w hSw; (try dsimp only at hSw); go_simp; (try with_reducible rfl)
          case hr6 =>
          simp only [Act.put, List.setIfInBounds_toArray, List.set_cons_zero, List.set_cons_succ]
          refine wpAnyH_done (by kernel_rfl) ?_ _
          have HK12 := Lib.hid hHeld.2.2
          have h1018 := And.intro k10 (And.intro k11 k12)
          have KAA := Lib.hid h1018
          clear hHeld k10 k11 k12 h1018 dd1 dd2
          have hpf : p ∉ f1 := by obtain ⟨_, _, _, _, _, _, _, h, _⟩ := HS11.out; exact h
          have hq11 := HS11.out.lt
          have hwl := HWT.out.lt
          have hsq := HWT.out.s.lt
          have hol := HWT.out.s.ownlt
          have hf3 : ∀ y ∈ f3, y < wr.heap.size := by obtain ⟨_, _, _, _, _, _, _, _, _, _, h, _⟩ := HWT.out.s; exact h
          have hs10 : wr.heap.size ≤ w10.heap.size := KAA.out.1.size
          have hs11 : w10.heap.size ≤ w11.heap.size := KAA.out.2.1.size
          have hr12 := HR12.out
          have hsq12 : SnkAt w.heap.size w12 q f3 o σ := HWT.out.s.chg ((Chg.refl [] wr).drew.trans (KAA.out.1.trans (KAA.out.2.1.trans KAA.out.2.2))) (by simp) (by simp) (by simp)
          have hap : (r ≠ q ∧ r ∉ f3 ∧ r ∉ o) ∧ (p ≠ q ∧ p ∉ f3 ∧ p ∉ o) :=
            ⟨⟨by omega, fun h => by have := hf3 r h; omega, fun h => by have := (hol r h).2; omega⟩, ⟨by omega, fun h => by have := hf3 p h; omega, fun h => by have := (hol p h).2; omega⟩⟩
          have hrp : W.heap.size ≤ r ∧ W.heap.size ≤ p := by have := HKR.out.size; exact ⟨by omega, by omega⟩
          have HPF := Lib.hid hpf
          have HSQ := Lib.hid hsq12
          have HAP := Lib.hid hap
          have HRP := Lib.hid hrp
          clear b11 hpf hq11 hwl hsq hol hf3 hs10 hs11 hr12 hsq12 hap hrp
          go_wp2_with fail
          go_loopw [69] (fun i wr => ∃ k : Nat, k ≤ m ∧ i = .int .i64 k ∧ Chg [] W wr ∧ SnkAt w.heap.size wr q f3 o σ ∧ ∃ ρ, RdrAt wr r p f1 0 ρ ∧ ρ.Ok ∧ ρ.fail = -1 ∧ ρ.b = strm L ∧ ρ.off = (strm (L.take k)).length) (fun i _ => m - (intOf i).toNat)
          case atStart => exact ⟨0, Nat.zero_le _, rfl, HK12.out, HSQ.out, _, HS12.out, HOKR.out, rfl, HSBL.out, by simp [strm]⟩
          case round =>
            obtain ⟨k, hk, rfl, hkr, hsq, ρ, hrd, hok, hrf, hrb, hro⟩ := hrel
            have HKR2 := Lib.hid hkr
            have HSQ2 := Lib.hid hsq
            clear hkr hsq
            by_cases hlt : k < m
            · have hkL : k < L.length := by rw [HN.out]; exact hlt
              obtain ⟨ad, a, bc, rfl, hcell, hbc, hrow⟩ := H1.out.at k hkL
              obtain ⟨f4, hr4, hb4⟩ := hrow.tight
              rename_i wr2 _
              have hkw := HW.out.trans HKR2.out
              replace hcell := hkw.cell hcell (by simp)
              replace hr4 := hr4.chg hkw (by simp)
              have hrl : L[k].length ≤ 5000 := by
                have h1 := total_take L k hkL
                have h2 := total_pre L (k + 1)
                have h3 := HTL.out
                omega
              obtain ⟨post, hpost⟩ := strm_split L k hkL
              have htk := strm_take L k hkL
              obtain ⟨ρ', g1, g2, g3, g4, g5⟩ := payRd_at hok hrf (hrb.trans hpost) hro (show L[k].length ≤ 1099511627776 by omega)
              have hst := payRead _ r p f1 0 ρ L[k].length hrd hok HPF.out
              rw [g1] at hst
              have hoff : ρ.off + (padded L[k]).length = (strm (L.take (k + 1))).length := by rw [hro, htk, List.length_append]; push_cast; rfl
              rw [hoff] at hst g2
              generalize L[k] = row at *
              generalize hT : (strm (L.take (k + 1))).length = T at *
              have HT := Lib.hid hT
              clear hT
              have HST := Lib.hid hst
              have HR4 := Lib.hid hr4
              have HB4 := Lib.hid hb4
              have HG := Lib.hid (And.intro g3 (And.intro (g4.trans hrb) g5))
              have HG2 := Lib.hid g2
              clear hst hr4 hb4 g1 g2 g3 g4 g5 hpost htk hrow hoff hrd hok hrf hrb hro hkw
              generalize hRL : row.length = RL at *
              have HRL := Lib.hid hRL
              clear hRL
              go_wp2_with (first
                | (go_at_call 55; refine HST.out.mono ?_; rintro e w8 ⟨⟨a4, c4, fq4, h8, hr8, hb8⟩, s8, k8⟩; dsimp only at h8 hr8; rw [HRL.out] at h8; subst h8; have v1 : (convert 22 9 (.slice a4 RL c4)).run Try.prog w8 = .ok (.string (sb row)) w8 := Try.conv w8 _ a4 RL c4 row HRL.out hr8; have v2 : (convert 22 9 (.slice a RL bc)).run Try.prog w8 = .ok (.string (sb row)) w8 := Try.conv w8 _ a RL bc row HRL.out (HR4.out.chg k8 (fun y hy => by have h1 := (HB4.out y hy).2; have h2 := HZW.out; have h3 := HRP.out; simp; omega)); have HS8 := Lib.hid s8; have HK8 := Lib.hid k8; clear hr8 hb8 s8 k8)
                | (go_at_call 46; refine (readerOffset _ r p f1 _ _ HS8.out).mono ?_; rintro e w9 ⟨rfl, hww⟩; obtain rfl := hww.symm; rw [HG2.out]))
              go_roundw
              case rel =>
                refine ⟨k + 1, by omega, by go_num, HKR2.out.nil_of HK8.out (Nat.le_refl _) (by have := HRP.out; simp; omega), HSQ2.out.chg HK8.out ?_ ?_ ?_, ρ', HS8.out, HG.out.1, HG.out.2.2, HG.out.2.1, by rw [HG2.out, HT.out]⟩
                · have := HAP.out; simp; omega
                · intro y hy hm
                  have h := HAP.out
                  rcases List.mem_cons.1 hm with rfl | hm
                  · exact h.1.2.1 hy
                  · rcases List.mem_cons.1 hm with rfl | hm
                    · exact h.2.2.1 hy
                    · cases hm
                · intro y hy hm
                  have h := HAP.out
                  rcases List.mem_cons.1 hm with rfl | hm
                  · exact h.1.2.2 hy
                  · rcases List.mem_cons.1 hm with rfl | hm
                    · exact h.2.2.2 hy
                    · cases hm
              case measure => simp [intOf]; omega
            · have hmk : k = m := by omega
              subst hmk
              rw [← HN.out, strm_all, ← HSBL.out] at hro
              have HRO := Lib.hid hro
              have HRD := Lib.hid hrd
              have HSLEN : Hid (σ.b.length ≤ 33000) := Lib.hid hSLo
              clear hro hrd hok hrf hrb
              go_wp2_with (first
                | (go_at_call 41; refine (payAlive _).mono ?_; rintro e w9 ⟨rfl, hc9⟩; have HC9 := Lib.hid hc9; clear hc9)
                | (go_at_call 46; refine (readerOffset _ r p f1 _ _ (HRD.out.chg HC9.out (by simp) (by simp) (by simp))).mono ?_; rintro e w10 ⟨rfl, hww⟩; obtain rfl := hww.symm; rw [HRO.out])
                | (go_at_call 33; refine (sinkLen _ w.heap.size q f3 o σ (HSQ2.out.chg HC9.out (by simp) (by simp) (by simp))).mono ?_; rintro e w11 ⟨rfl, hww⟩; obtain rfl := hww.symm))
              go_ret
              exact ⟨rfl, (HW.out.trans HKR2.out).trans HC9.out⟩
end Go.Proofs.Ytljlcigbehgohaa
