/- paxtarref09: Check at linkpath; paxtarref16: Insert. -/
import Derived.Test.YtoionaeimnmcbaaGreatDoorRStr
import Derived.Test.YtoionaeimnmcbaaGreatDoorVRel
import Derived.Test.YtoionaeimnmcbaaGreatDoorVBits
namespace Go.Proofs.YtoionaeimnmcbaaGreatDoor
open Go.RowKit Go.Pax Go.Shelf
set_option maxRecDepth 100000 in
set_option maxHeartbeats 4000000 in
theorem rcheckRec (w : World) (v : List UInt8) (hv : v.length ≤ 140737488355328) : Calls Tryz.prog 54 #[.agg #[.string (ba linkpath), .string (ba v)]] w fun e w' => e = .returned (.int .i64 (checkV v)) ∧ Chg [] w w' := by
  rw [show ba linkpath = (⟨#[108, 105, 110, 107, 112, 97, 116, 104]⟩ : ByteArray) from rfl]
  have hsz := ba_size v
  have hk : Chg [] w (w.alloc (.cells #[.string ⟨#[108, 105, 110, 107, 112, 97, 116, 104]⟩, .string (ba v)] 106)) := (Chg.refl _ _).alloc _
  have e0 : (w.alloc (.cells #[.string ⟨#[108, 105, 110, 107, 112, 97, 116, 104]⟩, .string (ba v)] 106)).heap[w.heap.size]? = some (.cells #[.string ⟨#[108, 105, 110, 107, 112, 97, 116, 104]⟩, .string (ba v)] 106 (0, 0)) := heap_alloc_new _ _
  have c0 : (w.alloc (.cells #[.string ⟨#[108, 105, 110, 107, 112, 97, 116, 104]⟩, .string (ba v)] 106)).cell? ⟨w.heap.size, 0, none⟩ = some (.string ⟨#[108, 105, 110, 107, 112, 97, 116, 104]⟩) := cell_heap e0 0 rfl
  have c1 : (w.alloc (.cells #[.string ⟨#[108, 105, 110, 107, 112, 97, 116, 104]⟩, .string (ba v)] 106)).cell? ⟨w.heap.size, 1, none⟩ = some (.string (ba v)) := cell_heap e0 1 rfl
  have HK := Lib.hid hk
  clear hk e0
  by_cases h7 : 65536 < v.length
  · have hc : checkV v = 7 := by unfold checkV; rw [if_pos h7]
    rw [hc]
    clear hc
    generalize ba v = P at *
    go_enter Tryz.func54, Tryz.ntmps54
    go_upto_region 1 with (fail)
    generalize w.alloc (.cells #[.string ⟨#[108, 105, 110, 107, 112, 97, 116, 104]⟩, .string P] 106) = W at *
    generalize w.heap.size = g at *
    go_wp2_with fail
    go_ret
    exact ⟨rfl, HK.out⟩
  by_cases c1' : v = []
  · subst c1'
    rw [show checkV [] = 6 from rfl]
    rw [show ba [] = (⟨#[]⟩ : ByteArray) from rfl] at c0 c1 HK ⊢
    clear hsz
    go_enter Tryz.func54, Tryz.ntmps54
    go_upto_region 1 with (fail)
    generalize w.alloc (.cells #[.string ⟨#[108, 105, 110, 107, 112, 97, 116, 104]⟩, .string ⟨#[]⟩] 106) = W at *
    generalize w.heap.size = g at *
    go_upto_region 7 with (fail)
    go_loopw [3] (fun i wr => wr = W ∧ i = .int .i64 0) (fun _ _ => 0)
    case atStart => exact ⟨rfl, rfl⟩
    case round =>
      obtain ⟨hw, rfl⟩ := hrel
      obtain rfl := hw.symm
      go_wp2_with fail
      go_ret
      exact ⟨rfl, HK.out⟩
  have hA : ∀ k (hk : k < v.length), v[k] = 0 → 0 ≤ Lib.indexByte v 0 := fun k hk h => by
    by_cases hn : 0 ≤ Lib.indexByte v 0
    · exact hn
    · have hge := Lib.indexByte_ge v 0
      exact absurd (by rw [List.getElem?_eq_getElem hk, h]) (Lib.indexByte_none (show Lib.indexByte v 0 = -1 by omega) k)
  have hB : (∀ k (hk : k < v.length), v[k] ≠ 0) → ¬ 0 ≤ Lib.indexByte v 0 := fun h hn => by
    obtain ⟨o, ho⟩ : ∃ o : Nat, Lib.indexByte v 0 = o := ⟨_, (Int.toNat_of_nonneg hn).symm⟩
    obtain ⟨h1, _⟩ := Lib.indexByte_some ho
    obtain ⟨h2, h3⟩ := List.getElem?_eq_some_iff.1 h1
    exact h o h2 h3
  have hcv : checkV v = if 0 ≤ Lib.indexByte v 0 then 6 else 0 := by unfold checkV; rw [if_neg h7]; simp [c1']
  have HAB := Lib.hid (And.intro hA (And.intro hB hcv))
  have hem : (ba v).toList.isEmpty = false := by rw [ba_tl]; simpa using c1'
  have HG := Lib.hid (show ∀ j (hj : j < v.length) (hj' : j < (ba v).size), (ba v)[j]'hj' = v[j]'hj from fun j hj hj' => rfl)
  clear hA hB hcv c1'
  generalize checkV v = R at *
  generalize ba v = P at *
  go_enter Tryz.func54, Tryz.ntmps54
  go_upto_region 1 with (fail)
  generalize w.alloc (.cells #[.string ⟨#[108, 105, 110, 107, 112, 97, 116, 104]⟩, .string P] 106) = W at *
  generalize w.heap.size = g at *
  go_upto_region 7 with (fail)
  go_loopw [3] (fun i wr => wr = W ∧ ∃ k : Nat, i = .int .i64 k ∧ k ≤ v.length ∧ ∀ j (hj : j < v.length), j < k → v[j] ≠ 0) (fun i _ => v.length - (intOf i).toNat)
  case atStart => exact ⟨rfl, 0, rfl, Nat.zero_le _, fun j hj hk => by omega⟩
  case round =>
    obtain ⟨hw, k, rfl, hk, ha⟩ := hrel
    obtain rfl := hw.symm
    have HA := Lib.hid ha
    clear ha
    by_cases hlt : k < v.length
    · have hkp : k < P.size := by omega
      have hg := HG.out k hlt hkp
      have hb8 := (v[k]).toNat_lt
      by_cases h0 : v[k] = 0
      · have hR := HAB.out.2.2
        rw [if_pos (HAB.out.1 k hlt h0)] at hR
        subst hR
        rw [h0] at hg
        have hb0 : (((0 : UInt8)).toNat : Int) = 0 := rfl
        go_wp2_with fail
        go_ret
        exact ⟨rfl, HK.out⟩
      · have hb : (((v[k]).toNat : Int) == 0) = false := by
          rw [beq_eq_false_iff_ne]
          intro e
          apply h0
          apply UInt8.toNat_inj.1
          have : (v[k]).toNat = 0 := by omega
          rw [this]; rfl
        have HM := Lib.hid (And.intro h0 trivial)
        clear h0
        go_wp2_with fail
        go_roundw
        case rel => exact ⟨trivial, k + 1, by go_num, by omega, fun j hj hjk => by
          rcases Nat.lt_or_eq_of_le (Nat.le_of_lt_succ hjk) with h1 | h1
          · exact HA.out j hj h1
          · subst h1; exact HM.out.1⟩
        case measure => simp [intOf]; omega
    · have hR := HAB.out.2.2
      have hneg := HAB.out.2.1 (fun j hj => HA.out j hj (by omega))
      rw [if_neg (by omega)] at hR
      clear hneg
      subst hR
      have hkk : k = v.length := by omega
      subst hkk
      go_wp2_with fail
      go_ret
      exact ⟨rfl, HK.out⟩
theorem insK_stop {l : List Str} {s : Str} {k : Nat} (h : k = 0 ∨ ∃ m, k = m + 1 ∧ ¬ s < l.getD m []) : insK l s k = k := by
  rcases h with rfl | ⟨m, rfl, h⟩
  · rfl
  · unfold insK; rw [if_neg h]
theorem insK_go {l : List Str} {s : Str} {m : Nat} (h : s < l.getD m []) : insK l s (m + 1) = insK l s m := by
  conv => lhs; unfold insK
  rw [if_pos h]
set_option maxRecDepth 100000 in
set_option maxHeartbeats 8000000 in
theorem rinsert (w : World) (fp : List Nat) (ao : Option Addr) (n c : Nat) (l : List Str) (s : Str) (hn : l.length = n) (hl : n ≤ 1000000) (hnc : n ≤ c) (h : Rd w fp ao (svn l)) :
    Calls Tryz.prog 58 #[.slice ao n c, .string (ba s)] w fun e w' => ∃ a' c', e = .returned (.slice a' (n + 1) c') ∧ w'.ownsRow w.heap.size 9 1 (.slice a' (n + 1) c') (n + 1) (svn (insR l s)) ∧ Chg [] w w' := by
  obtain ⟨si, hsi, hsi0, hsi1, hsi2⟩ := info_parts Tryz.vinfoS
  have H := Lib.hid h
  have HN := Lib.hid hn
  have HGO := Lib.hid (fun m => insK_go (l := l) (s := s) (m := m))
  have HST := Lib.hid (fun k => insK_stop (l := l) (s := s) (k := k))
  clear h hn
  generalize hS : ba s = S at *
  have HS := Lib.hid hS
  clear hS
  go_enter Tryz.func58, Tryz.ntmps58
  go_upto_region 2 with (fail)
  go_loopw [5] (fun i wr => wr = w ∧ ∃ k : Nat, i = .int .i64 k ∧ k ≤ n ∧ insK l s n = insK l s k) (fun i _ => (intOf i).toNat)
  case atStart => exact ⟨rfl, n, rfl, Nat.le_refl _, rfl⟩
  case round =>
    obtain ⟨hw, k, rfl, hk, hik⟩ := hrel
    obtain rfl := hw.symm
    have HIK := Lib.hid hik
    clear hik
    go_upto_region 2 with (fail)
    generalize hX : decide (0 < k ∧ s < l.getD (k - 1) []) = X at *
    have HX := Lib.hid hX
    clear hX
    go_cut [19] (fun t wx => t = .bool X ∧ wx = w)
    case first =>
      by_cases h0 : k = 0
      · have hd : decide (0 < k ∧ s < l.getD (k - 1) []) = false := by rw [decide_eq_false_iff_not]; omega
        obtain rfl := HX.out.symm.trans hd
        have hz : ¬ 0 < k := by omega
        clear h0 hd
        go_wp2_with fail
        go_meet
        exact ⟨rfl, rfl⟩
      · obtain ⟨m, hkm⟩ : ∃ m, k = m + 1 := ⟨k - 1, by omega⟩
        have hml : m < l.length := by rw [HN.out]; omega
        have hgd : l.getD m [] = l[m] := by simp [hml]
        have hX := HX.out
        rw [show k - 1 = m by omega, hgd] at hX
        obtain ⟨ad, rfl, _, hc⟩ := H.out m (.string (ba l[m])) (by unfold svn; rw [sv_get _ _ (by simpa using hml)]; simp)
        have hq1 : 0 < k := by omega
        have hm2 : m < n := by omega
        have hkw : IntKind.i64.wrap ((k : Int) - 1) = (m : Int) := by rw [show (k : Int) - 1 = m by omega]; exact IntWalk.i64_in _ (by omega)
        have hbl : Op.bytesLess (ba l[m]).toList S.toList = decide (l[m] < s) := by rw [Go.Proofs.bytesLess_eq, ← HS.out, ba_tl, ba_tl]
        have hbe : ((ba l[m]).toList == S.toList) = decide (l[m] = s) := by rw [← HS.out, ba_tl, ba_tl]; exact Bool.eq_iff_iff.2 (by simp)
        have hd : decide (0 < k ∧ s < l[m]) = !(decide (l[m] < s) || decide (l[m] = s)) := by
          by_cases a : l[m] < s
          · have : ¬ s < l[m] := fun h => slt_irrefl _ (slt_trans h a)
            simp [a, this]
          · by_cases b : l[m] = s
            · simp [b, slt_irrefl]
            · simp [a, b, slt_total a b, hq1]
        obtain rfl := hX.symm.trans hd
        generalize decide (l[m] < s) = X1 at *
        generalize decide (l[m] = s) = X2 at *
        generalize ba l[m] = M at *
        have HKM := Lib.hid hkm
        clear hd hX hgd hkm h0
        go_wp2_with fail
        go_meet
        exact ⟨by cases X1 <;> cases X2 <;> rfl, rfl⟩
    case rest =>
      obtain ⟨rfl, hwc⟩ := hcut
      obtain rfl := hwc.symm
      by_cases hd : 0 < k ∧ s < l.getD (k - 1) []
      · obtain ⟨m, rfl⟩ : ∃ m, k = m + 1 := ⟨k - 1, by omega⟩
        have hgo := HGO.out m (by have := hd.2; simpa using this)
        have HG2 := Lib.hid (HIK.out.trans hgo)
        have hdb : X = true := by rw [← HX.out]; simpa using hd
        have hkw : IntKind.i64.wrap (((m + 1 : Nat) : Int) - 1) = (m : Int) := by rw [show ((m + 1 : Nat) : Int) - 1 = m by omega]; exact IntWalk.i64_in _ (by omega)
        subst hdb
        have hm1 : ((m + 1 : Nat) : Int) - 1 = (m : Int) := by omega
        clear hd hgo
        go_wp2_with fail
        go_roundw
        case rel => exact ⟨trivial, m, rfl, by omega, HG2.out⟩
        case measure => simp [intOf]
      · have hXf : X = false := by rw [← HX.out]; simpa using hd
        subst hXf
        have hstop : insK l s n = k := by
          rw [HIK.out]
          refine HST.out k ?_
          by_cases h0 : k = 0
          · exact .inl h0
          · exact .inr ⟨k - 1, by omega, fun h => hd ⟨by omega, h⟩⟩
        have HSP := Lib.hid hstop
        clear hd hstop
        have hke : Chg [] w (w.alloc (.cells #[] 9)) := (Chg.refl _ _).alloc _
        have HR1 := Lib.hid (show Rd (w.alloc (.cells #[] 9)) fp ao (svn (l.take k)) from by
          have := (H.out.chg hke (by simp)).take k
          rw [show (svn l).take k = svn (l.take k) by simp [svn, sv, List.map_take]] at this
          exact this)
        have HL1 := Lib.hid (show (svn (l.take k)).length = k by rw [svn_length, List.length_take, HN.out]; omega)
        have hone := sv_one ((l.take k).map ba)
        go_upto_region 5 with (at_builtin; refine wpList_append_rd rfl (.tmp 22) (.tmp 25) 44 rfl w.heap.size 9 si (.string ⟨#[]⟩) 16 Tryz.underlying44 hsi hsi0 hsi1 hsi2 rfl (.slice (some ⟨w.heap.size, 0, none⟩) 0 0) 0 [] rfl (own_empty (heap_alloc_new _ _) (Nat.le_refl _)) ao k c fp (svn (l.take k)) rfl HL1.out HR1.out hone (by omega) (by unfold maxLen; omega) (by simp) ?_; intro a1 c1 w1 hown1 hgr1 hat1; have HK1 := Lib.hid (hke.grown hgr1 (fun x hx hl => by simp [Value.ownBlock] at hx; omega)); have HO1 := Lib.hid hown1; clear hown1 hgr1 hat1)
        simp only [Nat.zero_add, List.nil_append] at HO1
        have hkb : Chg [] w1 (w1.alloc (.cells #[.string S] 9)) := (Chg.refl _ _).alloc _
        have hrn : Rd (w1.alloc (.cells #[.string S] 9)) [w1.heap.size] (some ⟨w1.heap.size, 0, none⟩) [.string S] := fun j u hu => by
          have hj : j = 0 := by have := (List.getElem?_eq_some_iff.1 hu).1; simp at this; exact this
          subst hj
          simp at hu; subst hu
          exact ⟨_, rfl, by simp, cell_heap (heap_alloc_new _ _) 0 rfl⟩
        have HRN := Lib.hid hrn
        have HOB := Lib.hid (own_chg HO1.out hkb (by simp))
        have hone2 : ∀ u ∈ [Value.string S], u.oneCell' = true := by intro u hu; simp at hu; subst hu; rfl
        have hsz1 : w.heap.size ≤ (w1.alloc (.cells #[.string S] 9)).heap.size := (HK1.out.trans hkb).size
        clear hrn
        go_upto_region 6 with (at_builtin; refine wpList_append_rd rfl (.tmp 27) (.tmp 29) 44 rfl w.heap.size 9 si (.string ⟨#[]⟩) 16 Tryz.underlying44 hsi hsi0 hsi1 hsi2 rfl (.slice a1 k c1) k (svn (l.take k)) rfl HOB.out (some ⟨w1.heap.size, 0, none⟩) 1 1 [w1.heap.size] [.string S] rfl rfl HRN.out hone2 (by omega) (by unfold maxLen; omega) hsz1 ?_; intro a2 c2 w2 hown2 hgr2 hat2; have HK2 := Lib.hid ((HK1.out.trans hkb).grown hgr2 (fun x hx hl => by have := own_block_ge HO1.out hx; omega)); have HO2 := Lib.hid hown2; clear hown2 hgr2 hat2)
        clear hkb hsz1 hone2
        have hone3 := sv_one ((l.drop k).map ba)
        have HL3 := Lib.hid (show (svn (l.drop k)).length = n - k by rw [svn_length, List.length_drop, HN.out])
        have hsz2 : w.heap.size ≤ w2.heap.size := HK2.out.size
        have hdr := (H.out.chg HK2.out (by simp)).drop k c (by rw [svn_length, HN.out]; exact hnc)
        rw [show (svn l).drop k = svn (l.drop k) by simp [svn, sv, List.map_drop]] at hdr
        unfold cutA at hdr
        by_cases hck : c = k
        · rw [if_pos hck] at hdr
          have HR3 := Lib.hid hdr
          clear hdr
          obtain rfl : n = k := by omega
          subst hck
          have HL4 := Lib.hid (show (svn (l.drop c)).length = 0 from by rw [HL3.out]; omega)
          have hins : svn (l.take c) ++ [Value.string S] ++ svn (l.drop c) = svn (insR l s) := by
            unfold insR
            rw [HN.out, HSP.out, ← HS.out]
            simp [svn, sv]
          have HINS := Lib.hid hins
          clear hins
          go_wp2_with (at_builtin; refine wpList_append_rd rfl (.tmp 31) (.tmp 34) 44 rfl w.heap.size 9 si (.string ⟨#[]⟩) 16 Tryz.underlying44 hsi hsi0 hsi1 hsi2 rfl (.slice a2 (c + 1) c2) (c + 1) (svn (l.take c) ++ [Value.string S]) rfl HO2.out ao 0 0 fp (svn (l.drop c)) rfl HL4.out HR3.out hone3 (by omega) (by unfold maxLen; omega) hsz2 ?_; intro a3 c3 w3 hown3 hgr3 hat3; have HK3 := Lib.hid (HK2.out.grown hgr3 (fun x hx hl => by have := own_block_ge HO2.out hx; omega)); have HO3 := Lib.hid hown3; clear hown3 hgr3 hat3)
          have hO := HO3.out
          rw [HINS.out, Nat.add_zero] at hO
          rw [Nat.add_zero]
          go_ret
          exact ⟨a3, c3, rfl, hO, HK3.out⟩
        · rw [if_neg hck] at hdr
          have HR3 := Lib.hid hdr
          have hkc : k < c := by omega
          clear hdr hck
          go_wp2_with (at_builtin; refine wpList_append_rd rfl (.tmp 31) (.tmp 34) 44 rfl w.heap.size 9 si (.string ⟨#[]⟩) 16 Tryz.underlying44 hsi hsi0 hsi1 hsi2 rfl (.slice a2 (k + 1) c2) (k + 1) (svn (l.take k) ++ [Value.string S]) rfl HO2.out _ (n - k) (c - k) fp (svn (l.drop k)) rfl HL3.out HR3.out hone3 (by omega) (by unfold maxLen; omega) hsz2 ?_; intro a3 c3 w3 hown3 hgr3 hat3; have HK3 := Lib.hid (HK2.out.grown hgr3 (fun x hx hl => by have := own_block_ge HO2.out hx; omega)); have HO3 := Lib.hid hown3; clear hown3 hgr3 hat3)
          have hk1 : k + 1 + (n - k) = n + 1 := by omega
          have hins : svn (l.take k) ++ [Value.string S] ++ svn (l.drop k) = svn (insR l s) := by
            unfold insR
            rw [HN.out, HSP.out, ← HS.out]
            simp [svn, sv]
          have hO := HO3.out
          rw [hins, hk1] at hO
          rw [hk1]
          go_ret
          exact ⟨a3, c3, rfl, hO, HK3.out⟩
end Go.Proofs.YtoionaeimnmcbaaGreatDoor
