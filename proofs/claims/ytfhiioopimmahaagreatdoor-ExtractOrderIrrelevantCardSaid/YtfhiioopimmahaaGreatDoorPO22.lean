/- slices.IsSorted, slices.BinarySearch's finding, over sorted rows of strings. slices.Equal over rows of strings. The paths of a file system are told by its names. paxtarlaw21.ExtractOrderIrrelevant: the walk. Printed by wip/gen/genelawo.py. ExtractOrderIrrelevant is proved: for every input the law returns true and changes nothing that was there. The listed package variables read as the program's text lays them (the card ties them, over the pruned copy). -/
import Derived.Test.YtfhiioopimmahaaGreatDoorPO08
import Derived.Test.YtfhiioopimmahaaGreatDoorPO10
import Derived.Test.YtfhiioopimmahaaGreatDoorPO13
import Derived.Test.YtfhiioopimmahaaGreatDoorPO17
import Derived.Test.YtfhiioopimmahaaGreatDoorPO21
namespace Go.Proofs.YtfhiioopimmahaaGreatDoor
open Go.RowKit Go.Pax Go.Shelf
set_option maxHeartbeats 1000000 in
theorem lessS (x y : ByteArray) (w : World) : Calls Tryz.prog 38 #[.string x, .string y] w fun e w' => e = .returned (.bool (Op.bytesLess x.toList y.toList)) ∧ w' = w := by
  go_enter Tryz.func38, Tryz.ntmps38
  go_wp2_with (go_at_call 79; refine (isNaNS _ _).mono ?_; rintro e w' ⟨rfl, rfl⟩)
  go_ret
  exact ⟨by simp, rfl⟩
set_option maxRecDepth 100000 in
set_option maxHeartbeats 4000000 in
/-- A sorted row is found sorted. -/
theorem isSortedS (w : World) (fp : List Nat) (ao : Option Addr) (n c : Nat) (l : List Str) (hn : l.length = n) (hl : n ≤ 140737488355328) (h : Rd w fp ao (svn l)) (hs : l.Pairwise (· < ·)) :
    Calls Tryz.prog 15 #[.slice ao n c] w fun e w' => e = .returned (.bool true) ∧ ∃ q, w' = w.drewN q := by
  have H := Lib.hid h
  have HP := Lib.hid (List.pairwise_iff_getElem.1 hs)
  have HN := Lib.hid hn
  clear h hs hn
  go_enter Tryz.func15, Tryz.ntmps15
  go_wp2_with fail
  go_loopw [3] (fun i wr => ∃ k : Int, i = .int .i64 k ∧ -1 ≤ k ∧ k < n ∧ ∃ q, wr = w.drewN q) (fun i _ => (intOf i + 1).toNat)
  case atStart => exact ⟨(n : Int) - 1, rfl, by omega, by omega, 0, rfl⟩
  case round =>
    obtain ⟨k, rfl, hk1, hk2, q, hwr⟩ := hrel
    have hkq : Chg [] w wr := by rw [hwr]; exact (Chg.refl [] w).drewN q
    have HW := Lib.hid hwr
    clear hwr
    by_cases hlt : 0 < k
    · obtain ⟨m, rfl⟩ : ∃ m : Nat, k = ((m + 1 : Nat) : Int) := ⟨(k - 1).toNat, by omega⟩
      have hmn : m + 1 < n := by omega
      have hm2 : m < n := by omega
      have hml : m + 1 < l.length := by rw [HN.out]; exact hmn
      obtain ⟨ad, rfl, _, hc1⟩ := (H.out.chg hkq (by simp)) (m + 1) (.string (ba l[m + 1])) (by unfold svn; rw [sv_get _ _ (by simpa using hml)]; simp)
      obtain ⟨ad', e, _, hc0⟩ := (H.out.chg hkq (by simp)) m (.string (ba (l[m]'(by omega)))) (by unfold svn; rw [sv_get _ _ (by simpa using (show m < l.length by omega))]; simp)
      cases e
      have hle : Op.bytesLess (ba l[m + 1]).toList (ba (l[m]'(by omega))).toList = false := by
        rw [Go.Proofs.bytesLess_eq, ba_tl, ba_tl, decide_eq_false_iff_not]
        exact fun h => slt_irrefl _ (slt_trans h (HP.out m (m + 1) (by omega) hml (by omega)))
      have HLS := Lib.hid (fun W => lessS (ba l[m + 1]) (ba (l[m]'(by omega))) W)
      rw [hle] at HLS
      clear hle
      generalize ba l[m + 1] = X at *
      generalize ba (l[m]'(by omega)) = Y at *
      have hwr : IntKind.i64.wrap (((m + 1 : Nat) : Int) - 1) = (m : Int) := by rw [show ((m + 1 : Nat) : Int) - 1 = m by omega]; exact IntWalk.i64_in _ (by omega)
      have HM := Lib.hid (show ((m + 1 : Nat) : Int) - 1 = (m : Int) by omega)
      generalize m + 1 = M1 at *
      go_upto_region 4 with (fail)
      go_quiet ((go_at_call 38; exact Calls.quiet_of_same (HLS.out _)))
      go_wp2_with fail
      go_roundw
      case rel => exact ⟨m, rfl, by omega, by omega, _, by rw [HW.out, World.drewN_drewN]⟩
      case measure => simp [intOf]; have := HM.out; omega
    · go_wp2_with fail
      go_ret
      exact ⟨rfl, q, HW.out⟩
/-- In a sorted row the place's own string tells whether it is there. -/
theorem cut_mem (l : List Str) (x : Str) (hs : l.Pairwise (· < ·)) : (bsI (l.map ba) (ba x) < l.length ∧ (l.map ba).getD (bsI (l.map ba) (ba x)) ⟨#[]⟩ = ba x) ↔ x ∈ l := by
  obtain ⟨h0, h1, h2⟩ := bsI_cut l x hs
  generalize bsI (l.map ba) (ba x) = k at *
  constructor
  · rintro ⟨hk, he⟩
    rw [List.getD_eq_getElem?_getD, List.getElem?_map, List.getElem?_eq_getElem hk] at he
    simp only [Option.map_some, Option.getD_some] at he
    have : l[k] = x := by
      have h3 := congrArg ByteArray.toList he
      rw [ba_tl, ba_tl] at h3
      exact h3
    exact this ▸ List.getElem_mem hk
  · intro hx
    obtain ⟨t, ht, rfl⟩ := List.mem_iff_getElem.1 hx
    have htk : k = t := by
      rcases Nat.lt_trichotomy k t with h | h | h
      · have hk : k < l.length := by omega
        exact absurd (List.pairwise_iff_getElem.1 hs k t hk ht h) (h2 k hk (Nat.le_refl _))
      · exact h
      · exact absurd (h1 t ht h) (slt_irrefl _)
    subst htk
    refine ⟨ht, ?_⟩
    rw [List.getD_eq_getElem?_getD, List.getElem?_map, List.getElem?_eq_getElem ht]
    rfl
theorem binS (w : World) (B : Nat) (ao : Option Addr) (c n : Nat) (l : List Str) (x : Str) (hn : l.length = n) (hl : n ≤ 140737488355328) (h : w.ownsRow B 9 1 (.slice ao n c) n (svn l)) (hs : l.Pairwise (· < ·)) :
    Calls Tryz.prog 17 #[.slice ao n c, .string (ba x)] w fun e w' => ∃ i : Nat, e = .returned (.tuple #[.int .i64 i, .bool (decide (x ∈ l))]) ∧ ∃ q, w' = w.drewN q := by
  by_cases h0 : n = 0
  · subst h0
    have : l = [] := List.eq_nil_of_length_eq_zero hn
    subst this
    refine (Any2.slices_BinarySearch_string_empty Tryz.bse ao c (ba x) w).mono ?_
    rintro e w' ⟨rfl, rfl⟩
    exact ⟨0, by simp, 0, rfl⟩
  · rcases h.2 with ⟨_, e⟩ | ⟨g1, _, _, h1', _, _, _⟩
    · exact absurd e h0
    simp only [Value.slice.injEq] at h1'
    obtain ⟨rfl, _, rfl⟩ := h1'
    obtain ⟨cur1, hg1, _, _, _, _, _, hx1⟩ := own_cells h
    refine (Any2.slices_BinarySearch_string Tryz.bse g1 0 n c (fun t => (l.map ba).getD t ⟨#[]⟩) (ba x) w (by omega) (fun j hj => ?_)).mono ?_
    · rw [Nat.zero_add]
      refine cell_heap hg1 j ?_
      rw [hx1 j (by omega)]
      unfold svn
      rw [sv_get _ j (by simp; omega)]
      simp [show j < l.length by omega]
    · rintro e w' ⟨rfl, q, rfl⟩
      have hc := cut_mem l x hs
      unfold bsI at hc
      rw [List.length_map, hn] at hc
      exact ⟨_, by rw [decide_eq_decide.2 hc], q, rfl⟩
end Go.Proofs.YtfhiioopimmahaaGreatDoor
namespace Go.Proofs.YtfhiioopimmahaaGreatDoor
open Go.RowKit Go.Pax Go.Shelf
/-- Two rows of the same strings are equal. -/
theorem equalS (w : World) (B B' : Nat) (a1 a2 : Option Addr) (n c1 c2 : Nat) (l : List Str) (hl : n ≤ 140737488355328) (h1 : w.ownsRow B 9 1 (.slice a1 n c1) n (svn l)) (h2 : w.ownsRow B' 9 1 (.slice a2 n c2) n (svn l)) :
    Calls Tryz.prog 22 #[.slice a1 n c1, .slice a2 n c2] w fun e w' => e = .returned (.bool true) ∧ ∃ q, w' = w.drewN q := by
  by_cases h0 : n = 0
  · subst h0
    refine (Tryz.slices_Equal_string_empty a1 a2 c1 0 c2 w (by omega)).mono ?_
    rintro e w' ⟨rfl, rfl⟩
    exact ⟨by simp, 0, rfl⟩
  · have hlen : l.length = n := by have := h1.1; simpa [svn_length] using this
    rcases h1.2 with ⟨_, e⟩ | ⟨g1, _, _, h1', _, _, _⟩
    · exact absurd e h0
    rcases h2.2 with ⟨_, e⟩ | ⟨g2, _, _, h2', _, _, _⟩
    · exact absurd e h0
    simp only [Value.slice.injEq] at h1' h2'
    obtain ⟨rfl, _, rfl⟩ := h1'
    obtain ⟨rfl, _, rfl⟩ := h2'
    obtain ⟨cur1, hg1, _, _, _, _, _, hx1⟩ := own_cells h1
    obtain ⟨cur2, hg2, _, _, _, _, _, hx2⟩ := own_cells h2
    have hc : ∀ (g : Nat) (cur : Array Value) (t : TypeId), w.heap[g]? = some (.cells cur t (0, 0)) → (∀ j, j < n → cur[j]? = (svn l)[j]?) → ∀ j, j < (l.map ba).length → w.cell? ⟨g, 0 + j, none⟩ = some (.string ((l.map ba).getD j ByteArray.empty)) := fun g cur t hg hx j hj => by
      have hj' : j < l.length := by simpa using hj
      rw [Nat.zero_add]
      refine cell_heap hg j ?_
      rw [hx j (by omega)]
      unfold svn
      rw [sv_get _ j hj]
      simp [hj']
    refine (Tryz.slices_Equal_string g1 0 n c1 g2 0 n c2 (l.map ba) (l.map ba) w (by simp; omega) (by simp; omega) (by omega) (by omega) (hc g1 cur1 _ hg1 hx1) (hc g2 cur2 _ hg2 hx2)).mono ?_
    rintro e w' ⟨rfl, q, rfl⟩
    exact ⟨by simp, q, rfl⟩
end Go.Proofs.YtfhiioopimmahaaGreatDoor
namespace Go.Pax
open Go.RowKit
theorem nodup_of_sorted {V : List Str} (h : V.Pairwise (· < ·)) : V.Nodup := h.imp fun hlt e => by subst e; exact slt_irrefl _ hlt
/-- Rows of the same strings, both sorted, are one. -/
theorem sorted_ext : ∀ {V U : List Str}, V.Pairwise (· < ·) → U.Pairwise (· < ·) → (∀ q, q ∈ V ↔ q ∈ U) → V = U
  | [], [], _, _, _ => rfl
  | [], b :: U, _, _, h => absurd ((h b).2 (by simp)) (by simp)
  | a :: V, [], _, _, h => absurd ((h a).1 (by simp)) (by simp)
  | a :: V, b :: U, h1, h2, h => by
    obtain ⟨p1, p2⟩ := List.pairwise_cons.1 h1
    obtain ⟨q1, q2⟩ := List.pairwise_cons.1 h2
    have hab : a = b := by
      rcases List.mem_cons.1 ((h a).1 (by simp)) with e | e
      · exact e
      · rcases List.mem_cons.1 ((h b).2 (by simp)) with e2 | e2
        · exact e2.symm
        · exact absurd (slt_trans (q1 a e) (p1 b e2)) (slt_irrefl _)
    subst hab
    congr 1
    refine sorted_ext p2 q2 fun q => ⟨fun hq => ?_, fun hq => ?_⟩
    · rcases List.mem_cons.1 ((h q).1 (List.mem_cons_of_mem _ hq)) with e | e
      · subst e; exact absurd (p1 q hq) (slt_irrefl _)
      · exact e
    · rcases List.mem_cons.1 ((h q).2 (List.mem_cons_of_mem _ hq)) with e | e
      · subst e; exact absurd (q1 q hq) (slt_irrefl _)
      · exact e
theorem PathsOf.eq {σ : Fs} {V U : List Str} (h : PathsOf σ V) (h' : PathsOf σ U) : V = U :=
  sorted_ext h.sorted h'.sorted fun q => (h.mem q).trans (h'.mem q).symm
theorem PathsOf.short {σ : Fs} {V : List Str} (h : PathsOf σ V) : V.length ≤ σ.files.length := by
  have := List.Nodup.length_le_of_subset (nodup_of_sorted h.sorted) (l₂ := σ.files.map Prod.fst) (fun x hx => by
    obtain ⟨_, b, hb⟩ := (h.mem x).1 hx
    exact List.mem_map.2 ⟨(x, b), lkF_mem hb, rfl⟩)
  simpa using this
end Go.Pax
namespace Go.Proofs.YtfhiioopimmahaaGreatDoor
open Go.RowKit Go.Pax Go.Shelf
theorem stat_some {σ : Fs} {p : Str} {b : Nat} (h : lkF σ.files p = some b) : ∃ (kk mm ii lk ss : Int) (tt : ByteArray) (uu mt : Int), lstatV σ p = .tuple #[.agg #[.int .i64 kk, .int .i64 mm, .int .i64 ii, .int .i64 lk, .int .i64 ss, .string tt, .int .i64 uu, .int .i64 mt], .int .i64 0] := by
  unfold lstatV
  rw [h]
  exact ⟨_, _, _, _, _, _, _, _, rfl⟩
theorem ownS_empty {w : World} {e : TypeId} {s g : Nat} {base : Nat} (h : w.heap[g]? = some (.cells #[] e (0, 0))) (hb : base ≤ g) : w.ownsRow base e s (.slice (some ⟨g, 0, none⟩) 0 0) 0 [] :=
  ⟨by simp, .inr ⟨g, 0, #[], rfl, hb, h, Nat.le_refl _, Nat.zero_le _, by simp, by simp⟩⟩
/-- A row of nodes, of its own block, may be empty. -/
theorem nrow_of {w : World} {B : Nat} {a : Option Addr} {n c : Nat} {L : List (ANode × Value)} (h : w.ownsRow B 45 6 (.slice a n c) n (ndcells L)) (hn : 0 < n) (hdv : ∀ x ∈ L, ∃ a l c, x.2 = .slice a l c) (hB : n ≤ 1000000) : ∃ g, a = some ⟨g, 0, none⟩ ∧ B ≤ g ∧ NRow w g n c L := by
  have hl := h.1
  rw [ndcells_length] at hl
  rcases h.2 with ⟨hv, _⟩ | ⟨g, cap, cur, hv, hb, _⟩
  · simp only [Value.slice.injEq] at hv
    omega
  · simp only [Value.slice.injEq] at hv
    obtain ⟨rfl, _, rfl⟩ := hv
    exact ⟨g, rfl, hb, ⟨⟨_, h⟩, by omega, hdv, hB⟩⟩
theorem swp_perm {β : Type} (L : List β) (i j : Nat) : (swp L i j).Perm L := by
  unfold swp
  split
  · rename_i x y hx hy
    obtain ⟨hi, rfl⟩ := List.getElem?_eq_some_iff.1 hx
    obtain ⟨hj, rfl⟩ := List.getElem?_eq_some_iff.1 hy
    exact List.set_set_perm hi hj
  · exact List.Perm.refl _
set_option maxRecDepth 100000 in
set_option maxHeartbeats 16000000 in
theorem orderIrrelevant (w : World) (lo ro : Option Addr) (lc rc : Nat) (L : List (ANode × Value)) (rb : List UInt8) (fp : List Nat) (hkeys : KeysAt w) (hwf : ∀ y ∈ L, NdWf w fp y) (hll : L.length ≤ 140737488355328) (hN : NdRd w fp lo L) (hrl : rb.length ≤ 140737488355328) (hr : Rd w fp ro (bv rb)) :
    Calls Tryz.prog 5 #[.slice lo L.length lc, .slice ro rb.length rc] w fun e w' => e = .returned (.bool true) ∧ Chg [] w w' := by
  have HT := Lib.hid (fun W (k : Chg [] w W) => tooLargeN W lo L.length lc fp L (hN.chg k (by simp)) rfl hll (fun x hx => by
    obtain ⟨a, c, h1, _⟩ := (hwf x hx).2
    exact ⟨a, c, h1⟩) (fun x hx => ⟨(hwf x hx).1.2.2.2.1, (hwf x hx).1.2.2.2.2.1, (hwf x hx).1.2.2.2.2.2⟩))
  have HAL := Lib.hid (fun W (k : Chg [] w W) => alive21 W (hkeys.chg k (by simp)))
  have HOP := Lib.hid (fun W => optsNil W 0 0 (by omega) (by omega))
  have HNW := Lib.hid (fun W a cap => newNil W W 0 0 a cap (Chg.refl _ _) (by omega) (by omega))
  have HA := Lib.hid (And.intro hN.tight (And.intro (show ∀ x ∈ L, RdD w (fp.filter fun g => decide (g < w.heap.size)) x.2 x.1.data ∧ x.1.data.length ≤ 140737488355328 from fun x hx => ⟨(hwf x hx).2.tight, (hwf x hx).1.2.2.2.2.2⟩) (And.intro (show ∀ x ∈ L, x.1.path.length ≤ 140737488355328 ∧ x.1.target.length ≤ 140737488355328 from fun x hx => ⟨(hwf x hx).1.2.2.2.1, (hwf x hx).1.2.2.2.2.1⟩) (And.intro hkeys hr))))
  have hfq : ∀ g ∈ fp.filter (fun g => decide (g < w.heap.size)), g < w.heap.size := fun g hg => by simpa using (List.mem_filter.1 hg).2
  have HFQ := Lib.hid hfq
  clear hfq hkeys hwf hN hr
  generalize fp.filter (fun g => decide (g < w.heap.size)) = fq at *
  obtain ⟨n, hn⟩ : ∃ n, n = L.length := ⟨_, rfl⟩
  rw [← hn] at HT ⊢
  have HLN := Lib.hid hn
  generalize hNR : rb.length = NR at *
  have HNR := Lib.hid hNR
  have hnl : n ≤ 140737488355328 := by omega
  clear hNR hn hll
  go_enter Tryz.func5, Tryz.ntmps5
  by_cases g1 : tooN (L.map Prod.fst) = 0
  · have htz := tooN_zero g1
    rw [g1] at HT
    have hn40 : n ≤ 40 := by have := htz.1; rw [List.length_map] at this; have := HLN.out; omega
    clear g1 htz hnl
    by_cases g2 : 50 < NR
    · go_wp2_with (first
        | (go_at_call 18; refine (HT.out _ (Chg.refl _ _)).mono ?_; rintro e w1 ⟨rfl, k⟩; have HK1 := Lib.hid k; clear k)
        | (go_at_call 19; refine (HAL.out _ HK1.out).mono ?_; rintro e w4 ⟨rfl, k⟩; have HK4 := Lib.hid (HK1.out.trans k); clear k))
      go_ret
      exact ⟨rfl, HK4.out⟩
    have hnr50 : NR ≤ 50 := by omega
    clear g2 hrl
    go_upto_region 3 with (go_at_call 18; refine (HT.out _ (Chg.refl _ _)).mono ?_; rintro e w1 ⟨rfl, k⟩; have HK1 := Lib.hid k; clear k)
    clear HT
    obtain ⟨ni, hni, hni0, hni1, hni2⟩ := info_parts Tryz.infoND
    have hk2 : Chg [] w1 (w1.alloc (.cells #[] 45)) := (Chg.refl _ _).alloc _
    have HW2 := Lib.hid (And.intro hk2 (ownS_empty (s := 6) (base := w1.heap.size) (heap_alloc_new w1 (.cells #[] 45)) (Nat.le_refl _)))
    have HRC := Lib.hid ((HA.out.1.chg (HK1.out.trans hk2) (by simp)).cells)
    have HON := Lib.hid (nd_one_cells (L := L) (fun x hx => by
      obtain ⟨a, c, h1, _⟩ := (HA.out.2.1 x hx).1
      exact ⟨a, _, c, h1⟩))
    clear hk2
    go_upto_region 4 with (at_builtin; refine wpList_append_rdS rfl (.tmp 35) (.tmp 36) 35 rfl w1.heap.size 45 ni (.agg #[.int .i64 0, .string ⟨#[]⟩, .int .i64 0, .string ⟨#[]⟩, .slice none 0 0, .int .i64 0]) 6 80 Tryz.underlying35 hni hni0 hni1 hni2 rfl (by omega) (.slice (some ⟨w1.heap.size, 0, none⟩) 0 0) 0 [] rfl HW2.out.2 lo n lc (ndcells L) rfl (by rw [ndcells_length, HLN.out]) HRC.out HON.out (by omega) (by unfold maxLen; omega) (by simp) ?_; intro ma mc w3 hown hgr hat; have HW3 := Lib.hid (And.intro hown (HW2.out.1.grown hgr (fun x hx hl => by have h9 : w1.heap.size = x := (by simpa [Value.ownBlock] using hx); omega))); clear hown hgr hat)
    simp only [List.nil_append, Nat.zero_add] at HW3 ⊢
    have HW3B := Lib.hid (show w3.ownsRow w1.heap.size 45 6 (.slice ma n mc) n (ndcells L) ∧ Chg [] w1 w3 from HW3.out)
    clear HW3 HW2 HRC HON hni hni0 hni1 hni2
    have HOB := Lib.hid (show ∀ x ∈ (Value.slice ma n mc).ownBlock.toList, w1.heap.size ≤ x ∧ x < w3.heap.size from fun x hx => by
      have hx2 : (Value.slice ma n mc).ownBlock = some x := by simpa using hx
      obtain ⟨c9, hc9⟩ := own_blockS HW3B.out.1 hx2
      refine ⟨?_, lt_of_block hc9⟩
      rcases HW3B.out.1.2 with ⟨hv, _⟩ | ⟨g', cap, cur, hv, hb, _⟩
      · rw [hv] at hx2; simp [Value.ownBlock] at hx2
      · rw [hv] at hx2; simp [Value.ownBlock] at hx2; omega)
    go_wp2_with fail
    go_loopw [40] (fun u wr => ∃ (k : Nat) (Lk : List (ANode × Value)), u = .int .i64 k ∧ k ≤ NR ∧ Lk.Perm L ∧ wr.ownsRow w1.heap.size 45 6 (.slice ma n mc) n (ndcells Lk) ∧ Chg (Value.slice ma n mc).ownBlock.toList w3 wr) (fun u _ => NR - (intOf u).toNat)
    case atStart => exact ⟨0, L, rfl, Nat.zero_le _, List.Perm.refl _, HW3B.out.1, Chg.refl _ _⟩
    case round =>
      obtain ⟨k, Lk, rfl, hkn, hpm, hrow, hkc⟩ := hrel
      have HQ := Lib.hid (And.intro hpm (And.intro hrow hkc))
      have HKW := Lib.hid (show Chg [] w wr from (HK1.out.trans HW3B.out.2).trans' hkc (by simp) (fun x hx hl => by have := HOB.out x hx; have := HK1.out.size; omega))
      have hkB : k ≤ 50 := by omega
      clear hpm hrow hkc
      by_cases hlt : k < NR
      · have hkR : k < rb.length := by rw [HNR.out]; exact hlt
        obtain ⟨ra, rfl, _, hrc⟩ := (HA.out.2.2.2.2.chg HKW.out (by simp)) k (.int .u8 rb[k].toNat) (bv_get _ _ hkR)
        have hbB : rb[k].toNat ≤ 255 := by have := rb[k].toNat_lt; omega
        generalize rb[k].toNat = sb at *
        by_cases hn0 : n = 0
        · have hn0i : ¬ (n : Int) > 0 := by omega
          go_wp2_with fail
          go_roundw
          case rel => exact ⟨k + 1, Lk, by go_num, by omega, HQ.out.1, HQ.out.2.1, HQ.out.2.2⟩
          case measure => simp [intOf]; omega
        · have hn0i : (n : Int) > 0 := by omega
          obtain ⟨gm, rfl, hgB, hnr⟩ := nrow_of HQ.out.2.1 (by omega) (fun x hx => by
            obtain ⟨a, c, h1, _⟩ := (HA.out.2.1 x (HQ.out.1.mem_iff.1 hx)).1
            exact ⟨a, _, c, h1⟩) (by omega)
          obtain ⟨xx, hxx⟩ : ∃ x, x = k % n := ⟨_, rfl⟩
          obtain ⟨yy, hyy⟩ : ∃ x, x = sb % n := ⟨_, rfl⟩
          have hm1 : Int.tmod (k : Int) (n : Int) = (xx : Int) := by rw [hxx, Int.tmod_eq_emod_of_nonneg (by omega)]; rfl
          have hm2 : Int.tmod (sb : Int) (n : Int) = (yy : Int) := by rw [hyy, Int.tmod_eq_emod_of_nonneg (by omega)]; rfl
          have hxn : xx < n := by rw [hxx]; exact Nat.mod_lt _ (by omega)
          have hyn : yy < n := by rw [hyy]; exact Nat.mod_lt _ (by omega)
          have hnz : ((n : Int) == 0) = false := by simp; omega
          clear hxx hyy
          have kw : Chg [] wr wr.drew.drew := (Chg.refl [] wr).drew.drew
          have hnr2 := hnr.chg kw (by simp)
          obtain ⟨x, xa, xl, xc, hx, hxe⟩ := hnr2.at hxn
          obtain ⟨y, ya, yl, yc, hy, hye⟩ := hnr2.at hyn
          have hsw := hnr2.swap hxn hyn hxe hye
          obtain ⟨x1, x2, x3, x4, x5, x6⟩ := x
          obtain ⟨y1, y2, y3, y4, y5, y6⟩ := y
          unfold NdAt at hx hy
          unfold ndc at hsw
          simp only at hx hy hsw
          generalize ba x2 = x2 at *
          generalize ba y2 = y2 at *
          generalize ba x4 = x4 at *
          generalize ba y4 = y4 at *
          have HXY := Lib.hid (show (fun v => v.cell? ⟨gm, xx * 6, none⟩ = some (.int .i64 x1) ∧ v.cell? ⟨gm, xx * 6 + 1, none⟩ = some (.string x2) ∧ v.cell? ⟨gm, xx * 6 + 2, none⟩ = some (.int .i64 x3) ∧ v.cell? ⟨gm, xx * 6 + 3, none⟩ = some (.string x4) ∧ v.cell? ⟨gm, xx * 6 + 4, none⟩ = some (.slice xa xl xc) ∧ v.cell? ⟨gm, xx * 6 + 5, none⟩ = some (.int .i64 x6) ∧ v.cell? ⟨gm, yy * 6, none⟩ = some (.int .i64 y1) ∧ v.cell? ⟨gm, yy * 6 + 1, none⟩ = some (.string y2) ∧ v.cell? ⟨gm, yy * 6 + 2, none⟩ = some (.int .i64 y3) ∧ v.cell? ⟨gm, yy * 6 + 3, none⟩ = some (.string y4) ∧ v.cell? ⟨gm, yy * 6 + 4, none⟩ = some (.slice ya yl yc) ∧ v.cell? ⟨gm, yy * 6 + 5, none⟩ = some (.int .i64 y6)) wr.drew.drew from ⟨hx.1, hx.2.1, hx.2.2.1, hx.2.2.2.1, hx.2.2.2.2.1, hx.2.2.2.2.2, hy.1, hy.2.1, hy.2.2.1, hy.2.2.2.1, hy.2.2.2.2.1, hy.2.2.2.2.2⟩)
          have HSW := Lib.hid hsw
          have hsbw : IntKind.i64.wrap (sb : Int) = (sb : Int) := IntWalk.i64_in _ (by omega)
          clear hx hy hsw hxe hye hnr hnr2 kw
          go_upto_region 8 with (fail)
          clear hrc
          refine wp_region_held_drew (S := fun _ => True) (by kernel_rfl) ?_ (fun hHeld => ?_)
          · trivial
          refine wpAnyH_take (i := 0) (oi := ?oi1) (v := ?v1) ?hi1 (by kernel_rfl) (by kernel_rfl) (by kernel_rfl) ?hQ1 (Or.inl ⟨?hw1, ?hy1⟩) (by assumption) ?hr1
          case hi1 => simp only [List.getElem?_toArray, List.getElem?_cons_zero]; rfl
          case hQ1 => exact fun _ _ _ h => h
          case hw1 => rfl
          case hy1 => intro w hSw; (try dsimp only at hSw); go_simp; (try with_reducible rfl)
          case hr1 =>
          simp only [Act.put, List.setIfInBounds_toArray, List.set_cons_zero, List.set_cons_succ]
          refine wpAnyH_take (i := 1) (oi := ?oi2) (v := ?v2) ?hi2 (by kernel_rfl) (by kernel_rfl) (by kernel_rfl) ?hQ2 (Or.inl ⟨?hw2, ?hy2⟩) (by assumption) ?hr2
          case hi2 => simp only [List.getElem?_toArray, List.getElem?_cons_succ, List.getElem?_cons_zero]; rfl
          case hQ2 => exact fun _ _ _ h => h
          case hw2 => rfl
          case hy2 => intro w hSw; (try dsimp only at hSw); go_simp; (try with_reducible rfl)
          case hr2 =>
          simp only [Act.put, List.setIfInBounds_toArray, List.set_cons_zero, List.set_cons_succ]
          refine wpAnyH_take (i := 2) (oi := ?oi3) (v := ?v3) ?hi3 (by kernel_rfl) (by kernel_rfl) (by kernel_rfl) ?hQ3 (Or.inl ⟨?hw3, ?hy3⟩) (by assumption) ?hr3
          case hi3 => simp only [List.getElem?_toArray, List.getElem?_cons_succ, List.getElem?_cons_zero]; rfl
          case hQ3 => exact fun _ _ _ h => h
          case hw3 => rfl
          case hy3 => intro w hSw; (try dsimp only at hSw); go_simp; (try with_reducible rfl)
          case hr3 =>
          simp only [Act.put, List.setIfInBounds_toArray, List.set_cons_zero, List.set_cons_succ]
          refine wpAnyH_take (i := 3) (oi := ?oi4) (v := ?v4) ?hi4 (by kernel_rfl) (by kernel_rfl) (by kernel_rfl) ?hQ4 (Or.inl ⟨?hw4, ?hy4⟩) (by assumption) ?hr4
          case hi4 => simp only [List.getElem?_toArray, List.getElem?_cons_succ, List.getElem?_cons_zero]; rfl
          case hQ4 => exact fun _ _ _ h => h
          case hw4 => rfl
          case hy4 => intro w hSw; (try dsimp only at hSw); go_simp; (try with_reducible rfl)
          case hr4 =>
          simp only [Act.put, List.setIfInBounds_toArray, List.set_cons_zero, List.set_cons_succ]
          refine wpAnyH_take (i := 4) (oi := ?oi5) (v := ?v5) ?hi5 (by kernel_rfl) (by kernel_rfl) (by kernel_rfl) ?hQ5 (Or.inl ⟨?hw5, ?hy5⟩) (by assumption) ?hr5
          case hi5 => simp only [List.getElem?_toArray, List.getElem?_cons_succ, List.getElem?_cons_zero]; rfl
          case hQ5 => exact fun _ _ _ h => h
          case hw5 => rfl
          case hy5 => intro w hSw; (try dsimp only at hSw); go_simp; (try with_reducible rfl)
          case hr5 =>
          simp only [Act.put, List.setIfInBounds_toArray, List.set_cons_zero, List.set_cons_succ]
          refine wpAnyH_take (i := 5) (oi := ?oi6) (v := ?v6) ?hi6 (by kernel_rfl) (by kernel_rfl) (by kernel_rfl) ?hQ6 (Or.inl ⟨?hw6, ?hy6⟩) (by assumption) ?hr6
          case hi6 => simp only [List.getElem?_toArray, List.getElem?_cons_succ, List.getElem?_cons_zero]; rfl
          case hQ6 => exact fun _ _ _ h => h
          case hw6 => rfl
          case hy6 => intro w hSw; (try dsimp only at hSw); go_simp; (try with_reducible rfl)
          case hr6 =>
          simp only [Act.put, List.setIfInBounds_toArray, List.set_cons_zero, List.set_cons_succ]
          refine wpAnyH_take (i := 6) (oi := ?oi7) (v := ?v7) ?hi7 (by kernel_rfl) (by kernel_rfl) (by kernel_rfl) ?hQ7 (Or.inl ⟨?hw7, ?hy7⟩) (by assumption) ?hr7
          case hi7 => simp only [List.getElem?_toArray, List.getElem?_cons_succ, List.getElem?_cons_zero]; rfl
          case hQ7 => exact fun _ _ _ h => h
          case hw7 => rfl
          case hy7 => intro w hSw; (try dsimp only at hSw); go_simp; (try with_reducible rfl)
          case hr7 =>
          simp only [Act.put, List.setIfInBounds_toArray, List.set_cons_zero, List.set_cons_succ]
          refine wpAnyH_take (i := 7) (oi := ?oi8) (v := ?v8) ?hi8 (by kernel_rfl) (by kernel_rfl) (by kernel_rfl) ?hQ8 (Or.inl ⟨?hw8, ?hy8⟩) (by assumption) ?hr8
          case hi8 => simp only [List.getElem?_toArray, List.getElem?_cons_succ, List.getElem?_cons_zero]; rfl
          case hQ8 => exact fun _ _ _ h => h
          case hw8 => rfl
          case hy8 => intro w hSw; (try dsimp only at hSw); go_simp; (try with_reducible rfl)
          case hr8 =>
          simp only [Act.put, List.setIfInBounds_toArray, List.set_cons_zero, List.set_cons_succ]
          refine wpAnyH_take (i := 8) (oi := ?oi9) (v := ?v9) ?hi9 (by kernel_rfl) (by kernel_rfl) (by kernel_rfl) ?hQ9 (Or.inl ⟨?hw9, ?hy9⟩) (by assumption) ?hr9
          case hi9 => simp only [List.getElem?_toArray, List.getElem?_cons_succ, List.getElem?_cons_zero]; rfl
          case hQ9 => exact fun _ _ _ h => h
          case hw9 => rfl
          case hy9 => intro w hSw; (try dsimp only at hSw); go_simp; (try with_reducible rfl)
          case hr9 =>
          simp only [Act.put, List.setIfInBounds_toArray, List.set_cons_zero, List.set_cons_succ]
          refine wpAnyH_take (i := 9) (oi := ?oi10) (v := ?v10) ?hi10 (by kernel_rfl) (by kernel_rfl) (by kernel_rfl) ?hQ10 (Or.inl ⟨?hw10, ?hy10⟩) (by assumption) ?hr10
          case hi10 => simp only [List.getElem?_toArray, List.getElem?_cons_succ, List.getElem?_cons_zero]; rfl
          case hQ10 => exact fun _ _ _ h => h
          case hw10 => rfl
          case hy10 => intro w hSw; (try dsimp only at hSw); go_simp; (try with_reducible rfl)
          case hr10 =>
          simp only [Act.put, List.setIfInBounds_toArray, List.set_cons_zero, List.set_cons_succ]
          refine wpAnyH_take (i := 10) (oi := ?oi11) (v := ?v11) ?hi11 (by kernel_rfl) (by kernel_rfl) (by kernel_rfl) ?hQ11 (Or.inl ⟨?hw11, ?hy11⟩) (by assumption) ?hr11
          case hi11 => simp only [List.getElem?_toArray, List.getElem?_cons_succ, List.getElem?_cons_zero]; rfl
          case hQ11 => exact fun _ _ _ h => h
          case hw11 => rfl
          case hy11 => intro w hSw; (try dsimp only at hSw); go_simp; (try with_reducible rfl)
          case hr11 =>
          simp only [Act.put, List.setIfInBounds_toArray, List.set_cons_zero, List.set_cons_succ]
          refine wpAnyH_done (by kernel_rfl) ?_ _
          clear hm1 hm2
          go_upto_region 9 with (fail)
          obtain ⟨W1, hW1⟩ : ∃ x, x = wr.drew.drew.setCells gm (xx * 6) [.int .i64 y1, .string y2, .int .i64 y3, .string y4, .slice ya yl yc, .int .i64 y6] := ⟨_, rfl⟩
          have hs1 := HSW.out
          rw [← hW1] at hs1
          replace HSW := Lib.hid hs1
          have HW1 := Lib.hid hW1
          clear hs1 hW1
          refine wp_region_mark (S := fun v => v.cell? ⟨gm, xx * 6, none⟩ = some (.int .i64 x1) ∧ v.cell? ⟨gm, xx * 6 + 1, none⟩ = some (.string x2) ∧ v.cell? ⟨gm, xx * 6 + 2, none⟩ = some (.int .i64 x3) ∧ v.cell? ⟨gm, xx * 6 + 3, none⟩ = some (.string x4) ∧ v.cell? ⟨gm, xx * 6 + 4, none⟩ = some (.slice xa xl xc) ∧ v.cell? ⟨gm, xx * 6 + 5, none⟩ = some (.int .i64 x6) ∧ v.cell? ⟨gm, yy * 6, none⟩ = some (.int .i64 y1) ∧ v.cell? ⟨gm, yy * 6 + 1, none⟩ = some (.string y2) ∧ v.cell? ⟨gm, yy * 6 + 2, none⟩ = some (.int .i64 y3) ∧ v.cell? ⟨gm, yy * 6 + 3, none⟩ = some (.string y4) ∧ v.cell? ⟨gm, yy * 6 + 4, none⟩ = some (.slice ya yl yc) ∧ v.cell? ⟨gm, yy * 6 + 5, none⟩ = some (.int .i64 y6)) 12 (by kernel_rfl) ?_ (fun hHeld => ?_)
          · exact HXY.out
          refine wpAnyF_pure (i := 0) (oi := ?oi12) (v := ?v12) ?hi12 (by kernel_rfl) (by kernel_rfl) (by kernel_rfl) (by kernel_rfl) ?hQ12 (Or.inl ⟨?hw12, ?hy12⟩) (Or.inr (by assumption)) ?hr12
          case hi12 => simp only [List.getElem?_toArray, List.getElem?_cons_zero]; rfl
          case hQ12 => exact fun _ _ _ h => h
          case hw12 => rfl
          case hy12 => intro w hSw; (try dsimp only at hSw); go_simp; (try with_reducible rfl)
          case hr12 =>
          simp only [Act.put, List.setIfInBounds_toArray, List.set_cons_zero, List.set_cons_succ]
          refine wpAnyF_pure (i := 1) (oi := ?oi13) (v := ?v13) ?hi13 (by kernel_rfl) (by kernel_rfl) (by kernel_rfl) (by kernel_rfl) ?hQ13 (Or.inl ⟨?hw13, ?hy13⟩) (Or.inr (by assumption)) ?hr13
          case hi13 => simp only [List.getElem?_toArray, List.getElem?_cons_succ, List.getElem?_cons_zero]; rfl
          case hQ13 => exact fun _ _ _ h => h
          case hw13 => rfl
          case hy13 => intro w hSw; (try dsimp only at hSw); go_simp; (try with_reducible rfl)
          case hr13 =>
          simp only [Act.put, List.setIfInBounds_toArray, List.set_cons_zero, List.set_cons_succ]
          refine wpAnyF_pure (i := 2) (oi := ?oi14) (v := ?v14) ?hi14 (by kernel_rfl) (by kernel_rfl) (by kernel_rfl) (by kernel_rfl) ?hQ14 (Or.inl ⟨?hw14, ?hy14⟩) (Or.inr (by assumption)) ?hr14
          case hi14 => simp only [List.getElem?_toArray, List.getElem?_cons_succ, List.getElem?_cons_zero]; rfl
          case hQ14 => exact fun _ _ _ h => h
          case hw14 => rfl
          case hy14 => intro w hSw; (try dsimp only at hSw); go_simp; (try with_reducible rfl)
          case hr14 =>
          simp only [Act.put, List.setIfInBounds_toArray, List.set_cons_zero, List.set_cons_succ]
          refine wpAnyF_pure (i := 3) (oi := ?oi15) (v := ?v15) ?hi15 (by kernel_rfl) (by kernel_rfl) (by kernel_rfl) (by kernel_rfl) ?hQ15 (Or.inl ⟨?hw15, ?hy15⟩) (Or.inr (by assumption)) ?hr15
          case hi15 => simp only [List.getElem?_toArray, List.getElem?_cons_succ, List.getElem?_cons_zero]; rfl
          case hQ15 => exact fun _ _ _ h => h
          case hw15 => rfl
          case hy15 => intro w hSw; (try dsimp only at hSw); go_simp; (try with_reducible rfl)
          case hr15 =>
          simp only [Act.put, List.setIfInBounds_toArray, List.set_cons_zero, List.set_cons_succ]
          refine wpAnyF_pure (i := 4) (oi := ?oi16) (v := ?v16) ?hi16 (by kernel_rfl) (by kernel_rfl) (by kernel_rfl) (by kernel_rfl) ?hQ16 (Or.inl ⟨?hw16, ?hy16⟩) (Or.inr (by assumption)) ?hr16
          case hi16 => simp only [List.getElem?_toArray, List.getElem?_cons_succ, List.getElem?_cons_zero]; rfl
          case hQ16 => exact fun _ _ _ h => h
          case hw16 => rfl
          case hy16 => intro w hSw; (try dsimp only at hSw); go_simp; (try with_reducible rfl)
          case hr16 =>
          simp only [Act.put, List.setIfInBounds_toArray, List.set_cons_zero, List.set_cons_succ]
          refine wpAnyF_pure (i := 5) (oi := ?oi17) (v := ?v17) ?hi17 (by kernel_rfl) (by kernel_rfl) (by kernel_rfl) (by kernel_rfl) ?hQ17 (Or.inl ⟨?hw17, ?hy17⟩) (Or.inr (by assumption)) ?hr17
          case hi17 => simp only [List.getElem?_toArray, List.getElem?_cons_succ, List.getElem?_cons_zero]; rfl
          case hQ17 => exact fun _ _ _ h => h
          case hw17 => rfl
          case hy17 => intro w hSw; (try dsimp only at hSw); go_simp; (try with_reducible rfl)
          case hr17 =>
          simp only [Act.put, List.setIfInBounds_toArray, List.set_cons_zero, List.set_cons_succ]
          refine wpAnyF_pure (i := 6) (oi := ?oi18) (v := ?v18) ?hi18 (by kernel_rfl) (by kernel_rfl) (by kernel_rfl) (by kernel_rfl) ?hQ18 (Or.inl ⟨?hw18, ?hy18⟩) (Or.inr (by assumption)) ?hr18
          case hi18 => simp only [List.getElem?_toArray, List.getElem?_cons_succ, List.getElem?_cons_zero]; rfl
          case hQ18 => exact fun _ _ _ h => h
          case hw18 => rfl
          case hy18 => intro w hSw; (try dsimp only at hSw); go_simp; (try with_reducible rfl)
          case hr18 =>
          simp only [Act.put, List.setIfInBounds_toArray, List.set_cons_zero, List.set_cons_succ]
          refine wpAnyF_take (i := 7) (oi := ?oi19) (v := ?v19) ?hi19 (by kernel_rfl) (by kernel_rfl) (by kernel_rfl) (by kernel_rfl) (by kernel_rfl) ?hQ19 (Or.inl ⟨?hw19, ?hy19⟩) (by assumption) ?hr19
          case hi19 => simp only [List.getElem?_toArray, List.getElem?_cons_succ, List.getElem?_cons_zero]; rfl
          case hQ19 => exact fun _ _ _ h => h
          case hw19 => rfl
          case hy19 => intro w hSw; (try dsimp only at hSw); go_simp; (try with_reducible rfl)
          case hr19 =>
          simp only [Act.put, List.setIfInBounds_toArray, List.set_cons_zero, List.set_cons_succ]
          refine wpAnyF_pure (i := 8) (oi := ?oi20) (v := ?v20) ?hi20 (by kernel_rfl) (by kernel_rfl) (by kernel_rfl) (by kernel_rfl) ?hQ20 (Or.inl ⟨?hw20, ?hy20⟩) (Or.inr (by assumption)) ?hr20
          case hi20 => simp only [List.getElem?_toArray, List.getElem?_cons_succ, List.getElem?_cons_zero]; rfl
          case hQ20 => exact fun _ _ _ h => h
          case hw20 => rfl
          case hy20 => intro w hSw; (try dsimp only at hSw); go_simp; (try with_reducible rfl)
          case hr20 =>
          simp only [Act.put, List.setIfInBounds_toArray, List.set_cons_zero, List.set_cons_succ]
          refine wpAnyF_pure (i := 9) (oi := ?oi21) (v := ?v21) ?hi21 (by kernel_rfl) (by kernel_rfl) (by kernel_rfl) (by kernel_rfl) ?hQ21 (Or.inl ⟨?hw21, ?hy21⟩) (Or.inr (by assumption)) ?hr21
          case hi21 => simp only [List.getElem?_toArray, List.getElem?_cons_succ, List.getElem?_cons_zero]; rfl
          case hQ21 => exact fun _ _ _ h => h
          case hw21 => rfl
          case hy21 => intro w hSw; (try dsimp only at hSw); go_simp; (try with_reducible rfl)
          case hr21 =>
          simp only [Act.put, List.setIfInBounds_toArray, List.set_cons_zero, List.set_cons_succ]
          refine wpAnyF_pure (i := 10) (oi := ?oi22) (v := ?v22) ?hi22 (by kernel_rfl) (by kernel_rfl) (by kernel_rfl) (by kernel_rfl) ?hQ22 (Or.inl ⟨?hw22, ?hy22⟩) (Or.inr (by assumption)) ?hr22
          case hi22 => simp only [List.getElem?_toArray, List.getElem?_cons_succ, List.getElem?_cons_zero]; rfl
          case hQ22 => exact fun _ _ _ h => h
          case hw22 => rfl
          case hy22 => intro w hSw; (try dsimp only at hSw); go_simp; (try with_reducible rfl)
          case hr22 =>
          simp only [Act.put, List.setIfInBounds_toArray, List.set_cons_zero, List.set_cons_succ]
          refine wpAnyF_take (i := 11) (oi := ?oi23) (v := ?v23) ?hi23 (by kernel_rfl) (by kernel_rfl) (by kernel_rfl) (by kernel_rfl) (by kernel_rfl) ?hQ23 (Or.inl ⟨?hw23, ?hy23⟩) (by assumption) ?hr23
          case hi23 => simp only [List.getElem?_toArray, List.getElem?_cons_succ, List.getElem?_cons_zero]; rfl
          case hQ23 => exact fun _ _ _ h => h
          case hw23 => rfl
          case hy23 => intro w hSw; (try dsimp only at hSw); go_simp; (try with_reducible rfl)
          case hr23 =>
          simp only [Act.put, List.setIfInBounds_toArray, List.set_cons_zero, List.set_cons_succ]
          refine wpAnyF_ready (i := 12) (o := ?oc24) (by kernel_rfl) ?hc24 (by kernel_rfl) (fun K hK => ?hs24)
          case hc24 => simp only [List.getElem?_toArray, List.getElem?_cons_succ, List.getElem?_cons_zero]; rfl
          case hs24 =>
          rw [if_pos (by rfl)]
          go_simp
          refine hK.out _ _ ?_
          clear hK K
          try simp only [Act.put, List.setIfInBounds_toArray, List.set_cons_zero, List.set_cons_succ]
          refine wpAnyF_ready (i := 13) (o := ?oc25) (by kernel_rfl) ?hc25 (by kernel_rfl) (fun K hK => ?hs25)
          case hc25 => simp only [List.getElem?_toArray, List.getElem?_cons_succ, List.getElem?_cons_zero]; rfl
          case hs25 =>
          rw [if_pos (by rfl)]
          refine wp_store_mid 45 (.tmp 69) (.tmp 64) rfl gm (xx * 6) #[.int .i64 y1, .string y2, .int .i64 y3, .string y4, .slice ya yl yc, .int .i64 y6] rfl rfl HSW.out.1 Tryz.nodeSize (nd_ones _ _ _ _ _ _ _ _) ?_; dsimp only; rw [← HW1.out]
          refine hK.out _ _ ?_
          clear hK K
          try simp only [Act.put]
          refine wpAnyF_ready (i := 14) (o := ?oc26) (by kernel_rfl) ?hc26 (by kernel_rfl) (fun K hK => ?hs26)
          case hc26 => simp only [List.getElem?_toArray, List.getElem?_cons_succ, List.getElem?_cons_zero]; rfl
          case hs26 =>
          rw [if_pos (by rfl)]
          go_simp
          refine hK.out _ _ ?_
          clear hK K
          try simp only [Act.put, List.setIfInBounds_toArray, List.set_cons_zero, List.set_cons_succ]
          refine wpAnyF_ready (i := 15) (o := ?oc27) (by kernel_rfl) ?hc27 (by kernel_rfl) (fun K hK => ?hs27)
          case hc27 => simp only [List.getElem?_toArray, List.getElem?_cons_succ, List.getElem?_cons_zero]; rfl
          case hs27 =>
          rw [if_pos (by rfl)]
          refine wp_store_mid 45 (.tmp 70) (.tmp 68) rfl gm (yy * 6) #[.int .i64 x1, .string x2, .int .i64 x3, .string x4, .slice xa xl xc, .int .i64 x6] rfl rfl HSW.out.2.1 Tryz.nodeSize (nd_ones _ _ _ _ _ _ _ _) ?_; dsimp only
          refine hK.out _ _ ?_
          clear hK K
          try simp only [Act.put]
          refine wpAnyF_done (by kernel_rfl) ?_ _
          go_wp2_with fail
          go_roundw
          case rel =>
            refine ⟨k + 1, swp Lk xx yy, by go_num, by omega, (swp_perm _ _ _).trans HQ.out.1, ?_, HQ.out.2.2.trans ((((Chg.refl [gm] wr).drew.drew).trans HSW.out.2.2.2).mono (by simp [Value.ownBlock]))⟩
            obtain ⟨B9, h9⟩ := HSW.out.2.2.1.row
            exact own_base h9 (fun x hx => by have h8 : gm = x := (by simpa [Value.ownBlock] using hx); omega)
          case measure => simp [intOf]; omega
      · obtain rfl : k = NR := by omega
        clear hlt hkn
        go_upto_region 12 with (first
          | (go_at_call 11; refine (HOP.out _).mono ?_; rintro e w5 ⟨oa, oc, rfl, k5⟩; have HK5 := Lib.hid k5; clear k5)
          | (go_at_call 20; refine (HNW.out _ oa oc).mono ?_; rintro e w6 ⟨f, O, b, rfl, hL, k6⟩; have HF6 := Lib.hid (And.intro hL k6); clear hL k6))
        go_upto_region 13 with (first
          | (go_at_call 11; refine (HOP.out _).mono ?_; rintro e w7 ⟨oa2, oc2, rfl, k7⟩; have HK7 := Lib.hid k7; clear k7)
          | (go_at_call 20; refine (HNW.out _ oa2 oc2).mono ?_; rintro e w8 ⟨g, Q, b2, rfl, hL, k8⟩; have HG8 := Lib.hid (And.intro hL k8); clear hL k8))
        clear HOP HNW
        have hk68 : Chg [] w6 w8 := HK7.out.trans HG8.out.2
        have hk08 : Chg [] w w8 := HKW.out.trans (HK5.out.trans (HF6.out.2.trans hk68))
        have HZ := Lib.hid (show w.heap.size ≤ wr.heap.size ∧ w3.heap.size ≤ wr.heap.size ∧ wr.heap.size ≤ w5.heap.size ∧ w5.heap.size ≤ w6.heap.size ∧ w6.heap.size ≤ w7.heap.size ∧ w7.heap.size ≤ w8.heap.size ∧ w.heap.size ≤ w1.heap.size from ⟨HKW.out.size, HQ.out.2.2.size, HK5.out.size, HF6.out.2.size, HK7.out.size, HG8.out.2.size, HK1.out.size⟩)
        have HKB := Lib.hid (show 0 < w.heap.size from by
          obtain ⟨t, ht⟩ := HA.out.2.2.2.1
          exact lt_of_block ht)
        have hOlo : ∀ x ∈ O, w5.heap.size ≤ x ∧ x < w6.heap.size := fun x hx => ⟨HF6.out.1.own x hx, HF6.out.1.fs.lt x hx⟩
        have hQlo : ∀ x ∈ Q, w7.heap.size ≤ x ∧ x < w8.heap.size := fun x hx => ⟨HG8.out.1.own x hx, HG8.out.1.fs.lt x hx⟩
        have HOQ := Lib.hid (And.intro hOlo hQlo)
        have hX1 := extractTree w8 f O (newFs (1 + 0) (1 + 0) [] b) 0 lo n lc fq fq L (HF6.out.1.fs.foreign hk68 (by simp)) HF6.out.1.inv (by omega) ⟨b, rfl, by simp [newFs, rootNd]⟩ (HA.out.1.chg hk08 (by simp)) HLN.out.symm (by omega) (fun x hx => ⟨(HA.out.2.1 x hx).1.chg hk08 (by simp), (HA.out.2.1 x hx).2⟩) HA.out.2.2.1
          (fun x hx => ⟨Nat.lt_of_lt_of_le (HFQ.out x hx) hk08.size, fun hm => by have := HFQ.out x hx; have := hOlo x hm; have := HZ.out; omega⟩) (fun x hx => ⟨Nat.lt_of_lt_of_le (HFQ.out x hx) hk08.size, fun hm => by have := HFQ.out x hx; have := hOlo x hm; have := HZ.out; omega⟩)
          (HA.out.2.2.2.1.chg hk08 (by simp)) (fun hm => by have := hOlo _ hm; have := HKB.out; have := HZ.out; omega)
        have HX1 := Lib.hid hX1
        have HK8 := Lib.hid (And.intro hk08 hk68)
        clear hX1 hk08 hk68 hOlo hQlo
        go_upto_region 16 with (go_at_call 21; refine HX1.out.mono ?_; rintro e w9 ⟨E1, σ1, rfl, hE1, O1, ⟨hf1, hO1⟩, hk9⟩; have HF9 := Lib.hid (And.intro hE1 (And.intro hf1 (And.intro hO1 hk9))); clear hE1 hf1 hO1 hk9)
        clear HX1
        have hgm : ∀ x, (Value.slice ma n mc).ownBlock = some x → x < w5.heap.size := fun x hx => by
          have h8 := HOB.out x (by simp [hx]); have := HZ.out; omega
        have hrow9 := (own_keepS (own_keepS HQ.out.2.1 (HK5.out.trans (HF6.out.2.trans HK8.out.2)) (by simp)) HF9.out.2.2.2 (fun x hx hm => by have := hgm x hx; have := HOQ.out.1 x hm; omega))
        obtain ⟨ma', mc', hv9, hrd9⟩ := ndRd_of_own hrow9
        simp only [Value.slice.injEq] at hv9
        obtain ⟨rfl, _, rfl⟩ := hv9
        have hk09 : Chg [] w w9 := HK8.out.1.trans' HF9.out.2.2.2 (by simp) (fun x hx hl => by have := HOQ.out.1 x hx; have := HZ.out; omega)
        have h89 := HF9.out.2.2.2.size
        have hX2 := extractTree w9 g Q (newFs (1 + 0) (1 + 0) [] b2) 0 ma n mc (Value.slice ma n mc).ownBlock.toList fq Lk (HG8.out.1.fs.foreign HF9.out.2.2.2 (fun x hx hm => by have := HOQ.out.2 x hx; have := HOQ.out.1 x hm; have := HZ.out; omega)) HG8.out.1.inv (by omega) ⟨b2, rfl, by simp [newFs, rootNd]⟩ hrd9 (by have := hrow9.1; rw [ndcells_length] at this; omega) (by omega)
          (fun x hx => ⟨(HA.out.2.1 x (HQ.out.1.mem_iff.1 hx)).1.chg hk09 (by simp), (HA.out.2.1 x (HQ.out.1.mem_iff.1 hx)).2⟩) (fun x hx => HA.out.2.2.1 x (HQ.out.1.mem_iff.1 hx))
          (fun x hx => by have h8 : (Value.slice ma n mc).ownBlock = some x := (by simpa using hx); have h7 := hgm x h8; have h6 := HZ.out; exact ⟨by omega, fun hm => by have := HOQ.out.2 x hm; omega⟩)
          (fun x hx => ⟨Nat.lt_of_lt_of_le (HFQ.out x hx) hk09.size, fun hm => by have := HFQ.out x hx; have := HOQ.out.2 x hm; have := HZ.out; omega⟩)
          (HA.out.2.2.2.1.chg hk09 (by simp)) (fun hm => by have := HOQ.out.2 _ hm; have := HKB.out; have := HZ.out; omega)
        have HX2 := Lib.hid hX2
        have HK9 := Lib.hid (And.intro hk09 h89)
        clear hX2 hk09 hrow9 hrd9 hgm h89
        go_upto_region 17 with (go_at_call 21; refine HX2.out.mono ?_; rintro e w10 ⟨E2, τ1, rfl, hE2, Q1, ⟨hg1, hQ1⟩, hk10⟩; have HG10 := Lib.hid (And.intro hE2 (And.intro hg1 (And.intro hQ1 hk10))); clear hE2 hg1 hQ1 hk10)
        clear HX2
        have hroot : ∀ b, rootNames (newFs (1 + 0) (1 + 0) [] b) = [] := fun b => by simp [rootNames, newFs, lkF, rootNd]
        obtain ⟨hEE, htw⟩ := ext_twin (HQ.out.1.symm.map Prod.fst) (twin_new (1 + 0) (1 + 0) [] [] b b2) (tidy_new _ _ _ _) (hroot b) (hroot b2) HF9.out.1 HG10.out.1
        obtain ⟨i1, i2, i3⟩ := ext_inv (N := 0) HF9.out.1 HF6.out.1.inv (tidy_new _ _ _ _) (rooted_new _ _ _ _)
        obtain ⟨i4, i5, i6⟩ := ext_inv (N := 0) HG10.out.1 HG8.out.1.inv (tidy_new _ _ _ _) (rooted_new _ _ _ _)
        have hLL : (L.map Prod.fst).length = n := by rw [List.length_map, HLN.out]
        have hLK : (Lk.map Prod.fst).length = n := by rw [List.length_map, HQ.out.1.length_eq, HLN.out]
        rw [hLL] at i1 i3
        rw [hLK] at i4 i6
        obtain ⟨q, hq1⟩ : ∃ q, (E1 == 0) = q := ⟨_, rfl⟩
        have hq2 : (E2 == 0) = q := by
          rw [← hq1]
          by_cases h1 : E1 = 0
          · rw [h1, hEE.1 h1]
          · rw [beq_eq_false_iff_ne.2 h1, beq_eq_false_iff_ne.2 (fun h2 => h1 (hEE.2 h2))]
        have hk8n := HK9.out.2
        have hk910 := HG10.out.2.2.2.size
        have HD := Lib.hid (show (∀ x ∈ O1, x ∉ Q1) ∧ (∀ x ∈ O1, x ∉ Q) from by
          have hOQ : ∀ x ∈ O1, x ∉ Q := fun x hx hm => by
            rcases HF9.out.2.2.1 x hx with h1 | h1
            · have := HOQ.out.1 x h1; have := HOQ.out.2 x hm; have := HZ.out; omega
            · have := HOQ.out.2 x hm; omega
          refine ⟨fun x hx hm => ?_, hOQ⟩
          rcases HG10.out.2.2.1 x hm with h1 | h1
          · exact hOQ x hx h1
          · have := HF9.out.2.1.lt x hx; omega)
        have HP1 := Lib.hid (wpaths w10 f O1 σ1 200 (HF9.out.2.1.foreign HG10.out.2.2.2 HD.out.2) (i1.mono (by omega)) (by omega) i2 (i3.mono (by omega)))
        have HTW := Lib.hid htw
        have HI2 := Lib.hid (And.intro (show τ1.In 200 from i4.mono (by omega)) (And.intro i5 (show Rooted 200 τ1 from i6.mono (by omega))))
        clear hroot hEE htw i1 i2 i3 i4 i5 i6 hLL hLK hk8n hk910
        go_upto_region 20 with (go_at_call 14; refine HP1.out.mono ?_; rintro e w11 ⟨V, pa, pm, pc, p1, rfl, rfl, hp, hown, hno, hff, _, hk11⟩; have HV := Lib.hid (And.intro hp (And.intro hown (And.intro hno (And.intro hff hk11)))); clear hp hown hno hff hk11)
        clear hq1 hq2
        have HP2 := Lib.hid (wpaths w11 g Q1 τ1 200 (HG10.out.2.1.foreign HV.out.2.2.2.2 (fun x hx hm => HD.out.1 x hm hx)) HI2.out.1 (by omega) HI2.out.2.1 HI2.out.2.2)
        go_upto_region 21 with (go_at_call 14; refine HP2.out.mono ?_; rintro e w12 ⟨U, ua, um, uc, p2, rfl, rfl, hp, hown, hno, hff, _, hk12⟩; have HU := Lib.hid (And.intro hp (And.intro hown (And.intro hno (And.intro hff hk12)))); clear hp hown hno hff hk12)
        have hUV : U = V := HU.out.1.eq (HTW.out.paths HV.out.1)
        subst hUV
        have hVs : U.length ≤ 201 := by
          have h1 := HU.out.1.short
          have h2 := HI2.out.2.2.len
          omega
        have hrowP := own_keepS HV.out.2.1 HU.out.2.2.2.2 (fun x hx hm => by
          have h1 := HG10.out.2.1.lt x hm
          rcases HV.out.2.1.2 with ⟨hv, _⟩ | ⟨g', cap, cur, hv, hb, _⟩
          · rw [hv] at hx; simp [Value.ownBlock] at hx
          · rw [hv] at hx; simp [Value.ownBlock] at hx; omega)
        have HEQ := Lib.hid (equalS w12 _ _ pa ua U.length pc uc U (by omega) hrowP HU.out.2.1)
        have HRD := Lib.hid (own_rd2 hrowP).1
        have hkf : FsAt w12 f O1 (ls σ1 p1) := HV.out.2.2.2.1.foreign HU.out.2.2.2.2 HD.out.1
        have h10w : Chg [] w w12 := by
          have a1 : Chg [] w w10 := HK9.out.1.trans' HG10.out.2.2.2 (by simp) (fun x hx hl => by have := HOQ.out.2 x hx; have := HZ.out; omega)
          have a2 : Chg [] w w11 := a1.trans' HV.out.2.2.2.2 (by simp) (fun x hx hl => by
            rcases HF9.out.2.2.1 x hx with h1 | h1
            · have := HOQ.out.1 x h1; have := HZ.out; omega
            · have := HK8.out.1.size; omega)
          exact a2.trans' HU.out.2.2.2.2 (by simp) (fun x hx hl => by
            rcases HG10.out.2.2.1 x hx with h1 | h1
            · have := HOQ.out.2 x h1; have := HZ.out; omega
            · have := HK9.out.1.size; omega)
        have HKF := Lib.hid (And.intro hkf (And.intro HU.out.2.2.2.1 h10w))
        have HVM := Lib.hid HV.out.1
        have HTL := Lib.hid (HTW.out.lists p1 p2)
        clear hrowP hkf h10w HV HP1 HP2 HG10 HF9 HK9 HI2 HTW HD HK8 HOQ HZ HF6 HG8 HK5 HK7 HQ HOB HW3B HU
        generalize hVN : U.length = VN at *
        have HVN := Lib.hid hVN
        clear hVN
        go_upto_region 23 with (go_at_call 22; refine HEQ.out.mono ?_; rintro e w13 ⟨rfl, q13, rfl⟩)
        have hk13 : Chg [] w12 (w12.drewN q13) := (Chg.refl [] w12).drewN q13
        have HK13 := Lib.hid hk13
        clear hk13 HEQ
        generalize w12.drewN q13 = w13 at *
        go_wp2_with fail
        go_loopw [131] (fun u wr => ∃ k : Nat, u = .int .i64 k ∧ k ≤ VN ∧ Chg [] w13 wr) (fun u _ => VN - (intOf u).toNat)
        case atStart => exact ⟨0, rfl, Nat.zero_le _, Chg.refl _ _⟩
        case round =>
          obtain ⟨k2, rfl, hk2n, hkr⟩ := hrel
          have HKR := Lib.hid (HK13.out.trans hkr)
          have HKS := Lib.hid hkr
          clear hkr
          by_cases hlt : k2 < VN
          · have hkU : k2 < U.length := by rw [HVN.out]; exact hlt
            obtain ⟨pd, rfl, _, hpc⟩ := (HRD.out.chg HKR.out (by simp)) k2 (.string (ba U[k2])) (by unfold svn; rw [sv_get _ _ (by simp; omega)]; simp)
            obtain ⟨bb, hbb⟩ := ((HVM.out.mem _).1 (List.getElem_mem hkU)).2
            obtain ⟨kk, mm, ii, lk, ss, tt, uu, mt, hlv⟩ := stat_some (σ := ls σ1 p1) (p := U[k2]) hbb
            have hl1 := fun W (kw : Chg [] w12 W) => lstat W f O1 (ls σ1 p1) U[k2] (HKF.out.1.foreign kw (by simp))
            have hl2 := fun W (kw : Chg [] w12 W) => lstat W g Q1 (ls τ1 p2) U[k2] (HKF.out.2.1.foreign kw (by simp))
            rw [← HTL.out.stat] at hl2
            rw [hlv] at hl1 hl2
            have HL1 := Lib.hid hl1
            have HL2 := Lib.hid hl2
            clear hl1 hl2 hlv hbb
            generalize ba U[k2] = PK at *
            go_upto_region 27 with (go_at_call 13; refine (HL1.out _ HKR.out).mono ?_; rintro e w14 ⟨rfl, k14⟩; have HK14 := Lib.hid k14; clear k14)
            clear hpc
            have hk15 : Chg [] w14 (w14.alloc (.cells #[.int .i64 kk, .int .i64 mm, .int .i64 ii, .int .i64 lk, .int .i64 ss, .string tt, .int .i64 uu, .int .i64 mt] 40)) := (Chg.refl _ _).alloc _
            have HE15 := Lib.hid (heap_alloc_new w14 (.cells #[.int .i64 kk, .int .i64 mm, .int .i64 ii, .int .i64 lk, .int .i64 ss, .string tt, .int .i64 uu, .int .i64 mt] 40))
            have HK15 := Lib.hid (HK14.out.trans hk15)
            clear hk15 HK14
            generalize w14.alloc (.cells #[.int .i64 kk, .int .i64 mm, .int .i64 ii, .int .i64 lk, .int .i64 ss, .string tt, .int .i64 uu, .int .i64 mt] 40) = W15 at *
            generalize w14.heap.size = g15 at *
            go_upto_region 28 with (go_at_call 13; refine (HL2.out _ (HKR.out.trans HK15.out)).mono ?_; rintro e w16 ⟨rfl, k16⟩; have HK16 := Lib.hid (HK15.out.trans k16); have HE16 := Lib.hid (k16.heap HE15.out (by simp)); clear k16)
            have hk17 : Chg [] w16 (w16.alloc (.cells #[.int .i64 kk, .int .i64 mm, .int .i64 ii, .int .i64 lk, .int .i64 ss, .string tt, .int .i64 uu, .int .i64 mt] 40)) := (Chg.refl _ _).alloc _
            have HE17 := Lib.hid (And.intro (hk17.heap HE16.out (by simp)) (heap_alloc_new w16 (.cells #[.int .i64 kk, .int .i64 mm, .int .i64 ii, .int .i64 lk, .int .i64 ss, .string tt, .int .i64 uu, .int .i64 mt] 40)))
            have HK17 := Lib.hid (HK16.out.trans hk17)
            clear hk17 HK16 HE15 HE16 HK15
            generalize w16.alloc (.cells #[.int .i64 kk, .int .i64 mm, .int .i64 ii, .int .i64 lk, .int .i64 ss, .string tt, .int .i64 uu, .int .i64 mt] 40) = W17 at *
            generalize w16.heap.size = g17 at *
            have c0 := cell_heap HE17.out.1 0 (v := .int .i64 kk) rfl
            have c1 := cell_heap HE17.out.1 1 (v := .int .i64 mm) rfl
            have c2 := cell_heap HE17.out.1 2 (v := .int .i64 ii) rfl
            have c3 := cell_heap HE17.out.1 3 (v := .int .i64 lk) rfl
            have c4 := cell_heap HE17.out.1 4 (v := .int .i64 ss) rfl
            have c5 := cell_heap HE17.out.1 5 (v := .string tt) rfl
            have c6 := cell_heap HE17.out.1 6 (v := .int .i64 uu) rfl
            have c7 := cell_heap HE17.out.1 7 (v := .int .i64 mt) rfl
            have d0 := cell_heap HE17.out.2 0 (v := .int .i64 kk) rfl
            have d1 := cell_heap HE17.out.2 1 (v := .int .i64 mm) rfl
            have d2 := cell_heap HE17.out.2 2 (v := .int .i64 ii) rfl
            have d3 := cell_heap HE17.out.2 3 (v := .int .i64 lk) rfl
            have d4 := cell_heap HE17.out.2 4 (v := .int .i64 ss) rfl
            have d5 := cell_heap HE17.out.2 5 (v := .string tt) rfl
            have d6 := cell_heap HE17.out.2 6 (v := .int .i64 uu) rfl
            have d7 := cell_heap HE17.out.2 7 (v := .int .i64 mt) rfl
            go_wp2_with fail
            go_roundw
            case rel => exact ⟨k2 + 1, by go_num, by omega, HKS.out.trans HK17.out⟩
            case measure => simp [intOf]; omega
          · go_wp2_with (go_at_call 19; refine (HAL.out _ (HKF.out.2.2.trans HKR.out)).mono ?_; rintro e w18 ⟨rfl, k⟩; have HK18 := Lib.hid (HKF.out.2.2.trans (HKR.out.trans k)); clear k)
            go_ret
            exact ⟨rfl, HK18.out⟩
  · have h1 := tooN_one g1
    rw [h1] at HT
    clear g1 h1
    go_wp2_with (first
      | (go_at_call 18; refine (HT.out _ (Chg.refl _ _)).mono ?_; rintro e w1 ⟨rfl, k⟩; have HK1 := Lib.hid k; clear k)
      | (go_at_call 19; refine (HAL.out _ HK1.out).mono ?_; rintro e w4 ⟨rfl, k⟩; have HK4 := Lib.hid (HK1.out.trans k); clear k))
    go_ret
    exact ⟨rfl, HK4.out⟩
end Go.Proofs.YtfhiioopimmahaaGreatDoor
namespace Go.Proofs.YtfhiioopimmahaaGreatDoor
open Go.ChangeShapes Go.WideShapes Go.ChangeAt Go.RowKit Go.Pax Go.Joins

set_option maxRecDepth 100000 in
theorem extractOrderIrrelevant_opened (H : Type) (enc : TypeId × Value → H) (W : World) (base : Nat) (args : Array Value) (ds : List (DataW H)) (before : List MemPlace)
    (hval : ∀ (j : Nat) t v, Tryz.f5.params[j]? = some t → args[j]? = some v → Value.okWide Tryz.prog W .any base t v)
    (hA : DataW.TrodAll enc Tryz.prog W 0 (fun _ => true) true Tryz.f5.params.toList args.toList ds before)
    (hsz : (DataW.weightsEach Tryz.prog Tryz.f5.params.toList ds).all (· ≤ reachBytes) = true) (hkeys : KeysAt W) :
    Calls Tryz.prog 5 args W fun e W' => e = .returned (.bool true) ∧ Chg [] W W' := by
  rw [Tryz.params5] at hA hval hsz
  obtain ⟨v0, v1, d0, d1, p0, p1, rfl, rfl, rfl, h0, h1⟩ := trodAll_two hA
  obtain ⟨a0, c0, l0, f0, rfl, hl0, r0⟩ := Tryz.openM (hval 0 35 v0 rfl rfl) h0 (Tryz.sized hsz 0 rfl rfl)
  obtain ⟨a1, c1, b1, f1, rfl, hl1, _hcap1, r1⟩ := Tryz.openB (hval 1 43 v1 rfl rfl) h1 (Tryz.sized hsz 1 rfl rfl)
  exact orderIrrelevant W a0 a1 c0 c1 l0 b1 (f0 ++ f1) hkeys (fun y hy => (hl0.2 y hy).mono (fun k hk => by simp [hk])) hl0.1 (r0.mono (fun k hk => by simp [hk])) hl1 (r1.mono (fun k hk => by simp [hk]))

theorem extractOrderIrrelevant_door (os : Os) (args : Array Value) : laidMetH Tryz.prog Rows.extractOrderIrrelevantRow.laid ((World.doorLaid Tryz.prog 67 os).forCall (fun _ _ => 0) ⟨#[], args, []⟩).memory :=
  laidMetH_of_parts3 (fuel := 8) (laidMet_of_run' 8 (by kernel_rfl) (by kernel_rfl)) (by kernel_rfl) (by kernel_rfl)

set_option maxRecDepth 100000 in
theorem extractOrderIrrelevant_lifted (os : Os) (started : os.Started) (H : Type) (enc : TypeId × Value → H) :
    ReturnsInHanded {} Tryz.checked os 5 .any (fun w args => (Rows.extractOrderIrrelevantSpec.pre enc Tryz.prog Tryz.f5 [] false w args ∧ laidMetH Tryz.prog Rows.extractOrderIrrelevantRow.laid w) ∧ sizedMet enc Tryz.prog Tryz.f5 (OpenSpec.ofChange Rows.extractOrderIrrelevantSpec) false w args)
      (Rows.extractOrderIrrelevantSpec.post enc Tryz.prog Tryz.f5 false true false false) := by
  refine returnsInHanded_of_change_and (C := Tryz.checked) (X := fun w _ => laidMetH Tryz.prog Rows.extractOrderIrrelevantRow.laid w) (fun _ _ _ hh h => h.of_heap hh) Tryz.own started (by kernel_rfl) Tryz.func5
    (ChangeSpec.witness_shaped (enc := enc) (C := Tryz.checked) (os := os) (X := fun w _ => laidMetH Tryz.prog Rows.extractOrderIrrelevantRow.laid w) false (World.doorLaid Tryz.prog 67 os) #[.slice none 0 0, .slice none 0 0] 8 rfl (World.shaped_of_RefB (by kernel_rfl) (by kernel_rfl)) (by kernel_rfl) (by kernel_rfl) (by kernel_rfl) (extractOrderIrrelevant_door os _)) ?_
  intro W base args ds gs before hval hW _ hsz hL _
  obtain ⟨hA, hsz'⟩ := Tryz.law_reads (s := Rows.extractOrderIrrelevantSpec) rfl hW hsz
  refine (extractOrderIrrelevant_opened H enc W base args ds before hval hA hsz' (Tryz.keysAt (l := Rows.extractOrderIrrelevantRow.laid) (List.mem_of_getElem? (i := 5) rfl) hL (by kernel_rfl))).mono fun e W' ⟨he, hc⟩ => ⟨_, he, ?_⟩
  rw [Tryz.params5] at hA
  obtain ⟨v0, v1, d0, d1, p0, p1, _, rfl, _⟩ := trodAll_two hA
  exact law_post Tryz.laidOut rfl rfl Tryz.underlying4 (by rw [Tryz.params5]; exact Tryz.readable (by kernel_rfl)) ⟨rfl, rfl, rfl⟩ hW hc

theorem extractOrderIrrelevant_row : Rows.ExtractOrderIrrelevantSaid :=
  OpenClaim.holds_of_wide 5 Tryz.f5 rfl rfl rfl rfl rfl rfl rfl ⟨rfl, rfl, rfl, rfl, rfl⟩ rfl rfl rfl rfl rfl (by kernel_rfl) Tryz.func5 (by kernel_rfl)
    (of_decide_eq_true (by kernel_rfl)) (by unfold Func.isWrapper; rw [if_neg (of_decide_eq_false (by kernel_rfl))]; exact ⟨rfl, rfl⟩)
    (fun os started H enc _ => extractOrderIrrelevant_lifted os started H enc)

theorem ExtractOrderIrrelevant_holds : Rows.ExtractOrderIrrelevantCardSaid :=
  Claim7.holds_tied_plain_at .later [] [.data, .data, .data, .sentinel, .sentinel, .widerDeep] true (true, "e1daa420078c2577f9e7183478e0595786e944dff6a4e56afc2f7b4b9f772c91") true
    extractOrderIrrelevant_row (fun _ h => by cases h) (by kernel_rfl) (fun _ h => by cases h) extractOrderIrrelevant_row_tie rfl ⟨rfl, rfl⟩ (by kernel_rfl) rfl
    (fun f fn hf hfn => by
      obtain rfl : f = 5 := Option.some.inj ((show Tryz.prog.funcNamed "paxtar/paxtarlaw21.ExtractOrderIrrelevant" = some 5 by kernel_rfl).symm.trans hf) |>.symm
      obtain rfl : fn = Tryz.f5 := (Option.some.inj (Tryz.func5.symm.trans hfn)).symm
      exact ⟨by kernel_rfl, fun j t ht => by
        rw [Tryz.params5] at ht
        have hm : t ∈ [35, 43] := by simpa using Array.mem_of_getElem? ht
        have hall : ([35, 43].all fun u => !Tryz.prog.wantsStandIn u) = true := by kernel_rfl
        exact (show Tryz.prog.wantsStandIn t = false by simpa using List.all_eq_true.1 hall t hm)⟩)
    (by kernel_rfl)
#print axioms ExtractOrderIrrelevant_holds
end Go.Proofs.YtfhiioopimmahaaGreatDoor
