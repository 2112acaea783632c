/- walk.Walk. slices.IsSorted, slices.BinarySearch's finding, over sorted rows of strings. What stands behind Build: the file system whole; Paths and Walk upon it. Classes of the walked tree, and the numbers of the files. The example of paxtarlaw20: what walking two paths of one file gives. paxtarlaw20: alive. -/
import Derived.Test.YtfhiioopimmahaaGreatDoorPI07
import Derived.Test.YtfhiioopimmahaaGreatDoorPI13
import Derived.Test.YtfhiioopimmahaaGreatDoorPI18
namespace Go.Pax
open Go.RowKit
def cntA (l : List ANode) (c : Int) : Int := ((l.filter fun x => decide (x.cls = c)).length : Int)
theorem cnts_cntA (L : List (ANode × Value)) : (fun c => (lkJ (cnts L) c).getD 0) = cntA (L.map Prod.fst) := by
  funext c
  rw [cnts_at]
  unfold cntOf cntA
  rw [List.filter_map, List.length_map]
  rfl
end Go.Pax
namespace Go.Proofs.YtfhiioopimmahaaGreatDoor
open Go.RowKit Go.Pax Go.Shelf
theorem nodeOf_path (σ : Fs) (p : Str) : (nodeOf σ p).path = p := by
  unfold nodeOf
  split <;> rfl
theorem nodeOf_data (σ : Fs) (p : Str) (hd : ∀ p b, (p, b) ∈ σ.files → (σ.node b).data.length ≤ 140737488355328) : (nodeOf σ p).data.length ≤ 140737488355328 := by
  unfold nodeOf
  split
  · rename_i b hb
    unfold nodeAt
    simp only
    split
    · exact hd _ _ (lkF_mem hb)
    · simp
  · simp
/-- What Walk's list holds. -/
def Walked (w w' : World) (σ : Fs) (V : List Str) (a : Option Addr) (m c : Nat) (L : List (ANode × Value)) : Prop :=
  m = V.length ∧ w'.ownsRow w.heap.size 45 6 (.slice a m c) m (ndcells L) ∧ L.map Prod.fst = (canonS (cntA (V.map (nodeOf σ))) (V.map (nodeOf σ))).2 ∧ ∀ x ∈ L, ∃ fq, RdD w' fq x.2 x.1.data ∧ ∀ y ∈ fq, w.heap.size ≤ y ∧ y < w'.heap.size
set_option maxRecDepth 100000 in
set_option maxHeartbeats 16000000 in
theorem wwalk (w : World) (f : Nat) (O : List Nat) (σ : Fs) (n : Nat) (hf : FsAt w f O σ) (hin : σ.In n) (hn : n ≤ 10000) (ht : Tidy σ) (hr : Rooted n σ) (hd : ∀ p b, (p, b) ∈ σ.files → (σ.node b).data.length ≤ 140737488355328) :
    Calls Tryz.prog 12 #[.pointer (some ⟨f, 0, none⟩)] w fun e w' =>
      (∃ V a m c L k, e = .returned (.tuple #[.slice a m c, .string ⟨#[]⟩, .int .i64 0]) ∧ PathsOf σ V ∧ (∀ v ∈ V, walkE σ v = 0) ∧ Walked w w' σ V a m c L ∧ FsAt w' f O (ls σ k) ∧ k ≤ n + 2 ∧ Chg O w w') ∨
      (∃ V x L k, e = .returned (.tuple #[.slice none 0 0, .string (ba x), .int .i64 (walkE σ x)]) ∧ Visit σ V (x :: L) ∧ (∀ y ∈ L, ¬ y < x) ∧ (∀ v ∈ V, walkE σ v = 0) ∧ walkE σ x ≠ 0 ∧ FsAt w' f O (ls σ k) ∧ k ≤ n + 2 ∧ Chg O w w') := by
  obtain ⟨W1, hW1⟩ : ∃ x, x = w.alloc (.cells #[.pointer (some ⟨f, 0, none⟩)] 27) := ⟨_, rfl⟩
  obtain ⟨W2, hW2⟩ : ∃ x, x = W1.alloc (.cells #[.slice none 0 0] 35) := ⟨_, rfl⟩
  obtain ⟨c1, hc1⟩ : ∃ x, x = w.heap.size := ⟨_, rfl⟩
  obtain ⟨c2, hc2⟩ : ∃ x, x = W1.heap.size := ⟨_, rfl⟩
  have e1 : W1.heap[c1]? = some (.cells #[.pointer (some ⟨f, 0, none⟩)] 27 (0, 0)) := by rw [hW1, hc1]; exact heap_alloc_new _ _
  have k1 : Chg [] w W1 := by rw [hW1]; exact (Chg.refl _ _).alloc _
  have k2 : Chg [] W1 W2 := by rw [hW2]; exact (Chg.refl _ _).alloc _
  have e2 : W2.heap[c2]? = some (.cells #[.slice none 0 0] 35 (0, 0)) := by rw [hW2, hc2]; exact heap_alloc_new _ _
  have e3 := k2.heap e1 (by simp)
  have hO := hf.lt
  have h12 : c1 < c2 := by rw [hc2]; exact lt_of_block e1
  have hv := visitW (JW σ c2) (walkE σ) W2 f O [c2] σ n c1 c2 (JW.stays _ _) (hf.foreign (k1.trans k2) (by simp)) hin hn ht hr ⟨.slice none 0 0, [], [], ⟨e2, ⟨rfl, .inl ⟨rfl, rfl⟩⟩, fun x hx => by simp at hx, fun g hg => by simp at hg⟩, rfl, rfl⟩
    (fun g hg => by simp at hg; subst hg; exact ⟨fun hm => by have := hO _ hm; omega, lt_of_block e2⟩)
    (fun W R V k p b hj hk hfs _ hb hl => walkOne W f O σ k c1 c2 R V p b _ hj hfs hd hb (hk.heap e3 (fun hm => by
      rcases List.mem_append.1 hm with h4 | h4
      · have := hO _ h4; omega
      · simp at h4; omega)) hl)
  have k12 : Chg [] w W2 := k1.trans k2
  have HV := Lib.hid (show Calls Tryz.prog 32 #[.pointer (some ⟨f, 0, none⟩), .func (.func 33) #[] #[.pointer (some ⟨c1, 0, none⟩), .pointer (some ⟨c2, 0, none⟩)]] W2 (fun e w' => ∃ (PS : ByteArray) (EV : Int), e = .returned (.tuple #[.string PS, .int .i64 EV]) ∧ (∃ k, FsAt w' f O (ls σ k) ∧ k ≤ n + 2) ∧ Chg O w w' ∧
      ((PS = ⟨#[]⟩ ∧ EV = 0 ∧ ∃ V R, PathsOf σ V ∧ (∀ v ∈ V, walkE σ v = 0) ∧ JW σ c2 w' R V ∧ V.length ≤ 1000000 ∧ ∀ g ∈ R, g ∉ O ∧ w.heap.size ≤ g ∧ g < w'.heap.size) ∨
       (EV ≠ 0 ∧ ∃ V x L, PS = ba x ∧ EV = walkE σ x ∧ Visit σ V (x :: L) ∧ (∀ y ∈ L, ¬ y < x) ∧ ∀ v ∈ V, walkE σ v = 0))) from by
    have hcO : ∀ w', Chg (O ++ [c2]) W2 w' → Chg O w w' := fun w' hk => k12.trans' hk (by simp) (fun x hx hl => by
      rcases List.mem_append.1 hx with h4 | h4
      · exact h4
      · simp at h4; omega)
    refine hv.mono ?_
    rintro e w' (⟨V, k, R, rfl, h1, h2, h3, h4, h5, h6, h7⟩ | ⟨V, x, L, k, rfl, h1, h2, h3, h4, h5, h6, h7⟩)
    · refine ⟨_, _, rfl, ⟨k, h5, h6⟩, hcO _ h7, .inl ⟨rfl, rfl, V, R, h1, h2, h3, ?_, fun g hg => ⟨(h4 g hg).1, ?_, (h4 g hg).2.2⟩⟩⟩
      · have hnd : V.Nodup := h1.sorted.imp (fun hlt e => by subst e; exact slt_irrefl _ hlt)
        have := List.Nodup.length_le_of_subset hnd (l₂ := σ.files.map Prod.fst) (fun x hx => by
          obtain ⟨_, b, hb⟩ := (h1.mem x).1 hx
          exact List.mem_map.2 ⟨(x, b), lkF_mem hb, rfl⟩)
        have := hr.len
        simp at *
        omega
      · rcases (h4 g hg).2.1 with h8 | h8
        · simp at h8; omega
        · have := k12.size; omega
    · exact ⟨_, _, rfl, ⟨k, h5, h6⟩, hcO _ h7, .inr ⟨h4, V, x, L, rfl, rfl, h1, h2, h3⟩⟩)
  have HD := Lib.hid hd
  have HE := Lib.hid (And.intro (k12.trans (Chg.refl _ _)) (And.intro e3 hc1))
  have hc2' : w.heap.size + 1 = c2 := by rw [hc2, hW1]; simp
  have HWW := Lib.hid (And.intro hW1 (And.intro hW2 (And.intro hc1 hc2')))
  clear hv hd k1 k2 k12 e1 e2 hO h12 hf hin ht hr
  have HEC := Lib.hid e3
  clear e3 hW1 hW2 hc1 hc2 hc2'
  go_enter Tryz.func12, Tryz.ntmps12
  go_upto_region 2 with (fail)
  rw [HWW.out.2.2.2, ← HWW.out.2.2.1, ← HWW.out.1, ← HWW.out.2.1]
  have c1v := cell_heap HEC.out 0 (v := .pointer (some ⟨f, 0, none⟩)) rfl
  go_upto_region 3 with (go_at_call 32; refine HV.out.mono ?_; rintro e w3 ⟨PS, EV, rfl, h1, h2, h3⟩; have H3 := Lib.hid (And.intro h1 (And.intro h2 h3)); clear h1 h2 h3)
  clear c1v
  rcases H3.out.2.2 with ⟨rfl, rfl, V, R, hp, hE, hj, hVl, hR⟩ | ⟨hne, V, x, L, hPS, hEV, hvis, hle, hE⟩
  · obtain ⟨v, ns, fp, hnv, hmap, rfl⟩ := hj
    obtain ⟨ao, cap, rfl, hrd⟩ := ndRd_of_own hnv.row
    have hnl : ns.length = V.length := by have := congrArg List.length hmap; simpa using this
    have hcv := cell_heap hnv.blk 0 (v := .slice ao ns.length cap) rfl
    have hat : ∀ i (hi : i < ns.length), ∃ hj : i < V.length, ns[i].1 = nodeOf σ V[i] := fun i hi => by
      have hj : i < V.length := by omega
      refine ⟨hj, ?_⟩
      have h2 := congrArg (fun l => l[i]?) hmap
      simp only [List.getElem?_map, List.getElem?_eq_getElem hi, List.getElem?_eq_getElem hj, Option.map_some, Option.some.injEq] at h2
      exact h2
    have hcs := canonSorted w3 ao ns.length cap _ fp ns hrd rfl (by omega) (fun x hx => ⟨hnv.data x hx, by
      obtain ⟨i, hi, rfl⟩ := List.mem_iff_getElem.1 hx
      obtain ⟨hj, e⟩ := hat i hi
      rw [e]
      exact nodeOf_data σ _ HD.out⟩) (fun g hg => by
        have := hR g (List.mem_cons_of_mem _ (List.mem_append_left _ hg))
        exact this.2.2) (fun g hg => (hnv.flt g hg).1) (fun i j hi hj hij => by
        obtain ⟨h1, e1⟩ := hat i hi
        obtain ⟨h2, e2⟩ := hat j hj
        rw [e1, e2, nodeOf_path, nodeOf_path]
        exact List.pairwise_iff_getElem.1 hp.sorted i j h1 h2 hij)
    rw [cnts_cntA, hmap] at hcs
    have HCS := Lib.hid hcs
    have HPE := Lib.hid (And.intro hp (And.intro hE hnl))
    clear hcs hp hE hat hrd hmap hR hnv hVl hnl
    generalize ns.length = N at *
    go_wp2_with (go_at_call 35; refine HCS.out.mono ?_; rintro e w5 ⟨L', rfl, h1, h2, h3, h4⟩; have H5 := Lib.hid (And.intro h1 (And.intro h2 (And.intro h3 h4))); clear h1 h2 h3 h4)
    obtain ⟨k, hk1, hk2⟩ := H3.out.1
    have hsz := H3.out.2.1.size
    refine bodyPost_ret (v := .tuple #[.slice (some ⟨w3.heap.size, 0, none⟩) N N, .string ⟨#[]⟩, .int .i64 0]) (by simp [results, Tryz.results12, go_sem]) rfl (.inl ⟨V, some ⟨w3.heap.size, 0, none⟩, N, N, L', k, rfl, HPE.out.1, HPE.out.2.1, ⟨HPE.out.2.2, own_low H5.out.1 hsz, H5.out.2.1, fun x hx => ?_⟩, hk1.foreign H5.out.2.2.2 (by simp), hk2, H3.out.2.1.trans (H5.out.2.2.2.mono (by simp))⟩)
    obtain ⟨fq, h1, h2⟩ := H5.out.2.2.1 x hx
    exact ⟨fq, h1, fun y hy => by have := h2 y hy; omega⟩
  · have HF := Lib.hid (And.intro hPS (And.intro hEV (And.intro hvis (And.intro hle hE))))
    clear hPS hEV hvis hle hE
    go_wp2_with fail
    obtain ⟨k, hk1, hk2⟩ := H3.out.1
    exact bodyPost_ret (v := .tuple #[.slice none 0 0, .string PS, .int .i64 EV]) (by simp [results, Tryz.results12, go_sem]) rfl (.inr ⟨V, x, L, k, by rw [HF.out.1, HF.out.2.1], HF.out.2.2.1, HF.out.2.2.2.1, HF.out.2.2.2.2, by rw [← HF.out.2.1]; exact hne, hk1, hk2, H3.out.2.1⟩)
end Go.Proofs.YtfhiioopimmahaaGreatDoor
namespace Go.Proofs.YtfhiioopimmahaaGreatDoor
open Go.RowKit Go.Pax Go.Shelf
set_option maxHeartbeats 1000000 in
theorem lessS (x y : ByteArray) (w : World) : Calls Tryz.prog 38 #[.string x, .string y] w fun e w' => e = .returned (.bool (Op.bytesLess x.toList y.toList)) ∧ w' = w := by
  go_enter Tryz.func38, Tryz.ntmps38
  go_wp2_with (go_at_call 79; refine (isNaNS _ _).mono ?_; rintro e w' ⟨rfl, rfl⟩)
  go_ret
  exact ⟨by simp, rfl⟩
set_option maxRecDepth 100000 in
set_option maxHeartbeats 4000000 in
/-- A sorted row is found sorted. -/
theorem isSortedS (w : World) (fp : List Nat) (ao : Option Addr) (n c : Nat) (l : List Str) (hn : l.length = n) (hl : n ≤ 140737488355328) (h : Rd w fp ao (svn l)) (hs : l.Pairwise (· < ·)) :
    Calls Tryz.prog 15 #[.slice ao n c] w fun e w' => e = .returned (.bool true) ∧ ∃ q, w' = w.drewN q := by
  have H := Lib.hid h
  have HP := Lib.hid (List.pairwise_iff_getElem.1 hs)
  have HN := Lib.hid hn
  clear h hs hn
  go_enter Tryz.func15, Tryz.ntmps15
  go_wp2_with fail
  go_loopw [3] (fun i wr => ∃ k : Int, i = .int .i64 k ∧ -1 ≤ k ∧ k < n ∧ ∃ q, wr = w.drewN q) (fun i _ => (intOf i + 1).toNat)
  case atStart => exact ⟨(n : Int) - 1, rfl, by omega, by omega, 0, rfl⟩
  case round =>
    obtain ⟨k, rfl, hk1, hk2, q, hwr⟩ := hrel
    have hkq : Chg [] w wr := by rw [hwr]; exact (Chg.refl [] w).drewN q
    have HW := Lib.hid hwr
    clear hwr
    by_cases hlt : 0 < k
    · obtain ⟨m, rfl⟩ : ∃ m : Nat, k = ((m + 1 : Nat) : Int) := ⟨(k - 1).toNat, by omega⟩
      have hmn : m + 1 < n := by omega
      have hm2 : m < n := by omega
      have hml : m + 1 < l.length := by rw [HN.out]; exact hmn
      obtain ⟨ad, rfl, _, hc1⟩ := (H.out.chg hkq (by simp)) (m + 1) (.string (ba l[m + 1])) (by unfold svn; rw [sv_get _ _ (by simpa using hml)]; simp)
      obtain ⟨ad', e, _, hc0⟩ := (H.out.chg hkq (by simp)) m (.string (ba (l[m]'(by omega)))) (by unfold svn; rw [sv_get _ _ (by simpa using (show m < l.length by omega))]; simp)
      cases e
      have hle : Op.bytesLess (ba l[m + 1]).toList (ba (l[m]'(by omega))).toList = false := by
        rw [Go.Proofs.bytesLess_eq, ba_tl, ba_tl, decide_eq_false_iff_not]
        exact fun h => slt_irrefl _ (slt_trans h (HP.out m (m + 1) (by omega) hml (by omega)))
      have HLS := Lib.hid (fun W => lessS (ba l[m + 1]) (ba (l[m]'(by omega))) W)
      rw [hle] at HLS
      clear hle
      generalize ba l[m + 1] = X at *
      generalize ba (l[m]'(by omega)) = Y at *
      have hwr : IntKind.i64.wrap (((m + 1 : Nat) : Int) - 1) = (m : Int) := by rw [show ((m + 1 : Nat) : Int) - 1 = m by omega]; exact IntWalk.i64_in _ (by omega)
      have HM := Lib.hid (show ((m + 1 : Nat) : Int) - 1 = (m : Int) by omega)
      generalize m + 1 = M1 at *
      go_upto_region 4 with (fail)
      go_quiet ((go_at_call 38; exact Calls.quiet_of_same (HLS.out _)))
      go_wp2_with fail
      go_roundw
      case rel => exact ⟨m, rfl, by omega, by omega, _, by rw [HW.out, World.drewN_drewN]⟩
      case measure => simp [intOf]; have := HM.out; omega
    · go_wp2_with fail
      go_ret
      exact ⟨rfl, q, HW.out⟩
/-- In a sorted row the place's own string tells whether it is there. -/
theorem cut_mem (l : List Str) (x : Str) (hs : l.Pairwise (· < ·)) : (bsI (l.map ba) (ba x) < l.length ∧ (l.map ba).getD (bsI (l.map ba) (ba x)) ⟨#[]⟩ = ba x) ↔ x ∈ l := by
  obtain ⟨h0, h1, h2⟩ := bsI_cut l x hs
  generalize bsI (l.map ba) (ba x) = k at *
  constructor
  · rintro ⟨hk, he⟩
    rw [List.getD_eq_getElem?_getD, List.getElem?_map, List.getElem?_eq_getElem hk] at he
    simp only [Option.map_some, Option.getD_some] at he
    have : l[k] = x := by
      have h3 := congrArg ByteArray.toList he
      rw [ba_tl, ba_tl] at h3
      exact h3
    exact this ▸ List.getElem_mem hk
  · intro hx
    obtain ⟨t, ht, rfl⟩ := List.mem_iff_getElem.1 hx
    have htk : k = t := by
      rcases Nat.lt_trichotomy k t with h | h | h
      · have hk : k < l.length := by omega
        exact absurd (List.pairwise_iff_getElem.1 hs k t hk ht h) (h2 k hk (Nat.le_refl _))
      · exact h
      · exact absurd (h1 t ht h) (slt_irrefl _)
    subst htk
    refine ⟨ht, ?_⟩
    rw [List.getD_eq_getElem?_getD, List.getElem?_map, List.getElem?_eq_getElem ht]
    rfl
theorem binS (w : World) (B : Nat) (ao : Option Addr) (c n : Nat) (l : List Str) (x : Str) (hn : l.length = n) (hl : n ≤ 140737488355328) (h : w.ownsRow B 9 1 (.slice ao n c) n (svn l)) (hs : l.Pairwise (· < ·)) :
    Calls Tryz.prog 17 #[.slice ao n c, .string (ba x)] w fun e w' => ∃ i : Nat, e = .returned (.tuple #[.int .i64 i, .bool (decide (x ∈ l))]) ∧ ∃ q, w' = w.drewN q := by
  by_cases h0 : n = 0
  · subst h0
    have : l = [] := List.eq_nil_of_length_eq_zero hn
    subst this
    refine (Any2.slices_BinarySearch_string_empty Tryz.bse ao c (ba x) w).mono ?_
    rintro e w' ⟨rfl, rfl⟩
    exact ⟨0, by simp, 0, rfl⟩
  · rcases h.2 with ⟨_, e⟩ | ⟨g1, _, _, h1', _, _, _⟩
    · exact absurd e h0
    simp only [Value.slice.injEq] at h1'
    obtain ⟨rfl, _, rfl⟩ := h1'
    obtain ⟨cur1, hg1, _, _, _, _, _, hx1⟩ := own_cells h
    refine (Any2.slices_BinarySearch_string Tryz.bse g1 0 n c (fun t => (l.map ba).getD t ⟨#[]⟩) (ba x) w (by omega) (fun j hj => ?_)).mono ?_
    · rw [Nat.zero_add]
      refine cell_heap hg1 j ?_
      rw [hx1 j (by omega)]
      unfold svn
      rw [sv_get _ j (by simp; omega)]
      simp [show j < l.length by omega]
    · rintro e w' ⟨rfl, q, rfl⟩
      have hc := cut_mem l x hs
      unfold bsI at hc
      rw [List.length_map, hn] at hc
      exact ⟨_, by rw [decide_eq_decide.2 hc], q, rfl⟩
end Go.Proofs.YtfhiioopimmahaaGreatDoor
namespace Go.Pax
open Go.RowKit
theorem nodup_of_sorted {V : List Str} (h : V.Pairwise (· < ·)) : V.Nodup := h.imp fun hlt e => by subst e; exact slt_irrefl _ hlt
/-- Rows of the same strings, both sorted, are one. -/
theorem sorted_ext : ∀ {V U : List Str}, V.Pairwise (· < ·) → U.Pairwise (· < ·) → (∀ q, q ∈ V ↔ q ∈ U) → V = U
  | [], [], _, _, _ => rfl
  | [], b :: U, _, _, h => absurd ((h b).2 (by simp)) (by simp)
  | a :: V, [], _, _, h => absurd ((h a).1 (by simp)) (by simp)
  | a :: V, b :: U, h1, h2, h => by
    obtain ⟨p1, p2⟩ := List.pairwise_cons.1 h1
    obtain ⟨q1, q2⟩ := List.pairwise_cons.1 h2
    have hab : a = b := by
      rcases List.mem_cons.1 ((h a).1 (by simp)) with e | e
      · exact e
      · rcases List.mem_cons.1 ((h b).2 (by simp)) with e2 | e2
        · exact e2.symm
        · exact absurd (slt_trans (q1 a e) (p1 b e2)) (slt_irrefl _)
    subst hab
    congr 1
    refine sorted_ext p2 q2 fun q => ⟨fun hq => ?_, fun hq => ?_⟩
    · rcases List.mem_cons.1 ((h q).1 (List.mem_cons_of_mem _ hq)) with e | e
      · subst e; exact absurd (p1 q hq) (slt_irrefl _)
      · exact e
    · rcases List.mem_cons.1 ((h q).2 (List.mem_cons_of_mem _ hq)) with e | e
      · subst e; exact absurd (q1 q hq) (slt_irrefl _)
      · exact e
theorem PathsOf.eq {σ : Fs} {V U : List Str} (h : PathsOf σ V) (h' : PathsOf σ U) : V = U :=
  sorted_ext h.sorted h'.sorted fun q => (h.mem q).trans (h'.mem q).symm
theorem PathsOf.short {σ : Fs} {V : List Str} (h : PathsOf σ V) : V.length ≤ σ.files.length := by
  have := List.Nodup.length_le_of_subset (nodup_of_sorted h.sorted) (l₂ := σ.files.map Prod.fst) (fun x hx => by
    obtain ⟨_, b, hb⟩ := (h.mem x).1 hx
    exact List.mem_map.2 ⟨(x, b), lkF_mem hb, rfl⟩)
  simpa using this
end Go.Pax
namespace Go.Proofs.YtfhiioopimmahaaGreatDoor
open Go.RowKit Go.Pax Go.Shelf
/-- What Walk's list holds at a place. -/
theorem walked_at {σ : Fs} {V : List Str} {L : List (ANode × Value)} (h : L.map Prod.fst = (canonS (cntA (V.map (nodeOf σ))) (V.map (nodeOf σ))).2) :
    L.length = V.length ∧ ∀ j (hj : j < L.length) (hv : j < V.length), L[j].1.path = V[j] ∧ L[j].1.cls = newCls (cntA (V.map (nodeOf σ))) (canonS (cntA (V.map (nodeOf σ))) (V.map (nodeOf σ))).1 (nodeOf σ V[j]).cls := by
  have h3 := (canonS_ok (cntA (V.map (nodeOf σ))) (V.map (nodeOf σ))).2.2.1
  rw [h3] at h
  refine ⟨by have := congrArg List.length h; simpa using this, fun j hj hv => ?_⟩
  have h2 := congrArg (fun l => l[j]?) h
  simp only [List.getElem?_map, List.getElem?_eq_getElem hj, List.getElem?_eq_getElem hv, Option.map_some] at h2
  injection h2 with h2
  rw [h2]
  exact ⟨nodeOf_path _ _, rfl⟩
end Go.Proofs.YtfhiioopimmahaaGreatDoor
namespace Go.Proofs.YtfhiioopimmahaaGreatDoor
open Go.RowKit Go.Pax Go.Shelf
structure Stood (w0 w : World) (f : Nat) (O : List Nat) (σ : Fs) (n : Nat) : Prop where
  live : Live w0 w f O σ n
  tidy : Tidy σ
  firm : Firm n σ
  data : ∀ p b, (p, b) ∈ σ.files → (σ.node b).data.length ≤ 140737488355328
theorem Stood.quiet {w0 w w' : World} {f n : Nat} {O : List Nat} {σ : Fs} (h : Stood w0 w f O σ n) (k : Chg [] w w') : Stood w0 w' f O σ n := ⟨h.live.quiet k, h.tidy, h.firm, h.data⟩
theorem Duo.stood {w0 w : World} {f r n : Nat} {O Q bs : List Nat} {σ : Fs} {ρ : RFs} (h : Duo w0 w f O σ r Q ρ n bs) (hf : Firm n σ) : Stood w0 w f O σ n := by
  refine ⟨h.half.live, h.tidy, hf, fun p b hb => ?_⟩
  rw [h.rel.files] at hb
  obtain ⟨x, hx, he⟩ := List.mem_map.1 hb
  have hi := h.rel.idx x hx
  rw [h.rel.len] at hi
  have hn := h.rel.node x.2 _ (List.getElem?_eq_getElem hi)
  have hb2 : bs.getD x.2 0 = b := by injection he
  rw [hb2] at hn
  rw [hn.2.2.2.2.2.2.2]
  exact h.num.data _ (List.getElem_mem hi)
theorem Stood.listed {w0 w w' : World} {f n k : Nat} {O : List Nat} {σ : Fs} (h : Stood w0 w f O σ n) (hf : FsAt w' f O (ls σ k)) (hk : k ≤ n + 2) (c : Chg O w w') : Stood w0 w' f O (ls σ k) (2 * n + 2) := by
  have hs := h.live.chg.size
  refine ⟨⟨hf, (ls_in h.live.inv k).mono (by omega), h.live.own, h.live.chg.trans' c (by simp) (fun x hx hl => by have := h.live.own x hx; omega)⟩, (ls_like σ k).tidy h.tidy, ⟨((ls_like σ k).rooted h.firm.rooted).mono (by omega), h.firm.dist.alike rfl rfl rfl fun b => ⟨rfl, rfl, rfl⟩⟩, h.data⟩
theorem standPaths (w0 w : World) (f : Nat) (O : List Nat) (σ : Fs) (n : Nat) (h : Stood w0 w f O σ n) (hn : n ≤ 9000) :
    Calls Tryz.prog 14 #[.pointer (some ⟨f, 0, none⟩)] w fun e w' => ∃ V a c k, e = .returned (.tuple #[.slice a V.length c, .int .i64 0]) ∧ PathsOf σ V ∧ V.length ≤ n + 1 ∧ w'.ownsRow w.heap.size 9 1 (.slice a V.length c) V.length (svn V) ∧ (∀ g, (Value.slice a V.length c).ownBlock = some g → g ∉ O) ∧ Stood w0 w' f O (ls σ k) (2 * n + 2) := by
  refine (wpaths w f O σ n h.live.fs h.live.inv (by omega) h.tidy h.firm.rooted).mono ?_
  rintro e w' ⟨V, a, m, c, k, rfl, rfl, hp, hr, hno, hf, hk, hc⟩
  have h1 := hp.short
  have h2 := h.firm.rooted.len
  exact ⟨V, a, c, k, rfl, hp, by omega, hr, hno, h.listed hf hk hc⟩
theorem standWalk (w0 w : World) (f : Nat) (O : List Nat) (σ : Fs) (n : Nat) (h : Stood w0 w f O σ n) (hn : n ≤ 9000) :
    Calls Tryz.prog 12 #[.pointer (some ⟨f, 0, none⟩)] w fun e w' => ∃ a m c P E, e = .returned (.tuple #[.slice a m c, .string P, .int .i64 E]) ∧ (∃ k, Stood w0 w' f O (ls σ k) (2 * n + 2)) ∧ Chg O w w' ∧
      (E = 0 → ∃ V L fp, P = ⟨#[]⟩ ∧ m = V.length ∧ V.length ≤ n + 1 ∧ PathsOf σ V ∧ (∀ v ∈ V, walkE σ v = 0) ∧ NdRd w' fp a L ∧ (∀ g ∈ fp, w.heap.size ≤ g ∧ g < w'.heap.size) ∧ L.map Prod.fst = (canonS (cntA (V.map (nodeOf σ))) (V.map (nodeOf σ))).2) := by
  refine (wwalk w f O σ n h.live.fs h.live.inv (by omega) h.tidy h.firm.rooted h.data).mono ?_
  rintro e w' (⟨V, a, m, c, L, k, rfl, hp, hE, ⟨rfl, hr, hL, _⟩, hf, hk, hc⟩ | ⟨V, x, L, k, rfl, _, _, _, hne, hf, hk, hc⟩)
  · have h1 := hp.short
    have h2 := h.firm.rooted.len
    obtain ⟨ao, c2, he, hrd⟩ := ndRd_of_own hr
    simp only [Value.slice.injEq] at he
    obtain ⟨rfl, _, rfl⟩ := he
    refine ⟨_, _, _, _, _, rfl, ⟨k, h.listed hf hk hc⟩, hc, fun _ => ⟨V, L, _, rfl, rfl, by omega, hp, hE, hrd, fun g hg => ?_, hL⟩⟩
    have hg2 : (Value.slice a V.length c).ownBlock = some g := by simpa using hg
    obtain ⟨c9, hc9⟩ := own_blockS hr hg2
    refine ⟨?_, lt_of_block hc9⟩
    rcases hr.2 with ⟨h8, _⟩ | ⟨g', cap, cur, h8, hb, _⟩
    · simp only [Value.slice.injEq] at h8
      rw [h8.1] at hg2
      simp [Value.ownBlock] at hg2
    · rw [h8] at hg2
      simp [Value.ownBlock] at hg2
      omega
  · exact ⟨_, _, _, _, _, rfl, ⟨k, h.listed hf hk hc⟩, hc, fun e => absurd e hne⟩
end Go.Proofs.YtfhiioopimmahaaGreatDoor
namespace Go.Pax
open Go.RowKit
theorem two_of_nodup {α : Type} {V : List α} (hV : V.Nodup) {P : α → Bool} {p : α} (hp : p ∈ V) (h : P p = true) : 2 ≤ (V.filter P).length ↔ ∃ q, q ∈ V ∧ q ≠ p ∧ P q = true := by
  have hf : (V.filter P).Nodup := hV.sublist List.filter_sublist
  constructor
  · intro h2
    match hm : V.filter P, h2 with
    | a :: b :: t, _ =>
      rw [hm] at hf
      have ha : a ∈ V ∧ P a = true := List.mem_filter.1 (by rw [hm]; simp)
      have hb : b ∈ V ∧ P b = true := List.mem_filter.1 (by rw [hm]; simp)
      have hab : a ≠ b := by
        have := (List.nodup_cons.1 hf).1
        intro e
        exact this (by rw [e]; simp)
      by_cases e : a = p
      · exact ⟨b, hb.1, fun e2 => hab (e.trans e2.symm), hb.2⟩
      · exact ⟨a, ha.1, e, ha.2⟩
  · rintro ⟨q, hq, hne, hQ⟩
    have := List.Nodup.length_le_of_subset (l₁ := [p, q]) (l₂ := V.filter P) (by simp [Ne.symm hne]) (fun x hx => by
      rcases List.mem_cons.1 hx with rfl | hx
      · exact List.mem_filter.2 ⟨hp, h⟩
      · obtain rfl : x = q := by simpa using hx
        exact List.mem_filter.2 ⟨hq, hQ⟩)
    simpa using this
theorem cls_at {σ : Fs} {p : Str} {b : Nat} (h : lkF σ.files p = some b) : (nodeOf σ p).cls = if (σ.node b).kind = 1 then (σ.node b).ino else 0 := by
  unfold nodeOf
  rw [h]
  rfl
end Go.Pax
namespace Go.Proofs.YtfhiioopimmahaaGreatDoor
open Go.RowKit Go.Pax Go.Shelf
theorem cnt_links {σ : Fs} {n : Nat} {V : List Str} (hf : Firm n σ) (hp : PathsOf σ V) {p : Str} {b : Nat} (hb : lkF σ.files p = some b) (hpV : p ∈ V) :
    (¬ ((nodeOf σ p).cls ≤ 0 ∨ cntA (V.map (nodeOf σ)) (nodeOf σ p).cls < 2)) ↔ 2 ≤ (σ.node b).links := by
  have hd := hf.dist
  have hlow := hd.low p b hb
  have key : (nodeOf σ p).cls > 0 → (2 ≤ cntA (V.map (nodeOf σ)) (nodeOf σ p).cls ↔ ∃ q, q ∈ V ∧ q ≠ p ∧ (nodeOf σ q).cls = (nodeOf σ p).cls) := fun _ => by
    have h1 := two_of_nodup (nodup_of_sorted hp.sorted) (P := fun q => decide ((nodeOf σ q).cls = (nodeOf σ p).cls)) hpV (by simp)
    have h2 : cntA (V.map (nodeOf σ)) (nodeOf σ p).cls = ((V.filter fun q => decide ((nodeOf σ q).cls = (nodeOf σ p).cls)).length : Int) := by
      unfold cntA
      rw [List.filter_map, List.length_map]
      rfl
    rw [h2]
    simp only [decide_eq_true_eq] at h1
    rw [← h1]
    omega
  constructor
  · intro h
    have h1 : (nodeOf σ p).cls > 0 := by omega
    obtain ⟨q, hq, hne, he⟩ := (key h1).1 (by omega)
    obtain ⟨_, c, hc⟩ := (hp.mem q).1 hq
    rw [cls_at hb] at he h1
    rw [cls_at hc] at he
    have hi : (σ.node c).ino = (σ.node b).ino := by
      split at he
      · split at he
        · exact he
        · omega
      · split at he <;> omega
    obtain rfl := hd.inj _ _ _ _ hc hb hi
    exact (hd.many p c hb).2 ⟨q, hne, hc⟩
  · intro h
    obtain ⟨q, hne, hq⟩ := (hd.many p b hb).1 h
    have hk := hd.sole p q b hb hq (fun e => hne e.symm)
    have hc : (nodeOf σ p).cls = (σ.node b).ino := by rw [cls_at hb, if_pos hk]
    have hq0 : q ≠ [] := by
      rintro rfl
      obtain ⟨r, h1, h2⟩ := hf.rooted.root
      rw [hq] at h1
      injection h1 with h1
      subst h1
      omega
    have h1 : (nodeOf σ p).cls > 0 := by omega
    have := (key h1).2 ⟨q, (hp.mem q).2 ⟨hq0, b, hq⟩, hne, by rw [cls_at hq, if_pos hk, hc]⟩
    omega
/-- What the law asks of a walked tree. -/
theorem cls_law {σ : Fs} {n : Nat} {V : List Str} (hf : Firm n σ) (hp : PathsOf σ V) {p q : Str} {b c : Nat} (hb : lkF σ.files p = some b) (hc : lkF σ.files q = some c) (hpV : p ∈ V) (hqV : q ∈ V) (hne : p ≠ q) :
    ((0 < newCls (cntA (V.map (nodeOf σ))) (canonS (cntA (V.map (nodeOf σ))) (V.map (nodeOf σ))).1 (nodeOf σ p).cls) ↔ 2 ≤ (σ.node b).links) ∧
    ((0 < newCls (cntA (V.map (nodeOf σ))) (canonS (cntA (V.map (nodeOf σ))) (V.map (nodeOf σ))).1 (nodeOf σ p).cls ∧ newCls (cntA (V.map (nodeOf σ))) (canonS (cntA (V.map (nodeOf σ))) (V.map (nodeOf σ))).1 (nodeOf σ p).cls = newCls (cntA (V.map (nodeOf σ))) (canonS (cntA (V.map (nodeOf σ))) (V.map (nodeOf σ))).1 (nodeOf σ q).cls) ↔ (σ.node b).ino = (σ.node c).ino) := by
  obtain ⟨h1, _, _, h4⟩ := canonS_ok (cntA (V.map (nodeOf σ))) (V.map (nodeOf σ))
  obtain ⟨e1, e2⟩ := newCls_eq h1 (h4 _ (List.mem_map_of_mem hpV)) (h4 _ (List.mem_map_of_mem hqV))
  have kp := cnt_links hf hp hb hpV
  have hd := hf.dist
  refine ⟨e1.trans kp, e2.trans ⟨fun ⟨h5, h6⟩ => ?_, fun h5 => ?_⟩⟩
  · have h7 : ¬ (nodeOf σ p).cls ≤ 0 := fun h => h5 (.inl h)
    rw [cls_at hb, cls_at hc] at h6
    rw [cls_at hb] at h7
    split at h7
    · rename_i hk
      rw [if_pos hk] at h6
      split at h6
      · exact h6
      · omega
    · omega
  · obtain rfl := hd.inj _ _ _ _ hb hc h5
    have hk := hd.sole p q b hb hc hne
    refine ⟨kp.2 ((hd.many p b hb).2 ⟨q, fun e => hne e.symm, hc⟩), ?_⟩
    rw [cls_at hb, cls_at hc]
theorem cls_one {σ : Fs} {n : Nat} {V : List Str} (hf : Firm n σ) (hp : PathsOf σ V) {p : Str} {b : Nat} (hb : lkF σ.files p = some b) (hpV : p ∈ V) :
    (0 < newCls (cntA (V.map (nodeOf σ))) (canonS (cntA (V.map (nodeOf σ))) (V.map (nodeOf σ))).1 (nodeOf σ p).cls) ↔ 2 ≤ (σ.node b).links := by
  obtain ⟨h1, _, _, h4⟩ := canonS_ok (cntA (V.map (nodeOf σ))) (V.map (nodeOf σ))
  exact (newCls_eq h1 (h4 _ (List.mem_map_of_mem hpV)) (h4 _ (List.mem_map_of_mem hpV))).1.trans (cnt_links hf hp hb hpV)
end Go.Proofs.YtfhiioopimmahaaGreatDoor
namespace Go.Proofs.YtfhiioopimmahaaGreatDoor
open Go.RowKit Go.Pax Go.Shelf
theorem two_paths {V : List Str} {x y : Str} (hs : V.Pairwise (· < ·)) (hxy : x < y) (hm : ∀ q, q ∈ V ↔ (q = x ∨ q = y)) : V = [x, y] := by
  have hx := (hm x).2 (.inl rfl)
  have hy := (hm y).2 (.inr rfl)
  match V, hs, hm, hx, hy with
  | [], _, _, hx, _ => simp at hx
  | [a], _, _, hx, hy =>
    simp at hx hy
    subst hx
    exact absurd (hy ▸ hxy) (slt_irrefl _)
  | a :: b :: t, hs, hm, _, _ =>
    have hp := List.pairwise_cons.1 hs
    have hp2 := List.pairwise_cons.1 hp.2
    have hab := hp.1 b (by simp)
    have ha : a = x := by
      rcases (hm a).1 (by simp) with e | e
      · exact e
      · rcases (hm b).1 (by simp) with e2 | e2
        · subst e e2; exact absurd hab (nlt_of hxy)
        · subst e e2; exact absurd hab (slt_irrefl _)
    have hb : b = y := by
      rcases (hm b).1 (by simp) with e2 | e2
      · subst e2; subst ha; exact absurd hab (slt_irrefl _)
      · exact e2
    have ht : t = [] := by
      cases t with
      | nil => rfl
      | cons c t =>
        have hbc := hp2.1 c (by simp)
        have hac := hp.1 c (by simp)
        rcases (hm c).1 (by simp) with e | e
        · subst e; subst ha; exact absurd hac (slt_irrefl _)
        · subst e; subst hb; exact absurd hbc (slt_irrefl _)
    rw [ha, hb, ht]
theorem alive_node {r b : Nat} (hb : r ≠ b) : (linked (aliveFs r b) pB r b).node b = { newNd (newFs 1 1 [] r) 1 420 [] [] with links := 2 } := by
  show (if b = r then _ else if b = b then ({ (aliveFs r b).node b with links := ((aliveFs r b).node b).links + 1 } : Nd) else _) = _
  rw [if_neg (Ne.symm hb), if_pos rfl]
  have : (aliveFs r b).node b = newNd (newFs 1 1 [] r) 1 420 [] [] := by
    show (if b = r then _ else if b = b then newNd (newFs 1 1 [] r) 1 420 [] [] else _) = _
    rw [if_neg (Ne.symm hb), if_pos rfl]
  rw [this]
  rfl
theorem alive_lk {r b : Nat} (q : Str) : lkF (linked (aliveFs r b) pB r b).files q = if q = [] then some r else if q = pA then some b else if q = pB then some b else none := by
  show lkF [([], r), (pA, b), (pB, b)] q = _
  simp only [lkF]
theorem alive_paths {r b : Nat} {V : List Str} (h : PathsOf (linked (aliveFs r b) pB r b) V) : V = [pA, pB] := by
  refine two_paths h.sorted (by decide) (fun q => ?_)
  rw [h.mem, alive_lk]
  constructor
  · rintro ⟨h1, c, h2⟩
    rw [if_neg h1] at h2
    by_cases h3 : q = pA
    · exact .inl h3
    · rw [if_neg h3] at h2
      by_cases h4 : q = pB
      · exact .inr h4
      · rw [if_neg h4] at h2; cases h2
  · rintro (rfl | rfl)
    · exact ⟨by decide, b, by rw [if_neg (by decide), if_pos rfl]⟩
    · exact ⟨by decide, b, by rw [if_neg (by decide), if_neg (by decide), if_pos rfl]⟩
theorem alive_walkE {r b : Nat} (hb : r ≠ b) {q : Str} (hq : q ≠ []) : walkE (linked (aliveFs r b) pB r b) q = 0 := by
  unfold walkE
  rw [alive_lk, if_neg hq]
  by_cases h1 : q = pA
  · rw [if_pos h1]; simp only; rw [alive_node hb]; rfl
  · rw [if_neg h1]
    by_cases h2 : q = pB
    · rw [if_pos h2]; simp only; rw [alive_node hb]; rfl
    · rw [if_neg h2]
theorem alive_classes {r b : Nat} (hb : r ≠ b) : ∀ x ∈ (canonS (cntA ([pA, pB].map (nodeOf (linked (aliveFs r b) pB r b)))) ([pA, pB].map (nodeOf (linked (aliveFs r b) pB r b)))).2, x.cls = 1 := by
  have hn : ∀ q, q = pA ∨ q = pB → nodeOf (linked (aliveFs r b) pB r b) q = ⟨1, q, 420, [], [], 2⟩ := fun q hq => by
    unfold nodeOf
    rw [alive_lk]
    rcases hq with rfl | rfl
    · rw [if_neg (by decide), if_pos rfl]; simp only; rw [alive_node hb]; rfl
    · rw [if_neg (by decide), if_neg (by decide), if_pos rfl]; simp only; rw [alive_node hb]; rfl
  simp only [List.map_cons, List.map_nil]
  rw [hn pA (.inl rfl), hn pB (.inr rfl)]
  intro x hx
  have : (canonS (cntA [⟨1, pA, 420, [], [], 2⟩, ⟨1, pB, 420, [], [], 2⟩]) [⟨1, pA, 420, [], [], 2⟩, ⟨1, pB, 420, [], [], 2⟩]).2 = [⟨1, pA, 420, [], [], 1⟩, ⟨1, pB, 420, [], [], 1⟩] := by
    simp [canonS, canonStep, numStep, cntA, lkJ, upJ]
  rw [this] at hx
  simp at hx
  rcases hx with rfl | rfl <;> rfl
end Go.Proofs.YtfhiioopimmahaaGreatDoor
namespace Go.Proofs.YtfhiioopimmahaaGreatDoor
open Go.RowKit Go.Pax Go.Shelf
theorem alive_do {r : Nat} : doE (newFs 1 1 [] r) ⟨1, pA, 420, [], []⟩ = 0 := by
  unfold doE
  rw [if_pos (by simp)]
  exact alive_make r
theorem alive_do2 {r b : Nat} (hb : r ≠ b) : doE (aliveFs r b) ⟨4, pB, 0, [], pA⟩ = 0 := by
  unfold doE
  rw [if_neg (by simp), if_pos rfl]
  exact (alive_link hb).1
theorem aliveWalk (w0 w : World) (f : Nat) (O : List Nat) (r b : Nat) (hb : r ≠ b) (h : Live w0 w f O (linked (aliveFs r b) pB r b) 4) (ht : Tidy (linked (aliveFs r b) pB r b)) (hr : Rooted 4 (linked (aliveFs r b) pB r b)) :
    Calls Tryz.prog 12 #[.pointer (some ⟨f, 0, none⟩)] w fun e w' => ∃ g c, e = .returned (.tuple #[.slice (some ⟨g, 0, none⟩) 2 c, .string ⟨#[]⟩, .int .i64 0]) ∧
      w'.cell? ⟨g, 5, none⟩ = some (.int .i64 1) ∧ w'.cell? ⟨g, 6 + 5, none⟩ = some (.int .i64 1) ∧ Chg [] w0 w' := by
  refine (wwalk w f O (linked (aliveFs r b) pB r b) 4 h.fs h.inv (by omega) ht hr (fun p c hp => ?_)).mono ?_
  · have hm : (p, c) ∈ [(([] : Str), r), (pA, b), (pB, b)] := hp
    simp at hm
    have hbd : ((linked (aliveFs r b) pB r b).node b).data = [] := by rw [alive_node hb]; rfl
    have hrd : ((linked (aliveFs r b) pB r b).node r).data = [] := by
      show (if r = r then _ else _ : Nd).data = []
      rw [if_pos rfl]
      show ((if r = b then ({ (aliveFs r b).node b with links := ((aliveFs r b).node b).links + 1 } : Nd) else (aliveFs r b).node r)).data = []
      rw [if_neg hb]
      show (if r = r then _ else _ : Nd).data = []
      rw [if_pos rfl]
      show ((if r = b then newNd (newFs 1 1 [] r) 1 420 [] [] else (newFs 1 1 [] r).node r)).data = []
      rw [if_neg hb]
      rfl
    rcases hm with ⟨_, rfl⟩ | ⟨_, rfl⟩ | ⟨_, rfl⟩
    · rw [hrd]; simp
    · rw [hbd]; simp
    · rw [hbd]; simp
  · rintro e w' (⟨V, a, m, c, L, k, rfl, hp, _, ⟨hm, hown, hL, _⟩, _, _, hk⟩ | ⟨V, x, L, k, _, hv, _, _, hne, _⟩)
    · obtain rfl := alive_paths hp
      obtain rfl : m = 2 := hm
      have hcl := alive_classes hb
      rw [← hL] at hcl
      have hll : L.length = 2 := by have := hown.1; rw [ndcells_length] at this; omega
      rcases hown.2 with ⟨hv, h0⟩ | ⟨g, cap, cur, hv, hbb, hg, _⟩
      · cases h0
      simp only [Value.slice.injEq] at hv
      obtain ⟨rfl, _, rfl⟩ := hv
      have hc : ∀ i (hi : i < L.length), w'.cell? ⟨g, i * 6 + 5, none⟩ = some (.int .i64 1) := fun i hi => by
        have h1 := hown.cells (g := g) rfl (i * 6 + 5) (.int .i64 L[i].1.cls) (by rw [ndcells_get L i hi 5 (by omega)]; rfl)
        rw [add_at] at h1
        rw [h1, hcl L[i].1 (List.mem_map.2 ⟨L[i], List.getElem_mem hi, rfl⟩)]
      exact ⟨g, c, rfl, hc 0 (by omega), hc 1 (by omega), h.chg.trans' hk (by simp) (fun x hx hl => by have := h.own x hx; omega)⟩
    · exact absurd (alive_walkE hb (hv.mem x (.inr (by simp))).1) hne
set_option maxRecDepth 100000 in
set_option maxHeartbeats 8000000 in
theorem alive20 (w : World) (hkeys : KeysAt w) : Calls Tryz.prog 9 #[] w fun e w' => e = .returned (.bool true) ∧ Chg [] w w' := by
  have HN := Lib.hid (fun W k => liveNew w W 1 1 [] none 0 0 [] k rfl (by omega) (by omega) (Rd.nil _ _ _))
  have hE0 : newE 1 1 [] = 0 := by decide
  have hc : ∀ W f O r, Live w W f O (newFs 1 1 [] r) 0 → Calls Tryz.prog 27 #[.pointer (some ⟨f, 0, none⟩), .string ⟨#[97]⟩, .int .i64 420, .slice none 0 0] W fun e w' => e = .returned (.int .i64 0) ∧ ∃ O' b, r ≠ b ∧ Live w w' f O' (aliveFs r b) 2 ∧ Tidy (aliveFs r b) ∧ Rooted 1 (aliveFs r b) := by
    intro W f O r H
    refine (liveCreate w W f O _ 0 pA 420 [] none 0 [] H (by omega) hkeys (Rd.nil _ _ _) (by simp) (by simp)).mono ?_
    rintro e w' ⟨he, _, h2⟩
    rw [alive_make] at he h2
    obtain ⟨O', σ', hN, hL⟩ := h2 rfl
    have hT := next_tidy (tidy_new 1 1 [] r) alive_do hN
    have hR := next_rooted (rooted_new 1 1 [] r) alive_do hN
    obtain ⟨b, hb, rfl⟩ := alive_next hN
    exact ⟨he, O', b, hb, hL, hT, hR⟩
  have HC := Lib.hid hc
  have hl : ∀ W f O r b, r ≠ b → Tidy (aliveFs r b) → Rooted 1 (aliveFs r b) → Live w W f O (aliveFs r b) 2 → Calls Tryz.prog 28 #[.pointer (some ⟨f, 0, none⟩), .string ⟨#[98]⟩, .string ⟨#[97]⟩] W fun e w' => e = .returned (.int .i64 0) ∧ ∃ O', Live w w' f O' (linked (aliveFs r b) pB r b) 4 ∧ Tidy (linked (aliveFs r b) pB r b) ∧ Rooted 4 (linked (aliveFs r b) pB r b) := by
    intro W f O r b hb hT hR H
    refine (liveLink w W f O _ 2 pB pA H (by omega)).mono ?_
    rintro e w' ⟨he, _, h2⟩
    rw [(alive_link hb).1] at he h2
    obtain ⟨O', σ', hN, hL⟩ := h2 rfl
    have hT2 := next_tidy hT (alive_do2 hb) hN
    have hR2 := next_rooted hR (alive_do2 hb) hN
    obtain rfl := alive_next2 hb hN
    exact ⟨he, O', hL, hT2, hR2.mono (by omega)⟩
  have HL := Lib.hid hl
  have HWK := Lib.hid (fun W f O r b hb hL hT hR => aliveWalk w W f O r b hb hL hT hR)
  clear hc hl hkeys
  go_enter Tryz.func9, Tryz.ntmps9
  go_upto_region 2 with (go_at_call 20; refine (HN.out _ (Chg.refl _ _)).mono ?_; rintro e w1 ⟨_, h⟩; obtain ⟨f, O, r, rfl, hL, _⟩ := h hE0; have H1 := Lib.hid hL; clear h hL)
  clear hE0
  go_upto_region 4 with (first
    | (go_at_call 27; refine (HC.out _ _ _ _ H1.out).mono ?_; rintro e w2 ⟨rfl, O2, b, hb, hL, hT, hR⟩; have H2 := Lib.hid (And.intro hb (And.intro hL (And.intro hT hR))); clear hb hL hT hR)
    | (go_at_call 28; refine (HL.out _ _ _ _ _ H2.out.1 H2.out.2.2.1 H2.out.2.2.2 H2.out.2.1).mono ?_; rintro e w3 ⟨rfl, O3, hL, hT, hR⟩; have H3 := Lib.hid (And.intro hL (And.intro hT hR)); clear hL hT hR))
  go_wp2_with (go_at_call 12; refine (HWK.out _ _ _ _ _ H2.out.1 H3.out.1 H3.out.2.1 H3.out.2.2).mono ?_; rintro e w4 ⟨g, c, rfl, d0, d1, hk⟩; have H4 := Lib.hid hk; clear hk)
  go_ret
  exact ⟨rfl, H4.out⟩
end Go.Proofs.YtfhiioopimmahaaGreatDoor
