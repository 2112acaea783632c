/- paxtarlaw19.VfsListIsComplete: the walk. First printed by wip/gen/genlic.py. -/
import Derived.Test.YtoionaeimnmcbaaGreatDoorVPair
namespace Go.Pax
open Go.RowKit
theorem like_lists (σ : Fs) : FsLike σ { σ with lists := σ.lists + 1 } := ⟨rfl, fun _ => ⟨rfl, rfl⟩⟩
theorem noSlash {s : Str} (h : 47 ∉ s) : decide (0 ≤ Lib.indexByte s 47) = false := by
  rw [decide_eq_false_iff_not]
  intro hn
  obtain ⟨o, ho⟩ : ∃ o : Nat, Lib.indexByte s 47 = o := ⟨_, (Int.toNat_of_nonneg hn).symm⟩
  obtain ⟨h1, _⟩ := Lib.indexByte_some ho
  exact h (List.mem_of_getElem? h1)
theorem natL_pos (l : List UInt8) : ∀ x ∈ natL l, 0 ≤ x := fun x hx => by
  unfold natL at hx
  obtain ⟨b, _, rfl⟩ := List.mem_map.1 hx
  omega
end Go.Pax
namespace Go.Proofs.YtoionaeimnmcbaaGreatDoor
open Go.RowKit Go.Pax Go.Shelf
/-- Both file systems, alike. -/
structure Both (w0 w : World) (f : Nat) (O : List Nat) (σ : Fs) (g : Nat) (Q : List Nat) (τ : Fs) (n : Nat) : Prop where
  two : Two w0 w f O σ n g Q τ n
  sim : Sim σ τ
  tidy : Tidy σ
  rot : τ.rot = []
theorem Both.quiet {w0 w w' : World} {f g n : Nat} {O Q : List Nat} {σ τ : Fs} (h : Both w0 w f O σ g Q τ n) (k : Chg [] w w') : Both w0 w' f O σ g Q τ n := ⟨h.two.quiet k, h.sim, h.tidy, h.rot⟩
/-- A row of paths of directories. -/
structure DRow (w0 w : World) (O Q : List Nat) (σ : Fs) (v : Value) (nd : Nat) (D : List Str) : Prop where
  row : w.ownsRow w0.heap.size 9 1 v nd (svn D)
  ne : ∀ x, v.ownBlock = some x → x ∉ O ∧ x ∉ Q
  dir : ∀ d ∈ D, IsDir σ d
theorem DRow.len {w0 w : World} {O Q : List Nat} {σ : Fs} {v : Value} {nd : Nat} {D : List Str} (h : DRow w0 w O Q σ v nd D) : D.length = nd := by have := h.row.1; simpa [svn_length] using this
theorem DRow.quiet {w0 w w' : World} {O Q : List Nat} {σ : Fs} {v : Value} {nd : Nat} {D : List Str} (h : DRow w0 w O Q σ v nd D) (k : Chg [] w w') : DRow w0 w' O Q σ v nd D := ⟨own_chg h.row k (by simp), h.ne, h.dir⟩
/-- Both Options and News. -/
theorem newRot (w0 w : World) (l : List UInt8) (n : Nat) (a : Option Addr) (cap : Nat) (hn : l.length = n) (hl : n ≤ 50) (k : Chg [] w0 w) (B : Nat) (hown : w.ownsRow B 3 1 (.slice a n cap) n (iv (natL l))) :
    Calls Tryz.prog 8 #[.agg #[.int .i64 4, .int .i64 5, .slice a n cap]] w fun e w' => ∃ f O b, e = .returned (.tuple #[.pointer (some ⟨f, 0, none⟩), .int .i64 0]) ∧ Live w0 w' f O (newFs 4 5 (natL l) b) 0 ∧ Chg [] w w' := by
  obtain ⟨hr, _, _⟩ := own_rd2 hown
  refine (liveNew w0 w 4 5 (natL l) a n cap _ k (by simp [natL, hn]) (by omega) (by omega) hr).mono ?_
  rintro e w' ⟨_, h2⟩
  have h0 : newE 4 5 (natL l) = 0 := by
    unfold newE
    rw [if_pos]
    refine ⟨by unfold inOpt; omega, by unfold inOpt; omega, ?_⟩
    by_cases hi : idxN (natL l) 0 < 0
    · exact hi
    · obtain ⟨y, hy, hy2⟩ := (idxN_neg (natL l) 0).1 (by omega)
      have := natL_pos l y hy
      omega
  exact h2 h0
set_option maxRecDepth 100000 in
set_option maxHeartbeats 16000000 in
theorem listComplete (w : World) (ro lo : Option Addr) (rc lc : Nat) (rb : List UInt8) (L : List AAct) (fp : List Nat) (hkeys : KeysAt w) (hrl : rb.length ≤ 140737488355328) (hr : Rd w fp ro (bv rb)) (h : RdAct w fp lo L) (hwf : ∀ y ∈ L, y.wf) (hll : L.length ≤ 140737488355328) :
    Calls Tryz.prog 4 #[.slice ro rb.length rc, .slice lo L.length lc] w fun e w' => e = .returned (.bool true) ∧ Chg [] w w' := by
  have HT := Lib.hid (fun W (k : Chg [] w W) => tooLarge W lo lc L fp (fun i x hx => by
    obtain ⟨ad, a, c, h1, h2, c0, c1, c2, c3, c4, h8, h9⟩ := h i x hx
    exact ⟨ad, a, c, h1, h2, k.cell c0 (by simp), k.cell c1 (by simp), k.cell c2 (by simp), k.cell c3 (by simp), k.cell c4 (by simp), h8, h9.chg k (by simp)⟩) hwf hll)
  have H := Lib.hid h
  have HWF := Lib.hid hwf
  have HKY := Lib.hid hkeys
  have HAL := Lib.hid (fun W (k : Chg [] w W) => alive W (hkeys.chg k (by simp)))
  have HO1 := Lib.hid (fun W (k : Chg [] w W) n (hn : rb.length = n) (hl : n ≤ 50) => options W 3 4 rb n ro rc fp (by omega) (by omega) hn (by omega) (hr.chg k (by simp)))
  have HO2 := Lib.hid (fun W => optsNil W 0 0 (by omega) (by omega))
  have HN2 := Lib.hid (fun W a cap => newNil W W 0 0 a cap (Chg.refl _ _) (by omega) (by omega))
  clear h hwf hkeys hr
  generalize hNR : rb.length = NR at *
  have HNR := Lib.hid hNR
  clear hNR
  by_cases g1 : tooE L = 0
  · have htz := tooE_zero g1
    rw [g1] at HT
    have HTZ := Lib.hid htz
    clear g1 htz
    by_cases g2 : 50 < NR
    · generalize L.length = N at *
      go_enter Tryz.func4, Tryz.ntmps4
      go_wp2_with (first
        | (go_at_call 5; refine (HT.out _ (Chg.refl _ _)).mono ?_; rintro e w1 ⟨rfl, k⟩; have HK1 := Lib.hid k; clear k)
        | (go_at_call 6; refine (HAL.out _ HK1.out).mono ?_; rintro e w4 ⟨rfl, k⟩; have HK4 := Lib.hid (HK1.out.trans k); clear k))
      go_ret
      exact ⟨rfl, HK4.out⟩
    have hnr50 : NR ≤ 50 := by omega
    have HN1 := Lib.hid (fun W a cap B (k : Chg [] w W) (hown : W.ownsRow B 3 1 (.slice a NR cap) NR (iv (natL rb))) => newRot w W rb NR a cap HNR.out hnr50 k B hown)
    have hn40 : L.length ≤ 40 := HTZ.out.1
    generalize hN : L.length = N at *
    have HN := Lib.hid hN
    clear hN
    go_enter Tryz.func4, Tryz.ntmps4
    go_upto_region 4 with (first
      | (go_at_call 5; refine (HT.out _ (Chg.refl _ _)).mono ?_; rintro e w1 ⟨rfl, k⟩; have HK1 := Lib.hid k; clear k)
      | (go_at_call 7; refine (HO1.out _ HK1.out NR rfl hnr50).mono ?_; rintro e w2 ⟨oa, oc, rfl, hown, k⟩; have HK2 := Lib.hid (HK1.out.trans k); have HOW := Lib.hid hown; clear k hown)
      | (go_at_call 8; refine (HN1.out _ _ _ _ HK2.out HOW.out).mono ?_; rintro e w3 ⟨f, O, rf, rfl, hL, _⟩; have HL3 := Lib.hid hL; clear hL))
    go_upto_region 9 with (first
      | (go_at_call 7; refine (HO2.out _).mono ?_; rintro e w4 ⟨pa, pc, rfl, k⟩; have HL4 := Lib.hid (HL3.out.quiet k); clear k)
      | (go_at_call 8; refine (HN2.out _ pa pc).mono ?_; rintro e w5 ⟨g, Q, rg, rfl, hL, _⟩; have HL5 := Lib.hid hL; clear hL))
    have hk5 := HL5.out.chg
    have htw : Two w w5 f O (newFs 4 5 (natL rb) rf) 0 g Q (newFs 1 1 [] rg) 0 := ⟨HL4.out.quiet hk5, ⟨HL5.out.fs, HL5.out.inv, fun x hx => Nat.le_trans HL4.out.chg.size (HL5.out.own x hx), HL4.out.chg.trans hk5⟩, fun x hx hQ => by have := HL4.out.lt x hx; have := HL5.out.own x hQ; omega⟩
    have hk6 : Chg [] w5 (w5.alloc (.cells #[.string ⟨#[]⟩] 9)) := (Chg.refl _ _).alloc _
    have e6 : (w5.alloc (.cells #[.string ⟨#[]⟩] 9)).heap[w5.heap.size]? = some (.cells #[.string ⟨#[]⟩] 9 (0, 0)) := heap_alloc_new _ _
    have hbo : Both w (w5.alloc (.cells #[.string ⟨#[]⟩] 9)) f O (newFs 4 5 (natL rb) rf) g Q (newFs 1 1 [] rg) 0 := ⟨htw.quiet hk6, sim_new _ _ _ _ _ _ _ _, tidy_new _ _ _ _, rfl⟩
    have hdr : DRow w (w5.alloc (.cells #[.string ⟨#[]⟩] 9)) O Q (newFs 4 5 (natL rb) rf) (.slice (some ⟨w5.heap.size, 0, none⟩) 1 1) 1 [[]] := by
      refine ⟨own_mk e6 htw.a.chg.size (Nat.le_refl _) (by unfold maxLen; omega) rfl rfl (fun j hj => ?_), fun x hx => ?_, fun d hd => ?_⟩
      · obtain rfl : j = 0 := by omega
        rfl
      · simp [Value.ownBlock] at hx
        subst hx
        exact ⟨fun hO => by have := htw.a.lt _ hO; omega, fun hQ => by have := htw.b.lt _ hQ; omega⟩
      · simp at hd
        subst hd
        exact ⟨rf, rfl, rfl⟩
    generalize w5.alloc (.cells #[.string ⟨#[]⟩] 9) = W6 at *
    generalize w5.heap.size = g6 at *
    have HB := Lib.hid (And.intro hbo hdr)
    clear hk5 htw hk6 e6 hbo hdr HL5 HL4 HL3 HK1 HK2 HOW HT HO1 HO2 HN1 HN2 hll
    have HDO := Lib.hid (fun W f O σ n g Q τ m a ao dc fq (hL : Two w W f O σ n g Q τ m) hn ht hd hdl hff => twoDo w W a ao dc fq hL hn HKY.out ht hd hdl hff)
    go_loopw [9, 61] (fun v i wr => ∃ k : Nat, k ≤ N ∧ i = .int .i64 k ∧ ∃ O σ Q τ a nd c D, v = .slice a nd c ∧ Both w wr f O σ g Q τ (2 * k) ∧ DRow w wr O Q σ (.slice a nd c) nd D ∧ nd ≤ k + 1) (fun _ i _ => N - (intOf i).toNat)
    case atStart => exact ⟨0, Nat.zero_le _, rfl, O, _, Q, _, _, 1, 1, [[]], rfl, HB.out.1, HB.out.2, Nat.le_refl _⟩
    case round =>
      obtain ⟨k, hk, rfl, O1, σ, Q1, τ, da, nd, dc, D, rfl, hbo, hdr, hnd⟩ := hrel
      have HB1 := Lib.hid (And.intro hbo hdr)
      clear hbo hdr HB
      by_cases hlt : k < N
      · have hkL : k < L.length := by rw [HN.out]; exact hlt
        obtain ⟨ad, a5, c5, rfl, c0, c1, c2, c3, c4, hr5, _⟩ := H.out.at HB1.out.1.two.a.chg k _ (List.getElem?_eq_getElem hkL)
        obtain ⟨fq, hr6, hb6⟩ := hr5.tight
        have hwf := HWF.out _ (List.getElem_mem hkL)
        have heq : doE τ L[k] = doE σ L[k] := (do_sim HB1.out.1.sim _).symm
        have hdf : ∀ W, Chg [] wr W → Calls Tryz.prog 10 #[.pointer (some ⟨f, 0, none⟩), actV L[k] a5 c5] W fun e w' => e = .returned (.int .i64 (doE σ L[k])) ∧ ∃ O2 σ2, ((doE σ L[k] ≠ 0 ∧ σ2 = σ) ∨ (doE σ L[k] = 0 ∧ Next σ (Fresh σ) L[k] σ2)) ∧ Two w w' f O2 σ2 (2 * (k + 1)) g Q1 τ (2 * k) ∧ Kept W w' O1 Q1 O2 Q1 := fun W kk =>
          HDO.out W f O1 σ (2 * k) g Q1 τ (2 * k) L[k] a5 c5 fq (HB1.out.1.two.quiet kk) (by omega) hwf.2.2.2.2 hr6 hwf.2.2.2.1 (fun x hx => (hb6 x hx).2)
        have hdg : ∀ W O2 σ2, Two w W f O2 σ2 (2 * (k + 1)) g Q1 τ (2 * k) → Calls Tryz.prog 10 #[.pointer (some ⟨g, 0, none⟩), actV L[k] a5 c5] W fun e w' => e = .returned (.int .i64 (doE σ L[k])) ∧ ∃ Q2 τ2, ((doE σ L[k] ≠ 0 ∧ τ2 = τ) ∨ (doE σ L[k] = 0 ∧ Next τ (Fresh τ) L[k] τ2)) ∧ Two w w' f O2 σ2 (2 * (k + 1)) g Q2 τ2 (2 * (k + 1)) ∧ Kept W w' O2 Q1 O2 Q2 := fun W O2 σ2 hT => by
          refine (HDO.out W g Q1 τ (2 * k) f O2 σ2 (2 * (k + 1)) L[k] a5 c5 fq hT.symm (by omega) hwf.2.2.2.2 hr6 hwf.2.2.2.1 (fun x hx => (hb6 x hx).2)).mono ?_
          rintro e w' ⟨he, Q2, τ2, hc, ht, hk⟩
          rw [heq] at he hc
          exact ⟨he, Q2, τ2, hc, ht.symm, hk.symm⟩
        have hnx := fun σ2 τ2 => next_two (σ' := σ2) (τ' := τ2) HB1.out.1.sim HB1.out.1.tidy (a := L[k])
        unfold actV at hdf hdg
        have HDFW := Lib.hid hdf
        have HDG := Lib.hid hdg
        have HNX := Lib.hid hnx
        have HPL := Lib.hid hwf.2.2.1
        clear hdf hdg hr5 hr6 hb6 hwf hnx heq
        generalize doE σ L[k] = E at *
        generalize hpp : L[k].path = pp at *
        generalize L[k].data.length = dl at *
        generalize ba L[k].target = T5 at *
        generalize L[k].kind = kd at *
        generalize L[k].mode = md at *
        generalize hP5 : ba pp = P5 at *
        have HPP := Lib.hid hP5
        clear hpp hP5
        go_upto_region 11 with (fail)
        have hk9 : Chg [] wr (wr.alloc (.cells #[.int .i64 kd, .string P5, .int .i64 md, .slice a5 dl c5, .string T5] 40)) := (Chg.refl _ _).alloc _
        have e9 : (wr.alloc (.cells #[.int .i64 kd, .string P5, .int .i64 md, .slice a5 dl c5, .string T5] 40)).heap[wr.heap.size]? = some (.cells #[.int .i64 kd, .string P5, .int .i64 md, .slice a5 dl c5, .string T5] 40 (0, 0)) := heap_alloc_new _ _
        have h9l := lt_of_block e9
        have h9O : wr.heap.size ∉ O1 := fun hm => by have := HB1.out.1.two.a.lt _ hm; omega
        have h9Q : wr.heap.size ∉ Q1 := fun hm => by have := HB1.out.1.two.b.lt _ hm; omega
        generalize wr.alloc (.cells #[.int .i64 kd, .string P5, .int .i64 md, .slice a5 dl c5, .string T5] 40) = W9 at *
        generalize wr.heap.size = g9 at *
        have HDF := Lib.hid (HDFW.out _ hk9.drew)
        have HE9 := Lib.hid (show W9.drew.heap[g9]? = some (.cells #[.int .i64 kd, .string P5, .int .i64 md, .slice a5 dl c5, .string T5] 40 (0, 0)) from e9)
        have HG9 := Lib.hid (And.intro (show g9 < W9.drew.heap.size from h9l) (And.intro h9O (And.intro h9Q trivial)))
        have HB9 := Lib.hid (HB1.out.2.quiet hk9.drew)
        clear hk9 h9l h9O h9Q e9 c0 c1 c2 c3 c4 HDFW
        refine wp_region_held_drew (S := fun q => q.cell? ⟨g9, 0, none⟩ = some (.int .i64 kd) ∧ q.cell? ⟨g9, 1, none⟩ = some (.string P5) ∧ q.cell? ⟨g9, 2, none⟩ = some (.int .i64 md) ∧ q.cell? ⟨g9, 3, none⟩ = some (.slice a5 dl c5) ∧ q.cell? ⟨g9, 4, none⟩ = some (.string T5)) (by kernel_rfl) ?_ (fun hHeld => ?_)
        · exact ⟨cell_heap HE9.out 0 rfl, cell_heap HE9.out 1 rfl, cell_heap HE9.out 2 rfl, cell_heap HE9.out 3 rfl, cell_heap HE9.out 4 rfl⟩
        refine wpAnyH_take (i := 0) (oi := ?oi1) (v := ?v1) ?hi1 (by kernel_rfl) (by kernel_rfl) (by kernel_rfl) ?hQ1 (Or.inl ⟨?hw1, ?hy1⟩) (by assumption) ?hr1
        case hi1 => simp only [List.getElem?_toArray, List.getElem?_cons_zero]; rfl
        case hQ1 => exact fun _ _ _ h => h
        case hw1 => rfl
        case hy1 => intro w hSw; (try dsimp only at hSw); go_simp; (try with_reducible rfl)
        case hr1 =>
        simp only [Act.put, List.setIfInBounds_toArray, List.set_cons_zero, List.set_cons_succ]
        refine wpAnyH_take (i := 1) (oi := ?oi2) (v := ?v2) ?hi2 (by kernel_rfl) (by kernel_rfl) (by kernel_rfl) ?hQ2 (Or.inl ⟨?hw2, ?hy2⟩) (by assumption) ?hr2
        case hi2 => simp only [List.getElem?_toArray, List.getElem?_cons_succ, List.getElem?_cons_zero]; rfl
        case hQ2 => exact fun _ _ _ h => h
        case hw2 => rfl
        case hy2 => intro w hSw; (try dsimp only at hSw); go_simp; (try with_reducible rfl)
        case hr2 =>
        simp only [Act.put, List.setIfInBounds_toArray, List.set_cons_zero, List.set_cons_succ]
        refine wpAnyH_take (i := 3) (oi := ?oi3) (v := ?v3) ?hi3 (by kernel_rfl) (by kernel_rfl) (by kernel_rfl) ?hQ3 (Or.inl ⟨?hw3, ?hy3⟩) (by assumption) ?hr3
        case hi3 => simp only [List.getElem?_toArray, List.getElem?_cons_succ, List.getElem?_cons_zero]; rfl
        case hQ3 => exact fun _ _ _ h => h
        case hw3 => rfl
        case hy3 => intro w hSw; (try dsimp only at hSw); go_simp; (try with_reducible rfl)
        case hr3 =>
        simp only [Act.put, List.setIfInBounds_toArray, List.set_cons_zero, List.set_cons_succ]
        refine wpAnyH_take (i := 4) (oi := ?oi4) (v := ?v4) ?hi4 (by kernel_rfl) (by kernel_rfl) (by kernel_rfl) ?hQ4 (Or.inl ⟨?hw4, ?hy4⟩) (by assumption) ?hr4
        case hi4 => simp only [List.getElem?_toArray, List.getElem?_cons_succ, List.getElem?_cons_zero]; rfl
        case hQ4 => exact fun _ _ _ h => h
        case hw4 => rfl
        case hy4 => intro w hSw; (try dsimp only at hSw); go_simp; (try with_reducible rfl)
        case hr4 =>
        simp only [Act.put, List.setIfInBounds_toArray, List.set_cons_zero, List.set_cons_succ]
        refine wpAnyH_ready (rs := [2]) (by kernel_rfl) (by simp) (AllReadyH.cons (o := ?oc5) ?hc5 (fun K hK => ?hs5) AllReadyH.nil)
        case hc5 => simp only [List.getElem?_toArray, List.getElem?_cons_succ, List.getElem?_cons_zero]; rfl
        case hs5 =>
        rw [if_pos (by rfl)]
        go_simp
        go_at_call 10; refine HDF.out.mono ?_; rintro e w3 ⟨rfl, O2, σ2, hc, ht, hk⟩; have HT3 := Lib.hid (And.intro hc (And.intro ht hk)); have HE3 := Lib.hid ((hk.2 g9 HG9.out.1 HG9.out.2.1 HG9.out.2.2.1).1.trans HE9.out); clear hc ht hk
        go_wp2_with fail
        refine hK.out _ _ ?_ (fun hHeld => ?_)
        · exact ⟨cell_heap HE3.out 0 rfl, cell_heap HE3.out 1 rfl, cell_heap HE3.out 2 rfl, cell_heap HE3.out 3 rfl, cell_heap HE3.out 4 rfl⟩
        clear hK K
        try simp only [Act.put, List.setIfInBounds_toArray, List.set_cons_zero, List.set_cons_succ]
        refine wpAnyH_ready (rs := [5]) (by kernel_rfl) (by simp) (AllReadyH.cons (o := ?oc6) ?hc6 (fun K hK => ?hs6) AllReadyH.nil)
        case hc6 => simp only [List.getElem?_toArray, List.getElem?_cons_succ, List.getElem?_cons_zero]; rfl
        case hs6 =>
        rw [if_pos (by rfl)]
        go_simp
        go_at_call 10; refine (HDG.out _ _ _ HT3.out.2.1).mono ?_; rintro e w4 ⟨rfl, Q2, τ2, hc, ht, hk⟩; have HT4 := Lib.hid (And.intro hc (And.intro ht hk)); have HE4 := Lib.hid ((hk.2 g9 (Nat.lt_of_lt_of_le HG9.out.1 HT3.out.2.2.1) (HT3.out.2.2.2 g9 HG9.out.1 HG9.out.2.1 HG9.out.2.2.1).2.1 HG9.out.2.2.1).1.trans HE3.out); clear hc ht hk
        go_wp2_with fail
        refine hK.out _ _ ?_ (fun hHeld => ?_)
        · exact ⟨cell_heap HE4.out 0 rfl, cell_heap HE4.out 1 rfl, cell_heap HE4.out 2 rfl, cell_heap HE4.out 3 rfl, cell_heap HE4.out 4 rfl⟩
        clear hK K
        try simp only [Act.put, List.setIfInBounds_toArray, List.set_cons_zero, List.set_cons_succ]
        refine wpAnyH_take (i := 6) (oi := ?oi7) (v := ?v7) ?hi7 (by kernel_rfl) (by kernel_rfl) (by kernel_rfl) ?hQ7 (Or.inl ⟨?hw7, ?hy7⟩) (by assumption) ?hr7
        case hi7 => simp only [List.getElem?_toArray, List.getElem?_cons_succ, List.getElem?_cons_zero]; rfl
        case hQ7 => exact fun _ _ _ h => h
        case hw7 => rfl
        case hy7 => intro w hSw; (try dsimp only at hSw); go_simp; (try with_reducible rfl)
        case hr7 =>
        simp only [Act.put, List.setIfInBounds_toArray, List.set_cons_zero, List.set_cons_succ]
        refine wpAnyH_done (by kernel_rfl) ?_ _
        have hcomb : Sim σ2 τ2 ∧ Tidy σ2 ∧ (∀ d, IsDir σ d → IsDir σ2 d) ∧ τ2.rot = [] := by
          rcases HT3.out.1 with ⟨h1, rfl⟩ | ⟨h1, h2⟩
          · rcases HT4.out.1 with ⟨_, rfl⟩ | ⟨h3, _⟩
            · exact ⟨HB1.out.1.sim, HB1.out.1.tidy, fun d hd => hd, HB1.out.1.rot⟩
            · exact absurd h3 h1
          · rcases HT4.out.1 with ⟨h3, _⟩ | ⟨_, h4⟩
            · exact absurd h1 h3
            · obtain ⟨a1, a2, a3, _, a5⟩ := HNX.out σ2 τ2 h1 h2 h4
              exact ⟨a1, a2, a3, by rw [a5]; exact HB1.out.1.rot⟩
        have hkept := HT3.out.2.2.trans HT4.out.2.2
        obtain ⟨hrow4, hne4⟩ := hkept.row HB9.out.row HB9.out.ne
        have HB4 := Lib.hid (show Both w w4 f O2 σ2 g Q2 τ2 (2 * (k + 1)) ∧ DRow w w4 O2 Q2 σ2 (.slice da nd dc) nd D from ⟨⟨HT4.out.2.1, hcomb.1, hcomb.2.1, hcomb.2.2.2⟩, ⟨hrow4, hne4, fun d hd => hcomb.2.2.1 d (HB9.out.dir d hd)⟩⟩)
        have hEE : (E != E) = false := by simp
        have d1 : w4.cell? ⟨g9, 1, none⟩ = some (.string P5) := cell_heap HE4.out 1 rfl
        obtain ⟨k0, m0, i0, l0, s0, t0, u0, y0, hv0, hsp⟩ := lstatV_at σ2 pp
        have hst : Calls Tryz.prog 16 #[.pointer (some ⟨f, 0, none⟩), .string P5] w4 fun e w' => e = .returned (.tuple #[.agg #[.int .i64 k0, .int .i64 m0, .int .i64 i0, .int .i64 l0, .int .i64 s0, .string t0, .int .i64 u0, .int .i64 y0], .int .i64 (stE σ2 pp)]) ∧ Chg [] w4 w' := by
          rw [← HPP.out]
          refine (liveStat w w4 f O2 σ2 _ pp HB4.out.1.two.a).mono ?_
          rintro e w' ⟨he, _, k9⟩
          rw [hv0] at he
          exact ⟨he, k9⟩
        have HST := Lib.hid hst
        have HSP := Lib.hid hsp
        have hstE : stE σ2 pp = 0 → ∃ b, lkF σ2.files pp = some b := fun h => by
          unfold stE at h
          cases hk : lkF σ2.files pp with
          | none => rw [hk] at h; cases h
          | some b => exact ⟨b, rfl⟩
        have HSE := Lib.hid hstE
        clear hcomb hkept hrow4 hne4 hv0 hsp hst hstE HT3 HT4 HNX HB9 HB1 HDF HDG HE3 HE9 hHeld
        generalize stE σ2 pp = es at *
        go_upto_region 14 with (go_at_call 16; refine HST.out.mono ?_; rintro e w5 ⟨rfl, k⟩; have HK5 := Lib.hid (k.alloc (.cells #[.int .i64 k0, .int .i64 m0, .int .i64 i0, .int .i64 l0, .int .i64 s0, .string t0, .int .i64 u0, .int .i64 y0] 52)); clear k)
        have e5 : (w5.alloc (.cells #[.int .i64 k0, .int .i64 m0, .int .i64 i0, .int .i64 l0, .int .i64 s0, .string t0, .int .i64 u0, .int .i64 y0] 52)).heap[w5.heap.size]? = some (.cells #[.int .i64 k0, .int .i64 m0, .int .i64 i0, .int .i64 l0, .int .i64 s0, .string t0, .int .i64 u0, .int .i64 y0] 52 (0, 0)) := heap_alloc_new _ _
        generalize w5.alloc (.cells #[.int .i64 k0, .int .i64 m0, .int .i64 i0, .int .i64 l0, .int .i64 s0, .string t0, .int .i64 u0, .int .i64 y0] 52) = W5 at *
        generalize w5.heap.size = g5 at *
        have c0 : W5.cell? ⟨g5, 0, none⟩ = some (.int .i64 k0) := cell_heap e5 0 rfl
        have d5 : W5.cell? ⟨g9, 1, none⟩ = some (.string P5) := cell_heap (HK5.out.heap HE4.out (by simp)) 1 rfl
        have HB5 := Lib.hid (And.intro (HB4.out.1.quiet HK5.out) (HB4.out.2.quiet HK5.out))
        clear d1 e5 HST
        by_cases hes : ¬ es = 0
        · have hesb : (es == 0) = false := by simpa using hes
          clear hes
          go_wp2_with fail
          go_roundw
          case rel => exact ⟨k + 1, by omega, by go_num, O2, σ2, Q2, τ2, da, nd, dc, D, rfl, HB5.out.1, HB5.out.2, by omega⟩
          case measure => simp [intOf]; omega

        replace hes : es = 0 := Classical.not_not.1 hes
        have hesb : (es == 0) = true := by simpa using hes
        by_cases hk0 : ¬ k0 = 0
        · have hkb : (k0 == 0) = false := by simpa using hk0
          clear hk0
          go_wp2_with fail
          go_roundw
          case rel => exact ⟨k + 1, by omega, by go_num, O2, σ2, Q2, τ2, da, nd, dc, D, rfl, HB5.out.1, HB5.out.2, by omega⟩
          case measure => simp [intOf]; omega

        replace hk0 : k0 = 0 := Classical.not_not.1 hk0
        have hkb : (k0 == 0) = true := by simpa using hk0
        have hdir : IsDir σ2 pp := by
          obtain ⟨b, hb⟩ := HSE.out hes
          exact ⟨b, hb, by rw [← (HSP.out b hb).1]; exact hk0⟩
        have HDIR := Lib.hid hdir
        have hDl := HB5.out.2.len
        obtain ⟨hrd, _, _⟩ := own_rd2 HB5.out.2.row
        have hct : Calls Tryz.prog 17 #[.slice da nd dc, .string P5] W5 fun e w' => e = .returned (.bool (decide (0 ≤ idxS P5 (D.map ba) 0))) ∧ w' = W5 := by
          have := containsS W5 da dc _ (D.map ba) P5 (by rw [List.length_map, hDl]; omega) hrd
          rw [List.length_map, hDl] at this
          exact this
        have HCT := Lib.hid hct
        clear hct hrd hdir hes hk0 HSE HSP
        generalize decide (0 ≤ idxS P5 (D.map ba) 0) = X at *
        cases X with
        | true =>
          go_wp2_with (go_at_call 17; refine HCT.out.mono ?_; rintro e w6 ⟨rfl, hw⟩; obtain rfl := hw.symm)
          go_roundw
          case rel => exact ⟨k + 1, by omega, by go_num, O2, σ2, Q2, τ2, da, nd, dc, D, rfl, HB5.out.1, HB5.out.2, by omega⟩
          case measure => simp [intOf]; omega

        | false =>
          obtain ⟨si, hsi, hsi0, hsi1, hsi2⟩ := info_parts Tryz.vinfoS
          have hke : Chg [] W5 (W5.alloc (.cells #[.string P5] 9)) := (Chg.refl _ _).alloc _
          have hrn : Rd (W5.alloc (.cells #[.string P5] 9)) [W5.heap.size] (some ⟨W5.heap.size, 0, none⟩) [.string P5] := fun j u hu => by
            have hj : j = 0 := by have := (List.getElem?_eq_some_iff.1 hu).1; simp at this; exact this
            subst hj
            simp at hu; subst hu
            exact ⟨_, rfl, by simp, cell_heap (heap_alloc_new _ _) 0 rfl⟩
          have hone : ∀ u ∈ [Value.string P5], u.oneCell' = true := by intro u hu; simp at hu; subst hu; rfl
          have HRN := Lib.hid hrn
          have HRW := Lib.hid (HB5.out.2.quiet hke).row
          have hsz : w.heap.size ≤ (W5.alloc (.cells #[.string P5] 9)).heap.size := (HB5.out.1.quiet hke).two.a.chg.size
          have hnd42 : nd ≤ 42 := by omega
          have HKE := Lib.hid hke
          clear hrn hke
          go_upto_region 16 with (first
            | (go_at_call 17; refine HCT.out.mono ?_; rintro e w6 ⟨rfl, hw⟩; obtain rfl := hw.symm)
            | (at_builtin; refine wpList_append_rd rfl (.tmp 93) (.tmp 96) 44 rfl w.heap.size 9 si (.string ⟨#[]⟩) 16 Tryz.underlying44 hsi hsi0 hsi1 hsi2 rfl (.slice da nd dc) nd (svn D) rfl HRW.out (some ⟨W5.heap.size, 0, none⟩) 1 1 [W5.heap.size] [.string P5] rfl rfl HRN.out hone (by omega) (by unfold maxLen; omega) hsz ?_; intro a7 c7 w7 hown7 hgr7 hat7; have HR7 := Lib.hid (And.intro hown7 (And.intro hgr7 hat7)); clear hown7 hgr7 hat7))
          have hb6 := HB5.out.1.quiet HKE.out
          have hr6 := HB5.out.2.quiet HKE.out
          have hlo : ∀ x, (Value.slice da nd dc).ownBlock = some x → w.heap.size ≤ x := fun x hx => own_block_ge hr6.row hx
          have hc7 : Chg (Value.slice da nd dc).ownBlock.toList (W5.alloc (.cells #[.string P5] 9)) w7 := Chg.of_grown HR7.out.2.1 (fun x hx _ => by simp [hx])
          have hb7 : Both w w7 f O2 σ2 g Q2 τ2 (2 * (k + 1)) := ⟨hb6.two.far hc7 (fun x hx hm => by simp at hm; exact (hr6.ne x hm).1 hx) (fun x hx hm => by simp at hm; exact (hr6.ne x hm).2 hx) (fun x hx => by simp at hx; exact hlo x hx), hb6.sim, hb6.tidy, hb6.rot⟩
          have hd7 : DRow w w7 O2 Q2 σ2 (.slice a7 (nd + 1) c7) (nd + 1) (D ++ [pp]) := by
            refine ⟨?_, fun x hx => ?_, fun d hd => ?_⟩
            · have := HR7.out.1
              rw [show svn D ++ [Value.string P5] = svn (D ++ [pp]) by rw [← HPP.out]; simp [svn, sv]] at this
              exact this
            · rcases HR7.out.2.2 with e | e
              · rw [e] at hx; exact hr6.ne x hx
              · rw [e] at hx
                injection hx with hx
                subst hx
                exact ⟨fun hO => by have := hb6.two.a.lt _ hO; omega, fun hQ => by have := hb6.two.b.lt _ hQ; omega⟩
            · rcases List.mem_append.1 hd with hd | hd
              · exact hr6.dir d hd
              · simp at hd; subst hd; exact HDIR.out
          have HB7 := Lib.hid (And.intro hb7 hd7)
          clear hb6 hr6 hlo hc7 hb7 hd7
          go_wp2_with fail
          go_roundw
          case rel => exact ⟨k + 1, by omega, by go_num, O2, σ2, Q2, τ2, a7, nd + 1, c7, D ++ [pp], rfl, HB7.out.1, HB7.out.2, by omega⟩
          case measure => simp [intOf]; omega
      · have hkk : k = N := by omega
        subst hkk
        have hb1 : Both w wr f O1 σ g Q1 τ 100 := ⟨⟨HB1.out.1.two.a.upto (by omega), HB1.out.1.two.b.upto (by omega), HB1.out.1.two.ne⟩, HB1.out.1.sim, HB1.out.1.tidy, HB1.out.1.rot⟩
        have hd1 := HB1.out.2
        have hnd42 : nd ≤ 42 := by omega
        have HB2 := Lib.hid (And.intro hb1 hd1)
        clear hb1 hd1 HB1 HDO H HWF hnd hlt hk
        go_upto_region 18 with (fail)
        go_loopw [101] (fun i wx => ∃ j : Nat, j ≤ nd ∧ i = .int .i64 j ∧ ∃ O σ Q τ, Both w wx f O σ g Q τ (100 + j) ∧ DRow w wx O Q σ (.slice da nd dc) nd D) (fun i _ => nd - (intOf i).toNat)
        case atStart => exact ⟨0, Nat.zero_le _, rfl, O1, σ, Q1, τ, HB2.out.1, HB2.out.2⟩
        case round =>
          obtain ⟨j, hj, rfl, O2, σ2, Q2, τ2, hbo, hdr⟩ := hrel
          have HB := Lib.hid (And.intro hbo hdr)
          clear hbo hdr HB2
          by_cases hlt : j < nd
          · have hDl := HB.out.2.len
            have hjD : j < D.length := by omega
            obtain ⟨b, hlb, hkb⟩ := HB.out.2.dir D[j] (List.getElem_mem hjD)
            obtain ⟨c, hlc⟩ : ∃ c, lkF τ2.files D[j] = some c := by
              cases hc : lkF τ2.files D[j] with
              | none => rw [(HB.out.1.sim.at_ _).2 hc] at hlb; cases hlb
              | some c => exact ⟨c, rfl⟩
            have hnn := HB.out.1.sim.node _ _ _ hlb hlc
            have hkc : (τ2.node c).kind = 0 := by rw [← hnn.1]; exact hkb
            have hsorted := HB.out.1.tidy.sorted _ _ hlb hkb
            have hthere := HB.out.1.tidy.there _ _ hlb hkb
            have hshort := HB.out.1.tidy.short _ _ hlb
            have hnl : (σ2.node b).names.length ≤ 100 + j := HB.out.1.two.a.inv.names _ _ (lkF_mem hlb)
            obtain ⟨hrd, _, _⟩ := own_rd2 HB.out.2.row
            obtain ⟨ad, rfl, _, hcell⟩ := hrd j (.string (ba D[j])) (by unfold svn; rw [sv_get _ _ (by simpa using hjD)]; simp)
            have hlf := twoList w wr D[j] HB.out.1.two (by omega) hlb hkb
            have hlg : ∀ W O3 σ3, Two w W f O3 σ3 (100 + j + 1) g Q2 τ2 (100 + j) → Calls Tryz.prog 13 #[.pointer (some ⟨g, 0, none⟩), .string (ba D[j])] W fun e w' => ∃ Q3 ao c, e = .returned (.tuple #[.slice ao (σ2.node b).names.length c, .int .i64 0]) ∧ w'.ownsRow W.heap.size 9 1 (.slice ao (σ2.node b).names.length c) (σ2.node b).names.length (svn (σ2.node b).names) ∧
                Two w w' f O3 σ3 (100 + j + 1) g Q3 { τ2 with lists := τ2.lists + 1 } (100 + j + 1) ∧ Kept W w' O3 Q2 O3 Q3 ∧ (∀ x, (Value.slice ao (σ2.node b).names.length c).ownBlock = some x → x ∉ O3 ∧ x ∉ Q3) := fun W O3 σ3 hT => by
              refine (twoList w W D[j] hT.symm (by omega) hlc hkc).mono ?_
              rintro e w' ⟨Q3, ao, cc, he, hown, ht, hk, hne⟩
              rw [listed_plain _ _ HB.out.1.rot, ← hnn.2] at hown
              rw [← hnn.2] at he hne
              exact ⟨Q3, ao, cc, he, hown, ht.symm, hk.symm, fun x hx => (hne x hx).symm⟩
            have hperm := listed_perm σ2 (σ2.node b).names
            have hsrt := sort_of_perm hperm hsorted
            have HSO := Lib.hid (And.intro hsorted (And.intro hthere (And.intro hshort hsrt)))
            have HLF := Lib.hid hlf
            have HLG := Lib.hid hlg
            have HSM := Lib.hid (And.intro HB.out.1.sim (And.intro HB.out.1.tidy HB.out.1.rot))
            clear hlf hlg hperm hsrt hsorted hthere hshort hrd hnn hkc hlc hlb hkb
            generalize hLL : listed σ2 (σ2.node b).names = LL at *
            generalize hNM : (σ2.node b).names = NM at *
            clear hLL hNM
            generalize hd0 : D[j] = d at *
            clear hd0
            generalize hNL : NM.length = NL at *
            have HNL := Lib.hid hNL
            clear hNL
            generalize hPd : ba d = Pd at *
            have HPd := Lib.hid hPd
            clear hPd
            go_upto_region 21 with (go_at_call 13; refine HLF.out.mono ?_; rintro e w2 ⟨O3, xa, xc, rfl, hown, ht, hk, hne⟩; have H2 := Lib.hid (And.intro hown (And.intro ht (And.intro hk hne))); clear hown ht hk hne)
            go_upto_region 22 with (go_at_call 13; refine (HLG.out _ _ _ H2.out.2.1).mono ?_; rintro e w3 ⟨Q3, ya, yc, rfl, hown, ht, hk, hne⟩; have H3 := Lib.hid (And.intro hown (And.intro ht (And.intro hk hne))); clear hown ht hk hne)
            obtain ⟨si, hsi, hsi0, hsi1, hsi2⟩ := info_parts Tryz.vinfoS
            have hx3 := H3.out.2.2.1.row H2.out.1 H2.out.2.2.2
            have hk13 := H2.out.2.2.1.trans H3.out.2.2.1
            have hd3 := hk13.row HB.out.2.row HB.out.2.ne
            have hdir3 := HB.out.2.dir
            have HX3 := Lib.hid (And.intro hx3 hd3)
            have HDI := Lib.hid hdir3
            have HLEN := Lib.hid (show (svn LL).length = NL by have := H2.out.1.1; rw [Nat.mul_one] at this; exact this)
            have hke : Chg [] w3 (w3.alloc (.cells #[] 9)) := (Chg.refl _ _).alloc _
            obtain ⟨hrx, _, _⟩ := own_rd2 (own_chg hx3.1 hke (by simp))
            have HRX := Lib.hid hrx
            have HONE := Lib.hid (show ∀ u ∈ svn LL, u.oneCell' = true from sv_one _)
            have HKE := Lib.hid hke
            have hnl2 : NL ≤ 142 := by omega
            clear hx3 hk13 hd3 hdir3 hke hrx hnl HLF HLG
            go_upto_region 23 with (at_builtin; refine wpList_append_rd rfl (.tmp 117) (.tmp 118) 44 rfl w3.heap.size 9 si (.string ⟨#[]⟩) 16 Tryz.underlying44 hsi hsi0 hsi1 hsi2 rfl (.slice (some ⟨w3.heap.size, 0, none⟩) 0 0) 0 [] rfl (own_empty (heap_alloc_new _ _) (Nat.le_refl _)) xa NL xc _ (svn LL) rfl HLEN.out HRX.out HONE.out (by omega) (by unfold maxLen; omega) (by simp) ?_; intro a4 c4 w4 hown4 hgr4 hat4; have HK4 := Lib.hid (HKE.out.grown hgr4 (fun x hx hl => by simp [Value.ownBlock] at hx; omega)); have HR4 := Lib.hid hown4; clear hown4 hgr4 hat4)
            simp only [Nat.zero_add, List.nil_append] at HR4
            have hll : LL.length = NL := by have := HLEN.out; simpa [svn_length] using this
            have hsort := sortS w4 w3.heap.size (.slice a4 NL c4) LL NL hll (by omega) HR4.out
            rw [HSO.out.2.2.2] at hsort
            have HSRT := Lib.hid hsort
            clear hsort hll HKE HRX HONE
            go_upto_region 24 with (go_at_call 18; refine HSRT.out.mono ?_; rintro e w5 ⟨rfl, hown, hc⟩; have H5 := Lib.hid (And.intro hown hc); clear hown hc)
            have hlo : ∀ x, (Value.slice a4 NL c4).ownBlock = some x → w3.heap.size ≤ x := fun x hx => own_block_ge HR4.out hx
            have hlt3 : ∀ (v : Value) (B n : Nat) (e : TypeId) (xs : List Value), w3.ownsRow B e 1 v n xs → ∀ x, v.ownBlock = some x → x < w3.heap.size := fun v B n e xs hr x hx => by
              rcases hr.2 with ⟨rfl, _⟩ | ⟨g', cap, cur, rfl, _, hh, _⟩
              · simp [Value.ownBlock] at hx
              · simp [Value.ownBlock] at hx; subst hx; exact lt_of_block hh
            have t4 := H3.out.2.1.quiet HK4.out
            have hy5 := own_keep (own_chg H3.out.1 HK4.out (by simp)) H5.out.2 (fun x hx hm => by
              simp at hx hm
              have := hlt3 _ _ _ _ _ H3.out.1 x hx; have := hlo x hm; omega)
            have hd5 := own_keep (own_chg HX3.out.2.1 HK4.out (by simp)) H5.out.2 (fun x hx hm => by
              simp at hx hm
              have := hlt3 _ _ _ _ _ HX3.out.2.1 x hx; have := hlo x hm; omega)
            have t5 := t4.far H5.out.2 (fun x hx hm => by simp at hm; have := hlo x hm; have := H3.out.2.1.a.lt x hx; omega) (fun x hx hm => by simp at hm; have := hlo x hm; have := H3.out.2.1.b.lt x hx; omega) (fun x hx => by simp at hx; have := hlo x hx; have := H3.out.2.1.a.chg.size; omega)
            have HT5 := Lib.hid (And.intro t5 (And.intro hd5 HX3.out.2.2))
            have heq := equalS w5 _ _ a4 ya NL c4 yc NM (by omega) H5.out.1 hy5
            have HEQ := Lib.hid heq
            obtain ⟨hry, _, _⟩ := own_rd2 hy5
            have HIS := Lib.hid (fun q => isSortedS (w5.drewN q) _ ya NL yc NM HNL.out (by omega) (hry.chg ((Chg.refl [] w5).drewN q) (by simp)) HSO.out.1)
            obtain ⟨hrx5, _, _⟩ := own_rd2 H5.out.1
            have HRX5 := Lib.hid hrx5
            clear hlo hlt3 t4 hy5 hd5 t5 heq hry hrx5 HX3 H3 H2 HK4 HR4 HSRT H5
            go_upto_region 27 with (first
              | (go_at_call 15; refine HEQ.out.mono ?_; rintro e w6 ⟨rfl, q6, hw6⟩; obtain rfl := hw6.symm)
              | (go_at_call 19; refine (HIS.out q6).mono ?_; rintro e w7 ⟨rfl, q7, hw7⟩; obtain rfl := hw7.symm))
            have hk8 : Chg [] w5 (w5.drewN (q6 + q7)) := (Chg.refl _ _).drewN _
            have HW8 := Lib.hid (And.intro (HRX5.out.chg hk8 (by simp)) (And.intro (HT5.out.1.quiet hk8) (And.intro (own_chg HT5.out.2.1 hk8 (by simp)) HT5.out.2.2)))
            clear HRX5 HT5 HEQ HIS hk8 HLEN
            generalize w5.drewN (q6 + q7) = W8 at *
            go_loopw [141] (fun i wx => ∃ q : Nat, q ≤ NL ∧ i = .int .i64 q ∧ Chg [] W8 wx) (fun i _ => NL - (intOf i).toNat)
            case atStart => exact ⟨0, Nat.zero_le _, rfl, Chg.refl _ _⟩
            case round =>
              obtain ⟨q, hq, rfl, hkx⟩ := hrel
              have HKX := Lib.hid hkx
              clear hkx
              by_cases hlq : q < NL
              · have hql : q < NM.length := by rw [HNL.out]; exact hlq
                have hrx := HW8.out.1.chg HKX.out (by simp)
                obtain ⟨xd, rfl, _, hxc⟩ := hrx q (.string (ba NM[q])) (by unfold svn; rw [sv_get _ _ (by simpa using hql)]; simp)
                have hth := HSO.out.2.1 NM[q] (List.getElem_mem hql)
                obtain ⟨hsl, cb, hcb⟩ := hth
                have hjl := join_len d NM[q]
                have hjs := HSM.out.2.1.short _ _ hcb
                have hj := fun W => joinS W d NM[q] (by have := HSO.out.2.2.1; omega) (by omega)
                obtain ⟨k0, m0, i0, l0, s0, t0, u0, y0, hv0, _⟩ := lstatV_at { σ2 with lists := σ2.lists + 1 } (joinP d NM[q])
                have hse : stE { σ2 with lists := σ2.lists + 1 } (joinP d NM[q]) = 0 := by unfold stE; simp only; rw [hcb]
                rw [hse] at hv0
                have hst : Calls Tryz.prog 16 #[.pointer (some ⟨f, 0, none⟩), .string (ba (joinP d NM[q]))] wr fun e w' => e = .returned (.tuple #[.agg #[.int .i64 k0, .int .i64 m0, .int .i64 i0, .int .i64 l0, .int .i64 s0, .string t0, .int .i64 u0, .int .i64 y0], .int .i64 0]) ∧ Chg [] wr w' := by
                  refine (liveStat w wr f O3 _ _ (joinP d NM[q]) (HW8.out.2.1.a.quiet HKX.out)).mono ?_
                  rintro e w' ⟨he, _, k9⟩
                  rw [hv0] at he
                  exact ⟨he, k9⟩
                have hct := fun W => Tryz.strings_Contains_one (ba NM[q]) 47 W
                rw [ba_data, noSlash hsl] at hct
                rw [HPd.out] at hj
                have HSTA := Lib.hid hst
                have HJ := Lib.hid hj
                have HCT := Lib.hid hct
                clear hrx hsl hcb hjl hjs hj hv0 hse hst hct
                by_cases hq0 : q = 0
                · have hqz : ¬ 0 < q := by omega
                  clear hq0
                  generalize ba (joinP d NM[q]) = JP at *
                  generalize ba NM[q] = S at *
                  go_upto_region 30 with (first
                  | (go_at_call 20; refine (HJ.out _).mono ?_; rintro e w8 ⟨rfl, hw⟩; obtain rfl := hw.symm)
                  | (go_at_call 16; refine HSTA.out.mono ?_; rintro e w9 ⟨rfl, k⟩; have HK9 := Lib.hid (k.alloc (.cells #[.int .i64 k0, .int .i64 m0, .int .i64 i0, .int .i64 l0, .int .i64 s0, .string t0, .int .i64 u0, .int .i64 y0] 52)); clear k))
                  go_wp2_with (go_at_call 21; refine (HCT.out _).mono ?_; rintro e w10 ⟨rfl, hw⟩; obtain rfl := hw.symm)
                  go_roundw
                  case rel => exact ⟨q + 1, by omega, by go_num, HKX.out.trans HK9.out⟩
                  case measure => simp [intOf]; omega
                · obtain ⟨r, hqr⟩ : ∃ r, q = r + 1 := ⟨q - 1, by omega⟩
                  have hrl : r < NM.length := by omega
                  have hrx := HW8.out.1.chg HKX.out (by simp)
                  obtain ⟨xd', e', _, hxr⟩ := hrx r (.string (ba NM[r])) (by unfold svn; rw [sv_get _ _ (by simpa using hrl)]; simp)
                  cases e'
                  have hlt : NM[r] < NM[q] := List.pairwise_iff_getElem.1 HSO.out.1 r q hrl hql (by omega)
                  have hneq : (ba NM[r]).toList ≠ (ba NM[q]).toList := by
                    rw [ba_tl, ba_tl]
                    intro e; rw [e] at hlt; exact slt_irrefl _ hlt
                  have hneb : ((ba NM[r]).toList == (ba NM[q]).toList) = false := by simpa using hneq
                  have hr2 : r < NL := by omega
                  have hq1 : 0 < q := by omega
                  have hkw : IntKind.i64.wrap ((q : Int) - 1) = (r : Int) := by rw [show (q : Int) - 1 = r by omega]; exact IntWalk.i64_in _ (by omega)
                  have HQR := Lib.hid hqr
                  clear hrx hqr
                  generalize ba (joinP d NM[q]) = JP at *
                  generalize ba NM[q] = S at *
                  generalize ba NM[r] = S' at *
                  go_upto_region 30 with (first
                  | (go_at_call 20; refine (HJ.out _).mono ?_; rintro e w8 ⟨rfl, hw⟩; obtain rfl := hw.symm)
                  | (go_at_call 16; refine HSTA.out.mono ?_; rintro e w9 ⟨rfl, k⟩; have HK9 := Lib.hid (k.alloc (.cells #[.int .i64 k0, .int .i64 m0, .int .i64 i0, .int .i64 l0, .int .i64 s0, .string t0, .int .i64 u0, .int .i64 y0] 52)); clear k))
                  have hcr9 := HK9.out.cell hxr (by simp)
                  generalize w9.alloc (.cells #[.int .i64 k0, .int .i64 m0, .int .i64 i0, .int .i64 l0, .int .i64 s0, .string t0, .int .i64 u0, .int .i64 y0] 52) = W9' at *
                  have hca : W9'.cell? (xd.add ((q : Int) - 1).toNat) = some (.string S') := by rw [show ((q : Int) - 1).toNat = r by have := HQR.out; omega]; exact hcr9
                  have hcb : W9'.cell? (xd.add (q - 1)) = some (.string S') := by rw [show q - 1 = r by have := HQR.out; omega]; exact hcr9
                  go_wp2_with (go_at_call 21; refine (HCT.out _).mono ?_; rintro e w10 ⟨rfl, hw⟩; obtain rfl := hw.symm)
                  go_roundw
                  case rel => exact ⟨q + 1, by omega, by go_num, HKX.out.trans HK9.out⟩
                  case measure => simp [intOf]; omega
              · have hqq : q = NL := by omega
                subst hqq
                have ht8 := HW8.out.2.1.quiet HKX.out
                have hb8 : Both w wr f O3 { σ2 with lists := σ2.lists + 1 } g Q3 { τ2 with lists := τ2.lists + 1 } (100 + (j + 1)) := ⟨ht8, (like_lists σ2).sim (like_lists τ2) HSM.out.1, (like_lists σ2).tidy HSM.out.2.1, HSM.out.2.2⟩
                have hd8 : DRow w wr O3 Q3 { σ2 with lists := σ2.lists + 1 } (.slice (some ad) nd dc) nd D := ⟨own_chg HW8.out.2.2.1 HKX.out (by simp), HW8.out.2.2.2, fun d hd => (like_lists σ2).isDir (HDI.out d hd)⟩
                have HB8 := Lib.hid (And.intro hb8 hd8)
                clear ht8 hb8 hd8
                go_wp2_with fail
                go_roundw
                case rel => exact ⟨j + 1, by omega, by go_num, O3, _, Q3, _, HB8.out.1, HB8.out.2⟩
                case measure => simp [intOf]; omega
          · have hjj : j = nd := by omega
            subst hjj
            go_wp2_with (go_at_call 6; refine (HAL.out _ HB.out.1.two.a.chg).mono ?_; rintro e w4 ⟨rfl, k⟩; have HK4 := Lib.hid (HB.out.1.two.a.chg.trans k); clear k)
            go_ret
            exact ⟨rfl, HK4.out⟩
  · rw [tooE_one g1] at HT
    generalize L.length = N at *
    go_enter Tryz.func4, Tryz.ntmps4
    go_wp2_with (first
      | (go_at_call 5; refine (HT.out _ (Chg.refl _ _)).mono ?_; rintro e w1 ⟨rfl, k⟩; have HK1 := Lib.hid k; clear k)
      | (go_at_call 6; refine (HAL.out _ HK1.out).mono ?_; rintro e w4 ⟨rfl, k⟩; have HK4 := Lib.hid (HK1.out.trans k); clear k))
    go_ret
    exact ⟨rfl, HK4.out⟩
end Go.Proofs.YtoionaeimnmcbaaGreatDoor
