/- paxtarlaw19.VfsCreateRules. -/
import Derived.Test.YtoionaeimnmcbaaDoorVOptN
import Derived.Test.YtoionaeimnmcbaaDoorVAlive
namespace Go.Pax
open Go.RowKit
theorem Rd.tight {w : World} {fp : List Nat} {ao : Option Addr} {xs : List Value} (h : Rd w fp ao xs) : ∃ fq, Rd w fq ao xs ∧ ∀ k ∈ fq, k ∈ fp ∧ k < w.heap.size := by
  cases xs with
  | nil => exact ⟨[], Rd.nil _ _ _, by simp⟩
  | cons x l =>
    obtain ⟨a, ha, hb, hc⟩ := h 0 x rfl
    subst ha
    have hlt := World.block_lt_of_cell? w _ hc
    rw [block_add] at hlt
    refine ⟨[a.block], fun j u hu => ?_, by simp; exact ⟨hb, hlt⟩⟩
    obtain ⟨a', ha', hb', hc'⟩ := h j u hu
    cases ha'
    exact ⟨_, rfl, by simp, hc'⟩
theorem Fs.In.upto {n m : Nat} {σ : Fs} (h : σ.In n) (hm : n ≤ m) : σ.In m := h.mono hm
theorem tooE_one {L : List AAct} (h : ¬ tooE L = 0) : tooE L = 1 := by
  unfold tooE at h ⊢
  split
  · rfl
  · rename_i h1; rw [if_neg h1] at h; exact absurd rfl h
theorem tooE_zero {L : List AAct} (h : tooE L = 0) : L.length ≤ 40 ∧ actsLen L ≤ 20000 := by
  unfold tooE at h
  split at h
  · cases h
  · omega
/-- The two words of an Lstat, on their own. -/
def stE (σ : Fs) (p : Str) : Int := match lkF σ.files p with
  | some _ => 0
  | none => 19
/-- What Mkdir answers, in the words of two Lstats and a Check. -/
theorem makeE_dir (σ : Fs) (p : Str) (kq : Int) (hk : ∀ b, lkF σ.files (parentP p) = some b → kq = (σ.node b).kind) :
    makeE σ p 0 448 [] = if checkP p ≠ 0 then checkP p else if stE σ (parentP p) ≠ 0 ∨ kq ≠ 0 then 13 else if stE σ p = 0 then 14 else 0 := by
  unfold makeE
  by_cases h1 : checkP p ≠ 0
  · rw [if_pos h1, if_pos h1]
  rw [if_neg h1, if_neg h1, if_neg (by omega), if_neg (by simp)]
  unfold placeE stE
  cases h2 : lkF σ.files (parentP p) with
  | none => simp
  | some b =>
    have := hk b h2
    simp only [ne_eq, not_true_eq_false, false_or]
    rw [this]
    by_cases h3 : (σ.node b).kind = 0
    · rw [if_pos h3, if_neg (by simpa using h3)]
      cases h4 : lkF σ.files p with
      | none => simp
      | some _ => simp
    · rw [if_neg h3, if_pos h3]
end Go.Pax
namespace Go.Proofs.YtoionaeimnmcbaaDoor
open Go.RowKit Go.Pax Go.Shelf
theorem Live.upto {w0 w : World} {f : Nat} {O : List Nat} {σ : Fs} {n m : Nat} (h : Live w0 w f O σ n) (hm : n ≤ m) : Live w0 w f O σ m := ⟨h.fs, h.inv.mono hm, h.own, h.chg⟩
theorem lstatV_at (σ : Fs) (p : Str) : ∃ (k m i l s : Int) (t : ByteArray) (u mt : Int), lstatV σ p = .tuple #[.agg #[.int .i64 k, .int .i64 m, .int .i64 i, .int .i64 l, .int .i64 s, .string t, .int .i64 u, .int .i64 mt], .int .i64 (stE σ p)] ∧ ∀ b, lkF σ.files p = some b → k = (σ.node b).kind ∧ m = (σ.node b).mode ∧ l = (σ.node b).links := by
  unfold lstatV stE
  cases h : lkF σ.files p with
  | none => exact ⟨0, 0, 0, 0, 0, ⟨#[]⟩, 0, 0, rfl, fun b hb => by cases hb⟩
  | some b => exact ⟨_, _, _, _, _, _, _, _, rfl, fun b' hb => by cases hb; exact ⟨rfl, rfl, rfl⟩⟩
theorem made_dir {σ σ2 : Fs} {p : Str} {mode : Int} (h : makeE σ p 0 mode [] = 0) (hN : Next σ (Fresh σ) ⟨0, p, mode, [], []⟩ σ2) :
    lstatV σ2 p = .tuple #[.agg #[.int .i64 0, .int .i64 mode, .int .i64 σ.next, .int .i64 1, .int .i64 0, .string ⟨#[]⟩, .int .i64 0, .int .i64 0], .int .i64 0] ∧ listE σ2 p = 0 := by
  have hpe : placeE σ p = 0 := by
    unfold makeE at h
    split at h
    · rename_i h1; exact absurd h h1
    split at h
    · cases h
    split at h
    · rename_i h1; exact absurd h1.1 (by simp)
    · exact h
  obtain ⟨pb', hpb', _, hpn, _⟩ := placed_ok hpe
  unfold Next at hN
  rw [if_pos (by simp)] at hN
  obtain ⟨pb, b, hpb, hf, rfl⟩ := hN
  have hne : b ≠ pb := fun e => hf _ _ (lkF_mem hpb) e.symm
  have hlk : lkF (made σ p (newNd σ (mkK ⟨0, p, mode, [], []⟩) (mkM ⟨0, p, mode, [], []⟩) (mkT ⟨0, p, mode, [], []⟩) (mkD ⟨0, p, mode, [], []⟩)) pb b).files p = some b := by
    show lkF (σ.files ++ [(p, b)]) p = some b
    rw [lkF_append, hpn]
    simp [lkF]
  have hnd : (made σ p (newNd σ (mkK ⟨0, p, mode, [], []⟩) (mkM ⟨0, p, mode, [], []⟩) (mkT ⟨0, p, mode, [], []⟩) (mkD ⟨0, p, mode, [], []⟩)) pb b).node b = newNd σ 0 mode [] [] := by
    show (if b = pb then _ else if b = b then newNd σ 0 mode [] [] else _) = _
    rw [if_neg hne, if_pos rfl]
  unfold lstatV listE
  rw [hlk]
  simp only
  rw [hnd]
  exact ⟨rfl, rfl⟩
/-- Options with two numbers, and New behind it. -/
theorem optsNil (w : World) (x y : Int) (hx : 0 ≤ x ∧ x ≤ 65535) (hy : 0 ≤ y ∧ y ≤ 65535) :
    Calls Tryd.prog 8 #[.int .u16 x, .int .u16 y, .slice none 0 0] w fun e w' => ∃ a cap, e = .returned (.agg #[.int .i64 (1 + x), .int .i64 (1 + y), .slice a 0 cap]) ∧ Chg [] w w' := by
  refine (options w x y [] 0 none 0 [] hx hy rfl (by omega) (Rd.nil _ _ _)).mono ?_
  rintro e w' ⟨a, cap, he, _, hk⟩
  exact ⟨a, cap, he, hk⟩
theorem newNil (w0 w : World) (x y : Int) (a : Option Addr) (cap : Nat) (k : Chg [] w0 w) (hx : 0 ≤ x ∧ x ≤ 65535) (hy : 0 ≤ y ∧ y ≤ 65535) :
    Calls Tryd.prog 7 #[.agg #[.int .i64 (1 + x), .int .i64 (1 + y), .slice a 0 cap]] w fun e w' => ∃ f O b, e = .returned (.tuple #[.pointer (some ⟨f, 0, none⟩), .int .i64 0]) ∧ Live w0 w' f O (newFs (1 + x) (1 + y) [] b) 0 ∧ Chg [] w w' := by
  refine (liveNew w0 w (1 + x) (1 + y) [] a 0 cap [] k rfl (by omega) (by omega) (fun j u hu => by simp [iv] at hu)).mono ?_
  rintro e w' ⟨_, h2⟩
  have h0 : newE (1 + x) (1 + y) [] = 0 := by
    unfold newE
    rw [if_pos]
    refine ⟨by unfold inOpt; omega, by unfold inOpt; omega, by decide⟩
  exact h2 h0
set_option maxRecDepth 100000 in
set_option maxHeartbeats 16000000 in
theorem createRules (w : World) (lo : Option Addr) (lc : Nat) (L : List AAct) (path : Str) (fp : List Nat) (hkeys : KeysAt w) (h : RdAct w fp lo L) (hwf : ∀ y ∈ L, y.wf) (hll : L.length ≤ 140737488355328) (hpl : path.length ≤ 140737488355328) :
    Calls Tryd.prog 5 #[.slice lo L.length lc, .string (ba path)] w fun e w' => e = .returned (.bool true) ∧ Chg [] w w' := by
  have HT := Lib.hid (fun W (k : Chg [] w W) => tooLarge W lo lc L fp (fun i x hx => by
    obtain ⟨ad, a, c, h1, h2, c0, c1, c2, c3, c4, h8, h9⟩ := h i x hx
    exact ⟨ad, a, c, h1, h2, k.cell c0 (by simp), k.cell c1 (by simp), k.cell c2 (by simp), k.cell c3 (by simp), k.cell c4 (by simp), h8, h9.chg k (by simp)⟩) hwf hll)
  have H := Lib.hid h
  have HWF := Lib.hid hwf
  have HKY := Lib.hid hkeys
  have HAL := Lib.hid (fun W (k : Chg [] w W) => alive W (hkeys.chg k (by simp)))
  have HOP := Lib.hid (optsNil w 0 0 (by omega) (by omega))
  have HNW := Lib.hid (fun W a cap (k : Chg [] w W) => newNil w W 0 0 a cap k (by omega) (by omega))
  clear h hwf hkeys
  by_cases g1 : tooE L = 0
  · have htz := tooE_zero g1
    rw [g1] at HT
    have HTZ := Lib.hid htz
    clear g1 htz
    by_cases g2 : 3000 < path.length
    · have g2b : 3000 < (ba path).size := by rw [ba_size]; exact g2
      have g2c : (ba path).size ≤ 140737488355328 := by rw [ba_size]; exact hpl
      generalize L.length = N at *
      generalize ba path = P at *
      go_enter Tryd.func5, Tryd.ntmps5
      go_wp2_with (first
      | (go_at_call 8; refine HOP.out.mono ?_; rintro e w1 ⟨a, cap, rfl, k⟩; have HK1 := Lib.hid k; clear k)
      | (go_at_call 7; refine (HNW.out _ a cap HK1.out).mono ?_; rintro e w2 ⟨f, O, b, rfl, hL, _⟩; have HL2 := Lib.hid hL; clear hL)
      | (go_at_call 9; refine (HT.out _ HL2.out.chg).mono ?_; rintro e w3 ⟨rfl, k⟩; have HK3 := Lib.hid (HL2.out.chg.trans k); have HL3 := Lib.hid (HL2.out.quiet k); clear k)
      | (go_at_call 10; refine (HAL.out _ HK3.out).mono ?_; rintro e w4 ⟨rfl, k⟩; have HK4 := Lib.hid (HK3.out.trans k); clear k))
      go_ret
      exact ⟨rfl, HK4.out⟩
    have HDO := Lib.hid (fun W f O σ n a ao dc fq (hL : Live w W f O σ n) hn ht hd hdl hff => liveDo w W f O σ n a ao dc fq hL hn HKY.out ht hd hdl hff)
    have g2b : (ba path).size ≤ 3000 := by rw [ba_size]; omega
    have HG2 := Lib.hid g2
    clear hpl g2
    generalize hN : L.length = N at *
    have HN := Lib.hid hN
    generalize hP : ba path = P at *
    have HP := Lib.hid hP
    clear hN hP
    go_enter Tryd.func5, Tryd.ntmps5
    go_upto_region 5 with (first
      | (go_at_call 8; refine HOP.out.mono ?_; rintro e w1 ⟨a, cap, rfl, k⟩; have HK1 := Lib.hid k; clear k)
      | (go_at_call 7; refine (HNW.out _ a cap HK1.out).mono ?_; rintro e w2 ⟨f, O, b, rfl, hL, _⟩; have HL2 := Lib.hid hL; clear hL)
      | (go_at_call 9; refine (HT.out _ HL2.out.chg).mono ?_; rintro e w3 ⟨rfl, k⟩; have HK3 := Lib.hid (HL2.out.chg.trans k); have HL3 := Lib.hid (HL2.out.quiet k); clear k)
      | (go_at_call 10; refine (HAL.out _ HK3.out).mono ?_; rintro e w4 ⟨rfl, k⟩; have HK4 := Lib.hid (HK3.out.trans k); clear k))
    clear HT HOP HNW
    go_loopw [43] (fun i wr => ∃ k : Nat, k ≤ N ∧ i = .int .i64 k ∧ ∃ O σ, Live w wr f O σ (2 * k)) (fun i _ => N - (intOf i).toNat)
    case atStart => exact ⟨0, Nat.zero_le _, rfl, O, _, HL3.out⟩
    case round =>
      obtain ⟨k, hk, rfl, O', σ, hL⟩ := hrel
      have HL := Lib.hid hL
      clear hL
      by_cases hlt : k < N
      · have hkL : k < L.length := by rw [HN.out]; exact hlt
        obtain ⟨ad, a5, c5, rfl, c0, c1, c2, c3, c4, hr5, _⟩ := H.out.at HL.out.chg k _ (List.getElem?_eq_getElem hkL)
        obtain ⟨fq, hr6, hb6⟩ := hr5.tight
        have hwf := HWF.out _ (List.getElem_mem hkL)
        have hdo : ∀ W, Chg [] wr W → Calls Tryd.prog 11 #[.pointer (some ⟨f, 0, none⟩), actV L[k] a5 c5] W fun e w' => ∃ E, e = .returned (.int .i64 E) ∧ ∃ O σ, Live w w' f O σ (2 * (k + 1)) := fun W kk => by
          refine (HDO.out W f O' σ (2 * k) L[k] a5 c5 fq (HL.out.quiet kk) (by have := HTZ.out; omega) hwf.2.2.2.2 hr6 hwf.2.2.2.1 (fun x hx => (hb6 x hx).2)).mono ?_
          rintro e w' ⟨he, h1, h2⟩
          refine ⟨_, he, ?_⟩
          by_cases h0 : doE σ L[k] = 0
          · obtain ⟨O2, σ2, _, hL2⟩ := h2 h0
            exact ⟨O2, σ2, hL2⟩
          · exact ⟨O', σ, (h1 h0).upto (by omega)⟩
        unfold actV at hdo
        have HDOK := Lib.hid hdo
        clear hdo hr5 hr6 hb6 hwf
        generalize L[k].data.length = dl at *
        generalize ba L[k].path = P5 at *
        generalize ba L[k].target = T5 at *
        generalize L[k].kind = kd at *
        generalize L[k].mode = md at *
        go_wp2_with (go_at_call 11; refine (HDOK.out _ ((Chg.refl _ _).alloc _)).mono ?_; rintro e w5 ⟨E, rfl, O5, σ5, hL5⟩; have HL5 := Lib.hid hL5; clear hL5)
        go_roundw
        case rel => exact ⟨k + 1, by omega, by go_num, O5, σ5, HL5.out⟩
        case measure => simp [intOf]; omega
      · have hkk : k = N := by omega
        subst hkk
        have HL3 := HL
        clear HDO H HWF HL
        obtain ⟨k0, m0, i0, l0, s0, t0, u0, y0, hv0, _⟩ := lstatV_at σ path
        obtain ⟨k1, m1, i1, l1, s1, t1, u1, y1, hv1, hs1⟩ := lstatV_at σ (parentP path)
        have hst : ∀ W, Chg [] wr W → Calls Tryd.prog 12 #[.pointer (some ⟨f, 0, none⟩), .string P] W fun e w' => e = .returned (.tuple #[.agg #[.int .i64 k0, .int .i64 m0, .int .i64 i0, .int .i64 l0, .int .i64 s0, .string t0, .int .i64 u0, .int .i64 y0], .int .i64 (stE σ path)]) ∧ Chg [] wr w' := fun W kk => by
          rw [← HP.out]
          refine (liveStat w W f O' σ (2 * k) path (HL3.out.quiet kk)).mono ?_
          rintro e w' ⟨he, _, k9⟩
          rw [hv0] at he
          exact ⟨he, kk.trans k9⟩
        have hsq : ∀ W, Chg [] wr W → Calls Tryd.prog 12 #[.pointer (some ⟨f, 0, none⟩), .string (ba (parentP path))] W fun e w' => e = .returned (.tuple #[.agg #[.int .i64 k1, .int .i64 m1, .int .i64 i1, .int .i64 l1, .int .i64 s1, .string t1, .int .i64 u1, .int .i64 y1], .int .i64 (stE σ (parentP path))]) ∧ Chg [] wr w' := fun W kk => by
          refine (liveStat w W f O' σ (2 * k) (parentP path) (HL3.out.quiet kk)).mono ?_
          rintro e w' ⟨he, _, k9⟩
          rw [hv1] at he
          exact ⟨he, kk.trans k9⟩
        have hpa := fun W => parent path (by have := HG2.out; omega) W
        have hck := fun W => pathCheck path W
        rw [HP.out] at hpa hck
        have HST := Lib.hid hst
        have HSQ := Lib.hid hsq
        have HPA := Lib.hid hpa
        have HCK := Lib.hid hck
        have HS1 := Lib.hid hs1
        have HV0 := Lib.hid hv0
        clear hst hsq hpa hck hv0 hv1 hs1
        go_upto_region 10 with (go_at_call 12; refine (HST.out _ (Chg.refl _ _)).mono ?_; rintro e w6 ⟨rfl, k⟩; have HK6 := Lib.hid (k.alloc (.cells #[.int .i64 k0, .int .i64 m0, .int .i64 i0, .int .i64 l0, .int .i64 s0, .string t0, .int .i64 u0, .int .i64 y0] 41)); clear k)
        generalize w6.alloc (.cells #[.int .i64 k0, .int .i64 m0, .int .i64 i0, .int .i64 l0, .int .i64 s0, .string t0, .int .i64 u0, .int .i64 y0] 41) = W6 at *
        go_upto_region 11 with (first
          | (go_at_call 17; refine (HPA.out _).mono ?_; rintro e w7 ⟨rfl, rfl⟩)
          | (go_at_call 12; refine (HSQ.out _ HK6.out).mono ?_; rintro e w8 ⟨rfl, k⟩; have HK8 := Lib.hid (k.alloc (.cells #[.int .i64 k1, .int .i64 m1, .int .i64 i1, .int .i64 l1, .int .i64 s1, .string t1, .int .i64 u1, .int .i64 y1] 41)); clear k))
        have d0 : (w8.alloc (.cells #[.int .i64 k1, .int .i64 m1, .int .i64 i1, .int .i64 l1, .int .i64 s1, .string t1, .int .i64 u1, .int .i64 y1] 41)).cell? ⟨w8.heap.size, 0, none⟩ = some (.int .i64 k1) := cell_heap (heap_alloc_new _ _) 0 rfl
        generalize w8.alloc (.cells #[.int .i64 k1, .int .i64 m1, .int .i64 i1, .int .i64 l1, .int .i64 s1, .string t1, .int .i64 u1, .int .i64 y1] 41) = W8 at *
        generalize w8.heap.size = g8 at *
        go_upto_block 2 with (go_at_call 18; refine (HCK.out _).mono ?_; rintro e w9 ⟨rfl, k⟩; have HK9 := Lib.hid (HK8.out.trans k); have d9 := k.cell d0 (by simp); clear k)
        clear d0
        have hme := makeE_dir σ path k1 (fun b hb => (HS1.out b hb).1)
        have hmk : ∀ W, Chg [] wr W → Calls Tryd.prog 19 #[.pointer (some ⟨f, 0, none⟩), .string P, .int .i64 448] W fun e w' => e = .returned (.int .i64 (makeE σ path 0 448 [])) ∧ (makeE σ path 0 448 [] ≠ 0 → Live w w' f O' σ (2 * k)) ∧
            (makeE σ path 0 448 [] = 0 → ∃ O2 σ2 i2, Live w w' f O2 σ2 (2 * k + 2) ∧ lstatV σ2 path = .tuple #[.agg #[.int .i64 0, .int .i64 448, .int .i64 i2, .int .i64 1, .int .i64 0, .string ⟨#[]⟩, .int .i64 0, .int .i64 0], .int .i64 0] ∧ listE σ2 path = 0) := fun W kk => by
          rw [← HP.out]
          refine (liveMkdir w W f O' σ (2 * k) path 448 (HL3.out.quiet kk) (by have := HTZ.out; omega) HKY.out).mono ?_
          rintro e w' ⟨he, h1, h2⟩
          refine ⟨he, h1, fun h0 => ?_⟩
          obtain ⟨O2, σ2, hN, hL2⟩ := h2 h0
          obtain ⟨g1, g2⟩ := made_dir h0 hN
          exact ⟨O2, σ2, _, hL2, g1, g2⟩
        have hst2 : ∀ W, Live w W f O' σ (2 * k) → Calls Tryd.prog 12 #[.pointer (some ⟨f, 0, none⟩), .string P] W fun e w' => e = .returned (.tuple #[.agg #[.int .i64 k0, .int .i64 m0, .int .i64 i0, .int .i64 l0, .int .i64 s0, .string t0, .int .i64 u0, .int .i64 y0], .int .i64 (stE σ path)]) ∧ Live w w' f O' σ (2 * k) := fun W hL => by
          rw [← HP.out]
          refine (liveStat w W f O' σ (2 * k) path hL).mono ?_
          rintro e w' ⟨he, h9, _⟩
          rw [HV0.out] at he
          exact ⟨he, h9⟩
        have hst3 : ∀ W O2 σ2 i2, Live w W f O2 σ2 (2 * k + 2) → lstatV σ2 path = .tuple #[.agg #[.int .i64 0, .int .i64 448, .int .i64 i2, .int .i64 1, .int .i64 0, .string ⟨#[]⟩, .int .i64 0, .int .i64 0], .int .i64 0] → Calls Tryd.prog 12 #[.pointer (some ⟨f, 0, none⟩), .string P] W fun e w' => e = .returned (.tuple #[.agg #[.int .i64 0, .int .i64 448, .int .i64 i2, .int .i64 1, .int .i64 0, .string ⟨#[]⟩, .int .i64 0, .int .i64 0], .int .i64 0]) ∧ Live w w' f O2 σ2 (2 * k + 2) := fun W O2 σ2 i2 hL hv => by
          rw [← HP.out]
          refine (liveStat w W f O2 σ2 _ path hL).mono ?_
          rintro e w' ⟨he, h9, _⟩
          rw [hv] at he
          exact ⟨he, h9⟩
        have hls : ∀ W O2 σ2, Live w W f O2 σ2 (2 * k + 2) → Calls Tryd.prog 20 #[.pointer (some ⟨f, 0, none⟩), .string P] W fun e w' => ∃ a n c, e = .returned (.tuple #[.slice a n c, .int .i64 (listE σ2 path)]) ∧ Chg [] w w' := fun W O2 σ2 hL => by
          rw [← HP.out]
          refine (liveList w W f O2 σ2 _ path hL (by have := HTZ.out; omega)).mono ?_
          rintro e w' ⟨h1, h2⟩
          by_cases h0 : listE σ2 path = 0
          · obtain ⟨O3, b, ao, m, c, _, he, _, _, hL3⟩ := h2 h0
            rw [h0]
            exact ⟨_, _, _, he, hL3.chg⟩
          · exact ⟨_, _, _, (h1 h0).1, (h1 h0).2.chg⟩
        have HMK := Lib.hid hmk
        have HS2 := Lib.hid hst2
        have HS3 := Lib.hid hst3
        have HLS := Lib.hid hls
        clear hmk hst2 hst3 hls
        generalize makeE σ path 0 448 [] = ME at *
        generalize checkP path = CP at *
        generalize stE σ path = e0 at *
        generalize stE σ (parentP path) = e1 at *
        have HME := Lib.hid hme
        clear hme HST HSQ HCK
        go_cut [13] (fun v wx => v = .int .i64 ME ∧ wx = w9)
        case first =>
          have hme := HME.out
          by_cases b1 : CP = 0
          · rw [if_neg (by omega)] at hme
            have b1b : (CP != 0) = false := by simpa using b1
            by_cases b2 : e1 = 0
            · have b2b : (e1 != 0) = false := by simpa using b2
              by_cases b3 : k1 = 0
              · rw [if_neg (by omega)] at hme
                have b3b : (k1 != 0) = false := by simpa using b3
                by_cases b4 : e0 = 0
                · rw [if_pos b4] at hme
                  have b4b : (e0 == 0) = true := by simpa using b4
                  subst hme
                  go_wp2_with fail
                  go_meet
                  exact ⟨rfl, rfl⟩
                · rw [if_neg b4] at hme
                  have b4b : (e0 == 0) = false := by simpa using b4
                  have HE9 := Lib.hid (show Value.int .i64 CP = .int .i64 ME by rw [b1, hme])
                  clear hme b1 b2 b3 b4
                  go_wp2_with fail
                  go_meet
                  exact ⟨HE9.out, rfl⟩
              · rw [if_pos (Or.inr b3)] at hme
                have b3b : (k1 != 0) = true := by simpa using b3
                subst hme
                go_wp2_with fail
                go_meet
                exact ⟨rfl, rfl⟩
            · rw [if_pos (Or.inl b2)] at hme
              have b2b : (e1 != 0) = true := by simpa using b2
              subst hme
              go_wp2_with fail
              go_meet
              exact ⟨rfl, rfl⟩
          · rw [if_pos b1] at hme
            have b1b : (CP != 0) = true := by simpa using b1
            subst hme
            go_wp2_with fail
            go_meet
            exact ⟨rfl, rfl⟩
        case rest =>
          obtain ⟨rfl, rfl⟩ := hcut
          clear HME
          by_cases hM : ME = 0
          · obtain rfl := hM
            go_upto_region 18 with (go_at_call 19; refine (HMK.out _ HK9.out).mono ?_; rintro e w10 ⟨rfl, _, h2⟩; obtain ⟨O2, σ2, i2, hL2, hv2, hl2⟩ := h2 rfl; have HL2 := Lib.hid hL2; have HV2 := Lib.hid (And.intro hv2 hl2); clear h2 hL2 hv2 hl2)
            go_upto_region 19 with (go_at_call 12; refine (HS3.out _ O2 σ2 i2 HL2.out HV2.out.1).mono ?_; rintro e w11 ⟨rfl, hL⟩; have HL4 := Lib.hid (hL.quiet ((Chg.refl [] w11).alloc (.cells #[.int .i64 0, .int .i64 448, .int .i64 i2, .int .i64 1, .int .i64 0, .string ⟨#[]⟩, .int .i64 0, .int .i64 0] 41))); clear hL)
            have q0 : (w11.alloc (.cells #[.int .i64 0, .int .i64 448, .int .i64 i2, .int .i64 1, .int .i64 0, .string ⟨#[]⟩, .int .i64 0, .int .i64 0] 41)).cell? ⟨w11.heap.size, 0, none⟩ = some (.int .i64 0) := cell_heap (heap_alloc_new _ _) 0 rfl
            have q1 : (w11.alloc (.cells #[.int .i64 0, .int .i64 448, .int .i64 i2, .int .i64 1, .int .i64 0, .string ⟨#[]⟩, .int .i64 0, .int .i64 0] 41)).cell? ⟨w11.heap.size, 1, none⟩ = some (.int .i64 448) := cell_heap (heap_alloc_new _ _) 1 rfl
            have q3 : (w11.alloc (.cells #[.int .i64 0, .int .i64 448, .int .i64 i2, .int .i64 1, .int .i64 0, .string ⟨#[]⟩, .int .i64 0, .int .i64 0] 41)).cell? ⟨w11.heap.size, 3, none⟩ = some (.int .i64 1) := cell_heap (heap_alloc_new _ _) 3 rfl
            generalize w11.alloc (.cells #[.int .i64 0, .int .i64 448, .int .i64 i2, .int .i64 1, .int .i64 0, .string ⟨#[]⟩, .int .i64 0, .int .i64 0] 41) = W11 at *
            generalize w11.heap.size = g11 at *
            go_upto_region 21 with (fail)
            have hls := HLS.out W11 O2 σ2 HL4.out
            rw [HV2.out.2] at hls
            have HLS2 := Lib.hid hls
            clear hls HLS HV2
            go_wp2_with (first
              | (go_at_call 20; refine HLS2.out.mono ?_; rintro e w12 ⟨a9, n9, c9, rfl, k⟩; have HK12 := Lib.hid k; clear k)
              | (go_at_call 10; refine (HAL.out _ HK12.out).mono ?_; rintro e w13 ⟨rfl, k⟩; have HK13 := Lib.hid (HK12.out.trans k); clear k))
            go_ret
            exact ⟨rfl, HK13.out⟩
          · have hMb : (ME == 0) = false := by simpa using hM
            have hMn : (ME != 0) = true := by simpa using hM
            have heq : (e0 != e0) = false := by simp
            have heM : (ME != ME) = false := by simp
            have HM := Lib.hid hM
            clear hM
            go_upto_region 18 with (go_at_call 19; refine (HMK.out _ HK9.out).mono ?_; rintro e w10 ⟨rfl, h1, _⟩; have HL2 := Lib.hid (h1 HM.out); clear h1)
            go_upto_region 19 with (go_at_call 12; refine (HS2.out _ HL2.out).mono ?_; rintro e w11 ⟨rfl, hL⟩; have HL4 := Lib.hid (hL.quiet ((Chg.refl [] w11).alloc (.cells #[.int .i64 k0, .int .i64 m0, .int .i64 i0, .int .i64 l0, .int .i64 s0, .string t0, .int .i64 u0, .int .i64 y0] 41))); clear hL)
            have q0 : (w11.alloc (.cells #[.int .i64 k0, .int .i64 m0, .int .i64 i0, .int .i64 l0, .int .i64 s0, .string t0, .int .i64 u0, .int .i64 y0] 41)).cell? ⟨w11.heap.size, 0, none⟩ = some (.int .i64 k0) := cell_heap (heap_alloc_new _ _) 0 rfl
            have q1 : (w11.alloc (.cells #[.int .i64 k0, .int .i64 m0, .int .i64 i0, .int .i64 l0, .int .i64 s0, .string t0, .int .i64 u0, .int .i64 y0] 41)).cell? ⟨w11.heap.size, 1, none⟩ = some (.int .i64 m0) := cell_heap (heap_alloc_new _ _) 1 rfl
            have q3 : (w11.alloc (.cells #[.int .i64 k0, .int .i64 m0, .int .i64 i0, .int .i64 l0, .int .i64 s0, .string t0, .int .i64 u0, .int .i64 y0] 41)).cell? ⟨w11.heap.size, 3, none⟩ = some (.int .i64 l0) := cell_heap (heap_alloc_new _ _) 3 rfl
            generalize w11.alloc (.cells #[.int .i64 k0, .int .i64 m0, .int .i64 i0, .int .i64 l0, .int .i64 s0, .string t0, .int .i64 u0, .int .i64 y0] 41) = W11 at *
            generalize w11.heap.size = g11 at *
            go_upto_region 21 with (fail)
            have HLS2 := Lib.hid (HLS.out W11 O' σ (HL4.out.upto (by omega)))
            clear HLS
            generalize listE σ path = le at *
            go_wp2_with (first
              | (go_at_call 20; refine HLS2.out.mono ?_; rintro e w12 ⟨a9, n9, c9, rfl, k⟩; have HK12 := Lib.hid k; clear k)
              | (go_at_call 10; refine (HAL.out _ HK12.out).mono ?_; rintro e w13 ⟨rfl, k⟩; have HK13 := Lib.hid (HK12.out.trans k); clear k))
            go_ret
            exact ⟨rfl, HK13.out⟩
  · rw [tooE_one g1] at HT
    generalize L.length = N at *
    generalize ba path = P at *
    go_enter Tryd.func5, Tryd.ntmps5
    go_wp2_with (first
      | (go_at_call 8; refine HOP.out.mono ?_; rintro e w1 ⟨a, cap, rfl, k⟩; have HK1 := Lib.hid k; clear k)
      | (go_at_call 7; refine (HNW.out _ a cap HK1.out).mono ?_; rintro e w2 ⟨f, O, b, rfl, hL, _⟩; have HL2 := Lib.hid hL; clear hL)
      | (go_at_call 9; refine (HT.out _ HL2.out.chg).mono ?_; rintro e w3 ⟨rfl, k⟩; have HK3 := Lib.hid (HL2.out.chg.trans k); have HL3 := Lib.hid (HL2.out.quiet k); clear k)
      | (go_at_call 10; refine (HAL.out _ HK3.out).mono ?_; rintro e w4 ⟨rfl, k⟩; have HK4 := Lib.hid (HK3.out.trans k); clear k))
    go_ret
    exact ⟨rfl, HK4.out⟩
end Go.Proofs.YtoionaeimnmcbaaDoor
