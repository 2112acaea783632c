/- paxtarlaw19.VfsLinksShareFiles: the walk. -/
import Derived.Test.YtoionaeimnmcbaaDoorVLawE
namespace Go.Pax
open Go.RowKit
theorem run_conv {P : Program} (w : World) (src dst e : TypeId) (hs : P.underlying src = some (.slice e)) (he : P.underlying e = some (.int .u8)) (hd : P.underlying dst = some .string)
    (fp : List Nat) (ao : Option Addr) (n cap : Nat) (l : List UInt8) (hl : l.length = n) (h : Rd w fp ao (bv l)) :
    (convert src dst (.slice ao n cap)).run P w = .ok (.string (ba l)) w := by
  cases ao with
  | none =>
    have : l = [] := by
      cases l with
      | nil => rfl
      | cons x r => obtain ⟨a, ha, _⟩ := h 0 _ rfl; cases ha
    subst this
    exact run_convert_bytes_nil w src e hs he _ _ dst hd
  | some ad =>
    rw [run_convert_bytes_string w src dst e _ n cap hs he hd]
    have hlc := run_loadCells_list (P := P) w ad (bv l) h.at
    rw [bv_length, hl] at hlc
    have hb : (bv l).toArray = ((l.map fun b => (b.toNat : Int)).map (Value.int .u8)).toArray := by simp [bv]
    rw [hb] at hlc
    rw [run_bytesToString w ad n cap (l.map fun b => (b.toNat : Int)) hlc, foldl_push_bytes]
    have hm : (l.map fun b => (b.toNat : Int)).map (fun n => UInt8.ofNat n.toNat) = l := by
      rw [List.map_map]
      exact (List.map_congr_left (fun b _ => by simp)).trans (List.map_id l)
    rw [hm]
    simp [ba, ByteArray.empty, ByteArray.emptyWithCapacity]
    rfl
theorem own_set {w : World} {base g n cap : Nat} {e : TypeId} {xs : List Value} (h : w.ownsRow base e 1 (.slice (some ⟨g, 0, none⟩) n cap) n xs) (j : Nat) (v : Value) :
    (w.setCell ⟨g, j, none⟩ v).ownsRow base e 1 (.slice (some ⟨g, 0, none⟩) n cap) n (xs.set j v) := by
  refine ⟨by rw [List.length_set]; exact h.1, ?_⟩
  rcases h.2 with ⟨h', _⟩ | ⟨g', cap', cur, h', hb, hg, h1, h2, h3, h4⟩
  · simp at h'
  · have h'' := h'
    simp only [Value.slice.injEq, Option.some.injEq, Addr.mk.injEq, and_true, true_and] at h''
    obtain ⟨rfl, rfl⟩ := h''
    refine .inr ⟨_, _, _, h', hb, heap_set hg j v rfl, h1, h2, by simpa using h3, ?_⟩
    rw [← h4, Array.toList_setIfInBounds, List.take_set]
theorem own_pos {w : World} {base n cap : Nat} {e : TypeId} {ao : Option Addr} {xs : List Value} (h : w.ownsRow base e 1 (.slice ao n cap) n xs) (hn : 0 < n) : ∃ g, ao = some ⟨g, 0, none⟩ ∧ base ≤ g ∧ n ≤ cap ∧ g < w.heap.size ∧ ∀ j, w.frozen? ⟨g, j, none⟩ = false := by
  rcases h.2 with ⟨h', h0⟩ | ⟨g', cap', cur, h', hb, hg, h1, h2, h3, h4⟩
  · omega
  · simp only [Value.slice.injEq] at h'
    obtain ⟨rfl, _, rfl⟩ := h'
    exact ⟨g', rfl, hb, h1, lt_of_block hg, fun j => frozen_of_row _ _ _ _ _ hg⟩
theorem own_blk {w w' : World} {base : Nat} {e : TypeId} {v : Value} {n : Nat} {xs : List Value} (h : w.ownsRow base e 1 v n xs) (k : ∀ g, v.ownBlock = some g → g < w.heap.size → w'.heap[g]? = w.heap[g]?) : w'.ownsRow base e 1 v n xs := by
  refine ⟨h.1, ?_⟩
  rcases h.2 with hn | ⟨g, cap, cur, hv, hb, hg, rest⟩
  · exact .inl hn
  · exact .inr ⟨g, cap, cur, hv, hb, by rw [k g (by subst hv; simp [Value.ownBlock]) (lt_of_block hg)]; exact hg, rest⟩
/-- A row of n cells whose last ones, from k on, are still the bytes d. -/
def Flip (w : World) (base : Nat) (e : TypeId) (a : Option Addr) (n c : Nat) (d : List UInt8) (k : Nat) : Prop := ∃ xs, w.ownsRow base e 1 (.slice a n c) n xs ∧ ∀ j, k ≤ j → xs[j]? = (bv d)[j]?
theorem Flip.start {w : World} {base : Nat} {e : TypeId} {a : Option Addr} {n c : Nat} {d : List UInt8} (h : w.ownsRow base e 1 (.slice a n c) n (bv d)) : Flip w base e a n c d 0 := ⟨_, h, fun _ _ => rfl⟩
theorem Flip.at {w : World} {base : Nat} {e : TypeId} {a : Option Addr} {n c k : Nat} {d : List UInt8} (h : Flip w base e a n c d k) (hk : k < n) (hd : d.length = n) :
    ∃ g, a = some ⟨g, 0, none⟩ ∧ base ≤ g ∧ n ≤ c ∧ g < w.heap.size ∧ w.frozen? ⟨g, k, none⟩ = false ∧ w.cell? ⟨g, k, none⟩ = some (.int .u8 (d[k]'(by omega)).toNat) ∧ ∀ v, Flip (w.setCell ⟨g, k, none⟩ v) base e a n c d (k + 1) := by
  obtain ⟨xs, h1, h2⟩ := h
  obtain ⟨g, rfl, hb, hc, hl, hf⟩ := own_pos h1 (by omega)
  have hx : xs[k]? = some (.int .u8 (d[k]'(by omega)).toNat) := by rw [h2 k (Nat.le_refl _)]; exact bv_get d k (by omega)
  have hcell := h1.cells (g := g) rfl k _ hx
  have adk : (⟨g, 0, none⟩ : Addr).add k = ⟨g, k, none⟩ := by unfold Addr.add; split <;> simp_all
  refine ⟨g, rfl, hb, hc, hl, hf k, by rw [adk] at hcell; exact hcell, fun v => ⟨_, own_set h1 k v, fun j hj => ?_⟩⟩
  rw [List.getElem?_set, if_neg (by omega)]
  exact h2 j (by omega)
end Go.Pax
namespace Go.Proofs.YtoionaeimnmcbaaDoor
open Go.RowKit Go.Pax Go.Shelf
theorem convB (w : World) (fp : List Nat) (ao : Option Addr) (n cap : Nat) (l : List UInt8) (hl : l.length = n) (h : Rd w fp ao (bv l)) :
    (convert 36 9 (.slice ao n cap)).run Tryd.prog w = .ok (.string (ba l)) w := run_conv w 36 9 5 Tryd.underlying36 Tryd.underlying5 Tryd.underlying9 fp ao n cap l hl h
/-- Create, with what lay beside it. -/
theorem liveCreateK (w0 w : World) (f : Nat) (O : List Nat) (σ : Fs) (n : Nat) (p : Str) (mode : Int) (data : List UInt8) (m : Nat) (ao : Option Addr) (dc : Nat) (fp : List Nat) (h : Live w0 w f O σ n) (hn : n ≤ 10000) (hkeys : KeysAt w0) (hm : data.length = m) (hd : Rd w fp ao (bv data)) (hdl : m ≤ 140737488355328) (hff : ∀ x ∈ fp, x ∉ O) (h0 : makeE σ p 1 mode [] = 0) :
    Calls Tryd.prog 13 #[.pointer (some ⟨f, 0, none⟩), .string (ba p), .int .i64 mode, .slice ao m dc] w fun e w' => e = .returned (.int .i64 0) ∧ ∃ O' σ', Next σ (Fresh σ) ⟨1, p, mode, data, []⟩ σ' ∧ Live w0 w' f O' σ' (n + 2) ∧ Keeps w w' O O' := by
  subst hm
  refine (create w f O σ p mode data ao dc fp h.fs (h.inv.ok (by omega)) (h.keys hkeys).1 (h.keys hkeys).2 hd hdl hff).mono ?_
  rintro e w' ⟨he, hb⟩
  rw [h0] at he
  obtain ⟨pb, b, hpb, hbb, hto⟩ := hb.2 h0
  have hN : Next σ (fun b => w.heap.size ≤ b) ⟨1, p, mode, data, []⟩ (made σ p (newNd σ 1 mode [] data) pb b) := by
    unfold Next
    rw [if_pos (by simp)]
    exact ⟨pb, b, hpb, hbb, rfl⟩
  obtain ⟨O', hL, hK⟩ := h.toK hto (hN.inv h.inv)
  exact ⟨he, O', _, hN.fresh h, hL, hK⟩
set_option maxRecDepth 100000 in
set_option maxHeartbeats 16000000 in
theorem linksShare (w : World) (nn uid : Int) (d : List UInt8) (ao : Option Addr) (c : Nat) (fp : List Nat) (hn : 0 ≤ nn ∧ nn ≤ 255) (hkeys : KeysAt w) (hdl : d.length ≤ 140737488355328) (hdc : d.length ≤ c) (h : Rd w fp ao (bv d)) :
    Calls Tryd.prog 4 #[.int .u8 nn, .slice ao d.length c, .int .i64 uid] w fun e w' => e = .returned (.bool true) ∧ Chg [] w w' := by
  obtain ⟨ib, hib, hib0, hib1, hib2⟩ := info_parts Tryd.vinfoB
  obtain ⟨K, hK, hK20⟩ : ∃ K : Nat, Int.tmod nn 20 = K ∧ K < 20 := ⟨(nn % 20).toNat, by rw [Int.tmod_eq_emod_of_nonneg (by omega)]; omega, by omega⟩
  have H := Lib.hid h
  have HAL := Lib.hid (fun W (k : Chg [] w W) => alive W (hkeys.chg k (by simp)))
  have HOP := Lib.hid (fun W => optsNil W 0 0 (by omega) (by omega))
  have HNW := Lib.hid (fun W a cap (k : Chg [] w W) => newNil w W 0 0 a cap k (by omega) (by omega))
  have HKY := Lib.hid hkeys
  clear h hkeys
  generalize hN : d.length = N at *
  have HN := Lib.hid hN
  clear hN
  by_cases g1 : 1000 < N
  · go_enter Tryd.func4, Tryd.ntmps4
    go_wp2_with (first
      | (go_at_call 8; refine (HOP.out _).mono ?_; rintro e w1 ⟨a, cap, rfl, k⟩; have HK1 := Lib.hid k; clear k)
      | (go_at_call 7; refine (HNW.out _ a cap HK1.out).mono ?_; rintro e w2 ⟨f, O, b, rfl, hL, k⟩; have HL2 := Lib.hid hL; clear hL k)
      | (go_at_call 10; refine (HAL.out _ HL2.out.chg).mono ?_; rintro e w4 ⟨rfl, k⟩; have HK4 := Lib.hid (HL2.out.chg.trans k); clear k))
    go_ret
    exact ⟨rfl, HK4.out⟩
  go_enter Tryd.func4, Tryd.ntmps4
  go_upto_region 5 with (first
    | (go_at_call 8; refine (HOP.out _).mono ?_; rintro e w1 ⟨a, cap, rfl, k⟩; have HK1 := Lib.hid k; clear k)
    | (go_at_call 7; refine (HNW.out _ a cap HK1.out).mono ?_; rintro e w2 ⟨f, O, r, rfl, hL, k⟩; have HL2 := Lib.hid hL; clear hL k))
  have HL2' := Lib.hid (show Live w w2 f O (newFs 1 1 [] r) 0 from HL2.out)
  clear HL2 HOP HNW
  have hkb : Chg [] w2 (w2.alloc (.cells #[] 5)) := (Chg.refl _ _).alloc _
  have HRB := Lib.hid ((H.out.chg HL2'.out.chg (by simp)).chg hkb (by simp))
  have HBL := Lib.hid (show (bv d).length = N by rw [bv_length]; exact HN.out)
  have hone := bv_one d
  go_upto_region 6 with (at_builtin; refine wpList_append_rd rfl (.tmp 42) (.tmp 43) 36 rfl w2.heap.size 5 ib (.int .u8 0) 1 Tryd.underlying36 hib hib0 hib1 hib2 rfl (.slice (some ⟨w2.heap.size, 0, none⟩) 0 0) 0 [] rfl (own_empty (heap_alloc_new _ _) (Nat.le_refl _)) ao N c fp (bv d) rfl HBL.out HRB.out hone (by omega) (by unfold maxLen; omega) (by simp) ?_; intro a3 c3 w3 hown3 hgr3 hat3; have HK3 := Lib.hid (hkb.grown hgr3 (fun g hg hl => by simp [Value.ownBlock] at hg; omega)); have HO3 := Lib.hid hown3; clear hown3 hgr3 hat3)
  simp only [Nat.zero_add, List.nil_append] at HO3
  clear hkb hone
  obtain ⟨hr3, hb3, hc3⟩ := own_rd2 HO3.out
  have hL3 := HL2'.out.quiet HK3.out
  have hcr := liveCreateK w w3 f O _ 0 (nm 0) 420 d N a3 c3 _ hL3 (by omega) HKY.out HN.out hr3 (by omega) (fun x hx hO => by have := (hb3 x hx).1; have := HL2'.out.lt x hO; omega) (sh_create r)
  have HCR := Lib.hid hcr
  clear hcr hr3 hL3
  go_upto_region 8 with (go_at_call 13; refine HCR.out.mono ?_; rintro e w4 ⟨rfl, O4, σ4, hN4, hL4, hK4⟩; have HC4 := Lib.hid (And.intro hN4 (And.intro hL4 hK4)); clear hN4 hL4 hK4)
  obtain ⟨b, hsh⟩ := sh_first HC4.out.1
  have hb2 : w.heap.size ≤ w2.heap.size := HL2'.out.chg.size
  have hown4 := own_blk HO3.out (w' := w4) (fun g hg hl => (HC4.out.2.2.2 g hl (fun hO => by have := (hb3 g (by simp [hg])).1; have := HL2'.out.lt g hO; omega)).1)
  have hnot : ∀ g, (Value.slice a3 N c3).ownBlock = some g → g ∉ O4 := fun g hg => (HC4.out.2.2.2 g (hb3 g (by simp [hg])).2 (fun hO => by have := (hb3 g (by simp [hg])).1; have := HL2'.out.lt g hO; omega)).2
  have HSH := Lib.hid hsh
  have HNOT := Lib.hid hnot
  have HF4 := Lib.hid (Flip.start hown4)
  have HB2 := Lib.hid hb2
  clear hsh hnot hown4 hb2 hb3 HCR HO3 HRB HBL
  go_wp2_with fail
  go_loopw [51] (fun i wr => ∃ k : Nat, k ≤ N ∧ i = .int .i64 k ∧ Live w wr f O4 σ4 2 ∧ Flip wr w2.heap.size 5 a3 N c3 d k) (fun i _ => N - (intOf i).toNat)
  case atStart => exact ⟨0, Nat.zero_le _, rfl, HC4.out.2.1, HF4.out⟩
  case round =>
    obtain ⟨k, hk, rfl, hL, hF⟩ := hrel
    have HL := Lib.hid hL
    clear hL HC4 HF4
    by_cases hlt : k < N
    · obtain ⟨g, rfl, hgb, hgc, hgl, hgf, hgcell, hgn⟩ := hF.at hlt HN.out
      have hgO : g ∉ O4 := HNOT.out g (by simp [Value.ownBlock])
      have hbb : (d[k]'(by rw [HN.out]; exact hlt)).toNat < 256 := (d[k]'(by rw [HN.out]; exact hlt)).toNat_lt
      have HG := Lib.hid (And.intro hgO (And.intro hgb hgn))
      clear hF hgO hgb hgn
      generalize (d[k]'(by rw [HN.out]; exact hlt)).toNat = bb at *
      go_wp2_with fail
      go_roundw
      case rel => exact ⟨k + 1, by omega, by go_num, HL.out.beside ((Chg.refl _ _).setCell (fun _ => by simp) _) HG.out.1 (by have := HG.out.2.1; have := HB2.out; omega), HG.out.2.2 _⟩
      case measure => simp [intOf]; omega
    · have hkk : k = N := by omega
      subst hkk
      clear hF HNOT hlt hk
      go_upto_region 15 with (fail)
      have hlk : ∀ W O2 σ2 j, j < 20 → Live w W f O2 σ2 (2 * j + 2) → Sh σ2 r b j d 0 0 → Calls Tryd.prog 14 #[.pointer (some ⟨f, 0, none⟩), .string (ba (nm j) ++ ⟨#[120]⟩), .string (ba (nm j))] W fun e w' => e = .returned (.int .i64 0) ∧ ∃ O3 σ3, Live w w' f O3 σ3 (2 * (j + 1) + 2) ∧ Sh σ3 r b (j + 1) d 0 0 := fun W O2 σ2 j hj hL hs => by
        rw [show ba (nm j) ++ (⟨#[120]⟩ : ByteArray) = ba (nm (j + 1)) from nm_ba j]
        refine (liveLink w W f O2 σ2 _ (nm (j + 1)) (nm j) hL (by omega)).mono ?_
        rintro e w' ⟨he, _, h2⟩
        rw [sh_linkE hs hj] at he h2
        obtain ⟨O3, σ3, hN3, hL3⟩ := h2 rfl
        exact ⟨he, O3, σ3, hL3, sh_next hs hj hN3⟩
      have HLK := Lib.hid hlk
      have HNB := Lib.hid nm_ba
      clear hlk
      go_loopw [12, 62] (fun s i wx => ∃ k : Nat, k ≤ K ∧ i = .int .i64 k ∧ s = .string (ba (nm k)) ∧ ∃ O2 σ2, Live w wx f O2 σ2 (2 * k + 2) ∧ Sh σ2 r b k d 0 0) (fun _ i _ => K - (intOf i).toNat)
      case atStart => exact ⟨0, Nat.zero_le _, rfl, rfl, O4, σ4, HL.out, HSH.out⟩
      case round =>
        obtain ⟨j, hj, rfl, rfl, O2, σ2, hL2, hs2⟩ := hrel
        have HLX := Lib.hid (And.intro hL2 hs2)
        have HL20 := Lib.hid hs2.len
        clear hL2 hs2 HL HSH
        by_cases hlt : j < K
        · have hpz : (ba (nm j)).size ≤ 21 := by rw [ba_size]; simp [nm]; omega
          have hlk := HLK.out
          have HLJ := Lib.hid (fun W (k : Chg [] wr W) => hlk W O2 σ2 j (by omega) (HLX.out.1.quiet k) HLX.out.2)
          have HNJ := Lib.hid (show Value.string (ba (nm j) ++ (⟨#[120]⟩ : ByteArray)) = .string (ba (nm (j + 1))) from congrArg Value.string (nm_ba j))
          clear hlk
          generalize ba (nm j) = P at *
          go_wp2_with (go_at_call 14; refine (HLJ.out _ (Chg.refl _ _)).mono ?_; rintro e w5 ⟨rfl, O3, σ3, hL3, hs3⟩; have HX3 := Lib.hid (And.intro hL3 hs3); clear hL3 hs3)
          go_roundw
          case rel => exact ⟨j + 1, by omega, by go_num, HNJ.out, O3, σ3, HX3.out.1, HX3.out.2⟩
          case measure => simp [intOf]; omega
        · have hjj : j = K := by omega
          subst hjj
          clear HLK hlt hj
          have hch : Calls Tryd.prog 15 #[.pointer (some ⟨f, 0, none⟩), .string (ba (nm j)), .int .i64 uid, .int .i64 7] wr fun e w' => e = .returned (.int .i64 0) ∧ ∃ O3 σ3, Live w w' f O3 σ3 (2 * j + 2) ∧ Sh σ3 r b j d uid 7 := by
            refine (liveChown w wr f O2 σ2 _ (nm j) uid 7 HLX.out.1).mono ?_
            rintro e w' ⟨he, _, h2⟩
            have hz : chownE σ2 (nm j) = 0 := by unfold chownE; rw [HLX.out.2.look j (Nat.le_refl _)]
            rw [hz] at he h2
            obtain ⟨O3, b', hb', hL3⟩ := h2 rfl
            rw [HLX.out.2.look j (Nat.le_refl _)] at hb'
            cases hb'
            exact ⟨he, O3, _, hL3, sh_chown HLX.out.2 uid 7⟩
          have hst : ∀ W O3 σ3 q, q ≤ j → Live w W f O3 σ3 (2 * j + 2) → Sh σ3 r b j d uid 7 → Calls Tryd.prog 12 #[.pointer (some ⟨f, 0, none⟩), .string (ba (nm q))] W fun e w' => e = .returned (.tuple #[.agg #[.int .i64 1, .int .i64 420, .int .i64 2, .int .i64 ((j : Int) + 1), .int .i64 k, .string ⟨#[]⟩, .int .i64 uid, .int .i64 7], .int .i64 0]) ∧ Chg [] W w' ∧ Live w w' f O3 σ3 (2 * j + 2) := fun W O3 σ3 q hq hL hs => by
            refine (liveStat w W f O3 σ3 _ (nm q) hL).mono ?_
            rintro e w' ⟨he, h2, h3⟩
            rw [sh_stat hs q hq, HN.out] at he
            exact ⟨he, h3, h2⟩
          have hrd : ∀ W O3 σ3 q, q ≤ j → Live w W f O3 σ3 (2 * j + 2) → Sh σ3 r b j d uid 7 → Calls Tryd.prog 16 #[.pointer (some ⟨f, 0, none⟩), .string (ba (nm q))] W fun e w' => ∃ a9 c9, e = .returned (.tuple #[.slice a9 k c9, .int .i64 0]) ∧ w'.ownsRow W.heap.size 5 1 (.slice a9 k c9) k (bv d) ∧ Chg [] W w' ∧ Live w w' f O3 σ3 (2 * j + 2) := fun W O3 σ3 q hq hL hs => by
            refine (liveRead w W f O3 σ3 _ (nm q) hL (hs.len (by have := HN.out; omega))).mono ?_
            rintro e w' ⟨⟨_, h2⟩, h3⟩
            obtain ⟨b', a9, c9, fq, hb', he, _, hown, _, kk⟩ := h2 (sh_read hs q hq)
            rw [hs.look q hq] at hb'
            cases hb'
            rw [hs.data.1, HN.out] at he hown
            exact ⟨a9, c9, he, hown, kk, h3⟩
          have hst0 := fun W O3 σ3 => hst W O3 σ3 0 (Nat.zero_le _)
          have hrd0 := fun W O3 σ3 => hrd W O3 σ3 0 (Nat.zero_le _)
          have hst1 := fun W O3 σ3 => hst W O3 σ3 j (Nat.le_refl _)
          have hrd1 := fun W O3 σ3 => hrd W O3 σ3 j (Nat.le_refl _)
          rw [show ba (nm 0) = (⟨#[102]⟩ : ByteArray) from rfl] at hst0 hrd0
          have HCH := Lib.hid hch
          have HS0 := Lib.hid hst0
          have HR0 := Lib.hid hrd0
          have HS1 := Lib.hid hst1
          have HR1 := Lib.hid hrd1
          clear hch hst hrd hst0 hrd0 hst1 hrd1 HL20
          generalize ba (nm j) = P at *
          go_upto_region 22 with (go_at_call 15; refine HCH.out.mono ?_; rintro e w6 ⟨rfl, O6, σ6, hL6, hs6⟩; have H6 := Lib.hid hL6; have HS6 := Lib.hid hs6; clear hL6 hs6)
          go_upto_region 23 with (go_at_call 12; refine (HS0.out _ O6 σ6 H6.out HS6.out).mono ?_; rintro e w7 ⟨rfl, _, hL7⟩; have H7 := Lib.hid (hL7.quiet ((Chg.refl [] w7).alloc (.cells #[.int .i64 1, .int .i64 420, .int .i64 2, .int .i64 ((j : Int) + 1), .int .i64 k, .string ⟨#[]⟩, .int .i64 uid, .int .i64 7] 41))); clear hL7)
          have e7 : (w7.alloc (.cells #[.int .i64 1, .int .i64 420, .int .i64 2, .int .i64 ((j : Int) + 1), .int .i64 k, .string ⟨#[]⟩, .int .i64 uid, .int .i64 7] 41)).heap[w7.heap.size]? = some (.cells #[.int .i64 1, .int .i64 420, .int .i64 2, .int .i64 ((j : Int) + 1), .int .i64 k, .string ⟨#[]⟩, .int .i64 uid, .int .i64 7] 41 (0, 0)) := heap_alloc_new _ _
          generalize w7.alloc (.cells #[.int .i64 1, .int .i64 420, .int .i64 2, .int .i64 ((j : Int) + 1), .int .i64 k, .string ⟨#[]⟩, .int .i64 uid, .int .i64 7] 41) = W7 at *
          generalize w7.heap.size = g7 at *
          have HE7 := Lib.hid e7
          clear e7
          go_upto_region 24 with (go_at_call 12; refine (HS1.out _ O6 σ6 H7.out HS6.out).mono ?_; rintro e w8 ⟨rfl, k8, hL8⟩; have H8 := Lib.hid (hL8.quiet ((Chg.refl [] w8).alloc (.cells #[.int .i64 1, .int .i64 420, .int .i64 2, .int .i64 ((j : Int) + 1), .int .i64 k, .string ⟨#[]⟩, .int .i64 uid, .int .i64 7] 41))); have HK8 := Lib.hid (k8.alloc (.cells #[.int .i64 1, .int .i64 420, .int .i64 2, .int .i64 ((j : Int) + 1), .int .i64 k, .string ⟨#[]⟩, .int .i64 uid, .int .i64 7] 41)); clear hL8 k8)
          have e8 : (w8.alloc (.cells #[.int .i64 1, .int .i64 420, .int .i64 2, .int .i64 ((j : Int) + 1), .int .i64 k, .string ⟨#[]⟩, .int .i64 uid, .int .i64 7] 41)).heap[w8.heap.size]? = some (.cells #[.int .i64 1, .int .i64 420, .int .i64 2, .int .i64 ((j : Int) + 1), .int .i64 k, .string ⟨#[]⟩, .int .i64 uid, .int .i64 7] 41 (0, 0)) := heap_alloc_new _ _
          have e7 := HK8.out.heap HE7.out (by simp)
          generalize w8.alloc (.cells #[.int .i64 1, .int .i64 420, .int .i64 2, .int .i64 ((j : Int) + 1), .int .i64 k, .string ⟨#[]⟩, .int .i64 uid, .int .i64 7] 41) = W8 at *
          generalize w8.heap.size = g8 at *
          have HE8 := Lib.hid (And.intro e7 e8)
          clear e7 e8
          go_upto_region 25 with (go_at_call 16; refine (HR1.out _ O6 σ6 H8.out HS6.out).mono ?_; rintro e w9 ⟨a9, c9, rfl, hown9, k9, hL9⟩; have H9 := Lib.hid (And.intro hown9 (And.intro k9 hL9)); clear hown9 k9 hL9)
          have hz7 := lt_of_block HE8.out.1
          have hz8 := lt_of_block HE8.out.2
          have HFL := Lib.hid (Flip.start H9.out.1)
          have HE9 := Lib.hid (And.intro (H9.out.2.1.heap HE8.out.1 (by simp)) (H9.out.2.1.heap HE8.out.2 (by simp)))
          have HLT := Lib.hid (And.intro hz7 (And.intro hz8 (And.intro H8.out.lt H8.out.chg.size)))
          clear hz7 hz8
          go_wp2_with fail
          go_loopw [97] (fun i wx => ∃ q : Nat, q ≤ k ∧ i = .int .i64 q ∧ Live w wx f O6 σ6 (2 * j + 2) ∧ Flip wx W8.heap.size 5 a9 k c9 d q ∧ wx.heap[g7]? = some (.cells #[.int .i64 1, .int .i64 420, .int .i64 2, .int .i64 ((j : Int) + 1), .int .i64 k, .string ⟨#[]⟩, .int .i64 uid, .int .i64 7] 41 (0, 0)) ∧ wx.heap[g8]? = some (.cells #[.int .i64 1, .int .i64 420, .int .i64 2, .int .i64 ((j : Int) + 1), .int .i64 k, .string ⟨#[]⟩, .int .i64 uid, .int .i64 7] 41 (0, 0))) (fun i _ => k - (intOf i).toNat)
          case atStart => exact ⟨0, Nat.zero_le _, rfl, H9.out.2.2, HFL.out, HE9.out.1, HE9.out.2⟩
          case round =>
            obtain ⟨q, hq, rfl, hL, hF, x7, x8⟩ := hrel
            have HL := Lib.hid hL
            have HX := Lib.hid (And.intro x7 x8)
            clear hL x7 x8 H9 HFL HE9
            by_cases hlt : q < k
            · obtain ⟨g, rfl, hgb, hgc, hgl, hgf, hgcell, hgn⟩ := hF.at hlt HN.out
              have hgO : g ∉ O6 := fun hO => by have := HLT.out.2.2.1 g hO; omega
              have hbb : (d[q]'(by rw [HN.out]; exact hlt)).toNat < 256 := (d[q]'(by rw [HN.out]; exact hlt)).toNat_lt
              have HG := Lib.hid (And.intro hgO (And.intro hgb hgn))
              clear hF hgO hgb hgn
              generalize (d[q]'(by rw [HN.out]; exact hlt)).toNat = bb at *
              go_wp2_with fail
              go_roundw
              case rel =>
                have kg : ∀ v, Chg [g] wr (wr.setCell ⟨g, q, none⟩ v) := fun v => (Chg.refl _ _).setCell (fun _ => by simp) _
                exact ⟨q + 1, by omega, by go_num, HL.out.beside (kg _) HG.out.1 (by have := HG.out.2.1; have := HLT.out.2.2.2; omega), HG.out.2.2 _, (kg _).heap HX.out.1 (by have := HG.out.2.1; have := HLT.out.1; simp; omega), (kg _).heap HX.out.2 (by have := HG.out.2.1; have := HLT.out.2.1; simp; omega)⟩
              case measure => simp [intOf]; omega
            · have hqq : q = k := by omega
              subst hqq
              clear hF hlt hq
              go_upto_region 31 with (go_at_call 16; refine (HR0.out _ O6 σ6 HL.out HS6.out).mono ?_; rintro e w10 ⟨a10, c10, rfl, hown10, k10, hL10⟩; have H10 := Lib.hid (And.intro hown10 (And.intro k10 hL10)); clear hown10 k10 hL10)
              go_wp2_with (go_at_call 10; refine (HAL.out _ H10.out.2.2.chg).mono ?_; rintro e w11 ⟨rfl, k11⟩; have e7 := k11.heap (H10.out.2.1.heap HX.out.1 (by simp)) (by simp); have e8 := k11.heap (H10.out.2.1.heap HX.out.2 (by simp)) (by simp); have x0 : w11.cell? ⟨g7, 0, none⟩ = some (.int .i64 1) := cell_heap e7 0 rfl; have x1 : w11.cell? ⟨g7, 1, none⟩ = some (.int .i64 420) := cell_heap e7 1 rfl; have x2 : w11.cell? ⟨g7, 2, none⟩ = some (.int .i64 2) := cell_heap e7 2 rfl; have x3 : w11.cell? ⟨g7, 3, none⟩ = some (.int .i64 ((j : Int) + 1)) := cell_heap e7 3 rfl; have x4 : w11.cell? ⟨g7, 4, none⟩ = some (.int .i64 q) := cell_heap e7 4 rfl; have x5 : w11.cell? ⟨g7, 5, none⟩ = some (.string ⟨#[]⟩) := cell_heap e7 5 rfl; have x6 : w11.cell? ⟨g7, 6, none⟩ = some (.int .i64 uid) := cell_heap e7 6 rfl; have x7 : w11.cell? ⟨g7, 7, none⟩ = some (.int .i64 7) := cell_heap e7 7 rfl; have y0 : w11.cell? ⟨g8, 0, none⟩ = some (.int .i64 1) := cell_heap e8 0 rfl; have y1 : w11.cell? ⟨g8, 1, none⟩ = some (.int .i64 420) := cell_heap e8 1 rfl; have y2 : w11.cell? ⟨g8, 2, none⟩ = some (.int .i64 2) := cell_heap e8 2 rfl; have y3 : w11.cell? ⟨g8, 3, none⟩ = some (.int .i64 ((j : Int) + 1)) := cell_heap e8 3 rfl; have y4 : w11.cell? ⟨g8, 4, none⟩ = some (.int .i64 q) := cell_heap e8 4 rfl; have y5 : w11.cell? ⟨g8, 5, none⟩ = some (.string ⟨#[]⟩) := cell_heap e8 5 rfl; have y6 : w11.cell? ⟨g8, 6, none⟩ = some (.int .i64 uid) := cell_heap e8 6 rfl; have y7 : w11.cell? ⟨g8, 7, none⟩ = some (.int .i64 7) := cell_heap e8 7 rfl; obtain ⟨hr10, _, _⟩ := own_rd2 (own_chg H10.out.1 k11 (by simp)); have v1 := convB w11 _ a10 q c10 d HN.out hr10; have v2 := convB w11 fp ao q c d HN.out (H.out.chg (H10.out.2.2.chg.trans k11) (by simp)); have HK11 := Lib.hid (H10.out.2.2.chg.trans k11); generalize ba d = D at *; clear hr10 e7 e8 k11)
              go_ret
              exact ⟨rfl, HK11.out⟩
end Go.Proofs.YtoionaeimnmcbaaDoor
