/- paxtarlaw19: Options. Small words that the laws share. walk.visit: a directory's names are pushed. Printed by wip/gen/genwexp.py. walk.visit: what stands in memory between two steps. Nodes in memory; walk.node. Maps whatever their keys (integers, strings) and values: what they hold; their lookup and their store. -/
import Derived.Deep.MidRow
import Derived.Test.YtfhiioopimmahaaGreatDoorPO01
import Derived.Test.YtfhiioopimmahaaGreatDoorPO02
import Derived.Test.YtfhiioopimmahaaGreatDoorPO07
import Derived.Test.YtfhiioopimmahaaGreatDoorPO08
import Derived.Test.YtfhiioopimmahaaGreatDoorPO09
namespace Go.Pax
open Go.RowKit
def natL (l : List UInt8) : List Int := l.map fun b => (b.toNat : Int)
theorem natL_take (l : List UInt8) (k : Nat) (h : k < l.length) : iv (natL (l.take (k + 1))) = iv (natL (l.take k)) ++ [.int .i64 (l[k].toNat : Int)] := by
  rw [List.take_add_one, List.getElem?_eq_getElem h]
  simp only [natL, iv, List.map_append, Option.toList, List.map_cons, List.map_nil]
theorem own_block_ge {w : World} {base : Nat} {e : TypeId} {v : Value} {n : Nat} {xs : List Value} (h : w.ownsRow base e 1 v n xs) {g : Nat} (hg : v.ownBlock = some g) : base ≤ g := by
  rcases h.2 with ⟨rfl, _⟩ | ⟨g', cap, cur, rfl, hb, _⟩
  · simp [Value.ownBlock] at hg
  · simp [Value.ownBlock] at hg; omega
end Go.Pax
namespace Go.Proofs.YtfhiioopimmahaaGreatDoor
open Go.RowKit Go.Pax Go.Shelf
set_option maxRecDepth 100000 in
set_option maxHeartbeats 8000000 in
theorem options (w : World) (x y : Int) (l : List UInt8) (n : Nat) (ao : Option Addr) (c : Nat) (fp : List Nat) (hx : 0 ≤ x ∧ x ≤ 65535) (hy : 0 ≤ y ∧ y ≤ 65535) (hn : l.length = n) (hl : n ≤ 17592186044416) (h : Rd w fp ao (bv l)) :
    Calls Tryz.prog 11 #[.int .u16 x, .int .u16 y, .slice ao n c] w fun e w' => ∃ a cap, e = .returned (.agg #[.int .i64 (1 + x), .int .i64 (1 + y), .slice a n cap]) ∧ w'.ownsRow w.heap.size 3 1 (.slice a n cap) n (iv (natL l)) ∧ Chg [] w w' := by
  obtain ⟨ii, hii, hii0, hii1, hii2⟩ := info_parts Tryz.vinfoI
  have H := Lib.hid h
  have HN := Lib.hid hn
  have HT := Lib.hid (natL_take l)
  have HTA := Lib.hid (congrArg (fun z => iv (natL z)) (List.take_length (l := l)))
  clear h hn
  have hk0 : Chg [] w ((w.alloc (.cells #[.int .i64 0, .int .i64 0, .slice none 0 0] 33)).alloc (.cells #[.int .i64 (1 + x), .int .i64 (1 + y), .slice none 0 0] 33)) := ((Chg.refl _ _).alloc _).alloc _
  have e0 : ((w.alloc (.cells #[.int .i64 0, .int .i64 0, .slice none 0 0] 33)).alloc (.cells #[.int .i64 (1 + x), .int .i64 (1 + y), .slice none 0 0] 33)).heap[w.heap.size]? = some (.cells #[.int .i64 0, .int .i64 0, .slice none 0 0] 33 (0, 0)) := heap_keep (heap_alloc_new _ _)
  have e1 : ((w.alloc (.cells #[.int .i64 0, .int .i64 0, .slice none 0 0] 33)).alloc (.cells #[.int .i64 (1 + x), .int .i64 (1 + y), .slice none 0 0] 33)).heap[w.heap.size + 1]? = some (.cells #[.int .i64 (1 + x), .int .i64 (1 + y), .slice none 0 0] 33 (0, 0)) := heap_new_at (by simp)
  go_enter Tryz.func11, Tryz.ntmps11
  go_upto_region 3 with (fail)
  generalize (w.alloc (.cells #[.int .i64 0, .int .i64 0, .slice none 0 0] 33)).alloc (.cells #[.int .i64 (1 + x), .int .i64 (1 + y), .slice none 0 0] 33) = W at *
  have HK0 := Lib.hid hk0
  have HE := Lib.hid (And.intro e0 e1)
  clear hk0 e0 e1
  go_loopw [19] (fun i wr => ∃ k : Nat, k ≤ n ∧ i = .int .i64 k ∧ Chg [] w wr ∧ wr.heap[w.heap.size]? = some (.cells #[.int .i64 0, .int .i64 0, .slice none 0 0] 33 (0, 0)) ∧
    ∃ a cap, wr.heap[w.heap.size + 1]? = some (.cells #[.int .i64 (1 + x), .int .i64 (1 + y), .slice a k cap] 33 (0, 0)) ∧ wr.ownsRow (w.heap.size + 2) 3 1 (.slice a k cap) k (iv (natL (l.take k)))) (fun i _ => n - (intOf i).toNat)
  case atStart => exact ⟨0, Nat.zero_le _, rfl, HK0.out, HE.out.1, none, 0, HE.out.2, ⟨by simp [natL, iv], .inl ⟨rfl, rfl⟩⟩⟩
  case round =>
    obtain ⟨k, hk, rfl, hkr, e0, a, cap, e1, hown⟩ := hrel
    have HKR := Lib.hid hkr
    have HE := Lib.hid (And.intro e0 e1)
    have HO := Lib.hid hown
    have d2 : wr.cell? ⟨w.heap.size + 1, 2, none⟩ = some (.slice a k cap) := cell_heap e1 2 rfl
    by_cases hlt : k < n
    · have hkL : k < l.length := by rw [HN.out]; exact hlt
      obtain ⟨ad, rfl, hbf, hcell⟩ := (H.out.chg hkr (by simp)) k _ (bv_get l k hkL)
      have HTK := Lib.hid (HT.out k hkL)
      have hr : (l[k].toNat : Int) < 256 := by have := l[k].toNat_lt; omega
      have hs2 := lt_of_block e1
      clear hkr hown hbf
      generalize l[k].toNat = b at *
      have hkr1 : Chg [] wr (wr.alloc (.cells #[.int .i64 b] 3)) := (Chg.refl _ _).alloc _
      have hrd : Rd (wr.alloc (.cells #[.int .i64 b] 3)) [wr.heap.size] (some ⟨wr.heap.size, 0, none⟩) [.int .i64 b] := fun j u hu => by
        have hj : j = 0 := by have := (List.getElem?_eq_some_iff.1 hu).1; simp at this; exact this
        subst hj
        simp at hu; subst hu
        exact ⟨_, rfl, by simp, cell_heap (heap_alloc_new _ _) 0 rfl⟩
      have HRD := Lib.hid hrd
      have HK1 := Lib.hid hkr1
      have hnb1 : some (w.heap.size + 1) ≠ (Value.slice a k cap).ownBlock := fun e => by have := own_block_ge HO.out e.symm; omega
      have hnb0 : some w.heap.size ≠ (Value.slice a k cap).ownBlock := fun e => by have := own_block_ge HO.out e.symm; omega
      have HNB := Lib.hid (And.intro hnb0 hnb1)
      have HEB := Lib.hid (And.intro (hkr1.heap e0 (by simp)) (hkr1.heap e1 (by simp)))
      have HOB := Lib.hid (own_chg HO.out hkr1 (by simp))
      clear hrd hkr1 e0 hnb0 hnb1
      have hone : ∀ u ∈ [Value.int .i64 (b : Int)], u.oneCell' = true := by intro u hu; simp at hu; subst hu; rfl
      go_upto_region 6 with (at_builtin; refine wpList_append_rd rfl (.tmp 24) (.tmp 27) 31 rfl (w.heap.size + 2) 3 ii (.int .i64 0) 8 Tryz.underlying31 hii hii0 hii1 hii2 rfl (.slice a k cap) k (iv (natL (l.take k))) rfl HOB.out (some ⟨wr.heap.size, 0, none⟩) 1 1 [wr.heap.size] [.int .i64 b] rfl rfl HRD.out hone (by omega) (by unfold maxLen; omega) (by simp; omega) ?_; intro a3 c3 w3 hown3 hgr3 hat3; have hb3 := grown_heap hgr3 HEB.out.2 HNB.out.2; have hb0 := grown_heap hgr3 HEB.out.1 HNB.out.1; have g2 : w3.cell? ⟨w.heap.size + 1, 2, none⟩ = some (.slice a k cap) := cell_heap hb3 2 rfl; have f2 : w3.frozen? ⟨w.heap.size + 1, 2, none⟩ = false := frozen_of_row _ _ _ _ _ hb3; have HK3 := Lib.hid ((HKR.out.trans HK1.out).grown hgr3 (fun g hg hl => by have := own_block_ge HO.out hg; omega)); have HW3 := Lib.hid (And.intro hb0 (And.intro hb3 hown3)); clear hb3 hb0 hown3 hgr3 hat3)
      have hk4 : Chg [] w (w3.setCell ⟨w.heap.size + 1, 2, none⟩ (.slice a3 (k + 1) c3)) := HK3.out.setCell (fun h => by have h : w.heap.size + 1 < w.heap.size := h; omega) _
      have hb4 := heap_set HW3.out.2.1 2 (.slice a3 (k + 1) c3) rfl
      have hc4 : Chg [w.heap.size + 1] w3 (w3.setCell ⟨w.heap.size + 1, 2, none⟩ (.slice a3 (k + 1) c3)) := (Chg.refl _ _).setCell (fun _ => by simp) _
      have hb5 := hc4.heap HW3.out.1 (by simp)
      have ho4 := own_chg HW3.out.2.2 hc4 (fun g hg hm => by simp at hm; omega)
      rw [← HTK.out] at ho4
      have HF := Lib.hid (And.intro hk4 (And.intro hb5 (And.intro hb4 ho4)))
      clear hk4 hb4 hc4 hb5 ho4
      go_wp2_with fail
      go_roundw
      case rel => exact ⟨k + 1, by omega, by go_num, HF.out.1, HF.out.2.1, a3, c3, HF.out.2.2.1, HF.out.2.2.2⟩
      case measure => simp [intOf]; omega
    · have hkk : k = n := by omega
      subst hkk
      have hE1 := HE.out.2
      have hE0 := HE.out.1
      have c0 : wr.cell? ⟨w.heap.size + 1, 0, none⟩ = some (.int .i64 (1 + x)) := cell_heap hE1 0 rfl
      have c1 : wr.cell? ⟨w.heap.size + 1, 1, none⟩ = some (.int .i64 (1 + y)) := cell_heap hE1 1 rfl
      have z0 : wr.cell? ⟨w.heap.size, 0, none⟩ = some (.int .i64 0) := cell_heap hE0 0 rfl
      have z1 : wr.cell? ⟨w.heap.size, 1, none⟩ = some (.int .i64 0) := cell_heap hE0 1 rfl
      have z2 : wr.cell? ⟨w.heap.size, 2, none⟩ = some (.slice none 0 0) := cell_heap hE0 2 rfl
      have f0 := frozen_of_row wr w.heap.size 0 _ _ hE0
      have f1 := frozen_of_row wr w.heap.size 1 _ _ hE0
      have f2 := frozen_of_row wr w.heap.size 2 _ _ hE0
      clear hE0 hE1 e0 e1 hkr hown
      go_wp2_with fail
      have hta := HTA.out
      simp only [HN.out] at hta
      rw [hta] at HO
      have hb9 := heap_set (heap_set (heap_set HE.out.1 0 (.int .i64 (1 + x)) rfl) 1 (.int .i64 (1 + y)) rfl) 2 (.slice a k cap) rfl
      have hk9 : Chg [w.heap.size] wr (((wr.setCell ⟨w.heap.size, 0, none⟩ (.int .i64 (1 + x))).setCell ⟨w.heap.size, 1, none⟩ (.int .i64 (1 + y))).setCell ⟨w.heap.size, 2, none⟩ (.slice a k cap)) := (((Chg.refl _ _).setCell (fun _ => by simp) _).setCell (fun _ => by simp) _).setCell (fun _ => by simp) _
      generalize ((wr.setCell ⟨w.heap.size, 0, none⟩ (.int .i64 (1 + x))).setCell ⟨w.heap.size, 1, none⟩ (.int .i64 (1 + y))).setCell ⟨w.heap.size, 2, none⟩ (.slice a k cap) = W9 at *
      have r0 : W9.cell? ⟨w.heap.size, 0, none⟩ = some (.int .i64 (1 + x)) := cell_heap hb9 0 rfl
      have r1 : W9.cell? ⟨w.heap.size, 1, none⟩ = some (.int .i64 (1 + y)) := cell_heap hb9 1 rfl
      have r2 : W9.cell? ⟨w.heap.size, 2, none⟩ = some (.slice a k cap) := cell_heap hb9 2 rfl
      have hkk := HKR.out.trans' (U := []) hk9 (by simp) (fun g hg hl => by simp at hg; omega)
      have ho9 := own_chg HO.out hk9 (fun g hg hm => by simp at hm; omega)
      exact bodyPost_ret (v := .agg #[.int .i64 (1 + x), .int .i64 (1 + y), .slice a k cap]) (by simp [results, Tryz.results11, go_sem, r0, r1, r2]) rfl ⟨a, cap, rfl, own_low ho9 (by omega), hkk⟩
end Go.Proofs.YtfhiioopimmahaaGreatDoor
namespace Go.Pax
open Go.RowKit
theorem Rd.tight {w : World} {fp : List Nat} {ao : Option Addr} {xs : List Value} (h : Rd w fp ao xs) : ∃ fq, Rd w fq ao xs ∧ ∀ k ∈ fq, k ∈ fp ∧ k < w.heap.size := by
  cases xs with
  | nil => exact ⟨[], Rd.nil _ _ _, by simp⟩
  | cons x l =>
    obtain ⟨a, ha, hb, hc⟩ := h 0 x rfl
    subst ha
    have hlt := World.block_lt_of_cell? w _ hc
    rw [block_add] at hlt
    refine ⟨[a.block], fun j u hu => ?_, by simp; exact ⟨hb, hlt⟩⟩
    obtain ⟨a', ha', hb', hc'⟩ := h j u hu
    cases ha'
    exact ⟨_, rfl, by simp, hc'⟩
theorem Fs.In.upto {n m : Nat} {σ : Fs} (h : σ.In n) (hm : n ≤ m) : σ.In m := h.mono hm
theorem tooE_one {L : List AAct} (h : ¬ tooE L = 0) : tooE L = 1 := by
  unfold tooE at h ⊢
  split
  · rfl
  · rename_i h1; rw [if_neg h1] at h; exact absurd rfl h
theorem tooE_zero {L : List AAct} (h : tooE L = 0) : L.length ≤ 40 ∧ actsLen L ≤ 20000 := by
  unfold tooE at h
  split at h
  · cases h
  · omega
/-- The two words of an Lstat, on their own. -/
def stE (σ : Fs) (p : Str) : Int := match lkF σ.files p with
  | some _ => 0
  | none => 19
end Go.Pax
namespace Go.Proofs.YtfhiioopimmahaaGreatDoor
open Go.RowKit Go.Pax Go.Shelf
theorem Live.upto {w0 w : World} {f : Nat} {O : List Nat} {σ : Fs} {n m : Nat} (h : Live w0 w f O σ n) (hm : n ≤ m) : Live w0 w f O σ m := ⟨h.fs, h.inv.mono hm, h.own, h.chg⟩
theorem lstatV_at (σ : Fs) (p : Str) : ∃ (k m i l s : Int) (t : ByteArray) (u mt : Int), lstatV σ p = .tuple #[.agg #[.int .i64 k, .int .i64 m, .int .i64 i, .int .i64 l, .int .i64 s, .string t, .int .i64 u, .int .i64 mt], .int .i64 (stE σ p)] ∧ ∀ b, lkF σ.files p = some b → k = (σ.node b).kind ∧ m = (σ.node b).mode ∧ l = (σ.node b).links := by
  unfold lstatV stE
  cases h : lkF σ.files p with
  | none => exact ⟨0, 0, 0, 0, 0, ⟨#[]⟩, 0, 0, rfl, fun b hb => by cases hb⟩
  | some b => exact ⟨_, _, _, _, _, _, _, _, rfl, fun b' hb => by cases hb; exact ⟨rfl, rfl, rfl⟩⟩
/-- Options with two numbers, and New behind it. -/
theorem optsNil (w : World) (x y : Int) (hx : 0 ≤ x ∧ x ≤ 65535) (hy : 0 ≤ y ∧ y ≤ 65535) :
    Calls Tryz.prog 11 #[.int .u16 x, .int .u16 y, .slice none 0 0] w fun e w' => ∃ a cap, e = .returned (.agg #[.int .i64 (1 + x), .int .i64 (1 + y), .slice a 0 cap]) ∧ Chg [] w w' := by
  refine (options w x y [] 0 none 0 [] hx hy rfl (by omega) (Rd.nil _ _ _)).mono ?_
  rintro e w' ⟨a, cap, he, _, hk⟩
  exact ⟨a, cap, he, hk⟩
theorem newNil (w0 w : World) (x y : Int) (a : Option Addr) (cap : Nat) (k : Chg [] w0 w) (hx : 0 ≤ x ∧ x ≤ 65535) (hy : 0 ≤ y ∧ y ≤ 65535) :
    Calls Tryz.prog 20 #[.agg #[.int .i64 (1 + x), .int .i64 (1 + y), .slice a 0 cap]] w fun e w' => ∃ f O b, e = .returned (.tuple #[.pointer (some ⟨f, 0, none⟩), .int .i64 0]) ∧ Live w0 w' f O (newFs (1 + x) (1 + y) [] b) 0 ∧ Chg [] w w' := by
  refine (liveNew w0 w (1 + x) (1 + y) [] a 0 cap [] k rfl (by omega) (by omega) (fun j u hu => by simp [iv] at hu)).mono ?_
  rintro e w' ⟨_, h2⟩
  have h0 : newE (1 + x) (1 + y) [] = 0 := by
    unfold newE
    rw [if_pos]
    refine ⟨by unfold inOpt; omega, by unfold inOpt; omega, by decide⟩
  exact h2 h0
end Go.Proofs.YtfhiioopimmahaaGreatDoor
namespace Go.Proofs.YtfhiioopimmahaaGreatDoor
open Go.RowKit Go.Pax Go.Shelf
theorem HpNew.mono {w w' : World} {h : Nat} {Q : List Nat} {L M : List Str} (H : HpNew w w' h Q L) (hp : L.Perm M) : HpNew w w' h Q M := by
  obtain ⟨L', h1, h2, h3⟩ := H
  exact ⟨L', h1, h2.trans hp, h3⟩
set_option maxRecDepth 100000 in
set_option maxHeartbeats 8000000 in
theorem expand (w : World) (f : Nat) (O : List Nat) (σ : Fs) (h : Nat) (Q : List Nat) (L : List Str) (d : Str) (b bf bt : Nat) (tf tt : TypeId) (hf : FsAt w f O σ) (hok : σ.Ok) (ht : Tidy σ) (hH : HpAt w h Q L) (hh : HeapN L L.length) (hQO : ∀ g ∈ Q, g ∉ O)
    (hbf : w.heap[bf]? = some (.cells #[.pointer (some ⟨f, 0, none⟩)] tf (0, 0))) (hbt : w.heap[bt]? = some (.cells #[.pointer (some ⟨h, 0, none⟩)] tt (0, 0))) (hto : bt ∉ O) (htq : bt ∉ Q)
    (hd : lkF σ.files d = some b) (hk : (σ.node b).kind = 0) (hL : L.length + (σ.node b).names.length ≤ 1000000) :
    Calls Tryz.prog 68 #[.string (ba d), .pointer (some ⟨bf, 0, none⟩), .pointer (some ⟨bt, 0, none⟩)] w fun e w' => e = .returned (.int .i64 0) ∧ FsAt w' f O { σ with lists := σ.lists + 1 } ∧ Chg (O ++ Q) w w' ∧ ∃ Q' L', HpAt w' h Q' L' ∧ (∀ g ∈ Q', g ∈ Q ∨ w.heap.size ≤ g) ∧ L'.Perm (kids σ d b ++ L) ∧ HeapN L' L'.length := by
  have hdl : d.length ≤ 1000000 := by have := ht.short d b hd; omega
  have hn0 : ∀ s ∈ listed σ (σ.node b).names, s.length ≤ 1000000 := fun s hs => by
    obtain ⟨_, c, hc⟩ := ht.there d b hd hk s ((listed_perm σ _).mem_iff.1 hs)
    have := ht.short _ _ hc
    have := join_len d s
    omega
  have hLE : listE σ d = 0 := by unfold listE; rw [hd]; simp only; rw [if_pos hk]
  have HLS := Lib.hid (show Calls Tryz.prog 69 #[.pointer (some ⟨f, 0, none⟩), .string (ba d)] w (fun e w' => ∃ ao n c, e = .returned (.tuple #[.slice ao n c, .int .i64 0]) ∧ n = (σ.node b).names.length ∧ w'.ownsRow w.heap.size 9 1 (.slice ao n c) n (svn (listed σ (σ.node b).names)) ∧ FsSame w w' f O { σ with lists := σ.lists + 1 }) from by
    refine (list w f O σ d hf hok).mono ?_
    rintro e w' ⟨_, h2⟩
    obtain ⟨b', ao, n, c, hb', he, hn, ho, hs⟩ := h2 hLE
    rw [hd] at hb'
    cases hb'
    exact ⟨ao, n, c, he, hn, ho, hs⟩)
  have hnl : (listed σ (σ.node b).names).length = (σ.node b).names.length := (listed_perm σ _).length_eq
  have hpm : ((listed σ (σ.node b).names).map (joinP d) ++ L).Perm (kids σ d b ++ L) := ((listed_perm σ _).map _).append_right L
  have HPM := Lib.hid hpm
  have c0 := cell_heap hbf 0 (v := .pointer (some ⟨f, 0, none⟩)) rfl
  have HBT := Lib.hid (fun W (k : Chg O w W) => (k.heap hbt hto))
  have HH := Lib.hid (And.intro hH (And.intro hh hQO))
  have HQL := Lib.hid hH.lt
  have HTQ := Lib.hid htq
  have HN0 := Lib.hid (And.intro hn0 hdl)
  generalize listed σ (σ.node b).names = M at *
  generalize (σ.node b).names.length = N at *
  have HNL := Lib.hid hnl
  have HLN := Lib.hid hL
  have HDD := Lib.hid (show ba d = ba d from rfl)
  clear hf hok ht hH hh hQO hbf hbt hto htq hd hk hn0 hLE hnl hpm hdl hL
  obtain ⟨D, hD⟩ : ∃ D, D = ba d := ⟨_, rfl⟩
  rw [← hD] at HLS ⊢
  have HDE := Lib.hid hD
  clear hD HDD
  go_enter Tryz.func68, Tryz.ntmps68
  go_wp2_with (go_at_call 69; refine HLS.out.mono ?_; rintro e w1 ⟨ao, n, c, rfl, hn, ho, hs⟩; have HS1 := Lib.hid (And.intro ho hs); have HN1 := Lib.hid hn; clear hn ho hs)
  have HRD := Lib.hid (own_rd2 HS1.out.1)
  have HH1 := Lib.hid (HH.out.1.foreign HS1.out.2.2 HH.out.2.2)
  have HNB := Lib.hid (show n ≤ 1000000 by have := HLN.out; have := HN1.out; omega)
  go_loopw [17, 8] (fun i u wr => ∃ (k : Nat) (L' : List Str), i = .int .i64 k ∧ k ≤ n ∧ HpTo w1 wr h Q L' ∧ L'.Perm ((M.take k).map (joinP d) ++ L) ∧ HeapN L' L'.length) (fun i _ _ => n - (intOf i).toNat)
  case atStart => exact ⟨0, L, rfl, Nat.zero_le _, ⟨Q, ⟨HH1.out, fun _ hg => .inl hg⟩, Chg.refl _ _⟩, by simp, HH.out.2.1⟩
  case round =>
    obtain ⟨k, L', rfl, hkn, hto, hp, hh⟩ := hrel
    have HT := Lib.hid (And.intro hto (And.intro hp hh))
    clear hto hp hh
    have hnb := HNB.out
    by_cases hlt : k < n
    · have hkM : k < M.length := by rw [HNL.out, ← HN1.out]; exact hlt
      obtain ⟨Q1, ⟨hA, hQ1⟩, hK⟩ := HT.out.1
      have HA := Lib.hid (And.intro hA (And.intro hQ1 hK))
      obtain ⟨ad, rfl, _, d3⟩ := (HRD.out.1.chg hK (fun x hx hq => by have := (HRD.out.2.1 x hx).1; have := HQL.out x hq; omega)) k (.string (ba M[k])) (by unfold svn; rw [sv_get _ _ (by simpa using hkM)]; simp)
      have hbt := hK.heap (HBT.out w1 HS1.out.2.2) HTQ.out
      have HBW := Lib.hid hbt
      have HCE := Lib.hid (fun W (kw : Chg [] wr W) => cell_heap (kw.heap hbt (by simp)) 0 (v := .pointer (some ⟨h, 0, none⟩)) rfl)
      have hj := fun W => joinS W d M[k] HN0.out.2 (HN0.out.1 _ (List.getElem_mem hkM))
      rw [← HDE.out] at hj
      have HJ := Lib.hid hj
      have hpl : L'.length ≤ 1000000 := by
        have h1 := HT.out.2.1.length_eq
        have h2 := HLN.out
        have h3 := HN1.out
        simp at h1
        omega
      have HON := Lib.hid (fun W (kw : Chg [] wr W) (hb : W.heap[wr.heap.size]? = some (.cells #[.string (ba (joinP d M[k]))] 9 (0, 0))) => hone W h Q1 L' (joinP d M[k]) wr.heap.size _ (hA.foreign kw (by simp)) HT.out.2.2 hpl hb)
      have hpk : (joinP d M[k] :: L').Perm ((M.take (k + 1)).map (joinP d) ++ L) := by
        rw [List.take_add_one, List.getElem?_eq_getElem hkM]
        simp only [Option.toList, List.map_append, List.map_cons, List.map_nil, List.append_assoc, List.cons_append, List.nil_append]
        exact ((HT.out.2.1.cons _).trans List.perm_middle.symm)
      have HPK := Lib.hid hpk
      have hQ1s := Lib.hid (fun g (hg : g ∈ Q1) => hA.lt g hg)
      have HCB := Lib.hid (fun (W W' : World) (hn : HpNew (wr.drew.alloc (.cells #[.string (ba (joinP d M[k]))] 9)) W' h Q1 (joinP d M[k] :: L')) => (show W'.cell? ⟨bt, 0, none⟩ = some (.pointer (some ⟨h, 0, none⟩)) by
        obtain ⟨L2, ⟨Q2, _, hk2⟩, _⟩ := hn
        have hb2 := (((Chg.refl [] wr).drew.alloc (.cells #[.string (ba (joinP d M[k]))] 9)).heap hbt (by simp))
        refine cell_heap (hk2.heap hb2 (fun hm => ?_)) 0 rfl
        rcases hQ1 bt hm with h4 | h4
        · exact HTQ.out h4
        · have := lt_of_block (HBT.out w1 HS1.out.2.2); omega))
      clear hA hQ1 hK hbt hj hpl hpk
      generalize ba M[k] = X at *
      generalize ba (joinP d M[k]) = Y at *
      go_upto_region 5 with (fail)
      refine wp_region_held_drew (S := fun q => q.cell? ⟨bt, 0, none⟩ = some (.pointer (some ⟨h, 0, none⟩))) (by kernel_rfl) ?_ (fun hHeld => ?_)
      · exact HCE.out _ (Chg.refl _ _).drew
      refine wpAnyH_take (i := 0) (oi := ?oi1) (v := ?v1) ?hi1 (by kernel_rfl) (by kernel_rfl) (by kernel_rfl) ?hQ1 (Or.inl ⟨?hw1, ?hy1⟩) (by assumption) ?hr1
      case hi1 => simp only [List.getElem?_toArray, List.getElem?_cons_zero]; rfl
      case hQ1 => exact fun _ _ _ h => h
      case hw1 => rfl
      case hy1 => intro w hSw; (try dsimp only at hSw); go_simp; (try with_reducible rfl)
      case hr1 =>
      simp only [Act.put, List.setIfInBounds_toArray, List.set_cons_zero, List.set_cons_succ]
      refine wpAnyH_take (i := 1) (oi := ?oi2) (v := ?v2) ?hi2 (by kernel_rfl) (by kernel_rfl) (by kernel_rfl) ?hQ2 (Or.inl ⟨?hw2, ?hy2⟩) (by assumption) ?hr2
      case hi2 => simp only [List.getElem?_toArray, List.getElem?_cons_succ, List.getElem?_cons_zero]; rfl
      case hQ2 => exact fun _ _ _ h => h
      case hw2 => rfl
      case hy2 => intro w hSw; (try dsimp only at hSw); go_simp; (try with_reducible rfl)
      case hr2 =>
      simp only [Act.put, List.setIfInBounds_toArray, List.set_cons_zero, List.set_cons_succ]
      refine wpAnyH_take (i := 2) (oi := ?oi3) (v := ?v3) ?hi3 (by kernel_rfl) (by kernel_rfl) (by kernel_rfl) ?hQ3 (Or.inl ⟨?hw3, ?hy3⟩) (by assumption) ?hr3
      case hi3 => simp only [List.getElem?_toArray, List.getElem?_cons_succ, List.getElem?_cons_zero]; rfl
      case hQ3 => exact fun _ _ _ h => h
      case hw3 => rfl
      case hy3 => intro w hSw; (try dsimp only at hSw); go_simp; (try with_reducible rfl)
      case hr3 =>
      simp only [Act.put, List.setIfInBounds_toArray, List.set_cons_zero, List.set_cons_succ]
      refine wpAnyH_ready (rs := [3]) (by kernel_rfl) (by simp) (AllReadyH.cons (o := ?oc4) ?hc4 (fun K hK => ?hs4) AllReadyH.nil)
      case hc4 => simp only [List.getElem?_toArray, List.getElem?_cons_succ, List.getElem?_cons_zero]; rfl
      case hs4 =>
      rw [if_pos (by rfl)]
      go_simp
      go_at_call 71; refine (HJ.out _).mono ?_; rintro e w2 ⟨rfl, hw2⟩; obtain rfl := hw2.symm
      go_wp2_with fail
      refine hK.out _ _ ?_ (fun hHeld => ?_)
      · exact hHeld
      clear hK K
      try simp only [Act.put, List.setIfInBounds_toArray, List.set_cons_zero, List.set_cons_succ]
      refine wpAnyH_ready (rs := [4]) (by kernel_rfl) (by simp) (AllReadyH.cons (o := ?oc5) ?hc5 (fun K hK => ?hs5) AllReadyH.nil)
      case hc5 => simp only [List.getElem?_toArray, List.getElem?_cons_succ, List.getElem?_cons_zero]; rfl
      case hs5 =>
      rw [if_pos (by rfl)]
      go_simp
      
      go_wp2_with fail
      refine hK.out _ _ ?_ (fun hHeld => ?_)
      · exact HCE.out _ ((Chg.refl _ _).drew.alloc _)
      clear hK K
      try simp only [Act.put, List.setIfInBounds_toArray, List.set_cons_zero, List.set_cons_succ]
      refine wpAnyH_ready (rs := [5]) (by kernel_rfl) (by simp) (AllReadyH.cons (o := ?oc6) ?hc6 (fun K hK => ?hs6) AllReadyH.nil)
      case hc6 => simp only [List.getElem?_toArray, List.getElem?_cons_succ, List.getElem?_cons_zero]; rfl
      case hs6 =>
      rw [if_pos (by rfl)]
      go_simp
      go_at_call 70; refine (HON.out _ ((Chg.refl _ _).drew.alloc _) (heap_alloc_new _ _)).mono ?_; rintro e w3 ⟨rfl, hw3⟩; have HW3 := Lib.hid hw3; clear hw3
      go_wp2_with fail
      refine hK.out _ _ ?_ (fun hHeld => ?_)
      · exact HCB.out wr _ HW3.out
      clear hK K
      try simp only [Act.put, List.setIfInBounds_toArray, List.set_cons_zero, List.set_cons_succ]
      refine wpAnyH_done (by kernel_rfl) ?_ _
      go_wp2_with fail
      obtain ⟨L2, hl1, hl2, hl3⟩ := HW3.out
      have hA2 : HpTo w1 w3 h Q L2 := HpTo.then_ HA.out.2.2 HA.out.2.1 (HpTo.then_ (((Chg.refl [] wr).drew.alloc (.cells #[.string Y] 9)).mono (by simp)) (fun g hg => .inl hg) hl1)
      have HL2 := Lib.hid (And.intro hA2 (And.intro (hl2.trans HPK.out) hl3))
      clear hl1 hl2 hl3 hA2
      go_roundw
      case rel => exact ⟨k + 1, L2, by go_num, by omega, HL2.out⟩
      case measure => simp [intOf]; omega
    · have hkk : k = n := by omega
      subst hkk
      obtain ⟨Q1, ⟨hA, hQ1⟩, hK⟩ := HT.out.1
      have HA := Lib.hid (And.intro hA (And.intro hQ1 hK))
      clear hA hQ1 hK
      go_wp2_with fail
      go_ret
      have hpf := HT.out.2.1
      rw [List.take_of_length_le (by rw [HNL.out, ← HN1.out]; exact Nat.le_refl _)] at hpf
      refine ⟨rfl, HS1.out.2.1.foreign HA.out.2.2 (fun g hg hq => HH.out.2.2 g hq hg), ?_, Q1, L', HA.out.1, fun g hg => ?_, hpf.trans HPM.out, HT.out.2.2⟩
      · exact HS1.out.2.2.trans' HA.out.2.2 (fun x hx _ => List.mem_append_left _ hx) (fun x hx _ => List.mem_append_right _ hx)
      · rcases HA.out.2.1 g hg with h4 | h4
        · exact .inl h4
        · exact .inr (Nat.le_trans HS1.out.2.2.size h4)
end Go.Proofs.YtfhiioopimmahaaGreatDoor
namespace Go.Pax
open Go.RowKit
/-- The file system after k listings more. -/
def ls (σ : Fs) (k : Nat) : Fs := { σ with lists := σ.lists + k }
theorem ls_in {σ : Fs} {n : Nat} (h : σ.In n) (k : Nat) : (ls σ k).In (n + k) :=
  ⟨by have := h.next; show 0 ≤ σ.next ∧ σ.next ≤ _; omega, h.step, fun p b hb => by have := h.names p b hb; show (σ.node b).names.length ≤ _; omega, by have := h.lists; show 0 ≤ σ.lists + (k : Int) ∧ σ.lists + (k : Int) ≤ _; omega, fun p b hb => by have := h.links p b hb; show 0 ≤ (σ.node b).links ∧ (σ.node b).links ≤ _; omega, h.rot, h.rotl⟩
theorem ls_like (σ : Fs) (k : Nat) : FsLike σ (ls σ k) := ⟨rfl, fun _ => ⟨rfl, rfl⟩⟩
theorem ls_succ (σ : Fs) (k : Nat) : { ls σ k with lists := (ls σ k).lists + 1 } = ls σ (k + 1) := by
  unfold ls
  simp only [Fs.mk.injEq, true_and, and_true]
  omega
end Go.Pax
namespace Go.Proofs.YtfhiioopimmahaaGreatDoor
open Go.RowKit Go.Pax Go.Shelf
/-- The file system (own blocks O), the heap of paths (h; Q) and what the caller keeps (J; R). -/
structure Mst (J : World → List Nat → List Str → Prop) (w w' : World) (f h bf bt : Nat) (O R0 : List Nat) (σ : Fs) (k : Nat) (Q R : List Nat) (V L : List Str) : Prop where
  fs : FsAt w' f O (ls σ k)
  hp : HpAt w' h Q L
  j : J w' R V
  qo : ∀ g ∈ Q, g ∉ O ∧ g ∉ R ∧ g ≠ bf ∧ g ≠ bt ∧ w.heap.size ≤ g
  ro : ∀ g ∈ R, g ∉ O ∧ g ≠ bf ∧ g ≠ bt ∧ (g ∈ R0 ∨ w.heap.size ≤ g) ∧ g < w'.heap.size
  bf : w'.heap[bf]? = some (.cells #[.pointer (some ⟨f, 0, none⟩)] 27 (0, 0)) ∧ bf ∉ O
  bt : w'.heap[bt]? = some (.cells #[.pointer (some ⟨h, 0, none⟩)] 129 (0, 0)) ∧ bt ∉ O
  chg : Chg (O ++ R0) w w'
/-- What the caller keeps stands where its blocks stand. -/
def Stays (J : World → List Nat → List Str → Prop) : Prop := ∀ w w' R V S, J w R V → Chg S w w' → (∀ g ∈ R, g ∉ S) → J w' R V
theorem Mst.quiet {J : World → List Nat → List Str → Prop} (hJ : Stays J) {w w1 w2 : World} {f h bf bt k : Nat} {O R0 Q R : List Nat} {σ : Fs} {V L : List Str} (H : Mst J w w1 f h bf bt O R0 σ k Q R V L) (c : Chg [] w1 w2) : Mst J w w2 f h bf bt O R0 σ k Q R V L :=
  ⟨H.fs.foreign c (by simp), H.hp.foreign c (by simp), hJ _ _ _ _ _ H.j c (by simp), H.qo, fun g hg => ⟨(H.ro g hg).1, (H.ro g hg).2.1, (H.ro g hg).2.2.1, (H.ro g hg).2.2.2.1, Nat.lt_of_lt_of_le (H.ro g hg).2.2.2.2 c.size⟩, ⟨c.heap H.bf.1 (by simp), H.bf.2⟩, ⟨c.heap H.bt.1 (by simp), H.bt.2⟩, H.chg.trans (c.mono (by simp))⟩
theorem Mst.heapTo {J : World → List Nat → List Str → Prop} (hJ : Stays J) {w w1 w2 : World} {f h bf bt k : Nat} {O R0 Q R : List Nat} {σ : Fs} {V L L2 : List Str} (H : Mst J w w1 f h bf bt O R0 σ k Q R V L) (c : HpTo w1 w2 h Q L2) : ∃ Q2, Mst J w w2 f h bf bt O R0 σ k Q2 R V L2 := by
  obtain ⟨Q2, ⟨h1, h2⟩, h3⟩ := c
  have hO := H.fs.lt
  have hbf := lt_of_block H.bf.1
  have hbt := lt_of_block H.bt.1
  refine ⟨Q2, H.fs.foreign h3 (fun g hg hq => (H.qo g hq).1 hg), h1, hJ _ _ _ _ _ H.j h3 (fun g hg hq => (H.qo g hq).2.1 hg), fun g hg => ?_, fun g hg => ⟨(H.ro g hg).1, (H.ro g hg).2.1, (H.ro g hg).2.2.1, (H.ro g hg).2.2.2.1, Nat.lt_of_lt_of_le (H.ro g hg).2.2.2.2 h3.size⟩, ⟨h3.heap H.bf.1 (fun hq => (H.qo _ hq).2.2.1 rfl), H.bf.2⟩, ⟨h3.heap H.bt.1 (fun hq => (H.qo _ hq).2.2.2.1 rfl), H.bt.2⟩, H.chg.trans' h3 (fun x hx _ => hx) (fun x hx hl => by have := (H.qo x hx).2.2.2.2; omega)⟩
  rcases h2 g hg with h4 | h4
  · exact H.qo g h4
  · have := H.chg.size
    exact ⟨fun hm => by have := hO g hm; omega, fun hm => by have := (H.ro g hm).2.2.2.2; omega, by omega, by omega, by omega⟩
theorem Mst.kept {J : World → List Nat → List Str → Prop} {w w1 w2 : World} {f h bf bt k : Nat} {O R0 Q R R2 : List Nat} {σ : Fs} {V V2 L : List Str} (H : Mst J w w1 f h bf bt O R0 σ k Q R V L) (c : Chg R w1 w2) (hj : J w2 R2 V2) (hr : ∀ g ∈ R2, g ∈ R ∨ w1.heap.size ≤ g) (hl : ∀ g ∈ R2, g < w2.heap.size) : Mst J w w2 f h bf bt O R0 σ k Q R2 V2 L := by
  have hO := H.fs.lt
  have hQ := H.hp.lt
  have hbf := lt_of_block H.bf.1
  have hbt := lt_of_block H.bt.1
  have hsz := H.chg.size
  refine ⟨H.fs.foreign c (fun g hg hq => (H.ro g hq).1 hg), H.hp.foreign c (fun g hg hq => (H.qo g hg).2.1 hq), hj, fun g hg => ⟨(H.qo g hg).1, fun hm => ?_, (H.qo g hg).2.2⟩, fun g hg => ?_, ⟨c.heap H.bf.1 (fun hq => (H.ro _ hq).2.1 rfl), H.bf.2⟩, ⟨c.heap H.bt.1 (fun hq => (H.ro _ hq).2.2.1 rfl), H.bt.2⟩, H.chg.trans' c (fun x hx _ => hx) (fun x hx hl => ?_)⟩
  · rcases hr g hm with h4 | h4
    · exact (H.qo g hg).2.1 h4
    · have := hQ g hg; omega
  · rcases hr g hg with h4 | h4
    · exact ⟨(H.ro g h4).1, (H.ro g h4).2.1, (H.ro g h4).2.2.1, (H.ro g h4).2.2.2.1, hl g hg⟩
    · exact ⟨fun hm => by have := hO g hm; omega, by omega, by omega, .inr (by omega), hl g hg⟩
  · rcases (H.ro x hx).2.2.2.1 with h4 | h4
    · exact List.mem_append_right _ h4
    · omega
theorem Mst.lost {J : World → List Nat → List Str → Prop} {w w1 w2 : World} {f h bf bt k : Nat} {O R0 Q R : List Nat} {σ : Fs} {V L : List Str} (H : Mst J w w1 f h bf bt O R0 σ k Q R V L) (c : Chg R w1 w2) : FsAt w2 f O (ls σ k) ∧ Chg (O ++ R0) w w2 := by
  refine ⟨H.fs.foreign c (fun g hg hq => (H.ro g hq).1 hg), H.chg.trans' c (fun x hx _ => hx) (fun x hx hl => ?_)⟩
  rcases (H.ro x hx).2.2.2.1 with h4 | h4
  · exact List.mem_append_right _ h4
  · omega
theorem Mst.expanded {J : World → List Nat → List Str → Prop} (hJ : Stays J) {w w1 w2 : World} {f h bf bt k : Nat} {O R0 Q R Q2 : List Nat} {σ : Fs} {V L L2 : List Str} (H : Mst J w w1 f h bf bt O R0 σ k Q R V L) (hf : FsAt w2 f O { ls σ k with lists := (ls σ k).lists + 1 }) (c : Chg (O ++ Q) w1 w2) (hp : HpAt w2 h Q2 L2) (hq : ∀ g ∈ Q2, g ∈ Q ∨ w1.heap.size ≤ g) :
    Mst J w w2 f h bf bt O R0 σ (k + 1) Q2 R V L2 := by
  rw [ls_succ] at hf
  have hO := H.fs.lt
  have hbf := lt_of_block H.bf.1
  have hbt := lt_of_block H.bt.1
  have hsz := H.chg.size
  have hb : ∀ x, (w1.heap[x]? ≠ none) → x ∉ O → x ∉ Q → x ∉ O ++ Q := fun x _ h1 h2 hm => by
    rcases List.mem_append.1 hm with h3 | h3
    · exact h1 h3
    · exact h2 h3
  refine ⟨hf, hp, hJ _ _ _ _ _ H.j c (fun g hg hm => ?_), fun g hg => ?_, fun g hg => ⟨(H.ro g hg).1, (H.ro g hg).2.1, (H.ro g hg).2.2.1, (H.ro g hg).2.2.2.1, Nat.lt_of_lt_of_le (H.ro g hg).2.2.2.2 c.size⟩, ⟨c.heap H.bf.1 (fun hm => ?_), H.bf.2⟩, ⟨c.heap H.bt.1 (fun hm => ?_), H.bt.2⟩, H.chg.trans' c (fun x hx _ => hx) (fun x hx hl => ?_)⟩
  · rcases List.mem_append.1 hm with h3 | h3
    · exact (H.ro g hg).1 h3
    · exact (H.qo g h3).2.1 hg
  · rcases hq g hg with h4 | h4
    · exact H.qo g h4
    · exact ⟨fun hm => by have := hO g hm; omega, fun hm => by have := (H.ro g hm).2.2.2.2; omega, by omega, by omega, by omega⟩
  · rcases List.mem_append.1 hm with h3 | h3
    · exact H.bf.2 h3
    · exact (H.qo _ h3).2.2.1 rfl
  · rcases List.mem_append.1 hm with h3 | h3
    · exact H.bt.2 h3
    · exact (H.qo _ h3).2.2.2.1 rfl
  · rcases List.mem_append.1 hx with h3 | h3
    · exact List.mem_append_left _ h3
    · have := (H.qo x h3).2.2.2.2; omega
end Go.Proofs.YtfhiioopimmahaaGreatDoor
namespace Go.Pax
open Go.RowKit
structure ANode where
  kind : Int
  path : Str
  mode : Int
  target : Str
  data : List UInt8
  cls : Int
def ndc (x : ANode) (dv : Value) : List Value := [.int .i64 x.kind, .string (ba x.path), .int .i64 x.mode, .string (ba x.target), dv, .int .i64 x.cls]
def ndV (x : ANode) (dv : Value) : Value := .agg #[.int .i64 x.kind, .string (ba x.path), .int .i64 x.mode, .string (ba x.target), dv, .int .i64 x.cls]
def ndcells : List (ANode × Value) → List Value
  | [] => []
  | x :: l => ndc x.1 x.2 ++ ndcells l
theorem ndcells_length (l : List (ANode × Value)) : (ndcells l).length = l.length * 6 := by
  induction l with
  | nil => rfl
  | cons x l ih => simp [ndcells, ndc, ih]; omega
theorem ndcells_append (l m : List (ANode × Value)) : ndcells (l ++ m) = ndcells l ++ ndcells m := by
  induction l with
  | nil => rfl
  | cons x l ih => simp [ndcells, ih]
theorem ndcells_get : ∀ (l : List (ANode × Value)) (k : Nat) (h : k < l.length) (j : Nat), j < 6 → (ndcells l)[k * 6 + j]? = (ndc l[k].1 l[k].2)[j]?
  | x :: l, 0, _, j, hj => by
    simp only [ndcells]
    rw [List.getElem?_append_left (by simp [ndc]; omega)]
    simp
  | x :: l, k + 1, h, j, hj => by
    have := ndcells_get l k (by simpa using h) j hj
    simp only [ndcells, List.getElem_cons_succ]
    rw [List.getElem?_append_right (by simp [ndc]; omega)]
    rw [← this]
    congr 1
    simp [ndc]; omega
/-- The node of a path. -/
def nodeAt (nd : Nd) (p : Str) : ANode := ⟨nd.kind, p, if nd.kind = 2 then 0 else nd.mode, nd.target, if nd.kind = 1 then nd.data else [], if nd.kind = 1 then nd.ino else 0⟩
def nodeOf (σ : Fs) (p : Str) : ANode := match lkF σ.files p with
  | some b => nodeAt (σ.node b) p
  | none => ⟨0, p, 0, [], [], 0⟩
/-- What the function that Walk hands answers. -/
def kindE (k : Int) : Int := if k = 0 ∨ k = 1 ∨ k = 2 then 0 else 8
def walkE (σ : Fs) (p : Str) : Int := match lkF σ.files p with
  | some b => kindE (σ.node b).kind
  | none => 0
/-- A slice value that reads as bytes. -/
def RdD (w : World) (fp : List Nat) (dv : Value) (d : List UInt8) : Prop := ∃ ao c, dv = .slice ao d.length c ∧ Rd w fp ao (bv d)
theorem RdD.nil (w : World) (fp : List Nat) : RdD w fp (.slice none 0 0) [] := ⟨none, 0, rfl, Rd.nil _ _ _⟩
theorem RdD.chg {w w' : World} {S fp : List Nat} {dv : Value} {d : List UInt8} (h : RdD w fp dv d) (k : Chg S w w') (hS : ∀ g ∈ fp, g ∉ S) : RdD w' fp dv d := by
  obtain ⟨ao, c, h1, h2⟩ := h
  exact ⟨ao, c, h1, h2.chg k hS⟩
theorem RdD.mono {w : World} {fp fp' : List Nat} {dv : Value} {d : List UInt8} (h : RdD w fp dv d) (hf : ∀ k, k ∈ fp → k ∈ fp') : RdD w fp' dv d := by
  obtain ⟨ao, c, h1, h2⟩ := h
  exact ⟨ao, c, h1, h2.mono hf⟩
end Go.Pax
namespace Go.Proofs.YtfhiioopimmahaaGreatDoor
open Go.RowKit Go.Pax Go.Shelf
theorem Tryz.nodeSize : (Tryz.prog.info? 45).map (·.size) = some 6 := by kernel_rfl
theorem nd_ones (k m c : Int) (P T : ByteArray) (ao : Option Addr) (n cp : Nat) : (#[Value.int .i64 k, .string P, .int .i64 m, .string T, .slice ao n cp, .int .i64 c]).all (·.oneCell') = true := by simp [Value.oneCell']
theorem there_of {w : World} {g : Nat} {cur : Array Value} {t : TypeId} (h : w.heap[g]? = some (.cells cur t (0, 0))) {o n : Nat} (ho : o + n ≤ cur.size) : w.there g o n := fun j hj => by
  have hl : o + j < cur.size := by omega
  exact ⟨by rw [cell_heap h (o + j) (Array.getElem?_eq_getElem hl)]; rfl, frozen_of_row _ _ _ _ _ h⟩
theorem setCells_chg {w : World} {g o : Nat} {vs : List Value} : Chg [g] w (w.setCells g o vs) := by
  induction vs generalizing o w with
  | nil => exact Chg.refl _ _
  | cons v r ih =>
    rw [World.setCells]
    exact ((Chg.refl [g] w).setCell (p := ⟨g, o, none⟩) (fun _ => by simp) v).trans ih
/-- What node answers. -/
def NodeAs (e : Ending) (w w' : World) (nd : Nd) (p : Str) : Prop :=
  (kindE nd.kind ≠ 0 → e = .returned (.tuple #[.agg #[.int .i64 0, .string ⟨#[]⟩, .int .i64 0, .string ⟨#[]⟩, .slice none 0 0, .int .i64 0], .int .i64 8])) ∧
  (kindE nd.kind = 0 → ∃ dv fp, e = .returned (.tuple #[ndV (nodeAt nd p) dv, .int .i64 0]) ∧ RdD w' fp dv (nodeAt nd p).data ∧ (∀ g ∈ fp, w.heap.size ≤ g ∧ g < w'.heap.size))
set_option maxRecDepth 100000 in
set_option maxHeartbeats 16000000 in
theorem wnode (w : World) (f : Nat) (O : List Nat) (σ : Fs) (p : Str) (b : Nat) (h : FsAt w f O σ) (hd : ∀ p b, (p, b) ∈ σ.files → (σ.node b).data.length ≤ 140737488355328) (hb : lkF σ.files p = some b) :
    Calls Tryz.prog 34 #[.pointer (some ⟨f, 0, none⟩), .string (ba p), infoV (σ.node b)] w fun e w' => NodeAs e w w' (σ.node b) p ∧ Chg [] w w' := by
  have HR := Lib.hid (fun W (k : Chg [] w W) => readFile W f O σ p (h.foreign k (by simp)) hd)
  have HB := Lib.hid hb
  obtain ⟨nd, hnd⟩ : ∃ nd, nd = σ.node b := ⟨_, rfl⟩
  rw [← hnd]
  have HND := Lib.hid hnd
  clear h hd hb hnd
  unfold infoV
  obtain ⟨K, hK⟩ : ∃ z, z = nd.kind := ⟨_, rfl⟩
  rw [← hK]
  have HK := Lib.hid hK
  clear hK
  generalize hM : nd.mode = M at *
  generalize hI : nd.ino = IN at *
  generalize hT : ba nd.target = T at *
  have HF := Lib.hid (And.intro hM (And.intro hI hT))
  clear hM hI hT
  generalize nd.links = x4 at *
  generalize nd.size = x5 at *
  generalize nd.uid = x7 at *
  generalize nd.mtime = x8 at *
  obtain ⟨P, hP⟩ : ∃ P, P = ba p := ⟨_, rfl⟩
  rw [← hP]
  have HP := Lib.hid hP
  clear hP
  by_cases k0 : K = 0
  · subst k0
    go_enter Tryz.func34, Tryz.ntmps34
    go_wp2_with fail
    refine bodyPost_ret (v := .tuple #[.agg #[.int .i64 0, .string P, .int .i64 M, .string T, .slice none 0 0, .int .i64 0], .int .i64 0]) (by simp [results, Tryz.results34, go_sem]) rfl ⟨?_, (((Chg.refl _ _).alloc _).alloc _).alloc _⟩
    have h1 : nd.kind = 0 := HK.out.symm
    refine ⟨fun hne => absurd (by unfold kindE; rw [h1]; rfl) hne, fun _ => ⟨.slice none 0 0, [], ?_, ?_, by simp⟩⟩
    · unfold ndV nodeAt
      rw [h1, HF.out.1, HF.out.2.2, ← HP.out]
      rfl
    · unfold nodeAt
      rw [h1]
      exact RdD.nil _ _
  · by_cases k1 : K = 1
    · subst k1
      have h1 : nd.kind = 1 := HK.out.symm
      have hre : readE σ p = 0 := by unfold readE; rw [HB.out]; simp only; rw [← HND.out, h1]; rfl
      have HRD := Lib.hid (fun W (k : Chg [] w W) => (show Calls Tryz.prog 56 #[.pointer (some ⟨f, 0, none⟩), .string P] W (fun e w' => ∃ dv fp, e = .returned (.tuple #[dv, .int .i64 0]) ∧ RdD w' fp dv nd.data ∧ (∀ g ∈ fp, W.heap.size ≤ g ∧ g < w'.heap.size) ∧ Chg [] W w') from by
        rw [HP.out]
        refine (HR.out W k).mono ?_
        rintro e w' ⟨_, h2⟩
        obtain ⟨b', ao, cap, fp, hb', he, _, hown, _, hk⟩ := h2 hre
        rw [HB.out] at hb'
        cases hb'
        rw [← HND.out] at he hown
        refine ⟨_, _, he, ⟨ao, cap, rfl, (own_rd2 hown).1⟩, fun g hg => ?_, hk⟩
        exact (own_rd2 hown).2.1 g hg))
      have H1 := Lib.hid h1
      clear hre h1 HR
      go_enter Tryz.func34, Tryz.ntmps34
      go_upto_region 6 with (fail)
      have hk3 : Chg [] w (((w.alloc (.cells #[.int .i64 1, .int .i64 M, .int .i64 IN, .int .i64 x4, .int .i64 x5, .string T, .int .i64 x7, .int .i64 x8] 40)).alloc (.cells #[.int .i64 0, .string ⟨#[]⟩, .int .i64 0, .string ⟨#[]⟩, .slice none 0 0, .int .i64 0] 45)).alloc (.cells #[.int .i64 1, .string P, .int .i64 M, .string T, .slice none 0 0, .int .i64 0] 45)) := (((Chg.refl _ _).alloc _).alloc _).alloc _
      have e0 : (((w.alloc (.cells #[.int .i64 1, .int .i64 M, .int .i64 IN, .int .i64 x4, .int .i64 x5, .string T, .int .i64 x7, .int .i64 x8] 40)).alloc (.cells #[.int .i64 0, .string ⟨#[]⟩, .int .i64 0, .string ⟨#[]⟩, .slice none 0 0, .int .i64 0] 45)).alloc (.cells #[.int .i64 1, .string P, .int .i64 M, .string T, .slice none 0 0, .int .i64 0] 45)).heap[w.heap.size]? = some (.cells #[.int .i64 1, .int .i64 M, .int .i64 IN, .int .i64 x4, .int .i64 x5, .string T, .int .i64 x7, .int .i64 x8] 40 (0, 0)) := heap_keep (heap_keep (heap_alloc_new _ _))
      have e1 : (((w.alloc (.cells #[.int .i64 1, .int .i64 M, .int .i64 IN, .int .i64 x4, .int .i64 x5, .string T, .int .i64 x7, .int .i64 x8] 40)).alloc (.cells #[.int .i64 0, .string ⟨#[]⟩, .int .i64 0, .string ⟨#[]⟩, .slice none 0 0, .int .i64 0] 45)).alloc (.cells #[.int .i64 1, .string P, .int .i64 M, .string T, .slice none 0 0, .int .i64 0] 45)).heap[w.heap.size + 1]? = some (.cells #[.int .i64 0, .string ⟨#[]⟩, .int .i64 0, .string ⟨#[]⟩, .slice none 0 0, .int .i64 0] 45 (0, 0)) := heap_keep (heap_new_at (by simp))
      have e2 : (((w.alloc (.cells #[.int .i64 1, .int .i64 M, .int .i64 IN, .int .i64 x4, .int .i64 x5, .string T, .int .i64 x7, .int .i64 x8] 40)).alloc (.cells #[.int .i64 0, .string ⟨#[]⟩, .int .i64 0, .string ⟨#[]⟩, .slice none 0 0, .int .i64 0] 45)).alloc (.cells #[.int .i64 1, .string P, .int .i64 M, .string T, .slice none 0 0, .int .i64 0] 45)).heap[w.heap.size + 1 + 1]? = some (.cells #[.int .i64 1, .string P, .int .i64 M, .string T, .slice none 0 0, .int .i64 0] 45 (0, 0)) := heap_new_at (by simp)
      have HK3 := Lib.hid (And.intro hk3 (And.intro e0 (And.intro e1 e2)))
      have HNE := Lib.hid (show w.heap.size ≤ w.heap.size ∧ w.heap.size < w.heap.size + 1 ∧ w.heap.size + 1 < w.heap.size + 1 + 1 by omega)
      clear hk3 e0 e1 e2
      generalize ((w.alloc (.cells #[.int .i64 1, .int .i64 M, .int .i64 IN, .int .i64 x4, .int .i64 x5, .string T, .int .i64 x7, .int .i64 x8] 40)).alloc (.cells #[.int .i64 0, .string ⟨#[]⟩, .int .i64 0, .string ⟨#[]⟩, .slice none 0 0, .int .i64 0] 45)).alloc (.cells #[.int .i64 1, .string P, .int .i64 M, .string T, .slice none 0 0, .int .i64 0] 45) = W3 at *
      generalize w.heap.size + 1 + 1 = bn at *
      generalize w.heap.size + 1 = br at *
      obtain ⟨bi, hbi⟩ : ∃ x, x = w.heap.size := ⟨_, rfl⟩
      rw [← hbi] at HK3 HNE ⊢
      have HBI := Lib.hid hbi
      clear hbi
      go_upto_region 9 with (go_at_call 56; refine (HRD.out _ HK3.out.1).mono ?_; rintro e w5 ⟨_, fp, rfl, ⟨ao, cp, rfl, hd1⟩, hd2, hd3⟩; have HD := Lib.hid (And.intro hd1 (And.intro hd2 hd3)); clear hd1 hd2 hd3)
      have HDL := Lib.hid (show nd.data.length = nd.data.length from rfl)
      obtain ⟨dl, hdl⟩ : ∃ x, x = nd.data.length := ⟨_, rfl⟩
      rw [← hdl]
      have HDE := Lib.hid hdl
      clear hdl HDL
      have g0 := HD.out.2.2.heap HK3.out.2.1 (by simp)
      have g1 := HD.out.2.2.heap HK3.out.2.2.1 (by simp)
      have g2 := HD.out.2.2.heap HK3.out.2.2.2 (by simp)
      have s1 : (w5.setCell ⟨bn, 4, none⟩ (.slice ao dl cp)).heap[bn]? = some (.cells #[.int .i64 1, .string P, .int .i64 M, .string T, .slice ao dl cp, .int .i64 0] 45 (0, 0)) := heap_set g2 4 (.slice ao dl cp) rfl
      have s2 : ((w5.setCell ⟨bn, 4, none⟩ (.slice ao dl cp)).setCell ⟨bn, 5, none⟩ (.int .i64 IN)).heap[bn]? = some (.cells #[.int .i64 1, .string P, .int .i64 M, .string T, .slice ao dl cp, .int .i64 IN] 45 (0, 0)) := heap_set s1 5 (.int .i64 IN) rfl
      have kk1 : Chg [bn] w5 (w5.setCell ⟨bn, 4, none⟩ (.slice ao dl cp)) := (Chg.refl _ _).setCell (fun _ => by simp) _
      have kk2 : Chg [bn] w5 ((w5.setCell ⟨bn, 4, none⟩ (.slice ao dl cp)).setCell ⟨bn, 5, none⟩ (.int .i64 IN)) := kk1.setCell (fun _ => by simp) _
      have c2 := cell_heap g0 2 (v := .int .i64 IN) rfl
      have c2' := cell_heap (kk1.heap g0 (by have := HNE.out; simp; omega)) 2 (v := .int .i64 IN) rfl
      have f4 : w5.frozen? ⟨bn, 4, none⟩ = false := frozen_of_row _ _ _ _ _ g2
      have c4 := cell_heap g2 4 (v := .slice none 0 0) rfl
      have f5 : (w5.setCell ⟨bn, 4, none⟩ (.slice ao dl cp)).frozen? ⟨bn, 5, none⟩ = false := frozen_of_row _ _ _ _ _ s1
      have c5 := cell_heap s1 5 (v := .int .i64 0) rfl
      have HS := Lib.hid (And.intro s2 (And.intro (kk2.heap g1 (by have := HNE.out; simp; omega)) kk2))
      clear g0 g1 g2 s1 s2 kk1 kk2
      go_region_with fail
      all_goals
        have hcut : ((w5.setCell ⟨bn, 4, none⟩ (.slice ao dl cp)).setCell ⟨bn, 5, none⟩ (.int .i64 IN)).drew.heap[bn]? = some (.cells #[.int .i64 1, .string P, .int .i64 M, .string T, .slice ao dl cp, .int .i64 IN] 45 (0, 0)) ∧ ((w5.setCell ⟨bn, 4, none⟩ (.slice ao dl cp)).setCell ⟨bn, 5, none⟩ (.int .i64 IN)).drew.heap[br]? = some (.cells #[.int .i64 0, .string ⟨#[]⟩, .int .i64 0, .string ⟨#[]⟩, .slice none 0 0, .int .i64 0] 45 (0, 0)) ∧ Chg [bn] w5 ((w5.setCell ⟨bn, 4, none⟩ (.slice ao dl cp)).setCell ⟨bn, 5, none⟩ (.int .i64 IN)).drew := ⟨HS.out.1, HS.out.2.1, HS.out.2.2.drew⟩
        clear c2 c2' f4 c4 f5 c5 HS
        generalize ((w5.setCell ⟨bn, 4, none⟩ (.slice ao dl cp)).setCell ⟨bn, 5, none⟩ (.int .i64 IN)).drew = wc at *
        have p0 := cell_heap hcut.1 0 (v := .int .i64 1) rfl
        have p1 := cell_heap hcut.1 1 (v := .string P) rfl
        have p2 := cell_heap hcut.1 2 (v := .int .i64 M) rfl
        have p3 := cell_heap hcut.1 3 (v := .string T) rfl
        have p4 := cell_heap hcut.1 4 (v := (.slice ao dl cp)) rfl
        have p5 := cell_heap hcut.1 5 (v := .int .i64 IN) rfl
        have ht := there_of hcut.2.1 (o := 0) (n := 6) (by simp)
        have hrg := World.rangeAt_setCells_same wc br 0 [.int .i64 1, .string P, .int .i64 M, .string T, .slice ao dl cp, .int .i64 IN] ht
        have hkk : Chg [br] wc (wc.setCells br 0 [.int .i64 1, .string P, .int .i64 M, .string T, .slice ao dl cp, .int .i64 IN]) := setCells_chg
        have q0 := hrg 0 _ rfl
        have q1 := hrg 1 _ rfl
        have q2 := hrg 2 _ rfl
        have q3 := hrg 3 _ rfl
        have q4 := hrg 4 _ rfl
        have q5 := hrg 5 _ rfl
        simp only [Nat.zero_add] at q0 q1 q2 q3 q4 q5
        have HC := Lib.hid (And.intro hcut (And.intro hkk ht))
        clear hcut hrg ht hkk
        obtain ⟨w7, hw7⟩ : ∃ x, x = wc.setCells br 0 [.int .i64 1, .string P, .int .i64 M, .string T, .slice ao dl cp, .int .i64 IN] := ⟨_, rfl⟩
        rw [← hw7] at q0 q1 q2 q3 q4 q5 HC
        have HW7 := Lib.hid hw7
        clear hw7
        go_wp2_with (refine wpList_store_mid rfl 45 (.tmp 6) (.tmp 44) rfl br 0 #[.int .i64 1, .string P, .int .i64 M, .string T, .slice ao dl cp, .int .i64 IN] rfl rfl HC.out.2.2 Tryz.nodeSize (nd_ones _ _ _ _ _ _ _ _) ?_; rw [← HW7.out])
        refine bodyPost_ret (v := .tuple #[.agg #[.int .i64 1, .string P, .int .i64 M, .string T, .slice ao dl cp, .int .i64 IN], .int .i64 0]) (by simp [results, Tryz.results34, go_sem, *]) rfl ⟨?_, ?_⟩
        · have h1 := H1.out
          refine ⟨fun hne => absurd (by unfold kindE; rw [h1]; rfl) hne, fun _ => ⟨.slice ao dl cp, fp, ?_, ?_, ?_⟩⟩
          · unfold ndV nodeAt
            rw [h1, HF.out.1, HF.out.2.1, HF.out.2.2, ← HP.out]
            rfl
          · have hb1 := lt_of_block HK3.out.2.2.1
            have hb2 := lt_of_block HK3.out.2.2.2
            have e : (nodeAt nd p).data = nd.data := by unfold nodeAt; rw [h1]; rfl
            rw [e]
            refine ⟨ao, cp, by rw [HDE.out], ?_⟩
            refine (HD.out.1.chg HC.out.1.2.2 (fun g hg hm => ?_)).chg HC.out.2.1 (fun g hg hm => ?_)
            · have := (HD.out.2.1 g hg).1; simp at hm; omega
            · have := (HD.out.2.1 g hg).1; simp at hm; omega
          · intro g hg
            have := HD.out.2.1 g hg
            have := HK3.out.1.size
            have := HC.out.1.2.2.size
            have := HC.out.2.1.size
            omega
        · have hn := HNE.out
          have hbi := HBI.out
          have hq : Chg [] w wc := (HK3.out.1.trans HD.out.2.2).trans' HC.out.1.2.2 (by simp) (fun x hx hl => by simp at hx; omega)
          exact hq.trans' HC.out.2.1 (by simp) (fun x hx hl => by simp at hx; omega)
    · by_cases k2 : K = 2
      · subst k2
        go_enter Tryz.func34, Tryz.ntmps34
        go_wp2_with fail
        refine bodyPost_ret (v := .tuple #[.agg #[.int .i64 2, .string P, .int .i64 0, .string T, .slice none 0 0, .int .i64 0], .int .i64 0]) (by simp [results, Tryz.results34, go_sem]) rfl ⟨?_, (((Chg.refl _ _).alloc _).alloc _).alloc _⟩
        have h1 : nd.kind = 2 := HK.out.symm
        refine ⟨fun hne => absurd (by unfold kindE; rw [h1]; rfl) hne, fun _ => ⟨.slice none 0 0, [], ?_, ?_, by simp⟩⟩
        · unfold ndV nodeAt
          rw [h1, HF.out.2.2, ← HP.out]
          rfl
        · unfold nodeAt
          rw [h1]
          exact RdD.nil _ _
      · go_enter Tryz.func34, Tryz.ntmps34
        go_wp2_with fail
        refine bodyPost_ret (v := .tuple #[.agg #[.int .i64 0, .string ⟨#[]⟩, .int .i64 0, .string ⟨#[]⟩, .slice none 0 0, .int .i64 0], .int .i64 8]) (by simp [results, Tryz.results34, go_sem]) rfl ⟨?_, (((Chg.refl _ _).alloc _).alloc _).alloc _⟩
        have h8 : kindE nd.kind = 8 := by unfold kindE; rw [if_neg (by rw [← HK.out]; omega)]
        exact ⟨fun _ => rfl, fun h0 => by rw [h8] at h0; cases h0⟩
end Go.Proofs.YtfhiioopimmahaaGreatDoor
namespace Go.Pax
open Go.RowKit
section
variable {κ ν : Type}
/-- Block m is a map of just these entries, in the order in which they came. -/
def MapG (kv : κ → Value) (vv : ν → Value) (w : World) (m : Nat) (l : List (κ × ν)) : Prop :=
  ∃ es clock, w.heap[m]? = some (.map es clock) ∧ es.toList.map (fun e => (e.key, e.val)) = l.map fun x => (kv x.1, vv x.2)
variable {kv : κ → Value} {vv : ν → Value}
theorem MapG.chg {w w' : World} {m : Nat} {l : List (κ × ν)} {S : List Nat} (h : MapG kv vv w m l) (k : Chg S w w') (hm : m ∉ S) : MapG kv vv w' m l := by
  obtain ⟨es, c, h1, h2⟩ := h
  exact ⟨es, c, k.heap h1 hm, h2⟩
theorem MapG.lt {w : World} {m : Nat} {l : List (κ × ν)} (h : MapG kv vv w m l) : m < w.heap.size := by
  obtain ⟨es, c, h1, _⟩ := h
  exact (Array.getElem?_eq_some_iff.1 h1).1
theorem MapG.new (w : World) : MapG kv vv (w.alloc (.map #[] 0)) w.heap.size [] := ⟨#[], 0, heap_alloc_new _ _, rfl⟩
theorem MapG.len {w : World} {m : Nat} {l : List (κ × ν)} (h : MapG kv vv w m l) : ∃ es clock, w.heap[m]? = some (.map es clock) ∧ es.size = l.length := by
  obtain ⟨es, c, h1, h2⟩ := h
  exact ⟨es, c, h1, by have := congrArg List.length h2; simpa using this⟩
end
section
variable {κ ν : Type} [DecidableEq κ] {kv : κ → Value} {vv : ν → Value}
def lkG : List (κ × ν) → κ → Option ν
  | [], _ => none
  | x :: l, k => if k = x.1 then some x.2 else lkG l k
/-- The list behind a store. -/
def upG : List (κ × ν) → κ → ν → List (κ × ν)
  | [], k, v => [(k, v)]
  | x :: l, k, v => if k = x.1 then (k, v) :: l else x :: upG l k v
theorem lkG_upG (l : List (κ × ν)) (k : κ) (v : ν) (j : κ) : lkG (upG l k v) j = if j = k then some v else lkG l j := by
  induction l with
  | nil => simp only [upG, lkG]
  | cons x l ih =>
    simp only [upG]
    split
    · rename_i h
      subst h
      simp only [lkG]
      split
      · rfl
      · rfl
    · rename_i h
      simp only [lkG, ih]
      by_cases h1 : j = x.1
      · rw [if_pos h1, if_pos h1, if_neg (fun e => h (e.symm.trans h1))]
      · rw [if_neg h1, if_neg h1]
theorem upG_new {l : List (κ × ν)} {k : κ} {v : ν} (h : lkG l k = none) : upG l k v = l ++ [(k, v)] := by
  induction l with
  | nil => rfl
  | cons x l ih =>
    simp only [lkG] at h
    split at h
    · cases h
    · rename_i hne
      simp only [upG, if_neg hne, ih h, List.cons_append]
theorem upG_len (l : List (κ × ν)) (k : κ) (v : ν) : (upG l k v).length ≤ l.length + 1 := by
  induction l with
  | nil => simp [upG]
  | cons x l ih =>
    simp only [upG]
    split
    · simp
    · simp only [List.length_cons]; omega
/-- How a kind of key is told. -/
structure KeyShape {κ : Type} (d : TypeDesc) (kv : κ → Value) : Prop where
  key : ∀ a, MapKept.IsKey d (kv a)
  inj : ∀ a b, kv a = kv b → a = b
theorem findG_none {d : TypeDesc} (hK : KeyShape d kv) (k : κ) : ∀ (es : List MapEntry) (l : List (κ × ν)) (_ : es.map (fun e => (e.key, e.val)) = l.map fun x => (kv x.1, vv x.2)) (i : Nat), lkG l k = none → Instr.findNow d (kv k) es i = some none
  | [], _, _, i, _ => rfl
  | e :: es, [], h, i, _ => by simp at h
  | e :: es, x :: l, h, i, hl => by
    simp only [List.map_cons, List.cons.injEq, Prod.mk.injEq] at h
    obtain ⟨⟨h1, h2⟩, h3⟩ := h
    simp only [lkG] at hl
    split at hl
    · cases hl
    · rename_i hne
      obtain ⟨r, hr, hiff⟩ := MapKept.sameNow_of_keys (hK.key k) (hK.key x.1)
      have hrf : r = false := by
        cases r with
        | false => rfl
        | true => exact absurd (hK.inj _ _ (hiff.1 rfl)) hne
      subst hrf
      simp only [Instr.findNow, h1, hr]
      exact findG_none hK k es l h3 (i + 1) hl
theorem findG_some {d : TypeDesc} (hK : KeyShape d kv) (k : κ) (b : ν) : ∀ (es : List MapEntry) (l : List (κ × ν)) (_ : es.map (fun e => (e.key, e.val)) = l.map fun x => (kv x.1, vv x.2)) (i : Nat), lkG l k = some b →
    ∃ j, Instr.findNow d (kv k) es i = some (some (i + j, vv b)) ∧ (es[j]?).map (·.key) = some (kv k) ∧ ∀ v, upG l k v = l.take j ++ (k, v) :: l.drop (j + 1)
  | [], [], _, i, h => by simp [lkG] at h
  | [], x :: l, h, i, _ => by simp at h
  | e :: es, [], h, i, _ => by simp at h
  | e :: es, x :: l, h, i, hl => by
    simp only [List.map_cons, List.cons.injEq, Prod.mk.injEq] at h
    obtain ⟨⟨h1, h2⟩, h3⟩ := h
    simp only [lkG] at hl
    obtain ⟨r, hr, hiff⟩ := MapKept.sameNow_of_keys (hK.key k) (hK.key x.1)
    split at hl
    · rename_i he
      have hrt : r = true := hiff.2 (by rw [he])
      subst hrt
      injection hl with hl
      subst hl
      refine ⟨0, by simp only [Instr.findNow, h1, hr, h2, Nat.add_zero], by simp [h1, he], fun v => by simp [upG, he]⟩
    · rename_i hne
      have hrf : r = false := by
        cases r with
        | false => rfl
        | true => exact absurd (hK.inj _ _ (hiff.1 rfl)) hne
      subst hrf
      obtain ⟨j, g1, g2, g3⟩ := findG_some hK k b es l h3 (i + 1) hl
      refine ⟨j + 1, ?_, by simpa using g2, fun v => by simp [upG, if_neg hne, g3]⟩
      simp only [Instr.findNow, h1, hr]
      rw [g1, show i + 1 + j = i + (j + 1) by omega]
variable {P : Program} {w : World} {m : Nat} {l : List (κ × ν)} {T K E : TypeId} {d : TypeDesc}
theorem run_lookupG2_some (hK : KeyShape d kv) (hT : P.underlying T = some (.map K E)) (hd : P.underlying K = some d) (h : MapG kv vv w m l) {k : κ} {b : ν} (hl : lkG l k = some b) :
    (Instr.lookup T (.map (some m)) (kv k) true).run P w = .ok (.tuple #[vv b, .bool true]) w := by
  obtain ⟨es, c, hb, he⟩ := h
  obtain ⟨j, hj, _, _⟩ := findG_some hK k b es.toList l he 0 hl
  simp [Instr.lookup, run_underlying hT, MapKept.run_getObj_map hb, MapKept.run_checkKey hd (hK.key k), MapKept.run_findKey hd hj, Result.andThen]
theorem run_lookupG2_none (hK : KeyShape d kv) (hT : P.underlying T = some (.map K E)) (hd : P.underlying K = some d) {z : Value} (hz : ∀ W, (zeroValue E).run P W = .ok z W) (h : MapG kv vv w m l) {k : κ} (hl : lkG l k = none) :
    (Instr.lookup T (.map (some m)) (kv k) true).run P w = .ok (.tuple #[z, .bool false]) w := by
  obtain ⟨es, c, hb, he⟩ := h
  have hj := findG_none hK k es.toList l he 0 hl
  simp [Instr.lookup, run_underlying hT, MapKept.run_getObj_map hb, MapKept.run_checkKey hd (hK.key k), MapKept.run_findKey hd hj, hz, Result.andThen]
theorem run_lookupG_some (hK : KeyShape d kv) (hT : P.underlying T = some (.map K E)) (hd : P.underlying K = some d) (h : MapG kv vv w m l) {k : κ} {b : ν} (hl : lkG l k = some b) :
    (Instr.lookup T (.map (some m)) (kv k) false).run P w = .ok (vv b) w := by
  obtain ⟨es, c, hb, he⟩ := h
  obtain ⟨j, hj, _, _⟩ := findG_some hK k b es.toList l he 0 hl
  simp [Instr.lookup, run_underlying hT, MapKept.run_getObj_map hb, MapKept.run_checkKey hd (hK.key k), MapKept.run_findKey hd hj, Result.andThen]
theorem run_lookupG_none (hK : KeyShape d kv) (hT : P.underlying T = some (.map K E)) (hd : P.underlying K = some d) {z : Value} (hz : ∀ W, (zeroValue E).run P W = .ok z W) (h : MapG kv vv w m l) {k : κ} (hl : lkG l k = none) :
    (Instr.lookup T (.map (some m)) (kv k) false).run P w = .ok z w := by
  obtain ⟨es, c, hb, he⟩ := h
  have hj := findG_none hK k es.toList l he 0 hl
  simp [Instr.lookup, run_underlying hT, MapKept.run_getObj_map hb, MapKept.run_checkKey hd (hK.key k), MapKept.run_findKey hd hj, hz, Result.andThen]
theorem run_updateG (hK : KeyShape d kv) (hT : P.underlying T = some (.map K E)) (hd : P.underlying K = some d) (h : MapG kv vv w m l) (k : κ) (v : ν) :
    ∃ w', (Instr.mapUpdate T (.map (some m)) (kv k) (vv v)).run P w = .ok () w' ∧ MapG kv vv w' m (upG l k v) ∧ Chg [m] w w' ∧ w'.heap.size = w.heap.size := by
  obtain ⟨es, c, hb, he⟩ := h
  have hlt := (Array.getElem?_eq_some_iff.1 hb).1
  cases hl : lkG l k with
  | none =>
    have hj := findG_none hK k es.toList l he 0 hl
    have hup := upG_new (v := v) hl
    refine ⟨{ w with heap := w.heap.setIfInBounds m (.map (es.push { key := kv k, val := vv v, born := c }) (c + 1)) }, ?_, ⟨es.push { key := kv k, val := vv v, born := c }, c + 1, ?_, ?_⟩, ⟨rfl, rfl, rfl, ?_, ?_⟩, ?_⟩
    · simp [Instr.mapUpdate, run_underlying hT, MapKept.run_getObj_map hb, MapKept.run_checkKey hd (hK.key k), MapKept.run_findKey hd hj, MapKept.run_setObj_map _ hb, Result.andThen]
    · simp [hlt]
    · rw [hup]; simp [he]
    · simp
    · intro i hi hm
      simp at hm
      simp [Ne.symm hm]
    · simp
  | some b =>
    obtain ⟨j, hj, hkey, hup⟩ := findG_some hK k b es.toList l he 0 hl
    rw [Nat.zero_add] at hj
    have hkey' : ∃ e, es[j]? = some e ∧ e.key = kv k := by
      have h1 : (es[j]?).map (·.key) = some (kv k) := by simpa using hkey
      cases h2 : es[j]? with
      | none => rw [h2] at h1; simp at h1
      | some e => rw [h2] at h1; exact ⟨e, rfl, by simpa using h1⟩
    obtain ⟨e0, he0, hek⟩ := hkey'
    refine ⟨{ w with heap := w.heap.setIfInBounds m (.map (es.modify j fun e => { e with key := kv k, val := vv v }) c) }, ?_, ⟨_, c, by simp [hlt]; rfl, ?_⟩, ⟨rfl, rfl, rfl, ?_, ?_⟩, ?_⟩
    · simp [Instr.mapUpdate, run_underlying hT, MapKept.run_getObj_map hb, MapKept.run_checkKey hd (hK.key k), MapKept.run_findKey hd hj, he0, hek, MapKept.run_keyThatStays (hK.key k), MapKept.run_setObj_map _ hb, Result.andThen]
    · have hjl : j < es.toList.length := by
        cases h1 : es.toList[j]? with
        | none => rw [h1] at hkey; simp at hkey
        | some x => exact (List.getElem?_eq_some_iff.1 h1).1
      have hlen : es.toList.length = l.length := by simpa using congrArg List.length he
      have e1 : l.take j ++ (k, v) :: l.drop (j + 1) = l.set j (k, v) := by
        rw [List.set_eq_take_append_cons_drop, if_pos (by omega)]
      rw [hup, e1]
      apply List.ext_getElem?
      intro i
      have hi := congrArg (fun z => z[i]?) he
      simp only [List.getElem?_map] at hi
      rw [List.getElem?_map, Array.toList_modify, List.getElem?_modify, List.getElem?_map, List.getElem?_set]
      by_cases hij : j = i
      · subst hij
        rw [List.getElem?_eq_getElem hjl]
        simp [hlen ▸ hjl]
      · simp only [if_neg hij]
        simpa [hij] using hi
    · simp
    · intro i hi hm
      simp at hm
      simp [Ne.symm hm]
    · simp
end
def kvI (k : Int) : Value := .int .i64 k
def kvS (k : List UInt8) : Value := .string (ba k)
theorem keyI : KeyShape (.int .i64) kvI := ⟨fun a => by simp [kvI, MapKept.IsKey], fun a b h => by simpa [kvI] using h⟩
theorem keyS : KeyShape .string kvS := ⟨fun a => by simp [kvS, MapKept.IsKey], fun a b h => ba_inj (by simpa [kvS] using h)⟩
end Go.Pax
