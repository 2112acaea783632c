/- pathheap's Push method. Printed by wip/gen/genhpush.py. Which function a method of *paths is. container/heap over pathheap's paths: up. container/heap over pathheap's paths: down. Printed by wip/gen/genhdown.py. pathheap: New, Push, Pop. pathheap.New, Push of one path, Pop. paxtarlaw19: lists of calls in memory; TooLarge. -/
import Derived.Test.YtfhiioopimmahaaGreatDoorPO07
import Derived.Test.YtfhiioopimmahaaGreatDoorPO08
namespace Go.Proofs.YtfhiioopimmahaaGreatDoor
open Go.RowKit Go.Pax Go.Shelf
/-- A heap of paths in memory. -/
structure HpIn (w : World) (h : Nat) (Q : List Nat) (v : Value) (L : List Str) : Prop where
  blk : w.heap[h]? = some (.cells #[v] 161 (0, 0))
  row : w.ownsRow 0 9 1 v L.length (svn L)
  own : h ∈ Q ∧ ∀ g, v.ownBlock = some g → g ∈ Q
  lt : ∀ g ∈ Q, g < w.heap.size
def HpAt (w : World) (h : Nat) (Q : List Nat) (L : List Str) : Prop := ∃ v, HpIn w h Q v L
def HpTo (w w' : World) (h : Nat) (Q : List Nat) (L : List Str) : Prop := ∃ Q', (HpAt w' h Q' L ∧ ∀ g ∈ Q', g ∈ Q ∨ w.heap.size ≤ g) ∧ Chg Q w w'
theorem HpIn.far {w : World} {h : Nat} {Q : List Nat} {v : Value} {L : List Str} (H : HpIn w h Q v L) {g : Nat} (hg : v.ownBlock = some g) : g ≠ h := by
  obtain ⟨c, hc⟩ := own_blockS H.row hg
  exact ne_of_types hc H.blk (by decide)
theorem HpIn.foreign {w w' : World} {h : Nat} {Q S : List Nat} {v : Value} {L : List Str} (H : HpIn w h Q v L) (k : Chg S w w') (hS : ∀ g ∈ Q, g ∉ S) : HpIn w' h Q v L :=
  ⟨k.heap H.blk (hS _ H.own.1), own_keepS H.row k (fun g hg => hS g (H.own.2 g hg)), H.own, fun g hg => Nat.lt_of_lt_of_le (H.lt g hg) k.size⟩
theorem HpAt.foreign {w w' : World} {h : Nat} {Q S : List Nat} {L : List Str} (H : HpAt w h Q L) (k : Chg S w w') (hS : ∀ g ∈ Q, g ∉ S) : HpAt w' h Q L := by
  obtain ⟨v, H⟩ := H
  exact ⟨v, H.foreign k hS⟩
theorem HpAt.lt {w : World} {h : Nat} {Q : List Nat} {L : List Str} (H : HpAt w h Q L) : ∀ g ∈ Q, g < w.heap.size := by
  obtain ⟨v, H⟩ := H
  exact H.lt
theorem HpTo.then_ {w w1 w2 : World} {h : Nat} {Q Q1 : List Nat} {L : List Str} (k : Chg Q w w1) (hQ : ∀ g ∈ Q1, g ∈ Q ∨ w.heap.size ≤ g) (H : HpTo w1 w2 h Q1 L) : HpTo w w2 h Q L := by
  obtain ⟨Q', ⟨h1, h2⟩, h3⟩ := H
  refine ⟨Q', ⟨h1, fun g hg => ?_⟩, k.trans' h3 (fun _ hx _ => hx) (fun x hx hl => ?_)⟩
  · rcases h2 g hg with h4 | h4
    · exact hQ g h4
    · exact .inr (Nat.le_trans k.size h4)
  · rcases hQ x hx with h4 | h4
    · exact h4
    · omega
/-- A new row is stored into the heap's field. -/
theorem HpIn.put {w w1 : World} {h : Nat} {Q : List Nat} {v v1 : Value} {L L1 : List Str} {n1 : Nat} (H : HpIn w h Q v L) (k : Chg v.ownBlock.toList w w1) (hr : w1.ownsRow 0 9 1 v1 n1 (svn L1)) (hn : n1 = L1.length)
    (hat : v1.ownBlock = v.ownBlock ∨ ∃ g, v1.ownBlock = some g ∧ w.heap.size ≤ g ∧ g < w1.heap.size) : HpTo w (w1.setCell ⟨h, 0, none⟩ v1) h Q L1 := by
  subst hn
  have hb1 : w1.heap[h]? = some (.cells #[v] 161 (0, 0)) := k.heap H.blk (fun hm => by simp at hm; exact H.far hm rfl)
  have k1 : Chg [h] w1 (w1.setCell ⟨h, 0, none⟩ v1) := (Chg.refl _ _).setCell (fun _ => by simp) _
  have hf : ∀ g, v1.ownBlock = some g → g ≠ h := fun g hg => by
    obtain ⟨c, hc⟩ := own_blockS hr hg
    exact ne_of_types hc hb1 (by decide)
  refine ⟨h :: v1.ownBlock.toList, ⟨⟨v1, heap_set hb1 0 v1 rfl, own_keepS hr k1 (fun g hg hm => by simp at hm; exact hf g hg hm), ⟨by simp, fun g hg => by simp [hg]⟩, fun g hg => ?_⟩, fun g hg => ?_⟩, k.trans' k1 (fun x hx _ => by simp at hx; exact H.own.2 x hx) (fun x hx _ => by simp at hx; subst hx; exact H.own.1)⟩
  · refine Nat.lt_of_lt_of_le ?_ k1.size
    rcases List.mem_cons.1 hg with e | hg
    · subst e; exact lt_of_block hb1
    · simp at hg
      obtain ⟨c, hc⟩ := own_blockS hr hg
      exact lt_of_block hc
  · rcases List.mem_cons.1 hg with e | hg
    · subst e; exact .inl H.own.1
    · simp at hg
      rcases hat with h1 | ⟨g', h1, h2, h3⟩
      · rw [h1] at hg
        exact .inl (H.own.2 g hg)
      · rw [h1] at hg
        cases hg
        exact .inr h2
theorem Tryz.infoHS : (Tryz.prog.info? 9).map (fun i => (i.zero, i.size, i.bytes)) = some (some (.string ⟨#[]⟩), 1, 16) := by kernel_rfl
theorem assertS (xT : TypeId) (X : ByteArray) (w : World) : (Instr.typeAssert (.iface 9 (.string X)) xT 9 false).run Tryz.prog w = .ok (.string X) w := by
  simp [Instr.typeAssert, run_underlying Tryz.underlying9]
theorem assertS2 (xT : TypeId) (X : ByteArray) (w : World) : (Instr.typeAssert (.iface 9 (.string X)) xT 9 true).run Tryz.prog w = .ok (.tuple #[.string X, .bool true]) w := by
  simp [Instr.typeAssert, run_underlying Tryz.underlying9]
set_option maxRecDepth 100000 in
set_option maxHeartbeats 8000000 in
theorem hpush (w : World) (h : Nat) (Q : List Nat) (L : List Str) (x : Str) (H : HpAt w h Q L) (hl : L.length ≤ 1000000) :
    Calls Tryz.prog 185 #[.pointer (some ⟨h, 0, none⟩), .iface 9 (.string (ba x))] w fun e w' => e = .returned (.tuple #[]) ∧ HpTo w w' h Q (L ++ [x]) := by
  obtain ⟨v, H⟩ := H
  obtain ⟨ao, c, rfl⟩ := own_shape H.row
  have HH := Lib.hid H
  obtain ⟨n, hn⟩ : ∃ n, n = L.length := ⟨_, rfl⟩
  rw [← hn] at hl
  have HN := Lib.hid hn
  have HCE := Lib.hid (fun W (k : Chg [] w W) => cell_heap (k.heap H.blk (by simp)) 0 (v := .slice ao n c) (by rw [hn]; rfl))
  have HOW := Lib.hid (fun W (k : Chg [] w W) => (show W.ownsRow 0 9 1 (.slice ao n c) n (svn L) by rw [hn]; exact own_chg H.row k (by simp)))
  have HFC := Lib.hid (fun W (k : Chg (Value.slice ao n c).ownBlock.toList w W) => (show W.cell? ⟨h, 0, none⟩ = some (.slice ao n c) ∧ W.frozen? ⟨h, 0, none⟩ = false by
    have hb : W.heap[h]? = some (.cells #[.slice ao n c] 161 (0, 0)) := by rw [hn] at k ⊢; exact k.heap H.blk (fun hm => by simp at hm; exact H.far hm rfl)
    exact ⟨cell_heap hb 0 rfl, frozen_of_row _ _ _ _ _ hb⟩))
  have hs : svn (L ++ [x]) = svn L ++ [.string (ba x)] := by simp [svn, sv]
  have HP := Lib.hid (fun (W : World) a1 c1 (k : Chg (Value.slice ao n c).ownBlock.toList w W) (hr : W.ownsRow 0 9 1 (.slice a1 (n + 1) c1) (n + 1) (svn L ++ [.string (ba x)])) (ha : (Value.slice a1 (n + 1) c1).ownBlock = (Value.slice ao n c).ownBlock ∨ ∃ g, (Value.slice a1 (n + 1) c1).ownBlock = some g ∧ w.heap.size ≤ g ∧ g < W.heap.size) => (by
    rw [← hs] at hr
    rw [hn] at k ha
    rw [hn] at hr
    rw [hn]
    exact H.put k hr (by simp) ha : HpTo w (W.setCell ⟨h, 0, none⟩ (.slice a1 (n + 1) c1)) h Q (L ++ [x])))
  have HRN := Lib.hid (show Rd ((w.drew).alloc (.cells #[.string (ba x)] 9)) [w.heap.size] (some ⟨w.heap.size, 0, none⟩) [.string (ba x)] from fun j u hu => by
    have hj : j = 0 := by have := (List.getElem?_eq_some_iff.1 hu).1; simp at this; exact this
    subst hj
    simp at hu; subst hu
    exact ⟨_, rfl, by simp, cell_heap (heap_alloc_new _ _) 0 rfl⟩)
  obtain ⟨si, hsi, hsi0, hsi1, hsi2⟩ := info_parts Tryz.infoHS
  have hta := fun X W => assertS 20 X W
  clear H hn hs HH
  generalize ba x = X at *
  go_enter Tryz.func185, Tryz.ntmps185
  refine wp_region_end (S := fun q => q.cell? ⟨h, 0, none⟩ = some (.slice ao n c)) (m := 9) (by kernel_rfl) ?_ (fun hHeld => ?_)
  · exact HCE.out _ (Chg.refl _ _).drew
  refine wpAnyE_take (i := 0) (oi := ?oiE1) (v := ?vE1) ?hiE1 (by kernel_rfl) (by kernel_rfl) (by kernel_rfl) (by kernel_rfl) ?hQE1 (Or.inl ⟨?hwE1, ?hyE1⟩) (by assumption) ?hrE1
  case hiE1 => simp only [List.getElem?_toArray, List.getElem?_cons_zero]; rfl
  case hQE1 => exact fun _ _ _ h => h
  case hwE1 => rfl
  case hyE1 => intro w hSw; (try dsimp only at hSw); go_simp; (try with_reducible rfl)
  case hrE1 =>
  simp only [Act.put, List.setIfInBounds_toArray, List.set_cons_zero, List.set_cons_succ]
  refine wpAnyE_take (i := 1) (oi := ?oiE2) (v := ?vE2) ?hiE2 (by kernel_rfl) (by kernel_rfl) (by kernel_rfl) (by kernel_rfl) ?hQE2 (Or.inl ⟨?hwE2, ?hyE2⟩) (by assumption) ?hrE2
  case hiE2 => simp only [List.getElem?_toArray, List.getElem?_cons_succ, List.getElem?_cons_zero]; rfl
  case hQE2 => exact fun _ _ _ h => h
  case hwE2 => rfl
  case hyE2 => intro w hSw; (try dsimp only at hSw); go_simp; (try with_reducible rfl)
  case hrE2 =>
  simp only [Act.put, List.setIfInBounds_toArray, List.set_cons_zero, List.set_cons_succ]
  refine wpAnyE_take (i := 2) (oi := ?oiE3) (v := ?vE3) ?hiE3 (by kernel_rfl) (by kernel_rfl) (by kernel_rfl) (by kernel_rfl) ?hQE3 (Or.inl ⟨?hwE3, ?hyE3⟩) (by assumption) ?hrE3
  case hiE3 => simp only [List.getElem?_toArray, List.getElem?_cons_succ, List.getElem?_cons_zero]; rfl
  case hQE3 => exact fun _ _ _ h => h
  case hwE3 => rfl
  case hyE3 => intro w hSw; (try dsimp only at hSw); go_simp; (try with_reducible rfl)
  case hrE3 =>
  simp only [Act.put, List.setIfInBounds_toArray, List.set_cons_zero, List.set_cons_succ]
  refine wpAnyE_take (i := 3) (oi := ?oiE4) (v := ?vE4) ?hiE4 (by kernel_rfl) (by kernel_rfl) (by kernel_rfl) (by kernel_rfl) ?hQE4 (Or.inl ⟨?hwE4, ?hyE4⟩) (by assumption) ?hrE4
  case hiE4 => simp only [List.getElem?_toArray, List.getElem?_cons_succ, List.getElem?_cons_zero]; rfl
  case hQE4 => exact fun _ _ _ h => h
  case hwE4 => rfl
  case hyE4 => intro w hSw; (try dsimp only at hSw); go_simp; (try with_reducible rfl)
  case hrE4 =>
  simp only [Act.put, List.setIfInBounds_toArray, List.set_cons_zero, List.set_cons_succ]
  refine wpAnyE_take (i := 4) (oi := ?oiE5) (v := ?vE5) ?hiE5 (by kernel_rfl) (by kernel_rfl) (by kernel_rfl) (by kernel_rfl) ?hQE5 (Or.inl ⟨?hwE5, ?hyE5⟩) (by assumption) ?hrE5
  case hiE5 => simp only [List.getElem?_toArray, List.getElem?_cons_succ, List.getElem?_cons_zero]; rfl
  case hQE5 => exact fun _ _ _ h => h
  case hwE5 => rfl
  case hyE5 => intro w hSw; (try dsimp only at hSw); go_simp; (try with_reducible rfl)
  case hrE5 =>
  simp only [Act.put, List.setIfInBounds_toArray, List.set_cons_zero, List.set_cons_succ]
  refine wpAnyE_take (i := 5) (oi := ?oiE6) (v := ?vE6) ?hiE6 (by kernel_rfl) (by kernel_rfl) (by kernel_rfl) (by kernel_rfl) ?hQE6 (Or.inl ⟨?hwE6, ?hyE6⟩) (by assumption) ?hrE6
  case hiE6 => simp only [List.getElem?_toArray, List.getElem?_cons_succ, List.getElem?_cons_zero]; rfl
  case hQE6 => exact fun _ _ _ h => h
  case hwE6 => rfl
  case hyE6 => intro w hSw; (try dsimp only at hSw); go_simp; (try with_reducible rfl)
  case hrE6 =>
  simp only [Act.put, List.setIfInBounds_toArray, List.set_cons_zero, List.set_cons_succ]
  refine wpAnyE_ready (i := 6) (o := ?ocE7) (by kernel_rfl) ?hcE7 (fun K hK => ?hsE7)
  case hcE7 => simp only [List.getElem?_toArray, List.getElem?_cons_succ, List.getElem?_cons_zero]; rfl
  case hsE7 =>
  rw [if_pos (by rfl)]
  go_simp
  go_wp2_with fail
  refine hK.out _ _ (.inr ?_) (fun hHeld => ?_)
  · exact HCE.out _ ((Chg.refl _ _).drew.alloc _)
  replace hHeld := hHeld.resolve_left (by decide)
  clear hK K
  try simp only [Act.put, List.setIfInBounds_toArray, List.set_cons_zero, List.set_cons_succ]
  refine wpAnyE_ready (i := 7) (o := ?ocE8) (by kernel_rfl) ?hcE8 (fun K hK => ?hsE8)
  case hcE8 => simp only [List.getElem?_toArray, List.getElem?_cons_succ, List.getElem?_cons_zero]; rfl
  case hsE8 =>
  rw [if_pos (by rfl)]
  refine wp_append_rd (.tmp 7) (.tmp 10) 159 (by rfl) 0 9 si (.string ⟨#[]⟩) 16 Tryz.underlying159 hsi hsi0 hsi1 hsi2 rfl (.slice ao n c) n (svn L) (by rfl) (HOW.out _ ((Chg.refl _ _).drew.alloc _)) (some ⟨w.heap.size, 0, none⟩) 1 1 [w.heap.size] [.string X] (by rfl) rfl (HRN.out) (by intro u hu; simp at hu; subst hu; rfl) (by omega) (by unfold maxLen; omega) (by omega) ?_; intro a1 c1 w1 hown1 hgr1 hat1; have hk1 : Chg (Value.slice ao n c).ownBlock.toList w w1 := ((Chg.refl _ w).drew.alloc (.cells #[.string X] 9)).grown hgr1 (fun g hg hl => by simp [hg]); have HO1 := Lib.hid hown1; have HK1 := Lib.hid hk1; have hat2 : (Value.slice a1 (n + 1) c1).ownBlock = (Value.slice ao n c).ownBlock ∨ ∃ g, (Value.slice a1 (n + 1) c1).ownBlock = some g ∧ w.heap.size ≤ g ∧ g < w1.heap.size := (by rcases hat1 with h1 | h1; exact .inl h1; obtain ⟨c9, hc9⟩ := own_blockS hown1 h1; exact .inr ⟨_, h1, by simp, lt_of_block hc9⟩); have HA1 := Lib.hid hat2; have hf1 := (HFC.out _ hk1).2; clear hown1 hgr1 hat1 hat2 hk1
  go_wp2_with fail
  refine hK.out _ _ (.inr ?_) (fun hHeld => ?_)
  · exact (HFC.out _ HK1.out).1
  replace hHeld := hHeld.resolve_left (by decide)
  clear hK K
  try simp only [Act.put, List.setIfInBounds_toArray, List.set_cons_zero, List.set_cons_succ]
  refine wpAnyE_take (i := 8) (oi := ?oiE9) (v := ?vE9) ?hiE9 (by kernel_rfl) (by kernel_rfl) (by kernel_rfl) (by kernel_rfl) ?hQE9 (Or.inl ⟨?hwE9, ?hyE9⟩) (by assumption) ?hrE9
  case hiE9 => simp only [List.getElem?_toArray, List.getElem?_cons_succ, List.getElem?_cons_zero]; rfl
  case hQE9 => exact fun _ _ _ h => h
  case hwE9 => rfl
  case hyE9 => intro w hSw; (try dsimp only at hSw); go_simp; (try with_reducible rfl)
  case hrE9 =>
  simp only [Act.put, List.setIfInBounds_toArray, List.set_cons_zero, List.set_cons_succ]
  refine wpAnyE_ready (i := 9) (o := ?ocE10) (by kernel_rfl) ?hcE10 (fun K hK => ?hsE10)
  case hcE10 => simp only [List.getElem?_toArray, List.getElem?_cons_succ, List.getElem?_cons_zero]; rfl
  case hsE10 =>
  rw [if_pos (by rfl)]
  go_simp
  go_wp2_with fail
  refine hK.out _ _ (.inl (by first | rfl | trivial)) (fun _ => ?_)
  clear hK K
  try simp only [Act.put, List.setIfInBounds_toArray, List.set_cons_zero, List.set_cons_succ]
  refine wpAnyE_done (by kernel_rfl) ?_ _
  go_end0
  exact ⟨rfl, HP.out _ _ _ HK1.out HO1.out HA1.out⟩
end Go.Proofs.YtfhiioopimmahaaGreatDoor
namespace Go.Proofs.YtfhiioopimmahaaGreatDoor
open Go.RowKit Go.Pax Go.Shelf
theorem methLen (w : World) (h : Nat) (v : Value) (hc : w.cell? ⟨h, 0, none⟩ = some v) (N : Nat) : (method (N + 1) 163 (.pointer (some ⟨h, 0, none⟩)) "Len").run Tryz.prog w = .ok (119, v) w := by
  have e : (method (N + 1) 163 (.pointer (some ⟨h, 0, none⟩)) "Len").run Tryz.prog w = ((loadVar 159 ⟨h, 0, none⟩) >>= fun r => pure (119, r)).run Tryz.prog w := by kernel_rfl
  rw [e]
  simp [Result.andThen, go_sem, loadVar, hc]
theorem methLess (w : World) (h : Nat) (v : Value) (hc : w.cell? ⟨h, 0, none⟩ = some v) (N : Nat) : (method (N + 1) 163 (.pointer (some ⟨h, 0, none⟩)) "Less").run Tryz.prog w = .ok (182, v) w := by
  have e : (method (N + 1) 163 (.pointer (some ⟨h, 0, none⟩)) "Less").run Tryz.prog w = ((loadVar 159 ⟨h, 0, none⟩) >>= fun r => pure (182, r)).run Tryz.prog w := by kernel_rfl
  rw [e]
  simp [Result.andThen, go_sem, loadVar, hc]
theorem methSwap (w : World) (h : Nat) (v : Value) (hc : w.cell? ⟨h, 0, none⟩ = some v) (N : Nat) : (method (N + 1) 163 (.pointer (some ⟨h, 0, none⟩)) "Swap").run Tryz.prog w = .ok (183, v) w := by
  have e : (method (N + 1) 163 (.pointer (some ⟨h, 0, none⟩)) "Swap").run Tryz.prog w = ((loadVar 159 ⟨h, 0, none⟩) >>= fun r => pure (183, r)).run Tryz.prog w := by kernel_rfl
  rw [e]
  simp [Result.andThen, go_sem, loadVar, hc]
theorem methPush (w : World) (h : Nat) (N : Nat) : (method (N + 1) 163 (.pointer (some ⟨h, 0, none⟩)) "Push").run Tryz.prog w = .ok (185, .pointer (some ⟨h, 0, none⟩)) w := by kernel_rfl
theorem methPop (w : World) (h : Nat) (N : Nat) : (method (N + 1) 163 (.pointer (some ⟨h, 0, none⟩)) "Pop").run Tryz.prog w = .ok (184, .pointer (some ⟨h, 0, none⟩)) w := by kernel_rfl
end Go.Proofs.YtfhiioopimmahaaGreatDoor
namespace Go.Proofs.YtfhiioopimmahaaGreatDoor
open Go.RowKit Go.Pax Go.Shelf
def hv (h : Nat) : Value := .iface 163 (.pointer (some ⟨h, 0, none⟩))
set_option maxRecDepth 100000 in
set_option maxHeartbeats 8000000 in
theorem hup (w : World) (h : Nat) (Q : List Nat) (L : List Str) (v : Value) (j : Nat) (H : HpIn w h Q v L) (hl : L.length ≤ 1000001) (hj : j < L.length) (hu : UpAt L j) :
    Calls Tryz.prog 118 #[hv h, .int .i64 j] w fun e w' => e = .returned (.tuple #[]) ∧ ∃ L', HpIn w' h Q v L' ∧ L'.Perm L ∧ HeapN L' L'.length ∧ Chg Q w w' := by
  unfold hv
  have HH := Lib.hid H
  have HU := Lib.hid hu
  clear H hu
  go_enter Tryz.func118, Tryz.ntmps118
  go_wp2_with fail
  go_loopw [1] (fun u wr => ∃ (k : Nat) (L' : List Str), u = .int .i64 k ∧ k < L.length ∧ HpIn wr h Q v L' ∧ L'.Perm L ∧ UpAt L' k ∧ Chg Q w wr) (fun u _ => (intOf u).toNat)
  case atStart => exact ⟨j, L, rfl, hj, HH.out, List.Perm.refl _, HU.out, Chg.refl _ _⟩
  case round =>
    obtain ⟨k, L', rfl, hk, hi, hp, hu', kk⟩ := hrel
    obtain ⟨ao, c, hv⟩ := own_shape hi.row
    have c0 := cell_heap hi.blk 0 (v := v) rfl
    obtain ⟨n, hn⟩ : ∃ n, n = L'.length := ⟨_, rfl⟩
    have hlen := hp.length_eq
    rw [← hn] at hv
    subst hv
    have hkn : k < n := by omega
    have hn1 : n ≤ 1000001 := by omega
    have HI := Lib.hid hi
    have HP := Lib.hid (And.intro hp (And.intro hu' (And.intro kk hn)))
    have HR := Lib.hid (show wr.ownsRow 0 9 1 (.slice ao n c) n (svn L') by have := hi.row; rw [← hn] at this; exact this)
    have HF := Lib.hid (fun g (hg : (Value.slice ao n c).ownBlock = some g) => hi.far hg)
    have hm := methLess wr h _ c0
    clear hi hp hu' kk hlen hn c0
    by_cases h0 : k = 0
    · subst h0
      have e1 : (-1 : Int).tdiv 2 = 0 := rfl
      go_wp2_with fail
      go_end0
      exact ⟨rfl, L', HI.out, HP.out.1, HP.out.2.1.stop (.inl rfl), HP.out.2.2.1⟩
    · have e1 : IntKind.i64.wrap ((k : Int) - 1) = ((k - 1 : Nat) : Int) := by rw [show (k : Int) - 1 = ((k - 1 : Nat) : Int) by omega]; exact IntWalk.i64_in _ (by omega)
      obtain ⟨i, hi2⟩ : ∃ i, i = (k - 1) / 2 := ⟨_, rfl⟩
      have e2 : (((k - 1 : Nat) : Int)) / 2 = (i : Int) := by omega
      have e4 : ¬ (i : Int) = (k : Int) := by omega
      have e5 : ¬ i = k := by omega
      have HI2 := Lib.hid hi2
      have hin : i < n := by omega
      have HL := Lib.hid (hless wr ao n c _ L' HP.out.2.2.2.symm (own_rd2 HR.out).1 k i hkn hin)
      clear hi2
      by_cases hlt : gx L' k < gx L' i
      · have hd : decide (gx L' k < gx L' i) = true := by simpa using hlt
        rw [hd] at HL
        have HLT := Lib.hid hlt
        have hSW : ∀ q, (Calls Tryz.prog 183 #[.slice ao n c, .int .i64 i, .int .i64 k] (wr.drewN q) fun e w' => e = .returned (.tuple #[]) ∧ (HpIn w' h Q (.slice ao n c) (sw L' i k) ∧ Chg Q wr w')) := fun q => by
          refine (hswap (wr.drewN q) 0 (.slice ao n c) n L' HP.out.2.2.2.symm HR.out i k hin hkn (by omega)).mono ?_
          rintro e w' ⟨rfl, h1, h2⟩
          have k0 : Chg (Value.slice ao n c).ownBlock.toList wr w' := ((Chg.refl _ wr).drewN q).trans h2
          have k1 : Chg Q wr w' := k0.mono (fun x hx _ => by simp at hx; exact HI.out.own.2 x hx)
          refine ⟨rfl, ⟨k0.heap HI.out.blk (fun hm => by simp at hm; exact HF.out _ hm rfl), ?_, HI.out.own, fun g hg => Nat.lt_of_lt_of_le (HI.out.lt g hg) k1.size⟩, k1⟩
          rw [sw_length, ← HP.out.2.2.2]
          exact h1
        have HSW := Lib.hid hSW
        have hm2 := fun q => methSwap (wr.drewN q) h (.slice ao n c) (show wr.cell? ⟨h, 0, none⟩ = _ from cell_heap HI.out.blk 0 rfl)
        clear hd hlt hSW
        go_wp2_with (first
          | (go_at_call 182; refine HL.out.mono ?_; rintro e w2 ⟨rfl, q, rfl⟩)
          | (go_at_call 183; refine (HSW.out _).mono ?_; rintro e w3 ⟨rfl, hw3⟩; have HW3 := Lib.hid hw3; clear hw3))
        go_roundw
        case rel => exact ⟨i, sw L' i k, rfl, by omega, HW3.out.1, (sw_perm (by rw [← HP.out.2.2.2]; exact hin) (by rw [← HP.out.2.2.2]; exact hkn)).trans HP.out.1, HP.out.2.1.step (by omega) (by rw [← HP.out.2.2.2]; exact hkn) HI2.out.symm HLT.out, HP.out.2.2.1.trans HW3.out.2⟩
        case measure => simp [intOf]; omega
      · have hd : decide (gx L' k < gx L' i) = false := by simpa using hlt
        rw [hd] at HL
        have HLT := Lib.hid hlt
        clear hd hlt
        go_wp2_with (go_at_call 182; refine HL.out.mono ?_; rintro e w2 ⟨rfl, q, rfl⟩)
        go_end0
        exact ⟨rfl, L', HI.out.foreign ((Chg.refl [] wr).drewN q) (by simp), HP.out.1, HP.out.2.1.stop (.inr (by rw [← HI2.out]; exact HLT.out)), HP.out.2.2.1.drewN q⟩
end Go.Proofs.YtfhiioopimmahaaGreatDoor
namespace Go.Proofs.YtfhiioopimmahaaGreatDoor
open Go.RowKit Go.Pax Go.Shelf
set_option maxRecDepth 100000 in
set_option maxHeartbeats 16000000 in
theorem hdown (w : World) (h : Nat) (Q : List Nat) (L : List Str) (v : Value) (i0 N : Nat) (H : HpIn w h Q v L) (hl : L.length ≤ 1000001) (hN : N ≤ L.length) (hi0 : i0 ≤ N) (hd : DownAt L i0 N) :
    Calls Tryz.prog 116 #[hv h, .int .i64 i0, .int .i64 N] w fun e w' => (∃ b, e = .returned b) ∧ ∃ L', HpIn w' h Q v L' ∧ L'.Perm L ∧ HeapN L' N ∧ (∀ k, N ≤ k → gx L' k = gx L k) ∧ Chg Q w w' := by
  unfold hv
  have HH := Lib.hid H
  have HU := Lib.hid hd
  clear H hd
  go_enter Tryz.func116, Tryz.ntmps116
  go_wp2_with fail
  go_loopw [7] (fun u wr => ∃ (k : Nat) (L' : List Str), u = .int .i64 k ∧ k ≤ N ∧ HpIn wr h Q v L' ∧ L'.Perm L ∧ DownAt L' k N ∧ (∀ k, N ≤ k → gx L' k = gx L k) ∧ Chg Q w wr) (fun u _ => N - (intOf u).toNat)
  case atStart => exact ⟨i0, L, rfl, hi0, HH.out, List.Perm.refl _, HU.out, fun _ _ => rfl, Chg.refl _ _⟩
  case round =>
    obtain ⟨k, L', rfl, hk, hi, hp, hu', hg, kk⟩ := hrel
    obtain ⟨ao, c, hv⟩ := own_shape hi.row
    have c0 := cell_heap hi.blk 0 (v := v) rfl
    obtain ⟨n, hn⟩ : ∃ n, n = L'.length := ⟨_, rfl⟩
    have hlen := hp.length_eq
    rw [← hn] at hv
    subst hv
    have hNn : N ≤ n := by omega
    have hn1 : n ≤ 1000001 := by omega
    have HI := Lib.hid hi
    have HP := Lib.hid (And.intro hp (And.intro hu' (And.intro kk (And.intro hn hg))))
    have HR := Lib.hid (show wr.ownsRow 0 9 1 (.slice ao n c) n (svn L') by have := hi.row; rw [← hn] at this; exact this)
    have HF := Lib.hid (fun g (hg : (Value.slice ao n c).ownBlock = some g) => hi.far hg)
    have hm := methLess wr h _ c0
    have HCC := Lib.hid (fun W (kw : Chg [] wr W) => kw.cell c0 (by simp))
    have HHI := Lib.hid hi0
    clear hi hp hu' kk hlen hn c0 hg hi0
    obtain ⟨j1, hj1⟩ : ∃ j1, j1 = 2 * k + 1 := ⟨_, rfl⟩
    have e1 : 2 * (k : Int) + 1 = (j1 : Int) := by omega
    by_cases hleaf : N ≤ j1
    · have hle : (N : Int) ≤ (j1 : Int) := by omega
      have HLF := Lib.hid (HP.out.2.1.leaf (by omega))
      have hkB : k ≤ 1000001 := by omega
      have hNB : N ≤ 1000001 := by omega
      clear hm hNn hn1 hk hl hN hleaf hj1
      go_wp2_with fail
      go_ret
      exact ⟨⟨_, rfl⟩, L', HI.out, HP.out.1, HLF.out, HP.out.2.2.2.2, HP.out.2.2.1⟩
    · obtain ⟨j2, hj2⟩ : ∃ j2, j2 = j1 + 1 := ⟨_, rfl⟩
      have e3 : (j1 : Int) + 1 = (j2 : Int) := by omega
      have hlt1 : ¬ (N : Int) ≤ (j1 : Int) := by omega
      have hlt0 : ¬ (j1 : Int) < 0 := by omega
      have hkn : k < n := by omega
      have hj1n : j1 < n := by omega
      have hj1k : (j1 - 1) / 2 = k := by omega
      have hj2k : (j2 - 1) / 2 = k := by omega
      have hjN : j1 < N := by omega
      have hkB : k ≤ 1000001 := by omega
      have hNB : N ≤ 1000001 := by omega
      have HNB2 := Lib.hid hn1
      have HK := Lib.hid (fun x (h0 : 0 < x) (hx : (x - 1) / 2 = k) => (show x = j1 ∨ x = j2 by omega))
      have HNS := Lib.hid (And.intro hkn (And.intro hj1n (And.intro hj1k (And.intro hj2k (And.intro hjN (And.intro hNn (And.intro (show k < j1 by omega) (show j1 < j2 by omega))))))))
      clear hj1 hj2 hNn hn1 hk hl hN hleaf hj1k hj2k
      by_cases hr : j2 < N
      · have hri : (j2 : Int) < (N : Int) := by omega
        have hj2n : j2 < n := by have := HNS.out; omega
        have HLL := Lib.hid (hless wr ao n c _ L' HP.out.2.2.2.1.symm (own_rd2 HR.out).1 j2 j1 hj2n hj1n)
        by_cases hb : gx L' j2 < gx L' j1
        · have hbd : decide (gx L' j2 < gx L' j1) = true := by simpa using hb
          rw [hbd] at HLL
          have HM := Lib.hid (fun x (h0 : 0 < x) (hxN : x < N) (hx : (x - 1) / 2 = k) => (show ¬ gx L' x < gx L' j2 by
            rcases HK.out x h0 hx with e | e
            · rw [e]; exact nlt_of hb
            · rw [e]; exact slt_irrefl _))
          have HJN := Lib.hid (And.intro hj2n (And.intro HNS.out.2.2.2.1 hr))
          have hjl : j2 < 1000002 := by omega
          clear hbd hb hr hjN hj1n hj2n
          have HL := Lib.hid (fun W (kw : Chg [] wr W) => hless W ao n c _ L' HP.out.2.2.2.1.symm (own_rd2 (own_chg HR.out kw (by simp))).1 j2 k HJN.out.1 HNS.out.1)
          clear hkn
          by_cases hlt : gx L' j2 < gx L' k
          · have hd : decide (gx L' j2 < gx L' k) = true := by simpa using hlt
            rw [hd] at HL
            have HLT := Lib.hid hlt
            have hSW : ∀ W, Chg [] wr W → (Calls Tryz.prog 183 #[.slice ao n c, .int .i64 k, .int .i64 j2] W fun e w' => e = .returned (.tuple #[]) ∧ (HpIn w' h Q (.slice ao n c) (sw L' k j2) ∧ Chg Q wr w')) := fun W kw => by
              refine (hswap W 0 (.slice ao n c) n L' HP.out.2.2.2.1.symm (own_chg HR.out kw (by simp)) k j2 HNS.out.1 HJN.out.1 (by have := HNB2.out; omega)).mono ?_
              rintro e w' ⟨rfl, h1, h2⟩
              have k0 : Chg (Value.slice ao n c).ownBlock.toList wr w' := (kw.mono (by simp)).trans h2
              have k1 : Chg Q wr w' := k0.mono (fun x hx _ => by simp at hx; exact HI.out.own.2 x hx)
              refine ⟨rfl, ⟨k0.heap HI.out.blk (fun hm => by simp at hm; exact HF.out _ hm rfl), ?_, HI.out.own, fun g hg => Nat.lt_of_lt_of_le (HI.out.lt g hg) k1.size⟩, k1⟩
              rw [sw_length, ← HP.out.2.2.2.1]
              exact h1
            have HSW := Lib.hid hSW
            clear hd hlt hSW
            go_upto_region 8 with (go_at_call 182; refine HLL.out.mono ?_; rintro e w2 ⟨rfl, q0, hw2⟩; have HK2 := Lib.hid (show Chg [] wr w2 by rw [hw2]; exact (Chg.refl _ _).drewN q0); have hm2 := methLess w2 h (.slice ao n c) (HCC.out _ HK2.out); clear hw2)
            go_wp2_with (first
              | (go_at_call 182; refine (HL.out _ HK2.out).mono ?_; rintro e w3 ⟨rfl, q, hw3⟩; have HK3 := Lib.hid (show Chg [] wr w3 by rw [hw3]; exact HK2.out.drewN q); have hm3 := methSwap w3 h (.slice ao n c) (HCC.out _ HK3.out); clear hw3)
              | (go_at_call 183; refine (HSW.out _ HK3.out).mono ?_; rintro e w4 ⟨rfl, hw4⟩; have HW3 := Lib.hid hw4; clear hw4))
            go_roundw
            case rel => exact ⟨j2, sw L' k j2, rfl, by have := HJN.out; omega, HW3.out.1, (sw_perm (by rw [← HP.out.2.2.2.1]; exact HNS.out.1) (by rw [← HP.out.2.2.2.1]; exact HJN.out.1)).trans HP.out.1, HP.out.2.1.step (by have := HNS.out; omega) HJN.out.2.2 (by rw [← HP.out.2.2.2.1]; exact HNS.out.2.2.2.2.2.1) HJN.out.2.1 HM.out HLT.out, fun x hx => by have := HNS.out; have := HJN.out; rw [sw_gx (by rw [← HP.out.2.2.2.1]; exact HNS.out.1) (by rw [← HP.out.2.2.2.1]; exact HJN.out.1) (by omega) (by omega)]; exact HP.out.2.2.2.2 x hx, HP.out.2.2.1.trans HW3.out.2⟩
            case measure => have := HNS.out; have := HJN.out; simp [intOf]; omega
          · have hd : decide (gx L' j2 < gx L' k) = false := by simpa using hlt
            rw [hd] at HL
            have HLT := Lib.hid hlt
            clear hd hlt
            go_upto_region 8 with (go_at_call 182; refine HLL.out.mono ?_; rintro e w2 ⟨rfl, q0, hw2⟩; have HK2 := Lib.hid (show Chg [] wr w2 by rw [hw2]; exact (Chg.refl _ _).drewN q0); have hm2 := methLess w2 h (.slice ao n c) (HCC.out _ HK2.out); clear hw2)
            go_wp2_with (go_at_call 182; refine (HL.out _ HK2.out).mono ?_; rintro e w3 ⟨rfl, q, hw3⟩; have HK3 := Lib.hid (show Chg [] wr w3 by rw [hw3]; exact HK2.out.drewN q); clear hw3)
            go_ret
            exact ⟨⟨_, rfl⟩, L', HI.out.foreign HK3.out (by simp), HP.out.1, HP.out.2.1.stop HM.out HLT.out, HP.out.2.2.2.2, HP.out.2.2.1.trans (HK3.out.mono (by simp))⟩
        · have hbd : decide (gx L' j2 < gx L' j1) = false := by simpa using hb
          rw [hbd] at HLL
          have HM := Lib.hid (fun x (h0 : 0 < x) (hxN : x < N) (hx : (x - 1) / 2 = k) => (show ¬ gx L' x < gx L' j1 by
            rcases HK.out x h0 hx with e | e
            · rw [e]; exact slt_irrefl _
            · rw [e]; exact hb))
          have HJN := Lib.hid (And.intro hj1n (And.intro HNS.out.2.2.1 hjN))
          have hjl : j1 < 1000002 := by omega
          clear hbd hb hr hjN hj1n hj2n
          have HL := Lib.hid (fun W (kw : Chg [] wr W) => hless W ao n c _ L' HP.out.2.2.2.1.symm (own_rd2 (own_chg HR.out kw (by simp))).1 j1 k HJN.out.1 HNS.out.1)
          clear hkn
          by_cases hlt : gx L' j1 < gx L' k
          · have hd : decide (gx L' j1 < gx L' k) = true := by simpa using hlt
            rw [hd] at HL
            have HLT := Lib.hid hlt
            have hSW : ∀ W, Chg [] wr W → (Calls Tryz.prog 183 #[.slice ao n c, .int .i64 k, .int .i64 j1] W fun e w' => e = .returned (.tuple #[]) ∧ (HpIn w' h Q (.slice ao n c) (sw L' k j1) ∧ Chg Q wr w')) := fun W kw => by
              refine (hswap W 0 (.slice ao n c) n L' HP.out.2.2.2.1.symm (own_chg HR.out kw (by simp)) k j1 HNS.out.1 HJN.out.1 (by have := HNB2.out; omega)).mono ?_
              rintro e w' ⟨rfl, h1, h2⟩
              have k0 : Chg (Value.slice ao n c).ownBlock.toList wr w' := (kw.mono (by simp)).trans h2
              have k1 : Chg Q wr w' := k0.mono (fun x hx _ => by simp at hx; exact HI.out.own.2 x hx)
              refine ⟨rfl, ⟨k0.heap HI.out.blk (fun hm => by simp at hm; exact HF.out _ hm rfl), ?_, HI.out.own, fun g hg => Nat.lt_of_lt_of_le (HI.out.lt g hg) k1.size⟩, k1⟩
              rw [sw_length, ← HP.out.2.2.2.1]
              exact h1
            have HSW := Lib.hid hSW
            clear hd hlt hSW
            go_upto_region 8 with (go_at_call 182; refine HLL.out.mono ?_; rintro e w2 ⟨rfl, q0, hw2⟩; have HK2 := Lib.hid (show Chg [] wr w2 by rw [hw2]; exact (Chg.refl _ _).drewN q0); have hm2 := methLess w2 h (.slice ao n c) (HCC.out _ HK2.out); clear hw2)
            go_wp2_with (first
              | (go_at_call 182; refine (HL.out _ HK2.out).mono ?_; rintro e w3 ⟨rfl, q, hw3⟩; have HK3 := Lib.hid (show Chg [] wr w3 by rw [hw3]; exact HK2.out.drewN q); have hm3 := methSwap w3 h (.slice ao n c) (HCC.out _ HK3.out); clear hw3)
              | (go_at_call 183; refine (HSW.out _ HK3.out).mono ?_; rintro e w4 ⟨rfl, hw4⟩; have HW3 := Lib.hid hw4; clear hw4))
            go_roundw
            case rel => exact ⟨j1, sw L' k j1, rfl, by have := HJN.out; omega, HW3.out.1, (sw_perm (by rw [← HP.out.2.2.2.1]; exact HNS.out.1) (by rw [← HP.out.2.2.2.1]; exact HJN.out.1)).trans HP.out.1, HP.out.2.1.step (by have := HNS.out; omega) HJN.out.2.2 (by rw [← HP.out.2.2.2.1]; exact HNS.out.2.2.2.2.2.1) HJN.out.2.1 HM.out HLT.out, fun x hx => by have := HNS.out; have := HJN.out; rw [sw_gx (by rw [← HP.out.2.2.2.1]; exact HNS.out.1) (by rw [← HP.out.2.2.2.1]; exact HJN.out.1) (by omega) (by omega)]; exact HP.out.2.2.2.2 x hx, HP.out.2.2.1.trans HW3.out.2⟩
            case measure => have := HNS.out; have := HJN.out; simp [intOf]; omega
          · have hd : decide (gx L' j1 < gx L' k) = false := by simpa using hlt
            rw [hd] at HL
            have HLT := Lib.hid hlt
            clear hd hlt
            go_upto_region 8 with (go_at_call 182; refine HLL.out.mono ?_; rintro e w2 ⟨rfl, q0, hw2⟩; have HK2 := Lib.hid (show Chg [] wr w2 by rw [hw2]; exact (Chg.refl _ _).drewN q0); have hm2 := methLess w2 h (.slice ao n c) (HCC.out _ HK2.out); clear hw2)
            go_wp2_with (go_at_call 182; refine (HL.out _ HK2.out).mono ?_; rintro e w3 ⟨rfl, q, hw3⟩; have HK3 := Lib.hid (show Chg [] wr w3 by rw [hw3]; exact HK2.out.drewN q); clear hw3)
            go_ret
            exact ⟨⟨_, rfl⟩, L', HI.out.foreign HK3.out (by simp), HP.out.1, HP.out.2.1.stop HM.out HLT.out, HP.out.2.2.2.2, HP.out.2.2.1.trans (HK3.out.mono (by simp))⟩
      · have hri : ¬ (j2 : Int) < (N : Int) := by omega
        have HM := Lib.hid (fun x (h0 : 0 < x) (hxN : x < N) (hx : (x - 1) / 2 = k) => (show ¬ gx L' x < gx L' j1 by
            rcases HK.out x h0 hx with e | e
            · rw [e]; exact slt_irrefl _
            · omega))
        have HJN := Lib.hid (And.intro hj1n (And.intro HNS.out.2.2.1 hjN))
        have hjl : j1 < 1000002 := by omega
        clear hr hjN hj1n
        have HL := Lib.hid (fun W (kw : Chg [] wr W) => hless W ao n c _ L' HP.out.2.2.2.1.symm (own_rd2 (own_chg HR.out kw (by simp))).1 j1 k HJN.out.1 HNS.out.1)
        clear hkn
        by_cases hlt : gx L' j1 < gx L' k
        · have hd : decide (gx L' j1 < gx L' k) = true := by simpa using hlt
          rw [hd] at HL
          have HLT := Lib.hid hlt
          have hSW : ∀ W, Chg [] wr W → (Calls Tryz.prog 183 #[.slice ao n c, .int .i64 k, .int .i64 j1] W fun e w' => e = .returned (.tuple #[]) ∧ (HpIn w' h Q (.slice ao n c) (sw L' k j1) ∧ Chg Q wr w')) := fun W kw => by
            refine (hswap W 0 (.slice ao n c) n L' HP.out.2.2.2.1.symm (own_chg HR.out kw (by simp)) k j1 HNS.out.1 HJN.out.1 (by have := HNB2.out; omega)).mono ?_
            rintro e w' ⟨rfl, h1, h2⟩
            have k0 : Chg (Value.slice ao n c).ownBlock.toList wr w' := (kw.mono (by simp)).trans h2
            have k1 : Chg Q wr w' := k0.mono (fun x hx _ => by simp at hx; exact HI.out.own.2 x hx)
            refine ⟨rfl, ⟨k0.heap HI.out.blk (fun hm => by simp at hm; exact HF.out _ hm rfl), ?_, HI.out.own, fun g hg => Nat.lt_of_lt_of_le (HI.out.lt g hg) k1.size⟩, k1⟩
            rw [sw_length, ← HP.out.2.2.2.1]
            exact h1
          have HSW := Lib.hid hSW
          clear hd hlt hSW
          have HK2 := Lib.hid (Chg.refl [] wr)
          go_wp2_with (first
            | (go_at_call 182; refine (HL.out _ HK2.out).mono ?_; rintro e w3 ⟨rfl, q, hw3⟩; have HK3 := Lib.hid (show Chg [] wr w3 by rw [hw3]; exact HK2.out.drewN q); have hm3 := methSwap w3 h (.slice ao n c) (HCC.out _ HK3.out); clear hw3)
            | (go_at_call 183; refine (HSW.out _ HK3.out).mono ?_; rintro e w4 ⟨rfl, hw4⟩; have HW3 := Lib.hid hw4; clear hw4))
          go_roundw
          case rel => exact ⟨j1, sw L' k j1, rfl, by have := HJN.out; omega, HW3.out.1, (sw_perm (by rw [← HP.out.2.2.2.1]; exact HNS.out.1) (by rw [← HP.out.2.2.2.1]; exact HJN.out.1)).trans HP.out.1, HP.out.2.1.step (by have := HNS.out; omega) HJN.out.2.2 (by rw [← HP.out.2.2.2.1]; exact HNS.out.2.2.2.2.2.1) HJN.out.2.1 HM.out HLT.out, fun x hx => by have := HNS.out; have := HJN.out; rw [sw_gx (by rw [← HP.out.2.2.2.1]; exact HNS.out.1) (by rw [← HP.out.2.2.2.1]; exact HJN.out.1) (by omega) (by omega)]; exact HP.out.2.2.2.2 x hx, HP.out.2.2.1.trans HW3.out.2⟩
          case measure => have := HNS.out; have := HJN.out; simp [intOf]; omega
        · have hd : decide (gx L' j1 < gx L' k) = false := by simpa using hlt
          rw [hd] at HL
          have HLT := Lib.hid hlt
          clear hd hlt
          have HK2 := Lib.hid (Chg.refl [] wr)
          go_wp2_with (go_at_call 182; refine (HL.out _ HK2.out).mono ?_; rintro e w3 ⟨rfl, q, hw3⟩; have HK3 := Lib.hid (show Chg [] wr w3 by rw [hw3]; exact HK2.out.drewN q); clear hw3)
          go_ret
          exact ⟨⟨_, rfl⟩, L', HI.out.foreign HK3.out (by simp), HP.out.1, HP.out.2.1.stop HM.out HLT.out, HP.out.2.2.2.2, HP.out.2.2.1.trans (HK3.out.mono (by simp))⟩
end Go.Proofs.YtfhiioopimmahaaGreatDoor
namespace Go.Proofs.YtfhiioopimmahaaGreatDoor
open Go.RowKit Go.Pax Go.Shelf
theorem own_cut {w : World} {base : Nat} {e : TypeId} {g n c m : Nat} {xs : List Value} (h : w.ownsRow base e 1 (.slice (some ⟨g, 0, none⟩) n c) n xs) (hm : m ≤ n) : w.ownsRow base e 1 (.slice (some ⟨g, 0, none⟩) m c) m (xs.take m) := by
  rcases h.2 with ⟨hv, _⟩ | ⟨g', cap, cur, hv, hb, hg, hn, hmx, hs, ht⟩
  · cases hv
  simp only [Value.slice.injEq, Option.some.injEq, Addr.mk.injEq] at hv
  obtain ⟨⟨rfl, _⟩, _, rfl⟩ := hv
  have h1 := h.1
  refine ⟨by rw [List.length_take, h1]; omega, .inr ⟨g, c, cur, rfl, hb, hg, by omega, hmx, hs, ?_⟩⟩
  rw [← ht, List.take_take]
  congr 1; omega
set_option maxRecDepth 100000 in
set_option maxHeartbeats 4000000 in
theorem hpopm (w : World) (h : Nat) (Q : List Nat) (L : List Str) (v : Value) (n : Nat) (H : HpIn w h Q v L) (hn : L.length = n + 1) (hl : n ≤ 1000001) :
    Calls Tryz.prog 184 #[.pointer (some ⟨h, 0, none⟩)] w fun e w' => e = .returned (.iface 9 (.string (ba (gx L n)))) ∧ HpTo w w' h Q (L.take n) := by
  obtain ⟨ao, c, rfl⟩ := own_shape H.row
  have hrow : w.ownsRow 0 9 1 (.slice ao (n + 1) c) (n + 1) (svn L) := by have := H.row; rw [hn] at this; exact this
  obtain ⟨g, rfl, _, hc, hfz, hcl⟩ := own_at hrow (by omega)
  have d1 := hcl n _ (svn_get (by omega))
  have c0 := cell_heap H.blk 0 (v := .slice (some ⟨g, 0, none⟩) (n + 1) c) (by rw [hn]; rfl)
  have f0 : w.frozen? ⟨h, 0, none⟩ = false := frozen_of_row _ _ _ _ _ H.blk
  have hT : HpTo w (w.setCell ⟨h, 0, none⟩ (.slice (some ⟨g, 0, none⟩) n c)) h Q (L.take n) := by
    refine H.put (Chg.refl _ _) (n1 := n) ?_ (by simp; omega) (.inl rfl)
    have := own_cut hrow (m := n) (by omega)
    have e : svn (L.take n) = (svn L).take n := by simp [svn, sv, List.map_take]
    rw [e]
    exact this
  have HT := Lib.hid hT
  have e1 : IntKind.i64.wrap (((n + 1 : Nat) : Int) - 1) = (n : Int) := by rw [show ((n + 1 : Nat) : Int) - 1 = (n : Int) by omega]; exact IntWalk.i64_in _ (by omega)
  have e2 : ((n + 1 : Nat) : Int) - 1 = (n : Int) := by omega
  have hnc : n ≤ c := by omega
  clear hcl hfz hT H hrow hn
  generalize ba (gx L n) = X at *
  go_enter Tryz.func184, Tryz.ntmps184
  go_wp2_with fail
  go_ret
  exact ⟨rfl, HT.out⟩
set_option maxRecDepth 100000 in
set_option maxHeartbeats 4000000 in
theorem hinit (w : World) (h : Nat) (Q : List Nat) (v : Value) (H : HpIn w h Q v []) :
    Calls Tryz.prog 96 #[hv h] w fun e w' => e = .returned (.tuple #[]) ∧ w' = w := by
  obtain ⟨ao, c, rfl⟩ := own_shape H.row
  have c0 := cell_heap H.blk 0 (v := .slice ao 0 c) rfl
  have hm := methLen w h _ c0
  have HL := Lib.hid (hlen w ao 0 c)
  clear H
  unfold hv
  have e1 : ((0 : Nat) : Int).tdiv 2 = 0 := rfl
  go_enter Tryz.func96, Tryz.ntmps96
  go_wp2_with (go_at_call 119; refine HL.out.mono ?_; rintro e w2 ⟨rfl, hw2⟩; obtain rfl := hw2.symm)
  go_loopw [3] (fun u wr => u = .int .i64 (-1) ∧ wr = w) (fun _ _ => 0)
  case atStart => exact ⟨rfl, rfl⟩
  case round =>
    obtain ⟨rfl, rfl⟩ := hrel
    go_wp2_with fail
    go_end0
    exact ⟨rfl, rfl⟩
/-- The heap afterwards. -/
def HpNew (w w' : World) (h : Nat) (Q : List Nat) (L : List Str) : Prop := ∃ L', HpTo w w' h Q L' ∧ L'.Perm L ∧ HeapN L' L'.length
theorem HpIn.to {w w' : World} {h : Nat} {Q : List Nat} {v : Value} {L : List Str} (H : HpIn w' h Q v L) (k : Chg Q w w') : HpTo w w' h Q L := ⟨Q, ⟨⟨v, H⟩, fun _ hg => .inl hg⟩, k⟩
set_option maxRecDepth 100000 in
set_option maxHeartbeats 4000000 in
theorem hadd (w : World) (h : Nat) (Q : List Nat) (L : List Str) (x : Str) (H : HpAt w h Q L) (hh : HeapN L L.length) (hl : L.length ≤ 1000000) :
    Calls Tryz.prog 99 #[hv h, .iface 9 (.string (ba x))] w fun e w' => e = .returned (.tuple #[]) ∧ HpNew w w' h Q (x :: L) := by
  have HP := Lib.hid (hpush w h Q L x H hl)
  have HU := Lib.hid (fun W Q1 v (H1 : HpIn W h Q1 v (L ++ [x])) => hup W h Q1 (L ++ [x]) v L.length H1 (by simp; omega) (by simp) (hh.pushed x))
  have hp0 := methPush w h
  have HM := Lib.hid (fun W Q1 v (H1 : HpIn W h Q1 v (L ++ [x])) => And.intro (methLen W h v (cell_heap H1.blk 0 rfl)) (show ∃ ao c, v = .slice ao (L.length + 1) c from (by obtain ⟨ao, c, e⟩ := own_shape H1.row; exact ⟨ao, c, by simpa using e⟩)))
  have hperm : (L ++ [x]).Perm (x :: L) := List.perm_append_singleton x L
  have HPM := Lib.hid hperm
  clear H hh hperm
  unfold hv at *
  generalize ba x = X at *
  obtain ⟨n, hn⟩ : ∃ n, n = L.length := ⟨_, rfl⟩
  rw [← hn] at HU HM hl
  have e2 : ((n + 1 : Nat) : Int) - 1 = (n : Int) := by omega
  clear hn
  go_enter Tryz.func99, Tryz.ntmps99
  go_upto_region 1 with (go_at_call 185; refine HP.out.mono ?_; rintro e w1 ⟨rfl, Q1, ⟨⟨v1, hv1⟩, hq1⟩, hk1⟩; have HV := Lib.hid (And.intro hv1 (And.intro hq1 hk1)); clear hv1 hq1 hk1)
  obtain ⟨hm1, ao, c, rfl⟩ := HM.out w1 Q1 v1 HV.out.1
  have HLN := Lib.hid (hlen w1 ao (n + 1) c)
  go_wp2_with (first
    | (go_at_call 119; refine HLN.out.mono ?_; rintro e w2 ⟨rfl, hw2⟩; obtain rfl := hw2.symm)
    | (go_at_call 118; refine (HU.out _ _ _ HV.out.1).mono ?_; rintro e w3 ⟨rfl, L', hl1, hl2, hl3, hl4⟩; have HW := Lib.hid (And.intro hl1 (And.intro hl2 (And.intro hl3 hl4))); clear hl1 hl2 hl3 hl4))
  go_end0
  exact ⟨rfl, L', HpTo.then_ HV.out.2.2 HV.out.2.1 (HW.out.1.to HW.out.2.2.2), HW.out.2.1.trans HPM.out, HW.out.2.2.1⟩
set_option maxRecDepth 100000 in
set_option maxHeartbeats 4000000 in
theorem htake (w : World) (h : Nat) (Q : List Nat) (L : List Str) (n : Nat) (H : HpAt w h Q L) (hh : HeapN L L.length) (hn : L.length = n + 1) (hl : n ≤ 1000000) :
    Calls Tryz.prog 101 #[hv h] w fun e w' => e = .returned (.iface 9 (.string (ba (gx L 0)))) ∧ ∃ R, HpTo w w' h Q R ∧ (gx L 0 :: R).Perm L ∧ HeapN R R.length ∧ ∀ y ∈ R, ¬ y < gx L 0 := by
  obtain ⟨v, H⟩ := H
  obtain ⟨ao, c, rfl⟩ := own_shape H.row
  have hrow : w.ownsRow 0 9 1 (.slice ao (n + 1) c) (n + 1) (svn L) := by have := H.row; rw [hn] at this; exact this
  have c0 := cell_heap H.blk 0 (v := .slice ao (n + 1) c) (by rw [hn]; rfl)
  have hm1 := methLen w h _ c0
  have hm2 := methSwap w h _ c0
  have HLN := Lib.hid (hlen w ao (n + 1) c)
  have hsl : (sw L 0 n).length = n + 1 := by rw [sw_length, hn]
  have HSW := Lib.hid (show Calls Tryz.prog 183 #[.slice ao (n + 1) c, .int .i64 0, .int .i64 n] w (fun e w' => e = .returned (.tuple #[]) ∧ (HpIn w' h Q (.slice ao (n + 1) c) (sw L 0 n) ∧ Chg Q w w')) from by
    refine (hswap w 0 (.slice ao (n + 1) c) (n + 1) L hn hrow 0 n (by omega) (by omega) (by omega)).mono ?_
    rintro e w' ⟨rfl, h1, h2⟩
    have k1 : Chg Q w w' := h2.mono (fun x hx _ => by simp at hx; rw [hn] at H; exact H.own.2 x hx)
    refine ⟨rfl, ⟨h2.heap (by rw [hn] at H; exact H.blk) (fun hm => by simp at hm; rw [hn] at H; exact H.far hm rfl), ?_, by rw [hn] at H; exact H.own, fun g hg => Nat.lt_of_lt_of_le (H.lt g hg) k1.size⟩, k1⟩
    rw [hsl]
    exact h1)
  rw [hn] at hh
  have HD := Lib.hid (fun W (H1 : HpIn W h Q (.slice ao (n + 1) c) (sw L 0 n)) => hdown W h Q (sw L 0 n) (.slice ao (n + 1) c) 0 n H1 (by rw [hsl]; omega) (by rw [hsl]; omega) (Nat.zero_le _) (hh.popped hn))
  have HPP := Lib.hid (fun W L2 (H1 : HpIn W h Q (.slice ao (n + 1) c) L2) (hp : L2.length = n + 1) => hpopm W h Q L2 (.slice ao (n + 1) c) n H1 hp (by omega))
  have HX := Lib.hid (fun L2 (hp : L2.Perm (sw L 0 n)) (hN : HeapN L2 n) (hg : ∀ k, n ≤ k → gx L2 k = gx (sw L 0 n) k) => (show L2.length = n + 1 ∧ gx L2 n = gx L 0 ∧ (gx L 0 :: L2.take n).Perm L ∧ HeapN (L2.take n) (L2.take n).length ∧ ∀ y ∈ L2.take n, ¬ y < gx L 0 by
    have hl2 : L2.length = n + 1 := by rw [hp.length_eq, hsl]
    have hgn : gx L2 n = gx L 0 := by rw [hg n (Nat.le_refl _), sw_j (by omega) (by omega)]
    have hpL : L2.Perm L := hp.trans (sw_perm (by omega) (by omega))
    have hcut : L2 = L2.take n ++ [gx L2 n] := by
      rw [gx_eq (by omega), List.take_append_getElem, List.take_of_length_le (by omega)]
    refine ⟨hl2, hgn, ?_, hN.take (by omega), fun y hy => ?_⟩
    · rw [← hgn]
      refine (List.perm_append_singleton _ _).symm.trans ?_
      rw [← hcut]
      exact hpL
    · have hyL : y ∈ L := hpL.mem_iff.1 (List.mem_of_mem_take hy)
      obtain ⟨k, hk, rfl⟩ := List.mem_iff_getElem.1 hyL
      have := hh.least k (by omega)
      rw [gx_eq hk] at this
      exact this))
  have HM := Lib.hid (fun W => methPop W h)
  clear H hh hn c0 hsl hrow
  unfold hv at *
  have e2 : ((n + 1 : Nat) : Int) - 1 = (n : Int) := by omega
  generalize gx L 0 = x0 at *
  generalize sw L 0 n = L1 at *
  go_enter Tryz.func101, Tryz.ntmps101
  go_upto_region 4 with (first
    | (go_at_call 119; refine HLN.out.mono ?_; rintro e w2 ⟨rfl, hw2⟩; obtain rfl := hw2.symm)
    | (go_at_call 183; refine HSW.out.mono ?_; rintro e w3 ⟨rfl, h1, h2⟩; have HW3 := Lib.hid (And.intro h1 h2); clear h1 h2)
    | (go_at_call 116; refine (HD.out _ HW3.out.1).mono ?_; rintro e w4 ⟨⟨b, rfl⟩, L2, h1, h2, h3, h4, h5⟩; have HW4 := Lib.hid (And.intro h1 (And.intro (HX.out L2 h2 h3 h4) h5)); clear h1 h2 h3 h4 h5))
  have hm4 := HM.out w4
  go_wp2_with (go_at_call 184; refine (HPP.out _ _ HW4.out.1 HW4.out.2.1.1).mono ?_; rintro e w5 ⟨rfl, h5⟩; have HW5 := Lib.hid h5; clear h5)
  go_ret
  rw [HW4.out.2.1.2.1]
  exact ⟨rfl, L2.take n, HpTo.then_ (HW3.out.2.trans HW4.out.2.2) (fun g hg => .inl hg) HW5.out, HW4.out.2.1.2.2.1, HW4.out.2.1.2.2.2⟩
end Go.Proofs.YtfhiioopimmahaaGreatDoor
namespace Go.Proofs.YtfhiioopimmahaaGreatDoor
open Go.RowKit Go.Pax Go.Shelf
theorem Tryz.hnilS : ∀ (w : World) (a : Option Addr) (n c n' c' : Nat), (binOp .eql 47 (.slice a n c) (.slice none n' c')).run Tryz.prog w = .ok (.bool a.isNone) w := fun w a n c n' c' => Lib.run_eql_slice_nil w _ _ a n c n' c' Tryz.underlying47
set_option maxHeartbeats 1000000 in
theorem cloneS_nil (w : World) (n c : Nat) : Calls Tryz.prog 95 #[.slice none n c] w fun e w' => e = .returned (.slice none 0 0) ∧ w' = w := by
  have hq := Tryz.hnilS
  go_enter Tryz.func95, Tryz.ntmps95
  go_wp2
  go_ret
  exact ⟨rfl, rfl⟩
set_option maxHeartbeats 2000000 in
theorem hnew (w : World) : Calls Tryz.prog 67 #[.slice none 0 0] w fun e w' => e = .returned (.pointer (some ⟨w.heap.size, 0, none⟩)) ∧ HpAt w' w.heap.size [w.heap.size] [] ∧ Chg [] w w' := by
  have HC := Lib.hid (fun W => cloneS_nil W 0 0)
  have HI : HpIn (w.alloc (.cells #[.slice none 0 0] 161)) w.heap.size [w.heap.size] (.slice none 0 0) [] :=
    ⟨heap_alloc_new _ _, ⟨rfl, .inl ⟨rfl, rfl⟩⟩, ⟨by simp, fun g hg => by cases hg⟩, fun g hg => by simp at hg; subst hg; simp⟩
  have HN := Lib.hid (hinit _ _ _ _ HI)
  have HH := Lib.hid HI
  clear HI
  unfold hv at HN
  go_enter Tryz.func67, Tryz.ntmps67
  go_wp2_with (first
    | (go_at_call 95; refine (HC.out _).mono ?_; rintro e w2 ⟨rfl, hw2⟩; obtain rfl := hw2.symm)
    | (go_at_call 96; refine HN.out.mono ?_; rintro e w3 ⟨rfl, hw3⟩; obtain rfl := hw3.symm))
  go_ret
  exact ⟨rfl, ⟨_, HH.out⟩, (Chg.refl _ _).alloc _⟩
set_option maxRecDepth 100000 in
set_option maxHeartbeats 4000000 in
theorem hone (w : World) (h : Nat) (Q : List Nat) (L : List Str) (x : Str) (b : Nat) (t : TypeId) (H : HpAt w h Q L) (hh : HeapN L L.length) (hl : L.length ≤ 1000000) (hb : w.heap[b]? = some (.cells #[.string (ba x)] t (0, 0))) :
    Calls Tryz.prog 70 #[.pointer (some ⟨h, 0, none⟩), .slice (some ⟨b, 0, none⟩) 1 1] w fun e w' => e = .returned (.tuple #[]) ∧ HpNew w w' h Q (x :: L) := by
  have HA := Lib.hid (hadd w h Q L x H hh hl)
  have c0 := cell_heap hb 0 (v := .string (ba x)) rfl
  clear H hh hb
  unfold hv at HA
  generalize ba x = X at *
  go_enter Tryz.func70, Tryz.ntmps70
  go_wp2_with fail
  refine wp_loop_rounds 2 ?_
  rw [rounds_succ]
  go_wp2_with (go_at_call 99; refine HA.out.mono ?_; rintro e w1 ⟨rfl, hw1⟩; have HW := Lib.hid hw1; clear hw1)
  rw [rounds_succ]
  go_wp2_with fail
  go_end0
  exact ⟨rfl, HW.out⟩
set_option maxRecDepth 100000 in
set_option maxHeartbeats 4000000 in
theorem hlenH (w : World) (h : Nat) (Q : List Nat) (L : List Str) (H : HpAt w h Q L) : Calls Tryz.prog 100 #[.pointer (some ⟨h, 0, none⟩)] w fun e w' => e = .returned (.int .i64 L.length) ∧ w' = w := by
  obtain ⟨v, H⟩ := H
  obtain ⟨ao, c, rfl⟩ := own_shape H.row
  have c0 := cell_heap H.blk 0 (v := .slice ao L.length c) rfl
  have HL := Lib.hid (hlen w ao L.length c)
  clear H
  generalize L.length = n at *
  go_enter Tryz.func100, Tryz.ntmps100
  go_wp2_with (go_at_call 119; refine HL.out.mono ?_; rintro e w2 ⟨rfl, hw2⟩; obtain rfl := hw2.symm)
  go_ret
  exact ⟨rfl, rfl⟩
set_option maxRecDepth 100000 in
set_option maxHeartbeats 4000000 in
theorem hpop0 (w : World) (h : Nat) (Q : List Nat) (H : HpAt w h Q []) : Calls Tryz.prog 72 #[.pointer (some ⟨h, 0, none⟩)] w fun e w' => e = .returned (.tuple #[.string ⟨#[]⟩, .bool false]) ∧ w' = w := by
  have HL := Lib.hid (hlenH w h Q [] H)
  go_enter Tryz.func72, Tryz.ntmps72
  go_wp2_with (go_at_call 100; refine HL.out.mono ?_; rintro e w2 ⟨rfl, hw2⟩; obtain rfl := hw2.symm)
  go_ret2
  exact ⟨rfl, rfl⟩
set_option maxRecDepth 100000 in
set_option maxHeartbeats 4000000 in
theorem hpop (w : World) (h : Nat) (Q : List Nat) (L : List Str) (H : HpAt w h Q L) (hh : HeapN L L.length) (hl : L.length ≤ 1000000) (h0 : L ≠ []) :
    Calls Tryz.prog 72 #[.pointer (some ⟨h, 0, none⟩)] w fun e w' => ∃ x R, e = .returned (.tuple #[.string (ba x), .bool true]) ∧ HpTo w w' h Q R ∧ (x :: R).Perm L ∧ HeapN R R.length ∧ ∀ y ∈ R, ¬ y < x := by
  have HL := Lib.hid (hlenH w h Q L H)
  obtain ⟨n, hn⟩ : ∃ n, L.length = n + 1 := ⟨L.length - 1, by have := List.length_pos_iff.2 h0; omega⟩
  have HT := Lib.hid (htake w h Q L n H hh hn (by omega))
  have hta := fun X W => assertS2 20 X W
  rw [hn] at HL
  clear H hh hn h0
  unfold hv at HT
  have hnz : ¬ ((n + 1 : Nat) : Int) = 0 := by omega
  go_enter Tryz.func72, Tryz.ntmps72
  go_wp2_with (first
    | (go_at_call 100; refine HL.out.mono ?_; rintro e w2 ⟨rfl, hw2⟩; obtain rfl := hw2.symm)
    | (go_at_call 101; refine HT.out.mono ?_; rintro e w3 ⟨rfl, R, hR⟩; have HW := Lib.hid hR; clear hR))
  go_ret2
  exact ⟨_, R, rfl, HW.out⟩
end Go.Proofs.YtfhiioopimmahaaGreatDoor
namespace Go.Pax
open Go.RowKit
instance : Inhabited AAct := ⟨⟨0, [], 0, [], []⟩⟩
def AAct.wf (a : AAct) : Prop := (-9223372036854775808 ≤ a.kind ∧ a.kind ≤ 9223372036854775807) ∧ (-9223372036854775808 ≤ a.mode ∧ a.mode ≤ 9223372036854775807) ∧ a.path.length ≤ 140737488355328 ∧ a.data.length ≤ 140737488355328 ∧ a.target.length ≤ 140737488355328
/-- The elements of a slice of calls. -/
def RdAct (w : World) (fp : List Nat) (ao : Option Addr) (L : List AAct) : Prop :=
  ∀ i x, L[i]? = some x → ∃ ad a c, ao = some ad ∧ ad.block ∈ fp ∧ w.cell? ((ad.add (i * 5)).add 0) = some (.int .i64 x.kind) ∧ w.cell? ((ad.add (i * 5)).add 1) = some (.string (ba x.path)) ∧ w.cell? ((ad.add (i * 5)).add 2) = some (.int .i64 x.mode) ∧
    w.cell? ((ad.add (i * 5)).add 3) = some (.slice a x.data.length c) ∧ w.cell? ((ad.add (i * 5)).add 4) = some (.string (ba x.target)) ∧ x.data.length ≤ c ∧ Rd w fp a (bv x.data)
theorem RdAct.mono {w : World} {fp fp' : List Nat} {ao : Option Addr} {L : List AAct} (h : RdAct w fp ao L) (hf : ∀ k, k ∈ fp → k ∈ fp') : RdAct w fp' ao L := fun i x hx => by
  obtain ⟨ad, a, c, h1, h2, h3, h4, h5, h6, h7, h8, h9⟩ := h i x hx
  exact ⟨ad, a, c, h1, hf _ h2, h3, h4, h5, h6, h7, h8, h9.mono hf⟩
/-- An element, as the walk wants its cells. -/
theorem RdAct.at {w w' : World} {fp : List Nat} {ao : Option Addr} {L : List AAct} (h : RdAct w fp ao L) (k : Chg [] w w') (i : Nat) (x : AAct) (hx : L[i]? = some x) : ∃ ad a c, ao = some ad ∧
    w'.cell? (ad.add (i * 5)) = some (.int .i64 x.kind) ∧ w'.cell? ⟨(ad.add (i * 5)).block, (ad.add (i * 5)).off + 1, none⟩ = some (.string (ba x.path)) ∧ w'.cell? ⟨(ad.add (i * 5)).block, (ad.add (i * 5)).off + 2, none⟩ = some (.int .i64 x.mode) ∧
    w'.cell? ⟨(ad.add (i * 5)).block, (ad.add (i * 5)).off + 3, none⟩ = some (.slice a x.data.length c) ∧ w'.cell? ⟨(ad.add (i * 5)).block, (ad.add (i * 5)).off + 4, none⟩ = some (.string (ba x.target)) ∧ Rd w fp a (bv x.data) ∧ x.data.length ≤ c := by
  obtain ⟨ad, a, c, h1, h2, c0, c1, c2, c3, c4, h8, h9⟩ := h i x hx
  have c0 := k.cell c0 (by simp)
  have c1 := k.cell c1 (by simp)
  have c2 := k.cell c2 (by simp)
  have c3 := k.cell c3 (by simp)
  have c4 := k.cell c4 (by simp)
  exact ⟨ad, a, c, h1, by simpa [Addr.add] using c0, by simpa [Addr.add] using c1, by simpa [Addr.add] using c2, by simpa [Addr.add] using c3, by simpa [Addr.add] using c4, h9, h8⟩
def AAct.len (a : AAct) : Nat := a.path.length + a.data.length + a.target.length
def actsLen (L : List AAct) : Nat := (L.map AAct.len).sum
theorem actsLen_take (L : List AAct) (i : Nat) (h : i < L.length) : actsLen (L.take (i + 1)) = actsLen (L.take i) + L[i].len := by
  unfold actsLen
  rw [List.take_add_one, List.getElem?_eq_getElem h]
  simp only [List.map_append, List.sum_append, Option.toList, List.map_cons, List.map_nil, List.sum_cons, List.sum_nil, Nat.add_zero]
theorem actsLen_bound (L : List AAct) (N : Nat) (h : ∀ b ∈ L, b.len ≤ N) (i : Nat) : actsLen (L.take i) ≤ i * N := by
  induction i with
  | zero => simp [actsLen]
  | succ i ih =>
    by_cases hi : i < L.length
    · rw [actsLen_take L i hi]
      have := h _ (List.getElem_mem hi)
      have e : (i + 1) * N = i * N + N := by rw [Nat.add_mul, Nat.one_mul]
      omega
    · rw [List.take_of_length_le (by omega)] at ih ⊢
      have e : (i + 1) * N = i * N + N := by rw [Nat.add_mul, Nat.one_mul]
      omega
/-- What TooLarge answers. -/
def tooE (L : List AAct) : Int := if 40 < L.length ∨ 20000 < actsLen L then 1 else 0
def Counted (L : List AAct) (k : Nat) (v : Value) : Prop := ∃ x : Int, v = .int .i64 x ∧ (L.length ≤ 40 → x = actsLen (L.take k))
end Go.Pax
namespace Go.Proofs.YtfhiioopimmahaaGreatDoor
open Go.RowKit Go.Pax Go.Shelf
set_option maxRecDepth 100000 in
set_option maxHeartbeats 8000000 in
theorem tooLarge (w : World) (lo : Option Addr) (lc : Nat) (L : List AAct) (fp : List Nat) (h : RdAct w fp lo L) (hwf : ∀ y ∈ L, y.wf) (hll : L.length ≤ 140737488355328) :
    Calls Tryz.prog 8 #[.slice lo L.length lc] w fun e w' => e = .returned (.int .i64 (tooE L)) ∧ Chg [] w w' := by
  have H := Lib.hid h
  have HWF := Lib.hid hwf
  have hb : ∀ b ∈ L, b.len ≤ 422212465065984 := fun b hb => by
    obtain ⟨_, _, h1, h2, h3⟩ := hwf b hb
    unfold AAct.len; omega
  have HB := Lib.hid (actsLen_bound L _ hb)
  have hE : tooE L = if 40 < L.length ∨ 20000 < actsLen L then 1 else 0 := rfl
  have HE := Lib.hid hE
  have HA := Lib.hid (congrArg actsLen (List.take_length (l := L)))
  clear h hwf hb hE
  generalize tooE L = E at *
  generalize hN : L.length = N at *
  have HN := Lib.hid hN
  clear hN
  go_enter Tryz.func8, Tryz.ntmps8
  go_wp2_with fail
  go_loopw [3, 8] (fun s i wr => ∃ k : Nat, k ≤ N ∧ i = .int .i64 k ∧ Chg [] w wr ∧ Counted L k s) (fun _ i _ => N - (intOf i).toNat)
  case atStart => exact ⟨0, Nat.zero_le _, rfl, Chg.refl _ _, 0, rfl, fun _ => by simp [actsLen]⟩
  case round =>
    obtain ⟨k, hk, rfl, hkr, x, rfl, hx⟩ := hrel
    have HKR := Lib.hid hkr
    have HX := Lib.hid hx
    clear hkr hx
    by_cases hlt : k < N
    · have hkL : k < L.length := by rw [HN.out]; exact hlt
      have hkx := List.getElem?_eq_getElem hkL
      obtain ⟨ad, a, c, rfl, c0, c1, c2, c3, c4, _, _⟩ := H.out.at HKR.out k _ hkx
      have ht := actsLen_take L k hkL
      obtain ⟨_, _, l1, l2, l3⟩ := HWF.out _ (List.getElem_mem hkL)
      have hz : L[k].len = (ba L[k].path).size + L[k].data.length + (ba L[k].target).size := by simp [AAct.len, ba_size]
      rw [hz] at ht
      rw [← ba_size] at l1 l3
      have HT := Lib.hid ht
      have hbnd : N ≤ 40 → actsLen (L.take k) ≤ 16888498602639360 := fun h => by
        have h1 := HB.out k
        have h2 : k * 422212465065984 ≤ 40 * 422212465065984 := Nat.mul_le_mul_right _ (by omega)
        omega
      have HBD := Lib.hid hbnd
      clear ht hbnd hz hkx
      generalize L[k].data.length = dl at *
      generalize ba L[k].path = P at *
      generalize ba L[k].target = T at *
      generalize L[k].kind = kd at *
      generalize L[k].mode = md at *
      by_cases h40 : N ≤ 40
      · have hxe := HX.out (by rw [HN.out]; exact h40)
        have hx0 : 0 ≤ x := by omega
        have hx1 : x ≤ 16888498602639360 := by have := HBD.out h40; omega
        have HXE := Lib.hid hxe
        clear hxe
        go_wp2_with fail
        go_roundw
        case rel => exact ⟨k + 1, by omega, by go_num, HKR.out.alloc _, _, rfl, fun _ => by rw [HT.out, HXE.out]; simp⟩
        case measure => simp [intOf]; omega
      · go_wp2_with fail
        go_roundw
        case rel => exact ⟨k + 1, by omega, by go_num, HKR.out.alloc _, _, rfl, fun h => absurd (by rw [HN.out] at h; exact h) h40⟩
        case measure => simp [intOf]; omega
    · have hkk : k = N := by omega
      subst hkk
      by_cases h40 : 40 < k
      · have hE := HE.out
        rw [if_pos (Or.inl h40)] at hE
        subst hE
        go_wp2_with fail
        all_goals
          go_ret
          exact ⟨rfl, HKR.out⟩
      have hxe := HX.out (by rw [HN.out]; omega)
      rw [HA.out] at hxe
      by_cases h5 : 20000 < x
      · have hE := HE.out
        rw [if_pos (Or.inr (by omega))] at hE
        subst hE
        go_wp2_with fail
        go_ret
        exact ⟨rfl, HKR.out⟩
      · have hE := HE.out
        rw [if_neg (by omega)] at hE
        subst hE
        go_wp2_with fail
        go_ret
        exact ⟨rfl, HKR.out⟩
end Go.Proofs.YtfhiioopimmahaaGreatDoor
