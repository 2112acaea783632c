/- extract: the creator's methods. Printed by wip/gen/genemeth.py. -/
import Derived.Test.YtfhiioopimmahaaGreatDoorPO06
import Derived.Test.YtfhiioopimmahaaGreatDoorPO10
import Derived.Test.YtfhiioopimmahaaGreatDoorPO11
namespace Go.Proofs.YtfhiioopimmahaaGreatDoor
open Go.RowKit Go.Pax Go.Shelf
theorem doneMade {w w' : World} {f : Nat} {O : List Nat} {σ : Fs} (a : AAct) (ha : 0 ≤ a.kind ∧ a.kind ≤ 3) (hb : MadeBy w w' f O σ a.path (mkK a) (mkM a) (mkT a) (mkD a)) : DoneBy w w' f O σ a := by
  have hE : doE σ a = makeE σ a.path (mkK a) (mkM a) (mkT a) := by unfold doE; rw [if_pos ha]
  unfold DoneBy
  rw [hE]
  refine ⟨hb.1, fun h0 => ?_⟩
  obtain ⟨pb, b, h1, h2, h3⟩ := hb.2 h0
  exact ⟨_, by unfold Next; rw [if_pos ha]; exact ⟨pb, b, h1, h2, rfl⟩, h3⟩
theorem doneLinked {w w' : World} {f : Nat} {O : List Nat} {σ : Fs} (p t : Str) (hb : LinkedBy w w' f O σ p t) : DoneBy w w' f O σ ⟨4, p, 0, [], t⟩ := by
  have hE : doE σ ⟨4, p, 0, [], t⟩ = linkE σ p t := rfl
  unfold DoneBy
  rw [hE]
  refine ⟨hb.1, fun h0 => ?_⟩
  obtain ⟨pb, b, h1, h2, h3⟩ := hb.2 h0
  exact ⟨_, ⟨pb, b, h1, h2, rfl⟩, h3⟩
theorem DoneBy.from {w0 w w' : World} {f : Nat} {O : List Nat} {σ : Fs} {a : AAct} (h : DoneBy w w' f O σ a) (k : Chg [] w0 w) : DoneBy w0 w' f O σ a := by
  refine ⟨fun hne => k.trans (h.1 hne), fun h0 => ?_⟩
  obtain ⟨σ', hN, hT⟩ := h.2 h0
  refine ⟨σ', ?_, FsTo.then_ (k.mono (by simp)) (fun g hg => .inl hg) hT⟩
  unfold Next at hN ⊢
  split
  · rename_i hk
    rw [if_pos hk] at hN
    obtain ⟨pb, b, h1, h2, h3⟩ := hN
    exact ⟨pb, b, h1, Nat.le_trans k.size h2, h3⟩
  · rename_i hk
    rw [if_neg hk] at hN
    exact hN
/-- The creator in memory. -/
structure CrAt (w : World) (cb mc f : Nat) (O : List Nat) (least : List (Int × Str)) : Prop where
  blk : w.heap[cb]? = some (.cells #[.pointer (some ⟨f, 0, none⟩), .map (some mc)] 102 (0, 0))
  map : MapG kvI kvS w mc least
  cbO : cb ∉ O
  mcO : mc ∉ O
  ne : cb ≠ mc
theorem CrAt.chg {w w' : World} {cb mc f : Nat} {O : List Nat} {least : List (Int × Str)} (h : CrAt w cb mc f O least) (k : Chg [] w w') : CrAt w' cb mc f O least := ⟨k.heap h.blk (by simp), h.map.chg k (by simp), h.cbO, h.mcO, h.ne⟩
set_option maxRecDepth 100000 in
set_option maxHeartbeats 8000000 in
theorem crDir (w : World) (f : Nat) (O : List Nat) (σ : Fs) (cb mc : Nat) (least : List (Int × Str)) (x : ANode) (da : Option Addr) (dl dc : Nat) (hc : CrAt w cb mc f O least) (h : FsAt w f O σ) (hok : σ.Ok) (hkeys : KeysAt w) (hko : 0 ∉ O) :
    Calls Tryz.prog 47 #[.pointer (some ⟨cb, 0, none⟩), ndV x (.slice da dl dc)] w fun e w' => e = .returned (.int .i64 (doE σ ⟨0, x.path, x.mode, [], []⟩)) ∧ DoneBy w w' f O σ ⟨0, x.path, x.mode, [], []⟩ := by
  have hm := fun W (k : Chg [] w W) => mkdir W f O σ x.path x.mode (h.foreign k (by simp)) hok (hkeys.chg k (by simp)) hko
  have hE : doE σ ⟨0, x.path, x.mode, [], []⟩ = makeE σ x.path 0 x.mode [] := rfl
  have HD := Lib.hid (fun w1 w2 (k : Chg [] w w1) (hb : MadeBy w1 w2 f O σ x.path 0 x.mode [] []) => (doneMade (w := w1) (w' := w2) (f := f) (O := O) (σ := σ) ⟨0, x.path, x.mode, [], []⟩ (by simp) hb).from k)
  rw [hE]
  have HC := Lib.hid hm
  have HB := Lib.hid hc.blk
  clear hm hE h hkeys hc
  obtain ⟨k, p, m, t, d, cl⟩ := x
  unfold ndV
  simp only at HC HD ⊢
  generalize makeE σ p 0 m [] = ME at *
  generalize hP : ba p = P at *
  clear hP
  have hk1 : Chg [] w (w.alloc (.cells #[.int .i64 k, .string P, .int .i64 m, .string (ba t), .slice da dl dc, .int .i64 cl] 45)) := (Chg.refl _ _).alloc _
  have e1 := heap_alloc_new w (.cells #[.int .i64 k, .string P, .int .i64 m, .string (ba t), .slice da dl dc, .int .i64 cl] 45)
  have HK1 := Lib.hid (And.intro hk1 e1)
  clear hk1 e1
  go_enter Tryz.func47, Tryz.ntmps47
  go_upto_region 1 with (fail)
  generalize w.alloc (.cells #[.int .i64 k, .string P, .int .i64 m, .string (ba t), .slice da dl dc, .int .i64 cl] 45) = W1 at *
  generalize w.heap.size = g1 at *
  have HK2 := Lib.hid (show Chg [] w W1.drew from HK1.out.1.trans (Chg.refl _ _).drew)
  have HS := Lib.hid (show W1.drew.cell? ⟨cb, 0, none⟩ = some (.pointer (some ⟨f, 0, none⟩)) ∧ W1.drew.cell? ⟨g1, 1, none⟩ = some (.string P) ∧ W1.drew.cell? ⟨g1, 2, none⟩ = some (.int .i64 m) from
    ⟨cell_heap (HK2.out.heap HB.out (by simp)) 0 rfl, cell_heap HK1.out.2 1 rfl, cell_heap HK1.out.2 2 rfl⟩)
  refine wp_region_mark (S := fun v => v.cell? ⟨cb, 0, none⟩ = some (.pointer (some ⟨f, 0, none⟩)) ∧ v.cell? ⟨g1, 1, none⟩ = some (.string P) ∧ v.cell? ⟨g1, 2, none⟩ = some (.int .i64 m)) 8 (by kernel_rfl) ?_ (fun hHeld => ?_)
  · exact HS.out
  refine wpAnyF_pure (i := 0) (oi := ?oi1) (v := ?v1) ?hi1 (by kernel_rfl) (by kernel_rfl) (by kernel_rfl) (by kernel_rfl) ?hQ1 (Or.inl ⟨?hw1, ?hy1⟩) (Or.inr (by assumption)) ?hr1
  case hi1 => simp only [List.getElem?_toArray, List.getElem?_cons_zero]; rfl
  case hQ1 => exact fun _ _ _ h => h
  case hw1 => rfl
  case hy1 => intro w hSw; (try dsimp only at hSw); go_simp; (try with_reducible rfl)
  case hr1 =>
  simp only [Act.put, List.setIfInBounds_toArray, List.set_cons_zero, List.set_cons_succ]
  refine wpAnyF_pure (i := 1) (oi := ?oi2) (v := ?v2) ?hi2 (by kernel_rfl) (by kernel_rfl) (by kernel_rfl) (by kernel_rfl) ?hQ2 (Or.inl ⟨?hw2, ?hy2⟩) (Or.inr (by assumption)) ?hr2
  case hi2 => simp only [List.getElem?_toArray, List.getElem?_cons_succ, List.getElem?_cons_zero]; rfl
  case hQ2 => exact fun _ _ _ h => h
  case hw2 => rfl
  case hy2 => intro w hSw; (try dsimp only at hSw); go_simp; (try with_reducible rfl)
  case hr2 =>
  simp only [Act.put, List.setIfInBounds_toArray, List.set_cons_zero, List.set_cons_succ]
  refine wpAnyF_pure (i := 2) (oi := ?oi3) (v := ?v3) ?hi3 (by kernel_rfl) (by kernel_rfl) (by kernel_rfl) (by kernel_rfl) ?hQ3 (Or.inl ⟨?hw3, ?hy3⟩) (Or.inr (by assumption)) ?hr3
  case hi3 => simp only [List.getElem?_toArray, List.getElem?_cons_succ, List.getElem?_cons_zero]; rfl
  case hQ3 => exact fun _ _ _ h => h
  case hw3 => rfl
  case hy3 => intro w hSw; (try dsimp only at hSw); go_simp; (try with_reducible rfl)
  case hr3 =>
  simp only [Act.put, List.setIfInBounds_toArray, List.set_cons_zero, List.set_cons_succ]
  refine wpAnyF_take (i := 3) (oi := ?oi4) (v := ?v4) ?hi4 (by kernel_rfl) (by kernel_rfl) (by kernel_rfl) (by kernel_rfl) (by kernel_rfl) ?hQ4 (Or.inl ⟨?hw4, ?hy4⟩) (by assumption) ?hr4
  case hi4 => simp only [List.getElem?_toArray, List.getElem?_cons_succ, List.getElem?_cons_zero]; rfl
  case hQ4 => exact fun _ _ _ h => h
  case hw4 => rfl
  case hy4 => intro w hSw; (try dsimp only at hSw); go_simp; (try with_reducible rfl)
  case hr4 =>
  simp only [Act.put, List.setIfInBounds_toArray, List.set_cons_zero, List.set_cons_succ]
  refine wpAnyF_pure (i := 4) (oi := ?oi5) (v := ?v5) ?hi5 (by kernel_rfl) (by kernel_rfl) (by kernel_rfl) (by kernel_rfl) ?hQ5 (Or.inl ⟨?hw5, ?hy5⟩) (Or.inr (by assumption)) ?hr5
  case hi5 => simp only [List.getElem?_toArray, List.getElem?_cons_succ, List.getElem?_cons_zero]; rfl
  case hQ5 => exact fun _ _ _ h => h
  case hw5 => rfl
  case hy5 => intro w hSw; (try dsimp only at hSw); go_simp; (try with_reducible rfl)
  case hr5 =>
  simp only [Act.put, List.setIfInBounds_toArray, List.set_cons_zero, List.set_cons_succ]
  refine wpAnyF_take (i := 5) (oi := ?oi6) (v := ?v6) ?hi6 (by kernel_rfl) (by kernel_rfl) (by kernel_rfl) (by kernel_rfl) (by kernel_rfl) ?hQ6 (Or.inl ⟨?hw6, ?hy6⟩) (by assumption) ?hr6
  case hi6 => simp only [List.getElem?_toArray, List.getElem?_cons_succ, List.getElem?_cons_zero]; rfl
  case hQ6 => exact fun _ _ _ h => h
  case hw6 => rfl
  case hy6 => intro w hSw; (try dsimp only at hSw); go_simp; (try with_reducible rfl)
  case hr6 =>
  simp only [Act.put, List.setIfInBounds_toArray, List.set_cons_zero, List.set_cons_succ]
  refine wpAnyF_pure (i := 6) (oi := ?oi7) (v := ?v7) ?hi7 (by kernel_rfl) (by kernel_rfl) (by kernel_rfl) (by kernel_rfl) ?hQ7 (Or.inl ⟨?hw7, ?hy7⟩) (Or.inr (by assumption)) ?hr7
  case hi7 => simp only [List.getElem?_toArray, List.getElem?_cons_succ, List.getElem?_cons_zero]; rfl
  case hQ7 => exact fun _ _ _ h => h
  case hw7 => rfl
  case hy7 => intro w hSw; (try dsimp only at hSw); go_simp; (try with_reducible rfl)
  case hr7 =>
  simp only [Act.put, List.setIfInBounds_toArray, List.set_cons_zero, List.set_cons_succ]
  refine wpAnyF_take (i := 7) (oi := ?oi8) (v := ?v8) ?hi8 (by kernel_rfl) (by kernel_rfl) (by kernel_rfl) (by kernel_rfl) (by kernel_rfl) ?hQ8 (Or.inl ⟨?hw8, ?hy8⟩) (by assumption) ?hr8
  case hi8 => simp only [List.getElem?_toArray, List.getElem?_cons_succ, List.getElem?_cons_zero]; rfl
  case hQ8 => exact fun _ _ _ h => h
  case hw8 => rfl
  case hy8 => intro w hSw; (try dsimp only at hSw); go_simp; (try with_reducible rfl)
  case hr8 =>
  simp only [Act.put, List.setIfInBounds_toArray, List.set_cons_zero, List.set_cons_succ]
  refine wpAnyF_ready (i := 8) (o := ?oc9) (by kernel_rfl) ?hc9 (by kernel_rfl) (fun K hK => ?hs9)
  case hc9 => simp only [List.getElem?_toArray, List.getElem?_cons_succ, List.getElem?_cons_zero]; rfl
  case hs9 =>
  rw [if_pos (by rfl)]
  go_simp
  go_at_call 62; refine (HC.out _ HK2.out).mono ?_; rintro e w' ⟨rfl, hm⟩; have HM := Lib.hid (HD.out _ _ HK2.out hm); clear hm
  go_wp2_with fail
  refine hK.out _ _ ?_
  clear hK K
  try simp only [Act.put]
  refine wpAnyF_ready (i := 9) (o := ?oc10) (by kernel_rfl) ?hc10 (by kernel_rfl) (fun K hK => ?hs10)
  case hc10 => simp only [List.getElem?_toArray, List.getElem?_cons_succ, List.getElem?_cons_zero]; rfl
  case hs10 =>
  rw [if_pos (by rfl)]
  go_simp
  refine hK.out _ _ ?_
  clear hK K
  try simp only [Act.put, List.setIfInBounds_toArray, List.set_cons_zero, List.set_cons_succ]
  refine wpAnyF_done (by kernel_rfl) ?_ _
  go_wp2_with fail
  go_ret
  exact ⟨rfl, HM.out⟩
set_option maxRecDepth 100000 in
set_option maxHeartbeats 8000000 in
theorem crLink (w : World) (f : Nat) (O : List Nat) (σ : Fs) (cb mc : Nat) (least : List (Int × Str)) (x : ANode) (da : Option Addr) (dl dc : Nat) (hc : CrAt w cb mc f O least) (h : FsAt w f O σ) (hok : σ.Ok) (hkeys : KeysAt w) (hko : 0 ∉ O) (ht : x.target.length ≤ 140737488355328) :
    Calls Tryz.prog 49 #[.pointer (some ⟨cb, 0, none⟩), ndV x (.slice da dl dc)] w fun e w' => e = .returned (.int .i64 (doE σ ⟨2, x.path, 0, [], x.target⟩)) ∧ DoneBy w w' f O σ ⟨2, x.path, 0, [], x.target⟩ := by
  have hm := fun W (k : Chg [] w W) => symlink W f O σ x.path x.target (h.foreign k (by simp)) hok (hkeys.chg k (by simp)) hko ht
  have hE : doE σ ⟨2, x.path, 0, [], x.target⟩ = makeE σ x.path 2 511 x.target := rfl
  have HD := Lib.hid (fun w1 w2 (k : Chg [] w w1) (hb : MadeBy w1 w2 f O σ x.path 2 511 x.target []) => (doneMade (w := w1) (w' := w2) (f := f) (O := O) (σ := σ) ⟨2, x.path, 0, [], x.target⟩ (by simp) hb).from k)
  rw [hE]
  have HC := Lib.hid hm
  have HB := Lib.hid hc.blk
  clear hm hE h hkeys hc ht
  obtain ⟨k, p, m, t, d, cl⟩ := x
  unfold ndV
  simp only at HC HD ⊢
  generalize makeE σ p 2 511 t = ME at *
  generalize hP : ba p = P at *
  generalize hT : ba t = T at *
  clear hP hT
  have hk1 : Chg [] w (w.alloc (.cells #[.int .i64 k, .string P, .int .i64 m, .string T, .slice da dl dc, .int .i64 cl] 45)) := (Chg.refl _ _).alloc _
  have e1 := heap_alloc_new w (.cells #[.int .i64 k, .string P, .int .i64 m, .string T, .slice da dl dc, .int .i64 cl] 45)
  have HK1 := Lib.hid (And.intro hk1 e1)
  clear hk1 e1
  go_enter Tryz.func49, Tryz.ntmps49
  go_upto_region 1 with (fail)
  generalize w.alloc (.cells #[.int .i64 k, .string P, .int .i64 m, .string T, .slice da dl dc, .int .i64 cl] 45) = W1 at *
  generalize w.heap.size = g1 at *
  have HK2 := Lib.hid (show Chg [] w W1.drew from HK1.out.1.trans (Chg.refl _ _).drew)
  have HS := Lib.hid (show W1.drew.cell? ⟨cb, 0, none⟩ = some (.pointer (some ⟨f, 0, none⟩)) ∧ W1.drew.cell? ⟨g1, 1, none⟩ = some (.string P) ∧ W1.drew.cell? ⟨g1, 3, none⟩ = some (.string T) from
    ⟨cell_heap (HK2.out.heap HB.out (by simp)) 0 rfl, cell_heap HK1.out.2 1 rfl, cell_heap HK1.out.2 3 rfl⟩)
  refine wp_region_mark (S := fun v => v.cell? ⟨cb, 0, none⟩ = some (.pointer (some ⟨f, 0, none⟩)) ∧ v.cell? ⟨g1, 1, none⟩ = some (.string P) ∧ v.cell? ⟨g1, 3, none⟩ = some (.string T)) 8 (by kernel_rfl) ?_ (fun hHeld => ?_)
  · exact HS.out
  refine wpAnyF_pure (i := 0) (oi := ?oi11) (v := ?v11) ?hi11 (by kernel_rfl) (by kernel_rfl) (by kernel_rfl) (by kernel_rfl) ?hQ11 (Or.inl ⟨?hw11, ?hy11⟩) (Or.inr (by assumption)) ?hr11
  case hi11 => simp only [List.getElem?_toArray, List.getElem?_cons_zero]; rfl
  case hQ11 => exact fun _ _ _ h => h
  case hw11 => rfl
  case hy11 => intro w hSw; (try dsimp only at hSw); go_simp; (try with_reducible rfl)
  case hr11 =>
  simp only [Act.put, List.setIfInBounds_toArray, List.set_cons_zero, List.set_cons_succ]
  refine wpAnyF_pure (i := 1) (oi := ?oi12) (v := ?v12) ?hi12 (by kernel_rfl) (by kernel_rfl) (by kernel_rfl) (by kernel_rfl) ?hQ12 (Or.inl ⟨?hw12, ?hy12⟩) (Or.inr (by assumption)) ?hr12
  case hi12 => simp only [List.getElem?_toArray, List.getElem?_cons_succ, List.getElem?_cons_zero]; rfl
  case hQ12 => exact fun _ _ _ h => h
  case hw12 => rfl
  case hy12 => intro w hSw; (try dsimp only at hSw); go_simp; (try with_reducible rfl)
  case hr12 =>
  simp only [Act.put, List.setIfInBounds_toArray, List.set_cons_zero, List.set_cons_succ]
  refine wpAnyF_pure (i := 2) (oi := ?oi13) (v := ?v13) ?hi13 (by kernel_rfl) (by kernel_rfl) (by kernel_rfl) (by kernel_rfl) ?hQ13 (Or.inl ⟨?hw13, ?hy13⟩) (Or.inr (by assumption)) ?hr13
  case hi13 => simp only [List.getElem?_toArray, List.getElem?_cons_succ, List.getElem?_cons_zero]; rfl
  case hQ13 => exact fun _ _ _ h => h
  case hw13 => rfl
  case hy13 => intro w hSw; (try dsimp only at hSw); go_simp; (try with_reducible rfl)
  case hr13 =>
  simp only [Act.put, List.setIfInBounds_toArray, List.set_cons_zero, List.set_cons_succ]
  refine wpAnyF_take (i := 3) (oi := ?oi14) (v := ?v14) ?hi14 (by kernel_rfl) (by kernel_rfl) (by kernel_rfl) (by kernel_rfl) (by kernel_rfl) ?hQ14 (Or.inl ⟨?hw14, ?hy14⟩) (by assumption) ?hr14
  case hi14 => simp only [List.getElem?_toArray, List.getElem?_cons_succ, List.getElem?_cons_zero]; rfl
  case hQ14 => exact fun _ _ _ h => h
  case hw14 => rfl
  case hy14 => intro w hSw; (try dsimp only at hSw); go_simp; (try with_reducible rfl)
  case hr14 =>
  simp only [Act.put, List.setIfInBounds_toArray, List.set_cons_zero, List.set_cons_succ]
  refine wpAnyF_pure (i := 4) (oi := ?oi15) (v := ?v15) ?hi15 (by kernel_rfl) (by kernel_rfl) (by kernel_rfl) (by kernel_rfl) ?hQ15 (Or.inl ⟨?hw15, ?hy15⟩) (Or.inr (by assumption)) ?hr15
  case hi15 => simp only [List.getElem?_toArray, List.getElem?_cons_succ, List.getElem?_cons_zero]; rfl
  case hQ15 => exact fun _ _ _ h => h
  case hw15 => rfl
  case hy15 => intro w hSw; (try dsimp only at hSw); go_simp; (try with_reducible rfl)
  case hr15 =>
  simp only [Act.put, List.setIfInBounds_toArray, List.set_cons_zero, List.set_cons_succ]
  refine wpAnyF_take (i := 5) (oi := ?oi16) (v := ?v16) ?hi16 (by kernel_rfl) (by kernel_rfl) (by kernel_rfl) (by kernel_rfl) (by kernel_rfl) ?hQ16 (Or.inl ⟨?hw16, ?hy16⟩) (by assumption) ?hr16
  case hi16 => simp only [List.getElem?_toArray, List.getElem?_cons_succ, List.getElem?_cons_zero]; rfl
  case hQ16 => exact fun _ _ _ h => h
  case hw16 => rfl
  case hy16 => intro w hSw; (try dsimp only at hSw); go_simp; (try with_reducible rfl)
  case hr16 =>
  simp only [Act.put, List.setIfInBounds_toArray, List.set_cons_zero, List.set_cons_succ]
  refine wpAnyF_pure (i := 6) (oi := ?oi17) (v := ?v17) ?hi17 (by kernel_rfl) (by kernel_rfl) (by kernel_rfl) (by kernel_rfl) ?hQ17 (Or.inl ⟨?hw17, ?hy17⟩) (Or.inr (by assumption)) ?hr17
  case hi17 => simp only [List.getElem?_toArray, List.getElem?_cons_succ, List.getElem?_cons_zero]; rfl
  case hQ17 => exact fun _ _ _ h => h
  case hw17 => rfl
  case hy17 => intro w hSw; (try dsimp only at hSw); go_simp; (try with_reducible rfl)
  case hr17 =>
  simp only [Act.put, List.setIfInBounds_toArray, List.set_cons_zero, List.set_cons_succ]
  refine wpAnyF_take (i := 7) (oi := ?oi18) (v := ?v18) ?hi18 (by kernel_rfl) (by kernel_rfl) (by kernel_rfl) (by kernel_rfl) (by kernel_rfl) ?hQ18 (Or.inl ⟨?hw18, ?hy18⟩) (by assumption) ?hr18
  case hi18 => simp only [List.getElem?_toArray, List.getElem?_cons_succ, List.getElem?_cons_zero]; rfl
  case hQ18 => exact fun _ _ _ h => h
  case hw18 => rfl
  case hy18 => intro w hSw; (try dsimp only at hSw); go_simp; (try with_reducible rfl)
  case hr18 =>
  simp only [Act.put, List.setIfInBounds_toArray, List.set_cons_zero, List.set_cons_succ]
  refine wpAnyF_ready (i := 8) (o := ?oc19) (by kernel_rfl) ?hc19 (by kernel_rfl) (fun K hK => ?hs19)
  case hc19 => simp only [List.getElem?_toArray, List.getElem?_cons_succ, List.getElem?_cons_zero]; rfl
  case hs19 =>
  rw [if_pos (by rfl)]
  go_simp
  go_at_call 63; refine (HC.out _ HK2.out).mono ?_; rintro e w' ⟨rfl, hm⟩; have HM := Lib.hid (HD.out _ _ HK2.out hm); clear hm
  go_wp2_with fail
  refine hK.out _ _ ?_
  clear hK K
  try simp only [Act.put]
  refine wpAnyF_ready (i := 9) (o := ?oc20) (by kernel_rfl) ?hc20 (by kernel_rfl) (fun K hK => ?hs20)
  case hc20 => simp only [List.getElem?_toArray, List.getElem?_cons_succ, List.getElem?_cons_zero]; rfl
  case hs20 =>
  rw [if_pos (by rfl)]
  go_simp
  refine hK.out _ _ ?_
  clear hK K
  try simp only [Act.put, List.setIfInBounds_toArray, List.set_cons_zero, List.set_cons_succ]
  refine wpAnyF_done (by kernel_rfl) ?_ _
  go_wp2_with fail
  go_ret
  exact ⟨rfl, HM.out⟩
/-- What a regular file of a tree is made by. -/
def fileAct (least : List (Int × Str)) (x : ANode) : AAct := if 0 < x.cls then (match lkG least x.cls with
    | some q => ⟨4, x.path, 0, [], q⟩
    | none => ⟨1, x.path, x.mode, x.data, []⟩) else ⟨1, x.path, x.mode, x.data, []⟩
def leastUp (least : List (Int × Str)) (x : ANode) : List (Int × Str) := if 0 < x.cls then (match lkG least x.cls with
    | some _ => least
    | none => upG least x.cls x.path) else least
/-- What the method does: an act, and the map of least paths. -/
def FileBy (w w' : World) (f : Nat) (O : List Nat) (σ : Fs) (cb mc : Nat) (least : List (Int × Str)) (x : ANode) : Prop :=
  ∃ w1, Chg [mc] w w1 ∧ CrAt w1 cb mc f O (leastUp least x) ∧ DoneBy w1 w' f O σ (fileAct least x)
set_option maxRecDepth 100000 in
set_option maxHeartbeats 16000000 in
theorem crFile (w : World) (f : Nat) (O : List Nat) (σ : Fs) (cb mc : Nat) (least : List (Int × Str)) (x : ANode) (da : Option Addr) (dc : Nat) (fd : List Nat) (hc : CrAt w cb mc f O least) (h : FsAt w f O σ) (hok : σ.Ok) (hkeys : KeysAt w) (hko : 0 ∉ O)
    (hd : Rd w fd da (bv x.data)) (hdl : x.data.length ≤ 140737488355328) (hff : ∀ y ∈ fd, y ∉ O ∧ y ≠ mc) (hkm : 0 ≠ mc) :
    Calls Tryz.prog 48 #[.pointer (some ⟨cb, 0, none⟩), ndV x (.slice da x.data.length dc)] w fun e w' => e = .returned (.int .i64 (doE σ (fileAct least x))) ∧ FileBy w w' f O σ cb mc least x := by
  have HC := Lib.hid (fun W (k : Chg [mc] w W) => create W f O σ x.path x.mode x.data da dc fd (h.foreign k (fun g hg hm => hc.mcO (by simp at hm; exact hm ▸ hg))) hok (hkeys.chg k (by simpa using hkm)) hko (hd.chg k (fun y hy hm => (hff y hy).2 (by simpa using hm))) hdl (fun y hy => (hff y hy).1))
  have HL := Lib.hid (fun W q (k : Chg [] w W) => link W f O σ x.path q (h.foreign k (by simp)) hok)
  have HD := Lib.hid (fun w1 w2 (hb : MadeBy w1 w2 f O σ x.path 1 x.mode [] x.data) => doneMade (w := w1) (w' := w2) (f := f) (O := O) (σ := σ) ⟨1, x.path, x.mode, x.data, []⟩ (by simp) hb)
  have HE1 := Lib.hid (show doE σ ⟨1, x.path, x.mode, x.data, []⟩ = makeE σ x.path 1 x.mode [] from rfl)
  have HE4 := Lib.hid (fun q => (show doE σ ⟨4, x.path, 0, [], q⟩ = linkE σ x.path q from rfl))
  obtain ⟨A, hA⟩ : ∃ A, A = fileAct least x := ⟨_, rfl⟩
  obtain ⟨LU, hLU⟩ : ∃ A, A = leastUp least x := ⟨_, rfl⟩
  unfold FileBy
  rw [← hA, ← hLU]
  have HA := Lib.hid (And.intro hA hLU)
  have HB := Lib.hid hc
  clear hA hLU hc h hkeys hd hff
  unfold ndV
  generalize hxc : x.cls = cl at *
  generalize hxp : ba x.path = P at *
  generalize ba x.target = T at *
  generalize hxm : x.mode = m at *
  generalize x.kind = k at *
  generalize hdl2 : x.data.length = dl at *
  have HX := Lib.hid (And.intro hxc (And.intro hxp (And.intro hdl2 hxm)))
  clear hxc hxp hdl2 hxm
  have hk1 : Chg [] w (w.alloc (.cells #[.int .i64 k, .string P, .int .i64 m, .string T, .slice da dl dc, .int .i64 cl] 45)) := (Chg.refl _ _).alloc _
  have e1 := heap_alloc_new w (.cells #[.int .i64 k, .string P, .int .i64 m, .string T, .slice da dl dc, .int .i64 cl] 45)
  have HK1 := Lib.hid (And.intro hk1 (And.intro e1 (show w.heap.size ≠ mc from fun e => by have := HB.out.map.lt; omega)))
  clear hk1 e1
  go_enter Tryz.func48, Tryz.ntmps48
  go_upto_region 1 with (fail)
  generalize w.alloc (.cells #[.int .i64 k, .string P, .int .i64 m, .string T, .slice da dl dc, .int .i64 cl] 45) = W1 at *
  generalize w.heap.size = g1 at *
  have j5 := cell_heap HK1.out.2.1 5 (v := .int .i64 cl) rfl
  by_cases hcl : 0 < cl
  · have hclb : cl > 0 := hcl
    go_upto_region 2 with (fail)
    have HK2 := Lib.hid (show Chg [] w W1.drew from HK1.out.1.trans (Chg.refl _ _).drew)
    have HB2 := Lib.hid (HB.out.chg HK2.out)
    cases hl : lkG least cl with
    | some q =>
      have HS := Lib.hid (show W1.drew.cell? ⟨cb, 1, none⟩ = some (.map (some mc)) ∧ W1.drew.cell? ⟨g1, 5, none⟩ = some (.int .i64 cl) ∧ (Instr.lookup 100 (.map (some mc)) (.int .i64 cl) true).run Tryz.prog W1.drew = .ok (.tuple #[.string (ba q), .bool true]) W1.drew from
        ⟨cell_heap HB2.out.blk 1 rfl, cell_heap HK1.out.2.1 5 rfl, run_lookupG2_some keyI Tryz.underlying100 Tryz.underlying3 HB2.out.map hl⟩)
      have HAQ := Lib.hid (show A = ⟨4, x.path, 0, [], q⟩ ∧ LU = least from by
        rw [HA.out.1, HA.out.2]; unfold fileAct leastUp; rw [HX.out.1, if_pos hcl, if_pos hcl, hl]; exact ⟨rfl, rfl⟩)
      have HLQ := Lib.hid (fun W (kw : Chg [] w W) => HL.out W q kw)
      have HEQ := Lib.hid (HE4.out q)
      have HDQ := Lib.hid (fun w1 w2 hb => doneLinked (w := w1) (w' := w2) (f := f) (O := O) (σ := σ) x.path q hb)
      clear hl HL HE4 HC HD HE1
      generalize linkE σ x.path q = ME at *
      generalize ba q = QB at *
      refine wp_region_held_drew (S := fun v => v.cell? ⟨cb, 1, none⟩ = some (.map (some mc)) ∧ v.cell? ⟨g1, 5, none⟩ = some (.int .i64 cl) ∧ (Instr.lookup 100 (.map (some mc)) (.int .i64 cl) true).run Tryz.prog v = .ok (.tuple #[.string QB, .bool true]) v) (by kernel_rfl) ?_ (fun hHeld => ?_)
      · exact HS.out
      refine wpAnyH_take (i := 0) (oi := ?oi63) (v := ?v63) ?hi63 (by kernel_rfl) (by kernel_rfl) (by kernel_rfl) ?hQ63 (Or.inl ⟨?hw63, ?hy63⟩) (by assumption) ?hr63
      case hi63 => simp only [List.getElem?_toArray, List.getElem?_cons_zero]; rfl
      case hQ63 => exact fun _ _ _ h => h
      case hw63 => rfl
      case hy63 => intro w hSw; (try dsimp only at hSw); go_simp; (try with_reducible rfl)
      case hr63 =>
      simp only [Act.put, List.setIfInBounds_toArray, List.set_cons_zero, List.set_cons_succ]
      refine wpAnyH_take (i := 1) (oi := ?oi64) (v := ?v64) ?hi64 (by kernel_rfl) (by kernel_rfl) (by kernel_rfl) ?hQ64 (Or.inl ⟨?hw64, ?hy64⟩) (by assumption) ?hr64
      case hi64 => simp only [List.getElem?_toArray, List.getElem?_cons_succ, List.getElem?_cons_zero]; rfl
      case hQ64 => exact fun _ _ _ h => h
      case hw64 => rfl
      case hy64 => intro w hSw; (try dsimp only at hSw); go_simp; (try with_reducible rfl)
      case hr64 =>
      simp only [Act.put, List.setIfInBounds_toArray, List.set_cons_zero, List.set_cons_succ]
      refine wpAnyH_take (i := 2) (oi := ?oi65) (v := ?v65) ?hi65 (by kernel_rfl) (by kernel_rfl) (by kernel_rfl) ?hQ65 (Or.inl ⟨?hw65, ?hy65⟩) (by assumption) ?hr65
      case hi65 => simp only [List.getElem?_toArray, List.getElem?_cons_succ, List.getElem?_cons_zero]; rfl
      case hQ65 => exact fun _ _ _ h => h
      case hw65 => rfl
      case hy65 => intro w hSw; (try dsimp only at hSw); go_simp; (try with_reducible rfl)
      case hr65 =>
      simp only [Act.put, List.setIfInBounds_toArray, List.set_cons_zero, List.set_cons_succ]
      refine wpAnyH_take (i := 3) (oi := ?oi66) (v := ?v66) ?hi66 (by kernel_rfl) (by kernel_rfl) (by kernel_rfl) ?hQ66 (Or.inl ⟨?hw66, ?hy66⟩) (by assumption) ?hr66
      case hi66 => simp only [List.getElem?_toArray, List.getElem?_cons_succ, List.getElem?_cons_zero]; rfl
      case hQ66 => exact fun _ _ _ h => h
      case hw66 => rfl
      case hy66 => intro w hSw; (try dsimp only at hSw); go_simp; (try with_reducible rfl)
      case hr66 =>
      simp only [Act.put, List.setIfInBounds_toArray, List.set_cons_zero, List.set_cons_succ]
      refine wpAnyH_take (i := 4) (oi := ?oi67) (v := ?v67) ?hi67 (by kernel_rfl) (by kernel_rfl) (by kernel_rfl) ?hQ67 (Or.inl ⟨?hw67, ?hy67⟩) (by assumption) ?hr67
      case hi67 => simp only [List.getElem?_toArray, List.getElem?_cons_succ, List.getElem?_cons_zero]; rfl
      case hQ67 => exact fun _ _ _ h => h
      case hw67 => rfl
      case hy67 => intro w hSw; (try dsimp only at hSw); go_simp; (try with_reducible rfl)
      case hr67 =>
      simp only [Act.put, List.setIfInBounds_toArray, List.set_cons_zero, List.set_cons_succ]
      refine wpAnyH_take (i := 5) (oi := ?oi68) (v := ?v68) ?hi68 (by kernel_rfl) (by kernel_rfl) (by kernel_rfl) ?hQ68 (Or.inl ⟨?hw68, ?hy68⟩) (by assumption) ?hr68
      case hi68 => simp only [List.getElem?_toArray, List.getElem?_cons_succ, List.getElem?_cons_zero]; rfl
      case hQ68 => exact fun _ _ _ h => h
      case hw68 => rfl
      case hy68 => intro w hSw; (try dsimp only at hSw); go_simp; (try with_reducible rfl)
      case hr68 =>
      simp only [Act.put, List.setIfInBounds_toArray, List.set_cons_zero, List.set_cons_succ]
      refine wpAnyH_take (i := 6) (oi := ?oi69) (v := ?v69) ?hi69 (by kernel_rfl) (by kernel_rfl) (by kernel_rfl) ?hQ69 (Or.inl ⟨?hw69, ?hy69⟩) (by assumption) ?hr69
      case hi69 => simp only [List.getElem?_toArray, List.getElem?_cons_succ, List.getElem?_cons_zero]; rfl
      case hQ69 => exact fun _ _ _ h => h
      case hw69 => rfl
      case hy69 => intro w hSw; (try dsimp only at hSw); go_simp; (try with_reducible rfl)
      case hr69 =>
      simp only [Act.put, List.setIfInBounds_toArray, List.set_cons_zero, List.set_cons_succ]
      refine wpAnyH_take (i := 7) (oi := ?oi70) (v := ?v70) ?hi70 (by kernel_rfl) (by kernel_rfl) (by kernel_rfl) ?hQ70 (Or.inl ⟨?hw70, ?hy70⟩) (by assumption) ?hr70
      case hi70 => simp only [List.getElem?_toArray, List.getElem?_cons_succ, List.getElem?_cons_zero]; rfl
      case hQ70 => exact fun _ _ _ h => h
      case hw70 => rfl
      case hy70 => intro w hSw; (try dsimp only at hSw); go_simp; (try with_reducible rfl)
      case hr70 =>
      simp only [Act.put, List.setIfInBounds_toArray, List.set_cons_zero, List.set_cons_succ]
      refine wpAnyH_take (i := 8) (oi := ?oi71) (v := ?v71) ?hi71 (by kernel_rfl) (by kernel_rfl) (by kernel_rfl) ?hQ71 (Or.inl ⟨?hw71, ?hy71⟩) (by assumption) ?hr71
      case hi71 => simp only [List.getElem?_toArray, List.getElem?_cons_succ, List.getElem?_cons_zero]; rfl
      case hQ71 => exact fun _ _ _ h => h
      case hw71 => rfl
      case hy71 => intro w hSw; (try dsimp only at hSw); go_simp; (try with_reducible rfl)
      case hr71 =>
      simp only [Act.put, List.setIfInBounds_toArray, List.set_cons_zero, List.set_cons_succ]
      refine wpAnyH_take (i := 9) (oi := ?oi72) (v := ?v72) ?hi72 (by kernel_rfl) (by kernel_rfl) (by kernel_rfl) ?hQ72 (Or.inl ⟨?hw72, ?hy72⟩) (by assumption) ?hr72
      case hi72 => simp only [List.getElem?_toArray, List.getElem?_cons_succ, List.getElem?_cons_zero]; rfl
      case hQ72 => exact fun _ _ _ h => h
      case hw72 => rfl
      case hy72 => intro w hSw; (try dsimp only at hSw); go_simp; (try with_reducible rfl)
      case hr72 =>
      simp only [Act.put, List.setIfInBounds_toArray, List.set_cons_zero, List.set_cons_succ]
      refine wpAnyH_take (i := 10) (oi := ?oi73) (v := ?v73) ?hi73 (by kernel_rfl) (by kernel_rfl) (by kernel_rfl) ?hQ73 (Or.inl ⟨?hw73, ?hy73⟩) (by assumption) ?hr73
      case hi73 => simp only [List.getElem?_toArray, List.getElem?_cons_succ, List.getElem?_cons_zero]; rfl
      case hQ73 => exact fun _ _ _ h => h
      case hw73 => rfl
      case hy73 => intro w hSw; (try dsimp only at hSw); go_simp; (try with_reducible rfl)
      case hr73 =>
      simp only [Act.put, List.setIfInBounds_toArray, List.set_cons_zero, List.set_cons_succ]
      refine wpAnyH_take (i := 11) (oi := ?oi74) (v := ?v74) ?hi74 (by kernel_rfl) (by kernel_rfl) (by kernel_rfl) ?hQ74 (Or.inl ⟨?hw74, ?hy74⟩) (by assumption) ?hr74
      case hi74 => simp only [List.getElem?_toArray, List.getElem?_cons_succ, List.getElem?_cons_zero]; rfl
      case hQ74 => exact fun _ _ _ h => h
      case hw74 => rfl
      case hy74 => intro w hSw; (try dsimp only at hSw); go_simp; (try with_reducible rfl)
      case hr74 =>
      simp only [Act.put, List.setIfInBounds_toArray, List.set_cons_zero, List.set_cons_succ]
      refine wpAnyH_done (by kernel_rfl) ?_ _
      clear HS
      go_upto_region 4 with (fail)
      have HK3 := Lib.hid (show Chg [] w W1.drew.drew from HK2.out.trans (Chg.refl _ _).drew)
      have HS := Lib.hid (show W1.drew.drew.cell? ⟨cb, 0, none⟩ = some (.pointer (some ⟨f, 0, none⟩)) ∧ W1.drew.drew.cell? ⟨g1, 1, none⟩ = some (.string P) from
        ⟨cell_heap ((HB.out.chg HK3.out).blk) 0 rfl, cell_heap (show W1.drew.drew.heap[g1]? = _ from HK1.out.2.1) 1 rfl⟩)
      refine wp_region_mark (S := fun v => v.cell? ⟨cb, 0, none⟩ = some (.pointer (some ⟨f, 0, none⟩)) ∧ v.cell? ⟨g1, 1, none⟩ = some (.string P)) 7 (by kernel_rfl) ?_ (fun hHeld => ?_)
      · exact HS.out
      refine wpAnyF_pure (i := 0) (oi := ?oi21) (v := ?v21) ?hi21 (by kernel_rfl) (by kernel_rfl) (by kernel_rfl) (by kernel_rfl) ?hQ21 (Or.inl ⟨?hw21, ?hy21⟩) (Or.inr (by assumption)) ?hr21
      case hi21 => simp only [List.getElem?_toArray, List.getElem?_cons_zero]; rfl
      case hQ21 => exact fun _ _ _ h => h
      case hw21 => rfl
      case hy21 => intro w hSw; (try dsimp only at hSw); go_simp; (try with_reducible rfl)
      case hr21 =>
      simp only [Act.put, List.setIfInBounds_toArray, List.set_cons_zero, List.set_cons_succ]
      refine wpAnyF_pure (i := 1) (oi := ?oi22) (v := ?v22) ?hi22 (by kernel_rfl) (by kernel_rfl) (by kernel_rfl) (by kernel_rfl) ?hQ22 (Or.inl ⟨?hw22, ?hy22⟩) (Or.inr (by assumption)) ?hr22
      case hi22 => simp only [List.getElem?_toArray, List.getElem?_cons_succ, List.getElem?_cons_zero]; rfl
      case hQ22 => exact fun _ _ _ h => h
      case hw22 => rfl
      case hy22 => intro w hSw; (try dsimp only at hSw); go_simp; (try with_reducible rfl)
      case hr22 =>
      simp only [Act.put, List.setIfInBounds_toArray, List.set_cons_zero, List.set_cons_succ]
      refine wpAnyF_pure (i := 2) (oi := ?oi23) (v := ?v23) ?hi23 (by kernel_rfl) (by kernel_rfl) (by kernel_rfl) (by kernel_rfl) ?hQ23 (Or.inl ⟨?hw23, ?hy23⟩) (Or.inr (by assumption)) ?hr23
      case hi23 => simp only [List.getElem?_toArray, List.getElem?_cons_succ, List.getElem?_cons_zero]; rfl
      case hQ23 => exact fun _ _ _ h => h
      case hw23 => rfl
      case hy23 => intro w hSw; (try dsimp only at hSw); go_simp; (try with_reducible rfl)
      case hr23 =>
      simp only [Act.put, List.setIfInBounds_toArray, List.set_cons_zero, List.set_cons_succ]
      refine wpAnyF_take (i := 3) (oi := ?oi24) (v := ?v24) ?hi24 (by kernel_rfl) (by kernel_rfl) (by kernel_rfl) (by kernel_rfl) (by kernel_rfl) ?hQ24 (Or.inl ⟨?hw24, ?hy24⟩) (by assumption) ?hr24
      case hi24 => simp only [List.getElem?_toArray, List.getElem?_cons_succ, List.getElem?_cons_zero]; rfl
      case hQ24 => exact fun _ _ _ h => h
      case hw24 => rfl
      case hy24 => intro w hSw; (try dsimp only at hSw); go_simp; (try with_reducible rfl)
      case hr24 =>
      simp only [Act.put, List.setIfInBounds_toArray, List.set_cons_zero, List.set_cons_succ]
      refine wpAnyF_pure (i := 4) (oi := ?oi25) (v := ?v25) ?hi25 (by kernel_rfl) (by kernel_rfl) (by kernel_rfl) (by kernel_rfl) ?hQ25 (Or.inl ⟨?hw25, ?hy25⟩) (Or.inr (by assumption)) ?hr25
      case hi25 => simp only [List.getElem?_toArray, List.getElem?_cons_succ, List.getElem?_cons_zero]; rfl
      case hQ25 => exact fun _ _ _ h => h
      case hw25 => rfl
      case hy25 => intro w hSw; (try dsimp only at hSw); go_simp; (try with_reducible rfl)
      case hr25 =>
      simp only [Act.put, List.setIfInBounds_toArray, List.set_cons_zero, List.set_cons_succ]
      refine wpAnyF_take (i := 5) (oi := ?oi26) (v := ?v26) ?hi26 (by kernel_rfl) (by kernel_rfl) (by kernel_rfl) (by kernel_rfl) (by kernel_rfl) ?hQ26 (Or.inl ⟨?hw26, ?hy26⟩) (by assumption) ?hr26
      case hi26 => simp only [List.getElem?_toArray, List.getElem?_cons_succ, List.getElem?_cons_zero]; rfl
      case hQ26 => exact fun _ _ _ h => h
      case hw26 => rfl
      case hy26 => intro w hSw; (try dsimp only at hSw); go_simp; (try with_reducible rfl)
      case hr26 =>
      simp only [Act.put, List.setIfInBounds_toArray, List.set_cons_zero, List.set_cons_succ]
      refine wpAnyF_pure (i := 6) (oi := ?oi27) (v := ?v27) ?hi27 (by kernel_rfl) (by kernel_rfl) (by kernel_rfl) (by kernel_rfl) ?hQ27 (Or.inl ⟨?hw27, ?hy27⟩) (Or.inr (by assumption)) ?hr27
      case hi27 => simp only [List.getElem?_toArray, List.getElem?_cons_succ, List.getElem?_cons_zero]; rfl
      case hQ27 => exact fun _ _ _ h => h
      case hw27 => rfl
      case hy27 => intro w hSw; (try dsimp only at hSw); go_simp; (try with_reducible rfl)
      case hr27 =>
      simp only [Act.put, List.setIfInBounds_toArray, List.set_cons_zero, List.set_cons_succ]
      refine wpAnyF_ready (i := 7) (o := ?oc28) (by kernel_rfl) ?hc28 (by kernel_rfl) (fun K hK => ?hs28)
      case hc28 => simp only [List.getElem?_toArray, List.getElem?_cons_succ, List.getElem?_cons_zero]; rfl
      case hs28 =>
      rw [if_pos (by rfl)]
      go_simp
      go_at_call 28; refine (HLQ.out _ HK3.out).mono ?_; rintro e w' ⟨rfl, hm⟩; have HM := Lib.hid hm; clear hm
      go_wp2_with fail
      refine hK.out _ _ ?_
      clear hK K
      try simp only [Act.put]
      refine wpAnyF_ready (i := 8) (o := ?oc29) (by kernel_rfl) ?hc29 (by kernel_rfl) (fun K hK => ?hs29)
      case hc29 => simp only [List.getElem?_toArray, List.getElem?_cons_succ, List.getElem?_cons_zero]; rfl
      case hs29 =>
      rw [if_pos (by rfl)]
      go_simp
      refine hK.out _ _ ?_
      clear hK K
      try simp only [Act.put, List.setIfInBounds_toArray, List.set_cons_zero, List.set_cons_succ]
      refine wpAnyF_done (by kernel_rfl) ?_ _
      go_wp2_with fail
      go_ret
      refine ⟨by rw [HAQ.out.1, HEQ.out]; rfl, W1.drew.drew, HK3.out.mono (by simp), by rw [HAQ.out.2]; exact HB.out.chg HK3.out, ?_⟩
      rw [HAQ.out.1]
      exact HDQ.out _ _ HM.out
    | none =>
      have HS := Lib.hid (show W1.drew.cell? ⟨cb, 1, none⟩ = some (.map (some mc)) ∧ W1.drew.cell? ⟨g1, 5, none⟩ = some (.int .i64 cl) ∧ (Instr.lookup 100 (.map (some mc)) (.int .i64 cl) true).run Tryz.prog W1.drew = .ok (.tuple #[.string ⟨#[]⟩, .bool false]) W1.drew from
        ⟨cell_heap HB2.out.blk 1 rfl, cell_heap HK1.out.2.1 5 rfl, run_lookupG2_none keyI Tryz.underlying100 Tryz.underlying3 (fun W => by kernel_rfl) HB2.out.map hl⟩)
      have HAQ := Lib.hid (show A = ⟨1, x.path, m, x.data, []⟩ ∧ LU = upG least cl x.path from by
        rw [HA.out.1, HA.out.2]; unfold fileAct leastUp; rw [HX.out.1, if_pos hcl, if_pos hcl, hl, HX.out.2.2.2]; exact ⟨rfl, rfl⟩)
      have hup := run_updateG (P := Tryz.prog) (T := 100) keyI Tryz.underlying100 Tryz.underlying3 (HB2.out.map.chg ((Chg.refl [] W1.drew).drew) (by simp)) cl x.path
      obtain ⟨w7, hru, hm7, hk7, hz7⟩ := hup
      have hru : (Instr.mapUpdate 100 (.map (some mc)) (.int .i64 cl) (.string P)).run Tryz.prog W1.drew.drew = .ok () w7 := by rw [← HX.out.2.1]; exact hru
      have HRU := Lib.hid hru
      have HM7 := Lib.hid (show CrAt w7.drew cb mc f O (upG least cl x.path) ∧ Chg [mc] w w7.drew ∧ w7.drew.heap[g1]? = some (.cells #[.int .i64 k, .string P, .int .i64 m, .string T, .slice da dl dc, .int .i64 cl] 45 (0, 0)) from
        ⟨⟨hk7.heap (show W1.drew.drew.heap[cb]? = _ from HB2.out.blk) (by simpa using HB.out.ne), hm7, HB.out.cbO, HB.out.mcO, HB.out.ne⟩, (HK2.out.mono (by simp)).trans (((Chg.refl [mc] W1.drew).drew.trans hk7).trans (Chg.refl _ _).drew), hk7.heap (show W1.drew.drew.heap[g1]? = _ from HK1.out.2.1) (by simpa using HK1.out.2.2)⟩)
      clear hl HL HE4 hru hm7 hk7 hz7
      refine wp_region_held_drew (S := fun v => v.cell? ⟨cb, 1, none⟩ = some (.map (some mc)) ∧ v.cell? ⟨g1, 5, none⟩ = some (.int .i64 cl) ∧ (Instr.lookup 100 (.map (some mc)) (.int .i64 cl) true).run Tryz.prog v = .ok (.tuple #[.string ⟨#[]⟩, .bool false]) v) (by kernel_rfl) ?_ (fun hHeld => ?_)
      · exact HS.out
      refine wpAnyH_take (i := 0) (oi := ?oi75) (v := ?v75) ?hi75 (by kernel_rfl) (by kernel_rfl) (by kernel_rfl) ?hQ75 (Or.inl ⟨?hw75, ?hy75⟩) (by assumption) ?hr75
      case hi75 => simp only [List.getElem?_toArray, List.getElem?_cons_zero]; rfl
      case hQ75 => exact fun _ _ _ h => h
      case hw75 => rfl
      case hy75 => intro w hSw; (try dsimp only at hSw); go_simp; (try with_reducible rfl)
      case hr75 =>
      simp only [Act.put, List.setIfInBounds_toArray, List.set_cons_zero, List.set_cons_succ]
      refine wpAnyH_take (i := 1) (oi := ?oi76) (v := ?v76) ?hi76 (by kernel_rfl) (by kernel_rfl) (by kernel_rfl) ?hQ76 (Or.inl ⟨?hw76, ?hy76⟩) (by assumption) ?hr76
      case hi76 => simp only [List.getElem?_toArray, List.getElem?_cons_succ, List.getElem?_cons_zero]; rfl
      case hQ76 => exact fun _ _ _ h => h
      case hw76 => rfl
      case hy76 => intro w hSw; (try dsimp only at hSw); go_simp; (try with_reducible rfl)
      case hr76 =>
      simp only [Act.put, List.setIfInBounds_toArray, List.set_cons_zero, List.set_cons_succ]
      refine wpAnyH_take (i := 2) (oi := ?oi77) (v := ?v77) ?hi77 (by kernel_rfl) (by kernel_rfl) (by kernel_rfl) ?hQ77 (Or.inl ⟨?hw77, ?hy77⟩) (by assumption) ?hr77
      case hi77 => simp only [List.getElem?_toArray, List.getElem?_cons_succ, List.getElem?_cons_zero]; rfl
      case hQ77 => exact fun _ _ _ h => h
      case hw77 => rfl
      case hy77 => intro w hSw; (try dsimp only at hSw); go_simp; (try with_reducible rfl)
      case hr77 =>
      simp only [Act.put, List.setIfInBounds_toArray, List.set_cons_zero, List.set_cons_succ]
      refine wpAnyH_take (i := 3) (oi := ?oi78) (v := ?v78) ?hi78 (by kernel_rfl) (by kernel_rfl) (by kernel_rfl) ?hQ78 (Or.inl ⟨?hw78, ?hy78⟩) (by assumption) ?hr78
      case hi78 => simp only [List.getElem?_toArray, List.getElem?_cons_succ, List.getElem?_cons_zero]; rfl
      case hQ78 => exact fun _ _ _ h => h
      case hw78 => rfl
      case hy78 => intro w hSw; (try dsimp only at hSw); go_simp; (try with_reducible rfl)
      case hr78 =>
      simp only [Act.put, List.setIfInBounds_toArray, List.set_cons_zero, List.set_cons_succ]
      refine wpAnyH_take (i := 4) (oi := ?oi79) (v := ?v79) ?hi79 (by kernel_rfl) (by kernel_rfl) (by kernel_rfl) ?hQ79 (Or.inl ⟨?hw79, ?hy79⟩) (by assumption) ?hr79
      case hi79 => simp only [List.getElem?_toArray, List.getElem?_cons_succ, List.getElem?_cons_zero]; rfl
      case hQ79 => exact fun _ _ _ h => h
      case hw79 => rfl
      case hy79 => intro w hSw; (try dsimp only at hSw); go_simp; (try with_reducible rfl)
      case hr79 =>
      simp only [Act.put, List.setIfInBounds_toArray, List.set_cons_zero, List.set_cons_succ]
      refine wpAnyH_take (i := 5) (oi := ?oi80) (v := ?v80) ?hi80 (by kernel_rfl) (by kernel_rfl) (by kernel_rfl) ?hQ80 (Or.inl ⟨?hw80, ?hy80⟩) (by assumption) ?hr80
      case hi80 => simp only [List.getElem?_toArray, List.getElem?_cons_succ, List.getElem?_cons_zero]; rfl
      case hQ80 => exact fun _ _ _ h => h
      case hw80 => rfl
      case hy80 => intro w hSw; (try dsimp only at hSw); go_simp; (try with_reducible rfl)
      case hr80 =>
      simp only [Act.put, List.setIfInBounds_toArray, List.set_cons_zero, List.set_cons_succ]
      refine wpAnyH_take (i := 6) (oi := ?oi81) (v := ?v81) ?hi81 (by kernel_rfl) (by kernel_rfl) (by kernel_rfl) ?hQ81 (Or.inl ⟨?hw81, ?hy81⟩) (by assumption) ?hr81
      case hi81 => simp only [List.getElem?_toArray, List.getElem?_cons_succ, List.getElem?_cons_zero]; rfl
      case hQ81 => exact fun _ _ _ h => h
      case hw81 => rfl
      case hy81 => intro w hSw; (try dsimp only at hSw); go_simp; (try with_reducible rfl)
      case hr81 =>
      simp only [Act.put, List.setIfInBounds_toArray, List.set_cons_zero, List.set_cons_succ]
      refine wpAnyH_take (i := 7) (oi := ?oi82) (v := ?v82) ?hi82 (by kernel_rfl) (by kernel_rfl) (by kernel_rfl) ?hQ82 (Or.inl ⟨?hw82, ?hy82⟩) (by assumption) ?hr82
      case hi82 => simp only [List.getElem?_toArray, List.getElem?_cons_succ, List.getElem?_cons_zero]; rfl
      case hQ82 => exact fun _ _ _ h => h
      case hw82 => rfl
      case hy82 => intro w hSw; (try dsimp only at hSw); go_simp; (try with_reducible rfl)
      case hr82 =>
      simp only [Act.put, List.setIfInBounds_toArray, List.set_cons_zero, List.set_cons_succ]
      refine wpAnyH_take (i := 8) (oi := ?oi83) (v := ?v83) ?hi83 (by kernel_rfl) (by kernel_rfl) (by kernel_rfl) ?hQ83 (Or.inl ⟨?hw83, ?hy83⟩) (by assumption) ?hr83
      case hi83 => simp only [List.getElem?_toArray, List.getElem?_cons_succ, List.getElem?_cons_zero]; rfl
      case hQ83 => exact fun _ _ _ h => h
      case hw83 => rfl
      case hy83 => intro w hSw; (try dsimp only at hSw); go_simp; (try with_reducible rfl)
      case hr83 =>
      simp only [Act.put, List.setIfInBounds_toArray, List.set_cons_zero, List.set_cons_succ]
      refine wpAnyH_take (i := 9) (oi := ?oi84) (v := ?v84) ?hi84 (by kernel_rfl) (by kernel_rfl) (by kernel_rfl) ?hQ84 (Or.inl ⟨?hw84, ?hy84⟩) (by assumption) ?hr84
      case hi84 => simp only [List.getElem?_toArray, List.getElem?_cons_succ, List.getElem?_cons_zero]; rfl
      case hQ84 => exact fun _ _ _ h => h
      case hw84 => rfl
      case hy84 => intro w hSw; (try dsimp only at hSw); go_simp; (try with_reducible rfl)
      case hr84 =>
      simp only [Act.put, List.setIfInBounds_toArray, List.set_cons_zero, List.set_cons_succ]
      refine wpAnyH_take (i := 10) (oi := ?oi85) (v := ?v85) ?hi85 (by kernel_rfl) (by kernel_rfl) (by kernel_rfl) ?hQ85 (Or.inl ⟨?hw85, ?hy85⟩) (by assumption) ?hr85
      case hi85 => simp only [List.getElem?_toArray, List.getElem?_cons_succ, List.getElem?_cons_zero]; rfl
      case hQ85 => exact fun _ _ _ h => h
      case hw85 => rfl
      case hy85 => intro w hSw; (try dsimp only at hSw); go_simp; (try with_reducible rfl)
      case hr85 =>
      simp only [Act.put, List.setIfInBounds_toArray, List.set_cons_zero, List.set_cons_succ]
      refine wpAnyH_take (i := 11) (oi := ?oi86) (v := ?v86) ?hi86 (by kernel_rfl) (by kernel_rfl) (by kernel_rfl) ?hQ86 (Or.inl ⟨?hw86, ?hy86⟩) (by assumption) ?hr86
      case hi86 => simp only [List.getElem?_toArray, List.getElem?_cons_succ, List.getElem?_cons_zero]; rfl
      case hQ86 => exact fun _ _ _ h => h
      case hw86 => rfl
      case hy86 => intro w hSw; (try dsimp only at hSw); go_simp; (try with_reducible rfl)
      case hr86 =>
      simp only [Act.put, List.setIfInBounds_toArray, List.set_cons_zero, List.set_cons_succ]
      refine wpAnyH_done (by kernel_rfl) ?_ _
      clear HS
      go_upto_region 5 with (fail)
      have HK3 := Lib.hid (show Chg [] w W1.drew.drew from HK2.out.trans (Chg.refl _ _).drew)
      have HS := Lib.hid (show W1.drew.drew.cell? ⟨cb, 1, none⟩ = some (.map (some mc)) ∧ W1.drew.drew.cell? ⟨g1, 5, none⟩ = some (.int .i64 cl) ∧ W1.drew.drew.cell? ⟨g1, 1, none⟩ = some (.string P) from
        ⟨cell_heap ((HB.out.chg HK3.out).blk) 1 rfl, cell_heap (show W1.drew.drew.heap[g1]? = _ from HK1.out.2.1) 5 rfl, cell_heap (show W1.drew.drew.heap[g1]? = _ from HK1.out.2.1) 1 rfl⟩)
      have hru := HRU.out
      refine wp_region_mark (S := fun v => v.cell? ⟨cb, 1, none⟩ = some (.map (some mc)) ∧ v.cell? ⟨g1, 5, none⟩ = some (.int .i64 cl) ∧ v.cell? ⟨g1, 1, none⟩ = some (.string P)) 8 (by kernel_rfl) ?_ (fun hHeld => ?_)
      · exact HS.out
      refine wpAnyF_pure (i := 0) (oi := ?oi30) (v := ?v30) ?hi30 (by kernel_rfl) (by kernel_rfl) (by kernel_rfl) (by kernel_rfl) ?hQ30 (Or.inl ⟨?hw30, ?hy30⟩) (Or.inr (by assumption)) ?hr30
      case hi30 => simp only [List.getElem?_toArray, List.getElem?_cons_zero]; rfl
      case hQ30 => exact fun _ _ _ h => h
      case hw30 => rfl
      case hy30 => intro w hSw; (try dsimp only at hSw); go_simp; (try with_reducible rfl)
      case hr30 =>
      simp only [Act.put, List.setIfInBounds_toArray, List.set_cons_zero, List.set_cons_succ]
      refine wpAnyF_pure (i := 1) (oi := ?oi31) (v := ?v31) ?hi31 (by kernel_rfl) (by kernel_rfl) (by kernel_rfl) (by kernel_rfl) ?hQ31 (Or.inl ⟨?hw31, ?hy31⟩) (Or.inr (by assumption)) ?hr31
      case hi31 => simp only [List.getElem?_toArray, List.getElem?_cons_succ, List.getElem?_cons_zero]; rfl
      case hQ31 => exact fun _ _ _ h => h
      case hw31 => rfl
      case hy31 => intro w hSw; (try dsimp only at hSw); go_simp; (try with_reducible rfl)
      case hr31 =>
      simp only [Act.put, List.setIfInBounds_toArray, List.set_cons_zero, List.set_cons_succ]
      refine wpAnyF_pure (i := 2) (oi := ?oi32) (v := ?v32) ?hi32 (by kernel_rfl) (by kernel_rfl) (by kernel_rfl) (by kernel_rfl) ?hQ32 (Or.inl ⟨?hw32, ?hy32⟩) (Or.inr (by assumption)) ?hr32
      case hi32 => simp only [List.getElem?_toArray, List.getElem?_cons_succ, List.getElem?_cons_zero]; rfl
      case hQ32 => exact fun _ _ _ h => h
      case hw32 => rfl
      case hy32 => intro w hSw; (try dsimp only at hSw); go_simp; (try with_reducible rfl)
      case hr32 =>
      simp only [Act.put, List.setIfInBounds_toArray, List.set_cons_zero, List.set_cons_succ]
      refine wpAnyF_take (i := 3) (oi := ?oi33) (v := ?v33) ?hi33 (by kernel_rfl) (by kernel_rfl) (by kernel_rfl) (by kernel_rfl) (by kernel_rfl) ?hQ33 (Or.inl ⟨?hw33, ?hy33⟩) (by assumption) ?hr33
      case hi33 => simp only [List.getElem?_toArray, List.getElem?_cons_succ, List.getElem?_cons_zero]; rfl
      case hQ33 => exact fun _ _ _ h => h
      case hw33 => rfl
      case hy33 => intro w hSw; (try dsimp only at hSw); go_simp; (try with_reducible rfl)
      case hr33 =>
      simp only [Act.put, List.setIfInBounds_toArray, List.set_cons_zero, List.set_cons_succ]
      refine wpAnyF_pure (i := 4) (oi := ?oi34) (v := ?v34) ?hi34 (by kernel_rfl) (by kernel_rfl) (by kernel_rfl) (by kernel_rfl) ?hQ34 (Or.inl ⟨?hw34, ?hy34⟩) (Or.inr (by assumption)) ?hr34
      case hi34 => simp only [List.getElem?_toArray, List.getElem?_cons_succ, List.getElem?_cons_zero]; rfl
      case hQ34 => exact fun _ _ _ h => h
      case hw34 => rfl
      case hy34 => intro w hSw; (try dsimp only at hSw); go_simp; (try with_reducible rfl)
      case hr34 =>
      simp only [Act.put, List.setIfInBounds_toArray, List.set_cons_zero, List.set_cons_succ]
      refine wpAnyF_take (i := 5) (oi := ?oi35) (v := ?v35) ?hi35 (by kernel_rfl) (by kernel_rfl) (by kernel_rfl) (by kernel_rfl) (by kernel_rfl) ?hQ35 (Or.inl ⟨?hw35, ?hy35⟩) (by assumption) ?hr35
      case hi35 => simp only [List.getElem?_toArray, List.getElem?_cons_succ, List.getElem?_cons_zero]; rfl
      case hQ35 => exact fun _ _ _ h => h
      case hw35 => rfl
      case hy35 => intro w hSw; (try dsimp only at hSw); go_simp; (try with_reducible rfl)
      case hr35 =>
      simp only [Act.put, List.setIfInBounds_toArray, List.set_cons_zero, List.set_cons_succ]
      refine wpAnyF_pure (i := 6) (oi := ?oi36) (v := ?v36) ?hi36 (by kernel_rfl) (by kernel_rfl) (by kernel_rfl) (by kernel_rfl) ?hQ36 (Or.inl ⟨?hw36, ?hy36⟩) (Or.inr (by assumption)) ?hr36
      case hi36 => simp only [List.getElem?_toArray, List.getElem?_cons_succ, List.getElem?_cons_zero]; rfl
      case hQ36 => exact fun _ _ _ h => h
      case hw36 => rfl
      case hy36 => intro w hSw; (try dsimp only at hSw); go_simp; (try with_reducible rfl)
      case hr36 =>
      simp only [Act.put, List.setIfInBounds_toArray, List.set_cons_zero, List.set_cons_succ]
      refine wpAnyF_take (i := 7) (oi := ?oi37) (v := ?v37) ?hi37 (by kernel_rfl) (by kernel_rfl) (by kernel_rfl) (by kernel_rfl) (by kernel_rfl) ?hQ37 (Or.inl ⟨?hw37, ?hy37⟩) (by assumption) ?hr37
      case hi37 => simp only [List.getElem?_toArray, List.getElem?_cons_succ, List.getElem?_cons_zero]; rfl
      case hQ37 => exact fun _ _ _ h => h
      case hw37 => rfl
      case hy37 => intro w hSw; (try dsimp only at hSw); go_simp; (try with_reducible rfl)
      case hr37 =>
      simp only [Act.put, List.setIfInBounds_toArray, List.set_cons_zero, List.set_cons_succ]
      refine wpAnyF_ready (i := 8) (o := ?oc38) (by kernel_rfl) ?hc38 (by kernel_rfl) (fun K hK => ?hs38)
      case hc38 => simp only [List.getElem?_toArray, List.getElem?_cons_succ, List.getElem?_cons_zero]; rfl
      case hs38 =>
      rw [if_pos (by rfl)]
      go_simp
      refine hK.out _ _ ?_
      clear hK K
      try simp only [Act.put, List.setIfInBounds_toArray, List.set_cons_zero, List.set_cons_succ]
      refine wpAnyF_done (by kernel_rfl) ?_ _
      clear HS hru
      go_upto_region 6 with (fail)
      have HS := Lib.hid (show w7.drew.cell? ⟨cb, 0, none⟩ = some (.pointer (some ⟨f, 0, none⟩)) ∧ w7.drew.cell? ⟨g1, 1, none⟩ = some (.string P) ∧ w7.drew.cell? ⟨g1, 2, none⟩ = some (.int .i64 m) ∧ w7.drew.cell? ⟨g1, 4, none⟩ = some (.slice da dl dc) from
        ⟨cell_heap HM7.out.1.blk 0 rfl, cell_heap HM7.out.2.2 1 rfl, cell_heap HM7.out.2.2 2 rfl, cell_heap HM7.out.2.2 4 rfl⟩)
      refine wp_region_mark (S := fun v => v.cell? ⟨cb, 0, none⟩ = some (.pointer (some ⟨f, 0, none⟩)) ∧ v.cell? ⟨g1, 1, none⟩ = some (.string P) ∧ v.cell? ⟨g1, 2, none⟩ = some (.int .i64 m) ∧ v.cell? ⟨g1, 4, none⟩ = some (.slice da dl dc)) 10 (by kernel_rfl) ?_ (fun hHeld => ?_)
      · exact HS.out
      refine wpAnyF_pure (i := 0) (oi := ?oi39) (v := ?v39) ?hi39 (by kernel_rfl) (by kernel_rfl) (by kernel_rfl) (by kernel_rfl) ?hQ39 (Or.inl ⟨?hw39, ?hy39⟩) (Or.inr (by assumption)) ?hr39
      case hi39 => simp only [List.getElem?_toArray, List.getElem?_cons_zero]; rfl
      case hQ39 => exact fun _ _ _ h => h
      case hw39 => rfl
      case hy39 => intro w hSw; (try dsimp only at hSw); go_simp; (try with_reducible rfl)
      case hr39 =>
      simp only [Act.put, List.setIfInBounds_toArray, List.set_cons_zero, List.set_cons_succ]
      refine wpAnyF_pure (i := 1) (oi := ?oi40) (v := ?v40) ?hi40 (by kernel_rfl) (by kernel_rfl) (by kernel_rfl) (by kernel_rfl) ?hQ40 (Or.inl ⟨?hw40, ?hy40⟩) (Or.inr (by assumption)) ?hr40
      case hi40 => simp only [List.getElem?_toArray, List.getElem?_cons_succ, List.getElem?_cons_zero]; rfl
      case hQ40 => exact fun _ _ _ h => h
      case hw40 => rfl
      case hy40 => intro w hSw; (try dsimp only at hSw); go_simp; (try with_reducible rfl)
      case hr40 =>
      simp only [Act.put, List.setIfInBounds_toArray, List.set_cons_zero, List.set_cons_succ]
      refine wpAnyF_pure (i := 2) (oi := ?oi41) (v := ?v41) ?hi41 (by kernel_rfl) (by kernel_rfl) (by kernel_rfl) (by kernel_rfl) ?hQ41 (Or.inl ⟨?hw41, ?hy41⟩) (Or.inr (by assumption)) ?hr41
      case hi41 => simp only [List.getElem?_toArray, List.getElem?_cons_succ, List.getElem?_cons_zero]; rfl
      case hQ41 => exact fun _ _ _ h => h
      case hw41 => rfl
      case hy41 => intro w hSw; (try dsimp only at hSw); go_simp; (try with_reducible rfl)
      case hr41 =>
      simp only [Act.put, List.setIfInBounds_toArray, List.set_cons_zero, List.set_cons_succ]
      refine wpAnyF_take (i := 3) (oi := ?oi42) (v := ?v42) ?hi42 (by kernel_rfl) (by kernel_rfl) (by kernel_rfl) (by kernel_rfl) (by kernel_rfl) ?hQ42 (Or.inl ⟨?hw42, ?hy42⟩) (by assumption) ?hr42
      case hi42 => simp only [List.getElem?_toArray, List.getElem?_cons_succ, List.getElem?_cons_zero]; rfl
      case hQ42 => exact fun _ _ _ h => h
      case hw42 => rfl
      case hy42 => intro w hSw; (try dsimp only at hSw); go_simp; (try with_reducible rfl)
      case hr42 =>
      simp only [Act.put, List.setIfInBounds_toArray, List.set_cons_zero, List.set_cons_succ]
      refine wpAnyF_pure (i := 4) (oi := ?oi43) (v := ?v43) ?hi43 (by kernel_rfl) (by kernel_rfl) (by kernel_rfl) (by kernel_rfl) ?hQ43 (Or.inl ⟨?hw43, ?hy43⟩) (Or.inr (by assumption)) ?hr43
      case hi43 => simp only [List.getElem?_toArray, List.getElem?_cons_succ, List.getElem?_cons_zero]; rfl
      case hQ43 => exact fun _ _ _ h => h
      case hw43 => rfl
      case hy43 => intro w hSw; (try dsimp only at hSw); go_simp; (try with_reducible rfl)
      case hr43 =>
      simp only [Act.put, List.setIfInBounds_toArray, List.set_cons_zero, List.set_cons_succ]
      refine wpAnyF_take (i := 5) (oi := ?oi44) (v := ?v44) ?hi44 (by kernel_rfl) (by kernel_rfl) (by kernel_rfl) (by kernel_rfl) (by kernel_rfl) ?hQ44 (Or.inl ⟨?hw44, ?hy44⟩) (by assumption) ?hr44
      case hi44 => simp only [List.getElem?_toArray, List.getElem?_cons_succ, List.getElem?_cons_zero]; rfl
      case hQ44 => exact fun _ _ _ h => h
      case hw44 => rfl
      case hy44 => intro w hSw; (try dsimp only at hSw); go_simp; (try with_reducible rfl)
      case hr44 =>
      simp only [Act.put, List.setIfInBounds_toArray, List.set_cons_zero, List.set_cons_succ]
      refine wpAnyF_pure (i := 6) (oi := ?oi45) (v := ?v45) ?hi45 (by kernel_rfl) (by kernel_rfl) (by kernel_rfl) (by kernel_rfl) ?hQ45 (Or.inl ⟨?hw45, ?hy45⟩) (Or.inr (by assumption)) ?hr45
      case hi45 => simp only [List.getElem?_toArray, List.getElem?_cons_succ, List.getElem?_cons_zero]; rfl
      case hQ45 => exact fun _ _ _ h => h
      case hw45 => rfl
      case hy45 => intro w hSw; (try dsimp only at hSw); go_simp; (try with_reducible rfl)
      case hr45 =>
      simp only [Act.put, List.setIfInBounds_toArray, List.set_cons_zero, List.set_cons_succ]
      refine wpAnyF_take (i := 7) (oi := ?oi46) (v := ?v46) ?hi46 (by kernel_rfl) (by kernel_rfl) (by kernel_rfl) (by kernel_rfl) (by kernel_rfl) ?hQ46 (Or.inl ⟨?hw46, ?hy46⟩) (by assumption) ?hr46
      case hi46 => simp only [List.getElem?_toArray, List.getElem?_cons_succ, List.getElem?_cons_zero]; rfl
      case hQ46 => exact fun _ _ _ h => h
      case hw46 => rfl
      case hy46 => intro w hSw; (try dsimp only at hSw); go_simp; (try with_reducible rfl)
      case hr46 =>
      simp only [Act.put, List.setIfInBounds_toArray, List.set_cons_zero, List.set_cons_succ]
      refine wpAnyF_pure (i := 8) (oi := ?oi47) (v := ?v47) ?hi47 (by kernel_rfl) (by kernel_rfl) (by kernel_rfl) (by kernel_rfl) ?hQ47 (Or.inl ⟨?hw47, ?hy47⟩) (Or.inr (by assumption)) ?hr47
      case hi47 => simp only [List.getElem?_toArray, List.getElem?_cons_succ, List.getElem?_cons_zero]; rfl
      case hQ47 => exact fun _ _ _ h => h
      case hw47 => rfl
      case hy47 => intro w hSw; (try dsimp only at hSw); go_simp; (try with_reducible rfl)
      case hr47 =>
      simp only [Act.put, List.setIfInBounds_toArray, List.set_cons_zero, List.set_cons_succ]
      refine wpAnyF_take (i := 9) (oi := ?oi48) (v := ?v48) ?hi48 (by kernel_rfl) (by kernel_rfl) (by kernel_rfl) (by kernel_rfl) (by kernel_rfl) ?hQ48 (Or.inl ⟨?hw48, ?hy48⟩) (by assumption) ?hr48
      case hi48 => simp only [List.getElem?_toArray, List.getElem?_cons_succ, List.getElem?_cons_zero]; rfl
      case hQ48 => exact fun _ _ _ h => h
      case hw48 => rfl
      case hy48 => intro w hSw; (try dsimp only at hSw); go_simp; (try with_reducible rfl)
      case hr48 =>
      simp only [Act.put, List.setIfInBounds_toArray, List.set_cons_zero, List.set_cons_succ]
      refine wpAnyF_ready (i := 10) (o := ?oc49) (by kernel_rfl) ?hc49 (by kernel_rfl) (fun K hK => ?hs49)
      case hc49 => simp only [List.getElem?_toArray, List.getElem?_cons_succ, List.getElem?_cons_zero]; rfl
      case hs49 =>
      rw [if_pos (by rfl)]
      go_simp
      go_at_call 27; refine (HC.out _ HM7.out.2.1).mono ?_; rintro e w' ⟨rfl, hm⟩; have HM := Lib.hid hm; clear hm
      go_wp2_with fail
      refine hK.out _ _ ?_
      clear hK K
      try simp only [Act.put]
      refine wpAnyF_ready (i := 11) (o := ?oc50) (by kernel_rfl) ?hc50 (by kernel_rfl) (fun K hK => ?hs50)
      case hc50 => simp only [List.getElem?_toArray, List.getElem?_cons_succ, List.getElem?_cons_zero]; rfl
      case hs50 =>
      rw [if_pos (by rfl)]
      go_simp
      refine hK.out _ _ ?_
      clear hK K
      try simp only [Act.put, List.setIfInBounds_toArray, List.set_cons_zero, List.set_cons_succ]
      refine wpAnyF_done (by kernel_rfl) ?_ _
      go_wp2_with fail
      go_ret
      refine ⟨by rw [HAQ.out.1, HE1.out]; rfl, w7.drew, HM7.out.2.1, by rw [HAQ.out.2]; exact HM7.out.1, ?_⟩
      rw [HAQ.out.1]
      exact HD.out _ _ HM.out
  · have hclb : ¬ cl > 0 := hcl
    have HAQ := Lib.hid (show A = ⟨1, x.path, m, x.data, []⟩ ∧ LU = least from by
      rw [HA.out.1, HA.out.2]; unfold fileAct leastUp; rw [HX.out.1, if_neg hcl, if_neg hcl, HX.out.2.2.2]; exact ⟨rfl, rfl⟩)
    go_upto_region 6 with (fail)
    have HK3 := Lib.hid (show Chg [] w W1.drew from HK1.out.1.trans (Chg.refl _ _).drew)
    have HS := Lib.hid (show W1.drew.cell? ⟨cb, 0, none⟩ = some (.pointer (some ⟨f, 0, none⟩)) ∧ W1.drew.cell? ⟨g1, 1, none⟩ = some (.string P) ∧ W1.drew.cell? ⟨g1, 2, none⟩ = some (.int .i64 m) ∧ W1.drew.cell? ⟨g1, 4, none⟩ = some (.slice da dl dc) from
      ⟨cell_heap ((HB.out.chg HK3.out).blk) 0 rfl, cell_heap HK1.out.2.1 1 rfl, cell_heap HK1.out.2.1 2 rfl, cell_heap HK1.out.2.1 4 rfl⟩)
    refine wp_region_mark (S := fun v => v.cell? ⟨cb, 0, none⟩ = some (.pointer (some ⟨f, 0, none⟩)) ∧ v.cell? ⟨g1, 1, none⟩ = some (.string P) ∧ v.cell? ⟨g1, 2, none⟩ = some (.int .i64 m) ∧ v.cell? ⟨g1, 4, none⟩ = some (.slice da dl dc)) 10 (by kernel_rfl) ?_ (fun hHeld => ?_)
    · exact HS.out
    refine wpAnyF_pure (i := 0) (oi := ?oi51) (v := ?v51) ?hi51 (by kernel_rfl) (by kernel_rfl) (by kernel_rfl) (by kernel_rfl) ?hQ51 (Or.inl ⟨?hw51, ?hy51⟩) (Or.inr (by assumption)) ?hr51
    case hi51 => simp only [List.getElem?_toArray, List.getElem?_cons_zero]; rfl
    case hQ51 => exact fun _ _ _ h => h
    case hw51 => rfl
    case hy51 => intro w hSw; (try dsimp only at hSw); go_simp; (try with_reducible rfl)
    case hr51 =>
    simp only [Act.put, List.setIfInBounds_toArray, List.set_cons_zero, List.set_cons_succ]
    refine wpAnyF_pure (i := 1) (oi := ?oi52) (v := ?v52) ?hi52 (by kernel_rfl) (by kernel_rfl) (by kernel_rfl) (by kernel_rfl) ?hQ52 (Or.inl ⟨?hw52, ?hy52⟩) (Or.inr (by assumption)) ?hr52
    case hi52 => simp only [List.getElem?_toArray, List.getElem?_cons_succ, List.getElem?_cons_zero]; rfl
    case hQ52 => exact fun _ _ _ h => h
    case hw52 => rfl
    case hy52 => intro w hSw; (try dsimp only at hSw); go_simp; (try with_reducible rfl)
    case hr52 =>
    simp only [Act.put, List.setIfInBounds_toArray, List.set_cons_zero, List.set_cons_succ]
    refine wpAnyF_pure (i := 2) (oi := ?oi53) (v := ?v53) ?hi53 (by kernel_rfl) (by kernel_rfl) (by kernel_rfl) (by kernel_rfl) ?hQ53 (Or.inl ⟨?hw53, ?hy53⟩) (Or.inr (by assumption)) ?hr53
    case hi53 => simp only [List.getElem?_toArray, List.getElem?_cons_succ, List.getElem?_cons_zero]; rfl
    case hQ53 => exact fun _ _ _ h => h
    case hw53 => rfl
    case hy53 => intro w hSw; (try dsimp only at hSw); go_simp; (try with_reducible rfl)
    case hr53 =>
    simp only [Act.put, List.setIfInBounds_toArray, List.set_cons_zero, List.set_cons_succ]
    refine wpAnyF_take (i := 3) (oi := ?oi54) (v := ?v54) ?hi54 (by kernel_rfl) (by kernel_rfl) (by kernel_rfl) (by kernel_rfl) (by kernel_rfl) ?hQ54 (Or.inl ⟨?hw54, ?hy54⟩) (by assumption) ?hr54
    case hi54 => simp only [List.getElem?_toArray, List.getElem?_cons_succ, List.getElem?_cons_zero]; rfl
    case hQ54 => exact fun _ _ _ h => h
    case hw54 => rfl
    case hy54 => intro w hSw; (try dsimp only at hSw); go_simp; (try with_reducible rfl)
    case hr54 =>
    simp only [Act.put, List.setIfInBounds_toArray, List.set_cons_zero, List.set_cons_succ]
    refine wpAnyF_pure (i := 4) (oi := ?oi55) (v := ?v55) ?hi55 (by kernel_rfl) (by kernel_rfl) (by kernel_rfl) (by kernel_rfl) ?hQ55 (Or.inl ⟨?hw55, ?hy55⟩) (Or.inr (by assumption)) ?hr55
    case hi55 => simp only [List.getElem?_toArray, List.getElem?_cons_succ, List.getElem?_cons_zero]; rfl
    case hQ55 => exact fun _ _ _ h => h
    case hw55 => rfl
    case hy55 => intro w hSw; (try dsimp only at hSw); go_simp; (try with_reducible rfl)
    case hr55 =>
    simp only [Act.put, List.setIfInBounds_toArray, List.set_cons_zero, List.set_cons_succ]
    refine wpAnyF_take (i := 5) (oi := ?oi56) (v := ?v56) ?hi56 (by kernel_rfl) (by kernel_rfl) (by kernel_rfl) (by kernel_rfl) (by kernel_rfl) ?hQ56 (Or.inl ⟨?hw56, ?hy56⟩) (by assumption) ?hr56
    case hi56 => simp only [List.getElem?_toArray, List.getElem?_cons_succ, List.getElem?_cons_zero]; rfl
    case hQ56 => exact fun _ _ _ h => h
    case hw56 => rfl
    case hy56 => intro w hSw; (try dsimp only at hSw); go_simp; (try with_reducible rfl)
    case hr56 =>
    simp only [Act.put, List.setIfInBounds_toArray, List.set_cons_zero, List.set_cons_succ]
    refine wpAnyF_pure (i := 6) (oi := ?oi57) (v := ?v57) ?hi57 (by kernel_rfl) (by kernel_rfl) (by kernel_rfl) (by kernel_rfl) ?hQ57 (Or.inl ⟨?hw57, ?hy57⟩) (Or.inr (by assumption)) ?hr57
    case hi57 => simp only [List.getElem?_toArray, List.getElem?_cons_succ, List.getElem?_cons_zero]; rfl
    case hQ57 => exact fun _ _ _ h => h
    case hw57 => rfl
    case hy57 => intro w hSw; (try dsimp only at hSw); go_simp; (try with_reducible rfl)
    case hr57 =>
    simp only [Act.put, List.setIfInBounds_toArray, List.set_cons_zero, List.set_cons_succ]
    refine wpAnyF_take (i := 7) (oi := ?oi58) (v := ?v58) ?hi58 (by kernel_rfl) (by kernel_rfl) (by kernel_rfl) (by kernel_rfl) (by kernel_rfl) ?hQ58 (Or.inl ⟨?hw58, ?hy58⟩) (by assumption) ?hr58
    case hi58 => simp only [List.getElem?_toArray, List.getElem?_cons_succ, List.getElem?_cons_zero]; rfl
    case hQ58 => exact fun _ _ _ h => h
    case hw58 => rfl
    case hy58 => intro w hSw; (try dsimp only at hSw); go_simp; (try with_reducible rfl)
    case hr58 =>
    simp only [Act.put, List.setIfInBounds_toArray, List.set_cons_zero, List.set_cons_succ]
    refine wpAnyF_pure (i := 8) (oi := ?oi59) (v := ?v59) ?hi59 (by kernel_rfl) (by kernel_rfl) (by kernel_rfl) (by kernel_rfl) ?hQ59 (Or.inl ⟨?hw59, ?hy59⟩) (Or.inr (by assumption)) ?hr59
    case hi59 => simp only [List.getElem?_toArray, List.getElem?_cons_succ, List.getElem?_cons_zero]; rfl
    case hQ59 => exact fun _ _ _ h => h
    case hw59 => rfl
    case hy59 => intro w hSw; (try dsimp only at hSw); go_simp; (try with_reducible rfl)
    case hr59 =>
    simp only [Act.put, List.setIfInBounds_toArray, List.set_cons_zero, List.set_cons_succ]
    refine wpAnyF_take (i := 9) (oi := ?oi60) (v := ?v60) ?hi60 (by kernel_rfl) (by kernel_rfl) (by kernel_rfl) (by kernel_rfl) (by kernel_rfl) ?hQ60 (Or.inl ⟨?hw60, ?hy60⟩) (by assumption) ?hr60
    case hi60 => simp only [List.getElem?_toArray, List.getElem?_cons_succ, List.getElem?_cons_zero]; rfl
    case hQ60 => exact fun _ _ _ h => h
    case hw60 => rfl
    case hy60 => intro w hSw; (try dsimp only at hSw); go_simp; (try with_reducible rfl)
    case hr60 =>
    simp only [Act.put, List.setIfInBounds_toArray, List.set_cons_zero, List.set_cons_succ]
    refine wpAnyF_ready (i := 10) (o := ?oc61) (by kernel_rfl) ?hc61 (by kernel_rfl) (fun K hK => ?hs61)
    case hc61 => simp only [List.getElem?_toArray, List.getElem?_cons_succ, List.getElem?_cons_zero]; rfl
    case hs61 =>
    rw [if_pos (by rfl)]
    go_simp
    go_at_call 27; refine (HC.out _ (HK3.out.mono (by simp))).mono ?_; rintro e w' ⟨rfl, hm⟩; have HM := Lib.hid hm; clear hm
    go_wp2_with fail
    refine hK.out _ _ ?_
    clear hK K
    try simp only [Act.put]
    refine wpAnyF_ready (i := 11) (o := ?oc62) (by kernel_rfl) ?hc62 (by kernel_rfl) (fun K hK => ?hs62)
    case hc62 => simp only [List.getElem?_toArray, List.getElem?_cons_succ, List.getElem?_cons_zero]; rfl
    case hs62 =>
    rw [if_pos (by rfl)]
    go_simp
    refine hK.out _ _ ?_
    clear hK K
    try simp only [Act.put, List.setIfInBounds_toArray, List.set_cons_zero, List.set_cons_succ]
    refine wpAnyF_done (by kernel_rfl) ?_ _
    go_wp2_with fail
    go_ret
    refine ⟨by rw [HAQ.out.1, HE1.out]; rfl, W1.drew, HK3.out.mono (by simp), by rw [HAQ.out.2]; exact HB.out.chg HK3.out, ?_⟩
    rw [HAQ.out.1]
    exact HD.out _ _ HM.out
end Go.Proofs.YtfhiioopimmahaaGreatDoor
