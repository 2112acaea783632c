/- paxtarlaw19: same. Printed by wip/gen/genrsame.py. -/
import Derived.Test.YtoionaeimnmcbaaGreatDoorRRel
namespace Go.Pax
open Go.RowKit
theorem run_conv {P : Program} (w : World) (src dst e : TypeId) (hs : P.underlying src = some (.slice e)) (he : P.underlying e = some (.int .u8)) (hd : P.underlying dst = some .string)
    (fp : List Nat) (ao : Option Addr) (n cap : Nat) (l : List UInt8) (hl : l.length = n) (h : Rd w fp ao (bv l)) :
    (convert src dst (.slice ao n cap)).run P w = .ok (.string (ba l)) w := by
  cases ao with
  | none =>
    have : l = [] := by
      cases l with
      | nil => rfl
      | cons x r => obtain ⟨a, ha, _⟩ := h 0 _ rfl; cases ha
    subst this
    exact run_convert_bytes_nil w src e hs he _ _ dst hd
  | some ad =>
    rw [run_convert_bytes_string w src dst e _ n cap hs he hd]
    have hlc := run_loadCells_list (P := P) w ad (bv l) h.at
    rw [bv_length, hl] at hlc
    have hb : (bv l).toArray = ((l.map fun b => (b.toNat : Int)).map (Value.int .u8)).toArray := by simp [bv]
    rw [hb] at hlc
    rw [run_bytesToString w ad n cap (l.map fun b => (b.toNat : Int)) hlc, foldl_push_bytes]
    have hm : (l.map fun b => (b.toNat : Int)).map (fun n => UInt8.ofNat n.toNat) = l := by
      rw [List.map_map]
      exact (List.map_congr_left (fun b _ => by simp)).trans (List.map_id l)
    rw [hm]
    simp [ba, ByteArray.empty, ByteArray.emptyWithCapacity]
    rfl
end Go.Pax
namespace Go.Proofs.YtoionaeimnmcbaaGreatDoor
open Go.RowKit Go.Pax Go.Shelf
theorem conv (w : World) (fp : List Nat) (ao : Option Addr) (n cap : Nat) (l : List UInt8) (hl : l.length = n) (h : Rd w fp ao (bv l)) :
    (convert 24 9 (.slice ao n cap)).run Tryz.prog w = .ok (.string (ba l)) w := run_conv w 24 9 5 Tryz.underlying24 Tryz.underlying5 Tryz.underlying9 fp ao n cap l hl h
set_option maxRecDepth 100000 in
set_option maxHeartbeats 8000000 in
theorem same (w : World) (f : Nat) (O : List Nat) (σ : Fs) (r : Nat) (Q : List Nat) (ρ : RFs) (bs : List Nat) (p : Str) (hf : FsAt w f O σ) (hr : RAt w r Q ρ) (hk : ROk ρ) (hrel : Rel σ ρ bs) (hdl : ∀ x ∈ ρ.inodes, x.data.length ≤ 140737488355328) :
    Calls Tryz.prog 12 #[.pointer (some ⟨f, 0, none⟩), .pointer (some ⟨r, 0, none⟩), .string (ba p)] w fun e w' => e = .returned (.bool true) ∧ Chg [] w w' := by
  have hdat : ∀ q b, (q, b) ∈ σ.files → (σ.node b).data.length ≤ 140737488355328 := fun q b hq => by
    rw [hrel.files] at hq
    obtain ⟨y, hy, he⟩ := List.mem_map.1 hq
    cases he
    have hi := hrel.idx y hy
    rw [hrel.len] at hi
    have hn := hrel.node y.2 _ (List.getElem?_eq_getElem hi)
    rw [hn.2.2.2.2.2.2.2]
    exact hdl _ (List.getElem_mem hi)
  have HST := Lib.hid (lstat w f O σ p hf)
  have HRD := Lib.hid (fun W (k : Chg [] w W) => readFile W f O σ p (hf.foreign k (by simp)) hdat)
  have HFI := Lib.hid (fun W (k : Chg [] w W) => rfind W r Q ρ p (hr.foreign k (by simp)) (by have := hk.plen; omega))
  have HLI := Lib.hid (fun W i (k : Chg [] w W) => rlinks W r Q ρ i (hr.foreign k (by simp)) (by have := hk.plen; omega))
  have hlk := hrel.lk p
  unfold lstatV at HST
  clear hdat hf
  cases h1 : lkF ρ.paths p with
  | none =>
    rw [h1] at hlk
    simp only [Option.map_none] at hlk
    rw [hlk] at HST
    simp only at HST
    have hre : readE σ p = 19 := by unfold readE; rw [hlk]
    have HRE := Lib.hid hre
    rw [findR_no h1] at HFI
    clear hr hk hrel hdl hlk h1 hre HLI
    unfold noInfo at HST
    go_enter Tryz.func12, Tryz.ntmps12
    go_upto_region 2 with (go_at_call 16; refine HST.out.mono ?_; rintro e w1 ⟨rfl, k⟩; have HK1 := Lib.hid (k.alloc (.cells #[.int .i64 0, .int .i64 0, .int .i64 0, .int .i64 0, .int .i64 0, .string ⟨#[]⟩, .int .i64 0, .int .i64 0] 52)); have e1 := heap_alloc_new w1 (.cells #[.int .i64 0, .int .i64 0, .int .i64 0, .int .i64 0, .int .i64 0, .string ⟨#[]⟩, .int .i64 0, .int .i64 0] 52); clear k)
    generalize w1.alloc (.cells #[.int .i64 0, .int .i64 0, .int .i64 0, .int .i64 0, .int .i64 0, .string ⟨#[]⟩, .int .i64 0, .int .i64 0] 52) = W1 at *
    generalize w1.heap.size = g at *
    have HE1 := Lib.hid e1
    clear e1
    go_upto_region 4 with (first
      | (go_at_call 35; refine (HRD.out _ HK1.out).mono ?_; rintro e w2 hra; have hra2 := hra.1 (by rw [HRE.out]; decide); rw [HRE.out] at hra2; obtain ⟨rfl, k2⟩ := hra2; have HK2 := Lib.hid (HK1.out.trans k2); have HE2 := Lib.hid (k2.heap HE1.out (by simp)); clear hra k2)
      | (go_at_call 36; refine (HFI.out _ HK2.out).mono ?_; rintro e w3 ⟨rfl, hw3⟩; obtain rfl := hw3.symm))
    have d0 := cell_heap HE2.out 0 rfl
    have d1 := cell_heap HE2.out 1 rfl
    have d2 := cell_heap HE2.out 2 rfl
    have d3 := cell_heap HE2.out 3 rfl
    have d4 := cell_heap HE2.out 4 rfl
    have d5 := cell_heap HE2.out 5 rfl
    have d6 := cell_heap HE2.out 6 rfl
    have d7 := cell_heap HE2.out 7 rfl
    go_wp2_with fail
    go_ret
    exact ⟨rfl, HK2.out⟩
  | some i =>
    obtain ⟨hi, hlt, x, hx, hn⟩ := hrel.find h1
    have hlinks := hrel.links i hi
    rw [hlt] at HST
    simp only at HST
    have hil : i < ρ.inodes.length := by rw [← hrel.len]; exact hi
    have hxe : nodeR ρ i = x := by unfold nodeR; rw [List.getD_eq_getElem?_getD, hx]; rfl
    have hxd : x.data.length ≤ 140737488355328 := by
      rw [List.getElem?_eq_getElem hil] at hx
      injection hx with hx
      rw [← hx]
      exact hdl _ (List.getElem_mem hil)
    rw [findR_some h1] at HFI
    obtain ⟨rv, iv', pv, ns, h⟩ := hr
    have c3 := h.cells.2.2.2.1
    obtain ⟨ao, ic, rfl, hic, _⟩ := own_rdS h.ino
    obtain ⟨hnl, _, hi', ad, rfl, hnode, hc0, hcs⟩ := h.node hil
    rw [hnode] at hxe
    have hdrow := h.data _ (List.getElem_mem hi')
    obtain ⟨da, dc, hdv⟩ := hdrow.shape
    rw [hxe] at hdv hdrow
    rw [hdv] at hdrow
    have hrow := hdrow.rd
    have hcell : ∀ j, 0 < j → j < 7 → w.cell? ⟨(ad.add (i * 7)).block, (ad.add (i * 7)).off + j, none⟩ = (ncell x (.slice da (bv x.data).length dc))[j]? := fun j hj hj7 => by rw [hcs j hj hj7, hxe, hdv]
    rw [hnode, hxe] at hc0
    rw [bv_length] at hrow hcell
    have hre : readE σ p = if x.kind = 1 then 0 else 8 := by unfold readE; rw [hlt]; simp only; rw [hn.1]
    have hinfo : infoV (σ.node (bs.getD i 0)) = .agg #[.int .i64 x.kind, .int .i64 x.mode, .int .i64 x.number, .int .i64 (linksR ρ.paths i : Nat), .int .i64 (x.data.length : Nat), .string (ba x.target), .int .i64 x.uid, .int .i64 x.mtime] := by
      unfold infoV
      rw [hn.1, hn.2.1, hn.2.2.1, hlinks, hn.2.2.2.1, hn.2.2.2.2.1, hn.2.2.2.2.2.1, hn.2.2.2.2.2.2.1]
    rw [hinfo] at HST
    have HLK := Lib.hid (fun W (k : Chg [] w W) => HLI.out W i k)
    have HRW := Lib.hid hrow.2.1
    have HND := Lib.hid (And.intro hlt hn.2.2.2.2.2.2.2)
    have HRE := Lib.hid hre
    have q1 := hcell 1 (by omega) (by omega)
    have q2 := hcell 2 (by omega) (by omega)
    have q3 := hcell 3 (by omega) (by omega)
    have q4 := hcell 4 (by omega) (by omega)
    have q5 := hcell 5 (by omega) (by omega)
    have q6 := hcell 6 (by omega) (by omega)
    simp only [ncell, List.getElem?_cons_succ, List.getElem?_cons_zero] at q1 q2 q3 q4 q5 q6
    have HQ := Lib.hid (fun W (k : Chg [] w W) => And.intro (k.cell c3 (by simp)) (And.intro (k.cell hc0 (by simp)) (And.intro (k.cell q1 (by simp)) (And.intro (k.cell q2 (by simp)) (And.intro (k.cell q3 (by simp)) (And.intro (k.cell q4 (by simp)) (And.intro (k.cell q5 (by simp)) (k.cell q6 (by simp)))))))))
    have hin : i < ns.length := hi'
    clear HLI hcs hcell hdrow hrow hinfo hre hlinks hlk hk hrel hdl hx hn h1 hlt hi q1 q2 q3 q4 q5 q6 hc0 c3 hxe hnode hdv h hil hnl hi'
    generalize hXD : x.data = XD at *
    generalize x.kind = K at *
    generalize x.mode = M at *
    generalize x.number = N at *
    generalize linksR ρ.paths i = LK at *
    obtain ⟨D, hD⟩ : ∃ D, XD.length = D := ⟨_, rfl⟩
    rw [hD] at hxd HST HQ
    have HD := Lib.hid hD
    generalize ba x.target = T at *
    generalize x.uid = U at *
    generalize x.mtime = Y at *
    clear hXD hD
    go_enter Tryz.func12, Tryz.ntmps12
    go_upto_region 2 with (go_at_call 16; refine HST.out.mono ?_; rintro e w1 ⟨rfl, k⟩; have HK1 := Lib.hid (k.alloc (.cells #[.int .i64 K, .int .i64 M, .int .i64 N, .int .i64 (LK : Nat), .int .i64 (D : Nat), .string T, .int .i64 U, .int .i64 Y] 52)); have e1 := heap_alloc_new w1 (.cells #[.int .i64 K, .int .i64 M, .int .i64 N, .int .i64 (LK : Nat), .int .i64 (D : Nat), .string T, .int .i64 U, .int .i64 Y] 52); clear k)
    generalize w1.alloc (.cells #[.int .i64 K, .int .i64 M, .int .i64 N, .int .i64 (LK : Nat), .int .i64 (D : Nat), .string T, .int .i64 U, .int .i64 Y] 52) = W1 at *
    generalize w1.heap.size = g at *
    have HE1 := Lib.hid e1
    clear e1
    by_cases hK : K = 1
    · subst hK
      have hre : readE σ p = 0 := by rw [HRE.out, if_pos rfl]
      have HRE0 := Lib.hid hre
      clear hre HRE
      go_upto_region 3 with (go_at_call 35; refine (HRD.out _ HK1.out).mono ?_; rintro e w2 hra; obtain ⟨b2, ba2, bc, bfp, hb2, rfl, hbr, _, _, k2⟩ := hra.2 HRE0.out; rw [HND.out.1] at hb2; cases hb2; rw [HND.out.2] at hbr ⊢; rw [HD.out]; have HBR := Lib.hid hbr; have HK2 := Lib.hid (HK1.out.trans k2); have HE2 := Lib.hid (k2.heap HE1.out (by simp)); clear hra k2 hbr)
      go_upto_region 6 with (go_at_call 36; refine (HFI.out _ HK2.out).mono ?_; rintro e w3 ⟨rfl, hw3⟩; obtain rfl := hw3.symm)
      obtain ⟨c3, p0, p1, p2, p3, p4, p5, p6⟩ := HQ.out w2 HK2.out
      go_upto_region 7 with (fail)
      have e12 := heap_alloc_new w2 (.cells #[.int .i64 1, .int .i64 M, .int .i64 N, .slice da D dc, .string T, .int .i64 U, .int .i64 Y] 76)
      have k12 : Chg [] w2 (w2.alloc (.cells #[.int .i64 1, .int .i64 M, .int .i64 N, .slice da D dc, .string T, .int .i64 U, .int .i64 Y] 76)) := (Chg.refl _ _).alloc _
      have HK3 := Lib.hid (HK2.out.trans k12)
      have HKS := Lib.hid k12
      have HE3 := Lib.hid (k12.heap HE2.out (by simp))
      clear c3 p0 p1 p2 p3 p4 p5 p6 k12
      generalize w2.alloc (.cells #[.int .i64 1, .int .i64 M, .int .i64 N, .slice da D dc, .string T, .int .i64 U, .int .i64 Y] 76) = W3 at *
      generalize w2.heap.size = g12 at *
      have HE4 := Lib.hid e12
      clear e12
      have HG := Lib.hid (fun W (k : Chg [] W3 W) => And.intro (k.cell (cell_heap HE4.out 0 rfl) (by simp)) (And.intro (k.cell (cell_heap HE4.out 1 rfl) (by simp)) (And.intro (k.cell (cell_heap HE4.out 2 rfl) (by simp)) (And.intro (k.cell (cell_heap HE4.out 3 rfl) (by simp)) (And.intro (k.cell (cell_heap HE4.out 4 rfl) (by simp)) (And.intro (k.cell (cell_heap HE4.out 5 rfl) (by simp)) (k.cell (cell_heap HE4.out 6 rfl) (by simp))))))))
      go_cut [13] (fun t wx => ∃ g13, t = .pointer (some ⟨g13, 0, none⟩) ∧ wx.heap[g13]? = some (.cells #[.int .i64 1, .int .i64 M, .int .i64 N, .int .i64 (LK : Nat), .int .i64 (D : Nat), .string T, .int .i64 U, .int .i64 Y] 52 (0, 0)) ∧ Chg [] W3 wx)
      case first =>
        refine wp_region_held_drew (S := fun q => q.cell? ⟨g12, 0, none⟩ = some (.int .i64 1) ∧ q.cell? ⟨g12, 1, none⟩ = some (.int .i64 M) ∧ q.cell? ⟨g12, 2, none⟩ = some (.int .i64 N) ∧ q.cell? ⟨g12, 3, none⟩ = some (.slice da D dc) ∧ q.cell? ⟨g12, 4, none⟩ = some (.string T) ∧ q.cell? ⟨g12, 5, none⟩ = some (.int .i64 U) ∧ q.cell? ⟨g12, 6, none⟩ = some (.int .i64 Y)) (by kernel_rfl) ?_ (fun hHeld => ?_)
        · exact HG.out _ ((Chg.refl _ _).drew)
        refine wpAnyH_take (i := 0) (oi := ?oi1) (v := ?v1) ?hi1 (by kernel_rfl) (by kernel_rfl) (by kernel_rfl) ?hQ1 (Or.inl ⟨?hw1, ?hy1⟩) (by assumption) ?hr1
        case hi1 => simp only [List.getElem?_toArray, List.getElem?_cons_zero]; rfl
        case hQ1 => exact fun _ _ _ h => h
        case hw1 => rfl
        case hy1 => intro w hSw; (try dsimp only at hSw); go_simp; (try with_reducible rfl)
        case hr1 =>
        simp only [Act.put, List.setIfInBounds_toArray, List.set_cons_zero, List.set_cons_succ]
        refine wpAnyH_take (i := 1) (oi := ?oi2) (v := ?v2) ?hi2 (by kernel_rfl) (by kernel_rfl) (by kernel_rfl) ?hQ2 (Or.inl ⟨?hw2, ?hy2⟩) (by assumption) ?hr2
        case hi2 => simp only [List.getElem?_toArray, List.getElem?_cons_succ, List.getElem?_cons_zero]; rfl
        case hQ2 => exact fun _ _ _ h => h
        case hw2 => rfl
        case hy2 => intro w hSw; (try dsimp only at hSw); go_simp; (try with_reducible rfl)
        case hr2 =>
        simp only [Act.put, List.setIfInBounds_toArray, List.set_cons_zero, List.set_cons_succ]
        refine wpAnyH_take (i := 2) (oi := ?oi3) (v := ?v3) ?hi3 (by kernel_rfl) (by kernel_rfl) (by kernel_rfl) ?hQ3 (Or.inl ⟨?hw3, ?hy3⟩) (by assumption) ?hr3
        case hi3 => simp only [List.getElem?_toArray, List.getElem?_cons_succ, List.getElem?_cons_zero]; rfl
        case hQ3 => exact fun _ _ _ h => h
        case hw3 => rfl
        case hy3 => intro w hSw; (try dsimp only at hSw); go_simp; (try with_reducible rfl)
        case hr3 =>
        simp only [Act.put, List.setIfInBounds_toArray, List.set_cons_zero, List.set_cons_succ]
        refine wpAnyH_take (i := 3) (oi := ?oi4) (v := ?v4) ?hi4 (by kernel_rfl) (by kernel_rfl) (by kernel_rfl) ?hQ4 (Or.inl ⟨?hw4, ?hy4⟩) (by assumption) ?hr4
        case hi4 => simp only [List.getElem?_toArray, List.getElem?_cons_succ, List.getElem?_cons_zero]; rfl
        case hQ4 => exact fun _ _ _ h => h
        case hw4 => rfl
        case hy4 => intro w hSw; (try dsimp only at hSw); go_simp; (try with_reducible rfl)
        case hr4 =>
        simp only [Act.put, List.setIfInBounds_toArray, List.set_cons_zero, List.set_cons_succ]
        refine wpAnyH_take (i := 4) (oi := ?oi5) (v := ?v5) ?hi5 (by kernel_rfl) (by kernel_rfl) (by kernel_rfl) ?hQ5 (Or.inl ⟨?hw5, ?hy5⟩) (by assumption) ?hr5
        case hi5 => simp only [List.getElem?_toArray, List.getElem?_cons_succ, List.getElem?_cons_zero]; rfl
        case hQ5 => exact fun _ _ _ h => h
        case hw5 => rfl
        case hy5 => intro w hSw; (try dsimp only at hSw); go_simp; (try with_reducible rfl)
        case hr5 =>
        simp only [Act.put, List.setIfInBounds_toArray, List.set_cons_zero, List.set_cons_succ]
        refine wpAnyH_take (i := 5) (oi := ?oi6) (v := ?v6) ?hi6 (by kernel_rfl) (by kernel_rfl) (by kernel_rfl) ?hQ6 (Or.inl ⟨?hw6, ?hy6⟩) (by assumption) ?hr6
        case hi6 => simp only [List.getElem?_toArray, List.getElem?_cons_succ, List.getElem?_cons_zero]; rfl
        case hQ6 => exact fun _ _ _ h => h
        case hw6 => rfl
        case hy6 => intro w hSw; (try dsimp only at hSw); go_simp; (try with_reducible rfl)
        case hr6 =>
        simp only [Act.put, List.setIfInBounds_toArray, List.set_cons_zero, List.set_cons_succ]
        refine wpAnyH_take (i := 6) (oi := ?oi7) (v := ?v7) ?hi7 (by kernel_rfl) (by kernel_rfl) (by kernel_rfl) ?hQ7 (Or.inl ⟨?hw7, ?hy7⟩) (by assumption) ?hr7
        case hi7 => simp only [List.getElem?_toArray, List.getElem?_cons_succ, List.getElem?_cons_zero]; rfl
        case hQ7 => exact fun _ _ _ h => h
        case hw7 => rfl
        case hy7 => intro w hSw; (try dsimp only at hSw); go_simp; (try with_reducible rfl)
        case hr7 =>
        simp only [Act.put, List.setIfInBounds_toArray, List.set_cons_zero, List.set_cons_succ]
        refine wpAnyH_take (i := 7) (oi := ?oi8) (v := ?v8) ?hi8 (by kernel_rfl) (by kernel_rfl) (by kernel_rfl) ?hQ8 (Or.inl ⟨?hw8, ?hy8⟩) (by assumption) ?hr8
        case hi8 => simp only [List.getElem?_toArray, List.getElem?_cons_succ, List.getElem?_cons_zero]; rfl
        case hQ8 => exact fun _ _ _ h => h
        case hw8 => rfl
        case hy8 => intro w hSw; (try dsimp only at hSw); go_simp; (try with_reducible rfl)
        case hr8 =>
        simp only [Act.put, List.setIfInBounds_toArray, List.set_cons_zero, List.set_cons_succ]
        refine wpAnyH_take (i := 9) (oi := ?oi9) (v := ?v9) ?hi9 (by kernel_rfl) (by kernel_rfl) (by kernel_rfl) ?hQ9 (Or.inl ⟨?hw9, ?hy9⟩) (by assumption) ?hr9
        case hi9 => simp only [List.getElem?_toArray, List.getElem?_cons_succ, List.getElem?_cons_zero]; rfl
        case hQ9 => exact fun _ _ _ h => h
        case hw9 => rfl
        case hy9 => intro w hSw; (try dsimp only at hSw); go_simp; (try with_reducible rfl)
        case hr9 =>
        simp only [Act.put, List.setIfInBounds_toArray, List.set_cons_zero, List.set_cons_succ]
        refine wpAnyH_take (i := 10) (oi := ?oi10) (v := ?v10) ?hi10 (by kernel_rfl) (by kernel_rfl) (by kernel_rfl) ?hQ10 (Or.inl ⟨?hw10, ?hy10⟩) (by assumption) ?hr10
        case hi10 => simp only [List.getElem?_toArray, List.getElem?_cons_succ, List.getElem?_cons_zero]; rfl
        case hQ10 => exact fun _ _ _ h => h
        case hw10 => rfl
        case hy10 => intro w hSw; (try dsimp only at hSw); go_simp; (try with_reducible rfl)
        case hr10 =>
        simp only [Act.put, List.setIfInBounds_toArray, List.set_cons_zero, List.set_cons_succ]
        refine wpAnyH_take (i := 11) (oi := ?oi11) (v := ?v11) ?hi11 (by kernel_rfl) (by kernel_rfl) (by kernel_rfl) ?hQ11 (Or.inl ⟨?hw11, ?hy11⟩) (by assumption) ?hr11
        case hi11 => simp only [List.getElem?_toArray, List.getElem?_cons_succ, List.getElem?_cons_zero]; rfl
        case hQ11 => exact fun _ _ _ h => h
        case hw11 => rfl
        case hy11 => intro w hSw; (try dsimp only at hSw); go_simp; (try with_reducible rfl)
        case hr11 =>
        simp only [Act.put, List.setIfInBounds_toArray, List.set_cons_zero, List.set_cons_succ]
        refine wpAnyH_take (i := 12) (oi := ?oi12) (v := ?v12) ?hi12 (by kernel_rfl) (by kernel_rfl) (by kernel_rfl) ?hQ12 (Or.inl ⟨?hw12, ?hy12⟩) (by assumption) ?hr12
        case hi12 => simp only [List.getElem?_toArray, List.getElem?_cons_succ, List.getElem?_cons_zero]; rfl
        case hQ12 => exact fun _ _ _ h => h
        case hw12 => rfl
        case hy12 => intro w hSw; (try dsimp only at hSw); go_simp; (try with_reducible rfl)
        case hr12 =>
        simp only [Act.put, List.setIfInBounds_toArray, List.set_cons_zero, List.set_cons_succ]
        refine wpAnyH_take (i := 13) (oi := ?oi13) (v := ?v13) ?hi13 (by kernel_rfl) (by kernel_rfl) (by kernel_rfl) ?hQ13 (Or.inl ⟨?hw13, ?hy13⟩) (by assumption) ?hr13
        case hi13 => simp only [List.getElem?_toArray, List.getElem?_cons_succ, List.getElem?_cons_zero]; rfl
        case hQ13 => exact fun _ _ _ h => h
        case hw13 => rfl
        case hy13 => intro w hSw; (try dsimp only at hSw); go_simp; (try with_reducible rfl)
        case hr13 =>
        simp only [Act.put, List.setIfInBounds_toArray, List.set_cons_zero, List.set_cons_succ]
        refine wpAnyH_take (i := 14) (oi := ?oi14) (v := ?v14) ?hi14 (by kernel_rfl) (by kernel_rfl) (by kernel_rfl) ?hQ14 (Or.inl ⟨?hw14, ?hy14⟩) (by assumption) ?hr14
        case hi14 => simp only [List.getElem?_toArray, List.getElem?_cons_succ, List.getElem?_cons_zero]; rfl
        case hQ14 => exact fun _ _ _ h => h
        case hw14 => rfl
        case hy14 => intro w hSw; (try dsimp only at hSw); go_simp; (try with_reducible rfl)
        case hr14 =>
        simp only [Act.put, List.setIfInBounds_toArray, List.set_cons_zero, List.set_cons_succ]
        refine wpAnyH_take (i := 15) (oi := ?oi15) (v := ?v15) ?hi15 (by kernel_rfl) (by kernel_rfl) (by kernel_rfl) ?hQ15 (Or.inl ⟨?hw15, ?hy15⟩) (by assumption) ?hr15
        case hi15 => simp only [List.getElem?_toArray, List.getElem?_cons_succ, List.getElem?_cons_zero]; rfl
        case hQ15 => exact fun _ _ _ h => h
        case hw15 => rfl
        case hy15 => intro w hSw; (try dsimp only at hSw); go_simp; (try with_reducible rfl)
        case hr15 =>
        simp only [Act.put, List.setIfInBounds_toArray, List.set_cons_zero, List.set_cons_succ]
        refine wpAnyH_take (i := 16) (oi := ?oi16) (v := ?v16) ?hi16 (by kernel_rfl) (by kernel_rfl) (by kernel_rfl) ?hQ16 (Or.inl ⟨?hw16, ?hy16⟩) (by assumption) ?hr16
        case hi16 => simp only [List.getElem?_toArray, List.getElem?_cons_succ, List.getElem?_cons_zero]; rfl
        case hQ16 => exact fun _ _ _ h => h
        case hw16 => rfl
        case hy16 => intro w hSw; (try dsimp only at hSw); go_simp; (try with_reducible rfl)
        case hr16 =>
        simp only [Act.put, List.setIfInBounds_toArray, List.set_cons_zero, List.set_cons_succ]
        refine wpAnyH_take (i := 17) (oi := ?oi17) (v := ?v17) ?hi17 (by kernel_rfl) (by kernel_rfl) (by kernel_rfl) ?hQ17 (Or.inl ⟨?hw17, ?hy17⟩) (by assumption) ?hr17
        case hi17 => simp only [List.getElem?_toArray, List.getElem?_cons_succ, List.getElem?_cons_zero]; rfl
        case hQ17 => exact fun _ _ _ h => h
        case hw17 => rfl
        case hy17 => intro w hSw; (try dsimp only at hSw); go_simp; (try with_reducible rfl)
        case hr17 =>
        simp only [Act.put, List.setIfInBounds_toArray, List.set_cons_zero, List.set_cons_succ]
        refine wpAnyH_ready (rs := [8, 19]) (by kernel_rfl) (by simp) (AllReadyH.cons (o := ?ocA) ?hcA (fun K hK => ?hsA) (AllReadyH.cons (o := ?ocB) ?hcB (fun K hK => ?hsB) AllReadyH.nil))
        case hcA => simp only [List.getElem?_toArray, List.getElem?_cons_succ, List.getElem?_cons_zero] <;> rfl
        case hcB => simp only [List.getElem?_toArray, List.getElem?_cons_succ, List.getElem?_cons_zero] <;> rfl
        case hsA =>
          rw [if_pos (by rfl)]
          go_simp
          go_at_call 37; refine (HLK.out _ (HK3.out.trans ((Chg.refl _ _).drew))).mono ?_; rintro e w5 ⟨rfl, hw5⟩; obtain rfl := hw5.symm
          go_wp2_with fail
          refine hK.out _ _ ?_ (fun hHeld => ?_)
          · exact hHeld
          clear hK K
          try simp only [Act.put, List.setIfInBounds_toArray, List.set_cons_zero, List.set_cons_succ]
          refine wpAnyH_take (i := 18) (oi := ?oi18) (v := ?v18) ?hi18 (by kernel_rfl) (by kernel_rfl) (by kernel_rfl) ?hQ18 (Or.inl ⟨?hw18, ?hy18⟩) (by assumption) ?hr18
          case hi18 => simp only [List.getElem?_toArray, List.getElem?_cons_succ, List.getElem?_cons_zero]; rfl
          case hQ18 => exact fun _ _ _ h => h
          case hw18 => rfl
          case hy18 => intro w hSw; (try dsimp only at hSw); go_simp; (try with_reducible rfl)
          case hr18 =>
          simp only [Act.put, List.setIfInBounds_toArray, List.set_cons_zero, List.set_cons_succ]
          refine wpAnyH_ready (rs := [19]) (by kernel_rfl) (by simp) (AllReadyH.cons (o := ?oc19) ?hc19 (fun K hK => ?hs19) AllReadyH.nil)
          case hc19 => simp only [List.getElem?_toArray, List.getElem?_cons_succ, List.getElem?_cons_zero]; rfl
          case hs19 =>
          rw [if_pos (by rfl)]
          go_simp
          
          go_wp2_with fail
          refine hK.out _ _ ?_ (fun hHeld => ?_)
          · exact HG.out _ ((Chg.refl _ _).drew.alloc _)
          clear hK K
          try simp only [Act.put, List.setIfInBounds_toArray, List.set_cons_zero, List.set_cons_succ]
          refine wpAnyH_ready (rs := [20]) (by kernel_rfl) (by simp) (AllReadyH.cons (o := ?oc20) ?hc20 (fun K hK => ?hs20) AllReadyH.nil)
          case hc20 => simp only [List.getElem?_toArray, List.getElem?_cons_succ, List.getElem?_cons_zero]; rfl
          case hs20 =>
          rw [if_pos (by rfl)]
          go_simp
          
          go_wp2_with fail
          refine hK.out _ _ ?_ (fun hHeld => ?_)
          · exact HG.out _ ((Chg.refl _ _).drew.alloc _)
          clear hK K
          try simp only [Act.put, List.setIfInBounds_toArray, List.set_cons_zero, List.set_cons_succ]
          refine wpAnyH_done (by kernel_rfl) ?_ _
          go_wp2_with fail
          go_meet
          exact ⟨W3.heap.size, rfl, heap_alloc_new _ _, ((Chg.refl _ _).alloc _).drew⟩
        case hsB =>
          rw [if_pos (by rfl)]
          go_simp
          go_wp2_with fail
          refine hK.out _ _ ?_ (fun hHeld => ?_)
          · exact HG.out _ ((Chg.refl _ _).drew.alloc _)
          clear hK K
          try simp only [Act.put, List.setIfInBounds_toArray, List.set_cons_zero, List.set_cons_succ]
          refine wpAnyH_ready (rs := [8]) (by kernel_rfl) (by simp) (AllReadyH.cons (o := ?oc21) ?hc21 (fun K hK => ?hs21) AllReadyH.nil)
          case hc21 => simp only [List.getElem?_toArray, List.getElem?_cons_succ, List.getElem?_cons_zero]; rfl
          case hs21 =>
          rw [if_pos (by rfl)]
          go_simp
          go_at_call 37; refine (HLK.out _ (HK3.out.trans ((Chg.refl _ _).drew.alloc _))).mono ?_; rintro e w5 ⟨rfl, hw5⟩; obtain rfl := hw5.symm
          go_wp2_with fail
          refine hK.out _ _ ?_ (fun hHeld => ?_)
          · exact hHeld
          clear hK K
          try simp only [Act.put, List.setIfInBounds_toArray, List.set_cons_zero, List.set_cons_succ]
          refine wpAnyH_take (i := 18) (oi := ?oi22) (v := ?v22) ?hi22 (by kernel_rfl) (by kernel_rfl) (by kernel_rfl) ?hQ22 (Or.inl ⟨?hw22, ?hy22⟩) (by assumption) ?hr22
          case hi22 => simp only [List.getElem?_toArray, List.getElem?_cons_succ, List.getElem?_cons_zero]; rfl
          case hQ22 => exact fun _ _ _ h => h
          case hw22 => rfl
          case hy22 => intro w hSw; (try dsimp only at hSw); go_simp; (try with_reducible rfl)
          case hr22 =>
          simp only [Act.put, List.setIfInBounds_toArray, List.set_cons_zero, List.set_cons_succ]
          refine wpAnyH_ready (rs := [20]) (by kernel_rfl) (by simp) (AllReadyH.cons (o := ?oc23) ?hc23 (fun K hK => ?hs23) AllReadyH.nil)
          case hc23 => simp only [List.getElem?_toArray, List.getElem?_cons_succ, List.getElem?_cons_zero]; rfl
          case hs23 =>
          rw [if_pos (by rfl)]
          go_simp
          
          go_wp2_with fail
          refine hK.out _ _ ?_ (fun hHeld => ?_)
          · exact HG.out _ ((Chg.refl _ _).drew.alloc _)
          clear hK K
          try simp only [Act.put, List.setIfInBounds_toArray, List.set_cons_zero, List.set_cons_succ]
          refine wpAnyH_done (by kernel_rfl) ?_ _
          go_wp2_with fail
          go_meet
          exact ⟨W3.heap.size, rfl, heap_alloc_new _ _, ((Chg.refl _ _).alloc _).drew⟩
      case rest =>
        obtain ⟨g13, rfl, h13, k13⟩ := hcut
        have HKC := Lib.hid (HK3.out.trans k13)
        have hE := k13.heap HE3.out (by simp)
        have h12 := k13.heap HE4.out (by simp)
        have v1 := conv wc _ ba2 D bc XD HD.out (HBR.out.chg (S := []) (HKS.out.trans k13) (by simp))
        have v2 := conv wc _ da D dc XD HD.out (HRW.out.chg (S := []) HKC.out (by simp))
        have d0 := cell_heap hE 0 rfl
        have d1 := cell_heap hE 1 rfl
        have d2 := cell_heap hE 2 rfl
        have d3 := cell_heap hE 3 rfl
        have d4 := cell_heap hE 4 rfl
        have d5 := cell_heap hE 5 rfl
        have d6 := cell_heap hE 6 rfl
        have d7 := cell_heap hE 7 rfl
        have b0 := cell_heap h13 0 rfl
        have b1 := cell_heap h13 1 rfl
        have b2 := cell_heap h13 2 rfl
        have b3 := cell_heap h13 3 rfl
        have b4 := cell_heap h13 4 rfl
        have b5 := cell_heap h13 5 rfl
        have b6 := cell_heap h13 6 rfl
        have b7 := cell_heap h13 7 rfl
        have n0 := cell_heap h12 0 rfl
        have n1 := cell_heap h12 1 rfl
        have n2 := cell_heap h12 2 rfl
        have n3 := cell_heap h12 3 rfl
        have n4 := cell_heap h12 4 rfl
        have n5 := cell_heap h12 5 rfl
        have n6 := cell_heap h12 6 rfl
        clear hE h13 h12 k13
        go_wp2_with fail
        go_ret
        exact ⟨rfl, HKC.out⟩
    · have hre : readE σ p = 8 := by rw [HRE.out, if_neg hK]
      have hKb : (K == 1) = false := by simpa using hK
      have hKn : (K != 1) = true := by simpa using hK
      have HRE0 := Lib.hid hre
      clear hre HRE
      go_upto_region 3 with (go_at_call 35; refine (HRD.out _ HK1.out).mono ?_; rintro e w2 hra; have hra2 := hra.1 (by rw [HRE0.out]; decide); rw [HRE0.out] at hra2; obtain ⟨rfl, k2⟩ := hra2; have HK2 := Lib.hid (HK1.out.trans k2); have HE2 := Lib.hid (k2.heap HE1.out (by simp)); clear hra k2)
      go_upto_region 6 with (go_at_call 36; refine (HFI.out _ HK2.out).mono ?_; rintro e w3 ⟨rfl, hw3⟩; obtain rfl := hw3.symm)
      obtain ⟨c3, p0, p1, p2, p3, p4, p5, p6⟩ := HQ.out w2 HK2.out
      go_upto_region 7 with (fail)
      have e12 := heap_alloc_new w2 (.cells #[.int .i64 K, .int .i64 M, .int .i64 N, .slice da D dc, .string T, .int .i64 U, .int .i64 Y] 76)
      have k12 : Chg [] w2 (w2.alloc (.cells #[.int .i64 K, .int .i64 M, .int .i64 N, .slice da D dc, .string T, .int .i64 U, .int .i64 Y] 76)) := (Chg.refl _ _).alloc _
      have HK3 := Lib.hid (HK2.out.trans k12)
      have HKS := Lib.hid k12
      have HE3 := Lib.hid (k12.heap HE2.out (by simp))
      clear c3 p0 p1 p2 p3 p4 p5 p6 k12
      generalize w2.alloc (.cells #[.int .i64 K, .int .i64 M, .int .i64 N, .slice da D dc, .string T, .int .i64 U, .int .i64 Y] 76) = W3 at *
      generalize w2.heap.size = g12 at *
      have HE4 := Lib.hid e12
      clear e12
      have HG := Lib.hid (fun W (k : Chg [] W3 W) => And.intro (k.cell (cell_heap HE4.out 0 rfl) (by simp)) (And.intro (k.cell (cell_heap HE4.out 1 rfl) (by simp)) (And.intro (k.cell (cell_heap HE4.out 2 rfl) (by simp)) (And.intro (k.cell (cell_heap HE4.out 3 rfl) (by simp)) (And.intro (k.cell (cell_heap HE4.out 4 rfl) (by simp)) (And.intro (k.cell (cell_heap HE4.out 5 rfl) (by simp)) (k.cell (cell_heap HE4.out 6 rfl) (by simp))))))))
      go_cut [13] (fun t wx => ∃ g13, t = .pointer (some ⟨g13, 0, none⟩) ∧ wx.heap[g13]? = some (.cells #[.int .i64 K, .int .i64 M, .int .i64 N, .int .i64 (LK : Nat), .int .i64 (D : Nat), .string T, .int .i64 U, .int .i64 Y] 52 (0, 0)) ∧ Chg [] W3 wx)
      case first =>
        refine wp_region_held_drew (S := fun q => q.cell? ⟨g12, 0, none⟩ = some (.int .i64 K) ∧ q.cell? ⟨g12, 1, none⟩ = some (.int .i64 M) ∧ q.cell? ⟨g12, 2, none⟩ = some (.int .i64 N) ∧ q.cell? ⟨g12, 3, none⟩ = some (.slice da D dc) ∧ q.cell? ⟨g12, 4, none⟩ = some (.string T) ∧ q.cell? ⟨g12, 5, none⟩ = some (.int .i64 U) ∧ q.cell? ⟨g12, 6, none⟩ = some (.int .i64 Y)) (by kernel_rfl) ?_ (fun hHeld => ?_)
        · exact HG.out _ ((Chg.refl _ _).drew)
        refine wpAnyH_take (i := 0) (oi := ?oi24) (v := ?v24) ?hi24 (by kernel_rfl) (by kernel_rfl) (by kernel_rfl) ?hQ24 (Or.inl ⟨?hw24, ?hy24⟩) (by assumption) ?hr24
        case hi24 => simp only [List.getElem?_toArray, List.getElem?_cons_zero]; rfl
        case hQ24 => exact fun _ _ _ h => h
        case hw24 => rfl
        case hy24 => intro w hSw; (try dsimp only at hSw); go_simp; (try with_reducible rfl)
        case hr24 =>
        simp only [Act.put, List.setIfInBounds_toArray, List.set_cons_zero, List.set_cons_succ]
        refine wpAnyH_take (i := 1) (oi := ?oi25) (v := ?v25) ?hi25 (by kernel_rfl) (by kernel_rfl) (by kernel_rfl) ?hQ25 (Or.inl ⟨?hw25, ?hy25⟩) (by assumption) ?hr25
        case hi25 => simp only [List.getElem?_toArray, List.getElem?_cons_succ, List.getElem?_cons_zero]; rfl
        case hQ25 => exact fun _ _ _ h => h
        case hw25 => rfl
        case hy25 => intro w hSw; (try dsimp only at hSw); go_simp; (try with_reducible rfl)
        case hr25 =>
        simp only [Act.put, List.setIfInBounds_toArray, List.set_cons_zero, List.set_cons_succ]
        refine wpAnyH_take (i := 2) (oi := ?oi26) (v := ?v26) ?hi26 (by kernel_rfl) (by kernel_rfl) (by kernel_rfl) ?hQ26 (Or.inl ⟨?hw26, ?hy26⟩) (by assumption) ?hr26
        case hi26 => simp only [List.getElem?_toArray, List.getElem?_cons_succ, List.getElem?_cons_zero]; rfl
        case hQ26 => exact fun _ _ _ h => h
        case hw26 => rfl
        case hy26 => intro w hSw; (try dsimp only at hSw); go_simp; (try with_reducible rfl)
        case hr26 =>
        simp only [Act.put, List.setIfInBounds_toArray, List.set_cons_zero, List.set_cons_succ]
        refine wpAnyH_take (i := 3) (oi := ?oi27) (v := ?v27) ?hi27 (by kernel_rfl) (by kernel_rfl) (by kernel_rfl) ?hQ27 (Or.inl ⟨?hw27, ?hy27⟩) (by assumption) ?hr27
        case hi27 => simp only [List.getElem?_toArray, List.getElem?_cons_succ, List.getElem?_cons_zero]; rfl
        case hQ27 => exact fun _ _ _ h => h
        case hw27 => rfl
        case hy27 => intro w hSw; (try dsimp only at hSw); go_simp; (try with_reducible rfl)
        case hr27 =>
        simp only [Act.put, List.setIfInBounds_toArray, List.set_cons_zero, List.set_cons_succ]
        refine wpAnyH_take (i := 4) (oi := ?oi28) (v := ?v28) ?hi28 (by kernel_rfl) (by kernel_rfl) (by kernel_rfl) ?hQ28 (Or.inl ⟨?hw28, ?hy28⟩) (by assumption) ?hr28
        case hi28 => simp only [List.getElem?_toArray, List.getElem?_cons_succ, List.getElem?_cons_zero]; rfl
        case hQ28 => exact fun _ _ _ h => h
        case hw28 => rfl
        case hy28 => intro w hSw; (try dsimp only at hSw); go_simp; (try with_reducible rfl)
        case hr28 =>
        simp only [Act.put, List.setIfInBounds_toArray, List.set_cons_zero, List.set_cons_succ]
        refine wpAnyH_take (i := 5) (oi := ?oi29) (v := ?v29) ?hi29 (by kernel_rfl) (by kernel_rfl) (by kernel_rfl) ?hQ29 (Or.inl ⟨?hw29, ?hy29⟩) (by assumption) ?hr29
        case hi29 => simp only [List.getElem?_toArray, List.getElem?_cons_succ, List.getElem?_cons_zero]; rfl
        case hQ29 => exact fun _ _ _ h => h
        case hw29 => rfl
        case hy29 => intro w hSw; (try dsimp only at hSw); go_simp; (try with_reducible rfl)
        case hr29 =>
        simp only [Act.put, List.setIfInBounds_toArray, List.set_cons_zero, List.set_cons_succ]
        refine wpAnyH_take (i := 6) (oi := ?oi30) (v := ?v30) ?hi30 (by kernel_rfl) (by kernel_rfl) (by kernel_rfl) ?hQ30 (Or.inl ⟨?hw30, ?hy30⟩) (by assumption) ?hr30
        case hi30 => simp only [List.getElem?_toArray, List.getElem?_cons_succ, List.getElem?_cons_zero]; rfl
        case hQ30 => exact fun _ _ _ h => h
        case hw30 => rfl
        case hy30 => intro w hSw; (try dsimp only at hSw); go_simp; (try with_reducible rfl)
        case hr30 =>
        simp only [Act.put, List.setIfInBounds_toArray, List.set_cons_zero, List.set_cons_succ]
        refine wpAnyH_take (i := 7) (oi := ?oi31) (v := ?v31) ?hi31 (by kernel_rfl) (by kernel_rfl) (by kernel_rfl) ?hQ31 (Or.inl ⟨?hw31, ?hy31⟩) (by assumption) ?hr31
        case hi31 => simp only [List.getElem?_toArray, List.getElem?_cons_succ, List.getElem?_cons_zero]; rfl
        case hQ31 => exact fun _ _ _ h => h
        case hw31 => rfl
        case hy31 => intro w hSw; (try dsimp only at hSw); go_simp; (try with_reducible rfl)
        case hr31 =>
        simp only [Act.put, List.setIfInBounds_toArray, List.set_cons_zero, List.set_cons_succ]
        refine wpAnyH_take (i := 9) (oi := ?oi32) (v := ?v32) ?hi32 (by kernel_rfl) (by kernel_rfl) (by kernel_rfl) ?hQ32 (Or.inl ⟨?hw32, ?hy32⟩) (by assumption) ?hr32
        case hi32 => simp only [List.getElem?_toArray, List.getElem?_cons_succ, List.getElem?_cons_zero]; rfl
        case hQ32 => exact fun _ _ _ h => h
        case hw32 => rfl
        case hy32 => intro w hSw; (try dsimp only at hSw); go_simp; (try with_reducible rfl)
        case hr32 =>
        simp only [Act.put, List.setIfInBounds_toArray, List.set_cons_zero, List.set_cons_succ]
        refine wpAnyH_take (i := 10) (oi := ?oi33) (v := ?v33) ?hi33 (by kernel_rfl) (by kernel_rfl) (by kernel_rfl) ?hQ33 (Or.inl ⟨?hw33, ?hy33⟩) (by assumption) ?hr33
        case hi33 => simp only [List.getElem?_toArray, List.getElem?_cons_succ, List.getElem?_cons_zero]; rfl
        case hQ33 => exact fun _ _ _ h => h
        case hw33 => rfl
        case hy33 => intro w hSw; (try dsimp only at hSw); go_simp; (try with_reducible rfl)
        case hr33 =>
        simp only [Act.put, List.setIfInBounds_toArray, List.set_cons_zero, List.set_cons_succ]
        refine wpAnyH_take (i := 11) (oi := ?oi34) (v := ?v34) ?hi34 (by kernel_rfl) (by kernel_rfl) (by kernel_rfl) ?hQ34 (Or.inl ⟨?hw34, ?hy34⟩) (by assumption) ?hr34
        case hi34 => simp only [List.getElem?_toArray, List.getElem?_cons_succ, List.getElem?_cons_zero]; rfl
        case hQ34 => exact fun _ _ _ h => h
        case hw34 => rfl
        case hy34 => intro w hSw; (try dsimp only at hSw); go_simp; (try with_reducible rfl)
        case hr34 =>
        simp only [Act.put, List.setIfInBounds_toArray, List.set_cons_zero, List.set_cons_succ]
        refine wpAnyH_take (i := 12) (oi := ?oi35) (v := ?v35) ?hi35 (by kernel_rfl) (by kernel_rfl) (by kernel_rfl) ?hQ35 (Or.inl ⟨?hw35, ?hy35⟩) (by assumption) ?hr35
        case hi35 => simp only [List.getElem?_toArray, List.getElem?_cons_succ, List.getElem?_cons_zero]; rfl
        case hQ35 => exact fun _ _ _ h => h
        case hw35 => rfl
        case hy35 => intro w hSw; (try dsimp only at hSw); go_simp; (try with_reducible rfl)
        case hr35 =>
        simp only [Act.put, List.setIfInBounds_toArray, List.set_cons_zero, List.set_cons_succ]
        refine wpAnyH_take (i := 13) (oi := ?oi36) (v := ?v36) ?hi36 (by kernel_rfl) (by kernel_rfl) (by kernel_rfl) ?hQ36 (Or.inl ⟨?hw36, ?hy36⟩) (by assumption) ?hr36
        case hi36 => simp only [List.getElem?_toArray, List.getElem?_cons_succ, List.getElem?_cons_zero]; rfl
        case hQ36 => exact fun _ _ _ h => h
        case hw36 => rfl
        case hy36 => intro w hSw; (try dsimp only at hSw); go_simp; (try with_reducible rfl)
        case hr36 =>
        simp only [Act.put, List.setIfInBounds_toArray, List.set_cons_zero, List.set_cons_succ]
        refine wpAnyH_take (i := 14) (oi := ?oi37) (v := ?v37) ?hi37 (by kernel_rfl) (by kernel_rfl) (by kernel_rfl) ?hQ37 (Or.inl ⟨?hw37, ?hy37⟩) (by assumption) ?hr37
        case hi37 => simp only [List.getElem?_toArray, List.getElem?_cons_succ, List.getElem?_cons_zero]; rfl
        case hQ37 => exact fun _ _ _ h => h
        case hw37 => rfl
        case hy37 => intro w hSw; (try dsimp only at hSw); go_simp; (try with_reducible rfl)
        case hr37 =>
        simp only [Act.put, List.setIfInBounds_toArray, List.set_cons_zero, List.set_cons_succ]
        refine wpAnyH_take (i := 15) (oi := ?oi38) (v := ?v38) ?hi38 (by kernel_rfl) (by kernel_rfl) (by kernel_rfl) ?hQ38 (Or.inl ⟨?hw38, ?hy38⟩) (by assumption) ?hr38
        case hi38 => simp only [List.getElem?_toArray, List.getElem?_cons_succ, List.getElem?_cons_zero]; rfl
        case hQ38 => exact fun _ _ _ h => h
        case hw38 => rfl
        case hy38 => intro w hSw; (try dsimp only at hSw); go_simp; (try with_reducible rfl)
        case hr38 =>
        simp only [Act.put, List.setIfInBounds_toArray, List.set_cons_zero, List.set_cons_succ]
        refine wpAnyH_take (i := 16) (oi := ?oi39) (v := ?v39) ?hi39 (by kernel_rfl) (by kernel_rfl) (by kernel_rfl) ?hQ39 (Or.inl ⟨?hw39, ?hy39⟩) (by assumption) ?hr39
        case hi39 => simp only [List.getElem?_toArray, List.getElem?_cons_succ, List.getElem?_cons_zero]; rfl
        case hQ39 => exact fun _ _ _ h => h
        case hw39 => rfl
        case hy39 => intro w hSw; (try dsimp only at hSw); go_simp; (try with_reducible rfl)
        case hr39 =>
        simp only [Act.put, List.setIfInBounds_toArray, List.set_cons_zero, List.set_cons_succ]
        refine wpAnyH_take (i := 17) (oi := ?oi40) (v := ?v40) ?hi40 (by kernel_rfl) (by kernel_rfl) (by kernel_rfl) ?hQ40 (Or.inl ⟨?hw40, ?hy40⟩) (by assumption) ?hr40
        case hi40 => simp only [List.getElem?_toArray, List.getElem?_cons_succ, List.getElem?_cons_zero]; rfl
        case hQ40 => exact fun _ _ _ h => h
        case hw40 => rfl
        case hy40 => intro w hSw; (try dsimp only at hSw); go_simp; (try with_reducible rfl)
        case hr40 =>
        simp only [Act.put, List.setIfInBounds_toArray, List.set_cons_zero, List.set_cons_succ]
        refine wpAnyH_ready (rs := [8, 19]) (by kernel_rfl) (by simp) (AllReadyH.cons (o := ?ocA) ?hcA (fun K hK => ?hsA) (AllReadyH.cons (o := ?ocB) ?hcB (fun K hK => ?hsB) AllReadyH.nil))
        case hcA => simp only [List.getElem?_toArray, List.getElem?_cons_succ, List.getElem?_cons_zero] <;> rfl
        case hcB => simp only [List.getElem?_toArray, List.getElem?_cons_succ, List.getElem?_cons_zero] <;> rfl
        case hsA =>
          rw [if_pos (by rfl)]
          go_simp
          go_at_call 37; refine (HLK.out _ (HK3.out.trans ((Chg.refl _ _).drew))).mono ?_; rintro e w5 ⟨rfl, hw5⟩; obtain rfl := hw5.symm
          go_wp2_with fail
          refine hK.out _ _ ?_ (fun hHeld => ?_)
          · exact hHeld
          clear hK K
          try simp only [Act.put, List.setIfInBounds_toArray, List.set_cons_zero, List.set_cons_succ]
          refine wpAnyH_take (i := 18) (oi := ?oi41) (v := ?v41) ?hi41 (by kernel_rfl) (by kernel_rfl) (by kernel_rfl) ?hQ41 (Or.inl ⟨?hw41, ?hy41⟩) (by assumption) ?hr41
          case hi41 => simp only [List.getElem?_toArray, List.getElem?_cons_succ, List.getElem?_cons_zero]; rfl
          case hQ41 => exact fun _ _ _ h => h
          case hw41 => rfl
          case hy41 => intro w hSw; (try dsimp only at hSw); go_simp; (try with_reducible rfl)
          case hr41 =>
          simp only [Act.put, List.setIfInBounds_toArray, List.set_cons_zero, List.set_cons_succ]
          refine wpAnyH_ready (rs := [19]) (by kernel_rfl) (by simp) (AllReadyH.cons (o := ?oc42) ?hc42 (fun K hK => ?hs42) AllReadyH.nil)
          case hc42 => simp only [List.getElem?_toArray, List.getElem?_cons_succ, List.getElem?_cons_zero]; rfl
          case hs42 =>
          rw [if_pos (by rfl)]
          go_simp
          
          go_wp2_with fail
          refine hK.out _ _ ?_ (fun hHeld => ?_)
          · exact HG.out _ ((Chg.refl _ _).drew.alloc _)
          clear hK K
          try simp only [Act.put, List.setIfInBounds_toArray, List.set_cons_zero, List.set_cons_succ]
          refine wpAnyH_ready (rs := [20]) (by kernel_rfl) (by simp) (AllReadyH.cons (o := ?oc43) ?hc43 (fun K hK => ?hs43) AllReadyH.nil)
          case hc43 => simp only [List.getElem?_toArray, List.getElem?_cons_succ, List.getElem?_cons_zero]; rfl
          case hs43 =>
          rw [if_pos (by rfl)]
          go_simp
          
          go_wp2_with fail
          refine hK.out _ _ ?_ (fun hHeld => ?_)
          · exact HG.out _ ((Chg.refl _ _).drew.alloc _)
          clear hK K
          try simp only [Act.put, List.setIfInBounds_toArray, List.set_cons_zero, List.set_cons_succ]
          refine wpAnyH_done (by kernel_rfl) ?_ _
          go_wp2_with fail
          go_meet
          exact ⟨W3.heap.size, rfl, heap_alloc_new _ _, ((Chg.refl _ _).alloc _).drew⟩
        case hsB =>
          rw [if_pos (by rfl)]
          go_simp
          go_wp2_with fail
          refine hK.out _ _ ?_ (fun hHeld => ?_)
          · exact HG.out _ ((Chg.refl _ _).drew.alloc _)
          clear hK K
          try simp only [Act.put, List.setIfInBounds_toArray, List.set_cons_zero, List.set_cons_succ]
          refine wpAnyH_ready (rs := [8]) (by kernel_rfl) (by simp) (AllReadyH.cons (o := ?oc44) ?hc44 (fun K hK => ?hs44) AllReadyH.nil)
          case hc44 => simp only [List.getElem?_toArray, List.getElem?_cons_succ, List.getElem?_cons_zero]; rfl
          case hs44 =>
          rw [if_pos (by rfl)]
          go_simp
          go_at_call 37; refine (HLK.out _ (HK3.out.trans ((Chg.refl _ _).drew.alloc _))).mono ?_; rintro e w5 ⟨rfl, hw5⟩; obtain rfl := hw5.symm
          go_wp2_with fail
          refine hK.out _ _ ?_ (fun hHeld => ?_)
          · exact hHeld
          clear hK K
          try simp only [Act.put, List.setIfInBounds_toArray, List.set_cons_zero, List.set_cons_succ]
          refine wpAnyH_take (i := 18) (oi := ?oi45) (v := ?v45) ?hi45 (by kernel_rfl) (by kernel_rfl) (by kernel_rfl) ?hQ45 (Or.inl ⟨?hw45, ?hy45⟩) (by assumption) ?hr45
          case hi45 => simp only [List.getElem?_toArray, List.getElem?_cons_succ, List.getElem?_cons_zero]; rfl
          case hQ45 => exact fun _ _ _ h => h
          case hw45 => rfl
          case hy45 => intro w hSw; (try dsimp only at hSw); go_simp; (try with_reducible rfl)
          case hr45 =>
          simp only [Act.put, List.setIfInBounds_toArray, List.set_cons_zero, List.set_cons_succ]
          refine wpAnyH_ready (rs := [20]) (by kernel_rfl) (by simp) (AllReadyH.cons (o := ?oc46) ?hc46 (fun K hK => ?hs46) AllReadyH.nil)
          case hc46 => simp only [List.getElem?_toArray, List.getElem?_cons_succ, List.getElem?_cons_zero]; rfl
          case hs46 =>
          rw [if_pos (by rfl)]
          go_simp
          
          go_wp2_with fail
          refine hK.out _ _ ?_ (fun hHeld => ?_)
          · exact HG.out _ ((Chg.refl _ _).drew.alloc _)
          clear hK K
          try simp only [Act.put, List.setIfInBounds_toArray, List.set_cons_zero, List.set_cons_succ]
          refine wpAnyH_done (by kernel_rfl) ?_ _
          go_wp2_with fail
          go_meet
          exact ⟨W3.heap.size, rfl, heap_alloc_new _ _, ((Chg.refl _ _).alloc _).drew⟩
      case rest =>
        obtain ⟨g13, rfl, h13, k13⟩ := hcut
        have HKC := Lib.hid (HK3.out.trans k13)
        have hE := k13.heap HE3.out (by simp)
        have h12 := k13.heap HE4.out (by simp)
        have d0 := cell_heap hE 0 rfl
        have d1 := cell_heap hE 1 rfl
        have d2 := cell_heap hE 2 rfl
        have d3 := cell_heap hE 3 rfl
        have d4 := cell_heap hE 4 rfl
        have d5 := cell_heap hE 5 rfl
        have d6 := cell_heap hE 6 rfl
        have d7 := cell_heap hE 7 rfl
        have b0 := cell_heap h13 0 rfl
        have b1 := cell_heap h13 1 rfl
        have b2 := cell_heap h13 2 rfl
        have b3 := cell_heap h13 3 rfl
        have b4 := cell_heap h13 4 rfl
        have b5 := cell_heap h13 5 rfl
        have b6 := cell_heap h13 6 rfl
        have b7 := cell_heap h13 7 rfl
        have n0 := cell_heap h12 0 rfl
        have n1 := cell_heap h12 1 rfl
        have n2 := cell_heap h12 2 rfl
        have n3 := cell_heap h12 3 rfl
        have n4 := cell_heap h12 4 rfl
        have n5 := cell_heap h12 5 rfl
        have n6 := cell_heap h12 6 rfl
        clear hE h13 h12 k13
        go_wp2_with fail
        go_ret
        exact ⟨rfl, HKC.out⟩
end Go.Proofs.YtoionaeimnmcbaaGreatDoor
