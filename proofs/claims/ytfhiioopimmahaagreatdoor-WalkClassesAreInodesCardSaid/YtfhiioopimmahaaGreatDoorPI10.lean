/- The reference's Make. Printed by wip/gen/genrmake.py. -/
import Derived.Test.YtfhiioopimmahaaGreatDoorPI09
namespace Go.Pax
open Go.RowKit
def makeRE (ρ : RFs) (p : Str) (kind mode : Int) (target : Str) : Int :=
  if checkP p ≠ 0 then checkP p else if mode < 0 ∨ 4095 < mode then 16 else if kind = 2 ∧ checkV target ≠ 0 then checkV target else placeR ρ p
def madeR (ρ : RFs) (p : Str) (kind mode : Int) (data : List UInt8) (target : Str) : RFs :=
  { ρ with inodes := ρ.inodes ++ [⟨kind, mode, ρ.first + (ρ.inodes.length : Int) * ρ.step, data, target, 0, 0⟩], paths := ρ.paths ++ [(p, ρ.inodes.length)] }
theorem mul_small {a b : Int} (h1 : 0 ≤ a) (h2 : a ≤ 10000) (h3 : 0 ≤ b) (h4 : b ≤ 1048576) : 0 ≤ a * b ∧ a * b ≤ 10485760000 :=
  ⟨Int.mul_nonneg h1 h3, Int.le_trans (Int.mul_le_mul_of_nonneg_right h2 h3) (by omega)⟩
end Go.Pax
namespace Go.Proofs.YtfhiioopimmahaaGreatDoor
open Go.RowKit Go.Pax Go.Shelf
theorem wp_append_at {P : Program} {w : World} {o : Oper} {a : Act} {K : Act → World → Prop} {Q : Exit → Act → World → Prop} (s x : Operand) (t : TypeId)
    (ho : o.op = .call { callee := .builtin .append, args := #[s, x], argTypes := #[t, t] })
    (base : Nat) (e : TypeId) (i : TypeInfo) (z : Value) (size bytes : Nat) (ht : P.underlying t = some (.slice e)) (hi : P.info? e = some i) (hz : i.zero = some z)
    (hsize : i.size = size) (hby : i.bytes = bytes) (hzs : z.cells.size = size) (hsz : 0 < size)
    (v : Value) (n : Nat) (xs : List Value) (hs : a.eval s = v) (hown : w.ownsRow base e size v n xs)
    (ad : Addr) (m c : Nat) (news : List Value) (hx : a.eval x = .slice (some ad) m c) (hl : news.length = m * size) (hnews : ∀ j u, news[j]? = some u → w.cell? (ad.add j) = some u) (h1 : ∀ u ∈ news, u.oneCell' = true)
    (h63 : n + m ≤ maxLen) (hbytes : (n + m) * bytes ≤ 140737488355328) (hbase : base ≤ w.heap.size)
    (h : ∀ v' w', w'.ownsRow base e size v' (n + m) (xs ++ news) → w.grownBy w' v.ownBlock → (v'.ownBlock = v.ownBlock ∨ v'.ownBlock = some w.heap.size) → K (a.put o.dst v') w') : o.wp P a w K Q := by
  obtain ⟨v', w', hr, h2, h3, h4, h5⟩ := run_append_own_at (P := P) w base t o.type e i z size bytes ht hi hz hsize hby hzs hsz v n xs hown ad m c news hl hnews h1 h63 hbytes hbase
  unfold Oper.wp execOp
  simp only [ho, resolve, invoke, builtin, Sem.run_bind, Sem.run_pure, Result.andThen_ok, List.map_toArray, List.map_cons, List.map_nil, hs, hx, hr]
  exact h v' w' h2 h3 h5
theorem node_one (w : World) (k m n : Int) (d : Value) (S : ByteArray) : ∀ j u, [Value.int .i64 k, .int .i64 m, .int .i64 n, d, .string S, .int .i64 0, .int .i64 0][j]? = some u → (w.alloc (.cells #[.int .i64 k, .int .i64 m, .int .i64 n, d, .string S, .int .i64 0, .int .i64 0] 116)).cell? ((⟨w.heap.size, 0, none⟩ : Addr).add j) = some u := by
  intro j u hj
  have hn := heap_alloc_new w (.cells #[.int .i64 k, .int .i64 m, .int .i64 n, d, .string S, .int .i64 0, .int .i64 0] 116)
  rw [add_at]
  exact cell_heap hn j (by simpa using hj)
theorem node_cells (k m n : Int) (a : Option Addr) (l c : Nat) (S : ByteArray) : ∀ u ∈ [Value.int .i64 k, .int .i64 m, .int .i64 n, .slice a l c, .string S, .int .i64 0, .int .i64 0], u.oneCell' = true := by
  intro u hu
  simp at hu
  rcases hu with rfl | rfl | rfl | rfl | rfl | rfl <;> rfl
/-- One file more. -/
theorem RIn.addNode {w w1 : World} {r : Nat} {O : List Nat} {ρ : RFs} {rv iv' pv v' dv : Value} {ns : List (RNode × Value)} (h : RIn w r O ρ rv iv' pv ns) (x : RNode)
    (hown : w1.ownsRow 0 116 7 v' (ns.length + 1) (ncells (ns ++ [(x, dv)]))) (k : Chg iv'.ownBlock.toList w w1) (hat : v'.ownBlock = iv'.ownBlock ∨ ∃ g, v'.ownBlock = some g ∧ w.heap.size ≤ g ∧ g < w1.heap.size)
    (hd : Row w1 5 dv (bv x.data)) (hdn : ∀ g, dv.ownBlock = some g → w.heap.size ≤ g ∧ g < w1.heap.size) :
    ∃ O', RIn (w1.setCell ⟨r, 3, none⟩ v') r O' { ρ with inodes := ρ.inodes ++ [x] } rv v' pv (ns ++ [(x, dv)]) ∧ (∀ g ∈ O', g ∈ O ∨ w.heap.size ≤ g) ∧ Chg O w (w1.setCell ⟨r, 3, none⟩ v') := by
  have hpt : ∀ {e : TypeId} {base size n : Nat} {v : Value} {xs : List Value}, w.ownsRow base e size v n xs → e ≠ 116 → ∀ g, v.ownBlock = some g → g ∉ iv'.ownBlock.toList := fun hr hne g hg hm => by
    obtain ⟨c, hc⟩ := own_blockS hr hg
    obtain ⟨c', hc'⟩ := own_blockS h.ino (show iv'.ownBlock = some g by simpa using hm)
    exact ne_of_types hc hc' hne rfl
  have hrp : r ∉ iv'.ownBlock.toList := fun hm => by
    obtain ⟨c', hc'⟩ := own_blockS h.ino (show iv'.ownBlock = some r by simpa using hm)
    exact ne_of_types h.blk hc' (by decide) rfl
  have hb1 := k.heap h.blk hrp
  have hrot := own_keepS h.rot k (hpt h.rot (by decide))
  have hpth := own_keepS h.pth k (hpt h.pth (by decide))
  have hdat := fun x hx => own_keepS (h.data x hx) k (hpt (h.data x hx) (by decide))
  have k2 : Chg [r] w1 (w1.setCell ⟨r, 3, none⟩ v') := (Chg.refl _ _).setCell (fun _ => by simp) _
  have hnr : ∀ {e : TypeId} {base size n : Nat} {v : Value} {xs : List Value}, w1.ownsRow base e size v n xs → e ≠ 108 → ∀ g, v.ownBlock = some g → g ∉ [r] := fun hr hne g hg hm => by
    obtain ⟨c, hc⟩ := own_blockS hr hg
    simp at hm; subst hm
    exact ne_of_types hc hb1 hne rfl
  have hO' : ∀ g, v'.ownBlock = some g → g ∈ O ∨ (w.heap.size ≤ g ∧ g < w1.heap.size) := fun g hg => by
    rcases hat with h1 | ⟨g', h1, h2, h3⟩
    · exact .inl (h.own.2.2.1 g (by rw [← h1]; exact hg))
    · rw [h1] at hg; cases hg; exact .inr ⟨h2, h3⟩
  refine ⟨dv.ownBlock.toList ++ v'.ownBlock.toList ++ O, ⟨heap_set hb1 3 v' rfl, own_keepS hrot k2 (hnr hrot (by decide)), ?_, ?_, own_keepS hpth k2 (hnr hpth (by decide)), ?_, ?_, ?_⟩, ?_, ?_⟩
  · have := own_keepS hown k2 (hnr hown (by decide))
    rw [List.length_append]
    exact this
  · simp only [h.is, List.map_append, List.map_cons, List.map_nil]
  · intro y hy
    rcases List.mem_append.1 hy with hy | hy
    · exact own_keepS (hdat y hy) k2 (hnr (hdat y hy) (by decide))
    · simp at hy; subst hy
      exact own_keepS hd k2 (hnr hd (by decide))
  · refine ⟨?_, fun g hg => ?_, fun g hg => ?_, fun g hg => ?_, fun y hy g hg => ?_⟩
    · exact List.mem_append.2 (.inr h.own.1)
    · exact List.mem_append.2 (.inr (h.own.2.1 g hg))
    · exact List.mem_append.2 (.inl (List.mem_append.2 (.inr (by simpa using hg))))
    · exact List.mem_append.2 (.inr (h.own.2.2.2.1 g hg))
    · rcases List.mem_append.1 hy with hy | hy
      · exact List.mem_append.2 (.inr (h.own.2.2.2.2 y hy g hg))
      · simp at hy; subst hy
        exact List.mem_append.2 (.inl (List.mem_append.2 (.inl (by simpa using hg))))
  · intro g hg
    have hs := k.size
    have hz : (w1.setCell ⟨r, 3, none⟩ v').heap.size = w1.heap.size := by simp [World.setCell]
    rw [hz]
    rcases List.mem_append.1 hg with hg | hg
    · rcases List.mem_append.1 hg with hg | hg
      · exact (hdn g (by simpa using hg)).2
      · rcases hO' g (by simpa using hg) with h1 | h1
        · have := h.lt g h1; omega
        · omega
    · have := h.lt g hg; omega
  · intro g hg
    rcases List.mem_append.1 hg with hg | hg
    · rcases List.mem_append.1 hg with hg | hg
      · exact .inr (hdn g (by simpa using hg)).1
      · rcases hO' g (by simpa using hg) with h1 | h1
        · exact .inl h1
        · exact .inr h1.1
    · exact .inl hg
  · exact k.trans' k2 (fun x hx _ => h.own.2.2.1 x (by simpa using hx)) (fun x hx _ => by simp at hx; subst hx; exact h.own.1)
theorem RTo.then_ {w w1 w2 : World} {r : Nat} {O O1 : List Nat} {ρ : RFs} (k : Chg O w w1) (hO : ∀ g ∈ O1, g ∈ O ∨ w.heap.size ≤ g) (h : RTo w1 w2 r O1 ρ) : RTo w w2 r O ρ := by
  obtain ⟨O2, ⟨h1, h2⟩, k2⟩ := h
  refine ⟨O2, ⟨h1, fun g hg => ?_⟩, k.trans' k2 (fun x hx _ => hx) (fun x hx hl => ?_)⟩
  · rcases h2 g hg with h | h
    · exact hO g h
    · have := k.size; exact .inr (by omega)
  · rcases hO x hx with h | h
    · exact h
    · omega
set_option maxRecDepth 100000 in
set_option maxHeartbeats 8000000 in
theorem rmake (w : World) (r : Nat) (O : List Nat) (ρ : RFs) (kind mode : Int) (p t : Str) (data : List UInt8) (da : Option Addr) (dc : Nat) (fp : List Nat) (h : RAt w r O ρ) (hk : ROk ρ) (hp : p.length ≤ 140737488355328) (ht : t.length ≤ 140737488355328)
    (hd : Rd w fp da (bv data)) (hdl : data.length ≤ 140737488355328) :
    Calls Tryz.prog 52 #[.pointer (some ⟨r, 0, none⟩), .int .i64 kind, .string (ba p), .int .i64 mode, .slice da data.length dc, .string (ba t)] w fun e w' => e = .returned (.int .i64 (makeRE ρ p kind mode t)) ∧ (makeRE ρ p kind mode t ≠ 0 → Chg [] w w') ∧ (makeRE ρ p kind mode t = 0 → RTo w w' r O (madeR ρ p kind mode data t)) := by
  have HCK := Lib.hid (rcheck p hp w)
  have HPL := Lib.hid (fun W (k : Chg [] w W) => rplace W r O ρ p (h.foreign k (by simp)) hk hp)
  have HRC := Lib.hid (rcheckRec w t ht)
  have hR : makeRE ρ p kind mode t = makeRE ρ p kind mode t := rfl
  conv at hR => rhs; unfold makeRE
  generalize makeRE ρ p kind mode t = R at *
  have HR := Lib.hid hR
  clear hR
  have hkpl := hk.plen
  have hkil := hk.ilen
  have hkf := hk.first
  have hks := hk.step
  have HK := Lib.hid hk
  have HAT := Lib.hid h
  have HDD := Lib.hid hd
  clear hk h hd
  unfold linkpath at HRC
  by_cases hc : checkP p = 0
  · rw [hc] at HCK HR
    rw [if_neg (by omega)] at HR
    by_cases hm : mode < 0 ∨ 4095 < mode
    · rw [if_pos hm] at HR
      have hR := HR.out
      subst hR
      clear HR hc HPL HRC
      generalize ba p = P at *
      generalize ba t = T at *
      rcases hm with hm | hm
      all_goals
        go_enter Tryz.func52, Tryz.ntmps52
        go_upto_region 2 with (go_at_call 86; refine HCK.out.mono ?_; rintro e w2 ⟨rfl, hw2⟩; obtain rfl := hw2.symm)
        go_wp2_with fail
        go_ret
        exact ⟨rfl, fun _ => Chg.refl _ _, fun h => absurd h (by decide)⟩
    · rw [if_neg hm] at HR
      have hm0 : 0 ≤ mode := by omega
      have hm1 : mode ≤ 4095 := by omega
      by_cases hv : kind = 2 ∧ checkV t ≠ 0
      · rw [if_pos hv] at HR
        obtain ⟨rfl, hv⟩ := hv
        have hR := HR.out
        subst hR
        have hvb : (checkV t != 0) = true := by simpa using hv
        have hvb2 : (checkV t == 0) = false := by simpa using hv
        have HQ := Lib.hid (And.intro hv trivial)
        clear HR hc hm HPL hv
        generalize checkV t = V at *
        generalize ba p = P at *
        generalize ba t = T at *
        go_enter Tryz.func52, Tryz.ntmps52
        go_upto_region 5 with (go_at_call 86; refine HCK.out.mono ?_; rintro e w2 ⟨rfl, hw2⟩; obtain rfl := hw2.symm)
        go_wp2_with (go_at_call 88; refine HRC.out.mono ?_; rintro e w3 ⟨rfl, hk3⟩; have HK3 := Lib.hid hk3; clear hk3)
        go_ret
        exact ⟨rfl, fun _ => HK3.out, fun h => absurd h HQ.out.1⟩
      · rw [if_neg hv] at HR
        have hv2 : kind = 2 → checkV t = 0 := fun h => by
          by_cases h2 : checkV t = 0
          · exact h2
          · exact absurd ⟨h, h2⟩ hv
        have HV := Lib.hid (And.intro hv2 trivial)
        have HBA := Lib.hid (show ba t = ba t from rfl)
        clear hc hm hv hv2
        obtain ⟨P, hPe⟩ : ∃ P, P = ba p := ⟨_, rfl⟩
        obtain ⟨T, hTe⟩ : ∃ T, T = ba t := ⟨_, rfl⟩
        have HPE := Lib.hid (And.intro hPe (And.intro hTe trivial))
        rw [← hPe] at HCK HPL ⊢
        rw [← hTe] at HRC ⊢
        clear hPe hTe HBA
        go_enter Tryz.func52, Tryz.ntmps52
        go_upto_if 32 with (go_at_call 86; refine HCK.out.mono ?_; rintro e w2 ⟨rfl, hw2⟩; obtain rfl := hw2.symm)
        go_cut [13] (fun t wx => t = .int .i64 0 ∧ Chg [] w wx)
        case first =>
          by_cases h2 : kind = 2
          · have hz := HV.out.1 h2
            rw [hz] at HRC
            subst h2
            go_wp2_with (go_at_call 88; refine HRC.out.mono ?_; rintro e w3 ⟨rfl, hk3⟩; have HK3 := Lib.hid hk3; clear hk3)
            go_meet
            exact ⟨rfl, HK3.out⟩
          · have hkb : (kind == 2) = false := by simpa using h2
            have HK3 := Lib.hid (Chg.refl [] w)
            clear h2
            go_wp2_with fail
            go_meet
            exact ⟨rfl, HK3.out⟩
        case rest =>
          obtain ⟨rfl, hkw⟩ := hcut
          have HPW := Lib.hid (HPL.out wc hkw)
          have hatw := HAT.out.foreign hkw (by simp)
          have HDW := Lib.hid (HDD.out.chg hkw (by simp))
          have HKW := Lib.hid hkw
          clear hkw
          by_cases hq : placeR ρ p = 0
          · rw [hq] at HPW HR
            have hR := HR.out
            subst hR
            clear hq HR
            obtain ⟨rv, iv', pv, ns, h⟩ := hatw
            obtain ⟨c0, c1, _, c3, _, _⟩ := h.cells
            obtain ⟨ao, ic, rfl, _, _⟩ := own_rdS h.ino
            have hnl : ns.length = ρ.inodes.length := by rw [h.is, List.length_map]
            have HNL := Lib.hid hnl
            have hnl4 : ns.length ≤ 10000 := by omega
            have hmul := mul_small (a := (ns.length : Int)) (b := ρ.step) (by omega) (by omega) hks.1 hks.2
            have HI := Lib.hid h
            clear h hnl
            go_upto_region 11 with (go_at_call 87; refine HPW.out.mono ?_; rintro e w2 ⟨rfl, hw2⟩; obtain rfl := hw2.symm)
            have hw1 : IntKind.i64.wrap ((ns.length : Int) * ρ.step) = (ns.length : Int) * ρ.step := IntWalk.i64_in _ (by omega)
            have hw2 : IntKind.i64.wrap (ρ.first + (ns.length : Int) * ρ.step) = ρ.first + (ns.length : Int) * ρ.step := IntWalk.i64_in _ (by omega)
            obtain ⟨ib, hib, hib0, hib1, hib2⟩ := info_parts Tryz.vinfoB
            obtain ⟨ni, hni, hni0, hni1, hni2⟩ := info_parts Tryz.vinfoRN
            obtain ⟨pi', hpi, hpi0, hpi1, hpi2⟩ := info_parts Tryz.vinfoRP
            have HCE := Lib.hid (fun W (k : Chg [] wc W) => And.intro (k.cell c0 (by simp)) (And.intro (k.cell c1 (by simp)) (k.cell c3 (by simp))))
            have HOI := Lib.hid (fun W (k : Chg [] wc W) => own_keepS HI.out.ino k (by simp))
            have HBI := Lib.hid (fun W (k : Chg [] wc W) => k.heap HI.out.blk (by simp))
            have HDR := Lib.hid (fun W (k : Chg [] wc W) => HDW.out.chg k (by simp))
            have HDL := Lib.hid (bv_length data)
            have hnei : (Value.slice ao ns.length ic).ownBlock ≠ some r := fun hm => by
              obtain ⟨c', hc'⟩ := own_blockS HI.out.ino hm
              exact ne_of_types HI.out.blk hc' (by decide) rfl
            have HNE := Lib.hid (And.intro hnei trivial).1
            clear hnei c0 c1 c3 HDW
            refine wp_region_end (S := fun q => q.cell? ⟨r, 0, none⟩ = some (.int .i64 ρ.first) ∧ q.cell? ⟨r, 1, none⟩ = some (.int .i64 ρ.step) ∧ q.cell? ⟨r, 3, none⟩ = some (.slice ao ns.length ic)) (m := 27) (by kernel_rfl) ?_ (fun hHeld => ?_)
            · exact HCE.out _ (Chg.refl _ _).drew
            refine wpAnyE_take (i := 0) (oi := ?oiE1) (v := ?vE1) ?hiE1 (by kernel_rfl) (by kernel_rfl) (by kernel_rfl) (by kernel_rfl) ?hQE1 (Or.inl ⟨?hwE1, ?hyE1⟩) (by assumption) ?hrE1
            case hiE1 => simp only [List.getElem?_toArray, List.getElem?_cons_zero]; rfl
            case hQE1 => exact fun _ _ _ h => h
            case hwE1 => rfl
            case hyE1 => intro w hSw; (try dsimp only at hSw); go_simp; (try with_reducible rfl)
            case hrE1 =>
            simp only [Act.put, List.setIfInBounds_toArray, List.set_cons_zero, List.set_cons_succ]
            refine wpAnyE_take (i := 1) (oi := ?oiE2) (v := ?vE2) ?hiE2 (by kernel_rfl) (by kernel_rfl) (by kernel_rfl) (by kernel_rfl) ?hQE2 (Or.inl ⟨?hwE2, ?hyE2⟩) (by assumption) ?hrE2
            case hiE2 => simp only [List.getElem?_toArray, List.getElem?_cons_succ, List.getElem?_cons_zero]; rfl
            case hQE2 => exact fun _ _ _ h => h
            case hwE2 => rfl
            case hyE2 => intro w hSw; (try dsimp only at hSw); go_simp; (try with_reducible rfl)
            case hrE2 =>
            simp only [Act.put, List.setIfInBounds_toArray, List.set_cons_zero, List.set_cons_succ]
            refine wpAnyE_take (i := 2) (oi := ?oiE3) (v := ?vE3) ?hiE3 (by kernel_rfl) (by kernel_rfl) (by kernel_rfl) (by kernel_rfl) ?hQE3 (Or.inl ⟨?hwE3, ?hyE3⟩) (by assumption) ?hrE3
            case hiE3 => simp only [List.getElem?_toArray, List.getElem?_cons_succ, List.getElem?_cons_zero]; rfl
            case hQE3 => exact fun _ _ _ h => h
            case hwE3 => rfl
            case hyE3 => intro w hSw; (try dsimp only at hSw); go_simp; (try with_reducible rfl)
            case hrE3 =>
            simp only [Act.put, List.setIfInBounds_toArray, List.set_cons_zero, List.set_cons_succ]
            refine wpAnyE_take (i := 3) (oi := ?oiE4) (v := ?vE4) ?hiE4 (by kernel_rfl) (by kernel_rfl) (by kernel_rfl) (by kernel_rfl) ?hQE4 (Or.inl ⟨?hwE4, ?hyE4⟩) (by assumption) ?hrE4
            case hiE4 => simp only [List.getElem?_toArray, List.getElem?_cons_succ, List.getElem?_cons_zero]; rfl
            case hQE4 => exact fun _ _ _ h => h
            case hwE4 => rfl
            case hyE4 => intro w hSw; (try dsimp only at hSw); go_simp; (try with_reducible rfl)
            case hrE4 =>
            simp only [Act.put, List.setIfInBounds_toArray, List.set_cons_zero, List.set_cons_succ]
            refine wpAnyE_take (i := 4) (oi := ?oiE5) (v := ?vE5) ?hiE5 (by kernel_rfl) (by kernel_rfl) (by kernel_rfl) (by kernel_rfl) ?hQE5 (Or.inl ⟨?hwE5, ?hyE5⟩) (by assumption) ?hrE5
            case hiE5 => simp only [List.getElem?_toArray, List.getElem?_cons_succ, List.getElem?_cons_zero]; rfl
            case hQE5 => exact fun _ _ _ h => h
            case hwE5 => rfl
            case hyE5 => intro w hSw; (try dsimp only at hSw); go_simp; (try with_reducible rfl)
            case hrE5 =>
            simp only [Act.put, List.setIfInBounds_toArray, List.set_cons_zero, List.set_cons_succ]
            refine wpAnyE_take (i := 5) (oi := ?oiE6) (v := ?vE6) ?hiE6 (by kernel_rfl) (by kernel_rfl) (by kernel_rfl) (by kernel_rfl) ?hQE6 (Or.inl ⟨?hwE6, ?hyE6⟩) (by assumption) ?hrE6
            case hiE6 => simp only [List.getElem?_toArray, List.getElem?_cons_succ, List.getElem?_cons_zero]; rfl
            case hQE6 => exact fun _ _ _ h => h
            case hwE6 => rfl
            case hyE6 => intro w hSw; (try dsimp only at hSw); go_simp; (try with_reducible rfl)
            case hrE6 =>
            simp only [Act.put, List.setIfInBounds_toArray, List.set_cons_zero, List.set_cons_succ]
            refine wpAnyE_take (i := 6) (oi := ?oiE7) (v := ?vE7) ?hiE7 (by kernel_rfl) (by kernel_rfl) (by kernel_rfl) (by kernel_rfl) ?hQE7 (Or.inl ⟨?hwE7, ?hyE7⟩) (by assumption) ?hrE7
            case hiE7 => simp only [List.getElem?_toArray, List.getElem?_cons_succ, List.getElem?_cons_zero]; rfl
            case hQE7 => exact fun _ _ _ h => h
            case hwE7 => rfl
            case hyE7 => intro w hSw; (try dsimp only at hSw); go_simp; (try with_reducible rfl)
            case hrE7 =>
            simp only [Act.put, List.setIfInBounds_toArray, List.set_cons_zero, List.set_cons_succ]
            refine wpAnyE_take (i := 7) (oi := ?oiE8) (v := ?vE8) ?hiE8 (by kernel_rfl) (by kernel_rfl) (by kernel_rfl) (by kernel_rfl) ?hQE8 (Or.inl ⟨?hwE8, ?hyE8⟩) (by assumption) ?hrE8
            case hiE8 => simp only [List.getElem?_toArray, List.getElem?_cons_succ, List.getElem?_cons_zero]; rfl
            case hQE8 => exact fun _ _ _ h => h
            case hwE8 => rfl
            case hyE8 => intro w hSw; (try dsimp only at hSw); go_simp; (try with_reducible rfl)
            case hrE8 =>
            simp only [Act.put, List.setIfInBounds_toArray, List.set_cons_zero, List.set_cons_succ]
            refine wpAnyE_take (i := 8) (oi := ?oiE9) (v := ?vE9) ?hiE9 (by kernel_rfl) (by kernel_rfl) (by kernel_rfl) (by kernel_rfl) ?hQE9 (Or.inl ⟨?hwE9, ?hyE9⟩) (by assumption) ?hrE9
            case hiE9 => simp only [List.getElem?_toArray, List.getElem?_cons_succ, List.getElem?_cons_zero]; rfl
            case hQE9 => exact fun _ _ _ h => h
            case hwE9 => rfl
            case hyE9 => intro w hSw; (try dsimp only at hSw); go_simp; (try with_reducible rfl)
            case hrE9 =>
            simp only [Act.put, List.setIfInBounds_toArray, List.set_cons_zero, List.set_cons_succ]
            refine wpAnyE_take (i := 9) (oi := ?oiE10) (v := ?vE10) ?hiE10 (by kernel_rfl) (by kernel_rfl) (by kernel_rfl) (by kernel_rfl) ?hQE10 (Or.inl ⟨?hwE10, ?hyE10⟩) (by assumption) ?hrE10
            case hiE10 => simp only [List.getElem?_toArray, List.getElem?_cons_succ, List.getElem?_cons_zero]; rfl
            case hQE10 => exact fun _ _ _ h => h
            case hwE10 => rfl
            case hyE10 => intro w hSw; (try dsimp only at hSw); go_simp; (try with_reducible rfl)
            case hrE10 =>
            simp only [Act.put, List.setIfInBounds_toArray, List.set_cons_zero, List.set_cons_succ]
            refine wpAnyE_take (i := 10) (oi := ?oiE11) (v := ?vE11) ?hiE11 (by kernel_rfl) (by kernel_rfl) (by kernel_rfl) (by kernel_rfl) ?hQE11 (Or.inl ⟨?hwE11, ?hyE11⟩) (by assumption) ?hrE11
            case hiE11 => simp only [List.getElem?_toArray, List.getElem?_cons_succ, List.getElem?_cons_zero]; rfl
            case hQE11 => exact fun _ _ _ h => h
            case hwE11 => rfl
            case hyE11 => intro w hSw; (try dsimp only at hSw); go_simp; (try with_reducible rfl)
            case hrE11 =>
            simp only [Act.put, List.setIfInBounds_toArray, List.set_cons_zero, List.set_cons_succ]
            refine wpAnyE_take (i := 11) (oi := ?oiE12) (v := ?vE12) ?hiE12 (by kernel_rfl) (by kernel_rfl) (by kernel_rfl) (by kernel_rfl) ?hQE12 (Or.inl ⟨?hwE12, ?hyE12⟩) (by assumption) ?hrE12
            case hiE12 => simp only [List.getElem?_toArray, List.getElem?_cons_succ, List.getElem?_cons_zero]; rfl
            case hQE12 => exact fun _ _ _ h => h
            case hwE12 => rfl
            case hyE12 => intro w hSw; (try dsimp only at hSw); go_simp; (try with_reducible rfl)
            case hrE12 =>
            simp only [Act.put, List.setIfInBounds_toArray, List.set_cons_zero, List.set_cons_succ]
            refine wpAnyE_take (i := 12) (oi := ?oiE13) (v := ?vE13) ?hiE13 (by kernel_rfl) (by kernel_rfl) (by kernel_rfl) (by kernel_rfl) ?hQE13 (Or.inl ⟨?hwE13, ?hyE13⟩) (by assumption) ?hrE13
            case hiE13 => simp only [List.getElem?_toArray, List.getElem?_cons_succ, List.getElem?_cons_zero]; rfl
            case hQE13 => exact fun _ _ _ h => h
            case hwE13 => rfl
            case hyE13 => intro w hSw; (try dsimp only at hSw); go_simp; (try with_reducible rfl)
            case hrE13 =>
            simp only [Act.put, List.setIfInBounds_toArray, List.set_cons_zero, List.set_cons_succ]
            refine wpAnyE_take (i := 13) (oi := ?oiE14) (v := ?vE14) ?hiE14 (by kernel_rfl) (by kernel_rfl) (by kernel_rfl) (by kernel_rfl) ?hQE14 (Or.inl ⟨?hwE14, ?hyE14⟩) (by assumption) ?hrE14
            case hiE14 => simp only [List.getElem?_toArray, List.getElem?_cons_succ, List.getElem?_cons_zero]; rfl
            case hQE14 => exact fun _ _ _ h => h
            case hwE14 => rfl
            case hyE14 => intro w hSw; (try dsimp only at hSw); go_simp; (try with_reducible rfl)
            case hrE14 =>
            simp only [Act.put, List.setIfInBounds_toArray, List.set_cons_zero, List.set_cons_succ]
            refine wpAnyE_take (i := 14) (oi := ?oiE15) (v := ?vE15) ?hiE15 (by kernel_rfl) (by kernel_rfl) (by kernel_rfl) (by kernel_rfl) ?hQE15 (Or.inl ⟨?hwE15, ?hyE15⟩) (by assumption) ?hrE15
            case hiE15 => simp only [List.getElem?_toArray, List.getElem?_cons_succ, List.getElem?_cons_zero]; rfl
            case hQE15 => exact fun _ _ _ h => h
            case hwE15 => rfl
            case hyE15 => intro w hSw; (try dsimp only at hSw); go_simp; (try with_reducible rfl)
            case hrE15 =>
            simp only [Act.put, List.setIfInBounds_toArray, List.set_cons_zero, List.set_cons_succ]
            refine wpAnyE_take (i := 15) (oi := ?oiE16) (v := ?vE16) ?hiE16 (by kernel_rfl) (by kernel_rfl) (by kernel_rfl) (by kernel_rfl) ?hQE16 (Or.inl ⟨?hwE16, ?hyE16⟩) (by assumption) ?hrE16
            case hiE16 => simp only [List.getElem?_toArray, List.getElem?_cons_succ, List.getElem?_cons_zero]; rfl
            case hQE16 => exact fun _ _ _ h => h
            case hwE16 => rfl
            case hyE16 => intro w hSw; (try dsimp only at hSw); go_simp; (try with_reducible rfl)
            case hrE16 =>
            simp only [Act.put, List.setIfInBounds_toArray, List.set_cons_zero, List.set_cons_succ]
            refine wpAnyE_take (i := 16) (oi := ?oiE17) (v := ?vE17) ?hiE17 (by kernel_rfl) (by kernel_rfl) (by kernel_rfl) (by kernel_rfl) ?hQE17 (Or.inl ⟨?hwE17, ?hyE17⟩) (by assumption) ?hrE17
            case hiE17 => simp only [List.getElem?_toArray, List.getElem?_cons_succ, List.getElem?_cons_zero]; rfl
            case hQE17 => exact fun _ _ _ h => h
            case hwE17 => rfl
            case hyE17 => intro w hSw; (try dsimp only at hSw); go_simp; (try with_reducible rfl)
            case hrE17 =>
            simp only [Act.put, List.setIfInBounds_toArray, List.set_cons_zero, List.set_cons_succ]
            refine wpAnyE_take (i := 17) (oi := ?oiE18) (v := ?vE18) ?hiE18 (by kernel_rfl) (by kernel_rfl) (by kernel_rfl) (by kernel_rfl) ?hQE18 (Or.inl ⟨?hwE18, ?hyE18⟩) (by assumption) ?hrE18
            case hiE18 => simp only [List.getElem?_toArray, List.getElem?_cons_succ, List.getElem?_cons_zero]; rfl
            case hQE18 => exact fun _ _ _ h => h
            case hwE18 => rfl
            case hyE18 => intro w hSw; (try dsimp only at hSw); go_simp; (try with_reducible rfl)
            case hrE18 =>
            simp only [Act.put, List.setIfInBounds_toArray, List.set_cons_zero, List.set_cons_succ]
            refine wpAnyE_take (i := 19) (oi := ?oiE19) (v := ?vE19) ?hiE19 (by kernel_rfl) (by kernel_rfl) (by kernel_rfl) (by kernel_rfl) ?hQE19 (Or.inl ⟨?hwE19, ?hyE19⟩) (by assumption) ?hrE19
            case hiE19 => simp only [List.getElem?_toArray, List.getElem?_cons_succ, List.getElem?_cons_zero]; rfl
            case hQE19 => exact fun _ _ _ h => h
            case hwE19 => rfl
            case hyE19 => intro w hSw; (try dsimp only at hSw); go_simp; (try with_reducible rfl)
            case hrE19 =>
            simp only [Act.put, List.setIfInBounds_toArray, List.set_cons_zero, List.set_cons_succ]
            refine wpAnyE_take (i := 21) (oi := ?oiE20) (v := ?vE20) ?hiE20 (by kernel_rfl) (by kernel_rfl) (by kernel_rfl) (by kernel_rfl) ?hQE20 (Or.inl ⟨?hwE20, ?hyE20⟩) (by assumption) ?hrE20
            case hiE20 => simp only [List.getElem?_toArray, List.getElem?_cons_succ, List.getElem?_cons_zero]; rfl
            case hQE20 => exact fun _ _ _ h => h
            case hwE20 => rfl
            case hyE20 => intro w hSw; (try dsimp only at hSw); go_simp; (try with_reducible rfl)
            case hrE20 =>
            simp only [Act.put, List.setIfInBounds_toArray, List.set_cons_zero, List.set_cons_succ]
            refine wpAnyE_ready (i := 18) (o := ?ocE21) (by kernel_rfl) ?hcE21 (fun K hK => ?hsE21)
            case hcE21 => simp only [List.getElem?_toArray, List.getElem?_cons_succ, List.getElem?_cons_zero]; rfl
            case hsE21 =>
            rw [if_pos (by rfl)]
            go_simp
            go_wp2_with fail
            refine hK.out _ _ (.inr ?_) (fun hHeld => ?_)
            · exact HCE.out _ ((Chg.refl _ _).drew.alloc _)
            replace hHeld := hHeld.resolve_left (by decide)
            clear hK K
            try simp only [Act.put, List.setIfInBounds_toArray, List.set_cons_zero, List.set_cons_succ]
            refine wpAnyE_ready (i := 20) (o := ?ocE22) (by kernel_rfl) ?hcE22 (fun K hK => ?hsE22)
            case hcE22 => simp only [List.getElem?_toArray, List.getElem?_cons_succ, List.getElem?_cons_zero]; rfl
            case hsE22 =>
            rw [if_pos (by rfl)]
            refine wp_append_rd (.tmp 67) (.tmp 68) 43 (by rfl) wc.heap.size 5 ib (.int .u8 0) 1 Tryz.underlying43 hib hib0 hib1 hib2 rfl (.slice (some ⟨_, 0, none⟩) 0 0) 0 [] (by rfl) (own_empty (heap_new_at (by first | rfl | simp)) (by simp)) da data.length dc fp (bv data) (by rfl) HDL.out (HDR.out _ ((Chg.refl _ _).drew.alloc _)) (bv_one _) (by omega) (by unfold maxLen; omega) (by simp) ?_; intro a1 c1 w1 hown1 hgr1 hat1; have hk1 : Chg [] wc w1 := ((Chg.refl [] wc).drew.alloc (.cells #[] 5)).grown hgr1 (fun g hg hl => by simp [Value.ownBlock] at hg; omega); rw [Nat.zero_add, List.nil_append] at hown1; have HO1 := Lib.hid hown1; have HK1 := Lib.hid hk1; clear hown1 hgr1 hat1 hk1; rw [Nat.zero_add]
            go_wp2_with fail
            refine hK.out _ _ (.inr ?_) (fun hHeld => ?_)
            · exact HCE.out _ HK1.out
            replace hHeld := hHeld.resolve_left (by decide)
            clear hK K
            try simp only [Act.put, List.setIfInBounds_toArray, List.set_cons_zero, List.set_cons_succ]
            refine wpAnyE_take (i := 22) (oi := ?oiE23) (v := ?vE23) ?hiE23 (by kernel_rfl) (by kernel_rfl) (by kernel_rfl) (by kernel_rfl) ?hQE23 (Or.inl ⟨?hwE23, ?hyE23⟩) (by assumption) ?hrE23
            case hiE23 => simp only [List.getElem?_toArray, List.getElem?_cons_succ, List.getElem?_cons_zero]; rfl
            case hQE23 => exact fun _ _ _ h => h
            case hwE23 => rfl
            case hyE23 => intro w hSw; (try dsimp only at hSw); go_simp; (try with_reducible rfl)
            case hrE23 =>
            simp only [Act.put, List.setIfInBounds_toArray, List.set_cons_zero, List.set_cons_succ]
            refine wpAnyE_ready (i := 23) (o := ?ocE24) (by kernel_rfl) ?hcE24 (fun K hK => ?hsE24)
            case hcE24 => simp only [List.getElem?_toArray, List.getElem?_cons_succ, List.getElem?_cons_zero]; rfl
            case hsE24 =>
            rw [if_pos (by rfl)]
            go_simp
            go_wp2_with fail
            refine hK.out _ _ (.inr ?_) (fun hHeld => ?_)
            · exact HCE.out _ (HK1.out.alloc _)
            replace hHeld := hHeld.resolve_left (by decide)
            clear hK K
            try simp only [Act.put, List.setIfInBounds_toArray, List.set_cons_zero, List.set_cons_succ]
            refine wpAnyE_ready (i := 24) (o := ?ocE25) (by kernel_rfl) ?hcE25 (fun K hK => ?hsE25)
            case hcE25 => simp only [List.getElem?_toArray, List.getElem?_cons_succ, List.getElem?_cons_zero]; rfl
            case hsE25 =>
            rw [if_pos (by rfl)]
            have hsz1 : wc.heap.size ≤ (w1.alloc (.cells #[.int .i64 kind, .int .i64 mode, .int .i64 (ρ.first + (ns.length : Int) * ρ.step), .slice a1 data.length c1, .string T, .int .i64 0, .int .i64 0] 116)).heap.size := (HK1.out.alloc _).size; refine wp_append_at (.tmp 53) (.tmp 72) 105 (by rfl) 0 116 ni (.agg #[.int .i64 0, .int .i64 0, .int .i64 0, .slice none 0 0, .string ⟨#[]⟩, .int .i64 0, .int .i64 0]) 7 80 Tryz.underlying105 hni hni0 hni1 hni2 rfl (by omega) (.slice ao ns.length ic) ns.length (ncells ns) (by rfl) (HOI.out _ (HK1.out.alloc _)) ⟨w1.heap.size, 0, none⟩ 1 1 [.int .i64 kind, .int .i64 mode, .int .i64 (ρ.first + (ns.length : Int) * ρ.step), .slice a1 data.length c1, .string T, .int .i64 0, .int .i64 0] (by rfl) rfl (node_one _ _ _ _ _ _) (node_cells _ _ _ _ _ _ _) (by unfold maxLen; omega) (by omega) (by omega) ?_; intro v2 w2 hown2 hgr2 hat2; obtain ⟨va, vc, rfl, -, -⟩ := own_rdS hown2; have hk2 := ((HK1.out.alloc (.cells #[.int .i64 kind, .int .i64 mode, .int .i64 (ρ.first + (ns.length : Int) * ρ.step), .slice a1 data.length c1, .string T, .int .i64 0, .int .i64 0] 116)).mono (T := (Value.slice ao ns.length ic).ownBlock.toList) (by simp)).grown hgr2 (fun x hx _ => by simp [hx]); have hk12 := (((Chg.refl (Value.slice ao ns.length ic).ownBlock.toList w1).alloc (.cells #[.int .i64 kind, .int .i64 mode, .int .i64 (ρ.first + (ns.length : Int) * ρ.step), .slice a1 data.length c1, .string T, .int .i64 0, .int .i64 0] 116))).grown hgr2 (fun x hx _ => by simp [hx]); have hb2 := grown_heap hgr2 (HBI.out _ (HK1.out.alloc _)) (fun e => HNE.out e.symm); have g3 : w2.cell? ⟨r, 3, none⟩ = some (.slice ao ns.length ic) := cell_heap hb2 3 rfl; have f3 : w2.frozen? ⟨r, 3, none⟩ = false := frozen_of_row _ _ _ _ _ hb2; have HW2 := Lib.hid (And.intro hown2 (And.intro hk2 (And.intro hk12 (And.intro (grown_at (w0 := wc) hat2 hown2 hsz1) hb2)))); clear hown2 hgr2 hat2 hk2 hk12 hb2
            go_wp2_with fail
            refine hK.out _ _ (.inr ?_) (fun hHeld => ?_)
            · exact ⟨cell_heap HW2.out.2.2.2.2 0 rfl, cell_heap HW2.out.2.2.2.2 1 rfl, cell_heap HW2.out.2.2.2.2 3 rfl⟩
            replace hHeld := hHeld.resolve_left (by decide)
            clear hK K
            try simp only [Act.put, List.setIfInBounds_toArray, List.set_cons_zero, List.set_cons_succ]
            refine wpAnyE_ready (i := 25) (o := ?ocE26) (by kernel_rfl) ?hcE26 (fun K hK => ?hsE26)
            case hcE26 => simp only [List.getElem?_toArray, List.getElem?_cons_succ, List.getElem?_cons_zero]; rfl
            case hsE26 =>
            rw [if_pos (by rfl)]
            go_simp
            go_wp2_with fail
            refine hK.out _ _ (.inr ?_) (fun hHeld => ?_)
            · exact hHeld
            replace hHeld := hHeld.resolve_left (by decide)
            clear hK K
            try simp only [Act.put, List.setIfInBounds_toArray, List.set_cons_zero, List.set_cons_succ]
            refine wpAnyE_take (i := 26) (oi := ?oiE27) (v := ?vE27) ?hiE27 (by kernel_rfl) (by kernel_rfl) (by kernel_rfl) (by kernel_rfl) ?hQE27 (Or.inl ⟨?hwE27, ?hyE27⟩) (by assumption) ?hrE27
            case hiE27 => simp only [List.getElem?_toArray, List.getElem?_cons_succ, List.getElem?_cons_zero]; rfl
            case hQE27 => exact fun _ _ _ h => h
            case hwE27 => rfl
            case hyE27 => intro w hSw; (try dsimp only at hSw); go_simp; (try with_reducible rfl)
            case hrE27 =>
            simp only [Act.put, List.setIfInBounds_toArray, List.set_cons_zero, List.set_cons_succ]
            refine wpAnyE_ready (i := 27) (o := ?ocE28) (by kernel_rfl) ?hcE28 (fun K hK => ?hsE28)
            case hcE28 => simp only [List.getElem?_toArray, List.getElem?_cons_succ, List.getElem?_cons_zero]; rfl
            case hsE28 =>
            rw [if_pos (by rfl)]
            go_simp
            go_wp2_with fail
            refine hK.out _ _ (.inl (by first | rfl | trivial)) (fun _ => ?_)
            clear hK K
            try simp only [Act.put, List.setIfInBounds_toArray, List.set_cons_zero, List.set_cons_succ]
            refine wpAnyE_done (by kernel_rfl) ?_ _
            obtain ⟨hown2, hk2, hk12, hat2, hb2⟩ := HW2.out
            have hdn : ∀ g, (Value.slice a1 data.length c1).ownBlock = some g → wc.heap.size ≤ g ∧ g < w2.heap.size := fun g hg => by
              obtain ⟨cc, hcc⟩ := own_blockS HO1.out hg
              exact ⟨own_block_ge HO1.out hg, Nat.lt_of_lt_of_le (lt_of_block hcc) hk12.size⟩
            have hrow2 : Row w2 5 (.slice a1 data.length c1) (bv data) := own_zero (own_keepS HO1.out hk12 (fun g hg hm => by
              obtain ⟨cc, hcc⟩ := own_blockS HO1.out hg
              obtain ⟨c', hc'⟩ := own_blockS (HOI.out w1 HK1.out) (show (Value.slice ao ns.length ic).ownBlock = some g by simpa using hm)
              exact ne_of_types hcc hc' (by decide) rfl)) HDL.out
            obtain ⟨O2, hI2, hO2, hk3⟩ := HI.out.addNode (dv := .slice a1 data.length c1) ⟨kind, mode, ρ.first + (ns.length : Int) * ρ.step, data, t, 0, 0⟩ (by
              rw [ncells_append]
              rw [HPE.out.2.1] at hown2
              simpa [ncells, ncell] using hown2) hk2 hat2 hrow2 hdn
            have HK3 := Lib.hid (And.intro hO2 hk3)
            have HI2 := Lib.hid hI2
            obtain ⟨_, _, _, _, c4, _⟩ := hI2.cells
            obtain ⟨pa, pc, rfl, hpc, _⟩ := own_rdS hI2.pth
            simp only at c4 hpc
            clear hown2 hk2 hk12 hat2 hb2 hdn hrow2 hO2 hk3 hI2 g3 f3
            generalize w2.setCell ⟨r, 3, none⟩ (.slice va (ns.length + 1) vc) = W3 at *
            have hka : ∀ P, Chg [] W3 (W3.alloc (.cells #[.string P, .int .i64 ns.length] 125)) := fun P => (Chg.refl _ _).alloc _
            have HOP := Lib.hid (fun P => own_keepS HI2.out.pth (hka P) (by simp))
            have HRB := Lib.hid (fun P => (hka P).heap HI2.out.blk (by simp))
            have hnep : (Value.slice pa ρ.paths.length pc).ownBlock ≠ some r := fun hm => by
              obtain ⟨c', hc'⟩ := own_blockS HI2.out.pth hm
              exact ne_of_types HI2.out.blk hc' (by decide) rfl
            have HNP := Lib.hid (And.intro hnep trivial).1
            have c4a : (W3.alloc (.cells #[.string P, .int .i64 ns.length] 125)).cell? ⟨r, 4, none⟩ = some (.slice pa ρ.paths.length pc) := cell_heap (HRB.out P) 4 rfl
            have hsz : W3.heap.size ≤ (W3.alloc (.cells #[.string P, .int .i64 ns.length] 125)).heap.size := by simp
            clear hnep
            go_upto_region 12 with (fail)
            go_wp2_with (at_builtin; refine wpList_append_own_at _ rfl (.tmp 80) (.tmp 84) 106 rfl 0 125 pi' (.agg #[.string ⟨#[]⟩, .int .i64 0]) 2 24 Tryz.underlying106 hpi hpi0 hpi1 hpi2 rfl (by omega) (.slice pa ρ.paths.length pc) ρ.paths.length (pcells ρ.paths) rfl (HOP.out P) ⟨W3.heap.size, 0, none⟩ 1 1 [.string P, .int .i64 ns.length] rfl rfl (path_one W3 P ns.length) (path_cells P ns.length) (by unfold maxLen; omega) (by omega) (by omega) ?_; intro v5 w5 hown hgr hnil hat; obtain ⟨wa, wcap, rfl, -, -⟩ := own_rdS hown; have hk1 := ((hka P).mono (T := (Value.slice pa ρ.paths.length pc).ownBlock.toList) (by simp)).grown hgr (fun x hx _ => by simp [hx]); have hb1 := grown_heap hgr (HRB.out P) (fun e => HNP.out e.symm); have g4 : w5.cell? ⟨r, 4, none⟩ = some (.slice pa ρ.paths.length pc) := cell_heap hb1 4 rfl; have f4 : w5.frozen? ⟨r, 4, none⟩ = false := frozen_of_row _ _ _ _ _ hb1; have HW5 := Lib.hid (And.intro hown (And.intro hk1 (grown_at (w0 := W3) hat hown hsz))); clear hown hgr hnil hat hk1 hb1)
            go_ret
            refine ⟨rfl, ?_⟩
            obtain ⟨hown, hk1, hat⟩ := HW5.out
            have hto := HI2.out.addPath p ns.length (by
              rw [pcells_append]
              rw [HPE.out.1] at hown
              exact hown) hk1 hat
            have hfin : linkedR { ρ with inodes := ρ.inodes ++ [⟨kind, mode, ρ.first + (ns.length : Int) * ρ.step, data, t, 0, 0⟩] } p ns.length = madeR ρ p kind mode data t := by
              unfold linkedR madeR
              rw [HNL.out]
            rw [hfin] at hto
            exact RTo.then_ (HKW.out.mono (by simp)) (fun g hg => .inl hg) (RTo.then_ HK3.out.2 HK3.out.1 hto)
          · have hqb : (placeR ρ p != 0) = true := by simpa using hq
            have hR := HR.out
            subst hR
            have HQ := Lib.hid (And.intro hq trivial)
            clear hq HR
            go_wp2_with (go_at_call 87; refine HPW.out.mono ?_; rintro e w2 ⟨rfl, hw2⟩; obtain rfl := hw2.symm)
            go_ret
            exact ⟨rfl, fun _ => HKW.out, fun h => absurd h HQ.out.1⟩
  · have hqb : (checkP p != 0) = true := by simpa using hc
    have hqe : (checkP p == 0) = false := by simpa using hc
    rw [if_pos hc] at HR
    have hR := HR.out
    subst hR
    have HQ := Lib.hid (And.intro hc trivial)
    clear HR HPL HRC hc
    generalize checkP p = V at *
    generalize ba p = P at *
    generalize ba t = T at *
    go_enter Tryz.func52, Tryz.ntmps52
    go_wp2_with (go_at_call 86; refine HCK.out.mono ?_; rintro e w2 ⟨rfl, hw2⟩; obtain rfl := hw2.symm)
    go_ret
    exact ⟨rfl, fun _ => Chg.refl _ _, fun h => absurd h HQ.out.1⟩
end Go.Proofs.YtfhiioopimmahaaGreatDoor
