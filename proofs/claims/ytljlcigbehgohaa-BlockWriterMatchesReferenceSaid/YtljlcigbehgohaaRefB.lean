/- paxtarref04: Read. -/
import Derived.Test.YtljlcigbehgohaaRefA
namespace Go.Proofs.Ytljlcigbehgohaa
open Go.RowKit Go.Pax

set_option maxHeartbeats 400000 in
theorem refRead_arg (w : World) (p : Nat) (n : Int) (h : n < 1) : Calls Try.prog 29 #[.pointer (some ⟨p, 0, none⟩), .int .i64 n] w fun e w' => e = .returned (.tuple #[.slice none 0 0, .int .i64 2]) ∧ w' = w := by
  go_enter Try.func29, Try.ntmps29
  go_wp2
  go_ret2
  exact ⟨rfl, rfl⟩
set_option maxHeartbeats 400000 in
theorem refRead_io (w : World) (p : Nat) (n f : Int) (h : 1 ≤ n) (hf : 0 ≤ f) (c2 : w.cell? ⟨p, 2, none⟩ = some (.int .i64 f)) (c3 : w.cell? ⟨p, 3, none⟩ = some (.int .i64 f)) :
    Calls Try.prog 29 #[.pointer (some ⟨p, 0, none⟩), .int .i64 n] w fun e w' => e = .returned (.tuple #[.slice none 0 0, .int .i64 11]) ∧ ∃ k, w' = w.drewN k := by
  go_enter Try.func29, Try.ntmps29
  go_wp2_with fail
  go_quiet (fail)
  go_wp2
  go_ret2
  exact ⟨rfl, _, rfl⟩
set_option maxHeartbeats 400000 in
theorem refRead_eof (w : World) (p : Nat) (n f o : Int) (ao : Option Addr) (l c : Nat) (h : 1 ≤ n) (hf : 0 ≤ f → (o == f) = false) (hl : (l : Int) ≤ o) (c0 : w.cell? ⟨p, 0, none⟩ = some (.slice ao l c)) (c2 : w.cell? ⟨p, 2, none⟩ = some (.int .i64 f)) (c3 : w.cell? ⟨p, 3, none⟩ = some (.int .i64 o)) :
    Calls Try.prog 29 #[.pointer (some ⟨p, 0, none⟩), .int .i64 n] w fun e w' => e = .returned (.tuple #[.slice none 0 0, .int .i64 4]) ∧ ∃ k, w' = w.drewN k := by
  by_cases hf0 : 0 ≤ f
  · have hf1 := hf hf0
    clear hf
    go_enter Try.func29, Try.ntmps29
    go_wp2_with fail
    go_quiet (fail)
    go_wp2_with fail
    go_quiet (fail)
    go_wp2
    go_ret2
    exact ⟨rfl, _, World.drewN_drewN _ _ _⟩
  · have hf1 : decide (0 ≤ f) = false := by simpa using hf0
    clear hf
    go_enter Try.func29, Try.ntmps29
    go_wp2_with fail
    go_quiet (fail)
    go_wp2_with fail
    go_quiet (fail)
    go_wp2
    go_ret2
    exact ⟨rfl, _, World.drewN_drewN _ _ _⟩

theorem keep3 {w w1 w2 : World} {a b c : Addr} {va vb vc : Value} (k : Chg [] w1 w2) (h : w1.cell? a = some va ∧ w1.cell? b = some vb ∧ w1.cell? c = some vc ∧ Chg [] w w1) :
    w2.cell? a = some va ∧ w2.cell? b = some vb ∧ w2.cell? c = some vc ∧ Chg [] w w2 := ⟨k.cell h.1 (by simp), k.cell h.2.1 (by simp), k.cell h.2.2.1 (by simp), h.2.2.2.trans k⟩

theorem keepg {w w1 w2 : World} {row : Option Nat} {p i j : Nat} {va vb : Value} (hg : w1.grownBy w2 row) (hr : ∀ k, row = some k → w.heap.size ≤ k) (hp : p < w.heap.size) (h : w1.cell? ⟨p, i, none⟩ = some va ∧ w1.cell? ⟨p, j, none⟩ = some vb ∧ Chg [] w w1) :
    w2.cell? ⟨p, i, none⟩ = some va ∧ w2.cell? ⟨p, j, none⟩ = some vb ∧ Chg [] w w2 :=
  ⟨hg.cell h.1 (fun e => Nat.lt_irrefl _ (Nat.lt_of_lt_of_le hp (hr _ e.symm))), hg.cell h.2.1 (fun e => Nat.lt_irrefl _ (Nat.lt_of_lt_of_le hp (hr _ e.symm))), h.2.2.grown hg fun k hk hlt => by have := hr k hk; omega⟩

theorem refStep_at {w w1 : World} {p : Nat} {fp : List Nat} {ρ : RSrc} {ra ca : Option Addr} {rc cc E : Nat} (k1 : Chg [] w w1) (hR : Rd w fp ra (bv ρ.b)) (hC : Rd w fp ca (iv ρ.chunks)) (hpf : p ∉ fp) (hrc : ρ.b.length ≤ rc)
    (hp1 : w1.heap[p]? = some (.cells #[.slice ra ρ.b.length rc, .slice ca ρ.chunks.length cc, .int .i64 ρ.fail, .int .i64 ρ.off, .int .i64 ρ.reads] 43 (0, 0))) :
    RSrcAt ((w1.setCell ⟨p, 3, none⟩ (.int .i64 E)).setCell ⟨p, 4, none⟩ (.int .i64 (wrap64 (ρ.reads + 1)))) p fp { ρ with off := E, reads := wrap64 (ρ.reads + 1) } ∧
    Chg [p] w1 ((w1.setCell ⟨p, 3, none⟩ (.int .i64 E)).setCell ⟨p, 4, none⟩ (.int .i64 (wrap64 (ρ.reads + 1)))) := by
  have h2 := heap_set (heap_set hp1 3 (.int .i64 E) rfl) 4 (.int .i64 (wrap64 (ρ.reads + 1))) rfl
  have k2 : Chg [p] w1 ((w1.setCell ⟨p, 3, none⟩ (.int .i64 E)).setCell ⟨p, 4, none⟩ (.int .i64 (wrap64 (ρ.reads + 1)))) :=
    ((Chg.refl _ _).setCell (fun _ => by simp) _).setCell (fun _ => by simp) _
  have k3 := (k1.mono (T := [p]) (by simp)).trans k2
  refine ⟨⟨ra, rc, ca, cc, ?_, ?_, ?_, hpf, hrc⟩, k2⟩
  · rw [h2]; simp
  · exact hR.chg k3 (by intro x hx; simp; rintro rfl; exact hpf hx)
  · exact hC.chg k3 (by intro x hx; simp; rintro rfl; exact hpf hx)

set_option maxRecDepth 100000 in
set_option maxHeartbeats 8000000 in
theorem refRead_ok (w : World) (p : Nat) (fp : List Nat) (ρ : RSrc) (n : Int) (o E : Nat) (h : RSrcAt w p fp ρ) (hr : 0 ≤ ρ.reads) (hl : ρ.chunks.length ≤ 140737488355328) (hl2 : ρ.b.length ≤ 140737488355328)
    (h1 : 1 ≤ n) (h2 : n ≤ 9223372036854775807) (ho : ρ.off = o) (h3 : 0 ≤ ρ.fail → (ρ.off == ρ.fail) = false) (h4 : o < ρ.b.length) (hE : ρ.fin n = E) (hoE : o ≤ E) (hEl : E ≤ ρ.b.length) :
    Calls Try.prog 29 #[.pointer (some ⟨p, 0, none⟩), .int .i64 n] w fun e w' => ∃ ao cap, e = .returned (.tuple #[.slice ao (E - o) cap, .int .i64 0]) ∧
      w'.ownsRow w.heap.size 5 1 (.slice ao (E - o) cap) (E - o) (bv ((ρ.b.drop o).take (E - o))) ∧ RSrcAt w' p fp { ρ with off := E, reads := wrap64 (ρ.reads + 1) } ∧ Chg [p] w w' := by
  have H := h
  obtain ⟨ra, rc, ca, cc, hp, hR, hC, hpf, hrc⟩ := h
  obtain ⟨b, chunks, fail, off, reads⟩ := ρ
  simp only at *
  subst ho
  have c0 : w.cell? ⟨p, 0, none⟩ = some (.slice ra b.length rc) := cell_heap hp 0 rfl
  have c1 : w.cell? ⟨p, 1, none⟩ = some (.slice ca chunks.length cc) := cell_heap hp 1 rfl
  have c2 : w.cell? ⟨p, 2, none⟩ = some (.int .i64 fail) := cell_heap hp 2 rfl
  have c3 : w.cell? ⟨p, 3, none⟩ = some (.int .i64 o) := cell_heap hp 3 rfl
  have c4 : w.cell? ⟨p, 4, none⟩ = some (.int .i64 reads) := cell_heap hp 4 rfl
  have hch := chunkOf_pos chunks reads
  have HR := Lib.hid hR
  have HC := Lib.hid hC
  have HH := Lib.hid H
  have HP := Lib.hid hp
  have hE' : (if imin n (chunkOf chunks reads) < (if 0 ≤ fail ∧ fail < b.length then fail else b.length) - (o : Int) then (o : Int) + imin n (chunkOf chunks reads) else (if 0 ≤ fail ∧ fail < b.length then fail else b.length)) = (E : Int) := hE
  have HE := Lib.hid hE'
  clear hE'
  clear hR hC hp H hE
  generalize hL : b.length = L at *
  have HL := Lib.hid hL
  clear hL
  obtain ⟨ib, hib, hib0, hib1, hib2⟩ := Try.infoB
  by_cases hf : 0 ≤ fail
  · have hf1 := h3 hf
    clear h3
    go_enter Try.func29, Try.ntmps29
    go_wp2_with fail
    go_quiet (fail)
    go_wp2_with fail
    go_quiet (fail)
    by_cases hfl : fail < L
    · go_upto_region 11 with (fail)
      go_region_held3 (fun w' => w'.cell? ⟨p, 1, none⟩ = some (.slice ca chunks.length cc) ∧ w'.cell? ⟨p, 2, none⟩ = some (.int .i64 fail) ∧ w'.cell? ⟨p, 4, none⟩ = some (.int .i64 reads) ∧ Chg [] w w')
        (first | exact ⟨by simp [*], by simp [*], by simp [*], ((Chg.refl _ _).drewN _).drew⟩ | exact keep3 hk1 (by assumption))
        (first | (go_at_call 62; refine (refChunk _ ca cc chunks fp fail reads (HC.out.chg (S := []) (by go_split_ands; assumption) (by simp)) hr hl).mono ?_; rintro e w1 ⟨rfl, hk1⟩))
      rename_i hS
      have k1 : Chg [] w w1 := hS.2.2.2
      clear hS hk1 c0 c1 c2 c3 c4
      have hp1 := k1.heap HP.out (by simp)
      have d0 : w1.cell? ⟨p, 0, none⟩ = some (.slice ra L rc) := cell_heap hp1 0 rfl
      have d3 : w1.cell? ⟨p, 3, none⟩ = some (.int .i64 o) := cell_heap hp1 3 rfl
      have HP1 := Lib.hid hp1
      have HK1 := Lib.hid k1
      clear hp1 k1
      generalize chunkOf chunks reads = V at *
      by_cases hv : V < n
      · by_cases hm : V < (fail : Int) - (o : Int)
        · go_upto_region 16 with (fail)
          have hEE : (o : Int) + V = (E : Int) := by have := HE.out; unfold imin at this; omega
          rw [hEE]
          clear hEE
          have g1 : (0 : Int) ≤ (o : Int) := by omega
          have g2 : (o : Int) ≤ (E : Int) := by omega
          have g3 : (E : Int) ≤ (rc : Int) := by omega
          have g4 : ¬ rc = o := by omega
          go_region_held3 (fun w' => w'.cell? ⟨p, 0, none⟩ = some (.slice ra L rc) ∧ w'.cell? ⟨p, 3, none⟩ = some (.int .i64 o) ∧ Chg [] w w')
            (first | exact ⟨by simp [*], by simp [*], HK1.out.drew⟩ | exact keep2 ((Chg.refl _ _).alloc _) (by assumption) | exact keep2 (Chg.refl _ _).drew (keep2 ((Chg.refl _ _).alloc _) (by assumption)) | exact keepg hgr2 (by intro k hk; have h1 := HK1.out.size; simp [Value.ownBlock] at hk; omega) (lt_of_block HP.out) (by assumption))
            (first | (refine step_append_rd rfl (.tmp 93) (.tmp 103) 22 rfl w.heap.size 5 ib (.int .u8 0) 1 Try.underlying22 hib hib0 hib1 hib2 rfl (.slice (some ⟨_, 0, none⟩) 0 0) 0 [] rfl (own_empty (by simp only [heap_drew]; exact heap_new_at (by simp)) (by have h1 := HK1.out.size; omega)) (ra.map (·.add o)) (E - o) (rc - o) fp (bv ((b.drop o).take (E - o))) rfl (by rw [bv_length, List.length_take, List.length_drop, HL.out]; omega) (by rw [← bv_take, ← bv_drop]; have hh := HR.out.drop o rc (by rw [bv_length, HL.out]; exact hrc); unfold cutA at hh; rw [if_neg g4] at hh; exact (hh.take (E - o)).chg (S := []) (by go_split_ands; assumption) (by simp)) (bv_one _) (by omega) (by unfold maxLen; omega) (by go_split_ands; exact Chg.size (S := []) (w := w) (by assumption)) ?_; intro a2 c2 w2 hown2 hgr2 hat2; simp only [Nat.zero_add, List.nil_append] at hown2 hat2))
          rename_i hS
          have k2 : Chg [] w w2 := hS.2.2
          clear hS hgr2 hat2 d0 d3 g1 g2 g3 g4
          have hp2 := k2.heap HP.out (by simp)
          have d3 : w2.cell? ⟨p, 3, none⟩ = some (.int .i64 o) := cell_heap hp2 3 rfl
          have d4 : w2.cell? ⟨p, 4, none⟩ = some (.int .i64 reads) := cell_heap hp2 4 rfl
          have e3 : w2.frozen? ⟨p, 3, none⟩ = false := frozen_of_row _ _ _ _ _ hp2
          have e4 : w2.frozen? ⟨p, 4, none⟩ = false := frozen_of_row _ _ _ _ _ hp2
          have HP2 := Lib.hid hp2
          have HK2 := Lib.hid k2
          have HO2 := Lib.hid hown2
          clear hp2 k2 hown2
          go_wp2_with fail
          go_ret2
          have hh := refStep_at (E := E) (ρ := ⟨b, chunks, fail, o, reads⟩) HK2.out HR.out HC.out hpf (by rw [HL.out]; exact hrc) (by rw [HL.out]; exact HP2.out)
          exact ⟨a2, c2, rfl, own_chg HO2.out hh.2 (fun g hg => by simp; rintro rfl; exact absurd (lt_of_block HP.out) (Nat.not_lt.2 hg)), hh.1, (HK2.out.mono (by simp)).trans hh.2⟩
        · go_upto_region 16 with (fail)
          have hEE : (fail : Int) = (E : Int) := by have := HE.out; unfold imin at this; omega
          rw [hEE]
          clear hEE
          have g1 : (0 : Int) ≤ (o : Int) := by omega
          have g2 : (o : Int) ≤ (E : Int) := by omega
          have g3 : (E : Int) ≤ (rc : Int) := by omega
          have g4 : ¬ rc = o := by omega
          go_region_held3 (fun w' => w'.cell? ⟨p, 0, none⟩ = some (.slice ra L rc) ∧ w'.cell? ⟨p, 3, none⟩ = some (.int .i64 o) ∧ Chg [] w w')
            (first | exact ⟨by simp [*], by simp [*], HK1.out.drew⟩ | exact keep2 ((Chg.refl _ _).alloc _) (by assumption) | exact keep2 (Chg.refl _ _).drew (keep2 ((Chg.refl _ _).alloc _) (by assumption)) | exact keepg hgr2 (by intro k hk; have h1 := HK1.out.size; simp [Value.ownBlock] at hk; omega) (lt_of_block HP.out) (by assumption))
            (first | (refine step_append_rd rfl (.tmp 93) (.tmp 103) 22 rfl w.heap.size 5 ib (.int .u8 0) 1 Try.underlying22 hib hib0 hib1 hib2 rfl (.slice (some ⟨_, 0, none⟩) 0 0) 0 [] rfl (own_empty (by simp only [heap_drew]; exact heap_new_at (by simp)) (by have h1 := HK1.out.size; omega)) (ra.map (·.add o)) (E - o) (rc - o) fp (bv ((b.drop o).take (E - o))) rfl (by rw [bv_length, List.length_take, List.length_drop, HL.out]; omega) (by rw [← bv_take, ← bv_drop]; have hh := HR.out.drop o rc (by rw [bv_length, HL.out]; exact hrc); unfold cutA at hh; rw [if_neg g4] at hh; exact (hh.take (E - o)).chg (S := []) (by go_split_ands; assumption) (by simp)) (bv_one _) (by omega) (by unfold maxLen; omega) (by go_split_ands; exact Chg.size (S := []) (w := w) (by assumption)) ?_; intro a2 c2 w2 hown2 hgr2 hat2; simp only [Nat.zero_add, List.nil_append] at hown2 hat2))
          rename_i hS
          have k2 : Chg [] w w2 := hS.2.2
          clear hS hgr2 hat2 d0 d3 g1 g2 g3 g4
          have hp2 := k2.heap HP.out (by simp)
          have d3 : w2.cell? ⟨p, 3, none⟩ = some (.int .i64 o) := cell_heap hp2 3 rfl
          have d4 : w2.cell? ⟨p, 4, none⟩ = some (.int .i64 reads) := cell_heap hp2 4 rfl
          have e3 : w2.frozen? ⟨p, 3, none⟩ = false := frozen_of_row _ _ _ _ _ hp2
          have e4 : w2.frozen? ⟨p, 4, none⟩ = false := frozen_of_row _ _ _ _ _ hp2
          have HP2 := Lib.hid hp2
          have HK2 := Lib.hid k2
          have HO2 := Lib.hid hown2
          clear hp2 k2 hown2
          go_wp2_with fail
          go_ret2
          have hh := refStep_at (E := E) (ρ := ⟨b, chunks, fail, o, reads⟩) HK2.out HR.out HC.out hpf (by rw [HL.out]; exact hrc) (by rw [HL.out]; exact HP2.out)
          exact ⟨a2, c2, rfl, own_chg HO2.out hh.2 (fun g hg => by simp; rintro rfl; exact absurd (lt_of_block HP.out) (Nat.not_lt.2 hg)), hh.1, (HK2.out.mono (by simp)).trans hh.2⟩
      · by_cases hm : n < (fail : Int) - (o : Int)
        · go_upto_region 16 with (fail)
          have hEE : (o : Int) + n = (E : Int) := by have := HE.out; unfold imin at this; omega
          rw [hEE]
          clear hEE
          have g1 : (0 : Int) ≤ (o : Int) := by omega
          have g2 : (o : Int) ≤ (E : Int) := by omega
          have g3 : (E : Int) ≤ (rc : Int) := by omega
          have g4 : ¬ rc = o := by omega
          go_region_held3 (fun w' => w'.cell? ⟨p, 0, none⟩ = some (.slice ra L rc) ∧ w'.cell? ⟨p, 3, none⟩ = some (.int .i64 o) ∧ Chg [] w w')
            (first | exact ⟨by simp [*], by simp [*], HK1.out.drew⟩ | exact keep2 ((Chg.refl _ _).alloc _) (by assumption) | exact keep2 (Chg.refl _ _).drew (keep2 ((Chg.refl _ _).alloc _) (by assumption)) | exact keepg hgr2 (by intro k hk; have h1 := HK1.out.size; simp [Value.ownBlock] at hk; omega) (lt_of_block HP.out) (by assumption))
            (first | (refine step_append_rd rfl (.tmp 93) (.tmp 103) 22 rfl w.heap.size 5 ib (.int .u8 0) 1 Try.underlying22 hib hib0 hib1 hib2 rfl (.slice (some ⟨_, 0, none⟩) 0 0) 0 [] rfl (own_empty (by simp only [heap_drew]; exact heap_new_at (by simp)) (by have h1 := HK1.out.size; omega)) (ra.map (·.add o)) (E - o) (rc - o) fp (bv ((b.drop o).take (E - o))) rfl (by rw [bv_length, List.length_take, List.length_drop, HL.out]; omega) (by rw [← bv_take, ← bv_drop]; have hh := HR.out.drop o rc (by rw [bv_length, HL.out]; exact hrc); unfold cutA at hh; rw [if_neg g4] at hh; exact (hh.take (E - o)).chg (S := []) (by go_split_ands; assumption) (by simp)) (bv_one _) (by omega) (by unfold maxLen; omega) (by go_split_ands; exact Chg.size (S := []) (w := w) (by assumption)) ?_; intro a2 c2 w2 hown2 hgr2 hat2; simp only [Nat.zero_add, List.nil_append] at hown2 hat2))
          rename_i hS
          have k2 : Chg [] w w2 := hS.2.2
          clear hS hgr2 hat2 d0 d3 g1 g2 g3 g4
          have hp2 := k2.heap HP.out (by simp)
          have d3 : w2.cell? ⟨p, 3, none⟩ = some (.int .i64 o) := cell_heap hp2 3 rfl
          have d4 : w2.cell? ⟨p, 4, none⟩ = some (.int .i64 reads) := cell_heap hp2 4 rfl
          have e3 : w2.frozen? ⟨p, 3, none⟩ = false := frozen_of_row _ _ _ _ _ hp2
          have e4 : w2.frozen? ⟨p, 4, none⟩ = false := frozen_of_row _ _ _ _ _ hp2
          have HP2 := Lib.hid hp2
          have HK2 := Lib.hid k2
          have HO2 := Lib.hid hown2
          clear hp2 k2 hown2
          go_wp2_with fail
          go_ret2
          have hh := refStep_at (E := E) (ρ := ⟨b, chunks, fail, o, reads⟩) HK2.out HR.out HC.out hpf (by rw [HL.out]; exact hrc) (by rw [HL.out]; exact HP2.out)
          exact ⟨a2, c2, rfl, own_chg HO2.out hh.2 (fun g hg => by simp; rintro rfl; exact absurd (lt_of_block HP.out) (Nat.not_lt.2 hg)), hh.1, (HK2.out.mono (by simp)).trans hh.2⟩
        · go_upto_region 16 with (fail)
          have hEE : (fail : Int) = (E : Int) := by have := HE.out; unfold imin at this; omega
          rw [hEE]
          clear hEE
          have g1 : (0 : Int) ≤ (o : Int) := by omega
          have g2 : (o : Int) ≤ (E : Int) := by omega
          have g3 : (E : Int) ≤ (rc : Int) := by omega
          have g4 : ¬ rc = o := by omega
          go_region_held3 (fun w' => w'.cell? ⟨p, 0, none⟩ = some (.slice ra L rc) ∧ w'.cell? ⟨p, 3, none⟩ = some (.int .i64 o) ∧ Chg [] w w')
            (first | exact ⟨by simp [*], by simp [*], HK1.out.drew⟩ | exact keep2 ((Chg.refl _ _).alloc _) (by assumption) | exact keep2 (Chg.refl _ _).drew (keep2 ((Chg.refl _ _).alloc _) (by assumption)) | exact keepg hgr2 (by intro k hk; have h1 := HK1.out.size; simp [Value.ownBlock] at hk; omega) (lt_of_block HP.out) (by assumption))
            (first | (refine step_append_rd rfl (.tmp 93) (.tmp 103) 22 rfl w.heap.size 5 ib (.int .u8 0) 1 Try.underlying22 hib hib0 hib1 hib2 rfl (.slice (some ⟨_, 0, none⟩) 0 0) 0 [] rfl (own_empty (by simp only [heap_drew]; exact heap_new_at (by simp)) (by have h1 := HK1.out.size; omega)) (ra.map (·.add o)) (E - o) (rc - o) fp (bv ((b.drop o).take (E - o))) rfl (by rw [bv_length, List.length_take, List.length_drop, HL.out]; omega) (by rw [← bv_take, ← bv_drop]; have hh := HR.out.drop o rc (by rw [bv_length, HL.out]; exact hrc); unfold cutA at hh; rw [if_neg g4] at hh; exact (hh.take (E - o)).chg (S := []) (by go_split_ands; assumption) (by simp)) (bv_one _) (by omega) (by unfold maxLen; omega) (by go_split_ands; exact Chg.size (S := []) (w := w) (by assumption)) ?_; intro a2 c2 w2 hown2 hgr2 hat2; simp only [Nat.zero_add, List.nil_append] at hown2 hat2))
          rename_i hS
          have k2 : Chg [] w w2 := hS.2.2
          clear hS hgr2 hat2 d0 d3 g1 g2 g3 g4
          have hp2 := k2.heap HP.out (by simp)
          have d3 : w2.cell? ⟨p, 3, none⟩ = some (.int .i64 o) := cell_heap hp2 3 rfl
          have d4 : w2.cell? ⟨p, 4, none⟩ = some (.int .i64 reads) := cell_heap hp2 4 rfl
          have e3 : w2.frozen? ⟨p, 3, none⟩ = false := frozen_of_row _ _ _ _ _ hp2
          have e4 : w2.frozen? ⟨p, 4, none⟩ = false := frozen_of_row _ _ _ _ _ hp2
          have HP2 := Lib.hid hp2
          have HK2 := Lib.hid k2
          have HO2 := Lib.hid hown2
          clear hp2 k2 hown2
          go_wp2_with fail
          go_ret2
          have hh := refStep_at (E := E) (ρ := ⟨b, chunks, fail, o, reads⟩) HK2.out HR.out HC.out hpf (by rw [HL.out]; exact hrc) (by rw [HL.out]; exact HP2.out)
          exact ⟨a2, c2, rfl, own_chg HO2.out hh.2 (fun g hg => by simp; rintro rfl; exact absurd (lt_of_block HP.out) (Nat.not_lt.2 hg)), hh.1, (HK2.out.mono (by simp)).trans hh.2⟩
    · go_upto_region 11 with (fail)
      go_region_held3 (fun w' => w'.cell? ⟨p, 1, none⟩ = some (.slice ca chunks.length cc) ∧ w'.cell? ⟨p, 2, none⟩ = some (.int .i64 fail) ∧ w'.cell? ⟨p, 4, none⟩ = some (.int .i64 reads) ∧ Chg [] w w')
        (first | exact ⟨by simp [*], by simp [*], by simp [*], ((Chg.refl _ _).drewN _).drew⟩ | exact keep3 hk1 (by assumption))
        (first | (go_at_call 62; refine (refChunk _ ca cc chunks fp fail reads (HC.out.chg (S := []) (by go_split_ands; assumption) (by simp)) hr hl).mono ?_; rintro e w1 ⟨rfl, hk1⟩))
      rename_i hS
      have k1 : Chg [] w w1 := hS.2.2.2
      clear hS hk1 c0 c1 c2 c3 c4
      have hp1 := k1.heap HP.out (by simp)
      have d0 : w1.cell? ⟨p, 0, none⟩ = some (.slice ra L rc) := cell_heap hp1 0 rfl
      have d3 : w1.cell? ⟨p, 3, none⟩ = some (.int .i64 o) := cell_heap hp1 3 rfl
      have HP1 := Lib.hid hp1
      have HK1 := Lib.hid k1
      clear hp1 k1
      generalize chunkOf chunks reads = V at *
      by_cases hv : V < n
      · by_cases hm : V < (L : Int) - (o : Int)
        · go_upto_region 16 with (fail)
          have hEE : (o : Int) + V = (E : Int) := by have := HE.out; unfold imin at this; omega
          rw [hEE]
          clear hEE
          have g1 : (0 : Int) ≤ (o : Int) := by omega
          have g2 : (o : Int) ≤ (E : Int) := by omega
          have g3 : (E : Int) ≤ (rc : Int) := by omega
          have g4 : ¬ rc = o := by omega
          go_region_held3 (fun w' => w'.cell? ⟨p, 0, none⟩ = some (.slice ra L rc) ∧ w'.cell? ⟨p, 3, none⟩ = some (.int .i64 o) ∧ Chg [] w w')
            (first | exact ⟨by simp [*], by simp [*], HK1.out.drew⟩ | exact keep2 ((Chg.refl _ _).alloc _) (by assumption) | exact keep2 (Chg.refl _ _).drew (keep2 ((Chg.refl _ _).alloc _) (by assumption)) | exact keepg hgr2 (by intro k hk; have h1 := HK1.out.size; simp [Value.ownBlock] at hk; omega) (lt_of_block HP.out) (by assumption))
            (first | (refine step_append_rd rfl (.tmp 93) (.tmp 103) 22 rfl w.heap.size 5 ib (.int .u8 0) 1 Try.underlying22 hib hib0 hib1 hib2 rfl (.slice (some ⟨_, 0, none⟩) 0 0) 0 [] rfl (own_empty (by simp only [heap_drew]; exact heap_new_at (by simp)) (by have h1 := HK1.out.size; omega)) (ra.map (·.add o)) (E - o) (rc - o) fp (bv ((b.drop o).take (E - o))) rfl (by rw [bv_length, List.length_take, List.length_drop, HL.out]; omega) (by rw [← bv_take, ← bv_drop]; have hh := HR.out.drop o rc (by rw [bv_length, HL.out]; exact hrc); unfold cutA at hh; rw [if_neg g4] at hh; exact (hh.take (E - o)).chg (S := []) (by go_split_ands; assumption) (by simp)) (bv_one _) (by omega) (by unfold maxLen; omega) (by go_split_ands; exact Chg.size (S := []) (w := w) (by assumption)) ?_; intro a2 c2 w2 hown2 hgr2 hat2; simp only [Nat.zero_add, List.nil_append] at hown2 hat2))
          rename_i hS
          have k2 : Chg [] w w2 := hS.2.2
          clear hS hgr2 hat2 d0 d3 g1 g2 g3 g4
          have hp2 := k2.heap HP.out (by simp)
          have d3 : w2.cell? ⟨p, 3, none⟩ = some (.int .i64 o) := cell_heap hp2 3 rfl
          have d4 : w2.cell? ⟨p, 4, none⟩ = some (.int .i64 reads) := cell_heap hp2 4 rfl
          have e3 : w2.frozen? ⟨p, 3, none⟩ = false := frozen_of_row _ _ _ _ _ hp2
          have e4 : w2.frozen? ⟨p, 4, none⟩ = false := frozen_of_row _ _ _ _ _ hp2
          have HP2 := Lib.hid hp2
          have HK2 := Lib.hid k2
          have HO2 := Lib.hid hown2
          clear hp2 k2 hown2
          go_wp2_with fail
          go_ret2
          have hh := refStep_at (E := E) (ρ := ⟨b, chunks, fail, o, reads⟩) HK2.out HR.out HC.out hpf (by rw [HL.out]; exact hrc) (by rw [HL.out]; exact HP2.out)
          exact ⟨a2, c2, rfl, own_chg HO2.out hh.2 (fun g hg => by simp; rintro rfl; exact absurd (lt_of_block HP.out) (Nat.not_lt.2 hg)), hh.1, (HK2.out.mono (by simp)).trans hh.2⟩
        · go_upto_region 16 with (fail)
          have hEE : (L : Int) = (E : Int) := by have := HE.out; unfold imin at this; omega
          rw [hEE]
          clear hEE
          have g1 : (0 : Int) ≤ (o : Int) := by omega
          have g2 : (o : Int) ≤ (E : Int) := by omega
          have g3 : (E : Int) ≤ (rc : Int) := by omega
          have g4 : ¬ rc = o := by omega
          go_region_held3 (fun w' => w'.cell? ⟨p, 0, none⟩ = some (.slice ra L rc) ∧ w'.cell? ⟨p, 3, none⟩ = some (.int .i64 o) ∧ Chg [] w w')
            (first | exact ⟨by simp [*], by simp [*], HK1.out.drew⟩ | exact keep2 ((Chg.refl _ _).alloc _) (by assumption) | exact keep2 (Chg.refl _ _).drew (keep2 ((Chg.refl _ _).alloc _) (by assumption)) | exact keepg hgr2 (by intro k hk; have h1 := HK1.out.size; simp [Value.ownBlock] at hk; omega) (lt_of_block HP.out) (by assumption))
            (first | (refine step_append_rd rfl (.tmp 93) (.tmp 103) 22 rfl w.heap.size 5 ib (.int .u8 0) 1 Try.underlying22 hib hib0 hib1 hib2 rfl (.slice (some ⟨_, 0, none⟩) 0 0) 0 [] rfl (own_empty (by simp only [heap_drew]; exact heap_new_at (by simp)) (by have h1 := HK1.out.size; omega)) (ra.map (·.add o)) (E - o) (rc - o) fp (bv ((b.drop o).take (E - o))) rfl (by rw [bv_length, List.length_take, List.length_drop, HL.out]; omega) (by rw [← bv_take, ← bv_drop]; have hh := HR.out.drop o rc (by rw [bv_length, HL.out]; exact hrc); unfold cutA at hh; rw [if_neg g4] at hh; exact (hh.take (E - o)).chg (S := []) (by go_split_ands; assumption) (by simp)) (bv_one _) (by omega) (by unfold maxLen; omega) (by go_split_ands; exact Chg.size (S := []) (w := w) (by assumption)) ?_; intro a2 c2 w2 hown2 hgr2 hat2; simp only [Nat.zero_add, List.nil_append] at hown2 hat2))
          rename_i hS
          have k2 : Chg [] w w2 := hS.2.2
          clear hS hgr2 hat2 d0 d3 g1 g2 g3 g4
          have hp2 := k2.heap HP.out (by simp)
          have d3 : w2.cell? ⟨p, 3, none⟩ = some (.int .i64 o) := cell_heap hp2 3 rfl
          have d4 : w2.cell? ⟨p, 4, none⟩ = some (.int .i64 reads) := cell_heap hp2 4 rfl
          have e3 : w2.frozen? ⟨p, 3, none⟩ = false := frozen_of_row _ _ _ _ _ hp2
          have e4 : w2.frozen? ⟨p, 4, none⟩ = false := frozen_of_row _ _ _ _ _ hp2
          have HP2 := Lib.hid hp2
          have HK2 := Lib.hid k2
          have HO2 := Lib.hid hown2
          clear hp2 k2 hown2
          go_wp2_with fail
          go_ret2
          have hh := refStep_at (E := E) (ρ := ⟨b, chunks, fail, o, reads⟩) HK2.out HR.out HC.out hpf (by rw [HL.out]; exact hrc) (by rw [HL.out]; exact HP2.out)
          exact ⟨a2, c2, rfl, own_chg HO2.out hh.2 (fun g hg => by simp; rintro rfl; exact absurd (lt_of_block HP.out) (Nat.not_lt.2 hg)), hh.1, (HK2.out.mono (by simp)).trans hh.2⟩
      · by_cases hm : n < (L : Int) - (o : Int)
        · go_upto_region 16 with (fail)
          have hEE : (o : Int) + n = (E : Int) := by have := HE.out; unfold imin at this; omega
          rw [hEE]
          clear hEE
          have g1 : (0 : Int) ≤ (o : Int) := by omega
          have g2 : (o : Int) ≤ (E : Int) := by omega
          have g3 : (E : Int) ≤ (rc : Int) := by omega
          have g4 : ¬ rc = o := by omega
          go_region_held3 (fun w' => w'.cell? ⟨p, 0, none⟩ = some (.slice ra L rc) ∧ w'.cell? ⟨p, 3, none⟩ = some (.int .i64 o) ∧ Chg [] w w')
            (first | exact ⟨by simp [*], by simp [*], HK1.out.drew⟩ | exact keep2 ((Chg.refl _ _).alloc _) (by assumption) | exact keep2 (Chg.refl _ _).drew (keep2 ((Chg.refl _ _).alloc _) (by assumption)) | exact keepg hgr2 (by intro k hk; have h1 := HK1.out.size; simp [Value.ownBlock] at hk; omega) (lt_of_block HP.out) (by assumption))
            (first | (refine step_append_rd rfl (.tmp 93) (.tmp 103) 22 rfl w.heap.size 5 ib (.int .u8 0) 1 Try.underlying22 hib hib0 hib1 hib2 rfl (.slice (some ⟨_, 0, none⟩) 0 0) 0 [] rfl (own_empty (by simp only [heap_drew]; exact heap_new_at (by simp)) (by have h1 := HK1.out.size; omega)) (ra.map (·.add o)) (E - o) (rc - o) fp (bv ((b.drop o).take (E - o))) rfl (by rw [bv_length, List.length_take, List.length_drop, HL.out]; omega) (by rw [← bv_take, ← bv_drop]; have hh := HR.out.drop o rc (by rw [bv_length, HL.out]; exact hrc); unfold cutA at hh; rw [if_neg g4] at hh; exact (hh.take (E - o)).chg (S := []) (by go_split_ands; assumption) (by simp)) (bv_one _) (by omega) (by unfold maxLen; omega) (by go_split_ands; exact Chg.size (S := []) (w := w) (by assumption)) ?_; intro a2 c2 w2 hown2 hgr2 hat2; simp only [Nat.zero_add, List.nil_append] at hown2 hat2))
          rename_i hS
          have k2 : Chg [] w w2 := hS.2.2
          clear hS hgr2 hat2 d0 d3 g1 g2 g3 g4
          have hp2 := k2.heap HP.out (by simp)
          have d3 : w2.cell? ⟨p, 3, none⟩ = some (.int .i64 o) := cell_heap hp2 3 rfl
          have d4 : w2.cell? ⟨p, 4, none⟩ = some (.int .i64 reads) := cell_heap hp2 4 rfl
          have e3 : w2.frozen? ⟨p, 3, none⟩ = false := frozen_of_row _ _ _ _ _ hp2
          have e4 : w2.frozen? ⟨p, 4, none⟩ = false := frozen_of_row _ _ _ _ _ hp2
          have HP2 := Lib.hid hp2
          have HK2 := Lib.hid k2
          have HO2 := Lib.hid hown2
          clear hp2 k2 hown2
          go_wp2_with fail
          go_ret2
          have hh := refStep_at (E := E) (ρ := ⟨b, chunks, fail, o, reads⟩) HK2.out HR.out HC.out hpf (by rw [HL.out]; exact hrc) (by rw [HL.out]; exact HP2.out)
          exact ⟨a2, c2, rfl, own_chg HO2.out hh.2 (fun g hg => by simp; rintro rfl; exact absurd (lt_of_block HP.out) (Nat.not_lt.2 hg)), hh.1, (HK2.out.mono (by simp)).trans hh.2⟩
        · go_upto_region 16 with (fail)
          have hEE : (L : Int) = (E : Int) := by have := HE.out; unfold imin at this; omega
          rw [hEE]
          clear hEE
          have g1 : (0 : Int) ≤ (o : Int) := by omega
          have g2 : (o : Int) ≤ (E : Int) := by omega
          have g3 : (E : Int) ≤ (rc : Int) := by omega
          have g4 : ¬ rc = o := by omega
          go_region_held3 (fun w' => w'.cell? ⟨p, 0, none⟩ = some (.slice ra L rc) ∧ w'.cell? ⟨p, 3, none⟩ = some (.int .i64 o) ∧ Chg [] w w')
            (first | exact ⟨by simp [*], by simp [*], HK1.out.drew⟩ | exact keep2 ((Chg.refl _ _).alloc _) (by assumption) | exact keep2 (Chg.refl _ _).drew (keep2 ((Chg.refl _ _).alloc _) (by assumption)) | exact keepg hgr2 (by intro k hk; have h1 := HK1.out.size; simp [Value.ownBlock] at hk; omega) (lt_of_block HP.out) (by assumption))
            (first | (refine step_append_rd rfl (.tmp 93) (.tmp 103) 22 rfl w.heap.size 5 ib (.int .u8 0) 1 Try.underlying22 hib hib0 hib1 hib2 rfl (.slice (some ⟨_, 0, none⟩) 0 0) 0 [] rfl (own_empty (by simp only [heap_drew]; exact heap_new_at (by simp)) (by have h1 := HK1.out.size; omega)) (ra.map (·.add o)) (E - o) (rc - o) fp (bv ((b.drop o).take (E - o))) rfl (by rw [bv_length, List.length_take, List.length_drop, HL.out]; omega) (by rw [← bv_take, ← bv_drop]; have hh := HR.out.drop o rc (by rw [bv_length, HL.out]; exact hrc); unfold cutA at hh; rw [if_neg g4] at hh; exact (hh.take (E - o)).chg (S := []) (by go_split_ands; assumption) (by simp)) (bv_one _) (by omega) (by unfold maxLen; omega) (by go_split_ands; exact Chg.size (S := []) (w := w) (by assumption)) ?_; intro a2 c2 w2 hown2 hgr2 hat2; simp only [Nat.zero_add, List.nil_append] at hown2 hat2))
          rename_i hS
          have k2 : Chg [] w w2 := hS.2.2
          clear hS hgr2 hat2 d0 d3 g1 g2 g3 g4
          have hp2 := k2.heap HP.out (by simp)
          have d3 : w2.cell? ⟨p, 3, none⟩ = some (.int .i64 o) := cell_heap hp2 3 rfl
          have d4 : w2.cell? ⟨p, 4, none⟩ = some (.int .i64 reads) := cell_heap hp2 4 rfl
          have e3 : w2.frozen? ⟨p, 3, none⟩ = false := frozen_of_row _ _ _ _ _ hp2
          have e4 : w2.frozen? ⟨p, 4, none⟩ = false := frozen_of_row _ _ _ _ _ hp2
          have HP2 := Lib.hid hp2
          have HK2 := Lib.hid k2
          have HO2 := Lib.hid hown2
          clear hp2 k2 hown2
          go_wp2_with fail
          go_ret2
          have hh := refStep_at (E := E) (ρ := ⟨b, chunks, fail, o, reads⟩) HK2.out HR.out HC.out hpf (by rw [HL.out]; exact hrc) (by rw [HL.out]; exact HP2.out)
          exact ⟨a2, c2, rfl, own_chg HO2.out hh.2 (fun g hg => by simp; rintro rfl; exact absurd (lt_of_block HP.out) (Nat.not_lt.2 hg)), hh.1, (HK2.out.mono (by simp)).trans hh.2⟩
  · have hf1 : decide (0 ≤ fail) = false := by simpa using hf
    clear h3
    go_enter Try.func29, Try.ntmps29
    go_wp2_with fail
    go_quiet (fail)
    go_wp2_with fail
    go_quiet (fail)
    go_upto_region 11 with (fail)
    go_region_held3 (fun w' => w'.cell? ⟨p, 1, none⟩ = some (.slice ca chunks.length cc) ∧ w'.cell? ⟨p, 2, none⟩ = some (.int .i64 fail) ∧ w'.cell? ⟨p, 4, none⟩ = some (.int .i64 reads) ∧ Chg [] w w')
      (first | exact ⟨by simp [*], by simp [*], by simp [*], ((Chg.refl _ _).drewN _).drew⟩ | exact keep3 hk1 (by assumption))
      (first | (go_at_call 62; refine (refChunk _ ca cc chunks fp fail reads (HC.out.chg (S := []) (by go_split_ands; assumption) (by simp)) hr hl).mono ?_; rintro e w1 ⟨rfl, hk1⟩))
    rename_i hS
    have k1 : Chg [] w w1 := hS.2.2.2
    clear hS hk1 c0 c1 c2 c3 c4
    have hp1 := k1.heap HP.out (by simp)
    have d0 : w1.cell? ⟨p, 0, none⟩ = some (.slice ra L rc) := cell_heap hp1 0 rfl
    have d3 : w1.cell? ⟨p, 3, none⟩ = some (.int .i64 o) := cell_heap hp1 3 rfl
    have HP1 := Lib.hid hp1
    have HK1 := Lib.hid k1
    clear hp1 k1
    generalize chunkOf chunks reads = V at *
    by_cases hv : V < n
    · by_cases hm : V < (L : Int) - (o : Int)
      · go_upto_region 16 with (fail)
        have hEE : (o : Int) + V = (E : Int) := by have := HE.out; unfold imin at this; omega
        rw [hEE]
        clear hEE
        have g1 : (0 : Int) ≤ (o : Int) := by omega
        have g2 : (o : Int) ≤ (E : Int) := by omega
        have g3 : (E : Int) ≤ (rc : Int) := by omega
        have g4 : ¬ rc = o := by omega
        go_region_held3 (fun w' => w'.cell? ⟨p, 0, none⟩ = some (.slice ra L rc) ∧ w'.cell? ⟨p, 3, none⟩ = some (.int .i64 o) ∧ Chg [] w w')
          (first | exact ⟨by simp [*], by simp [*], HK1.out.drew⟩ | exact keep2 ((Chg.refl _ _).alloc _) (by assumption) | exact keep2 (Chg.refl _ _).drew (keep2 ((Chg.refl _ _).alloc _) (by assumption)) | exact keepg hgr2 (by intro k hk; have h1 := HK1.out.size; simp [Value.ownBlock] at hk; omega) (lt_of_block HP.out) (by assumption))
          (first | (refine step_append_rd rfl (.tmp 93) (.tmp 103) 22 rfl w.heap.size 5 ib (.int .u8 0) 1 Try.underlying22 hib hib0 hib1 hib2 rfl (.slice (some ⟨_, 0, none⟩) 0 0) 0 [] rfl (own_empty (by simp only [heap_drew]; exact heap_new_at (by simp)) (by have h1 := HK1.out.size; omega)) (ra.map (·.add o)) (E - o) (rc - o) fp (bv ((b.drop o).take (E - o))) rfl (by rw [bv_length, List.length_take, List.length_drop, HL.out]; omega) (by rw [← bv_take, ← bv_drop]; have hh := HR.out.drop o rc (by rw [bv_length, HL.out]; exact hrc); unfold cutA at hh; rw [if_neg g4] at hh; exact (hh.take (E - o)).chg (S := []) (by go_split_ands; assumption) (by simp)) (bv_one _) (by omega) (by unfold maxLen; omega) (by go_split_ands; exact Chg.size (S := []) (w := w) (by assumption)) ?_; intro a2 c2 w2 hown2 hgr2 hat2; simp only [Nat.zero_add, List.nil_append] at hown2 hat2))
        rename_i hS
        have k2 : Chg [] w w2 := hS.2.2
        clear hS hgr2 hat2 d0 d3 g1 g2 g3 g4
        have hp2 := k2.heap HP.out (by simp)
        have d3 : w2.cell? ⟨p, 3, none⟩ = some (.int .i64 o) := cell_heap hp2 3 rfl
        have d4 : w2.cell? ⟨p, 4, none⟩ = some (.int .i64 reads) := cell_heap hp2 4 rfl
        have e3 : w2.frozen? ⟨p, 3, none⟩ = false := frozen_of_row _ _ _ _ _ hp2
        have e4 : w2.frozen? ⟨p, 4, none⟩ = false := frozen_of_row _ _ _ _ _ hp2
        have HP2 := Lib.hid hp2
        have HK2 := Lib.hid k2
        have HO2 := Lib.hid hown2
        clear hp2 k2 hown2
        go_wp2_with fail
        go_ret2
        have hh := refStep_at (E := E) (ρ := ⟨b, chunks, fail, o, reads⟩) HK2.out HR.out HC.out hpf (by rw [HL.out]; exact hrc) (by rw [HL.out]; exact HP2.out)
        exact ⟨a2, c2, rfl, own_chg HO2.out hh.2 (fun g hg => by simp; rintro rfl; exact absurd (lt_of_block HP.out) (Nat.not_lt.2 hg)), hh.1, (HK2.out.mono (by simp)).trans hh.2⟩
      · go_upto_region 16 with (fail)
        have hEE : (L : Int) = (E : Int) := by have := HE.out; unfold imin at this; omega
        rw [hEE]
        clear hEE
        have g1 : (0 : Int) ≤ (o : Int) := by omega
        have g2 : (o : Int) ≤ (E : Int) := by omega
        have g3 : (E : Int) ≤ (rc : Int) := by omega
        have g4 : ¬ rc = o := by omega
        go_region_held3 (fun w' => w'.cell? ⟨p, 0, none⟩ = some (.slice ra L rc) ∧ w'.cell? ⟨p, 3, none⟩ = some (.int .i64 o) ∧ Chg [] w w')
          (first | exact ⟨by simp [*], by simp [*], HK1.out.drew⟩ | exact keep2 ((Chg.refl _ _).alloc _) (by assumption) | exact keep2 (Chg.refl _ _).drew (keep2 ((Chg.refl _ _).alloc _) (by assumption)) | exact keepg hgr2 (by intro k hk; have h1 := HK1.out.size; simp [Value.ownBlock] at hk; omega) (lt_of_block HP.out) (by assumption))
          (first | (refine step_append_rd rfl (.tmp 93) (.tmp 103) 22 rfl w.heap.size 5 ib (.int .u8 0) 1 Try.underlying22 hib hib0 hib1 hib2 rfl (.slice (some ⟨_, 0, none⟩) 0 0) 0 [] rfl (own_empty (by simp only [heap_drew]; exact heap_new_at (by simp)) (by have h1 := HK1.out.size; omega)) (ra.map (·.add o)) (E - o) (rc - o) fp (bv ((b.drop o).take (E - o))) rfl (by rw [bv_length, List.length_take, List.length_drop, HL.out]; omega) (by rw [← bv_take, ← bv_drop]; have hh := HR.out.drop o rc (by rw [bv_length, HL.out]; exact hrc); unfold cutA at hh; rw [if_neg g4] at hh; exact (hh.take (E - o)).chg (S := []) (by go_split_ands; assumption) (by simp)) (bv_one _) (by omega) (by unfold maxLen; omega) (by go_split_ands; exact Chg.size (S := []) (w := w) (by assumption)) ?_; intro a2 c2 w2 hown2 hgr2 hat2; simp only [Nat.zero_add, List.nil_append] at hown2 hat2))
        rename_i hS
        have k2 : Chg [] w w2 := hS.2.2
        clear hS hgr2 hat2 d0 d3 g1 g2 g3 g4
        have hp2 := k2.heap HP.out (by simp)
        have d3 : w2.cell? ⟨p, 3, none⟩ = some (.int .i64 o) := cell_heap hp2 3 rfl
        have d4 : w2.cell? ⟨p, 4, none⟩ = some (.int .i64 reads) := cell_heap hp2 4 rfl
        have e3 : w2.frozen? ⟨p, 3, none⟩ = false := frozen_of_row _ _ _ _ _ hp2
        have e4 : w2.frozen? ⟨p, 4, none⟩ = false := frozen_of_row _ _ _ _ _ hp2
        have HP2 := Lib.hid hp2
        have HK2 := Lib.hid k2
        have HO2 := Lib.hid hown2
        clear hp2 k2 hown2
        go_wp2_with fail
        go_ret2
        have hh := refStep_at (E := E) (ρ := ⟨b, chunks, fail, o, reads⟩) HK2.out HR.out HC.out hpf (by rw [HL.out]; exact hrc) (by rw [HL.out]; exact HP2.out)
        exact ⟨a2, c2, rfl, own_chg HO2.out hh.2 (fun g hg => by simp; rintro rfl; exact absurd (lt_of_block HP.out) (Nat.not_lt.2 hg)), hh.1, (HK2.out.mono (by simp)).trans hh.2⟩
    · by_cases hm : n < (L : Int) - (o : Int)
      · go_upto_region 16 with (fail)
        have hEE : (o : Int) + n = (E : Int) := by have := HE.out; unfold imin at this; omega
        rw [hEE]
        clear hEE
        have g1 : (0 : Int) ≤ (o : Int) := by omega
        have g2 : (o : Int) ≤ (E : Int) := by omega
        have g3 : (E : Int) ≤ (rc : Int) := by omega
        have g4 : ¬ rc = o := by omega
        go_region_held3 (fun w' => w'.cell? ⟨p, 0, none⟩ = some (.slice ra L rc) ∧ w'.cell? ⟨p, 3, none⟩ = some (.int .i64 o) ∧ Chg [] w w')
          (first | exact ⟨by simp [*], by simp [*], HK1.out.drew⟩ | exact keep2 ((Chg.refl _ _).alloc _) (by assumption) | exact keep2 (Chg.refl _ _).drew (keep2 ((Chg.refl _ _).alloc _) (by assumption)) | exact keepg hgr2 (by intro k hk; have h1 := HK1.out.size; simp [Value.ownBlock] at hk; omega) (lt_of_block HP.out) (by assumption))
          (first | (refine step_append_rd rfl (.tmp 93) (.tmp 103) 22 rfl w.heap.size 5 ib (.int .u8 0) 1 Try.underlying22 hib hib0 hib1 hib2 rfl (.slice (some ⟨_, 0, none⟩) 0 0) 0 [] rfl (own_empty (by simp only [heap_drew]; exact heap_new_at (by simp)) (by have h1 := HK1.out.size; omega)) (ra.map (·.add o)) (E - o) (rc - o) fp (bv ((b.drop o).take (E - o))) rfl (by rw [bv_length, List.length_take, List.length_drop, HL.out]; omega) (by rw [← bv_take, ← bv_drop]; have hh := HR.out.drop o rc (by rw [bv_length, HL.out]; exact hrc); unfold cutA at hh; rw [if_neg g4] at hh; exact (hh.take (E - o)).chg (S := []) (by go_split_ands; assumption) (by simp)) (bv_one _) (by omega) (by unfold maxLen; omega) (by go_split_ands; exact Chg.size (S := []) (w := w) (by assumption)) ?_; intro a2 c2 w2 hown2 hgr2 hat2; simp only [Nat.zero_add, List.nil_append] at hown2 hat2))
        rename_i hS
        have k2 : Chg [] w w2 := hS.2.2
        clear hS hgr2 hat2 d0 d3 g1 g2 g3 g4
        have hp2 := k2.heap HP.out (by simp)
        have d3 : w2.cell? ⟨p, 3, none⟩ = some (.int .i64 o) := cell_heap hp2 3 rfl
        have d4 : w2.cell? ⟨p, 4, none⟩ = some (.int .i64 reads) := cell_heap hp2 4 rfl
        have e3 : w2.frozen? ⟨p, 3, none⟩ = false := frozen_of_row _ _ _ _ _ hp2
        have e4 : w2.frozen? ⟨p, 4, none⟩ = false := frozen_of_row _ _ _ _ _ hp2
        have HP2 := Lib.hid hp2
        have HK2 := Lib.hid k2
        have HO2 := Lib.hid hown2
        clear hp2 k2 hown2
        go_wp2_with fail
        go_ret2
        have hh := refStep_at (E := E) (ρ := ⟨b, chunks, fail, o, reads⟩) HK2.out HR.out HC.out hpf (by rw [HL.out]; exact hrc) (by rw [HL.out]; exact HP2.out)
        exact ⟨a2, c2, rfl, own_chg HO2.out hh.2 (fun g hg => by simp; rintro rfl; exact absurd (lt_of_block HP.out) (Nat.not_lt.2 hg)), hh.1, (HK2.out.mono (by simp)).trans hh.2⟩
      · go_upto_region 16 with (fail)
        have hEE : (L : Int) = (E : Int) := by have := HE.out; unfold imin at this; omega
        rw [hEE]
        clear hEE
        have g1 : (0 : Int) ≤ (o : Int) := by omega
        have g2 : (o : Int) ≤ (E : Int) := by omega
        have g3 : (E : Int) ≤ (rc : Int) := by omega
        have g4 : ¬ rc = o := by omega
        go_region_held3 (fun w' => w'.cell? ⟨p, 0, none⟩ = some (.slice ra L rc) ∧ w'.cell? ⟨p, 3, none⟩ = some (.int .i64 o) ∧ Chg [] w w')
          (first | exact ⟨by simp [*], by simp [*], HK1.out.drew⟩ | exact keep2 ((Chg.refl _ _).alloc _) (by assumption) | exact keep2 (Chg.refl _ _).drew (keep2 ((Chg.refl _ _).alloc _) (by assumption)) | exact keepg hgr2 (by intro k hk; have h1 := HK1.out.size; simp [Value.ownBlock] at hk; omega) (lt_of_block HP.out) (by assumption))
          (first | (refine step_append_rd rfl (.tmp 93) (.tmp 103) 22 rfl w.heap.size 5 ib (.int .u8 0) 1 Try.underlying22 hib hib0 hib1 hib2 rfl (.slice (some ⟨_, 0, none⟩) 0 0) 0 [] rfl (own_empty (by simp only [heap_drew]; exact heap_new_at (by simp)) (by have h1 := HK1.out.size; omega)) (ra.map (·.add o)) (E - o) (rc - o) fp (bv ((b.drop o).take (E - o))) rfl (by rw [bv_length, List.length_take, List.length_drop, HL.out]; omega) (by rw [← bv_take, ← bv_drop]; have hh := HR.out.drop o rc (by rw [bv_length, HL.out]; exact hrc); unfold cutA at hh; rw [if_neg g4] at hh; exact (hh.take (E - o)).chg (S := []) (by go_split_ands; assumption) (by simp)) (bv_one _) (by omega) (by unfold maxLen; omega) (by go_split_ands; exact Chg.size (S := []) (w := w) (by assumption)) ?_; intro a2 c2 w2 hown2 hgr2 hat2; simp only [Nat.zero_add, List.nil_append] at hown2 hat2))
        rename_i hS
        have k2 : Chg [] w w2 := hS.2.2
        clear hS hgr2 hat2 d0 d3 g1 g2 g3 g4
        have hp2 := k2.heap HP.out (by simp)
        have d3 : w2.cell? ⟨p, 3, none⟩ = some (.int .i64 o) := cell_heap hp2 3 rfl
        have d4 : w2.cell? ⟨p, 4, none⟩ = some (.int .i64 reads) := cell_heap hp2 4 rfl
        have e3 : w2.frozen? ⟨p, 3, none⟩ = false := frozen_of_row _ _ _ _ _ hp2
        have e4 : w2.frozen? ⟨p, 4, none⟩ = false := frozen_of_row _ _ _ _ _ hp2
        have HP2 := Lib.hid hp2
        have HK2 := Lib.hid k2
        have HO2 := Lib.hid hown2
        clear hp2 k2 hown2
        go_wp2_with fail
        go_ret2
        have hh := refStep_at (E := E) (ρ := ⟨b, chunks, fail, o, reads⟩) HK2.out HR.out HC.out hpf (by rw [HL.out]; exact hrc) (by rw [HL.out]; exact HP2.out)
        exact ⟨a2, c2, rfl, own_chg HO2.out hh.2 (fun g hg => by simp; rintro rfl; exact absurd (lt_of_block HP.out) (Nat.not_lt.2 hg)), hh.1, (HK2.out.mono (by simp)).trans hh.2⟩
end Go.Proofs.Ytljlcigbehgohaa
