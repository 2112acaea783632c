/- paxtarlaw04.SourceIsolated. -/
import Derived.Test.YtljlcigbehgohaaLawB
namespace Go.Pax
open Go.RowKit
/-- A block of integers that may be scribbled over. -/
def Scr (w : World) (g : Nat) (e : TypeId) (k : IntKind) (n : Nat) : Prop := ∃ cur, w.heap[g]? = some (.cells cur e (0, 0)) ∧ ∀ j, j < n → ∃ z, cur[j]? = some (.int k z)
theorem Scr.cell {w : World} {g n : Nat} {e : TypeId} {k : IntKind} (h : Scr w g e k n) {j : Nat} (hj : j < n) : ∃ z, w.cell? ⟨g, j, none⟩ = some (.int k z) := by
  obtain ⟨cur, hg, hc⟩ := h
  obtain ⟨z, hz⟩ := hc j hj
  exact ⟨z, by rw [cell_of_row w g j cur e _ hg, hz]⟩
theorem Scr.free {w : World} {g n : Nat} {e : TypeId} {k : IntKind} (h : Scr w g e k n) (j : Nat) : w.frozen? ⟨g, j, none⟩ = false := by
  obtain ⟨cur, hg, _⟩ := h
  exact frozen_of_row w g j cur e hg
theorem Scr.set {w : World} {g n : Nat} {e : TypeId} {k : IntKind} (h : Scr w g e k n) (j : Nat) (z : Int) : Scr (w.setCell ⟨g, j, none⟩ (.int k z)) g e k n := by
  obtain ⟨cur, hg, hc⟩ := h
  refine ⟨_, heap_set hg j (.int k z) rfl, fun i hi => ?_⟩
  obtain ⟨y, hy⟩ := hc i hi
  rw [Array.getElem?_setIfInBounds]
  split
  · split
    · exact ⟨z, rfl⟩
    · rename_i h1 h2; subst h1; rw [Array.getElem?_eq_none (by omega)] at hy; cases hy
  · exact ⟨y, hy⟩
theorem Scr.chg {w w' : World} {g n : Nat} {e : TypeId} {k : IntKind} {S : List Nat} (h : Scr w g e k n) (hc : Chg S w w') (hS : g ∉ S) : Scr w' g e k n := by
  obtain ⟨cur, hg, h2⟩ := h
  exact ⟨cur, hc.heap hg hS, h2⟩
theorem Scr.of_own {w : World} {g n cap base : Nat} {e : TypeId} {k : IntKind} {xs : List Value} (h : w.ownsRow base e 1 (.slice (some ⟨g, 0, none⟩) n cap) n xs) (hx : ∀ u ∈ xs, ∃ z, u = .int k z) : Scr w g e k n := by
  rcases h.2 with ⟨h', _⟩ | ⟨g', cap', cur, h', _, hg, _, _, _, htake⟩
  · simp at h'
  · simp only [Value.slice.injEq, Option.some.injEq, Addr.mk.injEq, and_true, true_and] at h'
    obtain ⟨rfl, rfl⟩ := h'
    refine ⟨cur, hg, fun j hj => ?_⟩
    have hl := h.1
    have hlt : j < xs.length := by omega
    obtain ⟨z, hz⟩ := hx xs[j] (List.getElem_mem hlt)
    refine ⟨z, ?_⟩
    have : xs[j]? = some (.int k z) := by rw [List.getElem?_eq_getElem hlt, hz]
    rw [← htake, List.getElem?_take] at this
    split at this
    · simpa using this
    · cases this
/-- An owned value with elements has a block. -/
theorem own_block {w : World} {base : Nat} {e : TypeId} {ao : Option Addr} {n cap : Nat} {xs : List Value} (h : w.ownsRow base e 1 (.slice ao n cap) n xs) (hn : 0 < n) : ∃ g, ao = some ⟨g, 0, none⟩ ∧ base ≤ g ∧ g < w.heap.size := by
  obtain ⟨g, c, hv, h1, h2⟩ := h.form hn
  simp only [Value.slice.injEq] at hv
  exact ⟨g, hv.1, h1, h2⟩
theorem own_le {w : World} {base : Nat} {e : TypeId} {v : Value} {n : Nat} {xs : List Value} (h : w.ownsRow base e 1 v n xs) : n ≤ 9223372036854775807 := by
  rcases h.2 with ⟨_, h0⟩ | ⟨g, cap, cur, _, _, _, h1, h2, _⟩
  · omega
  · unfold maxLen at h2; omega
theorem bv_int (l : List UInt8) : ∀ u ∈ bv l, ∃ z, u = .int .u8 z := by
  intro u hu; obtain ⟨b, _, rfl⟩ := List.mem_map.1 hu; exact ⟨_, rfl⟩
theorem iv_int (l : List Int) : ∀ u ∈ iv l, ∃ z, u = .int .i64 z := by
  intro u hu; obtain ⟨b, _, rfl⟩ := List.mem_map.1 hu; exact ⟨_, rfl⟩
end Go.Pax
namespace Go.Proofs.Ytljlcigbehgohaa
open Go.RowKit Go.Pax

theorem srcNewN (w : World) (bo co : Option Addr) (L bc M cc : Nat) (b : List UInt8) (c : List Int) (fail : Int) (fp : List Nat) (hL : b.length = L) (hM : c.length = M) (hb : L ≤ 140737488355328) (hcl : M * 8 ≤ 140737488355328)
    (h1 : Rd w fp bo (bv b)) (h2 : Rd w fp co (iv c)) :
    Calls Try.prog 24 #[.slice bo L bc, .agg #[.slice co M cc, .int .i64 fail]] w fun e w' => Made e w w' fun w' p fp => SrcAt w' p fp ⟨b, c, fail, 0, 0⟩ := by
  subst hL; subst hM
  exact srcNew w bo co bc cc b c fail fp hb hcl h1 h2

/-- What stands apart, and stays so. -/
structure IsoC (B p q : Nat) (f1 f2 : List Nat) (v1 v2 : Value) : Prop where
  pq : p ≠ q
  pf : p ∉ f2
  qf : q ∉ f1
  bp : B ≤ p
  bq : B ≤ q
  o1 : ∀ g, v1.ownBlock = some g → B ≤ g ∧ g ≠ p ∧ g ≠ q ∧ g ∉ f1 ∧ g ∉ f2
  o2 : ∀ g, v2.ownBlock = some g → B ≤ g ∧ g ≠ p ∧ g ≠ q ∧ g ∉ f1 ∧ g ∉ f2
  ne : ∀ g1 g2, v1.ownBlock = some g1 → v2.ownBlock = some g2 → g1 ≠ g2

structure Iso (w wr : World) (p q : Nat) (f1 f2 : List Nat) (v1 v2 : Value) (L M : Nat) (σ : Src) : Prop where
  chg : Chg [] w wr
  s : SrcAt wr p f1 σ
  t : SrcAt wr q f2 σ
  x1 : ∀ g, v1.ownBlock = some g → Scr wr g 5 .u8 L
  x2 : ∀ g, v2.ownBlock = some g → Scr wr g 3 .i64 M

theorem Iso.set1 {w wr : World} {p q : Nat} {f1 f2 : List Nat} {v1 v2 : Value} {L M : Nat} {σ : Src} (h : Iso w wr p q f1 f2 v1 v2 L M σ) (a : IsoC w.heap.size p q f1 f2 v1 v2) {g : Nat} (hg : v1.ownBlock = some g) (j : Nat) (z : Int) :
    Iso w (wr.setCell ⟨g, j, none⟩ (.int .u8 z)) p q f1 f2 v1 v2 L M σ := by
  obtain ⟨c1, c2, c3, c4, c5⟩ := a.o1 g hg
  have k : Chg [g] wr (wr.setCell ⟨g, j, none⟩ (.int .u8 z)) := (Chg.refl _ _).setCell (fun _ => by simp) _
  refine ⟨h.chg.trans' k (by simp) (fun x hx hl => by simp at hx; omega), h.s.chg k (by simpa using Ne.symm c2) (fun x hx => by simp; rintro rfl; exact c4 hx), h.t.chg k (by simpa using Ne.symm c3) (fun x hx => by simp; rintro rfl; exact c5 hx), fun g' hg' => ?_, fun g' hg' => ?_⟩
  · rw [hg] at hg'; cases hg'; exact (h.x1 g hg).set j z
  · exact (h.x2 g' hg').chg k (by simpa using (Ne.symm (a.ne g g' hg hg')))
theorem Iso.set2 {w wr : World} {p q : Nat} {f1 f2 : List Nat} {v1 v2 : Value} {L M : Nat} {σ : Src} (h : Iso w wr p q f1 f2 v1 v2 L M σ) (a : IsoC w.heap.size p q f1 f2 v1 v2) {g : Nat} (hg : v2.ownBlock = some g) (j : Nat) (z : Int) :
    Iso w (wr.setCell ⟨g, j, none⟩ (.int .i64 z)) p q f1 f2 v1 v2 L M σ := by
  obtain ⟨c1, c2, c3, c4, c5⟩ := a.o2 g hg
  have k : Chg [g] wr (wr.setCell ⟨g, j, none⟩ (.int .i64 z)) := (Chg.refl _ _).setCell (fun _ => by simp) _
  refine ⟨h.chg.trans' k (by simp) (fun x hx hl => by simp at hx; omega), h.s.chg k (by simpa using Ne.symm c2) (fun x hx => by simp; rintro rfl; exact c4 hx), h.t.chg k (by simpa using Ne.symm c3) (fun x hx => by simp; rintro rfl; exact c5 hx), fun g' hg' => ?_, fun g' hg' => ?_⟩
  · exact (h.x1 g' hg').chg k (by simpa using (a.ne g' g hg' hg))
  · rw [hg] at hg'; cases hg'; exact (h.x2 g hg).set j z

theorem srcRead' (w : World) (p : Nat) (fp : List Nat) (ρ : RSrc) (n : Int) (hok : ρ.Ok) (h : SrcAt w p fp ρ.src) (hn : n ≤ 9223372036854775807) :
    Calls Try.prog 25 #[.pointer (some ⟨p, 0, none⟩), .int .i64 n] w fun e w' => GotB w w' e (ρ.read n).1 (ρ.read n).2.1 ∧ SrcAt w' p fp (ρ.read n).2.2.src ∧ Chg [p] w w' := by
  refine (srcRead w p fp ρ.src n h hok.reads0 hok.clen (by have := hok.blen; simp [RSrc.src]; omega) hn).mono ?_
  rintro e w' ⟨h1, h2, h3⟩
  rw [RSrc.read_src hok] at h1 h2
  exact ⟨h1, h2, h3⟩

/-- Bytes that a call made: scribbled over at will. -/
theorem Scr.of_made {w : World} {base : Nat} {ao : Option Addr} {n cap : Nat} {l : List UInt8} (h : w.ownsRow base 5 1 (.slice ao n cap) n (bv l)) : ∀ g, (Value.slice ao n cap).ownBlock = some g → Scr w g 5 .u8 n := by
  intro g hg
  rcases h.2 with ⟨h', _⟩ | ⟨g', cap', cur, h', _⟩
  · rw [h'] at hg; simp [Value.ownBlock] at hg
  · simp only [Value.slice.injEq, true_and] at h'
    obtain ⟨rfl, rfl⟩ := h'
    simp [Value.ownBlock] at hg
    subst hg
    exact Scr.of_own h (bv_int l)

set_option maxRecDepth 100000 in
set_option maxHeartbeats 8000000 in
theorem srcIsolated (w : World) (bo co : Option Addr) (bc cc : Nat) (b : List UInt8) (c : List Int) (fail : Int) (fp : List Nat)
    (hb : b.length ≤ 140737488355328) (hcl : c.length * 8 ≤ 140737488355328) (hf : -9223372036854775808 ≤ fail ∧ fail ≤ 9223372036854775807)
    (h1 : Rd w fp bo (bv b)) (h2 : Rd w fp co (iv c)) :
    Calls Try.prog 3 #[.slice bo b.length bc, .agg #[.slice co c.length cc, .int .i64 fail]] w fun e w' => e = .returned (.bool true) ∧ Chg [] w w' := by
  have H1 := Lib.hid h1
  have H2 := Lib.hid h2
  clear h1 h2
  by_cases g2 : 2000 < b.length
  · clear hb
    go_enter Try.func3, Try.ntmps3
    go_wp2_with (go_at_call 23; refine (srcAlive _).mono ?_; rintro e w9 ⟨rfl, hc9⟩)
    go_ret
    exact ⟨rfl, ((Chg.refl _ _).alloc _).trans hc9⟩
  by_cases g3 : 300 < c.length
  · go_enter Try.func3, Try.ntmps3
    go_wp2_with (go_at_call 23; refine (srcAlive _).mono ?_; rintro e w9 ⟨rfl, hc9⟩)
    go_ret
    exact ⟨rfl, ((Chg.refl _ _).alloc _).trans hc9⟩
  obtain ⟨ib, hib, hib0, hib1, hib2⟩ := Try.infoB
  obtain ⟨ii, hii, hii0, hii1, hii2⟩ := Try.infoI
  generalize hL : b.length = L at *
  have HL := Lib.hid hL
  generalize hM : c.length = M at *
  have HM := Lib.hid hM
  clear hL hM
  go_enter Try.func3, Try.ntmps3
  go_upto_region 3 with (fail)
  have hc0 : (w.alloc (.cells #[.slice co M cc, .int .i64 fail] 25)).cell? ⟨w.heap.size, 0, none⟩ = some (.slice co M cc) := by go_simp
  have hc1 : (w.alloc (.cells #[.slice co M cc, .int .i64 fail] 25)).cell? ⟨w.heap.size, 1, none⟩ = some (.int .i64 fail) := by go_simp
  have hcW : Chg [] w (w.alloc (.cells #[.slice co M cc, .int .i64 fail] 25)) := (Chg.refl _ _).alloc _
  have hsz : (w.alloc (.cells #[.slice co M cc, .int .i64 fail] 25)).heap.size = w.heap.size + 1 := by simp
  generalize w.alloc (.cells #[.slice co M cc, .int .i64 fail] 25) = W at *
  have HS := Lib.hid hsz
  have HC := Lib.hid hcW
  clear hsz hcW
  go_upto_region 4 with (at_builtin; refine wpList_append_rd rfl (.tmp 26) (.tmp 27) 22 rfl (w.heap.size + 1) 5 ib (.int .u8 0) 1 Try.underlying22 hib hib0 hib1 hib2 rfl (.slice (some ⟨_, 0, none⟩) 0 0) 0 [] rfl (own_empty (heap_alloc_new _ _) (by rw [HS.out]; omega)) bo L bc fp (bv b) rfl (by rw [bv_length, HL.out]) ((H1.out.chg HC.out (by simp)).chg (S := []) ((Chg.refl _ _).alloc _) (by simp)) (bv_one b) (by omega) (by unfold maxLen; omega) (by have := HS.out; simp; omega) ?_; intro a1 c1 w1 hown1 hgr1 hat1; simp only [Nat.zero_add, List.nil_append] at hown1 hat1)
  have k1 : Chg [] W w1 := ((Chg.refl [] W).alloc _).grown hgr1 (by intro k hk hlt; simp [Value.ownBlock] at hk; omega)
  have d0 := k1.cell hc0 (by simp)
  have d1 := k1.cell hc1 (by simp)
  have z1 := k1.size
  have z1' : w.heap.size < w1.heap.size := by rw [HS.out] at z1; omega
  have HO1 := Lib.hid hown1
  have K1 := Lib.hid k1
  clear hc0 hc1 hown1 hgr1 hat1 k1
  go_upto_region 5 with (at_builtin; refine wpList_append_rd rfl (.tmp 29) (.tmp 31) 23 rfl (w.heap.size + 1) 3 ii (.int .i64 0) 8 Try.underlying23 hii hii0 hii1 hii2 rfl (.slice (some ⟨_, 0, none⟩) 0 0) 0 [] rfl (own_empty (heap_alloc_new _ _) (by rw [HS.out] at z1; omega)) co M cc fp (iv c) rfl (by rw [iv_length, HM.out]) (((H2.out.chg HC.out (by simp)).chg K1.out (by simp)).chg (S := []) ((Chg.refl _ _).alloc _) (by simp)) (iv_one c) (by omega) (by unfold maxLen; omega) (by rw [HS.out] at z1; simp; omega) ?_; intro a2 c2 w2 hown2 hgr2 hat2; simp only [Nat.zero_add, List.nil_append] at hown2 hat2)
  have k2 : Chg [] w1 w2 := ((Chg.refl [] w1).alloc _).grown hgr2 (by intro k hk hlt; simp [Value.ownBlock] at hk; omega)
  have e0 := k2.cell d0 (by simp)
  have e1 := k2.cell d1 (by simp)
  have z2 := k2.size
  have kW : Chg [] w w2 := (HC.out.trans K1.out).trans k2
  have o1 := own_chg HO1.out k2 (by simp)
  have HO2 := Lib.hid hown2
  have O1 := Lib.hid o1
  have KW := Lib.hid kW
  -- own's block and chunks' block differ
  have hne : ∀ g1 g2, (Value.slice a1 L c1).ownBlock = some g1 → (Value.slice a2 M c2).ownBlock = some g2 → g1 ≠ g2 := by
    intro g1 g2 e1 e2
    have b1 := HO1.out.lt g1 e1
    rw [e2] at hat2
    simp [Value.ownBlock] at hat2
    omega
  clear d0 d1 hown2 hgr2 hat2 k2 kW o1
  obtain ⟨q1, bq1, _⟩ := own_rd2 O1.out
  obtain ⟨q2, bq2, _⟩ := own_rd2 HO2.out
  have Q1 := Lib.hid q1
  have Q2 := Lib.hid q2
  have BQ1 := Lib.hid bq1
  have BQ2 := Lib.hid bq2
  have HNE := Lib.hid hne
  clear q1 q2 bq1 bq2 hne
  go_region_held3 (fun w' => w'.cell? ⟨w.heap.size, 0, none⟩ = some (.slice co M cc) ∧ w'.cell? ⟨w.heap.size, 1, none⟩ = some (.int .i64 fail) ∧ Chg [] w2 w')
    (first
      | exact ⟨by simp [*], by simp [*], (Chg.refl _ _).drew⟩
      | exact keep2 k3 (by assumption)
      | exact keep2 k4 (by assumption))
    (first
      | (go_at_call_of 24 a1; refine (srcNewN _ a1 a2 L c1 M c2 b c fail _ HL.out HM.out (by omega) (by omega) ((Q1.out.chg (S := []) (by go_split_ands; assumption) (by simp)).mono (fun k hk => List.mem_append_left _ hk)) ((Q2.out.chg (S := []) (by go_split_ands; assumption) (by simp)).mono (fun k hk => List.mem_append_right _ hk))).mono ?_; rintro e w3 ⟨p, f1, rfl, s3, k3, b3, bf3⟩)
      | (go_at_call 24; refine (srcNewN _ bo co L bc M cc b c fail fp HL.out HM.out (by omega) (by omega) ((H1.out.chg KW.out (by simp)).chg (S := []) (by go_split_ands; assumption) (by simp)) ((H2.out.chg KW.out (by simp)).chg (S := []) (by go_split_ands; assumption) (by simp))).mono ?_; rintro e w4 ⟨q, f2, rfl, s4, k4, b4, bf4⟩))
  rename_i hS
  have kX : Chg [] w2 w4 := hS.2.2
  clear hS e0 e1
  have zd : w2.drew.heap.size = w2.heap.size := rfl
  have z3 := k3.size
  have z4 := s3.lt
  have ho1 : ∀ g, (Value.slice a1 L c1).ownBlock = some g → w.heap.size + 1 ≤ g ∧ g < w2.heap.size := fun g hg => BQ1.out g (by simpa using hg)
  have ho2 : ∀ g, (Value.slice a2 M c2).ownBlock = some g → w.heap.size + 1 ≤ g ∧ g < w2.heap.size := fun g hg => BQ2.out g (by simpa using hg)
  have hw1 := K1.out.size
  have hw0 := HC.out.size
  have hA : IsoC w.heap.size p q f1 f2 (.slice a1 L c1) (.slice a2 M c2) :=
    ⟨by omega, fun hm => by have := bf4 _ hm; omega, fun hm => by have := bf3 _ hm; omega, by omega, by omega,
      fun g hg => by have := ho1 g hg; exact ⟨by omega, by omega, by omega, fun hm => by have := bf3 _ hm; omega, fun hm => by have := bf4 _ hm; omega⟩,
      fun g hg => by have := ho2 g hg; exact ⟨by omega, by omega, by omega, fun hm => by have := bf3 _ hm; omega, fun hm => by have := bf4 _ hm; omega⟩, HNE.out⟩
  have o4 := own_chg O1.out kX (by simp)
  have o5 := own_chg HO2.out kX (by simp)
  have hI : Iso w w4 p q f1 f2 (.slice a1 L c1) (.slice a2 M c2) L M ⟨b, c, fail, 0, 0⟩ :=
    ⟨KW.out.trans kX, s3.chg k4 (by simp) (by simp), s4, fun g hg => by
      cases a1 with
      | none => simp [Value.ownBlock] at hg
      | some ad =>
        rcases o4.2 with ⟨h', _⟩ | ⟨g', cap', cur, h', _⟩
        · simp at h'
        · have h'' := h'
          simp only [Value.slice.injEq, Option.some.injEq, true_and] at h'
          obtain ⟨rfl, rfl⟩ := h'
          simp [Value.ownBlock] at hg
          subst hg
          exact Scr.of_own o4 (bv_int b),
      fun g hg => by
      cases a2 with
      | none => simp [Value.ownBlock] at hg
      | some ad =>
        rcases o5.2 with ⟨h', _⟩ | ⟨g', cap', cur, h', _⟩
        · simp at h'
        · have h'' := h'
          simp only [Value.slice.injEq, Option.some.injEq, true_and] at h'
          obtain ⟨rfl, rfl⟩ := h'
          simp [Value.ownBlock] at hg
          subst hg
          exact Scr.of_own o5 (iv_int c)⟩
  have hb3 : ∀ x ∈ f1, x < w4.heap.size := fun x hx => Nat.lt_of_lt_of_le (bf3 x hx).2 k4.size
  have hb4 : ∀ x ∈ f2, x < w4.heap.size := fun x hx => (bf4 x hx).2
  have HB3 := Lib.hid hb3
  have HB4 := Lib.hid hb4
  have HI := Lib.hid hI
  have HA := Lib.hid hA
  have O4 := Lib.hid o4
  have O5 := Lib.hid o5
  clear hb3 hb4 kX zd z3 z4 ho1 ho2 hw1 hw0 hA o4 o5 hI s3 s4 k3 k4 b3 b4 bf3 bf4 z1 z1' z2
  go_wp2_with fail
  go_loopw [50] (fun i wr => ∃ k : Nat, k ≤ L ∧ i = .int .i64 k ∧ Iso w wr p q f1 f2 (.slice a1 L c1) (.slice a2 M c2) L M ⟨b, c, fail, 0, 0⟩ ∧ w4.heap.size ≤ wr.heap.size) (fun i _ => L - (intOf i).toNat)
  case atStart => exact ⟨0, Nat.zero_le _, rfl, HI.out, Nat.le_refl _⟩
  case round =>
    obtain ⟨k, hk, rfl, hkr, hws⟩ := hrel
    by_cases hlt : k < L
    · obtain ⟨g, rfl, _⟩ := own_block O4.out (by omega)
      obtain ⟨z, hz⟩ := (hkr.x1 g rfl).cell hlt
      have hfr := (hkr.x1 g rfl).free k
      have HKR := Lib.hid hkr
      clear hkr
      go_wp2_with fail
      go_roundw
      case rel => exact ⟨k + 1, by omega, by go_num, HKR.out.set1 HA.out rfl _ _, by simpa [World.setCell] using hws⟩
      case measure => simp [intOf]; omega
    · have hkk : k = L := by omega
      subst hkk
      have HKR := Lib.hid hkr
      clear hkr
      go_wp2_with fail
      go_loopw [62] (fun i wr => ∃ k2 : Nat, k2 ≤ M ∧ i = .int .i64 k2 ∧ Iso w wr p q f1 f2 (.slice a1 k c1) (.slice a2 M c2) k M ⟨b, c, fail, 0, 0⟩ ∧ w4.heap.size ≤ wr.heap.size) (fun i _ => M - (intOf i).toNat)
      case atStart => exact ⟨0, Nat.zero_le _, rfl, HKR.out, hws⟩
      case round =>
        obtain ⟨k2, hk2, rfl, hkr2, hws2⟩ := hrel
        by_cases hlt2 : k2 < M
        · obtain ⟨g, rfl, _⟩ := own_block O5.out (by omega)
          obtain ⟨z, hz⟩ := (hkr2.x2 g rfl).cell hlt2
          have hfr := (hkr2.x2 g rfl).free k2
          have HKR2 := Lib.hid hkr2
          clear hkr2
          go_wp2_with fail
          go_roundw
          case rel => exact ⟨k2 + 1, by omega, by go_num, HKR2.out.set2 HA.out rfl _ _, by simpa [World.setCell] using hws2⟩
          case measure => simp [intOf]; omega
        · have hkk : k2 = M := by omega
          subst hkk
          have HKR2 := Lib.hid hkr2
          clear hkr2 hws
          go_wp2_with fail
          go_loopw [72] (fun i wr => ∃ k3 : Nat, k3 ≤ k + 2 ∧ i = .int .i64 k3 ∧ Chg [] w wr ∧ (∃ ρ : RSrc, ρ.Ok ∧ SrcAt wr p f1 ρ.src ∧ SrcAt wr q f2 ρ.src) ∧ w4.heap.size ≤ wr.heap.size) (fun i _ => k + 2 - (intOf i).toNat)
          case atStart => exact ⟨0, Nat.zero_le _, rfl, HKR2.out.chg, ⟨⟨b, c, fail, 0, 0⟩, RSrc.ok_new (by rw [HL.out]; omega) (by rw [HM.out]; omega) hf, HKR2.out.s, HKR2.out.t⟩, hws2⟩
          case round =>
            obtain ⟨k3, hk3, rfl, hc3, ⟨ρ, hok, hs3, ht3⟩, hws3⟩ := hrel
            by_cases hlt3 : k3 < k + 2
            · have HC3 := Lib.hid hc3
              have HOK := Lib.hid hok
              have HS3 := Lib.hid hs3
              have HT3 := Lib.hid ht3
              clear hc3 hok hs3 ht3
              go_wp2_with fail
              refine (srcRead' _ p f1 ρ 7 HOK.out HS3.out (by decide)).mono ?_
              rintro e w5 ⟨⟨a3, c3, rfl, hown3⟩, hs5, hk5⟩
              have HO3 := Lib.hid hown3
              have HS5 := Lib.hid hs5
              have HK5 := Lib.hid hk5
              clear hown3 hs5 hk5
              go_wp2_with fail
              refine (srcRead' _ q f2 ρ 7 HOK.out (HT3.out.chg HK5.out (by simpa using Ne.symm HA.out.pq) (fun x hx => by simp; rintro rfl; exact HA.out.pf hx)) (by decide)).mono ?_
              rintro e w6 ⟨⟨a4, c4, rfl, hown4⟩, ht6, hk6⟩
              have hok6 := RSrc.ok_read HOK.out 7
              generalize hrd : ρ.read 7 = R at *
              obtain ⟨code, bs, ρ'⟩ := R
              simp only at hown4 ht6 hok6 ⊢
              have hlp := HS3.out.lt
              have hlq := HT3.out.lt
              have v3 : (convert 22 9 (.slice a3 bs.length c3)).run Try.prog w6 = .ok (.string (sb bs)) w6 := conv_own (S := [q]) rfl HO3.out hk6 (fun x hx => by simp; rintro rfl; omega)
              have v4 : (convert 22 9 (.slice a4 bs.length c4)).run Try.prog w6 = .ok (.string (sb bs)) w6 := conv_own (S := []) rfl hown4 (Chg.refl _ _) (by simp)
              have o6 := own_chg HO3.out hk6 (by intro x hx; simp; rintro rfl; omega)
              have hx3 : ∀ g, (Value.slice a3 bs.length c3).ownBlock = some g → wr.heap.size ≤ g := fun g hg => (HO3.out.lt g hg).1
              have hA2 : IsoC w.heap.size p q f1 f2 (.slice a3 bs.length c3) (.slice none 0 0) :=
                ⟨HA.out.pq, HA.out.pf, HA.out.qf, HA.out.bp, HA.out.bq, fun g hg => by
                  have h1 := hx3 g hg
                  have h2 := HC3.out.size
                  exact ⟨by omega, by omega, by omega, fun hm => by have := HB3.out _ hm; omega, fun hm => by have := HB4.out _ hm; omega⟩,
                  fun g hg => by simp [Value.ownBlock] at hg, fun g1 g2 _ hg => by simp [Value.ownBlock] at hg⟩
              have hI2 : Iso w w6 p q f1 f2 (.slice a3 bs.length c3) (.slice none 0 0) bs.length 0 ρ'.src :=
                ⟨(HC3.out.trans' HK5.out (U := []) (by simp) (fun x hx hl => by simp at hx; have := HA.out.bp; omega)).trans' hk6 (U := []) (by simp) (fun x hx hl => by simp at hx; have := HA.out.bq; omega),
                  HS5.out.chg hk6 (by simpa using HA.out.pq) (fun x hx => by simp; rintro rfl; exact HA.out.qf hx), ht6, Scr.of_made o6, fun g hg => by simp [Value.ownBlock] at hg⟩
              have hws6 : w4.heap.size ≤ w6.heap.size := by have h1 := HK5.out.size; have h2 := hk6.size; omega
              have hN3 := own_le o6
              have HI2 := Lib.hid hI2
              have HA2 := Lib.hid hA2
              have O6 := Lib.hid o6
              have HOK6 := Lib.hid hok6
              have HRD := Lib.hid hrd
              clear hI2 hA2 o6 hok6 hrd hown4 ht6 hk6 hx3 hlp hlq
              go_wp2_with fail
              generalize bs.length = N3 at *
              obtain ⟨wo, hwo⟩ : ∃ wo : World, wo = wr := ⟨_, rfl⟩
              clear hwo
              go_loopw [96] (fun i wr => ∃ k4 : Nat, k4 ≤ N3 ∧ i = .int .i64 k4 ∧ Iso w wr p q f1 f2 (.slice a3 N3 c3) (.slice none 0 0) N3 0 ρ'.src ∧ w4.heap.size ≤ wr.heap.size) (fun i _ => N3 - (intOf i).toNat)
              case atStart => exact ⟨0, Nat.zero_le _, rfl, HI2.out, hws6⟩
              case round =>
                obtain ⟨k4, hk4, rfl, hkr4, hws4⟩ := hrel
                by_cases hlt4 : k4 < N3
                · obtain ⟨g, rfl, _⟩ := own_block O6.out (by omega)
                  obtain ⟨z, hz⟩ := (hkr4.x1 g rfl).cell hlt4
                  have hfr := (hkr4.x1 g rfl).free k4
                  have HKR4 := Lib.hid hkr4
                  clear hkr4
                  go_wp2_with fail
                  go_roundw
                  case rel => exact ⟨k4 + 1, by omega, by go_num, HKR4.out.set1 HA2.out rfl _ _, by simpa [World.setCell] using hws4⟩
                  case measure => simp [intOf]; omega
                · have hkk : k4 = N3 := by omega
                  subst hkk
                  have HKR4 := Lib.hid hkr4
                  clear hkr4
                  go_wp2_with fail
                  go_roundw
                  case rel => exact ⟨k3 + 1, by omega, by go_num, HKR4.out.chg, ⟨ρ', HOK6.out, HKR4.out.s, HKR4.out.t⟩, hws4⟩
                  case measure => simp [intOf]; omega
            · have hkk : k3 = k + 2 := by omega
              subst hkk
              go_wp2_with (go_at_call 23; refine (srcAlive _).mono ?_; rintro e w9 ⟨rfl, hc9⟩)
              go_ret
              exact ⟨rfl, hc3.trans hc9⟩
end Go.Proofs.Ytljlcigbehgohaa
