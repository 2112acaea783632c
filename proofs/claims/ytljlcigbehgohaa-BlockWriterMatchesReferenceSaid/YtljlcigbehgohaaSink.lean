/- package sink: what its functions do, in words on the sink's own state. -/
import Derived.Test.YtljlcigbehgohaaLawE
import Derived.Deep.RegionLaw
namespace Go.Pax
open Go.RowKit
/-- A sink: what it holds, its script, how often it was written to. -/
structure Snk where
  b : List UInt8
  chunks : List Int
  fail : Int
  writes : Int
structure Snk.Ok (σ : Snk) : Prop where
  writes0 : 0 ≤ σ.writes
  writesl : σ.writes ≤ σ.b.length
  clen : σ.chunks.length ≤ 140737488355328
  failf : 0 ≤ σ.fail → σ.b.length ≤ σ.fail
  failr : -9223372036854775808 ≤ σ.fail ∧ σ.fail ≤ 9223372036854775807
def Snk.room (σ : Snk) : Int := if 0 ≤ σ.fail then imin (chunkOf σ.chunks σ.writes) (σ.fail - σ.b.length) else chunkOf σ.chunks σ.writes
def Snk.n (σ : Snk) (x : List UInt8) : Int := imin x.length σ.room
def Snk.write (σ : Snk) (x : List UInt8) : Int × Int × Snk :=
  if x = [] then (0, 0, σ) else if 0 ≤ σ.fail ∧ (σ.b.length : Int) = σ.fail then (0, 11, σ)
  else (σ.n x, 0, { σ with b := σ.b ++ x.take (σ.n x).toNat, writes := σ.writes + 1 })
theorem Snk.room_bounds {σ : Snk} (h : σ.Ok) : 0 ≤ σ.room ∧ (σ.room = 0 ↔ 0 ≤ σ.fail ∧ (σ.b.length : Int) = σ.fail) ∧ σ.room ≤ chunkOf σ.chunks σ.writes := by
  have hc := chunkOf_pos σ.chunks σ.writes
  have hf := h.failf
  unfold Snk.room imin
  refine ⟨?_, ?_, ?_⟩ <;> omega
theorem Snk.n_bounds {σ : Snk} (h : σ.Ok) (x : List UInt8) : 0 ≤ σ.n x ∧ σ.n x ≤ x.length ∧ σ.n x ≤ σ.room ∧ (x ≠ [] → (σ.n x = 0 ↔ 0 ≤ σ.fail ∧ (σ.b.length : Int) = σ.fail)) := by
  obtain ⟨h1, h2, h3⟩ := σ.room_bounds h
  unfold Snk.n imin
  refine ⟨?_, ?_, ?_, ?_⟩
  · omega
  · omega
  · omega
  · intro hx
    rw [← h2]
    have := List.length_pos_iff.2 hx
    omega
theorem Snk.ok_write {σ : Snk} (h : σ.Ok) (x : List UInt8) : (σ.write x).2.2.Ok := by
  unfold Snk.write
  split
  · exact h
  split
  · exact h
  · rename_i h0 h1
    obtain ⟨b1, b2, b3, b4⟩ := σ.n_bounds h x
    have h4 := b4 h0
    have hl : ((x.take (σ.n x).toNat).length : Int) = σ.n x := by rw [List.length_take]; omega
    obtain ⟨a1, a2, a3, a4, a5⟩ := h
    refine ⟨by simp only; omega, ?_, a3, ?_, a5⟩
    · simp only [List.length_append]; omega
    · simp only [List.length_append]
      intro hf
      have : σ.room ≤ σ.fail - σ.b.length := by unfold Snk.room imin; omega
      omega
theorem Snk.write_len (σ : Snk) (_h : σ.Ok) (x : List UInt8) : (σ.write x).2.2.b.length ≤ σ.b.length + x.length ∧ σ.b.length ≤ (σ.write x).2.2.b.length := by
  unfold Snk.write
  split
  · simp
  split
  · simp
  · simp only [List.length_append, List.length_take]; omega
end Go.Pax
namespace Go.Proofs.Ytljlcigbehgohaa
open Go.RowKit Go.Pax

def SnkAt (B : Nat) (w : World) (p : Nat) (fp own : List Nat) (σ : Snk) : Prop :=
  ∃ ba bc ca cc, w.heap[p]? = some (.cells #[.slice ca σ.chunks.length cc, .int .i64 σ.fail, .slice ba σ.b.length bc, .int .i64 σ.writes] 106 (0, 0)) ∧
    Rd w fp ca (iv σ.chunks) ∧ p ∉ fp ∧ w.ownsRow B 5 1 (.slice ba σ.b.length bc) σ.b.length (bv σ.b) ∧ own = (Value.slice ba σ.b.length bc).ownBlock.toList ∧ (∀ g ∈ own, g ≠ p ∧ g ∉ fp) ∧ (∀ x ∈ fp, x < w.heap.size) ∧ B ≤ w.heap.size
theorem SnkAt.chg {B : Nat} {w w' : World} {p : Nat} {fp own S : List Nat} {σ : Snk} (h : SnkAt B w p fp own σ) (k : Chg S w w') (hp : p ∉ S) (hf : ∀ x ∈ fp, x ∉ S) (ho : ∀ x ∈ own, x ∉ S) : SnkAt B w' p fp own σ := by
  obtain ⟨ba, bc, ca, cc, h1, h2, h3, h4, h5, h6, h7, h8⟩ := h
  subst h5
  exact ⟨ba, bc, ca, cc, k.heap h1 hp, h2.chg k hf, h3, own_keep h4 k ho, rfl, h6, fun x hx => Nat.lt_of_lt_of_le (h7 x hx) k.size, Nat.le_trans h8 k.size⟩
theorem SnkAt.lt {B : Nat} {w : World} {p : Nat} {fp own : List Nat} {σ : Snk} (h : SnkAt B w p fp own σ) : p < w.heap.size := by
  obtain ⟨ba, bc, ca, cc, h1, _⟩ := h
  exact lt_of_block h1
theorem SnkAt.ownlt {B : Nat} {w : World} {p : Nat} {fp own : List Nat} {σ : Snk} (h : SnkAt B w p fp own σ) : ∀ g ∈ own, B ≤ g ∧ g < w.heap.size := by
  obtain ⟨ba, bc, ca, cc, h1, h2, h3, h4, h5, h6⟩ := h
  subst h5
  exact (own_rd2 h4).2.1

set_option maxHeartbeats 400000 in
theorem sinkLen (w : World) (B p : Nat) (fp own : List Nat) (σ : Snk) (h : SnkAt B w p fp own σ) : Calls Try.prog 33 #[.pointer (some ⟨p, 0, none⟩)] w fun e w' => e = .returned (.int .i64 σ.b.length) ∧ w' = w := by
  obtain ⟨ba, bc, ca, cc, hp, _⟩ := h
  have c3 : w.cell? ⟨p, 2, none⟩ = some (.slice ba σ.b.length bc) := cell_heap hp 2 rfl
  clear hp
  go_enter Try.func33, Try.ntmps33
  go_wp2
  go_ret
  exact ⟨rfl, rfl⟩
set_option maxHeartbeats 400000 in
theorem sinkLen_none (w : World) : Calls Try.prog 33 #[.pointer none] w fun e w' => e = .returned (.int .i64 0) ∧ w' = w := by
  go_enter Try.func33, Try.ntmps33
  go_wp2
  go_ret
  exact ⟨rfl, rfl⟩
set_option maxHeartbeats 400000 in
theorem sinkBytes_none (w : World) : Calls Try.prog 32 #[.pointer none] w fun e w' => e = .returned (.slice none 0 0) ∧ w' = w := by
  go_enter Try.func32, Try.ntmps32
  go_wp2
  go_ret
  exact ⟨rfl, rfl⟩
set_option maxHeartbeats 400000 in
theorem sinkWrite_none (w : World) (v : Value) : Calls Try.prog 30 #[.pointer none, v] w fun e w' => e = .returned (.tuple #[.int .i64 0, .int .i64 1]) ∧ w' = w := by
  go_enter Try.func30, Try.ntmps30
  go_wp2
  go_ret2
  exact ⟨rfl, rfl⟩
set_option maxHeartbeats 400000 in
theorem sinkAll_none (w : World) (v : Value) : Calls Try.prog 31 #[.pointer none, v] w fun e w' => e = .returned (.int .i64 1) ∧ w' = w := by
  go_enter Try.func31, Try.ntmps31
  go_wp2
  go_ret
  exact ⟨rfl, rfl⟩
set_option maxHeartbeats 400000 in
theorem sinkBytes (w : World) (B p : Nat) (fp own : List Nat) (σ : Snk) (h : SnkAt B w p fp own σ) (hb : σ.b.length ≤ 140737488355328) :
    Calls Try.prog 32 #[.pointer (some ⟨p, 0, none⟩)] w fun e w' => Cloned e w w' 5 σ.b.length (bv σ.b) := by
  obtain ⟨ba, bc, ca, cc, hp, h2, h3, h4, h5, h6, h7, h8⟩ := h
  have c3 : w.cell? ⟨p, 2, none⟩ = some (.slice ba σ.b.length bc) := cell_heap hp 2 rfl
  have H := Lib.hid (own_rd2 h4).1
  clear hp h2 h3 h4 h5 h6 h7 h8
  go_enter Try.func32, Try.ntmps32
  go_wp2_with fail
  refine (cloneBytes _ ba _ bc _ σ.b rfl hb H.out).mono ?_
  rintro e w1 ⟨a1, c1, rfl, hown1, hgr1⟩
  go_wp2
  go_ret
  exact ⟨a1, c1, rfl, hown1, hgr1⟩

theorem imax_max (a b : Int) : imax a b = max a b := by unfold imax; omega
theorem quiet_same2 {P : Program} {f : FuncId} {args : Array Value} {w : World} {n x : Nat} {v : Value} (h : Calls P f args (w.drewN (n + x)) fun e w' => e = .returned v ∧ w' = w.drewN (n + x)) :
    Calls P f args (w.drewN (n + x)) fun e w'' => e = .returned v ∧ ∃ k, w'' = w.drewN (n + k) :=
  h.mono fun _ _ ⟨he, hm⟩ => ⟨he, x, hm⟩

set_option maxHeartbeats 1000000 in
theorem sinkRoom (w : World) (B p : Nat) (fp own : List Nat) (σ : Snk) (h : SnkAt B w p fp own σ) (hok : σ.Ok) (hb : σ.b.length ≤ 140737488355328) :
    Calls Try.prog 63 #[.pointer (some ⟨p, 0, none⟩)] w fun e w' => e = .returned (.int .i64 σ.room) ∧ ∃ k, w' = w.drewN k := by
  obtain ⟨b, chunks, fail, writes⟩ := σ
  have H := Lib.hid h
  obtain ⟨ba, bc, ca, cc, hp, hC, _⟩ := h
  have h0 := cell_heap hp 0 rfl
  have h1 := cell_heap hp 1 rfl
  have h2 := cell_heap hp 2 rfl
  have h3 := cell_heap hp 3 rfl
  have hr := hok.writes0
  have hl := hok.clen
  have hff := hok.failf
  obtain ⟨hfr0, hfr1⟩ := hok.failr
  simp only at *
  have hroom : (Snk.mk b chunks fail writes).room = if 0 ≤ fail then imin (chunkOf chunks writes) (fail - b.length) else chunkOf chunks writes := rfl
  have HR := Lib.hid hroom
  generalize (Snk.mk b chunks fail writes).room = ROOM at *
  clear hp hroom hok
  by_cases hn : chunks = []
  · have hV : chunkOf chunks writes = 1048576 := by unfold chunkOf; rw [if_pos hn]
    rw [hV] at HR
    clear hV hC
    subst hn
    simp only [List.length_nil] at h0
    by_cases hf : 0 ≤ fail
    · have hl0 := hff hf
      clear hff
      go_enter Try.func63, Try.ntmps63
      go_wp2_with fail
      go_quiet ((go_at_call 33; exact Calls.quiet_of_same (sinkLen _ B p fp own _ H.out)))
      have hD0 : 0 ≤ fail - (b.length : Int) := by omega
      generalize fail - (b.length : Int) = D at *
      go_wp2
      all_goals
        go_ret
        exact ⟨ret_int (by rw [HR.out, if_pos hf]; unfold imin; omega), _, rfl⟩
    · clear hff
      go_enter Try.func63, Try.ntmps63
      go_wp2
      go_ret
      exact ⟨ret_int (by rw [HR.out, if_neg (by omega)]), 0, rfl⟩
  · have hn0 : 0 < chunks.length := List.length_pos_iff.2 hn
    have hm1 : 0 ≤ writes % chunks.length := Int.emod_nonneg _ (by omega)
    have hm2 : writes % chunks.length < chunks.length := Int.emod_lt_of_pos _ (by omega)
    obtain ⟨ad, rfl, _, h5⟩ := hC (writes % chunks.length).toNat _ (iv_get chunks _ (by omega))
    have hV := chunkOf_at rfl writes (by omega : (writes % chunks.length).toNat < chunks.length)
    rw [hV] at HR
    clear hV hC
    generalize chunks[(writes % chunks.length).toNat]'(by omega) = v at *
    have HN := Lib.hid hn
    clear hn
    by_cases hf : 0 ≤ fail
    · have hl0 := hff hf
      clear hff
      generalize hN : chunks.length = n at *
      have hb : ((n : Int) == 0) = false := by simp; omega
      have HN2 := Lib.hid hN
      clear hN
      go_enter Try.func63, Try.ntmps63
      go_wp2_with fail
      go_quiet (fail)
      simp only [imax_fold]
      rw [← imax_max] at HR
      generalize imax 1 v = V at *
      go_wp2_with fail
      go_quiet ((go_at_call 33; exact quiet_same2 (sinkLen _ B p fp own _ H.out)))
      have hD0 : 0 ≤ fail - (b.length : Int) := by omega
      generalize fail - (b.length : Int) = D at *
      go_wp2
      all_goals
        go_ret
        exact ⟨ret_int (by rw [HR.out, if_pos hf]; unfold imin; omega), _, rfl⟩
    · clear hff
      generalize hN : chunks.length = n at *
      have hb : ((n : Int) == 0) = false := by simp; omega
      have HN2 := Lib.hid hN
      clear hN
      go_enter Try.func63, Try.ntmps63
      go_wp2_with fail
      go_quiet (fail)
      go_wp2
      all_goals
        go_ret
        exact ⟨ret_int (by rw [HR.out, if_neg (by omega)]; omega), _, rfl⟩

/-- From w to w' the sink has come to σ, and changed nothing else. -/
def SnkTo (B : Nat) (w w' : World) (p : Nat) (fp own : List Nat) (σ : Snk) : Prop :=
  ∃ own', (SnkAt B w' p fp own' σ ∧ ∀ g ∈ own', g ∈ own ∨ w.heap.size ≤ g) ∧ Chg (p :: own) w w'

theorem sinkStep_at {B : Nat} {w w1 w2 : World} {p : Nat} {fp own : List Nat} {b b' : List UInt8} {chunks : List Int} {fail writes W : Int} {ba a2 ca : Option Addr} {bc c2 cc m : Nat} (k1 : Chg [] w w1)
    (hp : w.heap[p]? = some (.cells #[.slice ca chunks.length cc, .int .i64 fail, .slice ba b.length bc, .int .i64 writes] 106 (0, 0)))
    (hC : Rd w fp ca (iv chunks)) (hpf : p ∉ fp) (hfl : ∀ k ∈ fp, k < w.heap.size) (hB : B ≤ w.heap.size) (ho : own = (Value.slice ba b.length bc).ownBlock.toList) (hog : ∀ g ∈ own, g ≠ p ∧ g ∉ fp)
    (hgr : w1.grownBy w2 (Value.slice ba b.length bc).ownBlock) (hm : m = b'.length) (hown : w2.ownsRow B 5 1 (.slice a2 m c2) m (bv b'))
    (hat : (Value.slice a2 m c2).ownBlock = (Value.slice ba b.length bc).ownBlock ∨ (Value.slice a2 m c2).ownBlock = some w1.heap.size) :
    SnkTo B w ((w2.setCell ⟨p, 2, none⟩ (.slice a2 m c2)).setCell ⟨p, 3, none⟩ (.int .i64 W)) p fp own ⟨b', chunks, fail, W⟩ := by
  subst hm
  have hplt := lt_of_block hp
  have k2 : Chg (p :: own) w w2 := (k1.mono (T := p :: own) (by simp)).grown hgr (fun x hx _ => by subst ho; simp [hx])
  have hp2 : w2.heap[p]? = _ := (grown_heap hgr (k1.heap hp (by simp)) (by intro e; exact (hog p (by subst ho; simp [← e])).1 rfl))
  have h3 := heap_set (heap_set hp2 2 (.slice a2 b'.length c2) rfl) 3 (.int .i64 W) rfl
  have k3 : Chg [p] w2 ((w2.setCell ⟨p, 2, none⟩ (.slice a2 b'.length c2)).setCell ⟨p, 3, none⟩ (.int .i64 W)) :=
    ((Chg.refl _ _).setCell (fun _ => by simp) _).setCell (fun _ => by simp) _
  have k4 := k2.trans (k3.mono (T := p :: own) (by simp))
  have hz := k1.size
  have hnew : ∀ g ∈ (Value.slice a2 b'.length c2).ownBlock.toList, g ∈ own ∨ w.heap.size ≤ g := by
    intro g hg
    rcases hat with h | h
    · left; subst ho; rw [← h]; exact hg
    · right; rw [h] at hg; simp at hg; omega
  refine ⟨_, ⟨⟨a2, c2, ca, cc, ?_, ?_, hpf, ?_, rfl, ?_, fun x hx => Nat.lt_of_lt_of_le (hfl x hx) k4.size, Nat.le_trans hB k4.size⟩, hnew⟩, k4⟩
  · rw [h3]; simp
  · exact hC.chg k4 (by intro x hx hm; rcases List.mem_cons.1 hm with rfl | hm; exact hpf hx; exact (hog _ hm).2 hx)
  · refine own_keep hown k3 ?_
    intro g hg hm
    simp at hm
    subst hm
    rcases hnew _ hg with h | h
    · exact (hog _ h).1 rfl
    · omega
  · intro g hg
    rcases hnew _ hg with h | h
    · exact hog _ h
    · exact ⟨by omega, fun hm => by have := hfl _ hm; omega⟩

set_option maxRecDepth 100000 in
set_option maxHeartbeats 2000000 in
theorem sinkWrite (w : World) (B p : Nat) (fp own fa : List Nat) (σ : Snk) (x : List UInt8) (bo : Option Addr) (bc : Nat) (h : SnkAt B w p fp own σ) (hok : σ.Ok) (hx : Rd w fa bo (bv x)) (hxc : x.length ≤ bc)
    (hb : σ.b.length + x.length ≤ 140737488355328) :
    Calls Try.prog 30 #[.pointer (some ⟨p, 0, none⟩), .slice bo x.length bc] w fun e w' => e = .returned (.tuple #[.int .i64 (σ.write x).1, .int .i64 (σ.write x).2.1]) ∧ SnkTo B w w' p fp own (σ.write x).2.2 := by
  have H := Lib.hid h
  have HX := Lib.hid hx
  clear hx
  by_cases hx0 : x = []
  · rw [show σ.write x = (0, 0, σ) from by unfold Snk.write; rw [if_pos hx0]]
    subst hx0
    clear hok hb h
    go_enter Try.func30, Try.ntmps30
    go_wp2
    go_ret2
    exact ⟨rfl, own, ⟨H.out, fun g hg => .inl hg⟩, Chg.refl _ _⟩
  have hlen : 0 < x.length := List.length_pos_iff.2 hx0
  obtain ⟨n0, n1, n2, n3⟩ := σ.n_bounds hok x
  have hnd : σ.n x = imin x.length σ.room := rfl
  have hroom := sinkRoom w B p fp own σ h hok (by omega)
  have hwr : σ.write x = if 0 ≤ σ.fail ∧ (σ.b.length : Int) = σ.fail then (0, 11, σ) else (σ.n x, 0, { σ with b := σ.b ++ x.take (σ.n x).toNat, writes := σ.writes + 1 }) := by unfold Snk.write; rw [if_neg hx0]
  rw [hwr]
  clear hwr
  have N3 := Lib.hid (n3 hx0)
  have HND := Lib.hid hnd
  have HRM := Lib.hid hroom
  have w0 := hok.writes0
  have w1 := hok.writesl
  clear n3 hnd hroom n2 hok hx0
  obtain ⟨b, chunks, fail, writes⟩ := σ
  generalize (Snk.mk b chunks fail writes).n x = N at *
  generalize (Snk.mk b chunks fail writes).room = RM at *
  obtain ⟨ba, bk, ca, cc, hp, hC, hpf, hO, ho, hog, hfl, hB⟩ := h
  simp only at *
  have d2 := cell_heap hp 2 rfl
  have HP := Lib.hid hp
  have HO := Lib.hid hO
  clear hp hO
  have HC := Lib.hid hC
  have HOG := Lib.hid (And.intro ho hog)
  have HFL := Lib.hid hfl
  clear hC ho hog hfl
  obtain ⟨N, rfl⟩ : ∃ k : Nat, N = k := ⟨N.toNat, by omega⟩
  obtain ⟨ib, hib, hib0, hib1, hib2⟩ := Try.infoB
  generalize hXL : x.length = X at *
  have HXL := Lib.hid hXL
  generalize hBL : b.length = L at *
  have HBL := Lib.hid hBL
  clear hXL hBL
  by_cases hN : N = 0
  · have hcond := N3.out.1 (by omega)
    rw [if_pos hcond]
    have hND := HND.out
    subst hN
    go_enter Try.func30, Try.ntmps30
    go_upto_region 6 with (go_at_call 63; refine HRM.out.mono ?_; rintro e w1 ⟨rfl, kk, rfl⟩)
    simp only [imin_fold]
    rw [← HND.out]
    go_wp2
    go_ret2
    exact ⟨rfl, own, ⟨H.out.chg ((Chg.refl [] w).drewN kk) (by simp) (by simp) (by simp), fun g hg => .inl hg⟩, (Chg.refl _ _).drewN kk⟩
  · have hcond : ¬ (0 ≤ fail ∧ (L : Int) = fail) := fun e => hN (by have := N3.out.2 e; omega)
    rw [if_neg hcond]
    clear hcond
    go_enter Try.func30, Try.ntmps30
    go_upto_region 6 with (go_at_call 63; refine HRM.out.mono ?_; rintro e w1 ⟨rfl, kk, rfl⟩)
    simp only [imin_fold]
    rw [← HND.out]
    go_upto_region 8 with (fail)
    have hNc : (N : Int) ≤ bc := by omega
    have hne : some p ≠ (Value.slice ba L bk).ownBlock := fun e => (HOG.out.2 p (by rw [HOG.out.1, ← e]; simp)).1 rfl
    have HNE := Lib.hid hne
    clear hne
    go_region_law (refine step_append_rd rfl (.tmp 23) (.tmp 26) 22 rfl B 5 ib (.int .u8 0) 1 Try.underlying22 hib hib0 hib1 hib2 rfl (.slice ba L bk) L (bv b) rfl (own_keep HO.out ((Chg.refl [] w).drewN _) (by simp)) bo N bc fa (bv (x.take N)) rfl (by rw [bv_length, List.length_take, HXL.out]; omega) (by rw [← bv_take]; exact (HX.out.take N).chg (S := []) ((Chg.refl [] w).drewN _) (by simp)) (bv_one _) (by omega) (by unfold maxLen; omega) hB ?_; intro a2 c2 w2 hown2 hgr2 hat2; have hp2 := grown_heap (g := p) hgr2 (((Chg.refl [] w).drewN _).heap HP.out (by simp)) HNE.out; have f1 : w2.cell? ⟨p, 2, none⟩ = some (.slice ba L bk) := cell_heap hp2 2 rfl; have f2 : w2.frozen? ⟨p, 2, none⟩ = false := frozen_of_row _ _ _ _ _ hp2; have HP2 := Lib.hid hp2; clear hp2)
    have d3 : w2.cell? ⟨p, 3, none⟩ = some (.int .i64 writes) := cell_heap HP2.out 3 rfl
    have f3 : w2.frozen? ⟨p, 3, none⟩ = false := frozen_of_row _ _ _ _ _ HP2.out
    have HO2 := Lib.hid hown2
    have HG2 := Lib.hid hgr2
    have HA2 := Lib.hid hat2
    clear hown2 hgr2 hat2
    go_wp2_with fail
    go_ret2
    refine ⟨rfl, ?_⟩
    exact sinkStep_at (b := b) (b' := b ++ x.take N) ((Chg.refl [] w).drewN (kk + 1)) (by rw [HBL.out]; exact HP.out) HC.out hpf HFL.out hB (by rw [HBL.out]; exact HOG.out.1) HOG.out.2 (by rw [HBL.out]; exact HG2.out) (by rw [List.length_append, List.length_take, HBL.out, HXL.out]; omega) (by rw [bv_append]; exact HO2.out) (by rw [HBL.out]; exact HA2.out)
end Go.Proofs.Ytljlcigbehgohaa
