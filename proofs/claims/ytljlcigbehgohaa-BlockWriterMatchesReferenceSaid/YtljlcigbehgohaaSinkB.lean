/- package sink: New, WriteAll. -/
import Derived.Test.YtljlcigbehgohaaSink
namespace Go.Pax
open Go.RowKit
theorem Snk.write_cases {σ : Snk} (h : σ.Ok) {x : List UInt8} (hx : x ≠ []) :
    (σ.write x = (0, 11, σ) ∧ 0 ≤ σ.fail ∧ (σ.b.length : Int) = σ.fail) ∨
    ∃ N : Nat, 1 ≤ N ∧ N ≤ x.length ∧ (N : Int) = σ.n x ∧ ¬ (0 ≤ σ.fail ∧ (σ.b.length : Int) = σ.fail) ∧ σ.write x = ((N : Int), 0, { σ with b := σ.b ++ x.take N, writes := σ.writes + 1 }) := by
  obtain ⟨b1, b2, b3, b4⟩ := σ.n_bounds h x
  have h4 := b4 hx
  by_cases hc : 0 ≤ σ.fail ∧ (σ.b.length : Int) = σ.fail
  · left; refine ⟨?_, hc⟩; unfold Snk.write; rw [if_neg hx, if_pos hc]
  · right
    refine ⟨(σ.n x).toNat, by omega, by omega, by omega, hc, ?_⟩
    unfold Snk.write
    rw [if_neg hx, if_neg hc, show (((σ.n x).toNat : Nat) : Int) = σ.n x by omega]
/-- Writes until all is written, or one fails; at most f writes. -/
def Snk.allF : Nat → Snk → List UInt8 → Int × Snk
  | 0, σ, _ => (0, σ)
  | f + 1, σ, x => if x = [] then (0, σ) else if (σ.write x).2.1 = 0 then Snk.allF f (σ.write x).2.2 (x.drop (σ.write x).1.toNat) else ((σ.write x).2.1, (σ.write x).2.2)
def Snk.all (σ : Snk) (x : List UInt8) : Int × Snk := Snk.allF x.length σ x
theorem Snk.allF_nil (f : Nat) (σ : Snk) : Snk.allF f σ [] = (0, σ) := by cases f <;> simp [Snk.allF]
/-- What WriteAll comes to. -/
theorem Snk.allF_is : ∀ (f : Nat) (σ : Snk) (x : List UInt8), σ.Ok → x.length ≤ f → (Snk.allF f σ x).2.Ok ∧
    (Snk.allF f σ x).2.chunks = σ.chunks ∧ (Snk.allF f σ x).2.fail = σ.fail ∧
    (((Snk.allF f σ x).1 = 0 ∧ (Snk.allF f σ x).2.b = σ.b ++ x ∧ (0 ≤ σ.fail → (σ.b.length + x.length : Int) ≤ σ.fail)) ∨
      ((Snk.allF f σ x).1 = 11 ∧ 0 ≤ σ.fail ∧ σ.fail < σ.b.length + x.length ∧ (Snk.allF f σ x).2.b = (σ.b ++ x).take σ.fail.toNat))
  | 0, σ, x, h, hl => by
    have hx : x = [] := List.eq_nil_of_length_eq_zero (by omega)
    subst hx
    exact ⟨h, rfl, rfl, .inl ⟨rfl, by simp [Snk.allF], by simpa using h.failf⟩⟩
  | f + 1, σ, x, h, hl => by
    by_cases hx : x = []
    · subst hx
      rw [Snk.allF_nil]
      exact ⟨h, rfl, rfl, .inl ⟨rfl, by simp, by simpa using h.failf⟩⟩
    have hok := σ.ok_write h x
    rcases σ.write_cases h hx with ⟨hw, h0, h1⟩ | ⟨N, n1, n2, n3, n4, hw⟩
    · rw [show Snk.allF (f + 1) σ x = (11, σ) from by unfold Snk.allF; rw [if_neg hx, hw]; rfl]
      have := List.length_pos_iff.2 hx
      exact ⟨h, rfl, rfl, .inr ⟨rfl, h0, by omega, by simp only; rw [List.take_append_of_le_length (by omega), List.take_of_length_le (by omega)]⟩⟩
    · rw [hw] at hok
      have ih := Snk.allF_is f _ (x.drop N) hok (by rw [List.length_drop]; omega)
      rw [show Snk.allF (f + 1) σ x = Snk.allF f { σ with b := σ.b ++ x.take N, writes := σ.writes + 1 } (x.drop N) from by
        conv => lhs; unfold Snk.allF
        rw [if_neg hx, hw]; simp]
      obtain ⟨i1, i2, i3, i4⟩ := ih
      refine ⟨i1, i2, i3, ?_⟩
      have e1 : (σ.b ++ x.take N) ++ x.drop N = σ.b ++ x := by rw [List.append_assoc, List.take_append_drop]
      simp only [e1, List.length_append, List.length_take, List.length_drop] at i4
      rcases i4 with ⟨j1, j2, j3⟩ | ⟨j1, j2, j3, j4⟩
      · exact .inl ⟨j1, j2, fun hf => by have := j3 hf; omega⟩
      · exact .inr ⟨j1, j2, by omega, j4⟩
theorem Snk.ok_all {σ : Snk} (h : σ.Ok) (x : List UInt8) : (σ.all x).2.Ok := (Snk.allF_is _ σ x h (Nat.le_refl _)).1
theorem Snk.allF_len (f : Nat) (σ : Snk) (x : List UInt8) (h : σ.Ok) (hl : x.length ≤ f) : (Snk.allF f σ x).2.b.length ≤ σ.b.length + x.length := by
  obtain ⟨_, _, _, h4⟩ := Snk.allF_is f σ x h hl
  rcases h4 with ⟨_, j2, _⟩ | ⟨_, _, _, j4⟩
  · rw [j2]; simp
  · rw [j4]; simp only [List.length_take, List.length_append]; omega
def slen : Value → Nat
  | .slice _ n _ => n
  | _ => 0
end Go.Pax
namespace Go.Proofs.Ytljlcigbehgohaa
open Go.RowKit Go.Pax

theorem SnkTo.trans {B : Nat} {w w1 w2 : World} {p : Nat} {fp own own1 : List Nat} {σ : Snk} (k : Chg (p :: own) w w1) (hn : ∀ g ∈ own1, g ∈ own ∨ w.heap.size ≤ g) (h : SnkTo B w1 w2 p fp own1 σ) : SnkTo B w w2 p fp own σ := by
  obtain ⟨own2, ⟨h1, h2⟩, k2⟩ := h
  refine ⟨own2, ⟨h1, fun g hg => ?_⟩, k.trans' k2 (fun x hx _ => hx) (fun x hx hl => ?_)⟩
  · rcases h2 g hg with h | h
    · exact hn g h
    · have := k.size; exact .inr (by omega)
  · rcases List.mem_cons.1 hx with rfl | hx
    · simp
    · rcases hn x hx with h | h
      · simp [h]
      · omega

set_option maxHeartbeats 2000000 in
theorem sinkAll (w : World) (B p : Nat) (fp own fa : List Nat) (σ : Snk) (x : List UInt8) (bo : Option Addr) (bc : Nat) (h : SnkAt B w p fp own σ) (hok : σ.Ok) (hx : Rd w fa bo (bv x)) (hxc : x.length ≤ bc)
    (hfa : ∀ k ∈ fa, k ≠ p ∧ k ∉ own ∧ k < w.heap.size) (hb : σ.b.length + x.length ≤ 140737488355328) :
    Calls Try.prog 31 #[.pointer (some ⟨p, 0, none⟩), .slice bo x.length bc] w fun e w' => e = .returned (.int .i64 (σ.all x).1) ∧ SnkTo B w w' p fp own (σ.all x).2 := by
  have H := Lib.hid h
  have HX := Lib.hid hx
  have HOK := Lib.hid hok
  have HFA := Lib.hid hfa
  clear h hx hok hfa
  go_enter Try.func31, Try.ntmps31
  go_wp2_with fail
  go_loopw [1] (fun v wr => ∃ (σ' : Snk) (x' : List UInt8) (ao : Option Addr) (c f : Nat) (own' : List Nat), v = .slice ao x'.length c ∧ x'.length ≤ c ∧ x'.length ≤ f ∧ σ'.b.length + x'.length ≤ 140737488355328 ∧ x'.length ≤ x.length ∧
    σ'.Ok ∧ Snk.all σ x = Snk.allF f σ' x' ∧ Rd wr fa ao (bv x') ∧ SnkAt B wr p fp own' σ' ∧ (∀ g ∈ own', g ∈ own ∨ w.heap.size ≤ g) ∧ Chg (p :: own) w wr) (fun v _ => slen v)
  case atStart => exact ⟨σ, x, bo, bc, x.length, own, rfl, hxc, Nat.le_refl _, hb, Nat.le_refl _, HOK.out, rfl, HX.out, H.out, fun g hg => .inl hg, Chg.refl _ _⟩
  case round =>
    obtain ⟨σ', x', ao, c, f, own', rfl, h1, h2, h3, h3', hok', he, hx', hs', hn', hk'⟩ := hrel
    have HE := Lib.hid he
    have HX' := Lib.hid hx'
    have HS' := Lib.hid hs'
    have HN' := Lib.hid hn'
    have HK' := Lib.hid hk'
    have HOK' := Lib.hid hok'
    clear he hx' hs' hn' hk' hok'
    by_cases hx0 : x' = []
    · subst hx0
      simp only [List.length_nil]
      go_wp2_with fail
      go_ret
      rw [HE.out, Snk.allF_nil]
      exact ⟨rfl, SnkTo.trans HK'.out HN'.out ⟨own', ⟨HS'.out, fun g hg => .inl hg⟩, Chg.refl _ _⟩⟩
    have hlen := List.length_pos_iff.2 hx0
    obtain ⟨f, rfl⟩ : ∃ g, f = g + 1 := ⟨f - 1, by omega⟩
    have hstep := sinkWrite _ B p fp own' fa σ' x' ao c HS'.out HOK'.out HX'.out h1 h3
    have hoks := σ'.ok_write HOK'.out x'
    rcases σ'.write_cases HOK'.out hx0 with ⟨hw, c0, c1⟩ | ⟨N, n1, n2, -, -, hw⟩
    · rw [hw] at hstep
      have hE := HE.out
      have hres : Snk.all σ x = (11, σ') := by rw [hE]; unfold Snk.allF; rw [if_neg hx0, hw]; rfl
      have HRES := Lib.hid hres
      have HST := Lib.hid hstep
      clear hstep hE hw hres hoks
      generalize x'.length = X at *
      go_wp2_with (go_at_call 30; refine HST.out.mono ?_; rintro e w2 ⟨rfl, hto⟩)
      go_ret
      rw [HRES.out]
      exact ⟨rfl, SnkTo.trans HK'.out HN'.out hto⟩
    · rw [hw] at hstep hoks
      have hE := HE.out
      have hres : Snk.all σ x = Snk.allF f { σ' with b := σ'.b ++ x'.take N, writes := σ'.writes + 1 } (x'.drop N) := by
        rw [hE]; conv => lhs; unfold Snk.allF
        rw [if_neg hx0, hw]; simp
      have HRES := Lib.hid hres
      have HST := Lib.hid hstep
      have HOKS := Lib.hid hoks
      clear hstep hE hw hres hoks hx0
      generalize hXL : x'.length = X at *
      have HXL := Lib.hid hXL
      clear hXL
      have hNc : (N : Int) ≤ X := by omega
      have hcall : ∀ w2, SnkTo B wr w2 p fp own' { σ' with b := σ'.b ++ x'.take N, writes := σ'.writes + 1 } → ∀ ao', ao' = cutA ao c N → ∃ (σ' : Snk) (x' : List UInt8) (ao : Option Addr) (c' f : Nat) (own' : List Nat), Value.slice ao' (X - N) (c - N) = .slice ao x'.length c' ∧ x'.length ≤ c' ∧ x'.length ≤ f ∧ σ'.b.length + x'.length ≤ 140737488355328 ∧ x'.length ≤ x.length ∧
          σ'.Ok ∧ Snk.all σ x = Snk.allF f σ' x' ∧ Rd w2 fa ao (bv x') ∧ SnkAt B w2 p fp own' σ' ∧ (∀ g ∈ own', g ∈ own ∨ w.heap.size ≤ g) ∧ Chg (p :: own) w w2 := by
        intro w2 hto ao' hao
        have hk2 := hto
        obtain ⟨_, _, hk2⟩ := hk2
        obtain ⟨own2, ⟨hs2, hn2⟩, k2⟩ := SnkTo.trans HK'.out HN'.out hto
        have hl := HXL.out
        refine ⟨_, x'.drop N, ao', c - N, f, own2, by rw [List.length_drop, hl], by rw [List.length_drop, hl]; omega, by rw [List.length_drop, hl]; omega, ?_, by rw [List.length_drop, hl]; omega, HOKS.out, HRES.out, ?_, hs2, hn2, k2⟩
        · simp only [List.length_append, List.length_take, List.length_drop, hl]; omega
        · have hh := HX'.out.drop N c (by rw [bv_length, hl]; exact h1)
          rw [bv_drop, ← hao] at hh
          refine hh.chg hk2 ?_
          intro k hk hm
          obtain ⟨y1, y2, y3⟩ := HFA.out k hk
          rcases List.mem_cons.1 hm with h | h
          · exact y1 h
          · rcases HN'.out k h with h | h
            · exact y2 h
            · omega
      have HCALL := Lib.hid hcall
      clear hcall
      by_cases hcN : c = N
      · subst hcN
        go_wp2_with (go_at_call 30; refine HST.out.mono ?_; rintro e w2 ⟨rfl, hto⟩; have HTO := Lib.hid hto; clear hto)
        go_roundw
        case rel => have hh := HCALL.out _ HTO.out ao (by unfold cutA; rw [if_pos rfl]); rw [Nat.sub_self, show X - c = 0 by omega] at hh; exact hh
        case measure => simp [slen]; omega
      · go_wp2_with (go_at_call 30; refine HST.out.mono ?_; rintro e w2 ⟨rfl, hto⟩; have HTO := Lib.hid hto; clear hto)
        go_roundw
        case rel => exact HCALL.out _ HTO.out _ (by unfold cutA; rw [if_neg hcN])
        case measure => simp [slen]; omega

set_option maxHeartbeats 1000000 in
theorem sinkNew (w : World) (B : Nat) (co : Option Addr) (M cc : Nat) (c : List Int) (fail : Int) (fp : List Nat) (hM : c.length = M) (hcl : M * 8 ≤ 140737488355328) (hB : B ≤ w.heap.size) (h2 : Rd w fp co (iv c)) :
    Calls Try.prog 36 #[.agg #[.slice co M cc, .int .i64 fail]] w fun e w' => Made e w w' fun w' p fp => SnkAt B w' p fp [] ⟨[], c, fail, 0⟩ := by
  subst hM
  have H2 := Lib.hid h2
  clear h2
  go_enter Try.func36, Try.ntmps36
  go_wp2_with fail
  have hc0 : (w.alloc (.cells #[.slice co c.length cc, .int .i64 fail] 25)).cell? ⟨w.heap.size, 0, none⟩ = some (.slice co c.length cc) := by go_simp
  have hc1 : (w.alloc (.cells #[.slice co c.length cc, .int .i64 fail] 25)).cell? ⟨w.heap.size, 1, none⟩ = some (.int .i64 fail) := by go_simp
  have hcW : Chg [] w (w.alloc (.cells #[.slice co c.length cc, .int .i64 fail] 25)) := (Chg.refl _ _).alloc _
  generalize w.alloc (.cells #[.slice co c.length cc, .int .i64 fail] 25) = W at *
  go_region_held3 (fun w' => w'.cell? ⟨w.heap.size, 0, none⟩ = some (.slice co c.length cc) ∧ w'.cell? ⟨w.heap.size, 1, none⟩ = some (.int .i64 fail) ∧ Chg [] w w')
    (first
      | exact ⟨by simp [*], by simp [*], hcW.drew⟩
      | exact keep2 (Chg.of_grown hgr2 (by simp)) (by assumption)
      | exact keep2 ((Chg.refl _ _).alloc _) (by assumption))
    (first
      | (go_at_call 60; refine (cloneInts _ co _ cc fp c rfl hcl (H2.out.chg (S := []) (by go_split_ands; assumption) (by simp))).mono ?_; rintro e w2 ⟨a2, c2, rfl, hown2, hgr2⟩))
  go_wp2
  go_ret
  obtain ⟨f2, r2, b2, l2⟩ := own_rd hown2
  have k2 : Chg [] W w2 := (Chg.refl _ _).drew.trans (Chg.of_grown hgr2 (by simp))
  have k3 : Chg [] w2 (w2.alloc (.cells #[.slice a2 c.length c2, .int .i64 fail, .slice none 0 0, .int .i64 0] 106)) := (Chg.refl _ _).alloc _
  have s0 := hcW.size
  have s2 := k2.size
  have s3 := k3.size
  have hd : W.drew.heap.size = W.heap.size := rfl
  refine ⟨w2.heap.size, f2, rfl, ⟨none, 0, a2, c2, heap_alloc_new _ _, r2.chg k3 (by simp), ?_, World.ownsRow_nil _ _ _ _, rfl, by simp, fun x hx => ?_, by omega⟩, (hcW.trans k2).trans k3, by omega, ?_⟩
  · intro hm
    have := b2 _ hm; omega
  · have := b2 _ hx; omega
  · intro k hm
    have := b2 _ hm; exact ⟨by omega, by omega⟩
theorem Snk.ok_new {c : List Int} {fail : Int} (hc : c.length ≤ 140737488355328) (hf : -9223372036854775808 ≤ fail ∧ fail ≤ 9223372036854775807) : Snk.Ok ⟨[], c, fail, 0⟩ :=
  ⟨by simp, by simp, hc, fun h => by simpa using h, hf⟩
end Go.Proofs.Ytljlcigbehgohaa
