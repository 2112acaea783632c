/- paxtarref05: New, WriteAll. -/
import Derived.Test.YtljlcigbehgohaaRSink
namespace Go.Proofs.Ytljlcigbehgohaa
open Go.RowKit Go.Pax

theorem RSnkTo.trans {w w1 w2 : World} {p : Nat} {fp own own1 : List Nat} {σ : Snk} (k : Chg [p] w w1) (hn : ∀ g ∈ own1, g ∈ own ∨ w.heap.size ≤ g) (h : RSnkTo w1 w2 p fp own1 σ) : RSnkTo w w2 p fp own σ := by
  obtain ⟨own2, ⟨h1, h2⟩, k2⟩ := h
  refine ⟨own2, ⟨h1, fun g hg => ?_⟩, k.trans k2⟩
  rcases h2 g hg with h | h
  · exact hn g h
  · have := k.size; exact .inr (by omega)

set_option maxHeartbeats 2000000 in
theorem rsinkAll (w : World) (p : Nat) (fp own fa : List Nat) (σ : Snk) (x : List UInt8) (bo : Option Addr) (bc : Nat) (h : RSnkAt w p fp own σ) (hok : σ.Ok) (hx : Rd w fa bo (bv x)) (hxc : x.length ≤ bc)
    (hfa : ∀ k ∈ fa, k ≠ p) (hb : σ.b.length + x.length ≤ 140737488355328) :
    Calls Try.prog 38 #[.pointer (some ⟨p, 0, none⟩), .slice bo x.length bc] w fun e w' => e = .returned (.int .i64 (σ.all x).1) ∧ RSnkTo w w' p fp own (σ.all x).2 := by
  have H := Lib.hid h
  have HX := Lib.hid hx
  have HOK := Lib.hid hok
  have HFA := Lib.hid hfa
  clear h hx hok hfa
  go_enter Try.func38, Try.ntmps38
  go_wp2_with fail
  go_loopw [1] (fun v wr => ∃ (σ' : Snk) (x' : List UInt8) (ao : Option Addr) (c f : Nat) (own' : List Nat), v = .slice ao x'.length c ∧ x'.length ≤ c ∧ x'.length ≤ f ∧ σ'.b.length + x'.length ≤ 140737488355328 ∧ x'.length ≤ x.length ∧
    σ'.Ok ∧ Snk.all σ x = Snk.allF f σ' x' ∧ Rd wr fa ao (bv x') ∧ RSnkAt wr p fp own' σ' ∧ (∀ g ∈ own', g ∈ own ∨ w.heap.size ≤ g) ∧ Chg [p] w wr) (fun v _ => slen v)
  case atStart => exact ⟨σ, x, bo, bc, x.length, own, rfl, hxc, Nat.le_refl _, hb, Nat.le_refl _, HOK.out, rfl, HX.out, H.out, fun g hg => .inl hg, Chg.refl _ _⟩
  case round =>
    obtain ⟨σ', x', ao, c, f, own', rfl, h1, h2, h3, h3', hok', he, hx', hs', hn', hk'⟩ := hrel
    have HE := Lib.hid he
    have HX' := Lib.hid hx'
    have HS' := Lib.hid hs'
    have HN' := Lib.hid hn'
    have HK' := Lib.hid hk'
    have HOK' := Lib.hid hok'
    clear he hx' hs' hn' hk' hok'
    by_cases hx0 : x' = []
    · subst hx0
      simp only [List.length_nil]
      go_wp2_with fail
      go_ret
      rw [HE.out, Snk.allF_nil]
      exact ⟨rfl, RSnkTo.trans HK'.out HN'.out ⟨own', ⟨HS'.out, fun g hg => .inl hg⟩, Chg.refl _ _⟩⟩
    have hlen := List.length_pos_iff.2 hx0
    obtain ⟨f, rfl⟩ : ∃ g, f = g + 1 := ⟨f - 1, by omega⟩
    have hstep := rsinkWrite _ p fp own' fa σ' x' ao c HS'.out HOK'.out HX'.out h1 h3
    have hoks := σ'.ok_write HOK'.out x'
    rcases σ'.write_cases HOK'.out hx0 with ⟨hw, c0, c1⟩ | ⟨N, n1, n2, -, -, hw⟩
    · rw [hw] at hstep
      have hE := HE.out
      have hres : Snk.all σ x = (11, σ') := by rw [hE]; unfold Snk.allF; rw [if_neg hx0, hw]; rfl
      have HRES := Lib.hid hres
      have HST := Lib.hid hstep
      clear hstep hE hw hres hoks
      generalize x'.length = X at *
      go_wp2_with (go_at_call 39; refine HST.out.mono ?_; rintro e w2 ⟨rfl, hto⟩)
      go_ret
      rw [HRES.out]
      exact ⟨rfl, RSnkTo.trans HK'.out HN'.out hto⟩
    · rw [hw] at hstep hoks
      have hE := HE.out
      have hres : Snk.all σ x = Snk.allF f { σ' with b := σ'.b ++ x'.take N, writes := σ'.writes + 1 } (x'.drop N) := by
        rw [hE]; conv => lhs; unfold Snk.allF
        rw [if_neg hx0, hw]; simp
      have HRES := Lib.hid hres
      have HST := Lib.hid hstep
      have HOKS := Lib.hid hoks
      clear hstep hE hw hres hoks hx0
      generalize hXL : x'.length = X at *
      have HXL := Lib.hid hXL
      clear hXL
      have hNc : (N : Int) ≤ X := by omega
      have hcall : ∀ w2, RSnkTo wr w2 p fp own' { σ' with b := σ'.b ++ x'.take N, writes := σ'.writes + 1 } → ∀ ao', ao' = cutA ao c N → ∃ (σ' : Snk) (x' : List UInt8) (ao : Option Addr) (c' f : Nat) (own' : List Nat), Value.slice ao' (X - N) (c - N) = .slice ao x'.length c' ∧ x'.length ≤ c' ∧ x'.length ≤ f ∧ σ'.b.length + x'.length ≤ 140737488355328 ∧ x'.length ≤ x.length ∧
          σ'.Ok ∧ Snk.all σ x = Snk.allF f σ' x' ∧ Rd w2 fa ao (bv x') ∧ RSnkAt w2 p fp own' σ' ∧ (∀ g ∈ own', g ∈ own ∨ w.heap.size ≤ g) ∧ Chg [p] w w2 := by
        intro w2 hto ao' hao
        have hk2 := hto
        obtain ⟨_, _, hk2⟩ := hk2
        obtain ⟨own2, ⟨hs2, hn2⟩, k2⟩ := RSnkTo.trans HK'.out HN'.out hto
        have hl := HXL.out
        refine ⟨_, x'.drop N, ao', c - N, f, own2, by rw [List.length_drop, hl], by rw [List.length_drop, hl]; omega, by rw [List.length_drop, hl]; omega, ?_, by rw [List.length_drop, hl]; omega, HOKS.out, HRES.out, ?_, hs2, hn2, k2⟩
        · simp only [List.length_append, List.length_take, List.length_drop, hl]; omega
        · have hh := HX'.out.drop N c (by rw [bv_length, hl]; exact h1)
          rw [bv_drop, ← hao] at hh
          refine hh.chg hk2 ?_
          intro k hk hm
          exact HFA.out k hk (by simpa using hm)
      have HCALL := Lib.hid hcall
      clear hcall
      by_cases hcN : c = N
      · subst hcN
        go_wp2_with (go_at_call 39; refine HST.out.mono ?_; rintro e w2 ⟨rfl, hto⟩; have HTO := Lib.hid hto; clear hto)
        go_roundw
        case rel => have hh := HCALL.out _ HTO.out ao (by unfold cutA; rw [if_pos rfl]); rw [Nat.sub_self, show X - c = 0 by omega] at hh; exact hh
        case measure => simp [slen]; omega
      · go_wp2_with (go_at_call 39; refine HST.out.mono ?_; rintro e w2 ⟨rfl, hto⟩; have HTO := Lib.hid hto; clear hto)
        go_roundw
        case rel => exact HCALL.out _ HTO.out _ (by unfold cutA; rw [if_neg hcN])
        case measure => simp [slen]; omega


set_option maxHeartbeats 1000000 in
theorem rsinkNew (w : World) (co : Option Addr) (M cc : Nat) (c : List Int) (fail : Int) (fp : List Nat) (hM : c.length = M) (hcl : M * 8 ≤ 140737488355328) (h2 : Rd w fp co (iv c)) :
    Calls Try.prog 37 #[.agg #[.slice co M cc, .int .i64 fail]] w fun e w' => Made e w w' fun w' p fp => RSnkAt w' p fp [] ⟨[], c, fail, 0⟩ := by
  subst hM
  have H2 := Lib.hid h2
  clear h2
  obtain ⟨ii, hii, hii0, hii1, hii2⟩ := Try.infoI
  go_enter Try.func37, Try.ntmps37
  go_wp2_with fail
  have hc0 : (w.alloc (.cells #[.slice co c.length cc, .int .i64 fail] 25)).cell? ⟨w.heap.size, 0, none⟩ = some (.slice co c.length cc) := by go_simp
  have hc1 : (w.alloc (.cells #[.slice co c.length cc, .int .i64 fail] 25)).cell? ⟨w.heap.size, 1, none⟩ = some (.int .i64 fail) := by go_simp
  have hcW : Chg [] w (w.alloc (.cells #[.slice co c.length cc, .int .i64 fail] 25)) := (Chg.refl _ _).alloc _
  have hWs : w.heap.size + 1 = (w.alloc (.cells #[.slice co c.length cc, .int .i64 fail] 25)).heap.size := by simp
  generalize w.alloc (.cells #[.slice co c.length cc, .int .i64 fail] 25) = W at *
  have HWs := Lib.hid hWs
  clear hWs
  go_region_held3 (fun w' => w'.cell? ⟨w.heap.size, 0, none⟩ = some (.slice co c.length cc) ∧ w'.cell? ⟨w.heap.size, 1, none⟩ = some (.int .i64 fail) ∧ Chg [] w w')
    (first
      | exact ⟨by simp [*], by simp [*], hcW.drew⟩
      | exact keep2 ((Chg.refl _ _).alloc _) (by assumption)
      | exact keep2 (Chg.refl _ _).drew (keep2 ((Chg.refl _ _).alloc _) (by assumption))
      | exact keep2g hgr2 (by intro k hk; have := HWs.out; simp [Value.ownBlock] at hk; omega) (by assumption))
    (first
      | (refine step_append_rd rfl (.tmp 3) (.tmp 5) 23 rfl w.heap.size 3 ii (.int .i64 0) 8 Try.underlying23 hii hii0 hii1 hii2 rfl (.slice (some ⟨_, 0, none⟩) 0 0) 0 [] rfl (own_empty (by first | (simp only [heap_drew]; exact heap_new_at (by simp)) | exact heap_new_at (by simp)) (by have := HWs.out; omega)) co c.length cc fp (iv c) rfl (iv_length c) (H2.out.chg (S := []) (by go_split_ands; assumption) (by simp)) (iv_one c) (by omega) (by unfold maxLen; omega) (by go_split_ands; exact Chg.size (S := []) (w := w) (by assumption)) ?_; intro a2 c2 w2 hown2 hgr2 hat2; simp only [Nat.zero_add, List.nil_append] at hown2 hat2))
  go_wp2
  go_ret
  have kS : Chg [] w w2 := ((hcW.alloc (.cells #[] 3)).drew).grown hgr2 (fun k hk hlt => by simp [Value.ownBlock] at hk; have := HWs.out; omega)
  obtain ⟨f2, r2, b2, l2⟩ := own_rd hown2
  have k3 : Chg [] w2 (w2.alloc (.cells #[.slice none 0 0, .slice a2 c.length c2, .int .i64 fail, .int .i64 0] 60)) := (Chg.refl _ _).alloc _
  have s0 := kS.size
  have s3 := k3.size
  refine ⟨w2.heap.size, f2, rfl, ⟨none, 0, a2, c2, heap_alloc_new _ _, r2.chg k3 (by simp), Rd.nil _ _ _, fun x hx => ?_, by simp⟩, kS.trans k3, by omega, ?_⟩
  · have := b2 _ hx; exact ⟨by omega, by omega⟩
  · intro k hm
    have := b2 _ hm; exact ⟨by omega, by omega⟩
end Go.Proofs.Ytljlcigbehgohaa
