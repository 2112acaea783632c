/- paxtarlaw04.SourceMatchesReference. -/
import Derived.Test.YtljlcigbehgohaaLawA
namespace Go.Proofs.Ytljlcigbehgohaa
open Go.RowKit Go.Pax

/-- A source and its reference, side by side. -/
structure Pair (w : World) (B p q : Nat) (fp fq : List Nat) (ρ : RSrc) : Prop where
  ok : ρ.Ok
  s : SrcAt w p fp ρ.src
  m : RSrcAt w q fq ρ

structure Apart (B p q : Nat) (fp fq : List Nat) : Prop where
  pq : p ≠ q
  pf : p ∉ fq
  qf : q ∉ fp
  bp : B ≤ p
  bq : B ≤ q

theorem pairS {w : World} {B p q : Nat} {f1 f2 : List Nat} {ρ : RSrc} (h : Pair w B p q f1 f2 ρ) (ha : Apart B p q f1 f2) (r : Int) (hr : r ≤ 9223372036854775807) :
    Calls Try.prog 25 #[.pointer (some ⟨p, 0, none⟩), .int .i64 r] w fun e w' => GotB w w' e (ρ.read r).1 (ρ.read r).2.1 ∧ (SrcAt w' p f1 (ρ.read r).2.2.src ∧ RSrcAt w' q f2 ρ) ∧ Chg [p] w w' := by
  refine (srcRead w p f1 ρ.src r h.s h.ok.reads0 h.ok.clen (by have := h.ok.blen; simp [RSrc.src]; omega) hr).mono ?_
  rintro e w' ⟨h1, h2, h3⟩
  rw [RSrc.read_src h.ok] at h1 h2
  exact ⟨h1, ⟨h2, h.m.chg h3 (by simpa using Ne.symm ha.pq) (fun x hx => by simp; rintro rfl; exact ha.pf hx)⟩, h3⟩

theorem pairM {w : World} {B p q : Nat} {f1 f2 : List Nat} {ρ : RSrc} {σ : Src} (hok : ρ.Ok) (h : SrcAt w p f1 σ ∧ RSrcAt w q f2 ρ) (ha : Apart B p q f1 f2) (r : Int) (hr : r ≤ 9223372036854775807) :
    Calls Try.prog 29 #[.pointer (some ⟨q, 0, none⟩), .int .i64 r] w fun e w' => GotB w w' e (ρ.read r).1 (ρ.read r).2.1 ∧ (SrcAt w' p f1 σ ∧ RSrcAt w' q f2 (ρ.read r).2.2) ∧ Chg [q] w w' := by
  refine (refRead w q f2 ρ r h.2 hok hr).mono ?_
  rintro e w' ⟨h1, h2, h3⟩
  exact ⟨h1, ⟨h.1.chg h3 (by simpa using ha.pq) (fun x hx => by simp; rintro rfl; exact ha.qf hx), h2⟩, h3⟩

theorem srcOffset' (w : World) (p : Nat) (fp : List Nat) (ρ : RSrc) (h : SrcAt w p fp ρ.src) : Calls Try.prog 26 #[.pointer (some ⟨p, 0, none⟩)] w fun e w' => e = .returned (.int .i64 ρ.off) ∧ w' = w := srcOffset w p fp _ h
theorem srcReads' (w : World) (p : Nat) (fp : List Nat) (ρ : RSrc) (h : SrcAt w p fp ρ.src) : Calls Try.prog 27 #[.pointer (some ⟨p, 0, none⟩)] w fun e w' => e = .returned (.int .i64 ρ.reads) ∧ w' = w := srcReads w p fp _ h

set_option maxRecDepth 100000 in
set_option maxHeartbeats 4000000 in
theorem srcMatches (w : World) (bo co ro : Option Addr) (bc cc rc : Nat) (b : List UInt8) (c reads : List Int) (fail : Int) (fp : List Nat)
    (hb : b.length ≤ 140737488355328) (hcl : c.length * 8 ≤ 140737488355328) (hrl : reads.length * 8 ≤ 140737488355328) (hf : -9223372036854775808 ≤ fail ∧ fail ≤ 9223372036854775807)
    (hrr : ∀ x ∈ reads, x ≤ 9223372036854775807)
    (h1 : Rd w fp bo (bv b)) (h2 : Rd w fp co (iv c)) (h3 : Rd w fp ro (iv reads)) :
    Calls Try.prog 6 #[.slice bo b.length bc, .agg #[.slice co c.length cc, .int .i64 fail], .slice ro reads.length rc] w fun e w' => e = .returned (.bool true) ∧ Chg [] w w' := by
  have H1 := Lib.hid h1
  have H2 := Lib.hid h2
  have H3 := Lib.hid h3
  have HRR := Lib.hid hrr
  clear h1 h2 h3 hrr
  by_cases g2 : 5000 < b.length
  · clear hb
    go_enter Try.func6, Try.ntmps6
    go_wp2_with (first
        | (go_at_call 25; refine (srcRead_none _ _).mono ?_; rintro e w' ⟨rfl, rfl⟩)
        | (go_at_call 26; refine (srcOffset_none _).mono ?_; rintro e w' ⟨rfl, rfl⟩)
        | (go_at_call 27; refine (srcReads_none _).mono ?_; rintro e w' ⟨rfl, rfl⟩)
        | (go_at_call 23; refine (srcAlive _).mono ?_; rintro e w9 ⟨rfl, hc9⟩))
    go_ret
    exact ⟨rfl, ((Chg.refl _ _).alloc _).trans hc9⟩
  by_cases g3 : 300 < reads.length
  · go_enter Try.func6, Try.ntmps6
    go_wp2_with (first
        | (go_at_call 25; refine (srcRead_none _ _).mono ?_; rintro e w' ⟨rfl, rfl⟩)
        | (go_at_call 26; refine (srcOffset_none _).mono ?_; rintro e w' ⟨rfl, rfl⟩)
        | (go_at_call 27; refine (srcReads_none _).mono ?_; rintro e w' ⟨rfl, rfl⟩)
        | (go_at_call 23; refine (srcAlive _).mono ?_; rintro e w9 ⟨rfl, hc9⟩))
    go_ret
    exact ⟨rfl, ((Chg.refl _ _).alloc _).trans hc9⟩
  by_cases g4 : 300 < c.length
  · go_enter Try.func6, Try.ntmps6
    go_wp2_with (first
        | (go_at_call 25; refine (srcRead_none _ _).mono ?_; rintro e w' ⟨rfl, rfl⟩)
        | (go_at_call 26; refine (srcOffset_none _).mono ?_; rintro e w' ⟨rfl, rfl⟩)
        | (go_at_call 27; refine (srcReads_none _).mono ?_; rintro e w' ⟨rfl, rfl⟩)
        | (go_at_call 23; refine (srcAlive _).mono ?_; rintro e w9 ⟨rfl, hc9⟩))
    go_ret
    exact ⟨rfl, ((Chg.refl _ _).alloc _).trans hc9⟩
  go_enter Try.func6, Try.ntmps6
  go_wp2_with (first
        | (go_at_call 25; refine (srcRead_none _ _).mono ?_; rintro e w' ⟨rfl, rfl⟩)
        | (go_at_call 26; refine (srcOffset_none _).mono ?_; rintro e w' ⟨rfl, rfl⟩)
        | (go_at_call 27; refine (srcReads_none _).mono ?_; rintro e w' ⟨rfl, rfl⟩))
  have hc0 : (w.alloc (.cells #[.slice co c.length cc, .int .i64 fail] 25)).cell? ⟨w.heap.size, 0, none⟩ = some (.slice co c.length cc) := by go_simp
  have hc1 : (w.alloc (.cells #[.slice co c.length cc, .int .i64 fail] 25)).cell? ⟨w.heap.size, 1, none⟩ = some (.int .i64 fail) := by go_simp
  have hcW : Chg [] w (w.alloc (.cells #[.slice co c.length cc, .int .i64 fail] 25)) := (Chg.refl _ _).alloc _
  generalize w.alloc (.cells #[.slice co c.length cc, .int .i64 fail] 25) = W at *
  go_region_held3 (fun w' => w'.cell? ⟨w.heap.size, 0, none⟩ = some (.slice co c.length cc) ∧ w'.cell? ⟨w.heap.size, 1, none⟩ = some (.int .i64 fail) ∧ Chg [] w w')
    (first
      | exact ⟨by simp [*], by simp [*], hcW.drew⟩
      | exact keep2 k1 (by assumption)
      | exact keep2 k2 (by assumption))
    (first
      | (go_at_call 24; refine (srcNew _ bo co bc cc b c fail fp hb hcl (H1.out.chg (S := []) (by go_split_ands; assumption) (by simp)) (H2.out.chg (S := []) (by go_split_ands; assumption) (by simp))).mono ?_; rintro e w1 ⟨p, f1, rfl, s1, k1, b1, bf1⟩)
      | (go_at_call 28; refine (refNew _ bo co bc cc b c fail fp hb hcl (H1.out.chg (S := []) (by go_split_ands; assumption) (by simp)) (H2.out.chg (S := []) (by go_split_ands; assumption) (by simp))).mono ?_; rintro e w2 ⟨q, f2, rfl, s2, k2, b2, bf2⟩))
  rename_i hS
  have kW : Chg [] w w2 := hS.2.2
  clear hS hc0 hc1
  have hWs : W.drew.heap.size = W.heap.size := rfl
  have z1 := hcW.size
  have z2 := s1.lt
  have z3 := k1.size
  have hap : Apart w.heap.size p q f1 f2 := ⟨by omega, fun hm => by have := bf2 _ hm; omega, fun hm => by have := bf1 _ hm; omega, by omega, by omega⟩
  have hpair : Pair w2 w.heap.size p q f1 f2 ⟨b, c, fail, 0, 0⟩ := ⟨RSrc.ok_new hb (by omega) hf, s1.chg k2 (by simp) (by simp), s2⟩
  clear s1 s2 bf1 bf2 k1 k2 hcW z1 z2 z3
  go_wp2_with fail
  have HA := Lib.hid hap
  have HP := Lib.hid hpair
  have HK := Lib.hid kW
  clear hap hpair kW
  go_loopw [65] (fun i wr => ∃ k : Nat, k ≤ reads.length ∧ i = .int .i64 k ∧ Chg [] w wr ∧ ∃ ρ, Pair wr w.heap.size p q f1 f2 ρ) (fun i _ => reads.length - (intOf i).toNat)
  case atStart => exact ⟨0, Nat.zero_le _, rfl, HK.out, _, HP.out⟩
  case round =>
    obtain ⟨k, hk, rfl, hkr, ρ, hρ⟩ := hrel
    by_cases hlt : k < reads.length
    · obtain ⟨ad, hro, _, hcell⟩ := (H3.out.chg hkr (by simp)) k _ (iv_get reads k hlt)
      subst hro
      have hrk := HRR.out _ (List.getElem_mem hlt)
      generalize reads[k] = r at *
      generalize hN : reads.length = N at *
      have HN := Lib.hid hN
      have HKR := Lib.hid hkr
      have HPR := Lib.hid hρ
      clear hN hkr hρ
      go_wp2_with fail
      refine (pairS HPR.out HA.out r hrk).mono ?_
      rintro e w3 ⟨⟨a3, c3, rfl, hown3⟩, hs3, hk3⟩
      have HS3 := Lib.hid hs3
      have HO3 := Lib.hid hown3
      have HK3 := Lib.hid hk3
      clear hs3 hown3 hk3
      go_wp2_with fail
      refine (pairM HPR.out.ok HS3.out HA.out r hrk).mono ?_
      rintro e w4 ⟨⟨a4, c4, rfl, hown4⟩, hs4, hk4⟩
      have hok4 := RSrc.ok_read HPR.out.ok r
      generalize hrd : ρ.read r = R at *
      obtain ⟨code, bs, ρ'⟩ := R
      simp only at hown4 hs4 hok4 ⊢
      have v3 : ∀ n, (convert 22 9 (.slice a3 bs.length c3)).run Try.prog (w4.drewN n) = .ok (.string (sb bs)) (w4.drewN n) := fun n => conv_own (S := [q]) rfl HO3.out (hk4.drewN n) (fun x hx => by simp; rintro rfl; have := HPR.out.m.lt; omega)
      have v4 : ∀ n, (convert 22 9 (.slice a4 bs.length c4)).run Try.prog (w4.drewN n) = .ok (.string (sb bs)) (w4.drewN n) := fun n => conv_own (S := []) rfl hown4 ((Chg.refl _ _).drewN n) (by simp)
      obtain ⟨ra4, rc4, ca4, cc4, hq4, _⟩ := hs4.2
      have m2 : w4.cell? ⟨q, 3, none⟩ = some (.int .i64 ρ'.off) := cell_heap hq4 3 rfl
      have m3 : w4.cell? ⟨q, 4, none⟩ = some (.int .i64 ρ'.reads) := cell_heap hq4 4 rfl
      have HS4 := Lib.hid hs4
      have HK4 := Lib.hid hk4
      have HOK4 := Lib.hid hok4
      have HRD := Lib.hid hrd
      clear hs4 hown4 hk4 hok4 hrd hq4
      go_wp2_with fail
      go_quiet (first | (go_at_call 26; exact Calls.quiet_of_same (srcOffset' _ p f1 ρ' HS4.out.1)) | (go_at_call 27; exact Calls.quiet_of_same (srcReads' _ p f1 ρ' HS4.out.1)))
      go_wp2_with fail
      go_roundw
      case rel =>
        have hb1 := HA.out.bp
        have hb2 := HA.out.bq
        exact ⟨k + 1, by omega, by go_num, ((HKR.out.trans' HK3.out (U := []) (by simp) (fun x hx hl => by simp at hx; omega)).trans' HK4.out (U := []) (by simp) (fun x hx hl => by simp at hx; omega)).drewN _, ρ', HOK4.out, HS4.out.1.chg ((Chg.refl [] _).drewN _) (by simp) (by simp), HS4.out.2.chg ((Chg.refl [] _).drewN _) (by simp) (by simp)⟩
      case measure => simp [intOf]; omega
    · have hkk : k = reads.length := by omega
      subst hkk
      go_wp2_with (go_at_call 23; refine (srcAlive _).mono ?_; rintro e w9 ⟨rfl, hc9⟩)
      go_ret
      exact ⟨rfl, hkr.trans hc9⟩
end Go.Proofs.Ytljlcigbehgohaa
