/- paxtarlaw05.SinkMatchesReference. -/
import Derived.Test.YtljlcigbehgohaaOpenB
import Derived.Deep.DeepCutAuto
import Derived.Deep.RegionHeld3
namespace Go.Proofs.Ytljlcigbehgohaa
open Go.RowKit Go.Pax

theorem total_le (L : List (List UInt8)) (i : Nat) : total (L.take i) ≤ total L := by
  unfold total
  conv => rhs; rw [← List.take_append_drop i L, List.map_append, List.sum_append]
  omega
/-- A sink and its reference, side by side. -/
structure SPair (B : Nat) (w : World) (p q : Nat) (f1 f2 o1 o2 : List Nat) (σ : Snk) : Prop where
  ok : σ.Ok
  s : SnkAt B w p f1 o1 σ
  m : RSnkAt w q f2 o2 σ
  pq : p ≠ q
  bp : B ≤ p
  bq : B ≤ q
  q1 : q ∉ f1
  qo : q ∉ o1
  p2 : p ∉ f2
  po : p ∉ o2
  fo : ∀ x ∈ f2, x ∉ o1
  oo : ∀ x ∈ o2, x ∉ o1

theorem SPair.chg {B : Nat} {w w' : World} {p q : Nat} {f1 f2 o1 o2 : List Nat} {σ : Snk} (h : SPair B w p q f1 f2 o1 o2 σ) (k : Chg [] w w') : SPair B w' p q f1 f2 o1 o2 σ :=
  ⟨h.ok, h.s.chg k (by simp) (by simp) (by simp), h.m.chg k (by simp) (by simp) (by simp), h.pq, h.bp, h.bq, h.q1, h.qo, h.p2, h.po, h.fo, h.oo⟩
theorem SPair.step1 {B : Nat} {w w' : World} {p q : Nat} {f1 f2 o1 o2 : List Nat} {σ σ' : Snk} (h : SPair B w p q f1 f2 o1 o2 σ) (k : SnkTo B w w' p f1 o1 σ') :
    ∃ o1', SnkAt B w' p f1 o1' σ' ∧ RSnkAt w' q f2 o2 σ ∧ (∀ g ∈ o1', g ∈ o1 ∨ w.heap.size ≤ g) ∧ Chg (p :: o1) w w' := by
  obtain ⟨o1', ⟨h1, h2⟩, hk⟩ := k
  refine ⟨o1', h1, h.m.chg hk ?_ ?_ ?_, h2, hk⟩
  · simp; exact ⟨Ne.symm h.pq, h.qo⟩
  · intro x hx; simp; exact ⟨by rintro rfl; exact h.p2 hx, h.fo x hx⟩
  · intro x hx; simp; exact ⟨by rintro rfl; exact h.po hx, h.oo x hx⟩
theorem SPair.step2 {B : Nat} {w w1 w2 : World} {p q : Nat} {f1 f2 o1 o2 o1' : List Nat} {σ σ' : Snk} (h : SPair B w p q f1 f2 o1 o2 σ) (hok : σ'.Ok) (k1 : Chg (p :: o1) w w1) (h1 : SnkAt B w1 p f1 o1' σ') (hn : ∀ g ∈ o1', g ∈ o1 ∨ w.heap.size ≤ g) (k : RSnkTo w1 w2 q f2 o2 σ') :
    ∃ o2', SPair B w2 p q f1 f2 o1' o2' σ' ∧ Chg [q] w1 w2 := by
  obtain ⟨o2', ⟨h2, h3⟩, hk⟩ := k
  have hql := h.m.lt
  have hpl := h.s.lt
  have hz := k1.size
  have ho1 := h1.ownlt
  have ho2 : ∀ x ∈ o2, x < w.heap.size := by obtain ⟨_, _, _, _, _, _, _, _, h5⟩ := h.m; exact fun x hx => (h5 x hx).2
  have hf2 : ∀ x ∈ f2, x < w.heap.size := by obtain ⟨_, _, _, _, _, _, _, h5, _⟩ := h.m; exact fun x hx => (h5 x hx).2
  have hq1 : q ∉ o1' := fun hm => by
    rcases hn q hm with hh | hh
    · exact h.qo hh
    · omega
  refine ⟨o2', ⟨hok, h1.chg hk (by simpa using h.pq) (fun x hx => by simp; rintro rfl; exact h.q1 hx) (fun x hx => by simp; rintro rfl; exact hq1 hx), h2, h.pq, h.bp, h.bq, h.q1, hq1, h.p2, ?_, ?_, ?_⟩, hk⟩
  · intro hm
    rcases h3 p hm with hh | hh
    · exact h.po hh
    · have := h1.lt; omega
  · intro x hx hm
    rcases hn x hm with hh | hh
    · exact h.fo x hx hh
    · have := hf2 x hx; omega
  · intro x hx hm
    rcases h3 x hx with hh | hh
    · rcases hn x hm with h4 | h4
      · exact h.oo x hh h4
      · have := ho2 x hh; omega
    · have := ho1 x hm; omega

theorem wpAnyH_weaken {P : Program} {md : Region.Mode} {ops : Array Oper} {Q : Exit → Act → World → Prop} {S T : World → Prop} (hST : ∀ w, S w → T w) :
    ∀ {fuel : Nat} {listed : Array Bool} {a : Act} {w : World}, wpAnyH P md ops Q S fuel listed a w → wpAnyH P md ops Q T fuel listed a w
  | 0, _, _, _, h => h
  | _ + 1, _, _, _, h => ⟨h.1, fun i hi => wpOp_mono (fun _ _ h' => ⟨hST _ h'.1, wpAnyH_weaken hST h'.2⟩) (h.2 i hi)⟩

/-- What stands where the ways meet again in a round. -/
def CutR (_N k p q : Nat) (f1 f2 : List Nat) (B : Nat) (w : World) (L : List (List UInt8)) (wx : World) : Prop :=
  ∃ o1 o2 σ, SPair B wx p q f1 f2 o1 o2 σ ∧ σ.b.length ≤ total (L.take (k + 1)) ∧ Chg [] w wx

set_option maxRecDepth 100000 in
set_option maxHeartbeats 8000000 in
theorem sinkMatches (w : World) (co lo to_ : Option Addr) (cc lc tc : Nat) (c : List Int) (fail : Int) (L : List (List UInt8)) (T : List Bool) (fp : List Nat)
    (hcl : c.length * 8 ≤ 140737488355328) (hf : -9223372036854775808 ≤ fail ∧ fail ≤ 9223372036854775807) (hb : ∀ b ∈ L, b.length ≤ 140737488355328) (_htl : T.length ≤ 140737488355328)
    (h1 : Rd w fp co (iv c)) (h2 : RdB w fp lo L) (h3 : Rd w fp to_ (tv T)) (hll : L.length ≤ 140737488355328) :
    Calls Try.prog 7 #[.agg #[.slice co c.length cc, .int .i64 fail], .slice lo L.length lc, .slice to_ T.length tc] w fun e w' => e = .returned (.bool true) ∧ Chg [] w w' := by
  have kc : ∀ (o : Obj) (C : Array Value) (n c : Nat), (convert 22 22 (.slice (some ⟨w.heap.size + 1, 0, none⟩) n c)).run Try.prog ((w.alloc o).alloc (.cells C 5)) = .ok (.slice (some ⟨w.heap.size + 1, 0, none⟩) n c) ((w.alloc o).alloc (.cells C 5 (C.size, C.size + 1))) := fun o C n c => by
    have h := Lib.run_convert_bytes_const (P := Try.prog) (w.alloc o) 22 5 C n c Try.underlying22 Try.underlying5
    rwa [World.size_alloc] at h
  have H1 := Lib.hid h1
  have H2 := Lib.hid h2
  have H3 := Lib.hid h3
  have HB := Lib.hid hb
  have HF := Lib.hid hf
  clear h1 h2 h3 hb hf
  by_cases g2 : 100 < L.length
  · go_enter Try.func7, Try.ntmps7
    go_wp2_with (first
        | (go_at_call 30; refine (sinkWrite_none _ _).mono ?_; rintro e w' ⟨rfl, rfl⟩)
        | (go_at_call 31; refine (sinkAll_none _ _).mono ?_; rintro e w' ⟨rfl, rfl⟩)
        | (go_at_call 32; refine (sinkBytes_none _).mono ?_; rintro e w' ⟨rfl, rfl⟩)
        | (go_at_call 33; refine (sinkLen_none _).mono ?_; rintro e w' ⟨rfl, rfl⟩)
        | (go_at_call 34; refine (sinkSize _ lo lc L fp (H2.out.chg (S := []) (((Chg.refl _ _).alloc _).alloc _) (by simp)) (by omega) HB.out).mono ?_; rintro e w' ⟨rfl, rfl⟩)
        | (go_at_call 35; refine (sinkAlive _).mono ?_; rintro e w9 ⟨rfl, hc9⟩))
    go_ret
    exact ⟨rfl, (((Chg.refl _ _).alloc _).alloc _).trans hc9⟩
  by_cases g3 : 5000 < total L
  · go_enter Try.func7, Try.ntmps7
    go_wp2_with (first
        | (go_at_call 30; refine (sinkWrite_none _ _).mono ?_; rintro e w' ⟨rfl, rfl⟩)
        | (go_at_call 31; refine (sinkAll_none _ _).mono ?_; rintro e w' ⟨rfl, rfl⟩)
        | (go_at_call 32; refine (sinkBytes_none _).mono ?_; rintro e w' ⟨rfl, rfl⟩)
        | (go_at_call 33; refine (sinkLen_none _).mono ?_; rintro e w' ⟨rfl, rfl⟩)
        | (go_at_call 34; refine (sinkSize _ lo lc L fp (H2.out.chg (S := []) (((Chg.refl _ _).alloc _).alloc _) (by simp)) (by omega) HB.out).mono ?_; rintro e w' ⟨rfl, rfl⟩)
        | (go_at_call 35; refine (sinkAlive _).mono ?_; rintro e w9 ⟨rfl, hc9⟩))
    go_ret
    exact ⟨rfl, (((Chg.refl _ _).alloc _).alloc _).trans hc9⟩
  by_cases g4 : 300 < c.length
  · go_enter Try.func7, Try.ntmps7
    go_wp2_with (first
        | (go_at_call 30; refine (sinkWrite_none _ _).mono ?_; rintro e w' ⟨rfl, rfl⟩)
        | (go_at_call 31; refine (sinkAll_none _ _).mono ?_; rintro e w' ⟨rfl, rfl⟩)
        | (go_at_call 32; refine (sinkBytes_none _).mono ?_; rintro e w' ⟨rfl, rfl⟩)
        | (go_at_call 33; refine (sinkLen_none _).mono ?_; rintro e w' ⟨rfl, rfl⟩)
        | (go_at_call 34; refine (sinkSize _ lo lc L fp (H2.out.chg (S := []) (((Chg.refl _ _).alloc _).alloc _) (by simp)) (by omega) HB.out).mono ?_; rintro e w' ⟨rfl, rfl⟩)
        | (go_at_call 35; refine (sinkAlive _).mono ?_; rintro e w9 ⟨rfl, hc9⟩))
    go_ret
    exact ⟨rfl, (((Chg.refl _ _).alloc _).alloc _).trans hc9⟩
  go_enter Try.func7, Try.ntmps7
  go_wp2_with (first
        | (go_at_call 30; refine (sinkWrite_none _ _).mono ?_; rintro e w' ⟨rfl, rfl⟩)
        | (go_at_call 31; refine (sinkAll_none _ _).mono ?_; rintro e w' ⟨rfl, rfl⟩)
        | (go_at_call 32; refine (sinkBytes_none _).mono ?_; rintro e w' ⟨rfl, rfl⟩)
        | (go_at_call 33; refine (sinkLen_none _).mono ?_; rintro e w' ⟨rfl, rfl⟩)
        | (go_at_call 34; refine (sinkSize _ lo lc L fp (H2.out.chg (S := []) (((Chg.refl _ _).alloc _).alloc _) (by simp)) (by omega) HB.out).mono ?_; rintro e w' ⟨rfl, rfl⟩))
  have hc0 : ((w.alloc (.cells #[.slice co c.length cc, .int .i64 fail] 25)).alloc (.cells #[.int .u8 97] 5 (1, 2))).cell? ⟨w.heap.size, 0, none⟩ = some (.slice co c.length cc) := Lib.cell?_alloc_some _ (by go_simp)
  have hc1 : ((w.alloc (.cells #[.slice co c.length cc, .int .i64 fail] 25)).alloc (.cells #[.int .u8 97] 5 (1, 2))).cell? ⟨w.heap.size, 1, none⟩ = some (.int .i64 fail) := Lib.cell?_alloc_some _ (by go_simp)
  have hcW : Chg [] w ((w.alloc (.cells #[.slice co c.length cc, .int .i64 fail] 25)).alloc (.cells #[.int .u8 97] 5 (1, 2))) := ((Chg.refl _ _).alloc _).alloc _
  clear kc
  generalize (w.alloc (.cells #[.slice co c.length cc, .int .i64 fail] 25)).alloc (.cells #[.int .u8 97] 5 (1, 2)) = W at *
  go_region_held3 (fun w' => w'.cell? ⟨w.heap.size, 0, none⟩ = some (.slice co c.length cc) ∧ w'.cell? ⟨w.heap.size, 1, none⟩ = some (.int .i64 fail) ∧ Chg [] w w')
    (first
      | exact ⟨by simp [*], by simp [*], hcW.drew⟩
      | exact keep2 k1 (by assumption)
      | exact keep2 k2 (by assumption))
    (first
      | (go_at_call 36; refine (sinkNew _ w.heap.size co _ cc c fail fp rfl hcl (by go_split_ands; exact Chg.size (S := []) (w := w) (by assumption)) (H1.out.chg (S := []) (by go_split_ands; assumption) (by simp))).mono ?_; rintro e w1 ⟨p, f1, rfl, s1, k1, b1, bf1⟩)
      | (go_at_call 37; refine (rsinkNew _ co _ cc c fail fp rfl hcl (H1.out.chg (S := []) (by go_split_ands; assumption) (by simp))).mono ?_; rintro e w2 ⟨q, f2, rfl, s2, k2, b2, bf2⟩))
  rename_i hS
  have kW : Chg [] w w2 := hS.2.2
  clear hS hc0 hc1
  have hWs : W.drew.heap.size = W.heap.size := rfl
  have z1 := hcW.size
  have z2 := s1.lt
  have z3 := k1.size
  have hpair : SPair w.heap.size w2 p q f1 f2 [] [] ⟨[], c, fail, 0⟩ := ⟨Snk.ok_new (by omega) HF.out, s1.chg k2 (by simp) (by simp) (by simp), s2, by omega, by omega, by omega, fun hm => by have := bf1 _ hm; omega, by simp, fun hm => by have := bf2 _ hm; omega, by simp, by simp, by simp⟩
  have HPR0 := Lib.hid hpair
  have HK := Lib.hid kW
  have htt : ∀ i, total (L.take i) ≤ 5000 := fun i => Nat.le_trans (total_le L i) (by omega)
  have HTT := Lib.hid htt
  clear s1 s2 bf1 bf2 k1 k2 hcW z1 z2 z3 hpair kW htt
  generalize hN : L.length = N at *
  have HN := Lib.hid hN
  clear hN
  go_wp2_with fail
  go_loopw [70] (fun i wr => ∃ k : Nat, k ≤ N ∧ i = .int .i64 k ∧ Chg [] w wr ∧ ∃ o1 o2 σ, SPair w.heap.size wr p q f1 f2 o1 o2 σ ∧ σ.b.length ≤ total (L.take k)) (fun i _ => N - (intOf i).toNat)
  case atStart => exact ⟨0, Nat.zero_le _, rfl, HK.out, [], [], _, HPR0.out, by simp⟩
  case round =>
    obtain ⟨k, hk, rfl, hkr, o1, o2, σ, hpr, hle0⟩ := hrel
    have HKR := Lib.hid hkr
    have HPR := Lib.hid hpr
    have HLE0 := Lib.hid hle0
    clear hkr hpr hle0
    by_cases hlt : k < N
    · have hkL : k < L.length := by rw [HN.out]; exact hlt
      obtain ⟨ad, a, bc, rfl, hcell0, hbc, hrow⟩ := H2.out.at k hkL
      have hcell := HKR.out.cell hcell0 (by simp)
      obtain ⟨fq, hfq, hfl⟩ := hrow.tight
      have hfb : ∀ x ∈ fq, x ≠ p ∧ x ∉ o1 ∧ x < wr.heap.size := fun x hx => by
        have h1 := (hfl x hx).2
        have h2 := HPR.out.bp
        have h3 := HKR.out.size
        exact ⟨by omega, fun hm => by have := HPR.out.s.ownlt x hm; omega, by omega⟩
      have hfbq : ∀ x ∈ fq, x ≠ q := fun x hx => by
        have h1 := (hfl x hx).2
        have h2 := HPR.out.bq
        omega
      have hsl : σ.b.length ≤ 5000 := Nat.le_trans HLE0.out (HTT.out k)
      have hbl : L[k].length ≤ 5000 := by have h1 := total_take L k hkL; have h2 := HTT.out (k + 1); omega
      have HFQ := Lib.hid hfq
      have HFB := Lib.hid hfb
      have HFBQ := Lib.hid hfbq
      clear hcell0 hrow hfl hfq hfb hfbq
      generalize hBk : L[k] = b at *
      have HBK := Lib.hid hBk
      clear hBk
      go_upto_region 13 with (fail)
      go_cut [70, 84] from 70 to 131 (fun i t wx => i = .int .i64 k ∧ ∃ tb : Bool, t = .bool tb ∧ wx = wr)
      case first =>
        by_cases hT : k < T.length
        · obtain ⟨at_, rfl, _, hcT⟩ := (H3.out.chg HKR.out (by simp)) k _ (tv_get T k hT)
          generalize T[k] = tk at *
          generalize hTL : T.length = TL at *
          have hTi : (k : Int) < TL := by omega
          clear hTL
          go_wp2_with fail
          go_meet
          exact ⟨rfl, tk, rfl, rfl⟩
        · generalize hTL : T.length = TL at *
          clear hTL
          go_wp2_with fail
          go_meet
          exact ⟨rfl, _, rfl, rfl⟩
      case rest =>
      obtain ⟨rfl, tb, rfl, rfl⟩ := hcut
      go_upto_if 84 with (fail)
      go_cut [14, 15, 16, 17, 70] from 70 to 131 (fun _ _ _ _ i wx => i = .int .i64 k ∧ CutR N k p q f1 f2 w.heap.size w L wx)
      case first =>
        cases tb
        · go_wp2_with fail
          refine (sinkWrite _ w.heap.size p f1 o1 fq σ b a bc HPR.out.s HPR.out.ok (HFQ.out.chg HKR.out (by simp)) hbc (by omega)).mono ?_
          rintro e w3 ⟨rfl, hto⟩
          obtain ⟨o1', hs3, hm3, hn3, hk3⟩ := HPR.out.step1 hto
          have HS3 := Lib.hid hs3
          have HM3 := Lib.hid hm3
          have HN3 := Lib.hid hn3
          have HK3 := Lib.hid hk3
          have hk03 : Chg [] w w3 := HKR.out.trans' HK3.out (U := []) (by simp) (fun x hx hl => by
            have hb1 := HPR.out.bp
            rcases List.mem_cons.1 hx with rfl | hx
            · omega
            · have := HPR.out.s.ownlt x hx; omega)
          have HK03 := Lib.hid hk03
          clear hs3 hm3 hn3 hk3 hto hk03
          go_wp2_with fail
          refine (rsinkWrite _ q f2 o2 fq σ b a bc HM3.out HPR.out.ok (HFQ.out.chg HK03.out (by simp)) hbc (by omega)).mono ?_
          rintro e w4 ⟨rfl, hto⟩
          obtain ⟨o2', hpr4, hk4⟩ := HPR.out.step2 (Snk.ok_write HPR.out.ok b) HK3.out HS3.out HN3.out hto
          have hk04 : Chg [] w w4 := HK03.out.trans' hk4 (by simp) (fun x hx hl => by have hb1 := HPR.out.bq; simp at hx; omega)
          have hle : ((σ.write b).2.2).b.length ≤ total (L.take (k + 1)) := by
            have h1 := HLE0.out
            have h2 := total_take L k (by rw [HN.out]; exact hlt)
            have h4 := congrArg List.length HBK.out
            have h3 : ((σ.write b).2.2).b.length ≤ σ.b.length + b.length := (σ.write_len HPR.out.ok b).1
            omega
          have hres : CutR N k p q f1 f2 w.heap.size w L w4 := ⟨o1', o2', _, hpr4, hle, hk04⟩
          have HRES := Lib.hid hres
          clear hpr4 hk04 hle hto hk4 hres
          go_wp2_with fail
          go_meet
          exact ⟨rfl, HRES.out⟩
        · go_wp2_with fail
          refine (sinkAll _ w.heap.size p f1 o1 fq σ b a bc HPR.out.s HPR.out.ok (HFQ.out.chg HKR.out (by simp)) hbc HFB.out (by omega)).mono ?_
          rintro e w3 ⟨rfl, hto⟩
          obtain ⟨o1', hs3, hm3, hn3, hk3⟩ := HPR.out.step1 hto
          have HS3 := Lib.hid hs3
          have HM3 := Lib.hid hm3
          have HN3 := Lib.hid hn3
          have HK3 := Lib.hid hk3
          have hk03 : Chg [] w w3 := HKR.out.trans' HK3.out (U := []) (by simp) (fun x hx hl => by
            have hb1 := HPR.out.bp
            rcases List.mem_cons.1 hx with rfl | hx
            · omega
            · have := HPR.out.s.ownlt x hx; omega)
          have HK03 := Lib.hid hk03
          clear hs3 hm3 hn3 hk3 hto hk03
          go_wp2_with fail
          refine (rsinkAll _ q f2 o2 fq σ b a bc HM3.out HPR.out.ok (HFQ.out.chg HK03.out (by simp)) hbc HFBQ.out (by omega)).mono ?_
          rintro e w4 ⟨rfl, hto⟩
          obtain ⟨o2', hpr4, hk4⟩ := HPR.out.step2 (Snk.ok_all HPR.out.ok b) HK3.out HS3.out HN3.out hto
          have hk04 : Chg [] w w4 := HK03.out.trans' hk4 (by simp) (fun x hx hl => by have hb1 := HPR.out.bq; simp at hx; omega)
          have hle : ((σ.all b).2).b.length ≤ total (L.take (k + 1)) := by
            have h1 := HLE0.out
            have h2 := total_take L k (by rw [HN.out]; exact hlt)
            have h4 := congrArg List.length HBK.out
            have h3 : ((σ.all b).2).b.length ≤ σ.b.length + b.length := Snk.allF_len _ σ b HPR.out.ok (Nat.le_refl _)
            omega
          have hres : CutR N k p q f1 f2 w.heap.size w L w4 := ⟨o1', o2', _, hpr4, hle, hk04⟩
          have HRES := Lib.hid hres
          clear hpr4 hk04 hle hto hk4 hres
          go_wp2_with fail
          go_meet
          exact ⟨rfl, HRES.out⟩
      case rest =>
      obtain ⟨rfl, hcr⟩ := hcut
      obtain ⟨o1', o2', σ', hpr4, hle4, hk4⟩ := hcr
      have HPR4 := Lib.hid hpr4
      have HLE4 := Lib.hid hle4
      have HK4 := Lib.hid hk4
      clear hpr4 hle4 hk4
      go_upto_region 20 with (fail)
      have hlen : σ'.b.length ≤ 5000 := by have h1 := HTT.out (k + 1); have h2 := HLE4.out; omega
      obtain ⟨ma, mc, ra, rc, hq4, _, hmr, _, _⟩ := HPR4.out.m
      have m0 := cell_heap hq4 0 rfl
      have HMR := Lib.hid hmr
      clear hq4 hmr
      have v4 : (convert 22 9 (.slice ma σ'.b.length mc)).run Try.prog wc.drew = .ok (.string (sb σ'.b)) wc.drew := Try.conv _ o2' _ _ _ _ rfl (HMR.out.chg (S := []) (Chg.refl [] wc).drew (by simp))
      go_cut [70, 130] from 70 to 131 (fun i s wx => i = .int .i64 k ∧ s = .bool false ∧ Chg [] wc wx)
      case first =>
        have HS4 := Lib.hid HPR4.out.s
        clear HPR4 HLE4 HK4 HLE0 HPR HKR HTT HB HF HN H1 H2 H3
        refine wp_region_held_drew (S := fun w' => w'.cell? ⟨q, 0, none⟩ = some (.slice ma σ'.b.length mc) ∧ (convert 22 9 (.slice ma σ'.b.length mc)).run Try.prog w' = .ok (.string (sb σ'.b)) w' ∧ Chg [] wc w') (by kernel_rfl) ?_ (fun hHeld => ?_)
        · exact ⟨by simp [*], v4, (Chg.refl _ _).drew⟩
        refine wpAnyH_take (i := 0) (oi := ?oi1) (v := ?v1) ?hi1 (by kernel_rfl) (by kernel_rfl) (by kernel_rfl) ?hQ1 (Or.inl ⟨?hw1, ?hy1⟩) (by assumption) ?hr1
        case hi1 => simp only [List.getElem?_toArray, List.getElem?_cons_zero]; rfl
        case hQ1 => exact fun _ _ _ h => h
        case hw1 => rfl
        case hy1 => intro w hSw; (try dsimp only at hSw); go_simp; (try with_reducible rfl)
        case hr1 =>
        simp only [Act.put, List.setIfInBounds_toArray, List.set_cons_zero, List.set_cons_succ]
        refine wpAnyH_take (i := 3) (oi := ?oi2) (v := ?v2) ?hi2 (by kernel_rfl) (by kernel_rfl) (by kernel_rfl) ?hQ2 (Or.inl ⟨?hw2, ?hy2⟩) (by assumption) ?hr2
        case hi2 => simp only [List.getElem?_toArray, List.getElem?_cons_succ, List.getElem?_cons_zero]; rfl
        case hQ2 => exact fun _ _ _ h => h
        case hw2 => rfl
        case hy2 => intro w hSw; (try dsimp only at hSw); go_simp; (try with_reducible rfl)
        case hr2 =>
        simp only [Act.put, List.setIfInBounds_toArray, List.set_cons_zero, List.set_cons_succ]
        refine wpAnyH_take (i := 4) (oi := ?oi3) (v := ?v3) ?hi3 (by kernel_rfl) (by kernel_rfl) (by kernel_rfl) ?hQ3 (Or.inl ⟨?hw3, ?hy3⟩) (by assumption) ?hr3
        case hi3 => simp only [List.getElem?_toArray, List.getElem?_cons_succ, List.getElem?_cons_zero]; rfl
        case hQ3 => exact fun _ _ _ h => h
        case hw3 => rfl
        case hy3 => intro w hSw; (try dsimp only at hSw); go_simp; (try with_reducible rfl)
        case hr3 =>
        simp only [Act.put, List.setIfInBounds_toArray, List.set_cons_zero, List.set_cons_succ]
        refine wpAnyH_take (i := 5) (oi := ?oi4) (v := ?v4) ?hi4 (by kernel_rfl) (by kernel_rfl) (by kernel_rfl) ?hQ4 (Or.inl ⟨?hw4, ?hy4⟩) (by assumption) ?hr4
        case hi4 => simp only [List.getElem?_toArray, List.getElem?_cons_succ, List.getElem?_cons_zero]; rfl
        case hQ4 => exact fun _ _ _ h => h
        case hw4 => rfl
        case hy4 => intro w hSw; (try dsimp only at hSw); go_simp; (try with_reducible rfl)
        case hr4 =>
        simp only [Act.put, List.setIfInBounds_toArray, List.set_cons_zero, List.set_cons_succ]
        refine wpAnyH_take (i := 6) (oi := ?oi5) (v := ?v5) ?hi5 (by kernel_rfl) (by kernel_rfl) (by kernel_rfl) ?hQ5 (Or.inl ⟨?hw5, ?hy5⟩) (by assumption) ?hr5
        case hi5 => simp only [List.getElem?_toArray, List.getElem?_cons_succ, List.getElem?_cons_zero]; rfl
        case hQ5 => exact fun _ _ _ h => h
        case hw5 => rfl
        case hy5 => intro w hSw; (try dsimp only at hSw); go_simp; (try with_reducible rfl)
        case hr5 =>
        simp only [Act.put, List.setIfInBounds_toArray, List.set_cons_zero, List.set_cons_succ]
        refine wpAnyH_take (i := 7) (oi := ?oi6) (v := ?v6) ?hi6 (by kernel_rfl) (by kernel_rfl) (by kernel_rfl) ?hQ6 (Or.inl ⟨?hw6, ?hy6⟩) (by assumption) ?hr6
        case hi6 => simp only [List.getElem?_toArray, List.getElem?_cons_succ, List.getElem?_cons_zero]; rfl
        case hQ6 => exact fun _ _ _ h => h
        case hw6 => rfl
        case hy6 => intro w hSw; (try dsimp only at hSw); go_simp; (try with_reducible rfl)
        case hr6 =>
        simp only [Act.put, List.setIfInBounds_toArray, List.set_cons_zero, List.set_cons_succ]
        refine wpAnyH_ready (rs := [1]) (by kernel_rfl) (by simp) (AllReadyH.cons (o := ?oc7) ?hc7 (fun K hK => ?hs7) AllReadyH.nil)
        case hc7 => simp only [List.getElem?_toArray, List.getElem?_cons_succ, List.getElem?_cons_zero]; rfl
        case hs7 =>
        rw [if_pos (by rfl)]
        go_simp
        go_at_call 32; refine (sinkBytes _ w.heap.size p f1 o1' σ' (HS4.out.chg (S := []) (Chg.refl [] wc).drew (by simp) (by simp) (by simp)) (by omega)).mono ?_; rintro e w5 ⟨a5, c5, rfl, hown5, hgr5⟩; have hc5 : Chg [] wc w5 := (Chg.refl [] wc).drew.trans (Chg.of_grown hgr5 (by simp)); have v5 : (convert 22 9 (.slice a5 σ'.b.length c5)).run Try.prog w5 = .ok (.string (sb σ'.b)) w5 := conv_own (S := []) rfl hown5 (Chg.refl _ _) (by simp); have v6 : (convert 22 9 (.slice ma σ'.b.length mc)).run Try.prog w5 = .ok (.string (sb σ'.b)) w5 := Try.conv _ o2' _ _ _ _ rfl (HMR.out.chg (S := []) hc5 (by simp)); have HC5 := Lib.hid hc5; clear hown5 hgr5 hc5
        go_wp2_with fail
        refine hK.out _ _ ?_ (fun hHeld => ?_)
        · exact ⟨HC5.out.cell m0 (by simp), v6, HC5.out⟩
        clear hK K
        try simp only [Act.put, List.setIfInBounds_toArray, List.set_cons_zero, List.set_cons_succ]
        refine wpAnyH_weaken (S := fun w' => w'.cell? ⟨q, 0, none⟩ = some (.slice ma σ'.b.length mc) ∧ (convert 22 9 (.slice a5 σ'.b.length c5)).run Try.prog w' = .ok (.string (sb σ'.b)) w' ∧ Chg [] wc w') (fun w' h => ⟨h.1, Try.conv _ o2' _ _ _ _ rfl (HMR.out.chg (S := []) h.2.2 (by simp)), h.2.2⟩) ?_
        have hHeld2 : w5.cell? ⟨q, 0, none⟩ = some (.slice ma σ'.b.length mc) ∧ (convert 22 9 (.slice a5 σ'.b.length c5)).run Try.prog w5 = .ok (.string (sb σ'.b)) w5 ∧ Chg [] wc w5 := ⟨hHeld.1, v5, hHeld.2.2⟩
        clear hHeld
        refine wpAnyH_take (i := 2) (oi := ?oi8) (v := ?v8) ?hi8 (by kernel_rfl) (by kernel_rfl) (by kernel_rfl) ?hQ8 (Or.inl ⟨?hw8, ?hy8⟩) (by assumption) ?hr8
        case hi8 => simp only [List.getElem?_toArray, List.getElem?_cons_succ, List.getElem?_cons_zero]; rfl
        case hQ8 => exact fun _ _ _ h => h
        case hw8 => rfl
        case hy8 => intro w hSw; (try dsimp only at hSw); go_simp; (try with_reducible rfl)
        case hr8 =>
        simp only [Act.put, List.setIfInBounds_toArray, List.set_cons_zero, List.set_cons_succ]
        refine wpAnyH_take (i := 8) (oi := ?oi9) (v := ?v9) ?hi9 (by kernel_rfl) (by kernel_rfl) (by kernel_rfl) ?hQ9 (Or.inl ⟨?hw9, ?hy9⟩) (by assumption) ?hr9
        case hi9 => simp only [List.getElem?_toArray, List.getElem?_cons_succ, List.getElem?_cons_zero]; rfl
        case hQ9 => exact fun _ _ _ h => h
        case hw9 => rfl
        case hy9 => intro w hSw; (try dsimp only at hSw); go_simp; (try with_reducible rfl)
        case hr9 =>
        simp only [Act.put, List.setIfInBounds_toArray, List.set_cons_zero, List.set_cons_succ]
        refine wpAnyH_take (i := 9) (oi := ?oi10) (v := ?v10) ?hi10 (by kernel_rfl) (by kernel_rfl) (by kernel_rfl) ?hQ10 (Or.inl ⟨?hw10, ?hy10⟩) (by assumption) ?hr10
        case hi10 => simp only [List.getElem?_toArray, List.getElem?_cons_succ, List.getElem?_cons_zero]; rfl
        case hQ10 => exact fun _ _ _ h => h
        case hw10 => rfl
        case hy10 => intro w hSw; (try dsimp only at hSw); go_simp; (try with_reducible rfl)
        case hr10 =>
        simp only [Act.put, List.setIfInBounds_toArray, List.set_cons_zero, List.set_cons_succ]
        refine wpAnyH_take (i := 10) (oi := ?oi11) (v := ?v11) ?hi11 (by kernel_rfl) (by kernel_rfl) (by kernel_rfl) ?hQ11 (Or.inl ⟨?hw11, ?hy11⟩) (by assumption) ?hr11
        case hi11 => simp only [List.getElem?_toArray, List.getElem?_cons_succ, List.getElem?_cons_zero]; rfl
        case hQ11 => exact fun _ _ _ h => h
        case hw11 => rfl
        case hy11 => intro w hSw; (try dsimp only at hSw); go_simp; (try with_reducible rfl)
        case hr11 =>
        simp only [Act.put, List.setIfInBounds_toArray, List.set_cons_zero, List.set_cons_succ]
        refine wpAnyH_take (i := 12) (oi := ?oi12) (v := ?v12) ?hi12 (by kernel_rfl) (by kernel_rfl) (by kernel_rfl) ?hQ12 (Or.inl ⟨?hw12, ?hy12⟩) (by assumption) ?hr12
        case hi12 => simp only [List.getElem?_toArray, List.getElem?_cons_succ, List.getElem?_cons_zero]; rfl
        case hQ12 => exact fun _ _ _ h => h
        case hw12 => rfl
        case hy12 => intro w hSw; (try dsimp only at hSw); go_simp; (try with_reducible rfl)
        case hr12 =>
        simp only [Act.put, List.setIfInBounds_toArray, List.set_cons_zero, List.set_cons_succ]
        refine wpAnyH_take (i := 13) (oi := ?oi13) (v := ?v13) ?hi13 (by kernel_rfl) (by kernel_rfl) (by kernel_rfl) ?hQ13 (Or.inl ⟨?hw13, ?hy13⟩) (by assumption) ?hr13
        case hi13 => simp only [List.getElem?_toArray, List.getElem?_cons_succ, List.getElem?_cons_zero]; rfl
        case hQ13 => exact fun _ _ _ h => h
        case hw13 => rfl
        case hy13 => intro w hSw; (try dsimp only at hSw); go_simp; (try with_reducible rfl)
        case hr13 =>
        simp only [Act.put, List.setIfInBounds_toArray, List.set_cons_zero, List.set_cons_succ]
        refine wpAnyH_take (i := 14) (oi := ?oi14) (v := ?v14) ?hi14 (by kernel_rfl) (by kernel_rfl) (by kernel_rfl) ?hQ14 (Or.inl ⟨?hw14, ?hy14⟩) (by assumption) ?hr14
        case hi14 => simp only [List.getElem?_toArray, List.getElem?_cons_succ, List.getElem?_cons_zero]; rfl
        case hQ14 => exact fun _ _ _ h => h
        case hw14 => rfl
        case hy14 => intro w hSw; (try dsimp only at hSw); go_simp; (try with_reducible rfl)
        case hr14 =>
        simp only [Act.put, List.setIfInBounds_toArray, List.set_cons_zero, List.set_cons_succ]
        refine wpAnyH_take (i := 15) (oi := ?oi15) (v := ?v15) ?hi15 (by kernel_rfl) (by kernel_rfl) (by kernel_rfl) ?hQ15 (Or.inl ⟨?hw15, ?hy15⟩) (by assumption) ?hr15
        case hi15 => simp only [List.getElem?_toArray, List.getElem?_cons_succ, List.getElem?_cons_zero]; rfl
        case hQ15 => exact fun _ _ _ h => h
        case hw15 => rfl
        case hy15 => intro w hSw; (try dsimp only at hSw); go_simp; (try with_reducible rfl)
        case hr15 =>
        simp only [Act.put, List.setIfInBounds_toArray, List.set_cons_zero, List.set_cons_succ]
        refine wpAnyH_take (i := 16) (oi := ?oi16) (v := ?v16) ?hi16 (by kernel_rfl) (by kernel_rfl) (by kernel_rfl) ?hQ16 (Or.inl ⟨?hw16, ?hy16⟩) (by assumption) ?hr16
        case hi16 => simp only [List.getElem?_toArray, List.getElem?_cons_succ, List.getElem?_cons_zero]; rfl
        case hQ16 => exact fun _ _ _ h => h
        case hw16 => rfl
        case hy16 => intro w hSw; (try dsimp only at hSw); go_simp; (try with_reducible rfl)
        case hr16 =>
        simp only [Act.put, List.setIfInBounds_toArray, List.set_cons_zero, List.set_cons_succ]
        refine wpAnyH_ready (rs := [11]) (by kernel_rfl) (by simp) (AllReadyH.cons (o := ?oc17) ?hc17 (fun K hK => ?hs17) AllReadyH.nil)
        case hc17 => simp only [List.getElem?_toArray, List.getElem?_cons_succ, List.getElem?_cons_zero]; rfl
        case hs17 =>
        rw [if_pos (by rfl)]
        go_simp
        go_at_call 33; refine (sinkLen _ w.heap.size p f1 o1' σ' (HS4.out.chg (S := []) HC5.out (by simp) (by simp) (by simp))).mono ?_; rintro e w6 ⟨rfl, rfl⟩
        go_wp2_with fail
        refine hK.out _ _ ?_ (fun hHeld => ?_)
        · exact hHeld2
        clear hK K
        try simp only [Act.put, List.setIfInBounds_toArray, List.set_cons_zero, List.set_cons_succ]
        refine wpAnyH_take (i := 17) (oi := ?oi18) (v := ?v18) ?hi18 (by kernel_rfl) (by kernel_rfl) (by kernel_rfl) ?hQ18 (Or.inl ⟨?hw18, ?hy18⟩) (by assumption) ?hr18
        case hi18 => simp only [List.getElem?_toArray, List.getElem?_cons_succ, List.getElem?_cons_zero]; rfl
        case hQ18 => exact fun _ _ _ h => h
        case hw18 => rfl
        case hy18 => intro w hSw; (try dsimp only at hSw); go_simp; (try with_reducible rfl)
        case hr18 =>
        simp only [Act.put, List.setIfInBounds_toArray, List.set_cons_zero, List.set_cons_succ]
        refine wpAnyH_take (i := 18) (oi := ?oi19) (v := ?v19) ?hi19 (by kernel_rfl) (by kernel_rfl) (by kernel_rfl) ?hQ19 (Or.inl ⟨?hw19, ?hy19⟩) (by assumption) ?hr19
        case hi19 => simp only [List.getElem?_toArray, List.getElem?_cons_succ, List.getElem?_cons_zero]; rfl
        case hQ19 => exact fun _ _ _ h => h
        case hw19 => rfl
        case hy19 => intro w hSw; (try dsimp only at hSw); go_simp; (try with_reducible rfl)
        case hr19 =>
        simp only [Act.put, List.setIfInBounds_toArray, List.set_cons_zero, List.set_cons_succ]
        refine wpAnyH_done (by kernel_rfl) ?_ _
        go_wp2_with fail
        go_meet
        exact ⟨rfl, rfl, HC5.out⟩
      case rest =>
        obtain ⟨rfl, rfl, hkf0⟩ := hcut
        have hkf := Lib.hid hkf0
        clear hkf0
        go_wp2_with fail
        go_roundw
        case rel => exact ⟨k + 1, by omega, by go_num, HK4.out.trans hkf.out, o1', o2', σ', HPR4.out.chg hkf.out, HLE4.out⟩
        case measure => simp [intOf]; omega
    · have hkk : k = N := by omega
      subst hkk
      go_wp2_with (go_at_call 35; refine (sinkAlive _).mono ?_; rintro e w9 ⟨rfl, hc9⟩)
      go_ret
      exact ⟨rfl, HKR.out.trans hc9⟩
end Go.Proofs.Ytljlcigbehgohaa
