/- payload.Write; paxtarlaw11.alive; paxtarlaw11.PayloadBlocksIsLeast. -/
import Derived.Test.YtljlcigbehgohaaBlkX
import Derived.OwnWalk
namespace Go.Pax
open Go.RowKit
section
variable {P : Program}
/-- make([]T, n) where a guard stands and is met. -/
theorem wpList_make_wanted (w : World) {ops : Array Oper} {rest : List Oper} {o : Oper} {a : Act} {Q : Exit → Act → World → Prop}
    (hw : Region.wanted o (yielded ops a.tmps) = true) (l c : Operand) (t : TypeId) (hop : o.op = Op.makeSlice t l c)
    (base : Nat) (e : TypeId) (i : TypeInfo) (z : Value) (size : Nat) (h1 : P.underlying t = some (.slice e)) (h2 : P.info? e = some i) (h3 : i.zero = some z) (h4 : i.size = size)
    (kl kc : IntKind) (L C : Int) (n : Nat) (hl : a.eval l = .int kl L) (hc : a.eval c = .int kc C) (hL : L = (n : Int)) (hC : C = (n : Int)) (b2 : i.bytes * n ≤ 281474976710656) (b3 : n ≤ maxLen) (b4 : base ≤ w.heap.size)
    (hK : ∀ w', w'.ownsRow base e size (.slice (some ⟨w.heap.size, 0, none⟩) n n) n (madeCells z.cells (n * size)).toList → w.grownBy w' none → wpList P ops Q rest (a.put o.dst (.slice (some ⟨w.heap.size, 0, none⟩) n n)) w') :
    wpList P ops Q (o :: rest) a w := by
  refine wpList_step fun K hK' => ?_
  rw [if_pos hw]
  obtain ⟨w', hrun, r1, r2⟩ := run_make_full (P := P) w base t e i z size h1 h2 h3 h4 kl kc n b2 b3 b4
  subst hL
  subst hC
  unfold Oper.wp
  simp [execOp, hop, hl, hc, hrun, Result.andThen]
  exact hK' _ _ (hK w' r1 r2)
end
theorem Snk.all_free {σ : Snk} (h : σ.Ok) (hf : σ.fail < 0) (x : List UInt8) : (σ.all x).1 = 0 ∧ (σ.all x).2.b = σ.b ++ x ∧ (σ.all x).2.fail = σ.fail ∧ (σ.all x).2.Ok := by
  obtain ⟨h1, _, h3, h4⟩ := Snk.allF_is _ σ x h (Nat.le_refl _)
  rcases h4 with ⟨j1, j2, _⟩ | ⟨_, j2, _⟩
  · exact ⟨j1, j2, h3, h1⟩
  · omega
/-- payload.Write. -/
def payW (err : Int) (σ : Snk) (x : List UInt8) : Int × Snk :=
  if (wWrite err σ x).1 ≠ 0 then wWrite err σ x else wWrite 0 (wWrite err σ x).2 (List.replicate (padN (wWrite err σ x).2.b.length) 0)
theorem payW_free {σ : Snk} (h : σ.Ok) (hf : σ.fail < 0) (x : List UInt8) :
    (payW 0 σ x).1 = 0 ∧ (payW 0 σ x).2.b = σ.b ++ x ++ List.replicate (padN (σ.b.length + x.length)) 0 ∧ (payW 0 σ x).2.fail = σ.fail ∧ (payW 0 σ x).2.Ok := by
  obtain ⟨h1, h2, h3, h4⟩ := Snk.all_free h hf x
  obtain ⟨g1, g2, g3, g4⟩ := Snk.all_free h4 (by omega) (List.replicate (padN (σ.all x).2.b.length) 0)
  unfold payW
  rw [wWrite_ok, if_neg (by simp [h1]), wWrite_ok]
  refine ⟨g1, ?_, by rw [g3, h3], g4⟩
  rw [g2, h2, List.length_append]
/-- A write through a writer over a sink that does not fail. -/
theorem wWrite_free {σ : Snk} (h : σ.Ok) (hf : σ.fail < 0) (x : List UInt8) : ∃ σ' : Snk, wWrite 0 σ x = (0, σ') ∧ σ'.b = σ.b ++ x ∧ σ'.fail = σ.fail ∧ σ'.Ok := by
  obtain ⟨h1, h2, h3, h4⟩ := Snk.all_free h hf x
  exact ⟨(σ.all x).2, by rw [wWrite_ok, ← h1], h2, h3, h4⟩
theorem padN_after (T : Nat) : (T + padN T) % 512 = 0 ∧ padN (T + padN T) = 0 := by unfold padN; omega
end Go.Pax
namespace Go.Proofs.Ytljlcigbehgohaa
open Go.RowKit Go.Pax

set_option maxHeartbeats 2000000 in
theorem payWrite (w : World) (B r p : Nat) (fp own fa : List Nat) (err : Int) (σ : Snk) (x : List UInt8) (bo : Option Addr) (bc : Nat) (h : WrtAt B w r p fp own err σ) (hok : σ.Ok) (hx : Rd w fa bo (bv x)) (hxc : x.length ≤ bc)
    (hfa : ∀ k ∈ fa, k ≠ r ∧ k ≠ p ∧ k ∉ own ∧ k < w.heap.size) (hb : σ.b.length + x.length + 512 ≤ 140737488355328) :
    Calls Try.prog 58 #[.pointer (some ⟨r, 0, none⟩), .slice bo x.length bc] w fun e w' => e = .returned (.int .i64 (payW err σ x).1) ∧ WrtTo B w w' r p fp own (payW err σ x).1 (payW err σ x).2 := by
  have hst := writerWrite w B r p fp own fa err σ x bo bc h hok hx hxc hfa (by omega)
  obtain ⟨s1, s2, _⟩ := wWrite_sink (err := err) hok x
  have hpw : payW err σ x = if (wWrite err σ x).1 ≠ 0 then wWrite err σ x else wWrite 0 (wWrite err σ x).2 (List.replicate (padN (wWrite err σ x).2.b.length) 0) := rfl
  have hxl : x.length = x.length := rfl
  generalize payW err σ x = PW at *
  generalize wWrite err σ x = R at *
  obtain ⟨cd, σ1⟩ := R
  simp only at hst s1 s2 hpw
  have HST := Lib.hid hst
  have HPW := Lib.hid hpw
  have HOK1 := Lib.hid s1
  clear hst hpw s1 h hok hx hfa hxl
  by_cases hc : cd = 0
  · subst hc
    rw [if_neg (by simp)] at HPW
    generalize x.length = X at *
    go_enter Try.func58, Try.ntmps58
    go_upto_region 4 with (go_at_call 48; refine HST.out.mono ?_; rintro e w2 ⟨rfl, hto⟩; have HTO := Lib.hid hto; clear hto)
    obtain ⟨own2, ⟨h2, hn2⟩, hk2⟩ := HTO.out
    have hpd := writerPad w2 B r p fp own2 0 σ1 h2 HOK1.out (by omega)
    rw [← HPW.out] at hpd
    have HPD := Lib.hid hpd
    have HN2 := Lib.hid hn2
    have HK2 := Lib.hid hk2
    clear hpd h2 hn2 hk2
    go_wp2_with (go_at_call 49; refine HPD.out.mono ?_; rintro e w3 ⟨rfl, hto⟩; have HTO3 := Lib.hid hto; clear hto)
    go_ret
    exact ⟨rfl, WrtTo.trans HK2.out HN2.out HTO3.out⟩
  · rw [if_pos hc] at HPW
    have hcb : (cd == 0) = false := by simpa using hc
    have HC := Lib.hid hc
    generalize x.length = X at *
    clear hc
    go_enter Try.func58, Try.ntmps58
    go_wp2_with (go_at_call 48; refine HST.out.mono ?_; rintro e w2 ⟨rfl, hto⟩; have HTO := Lib.hid hto; clear hto)
    go_ret
    rw [HPW.out]
    exact ⟨rfl, HTO.out⟩

set_option maxRecDepth 100000 in
set_option maxHeartbeats 2000000 in
theorem payAlive (w : World) : Calls Try.prog 41 #[] w fun e w' => e = .returned (.bool true) ∧ Chg [] w w' := by
  have hok : Snk.Ok ⟨[], [], -1, 0⟩ := Snk.ok_new (by decide) (by decide)
  obtain ⟨g1, g2, g3, g4⟩ := payW_free hok (by decide) (List.replicate 513 0)
  have hl : (payW 0 ⟨[], [], -1, 0⟩ (List.replicate 513 0)).2.b.length = 1024 := by
    rw [g2]; simp [padN]
  have hN : (List.replicate 513 (0 : UInt8)).length = 513 := by simp
  obtain ⟨ib, hib, hib0, hib1, hib2⟩ := Try.infoB
  have HG1 := Lib.hid g1
  have HL := Lib.hid hl
  have HN := Lib.hid hN
  have HOK := Lib.hid hok
  clear g1 g2 g3 g4 hl hN hok
  go_enter Try.func41, Try.ntmps41
  go_upto_region 3 with (first
    | (go_at_call 36; refine (sinkNew _ 0 none 0 0 [] (-1) [] rfl (by decide) (by simp) (Rd.nil _ _ _)).mono ?_; rintro e w1 ⟨p, f1, rfl, s1, k1, b1, bf1⟩; have HS1 := Lib.hid s1; have HK1 := Lib.hid k1; clear s1 k1 bf1)
    | (go_at_call 47; refine (newWriter _ 0 p f1 [] _ HS1.out rfl).mono ?_; rintro e w2 ⟨r, rfl, h2, k2, hr2⟩; have H2 := Lib.hid h2; have HK2 := Lib.hid k2; have HR2 := Lib.hid hr2; clear h2 k2 hr2))
  have hst : ∀ w4, w2.grownBy w4 none → Rd w4 [w2.heap.size] (some ⟨w2.heap.size, 0, none⟩) (bv (List.replicate 513 0)) → Calls Try.prog 58 #[.pointer (some ⟨r, 0, none⟩), .slice (some ⟨w2.heap.size, 0, none⟩) 513 513] w4 fun e w' => e = .returned (.int .i64 0) ∧ WrtTo 0 w4 w' r p f1 [] (payW 0 ⟨[], [], -1, 0⟩ (List.replicate 513 0)).1 (payW 0 ⟨[], [], -1, 0⟩ (List.replicate 513 0)).2 := by
    intro w4 hg hrd
    have k : Chg [] w2 w4 := Chg.of_grown hg (by simp)
    obtain ⟨fq, hfq, hfl⟩ := hrd.tight
    have h := payWrite w4 0 r p f1 [] fq 0 ⟨[], [], -1, 0⟩ (List.replicate 513 0) _ 513 (H2.out.chg k (by simp) (by simp) (by simp) (by simp)) HOK.out hfq (by rw [HN.out]; decide) (fun y hy => by
      obtain ⟨h1, h2⟩ := hfl y hy
      simp at h1
      subst h1
      exact ⟨by have := H2.out.lt; omega, by have := H2.out.s.lt; omega, by simp, h2⟩) (by rw [HN.out]; decide)
    rw [HN.out] at h
    refine h.mono fun e w' ⟨h1, h2⟩ => ⟨?_, h2⟩
    rw [h1, HG1.out]
  have hlen : ∀ {w4 w5}, WrtTo 0 w4 w5 r p f1 [] (payW 0 ⟨[], [], -1, 0⟩ (List.replicate 513 0)).1 (payW 0 ⟨[], [], -1, 0⟩ (List.replicate 513 0)).2 → Calls Try.prog 33 #[.pointer (some ⟨p, 0, none⟩)] w5 fun e w' => e = .returned (.int .i64 1024) ∧ w' = w5 := by
    intro w4 w5 hto
    obtain ⟨o2, ⟨h1, _⟩, _⟩ := hto
    have h := sinkLen w5 0 p f1 o2 _ h1.s
    rw [HL.out] at h
    exact h
  have HST := Lib.hid hst
  have HLEN : Hid (∀ {w4 : World} (w5 : World), WrtTo 0 w4 w5 r p f1 [] (payW 0 ⟨[], [], -1, 0⟩ (List.replicate 513 0)).1 (payW 0 ⟨[], [], -1, 0⟩ (List.replicate 513 0)).2 → Calls Try.prog 33 #[.pointer (some ⟨p, 0, none⟩)] w5 fun e w' => e = .returned (.int .i64 1024) ∧ w' = w5) := Lib.hid (fun w5 h => hlen h)
  clear hst hlen
  go_wp2_with (first
    | (go_at_call 40; refine (payBlocks _ 513 (by decide)).mono ?_; rintro e w' ⟨rfl, rfl⟩)
    | (at_make; refine wpList_make_wanted _ rfl (.const (.int .i64 513)) (.const (.int .i64 513)) 22 rfl _ 5 ib (.int .u8 0) 1 Try.underlying22 hib hib0 hib1 .i64 .i64 _ _ 513 rfl rfl rfl rfl (by rw [hib2]; omega) (by unfold maxLen; omega) (Nat.le_refl _) ?_; intro w4 hown4 hgr4; have HO4 := Lib.hid hown4; have HG4 := Lib.hid hgr4; clear hown4 hgr4)
    | (go_at_call 58; refine (HST.out _ HG4.out (by
        have h := HO4.out
        simp only [Value.cells, Nat.mul_one] at h
        rw [toList_madeCells_one, zeros_bv] at h
        exact Rd.of_own h)).mono ?_; rintro e w5 ⟨rfl, hto⟩; have HTO := Lib.hid hto; clear hto)
    | (go_at_call 33; refine (HLEN.out _ HTO.out).mono ?_; rintro e w6 ⟨rfl, rfl⟩))
  go_ret
  have hr := HR2.out
  have hk1 := HK1.out.trans HK2.out
  have hk4 := hk1.trans (Chg.of_grown HG4.out (by simp))
  obtain ⟨o2, _, hk5⟩ := HTO.out
  have hz := HK1.out.size
  exact ⟨rfl, hk4.trans' hk5 (by simp) (by simp; omega)⟩

set_option maxRecDepth 100000 in
set_option maxHeartbeats 2000000 in
theorem blocksLeast (w : World) (n : Int) (h : -9223372036854775808 ≤ n ∧ n ≤ 9223372036854775807) : Calls Try.prog 12 #[.int .i64 n] w fun e w' => e = .returned (.bool true) ∧ Chg [] w w' := by
  have hb := payBlocks w n h
  obtain ⟨h0, h1⟩ := h
  have HB := Lib.hid hb
  clear hb
  by_cases hn : n ≤ 0
  · rw [if_pos hn] at HB
    go_enter Try.func12, Try.ntmps12
    go_wp2_with (first
      | (go_at_call 40; refine HB.out.mono ?_; rintro e w' ⟨rfl, rfl⟩)
      | (go_at_call 41; refine (payAlive _).mono ?_; rintro e w9 ⟨rfl, hc9⟩; have HC9 := Lib.hid hc9; clear hc9))
    go_ret
    exact ⟨rfl, HC9.out⟩
  · rw [if_neg hn] at HB
    have hm : 0 ≤ (n - 1) / 512 ∧ (n - 1) / 512 * 512 < n ∧ n - (n - 1) / 512 * 512 ≤ 512 ∧ (n - 1) / 512 ≤ 18014398509481983 := by omega
    generalize (n - 1) / 512 = m at *
    obtain ⟨m0, m1, m2, m3⟩ := hm
    have hmm : m + 1 - 1 = m := by omega
    go_enter Try.func12, Try.ntmps12
    go_wp2_with (first
      | (go_at_call 40; refine HB.out.mono ?_; rintro e w' ⟨rfl, rfl⟩)
      | (go_at_call 41; refine (payAlive _).mono ?_; rintro e w9 ⟨rfl, hc9⟩; have HC9 := Lib.hid hc9; clear hc9))
    go_ret
    exact ⟨rfl, HC9.out⟩
end Go.Proofs.Ytljlcigbehgohaa
