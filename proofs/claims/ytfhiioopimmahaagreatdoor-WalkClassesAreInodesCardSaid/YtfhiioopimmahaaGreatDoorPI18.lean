/- slices.SortStableFunc at a row that is sorted already. tree.Canon: how the classes are numbered. tree.Canon at a list whose paths ascend. walk.visit. Printed by wip/gen/genwvis.py. -/
import Derived.Test.YtfhiioopimmahaaGreatDoorPI14
import Derived.Test.YtfhiioopimmahaaGreatDoorPI16
import Derived.Test.YtfhiioopimmahaaGreatDoorPI17
namespace Go.Proofs.YtfhiioopimmahaaGreatDoor
open Go.RowKit Go.Pax Go.Shelf
set_option maxRecDepth 100000 in
set_option maxHeartbeats 16000000 in
theorem stabSorted (w : World) (g n c : Nat) (L : List (ANode × Value)) (h : SortedRow w g n c L) :
    Calls Tryz.prog 102 #[.slice (some ⟨g, 0, none⟩) n c, .int .i64 n, .func (.func 77) #[] #[]] w fun e w' => e = .returned (.tuple #[]) ∧ Chg [] w w' := by
  have HI := Lib.hid (fun W (k : Chg [] w W) a b (h1 : a ≤ b) (h2 : b ≤ n) => insSorted W g n c L a b (h.chg k) h1 h2)
  have HM := Lib.hid (fun W (k : Chg [] w W) a m b (h1 : a < m) (h2 : m < b) (h3 : b ≤ n) => symSorted g n c L _ W a m b (h.chg k) h1 h2 h3 (Nat.le_refl _))
  have hnB : n ≤ 1000000 := h.short
  clear h
  go_enter Tryz.func102, Tryz.ntmps102
  go_wp2_with fail
  go_loopw [7, 8] (fun u v wr => ∃ a : Nat, u = .int .i64 a ∧ v = .int .i64 (a + 20 : Nat) ∧ a ≤ n ∧ Chg [] w wr) (fun u _ _ => n + 1 - (intOf u).toNat)
  case atStart => exact ⟨0, rfl, rfl, Nat.zero_le _, Chg.refl _ _⟩
  case round =>
    obtain ⟨a, rfl, rfl, han, hk⟩ := hrel
    have HK := Lib.hid (And.intro han hk)
    have haB : a ≤ 1000000 := by omega
    clear han hk
    by_cases hlt : a + 20 ≤ n
    · have hlti : ((a + 20 : Nat) : Int) ≤ (n : Int) := by omega
      have HIN := Lib.hid (HI.out wr HK.out.2 a (a + 20) (by omega) hlt)
      obtain ⟨b, hb⟩ : ∃ x, x = a + 20 := ⟨_, rfl⟩
      rw [← hb] at HIN hlti ⊢
      have HBE := Lib.hid hb
      have hbB : b ≤ 1000000 := by omega
      clear hb
      go_wp2_with (go_at_call 120; refine HIN.out.mono ?_; rintro e w3 ⟨rfl, hw3⟩; have HW3 := Lib.hid hw3; clear hw3)
      go_roundw
      case rel => exact ⟨b, rfl, by go_num, by omega, HK.out.2.trans HW3.out⟩
      case measure => have := HBE.out; simp [intOf]; omega
    · have hlti : ¬ ((a + 20 : Nat) : Int) ≤ (n : Int) := by omega
      have HIN := Lib.hid (HI.out wr HK.out.2 a n HK.out.1 (Nat.le_refl _))
      obtain ⟨b, hb⟩ : ∃ x, x = a + 20 := ⟨_, rfl⟩
      rw [← hb] at hlti ⊢
      clear hb hlt
      go_wp2_with (go_at_call 120; refine HIN.out.mono ?_; rintro e w3 ⟨rfl, hw3⟩; have HW3 := Lib.hid (HK.out.2.trans hw3); clear hw3)
      go_loopw [6, 7, 8, 9] (fun u _ _ _ wr => ∃ z : Nat, u = .int .i64 z ∧ 1 ≤ z ∧ z ≤ 2000000 ∧ Chg [] w wr) (fun u _ _ _ _ => n - (intOf u).toNat)
      case atStart => exact ⟨20, rfl, by omega, by omega, HW3.out⟩
      case round =>
        obtain ⟨z, rfl, hz1, hz2, hk⟩ := hrel
        have HZ := Lib.hid (And.intro hz1 hk)
        clear hz1 hk
        by_cases hzn : z < n
        · obtain ⟨t, ht⟩ : ∃ x, x = 2 * z := ⟨_, rfl⟩
          have hti : 2 * (z : Int) = (t : Int) := by omega
          have htB : t ≤ 2000000 := by omega
          have HT := Lib.hid ht
          have hzB : z ≤ 1000000 := by omega
          clear ht hz2
          go_upto_region 9 with (fail)
          go_loopw [7, 8] (fun u v wr => ∃ q : Nat, u = .int .i64 q ∧ v = .int .i64 (q + t : Nat) ∧ q ≤ n ∧ Chg [] w wr) (fun u _ _ => n + 1 - (intOf u).toNat)
          case atStart => exact ⟨0, rfl, by simp, Nat.zero_le _, HZ.out.2⟩
          case round =>
            obtain ⟨q, rfl, rfl, hqn, hk⟩ := hrel
            have HQ := Lib.hid (And.intro hqn hk)
            have hqB : q ≤ 1000000 := by omega
            clear hqn hk
            obtain ⟨mm, hmm⟩ : ∃ x, x = q + z := ⟨_, rfl⟩
            have hmi : (q : Int) + (z : Int) = (mm : Int) := by omega
            have hmB : mm ≤ 2000000 := by omega
            by_cases hbn : q + t ≤ n
            · have hbi : ((q + t : Nat) : Int) ≤ (n : Int) := by omega
              have HS := Lib.hid (HM.out wr HQ.out.2 q mm (q + t) (by have := HZ.out.1; omega) (by have := HZ.out.1; have := HT.out; omega) hbn)
              obtain ⟨b2, hb2⟩ : ∃ x, x = q + t := ⟨_, rfl⟩
              rw [← hb2] at HS hbi ⊢
              have HBE := Lib.hid hb2
              have hbB : b2 ≤ 1000000 := by omega
              obtain ⟨b3, hb3⟩ : ∃ x, x = b2 + t := ⟨_, rfl⟩
              have hni : (b2 : Int) + (t : Int) = (b3 : Int) := by omega
              have hb3B : b3 ≤ 4000000 := by omega
              have hb3w : IntKind.i64.wrap (b3 : Int) = (b3 : Int) := IntWalk.i64_in _ (by omega)
              have HB3 := Lib.hid hb3
              clear hb2 hmm hb3
              go_wp2_with (go_at_call 121; refine HS.out.mono ?_; rintro e w5 ⟨rfl, hw5⟩; have HW5 := Lib.hid hw5; clear hw5)
              go_roundw
              case rel => exact ⟨b2, rfl, by rw [HB3.out], by omega, HQ.out.2.trans HW5.out⟩
              case measure => have := HBE.out; have := HT.out; have := HZ.out.1; simp [intOf]; omega
            · have hbi : ¬ ((q + t : Nat) : Int) ≤ (n : Int) := by omega
              obtain ⟨b2, hb2⟩ : ∃ x, x = q + t := ⟨_, rfl⟩
              rw [← hb2] at hbi ⊢
              by_cases hmn : mm < n
              · have hmni : (mm : Int) < (n : Int) := by omega
                have HS := Lib.hid (HM.out wr HQ.out.2 q mm n (by have := HZ.out.1; omega) hmn (Nat.le_refl _))
                clear hb2 hmm hbn
                go_wp2_with (go_at_call 121; refine HS.out.mono ?_; rintro e w5 ⟨rfl, hw5⟩; have HW5 := Lib.hid hw5; clear hw5)
                go_roundw
                case rel => exact ⟨t, by first | rfl | go_num, by have := HT.out; have := HZ.out.1; omega, by omega, HQ.out.2.trans HW5.out⟩
                case measure => have := HT.out; have := HZ.out.1; simp [intOf]; omega
              · have hmni : ¬ (mm : Int) < (n : Int) := by omega
                clear hb2 hmm hbn
                go_wp2_with fail
                go_roundw
                case rel => exact ⟨t, by first | rfl | go_num, by have := HT.out; have := HZ.out.1; omega, by omega, HQ.out.2⟩
                case measure => have := HT.out; have := HZ.out.1; simp [intOf]; omega
        · have hzi : ¬ (z : Int) < (n : Int) := by omega
          go_wp2_with fail
          go_end0
          exact ⟨rfl, HZ.out.2⟩
set_option maxHeartbeats 4000000 in
theorem sortSorted (w : World) (g n c : Nat) (L : List (ANode × Value)) (h : SortedRow w g n c L) :
    Calls Tryz.prog 76 #[.slice (some ⟨g, 0, none⟩) n c, .func (.func 77) #[] #[]] w fun e w' => e = .returned (.tuple #[]) ∧ Chg [] w w' := by
  have HS := Lib.hid (stabSorted w g n c L h)
  clear h
  go_enter Tryz.func76, Tryz.ntmps76
  go_wp2_with (go_at_call 102; refine HS.out.mono ?_; rintro e w2 ⟨rfl, hk⟩; have HK := Lib.hid hk; clear hk)
  go_end0
  exact ⟨rfl, HK.out⟩
end Go.Proofs.YtfhiioopimmahaaGreatDoor
namespace Go.Pax
open Go.RowKit
/-- One node's new class, and the numbers behind it. -/
def numStep (cnt : Int → Int) (s : List (Int × Int)) (c : Int) : List (Int × Int) × Int :=
  if c ≤ 0 ∨ cnt c < 2 then (s, 0) else match lkJ s c with
    | some b => (s, b)
    | none => (upJ s c ((s.length : Int) + 1), (s.length : Int) + 1)
def canonStep (cnt : Int → Int) (r : List (Int × Int) × List ANode) (x : ANode) : List (Int × Int) × List ANode :=
  ((numStep cnt r.1 x.cls).1, r.2 ++ [{ x with cls := (numStep cnt r.1 x.cls).2 }])
def canonS (cnt : Int → Int) (l : List ANode) : List (Int × Int) × List ANode := l.foldl (canonStep cnt) ([], [])
theorem canonS_snoc (cnt : Int → Int) (l : List ANode) (x : ANode) : canonS cnt (l ++ [x]) = canonStep cnt (canonS cnt l) x := by simp [canonS, List.foldl_append]
theorem upJ_new_length (l : List (Int × Int)) (k v : Int) (h : lkJ l k = none) : (upJ l k v).length = l.length + 1 := by
  induction l with
  | nil => rfl
  | cons x l ih =>
    simp only [lkJ] at h
    split at h
    · cases h
    · rename_i hne
      simp only [upJ, if_neg hne, List.length_cons, ih h]
/-- Numbers from 1 on, each to one class. -/
structure NumOk (s : List (Int × Int)) : Prop where
  range : ∀ c b, lkJ s c = some b → 1 ≤ b ∧ b ≤ s.length
  inj : ∀ c d b, lkJ s c = some b → lkJ s d = some b → c = d
theorem NumOk.nil : NumOk [] := ⟨fun c b h => by simp [lkJ] at h, fun c d b h => by simp [lkJ] at h⟩
theorem NumOk.step {cnt : Int → Int} {s : List (Int × Int)} (h : NumOk s) (c : Int) : NumOk (numStep cnt s c).1 ∧ (∀ d b, lkJ s d = some b → lkJ (numStep cnt s c).1 d = some b) ∧ (numStep cnt s c).1.length ≤ s.length + 1 ∧
    (¬ (c ≤ 0 ∨ cnt c < 2) → lkJ (numStep cnt s c).1 c = some (numStep cnt s c).2) ∧ ((c ≤ 0 ∨ cnt c < 2) → (numStep cnt s c).2 = 0) := by
  unfold numStep
  by_cases h0 : c ≤ 0 ∨ cnt c < 2
  · rw [if_pos h0]
    exact ⟨h, fun _ _ hb => hb, by simp, fun hn => absurd h0 hn, fun _ => rfl⟩
  · rw [if_neg h0]
    cases hl : lkJ s c with
    | some b => exact ⟨h, fun _ _ hb => hb, by simp, fun _ => hl, fun hp => absurd hp h0⟩
    | none =>
      have hlen := upJ_new_length s c ((s.length : Int) + 1) hl
      refine ⟨⟨fun d b hd => ?_, fun d e' b hd he => ?_⟩, fun d b hd => ?_, Nat.le_of_eq hlen, fun _ => by simp only; rw [lkJ_upJ, if_pos rfl], fun hp => absurd hp h0⟩
      · simp only at hd ⊢
        rw [hlen]
        rw [lkJ_upJ] at hd
        by_cases e : d = c
        · rw [if_pos e] at hd; cases hd; omega
        · rw [if_neg e] at hd; have := h.range d b hd; omega
      · simp only at hd he
        rw [lkJ_upJ] at hd he
        by_cases e : d = c
        · rw [if_pos e] at hd
          by_cases e2 : e' = c
          · rw [e, e2]
          · rw [if_neg e2] at he; cases hd; have := h.range _ _ he; omega
        · rw [if_neg e] at hd
          by_cases e2 : e' = c
          · rw [if_pos e2] at he; cases he; have := h.range _ _ hd; omega
          · rw [if_neg e2] at he; exact h.inj _ _ _ hd he
      · simp only
        rw [lkJ_upJ, if_neg (fun e => by rw [e, hl] at hd; cases hd)]
        exact hd
/-- The class that the canonical form gives. -/
def newCls (cnt : Int → Int) (s : List (Int × Int)) (c : Int) : Int := if c ≤ 0 ∨ cnt c < 2 then 0 else (lkJ s c).getD 0
theorem canon_fold (cnt : Int → Int) : ∀ (l : List ANode) (s : List (Int × Int)) (out : List ANode), NumOk s →
    NumOk (l.foldl (canonStep cnt) (s, out)).1 ∧ (∀ d b, lkJ s d = some b → lkJ (l.foldl (canonStep cnt) (s, out)).1 d = some b) ∧ (l.foldl (canonStep cnt) (s, out)).1.length ≤ s.length + l.length ∧
      (l.foldl (canonStep cnt) (s, out)).2 = out ++ l.map (fun x => { x with cls := newCls cnt (l.foldl (canonStep cnt) (s, out)).1 x.cls }) ∧ ∀ x ∈ l, ¬ (x.cls ≤ 0 ∨ cnt x.cls < 2) → ∃ b, lkJ (l.foldl (canonStep cnt) (s, out)).1 x.cls = some b
  | [], s, out, h => ⟨h, fun _ _ hb => hb, by simp, by simp, fun x hx => by simp at hx⟩
  | x :: l, s, out, h => by
    obtain ⟨h1, h2, h3, h4, h5⟩ := h.step (cnt := cnt) x.cls
    obtain ⟨g1, g2, g3, g4, g5⟩ := canon_fold cnt l (numStep cnt s x.cls).1 (out ++ [{ x with cls := (numStep cnt s x.cls).2 }]) h1
    have e : (x :: l).foldl (canonStep cnt) (s, out) = l.foldl (canonStep cnt) ((numStep cnt s x.cls).1, out ++ [{ x with cls := (numStep cnt s x.cls).2 }]) := rfl
    rw [e]
    generalize l.foldl (canonStep cnt) ((numStep cnt s x.cls).1, out ++ [{ x with cls := (numStep cnt s x.cls).2 }]) = r at *
    have hx : newCls cnt r.1 x.cls = (numStep cnt s x.cls).2 := by
      unfold newCls
      by_cases hc : x.cls ≤ 0 ∨ cnt x.cls < 2
      · rw [if_pos hc, h5 hc]
      · rw [if_neg hc, g2 _ _ (h4 hc)]
        rfl
    refine ⟨g1, fun d b hb => g2 d b (h2 d b hb), by simp only [List.length_cons]; omega, ?_, fun y hy hn => ?_⟩
    · rw [g4, List.map_cons, hx]
      simp
    · rcases List.mem_cons.1 hy with rfl | hy
      · exact ⟨_, g2 _ _ (h4 hn)⟩
      · exact g5 y hy hn
theorem canonS_ok (cnt : Int → Int) (l : List ANode) : NumOk (canonS cnt l).1 ∧ (canonS cnt l).1.length ≤ l.length ∧ (canonS cnt l).2 = l.map (fun x => { x with cls := newCls cnt (canonS cnt l).1 x.cls }) ∧ ∀ x ∈ l, ¬ (x.cls ≤ 0 ∨ cnt x.cls < 2) → ∃ b, lkJ (canonS cnt l).1 x.cls = some b := by
  obtain ⟨h1, _, h3, h4, h5⟩ := canon_fold cnt l [] [] NumOk.nil
  exact ⟨h1, by simpa [canonS] using h3, by simpa [canonS] using h4, h5⟩
/-- Two nodes share a class behind it just where they shared one that counts. -/
theorem newCls_eq {cnt : Int → Int} {s : List (Int × Int)} (h : NumOk s) {c d : Int} (hc : ¬ (c ≤ 0 ∨ cnt c < 2) → ∃ b, lkJ s c = some b) (hd : ¬ (d ≤ 0 ∨ cnt d < 2) → ∃ b, lkJ s d = some b) :
    (0 < newCls cnt s c ↔ ¬ (c ≤ 0 ∨ cnt c < 2)) ∧ ((0 < newCls cnt s c ∧ newCls cnt s c = newCls cnt s d) ↔ (¬ (c ≤ 0 ∨ cnt c < 2) ∧ c = d)) := by
  have pos : ∀ c, (¬ (c ≤ 0 ∨ cnt c < 2) → ∃ b, lkJ s c = some b) → (0 < newCls cnt s c ↔ ¬ (c ≤ 0 ∨ cnt c < 2)) := fun c hc => by
    unfold newCls
    by_cases h0 : c ≤ 0 ∨ cnt c < 2
    · rw [if_pos h0]; exact ⟨fun hz => absurd hz (by omega), fun hn => absurd h0 hn⟩
    · obtain ⟨b, hb⟩ := hc h0
      rw [if_neg h0, hb]
      have := h.range c b hb
      exact ⟨fun _ => h0, fun _ => by simp only [Option.getD_some]; omega⟩
  refine ⟨pos c hc, fun ⟨h1, h2⟩ => ?_, fun ⟨h1, h2⟩ => ?_⟩
  · have h3 := (pos c hc).1 h1
    have h4 := (pos d hd).1 (by rw [← h2]; exact h1)
    obtain ⟨b, hb⟩ := hc h3
    obtain ⟨b', hb'⟩ := hd h4
    unfold newCls at h2
    rw [if_neg h3, if_neg h4, hb, hb'] at h2
    simp only [Option.getD_some] at h2
    subst h2
    exact ⟨h3, h.inj _ _ _ hb hb'⟩
  · subst h2
    exact ⟨(pos c hc).2 h1, rfl⟩
end Go.Pax
namespace Go.Proofs.YtfhiioopimmahaaGreatDoor
open Go.RowKit Go.Pax Go.Shelf
/-- The first k nodes of the copy, and fresh ones behind them. -/
structure Copied (w w' : World) (g n : Nat) (L : List (ANode × Value)) (k : Nat) (C : List (ANode × Value)) : Prop where
  len : C.length = k
  same : C.map Prod.fst = (L.take k).map Prod.fst
  row : w'.ownsRow w.heap.size 45 6 (.slice (some ⟨g, 0, none⟩) n n) n (ndcells (C ++ List.replicate (n - k) zeroNd))
  data : ∀ x ∈ C, ∃ fq, RdD w' fq x.2 x.1.data ∧ ∀ y ∈ fq, w.heap.size ≤ y ∧ y < w'.heap.size ∧ y ≠ g
  chg : Chg [] w w'
theorem own_there {w : World} {B : Nat} {e : TypeId} {s g n c : Nat} {xs : List Value} (h : w.ownsRow B e s (.slice (some ⟨g, 0, none⟩) n c) n xs) {o m : Nat} (ho : o + m ≤ n * s) : w.there g o m := by
  rcases h.2 with ⟨hv, _⟩ | ⟨g', cap, cur, hv, hb, hg, hn, hm, hs, ht⟩
  · cases hv
  simp only [Value.slice.injEq, Option.some.injEq, Addr.mk.injEq] at hv
  obtain ⟨⟨rfl, _⟩, _, rfl⟩ := hv
  have : n * s ≤ c * s := Nat.mul_le_mul_right s hn
  exact there_of hg (by omega)
theorem there_one {w : World} {g o m j : Nat} (h : w.there g o m) (hj : j < m) : (∃ v, w.cell? ⟨g, o + j, none⟩ = some v) ∧ w.frozen? ⟨g, o + j, none⟩ = false :=
  ⟨Option.isSome_iff_exists.1 (h j hj).1, (h j hj).2⟩
theorem set_fresh {α : Type} (C : List α) (n k : Nat) (z y : α) (hk : C.length = k) (hlt : k < n) : (C ++ List.replicate (n - k) z).set k y = (C ++ [y]) ++ List.replicate (n - (k + 1)) z := by
  obtain ⟨m, hm⟩ : ∃ m, n - k = m + 1 := ⟨n - k - 1, by omega⟩
  rw [hm, show n - (k + 1) = m by omega, List.set_append_right _ _ (by omega), hk, Nat.sub_self, List.replicate_succ, List.set_cons_zero]
  simp
/-- One node more has been copied. -/
theorem Copied.step {w wr W1 W2 w5 : World} {g n k : Nat} {L C : List (ANode × Value)} {X : ANode} {dv : Value} {ca : Option Addr} {cc : Nat} (h : Copied w wr g n L k C) (hg : g = w.heap.size) (hkL : k < L.length) (hlt : k < n) (hX : L[k].1 = X)
    (k1 : Chg [] wr W1) (hr2 : W2.ownsRow w.heap.size 45 6 (.slice (some ⟨g, 0, none⟩) n n) n (ndcells ((C ++ List.replicate (n - k) zeroNd).set k (X, dv)))) (k2 : Chg [g] W1 W2)
    (k5 : Chg [] W2 w5) (ho : w5.ownsRow W2.heap.size 5 1 (.slice ca X.data.length cc) X.data.length (bv X.data)) :
    Copied w (w5.setCell ⟨g, k * 6 + 4, none⟩ (.slice ca X.data.length cc)) g n L (k + 1) (C ++ [(X, .slice ca X.data.length cc)]) ∧ Chg [g] wr (w5.setCell ⟨g, k * 6 + 4, none⟩ (.slice ca X.data.length cc)) := by
  have kf : Chg [g] w5 (w5.setCell ⟨g, k * 6 + 4, none⟩ (.slice ca X.data.length cc)) := (Chg.refl _ _).setCell (fun _ => by simp) _
  have kr : Chg [g] wr (w5.setCell ⟨g, k * 6 + 4, none⟩ (.slice ca X.data.length cc)) := ((((k1.mono (by simp)).trans k2).trans (k5.mono (by simp))).trans kf)
  have hgl : g < wr.heap.size := by obtain ⟨x, hx⟩ := own_blockS h.row (g := g) rfl; exact lt_of_block hx
  have hs2 : wr.heap.size ≤ W2.heap.size := Nat.le_trans k1.size k2.size
  have hs5 := k5.size
  have hsf := kf.size
  refine ⟨⟨by simp [h.len], ?_, ?_, fun x hx => ?_, h.chg.trans' kr (by simp) (fun x hx hl => by simp at hx; omega)⟩, kr⟩
  · rw [List.take_add_one, List.getElem?_eq_getElem hkL, List.map_append, List.map_append, h.same]
    simp only [Option.toList, List.map_cons, List.map_nil, hX]
  · have hlen : k < ((C ++ List.replicate (n - k) zeroNd).set k (X, dv)).length := by rw [List.length_set, List.length_append, List.length_replicate, h.len]; omega
    have hp := own_putFld (own_keepS hr2 k5 (by simp)) hlen 4 (by omega) (.slice ca X.data.length cc) (X, .slice ca X.data.length cc) (by rw [List.getElem_set_self]; rfl)
    rw [List.set_set, set_fresh C n k _ _ h.len hlt] at hp
    exact hp
  · rcases List.mem_append.1 hx with hx | hx
    · obtain ⟨fq, h1, h2⟩ := h.data x hx
      exact ⟨fq, h1.chg kr (fun y hy hm => by simp at hm; exact (h2 y hy).2.2 hm), fun y hy => ⟨(h2 y hy).1, by have := (h2 y hy).2.1; have := kr.size; omega, (h2 y hy).2.2⟩⟩
    · simp at hx
      subst hx
      obtain ⟨h1, h2, _⟩ := own_rd2 ho
      have hw := h.chg.size
      refine ⟨_, ⟨ca, cc, rfl, h1.chg kf (fun y hy hm => by have := (h2 y hy).1; simp at hm; omega)⟩, fun y hy => ?_⟩
      have := h2 y hy
      omega
/-- The first i nodes have their new classes. -/
structure Numbered (w w7 wq : World) (g mn k : Nat) (cnt : Int → Int) (C : List (ANode × Value)) (i : Nat) (D : List (ANode × Value)) : Prop where
  le : i ≤ k
  len : D.length = i
  cls : D.map Prod.fst = (canonS cnt ((C.take i).map Prod.fst)).2
  val : D.map Prod.snd = (C.take i).map Prod.snd
  row : wq.ownsRow w.heap.size 45 6 (.slice (some ⟨g, 0, none⟩) k k) k (ndcells (D ++ C.drop i))
  map : MapJ wq mn (canonS cnt ((C.take i).map Prod.fst)).1
  chg : Chg [g, mn] w7 wq
theorem Numbered.step {w w7 wq wz : World} {g mn k i : Nat} {cnt : Int → Int} {C D : List (ANode × Value)} (h : Numbered w w7 wq g mn k cnt C i D) (hC : C.length = k) (hi : i < C.length) {z : Int} (hz : z = (numStep cnt (canonS cnt ((C.take i).map Prod.fst)).1 C[i].1.cls).2)
    (hm : MapJ wz mn (numStep cnt (canonS cnt ((C.take i).map Prod.fst)).1 C[i].1.cls).1) (hr : wz.ownsRow w.heap.size 45 6 (.slice (some ⟨g, 0, none⟩) k k) k (ndcells ((D ++ C.drop i).set i ({ C[i].1 with cls := z }, C[i].2)))) (hk : Chg [g, mn] wq wz) :
    Numbered w w7 wz g mn k cnt C (i + 1) (D ++ [({ C[i].1 with cls := z }, C[i].2)]) := by
  have ht : (C.take (i + 1)).map Prod.fst = (C.take i).map Prod.fst ++ [C[i].1] := by
    rw [List.take_add_one, List.getElem?_eq_getElem hi, List.map_append]; rfl
  have hts : (C.take (i + 1)).map Prod.snd = (C.take i).map Prod.snd ++ [C[i].2] := by
    rw [List.take_add_one, List.getElem?_eq_getElem hi, List.map_append]; rfl
  have hset : (D ++ C.drop i).set i ({ C[i].1 with cls := z }, C[i].2) = (D ++ [({ C[i].1 with cls := z }, C[i].2)]) ++ C.drop (i + 1) := by
    rw [List.set_append_right _ _ (by rw [h.len]; exact Nat.le_refl _), h.len, Nat.sub_self, List.drop_eq_getElem_cons hi, List.set_cons_zero]
    simp
  rw [hset] at hr
  refine ⟨by omega, by simp [h.len], ?_, by rw [List.map_append, h.val, hts]; rfl, hr, ?_, h.chg.trans hk⟩
  · rw [ht, canonS_snoc, List.map_append, h.cls]
    unfold canonStep
    simp [hz]
  · rw [ht, canonS_snoc]
    exact hm
theorem Numbered.at {w w7 wq : World} {g mn k i : Nat} {cnt : Int → Int} {C D : List (ANode × Value)} (h : Numbered w w7 wq g mn k cnt C i D) (hi : i < C.length) : ∃ hj : i < (D ++ C.drop i).length, (D ++ C.drop i)[i] = C[i] := by
  have hl : i < (D ++ C.drop i).length := by rw [List.length_append, List.length_drop, h.len]; omega
  refine ⟨hl, ?_⟩
  rw [List.getElem_append_right (by rw [h.len]; exact Nat.le_refl _)]
  simp [h.len]
set_option maxRecDepth 100000 in
set_option maxHeartbeats 16000000 in
theorem canonSorted (w : World) (ao : Option Addr) (n cap : Nat) (fp fd : List Nat) (L : List (ANode × Value)) (h : NdRd w fp ao L) (hn : L.length = n) (hnB : n ≤ 1000000) (hd : ∀ x ∈ L, RdD w fd x.2 x.1.data ∧ x.1.data.length ≤ 140737488355328) (hfp : ∀ g ∈ fp, g < w.heap.size) (hfd : ∀ g ∈ fd, g < w.heap.size)
    (hs : ∀ i j (hi : i < L.length) (hj : j < L.length), i < j → L[i].1.path < L[j].1.path) :
    Calls Tryz.prog 35 #[.slice ao n cap] w fun e w' => ∃ L' : List (ANode × Value), e = .returned (.slice (some ⟨w.heap.size, 0, none⟩) n n) ∧ w'.ownsRow w.heap.size 45 6 (.slice (some ⟨w.heap.size, 0, none⟩) n n) n (ndcells L') ∧ L'.map Prod.fst = (canonS (fun c => (lkJ (cnts L) c).getD 0) (L.map Prod.fst)).2 ∧
      (∀ x ∈ L', ∃ fq, RdD w' fq x.2 x.1.data ∧ ∀ y ∈ fq, w.heap.size ≤ y ∧ y < w'.heap.size ∧ y ≠ w.heap.size) ∧ Chg [] w w' := by
  have hdv : ∀ x ∈ L, ∃ a l c, x.2 = .slice a l c := fun x hx => by
    obtain ⟨a, c, h1, _⟩ := (hd x hx).1
    exact ⟨a, _, c, h1⟩
  have HC := Lib.hid (fun W (k : Chg [] w W) => counts W ao n cap fp L (h.chg k (by simp)) hn hnB hdv (fun g hg => Nat.lt_of_lt_of_le (hfp g hg) k.size))
  have H := Lib.hid (And.intro h (And.intro hn (And.intro hd (And.intro hfp (And.intro hfd hs)))))
  obtain ⟨ni, hni, hni0, hni1, hni2⟩ := info_parts Tryz.infoND
  clear h hn hd hfp hfd hs hdv
  go_enter Tryz.func35, Tryz.ntmps35
  go_upto_region 3 with (first
    | (at_make; refine wpList_make_full _ rfl (.tmp 11) (.tmp 11) 35 rfl w.heap.size 45 ni (.agg #[.int .i64 0, .string ⟨#[]⟩, .int .i64 0, .string ⟨#[]⟩, .slice none 0 0, .int .i64 0]) 6 Tryz.underlying35 hni hni0 hni1 .i64 .i64 _ _ n rfl rfl rfl rfl (by rw [hni2]; omega) (by unfold maxLen; omega) (Nat.le_refl _) ?_; intro w1 hown hgr; rw [made_nodes] at hown; have HW1 := Lib.hid (And.intro hown ((Chg.refl [] w).grown hgr (by simp))); clear hown hgr)
    | (go_at_call 73; refine (HC.out _ HW1.out.2).mono ?_; rintro e w2 ⟨mc, rfl, hmc, hmj, hk2⟩; have HW2 := Lib.hid (And.intro hmc (And.intro hmj hk2)); clear hmc hmj hk2))
  have hC0 : Copied w w2 w.heap.size n L 0 [] := ⟨rfl, by simp, by rw [List.nil_append, Nat.sub_zero]; exact own_keepS HW1.out.1 HW2.out.2.2 (by simp), fun x hx => by simp at hx, HW1.out.2.trans HW2.out.2.2⟩
  have HC0 := Lib.hid hC0
  clear hC0
  obtain ⟨g, hg⟩ : ∃ x, x = w.heap.size := ⟨_, rfl⟩
  rw [← hg] at HC0 ⊢
  have HG := Lib.hid hg
  clear hg
  have HMM := Lib.hid (show g ≠ mc from fun e => by have := HW2.out.1; have := HW1.out.1; obtain ⟨x, hx⟩ := own_blockS this (g := w.heap.size) rfl; have := lt_of_block hx; have := HG.out; omega)
  go_wp2_with fail
  go_loopw [17, 5, 6] (fun u _ _ wr => ∃ (k : Nat) (C : List (ANode × Value)), u = .int .i64 k ∧ k ≤ n ∧ Copied w wr g n L k C ∧ Chg [g] w2 wr) (fun u _ _ _ => n - (intOf u).toNat)
  case atStart => exact ⟨0, [], rfl, Nat.zero_le _, HC0.out, Chg.refl _ _⟩
  case round =>
    obtain ⟨k, C, rfl, hkn, hcp, hk2⟩ := hrel
    have HK := Lib.hid (And.intro hcp (And.intro hkn hk2))
    have hkB : k ≤ 1000000 := by omega
    clear hcp hkn hk2
    by_cases hlt : k < n
    · have hkL : k < L.length := by rw [H.out.2.1]; exact hlt
      obtain ⟨ad, rfl, hbl, c0, hcl⟩ := (H.out.1.chg HK.out.1.chg (by simp)) k hkL
      obtain ⟨hrd, hdl⟩ := H.out.2.2.1 _ (List.getElem_mem hkL)
      obtain ⟨da, dc, hde, hdr⟩ := hrd
      rw [hde] at hcl
      have c1 := hcl 1 _ rfl
      have c2 := hcl 2 _ rfl
      have c3 := hcl 3 _ rfl
      have c4 := hcl 4 _ rfl
      have c5 := hcl 5 _ rfl
      have HCL := Lib.hid (fun W (kw : Chg [] w W) => cloneBytes W da L[k].1.data.length dc fd L[k].1.data rfl hdl (hdr.chg kw (by simp)))
      clear hcl hbl hdr
      generalize hX : L[k].1 = X at *
      have HX := Lib.hid (And.intro hX (And.intro hde hdl))
      clear hX hde hdl
      generalize hx1 : X.kind = x1 at *
      generalize hx2 : ba X.path = x2 at *
      generalize hx3 : X.mode = x3 at *
      generalize hx4 : ba X.target = x4 at *
      generalize hx6 : X.cls = x6 at *
      generalize hdl : X.data.length = dl at *
      have HF := Lib.hid (And.intro hx1 (And.intro hx2 (And.intro hx3 (And.intro hx4 (And.intro hx6 hdl)))))
      clear hx1 hx2 hx3 hx4 hx6 hdl
      go_upto_region 6 with (fail)
      clear c0 c1 c2 c3 c4 c5
      have e1 := heap_alloc_new wr (.cells #[.int .i64 x1, .string x2, .int .i64 x3, .string x4, .slice da dl dc, .int .i64 x6] 45)
      have hk1 : Chg [] wr (wr.alloc (.cells #[.int .i64 x1, .string x2, .int .i64 x3, .string x4, .slice da dl dc, .int .i64 x6] 45)) := (Chg.refl _ _).alloc _
      have hgb : g ≠ wr.heap.size := fun e => by obtain ⟨x, hx⟩ := own_blockS HK.out.1.row (g := g) rfl; have := lt_of_block hx; omega
      have HK1 := Lib.hid (And.intro hk1 hgb)
      clear hk1 hgb
      generalize wr.alloc (.cells #[.int .i64 x1, .string x2, .int .i64 x3, .string x4, .slice da dl dc, .int .i64 x6] 45) = W1 at *
      obtain ⟨bn, hbn⟩ : ∃ x, x = wr.heap.size := ⟨_, rfl⟩
      rw [← hbn] at e1 HK1 ⊢
      clear hbn
      have j0 := cell_heap e1 0 (v := .int .i64 x1) rfl
      have j1 := cell_heap e1 1 (v := .string x2) rfl
      have j2 := cell_heap e1 2 (v := .int .i64 x3) rfl
      have j3 := cell_heap e1 3 (v := .string x4) rfl
      have j4 := cell_heap e1 4 (v := .slice da dl dc) rfl
      have j5 := cell_heap e1 5 (v := .int .i64 x6) rfl
      have HTH := Lib.hid (own_there (own_keepS HK.out.1.row HK1.out.1 (by simp)) (o := k * 6) (m := 6) (by omega))
      have hkg : Chg [g] W1 (W1.setCells g (k * 6) [.int .i64 x1, .string x2, .int .i64 x3, .string x4, .slice da dl dc, .int .i64 x6]) := setCells_chg
      have hr2 := own_putNd (own_keepS HK.out.1.row HK1.out.1 (by simp)) hlt X (.slice da dl dc)
      have hnd : ndc X (.slice da dl dc) = [.int .i64 x1, .string x2, .int .i64 x3, .string x4, .slice da dl dc, .int .i64 x6] := by unfold ndc; rw [HF.out.1, HF.out.2.1, HF.out.2.2.1, HF.out.2.2.2.1, HF.out.2.2.2.2.1]
      rw [hnd] at hr2
      have j4' := cell_heap (hkg.heap e1 (by have := HK1.out.2; simp; exact fun e => this e.symm)) 4 (v := .slice da dl dc) rfl
      have HR2 := Lib.hid (And.intro hr2 hkg)
      clear e1 hr2 hkg hnd
      obtain ⟨W2, hW2⟩ : ∃ x, x = W1.setCells g (k * 6) [.int .i64 x1, .string x2, .int .i64 x3, .string x4, .slice da dl dc, .int .i64 x6] := ⟨_, rfl⟩
      rw [← hW2] at j4' HR2
      have HW2E := Lib.hid hW2
      clear hW2
      have hcw : Chg [] w W2 := (HK.out.1.chg.trans HK1.out.1).trans' HR2.out.2 (by simp) (fun x hx hl => by have := HG.out; simp at hx; omega)
      have HCW := Lib.hid hcw
      clear hcw
      go_wp2_with (first
        | (refine wpList_store_mid rfl 45 (.tmp 25) (.tmp 24) rfl g (k * 6) #[.int .i64 x1, .string x2, .int .i64 x3, .string x4, .slice da dl dc, .int .i64 x6] rfl rfl HTH.out Tryz.nodeSize (nd_ones _ _ _ _ _ _ _ _) ?_; rw [← HW2E.out])
        | (go_at_call 75; refine (HCL.out _ HCW.out).mono ?_; rintro e w5 ⟨ca, cc, rfl, ho5, hg5⟩; have hk5 : Chg [] W2 w5 := (Chg.refl _ _).grown hg5 (by simp); have hth5 := there_one (own_there (own_keepS HR2.out.1 hk5 (by simp)) (o := k * 6) (m := 6) (by omega)) (j := 4) (by omega); obtain ⟨⟨v5, c5⟩, f5⟩ := hth5; have HW5 := Lib.hid (And.intro ho5 hk5); clear ho5 hg5 hk5))
      have hst := Copied.step (dv := .slice da dl dc) (ca := ca) (cc := cc) (w5 := w5) HK.out.1 HG.out hkL hlt HX.out.1 HK1.out.1 HR2.out.1 HR2.out.2 HW5.out.2 (by rw [HF.out.2.2.2.2.2]; exact HW5.out.1)
      rw [HF.out.2.2.2.2.2] at hst
      have HST := Lib.hid hst
      clear hst
      go_roundw
      case rel => exact ⟨k + 1, _, by go_num, by omega, HST.out.1, HK.out.2.2.trans HST.out.2⟩
      case measure => simp [intOf]; omega
    · have hkk : k = n := by have := HK.out.2.1; omega
      subst hkk
      have hrow := HK.out.1.row
      rw [Nat.sub_self, List.replicate_zero, List.append_nil] at hrow
      have hCL : ∀ i (hi : i < C.length), ∃ hj : i < L.length, C[i].1 = L[i].1 := fun i hi => by
        have hl := HK.out.1.len
        have h1 := HK.out.1.same
        rw [List.take_of_length_le (Nat.le_of_eq H.out.2.1)] at h1
        have hj : i < L.length := by rw [H.out.2.1]; omega
        refine ⟨hj, ?_⟩
        have h2 := congrArg (fun l => l[i]?) h1
        simp only [List.getElem?_map, List.getElem?_eq_getElem hi, List.getElem?_eq_getElem hj, Option.map_some, Option.some.injEq] at h2
        exact h2
      have hsr : SortedRow wr g k k C := ⟨⟨_, hrow⟩, HK.out.1.len, fun x hx => by
        obtain ⟨fq, ⟨a, c, h1, _⟩, _⟩ := HK.out.1.data x hx
        exact ⟨a, _, c, h1⟩, fun i j hi hj hij => by
        obtain ⟨h1, h2⟩ := hCL i hi
        obtain ⟨h3, h4⟩ := hCL j hj
        rw [h2, h4]
        exact H.out.2.2.2.2.2 i j h1 h3 hij, hnB⟩
      have HSR := Lib.hid (sortSorted wr g k k C hsr)
      have HRW := Lib.hid (And.intro hrow hCL)
      clear hrow hCL hsr
      go_upto_region 10 with (go_at_call 76; refine HSR.out.mono ?_; rintro e w6 ⟨rfl, hk6⟩; have HK6 := Lib.hid hk6; clear hk6)
      have HCP := Lib.hid HK.out.1
      have hk6w : Chg [] w w6 := HK.out.1.chg.trans HK6.out
      have hmc6 : MapJ w6 mc (cnts L) := (HW2.out.2.1.chg HK.out.2.2 (by have := HMM.out; simp; exact fun e => this e.symm)).chg HK6.out (by simp)
      have hr6 := own_keepS HRW.out.1 HK6.out (by simp)
      have hmm := @run_makeMap Tryz.prog
      have HM6 := Lib.hid (And.intro (MapJ.new w6) (And.intro ((Chg.refl [] w6).alloc (.map #[] 0)) (And.intro hk6w (And.intro hmc6 hr6))))
      have hgl6 : g < w6.heap.size := by obtain ⟨x, hx⟩ := own_blockS hr6 (g := g) rfl; exact lt_of_block hx
      have HNE := Lib.hid (And.intro hgl6 hmc6.lt)
      clear hk6w hmc6 hr6 hgl6
      go_upto_region 11 with (fail)
      obtain ⟨mn, hmn⟩ : ∃ x, x = w6.heap.size := ⟨_, rfl⟩
      rw [← hmn] at HM6 HNE ⊢
      have HMN := Lib.hid hmn
      clear hmn hmm
      generalize w6.alloc (.map #[] 0) = w7 at *
      go_wp2_with fail
      obtain ⟨cnt, hcnt⟩ : ∃ f : Int → Int, f = fun c => (lkJ (cnts L) c).getD 0 := ⟨_, rfl⟩
      have HCNT := Lib.hid hcnt
      clear hcnt
      go_loopw [39, 8, 9] (fun u _ _ wq => ∃ (i : Nat) (D : List (ANode × Value)), u = .int .i64 i ∧ Numbered w w7 wq g mn k cnt C i D) (fun u _ _ _ => k - (intOf u).toNat)
      case atStart => exact ⟨0, [], rfl, Nat.zero_le _, rfl, rfl, rfl, by rw [List.nil_append, List.drop_zero]; exact own_keepS HM6.out.2.2.2.2 HM6.out.2.1 (by simp), HM6.out.1, Chg.refl _ _⟩
      case round =>
        obtain ⟨i, D, rfl, hq⟩ := hrel
        have hiB : i ≤ 1000000 := by have := hq.le; omega
        have HQ := Lib.hid hq
        clear hq
        by_cases hlt : i < k
        · have hCk := HCP.out.len
          have hi : i < C.length := by omega
          obtain ⟨hj, hje⟩ := HQ.out.at hi
          have c5 := HQ.out.row.cells (g := g) rfl (i * 6 + 5) (.int .i64 C[i].1.cls) (by rw [ndcells_get _ i hj 5 (by omega), hje]; rfl)
          rw [add_at] at c5
          have hgm : g ≠ mn := by have := HNE.out.1; omega
          have HFX := Lib.hid (fun W (kw : Chg [mn] wr W) => (show W.cell? ⟨g, i * 6 + 5, none⟩ = some (.int .i64 C[i].1.cls) ∧ W.frozen? ⟨g, i * 6 + 5, none⟩ = false from
            ⟨kw.cell c5 (by simpa using hgm), (there_one (own_there (own_keepS HQ.out.row kw (fun x hx hm => by simp [Value.ownBlock] at hx hm; omega)) (o := i * 6) (m := 6) (by omega)) (j := 5) (by omega)).2⟩))
          have HFIN := Lib.hid (fun W z (kw : Chg [mn] wr W) (hm : MapJ W mn (numStep cnt (canonS cnt ((C.take i).map Prod.fst)).1 C[i].1.cls).1) (hz : z = (numStep cnt (canonS cnt ((C.take i).map Prod.fst)).1 C[i].1.cls).2) => (show ∃ D', Numbered w w7 (W.setCell ⟨g, i * 6 + 5, none⟩ (.int .i64 z)) g mn k cnt C (i + 1) D' from by
            have kf : Chg [g] W (W.setCell ⟨g, i * 6 + 5, none⟩ (.int .i64 z)) := (Chg.refl _ _).setCell (fun _ => by simp) _
            refine ⟨_, HQ.out.step hCk hi hz (hm.chg kf (by simp; exact fun e => hgm e.symm)) ?_ ((kw.mono (by simp)).trans (kf.mono (by simp)))⟩
            exact own_putFld (own_keepS HQ.out.row kw (fun x hx hm => by simp [Value.ownBlock] at hx hm; omega)) hj 5 (by omega) _ _ (by rw [hje]; rfl)))
          have hmcw : MapJ wr mc (cnts L) := (HM6.out.2.2.2.1.chg HM6.out.2.1 (by simp)).chg HQ.out.chg (by have h1 := HMM.out; have h2 := HNE.out.2; simp; exact ⟨fun e => h1 e.symm, by omega⟩)
          have hl1 := run_lookupJ1 (P := Tryz.prog) (T := 136) Tryz.underlying136 Tryz.underlying3 (fun W => by kernel_rfl) hmcw C[i].1.cls
          have hcv : (lkJ (cnts L) C[i].1.cls).getD 0 = cnt C[i].1.cls := by rw [HCNT.out]
          rw [hcv] at hl1
          have HMP := Lib.hid HQ.out.map
          have f5 := (HFX.out wr (Chg.refl _ _)).2
          clear hmcw hcv hj hje
          have HOK := Lib.hid (And.intro (canonS_ok cnt ((C.take i).map Prod.fst)).1 (show (canonS cnt ((C.take i).map Prod.fst)).1.length ≤ 1000000 from by have := (canonS_ok cnt ((C.take i).map Prod.fst)).2.1; rw [List.length_map, List.length_take] at this; omega))
          generalize hS : (canonS cnt ((C.take i).map Prod.fst)).1 = S at *
          generalize hcl : C[i].1.cls = cl at *
          clear hS hcl
          by_cases h0 : cl ≤ 0
          · have hns : numStep cnt S cl = (S, 0) := by unfold numStep; rw [if_pos (.inl h0)]
            rw [hns] at HFIN
            have HF0 := Lib.hid (HFIN.out wr 0 (Chg.refl _ _) HMP.out rfl)
            clear hns
            go_wp2_with fail
            obtain ⟨D', hD'⟩ := HF0.out
            go_roundw
            case rel => exact ⟨i + 1, D', by go_num, hD'⟩
            case measure => simp [intOf]; omega
          · by_cases h2 : cnt cl < 2
            · have hns : numStep cnt S cl = (S, 0) := by unfold numStep; rw [if_pos (.inr h2)]
              rw [hns] at HFIN
              have HF0 := Lib.hid (HFIN.out wr 0 (Chg.refl _ _) HMP.out rfl)
              clear hns
              generalize cnt cl = cv at *
              go_wp2_with fail
              obtain ⟨D', hD'⟩ := HF0.out
              go_roundw
              case rel => exact ⟨i + 1, D', by go_num, hD'⟩
              case measure => simp [intOf]; omega
            · have h2i : ¬ (cnt cl : Int) < 2 := h2
              cases hl : lkJ S cl with
              | some b =>
                have hns : numStep cnt S cl = (S, b) := by unfold numStep; rw [if_neg (by omega), hl]
                rw [hns] at HFIN
                have HF0 := Lib.hid (HFIN.out wr b (Chg.refl _ _) HMP.out rfl)
                have hl2 := run_lookupJ1_some (P := Tryz.prog) (T := 136) Tryz.underlying136 Tryz.underlying3 HMP.out hl
                have hb := HOK.out.1.range cl b hl
                have hb0 : ¬ b = 0 := by omega
                clear hns hl hb
                generalize cnt cl = cv at *
                go_wp2_with fail
                obtain ⟨D', hD'⟩ := HF0.out
                go_roundw
                case rel => exact ⟨i + 1, D', by go_num, hD'⟩
                case measure => simp [intOf]; omega
              | none =>
                have hns : numStep cnt S cl = (upJ S cl ((S.length : Int) + 1), (S.length : Int) + 1) := by unfold numStep; rw [if_neg (by omega), hl]
                rw [hns] at HFIN
                have hl2 := run_lookupJ1_none (P := Tryz.prog) (T := 136) Tryz.underlying136 Tryz.underlying3 (fun W => by kernel_rfl) HMP.out hl
                obtain ⟨W8, hup, hm8, hk8, _⟩ := run_updateJ (P := Tryz.prog) (T := 136) Tryz.underlying136 Tryz.underlying3 HMP.out cl ((S.length : Int) + 1)
                have hl3 := run_lookupJ1_some (P := Tryz.prog) (T := 136) Tryz.underlying136 Tryz.underlying3 hm8 (k := cl) (b := (S.length : Int) + 1) (by rw [lkJ_upJ, if_pos rfl])
                have HF0 := Lib.hid (HFIN.out W8 _ hk8 hm8 rfl)
                have c8 := (HFX.out W8 hk8).1
                have f8 := (HFX.out W8 hk8).2
                obtain ⟨es, ck, hes, hmap⟩ := HMP.out
                have hsz : es.size = S.length := by have := congrArg List.length hmap; simpa using this
                have hSB := HOK.out.2
                have hlenm := run_len_map (P := Tryz.prog) (w := wr) 136 3 mn es ck (by kernel_rfl) hes
                rw [hsz] at hlenm
                clear hns hl hm8 hk8 hes hmap hsz f5
                generalize cnt cl = cv at *
                generalize S.length = SL at *
                go_wp2_with fail
                obtain ⟨D', hD'⟩ := HF0.out
                go_roundw
                case rel => exact ⟨i + 1, D', by go_num, hD'⟩
                case measure => simp [intOf]; omega
        · have hii : i = k := by have := HQ.out.le; omega
          subst hii
          go_wp2_with fail
          go_ret
          have hCk := HCP.out.len
          have hgw := HG.out
          have hrow := HQ.out.row
          rw [List.drop_of_length_le (by omega), List.append_nil] at hrow
          have hcl := HQ.out.cls
          have hvl := HQ.out.val
          rw [List.take_of_length_le (by omega)] at hcl hvl
          have hsame := HCP.out.same
          rw [List.take_of_length_le (Nat.le_of_eq H.out.2.1)] at hsame
          have hw7 : Chg [] w w7 := HM6.out.2.2.1.trans HM6.out.2.1
          have hwr : Chg [] w wr := hw7.trans' HQ.out.chg (by simp) (fun x hx hl => by
            have := HMN.out
            have := HM6.out.2.2.1.size
            simp at hx; omega)
          have hdat : ∀ x ∈ D, ∃ fq, RdD wr fq x.2 x.1.data ∧ ∀ y ∈ fq, w.heap.size ≤ y ∧ y < wr.heap.size ∧ y ≠ w.heap.size := fun x hx => by
            obtain ⟨j, hj, rfl⟩ := List.mem_iff_getElem.1 hx
            have hDl := HQ.out.len
            have hjC : j < C.length := by omega
            have e1 : D[j].2 = C[j].2 := by
              have := congrArg (fun l => l[j]?) hvl
              simpa [List.getElem?_map, List.getElem?_eq_getElem hj, List.getElem?_eq_getElem hjC] using this
            have e2 : D[j].1.data = C[j].1.data := by
              have := congrArg (fun l => l[j]?) hcl
              rw [(canonS_ok cnt (C.map Prod.fst)).2.2.1] at this
              simp only [List.getElem?_map, List.getElem?_eq_getElem hj, List.getElem?_eq_getElem hjC, Option.map_some, Option.some.injEq] at this
              rw [this]
            obtain ⟨fq, h1, h2⟩ := HCP.out.data _ (List.getElem_mem hjC)
            rw [e1, e2]
            have h6 := HK6.out.size
            have hmn := HMN.out
            have h8 := HM6.out.2.1.size
            have h9 := HQ.out.chg.size
            refine ⟨fq, ((h1.chg HK6.out (by simp)).chg HM6.out.2.1 (by simp)).chg HQ.out.chg (fun y hy hm => ?_), fun y hy => ?_⟩
            · have := h2 y hy
              simp at hm; omega
            · have := h2 y hy
              omega
          rw [hgw] at hrow ⊢
          refine ⟨D, rfl, hrow, ?_, hdat, hwr⟩
          rw [hcl, hsame, HCNT.out]
end Go.Proofs.YtfhiioopimmahaaGreatDoor
namespace Go.Proofs.YtfhiioopimmahaaGreatDoor
open Go.RowKit Go.Pax Go.Shelf
set_option maxRecDepth 100000 in
set_option maxHeartbeats 16000000 in
theorem visitW (J : World → List Nat → List Str → Prop) (E : Str → Int) (w : World) (f : Nat) (O R0 : List Nat) (σ : Fs) (n : Nat) (c1 c2 : Nat) (hJ : Stays J)
    (hf : FsAt w f O σ) (hin : σ.In n) (hn : n ≤ 10000) (ht : Tidy σ) (hr : Rooted n σ) (hj : J w R0 []) (hR : ∀ g ∈ R0, g ∉ O ∧ g < w.heap.size)
    (hdo : ∀ W R V k p b, J W R V → Chg (O ++ R0) w W → FsAt W f O (ls σ k) → (∀ g ∈ R, g ∉ O) → lkF σ.files p = some b → V.length ≤ 10001 → Calls Tryz.prog 33 #[.string (ba p), infoV (σ.node b), .pointer (some ⟨c1, 0, none⟩), .pointer (some ⟨c2, 0, none⟩)] W fun e W' => e = .returned (.int .i64 (E p)) ∧ Chg R W W' ∧ (E p = 0 → ∃ R', J W' R' (V ++ [p]) ∧ (∀ g ∈ R', g ∈ R ∨ W.heap.size ≤ g) ∧ ∀ g ∈ R', g < W'.heap.size)) :
    Calls Tryz.prog 32 #[.pointer (some ⟨f, 0, none⟩), .func (.func 33) #[] #[.pointer (some ⟨c1, 0, none⟩), .pointer (some ⟨c2, 0, none⟩)]] w fun e w' =>
      (∃ V k R, e = .returned (.tuple #[.string ⟨#[]⟩, .int .i64 0]) ∧ PathsOf σ V ∧ (∀ v ∈ V, E v = 0) ∧ J w' R V ∧ (∀ g ∈ R, g ∉ O ∧ (g ∈ R0 ∨ w.heap.size ≤ g) ∧ g < w'.heap.size) ∧ FsAt w' f O (ls σ k) ∧ k ≤ n + 2 ∧ Chg (O ++ R0) w w') ∨
      (∃ V x L k, e = .returned (.tuple #[.string (ba x), .int .i64 (E x)]) ∧ Visit σ V (x :: L) ∧ (∀ y ∈ L, ¬ y < x) ∧ (∀ v ∈ V, E v = 0) ∧ E x ≠ 0 ∧ FsAt w' f O (ls σ k) ∧ k ≤ n + 2 ∧ Chg (O ++ R0) w w') := by
  obtain ⟨rb, hrb, hrk⟩ := hr.root
  go_enter Tryz.func32, Tryz.ntmps32
  go_wp2_with fail
  have hbf0 : (w.alloc (.cells #[.pointer (some ⟨f, 0, none⟩)] 27)).heap[w.heap.size]? = some (.cells #[.pointer (some ⟨f, 0, none⟩)] 27 (0, 0)) := heap_alloc_new _ _
  have hk0 : Chg [] w (w.alloc (.cells #[.pointer (some ⟨f, 0, none⟩)] 27)) := (Chg.refl _ _).alloc _
  have HB0 := Lib.hid (And.intro hbf0 (And.intro hk0 (show w.heap.size < (w.alloc (.cells #[.pointer (some ⟨f, 0, none⟩)] 27)).heap.size by simp)))
  clear hbf0 hk0
  generalize w.alloc (.cells #[.pointer (some ⟨f, 0, none⟩)] 27) = W0 at *
  obtain ⟨bf, hbf⟩ : ∃ x, x = w.heap.size := ⟨_, rfl⟩
  rw [← hbf] at HB0 ⊢
  have HBF := Lib.hid hbf
  have HG := Lib.hid (And.intro hf (And.intro hin (And.intro ht (And.intro hr (And.intro hj hR)))))
  have HDO := Lib.hid hdo
  have HRT := Lib.hid (And.intro hrb hrk)
  have HJ := Lib.hid hJ
  clear hf hin ht hr hj hR hdo hrb hrk hbf hJ
  go_step3
  go_upto_region 3 with (go_at_call 67; refine (hnew _).mono ?_; rintro e w1 ⟨rfl, hA, hk⟩; have HA := Lib.hid (And.intro hA hk); clear hA hk)
  have hA1 := HA.out
  have hb1 : (w1.alloc (.cells #[.pointer (some ⟨W0.heap.size, 0, none⟩)] 129)).heap[w1.heap.size]? = some (.cells #[.pointer (some ⟨W0.heap.size, 0, none⟩)] 129 (0, 0)) := heap_alloc_new _ _
  have hk1 : Chg [] w1 (w1.alloc (.cells #[.pointer (some ⟨W0.heap.size, 0, none⟩)] 129)) := (Chg.refl _ _).alloc _
  have hlt1 : W0.heap.size < w1.heap.size := hA1.1.lt _ (by simp)
  have hbfs : bf < W0.heap.size := HB0.out.2.2
  have hkw : Chg [] w (w1.alloc (.cells #[.pointer (some ⟨W0.heap.size, 0, none⟩)] 129)) := (HB0.out.2.1.trans hA1.2).trans hk1
  have hOl := HG.out.1.lt
  have hbfw := HBF.out
  have hM0 : Mst J w (w1.alloc (.cells #[.pointer (some ⟨W0.heap.size, 0, none⟩)] 129)) f W0.heap.size bf w1.heap.size O R0 σ 0 [W0.heap.size] R0 [] [] :=
    ⟨by have := HG.out.1.foreign hkw (by simp); rw [show ls σ 0 = σ from by unfold ls; simp]; exact this, hA1.1.foreign hk1 (by simp), HJ.out _ _ _ _ _ HG.out.2.2.2.2.1 hkw (by simp), fun g hg => by
      simp at hg; subst hg
      exact ⟨fun hm => by have := hOl _ hm; omega, fun hm => by have := (HG.out.2.2.2.2.2 _ hm).2; omega, by omega, by omega, by omega⟩, fun g hg => by
      have := HG.out.2.2.2.2.2 g hg
      exact ⟨this.1, by omega, by omega, .inl hg, Nat.lt_of_lt_of_le this.2 hkw.size⟩, ⟨(hA1.2.trans hk1).heap HB0.out.1 (by simp), fun hm => by have := hOl _ hm; omega⟩, ⟨hb1, fun hm => by have := hOl _ hm; omega⟩, hkw.mono (by simp)⟩
  have hX := expand (w1.alloc (.cells #[.pointer (some ⟨W0.heap.size, 0, none⟩)] 129)) f O (ls σ 0) W0.heap.size [W0.heap.size] [] [] rb bf w1.heap.size _ _ hM0.fs ((ls_in HG.out.2.1 0).ok (by omega)) ((ls_like σ 0).tidy HG.out.2.2.1) hM0.hp HeapN.nil (fun g hg => (hM0.qo g hg).1) hM0.bf.1 hM0.bt.1 hM0.bt.2 (by simp; omega) HRT.out.1 HRT.out.2 (by have := HG.out.2.1.names _ _ (lkF_mem HRT.out.1); simp only [List.length_nil]; show 0 + (σ.node rb).names.length ≤ _; omega)
  have HM0 := Lib.hid hM0
  have HX := Lib.hid (show Calls Tryz.prog 68 #[.string ⟨#[]⟩, .pointer (some ⟨bf, 0, none⟩), .pointer (some ⟨w1.heap.size, 0, none⟩)] _ _ from hX)
  clear hA1 hb1 hk1 hlt1 hbfs hkw hOl hbfw hM0 hX
  generalize w1.alloc (.cells #[.pointer (some ⟨W0.heap.size, 0, none⟩)] 129) = W2 at *
  clear HA HB0 HBF
  generalize W0.heap.size = h at *
  generalize w1.heap.size = bt at *
  go_wp2_with (go_at_call 68; refine HX.out.mono ?_; rintro e w3 ⟨rfl, hx1, hx2, Q2, L2, hx3, hx4, hx5, hx6⟩; have HM1 := Lib.hid (And.intro (HM0.out.expanded HJ.out hx1 hx2 hx3 hx4) (And.intro hx5 hx6)); clear hx1 hx2 hx3 hx4 hx5 hx6)
  go_step3
  go_wp2_with fail
  have hv0 : Visit σ [] L2 := (Visit.first HG.out.2.2.1 HG.out.2.2.2.1 HRT.out.1 HRT.out.2).perm (by have := HM1.out.2.1; rw [List.append_nil] at this; exact this)
  have HV0 := Lib.hid hv0
  clear hv0
  go_loopg [9] σ.files.length (fun g _ wr => ∃ (V L : List Str) (Q R : List Nat) (k : Nat), V.length + g = σ.files.length ∧ Mst J w wr f h bf bt O R0 σ k Q R V L ∧ Visit σ V L ∧ HeapN L L.length ∧ k ≤ V.length + 1 ∧ ∀ v ∈ V, E v = 0)
  case atStart => exact ⟨[], L2, Q2, R0, 1, by simp, HM1.out.1, HV0.out, HM1.out.2.2, by simp, by simp⟩
  case round =>
    obtain ⟨V, L, Q, R, k, hg, hM, hV, hh, hk, hE⟩ := hrel
    have hfl := HG.out.2.2.2.1.len
    have hLl := hV.short
    have hVl := hV.vshort
    have HM := Lib.hid hM
    have HV := Lib.hid (And.intro hV (And.intro hh (And.intro hk (And.intro hE hg))))
    have cbt := cell_heap hM.bt.1 0 (v := .pointer (some ⟨h, 0, none⟩)) rfl
    have hLb : L.length ≤ 1000000 := by omega
    have hVb : V.length ≤ 10001 := by omega
    have hkb : k ≤ n + 2 := by omega
    clear hM hV hh hk hE hg hfl hLl hVl
    by_cases h0 : L = []
    · subst h0
      have HP := Lib.hid (hpop0 wr h Q HM.out.hp)
      go_wp2_with (go_at_call 72; refine HP.out.mono ?_; rintro e w4 ⟨rfl, hw4⟩; obtain rfl := hw4.symm)
      rw [Exit.noGoto_ret]
      go_ret2
      exact .inl ⟨V, k, R, rfl, HV.out.1.done HG.out.2.2.2.1, HV.out.2.2.2.1, HM.out.j, fun g hg => ⟨(HM.out.ro g hg).1, (HM.out.ro g hg).2.2.2.1, (HM.out.ro g hg).2.2.2.2⟩, HM.out.fs, hkb, HM.out.chg⟩
    · have HP := Lib.hid (hpop wr h Q L HM.out.hp HV.out.2.1 hLb h0)
      have HVB := Lib.hid (And.intro hVb hkb)
      clear hLb h0 hVb hkb
      go_upto_region 8 with (go_at_call 72; refine HP.out.mono ?_; rintro e w4 ⟨x, R', rfl, hq1, hq2, hq3, hq4⟩; have HQ := Lib.hid (And.intro hq1 (And.intro hq2 (And.intro hq3 hq4))); clear hq1 hq2 hq3 hq4)
      obtain ⟨Q3, hM3⟩ := HM.out.heapTo HJ.out HQ.out.1
      have hV3 := HV.out.1.perm HQ.out.2.1
      obtain ⟨hxne, b, hb⟩ := hV3.mem x (.inr (by simp))
      have HM3 := Lib.hid hM3
      have HV3 := Lib.hid (And.intro hV3 (And.intro hxne hb))
      have cbf := cell_heap hM3.bf.1 0 (v := .pointer (some ⟨f, 0, none⟩)) rfl
      have HLS := Lib.hid (lstat w4 f O (ls σ k) x hM3.fs)
      have hlv : lstatV (ls σ k) x = .tuple #[infoV (σ.node b), .int .i64 0] := by unfold lstatV; rw [show lkF (ls σ k).files x = some b from hb]; rfl
      rw [hlv] at HLS
      have hds := fun W (kw : Chg [] w4 W) => HDO.out W R V k x b (HJ.out _ _ _ _ _ hM3.j kw (by simp)) (hM3.chg.trans (kw.mono (by simp))) (hM3.fs.foreign kw (by simp)) (fun g hg => (hM3.ro g hg).1) hb HVB.out.1
      have HDS := Lib.hid hds
      have HRB := Lib.hid (fun W (kw : Chg [] w4 W) => (show W.heap.size ∉ R from fun hm => by have := (hM3.ro _ hm).2.2.2.2; have := kw.size; omega))
      obtain ⟨nd, hnd⟩ : ∃ nd, nd = σ.node b := ⟨_, rfl⟩
      rw [← hnd] at HLS HDS
      have HND := Lib.hid (And.intro hnd (show lkF σ.files x = some b from hb))
      unfold infoV at HLS HDS
      clear hM3 hV3 hxne hb hlv hds hnd
      obtain ⟨KD, hkd⟩ : ∃ z, z = nd.kind := ⟨_, rfl⟩
      rw [← hkd] at HLS HDS
      have HKD := Lib.hid hkd
      clear hkd
      generalize nd.mode = MD at *
      generalize nd.ino = IN at *
      generalize nd.links = LK at *
      generalize nd.size = SZ at *
      generalize nd.target = TG at *
      generalize nd.uid = UI at *
      generalize nd.mtime = MT at *
      generalize ba TG = TGB at *
      obtain ⟨X, hX⟩ : ∃ X, X = ba x := ⟨_, rfl⟩
      rw [← hX] at HLS HDS ⊢
      have HXX := Lib.hid hX
      clear hX
      by_cases hE : E x = 0
      · rw [hE] at HDS
        have HE := Lib.hid hE
        clear hE
        by_cases hK : KD = 0
        · subst hK
          go_upto_region 12 with (first
            | (go_at_call 13; refine HLS.out.mono ?_; rintro e w5 ⟨rfl, hk5⟩; have HK5 := Lib.hid hk5; clear hk5)
            | (go_at_call 33; refine (HDS.out _ (HK5.out.alloc _)).mono ?_; rintro e w7 ⟨rfl, hd1, hd2⟩; have hc7 := hd1.cell (cell_heap (heap_alloc_new _ _) 0 (v := .int .i64 0) rfl) (HRB.out _ HK5.out); have HD7 := Lib.hid (And.intro hd1 hd2); clear hd1 hd2))
          obtain ⟨R7, hj7, hr7, hl7⟩ := HD7.out.2 (by first | trivial | rfl)
          have hM7 := (HM3.out.quiet HJ.out (HK5.out.alloc _)).kept HD7.out.1 hj7 hr7 hl7
          have hkx : (σ.node b).kind = 0 := by rw [← HND.out.1, ← HKD.out]
          have hv7 := HV3.out.1.dir HG.out.2.2.1 HG.out.2.2.2.1 HQ.out.2.2.2 HND.out.2 hkx
          have hlen := HV3.out.1.both
          have hfl := HG.out.2.2.2.1.len
          have hnm := HG.out.2.1.names _ _ (lkF_mem HND.out.2)
          have hX7 := expand w7 f O (ls σ k) h Q3 R' x b bf bt _ _ hM7.fs ((ls_in HG.out.2.1 k).ok (by have := HVB.out.2; omega)) ((ls_like σ k).tidy HG.out.2.2.1) hM7.hp HQ.out.2.2.1 (fun g hg => (hM7.qo g hg).1) hM7.bf.1 hM7.bt.1 hM7.bt.2 (fun hm => (hM7.qo _ hm).2.2.2.1 rfl) HND.out.2 hkx (by simp only [List.length_cons] at hlen; show R'.length + (σ.node b).names.length ≤ _; omega)
          rw [← HXX.out] at hX7
          have HX7 := Lib.hid hX7
          have HM7 := Lib.hid (And.intro hM7 (And.intro hv7 hlen))
          clear hc7 hj7 hr7 hl7 hM7 hkx hv7 hlen hfl hnm hX7
          go_wp2_with (go_at_call 68; refine HX7.out.mono ?_; rintro e w8 ⟨rfl, hx1, hx2, Q8, L8, hx3, hx4, hx5, hx6⟩; have HM8 := Lib.hid (And.intro (HM7.out.1.expanded HJ.out hx1 hx2 hx3 hx4) (And.intro hx5 hx6)); clear hx1 hx2 hx3 hx4 hx5 hx6)
          go_roundg (gk - 1)
          case measure => have h1 := HM7.out.2.2; have h2 := HV.out.2.2.2.2; simp only [List.length_cons] at h1; omega
          case rel => exact ⟨V ++ [x], L8, Q8, R7, k + 1, by have h1 := HM7.out.2.2; have h2 := HV.out.2.2.2.2; simp only [List.length_cons, List.length_append, List.length_nil] at h1 ⊢; omega, HM8.out.1, HM7.out.2.1.perm HM8.out.2.1, HM8.out.2.2, by have := HV.out.2.2.1; simp; omega, fun v hv => by
            rcases List.mem_append.1 hv with hv | hv
            · exact HV.out.2.2.2.1 v hv
            · simp at hv; subst hv; exact HE.out⟩
        · go_upto_region 13 with (first
            | (go_at_call 13; refine HLS.out.mono ?_; rintro e w5 ⟨rfl, hk5⟩; have HK5 := Lib.hid hk5; clear hk5)
            | (go_at_call 33; refine (HDS.out _ (HK5.out.alloc _)).mono ?_; rintro e w7 ⟨rfl, hd1, hd2⟩; have hc7 := hd1.cell (cell_heap (heap_alloc_new _ _) 0 (v := .int .i64 KD) rfl) (HRB.out _ HK5.out); have HD7 := Lib.hid (And.intro hd1 hd2); clear hd1 hd2))
          obtain ⟨R7, hj7, hr7, hl7⟩ := HD7.out.2 (by first | trivial | rfl)
          have hM7 := (HM3.out.quiet HJ.out (HK5.out.alloc _)).kept HD7.out.1 hj7 hr7 hl7
          have hkx : (σ.node b).kind ≠ 0 := by rw [← HND.out.1, ← HKD.out]; exact hK
          have hv7 := HV3.out.1.leaf HG.out.2.2.2.1 HQ.out.2.2.2 HND.out.2 hkx
          have HM7 := Lib.hid (And.intro hM7 (And.intro hv7 HV3.out.1.both))
          clear hc7 hj7 hr7 hl7 hM7 hkx hv7
          go_wp2_with fail
          go_roundg (gk - 1)
          case measure => have h1 := HM7.out.2.2; have h2 := HV.out.2.2.2.2; simp only [List.length_cons] at h1; omega
          case rel => exact ⟨V ++ [x], R', Q3, R7, k, by have h1 := HM7.out.2.2; have h2 := HV.out.2.2.2.2; simp only [List.length_cons, List.length_append, List.length_nil] at h1 ⊢; omega, HM7.out.1, HM7.out.2.1, HQ.out.2.2.1, by have := HV.out.2.2.1; simp; omega, fun v hv => by
            rcases List.mem_append.1 hv with hv | hv
            · exact HV.out.2.2.2.1 v hv
            · simp at hv; subst hv; exact HE.out⟩
      · have HE := Lib.hid hE
        obtain ⟨EX, hEX⟩ : ∃ z, z = E x := ⟨_, rfl⟩
        rw [← hEX] at HDS hE
        have HEX := Lib.hid hEX
        clear hEX
        go_wp2_with (first
            | (go_at_call 13; refine HLS.out.mono ?_; rintro e w5 ⟨rfl, hk5⟩; have HK5 := Lib.hid hk5; clear hk5)
            | (go_at_call 33; refine (HDS.out _ (HK5.out.alloc _)).mono ?_; rintro e w7 ⟨rfl, hd1, -⟩; have HD7 := Lib.hid hd1; clear hd1))
        rw [Exit.noGoto_ret]
        go_ret2
        have hl := (HM3.out.quiet HJ.out (HK5.out.alloc _)).lost HD7.out
        exact .inr ⟨V, x, R', k, by rw [← HXX.out, ← HEX.out]; rfl, HV3.out.1, HQ.out.2.2.2, HV.out.2.2.2.1, HE.out, hl.1, HVB.out.2, hl.2⟩
end Go.Proofs.YtfhiioopimmahaaGreatDoor
