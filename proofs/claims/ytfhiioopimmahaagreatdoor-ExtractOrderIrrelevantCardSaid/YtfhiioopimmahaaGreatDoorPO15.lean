/- Rows that are sorted in place: pieces of a list, exchanges, rotations. Valid trees; file systems alike but for their blocks; extraction does not depend on the order: plain. The example of extraction: plain. -/
import Derived.Test.YtfhiioopimmahaaGreatDoorPO07
import Derived.Test.YtfhiioopimmahaaGreatDoorPO08
import Derived.Test.YtfhiioopimmahaaGreatDoorPO14
namespace Go.Pax
open Go.RowKit
variable {β : Type}
/-- The elements from a to b. -/
def seg (L : List β) (a b : Nat) : List β := (L.drop a).take (b - a)
theorem seg_len {L : List β} {a b : Nat} (hb : b ≤ L.length) : (seg L a b).length = b - a := by unfold seg; simp; omega
theorem seg_split (L : List β) {a m b : Nat} (h1 : a ≤ m) (h2 : m ≤ b) : seg L a b = seg L a m ++ seg L m b := by
  unfold seg
  have e : b - a = (m - a) + (b - m) := by omega
  rw [e, List.take_add, List.drop_drop]
  congr 3
  omega
theorem seg_nil (L : List β) (a : Nat) : seg L a a = [] := by unfold seg; simp
theorem seg_one {L : List β} {a : Nat} (h : a < L.length) : seg L a (a + 1) = [L[a]] := by
  unfold seg
  rw [show a + 1 - a = 1 by omega, List.drop_eq_getElem_cons h]
  rfl
theorem take_seg (L : List β) {a b : Nat} (h : a ≤ b) : L.take b = L.take a ++ seg L a b := by
  unfold seg
  have e : b = a + (b - a) := by omega
  conv => lhs; rw [e, List.take_add]
theorem seg_drop (L : List β) {a b : Nat} (h : a ≤ b) : L.drop a = seg L a b ++ L.drop b := by
  unfold seg
  have e : L.drop b = (L.drop a).drop (b - a) := by rw [List.drop_drop]; congr 1; omega
  rw [e, List.take_append_drop]
theorem whole_seg (L : List β) {a b : Nat} (h : a ≤ b) : L = L.take a ++ seg L a b ++ L.drop b := by rw [← take_seg L h, List.take_append_drop]
theorem seg_get {L : List β} {a b i : Nat} (hi : a + i < b) (hb : b ≤ L.length) : ∃ h : i < (seg L a b).length, (seg L a b)[i] = L[a + i] := by
  refine ⟨by rw [seg_len hb]; omega, ?_⟩
  unfold seg
  simp
theorem mem_seg {L : List β} {a b i : Nat} (h1 : a ≤ i) (h2 : i < b) (hb : b ≤ L.length) : (L[i]'(by omega)) ∈ seg L a b := by
  obtain ⟨h, e⟩ := seg_get (L := L) (a := a) (b := b) (i := i - a) (by omega) hb
  have e2 : (L[a + (i - a)]'(by omega)) = (L[i]'(by omega)) := by congr 1; omega
  rw [← e2, ← e]
  exact List.getElem_mem h
theorem seg_mem {L : List β} {a b : Nat} {x : β} (hb : b ≤ L.length) (h : x ∈ seg L a b) : ∃ i, ∃ hi : i < L.length, a ≤ i ∧ i < b ∧ L[i] = x := by
  obtain ⟨i, hi, e⟩ := List.mem_iff_getElem.1 h
  have hl := seg_len (L := L) (a := a) (b := b) hb
  have hi2 : a + i < b := by omega
  obtain ⟨h2, e2⟩ := seg_get hi2 hb
  exact ⟨a + i, by omega, by omega, hi2, by rw [← e2]; exact e⟩
/-- Two elements exchanged. -/
def swp (L : List β) (i j : Nat) : List β := match L[i]?, L[j]? with
  | some x, some y => (L.set i y).set j x
  | _, _ => L
theorem swp_at {L : List β} {i j : Nat} (hi : i < L.length) (hj : j < L.length) : swp L i j = (L.set i L[j]).set j L[i] := by
  unfold swp
  rw [List.getElem?_eq_getElem hi, List.getElem?_eq_getElem hj]
theorem swp_len (L : List β) (i j : Nat) : (swp L i j).length = L.length := by
  unfold swp
  split <;> simp
theorem swp_app {X V Z : List β} {x y : β} : swp (X ++ x :: V ++ y :: Z) X.length (X.length + 1 + V.length) = X ++ y :: V ++ x :: Z := by
  have h1 : X.length < (X ++ x :: V ++ y :: Z).length := by simp
  have h2 : X.length + 1 + V.length < (X ++ x :: V ++ y :: Z).length := by simp; omega
  rw [swp_at h1 h2]
  have e1 : (X ++ x :: V ++ y :: Z)[X.length] = x := by simp
  have e2 : (X ++ x :: V ++ y :: Z)[X.length + 1 + V.length] = y := by
    rw [List.getElem_append_right (by simp only [List.length_append, List.length_cons]; omega)]
    simp [show X.length + 1 + V.length - (X.length + (V.length + 1)) = 0 by omega]
  rw [e1, e2]
  have e3 : (X ++ x :: V ++ y :: Z).set X.length y = X ++ y :: V ++ y :: Z := by
    rw [List.append_assoc, List.set_append_right (h := by omega)]
    simp
  rw [e3, List.set_append_right (h := by simp; omega)]
  simp [show X.length + 1 + V.length - (X.length + (V.length + 1)) = 0 by omega]
theorem swp_comm (L : List β) (i j : Nat) : swp L i j = swp L j i := by
  unfold swp
  cases h1 : L[i]? with
  | none => cases h2 : L[j]? <;> rfl
  | some x =>
    cases h2 : L[j]? with
    | none => rfl
    | some y =>
      simp only
      by_cases e : i = j
      · subst e
        rw [h1] at h2
        cases h2
        rfl
      · rw [List.set_comm _ _ e]
/-- The piece from i to m and the piece from m to j change their places. -/
def rot (L : List β) (i m j : Nat) : List β := L.take i ++ seg L m j ++ seg L i m ++ L.drop j
theorem rot_len {L : List β} {i m j : Nat} (h1 : i ≤ m) (h2 : m ≤ j) (h3 : j ≤ L.length) : (rot L i m j).length = L.length := by
  unfold rot
  simp only [List.length_append, seg_len h3, seg_len (show m ≤ L.length by omega), List.length_take, List.length_drop]
  omega
theorem rot_perm (L : List β) {i m j : Nat} (h1 : i ≤ m) (h2 : m ≤ j) : (rot L i m j).Perm L := by
  conv => rhs; rw [whole_seg L (show i ≤ j by omega), seg_split L h1 h2]
  unfold rot
  rw [List.append_assoc (L.take i)]
  exact List.Perm.append_right _ (List.Perm.append_left _ List.perm_append_comm)
theorem rot_same_l (L : List β) {m j : Nat} (h : m ≤ j) : rot L m m j = L := by
  unfold rot
  rw [seg_nil, List.append_nil]
  exact (whole_seg L h).symm
theorem rot_same_r (L : List β) {i m : Nat} (h : i ≤ m) : rot L i m m = L := by
  unfold rot
  rw [seg_nil, List.append_nil]
  exact (whole_seg L h).symm
/-- One element carried to the right by one place. -/
theorem rot_right {L : List β} {a k : Nat} (ha : a ≤ k) (hk : k + 1 < L.length) : swp (rot L a (a + 1) (k + 1)) k (k + 1) = rot L a (a + 1) (k + 2) := by
  unfold rot
  have hd : L.drop (k + 1) = L[k + 1] :: L.drop (k + 2) := List.drop_eq_getElem_cons hk
  have hs : seg L (a + 1) (k + 2) = seg L (a + 1) (k + 1) ++ [L[k + 1]] := by rw [seg_split L (show a + 1 ≤ k + 1 by omega) (show k + 1 ≤ k + 2 by omega), seg_one hk]
  rw [hd, hs, seg_one (show a < L.length by omega)]
  have hl : (L.take a ++ seg L (a + 1) (k + 1)).length = k := by rw [List.length_append, List.length_take, seg_len (show k + 1 ≤ L.length by omega)]; omega
  have := swp_app (X := L.take a ++ seg L (a + 1) (k + 1)) (V := []) (Z := L.drop (k + 2)) (x := L[a]'(by omega)) (y := L[k + 1])
  rw [hl] at this
  simpa using this
/-- One element carried to the left by one place. -/
theorem rot_left {L : List β} {k m : Nat} (hk : k < m) (hm : m < L.length) : swp (rot L (k + 1) m (m + 1)) (k + 1) k = rot L k m (m + 1) := by
  unfold rot
  have ht : L.take (k + 1) = L.take k ++ [L[k]'(by omega)] := by rw [List.take_add_one, List.getElem?_eq_getElem (by omega)]; rfl
  have hs : seg L k m = [L[k]'(by omega)] ++ seg L (k + 1) m := by rw [seg_split L (show k ≤ k + 1 by omega) (show k + 1 ≤ m by omega), seg_one (show k < L.length by omega)]
  rw [ht, hs, seg_one hm, swp_comm]
  have hl : (L.take k).length = k := by simp; omega
  have := swp_app (X := L.take k) (V := []) (Z := seg L (k + 1) m ++ L.drop (m + 1)) (x := L[k]'(by omega)) (y := L[m])
  rw [hl] at this
  simpa using this
/-- Two pieces of n elements exchanged, one element after the other. -/
def swpR (L : List β) (a b : Nat) : Nat → List β
  | 0 => L
  | n + 1 => swp (swpR L a b n) (a + n) (b + n)
theorem swpR_len (L : List β) (a b : Nat) : ∀ n, (swpR L a b n).length = L.length
  | 0 => rfl
  | n + 1 => by rw [swpR, swp_len, swpR_len L a b n]
theorem swpR_app : ∀ (n : Nat) (W U X V Z : List β), W.length = n → U.length = n → swpR (X ++ U ++ V ++ W ++ Z) X.length (X.length + U.length + V.length) U.length = X ++ W ++ V ++ U ++ Z
  | 0, W, U, X, V, Z, hW, hU => by
    obtain rfl : U = [] := List.eq_nil_of_length_eq_zero hU
    obtain rfl : W = [] := List.eq_nil_of_length_eq_zero hW
    simp [swpR]
  | n + 1, W, U, X, V, Z, hW, hU => by
    obtain ⟨U0, x, rfl⟩ : ∃ U0 x, U = U0 ++ [x] := by
      rcases List.eq_nil_or_concat U with rfl | ⟨U0, x, h⟩
      · simp at hU
      · exact ⟨U0, x, by rw [h, List.concat_eq_append]⟩
    obtain ⟨W, y, rfl⟩ : ∃ W0 y, W = W0 ++ [y] := by
      rcases List.eq_nil_or_concat W with rfl | ⟨U0, x, h⟩
      · simp at hW
      · exact ⟨U0, x, by rw [h, List.concat_eq_append]⟩
    have hl : U0.length = n := by simpa using hU
    have hw : W.length = n := by simpa using hW
    have h1 := swpR_app n W U0 X (x :: V) (y :: Z) hw hl
    have e1 : X ++ (U0 ++ [x]) ++ V ++ (W ++ [y]) ++ Z = X ++ U0 ++ (x :: V) ++ W ++ (y :: Z) := by simp
    have e2 : (U0 ++ [x]).length = U0.length + 1 := by simp
    have e3 : X.length + (U0.length + 1) + V.length = X.length + U0.length + (x :: V).length := by simp; omega
    rw [e1, e2, e3, swpR, h1]
    have h2 := swp_app (X := X ++ W) (V := V ++ U0) (Z := Z) (x := x) (y := y)
    have e4 : (X ++ W).length = X.length + U0.length := by simp [hl, hw]
    have e5 : (X ++ W).length + 1 + (V ++ U0).length = X.length + U0.length + (x :: V).length + U0.length := by simp [hl, hw]; try omega
    rw [e5, e4] at h2
    have e6 : X ++ W ++ (x :: V) ++ U0 ++ (y :: Z) = X ++ W ++ x :: (V ++ U0) ++ y :: Z := by simp
    rw [e6, h2]
    simp
/-- The elements from a to b among themselves in another order. -/
structure Shuf (L L' : List β) (a b : Nat) : Prop where
  len : L'.length = L.length
  low : L'.take a = L.take a
  high : L'.drop b = L.drop b
  perm : (seg L' a b).Perm (seg L a b)
theorem Shuf.refl (L : List β) (a b : Nat) : Shuf L L a b := ⟨rfl, rfl, rfl, List.Perm.refl _⟩
theorem Shuf.trans {L L' L2 : List β} {a b : Nat} (h : Shuf L L' a b) (k : Shuf L' L2 a b) : Shuf L L2 a b := ⟨k.len.trans h.len, k.low.trans h.low, k.high.trans h.high, k.perm.trans h.perm⟩
theorem Shuf.all {L L' : List β} {a b : Nat} (h : Shuf L L' a b) (hab : a ≤ b) : L'.Perm L := by
  rw [whole_seg L hab, whole_seg L' hab, h.low, h.high]
  exact List.Perm.append_right _ (List.Perm.append_left _ h.perm)
theorem take_le {L L' : List β} {a c : Nat} (h : L'.take a = L.take a) (hc : c ≤ a) : L'.take c = L.take c := by
  have := congrArg (List.take c) h
  rwa [List.take_take, List.take_take, Nat.min_eq_left hc] at this
theorem drop_ge {L L' : List β} {b d : Nat} (h : L'.drop b = L.drop b) (hd : b ≤ d) : L'.drop d = L.drop d := by
  have := congrArg (List.drop (d - b)) h
  rwa [List.drop_drop, List.drop_drop, show b + (d - b) = d by omega] at this
theorem seg_take {L L' : List β} {a b c : Nat} (h : L'.take c = L.take c) (hb : b ≤ c) : seg L' a b = seg L a b := by
  have e : ∀ M : List β, seg M a b = (M.take b).drop a := fun M => by unfold seg; rw [List.drop_take]
  rw [e, e, take_le h hb]
theorem seg_drop_eq {L L' : List β} {a b c : Nat} (h : L'.drop c = L.drop c) (hc : c ≤ a) : seg L' a b = seg L a b := by
  unfold seg
  rw [drop_ge h hc]
theorem Shuf.wide {L L' : List β} {a b c d : Nat} (h : Shuf L L' a b) (hca : c ≤ a) (hab : a ≤ b) (hbd : b ≤ d) : Shuf L L' c d := by
  refine ⟨h.len, take_le h.low hca, drop_ge h.high hbd, ?_⟩
  rw [seg_split L (show c ≤ a by omega) (show a ≤ d by omega), seg_split L (show a ≤ b by omega) (show b ≤ d by omega), seg_split L' (show c ≤ a by omega) (show a ≤ d by omega), seg_split L' (show a ≤ b by omega) (show b ≤ d by omega), seg_take h.low (Nat.le_refl _), seg_drop_eq h.high (Nat.le_refl _)]
  exact List.Perm.append_left _ (List.Perm.append_right _ h.perm)
theorem rot_pieces {L : List β} {i m j : Nat} (h1 : i ≤ m) (h2 : m ≤ j) (h3 : j ≤ L.length) :
    (rot L i m j).take i = L.take i ∧ (rot L i m j).drop j = L.drop j ∧ seg (rot L i m j) i (i + (j - m)) = seg L m j ∧ seg (rot L i m j) (i + (j - m)) j = seg L i m := by
  have l1 : (L.take i).length = i := by simp; omega
  have l2 : (seg L m j).length = j - m := seg_len h3
  have l3 : (seg L i m).length = m - i := seg_len (by omega)
  unfold rot
  refine ⟨?_, ?_, ?_, ?_⟩
  · rw [List.append_assoc, List.append_assoc, List.take_left' l1]
  · rw [List.drop_left' (by simp only [List.length_append]; omega)]
  · unfold seg at *
    rw [List.append_assoc, List.append_assoc, List.drop_left' l1, List.take_left' (by omega)]
  · have e : L.take i ++ seg L m j ++ seg L i m ++ L.drop j = (L.take i ++ seg L m j) ++ (seg L i m ++ L.drop j) := by simp
    rw [e]
    show (((L.take i ++ seg L m j) ++ (seg L i m ++ L.drop j)).drop (i + (j - m))).take (j - (i + (j - m))) = _
    rw [List.drop_left' (by rw [List.length_append]; omega), List.take_left' (by omega)]
theorem rot_shuf {L : List β} {i m j : Nat} (h1 : i ≤ m) (h2 : m ≤ j) (h3 : j ≤ L.length) : Shuf L (rot L i m j) i j := by
  obtain ⟨p1, p2, p3, p4⟩ := rot_pieces h1 h2 h3
  refine ⟨rot_len h1 h2 h3, p1, p2, ?_⟩
  rw [seg_split _ (show i ≤ i + (j - m) by omega) (show i + (j - m) ≤ j by omega), p3, p4, seg_split L h1 h2]
  exact List.perm_append_comm
variable {key : β → Str}
theorem key_trans {x y z : β} (h1 : ¬ key y < key x) (h2 : ¬ key z < key y) : ¬ key z < key x := fun h => by
  by_cases e : key y = key z
  · rw [← e] at h; exact h1 h
  · by_cases e2 : key y < key z
    · exact h1 (slt_trans e2 h)
    · exact h2 (slt_total e2 e)
theorem key_lt {x y z : β} (h1 : key x < key y) (h2 : ¬ key z < key y) : ¬ key z < key x := fun h => h2 (slt_trans h h1)
theorem key_lt2 {x y : β} (h1 : key x < key y) : ¬ key y < key x := fun h => slt_irrefl _ (slt_trans h h1)
/-- Ascending from a to b. -/
def Asc (key : β → Str) (L : List β) (a b : Nat) : Prop := (seg L a b).Pairwise fun x y => ¬ key y < key x
theorem Asc.sub {L : List β} {a b c d : Nat} (h : Asc key L a b) (h1 : a ≤ c) (h2 : c ≤ d) (h3 : d ≤ b) : Asc key L c d := by
  unfold Asc at *
  rw [seg_split L (show a ≤ c by omega) (show c ≤ b by omega), seg_split L h2 h3] at h
  exact (List.pairwise_append.1 (List.pairwise_append.1 h).2.1).1
theorem Asc.at {L : List β} {a b i j : Nat} (h : Asc key L a b) (h1 : a ≤ i) (h2 : i ≤ j) (h3 : j < b) (hb : b ≤ L.length) : ¬ key (L[j]'(by omega)) < key (L[i]'(by omega)) := by
  rcases Nat.lt_or_ge i j with hlt | hge
  · obtain ⟨p1, e1⟩ := seg_get (L := L) (a := a) (b := b) (i := i - a) (by omega) hb
    obtain ⟨p2, e2⟩ := seg_get (L := L) (a := a) (b := b) (i := j - a) (by omega) hb
    have := List.pairwise_iff_getElem.1 h (i - a) (j - a) p1 p2 (by omega)
    rw [e1, e2] at this
    have e3 : (L[a + (i - a)]'(by omega)) = (L[i]'(by omega)) := by congr 1; omega
    have e4 : (L[a + (j - a)]'(by omega)) = (L[j]'(by omega)) := by congr 1; omega
    rwa [e3, e4] at this
  · obtain rfl : i = j := by omega
    exact slt_irrefl _
theorem Asc.join {L : List β} {a m b : Nat} (h1 : Asc key L a m) (h2 : Asc key L m b) (ha : a ≤ m) (hb : m ≤ b) (h : ∀ x ∈ seg L a m, ∀ y ∈ seg L m b, ¬ key y < key x) : Asc key L a b := by
  unfold Asc at *
  rw [seg_split L ha hb]
  exact List.pairwise_append.2 ⟨h1, h2, h⟩
theorem asc_nil (L : List β) (a : Nat) : Asc key L a a := by unfold Asc; rw [seg_nil]; exact List.Pairwise.nil
theorem asc_one (L : List β) (a : Nat) (h : a < L.length) : Asc key L a (a + 1) := by unfold Asc; rw [seg_one h]; exact List.pairwise_singleton _ _
/-- The rotation between two sorted pieces leaves two halves, the first below the second. -/
theorem rot_halves {L : List β} {a m b s e mid : Nat} (h1 : Asc key L a m) (h2 : Asc key L m b) (ha : a ≤ s) (hs : s ≤ m) (he : m ≤ e) (hb : e ≤ b) (hl : b ≤ L.length) (hm : mid = s + (e - m))
    (p1 : a < s → e < b → ∀ h : e < L.length, ∀ h' : s - 1 < L.length, ¬ key L[e] < key L[s - 1]) (p2 : s < m → m < e → ∀ h : e - 1 < L.length, ∀ h' : s < L.length, key L[e - 1] < key L[s]) :
    Asc key (rot L s m e) a s ∧ Asc key (rot L s m e) s mid ∧ Asc key (rot L s m e) mid e ∧ Asc key (rot L s m e) e b ∧ ∀ x ∈ seg (rot L s m e) a mid, ∀ y ∈ seg (rot L s m e) mid b, ¬ key y < key x := by
  obtain ⟨q1, q2, q3, q4⟩ := rot_pieces (L := L) hs he (by omega)
  rw [← hm] at q3 q4
  have r1 : seg (rot L s m e) a s = seg L a s := seg_take q1 (Nat.le_refl _)
  have r2 : seg (rot L s m e) e b = seg L e b := seg_drop_eq q2 (Nat.le_refl _)
  refine ⟨?_, ?_, ?_, ?_, fun x hx y hy => ?_⟩
  · unfold Asc; rw [r1]; exact h1.sub (Nat.le_refl _) ha hs
  · unfold Asc; rw [q3]; exact h2.sub (Nat.le_refl _) he hb
  · unfold Asc; rw [q4]; exact h1.sub ha hs (Nat.le_refl _)
  · unfold Asc; rw [r2]; exact h2.sub he hb (Nat.le_refl _)
  · rw [seg_split _ ha (show s ≤ mid by omega), r1, q3] at hx
    rw [seg_split _ (show mid ≤ e by omega) hb, r2, q4] at hy
    rcases List.mem_append.1 hx with hx | hx
    · obtain ⟨i, hi, i1, i2, rfl⟩ := seg_mem (by omega) hx
      rcases List.mem_append.1 hy with hy | hy
      · obtain ⟨j, hj, j1, j2, rfl⟩ := seg_mem (by omega) hy
        exact h1.at i1 (by omega) j2 (by omega)
      · obtain ⟨j, hj, j1, j2, rfl⟩ := seg_mem (by omega) hy
        have k1 := p1 (by omega) (by omega) (by omega) (by omega)
        have k2 := h1.at (i := i) (j := s - 1) i1 (by omega) (by omega) (by omega)
        have k3 := h2.at (i := e) (j := j) (by omega) (by omega) j2 (by omega)
        exact key_trans (key_trans k2 k1) k3
    · obtain ⟨i, hi, i1, i2, rfl⟩ := seg_mem (by omega) hx
      rcases List.mem_append.1 hy with hy | hy
      · obtain ⟨j, hj, j1, j2, rfl⟩ := seg_mem (by omega) hy
        have k1 := p2 (by omega) (by omega) (by omega) (by omega)
        have k2 := h2.at (i := i) (j := e - 1) i1 (by omega) (by omega) (by omega)
        have k3 := h1.at (i := s) (j := j) (by omega) (by omega) j2 (by omega)
        exact key_trans (key_trans k2 (key_lt2 k1)) k3
      · obtain ⟨j, hj, j1, j2, rfl⟩ := seg_mem (by omega) hy
        exact h2.at i1 (by omega) j2 (by omega)
/-- Both halves sorted: the whole is. -/
theorem halves_join {L L3 L4 : List β} {a mid b : Nat} (ha : a ≤ mid) (hb : mid ≤ b) (hx : ∀ x ∈ seg L a mid, ∀ y ∈ seg L mid b, ¬ key y < key x) (s1 : Shuf L L3 a mid) (a1 : Asc key L3 a mid) (s2 : Shuf L3 L4 mid b) (a2 : Asc key L4 mid b) :
    Asc key L4 a b ∧ Shuf L L4 a b := by
  have e1 : seg L4 a mid = seg L3 a mid := seg_take s2.low (Nat.le_refl _)
  refine ⟨Asc.join (by unfold Asc; rw [e1]; exact a1) a2 ha hb fun x h1 y h2 => ?_, (s1.wide (Nat.le_refl _) ha hb).trans (s2.wide ha hb (Nat.le_refl _))⟩
  rw [e1] at h1
  have h3 := (s2.perm.mem_iff).1 h2
  rw [seg_drop_eq s1.high (Nat.le_refl _)] at h3
  exact hx x ((s1.perm.mem_iff).1 h1) y h3
/-- The rotation by exchanges of blocks: what is still to be turned. -/
structure RotInv (L : List β) (a m b i j : Nat) (L' : List β) : Prop where
  parts : ∃ P A B S : List β, L' = L.take a ++ P ++ A ++ B ++ S ++ L.drop b ∧ A.length = i ∧ B.length = j ∧ (L.take a ++ P ++ A).length = m ∧ seg L m b ++ seg L a m = P ++ B ++ A ++ S
theorem rotInv_start {L : List β} {a m b : Nat} (h1 : a ≤ m) (h2 : m ≤ b) (h3 : b ≤ L.length) : RotInv L a m b (m - a) (b - m) L := by
  refine ⟨[], seg L a m, seg L m b, [], ?_, seg_len (by omega), seg_len h3, ?_, by simp⟩
  · conv => lhs; rw [whole_seg L (show a ≤ b by omega), seg_split L h1 h2]
    simp
  · rw [List.append_nil, ← take_seg L h1, List.length_take]; omega
theorem rotInv_gt {L L' : List β} {a m b i j : Nat} (h : RotInv L a m b i j L') (hij : j < i) : RotInv L a m b (i - j) j (swpR L' (m - i) m j) ∧ m - i + j ≤ L'.length ∧ m + j ≤ L'.length ∧ i ≤ m := by
  obtain ⟨P, A, B, S, e, hA, hB, hm, hs⟩ := h.parts
  have hAs : A = A.take j ++ A.drop j := (List.take_append_drop j A).symm
  have hU : (A.take j).length = j := by rw [List.length_take]; omega
  have hV : (A.drop j).length = i - j := by rw [List.length_drop]; omega
  have hXP : (L.take a ++ P).length = m - i := by rw [List.length_append] at hm; omega
  have him : i ≤ m := by rw [List.length_append] at hm; omega
  have hl : L'.length = m + j + (S.length + (L.drop b).length) := by rw [e]; simp only [List.length_append] at hm ⊢; omega
  have h1 := swpR_app j B (A.take j) (L.take a ++ P) (A.drop j) (S ++ L.drop b) hB hU
  rw [hXP, hU, hV, show m - i + j + (i - j) = m by omega] at h1
  have e2 : L.take a ++ P ++ A.take j ++ A.drop j ++ B ++ (S ++ L.drop b) = L' := by
    rw [e]
    conv => rhs; rw [hAs]
    simp
  rw [e2] at h1
  refine ⟨⟨P ++ B, A.drop j, A.take j, S, ?_, hV, hU, ?_, ?_⟩, by omega, by omega, him⟩
  · rw [h1]; simp
  · simp only [List.length_append] at hm ⊢; omega
  · rw [hs]
    conv => lhs; rw [hAs]
    simp
theorem rotInv_lt {L L' : List β} {a m b i j : Nat} (h : RotInv L a m b i j L') (hij : i < j) : RotInv L a m b i (j - i) (swpR L' (m - i) (m + j - i) i) ∧ m - i + i ≤ L'.length ∧ m + j - i + i ≤ L'.length ∧ i ≤ m := by
  obtain ⟨P, A, B, S, e, hA, hB, hm, hs⟩ := h.parts
  have hBs : B = B.take (j - i) ++ B.drop (j - i) := (List.take_append_drop (j - i) B).symm
  have hU : (B.take (j - i)).length = j - i := by rw [List.length_take]; omega
  have hV : (B.drop (j - i)).length = i := by rw [List.length_drop]; omega
  have hXP : (L.take a ++ P).length = m - i := by rw [List.length_append] at hm; omega
  have him : i ≤ m := by rw [List.length_append] at hm; omega
  have hl : L'.length = m + j + (S.length + (L.drop b).length) := by rw [e]; simp only [List.length_append] at hm ⊢; omega
  have h1 := swpR_app i (B.drop (j - i)) A (L.take a ++ P) (B.take (j - i)) (S ++ L.drop b) hV hA
  rw [hXP, hA, hU, show m - i + i + (j - i) = m + j - i by omega] at h1
  have e2 : L.take a ++ P ++ A ++ B.take (j - i) ++ B.drop (j - i) ++ (S ++ L.drop b) = L' := by
    rw [e]
    conv => rhs; rw [hBs]
    simp
  rw [e2] at h1
  refine ⟨⟨P, B.drop (j - i), B.take (j - i), A ++ S, ?_, hV, hU, ?_, ?_⟩, by omega, by omega, him⟩
  · rw [h1]; simp
  · simp only [List.length_append] at hm ⊢; omega
  · rw [hs]
    conv => lhs; rw [hBs]
    simp
theorem rotInv_end {L L' : List β} {a m b i : Nat} (h : RotInv L a m b i i L') : swpR L' (m - i) m i = rot L a m b ∧ m - i + i ≤ L'.length ∧ m + i ≤ L'.length ∧ i ≤ m := by
  obtain ⟨P, A, B, S, e, hA, hB, hm, hs⟩ := h.parts
  have hXP : (L.take a ++ P).length = m - i := by rw [List.length_append] at hm; omega
  have him : i ≤ m := by rw [List.length_append] at hm; omega
  have hl : L'.length = m + i + (S.length + (L.drop b).length) := by rw [e]; simp only [List.length_append] at hm ⊢; omega
  have h1 := swpR_app i B A (L.take a ++ P) [] (S ++ L.drop b) hB hA
  rw [hXP, hA, List.length_nil, show m - i + i + 0 = m by omega] at h1
  have e2 : L.take a ++ P ++ A ++ [] ++ B ++ (S ++ L.drop b) = L' := by rw [e]; simp
  rw [e2] at h1
  refine ⟨?_, by omega, by omega, him⟩
  have e3 : rot L a m b = L.take a ++ (seg L m b ++ seg L a m) ++ L.drop b := by unfold rot; simp
  rw [h1, e3, hs]
  simp
theorem rot_at {L : List β} {j k : Nat} (hj : j ≤ k) (hk : k < L.length) : (rot L j k (k + 1))[j]? = L[k]? ∧ ∀ i, i < j → (rot L j k (k + 1))[i]? = L[i]? := by
  have l1 : (L.take j).length = j := by rw [List.length_take]; omega
  unfold rot
  rw [seg_one hk]
  refine ⟨?_, fun i hi => ?_⟩
  · rw [List.append_assoc, List.append_assoc, List.getElem?_append_right (by omega), l1, Nat.sub_self, List.getElem?_eq_getElem hk]
    rfl
  · rw [List.append_assoc, List.append_assoc, List.getElem?_append_left (by omega), List.getElem?_take_of_lt hi]
/-- An element carried to its place in the sorted piece ahead of it. -/
theorem ins_done {L : List β} {a j k : Nat} (h : Asc key L a k) (hk : k < L.length) (ha : a ≤ j) (hj : j ≤ k) (h1 : ∀ i (hi : i < L.length), j ≤ i → i < k → key L[k] < key L[i]) (h2 : j = a ∨ ∀ hi : j - 1 < L.length, ¬ key L[k] < key L[j - 1]) :
    Asc key (rot L j k (k + 1)) a (k + 1) := by
  obtain ⟨q1, q2, q3, q4⟩ := rot_pieces (L := L) (i := j) (m := k) (j := k + 1) hj (by omega) (by omega)
  obtain ⟨r1, r2, r3, r4, r5⟩ := rot_halves (L := L) (a := a) (m := k) (b := k + 1) (s := j) (e := k + 1) (mid := j + 1) h (asc_one L k hk) ha hj (by omega) (Nat.le_refl _) (by omega) (by omega) (fun _ hc => absurd hc (by omega)) (fun hc _ he hs => h1 j hs (Nat.le_refl _) hc)
  have r6 : Asc key (rot L j k (k + 1)) a (j + 1) := by
    refine Asc.join r1 r2 ha (by omega) fun x hx y hy => ?_
    rw [show j + 1 = j + (k + 1 - k) by omega, q3, seg_one hk] at hy
    obtain rfl : y = L[k] := by simpa using hy
    rw [seg_take q1 (Nat.le_refl _)] at hx
    obtain ⟨i, hi, i1, i2, rfl⟩ := seg_mem (by omega) hx
    rcases h2 with h2 | h2
    · omega
    · exact key_trans (h.at (i := i) (j := j - 1) i1 (by omega) (by omega) (by omega)) (h2 (by omega))
  exact Asc.join r6 r3 (by omega) (by omega) r5
/-- One element before a sorted piece, carried to its place. -/
theorem oneL_done {L : List β} {a i b : Nat} (h : Asc key L (a + 1) b) (ha : a + 1 ≤ i) (hi : i ≤ b) (hb : b ≤ L.length) (h1 : a + 1 < i → ∀ h' : i - 1 < L.length, ∀ h'' : a < L.length, key L[i - 1] < key L[a]) (h2 : i < b → ∀ h' : i < L.length, ∀ h'' : a < L.length, ¬ key L[i] < key L[a]) :
    Asc key (rot L a (a + 1) i) a b := by
  obtain ⟨r1, r2, r3, r4, r5⟩ := rot_halves (L := L) (a := a) (m := a + 1) (b := b) (s := a) (e := i) (mid := a + (i - (a + 1))) (asc_one L a (by omega)) h (Nat.le_refl _) (by omega) ha hi hb rfl (fun hc => absurd hc (by omega)) (fun _ hc he hs => h1 hc he hs)
  obtain ⟨q1, q2, q3, q4⟩ := rot_pieces (L := L) (i := a) (m := a + 1) (j := i) (by omega) ha (by omega)
  refine Asc.join r2 ?_ (by omega) (by omega) r5
  refine Asc.join r3 r4 (by omega) hi fun x hx y hy => ?_
  rw [q4, seg_one (show a < L.length by omega)] at hx
  obtain rfl : x = L[a]'(by omega) := by simpa using hx
  rw [seg_drop_eq q2 (Nat.le_refl _)] at hy
  obtain ⟨j, hj, j1, j2, rfl⟩ := seg_mem hb hy
  exact key_trans (h2 (by omega) (by omega) (by omega)) (h.at (i := i) (j := j) ha j1 j2 hb)
/-- One element behind a sorted piece, carried to its place. -/
theorem oneR_done {L : List β} {a i m : Nat} (h : Asc key L a m) (ha : a ≤ i) (hi : i ≤ m) (hm : m < L.length) (h1 : a < i → ∀ h' : i - 1 < L.length, ¬ key L[m] < key L[i - 1]) (h2 : i < m → ∀ h' : i < L.length, key L[m] < key L[i]) :
    Asc key (rot L i m (m + 1)) a (m + 1) := by
  refine ins_done h hm ha hi (fun k hk k1 k2 => ?_) ?_
  · have h3 := h2 (by omega) (by omega)
    have h4 := h.at (i := i) (j := k) ha k1 k2 (by omega)
    by_cases e : key L[k] = key (L[i]'(by omega))
    · rw [e]; exact h3
    · exact slt_trans h3 (slt_total h4 e)
  · rcases Nat.lt_or_ge a i with h3 | h3
    · exact .inr fun hi => h1 h3 hi
    · exact .inl (by omega)
theorem Shuf.asc_high {L L' : List β} {a b c d : Nat} (h : Shuf L L' a b) (hc : b ≤ c) (k : Asc key L c d) : Asc key L' c d := by
  unfold Asc at *
  rw [seg_drop_eq h.high hc]
  exact k
theorem asc_left {L : List β} {a s mid : Nat} (h1 : Asc key L a s) (h2 : Asc key L s mid) (h : ¬ (a < s ∧ s < mid)) (ha : a ≤ s) (hs : s ≤ mid) : Asc key L a mid := by
  by_cases e : a = s
  · rw [e]; exact h2
  · obtain rfl : s = mid := by omega
    exact h1
theorem Shuf.asc_low {L L' : List β} {a b c d : Nat} (h : Shuf L L' a b) (hd : d ≤ a) (k : Asc key L c d) : Asc key L' c d := by
  unfold Asc at *
  rw [seg_take h.low hd]
  exact k
/-- Every piece of z elements is sorted. -/
def Blk (key : β → Str) (L : List β) (z n : Nat) : Prop := ∀ q, z ∣ q → q < n → Asc key L q (min (q + z) n)
/-- Pieces of twice z elements are sorted up to q, pieces of z from there on. -/
structure BlkMid (key : β → Str) (L : List β) (z q n : Nat) : Prop where
  dvd : 2 * z ∣ q
  le : q ≤ n
  two : ∀ x, 2 * z ∣ x → x < q → Asc key L x (x + 2 * z)
  one : ∀ x, z ∣ x → q ≤ x → x < n → Asc key L x (min (x + z) n)
theorem BlkMid.start {L : List β} {z n : Nat} (h : Blk key L z n) : BlkMid key L z 0 n := ⟨Nat.dvd_zero _, Nat.zero_le _, fun _ _ hx => absurd hx (Nat.not_lt_zero _), fun x hz _ hn => h x hz hn⟩
theorem dvd_step {z x q : Nat} (h1 : z ∣ x) (h2 : z ∣ q) (h : x < q) : x + z ≤ q := by
  have := Nat.le_of_dvd (by omega) (Nat.dvd_sub h2 h1)
  omega
theorem BlkMid.parts {L : List β} {z q n : Nat} (h : BlkMid key L z q n) (hn : q + z < n) : Asc key L q (q + z) ∧ Asc key L (q + z) (min (q + 2 * z) n) := by
  have hq : z ∣ q := Nat.dvd_trans (Nat.dvd_mul_left z 2) h.dvd
  have h1 := h.one q hq (Nat.le_refl _) (by omega)
  have h2 := h.one (q + z) (Nat.dvd_add hq (Nat.dvd_refl z)) (by omega) hn
  rw [Nat.min_eq_left (by omega)] at h1
  rw [show q + z + z = q + 2 * z by omega] at h2
  exact ⟨h1, h2⟩
theorem BlkMid.next {L L' : List β} {z q n : Nat} (h : BlkMid key L z q n) (hn : q + 2 * z ≤ n) (hs : Shuf L L' q (q + 2 * z)) (ha : Asc key L' q (q + 2 * z)) : BlkMid key L' z (q + 2 * z) n := by
  refine ⟨Nat.dvd_add h.dvd (Nat.dvd_refl _), hn, fun x h1 h2 => ?_, fun x h1 h2 h3 => hs.asc_high h2 (h.one x h1 (by omega) h3)⟩
  rcases Nat.lt_or_ge x q with h3 | h3
  · exact hs.asc_low (dvd_step h1 h.dvd h3) (h.two x h1 h3)
  · have h4 : x - q = 0 := Nat.eq_zero_of_dvd_of_lt (Nat.dvd_sub h1 h.dvd) (by omega)
    rw [show x = q by omega]
    exact ha
theorem BlkMid.last {L L' : List β} {z q n : Nat} (h : BlkMid key L z q n) (hn : n < q + 2 * z) (hs : Shuf L L' q n) (ha : Asc key L' q n) : Blk key L' (2 * z) n := fun x h1 h2 => by
  rcases Nat.lt_or_ge x q with h3 | h3
  · have h4 := dvd_step h1 h.dvd h3
    have := h.le
    rw [Nat.min_eq_left (by omega)]
    exact hs.asc_low h4 (h.two x h1 h3)
  · have h4 : x - q = 0 := Nat.eq_zero_of_dvd_of_lt (Nat.dvd_sub h1 h.dvd) (by omega)
    rw [show x = q by omega, Nat.min_eq_right (by omega)]
    exact ha
theorem BlkMid.short {L : List β} {z q n : Nat} (h : BlkMid key L z q n) (hn : n ≤ q + z) : Asc key L q n := by
  rcases Nat.lt_or_ge q n with h1 | h1
  · have h2 := h.one q (Nat.dvd_trans (Nat.dvd_mul_left z 2) h.dvd) (Nat.le_refl _) h1
    rwa [Nat.min_eq_right (by omega)] at h2
  · have := h.le
    obtain rfl : q = n := by omega
    exact asc_nil _ _
theorem Blk.whole {L : List β} {z n : Nat} (h : Blk key L z n) (hz : n ≤ z) : Asc key L 0 n := by
  rcases Nat.eq_zero_or_pos n with rfl | h1
  · exact asc_nil _ _
  · have := h 0 (Nat.dvd_zero _) h1
    rwa [Nat.min_eq_right (by omega)] at this
/-- The first pass: pieces of z elements are sorted up to q. -/
structure BlkUp (key : β → Str) (L : List β) (z q n : Nat) : Prop where
  dvd : z ∣ q
  le : q ≤ n
  up : ∀ x, z ∣ x → x < q → Asc key L x (x + z)
theorem BlkUp.start (L : List β) (z n : Nat) : BlkUp key L z 0 n := ⟨Nat.dvd_zero _, Nat.zero_le _, fun _ _ hx => absurd hx (Nat.not_lt_zero _)⟩
theorem BlkUp.next {L L' : List β} {z q n : Nat} (h : BlkUp key L z q n) (hn : q + z ≤ n) (hs : Shuf L L' q (q + z)) (ha : Asc key L' q (q + z)) : BlkUp key L' z (q + z) n := by
  refine ⟨Nat.dvd_add h.dvd (Nat.dvd_refl _), hn, fun x h1 h2 => ?_⟩
  rcases Nat.lt_or_ge x q with h3 | h3
  · exact hs.asc_low (dvd_step h1 h.dvd h3) (h.up x h1 h3)
  · have h4 : x - q = 0 := Nat.eq_zero_of_dvd_of_lt (Nat.dvd_sub h1 h.dvd) (by omega)
    rw [show x = q by omega]
    exact ha
theorem BlkUp.last {L L' : List β} {z q n : Nat} (h : BlkUp key L z q n) (hn : n < q + z) (hs : Shuf L L' q n) (ha : Asc key L' q n) : Blk key L' z n := fun x h1 h2 => by
  rcases Nat.lt_or_ge x q with h3 | h3
  · have h4 := dvd_step h1 h.dvd h3
    have := h.le
    rw [Nat.min_eq_left (by omega)]
    exact hs.asc_low h4 (h.up x h1 h3)
  · have h4 : x - q = 0 := Nat.eq_zero_of_dvd_of_lt (Nat.dvd_sub h1 h.dvd) (by omega)
    rw [show x = q by omega, Nat.min_eq_right (by omega)]
    exact ha
/-- A row that is sorted whole, of distinct keys, is the one sorted row of its elements. -/
theorem asc_unique : ∀ {L L' : List β}, L.Perm L' → (L.Pairwise fun x y => ¬ key y < key x) → (L'.Pairwise fun x y => key x < key y) → L = L'
  | [], L', h, _, _ => (List.nil_perm.1 h).symm
  | x :: L, [], h, _, _ => absurd (List.perm_nil.1 h) (by simp)
  | x :: L, y :: L', h, h1, h2 => by
    obtain ⟨p1, p2⟩ := List.pairwise_cons.1 h1
    obtain ⟨q1, q2⟩ := List.pairwise_cons.1 h2
    have hxy : x = y := by
      rcases List.mem_cons.1 (h.mem_iff.1 (List.mem_cons_self)) with e | e
      · exact e
      · rcases List.mem_cons.1 (h.mem_iff.2 (List.mem_cons_self)) with e2 | e2
        · exact e2.symm
        · exact absurd (q1 x e) (p1 y e2)
    subst hxy
    exact congrArg _ (asc_unique (List.Perm.cons_inv h) p2 q2)
end Go.Pax
namespace Go.Pax
open Go.RowKit
theorem hasDir_iff {l : List ANode} {p : Str} : hasDir l p = true ↔ p = [] ∨ ∃ x ∈ l, x.kind = 0 ∧ x.path = p := by
  unfold hasDir
  simp [List.any_eq_true]
/-- A valid tree. -/
structure ValidL (l : List ANode) : Prop where
  node : ∀ x ∈ l, nodeE x = 0
  nodup : (l.map ANode.path).Nodup
  dir : ∀ x ∈ l, hasDir l (parentP x.path) = true
  cls : ∀ x ∈ l, ∀ y ∈ l, x.cls ≠ 0 → x.cls = y.cls → x.mode = y.mode ∧ x.data = y.data
theorem togE_zero {l : List ANode} {i : Nat} (h : togE l i = 0) : (∀ x ∈ l.take i, x.path ≠ (ndAt l i).path) ∧ hasDir l (parentP (ndAt l i).path) = true ∧ ((ndAt l i).cls ≠ 0 → ∀ m, (l.take i).find? (fun x => decide (x.cls = (ndAt l i).cls)) = some m → m.mode = (ndAt l i).mode ∧ m.data = (ndAt l i).data) := by
  unfold togE at h
  by_cases h1 : ((l.take i).any fun x => decide (x.path = (ndAt l i).path)) = true
  · rw [if_pos h1] at h; cases h
  rw [if_neg h1] at h
  by_cases h2 : hasDir l (parentP (ndAt l i).path) = false
  · rw [if_pos h2] at h; cases h
  rw [if_neg h2] at h
  refine ⟨fun x hx e => h1 (List.any_eq_true.2 ⟨x, hx, by simpa using e⟩), by simpa using h2, fun h3 m hm => ?_⟩
  rw [if_neg h3, hm] at h
  unfold togM at h
  simp only at h
  by_cases h4 : m.mode ≠ (ndAt l i).mode ∨ m.data ≠ (ndAt l i).data
  · rw [if_pos h4] at h; cases h
  · exact ⟨Classical.not_not.1 fun e => h4 (.inl e), Classical.not_not.1 fun e => h4 (.inr e)⟩
theorem togE_ok {l : List ANode} {i : Nat} (h1 : ∀ x ∈ l.take i, x.path ≠ (ndAt l i).path) (h2 : hasDir l (parentP (ndAt l i).path) = true) (h3 : ∀ m, (l.take i).find? (fun x => decide (x.cls = (ndAt l i).cls)) = some m → (ndAt l i).cls ≠ 0 → m.mode = (ndAt l i).mode ∧ m.data = (ndAt l i).data) : togE l i = 0 := by
  unfold togE
  rw [if_neg (by
    intro h
    obtain ⟨x, hx, e⟩ := List.any_eq_true.1 h
    exact h1 x hx (by simpa using e)), if_neg (by rw [h2]; exact Bool.noConfusion)]
  by_cases h4 : (ndAt l i).cls = 0
  · rw [if_pos h4]
  · rw [if_neg h4]
    cases hf : (l.take i).find? (fun x => decide (x.cls = (ndAt l i).cls)) with
    | none => rfl
    | some m =>
      obtain ⟨e1, e2⟩ := h3 m hf h4
      unfold togM
      simp [e1, e2]
theorem find_take {l : List ANode} {p : ANode → Bool} {i : Nat} {m : ANode} (h : (l.take i).find? p = some m) : l.find? p = some m := by
  conv => lhs; rw [← List.take_append_drop i l]
  rw [List.find?_append, h]
  rfl
theorem treeE_valid {l : List ANode} : (treeE l).2 = 0 ↔ ValidL l := by
  constructor
  · intro h
    obtain ⟨g1, g2, _⟩ := treeE_zero h
    have at_ : ∀ x ∈ l, ∃ j, ∃ hj : j < l.length, ndAt l j = x := fun x hx => by
      obtain ⟨j, hj, e⟩ := List.mem_iff_getElem.1 hx
      exact ⟨j, hj, by rw [ndAt_eq hj, e]⟩
    refine ⟨fun x hx => ?_, ?_, fun x hx => ?_, fun x hx y hy hc he => ?_⟩
    · obtain ⟨j, hj, rfl⟩ := at_ x hx
      exact g1 j hj
    · rw [List.nodup_iff_pairwise_ne, List.pairwise_map, List.pairwise_iff_getElem]
      intro i j hi hj hij e
      have h1 := (togE_zero (g2 j hj)).1 l[i] (by rw [List.mem_take_iff_getElem]; exact ⟨i, by omega, rfl⟩)
      rw [ndAt_eq hj] at h1
      exact h1 e
    · obtain ⟨j, hj, rfl⟩ := at_ x hx
      exact (togE_zero (g2 j hj)).2.1
    · have key : ∀ z ∈ l, z.cls = x.cls → ∃ f, l.find? (fun x' => decide (x'.cls = x.cls)) = some f ∧ f.mode = z.mode ∧ f.data = z.data := fun z hz hzc => by
        obtain ⟨j, hj, rfl⟩ := at_ z hz
        have h1 := (togE_zero (g2 j hj)).2.2 (by rw [hzc]; exact hc)
        rw [hzc] at h1
        cases hf : (l.take j).find? (fun x' => decide (x'.cls = x.cls)) with
        | some f => exact ⟨f, find_take hf, h1 f hf⟩
        | none =>
          refine ⟨ndAt l j, ?_, rfl, rfl⟩
          have hs : l = l.take j ++ l[j] :: l.drop (j + 1) := by rw [List.getElem_cons_drop, List.take_append_drop]
          conv => lhs; rw [hs]
          rw [ndAt_eq hj] at hzc
          rw [List.find?_append, hf, Option.none_or, List.find?_cons_of_pos (by simpa using hzc), ndAt_eq hj]
      obtain ⟨f, hf, f1, f2⟩ := key x hx rfl
      obtain ⟨g, hg, k1, k2⟩ := key y hy he.symm
      rw [hf] at hg
      injection hg with hg
      subst hg
      exact ⟨f1.symm.trans k1, f2.symm.trans k2⟩
  · intro h
    rw [treeE_ok (fun j hj => by rw [ndAt_eq hj]; exact h.node _ (List.getElem_mem hj)) (fun j hj => ?_)]
    refine togE_ok (fun x hx e => ?_) (by rw [ndAt_eq hj]; exact h.dir _ (List.getElem_mem hj)) (fun m hm hc => ?_)
    · obtain ⟨i, hi, rfl⟩ := List.mem_take_iff_getElem.1 hx
      have h1 := h.nodup
      rw [List.nodup_iff_pairwise_ne, List.pairwise_map, List.pairwise_iff_getElem] at h1
      rw [ndAt_eq hj] at e
      exact h1 i j (by omega) hj (by omega) e
    · have hml : m ∈ l := List.mem_of_mem_take (List.mem_of_find?_eq_some hm)
      have hmc : m.cls = (ndAt l j).cls := by simpa using List.find?_some hm
      rw [ndAt_eq hj] at hc hmc ⊢
      exact h.cls m hml _ (List.getElem_mem hj) (by rw [hmc]; exact hc) hmc
theorem ValidL.perm {l m : List ANode} (h : ValidL l) (hp : l.Perm m) : ValidL m := by
  refine ⟨fun x hx => h.node x (hp.mem_iff.2 hx), (hp.map ANode.path).nodup_iff.1 h.nodup, fun x hx => ?_, fun x hx y hy => h.cls x (hp.mem_iff.2 hx) y (hp.mem_iff.2 hy)⟩
  have h1 := hasDir_iff.1 (h.dir x (hp.mem_iff.2 hx))
  refine hasDir_iff.2 (h1.imp id fun ⟨y, hy, e⟩ => ⟨y, hp.mem_iff.1 hy, e⟩)
theorem strict_of {M : List ANode} (h : M.Pairwise fun x y => ¬ y.path < x.path) (hn : (M.map ANode.path).Nodup) : M.Pairwise fun x y => x.path < y.path := by
  have h2 := List.pairwise_map.1 (List.nodup_iff_pairwise_ne.1 hn)
  exact (h.and h2).imp fun ⟨h3, h4⟩ => slt_total h3 (fun e => h4 e.symm)
theorem cntA_perm {l m : List ANode} (hp : l.Perm m) : cntA l = cntA m := by
  funext c
  unfold cntA
  rw [(hp.filter _).length_eq]
theorem canon_unique {l m M N : List ANode} (hp : l.Perm m) (hn : (l.map ANode.path).Nodup) (hM : M.Perm l) (hMs : M.Pairwise fun x y => ¬ y.path < x.path) (hN : N.Perm m) (hNs : N.Pairwise fun x y => ¬ y.path < x.path) : M = N :=
  asc_unique (key := ANode.path) ((hM.trans hp).trans hN.symm) hMs (strict_of hNs (((hN.trans hp.symm).map ANode.path).nodup_iff.2 hn))
end Go.Pax
namespace Go.Proofs.YtfhiioopimmahaaGreatDoor
open Go.RowKit Go.Pax Go.Shelf
/-- File systems that are alike but for the blocks in which their files lie. -/
structure Twin (σ τ : Fs) : Prop where
  next : σ.next = τ.next
  step : σ.step = τ.step
  sim : Sim σ τ
  node : ∀ p b c, lkF σ.files p = some b → lkF τ.files p = some c → σ.node b = τ.node c
theorem Twin.lists {σ τ : Fs} (h : Twin σ τ) (i j : Nat) : Twin (ls σ i) (ls τ j) := ⟨h.next, h.step, (ls_like σ i).sim (ls_like τ j) h.sim, h.node⟩
theorem twin_new (a b : Int) (r s : List Int) (x y : Nat) : Twin (newFs a b r x) (newFs a b s y) := by
  refine ⟨rfl, rfl, sim_new a b a b r s x y, fun p b' c hb hc => ?_⟩
  simp only [newFs, lkF] at hb hc
  split at hb
  · rename_i e
    rw [if_pos e] at hc
    injection hb with hb
    injection hc with hc
    subst hb hc
    simp [newFs]
  · cases hb
theorem Twin.stat {σ τ : Fs} (h : Twin σ τ) (p : Str) : lstatV σ p = lstatV τ p := by
  unfold lstatV
  cases hb : lkF σ.files p with
  | none => rw [(h.sim.at_ p).1 hb]
  | some b =>
    cases hc : lkF τ.files p with
    | none => rw [(h.sim.at_ p).2 hc] at hb; cases hb
    | some c => simp only; rw [h.node p b c hb hc]
theorem Twin.paths {σ τ : Fs} (h : Twin σ τ) {V : List Str} (hV : PathsOf σ V) : PathsOf τ V := ⟨hV.sorted, fun q => (hV.mem q).trans (by
  have h1 := h.sim.at_ q
  refine and_congr_right fun _ => ⟨fun ⟨b, hb⟩ => ?_, fun ⟨b, hb⟩ => ?_⟩
  · cases hc : lkF τ.files q with
    | none => rw [h1.2 hc] at hb; cases hb
    | some c => exact ⟨c, rfl⟩
  · cases hc : lkF σ.files q with
    | none => rw [h1.1 hc] at hb; cases hb
    | some c => exact ⟨c, rfl⟩)⟩
theorem next_twin {σ σ' τ τ' : Fs} {a : AAct} (h : Twin σ τ) (ht : Tidy σ) (ha : 0 ≤ a.kind ∧ a.kind ≤ 4) (h0 : doE σ a = 0) (hN : Next σ (Fresh σ) a σ') (hM : Next τ (Fresh τ) a τ') : Twin σ' τ' := by
  have hs := (next_two h.sim ht h0 hN hM).1
  have h0' : doE τ a = 0 := by rw [← do_sim h.sim]; exact h0
  unfold Next at hN hM
  unfold doE at h0 h0'
  by_cases h3 : 0 ≤ a.kind ∧ a.kind ≤ 3
  · rw [if_pos h3] at hN hM h0 h0'
    obtain ⟨pb, b, hpb, hb, rfl⟩ := hN
    obtain ⟨pc, c, hpc, hc, rfl⟩ := hM
    have E1 := ent_made (make_parts h0).1 (make_parts h0).2 hpb hb (nd := newNd σ (mkK a) (mkM a) (mkT a) (mkD a)) rfl
    have E2 := ent_made (make_parts h0').1 (make_parts h0').2 hpc hc (nd := newNd τ (mkK a) (mkM a) (mkT a) (mkD a)) rfl
    have hnd : newNd σ (mkK a) (mkM a) (mkT a) (mkD a) = newNd τ (mkK a) (mkM a) (mkT a) (mkD a) := by unfold newNd; rw [h.next]
    rw [← hnd] at hs E2 ⊢
    generalize newNd σ (mkK a) (mkM a) (mkT a) (mkD a) = nd at *
    refine ⟨?_, h.step, hs, fun q x y hx hy => ?_⟩
    · show σ.next + σ.step = τ.next + τ.step
      rw [h.next, h.step]
    have hp1 : lkF (made σ a.path nd pb b).files a.path = some b := by rw [E1.lk, if_pos rfl]
    have hp2 : lkF (made τ a.path nd pc c).files a.path = some c := by rw [E2.lk, if_pos rfl]
    have n1 : ∀ i, (made σ a.path nd pb b).node i = if i = pb then addName (if pb = b then nd else σ.node pb) (baseP a.path) else if i = b then nd else σ.node i := fun i => rfl
    have n2 : ∀ i, (made τ a.path nd pc c).node i = if i = pc then addName (if pc = c then nd else τ.node pc) (baseP a.path) else if i = c then nd else τ.node i := fun i => rfl
    have e1 := hs.same q (parentP a.path) x y pb pc hx hy (E1.old hpb) (E2.old hpc)
    have e2 := hs.same q a.path x y b c hx hy hp1 hp2
    rw [n1, n2]
    by_cases h5 : x = pb
    · rw [if_pos h5, if_pos (e1.1 h5), if_neg (Ne.symm E1.ne), if_neg (Ne.symm E2.ne), h.node _ _ _ hpb hpc]
    · rw [if_neg h5, if_neg (fun e => h5 (e1.2 e))]
      by_cases h6 : x = b
      · rw [if_pos h6, if_pos (e2.1 h6)]
      · rw [if_neg h6, if_neg (fun e => h6 (e2.2 e))]
        rcases E1.cases hx with ⟨_, h7⟩ | ⟨_, h7⟩
        · exact absurd h7 h6
        · rcases E2.cases hy with ⟨_, h8⟩ | ⟨_, h8⟩
          · exact absurd (e2.2 h8) h6
          · exact h.node q x y h7 h8
  · have h4 : a.kind = 4 := by omega
    rw [if_neg h3, if_pos h4] at hN hM h0 h0'
    obtain ⟨pb, b, hpb, hb, rfl⟩ := hN
    obtain ⟨pc, c, hpc, hc, rfl⟩ := hM
    obtain ⟨g1, g2, g3⟩ := link_parts h0
    obtain ⟨k1, k2, k3⟩ := link_parts h0'
    have E1 := ent_linked g1 g2 hpb hb (g3 b hb)
    have E2 := ent_linked k1 k2 hpc hc (k3 c hc)
    refine ⟨h.next, h.step, hs, fun q x y hx hy => ?_⟩
    have hp1 : lkF (linked σ a.path pb b).files a.path = some b := by rw [E1.lk, if_pos rfl]
    have hp2 : lkF (linked τ a.path pc c).files a.path = some c := by rw [E2.lk, if_pos rfl]
    have n1 : ∀ i, (linked σ a.path pb b).node i = if i = pb then addName (if pb = b then { σ.node b with links := (σ.node b).links + 1 } else σ.node pb) (baseP a.path) else if i = b then { σ.node b with links := (σ.node b).links + 1 } else σ.node i := fun i => rfl
    have n2 : ∀ i, (linked τ a.path pc c).node i = if i = pc then addName (if pc = c then { τ.node c with links := (τ.node c).links + 1 } else τ.node pc) (baseP a.path) else if i = c then { τ.node c with links := (τ.node c).links + 1 } else τ.node i := fun i => rfl
    have e1 := hs.same q (parentP a.path) x y pb pc hx hy (E1.old hpb) (E2.old hpc)
    have e2 := hs.same q a.path x y b c hx hy hp1 hp2
    rw [n1, n2]
    by_cases h5 : x = pb
    · rw [if_pos h5, if_pos (e1.1 h5), if_neg (Ne.symm E1.ne), if_neg (Ne.symm E2.ne), h.node _ _ _ hpb hpc]
    · rw [if_neg h5, if_neg (fun e => h5 (e1.2 e))]
      by_cases h6 : x = b
      · rw [if_pos h6, if_pos (e2.1 h6), h.node _ _ _ hb hc]
      · rw [if_neg h6, if_neg (fun e => h6 (e2.2 e))]
        rcases E1.cases hx with ⟨_, h7⟩ | ⟨_, h7⟩
        · exact absurd h7 h6
        · rcases E2.cases hy with ⟨_, h8⟩ | ⟨_, h8⟩
          · exact absurd (e2.2 h8) h6
          · exact h.node q x y h7 h8
theorem actAt_kind (C : List ANode) (k : Nat) : 0 ≤ (actAt C k).kind ∧ (actAt C k).kind ≤ 4 := by
  unfold actAt nodeAct fileAct
  split
  · simp
  · split
    · split
      · split <;> simp
      · simp
    · simp
theorem RunOk.tidy {σ σ' : Fs} {l : List AAct} (h : RunOk σ l σ') (ht : Tidy σ) : Tidy σ' := by
  induction h with
  | nil => exact ht
  | snoc _ h0 hN ih => exact next_tidy ih h0 hN
theorem RunOk.rooted {σ σ' : Fs} {l : List AAct} (h : RunOk σ l σ') {n : Nat} (ht : Rooted n σ) : Rooted (n + l.length) σ' := by
  induction h with
  | nil => exact ht
  | snoc _ h0 hN ih => exact (next_rooted ih h0 hN).mono (by simp; omega)
theorem RunOk.last {σ σ' : Fs} {l : List AAct} {a : AAct} (h : RunOk σ (l ++ [a]) σ') : ∃ σ1, RunOk σ l σ1 ∧ doE σ1 a = 0 ∧ Next σ1 (Fresh σ1) a σ' := by
  generalize hL : l ++ [a] = L at h
  cases h with
  | nil => simp at hL
  | snoc h1 h2 h3 =>
    obtain ⟨rfl, h4⟩ := List.append_inj' hL rfl
    obtain rfl : a = _ := by simpa using h4
    exact ⟨_, h1, h2, h3⟩
theorem RunOk.none {σ σ' : Fs} {l : List AAct} (h : RunOk σ l σ') (hl : l = []) : σ' = σ := by
  cases h with
  | nil => rfl
  | snoc _ _ _ => simp at hl
theorem RunOk.at {σ σ' : Fs} {C : List ANode} {i j : Nat} (h : RunOk σ ((List.range j).map (actAt C)) σ') (hij : i < j) : ∃ σ1, RunOk σ ((List.range i).map (actAt C)) σ1 ∧ doE σ1 (actAt C i) = 0 := by
  induction j generalizing σ' with
  | zero => omega
  | succ j ih =>
    rw [List.range_succ, List.map_append] at h
    obtain ⟨σ1, h1, h2, _⟩ := h.last
    by_cases e : i = j
    · subst e; exact ⟨σ1, h1, h2⟩
    · exact ih h1 (by omega)
theorem RunOk.twin {σ τ : Fs} {C : List ANode} (ht : Twin σ τ) (hd : Tidy σ) : ∀ {j : Nat} {σ' τ' : Fs}, RunOk σ ((List.range j).map (actAt C)) σ' → RunOk τ ((List.range j).map (actAt C)) τ' → Twin σ' τ' := by
  intro j
  induction j with
  | zero =>
    intro σ' τ' h k
    rw [h.none rfl, k.none rfl]
    exact ht
  | succ j ih =>
    intro σ' τ' h k
    rw [List.range_succ, List.map_append] at h k
    obtain ⟨σ1, h1, h2, h3⟩ := h.last
    obtain ⟨τ1, k1, k2, k3⟩ := k.last
    exact next_twin (ih h1 k1) (h1.tidy hd) (actAt_kind C j) h2 h3 k3
/-- Extraction of the same nodes in another order. -/
theorem ext_twin {σ τ σ' τ' : Fs} {l m : List ANode} {E F : Int} (hp : l.Perm m) (ht : Twin σ τ) (hd : Tidy σ) (hr : rootNames σ = []) (hr2 : rootNames τ = []) (h : ExtBy σ l E σ') (k : ExtBy τ m F τ') : (E = 0 ↔ F = 0) ∧ Twin σ' τ' := by
  have hlen := hp.length_eq
  rcases h with ⟨h1, _⟩ | ⟨_, h1, rfl, rfl⟩ | ⟨_, h1, M, hM, hMs, j, hj, hR, hE⟩
  · exact absurd hr h1
  · have h2 : (treeE m).2 ≠ 0 := fun e => h1 (treeE_valid.2 ((treeE_valid.1 e).perm hp.symm))
    rcases k with ⟨k1, _⟩ | ⟨_, k1, rfl, rfl⟩ | ⟨_, k1, _⟩
    · exact absurd hr2 k1
    · exact ⟨⟨fun e => absurd e h1, fun e => absurd e k1⟩, ht.lists 1 1⟩
    · exact absurd k1 h2
  · have hv := treeE_valid.1 h1
    have h2 : (treeE m).2 = 0 := treeE_valid.2 (hv.perm hp)
    rcases k with ⟨k1, _⟩ | ⟨_, k1, _⟩ | ⟨_, _, N, hN, hNs, i, hi, kR, kE⟩
    · exact absurd hr2 k1
    · exact absurd h2 k1
    · obtain rfl := canon_unique hp hv.nodup hM hMs hN hNs
      rw [← cntA_perm hp] at kR kE
      generalize (canonS (cntA l) M).2 = C at *
      have ht1 := ht.lists 1 1
      have hd1 := (ls_like σ 1).tidy hd
      have hij : i = j := by
        rcases Nat.lt_trichotomy i j with h3 | h3 | h3
        · obtain ⟨σ1, r1, r2⟩ := hR.at h3
          have h4 := RunOk.twin ht1 hd1 r1 kR
          rcases kE with ⟨e, _⟩ | ⟨_, e1, e2⟩
          · omega
          · rw [do_sim h4.sim] at r2
            exact absurd (e2.trans r2) e1
        · exact h3
        · obtain ⟨τ1, r1, r2⟩ := kR.at h3
          have h4 := RunOk.twin ht1 hd1 hR r1
          rcases hE with ⟨e, _⟩ | ⟨_, e1, e2⟩
          · omega
          · rw [do_sim h4.sim] at e2
            exact absurd (e2.trans r2) e1
      subst hij
      have h4 := RunOk.twin ht1 hd1 hR kR
      refine ⟨?_, h4⟩
      rcases hE with ⟨e, e0⟩ | ⟨e, e1, e2⟩
      · rcases kE with ⟨_, f0⟩ | ⟨f, _, _⟩
        · exact ⟨fun _ => f0, fun _ => e0⟩
        · omega
      · rcases kE with ⟨f, _⟩ | ⟨_, f1, _⟩
        · omega
        · exact ⟨fun e0 => absurd e0 e1, fun f0 => absurd f0 f1⟩
/-- What is left of extraction. -/
theorem ext_inv {σ σ' : Fs} {l : List ANode} {E : Int} {n N : Nat} (h : ExtBy σ l E σ') (hi : σ.In n) (hd : Tidy σ) (hr : Rooted N σ) : σ'.In (n + 1 + 2 * l.length) ∧ Tidy σ' ∧ Rooted (N + l.length) σ' := by
  have h1 := (ls_like σ 1).tidy hd
  have h2 := (ls_like σ 1).rooted hr
  have h3 := ls_in hi 1
  rcases h with ⟨_, _, rfl⟩ | ⟨_, _, _, rfl⟩ | ⟨_, _, M, _, _, j, hj, hR, _⟩
  · exact ⟨h3.mono (by omega), h1, h2.mono (by omega)⟩
  · exact ⟨h3.mono (by omega), h1, h2.mono (by omega)⟩
  · have h4 := hR.inv h3
    have h5 := hR.rooted h2
    rw [List.length_map, List.length_range] at h4 h5
    exact ⟨h4.mono (by omega), hR.tidy h1, h5.mono (by omega)⟩
end Go.Proofs.YtfhiioopimmahaaGreatDoor
namespace Go.Proofs.YtfhiioopimmahaaGreatDoor
open Go.RowKit Go.Pax Go.Shelf
theorem aliveZ_make (r : Nat) : makeE (ls (newFs 1 1 [] r) 1) pA 1 0 [] = 0 := by
  have h1 : checkP pA = 0 := by decide
  have h2 : parentP pA = [] := by decide
  unfold makeE placeE
  rw [h1, h2]
  simp [ls, newFs, lkF, pA, rootNd]
theorem aliveZ_parent {r pb : Nat} (h : lkF (ls (newFs 1 1 [] r) 1).files (parentP pA) = some pb) : pb = r := by
  have h2 : parentP pA = [] := by decide
  rw [h2] at h
  simp [ls, newFs, lkF] at h
  exact h.symm
def aliveFz (r b : Nat) : Fs := made (ls (newFs 1 1 [] r) 1) pA (newNd (ls (newFs 1 1 [] r) 1) 1 0 [] []) r b
theorem aliveZ_link {r b : Nat} (hb : r ≠ b) : linkE (aliveFz r b) pB pA = 0 ∧ lkF (aliveFz r b).files (parentP pB) = some r ∧ lkF (aliveFz r b).files pA = some b := by
  have h1 : checkP pB = 0 := by decide
  have h2 : parentP pB = [] := by decide
  have h3 : lkF (aliveFz r b).files (parentP pB) = some r := by rw [h2]; rfl
  have h4 : lkF (aliveFz r b).files pA = some b := rfl
  have h5 : lkF (aliveFz r b).files pB = none := rfl
  refine ⟨?_, h3, h4⟩
  have hn : ((aliveFz r b).node r).kind = 0 := by
    show (if r = r then addName (if r = b then _ else rootNd 1) (baseP pA) else _).kind = 0
    rw [if_pos rfl, if_neg hb]
    rfl
  have hb2 : ((aliveFz r b).node b).kind = 1 := by
    show (if b = r then _ else if b = b then newNd (ls (newFs 1 1 [] r) 1) 1 0 [] [] else _).kind = 1
    rw [if_neg (Ne.symm hb), if_pos rfl]
    rfl
  unfold linkE placeE
  rw [h1, h3, h4, h5]
  simp [hn, hb2]
theorem aliveZ_stat {r b : Nat} (hb : r ≠ b) : lstatV (linked (aliveFz r b) pB r b) pA = .tuple #[.agg #[.int .i64 1, .int .i64 0, .int .i64 2, .int .i64 2, .int .i64 0, .string ⟨#[]⟩, .int .i64 0, .int .i64 0], .int .i64 0] ∧
    lstatV (linked (aliveFz r b) pB r b) pB = .tuple #[.agg #[.int .i64 1, .int .i64 0, .int .i64 2, .int .i64 2, .int .i64 0, .string ⟨#[]⟩, .int .i64 0, .int .i64 0], .int .i64 0] := by
  have h1 : lkF (linked (aliveFz r b) pB r b).files pA = some b := rfl
  have h2 : lkF (linked (aliveFz r b) pB r b).files pB = some b := rfl
  have hn : (linked (aliveFz r b) pB r b).node b = { newNd (ls (newFs 1 1 [] r) 1) 1 0 [] [] with links := 2 } := by
    show (if b = r then _ else if b = b then ({ (aliveFz r b).node b with links := ((aliveFz r b).node b).links + 1 } : Nd) else _) = _
    rw [if_neg (Ne.symm hb), if_pos rfl]
    have : (aliveFz r b).node b = newNd (ls (newFs 1 1 [] r) 1) 1 0 [] [] := by
      show (if b = r then _ else if b = b then newNd (ls (newFs 1 1 [] r) 1) 1 0 [] [] else _) = _
      rw [if_neg (Ne.symm hb), if_pos rfl]
    rw [this]
    rfl
  unfold lstatV
  rw [h1, h2]
  simp only
  rw [hn]
  exact ⟨rfl, rfl⟩
theorem aliveZ_next {r : Nat} {σ' : Fs} (h : Next (ls (newFs 1 1 [] r) 1) (Fresh (ls (newFs 1 1 [] r) 1)) ⟨1, pA, 0, [], []⟩ σ') : ∃ b, r ≠ b ∧ σ' = aliveFz r b := by
  unfold Next at h
  rw [if_pos (by simp)] at h
  obtain ⟨pb, b, hpb, hb, rfl⟩ := h
  obtain rfl := aliveZ_parent hpb
  refine ⟨b, ?_, rfl⟩
  exact hb [] pb (by simp [ls, newFs])
theorem aliveZ_next2 {r b : Nat} {σ' : Fs} (hb : r ≠ b) (h : Next (aliveFz r b) (Fresh (aliveFz r b)) ⟨4, pB, 0, [], pA⟩ σ') : σ' = linked (aliveFz r b) pB r b := by
  unfold Next at h
  obtain ⟨pb, b', hpb, hb', rfl⟩ := h
  obtain ⟨_, h2, h3⟩ := aliveZ_link hb
  have e1 := h2.symm.trans hpb
  have e2 := h3.symm.trans hb'
  cases e1; cases e2; rfl
def aliveInfz : Value := .agg #[.int .i64 1, .int .i64 0, .int .i64 2, .int .i64 2, .int .i64 0, .string ⟨#[]⟩, .int .i64 0, .int .i64 0]
def treeZ : List ANode := [⟨1, pB, 0, [], [], 1⟩, ⟨1, pA, 0, [], [], 1⟩]
theorem treeZ_ok : (treeE treeZ).2 = 0 := by decide
theorem treeZ_canon {M : List ANode} (hM : M.Perm treeZ) (hs : M.Pairwise fun x y => ¬ y.path < x.path) : (canonS (cntA treeZ) M).2 = [⟨1, pA, 0, [], [], 1⟩, ⟨1, pB, 0, [], [], 1⟩] := by
  have h1 : M = [⟨1, pA, 0, [], [], 1⟩, ⟨1, pB, 0, [], [], 1⟩] := asc_unique (key := ANode.path) (hM.trans (List.Perm.swap _ _ _)) hs (by decide)
  rw [h1]
  rfl
theorem treeZ_acts : actAt [⟨1, pA, 0, [], [], 1⟩, ⟨1, pB, 0, [], [], 1⟩] 0 = ⟨1, pA, 0, [], []⟩ ∧ actAt [⟨1, pA, 0, [], [], 1⟩, ⟨1, pB, 0, [], [], 1⟩] 1 = ⟨4, pB, 0, [], pA⟩ := ⟨rfl, rfl⟩
/-- What extraction of the example leaves. -/
theorem extZ {r : Nat} {E : Int} {σ' : Fs} (h : ExtBy (newFs 1 1 [] r) treeZ E σ') : E = 0 ∧ ∃ b, r ≠ b ∧ σ' = linked (aliveFz r b) pB r b := by
  have hr : rootNames (newFs 1 1 [] r) = [] := by simp [rootNames, newFs, lkF, rootNd]
  rcases h with ⟨h1, _⟩ | ⟨_, h1, _⟩ | ⟨_, _, M, hM, hMs, j, hj, hR, hE⟩
  · exact absurd hr h1
  · exact absurd treeZ_ok h1
  · rw [treeZ_canon hM hMs] at hR hE
    have d1 : doE (ls (newFs 1 1 [] r) 1) ⟨1, pA, 0, [], []⟩ = 0 := by
      unfold doE
      rw [if_pos (by simp)]
      exact aliveZ_make r
    have first : ∀ {σ1 : Fs}, RunOk (ls (newFs 1 1 [] r) 1) ((List.range 1).map (actAt [⟨1, pA, 0, [], [], 1⟩, ⟨1, pB, 0, [], [], 1⟩])) σ1 → ∃ b, r ≠ b ∧ σ1 = aliveFz r b := fun {σ1} h => by
      have h' : RunOk (ls (newFs 1 1 [] r) 1) ([] ++ [⟨1, pA, 0, [], []⟩]) σ1 := h
      obtain ⟨σ0, h2, _, h4⟩ := h'.last
      rw [h2.none rfl] at h4
      exact aliveZ_next h4
    have d2 : ∀ {b : Nat}, r ≠ b → doE (aliveFz r b) ⟨4, pB, 0, [], pA⟩ = 0 := fun {b} hb => by
      unfold doE
      rw [if_neg (by simp), if_pos rfl]
      exact (aliveZ_link hb).1
    match j, hj with
    | 0, _ =>
      rcases hE with ⟨h1, _⟩ | ⟨_, h1, h2⟩
      · cases h1
      · rw [hR.none rfl] at h2
        exact absurd (h2.trans d1) h1
    | 1, _ =>
      obtain ⟨b, hb, rfl⟩ := first hR
      rcases hE with ⟨h1, _⟩ | ⟨_, h1, h2⟩
      · cases h1
      · exact absurd (h2.trans (d2 hb)) h1
    | 2, _ =>
      have h' : RunOk (ls (newFs 1 1 [] r) 1) ((List.range 1).map (actAt [⟨1, pA, 0, [], [], 1⟩, ⟨1, pB, 0, [], [], 1⟩]) ++ [⟨4, pB, 0, [], pA⟩]) σ' := hR
      obtain ⟨σ1, h2, _, h4⟩ := h'.last
      obtain ⟨b, hb, rfl⟩ := first h2
      rcases hE with ⟨_, h1⟩ | ⟨h1, _⟩
      · exact ⟨h1, b, hb, aliveZ_next2 hb h4⟩
      · simp [treeZ] at h1
end Go.Proofs.YtfhiioopimmahaaGreatDoor
