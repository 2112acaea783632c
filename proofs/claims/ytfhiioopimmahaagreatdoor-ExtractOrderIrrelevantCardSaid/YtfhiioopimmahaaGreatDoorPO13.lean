/- fit.Check: entries; tree.check: a node by itself. walk.visit. Printed by wip/gen/genwvis.py. walk.Paths. walk.Walk: the function that is called at every file. tree.Canon: the comparison of two nodes. The cells of a node of a row. -/
import Derived.Test.YtfhiioopimmahaaGreatDoorPO02
import Derived.Test.YtfhiioopimmahaaGreatDoorPO10
namespace Go.Pax
open Go.RowKit
structure AEntry where
  kind : Int
  path : Str
  mode : Int
  target : Str
  size : Int
def targetE (k : Int) (t : Str) : Int := if k = 3 then checkP t else if k = 2 then checkV t else if t = [] then 0 else 2
def sizeE (k s : Int) : Int := if k = 1 then (if s < 0 ∨ 1099511627776 < s then 3 else 0) else if s = 0 then 0 else 2
def fitE (e : AEntry) : Int := if e.kind < 0 ∨ 4 ≤ e.kind then 8 else if checkP e.path ≠ 0 then checkP e.path else if e.mode < 0 ∨ 4095 < e.mode ∨ (e.kind = 2 ∧ e.mode ≠ 0) then 16 else if targetE e.kind e.target ≠ 0 then targetE e.kind e.target else sizeE e.kind e.size
def entV (e : AEntry) : Value := .agg #[.int .i64 e.kind, .string (ba e.path), .int .i64 e.mode, .string (ba e.target), .int .i64 e.size]
/-- The entry of a node. -/
def entA (x : ANode) : AEntry := ⟨x.kind, x.path, x.mode, x.target, if x.kind = 1 then x.data.length else 0⟩
def nodeE (x : ANode) : Int := if ¬ (x.kind = 0 ∨ x.kind = 1 ∨ x.kind = 2) then 8 else if fitE (entA x) ≠ 0 then fitE (entA x) else if x.kind ≠ 1 ∧ x.data ≠ [] then 2 else if x.cls < 0 ∨ (x.kind ≠ 1 ∧ x.cls ≠ 0) then 15 else 0
end Go.Pax
namespace Go.Proofs.YtfhiioopimmahaaGreatDoor
open Go.RowKit Go.Pax Go.Shelf
set_option maxHeartbeats 4000000 in
theorem checkTarget (w : World) (k m s : Int) (p : ByteArray) (t : Str) (hk : KeysAt w) (ht : t.length ≤ 140737488355328) :
    Calls Tryz.prog 122 #[.agg #[.int .i64 k, .string p, .int .i64 m, .string (ba t), .int .i64 s]] w fun e w' => e = .returned (.int .i64 (targetE k t)) ∧ Chg [] w w' := by
  have hk1 : Chg [] w (w.alloc (.cells #[.int .i64 k, .string p, .int .i64 m, .string (ba t), .int .i64 s] 171)) := (Chg.refl _ _).alloc _
  have e1 := heap_alloc_new w (.cells #[.int .i64 k, .string p, .int .i64 m, .string (ba t), .int .i64 s] 171)
  have c0 := cell_heap e1 0 (v := .int .i64 k) rfl
  have c3 := cell_heap e1 3 (v := .string (ba t)) rfl
  have HC := Lib.hid (fun W => pathCheck t W)
  have HR := Lib.hid (fun W (kw : Chg [] w W) => checkRec W t (hk.chg kw (by simp)) ht)
  have HK1 := Lib.hid hk1
  have HT := Lib.hid (show t = [] ∧ ba t = ⟨#[]⟩ ∨ t ≠ [] ∧ (ba t).toList.isEmpty = false from by
    by_cases he : t = []
    · exact .inl ⟨he, by rw [he]; rfl⟩
    · exact .inr ⟨he, by rw [ba_tl]; simpa using he⟩)
  clear hk1 e1 hk ht
  obtain ⟨R, hR⟩ : ∃ R, R = targetE k t := ⟨_, rfl⟩
  rw [← hR]
  have HRE := Lib.hid hR
  clear hR
  go_enter Tryz.func122, Tryz.ntmps122
  go_upto_region 1 with (fail)
  generalize w.alloc (.cells #[.int .i64 k, .string p, .int .i64 m, .string (ba t), .int .i64 s] 171) = W1 at *
  generalize w.heap.size = g1 at *
  by_cases h3 : k = 3
  · subst h3
    go_wp2_with (go_at_call 59; refine (HC.out _).mono ?_; rintro e w2 ⟨rfl, hw2⟩; have HW2 := Lib.hid hw2; clear hw2)
    go_ret
    exact ⟨by rw [HRE.out]; simp [targetE], HK1.out.trans HW2.out⟩
  · by_cases h2 : k = 2
    · subst h2
      go_wp2_with (go_at_call 90; refine (HR.out _ HK1.out).mono ?_; rintro e w2 ⟨rfl, hw2⟩; have HW2 := Lib.hid hw2; clear hw2)
      go_ret
      exact ⟨by rw [HRE.out]; simp [targetE], HK1.out.trans HW2.out⟩
    · rcases HT.out with ⟨ht, hb⟩ | ⟨ht, hb⟩
      · rw [hb] at c3
        go_wp2_with fail
        go_ret
        exact ⟨by rw [HRE.out]; simp [targetE, h3, h2, ht], HK1.out⟩
      · generalize ba t = T at *
        go_wp2_with fail
        go_ret
        exact ⟨by rw [HRE.out]; simp [targetE, h3, h2, ht], HK1.out⟩
set_option maxHeartbeats 4000000 in
theorem checkSize (w : World) (k m s : Int) (p t : ByteArray) :
    Calls Tryz.prog 123 #[.agg #[.int .i64 k, .string p, .int .i64 m, .string t, .int .i64 s]] w fun e w' => e = .returned (.int .i64 (sizeE k s)) ∧ Chg [] w w' := by
  have hk1 : Chg [] w (w.alloc (.cells #[.int .i64 k, .string p, .int .i64 m, .string t, .int .i64 s] 171)) := (Chg.refl _ _).alloc _
  have e1 := heap_alloc_new w (.cells #[.int .i64 k, .string p, .int .i64 m, .string t, .int .i64 s] 171)
  have c0 := cell_heap e1 0 (v := .int .i64 k) rfl
  have c4 := cell_heap e1 4 (v := .int .i64 s) rfl
  have HK1 := Lib.hid hk1
  clear hk1 e1
  obtain ⟨R, hR⟩ : ∃ R, R = sizeE k s := ⟨_, rfl⟩
  rw [← hR]
  have HRE := Lib.hid hR
  clear hR
  go_enter Tryz.func123, Tryz.ntmps123
  go_upto_region 1 with (fail)
  generalize w.alloc (.cells #[.int .i64 k, .string p, .int .i64 m, .string t, .int .i64 s] 171) = W1 at *
  generalize w.heap.size = g1 at *
  by_cases h1 : k = 1
  · subst h1
    by_cases h2 : s < 0
    · go_wp2_with fail
      go_ret
      exact ⟨by rw [HRE.out]; unfold sizeE; simp_all; try omega, HK1.out⟩
    · by_cases h3 : 1099511627776 < s
      · go_wp2_with fail
        go_ret
        exact ⟨by rw [HRE.out]; unfold sizeE; simp_all; try omega, HK1.out⟩
      · go_wp2_with fail
        go_ret
        exact ⟨by rw [HRE.out]; unfold sizeE; simp_all; try omega, HK1.out⟩
  · have hkb : (k != 1) = true := by simpa using h1
    by_cases h2 : s = 0
    · subst h2
      go_wp2_with fail
      go_ret
      exact ⟨by rw [HRE.out]; unfold sizeE; simp_all; try omega, HK1.out⟩
    · have hsb : (s != 0) = true := by simpa using h2
      go_wp2_with fail
      go_ret
      exact ⟨by rw [HRE.out]; unfold sizeE; simp_all; try omega, HK1.out⟩
set_option maxHeartbeats 4000000 in
theorem fitCheck (w : World) (x : AEntry) (hk : KeysAt w) (hp : x.path.length ≤ 140737488355328) (ht : x.target.length ≤ 140737488355328) :
    Calls Tryz.prog 103 #[entV x] w fun e w' => e = .returned (.int .i64 (fitE x)) ∧ Chg [] w w' := by
  obtain ⟨k, p, m, t, s⟩ := x
  unfold entV
  simp only at hp ht ⊢
  have hk1 : Chg [] w (w.alloc (.cells #[.int .i64 k, .string (ba p), .int .i64 m, .string (ba t), .int .i64 s] 171)) := (Chg.refl _ _).alloc _
  have e1 := heap_alloc_new w (.cells #[.int .i64 k, .string (ba p), .int .i64 m, .string (ba t), .int .i64 s] 171)
  have HC := Lib.hid (fun W => pathCheck p W)
  have HT := Lib.hid (fun W (kw : Chg [] w W) => checkTarget W k m s (ba p) t (hk.chg kw (by simp)) ht)
  have HS := Lib.hid (fun W => checkSize W k m s (ba p) (ba t))
  have HK1 := Lib.hid (And.intro hk1 e1)
  clear hk1 e1 hk ht hp
  obtain ⟨R, hR⟩ : ∃ R, R = fitE ⟨k, p, m, t, s⟩ := ⟨_, rfl⟩
  rw [← hR]
  have HRE := Lib.hid hR
  unfold fitE at HRE
  simp only at HRE
  clear hR
  go_enter Tryz.func103, Tryz.ntmps103
  go_upto_region 1 with (fail)
  generalize w.alloc (.cells #[.int .i64 k, .string (ba p), .int .i64 m, .string (ba t), .int .i64 s] 171) = W1 at *
  generalize w.heap.size = g1 at *
  generalize checkP p = CP at *
  generalize targetE k t = TE at *
  generalize sizeE k s = SE at *
  generalize ba p = P at *
  generalize ba t = T at *
  have c0 := cell_heap HK1.out.2 0 (v := .int .i64 k) rfl
  have c1 := cell_heap HK1.out.2 1 (v := .string P) rfl
  have c2 := cell_heap HK1.out.2 2 (v := .int .i64 m) rfl
  have c3 := cell_heap HK1.out.2 3 (v := .string T) rfl
  have c4 := cell_heap HK1.out.2 4 (v := .int .i64 s) rfl
  by_cases h1 : k < 0
  · skip
    go_wp2_with fail
    go_ret
    exact ⟨by rw [HRE.out]; simp_all; try omega, HK1.out.1⟩
  by_cases h2 : 4 ≤ k
  · skip
    go_wp2_with fail
    go_ret
    exact ⟨by rw [HRE.out]; simp_all; try omega, HK1.out.1⟩
  by_cases h3 : CP = 0
  · subst h3
    have HM := Lib.hid (show (m < 0 ∨ 4095 < m ∨ (k = 2 ∧ m ≠ 0)) ∨ ¬ (m < 0 ∨ 4095 < m ∨ (k = 2 ∧ m ≠ 0)) from Classical.em _)
    by_cases h4 : m < 0
    · skip
      go_wp2_with (go_at_call 59; refine (HC.out _).mono ?_; rintro e w2 ⟨rfl, k2⟩; have c0 := k2.cell c0 (by simp); have c1 := k2.cell c1 (by simp); have c2 := k2.cell c2 (by simp); have c3 := k2.cell c3 (by simp); have c4 := k2.cell c4 (by simp); have HK2 := Lib.hid (HK1.out.1.trans k2); clear k2)
      go_ret
      exact ⟨by rw [HRE.out]; simp_all; try omega, HK2.out⟩
    by_cases h5 : 4095 < m
    · skip
      go_wp2_with (go_at_call 59; refine (HC.out _).mono ?_; rintro e w2 ⟨rfl, k2⟩; have c0 := k2.cell c0 (by simp); have c1 := k2.cell c1 (by simp); have c2 := k2.cell c2 (by simp); have c3 := k2.cell c3 (by simp); have c4 := k2.cell c4 (by simp); have HK2 := Lib.hid (HK1.out.1.trans k2); clear k2)
      go_ret
      exact ⟨by rw [HRE.out]; simp_all; try omega, HK2.out⟩
    by_cases h6 : k = 2 ∧ m ≠ 0
    · skip
      obtain ⟨rfl, h7⟩ := h6
      have hmb : (m != 0) = true := by simpa using h7
      go_wp2_with (go_at_call 59; refine (HC.out _).mono ?_; rintro e w2 ⟨rfl, k2⟩; have c0 := k2.cell c0 (by simp); have c1 := k2.cell c1 (by simp); have c2 := k2.cell c2 (by simp); have c3 := k2.cell c3 (by simp); have c4 := k2.cell c4 (by simp); have HK2 := Lib.hid (HK1.out.1.trans k2); clear k2)
      go_ret
      exact ⟨by rw [HRE.out]; simp_all; try omega, HK2.out⟩
    by_cases h7 : k = 2
    · obtain rfl : m = 0 := by omega
      subst h7
      clear h1 h2 h4 h5 h6 HM
      by_cases h8 : TE = 0
      · subst h8
        go_wp2_with (first
          | (go_at_call 59; refine (HC.out _).mono ?_; rintro e w2 ⟨rfl, k2⟩; have c0 := k2.cell c0 (by simp); have c1 := k2.cell c1 (by simp); have c2 := k2.cell c2 (by simp); have c3 := k2.cell c3 (by simp); have c4 := k2.cell c4 (by simp); have HK2 := Lib.hid (HK1.out.1.trans k2); clear k2)
          | (go_at_call 122; refine (HT.out _ HK2.out).mono ?_; rintro e w3 ⟨rfl, k3⟩; have c0 := k3.cell c0 (by simp); have c1 := k3.cell c1 (by simp); have c2 := k3.cell c2 (by simp); have c3 := k3.cell c3 (by simp); have c4 := k3.cell c4 (by simp); have HK3 := Lib.hid (HK2.out.trans k3); clear k3)
          | (go_at_call 123; refine (HS.out _).mono ?_; rintro e w4 ⟨rfl, k4⟩; have HK4 := Lib.hid (HK3.out.trans k4); clear k4))
        go_ret
        exact ⟨by rw [HRE.out]; simp_all; try omega, HK4.out⟩
      · skip
        go_wp2_with (first
          | (go_at_call 59; refine (HC.out _).mono ?_; rintro e w2 ⟨rfl, k2⟩; have c0 := k2.cell c0 (by simp); have c1 := k2.cell c1 (by simp); have c2 := k2.cell c2 (by simp); have c3 := k2.cell c3 (by simp); have c4 := k2.cell c4 (by simp); have HK2 := Lib.hid (HK1.out.1.trans k2); clear k2)
          | (go_at_call 122; refine (HT.out _ HK2.out).mono ?_; rintro e w3 ⟨rfl, k3⟩; have HK3 := Lib.hid (HK2.out.trans k3); clear k3))
        go_ret
        exact ⟨by rw [HRE.out]; simp_all; try omega, HK3.out⟩
    · clear h6 HM
      by_cases h8 : TE = 0
      · subst h8
        go_wp2_with (first
          | (go_at_call 59; refine (HC.out _).mono ?_; rintro e w2 ⟨rfl, k2⟩; have c0 := k2.cell c0 (by simp); have c1 := k2.cell c1 (by simp); have c2 := k2.cell c2 (by simp); have c3 := k2.cell c3 (by simp); have c4 := k2.cell c4 (by simp); have HK2 := Lib.hid (HK1.out.1.trans k2); clear k2)
          | (go_at_call 122; refine (HT.out _ HK2.out).mono ?_; rintro e w3 ⟨rfl, k3⟩; have c0 := k3.cell c0 (by simp); have c1 := k3.cell c1 (by simp); have c2 := k3.cell c2 (by simp); have c3 := k3.cell c3 (by simp); have c4 := k3.cell c4 (by simp); have HK3 := Lib.hid (HK2.out.trans k3); clear k3)
          | (go_at_call 123; refine (HS.out _).mono ?_; rintro e w4 ⟨rfl, k4⟩; have HK4 := Lib.hid (HK3.out.trans k4); clear k4))
        go_ret
        exact ⟨by rw [HRE.out]; simp_all; try omega, HK4.out⟩
      · skip
        go_wp2_with (first
          | (go_at_call 59; refine (HC.out _).mono ?_; rintro e w2 ⟨rfl, k2⟩; have c0 := k2.cell c0 (by simp); have c1 := k2.cell c1 (by simp); have c2 := k2.cell c2 (by simp); have c3 := k2.cell c3 (by simp); have c4 := k2.cell c4 (by simp); have HK2 := Lib.hid (HK1.out.1.trans k2); clear k2)
          | (go_at_call 122; refine (HT.out _ HK2.out).mono ?_; rintro e w3 ⟨rfl, k3⟩; have HK3 := Lib.hid (HK2.out.trans k3); clear k3))
        go_ret
        exact ⟨by rw [HRE.out]; simp_all; try omega, HK3.out⟩
  · skip
    go_wp2_with (go_at_call 59; refine (HC.out _).mono ?_; rintro e w2 ⟨rfl, k2⟩; have c0 := k2.cell c0 (by simp); have c1 := k2.cell c1 (by simp); have c2 := k2.cell c2 (by simp); have c3 := k2.cell c3 (by simp); have c4 := k2.cell c4 (by simp); have HK2 := Lib.hid (HK1.out.1.trans k2); clear k2)
    go_ret
    exact ⟨by rw [HRE.out]; simp_all; try omega, HK2.out⟩
end Go.Proofs.YtfhiioopimmahaaGreatDoor
namespace Go.Proofs.YtfhiioopimmahaaGreatDoor
open Go.RowKit Go.Pax Go.Shelf
set_option maxRecDepth 100000 in
set_option maxHeartbeats 16000000 in
theorem visitP (J : World → List Nat → List Str → Prop) (E : Str → Int) (w : World) (f : Nat) (O R0 : List Nat) (σ : Fs) (n : Nat) (c1 : Nat) (hJ : Stays J)
    (hf : FsAt w f O σ) (hin : σ.In n) (hn : n ≤ 10000) (ht : Tidy σ) (hr : Rooted n σ) (hj : J w R0 []) (hR : ∀ g ∈ R0, g ∉ O ∧ g < w.heap.size)
    (hdo : ∀ W R V k p b, J W R V → Chg (O ++ R0) w W → FsAt W f O (ls σ k) → (∀ g ∈ R, g ∉ O) → lkF σ.files p = some b → V.length ≤ 10001 → Calls Tryz.prog 37 #[.string (ba p), infoV (σ.node b), .pointer (some ⟨c1, 0, none⟩)] W fun e W' => e = .returned (.int .i64 (E p)) ∧ Chg R W W' ∧ (E p = 0 → ∃ R', J W' R' (V ++ [p]) ∧ (∀ g ∈ R', g ∈ R ∨ W.heap.size ≤ g) ∧ ∀ g ∈ R', g < W'.heap.size)) :
    Calls Tryz.prog 32 #[.pointer (some ⟨f, 0, none⟩), .func (.func 37) #[] #[.pointer (some ⟨c1, 0, none⟩)]] w fun e w' =>
      (∃ V k R, e = .returned (.tuple #[.string ⟨#[]⟩, .int .i64 0]) ∧ PathsOf σ V ∧ (∀ v ∈ V, E v = 0) ∧ J w' R V ∧ (∀ g ∈ R, g ∉ O ∧ (g ∈ R0 ∨ w.heap.size ≤ g) ∧ g < w'.heap.size) ∧ FsAt w' f O (ls σ k) ∧ k ≤ n + 2 ∧ Chg (O ++ R0) w w') ∨
      (∃ V x L k, e = .returned (.tuple #[.string (ba x), .int .i64 (E x)]) ∧ Visit σ V (x :: L) ∧ (∀ y ∈ L, ¬ y < x) ∧ (∀ v ∈ V, E v = 0) ∧ E x ≠ 0 ∧ FsAt w' f O (ls σ k) ∧ k ≤ n + 2 ∧ Chg (O ++ R0) w w') := by
  obtain ⟨rb, hrb, hrk⟩ := hr.root
  go_enter Tryz.func32, Tryz.ntmps32
  go_wp2_with fail
  have hbf0 : (w.alloc (.cells #[.pointer (some ⟨f, 0, none⟩)] 27)).heap[w.heap.size]? = some (.cells #[.pointer (some ⟨f, 0, none⟩)] 27 (0, 0)) := heap_alloc_new _ _
  have hk0 : Chg [] w (w.alloc (.cells #[.pointer (some ⟨f, 0, none⟩)] 27)) := (Chg.refl _ _).alloc _
  have HB0 := Lib.hid (And.intro hbf0 (And.intro hk0 (show w.heap.size < (w.alloc (.cells #[.pointer (some ⟨f, 0, none⟩)] 27)).heap.size by simp)))
  clear hbf0 hk0
  generalize w.alloc (.cells #[.pointer (some ⟨f, 0, none⟩)] 27) = W0 at *
  obtain ⟨bf, hbf⟩ : ∃ x, x = w.heap.size := ⟨_, rfl⟩
  rw [← hbf] at HB0 ⊢
  have HBF := Lib.hid hbf
  have HG := Lib.hid (And.intro hf (And.intro hin (And.intro ht (And.intro hr (And.intro hj hR)))))
  have HDO := Lib.hid hdo
  have HRT := Lib.hid (And.intro hrb hrk)
  have HJ := Lib.hid hJ
  clear hf hin ht hr hj hR hdo hrb hrk hbf hJ
  go_step3
  go_upto_region 3 with (go_at_call 67; refine (hnew _).mono ?_; rintro e w1 ⟨rfl, hA, hk⟩; have HA := Lib.hid (And.intro hA hk); clear hA hk)
  have hA1 := HA.out
  have hb1 : (w1.alloc (.cells #[.pointer (some ⟨W0.heap.size, 0, none⟩)] 129)).heap[w1.heap.size]? = some (.cells #[.pointer (some ⟨W0.heap.size, 0, none⟩)] 129 (0, 0)) := heap_alloc_new _ _
  have hk1 : Chg [] w1 (w1.alloc (.cells #[.pointer (some ⟨W0.heap.size, 0, none⟩)] 129)) := (Chg.refl _ _).alloc _
  have hlt1 : W0.heap.size < w1.heap.size := hA1.1.lt _ (by simp)
  have hbfs : bf < W0.heap.size := HB0.out.2.2
  have hkw : Chg [] w (w1.alloc (.cells #[.pointer (some ⟨W0.heap.size, 0, none⟩)] 129)) := (HB0.out.2.1.trans hA1.2).trans hk1
  have hOl := HG.out.1.lt
  have hbfw := HBF.out
  have hM0 : Mst J w (w1.alloc (.cells #[.pointer (some ⟨W0.heap.size, 0, none⟩)] 129)) f W0.heap.size bf w1.heap.size O R0 σ 0 [W0.heap.size] R0 [] [] :=
    ⟨by have := HG.out.1.foreign hkw (by simp); rw [show ls σ 0 = σ from by unfold ls; simp]; exact this, hA1.1.foreign hk1 (by simp), HJ.out _ _ _ _ _ HG.out.2.2.2.2.1 hkw (by simp), fun g hg => by
      simp at hg; subst hg
      exact ⟨fun hm => by have := hOl _ hm; omega, fun hm => by have := (HG.out.2.2.2.2.2 _ hm).2; omega, by omega, by omega, by omega⟩, fun g hg => by
      have := HG.out.2.2.2.2.2 g hg
      exact ⟨this.1, by omega, by omega, .inl hg, Nat.lt_of_lt_of_le this.2 hkw.size⟩, ⟨(hA1.2.trans hk1).heap HB0.out.1 (by simp), fun hm => by have := hOl _ hm; omega⟩, ⟨hb1, fun hm => by have := hOl _ hm; omega⟩, hkw.mono (by simp)⟩
  have hX := expand (w1.alloc (.cells #[.pointer (some ⟨W0.heap.size, 0, none⟩)] 129)) f O (ls σ 0) W0.heap.size [W0.heap.size] [] [] rb bf w1.heap.size _ _ hM0.fs ((ls_in HG.out.2.1 0).ok (by omega)) ((ls_like σ 0).tidy HG.out.2.2.1) hM0.hp HeapN.nil (fun g hg => (hM0.qo g hg).1) hM0.bf.1 hM0.bt.1 hM0.bt.2 (by simp; omega) HRT.out.1 HRT.out.2 (by have := HG.out.2.1.names _ _ (lkF_mem HRT.out.1); simp only [List.length_nil]; show 0 + (σ.node rb).names.length ≤ _; omega)
  have HM0 := Lib.hid hM0
  have HX := Lib.hid (show Calls Tryz.prog 68 #[.string ⟨#[]⟩, .pointer (some ⟨bf, 0, none⟩), .pointer (some ⟨w1.heap.size, 0, none⟩)] _ _ from hX)
  clear hA1 hb1 hk1 hlt1 hbfs hkw hOl hbfw hM0 hX
  generalize w1.alloc (.cells #[.pointer (some ⟨W0.heap.size, 0, none⟩)] 129) = W2 at *
  clear HA HB0 HBF
  generalize W0.heap.size = h at *
  generalize w1.heap.size = bt at *
  go_wp2_with (go_at_call 68; refine HX.out.mono ?_; rintro e w3 ⟨rfl, hx1, hx2, Q2, L2, hx3, hx4, hx5, hx6⟩; have HM1 := Lib.hid (And.intro (HM0.out.expanded HJ.out hx1 hx2 hx3 hx4) (And.intro hx5 hx6)); clear hx1 hx2 hx3 hx4 hx5 hx6)
  go_step3
  go_wp2_with fail
  have hv0 : Visit σ [] L2 := (Visit.first HG.out.2.2.1 HG.out.2.2.2.1 HRT.out.1 HRT.out.2).perm (by have := HM1.out.2.1; rw [List.append_nil] at this; exact this)
  have HV0 := Lib.hid hv0
  clear hv0
  go_loopg [9] σ.files.length (fun g _ wr => ∃ (V L : List Str) (Q R : List Nat) (k : Nat), V.length + g = σ.files.length ∧ Mst J w wr f h bf bt O R0 σ k Q R V L ∧ Visit σ V L ∧ HeapN L L.length ∧ k ≤ V.length + 1 ∧ ∀ v ∈ V, E v = 0)
  case atStart => exact ⟨[], L2, Q2, R0, 1, by simp, HM1.out.1, HV0.out, HM1.out.2.2, by simp, by simp⟩
  case round =>
    obtain ⟨V, L, Q, R, k, hg, hM, hV, hh, hk, hE⟩ := hrel
    have hfl := HG.out.2.2.2.1.len
    have hLl := hV.short
    have hVl := hV.vshort
    have HM := Lib.hid hM
    have HV := Lib.hid (And.intro hV (And.intro hh (And.intro hk (And.intro hE hg))))
    have cbt := cell_heap hM.bt.1 0 (v := .pointer (some ⟨h, 0, none⟩)) rfl
    have hLb : L.length ≤ 1000000 := by omega
    have hVb : V.length ≤ 10001 := by omega
    have hkb : k ≤ n + 2 := by omega
    clear hM hV hh hk hE hg hfl hLl hVl
    by_cases h0 : L = []
    · subst h0
      have HP := Lib.hid (hpop0 wr h Q HM.out.hp)
      go_wp2_with (go_at_call 72; refine HP.out.mono ?_; rintro e w4 ⟨rfl, hw4⟩; obtain rfl := hw4.symm)
      rw [Exit.noGoto_ret]
      go_ret2
      exact .inl ⟨V, k, R, rfl, HV.out.1.done HG.out.2.2.2.1, HV.out.2.2.2.1, HM.out.j, fun g hg => ⟨(HM.out.ro g hg).1, (HM.out.ro g hg).2.2.2.1, (HM.out.ro g hg).2.2.2.2⟩, HM.out.fs, hkb, HM.out.chg⟩
    · have HP := Lib.hid (hpop wr h Q L HM.out.hp HV.out.2.1 hLb h0)
      have HVB := Lib.hid (And.intro hVb hkb)
      clear hLb h0 hVb hkb
      go_upto_region 8 with (go_at_call 72; refine HP.out.mono ?_; rintro e w4 ⟨x, R', rfl, hq1, hq2, hq3, hq4⟩; have HQ := Lib.hid (And.intro hq1 (And.intro hq2 (And.intro hq3 hq4))); clear hq1 hq2 hq3 hq4)
      obtain ⟨Q3, hM3⟩ := HM.out.heapTo HJ.out HQ.out.1
      have hV3 := HV.out.1.perm HQ.out.2.1
      obtain ⟨hxne, b, hb⟩ := hV3.mem x (.inr (by simp))
      have HM3 := Lib.hid hM3
      have HV3 := Lib.hid (And.intro hV3 (And.intro hxne hb))
      have cbf := cell_heap hM3.bf.1 0 (v := .pointer (some ⟨f, 0, none⟩)) rfl
      have HLS := Lib.hid (lstat w4 f O (ls σ k) x hM3.fs)
      have hlv : lstatV (ls σ k) x = .tuple #[infoV (σ.node b), .int .i64 0] := by unfold lstatV; rw [show lkF (ls σ k).files x = some b from hb]; rfl
      rw [hlv] at HLS
      have hds := fun W (kw : Chg [] w4 W) => HDO.out W R V k x b (HJ.out _ _ _ _ _ hM3.j kw (by simp)) (hM3.chg.trans (kw.mono (by simp))) (hM3.fs.foreign kw (by simp)) (fun g hg => (hM3.ro g hg).1) hb HVB.out.1
      have HDS := Lib.hid hds
      have HRB := Lib.hid (fun W (kw : Chg [] w4 W) => (show W.heap.size ∉ R from fun hm => by have := (hM3.ro _ hm).2.2.2.2; have := kw.size; omega))
      obtain ⟨nd, hnd⟩ : ∃ nd, nd = σ.node b := ⟨_, rfl⟩
      rw [← hnd] at HLS HDS
      have HND := Lib.hid (And.intro hnd (show lkF σ.files x = some b from hb))
      unfold infoV at HLS HDS
      clear hM3 hV3 hxne hb hlv hds hnd
      obtain ⟨KD, hkd⟩ : ∃ z, z = nd.kind := ⟨_, rfl⟩
      rw [← hkd] at HLS HDS
      have HKD := Lib.hid hkd
      clear hkd
      generalize nd.mode = MD at *
      generalize nd.ino = IN at *
      generalize nd.links = LK at *
      generalize nd.size = SZ at *
      generalize nd.target = TG at *
      generalize nd.uid = UI at *
      generalize nd.mtime = MT at *
      generalize ba TG = TGB at *
      obtain ⟨X, hX⟩ : ∃ X, X = ba x := ⟨_, rfl⟩
      rw [← hX] at HLS HDS ⊢
      have HXX := Lib.hid hX
      clear hX
      by_cases hE : E x = 0
      · rw [hE] at HDS
        have HE := Lib.hid hE
        clear hE
        by_cases hK : KD = 0
        · subst hK
          go_upto_region 12 with (first
            | (go_at_call 13; refine HLS.out.mono ?_; rintro e w5 ⟨rfl, hk5⟩; have HK5 := Lib.hid hk5; clear hk5)
            | (go_at_call 37; refine (HDS.out _ (HK5.out.alloc _)).mono ?_; rintro e w7 ⟨rfl, hd1, hd2⟩; have hc7 := hd1.cell (cell_heap (heap_alloc_new _ _) 0 (v := .int .i64 0) rfl) (HRB.out _ HK5.out); have HD7 := Lib.hid (And.intro hd1 hd2); clear hd1 hd2))
          obtain ⟨R7, hj7, hr7, hl7⟩ := HD7.out.2 (by first | trivial | rfl)
          have hM7 := (HM3.out.quiet HJ.out (HK5.out.alloc _)).kept HD7.out.1 hj7 hr7 hl7
          have hkx : (σ.node b).kind = 0 := by rw [← HND.out.1, ← HKD.out]
          have hv7 := HV3.out.1.dir HG.out.2.2.1 HG.out.2.2.2.1 HQ.out.2.2.2 HND.out.2 hkx
          have hlen := HV3.out.1.both
          have hfl := HG.out.2.2.2.1.len
          have hnm := HG.out.2.1.names _ _ (lkF_mem HND.out.2)
          have hX7 := expand w7 f O (ls σ k) h Q3 R' x b bf bt _ _ hM7.fs ((ls_in HG.out.2.1 k).ok (by have := HVB.out.2; omega)) ((ls_like σ k).tidy HG.out.2.2.1) hM7.hp HQ.out.2.2.1 (fun g hg => (hM7.qo g hg).1) hM7.bf.1 hM7.bt.1 hM7.bt.2 (fun hm => (hM7.qo _ hm).2.2.2.1 rfl) HND.out.2 hkx (by simp only [List.length_cons] at hlen; show R'.length + (σ.node b).names.length ≤ _; omega)
          rw [← HXX.out] at hX7
          have HX7 := Lib.hid hX7
          have HM7 := Lib.hid (And.intro hM7 (And.intro hv7 hlen))
          clear hc7 hj7 hr7 hl7 hM7 hkx hv7 hlen hfl hnm hX7
          go_wp2_with (go_at_call 68; refine HX7.out.mono ?_; rintro e w8 ⟨rfl, hx1, hx2, Q8, L8, hx3, hx4, hx5, hx6⟩; have HM8 := Lib.hid (And.intro (HM7.out.1.expanded HJ.out hx1 hx2 hx3 hx4) (And.intro hx5 hx6)); clear hx1 hx2 hx3 hx4 hx5 hx6)
          go_roundg (gk - 1)
          case measure => have h1 := HM7.out.2.2; have h2 := HV.out.2.2.2.2; simp only [List.length_cons] at h1; omega
          case rel => exact ⟨V ++ [x], L8, Q8, R7, k + 1, by have h1 := HM7.out.2.2; have h2 := HV.out.2.2.2.2; simp only [List.length_cons, List.length_append, List.length_nil] at h1 ⊢; omega, HM8.out.1, HM7.out.2.1.perm HM8.out.2.1, HM8.out.2.2, by have := HV.out.2.2.1; simp; omega, fun v hv => by
            rcases List.mem_append.1 hv with hv | hv
            · exact HV.out.2.2.2.1 v hv
            · simp at hv; subst hv; exact HE.out⟩
        · go_upto_region 13 with (first
            | (go_at_call 13; refine HLS.out.mono ?_; rintro e w5 ⟨rfl, hk5⟩; have HK5 := Lib.hid hk5; clear hk5)
            | (go_at_call 37; refine (HDS.out _ (HK5.out.alloc _)).mono ?_; rintro e w7 ⟨rfl, hd1, hd2⟩; have hc7 := hd1.cell (cell_heap (heap_alloc_new _ _) 0 (v := .int .i64 KD) rfl) (HRB.out _ HK5.out); have HD7 := Lib.hid (And.intro hd1 hd2); clear hd1 hd2))
          obtain ⟨R7, hj7, hr7, hl7⟩ := HD7.out.2 (by first | trivial | rfl)
          have hM7 := (HM3.out.quiet HJ.out (HK5.out.alloc _)).kept HD7.out.1 hj7 hr7 hl7
          have hkx : (σ.node b).kind ≠ 0 := by rw [← HND.out.1, ← HKD.out]; exact hK
          have hv7 := HV3.out.1.leaf HG.out.2.2.2.1 HQ.out.2.2.2 HND.out.2 hkx
          have HM7 := Lib.hid (And.intro hM7 (And.intro hv7 HV3.out.1.both))
          clear hc7 hj7 hr7 hl7 hM7 hkx hv7
          go_wp2_with fail
          go_roundg (gk - 1)
          case measure => have h1 := HM7.out.2.2; have h2 := HV.out.2.2.2.2; simp only [List.length_cons] at h1; omega
          case rel => exact ⟨V ++ [x], R', Q3, R7, k, by have h1 := HM7.out.2.2; have h2 := HV.out.2.2.2.2; simp only [List.length_cons, List.length_append, List.length_nil] at h1 ⊢; omega, HM7.out.1, HM7.out.2.1, HQ.out.2.2.1, by have := HV.out.2.2.1; simp; omega, fun v hv => by
            rcases List.mem_append.1 hv with hv | hv
            · exact HV.out.2.2.2.1 v hv
            · simp at hv; subst hv; exact HE.out⟩
      · have HE := Lib.hid hE
        obtain ⟨EX, hEX⟩ : ∃ z, z = E x := ⟨_, rfl⟩
        rw [← hEX] at HDS hE
        have HEX := Lib.hid hEX
        clear hEX
        go_wp2_with (first
            | (go_at_call 13; refine HLS.out.mono ?_; rintro e w5 ⟨rfl, hk5⟩; have HK5 := Lib.hid hk5; clear hk5)
            | (go_at_call 37; refine (HDS.out _ (HK5.out.alloc _)).mono ?_; rintro e w7 ⟨rfl, hd1, -⟩; have HD7 := Lib.hid hd1; clear hd1))
        rw [Exit.noGoto_ret]
        go_ret2
        have hl := (HM3.out.quiet HJ.out (HK5.out.alloc _)).lost HD7.out
        exact .inr ⟨V, x, R', k, by rw [← HXX.out, ← HEX.out]; rfl, HV3.out.1, HQ.out.2.2.2, HV.out.2.2.2.1, HE.out, hl.1, HVB.out.2, hl.2⟩
end Go.Proofs.YtfhiioopimmahaaGreatDoor
namespace Go.Proofs.YtfhiioopimmahaaGreatDoor
open Go.RowKit Go.Pax Go.Shelf
theorem own_base {w : World} {B B' : Nat} {e : TypeId} {size : Nat} {v : Value} {n : Nat} {xs : List Value} (h : w.ownsRow B e size v n xs) (hg : ∀ g, v.ownBlock = some g → B' ≤ g) : w.ownsRow B' e size v n xs := by
  refine ⟨h.1, ?_⟩
  rcases h.2 with h2 | ⟨g, cap, cur, rfl, _, h3⟩
  · exact .inl h2
  · exact .inr ⟨g, cap, cur, rfl, hg g rfl, h3⟩
/-- A variable that holds a row of strings. -/
def JP (c : Nat) (w : World) (R : List Nat) (V : List Str) : Prop := ∃ v, w.heap[c]? = some (.cells #[v] 47 (0, 0)) ∧ w.ownsRow 0 9 1 v V.length (svn V) ∧ R = c :: v.ownBlock.toList
theorem JP.stays (c : Nat) : Stays (JP c) := by
  rintro w w' R V S ⟨v, h1, h2, rfl⟩ k hS
  exact ⟨v, k.heap h1 (hS _ (by simp)), own_keepS h2 k (fun g hg => hS g (by simp [hg])), rfl⟩
theorem JP.far {c : Nat} {w : World} {v : Value} {V : List Str} (h1 : w.heap[c]? = some (.cells #[v] 47 (0, 0))) {n : Nat} {u : Value} (h2 : w.ownsRow 0 9 1 u n (svn V)) {g : Nat} (hg : u.ownBlock = some g) : g ≠ c := by
  obtain ⟨x, hx⟩ := own_blockS h2 hg
  exact ne_of_types hx h1 (by decide)
theorem JP.put {c : Nat} {w w1 : World} {v v1 : Value} {V1 : List Str} {n1 : Nat} (h1 : w.heap[c]? = some (.cells #[v] 47 (0, 0))) (hv : ∀ g, v.ownBlock = some g → g ≠ c) (k : Chg v.ownBlock.toList w w1) (hr : w1.ownsRow 0 9 1 v1 n1 (svn V1)) (hn : n1 = V1.length)
    (hat : v1.ownBlock = v.ownBlock ∨ ∃ g, v1.ownBlock = some g ∧ w.heap.size ≤ g ∧ g < w1.heap.size) :
    Chg (c :: v.ownBlock.toList) w (w1.setCell ⟨c, 0, none⟩ v1) ∧ ∃ R', JP c (w1.setCell ⟨c, 0, none⟩ v1) R' V1 ∧ (∀ g ∈ R', g ∈ c :: v.ownBlock.toList ∨ w.heap.size ≤ g) ∧ ∀ g ∈ R', g < (w1.setCell ⟨c, 0, none⟩ v1).heap.size := by
  subst hn
  have hb1 : w1.heap[c]? = some (.cells #[v] 47 (0, 0)) := k.heap h1 (fun hm => by simp at hm; exact hv _ hm rfl)
  have k1 : Chg [c] w1 (w1.setCell ⟨c, 0, none⟩ v1) := (Chg.refl _ _).setCell (fun _ => by simp) _
  refine ⟨k.trans' k1 (fun x hx _ => List.mem_cons_of_mem _ hx) (fun x hx _ => by simp at hx; simp [hx]), c :: v1.ownBlock.toList, ⟨v1, heap_set hb1 0 v1 rfl, own_keepS hr k1 (fun g hg hm => by simp at hm; exact JP.far hb1 hr hg hm), rfl⟩, fun g hg => ?_, fun g hg => Nat.lt_of_lt_of_le ?_ k1.size⟩
  · rcases List.mem_cons.1 hg with e | hg
    · exact .inl (by simp [e])
    · simp at hg
      rcases hat with h2 | ⟨g', h2, h3, h4⟩
      · rw [h2] at hg; exact .inl (by simp [hg])
      · rw [h2] at hg; cases hg; exact .inr h3
  · rcases List.mem_cons.1 hg with e | hg
    · subst e; exact lt_of_block hb1
    · simp at hg
      obtain ⟨x, hx⟩ := own_blockS hr hg
      exact lt_of_block hx
set_option maxRecDepth 100000 in
set_option maxHeartbeats 8000000 in
theorem pathsOne (w : World) (c : Nat) (R : List Nat) (V : List Str) (p : Str) (nd : Nd) (h : JP c w R V) (hl : V.length ≤ 10001) :
    Calls Tryz.prog 37 #[.string (ba p), infoV nd, .pointer (some ⟨c, 0, none⟩)] w fun e w' => e = .returned (.int .i64 0) ∧ Chg R w w' ∧ ((0 : Int) = 0 → ∃ R', JP c w' R' (V ++ [p]) ∧ (∀ g ∈ R', g ∈ R ∨ w.heap.size ≤ g) ∧ ∀ g ∈ R', g < w'.heap.size) := by
  obtain ⟨v, h1, h2, rfl⟩ := h
  obtain ⟨ao, cp, rfl⟩ := own_shape h2
  have hs : svn (V ++ [p]) = svn V ++ [.string (ba p)] := by simp [svn, sv]
  have HH := Lib.hid (And.intro h1 h2)
  have HS := Lib.hid hs
  have HVL := Lib.hid (show (V ++ [p]).length = V.length + 1 by simp)
  unfold infoV
  generalize nd.kind = x1 at *
  generalize nd.mode = x2 at *
  generalize nd.ino = x3 at *
  generalize nd.links = x4 at *
  generalize nd.size = x5 at *
  generalize ba nd.target = x6 at *
  generalize nd.uid = x7 at *
  generalize nd.mtime = x8 at *
  generalize V ++ [p] = V2 at *
  generalize ba p = X at *
  obtain ⟨n, hn⟩ : ∃ n, n = V.length := ⟨_, rfl⟩
  rw [← hn] at hl HH HVL ⊢
  clear hn h1 h2 hs
  obtain ⟨si, hsi, hsi0, hsi1, hsi2⟩ := info_parts Tryz.infoHS
  have HCE := Lib.hid (fun W (k : Chg [] w W) => And.intro (cell_heap (k.heap HH.out.1 (by simp)) 0 (v := .slice ao n cp) rfl) (own_chg HH.out.2 k (by simp)))
  go_enter Tryz.func37, Tryz.ntmps37
  go_upto_region 1 with (fail)
  have hk0 : Chg [] w (w.alloc (.cells #[.int .i64 x1, .int .i64 x2, .int .i64 x3, .int .i64 x4, .int .i64 x5, .string x6, .int .i64 x7, .int .i64 x8] 40)) := (Chg.refl _ _).alloc _
  have HK0 := Lib.hid hk0
  clear hk0
  generalize w.alloc (.cells #[.int .i64 x1, .int .i64 x2, .int .i64 x3, .int .i64 x4, .int .i64 x5, .string x6, .int .i64 x7, .int .i64 x8] 40) = W0 at *
  have c0 := (HCE.out W0 HK0.out).1
  have hka : Chg [] W0 (W0.alloc (.cells #[.string X] 9)) := (Chg.refl _ _).alloc _
  have HOB := Lib.hid (HCE.out _ (HK0.out.trans hka)).2
  have HRN := Lib.hid (show Rd (W0.alloc (.cells #[.string X] 9)) [W0.heap.size] (some ⟨W0.heap.size, 0, none⟩) [.string X] from fun j u hu => by
    have hj : j = 0 := by have := (List.getElem?_eq_some_iff.1 hu).1; simp at this; exact this
    subst hj
    simp at hu; subst hu
    exact ⟨_, rfl, by simp, cell_heap (heap_alloc_new _ _) 0 rfl⟩)
  have HKA := Lib.hid (HK0.out.trans hka)
  clear hka
  go_wp2_with (at_builtin; refine wpList_append_rd rfl (.tmp 6) (.tmp 8) 47 rfl 0 9 si (.string ⟨#[]⟩) 16 Tryz.underlying47 hsi hsi0 hsi1 hsi2 rfl (.slice ao n cp) n (svn V) rfl HOB.out (some ⟨W0.heap.size, 0, none⟩) 1 1 [W0.heap.size] [.string X] rfl rfl HRN.out (by intro u hu; simp at hu; subst hu; rfl) (by omega) (by unfold maxLen; omega) (Nat.zero_le _) ?_; intro a2 c2 w2 hown2 hgr2 hat2; have hk2 : Chg (Value.slice ao n cp).ownBlock.toList w w2 := (HKA.out.mono (by simp)).grown hgr2 (fun g hg _ => by simp [hg]); have hb2 := hk2.heap HH.out.1 (fun hm => by simp at hm; exact JP.far HH.out.1 HH.out.2 hm rfl); have c2' := cell_heap hb2 0 (v := .slice ao n cp) rfl; have f2 : w2.frozen? ⟨c, 0, none⟩ = false := frozen_of_row _ _ _ _ _ hb2; have hat3 : (Value.slice a2 (n + 1) c2).ownBlock = (Value.slice ao n cp).ownBlock ∨ ∃ g, (Value.slice a2 (n + 1) c2).ownBlock = some g ∧ w.heap.size ≤ g ∧ g < w2.heap.size := (by rcases hat2 with h1 | h1; exact .inl h1; obtain ⟨c9, hc9⟩ := own_blockS hown2 h1; exact .inr ⟨_, h1, HKA.out.size, lt_of_block hc9⟩); rw [← HS.out] at hown2; have HP := Lib.hid (JP.put HH.out.1 (fun g hg => JP.far HH.out.1 HH.out.2 hg) hk2 hown2 HVL.out.symm hat3); clear hown2 hgr2 hat2 hk2 hb2 hat3)
  go_ret
  exact ⟨rfl, HP.out.1, fun _ => HP.out.2⟩
set_option maxRecDepth 100000 in
set_option maxHeartbeats 8000000 in
theorem wpaths (w : World) (f : Nat) (O : List Nat) (σ : Fs) (n : Nat) (hf : FsAt w f O σ) (hin : σ.In n) (hn : n ≤ 10000) (ht : Tidy σ) (hr : Rooted n σ) :
    Calls Tryz.prog 14 #[.pointer (some ⟨f, 0, none⟩)] w fun e w' => ∃ V a m c k, e = .returned (.tuple #[.slice a m c, .int .i64 0]) ∧ m = V.length ∧ PathsOf σ V ∧ w'.ownsRow w.heap.size 9 1 (.slice a m c) m (svn V) ∧ (∀ g, (Value.slice a m c).ownBlock = some g → g ∉ O) ∧ FsAt w' f O (ls σ k) ∧ k ≤ n + 2 ∧ Chg O w w' := by
  have hk0 : Chg [] w (w.alloc (.cells #[.slice none 0 0] 47)) := (Chg.refl _ _).alloc _
  have h0 : (w.alloc (.cells #[.slice none 0 0] 47)).heap[w.heap.size]? = some (.cells #[.slice none 0 0] 47 (0, 0)) := heap_alloc_new _ _
  have hO := hf.lt
  have hv := (visitP (JP w.heap.size) (fun _ => 0) (w.alloc (.cells #[.slice none 0 0] 47)) f O [w.heap.size] σ n w.heap.size (JP.stays _) (hf.foreign hk0 (by simp)) hin hn ht hr ⟨_, h0, ⟨rfl, .inl ⟨rfl, rfl⟩⟩, rfl⟩
    (fun g hg => by simp at hg; subst hg; exact ⟨fun hm => by have := hO _ hm; omega, by simp⟩)
    (fun W R V k p b hj _ _ _ _ hl => pathsOne W w.heap.size R V p (σ.node b) hj hl))
  have HV := Lib.hid (show Calls Tryz.prog 32 _ _ (fun e w' => e = .returned (.tuple #[.string ⟨#[]⟩, .int .i64 0]) ∧ ∃ V k R, PathsOf σ V ∧ JP w.heap.size w' R V ∧ (∀ g ∈ R, g ∉ O) ∧ (∀ g ∈ R, w.heap.size ≤ g) ∧ FsAt w' f O (ls σ k) ∧ k ≤ n + 2 ∧ Chg O w w') from by
    refine hv.mono ?_
    intro e w' he
    rcases he with ⟨V, k, R, rfl, h1, _, h3, h4, h5, h6, h7⟩ | ⟨_, x, _, _, _, _, _, _, hne, _⟩
    · refine ⟨rfl, V, k, R, h1, h3, fun g hg => (h4 g hg).1, fun g hg => ?_, h5, h6, hk0.trans' h7 (by simp) (fun x hx hl => ?_)⟩
      · rcases (h4 g hg).2.1 with h8 | h8
        · simp at h8; omega
        · have := hk0.size; omega
      · rcases List.mem_append.1 hx with h8 | h8
        · exact h8
        · simp at h8; omega
    · exact absurd rfl hne)
  clear hv
  have HK := Lib.hid hk0
  have HO := Lib.hid hO
  clear hf hin hn ht hr hk0 h0 hO
  go_enter Tryz.func14, Tryz.ntmps14
  go_upto_region 2 with (fail)
  obtain ⟨c0, hc0⟩ : ∃ x, x = w.heap.size := ⟨_, rfl⟩
  rw [← hc0] at HV ⊢
  have HC := Lib.hid hc0
  clear hc0
  generalize w.alloc (.cells #[.slice none 0 0] 47) = W0 at *
  go_upto_region 3 with (go_at_call 32; refine HV.out.mono ?_; rintro e w3 ⟨rfl, V, k, R, hV, hj, he⟩; have HE := Lib.hid (And.intro hV he); have HJ := Lib.hid hj; clear he hj hV)
  obtain ⟨v, hj1, hj2, hj3⟩ := HJ.out
  obtain ⟨a, m, rfl⟩ := own_shape hj2
  have c1 := cell_heap hj1 0 (v := .slice a V.length m) rfl
  have HJ2 := Lib.hid (And.intro hj2 hj3)
  have HVL := Lib.hid (show V.length = V.length from rfl)
  clear hj1 hj2 hj3
  go_wp2_with fail
  go_ret2
  refine ⟨V, a, V.length, m, rfl, rfl, HE.out.1, own_base HJ2.out.1 (fun g hg => ?_), fun g hg => ?_, k, HE.out.2.2.2.1, HE.out.2.2.2.2.1, HE.out.2.2.2.2.2⟩
  · rw [← HC.out]; exact HE.out.2.2.1 g (by rw [HJ2.out.2, hg]; simp)
  · exact HE.out.2.1 g (by rw [HJ2.out.2, hg]; simp)
end Go.Proofs.YtfhiioopimmahaaGreatDoor
namespace Go.Proofs.YtfhiioopimmahaaGreatDoor
open Go.RowKit Go.Pax Go.Shelf
theorem Tryz.infoND : (Tryz.prog.info? 45).map (fun i => (i.zero, i.size, i.bytes)) = some (some (.agg #[.int .i64 0, .string ⟨#[]⟩, .int .i64 0, .string ⟨#[]⟩, .slice none 0 0, .int .i64 0]), 6, 80) := by kernel_rfl
/-- A variable that holds a row of nodes. -/
structure NdVar (c : Nat) (w : World) (v : Value) (ns : List (ANode × Value)) (fp : List Nat) : Prop where
  blk : w.heap[c]? = some (.cells #[v] 35 (0, 0))
  row : w.ownsRow 0 45 6 v ns.length (ndcells ns)
  data : ∀ x ∈ ns, RdD w fp x.2 x.1.data
  flt : ∀ g ∈ fp, g < w.heap.size ∧ g ≠ c ∧ v.ownBlock ≠ some g
def JW (σ : Fs) (c : Nat) (w : World) (R : List Nat) (V : List Str) : Prop := ∃ v ns fp, NdVar c w v ns fp ∧ ns.map Prod.fst = V.map (nodeOf σ) ∧ R = c :: (v.ownBlock.toList ++ fp)
theorem NdVar.far {c : Nat} {w : World} {v : Value} {ns : List (ANode × Value)} {fp : List Nat} (h : NdVar c w v ns fp) {g : Nat} (hg : v.ownBlock = some g) : g ≠ c := by
  obtain ⟨x, hx⟩ := own_blockS h.row hg
  exact ne_of_types hx h.blk (by decide)
theorem JW.stays (σ : Fs) (c : Nat) : Stays (JW σ c) := by
  rintro w w' R V S ⟨v, ns, fp, h, hm, rfl⟩ k hS
  exact ⟨v, ns, fp, ⟨k.heap h.blk (hS _ (by simp)), own_keepS h.row k (fun g hg => hS g (by simp [hg])), fun x hx => (h.data x hx).chg k (fun g hg => hS g (by simp [hg])), fun g hg => ⟨Nat.lt_of_lt_of_le (h.flt g hg).1 k.size, (h.flt g hg).2⟩⟩, hm, rfl⟩
/-- One node more. -/
theorem JW.put {σ : Fs} {c : Nat} {w w0 w1 : World} {v v1 dv : Value} {ns : List (ANode × Value)} {fp fq : List Nat} {V : List Str} {p : Str} {x : ANode} {n1 : Nat} (h : NdVar c w v ns fp) (hV : ns.map Prod.fst = V.map (nodeOf σ)) (hx : x = nodeOf σ p) (k0 : Chg [] w w0) (hd : RdD w0 fq dv x.data) (hq : ∀ g ∈ fq, w.heap.size ≤ g ∧ g < w0.heap.size)
    (k : Chg v.ownBlock.toList w0 w1) (hr : w1.ownsRow 0 45 6 v1 n1 (ndcells (ns ++ [(x, dv)]))) (hn : n1 = ns.length + 1) (hat : v1.ownBlock = v.ownBlock ∨ ∃ g, v1.ownBlock = some g ∧ w0.heap.size ≤ g ∧ g < w1.heap.size) :
    Chg (c :: (v.ownBlock.toList ++ fp)) w (w1.setCell ⟨c, 0, none⟩ v1) ∧ ∃ R', JW σ c (w1.setCell ⟨c, 0, none⟩ v1) R' (V ++ [p]) ∧ (∀ g ∈ R', g ∈ c :: (v.ownBlock.toList ++ fp) ∨ w.heap.size ≤ g) ∧ ∀ g ∈ R', g < (w1.setCell ⟨c, 0, none⟩ v1).heap.size := by
  have hcl : c < w.heap.size := lt_of_block h.blk
  have hvl : ∀ g, v.ownBlock = some g → g < w.heap.size := fun g hg => by obtain ⟨y, hy⟩ := own_blockS h.row hg; exact lt_of_block hy
  have hb1 : w1.heap[c]? = some (.cells #[v] 35 (0, 0)) := k.heap (k0.heap h.blk (by simp)) (fun hm => by simp at hm; exact h.far hm rfl)
  have k1 : Chg [c] w1 (w1.setCell ⟨c, 0, none⟩ v1) := (Chg.refl _ _).setCell (fun _ => by simp) _
  have hv1 : ∀ g, v1.ownBlock = some g → g ≠ c := fun g hg => by
    obtain ⟨y, hy⟩ := own_blockS hr hg
    exact ne_of_types hy hb1 (by decide)
  have hs0 := k0.size
  have hs1 := k.size
  have hs2 := k1.size
  have hkc : Chg (c :: v.ownBlock.toList) w0 (w1.setCell ⟨c, 0, none⟩ v1) := k.trans' k1 (fun x hx _ => List.mem_cons_of_mem _ hx) (fun x hx _ => by simp at hx; simp [hx])
  have hfq : ∀ g ∈ fp ++ fq, g < w0.heap.size ∧ g ≠ c ∧ v.ownBlock ≠ some g := fun g hg => by
    rcases List.mem_append.1 hg with hg | hg
    · have := h.flt g hg
      exact ⟨by omega, this.2⟩
    · have := hq g hg
      exact ⟨this.2, by omega, fun e => by have := hvl g e; omega⟩
  have hfq1 : ∀ g ∈ fp ++ fq, g ∉ c :: v.ownBlock.toList := fun g hg hm => by
    rcases List.mem_cons.1 hm with e | hm
    · exact (hfq g hg).2.1 e
    · simp at hm; exact (hfq g hg).2.2 hm
  refine ⟨k0.trans' hkc (by simp) (fun x hx _ => ?_), c :: (v1.ownBlock.toList ++ (fp ++ fq)), ⟨v1, ns ++ [(x, dv)], fp ++ fq, ⟨heap_set hb1 0 v1 rfl, ?_, fun y hy => ?_, fun g hg => ⟨by have := (hfq g hg).1; omega, (hfq g hg).2.1, fun e => ?_⟩⟩, by simp [hV, hx], rfl⟩, fun g hg => ?_, fun g hg => ?_⟩
  · rcases List.mem_cons.1 hx with e | hx
    · simp [e]
    · exact List.mem_cons_of_mem _ (List.mem_append_left _ hx)
  · rw [List.length_append, List.length_singleton, ← hn]
    exact own_keepS hr k1 (fun g hg hm => by simp at hm; exact hv1 g hg hm)
  · rcases List.mem_append.1 hy with hy | hy
    · exact (((h.data y hy).chg k0 (by simp)).mono (fun g hg => List.mem_append_left _ hg)).chg hkc hfq1
    · simp at hy; subst hy
      exact (hd.mono (fun g hg => List.mem_append_right _ hg)).chg hkc hfq1
  · rcases hat with h2 | ⟨g', h2, h3, h4⟩
    · rw [h2] at e; exact (hfq g hg).2.2 e
    · rw [h2] at e; cases e; have := (hfq g hg).1; omega
  · rcases List.mem_cons.1 hg with e | hg
    · exact .inl (by simp [e])
    · rcases List.mem_append.1 hg with hg | hg
      · simp at hg
        rcases hat with h2 | ⟨g', h2, h3, h4⟩
        · rw [h2] at hg; exact .inl (by simp [hg])
        · rw [h2] at hg; cases hg; exact .inr (by omega)
      · rcases List.mem_append.1 hg with hg | hg
        · exact .inl (by simp [hg])
        · exact .inr (hq g hg).1
  · rcases List.mem_cons.1 hg with e | hg
    · subst e; omega
    · rcases List.mem_append.1 hg with hg | hg
      · simp at hg
        obtain ⟨y, hy⟩ := own_blockS hr hg
        have := lt_of_block hy
        omega
      · have := (hfq g hg).1; omega
theorem nd_at (w : World) (k m c : Int) (P T : ByteArray) (a : Option Addr) (l cp : Nat) : ∀ j u, [Value.int .i64 k, .string P, .int .i64 m, .string T, .slice a l cp, .int .i64 c][j]? = some u → (w.alloc (.cells #[.int .i64 k, .string P, .int .i64 m, .string T, .slice a l cp, .int .i64 c] 45)).cell? ((⟨w.heap.size, 0, none⟩ : Addr).add j) = some u := by
  intro j u hj
  have hn := heap_alloc_new w (.cells #[.int .i64 k, .string P, .int .i64 m, .string T, .slice a l cp, .int .i64 c] 45)
  rw [add_at]
  exact cell_heap hn j (by simpa using hj)
theorem nd_one (k m c : Int) (P T : ByteArray) (a : Option Addr) (l cp : Nat) : ∀ u ∈ [Value.int .i64 k, .string P, .int .i64 m, .string T, .slice a l cp, .int .i64 c], u.oneCell' = true := by
  intro u hu
  simp at hu
  rcases hu with rfl | rfl | rfl | rfl | rfl | rfl <;> rfl
theorem wnode2 (w : World) (f : Nat) (O : List Nat) (σ : Fs) (p : Str) (b : Nat) (h : FsAt w f O σ) (hd : ∀ p b, (p, b) ∈ σ.files → (σ.node b).data.length ≤ 140737488355328) (hb : lkF σ.files p = some b) :
    Calls Tryz.prog 34 #[.pointer (some ⟨f, 0, none⟩), .string (ba p), infoV (σ.node b)] w fun e w' => ∃ (k m c : Int) (P T : ByteArray) (a : Option Addr) (l cp : Nat), e = .returned (.tuple #[.agg #[.int .i64 k, .string P, .int .i64 m, .string T, .slice a l cp, .int .i64 c], .int .i64 (kindE (σ.node b).kind)]) ∧
      (kindE (σ.node b).kind = 0 → ndc (nodeAt (σ.node b) p) (.slice a l cp) = [.int .i64 k, .string P, .int .i64 m, .string T, .slice a l cp, .int .i64 c] ∧ ∃ fq, RdD w' fq (.slice a l cp) (nodeAt (σ.node b) p).data ∧ ∀ g ∈ fq, w.heap.size ≤ g ∧ g < w'.heap.size) ∧ Chg [] w w' := by
  refine (wnode w f O σ p b h hd hb).mono ?_
  rintro e w' ⟨⟨h1, h2⟩, hk⟩
  by_cases h0 : kindE (σ.node b).kind = 0
  · obtain ⟨dv, fq, he, hr, hq⟩ := h2 h0
    obtain ⟨a, cp, hdv, hrd⟩ := hr
    exact ⟨(nodeAt (σ.node b) p).kind, (nodeAt (σ.node b) p).mode, (nodeAt (σ.node b) p).cls, ba (nodeAt (σ.node b) p).path, ba (nodeAt (σ.node b) p).target, a, (nodeAt (σ.node b) p).data.length, cp, by rw [he, hdv, h0]; rfl, fun _ => ⟨rfl, fq, ⟨a, cp, rfl, hrd⟩, hq⟩, hk⟩
  · have h8 : kindE (σ.node b).kind = 8 := by unfold kindE at h0 ⊢; split <;> simp_all
    exact ⟨0, 0, 0, ⟨#[]⟩, ⟨#[]⟩, none, 0, 0, by rw [h8]; exact h1 h0, fun hz => absurd hz h0, hk⟩
set_option maxRecDepth 100000 in
set_option maxHeartbeats 16000000 in
theorem walkOne (w : World) (f : Nat) (O : List Nat) (σ : Fs) (k : Nat) (c1 c2 : Nat) (R : List Nat) (V : List Str) (p : Str) (b : Nat) (t1 : TypeId) (h : JW σ c2 w R V) (hf : FsAt w f O (ls σ k)) (hd : ∀ p b, (p, b) ∈ σ.files → (σ.node b).data.length ≤ 140737488355328) (hb : lkF σ.files p = some b) (hc1 : w.heap[c1]? = some (.cells #[.pointer (some ⟨f, 0, none⟩)] t1 (0, 0))) (hl : V.length ≤ 10001) :
    Calls Tryz.prog 33 #[.string (ba p), infoV (σ.node b), .pointer (some ⟨c1, 0, none⟩), .pointer (some ⟨c2, 0, none⟩)] w fun e w' => e = .returned (.int .i64 (walkE σ p)) ∧ Chg R w w' ∧ (walkE σ p = 0 → ∃ R', JW σ c2 w' R' (V ++ [p]) ∧ (∀ g ∈ R', g ∈ R ∨ w.heap.size ≤ g) ∧ ∀ g ∈ R', g < w'.heap.size) := by
  obtain ⟨v, ns, fp, hv, hV, rfl⟩ := h
  have hE : walkE σ p = kindE (σ.node b).kind := by unfold walkE; rw [hb]
  have hno : nodeOf σ p = nodeAt (σ.node b) p := by unfold nodeOf; rw [hb]
  rw [hE]
  have hnl : ns.length = V.length := by have := congrArg List.length hV; simpa using this
  have HN := Lib.hid (fun W (kw : Chg [] w W) => wnode2 W f O (ls σ k) p b (hf.foreign kw (by simp)) hd hb)
  have HPUT := Lib.hid (fun (w0 w1 : World) (v1 : Value) (kk m c : Int) (P T : ByteArray) (a : Option Addr) (l cp : Nat) (k0 : Chg [] w w0) (hq : kindE (σ.node b).kind = 0 → ndc (nodeAt (σ.node b) p) (.slice a l cp) = [.int .i64 kk, .string P, .int .i64 m, .string T, .slice a l cp, .int .i64 c] ∧ ∃ fq, RdD w0 fq (.slice a l cp) (nodeAt (σ.node b) p).data ∧ ∀ g ∈ fq, w.heap.size ≤ g ∧ g < w0.heap.size)
      (k1 : Chg v.ownBlock.toList w0 w1) (hr : w1.ownsRow 0 45 6 v1 (ns.length + 1) (ndcells ns ++ [.int .i64 kk, .string P, .int .i64 m, .string T, .slice a l cp, .int .i64 c])) (hat : v1.ownBlock = v.ownBlock ∨ ∃ g, v1.ownBlock = some g ∧ w0.heap.size ≤ g ∧ g < w1.heap.size) =>
    (show Chg (c2 :: (v.ownBlock.toList ++ fp)) w (w1.setCell ⟨c2, 0, none⟩ v1) ∧ (kindE (σ.node b).kind = 0 → ∃ R', JW σ c2 (w1.setCell ⟨c2, 0, none⟩ v1) R' (V ++ [p]) ∧ (∀ g ∈ R', g ∈ c2 :: (v.ownBlock.toList ++ fp) ∨ w.heap.size ≤ g) ∧ ∀ g ∈ R', g < (w1.setCell ⟨c2, 0, none⟩ v1).heap.size) from by
      have kc : Chg [c2] w1 (w1.setCell ⟨c2, 0, none⟩ v1) := (Chg.refl _ _).setCell (fun _ => by simp) _
      have ka : Chg (c2 :: (v.ownBlock.toList ++ fp)) w w1 := k0.trans' k1 (by simp) (fun x hx _ => List.mem_cons_of_mem _ (List.mem_append_left _ hx))
      refine ⟨ka.trans' kc (fun x hx _ => hx) (fun x hx _ => by simp at hx; simp [hx]), fun h0 => ?_⟩
      obtain ⟨h1, fq, h2, h3⟩ := hq h0
      rw [← h1] at hr
      have hr2 : w1.ownsRow 0 45 6 v1 (ns.length + 1) (ndcells (ns ++ [(nodeAt (σ.node b) p, .slice a l cp)])) := by
        rw [ndcells_append]; simpa [ndcells] using hr
      exact (JW.put hv hV hno.symm k0 h2 h3 k1 hr2 rfl hat).2))
  obtain ⟨ao, cp, rfl, _, _⟩ := own_rdS hv.row
  have HV := Lib.hid hv
  obtain ⟨n, hn⟩ : ∃ n, n = ns.length := ⟨_, rfl⟩
  rw [← hn] at hnl HPUT HV ⊢
  have hn1 : n ≤ 10001 := by omega
  have HCE := Lib.hid (fun W (kw : Chg [] w W) => And.intro (cell_heap (kw.heap HV.out.blk (by simp)) 0 (v := .slice ao n cp) rfl) (show W.ownsRow 0 45 6 (.slice ao n cp) n (ndcells ns) from by have := own_keepS HV.out.row kw (by simp); rw [← hn] at this; exact this))
  have HC1 := Lib.hid (fun W (kw : Chg [] w W) => cell_heap (kw.heap hc1 (by simp)) 0 (v := .pointer (some ⟨f, 0, none⟩)) rfl)
  have hnf : ∀ g, (Value.slice ao n cp).ownBlock = some g → g ≠ c2 := fun g hg => HV.out.far hg
  have HNF := Lib.hid hnf
  have hls : (ls σ k).node = σ.node := rfl
  rw [hls] at HN
  clear hls hnf hV hno hE hnl hn hf hd hb hc1 hl hv
  generalize kindE (σ.node b).kind = EK at *
  generalize σ.node b = nd at *
  unfold infoV at *
  generalize nd.kind = x1 at *
  generalize nd.mode = x2 at *
  generalize nd.ino = x3 at *
  generalize nd.links = x4 at *
  generalize nd.size = x5 at *
  generalize ba nd.target = x6 at *
  generalize nd.uid = x7 at *
  generalize nd.mtime = x8 at *
  generalize ba p = X at *
  obtain ⟨ni, hni, hni0, hni1, hni2⟩ := info_parts Tryz.infoND
  go_enter Tryz.func33, Tryz.ntmps33
  go_upto_region 1 with (fail)
  have hk0 : Chg [] w (w.alloc (.cells #[.int .i64 x1, .int .i64 x2, .int .i64 x3, .int .i64 x4, .int .i64 x5, .string x6, .int .i64 x7, .int .i64 x8] 40)) := (Chg.refl _ _).alloc _
  have e0 : (w.alloc (.cells #[.int .i64 x1, .int .i64 x2, .int .i64 x3, .int .i64 x4, .int .i64 x5, .string x6, .int .i64 x7, .int .i64 x8] 40)).heap[w.heap.size]? = some (.cells #[.int .i64 x1, .int .i64 x2, .int .i64 x3, .int .i64 x4, .int .i64 x5, .string x6, .int .i64 x7, .int .i64 x8] 40 (0, 0)) := heap_alloc_new _ _
  have HK0 := Lib.hid hk0
  clear hk0
  generalize w.alloc (.cells #[.int .i64 x1, .int .i64 x2, .int .i64 x3, .int .i64 x4, .int .i64 x5, .string x6, .int .i64 x7, .int .i64 x8] 40) = W0 at *
  obtain ⟨bi, hbi⟩ : ∃ x, x = w.heap.size := ⟨_, rfl⟩
  rw [← hbi] at e0 ⊢
  clear hbi
  have cf := HC1.out W0 HK0.out
  have i0 := cell_heap e0 0 (v := .int .i64 x1) rfl
  have i1 := cell_heap e0 1 (v := .int .i64 x2) rfl
  have i2 := cell_heap e0 2 (v := .int .i64 x3) rfl
  have i3 := cell_heap e0 3 (v := .int .i64 x4) rfl
  have i4 := cell_heap e0 4 (v := .int .i64 x5) rfl
  have i5 := cell_heap e0 5 (v := .string x6) rfl
  have i6 := cell_heap e0 6 (v := .int .i64 x7) rfl
  have i7 := cell_heap e0 7 (v := .int .i64 x8) rfl
  clear e0
  go_upto_region 2 with (go_at_call 34; refine (HN.out _ HK0.out).mono ?_; rintro e w1 ⟨kk, m, c, P, T, a, l, cq, rfl, hq, hk1⟩; have HQ := Lib.hid (And.intro hq hk1); clear hq hk1)
  clear cf i0 i1 i2 i3 i4 i5 i6 i7
  have hk2 : Chg [] w1 (w1.alloc (.cells #[.int .i64 kk, .string P, .int .i64 m, .string T, .slice a l cq, .int .i64 c] 45)) := (Chg.refl _ _).alloc _
  have e1 := heap_alloc_new w1 (.cells #[.int .i64 kk, .string P, .int .i64 m, .string T, .slice a l cq, .int .i64 c] 45)
  have HK2 := Lib.hid (And.intro (HK0.out.trans HQ.out.2) hk2)
  clear hk2
  generalize w1.alloc (.cells #[.int .i64 kk, .string P, .int .i64 m, .string T, .slice a l cq, .int .i64 c] 45) = W2 at *
  obtain ⟨bn, hbn⟩ : ∃ x, x = w1.heap.size := ⟨_, rfl⟩
  rw [← hbn] at e1 ⊢
  clear hbn
  have j0 := cell_heap e1 0 (v := .int .i64 kk) rfl
  have j1 := cell_heap e1 1 (v := .string P) rfl
  have j2 := cell_heap e1 2 (v := .int .i64 m) rfl
  have j3 := cell_heap e1 3 (v := .string T) rfl
  have j4 := cell_heap e1 4 (v := .slice a l cq) rfl
  have j5 := cell_heap e1 5 (v := .int .i64 c) rfl
  clear e1
  have c0 := (HCE.out W2 (HK2.out.1.trans HK2.out.2)).1
  have hka : Chg [] w (W2.alloc (.cells #[.int .i64 kk, .string P, .int .i64 m, .string T, .slice a l cq, .int .i64 c] 45)) := (HK2.out.1.trans HK2.out.2).alloc _
  have HOB := Lib.hid (HCE.out _ hka).2
  have HKA := Lib.hid hka
  have hsz : w1.heap.size ≤ (W2.alloc (.cells #[.int .i64 kk, .string P, .int .i64 m, .string T, .slice a l cq, .int .i64 c] 45)).heap.size := (HK2.out.2.alloc _).size
  have HSZ := Lib.hid hsz
  have HK1A := Lib.hid (show Chg [] w1 (W2.alloc (.cells #[.int .i64 kk, .string P, .int .i64 m, .string T, .slice a l cq, .int .i64 c] 45)) from HK2.out.2.alloc _)
  clear hka hsz
  go_wp2_with (at_builtin; refine wpList_append_own_at _ rfl (.tmp 16) (.tmp 18) 35 rfl 0 45 ni (.agg #[.int .i64 0, .string ⟨#[]⟩, .int .i64 0, .string ⟨#[]⟩, .slice none 0 0, .int .i64 0]) 6 80 Tryz.underlying35 hni hni0 hni1 hni2 rfl (by omega) (.slice ao n cp) n (ndcells ns) rfl HOB.out ⟨W2.heap.size, 0, none⟩ 1 1 [.int .i64 kk, .string P, .int .i64 m, .string T, .slice a l cq, .int .i64 c] rfl rfl (nd_at W2 kk m c P T a l cq) (nd_one kk m c P T a l cq) (by unfold maxLen; omega) (by omega) (by omega) ?_; intro v5 w5 hown hgr hnil hat; obtain ⟨wa, wcap, rfl, -, -⟩ := own_rdS hown; have hk5 : Chg (Value.slice ao n cp).ownBlock.toList w1 w5 := (HK1A.out.mono (by simp)).grown hgr (fun x hx _ => by simp [hx]); have hkw5 : Chg (Value.slice ao n cp).ownBlock.toList w w5 := (HK2.out.1.mono (by simp)).trans hk5; have hb5 := hkw5.heap HV.out.blk (fun hm => by simp at hm; exact HNF.out _ hm rfl); have g5 : w5.cell? ⟨c2, 0, none⟩ = some (.slice ao n cp) := cell_heap hb5 0 rfl; have f5 : w5.frozen? ⟨c2, 0, none⟩ = false := frozen_of_row _ _ _ _ _ hb5; have HW5 := Lib.hid (And.intro hown (And.intro hk5 (grown_at (w0 := w1) hat hown HSZ.out))); clear hown hgr hnil hat hk5 hkw5 hb5)
  go_ret
  have hpt := HPUT.out w1 _ _ kk m c P T a l cq HK2.out.1 (fun h0 => ⟨(HQ.out.1 h0).1, (HQ.out.1 h0).2.choose, (HQ.out.1 h0).2.choose_spec.1, fun g hg => ?_⟩) HW5.out.2.1 HW5.out.1 HW5.out.2.2
  · exact ⟨rfl, hpt.1, hpt.2⟩
  · have := (HQ.out.1 h0).2.choose_spec.2 g hg
    have := HK0.out.size
    omega
end Go.Proofs.YtfhiioopimmahaaGreatDoor
namespace Go.Pax
open Go.RowKit
def cmpS (a b : Str) : Int := if a < b then -1 else if b < a then 1 else 0
theorem cmpS_lt {a b : Str} : cmpS a b < 0 ↔ a < b := by
  unfold cmpS
  by_cases h : a < b
  · simp [h]
  · rw [if_neg h]
    by_cases h2 : b < a
    · simp [h, h2]
    · simp [h, h2]
end Go.Pax
namespace Go.Proofs.YtfhiioopimmahaaGreatDoor
open Go.RowKit Go.Pax Go.Shelf
set_option maxHeartbeats 2000000 in
theorem compareS (a b : Str) (w : World) : Calls Tryz.prog 78 #[.string (ba a), .string (ba b)] w fun e w' => e = .returned (.int .i64 (cmpS a b)) ∧ w' = w := by
  have HN := Lib.hid isNaNS
  have h1 := ba_less a b
  by_cases hlt : a < b
  · have hc : cmpS a b = -1 := by unfold cmpS; rw [if_pos hlt]
    rw [decide_eq_true hlt] at h1
    rw [hc]
    clear hc hlt
    generalize ba a = A at *
    generalize ba b = B at *
    go_enter Tryz.func78, Tryz.ntmps78
    go_wp2_with (go_at_call 79; refine (HN.out _ _).mono ?_; rintro e w' ⟨rfl, rfl⟩)
    go_ret
    exact ⟨rfl, rfl⟩
  · rw [decide_eq_false hlt] at h1
    by_cases he : a = b
    · subst he
      have hc : cmpS a a = 0 := by unfold cmpS; rw [if_neg hlt, if_neg hlt]
      rw [hc]
      clear hc hlt
      generalize ba a = A at *
      go_enter Tryz.func78, Tryz.ntmps78
      go_wp2_with (go_at_call 79; refine (HN.out _ _).mono ?_; rintro e w' ⟨rfl, rfl⟩)
      go_ret
      exact ⟨rfl, rfl⟩
    · have hc : cmpS a b = 1 := by unfold cmpS; rw [if_neg hlt, if_pos (slt_total hlt he)]
      have hb : ((ba a).toList == (ba b).toList) = false := by rw [ba_tl, ba_tl]; simpa using he
      rw [hc]
      clear hc hlt he
      generalize ba a = A at *
      generalize ba b = B at *
      go_enter Tryz.func78, Tryz.ntmps78
      go_wp2_with (go_at_call 79; refine (HN.out _ _).mono ?_; rintro e w' ⟨rfl, rfl⟩)
      go_ret
      exact ⟨rfl, rfl⟩
set_option maxHeartbeats 4000000 in
theorem cmpNd (x y : ANode) (a1 a2 : Option Addr) (l1 c1 l2 c2 : Nat) (w : World) : Calls Tryz.prog 77 #[ndV x (.slice a1 l1 c1), ndV y (.slice a2 l2 c2)] w fun e w' => e = .returned (.int .i64 (cmpS x.path y.path)) ∧ Chg [] w w' := by
  have HC := Lib.hid (fun W => compareS x.path y.path W)
  unfold ndV
  generalize cmpS x.path y.path = R at *
  generalize x.kind = x1 at *
  generalize ba x.path = x2 at *
  generalize x.mode = x3 at *
  generalize ba x.target = x4 at *
  generalize x.cls = x5 at *
  generalize y.kind = y1 at *
  generalize ba y.path = y2 at *
  generalize y.mode = y3 at *
  generalize ba y.target = y4 at *
  generalize y.cls = y5 at *
  go_enter Tryz.func77, Tryz.ntmps77
  go_wp2_with (go_at_call 78; refine (HC.out _).mono ?_; rintro e w' ⟨rfl, rfl⟩)
  go_ret
  exact ⟨rfl, ((Chg.refl _ _).alloc _).alloc _⟩
end Go.Proofs.YtfhiioopimmahaaGreatDoor
namespace Go.Proofs.YtfhiioopimmahaaGreatDoor
open Go.RowKit Go.Pax Go.Shelf
/-- The cells of the i-th node. -/
def NdAt (w : World) (g i : Nat) (x : ANode) (a : Option Addr) (l c : Nat) : Prop :=
  w.cell? ⟨g, i * 6, none⟩ = some (.int .i64 x.kind) ∧ w.cell? ⟨g, i * 6 + 1, none⟩ = some (.string (ba x.path)) ∧ w.cell? ⟨g, i * 6 + 2, none⟩ = some (.int .i64 x.mode) ∧ w.cell? ⟨g, i * 6 + 3, none⟩ = some (.string (ba x.target)) ∧ w.cell? ⟨g, i * 6 + 4, none⟩ = some (.slice a l c) ∧ w.cell? ⟨g, i * 6 + 5, none⟩ = some (.int .i64 x.cls)
theorem own_nd {w : World} {B g n c : Nat} {L : List (ANode × Value)} (h : w.ownsRow B 45 6 (.slice (some ⟨g, 0, none⟩) n c) n (ndcells L)) {i : Nat} (hi : i < L.length) {a : Option Addr} {l cp : Nat} (hd : L[i].2 = .slice a l cp) : NdAt w g i L[i].1 a l cp := by
  have hc : ∀ j, j < 6 → ∀ u, (ndc L[i].1 L[i].2)[j]? = some u → w.cell? ⟨g, i * 6 + j, none⟩ = some u := fun j hj u hu => by
    have h1 := h.cells (g := g) rfl (i * 6 + j) u (by rw [ndcells_get L i hi j hj]; exact hu)
    rw [add_at] at h1
    exact h1
  refine ⟨?_, hc 1 (by omega) _ rfl, hc 2 (by omega) _ rfl, hc 3 (by omega) _ rfl, ?_, hc 5 (by omega) _ rfl⟩
  · have := hc 0 (by omega) _ rfl
    rw [Nat.add_zero] at this
    exact this
  · exact hc 4 (by omega) _ (by rw [hd]; rfl)
theorem NdAt.chg {w w' : World} {S : List Nat} {g i : Nat} {x : ANode} {a : Option Addr} {l c : Nat} (h : NdAt w g i x a l c) (k : Chg S w w') (hg : g ∉ S) : NdAt w' g i x a l c :=
  ⟨k.cell h.1 hg, k.cell h.2.1 hg, k.cell h.2.2.1 hg, k.cell h.2.2.2.1 hg, k.cell h.2.2.2.2.1 hg, k.cell h.2.2.2.2.2 hg⟩
end Go.Proofs.YtfhiioopimmahaaGreatDoor
