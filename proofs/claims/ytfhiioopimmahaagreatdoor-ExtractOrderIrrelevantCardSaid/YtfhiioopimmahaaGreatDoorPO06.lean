/- paxtar/vfs: List. paxtarlaw19: Do. Printed by wip/gen/gendo.py. -/
import Derived.Test.YtfhiioopimmahaaGreatDoorPO05
namespace Go.Pax
open Go.RowKit
/-- Where the next listing begins. -/
def rotAt (σ : Fs) : Int := σ.rot.getD (σ.lists % (σ.rot.length : Int)).toNat 0
/-- The next listing of a directory of these names. -/
def listed (σ : Fs) (l : List Str) : List Str :=
  let k := (rotAt σ % (l.length : Int)).toNat
  if rotAt σ % 2 = 1 then (l.drop k ++ l.take k).reverse else l.drop k ++ l.take k
theorem sv_drop' (l : List ByteArray) (n : Nat) : sv (l.drop n) = (sv l).drop n := by simp [sv, List.map_drop]
theorem sv_take' (l : List ByteArray) (n : Nat) : sv (l.take n) = (sv l).take n := by simp [sv, List.map_take]
theorem and1 (R : Nat) : bits .and .i64 (R : Int) 1 = ((R % 2 : Nat) : Int) := by
  have h : (BitVec.ofInt 64 (R : Int) &&& BitVec.ofInt 64 1).toNat = R % 2 := by
    rw [BitVec.toNat_and, BitVec.ofInt_natCast, BitVec.toNat_ofNat, show (BitVec.ofInt 64 1).toNat = 1 from rfl, Nat.and_one_is_mod]
    omega
  show IntKind.i64.wrap (((BitVec.ofInt 64 (R : Int) &&& BitVec.ofInt 64 1).toNat : Nat) : Int) = _
  rw [h]
  exact IntWalk.i64_in _ (by omega)
theorem own_low {w : World} {B B' : Nat} {e : TypeId} {s : Nat} {v : Value} {n : Nat} {xs : List Value} (h : w.ownsRow B e s v n xs) (hB : B' ≤ B) : w.ownsRow B' e s v n xs := by
  refine ⟨h.1, ?_⟩
  rcases h.2 with h | ⟨g, cap, cur, h1, h2, h3⟩
  · exact .inl h
  · exact .inr ⟨g, cap, cur, h1, Nat.le_trans hB h2, h3⟩
def listE (σ : Fs) (p : Str) : Int := match lkF σ.files p with
  | some b => if (σ.node b).kind = 0 then 0 else 8
  | none => 19
end Go.Pax
namespace Go.Proofs.YtfhiioopimmahaaGreatDoor
open Go.RowKit Go.Pax Go.Shelf
theorem heap_ad (w : World) (cs : Array Value) (t : TypeId) : ((w.alloc (.cells cs t)).drew).heap[w.heap.size]? = some (.cells cs t (0, 0)) := heap_alloc_new _ _
theorem concatT (w : World) (sb : Nat) (st : TypeId) (ao bo : Option Addr) (n1 c1 n2 c2 n : Nat) (fp1 fp2 : List Nat) (l1 l2 L : List ByteArray) (hs : w.heap[sb]? = some (.cells #[.slice ao n1 c1, .slice bo n2 c2] st (0, 0))) (hn1 : l1.length = n1) (hn2 : l2.length = n2)
    (h1 : Rd w fp1 ao (sv l1)) (h2 : Rd w fp2 bo (sv l2)) (h0 : 0 < n) (hb : n * 16 ≤ 140737488355328) (hn : n1 + n2 = n) (hL : l1 ++ l2 = L) :
    Calls Tryz.prog 97 #[.slice (some ⟨sb, 0, none⟩) 2 2] w fun e w' => ∃ a c, e = .returned (.slice a n c) ∧ w'.ownsRow w.heap.size 9 1 (.slice a n c) n (sv L) ∧ Chg [] w w' := by
  subst hn hL
  exact concatS w sb st ao bo n1 c1 n2 c2 fp1 fp2 l1 l2 hs hn1 hn2 h1 h2 h0 hb
/-- From w to w' the file system has come to σ in its own blocks. -/
def FsSame (w w' : World) (f : Nat) (O : List Nat) (σ : Fs) : Prop := FsAt w' f O σ ∧ Chg O w w'
theorem FsSame.to {w w' : World} {f : Nat} {O : List Nat} {σ : Fs} (h : FsSame w w' f O σ) : FsTo w w' f O σ := ⟨O, ⟨h.1, fun _ hg => .inl hg⟩, h.2⟩
def ListAs (e : Ending) (w w' : World) (f : Nat) (O : List Nat) (σ : Fs) (p : Str) : Prop :=
  (listE σ p ≠ 0 → e = .returned (.tuple #[.slice none 0 0, .int .i64 (listE σ p)]) ∧ Chg [] w w') ∧
  (listE σ p = 0 → ∃ b ao n c, lkF σ.files p = some b ∧ e = .returned (.tuple #[.slice ao n c, .int .i64 0]) ∧ n = (σ.node b).names.length ∧ w'.ownsRow w.heap.size 9 1 (.slice ao n c) n (svn (listed σ (σ.node b).names)) ∧ FsSame w w' f O { σ with lists := σ.lists + 1 })
set_option maxHeartbeats 2000000 in
theorem list_nil (w : World) (P : ByteArray) : Calls Tryz.prog 69 #[.pointer none, .string P] w fun e w' => e = .returned (.tuple #[.slice none 0 0, .int .i64 1]) ∧ Chg [] w w' := by
  go_enter Tryz.func69, Tryz.ntmps69
  go_wp2_with (go_at_call 36; refine (find_nil _ _).mono ?_; rintro e w' ⟨rfl, rfl⟩)
  go_ret2
  exact ⟨rfl, Chg.refl _ _⟩
theorem fs_listed {w : World} {f : Nat} {O : List Nat} {σ : Fs} {m : Nat} {rv : Value} {dv nv : Nat → Value} (h : FsIn w f O σ m rv dv nv) : FsIn (w.setCell ⟨f, 3, none⟩ (.int .i64 (σ.lists + 1))) f O { σ with lists := σ.lists + 1 } m rv dv nv := by
  have k : Chg [f] w (w.setCell ⟨f, 3, none⟩ (.int .i64 (σ.lists + 1))) := (Chg.refl _ _).setCell (fun _ => by simp) _
  have := h.setF k σ.next (σ.lists + 1) (heap_set h.blk 3 (.int .i64 (σ.lists + 1)) rfl)
  exact this
set_option maxRecDepth 100000 in
set_option maxHeartbeats 8000000 in
theorem list (w : World) (f : Nat) (O : List Nat) (σ : Fs) (p : Str) (h : FsAt w f O σ) (hok : σ.Ok) :
    Calls Tryz.prog 69 #[.pointer (some ⟨f, 0, none⟩), .string (ba p)] w fun e w' => ListAs e w w' f O σ p := by
  have hf := find w f O σ p h
  have HF := Lib.hid hf
  clear hf
  have hLE : listE σ p = match lkF σ.files p with | some b => if (σ.node b).kind = 0 then 0 else 8 | none => 19 := rfl
  unfold found at HF
  cases hk : lkF σ.files p with
  | none =>
    rw [hk] at HF hLE
    simp only at HF hLE
    have HLE := Lib.hid hLE
    clear hk h hLE
    generalize hP : ba p = P at *
    have HP := Lib.hid hP
    clear hP
    go_enter Tryz.func69, Tryz.ntmps69
    go_wp2_with (go_at_call 36; refine HF.out.mono ?_; rintro e w' ⟨rfl, rfl⟩)
    go_ret2
    unfold ListAs
    rw [HLE.out]
    exact ⟨fun _ => ⟨rfl, Chg.refl _ _⟩, fun h => by cases h⟩
  | some b =>
    rw [hk] at HF hLE
    simp only at HF hLE
    obtain ⟨m, rv, dv, nv, h⟩ := h
    have hbm := lkF_mem hk
    have hN := h.nodes _ _ hbm
    obtain ⟨c0, _, _, _, _, _, _, _, _, c9⟩ := hN.cells
    obtain ⟨_, _, q2, q3, _⟩ := h.cells
    have hltb := lt_of_block hN.blk
    have hltf := lt_of_block h.blk
    have ff3 : w.frozen? ⟨f, 3, none⟩ = false := frozen_of_row _ _ _ _ _ h.blk
    have hbf : b ≠ f := ne_of_types hN.blk h.blk (by decide)
    by_cases hkd : (σ.node b).kind = 0
    · rw [if_pos hkd] at hLE
      rw [hkd] at c0
      obtain ⟨na, nc, hnv⟩ := hN.names.shape
      obtain ⟨ra, rc, hrv⟩ := h.rot.shape
      have hnl := hok.names _ _ hbm
      have hll := hok.lists
      have hrl := hok.rotl
      have hnrow := hN.names
      have hrrow := h.rot
      have hfs := fs_listed h
      rw [hnv] at hnrow c9
      rw [hrv] at hrrow q2
      rw [svn_length] at hnrow c9
      rw [iv_length] at hrrow q2
      have hnrd := hnrow.rd.2
      have hrrd := hrrow.rd.2
      have hw3 : IntKind.i64.wrap (σ.lists + 1) = σ.lists + 1 := IntWalk.i64_in _ (by omega)
      have hnf : ∀ g ∈ (Value.slice na (σ.node b).names.length nc).ownBlock.toList, g ≠ f := fun g hg => by
        obtain ⟨cc, hc⟩ := hnrow.block (g := g) (by simpa using hg)
        exact ne_of_types hc h.blk (by decide)
      have HX := Lib.hid (And.intro h (And.intro hok (And.intro hk (And.intro hnrow (And.intro hfs hnf)))))
      have HRR := Lib.hid (And.intro hnrd hrrd)
      have HLE := Lib.hid hLE
      have hncap := hnrd.2
      clear h hN hk hok hnrow hrrow hnrd hrrd hbm hLE hfs hnf
      generalize hNL : (σ.node b).names.length = NL at *
      generalize hRL : σ.rot.length = RL at *
      obtain ⟨LI, hLI⟩ : ∃ LI : Nat, σ.lists = (LI : Int) := ⟨σ.lists.toNat, by omega⟩
      rw [hLI] at hw3 q3 hll
      generalize hP : ba p = P at *
      have HH := Lib.hid (And.intro hNL (And.intro hRL (And.intro hLI hP)))
      clear hNL hRL hLI hP
      by_cases hr0 : RL = 0
      · skip
        obtain ⟨R, hR0⟩ : ∃ R : Nat, R = 0 := ⟨0, rfl⟩
        have hRz : ((R : Nat) : Int) = 0 := by omega
        have hR : rotAt σ = (R : Int) := by
          unfold rotAt
          rw [List.eq_nil_of_length_eq_zero (HH.out.2.1.trans hr0), hRz]
          rfl
        have HR := Lib.hid hR
        clear hR
        subst hr0
        subst hR0
        by_cases hn0 : NL = 0
        · subst hn0
          go_enter Tryz.func69, Tryz.ntmps69
          go_wp2_with (go_at_call 36; refine HF.out.mono ?_; rintro e w' ⟨rfl, rfl⟩)
          go_ret2
          unfold ListAs
          rw [HLE.out]
          refine ⟨fun h => absurd rfl h, fun _ => ⟨b, none, 0, 0, HX.out.2.2.1, rfl, HH.out.1.symm, ?_, ?_⟩⟩
          · have hn : (σ.node b).names = [] := List.eq_nil_of_length_eq_zero HH.out.1
            rw [hn]
            have : listed σ [] = [] := by simp [listed]
            rw [this]
            exact World.ownsRow_nil _ _ _ _
          · have := HX.out.2.2.2.2.1
            rw [HH.out.2.2.1] at this ⊢
            refine ⟨⟨m, rv, dv, nv, ?_⟩, ?_⟩
            · exact this
            · exact (Chg.refl O w').setCell (fun _ => HX.out.1.own.1) _
        have hnp : (NL : Int) > 0 := by omega
        have hnn : ¬ (NL : Int) = 0 := by omega
        have hnb : ((NL : Int) == 0) = false := by simpa using hnn
        go_enter Tryz.func69, Tryz.ntmps69
        go_upto_region 13 with (go_at_call 36; refine HF.out.mono ?_; rintro e w' ⟨rfl, rfl⟩)
        obtain ⟨W, hW⟩ : ∃ W, (w'.setCell ⟨f, 3, none⟩ (.int .i64 ((LI : Int) + 1))) = W := ⟨_, rfl⟩
        have hkW : Chg [f] w' W := by rw [← hW]; exact (Chg.refl [f] w').setCell (fun _ => by simp) _
        have hfW : FsIn W f O { σ with lists := σ.lists + 1 } m rv dv nv := by
          have h1 := HX.out.2.2.2.2.1
          rw [HH.out.2.2.1] at h1 ⊢
          rw [← hW]
          exact h1
        have e9 : W.cell? ⟨b, 9, none⟩ = some (.slice na NL nc) := hkW.cell c9 (by simpa using hbf)
        have hnW : Rd W (Value.slice na NL nc).ownBlock.toList na (sv ((σ.node b).names.map ba)) := HRR.out.1.1.chg hkW (fun g hg => by simpa using HX.out.2.2.2.2.2 g hg)
        have hdW := hnW
        have htW := hnW
        have HW := Lib.hid (And.intro hkW (And.intro hfW (And.intro hnW (And.intro hdW htW))))
        rw [hW]
        clear hW hkW hfW hnW hdW htW
        have hltW : b < W.heap.size := World.block_lt_of_cell? W _ e9
        refine wp_region_held_drew (S := fun q => q.cell? ⟨b, 9, none⟩ = some (.slice na NL nc) ∧ Chg [] W q) (by kernel_rfl) ?_ (fun hHeld => ?_)
        · exact ⟨e9, (Chg.refl _ _).drew⟩
        refine wpAnyH_take (i := 0) (oi := ?oi1) (v := ?v1) ?hi1 (by kernel_rfl) (by kernel_rfl) (by kernel_rfl) ?hQ1 (Or.inl ⟨?hw1, ?hy1⟩) (by assumption) ?hr1
        case hi1 => simp only [List.getElem?_toArray, List.getElem?_cons_zero]; rfl
        case hQ1 => exact fun _ _ _ h => h
        case hw1 => rfl
        case hy1 => intro w hSw; (try dsimp only at hSw); go_simp; (try with_reducible rfl)
        case hr1 =>
        simp only [Act.put, List.setIfInBounds_toArray, List.set_cons_zero, List.set_cons_succ]
        refine wpAnyH_take (i := 1) (oi := ?oi2) (v := ?v2) ?hi2 (by kernel_rfl) (by kernel_rfl) (by kernel_rfl) ?hQ2 (Or.inl ⟨?hw2, ?hy2⟩) (by assumption) ?hr2
        case hi2 => simp only [List.getElem?_toArray, List.getElem?_cons_succ, List.getElem?_cons_zero]; rfl
        case hQ2 => exact fun _ _ _ h => h
        case hw2 => rfl
        case hy2 => intro w hSw; (try dsimp only at hSw); go_simp; (try with_reducible rfl)
        case hr2 =>
        simp only [Act.put, List.setIfInBounds_toArray, List.set_cons_zero, List.set_cons_succ]
        refine wpAnyH_take (i := 2) (oi := ?oi3) (v := ?v3) ?hi3 (by kernel_rfl) (by kernel_rfl) (by kernel_rfl) ?hQ3 (Or.inl ⟨?hw3, ?hy3⟩) (by assumption) ?hr3
        case hi3 => simp only [List.getElem?_toArray, List.getElem?_cons_succ, List.getElem?_cons_zero]; rfl
        case hQ3 => exact fun _ _ _ h => h
        case hw3 => rfl
        case hy3 => intro w hSw; (try dsimp only at hSw); go_simp; (try with_reducible rfl)
        case hr3 =>
        simp only [Act.put, List.setIfInBounds_toArray, List.set_cons_zero, List.set_cons_succ]
        refine wpAnyH_take (i := 3) (oi := ?oi4) (v := ?v4) ?hi4 (by kernel_rfl) (by kernel_rfl) (by kernel_rfl) ?hQ4 (Or.inl ⟨?hw4, ?hy4⟩) (by assumption) ?hr4
        case hi4 => simp only [List.getElem?_toArray, List.getElem?_cons_succ, List.getElem?_cons_zero]; rfl
        case hQ4 => exact fun _ _ _ h => h
        case hw4 => rfl
        case hy4 => intro w hSw; (try dsimp only at hSw); go_simp; (try with_reducible rfl)
        case hr4 =>
        simp only [Act.put, List.setIfInBounds_toArray, List.set_cons_zero, List.set_cons_succ]
        refine wpAnyH_take (i := 4) (oi := ?oi5) (v := ?v5) ?hi5 (by kernel_rfl) (by kernel_rfl) (by kernel_rfl) ?hQ5 (Or.inl ⟨?hw5, ?hy5⟩) (by assumption) ?hr5
        case hi5 => simp only [List.getElem?_toArray, List.getElem?_cons_succ, List.getElem?_cons_zero]; rfl
        case hQ5 => exact fun _ _ _ h => h
        case hw5 => rfl
        case hy5 => intro w hSw; (try dsimp only at hSw); go_simp; (try with_reducible rfl)
        case hr5 =>
        simp only [Act.put, List.setIfInBounds_toArray, List.set_cons_zero, List.set_cons_succ]
        refine wpAnyH_take (i := 5) (oi := ?oi6) (v := ?v6) ?hi6 (by kernel_rfl) (by kernel_rfl) (by kernel_rfl) ?hQ6 (Or.inl ⟨?hw6, ?hy6⟩) (by assumption) ?hr6
        case hi6 => simp only [List.getElem?_toArray, List.getElem?_cons_succ, List.getElem?_cons_zero]; rfl
        case hQ6 => exact fun _ _ _ h => h
        case hw6 => rfl
        case hy6 => intro w hSw; (try dsimp only at hSw); go_simp; (try with_reducible rfl)
        case hr6 =>
        simp only [Act.put, List.setIfInBounds_toArray, List.set_cons_zero, List.set_cons_succ]
        refine wpAnyH_take (i := 6) (oi := ?oi7) (v := ?v7) ?hi7 (by kernel_rfl) (by kernel_rfl) (by kernel_rfl) ?hQ7 (Or.inl ⟨?hw7, ?hy7⟩) (by assumption) ?hr7
        case hi7 => simp only [List.getElem?_toArray, List.getElem?_cons_succ, List.getElem?_cons_zero]; rfl
        case hQ7 => exact fun _ _ _ h => h
        case hw7 => rfl
        case hy7 => intro w hSw; (try dsimp only at hSw); go_simp; (try with_reducible rfl)
        case hr7 =>
        simp only [Act.put, List.setIfInBounds_toArray, List.set_cons_zero, List.set_cons_succ]
        refine wpAnyH_take (i := 7) (oi := ?oi8) (v := ?v8) ?hi8 (by kernel_rfl) (by kernel_rfl) (by kernel_rfl) ?hQ8 (Or.inl ⟨?hw8, ?hy8⟩) (by assumption) ?hr8
        case hi8 => simp only [List.getElem?_toArray, List.getElem?_cons_succ, List.getElem?_cons_zero]; rfl
        case hQ8 => exact fun _ _ _ h => h
        case hw8 => rfl
        case hy8 => intro w hSw; (try dsimp only at hSw); go_simp; (try with_reducible rfl)
        case hr8 =>
        simp only [Act.put, List.setIfInBounds_toArray, List.set_cons_zero, List.set_cons_succ]
        refine wpAnyH_take (i := 8) (oi := ?oi9) (v := ?v9) ?hi9 (by kernel_rfl) (by kernel_rfl) (by kernel_rfl) ?hQ9 (Or.inl ⟨?hw9, ?hy9⟩) (by assumption) ?hr9
        case hi9 => simp only [List.getElem?_toArray, List.getElem?_cons_succ, List.getElem?_cons_zero]; rfl
        case hQ9 => exact fun _ _ _ h => h
        case hw9 => rfl
        case hy9 => intro w hSw; (try dsimp only at hSw); go_simp; (try with_reducible rfl)
        case hr9 =>
        simp only [Act.put, List.setIfInBounds_toArray, List.set_cons_zero, List.set_cons_succ]
        refine wpAnyH_take (i := 9) (oi := ?oi10) (v := ?v10) ?hi10 (by kernel_rfl) (by kernel_rfl) (by kernel_rfl) ?hQ10 (Or.inl ⟨?hw10, ?hy10⟩) (by assumption) ?hr10
        case hi10 => simp only [List.getElem?_toArray, List.getElem?_cons_succ, List.getElem?_cons_zero]; rfl
        case hQ10 => exact fun _ _ _ h => h
        case hw10 => rfl
        case hy10 => intro w hSw; (try dsimp only at hSw); go_simp; (try with_reducible rfl)
        case hr10 =>
        simp only [Act.put, List.setIfInBounds_toArray, List.set_cons_zero, List.set_cons_succ]
        refine wpAnyH_take (i := 10) (oi := ?oi11) (v := ?v11) ?hi11 (by kernel_rfl) (by kernel_rfl) (by kernel_rfl) ?hQ11 (Or.inl ⟨?hw11, ?hy11⟩) (by assumption) ?hr11
        case hi11 => simp only [List.getElem?_toArray, List.getElem?_cons_succ, List.getElem?_cons_zero]; rfl
        case hQ11 => exact fun _ _ _ h => h
        case hw11 => rfl
        case hy11 => intro w hSw; (try dsimp only at hSw); go_simp; (try with_reducible rfl)
        case hr11 =>
        simp only [Act.put, List.setIfInBounds_toArray, List.set_cons_zero, List.set_cons_succ]
        refine wpAnyH_take (i := 11) (oi := ?oi12) (v := ?v12) ?hi12 (by kernel_rfl) (by kernel_rfl) (by kernel_rfl) ?hQ12 (Or.inl ⟨?hw12, ?hy12⟩) (by assumption) ?hr12
        case hi12 => simp only [List.getElem?_toArray, List.getElem?_cons_succ, List.getElem?_cons_zero]; rfl
        case hQ12 => exact fun _ _ _ h => h
        case hw12 => rfl
        case hy12 => intro w hSw; (try dsimp only at hSw); go_simp; (try with_reducible rfl)
        case hr12 =>
        simp only [Act.put, List.setIfInBounds_toArray, List.set_cons_zero, List.set_cons_succ]
        refine wpAnyH_ready (rs := [12]) (by kernel_rfl) (by simp) (AllReadyH.cons (o := ?oc13) ?hc13 (fun K hK => ?hs13) AllReadyH.nil)
        case hc13 => simp only [List.getElem?_toArray, List.getElem?_cons_succ, List.getElem?_cons_zero]; rfl
        case hs13 =>
        rw [if_pos (by rfl)]
        go_simp
        skip
        go_wp2_with fail
        refine hK.out _ _ ?_ (fun hHeld => ?_)
        · exact ⟨Lib.cell?_alloc_some _ hHeld.1, hHeld.2.alloc _⟩
        clear hK K
        try simp only [Act.put, List.setIfInBounds_toArray, List.set_cons_zero, List.set_cons_succ]
        refine wpAnyH_ready (rs := [13]) (by kernel_rfl) (by simp) (AllReadyH.cons (o := ?oc14) ?hc14 (fun K hK => ?hs14) AllReadyH.nil)
        case hc14 => simp only [List.getElem?_toArray, List.getElem?_cons_succ, List.getElem?_cons_zero]; rfl
        case hs14 =>
        rw [if_pos (by rfl)]
        go_simp
        go_at_call 97; refine (concatT _ W.heap.size 47 na na NL nc 0 nc NL _ [] ((σ.node b).names.map ba) [] ((σ.node b).names.map ba) (heap_ad W _ _) (by rw [List.length_map, HH.out.1]) rfl (HW.out.2.2.1.chg (S := []) ((Chg.refl [] W).alloc _).drew (by simp)) (Rd.nil _ _ _) (by omega) (by omega) rfl (by simp)).mono ?_; rintro e w5 ⟨a5, c5, rfl, hown5, k5⟩; have H5 := Lib.hid (And.intro hown5 k5); have k5' : Chg [] W w5 := (((Chg.refl [] W).alloc _).drew).trans k5; clear hown5 k5
        go_wp2_with fail
        refine hK.out _ _ ?_ (fun hHeld => ?_)
        · exact ⟨k5'.cell e9 (by simp), k5'⟩
        clear hK K
        try simp only [Act.put, List.setIfInBounds_toArray, List.set_cons_zero, List.set_cons_succ]
        refine wpAnyH_take (i := 14) (oi := ?oi15) (v := ?v15) ?hi15 (by kernel_rfl) (by kernel_rfl) (by kernel_rfl) ?hQ15 (Or.inl ⟨?hw15, ?hy15⟩) (by assumption) ?hr15
        case hi15 => simp only [List.getElem?_toArray, List.getElem?_cons_succ, List.getElem?_cons_zero]; rfl
        case hQ15 => exact fun _ _ _ h => h
        case hw15 => rfl
        case hy15 => intro w hSw; (try dsimp only at hSw); go_simp; (try with_reducible rfl)
        case hr15 =>
        simp only [Act.put, List.setIfInBounds_toArray, List.set_cons_zero, List.set_cons_succ]
        refine wpAnyH_done (by kernel_rfl) ?_ _
        clear hHeld
        go_wp2_with fail
        go_ret2
        unfold ListAs
        rw [HLE.out]
        refine ⟨fun h => absurd rfl h, fun _ => ⟨b, a5, NL, c5, HX.out.2.2.1, rfl, HH.out.1.symm, ?_, ⟨m, rv, dv, nv, HW.out.2.1.foreign k5' (by simp)⟩, (HW.out.1.mono (by simpa using fun _ => HX.out.1.own.1)).trans (k5'.mono (by simp))⟩⟩
        have hlow : w'.heap.size ≤ ((W.alloc (.cells #[.slice na NL nc, .slice na 0 nc] 47)).drew).heap.size := by
          have h1 := HW.out.1.size
          show w'.heap.size ≤ (W.alloc _).heap.size
          simp; omega
        have := own_low H5.out.1 hlow
        have hL : listed σ (σ.node b).names = (σ.node b).names := by
          unfold listed
          rw [HR.out]
          simp
        rw [hL]
        exact this
      · skip
        have hrp : (RL : Int) > 0 := by omega
        have hrn : ¬ (RL : Int) = 0 := by omega
        have hjlt : LI % RL < RL := Nat.mod_lt _ (by omega)
        have htm : (LI : Int).tmod (RL : Int) = ((LI % RL : Nat) : Int) := rfl
        have hrot : rotAt σ = σ.rot.getD (LI % RL) 0 := by
          unfold rotAt
          rw [HH.out.2.1, HH.out.2.2.1, ← Int.natCast_emod, Int.toNat_natCast]
        obtain ⟨ad, rfl, _, hrc⟩ := HRR.out.2.1 (LI % RL) _ (iv_get σ.rot (LI % RL) (by rw [HH.out.2.1]; exact hjlt))
        have hr0' : 0 ≤ rotAt σ := by
          rw [hrot]
          have hlt : LI % RL < σ.rot.length := by rw [HH.out.2.1]; exact hjlt
          simp only [List.getD_eq_getElem?_getD, List.getElem?_eq_getElem hlt, Option.getD_some]
          exact HX.out.2.1.rot _ (List.getElem_mem hlt)
        have hrg : (σ.rot[LI % RL]'(by rw [HH.out.2.1]; exact hjlt)) = rotAt σ := by
          rw [hrot]
          have hlt : LI % RL < σ.rot.length := by rw [HH.out.2.1]; exact hjlt
          simp only [List.getD_eq_getElem?_getD, List.getElem?_eq_getElem hlt, Option.getD_some]
        rw [hrg] at hrc
        obtain ⟨R, hR⟩ : ∃ R : Nat, rotAt σ = (R : Int) := ⟨(rotAt σ).toNat, by omega⟩
        rw [hR] at hrc
        have HR := Lib.hid hR
        clear hrot hrg hr0' hR
        have hjz : ((LI % RL : Nat) : Int) < (RL : Int) := by omega
        generalize LI % RL = j at *
        by_cases hn0 : NL = 0
        · subst hn0
          go_enter Tryz.func69, Tryz.ntmps69
          go_upto_region 8 with (go_at_call 36; refine HF.out.mono ?_; rintro e w' ⟨rfl, rfl⟩)
          go_quiet (fail)
          go_wp2_with fail
          go_ret2
          unfold ListAs
          rw [HLE.out]
          refine ⟨fun h => absurd rfl h, fun _ => ⟨b, none, 0, 0, HX.out.2.2.1, rfl, HH.out.1.symm, ?_, ?_⟩⟩
          · have hn : (σ.node b).names = [] := List.eq_nil_of_length_eq_zero HH.out.1
            rw [hn]
            have : listed σ [] = [] := by simp [listed]
            rw [this]
            exact World.ownsRow_nil _ _ _ _
          · have := HX.out.2.2.2.2.1
            rw [HH.out.2.2.1] at this ⊢
            refine ⟨⟨m, rv, dv, nv, ?_⟩, ?_⟩
            · exact this.foreign ((Chg.refl [] _).drewN _) (by simp)
            · exact ((Chg.refl O w').drewN _).setCell (fun _ => HX.out.1.own.1) _
        have hnp : (NL : Int) > 0 := by omega
        have hnn : ¬ (NL : Int) = 0 := by omega
        have hnb : ((NL : Int) == 0) = false := by simpa using hnn
        go_enter Tryz.func69, Tryz.ntmps69
        go_upto_region 8 with (go_at_call 36; refine HF.out.mono ?_; rintro e w' ⟨rfl, rfl⟩)
        go_quiet (fail)
        go_upto_region 13 with fail
        obtain ⟨KN, hK⟩ : ∃ KN, R % NL = KN := ⟨_, rfl⟩
        have hKI : ((R : Int) % (NL : Int)) = (KN : Int) := by rw [← hK]; rfl
        rw [hKI]
        have hKlt : KN < NL := by rw [← hK]; exact Nat.mod_lt _ (by omega)
        have hKL : (KN : Int) < (NL : Int) := by omega
        have hKC : KN ≤ nc := by omega
        have hKN : KN ≤ NL := by omega
        have HK := Lib.hid hK
        clear hK hKI
        obtain ⟨W, hW⟩ : ∃ W, ((w'.drewN nq).setCell ⟨f, 3, none⟩ (.int .i64 ((LI : Int) + 1))) = W := ⟨_, rfl⟩
        have hkW : Chg [f] w' W := by rw [← hW]; exact ((Chg.refl [f] w').drewN nq).setCell (fun _ => by simp) _
        have hfW : FsIn W f O { σ with lists := σ.lists + 1 } m rv dv nv := by
          have h1 := HX.out.2.2.2.2.1
          rw [HH.out.2.2.1] at h1 ⊢
          rw [← hW]
          exact h1.foreign ((Chg.refl [] _).drewN nq) (by simp)
        have e9 : W.cell? ⟨b, 9, none⟩ = some (.slice na NL nc) := hkW.cell c9 (by simpa using hbf)
        have hnW : Rd W (Value.slice na NL nc).ownBlock.toList na (sv ((σ.node b).names.map ba)) := HRR.out.1.1.chg hkW (fun g hg => by simpa using HX.out.2.2.2.2.2 g hg)
        have hdW : Rd W (Value.slice na NL nc).ownBlock.toList (Option.map (fun x => x.add KN) na) (sv (((σ.node b).names.map ba).drop KN)) := by have hcA : cutA na nc KN = Option.map (fun x => x.add KN) na := (by unfold cutA; rw [if_neg (by omega)]); rw [← hcA]; have := hnW.drop KN nc (by rw [sv_length, List.length_map, HH.out.1]; exact hncap); rwa [← sv_drop'] at this
        have htW : Rd W (Value.slice na NL nc).ownBlock.toList na (sv (((σ.node b).names.map ba).take KN)) := by have := hnW.take KN; rwa [← sv_take'] at this
        have HW := Lib.hid (And.intro hkW (And.intro hfW (And.intro hnW (And.intro hdW htW))))
        rw [hW]
        clear hW hkW hfW hnW hdW htW
        have hltW : b < W.heap.size := World.block_lt_of_cell? W _ e9
        refine wp_region_held_drew (S := fun q => q.cell? ⟨b, 9, none⟩ = some (.slice na NL nc) ∧ Chg [] W q) (by kernel_rfl) ?_ (fun hHeld => ?_)
        · exact ⟨e9, (Chg.refl _ _).drew⟩
        refine wpAnyH_take (i := 0) (oi := ?oi16) (v := ?v16) ?hi16 (by kernel_rfl) (by kernel_rfl) (by kernel_rfl) ?hQ16 (Or.inl ⟨?hw16, ?hy16⟩) (by assumption) ?hr16
        case hi16 => simp only [List.getElem?_toArray, List.getElem?_cons_zero]; rfl
        case hQ16 => exact fun _ _ _ h => h
        case hw16 => rfl
        case hy16 => intro w hSw; (try dsimp only at hSw); go_simp; (try with_reducible rfl)
        case hr16 =>
        simp only [Act.put, List.setIfInBounds_toArray, List.set_cons_zero, List.set_cons_succ]
        refine wpAnyH_take (i := 1) (oi := ?oi17) (v := ?v17) ?hi17 (by kernel_rfl) (by kernel_rfl) (by kernel_rfl) ?hQ17 (Or.inl ⟨?hw17, ?hy17⟩) (by assumption) ?hr17
        case hi17 => simp only [List.getElem?_toArray, List.getElem?_cons_succ, List.getElem?_cons_zero]; rfl
        case hQ17 => exact fun _ _ _ h => h
        case hw17 => rfl
        case hy17 => intro w hSw; (try dsimp only at hSw); go_simp; (try with_reducible rfl)
        case hr17 =>
        simp only [Act.put, List.setIfInBounds_toArray, List.set_cons_zero, List.set_cons_succ]
        refine wpAnyH_take (i := 2) (oi := ?oi18) (v := ?v18) ?hi18 (by kernel_rfl) (by kernel_rfl) (by kernel_rfl) ?hQ18 (Or.inl ⟨?hw18, ?hy18⟩) (by assumption) ?hr18
        case hi18 => simp only [List.getElem?_toArray, List.getElem?_cons_succ, List.getElem?_cons_zero]; rfl
        case hQ18 => exact fun _ _ _ h => h
        case hw18 => rfl
        case hy18 => intro w hSw; (try dsimp only at hSw); go_simp; (try with_reducible rfl)
        case hr18 =>
        simp only [Act.put, List.setIfInBounds_toArray, List.set_cons_zero, List.set_cons_succ]
        refine wpAnyH_take (i := 3) (oi := ?oi19) (v := ?v19) ?hi19 (by kernel_rfl) (by kernel_rfl) (by kernel_rfl) ?hQ19 (Or.inl ⟨?hw19, ?hy19⟩) (by assumption) ?hr19
        case hi19 => simp only [List.getElem?_toArray, List.getElem?_cons_succ, List.getElem?_cons_zero]; rfl
        case hQ19 => exact fun _ _ _ h => h
        case hw19 => rfl
        case hy19 => intro w hSw; (try dsimp only at hSw); go_simp; (try with_reducible rfl)
        case hr19 =>
        simp only [Act.put, List.setIfInBounds_toArray, List.set_cons_zero, List.set_cons_succ]
        refine wpAnyH_take (i := 4) (oi := ?oi20) (v := ?v20) ?hi20 (by kernel_rfl) (by kernel_rfl) (by kernel_rfl) ?hQ20 (Or.inl ⟨?hw20, ?hy20⟩) (by assumption) ?hr20
        case hi20 => simp only [List.getElem?_toArray, List.getElem?_cons_succ, List.getElem?_cons_zero]; rfl
        case hQ20 => exact fun _ _ _ h => h
        case hw20 => rfl
        case hy20 => intro w hSw; (try dsimp only at hSw); go_simp; (try with_reducible rfl)
        case hr20 =>
        simp only [Act.put, List.setIfInBounds_toArray, List.set_cons_zero, List.set_cons_succ]
        refine wpAnyH_take (i := 5) (oi := ?oi21) (v := ?v21) ?hi21 (by kernel_rfl) (by kernel_rfl) (by kernel_rfl) ?hQ21 (Or.inl ⟨?hw21, ?hy21⟩) (by assumption) ?hr21
        case hi21 => simp only [List.getElem?_toArray, List.getElem?_cons_succ, List.getElem?_cons_zero]; rfl
        case hQ21 => exact fun _ _ _ h => h
        case hw21 => rfl
        case hy21 => intro w hSw; (try dsimp only at hSw); go_simp; (try with_reducible rfl)
        case hr21 =>
        simp only [Act.put, List.setIfInBounds_toArray, List.set_cons_zero, List.set_cons_succ]
        refine wpAnyH_take (i := 6) (oi := ?oi22) (v := ?v22) ?hi22 (by kernel_rfl) (by kernel_rfl) (by kernel_rfl) ?hQ22 (Or.inl ⟨?hw22, ?hy22⟩) (by assumption) ?hr22
        case hi22 => simp only [List.getElem?_toArray, List.getElem?_cons_succ, List.getElem?_cons_zero]; rfl
        case hQ22 => exact fun _ _ _ h => h
        case hw22 => rfl
        case hy22 => intro w hSw; (try dsimp only at hSw); go_simp; (try with_reducible rfl)
        case hr22 =>
        simp only [Act.put, List.setIfInBounds_toArray, List.set_cons_zero, List.set_cons_succ]
        refine wpAnyH_take (i := 7) (oi := ?oi23) (v := ?v23) ?hi23 (by kernel_rfl) (by kernel_rfl) (by kernel_rfl) ?hQ23 (Or.inl ⟨?hw23, ?hy23⟩) (by assumption) ?hr23
        case hi23 => simp only [List.getElem?_toArray, List.getElem?_cons_succ, List.getElem?_cons_zero]; rfl
        case hQ23 => exact fun _ _ _ h => h
        case hw23 => rfl
        case hy23 => intro w hSw; (try dsimp only at hSw); go_simp; (try with_reducible rfl)
        case hr23 =>
        simp only [Act.put, List.setIfInBounds_toArray, List.set_cons_zero, List.set_cons_succ]
        refine wpAnyH_take (i := 8) (oi := ?oi24) (v := ?v24) ?hi24 (by kernel_rfl) (by kernel_rfl) (by kernel_rfl) ?hQ24 (Or.inl ⟨?hw24, ?hy24⟩) (by assumption) ?hr24
        case hi24 => simp only [List.getElem?_toArray, List.getElem?_cons_succ, List.getElem?_cons_zero]; rfl
        case hQ24 => exact fun _ _ _ h => h
        case hw24 => rfl
        case hy24 => intro w hSw; (try dsimp only at hSw); go_simp; (try with_reducible rfl)
        case hr24 =>
        simp only [Act.put, List.setIfInBounds_toArray, List.set_cons_zero, List.set_cons_succ]
        refine wpAnyH_take (i := 9) (oi := ?oi25) (v := ?v25) ?hi25 (by kernel_rfl) (by kernel_rfl) (by kernel_rfl) ?hQ25 (Or.inl ⟨?hw25, ?hy25⟩) (by assumption) ?hr25
        case hi25 => simp only [List.getElem?_toArray, List.getElem?_cons_succ, List.getElem?_cons_zero]; rfl
        case hQ25 => exact fun _ _ _ h => h
        case hw25 => rfl
        case hy25 => intro w hSw; (try dsimp only at hSw); go_simp; (try with_reducible rfl)
        case hr25 =>
        simp only [Act.put, List.setIfInBounds_toArray, List.set_cons_zero, List.set_cons_succ]
        refine wpAnyH_take (i := 10) (oi := ?oi26) (v := ?v26) ?hi26 (by kernel_rfl) (by kernel_rfl) (by kernel_rfl) ?hQ26 (Or.inl ⟨?hw26, ?hy26⟩) (by assumption) ?hr26
        case hi26 => simp only [List.getElem?_toArray, List.getElem?_cons_succ, List.getElem?_cons_zero]; rfl
        case hQ26 => exact fun _ _ _ h => h
        case hw26 => rfl
        case hy26 => intro w hSw; (try dsimp only at hSw); go_simp; (try with_reducible rfl)
        case hr26 =>
        simp only [Act.put, List.setIfInBounds_toArray, List.set_cons_zero, List.set_cons_succ]
        refine wpAnyH_take (i := 11) (oi := ?oi27) (v := ?v27) ?hi27 (by kernel_rfl) (by kernel_rfl) (by kernel_rfl) ?hQ27 (Or.inl ⟨?hw27, ?hy27⟩) (by assumption) ?hr27
        case hi27 => simp only [List.getElem?_toArray, List.getElem?_cons_succ, List.getElem?_cons_zero]; rfl
        case hQ27 => exact fun _ _ _ h => h
        case hw27 => rfl
        case hy27 => intro w hSw; (try dsimp only at hSw); go_simp; (try with_reducible rfl)
        case hr27 =>
        simp only [Act.put, List.setIfInBounds_toArray, List.set_cons_zero, List.set_cons_succ]
        refine wpAnyH_ready (rs := [12]) (by kernel_rfl) (by simp) (AllReadyH.cons (o := ?oc28) ?hc28 (fun K hK => ?hs28) AllReadyH.nil)
        case hc28 => simp only [List.getElem?_toArray, List.getElem?_cons_succ, List.getElem?_cons_zero]; rfl
        case hs28 =>
        rw [if_pos (by rfl)]
        go_simp
        skip
        go_wp2_with fail
        refine hK.out _ _ ?_ (fun hHeld => ?_)
        · exact ⟨Lib.cell?_alloc_some _ hHeld.1, hHeld.2.alloc _⟩
        clear hK K
        try simp only [Act.put, List.setIfInBounds_toArray, List.set_cons_zero, List.set_cons_succ]
        refine wpAnyH_ready (rs := [13]) (by kernel_rfl) (by simp) (AllReadyH.cons (o := ?oc29) ?hc29 (fun K hK => ?hs29) AllReadyH.nil)
        case hc29 => simp only [List.getElem?_toArray, List.getElem?_cons_succ, List.getElem?_cons_zero]; rfl
        case hs29 =>
        rw [if_pos (by rfl)]
        go_simp
        go_at_call 97; refine (concatT _ W.heap.size 47 (Option.map (fun x => x.add KN) na) na (NL - KN) (nc - KN) KN nc NL _ _ (((σ.node b).names.map ba).drop KN) (((σ.node b).names.map ba).take KN) (((σ.node b).names.drop KN ++ (σ.node b).names.take KN).map ba) (heap_ad W _ _) (by rw [List.length_drop, List.length_map, HH.out.1]) (by rw [List.length_take, List.length_map, HH.out.1]; omega) (HW.out.2.2.2.1.chg (S := []) ((Chg.refl [] W).alloc _).drew (by simp)) (HW.out.2.2.2.2.chg (S := []) ((Chg.refl [] W).alloc _).drew (by simp)) (by omega) (by omega) (by omega) (by simp)).mono ?_; rintro e w5 ⟨a5, c5, rfl, hown5, k5⟩; have H5 := Lib.hid (And.intro hown5 k5); have k5' : Chg [] W w5 := (((Chg.refl [] W).alloc _).drew).trans k5; clear hown5 k5
        go_wp2_with fail
        refine hK.out _ _ ?_ (fun hHeld => ?_)
        · exact ⟨k5'.cell e9 (by simp), k5'⟩
        clear hK K
        try simp only [Act.put, List.setIfInBounds_toArray, List.set_cons_zero, List.set_cons_succ]
        refine wpAnyH_take (i := 14) (oi := ?oi30) (v := ?v30) ?hi30 (by kernel_rfl) (by kernel_rfl) (by kernel_rfl) ?hQ30 (Or.inl ⟨?hw30, ?hy30⟩) (by assumption) ?hr30
        case hi30 => simp only [List.getElem?_toArray, List.getElem?_cons_succ, List.getElem?_cons_zero]; rfl
        case hQ30 => exact fun _ _ _ h => h
        case hw30 => rfl
        case hy30 => intro w hSw; (try dsimp only at hSw); go_simp; (try with_reducible rfl)
        case hr30 =>
        simp only [Act.put, List.setIfInBounds_toArray, List.set_cons_zero, List.set_cons_succ]
        refine wpAnyH_done (by kernel_rfl) ?_ _
        clear hHeld
        have hand := and1 R
        by_cases hodd : R % 2 = 1
        · skip
          rw [hodd] at hand
          go_wp2_with (go_at_call 98; refine (reverseS _ _ _ _ NL (by rw [List.length_map, List.length_append, List.length_drop, List.length_take, HH.out.1]; omega) (by omega) (by omega) H5.out.1).mono ?_; rintro e w6 ⟨rfl, hown6, k6⟩; have H6 := Lib.hid (And.intro hown6 k6); clear hown6 k6)
          have k6' : Chg [] W w6 := k5'.trans' H6.out.2 (by simp) (fun x hx hl => by
            have h1 := (own_rd2 H5.out.1).2.1 x (by simpa using hx)
            have h2 : W.heap.size ≤ ((W.alloc (.cells #[.slice (Option.map (fun x => x.add KN) na) (NL - KN) (nc - KN), .slice na KN nc] 47)).drew).heap.size := by
              show W.heap.size ≤ (W.alloc _).heap.size
              simp
            omega)
          go_ret2
          unfold ListAs
          rw [HLE.out]
          refine ⟨fun h => absurd rfl h, fun _ => ⟨b, a5, NL, c5, HX.out.2.2.1, rfl, HH.out.1.symm, ?_, ⟨m, rv, dv, nv, HW.out.2.1.foreign k6' (by simp)⟩, (HW.out.1.mono (by simpa using fun _ => HX.out.1.own.1)).trans (k6'.mono (by simp))⟩⟩
          have hlow : w'.heap.size ≤ ((W.alloc (.cells #[.slice (Option.map (fun x => x.add KN) na) (NL - KN) (nc - KN), .slice na KN nc] 47)).drew).heap.size := by
            have h1 := HW.out.1.size
            show w'.heap.size ≤ (W.alloc _).heap.size
            simp; omega
          have := own_low H6.out.1 hlow
          have hL : listed σ (σ.node b).names = ((σ.node b).names.drop KN ++ (σ.node b).names.take KN).reverse := by
            unfold listed
            rw [HR.out, HH.out.1, ← Int.natCast_emod, Int.toNat_natCast, HK.out]
            simp only
            rw [if_pos (by omega)]
          rw [hL]
          unfold svn
          rw [List.map_reverse]
          exact this

        rw [show R % 2 = 0 by omega] at hand
        go_wp2_with fail
        go_ret2
        unfold ListAs
        rw [HLE.out]
        refine ⟨fun h => absurd rfl h, fun _ => ⟨b, a5, NL, c5, HX.out.2.2.1, rfl, HH.out.1.symm, ?_, ⟨m, rv, dv, nv, HW.out.2.1.foreign k5' (by simp)⟩, (HW.out.1.mono (by simpa using fun _ => HX.out.1.own.1)).trans (k5'.mono (by simp))⟩⟩
        have hlow : w'.heap.size ≤ ((W.alloc (.cells #[.slice (Option.map (fun x => x.add KN) na) (NL - KN) (nc - KN), .slice na KN nc] 47)).drew).heap.size := by
          have h1 := HW.out.1.size
          show w'.heap.size ≤ (W.alloc _).heap.size
          simp; omega
        have := own_low H5.out.1 hlow
        have hL : listed σ (σ.node b).names = ((σ.node b).names.drop KN ++ (σ.node b).names.take KN) := by
          unfold listed
          rw [HR.out, HH.out.1, ← Int.natCast_emod, Int.toNat_natCast, HK.out]
          simp only
          rw [if_neg (by omega)]
        rw [hL]
        unfold svn
        exact this
    · rw [if_neg hkd] at hLE
      have HLE := Lib.hid hLE
      clear h hN hok hk hbm hLE
      generalize (σ.node b).kind = kd at *
      have hkb : (kd == 0) = false := by simpa using hkd
      generalize hP : ba p = P at *
      have HP := Lib.hid hP
      clear hP
      go_enter Tryz.func69, Tryz.ntmps69
      go_wp2_with (go_at_call 36; refine HF.out.mono ?_; rintro e w' ⟨rfl, rfl⟩)
      go_ret2
      unfold ListAs
      rw [HLE.out]
      exact ⟨fun _ => ⟨rfl, Chg.refl _ _⟩, fun h => by cases h⟩
end Go.Proofs.YtfhiioopimmahaaGreatDoor
namespace Go.Pax
open Go.RowKit
structure AAct where
  kind : Int
  path : Str
  mode : Int
  data : List UInt8
  target : Str
def mkK (a : AAct) : Int := if a.kind = 3 then 4 else a.kind
def mkM (a : AAct) : Int := if a.kind = 2 then 511 else a.mode
def mkT (a : AAct) : Str := if a.kind = 2 then a.target else []
def mkD (a : AAct) : List UInt8 := if a.kind = 1 then a.data else []
/-- What Do answers. -/
def doE (σ : Fs) (a : AAct) : Int := if 0 ≤ a.kind ∧ a.kind ≤ 3 then makeE σ a.path (mkK a) (mkM a) (mkT a) else if a.kind = 4 then linkE σ a.path a.target else if a.kind = 5 then chownE σ a.path else 0
def actV (a : AAct) (ao : Option Addr) (dc : Nat) : Value := .agg #[.int .i64 a.kind, .string (ba a.path), .int .i64 a.mode, .slice ao a.data.length dc, .string (ba a.target)]
end Go.Pax
namespace Go.Proofs.YtfhiioopimmahaaGreatDoor
open Go.RowKit Go.Pax Go.Shelf
/-- The file system behind a call that went well. -/
def Next (σ : Fs) (fresh : Nat → Prop) (a : AAct) (σ' : Fs) : Prop :=
  if 0 ≤ a.kind ∧ a.kind ≤ 3 then ∃ pb b, lkF σ.files (parentP a.path) = some pb ∧ fresh b ∧ σ' = made σ a.path (newNd σ (mkK a) (mkM a) (mkT a) (mkD a)) pb b
  else if a.kind = 4 then ∃ pb b, lkF σ.files (parentP a.path) = some pb ∧ lkF σ.files a.target = some b ∧ σ' = linked σ a.path pb b
  else if a.kind = 5 then ∃ b, lkF σ.files a.path = some b ∧ σ' = setNode σ b { σ.node b with uid := a.mode, mtime := a.data.length }
  else σ' = σ
def DoneBy (w w' : World) (f : Nat) (O : List Nat) (σ : Fs) (a : AAct) : Prop :=
  (doE σ a ≠ 0 → Chg [] w w') ∧ (doE σ a = 0 → ∃ σ', Next σ (fun b => w.heap.size ≤ b) a σ' ∧ FsTo w w' f O σ')
theorem FsTo.same' {w w' : World} {f : Nat} {O : List Nat} {σ : Fs} (h : FsAt w f O σ) (k : Chg [] w w') : FsTo w w' f O σ := FsTo.same h k
set_option maxRecDepth 100000 in
set_option maxHeartbeats 8000000 in
theorem doAct (w : World) (f : Nat) (O : List Nat) (σ : Fs) (a : AAct) (ao : Option Addr) (dc : Nat) (fp : List Nat) (h : FsAt w f O σ) (hok : σ.Ok) (hkeys : KeysAt w) (hko : 0 ∉ O)
    (ht : a.target.length ≤ 140737488355328) (hd : Rd w fp ao (bv a.data)) (hdl : a.data.length ≤ 140737488355328) (hff : ∀ x ∈ fp, x ∉ O) :
    Calls Tryz.prog 30 #[.pointer (some ⟨f, 0, none⟩), actV a ao dc] w fun e w' => e = .returned (.int .i64 (doE σ a)) ∧ DoneBy w w' f O σ a := by
  obtain ⟨kind, path, mode, data, target⟩ := a
  have HX := Lib.hid (And.intro h (And.intro hok (And.intro hkeys (And.intro hko (And.intro ht (And.intro hd (And.intro hdl hff)))))))
  clear h hok hkeys hd hdl hff
  unfold actV
  simp only
  have cases : kind = 0 ∨ kind = 1 ∨ kind = 2 ∨ kind = 3 ∨ kind = 4 ∨ kind = 5 ∨ (kind ≠ 0 ∧ kind ≠ 1 ∧ kind ≠ 2 ∧ kind ≠ 3 ∧ kind ≠ 4 ∧ kind ≠ 5) := by omega
  have foreign := fun W (k : Chg [] w W) => HX.out.1.foreign k (by simp)
  have kys := fun W (k : Chg [] w W) => HX.out.2.2.1.chg k (by simp)
  have rdd := fun W (k : Chg [] w W) => HX.out.2.2.2.2.2.1.chg k (by simp)
  rcases cases with rfl | rfl | rfl | rfl | rfl | rfl | ⟨n0, n1, n2, n3, n4, n5⟩
  · have hE : doE σ ⟨0, path, mode, data, target⟩ = makeE σ path 0 mode [] := rfl
    have hc := fun W (kw : Chg [] w W) => mkdir W f O σ path mode (foreign W kw) HX.out.2.1 (kys W kw) HX.out.2.2.2.1
    have HC := Lib.hid hc
    have HE := Lib.hid hE
    clear hc hE foreign kys rdd
    generalize doE σ ⟨0, path, mode, data, target⟩ = DE at *
    rw [← HE.out] at HC
    generalize hDL : data.length = DL at *
    generalize hP : ba path = P at *
    generalize hT : ba target = T at *
    have HP := Lib.hid (And.intro hP (And.intro hT hDL))
    clear hP hT hDL
    go_enter Tryz.func30, Tryz.ntmps30
    go_wp2_with (go_at_call 62; refine (HC.out _ ((Chg.refl _ _).alloc _)).mono ?_; rintro e w' ⟨rfl, hm⟩; have HM := Lib.hid hm; clear hm)
    go_ret
    refine ⟨rfl, ?_⟩
    have hE := HE.out
    have k0 : Chg [] w (w.alloc (.cells #[.int .i64 0, .string P, .int .i64 mode, .slice ao DL dc, .string T] 53)) := (Chg.refl _ _).alloc _
    unfold DoneBy
    obtain ⟨h1, h2⟩ := HM.out
    refine ⟨fun hne => ?_, fun he => ?_⟩
    · have e1 : doE σ ⟨0, path, mode, data, target⟩ = DE := hE.symm ▸ rfl
      rw [e1] at hne
      exact k0.trans (h1 (by first | exact hne | (rw [← hE]; exact hne)))
    · have e1 : doE σ ⟨0, path, mode, data, target⟩ = DE := hE.symm ▸ rfl
      rw [e1] at he
      obtain ⟨pb, b, hpb, hb, hto⟩ := h2 (by first | exact he | (rw [← hE]; exact he))
      have hs := k0.size
      exact ⟨_, ⟨pb, b, hpb, by omega, rfl⟩, FsTo.then_ (k0.mono (by simp)) (fun g hg => .inl hg) hto⟩
  · have hE : doE σ ⟨1, path, mode, data, target⟩ = makeE σ path 1 mode [] := rfl
    have hc := fun W (kw : Chg [] w W) => create W f O σ path mode data ao dc fp (foreign W kw) HX.out.2.1 (kys W kw) HX.out.2.2.2.1 (rdd W kw) HX.out.2.2.2.2.2.2.1 HX.out.2.2.2.2.2.2.2
    have HC := Lib.hid hc
    have HE := Lib.hid hE
    clear hc hE foreign kys rdd
    generalize doE σ ⟨1, path, mode, data, target⟩ = DE at *
    rw [← HE.out] at HC
    generalize hDL : data.length = DL at *
    generalize hP : ba path = P at *
    generalize hT : ba target = T at *
    have HP := Lib.hid (And.intro hP (And.intro hT hDL))
    clear hP hT hDL
    go_enter Tryz.func30, Tryz.ntmps30
    go_wp2_with (go_at_call 27; refine (HC.out _ ((Chg.refl _ _).alloc _)).mono ?_; rintro e w' ⟨rfl, hm⟩; have HM := Lib.hid hm; clear hm)
    go_ret
    refine ⟨rfl, ?_⟩
    have hE := HE.out
    have k0 : Chg [] w (w.alloc (.cells #[.int .i64 1, .string P, .int .i64 mode, .slice ao DL dc, .string T] 53)) := (Chg.refl _ _).alloc _
    unfold DoneBy
    obtain ⟨h1, h2⟩ := HM.out
    refine ⟨fun hne => ?_, fun he => ?_⟩
    · have e1 : doE σ ⟨1, path, mode, data, target⟩ = DE := hE.symm ▸ rfl
      rw [e1] at hne
      exact k0.trans (h1 (by first | exact hne | (rw [← hE]; exact hne)))
    · have e1 : doE σ ⟨1, path, mode, data, target⟩ = DE := hE.symm ▸ rfl
      rw [e1] at he
      obtain ⟨pb, b, hpb, hb, hto⟩ := h2 (by first | exact he | (rw [← hE]; exact he))
      have hs := k0.size
      exact ⟨_, ⟨pb, b, hpb, by omega, rfl⟩, FsTo.then_ (k0.mono (by simp)) (fun g hg => .inl hg) hto⟩
  · have hE : doE σ ⟨2, path, mode, data, target⟩ = makeE σ path 2 511 target := rfl
    have hc := fun W (kw : Chg [] w W) => symlink W f O σ path target (foreign W kw) HX.out.2.1 (kys W kw) HX.out.2.2.2.1 HX.out.2.2.2.2.1
    have HC := Lib.hid hc
    have HE := Lib.hid hE
    clear hc hE foreign kys rdd
    generalize doE σ ⟨2, path, mode, data, target⟩ = DE at *
    rw [← HE.out] at HC
    generalize hDL : data.length = DL at *
    generalize hP : ba path = P at *
    generalize hT : ba target = T at *
    have HP := Lib.hid (And.intro hP (And.intro hT hDL))
    clear hP hT hDL
    go_enter Tryz.func30, Tryz.ntmps30
    go_wp2_with (go_at_call 63; refine (HC.out _ ((Chg.refl _ _).alloc _)).mono ?_; rintro e w' ⟨rfl, hm⟩; have HM := Lib.hid hm; clear hm)
    go_ret
    refine ⟨rfl, ?_⟩
    have hE := HE.out
    have k0 : Chg [] w (w.alloc (.cells #[.int .i64 2, .string P, .int .i64 mode, .slice ao DL dc, .string T] 53)) := (Chg.refl _ _).alloc _
    unfold DoneBy
    obtain ⟨h1, h2⟩ := HM.out
    refine ⟨fun hne => ?_, fun he => ?_⟩
    · have e1 : doE σ ⟨2, path, mode, data, target⟩ = DE := hE.symm ▸ rfl
      rw [e1] at hne
      exact k0.trans (h1 (by first | exact hne | (rw [← hE]; exact hne)))
    · have e1 : doE σ ⟨2, path, mode, data, target⟩ = DE := hE.symm ▸ rfl
      rw [e1] at he
      obtain ⟨pb, b, hpb, hb, hto⟩ := h2 (by first | exact he | (rw [← hE]; exact he))
      have hs := k0.size
      exact ⟨_, ⟨pb, b, hpb, by omega, rfl⟩, FsTo.then_ (k0.mono (by simp)) (fun g hg => .inl hg) hto⟩
  · have hE : doE σ ⟨3, path, mode, data, target⟩ = makeE σ path 4 mode [] := rfl
    have hc := fun W (kw : Chg [] w W) => mknod W f O σ path mode (foreign W kw) HX.out.2.1 (kys W kw) HX.out.2.2.2.1
    have HC := Lib.hid hc
    have HE := Lib.hid hE
    clear hc hE foreign kys rdd
    generalize doE σ ⟨3, path, mode, data, target⟩ = DE at *
    rw [← HE.out] at HC
    generalize hDL : data.length = DL at *
    generalize hP : ba path = P at *
    generalize hT : ba target = T at *
    have HP := Lib.hid (And.intro hP (And.intro hT hDL))
    clear hP hT hDL
    go_enter Tryz.func30, Tryz.ntmps30
    go_wp2_with (go_at_call 64; refine (HC.out _ ((Chg.refl _ _).alloc _)).mono ?_; rintro e w' ⟨rfl, hm⟩; have HM := Lib.hid hm; clear hm)
    go_ret
    refine ⟨rfl, ?_⟩
    have hE := HE.out
    have k0 : Chg [] w (w.alloc (.cells #[.int .i64 3, .string P, .int .i64 mode, .slice ao DL dc, .string T] 53)) := (Chg.refl _ _).alloc _
    unfold DoneBy
    obtain ⟨h1, h2⟩ := HM.out
    refine ⟨fun hne => ?_, fun he => ?_⟩
    · have e1 : doE σ ⟨3, path, mode, data, target⟩ = DE := hE.symm ▸ rfl
      rw [e1] at hne
      exact k0.trans (h1 (by first | exact hne | (rw [← hE]; exact hne)))
    · have e1 : doE σ ⟨3, path, mode, data, target⟩ = DE := hE.symm ▸ rfl
      rw [e1] at he
      obtain ⟨pb, b, hpb, hb, hto⟩ := h2 (by first | exact he | (rw [← hE]; exact he))
      have hs := k0.size
      exact ⟨_, ⟨pb, b, hpb, by omega, rfl⟩, FsTo.then_ (k0.mono (by simp)) (fun g hg => .inl hg) hto⟩
  · have hE : doE σ ⟨4, path, mode, data, target⟩ = linkE σ path target := rfl
    have hc := fun W (kw : Chg [] w W) => link W f O σ path target (foreign W kw) HX.out.2.1
    have HC := Lib.hid hc
    have HE := Lib.hid hE
    clear hc hE foreign kys rdd
    generalize doE σ ⟨4, path, mode, data, target⟩ = DE at *
    rw [← HE.out] at HC
    generalize hDL : data.length = DL at *
    generalize hP : ba path = P at *
    generalize hT : ba target = T at *
    have HP := Lib.hid (And.intro hP (And.intro hT hDL))
    clear hP hT hDL
    go_enter Tryz.func30, Tryz.ntmps30
    go_wp2_with (go_at_call 28; refine (HC.out _ ((Chg.refl _ _).alloc _)).mono ?_; rintro e w' ⟨rfl, hm⟩; have HM := Lib.hid hm; clear hm)
    go_ret
    refine ⟨rfl, ?_⟩
    have hE := HE.out
    have k0 : Chg [] w (w.alloc (.cells #[.int .i64 4, .string P, .int .i64 mode, .slice ao DL dc, .string T] 53)) := (Chg.refl _ _).alloc _
    unfold DoneBy
    obtain ⟨h1, h2⟩ := HM.out
    refine ⟨fun hne => ?_, fun he => ?_⟩
    · have e1 : doE σ ⟨4, path, mode, data, target⟩ = DE := hE.symm ▸ rfl
      rw [e1] at hne
      exact k0.trans (h1 (by first | exact hne | (rw [← hE]; exact hne)))
    · have e1 : doE σ ⟨4, path, mode, data, target⟩ = DE := hE.symm ▸ rfl
      rw [e1] at he
      obtain ⟨pb, b, hpb, hb, hto⟩ := h2 (by first | exact he | (rw [← hE]; exact he))
      exact ⟨_, ⟨pb, b, hpb, hb, rfl⟩, FsTo.then_ (k0.mono (by simp)) (fun g hg => .inl hg) hto⟩
  · have hE : doE σ ⟨5, path, mode, data, target⟩ = chownE σ path := rfl
    have hc := fun W (kw : Chg [] w W) => chown W f O σ path mode (data.length : Int) (foreign W kw)
    have HC := Lib.hid hc
    have HE := Lib.hid hE
    clear hc hE foreign kys rdd
    generalize doE σ ⟨5, path, mode, data, target⟩ = DE at *
    rw [← HE.out] at HC
    generalize hDL : data.length = DL at *
    generalize hP : ba path = P at *
    generalize hT : ba target = T at *
    have HP := Lib.hid (And.intro hP (And.intro hT hDL))
    clear hP hT hDL
    go_enter Tryz.func30, Tryz.ntmps30
    go_wp2_with (go_at_call 65; refine (HC.out _ ((Chg.refl _ _).alloc _)).mono ?_; rintro e w' ⟨rfl, hm⟩; have HM := Lib.hid hm; clear hm)
    go_ret
    refine ⟨rfl, ?_⟩
    have hE := HE.out
    have k0 : Chg [] w (w.alloc (.cells #[.int .i64 5, .string P, .int .i64 mode, .slice ao DL dc, .string T] 53)) := (Chg.refl _ _).alloc _
    unfold DoneBy
    obtain ⟨h1, h2⟩ := HM.out
    refine ⟨fun hne => ?_, fun he => ?_⟩
    · have e1 : doE σ ⟨5, path, mode, data, target⟩ = DE := hE.symm ▸ rfl
      rw [e1] at hne
      exact k0.trans (h1 (by first | exact hne | (rw [← hE]; exact hne)))
    · have e1 : doE σ ⟨5, path, mode, data, target⟩ = DE := hE.symm ▸ rfl
      rw [e1] at he
      obtain ⟨b, hb, hto⟩ := h2 (by first | exact he | (rw [← hE]; exact he))
      refine ⟨_, ⟨b, hb, rfl⟩, ?_⟩
      simp only
      rw [HP.out.2.2]
      exact FsTo.then_ (k0.mono (by simp)) (fun g hg => .inl hg) hto
  · have hE : doE σ ⟨kind, path, mode, data, target⟩ = 0 := by
      unfold doE
      simp only
      rw [if_neg (by omega), if_neg n4, if_neg n5]
    have hN : ∀ fr, Next σ fr ⟨kind, path, mode, data, target⟩ σ := fun fr => by
      unfold Next
      dsimp only
      rw [if_neg (by omega), if_neg n4, if_neg n5]
    have HE := Lib.hid (And.intro hE hN)
    have b0 : (kind == 0) = false := by simpa using n0
    have b1 : (kind == 1) = false := by simpa using n1
    have b2 : (kind == 2) = false := by simpa using n2
    have b3 : (kind == 3) = false := by simpa using n3
    have b4 : (kind == 4) = false := by simpa using n4
    have b5 : (kind == 5) = false := by simpa using n5
    clear hE hN foreign kys rdd n0 n1 n2 n3 n4 n5
    generalize ba path = P at *
    generalize ba target = T at *
    go_enter Tryz.func30, Tryz.ntmps30
    go_wp2_with fail
    go_ret
    unfold DoneBy
    rw [HE.out.1]
    exact ⟨rfl, fun h => absurd rfl h, fun _ => ⟨σ, HE.out.2 _, FsTo.same HX.out.1 ((Chg.refl _ _).alloc _)⟩⟩
end Go.Proofs.YtfhiioopimmahaaGreatDoor
