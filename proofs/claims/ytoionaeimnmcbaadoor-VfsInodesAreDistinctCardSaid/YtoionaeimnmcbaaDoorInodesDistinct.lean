/- VfsInodesAreDistinct is proved: for every input the law returns true and changes nothing that was there. The listed package variables read as the program's text lays them (the card ties them, over the pruned copy). -/
import Derived.Test.YtoionaeimnmcbaaDoorVLawC
import Derived.Test.YtoionaeimnmcbaaDoorVOpenN
import Derived.Test.YtoionaeimnmcbaaDoorVOpen
namespace Go.Proofs.YtoionaeimnmcbaaDoor
open Go.ChangeShapes Go.WideShapes Go.ChangeAt Go.RowKit Go.Pax Go.Joins

set_option maxRecDepth 100000 in
theorem vfsInodesAreDistinct_opened (H : Type) (enc : TypeId × Value → H) (W : World) (base : Nat) (args : Array Value) (ds : List (DataW H)) (before : List MemPlace)
    (hval : ∀ (j : Nat) t v, Tryd.f3.params[j]? = some t → args[j]? = some v → Value.okWide Tryd.prog W .any base t v)
    (hA : DataW.TrodAll enc Tryd.prog W 0 (fun _ => true) true Tryd.f3.params.toList args.toList ds before)
    (hsz : (DataW.weightsEach Tryd.prog Tryd.f3.params.toList ds).all (· ≤ reachBytes) = true) (hkeys : KeysAt W) :
    Calls Tryd.prog 3 args W fun e W' => e = .returned (.bool true) ∧ Chg [] W W' := by
  rw [Tryd.params3] at hA hval hsz
  obtain ⟨v0, v1, d0, d1, p0, p1, rfl, rfl, rfl, h0, h1⟩ := trodAll_two hA
  obtain ⟨x0, y0, rfl, hx0, hy0⟩ := Tryd.openN (hval 0 23 v0 rfl rfl) h0
  obtain ⟨a1, c1, l1, f1, rfl, hl1, r1⟩ := Tryd.openA (hval 1 24 v1 rfl rfl) h1 (Tryd.sized hsz 1 rfl rfl)
  exact inodesDistinct W x0 y0 hx0 hy0 a1 c1 l1 (f1) hkeys (r1.mono (fun k hk => by simp [hk])) hl1.2 hl1.1

theorem vfsInodesAreDistinct_door (os : Os) (args : Array Value) : laidMetH Tryd.prog Rows.vfsInodesAreDistinctRow.laid ((World.doorLaid Tryd.prog 67 os).forCall (fun _ _ => 0) ⟨#[], args, []⟩).memory :=
  laidMetH_of_parts3 (fuel := 8) (laidMet_of_run' 8 (by kernel_rfl) (by kernel_rfl)) (by kernel_rfl) (by kernel_rfl)

set_option maxRecDepth 100000 in
theorem vfsInodesAreDistinct_lifted (os : Os) (started : os.Started) (H : Type) (enc : TypeId × Value → H) :
    ReturnsInHanded {} Tryd.checked os 3 .any (fun w args => (Rows.vfsInodesAreDistinctSpec.pre enc Tryd.prog Tryd.f3 [] false w args ∧ laidMetH Tryd.prog Rows.vfsInodesAreDistinctRow.laid w) ∧ sizedMet enc Tryd.prog Tryd.f3 (OpenSpec.ofChange Rows.vfsInodesAreDistinctSpec) false w args)
      (Rows.vfsInodesAreDistinctSpec.post enc Tryd.prog Tryd.f3 false true false false) := by
  refine returnsInHanded_of_change_and (C := Tryd.checked) (X := fun w _ => laidMetH Tryd.prog Rows.vfsInodesAreDistinctRow.laid w) (fun _ _ _ hh h => h.of_heap hh) Tryd.own started (by kernel_rfl) Tryd.func3
    (ChangeSpec.witness_shaped (enc := enc) (C := Tryd.checked) (os := os) (X := fun w _ => laidMetH Tryd.prog Rows.vfsInodesAreDistinctRow.laid w) false (World.doorLaid Tryd.prog 67 os) #[.agg #[.int .u16 0, .int .u16 0], .slice none 0 0] 8 rfl (World.shaped_of_RefB (by kernel_rfl) (by kernel_rfl)) (by kernel_rfl) (by kernel_rfl) (by kernel_rfl) (vfsInodesAreDistinct_door os _)) ?_
  intro W base args ds gs before hval hW _ hsz hL _
  obtain ⟨hA, hsz'⟩ := Tryd.law_reads (s := Rows.vfsInodesAreDistinctSpec) rfl hW hsz
  refine (vfsInodesAreDistinct_opened H enc W base args ds before hval hA hsz' (Tryd.keysAt (l := Rows.vfsInodesAreDistinctRow.laid) (List.mem_of_getElem? (i := 5) rfl) hL (by kernel_rfl))).mono fun e W' ⟨he, hc⟩ => ⟨_, he, ?_⟩
  rw [Tryd.params3] at hA
  obtain ⟨v0, v1, d0, d1, p0, p1, _, rfl, _⟩ := trodAll_two hA
  exact law_post Tryd.laidOut rfl rfl Tryd.underlying4 (by rw [Tryd.params3]; exact Tryd.readable (by kernel_rfl)) ⟨rfl, rfl, rfl⟩ hW hc

theorem vfsInodesAreDistinct_row : Rows.VfsInodesAreDistinctSaid :=
  OpenClaim.holds_of_wide 3 Tryd.f3 rfl rfl rfl rfl rfl rfl rfl ⟨rfl, rfl, rfl, rfl, rfl⟩ rfl rfl rfl rfl rfl (by kernel_rfl) Tryd.func3 (by kernel_rfl)
    (of_decide_eq_true (by kernel_rfl)) (by unfold Func.isWrapper; rw [if_neg (of_decide_eq_false (by kernel_rfl))]; exact ⟨rfl, rfl⟩)
    (fun os started H enc _ => vfsInodesAreDistinct_lifted os started H enc)

theorem VfsInodesAreDistinct_holds : Rows.VfsInodesAreDistinctCardSaid :=
  Claim7.holds_tied_plain_at .later [] [.data, .data, .data, .sentinel, .sentinel, .widerDeep] true (true, "5d9bdc8d6f9c6182646d9b3ea1258afd68cc8dd813f0b8a64bd102aa032c054e") true
    vfsInodesAreDistinct_row (fun _ h => by cases h) (by kernel_rfl) (fun _ h => by cases h) vfsInodesAreDistinct_row_tie rfl ⟨rfl, rfl⟩ (by kernel_rfl) rfl
    (fun f fn hf hfn => by
      obtain rfl : f = 3 := Option.some.inj ((show Tryd.prog.funcNamed "paxtar/paxtarlaw19.VfsInodesAreDistinct" = some 3 by kernel_rfl).symm.trans hf) |>.symm
      obtain rfl : fn = Tryd.f3 := (Option.some.inj (Tryd.func3.symm.trans hfn)).symm
      exact ⟨by kernel_rfl, fun j t ht => by
        rw [Tryd.params3] at ht
        have hm : t ∈ [23, 24] := by simpa using Array.mem_of_getElem? ht
        have hall : ([23, 24].all fun u => !Tryd.prog.wantsStandIn u) = true := by kernel_rfl
        exact (show Tryd.prog.wantsStandIn t = false by simpa using List.all_eq_true.1 hall t hm)⟩)
    (by kernel_rfl)
#print axioms VfsInodesAreDistinct_holds
end Go.Proofs.YtoionaeimnmcbaaDoor
