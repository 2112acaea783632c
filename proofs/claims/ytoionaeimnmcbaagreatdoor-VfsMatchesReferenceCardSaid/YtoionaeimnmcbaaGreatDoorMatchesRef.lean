/- VfsMatchesReference is proved: for every input the law returns true and changes nothing that was there. The listed package variables read as the program's text lays them (the card ties them, over the pruned copy). -/
import Derived.Test.YtoionaeimnmcbaaGreatDoorVLawH
import Derived.Test.YtoionaeimnmcbaaGreatDoorVOpenN
import Derived.Test.YtoionaeimnmcbaaGreatDoorVOpen
namespace Go.Proofs.YtoionaeimnmcbaaGreatDoor
open Go.ChangeShapes Go.WideShapes Go.ChangeAt Go.RowKit Go.Pax Go.Joins

set_option maxRecDepth 100000 in
theorem vfsMatchesReference_opened (H : Type) (enc : TypeId × Value → H) (W : World) (base : Nat) (args : Array Value) (ds : List (DataW H)) (before : List MemPlace)
    (hval : ∀ (j : Nat) t v, Tryz.f3.params[j]? = some t → args[j]? = some v → Value.okWide Tryz.prog W .any base t v)
    (hA : DataW.TrodAll enc Tryz.prog W 0 (fun _ => true) true Tryz.f3.params.toList args.toList ds before)
    (hsz : (DataW.weightsEach Tryz.prog Tryz.f3.params.toList ds).all (· ≤ reachBytes) = true) (hkeys : KeysAt W) :
    Calls Tryz.prog 3 args W fun e W' => e = .returned (.bool true) ∧ Chg [] W W' := by
  rw [Tryz.params3] at hA hval hsz
  obtain ⟨v0, v1, v2, d0, d1, d2, p0, p1, p2, rfl, rfl, rfl, h0, h1, h2⟩ := trodAll_three hA
  obtain ⟨x0, y0, rfl, hx0, hy0⟩ := Tryz.openN (hval 0 23 v0 rfl rfl) h0
  obtain ⟨a1, c1, b1, f1, rfl, hl1, _hcap1, r1⟩ := Tryz.openB (hval 1 24 v1 rfl rfl) h1 (Tryz.sized hsz 1 rfl rfl)
  obtain ⟨a2, c2, l2, f2, rfl, hl2, r2⟩ := Tryz.openA (hval 2 25 v2 rfl rfl) h2 (Tryz.sized hsz 2 rfl rfl)
  exact vfsMatches W x0 y0 hx0 hy0 a1 a2 c1 c2 b1 l2 (f1 ++ f2) hkeys hl1 (r1.mono (fun k hk => by simp [hk])) (r2.mono (fun k hk => by simp [hk])) hl2.2 hl2.1

theorem vfsMatchesReference_door (os : Os) (args : Array Value) : laidMetH Tryz.prog Rows.vfsMatchesReferenceRow.laid ((World.doorLaid Tryz.prog 67 os).forCall (fun _ _ => 0) ⟨#[], args, []⟩).memory :=
  laidMetH_of_parts3 (fuel := 8) (laidMet_of_run' 8 (by kernel_rfl) (by kernel_rfl)) (by kernel_rfl) (by kernel_rfl)

set_option maxRecDepth 100000 in
theorem vfsMatchesReference_lifted (os : Os) (started : os.Started) (H : Type) (enc : TypeId × Value → H) :
    ReturnsInHanded {} Tryz.checked os 3 .any (fun w args => (Rows.vfsMatchesReferenceSpec.pre enc Tryz.prog Tryz.f3 [] false w args ∧ laidMetH Tryz.prog Rows.vfsMatchesReferenceRow.laid w) ∧ sizedMet enc Tryz.prog Tryz.f3 (OpenSpec.ofChange Rows.vfsMatchesReferenceSpec) false w args)
      (Rows.vfsMatchesReferenceSpec.post enc Tryz.prog Tryz.f3 false true false false) := by
  refine returnsInHanded_of_change_and (C := Tryz.checked) (X := fun w _ => laidMetH Tryz.prog Rows.vfsMatchesReferenceRow.laid w) (fun _ _ _ hh h => h.of_heap hh) Tryz.own started (by kernel_rfl) Tryz.func3
    (ChangeSpec.witness_shaped (enc := enc) (C := Tryz.checked) (os := os) (X := fun w _ => laidMetH Tryz.prog Rows.vfsMatchesReferenceRow.laid w) false (World.doorLaid Tryz.prog 67 os) #[.agg #[.int .u16 0, .int .u16 0], .slice none 0 0, .slice none 0 0] 8 rfl (World.shaped_of_RefB (by kernel_rfl) (by kernel_rfl)) (by kernel_rfl) (by kernel_rfl) (by kernel_rfl) (vfsMatchesReference_door os _)) ?_
  intro W base args ds gs before hval hW _ hsz hL _
  obtain ⟨hA, hsz'⟩ := Tryz.law_reads (s := Rows.vfsMatchesReferenceSpec) rfl hW hsz
  refine (vfsMatchesReference_opened H enc W base args ds before hval hA hsz' (Tryz.keysAt (l := Rows.vfsMatchesReferenceRow.laid) (List.mem_of_getElem? (i := 5) rfl) hL (by kernel_rfl))).mono fun e W' ⟨he, hc⟩ => ⟨_, he, ?_⟩
  rw [Tryz.params3] at hA
  obtain ⟨v0, v1, v2, d0, d1, d2, p0, p1, p2, _, rfl, _⟩ := trodAll_three hA
  exact law_post Tryz.laidOut rfl rfl Tryz.underlying4 (by rw [Tryz.params3]; exact Tryz.readable (by kernel_rfl)) ⟨rfl, rfl, rfl⟩ hW hc

theorem vfsMatchesReference_row : Rows.VfsMatchesReferenceSaid :=
  OpenClaim.holds_of_wide 3 Tryz.f3 rfl rfl rfl rfl rfl rfl rfl ⟨rfl, rfl, rfl, rfl, rfl⟩ rfl rfl rfl rfl rfl (by kernel_rfl) Tryz.func3 (by kernel_rfl)
    (of_decide_eq_true (by kernel_rfl)) (by unfold Func.isWrapper; rw [if_neg (of_decide_eq_false (by kernel_rfl))]; exact ⟨rfl, rfl⟩)
    (fun os started H enc _ => vfsMatchesReference_lifted os started H enc)

theorem VfsMatchesReference_holds : Rows.VfsMatchesReferenceCardSaid :=
  Claim7.holds_tied_plain_at .later [] [.data, .data, .data, .sentinel, .sentinel, .widerDeep] true (true, "f7115c1a4c6b5dba946ab7ff2ed522be4db7dca1d77676c28d40e0576603de7d") true
    vfsMatchesReference_row (fun _ h => by cases h) (by kernel_rfl) (fun _ h => by cases h) vfsMatchesReference_row_tie rfl ⟨rfl, rfl⟩ (by kernel_rfl) rfl
    (fun f fn hf hfn => by
      obtain rfl : f = 3 := Option.some.inj ((show Tryz.prog.funcNamed "paxtar/paxtarlaw19.VfsMatchesReference" = some 3 by kernel_rfl).symm.trans hf) |>.symm
      obtain rfl : fn = Tryz.f3 := (Option.some.inj (Tryz.func3.symm.trans hfn)).symm
      exact ⟨by kernel_rfl, fun j t ht => by
        rw [Tryz.params3] at ht
        have hm : t ∈ [23, 24, 25] := by simpa using Array.mem_of_getElem? ht
        have hall : ([23, 24, 25].all fun u => !Tryz.prog.wantsStandIn u) = true := by kernel_rfl
        exact (show Tryz.prog.wantsStandIn t = false by simpa using List.all_eq_true.1 hall t hm)⟩)
    (by kernel_rfl)
#print axioms VfsMatchesReference_holds
end Go.Proofs.YtoionaeimnmcbaaGreatDoor
