/- VfsListIsComplete is proved: for every input the law returns true and changes nothing that was there. The listed package variables read as the program's text lays them (the card ties them, over the pruned copy). -/
import Derived.Test.YtoionaeimnmcbaaGreatDoorVLawG
import Derived.Test.YtoionaeimnmcbaaGreatDoorVOpen
namespace Go.Proofs.YtoionaeimnmcbaaGreatDoor
open Go.ChangeShapes Go.WideShapes Go.ChangeAt Go.RowKit Go.Pax Go.Joins

set_option maxRecDepth 100000 in
theorem vfsListIsComplete_opened (H : Type) (enc : TypeId × Value → H) (W : World) (base : Nat) (args : Array Value) (ds : List (DataW H)) (before : List MemPlace)
    (hval : ∀ (j : Nat) t v, Tryz.f4.params[j]? = some t → args[j]? = some v → Value.okWide Tryz.prog W .any base t v)
    (hA : DataW.TrodAll enc Tryz.prog W 0 (fun _ => true) true Tryz.f4.params.toList args.toList ds before)
    (hsz : (DataW.weightsEach Tryz.prog Tryz.f4.params.toList ds).all (· ≤ reachBytes) = true) (hkeys : KeysAt W) :
    Calls Tryz.prog 4 args W fun e W' => e = .returned (.bool true) ∧ Chg [] W W' := by
  rw [Tryz.params4] at hA hval hsz
  obtain ⟨v0, v1, d0, d1, p0, p1, rfl, rfl, rfl, h0, h1⟩ := trodAll_two hA
  obtain ⟨a0, c0, b0, f0, rfl, hl0, _hcap0, r0⟩ := Tryz.openB (hval 0 24 v0 rfl rfl) h0 (Tryz.sized hsz 0 rfl rfl)
  obtain ⟨a1, c1, l1, f1, rfl, hl1, r1⟩ := Tryz.openA (hval 1 25 v1 rfl rfl) h1 (Tryz.sized hsz 1 rfl rfl)
  exact listComplete W a0 a1 c0 c1 b0 l1 (f0 ++ f1) hkeys hl0 (r0.mono (fun k hk => by simp [hk])) (r1.mono (fun k hk => by simp [hk])) hl1.2 hl1.1

theorem vfsListIsComplete_door (os : Os) (args : Array Value) : laidMetH Tryz.prog Rows.vfsListIsCompleteRow.laid ((World.doorLaid Tryz.prog 67 os).forCall (fun _ _ => 0) ⟨#[], args, []⟩).memory :=
  laidMetH_of_parts3 (fuel := 8) (laidMet_of_run' 8 (by kernel_rfl) (by kernel_rfl)) (by kernel_rfl) (by kernel_rfl)

set_option maxRecDepth 100000 in
theorem vfsListIsComplete_lifted (os : Os) (started : os.Started) (H : Type) (enc : TypeId × Value → H) :
    ReturnsInHanded {} Tryz.checked os 4 .any (fun w args => (Rows.vfsListIsCompleteSpec.pre enc Tryz.prog Tryz.f4 [] false w args ∧ laidMetH Tryz.prog Rows.vfsListIsCompleteRow.laid w) ∧ sizedMet enc Tryz.prog Tryz.f4 (OpenSpec.ofChange Rows.vfsListIsCompleteSpec) false w args)
      (Rows.vfsListIsCompleteSpec.post enc Tryz.prog Tryz.f4 false true false false) := by
  refine returnsInHanded_of_change_and (C := Tryz.checked) (X := fun w _ => laidMetH Tryz.prog Rows.vfsListIsCompleteRow.laid w) (fun _ _ _ hh h => h.of_heap hh) Tryz.own started (by kernel_rfl) Tryz.func4
    (ChangeSpec.witness_shaped (enc := enc) (C := Tryz.checked) (os := os) (X := fun w _ => laidMetH Tryz.prog Rows.vfsListIsCompleteRow.laid w) false (World.doorLaid Tryz.prog 67 os) #[.slice none 0 0, .slice none 0 0] 8 rfl (World.shaped_of_RefB (by kernel_rfl) (by kernel_rfl)) (by kernel_rfl) (by kernel_rfl) (by kernel_rfl) (vfsListIsComplete_door os _)) ?_
  intro W base args ds gs before hval hW _ hsz hL _
  obtain ⟨hA, hsz'⟩ := Tryz.law_reads (s := Rows.vfsListIsCompleteSpec) rfl hW hsz
  refine (vfsListIsComplete_opened H enc W base args ds before hval hA hsz' (Tryz.keysAt (l := Rows.vfsListIsCompleteRow.laid) (List.mem_of_getElem? (i := 5) rfl) hL (by kernel_rfl))).mono fun e W' ⟨he, hc⟩ => ⟨_, he, ?_⟩
  rw [Tryz.params4] at hA
  obtain ⟨v0, v1, d0, d1, p0, p1, _, rfl, _⟩ := trodAll_two hA
  exact law_post Tryz.laidOut rfl rfl Tryz.underlying4 (by rw [Tryz.params4]; exact Tryz.readable (by kernel_rfl)) ⟨rfl, rfl, rfl⟩ hW hc

theorem vfsListIsComplete_row : Rows.VfsListIsCompleteSaid :=
  OpenClaim.holds_of_wide 4 Tryz.f4 rfl rfl rfl rfl rfl rfl rfl ⟨rfl, rfl, rfl, rfl, rfl⟩ rfl rfl rfl rfl rfl (by kernel_rfl) Tryz.func4 (by kernel_rfl)
    (of_decide_eq_true (by kernel_rfl)) (by unfold Func.isWrapper; rw [if_neg (of_decide_eq_false (by kernel_rfl))]; exact ⟨rfl, rfl⟩)
    (fun os started H enc _ => vfsListIsComplete_lifted os started H enc)

theorem VfsListIsComplete_holds : Rows.VfsListIsCompleteCardSaid :=
  Claim7.holds_tied_plain_at .later [] [.data, .data, .data, .sentinel, .sentinel, .widerDeep] true (true, "f7115c1a4c6b5dba946ab7ff2ed522be4db7dca1d77676c28d40e0576603de7d") true
    vfsListIsComplete_row (fun _ h => by cases h) (by kernel_rfl) (fun _ h => by cases h) vfsListIsComplete_row_tie rfl ⟨rfl, rfl⟩ (by kernel_rfl) rfl
    (fun f fn hf hfn => by
      obtain rfl : f = 4 := Option.some.inj ((show Tryz.prog.funcNamed "paxtar/paxtarlaw19.VfsListIsComplete" = some 4 by kernel_rfl).symm.trans hf) |>.symm
      obtain rfl : fn = Tryz.f4 := (Option.some.inj (Tryz.func4.symm.trans hfn)).symm
      exact ⟨by kernel_rfl, fun j t ht => by
        rw [Tryz.params4] at ht
        have hm : t ∈ [24, 25] := by simpa using Array.mem_of_getElem? ht
        have hall : ([24, 25].all fun u => !Tryz.prog.wantsStandIn u) = true := by kernel_rfl
        exact (show Tryz.prog.wantsStandIn t = false by simpa using List.all_eq_true.1 hall t hm)⟩)
    (by kernel_rfl)
#print axioms VfsListIsComplete_holds
end Go.Proofs.YtoionaeimnmcbaaGreatDoor
