/- VfsCreateRules is proved: for every input the law returns true and changes nothing that was there. No condition of ours; the listed package variables read as the program's text lays them (the card ties them, over the pruned copy). -/
import Derived.Test.YtoionaeimnmcbaaDoorVLawA
import Derived.Test.YtoionaeimnmcbaaDoorVOpen
namespace Go.Proofs.YtoionaeimnmcbaaDoor
open Go.ChangeShapes Go.WideShapes Go.ChangeAt Go.RowKit Go.Pax Go.Joins

set_option maxRecDepth 100000 in
theorem vfsCreateRules_opened (H : Type) (enc : TypeId × Value → H) (W : World) (base : Nat) (args : Array Value) (ds : List (DataW H)) (before : List MemPlace)
    (hval : ∀ (j : Nat) t v, Tryd.f5.params[j]? = some t → args[j]? = some v → Value.okWide Tryd.prog W .any base t v)
    (hA : DataW.TrodAll enc Tryd.prog W 0 (fun _ => true) true Tryd.f5.params.toList args.toList ds before)
    (hsz : (DataW.weightsEach Tryd.prog Tryd.f5.params.toList ds).all (· ≤ reachBytes) = true) (hkeys : KeysAt W) :
    Calls Tryd.prog 5 args W fun e W' => e = .returned (.bool true) ∧ Chg [] W W' := by
  rw [Tryd.params5] at hA hval hsz
  obtain ⟨v0, v1, d0, d1, p0, p1, rfl, rfl, rfl, h0, h1⟩ := trodAll_two hA
  obtain ⟨a0, c0, l0, f0, rfl, hl0, r0⟩ := Tryd.openA (hval 0 24 v0 rfl rfl) h0 (Tryd.sized hsz 0 rfl rfl)
  obtain ⟨s1, rfl, hl1⟩ := Tryd.openS (hval 1 9 v1 rfl rfl) h1 (Tryd.sized hsz 1 rfl rfl)
  exact createRules W a0 c0 l0 s1 (f0) hkeys (r0.mono (fun k hk => by simp [hk])) hl0.2 hl0.1 hl1

theorem vfsCreateRules_door (os : Os) (args : Array Value) : laidMetH Tryd.prog Rows.vfsCreateRulesRow.laid ((World.doorLaid Tryd.prog 67 os).forCall (fun _ _ => 0) ⟨#[], args, []⟩).memory :=
  laidMetH_of_parts3 (fuel := 8) (laidMet_of_run' 8 (by kernel_rfl) (by kernel_rfl)) (by kernel_rfl) (by kernel_rfl)

set_option maxRecDepth 100000 in
theorem vfsCreateRules_lifted (os : Os) (started : os.Started) (H : Type) (enc : TypeId × Value → H) :
    ReturnsInHanded {} Tryd.checked os 5 .any (fun w args => (Rows.vfsCreateRulesSpec.pre enc Tryd.prog Tryd.f5 [] false w args ∧ laidMetH Tryd.prog Rows.vfsCreateRulesRow.laid w) ∧ sizedMet enc Tryd.prog Tryd.f5 (OpenSpec.ofChange Rows.vfsCreateRulesSpec) false w args)
      (Rows.vfsCreateRulesSpec.post enc Tryd.prog Tryd.f5 false true false false) := by
  refine returnsInHanded_of_change_and (C := Tryd.checked) (X := fun w _ => laidMetH Tryd.prog Rows.vfsCreateRulesRow.laid w) (fun _ _ _ hh h => h.of_heap hh) Tryd.own started (by kernel_rfl) Tryd.func5
    (ChangeSpec.witness_shaped (enc := enc) (C := Tryd.checked) (os := os) (X := fun w _ => laidMetH Tryd.prog Rows.vfsCreateRulesRow.laid w) false (World.doorLaid Tryd.prog 67 os) #[.slice none 0 0, .string ⟨#[]⟩] 8 rfl (World.shaped_of_RefB (by kernel_rfl) (by kernel_rfl)) (by kernel_rfl) (by kernel_rfl) (by kernel_rfl) (vfsCreateRules_door os _)) ?_
  intro W base args ds gs before hval hW _ hsz hL _
  obtain ⟨hA, hsz'⟩ := Tryd.law_reads (s := Rows.vfsCreateRulesSpec) rfl hW hsz
  refine (vfsCreateRules_opened H enc W base args ds before hval hA hsz' (Tryd.keysAt (l := Rows.vfsCreateRulesRow.laid) (List.mem_of_getElem? (i := 5) rfl) hL (by kernel_rfl))).mono fun e W' ⟨he, hc⟩ => ⟨_, he, ?_⟩
  rw [Tryd.params5] at hA
  obtain ⟨v0, v1, d0, d1, p0, p1, _, rfl, _⟩ := trodAll_two hA
  exact law_post Tryd.laidOut rfl rfl Tryd.underlying4 (by rw [Tryd.params5]; exact Tryd.readable (by kernel_rfl)) ⟨rfl, rfl, rfl⟩ hW hc

theorem vfsCreateRules_row : Rows.VfsCreateRulesSaid :=
  OpenClaim.holds_of_wide 5 Tryd.f5 rfl rfl rfl rfl rfl rfl rfl ⟨rfl, rfl, rfl, rfl, rfl⟩ rfl rfl rfl rfl rfl (by kernel_rfl) Tryd.func5 (by kernel_rfl)
    (of_decide_eq_true (by kernel_rfl)) (by unfold Func.isWrapper; rw [if_neg (of_decide_eq_false (by kernel_rfl))]; exact ⟨rfl, rfl⟩)
    (fun os started H enc _ => vfsCreateRules_lifted os started H enc)

theorem VfsCreateRules_holds : Rows.VfsCreateRulesCardSaid :=
  Claim7.holds_tied_plain_at .later [] [.data, .data, .data, .sentinel, .sentinel, .widerDeep] true (true, "5d9bdc8d6f9c6182646d9b3ea1258afd68cc8dd813f0b8a64bd102aa032c054e") true
    vfsCreateRules_row (fun _ h => by cases h) (by kernel_rfl) (fun _ h => by cases h) vfsCreateRules_row_tie rfl ⟨rfl, rfl⟩ (by kernel_rfl) rfl
    (fun f fn hf hfn => by
      obtain rfl : f = 5 := Option.some.inj ((show Tryd.prog.funcNamed "paxtar/paxtarlaw19.VfsCreateRules" = some 5 by kernel_rfl).symm.trans hf) |>.symm
      obtain rfl : fn = Tryd.f5 := (Option.some.inj (Tryd.func5.symm.trans hfn)).symm
      exact ⟨by kernel_rfl, fun j t ht => by
        rw [Tryd.params5] at ht
        have hm : t ∈ [24, 9] := by simpa using Array.mem_of_getElem? ht
        have hall : ([24, 9].all fun u => !Tryd.prog.wantsStandIn u) = true := by kernel_rfl
        exact (show Tryd.prog.wantsStandIn t = false by simpa using List.all_eq_true.1 hall t hm)⟩)
    (by kernel_rfl)
#print axioms VfsCreateRules_holds
end Go.Proofs.YtoionaeimnmcbaaDoor
