/- VfsOptions is proved: for every input the law returns true and changes nothing that was there. The listed package variables read as the program's text lays them (the card ties them, over the pruned copy). -/
import Derived.Test.YtoionaeimnmcbaaDoorVLawD
import Derived.Test.YtoionaeimnmcbaaDoorVOpen
namespace Go.Proofs.YtoionaeimnmcbaaDoor
open Go.ChangeShapes Go.WideShapes Go.ChangeAt Go.RowKit Go.Pax Go.Joins

set_option maxRecDepth 100000 in
theorem vfsOptions_opened (H : Type) (enc : TypeId × Value → H) (W : World) (base : Nat) (args : Array Value) (ds : List (DataW H)) (before : List MemPlace)
    (hval : ∀ (j : Nat) t v, Tryd.f6.params[j]? = some t → args[j]? = some v → Value.okWide Tryd.prog W .any base t v)
    (hA : DataW.TrodAll enc Tryd.prog W 0 (fun _ => true) true Tryd.f6.params.toList args.toList ds before)
    (hsz : (DataW.weightsEach Tryd.prog Tryd.f6.params.toList ds).all (· ≤ reachBytes) = true) (hkeys : KeysAt W) :
    Calls Tryd.prog 6 args W fun e W' => e = .returned (.bool true) ∧ Chg [] W W' := by
  rw [Tryd.params6] at hA hval hsz
  obtain ⟨v0, v1, v2, d0, d1, d2, p0, p1, p2, rfl, rfl, rfl, h0, h1, h2⟩ := trodAll_three hA
  obtain ⟨n0, rfl, rfl, rfl, w0⟩ := open_int Tryd.underlying3 (hval 0 3 v0 rfl rfl) h0
  obtain ⟨n1, rfl, rfl, rfl, w1⟩ := open_int Tryd.underlying3 (hval 1 3 v1 rfl rfl) h1
  obtain ⟨a2, c2, l2, f2, rfl, hl2, r2, _hr2⟩ := Tryd.openI (hval 2 29 v2 rfl rfl) h2 (Tryd.sized hsz 2 rfl rfl)
  exact vfsOptions W n0 n1 l2 a2 c2 (f2) hkeys hl2 (r2.mono (fun k hk => by simp [hk]))

theorem vfsOptions_door (os : Os) (args : Array Value) : laidMetH Tryd.prog Rows.vfsOptionsRow.laid ((World.doorLaid Tryd.prog 67 os).forCall (fun _ _ => 0) ⟨#[], args, []⟩).memory :=
  laidMetH_of_parts3 (fuel := 8) (laidMet_of_run' 8 (by kernel_rfl) (by kernel_rfl)) (by kernel_rfl) (by kernel_rfl)

set_option maxRecDepth 100000 in
theorem vfsOptions_lifted (os : Os) (started : os.Started) (H : Type) (enc : TypeId × Value → H) :
    ReturnsInHanded {} Tryd.checked os 6 .any (fun w args => (Rows.vfsOptionsSpec.pre enc Tryd.prog Tryd.f6 [] false w args ∧ laidMetH Tryd.prog Rows.vfsOptionsRow.laid w) ∧ sizedMet enc Tryd.prog Tryd.f6 (OpenSpec.ofChange Rows.vfsOptionsSpec) false w args)
      (Rows.vfsOptionsSpec.post enc Tryd.prog Tryd.f6 false true false false) := by
  refine returnsInHanded_of_change_and (C := Tryd.checked) (X := fun w _ => laidMetH Tryd.prog Rows.vfsOptionsRow.laid w) (fun _ _ _ hh h => h.of_heap hh) Tryd.own started (by kernel_rfl) Tryd.func6
    (ChangeSpec.witness_shaped (enc := enc) (C := Tryd.checked) (os := os) (X := fun w _ => laidMetH Tryd.prog Rows.vfsOptionsRow.laid w) false (World.doorLaid Tryd.prog 67 os) #[.int .i64 0, .int .i64 0, .slice none 0 0] 8 rfl (World.shaped_of_RefB (by kernel_rfl) (by kernel_rfl)) (by kernel_rfl) (by kernel_rfl) (by kernel_rfl) (vfsOptions_door os _)) ?_
  intro W base args ds gs before hval hW _ hsz hL _
  obtain ⟨hA, hsz'⟩ := Tryd.law_reads (s := Rows.vfsOptionsSpec) rfl hW hsz
  refine (vfsOptions_opened H enc W base args ds before hval hA hsz' (Tryd.keysAt (l := Rows.vfsOptionsRow.laid) (List.mem_of_getElem? (i := 5) rfl) hL (by kernel_rfl))).mono fun e W' ⟨he, hc⟩ => ⟨_, he, ?_⟩
  rw [Tryd.params6] at hA
  obtain ⟨v0, v1, v2, d0, d1, d2, p0, p1, p2, _, rfl, _⟩ := trodAll_three hA
  exact law_post Tryd.laidOut rfl rfl Tryd.underlying4 (by rw [Tryd.params6]; exact Tryd.readable (by kernel_rfl)) ⟨rfl, rfl, rfl⟩ hW hc

theorem vfsOptions_row : Rows.VfsOptionsSaid :=
  OpenClaim.holds_of_wide 6 Tryd.f6 rfl rfl rfl rfl rfl rfl rfl ⟨rfl, rfl, rfl, rfl, rfl⟩ rfl rfl rfl rfl rfl (by kernel_rfl) Tryd.func6 (by kernel_rfl)
    (of_decide_eq_true (by kernel_rfl)) (by unfold Func.isWrapper; rw [if_neg (of_decide_eq_false (by kernel_rfl))]; exact ⟨rfl, rfl⟩)
    (fun os started H enc _ => vfsOptions_lifted os started H enc)

theorem VfsOptions_holds : Rows.VfsOptionsCardSaid :=
  Claim7.holds_tied_plain_at .later [] [.data, .data, .data, .sentinel, .sentinel, .widerDeep] true (true, "5d9bdc8d6f9c6182646d9b3ea1258afd68cc8dd813f0b8a64bd102aa032c054e") true
    vfsOptions_row (fun _ h => by cases h) (by kernel_rfl) (fun _ h => by cases h) vfsOptions_row_tie rfl ⟨rfl, rfl⟩ (by kernel_rfl) rfl
    (fun f fn hf hfn => by
      obtain rfl : f = 6 := Option.some.inj ((show Tryd.prog.funcNamed "paxtar/paxtarlaw19.VfsOptions" = some 6 by kernel_rfl).symm.trans hf) |>.symm
      obtain rfl : fn = Tryd.f6 := (Option.some.inj (Tryd.func6.symm.trans hfn)).symm
      exact ⟨by kernel_rfl, fun j t ht => by
        rw [Tryd.params6] at ht
        have hm : t ∈ [3, 3, 29] := by simpa using Array.mem_of_getElem? ht
        have hall : ([3, 3, 29].all fun u => !Tryd.prog.wantsStandIn u) = true := by kernel_rfl
        exact (show Tryd.prog.wantsStandIn t = false by simpa using List.all_eq_true.1 hall t hm)⟩)
    (by kernel_rfl)
#print axioms VfsOptions_holds
end Go.Proofs.YtoionaeimnmcbaaDoor
