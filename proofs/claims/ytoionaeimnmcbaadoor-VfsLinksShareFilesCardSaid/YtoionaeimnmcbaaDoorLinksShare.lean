/- VfsLinksShareFiles is proved: for every input the law returns true and changes nothing that was there. The listed package variables read as the program's text lays them (the card ties them, over the pruned copy). -/
import Derived.Test.YtoionaeimnmcbaaDoorVLawF
import Derived.Test.YtoionaeimnmcbaaDoorVOpen
namespace Go.Proofs.YtoionaeimnmcbaaDoor
open Go.ChangeShapes Go.WideShapes Go.ChangeAt Go.RowKit Go.Pax Go.Joins

set_option maxRecDepth 100000 in
theorem vfsLinksShareFiles_opened (H : Type) (enc : TypeId × Value → H) (W : World) (base : Nat) (args : Array Value) (ds : List (DataW H)) (before : List MemPlace)
    (hval : ∀ (j : Nat) t v, Tryd.f4.params[j]? = some t → args[j]? = some v → Value.okWide Tryd.prog W .any base t v)
    (hA : DataW.TrodAll enc Tryd.prog W 0 (fun _ => true) true Tryd.f4.params.toList args.toList ds before)
    (hsz : (DataW.weightsEach Tryd.prog Tryd.f4.params.toList ds).all (· ≤ reachBytes) = true) (hkeys : KeysAt W) :
    Calls Tryd.prog 4 args W fun e W' => e = .returned (.bool true) ∧ Chg [] W W' := by
  rw [Tryd.params4] at hA hval hsz
  obtain ⟨v0, v1, v2, d0, d1, d2, p0, p1, p2, rfl, rfl, rfl, h0, h1, h2⟩ := trodAll_three hA
  obtain ⟨n0, rfl, rfl, rfl, w0⟩ := open_int Tryd.underlying5 (hval 0 5 v0 rfl rfl) h0
  obtain ⟨a1, c1, b1, f1, rfl, hl1, hcap1, r1⟩ := Tryd.openB (hval 1 36 v1 rfl rfl) h1 (Tryd.sized hsz 1 rfl rfl)
  obtain ⟨n2, rfl, rfl, rfl, w2⟩ := open_int Tryd.underlying3 (hval 2 3 v2 rfl rfl) h2
  exact linksShare W n0 n2 b1 a1 c1 (f1) (by simpa [Lit.wf, IntKind.min, IntKind.max, IntKind.signed, IntKind.bits] using w0) hkeys hl1 hcap1 (r1.mono (fun k hk => by simp [hk]))

theorem vfsLinksShareFiles_door (os : Os) (args : Array Value) : laidMetH Tryd.prog Rows.vfsLinksShareFilesRow.laid ((World.doorLaid Tryd.prog 67 os).forCall (fun _ _ => 0) ⟨#[], args, []⟩).memory :=
  laidMetH_of_parts3 (fuel := 8) (laidMet_of_run' 8 (by kernel_rfl) (by kernel_rfl)) (by kernel_rfl) (by kernel_rfl)

set_option maxRecDepth 100000 in
theorem vfsLinksShareFiles_lifted (os : Os) (started : os.Started) (H : Type) (enc : TypeId × Value → H) :
    ReturnsInHanded {} Tryd.checked os 4 .any (fun w args => (Rows.vfsLinksShareFilesSpec.pre enc Tryd.prog Tryd.f4 [] false w args ∧ laidMetH Tryd.prog Rows.vfsLinksShareFilesRow.laid w) ∧ sizedMet enc Tryd.prog Tryd.f4 (OpenSpec.ofChange Rows.vfsLinksShareFilesSpec) false w args)
      (Rows.vfsLinksShareFilesSpec.post enc Tryd.prog Tryd.f4 false true false false) := by
  refine returnsInHanded_of_change_and (C := Tryd.checked) (X := fun w _ => laidMetH Tryd.prog Rows.vfsLinksShareFilesRow.laid w) (fun _ _ _ hh h => h.of_heap hh) Tryd.own started (by kernel_rfl) Tryd.func4
    (ChangeSpec.witness_shaped (enc := enc) (C := Tryd.checked) (os := os) (X := fun w _ => laidMetH Tryd.prog Rows.vfsLinksShareFilesRow.laid w) false (World.doorLaid Tryd.prog 67 os) #[.int .u8 0, .slice none 0 0, .int .i64 0] 8 rfl (World.shaped_of_RefB (by kernel_rfl) (by kernel_rfl)) (by kernel_rfl) (by kernel_rfl) (by kernel_rfl) (vfsLinksShareFiles_door os _)) ?_
  intro W base args ds gs before hval hW _ hsz hL _
  obtain ⟨hA, hsz'⟩ := Tryd.law_reads (s := Rows.vfsLinksShareFilesSpec) rfl hW hsz
  refine (vfsLinksShareFiles_opened H enc W base args ds before hval hA hsz' (Tryd.keysAt (l := Rows.vfsLinksShareFilesRow.laid) (List.mem_of_getElem? (i := 5) rfl) hL (by kernel_rfl))).mono fun e W' ⟨he, hc⟩ => ⟨_, he, ?_⟩
  rw [Tryd.params4] at hA
  obtain ⟨v0, v1, v2, d0, d1, d2, p0, p1, p2, _, rfl, _⟩ := trodAll_three hA
  exact law_post Tryd.laidOut rfl rfl Tryd.underlying4 (by rw [Tryd.params4]; exact Tryd.readable (by kernel_rfl)) ⟨rfl, rfl, rfl⟩ hW hc

theorem vfsLinksShareFiles_row : Rows.VfsLinksShareFilesSaid :=
  OpenClaim.holds_of_wide 4 Tryd.f4 rfl rfl rfl rfl rfl rfl rfl ⟨rfl, rfl, rfl, rfl, rfl⟩ rfl rfl rfl rfl rfl (by kernel_rfl) Tryd.func4 (by kernel_rfl)
    (of_decide_eq_true (by kernel_rfl)) (by unfold Func.isWrapper; rw [if_neg (of_decide_eq_false (by kernel_rfl))]; exact ⟨rfl, rfl⟩)
    (fun os started H enc _ => vfsLinksShareFiles_lifted os started H enc)

theorem VfsLinksShareFiles_holds : Rows.VfsLinksShareFilesCardSaid :=
  Claim7.holds_tied_plain_at .later [] [.data, .data, .data, .sentinel, .sentinel, .widerDeep] true (true, "5d9bdc8d6f9c6182646d9b3ea1258afd68cc8dd813f0b8a64bd102aa032c054e") true
    vfsLinksShareFiles_row (fun _ h => by cases h) (by kernel_rfl) (fun _ h => by cases h) vfsLinksShareFiles_row_tie rfl ⟨rfl, rfl⟩ (by kernel_rfl) rfl
    (fun f fn hf hfn => by
      obtain rfl : f = 4 := Option.some.inj ((show Tryd.prog.funcNamed "paxtar/paxtarlaw19.VfsLinksShareFiles" = some 4 by kernel_rfl).symm.trans hf) |>.symm
      obtain rfl : fn = Tryd.f4 := (Option.some.inj (Tryd.func4.symm.trans hfn)).symm
      exact ⟨by kernel_rfl, fun j t ht => by
        rw [Tryd.params4] at ht
        have hm : t ∈ [5, 36, 3] := by simpa using Array.mem_of_getElem? ht
        have hall : ([5, 36, 3].all fun u => !Tryd.prog.wantsStandIn u) = true := by kernel_rfl
        exact (show Tryd.prog.wantsStandIn t = false by simpa using List.all_eq_true.1 hall t hm)⟩)
    (by kernel_rfl)
#print axioms VfsLinksShareFiles_holds
end Go.Proofs.YtoionaeimnmcbaaDoor
