/- BlockPadAligns is proved: for every input the law returns true and changes nothing that was there. No condition. -/
import Derived.Test.YtljlcigbehgohaaBLawC
import Derived.Test.YtljlcigbehgohaaOpen
import Derived.Test.YtljlcigbehgohaaHead
namespace Go.Proofs.Ytljlcigbehgohaa
open Go.ChangeShapes Go.WideShapes Go.ChangeAt Go.RowKit Go.Pax Go.Joins

set_option maxRecDepth 100000 in
theorem blockPadAligns_opened (H : Type) (enc : TypeId × Value → H) (W : World) (base : Nat) (args : Array Value) (ds : List (DataW H)) (before : List MemPlace)
    (hval : ∀ (j : Nat) t v, Try.f18.params[j]? = some t → args[j]? = some v → Value.okWide Try.prog W .any base t v)
    (hA : DataW.TrodAll enc Try.prog W 0 (fun _ => true) true Try.f18.params.toList args.toList ds before)
    (hsz : (DataW.weightsEach Try.prog Try.f18.params.toList ds).all (· ≤ reachBytes) = true) :
    Calls Try.prog 18 args W fun e W' => e = .returned (.bool true) ∧ Chg [] W W' := by
  rw [Try.params18] at hA hval hsz
  obtain ⟨v0, v1, d0, d1, p0, p1, rfl, rfl, rfl, h0, h1⟩ := trodAll_two hA
  obtain ⟨a0, c0, b0, f0, rfl, hl0, hcap0, r0⟩ := Try.openB (hval 0 22 v0 rfl rfl) h0 (Try.sized hsz 0 rfl rfl)
  obtain ⟨n1, rfl, rfl, rfl, w1⟩ := open_int Try.underlying5 (hval 1 5 v1 rfl rfl) h1
  exact blkPads W a0 c0 b0 n1 (f0) (by simpa [Lit.wf, IntKind.min, IntKind.max, IntKind.signed, IntKind.bits] using w1) hcap0 (r0.mono (fun k hk => by simp [hk]))

set_option maxRecDepth 100000 in
theorem blockPadAligns_lifted (os : Os) (started : os.Started) (H : Type) (enc : TypeId × Value → H) :
    ReturnsInHanded {} Try.checked os 18 .any (Rows.blockPadAlignsSpec.pre6 enc Try.prog Try.f18 Rows.blockPadAlignsRow.domain false) (Rows.blockPadAlignsSpec.post enc Try.prog Try.f18 false true false false) := by
  refine returnsInHanded_of_change_sized (C := Try.checked) Try.own started (by kernel_rfl) Try.func18
    (ChangeSpec.witness6 (enc := enc) (C := Try.checked) false ⟨#[], #[.slice none 0 0, .int .u8 0], []⟩ 8 (by kernel_rfl) (by kernel_rfl) (by kernel_rfl) (by kernel_rfl)) ?_
  intro W base args ds gs before hval hW _ hsz _
  obtain ⟨hA, hsz'⟩ := Try.law_reads (s := Rows.blockPadAlignsSpec) rfl hW hsz
  refine (blockPadAligns_opened H enc W base args ds before hval hA hsz').mono fun e W' ⟨he, hc⟩ => ⟨_, he, ?_⟩
  rw [Try.params18] at hA
  obtain ⟨v0, v1, d0, d1, p0, p1, _, rfl, _⟩ := trodAll_two hA
  exact law_post Try.laidOut rfl rfl Try.underlying4 (by rw [Try.params18]; exact Try.readable (by kernel_rfl)) ⟨rfl, rfl, rfl⟩ hW hc

theorem blockPadAligns_closed : joinedFacts Try.prog 18 Try.f18 Rows.blockPadAlignsSpec Rows.blockPadAlignsRow = true := by
  unfold joinedFacts
  rw [Try.mayEnter0, Try.liftsFinal0, Try.make0]
  kernel_rfl

theorem BlockPadAligns_holds : Rows.BlockPadAlignsSaid :=
  OpenClaim.holds_of_wide 18 Try.f18 rfl rfl rfl rfl rfl rfl rfl ⟨rfl, rfl, rfl, rfl, rfl⟩ rfl rfl rfl rfl rfl (by kernel_rfl) Try.func18 blockPadAligns_closed
    (of_decide_eq_true (by kernel_rfl)) (by unfold Func.isWrapper; rw [if_neg (of_decide_eq_false (by kernel_rfl))]; exact ⟨rfl, rfl⟩)
    (fun os started H enc _ => blockPadAligns_lifted os started H enc)
#print axioms BlockPadAligns_holds
end Go.Proofs.Ytljlcigbehgohaa
