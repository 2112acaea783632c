/- BlockWriterMatchesReference is proved: for every input the law returns true and changes nothing that was there. No condition. -/
import Derived.Test.YtljlcigbehgohaaBLawE
import Derived.Test.YtljlcigbehgohaaOpen
import Derived.Test.YtljlcigbehgohaaHead
namespace Go.Proofs.Ytljlcigbehgohaa
open Go.ChangeShapes Go.WideShapes Go.ChangeAt Go.RowKit Go.Pax Go.Joins

set_option maxRecDepth 100000 in
theorem blockWriterMatchesReference_opened (H : Type) (enc : TypeId × Value → H) (W : World) (base : Nat) (args : Array Value) (ds : List (DataW H)) (before : List MemPlace)
    (hval : ∀ (j : Nat) t v, Try.f16.params[j]? = some t → args[j]? = some v → Value.okWide Try.prog W .any base t v)
    (hA : DataW.TrodAll enc Try.prog W 0 (fun _ => true) true Try.f16.params.toList args.toList ds before)
    (hsz : (DataW.weightsEach Try.prog Try.f16.params.toList ds).all (· ≤ reachBytes) = true) :
    Calls Try.prog 16 args W fun e W' => e = .returned (.bool true) ∧ Chg [] W W' := by
  rw [Try.params16] at hA hval hsz
  obtain ⟨v0, v1, d0, d1, p0, p1, rfl, rfl, rfl, h0, h1⟩ := trodAll_two hA
  obtain ⟨a0, c0, s0, f0, fail0, rfl, hl0, r0, hf0⟩ := Try.openScript (hval 0 25 v0 rfl rfl) h0 (Try.sized hsz 0 rfl rfl)
  obtain ⟨a1, c1, l1, f1, rfl, hl1, r1⟩ := Try.openA (hval 1 80 v1 rfl rfl) h1 (Try.sized hsz 1 rfl rfl)
  exact blkWrites W a0 a1 c0 c1 s0 fail0 l1 (f0 ++ f1) hf0 hl0 hl1.1 hl1.2 (r0.mono (fun k hk => by simp [hk])) (r1.mono (fun k hk => by simp [hk]))

set_option maxRecDepth 100000 in
theorem blockWriterMatchesReference_lifted (os : Os) (started : os.Started) (H : Type) (enc : TypeId × Value → H) :
    ReturnsInHanded {} Try.checked os 16 .any (Rows.blockWriterMatchesReferenceSpec.pre6 enc Try.prog Try.f16 Rows.blockWriterMatchesReferenceRow.domain false) (Rows.blockWriterMatchesReferenceSpec.post enc Try.prog Try.f16 false true false false) := by
  refine returnsInHanded_of_change_sized (C := Try.checked) Try.own started (by kernel_rfl) Try.func16
    (ChangeSpec.witness6 (enc := enc) (C := Try.checked) false ⟨#[], #[.agg #[.slice none 0 0, .int .i64 0], .slice none 0 0], []⟩ 8 (by kernel_rfl) (by kernel_rfl) (by kernel_rfl) (by kernel_rfl)) ?_
  intro W base args ds gs before hval hW _ hsz _
  obtain ⟨hA, hsz'⟩ := Try.law_reads (s := Rows.blockWriterMatchesReferenceSpec) rfl hW hsz
  refine (blockWriterMatchesReference_opened H enc W base args ds before hval hA hsz').mono fun e W' ⟨he, hc⟩ => ⟨_, he, ?_⟩
  rw [Try.params16] at hA
  obtain ⟨v0, v1, d0, d1, p0, p1, _, rfl, _⟩ := trodAll_two hA
  exact law_post Try.laidOut rfl rfl Try.underlying4 (by rw [Try.params16]; exact Try.readable (by kernel_rfl)) ⟨rfl, rfl, rfl⟩ hW hc

theorem blockWriterMatchesReference_closed : joinedFacts Try.prog 16 Try.f16 Rows.blockWriterMatchesReferenceSpec Rows.blockWriterMatchesReferenceRow = true := by
  unfold joinedFacts
  rw [Try.mayEnter0, Try.liftsFinal0, Try.make0]
  kernel_rfl

theorem BlockWriterMatchesReference_holds : Rows.BlockWriterMatchesReferenceSaid :=
  OpenClaim.holds_of_wide 16 Try.f16 rfl rfl rfl rfl rfl rfl rfl ⟨rfl, rfl, rfl, rfl, rfl⟩ rfl rfl rfl rfl rfl (by kernel_rfl) Try.func16 blockWriterMatchesReference_closed
    (of_decide_eq_true (by kernel_rfl)) (by unfold Func.isWrapper; rw [if_neg (of_decide_eq_false (by kernel_rfl))]; exact ⟨rfl, rfl⟩)
    (fun os started H enc _ => blockWriterMatchesReference_lifted os started H enc)
#print axioms BlockWriterMatchesReference_holds
end Go.Proofs.Ytljlcigbehgohaa
