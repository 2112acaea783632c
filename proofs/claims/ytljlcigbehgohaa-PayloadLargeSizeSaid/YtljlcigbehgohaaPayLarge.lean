/- PayloadLargeSize is proved: for every input the law returns true and changes nothing that was there. No condition. -/
import Derived.Test.YtljlcigbehgohaaPLawA
import Derived.Test.YtljlcigbehgohaaOpen
import Derived.Test.YtljlcigbehgohaaHead
namespace Go.Proofs.Ytljlcigbehgohaa
open Go.ChangeShapes Go.WideShapes Go.ChangeAt Go.RowKit Go.Pax Go.Joins

set_option maxRecDepth 100000 in
theorem payloadLargeSize_opened (H : Type) (enc : TypeId × Value → H) (W : World) (base : Nat) (args : Array Value) (ds : List (DataW H)) (before : List MemPlace)
    (hval : ∀ (j : Nat) t v, Try.f20.params[j]? = some t → args[j]? = some v → Value.okWide Try.prog W .any base t v)
    (hA : DataW.TrodAll enc Try.prog W 0 (fun _ => true) true Try.f20.params.toList args.toList ds before)
    (hsz : (DataW.weightsEach Try.prog Try.f20.params.toList ds).all (· ≤ reachBytes) = true) :
    Calls Try.prog 20 args W fun e W' => e = .returned (.bool true) ∧ Chg [] W W' := by
  rw [Try.params20] at hA hval hsz
  obtain ⟨v0, v1, d0, d1, p0, p1, rfl, rfl, rfl, h0, h1⟩ := trodAll_two hA
  obtain ⟨a0, c0, b0, f0, rfl, hl0, _hcap0, r0⟩ := Try.openB (hval 0 22 v0 rfl rfl) h0 (Try.sized hsz 0 rfl rfl)
  obtain ⟨n1, rfl, rfl, rfl, w1⟩ := open_int Try.underlying2 (hval 1 2 v1 rfl rfl) h1
  exact payLarge W a0 c0 b0 n1 (f0) (r0.mono (fun k hk => by simp [hk])) hl0

set_option maxRecDepth 100000 in
theorem payloadLargeSize_lifted (os : Os) (started : os.Started) (H : Type) (enc : TypeId × Value → H) :
    ReturnsInHanded {} Try.checked os 20 .any (Rows.payloadLargeSizeSpec.pre6 enc Try.prog Try.f20 Rows.payloadLargeSizeRow.domain false) (Rows.payloadLargeSizeSpec.post enc Try.prog Try.f20 false true false false) := by
  refine returnsInHanded_of_change_sized (C := Try.checked) Try.own started (by kernel_rfl) Try.func20
    (ChangeSpec.witness6 (enc := enc) (C := Try.checked) false ⟨#[], #[.slice none 0 0, .int .i64 0], []⟩ 8 (by kernel_rfl) (by kernel_rfl) (by kernel_rfl) (by kernel_rfl)) ?_
  intro W base args ds gs before hval hW _ hsz _
  obtain ⟨hA, hsz'⟩ := Try.law_reads (s := Rows.payloadLargeSizeSpec) rfl hW hsz
  refine (payloadLargeSize_opened H enc W base args ds before hval hA hsz').mono fun e W' ⟨he, hc⟩ => ⟨_, he, ?_⟩
  rw [Try.params20] at hA
  obtain ⟨v0, v1, d0, d1, p0, p1, _, rfl, _⟩ := trodAll_two hA
  exact law_post Try.laidOut rfl rfl Try.underlying4 (by rw [Try.params20]; exact Try.readable (by kernel_rfl)) ⟨rfl, rfl, rfl⟩ hW hc

theorem payloadLargeSize_closed : joinedFacts Try.prog 20 Try.f20 Rows.payloadLargeSizeSpec Rows.payloadLargeSizeRow = true := by
  unfold joinedFacts
  rw [Try.mayEnter0, Try.liftsFinal0, Try.make0]
  kernel_rfl

theorem PayloadLargeSize_holds : Rows.PayloadLargeSizeSaid :=
  OpenClaim.holds_of_wide 20 Try.f20 rfl rfl rfl rfl rfl rfl rfl ⟨rfl, rfl, rfl, rfl, rfl⟩ rfl rfl rfl rfl rfl (by kernel_rfl) Try.func20 payloadLargeSize_closed
    (of_decide_eq_true (by kernel_rfl)) (by unfold Func.isWrapper; rw [if_neg (of_decide_eq_false (by kernel_rfl))]; exact ⟨rfl, rfl⟩)
    (fun os started H enc _ => payloadLargeSize_lifted os started H enc)
#print axioms PayloadLargeSize_holds
end Go.Proofs.Ytljlcigbehgohaa
