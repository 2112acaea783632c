/- PayloadConsecutive is proved: for every input the law returns true and changes nothing that was there. No condition. -/
import Derived.Test.YtljlcigbehgohaaPLawC
import Derived.Test.YtljlcigbehgohaaOpen
import Derived.Test.YtljlcigbehgohaaHead
namespace Go.Proofs.Ytljlcigbehgohaa
open Go.ChangeShapes Go.WideShapes Go.ChangeAt Go.RowKit Go.Pax Go.Joins

set_option maxRecDepth 100000 in
theorem payloadConsecutive_opened (H : Type) (enc : TypeId × Value → H) (W : World) (base : Nat) (args : Array Value) (ds : List (DataW H)) (before : List MemPlace)
    (hval : ∀ (j : Nat) t v, Try.f22.params[j]? = some t → args[j]? = some v → Value.okWide Try.prog W .any base t v)
    (hA : DataW.TrodAll enc Try.prog W 0 (fun _ => true) true Try.f22.params.toList args.toList ds before)
    (hsz : (DataW.weightsEach Try.prog Try.f22.params.toList ds).all (· ≤ reachBytes) = true) :
    Calls Try.prog 22 args W fun e W' => e = .returned (.bool true) ∧ Chg [] W W' := by
  rw [Try.params22] at hA hval hsz
  obtain ⟨v0, v1, d0, d1, p0, p1, rfl, rfl, rfl, h0, h1⟩ := trodAll_two hA
  obtain ⟨a0, c0, l0, f0, rfl, hl0, r0⟩ := Try.openR (hval 0 45 v0 rfl rfl) h0 (Try.sized hsz 0 rfl rfl)
  obtain ⟨a1, c1, s1, f1, fail1, rfl, hl1, r1, hf1⟩ := Try.openScript (hval 1 25 v1 rfl rfl) h1 (Try.sized hsz 1 rfl rfl)
  exact payRow W a0 a1 c0 c1 l0 s1 fail1 (f0 ++ f1) hl0.2 (by have := hl0.1; omega) hl1 (r0.mono (fun k hk => by simp [hk])) (r1.mono (fun k hk => by simp [hk]))

set_option maxRecDepth 100000 in
theorem payloadConsecutive_lifted (os : Os) (started : os.Started) (H : Type) (enc : TypeId × Value → H) :
    ReturnsInHanded {} Try.checked os 22 .any (Rows.payloadConsecutiveSpec.pre6 enc Try.prog Try.f22 Rows.payloadConsecutiveRow.domain false) (Rows.payloadConsecutiveSpec.post enc Try.prog Try.f22 false true false false) := by
  refine returnsInHanded_of_change_sized (C := Try.checked) Try.own started (by kernel_rfl) Try.func22
    (ChangeSpec.witness6 (enc := enc) (C := Try.checked) false ⟨#[], #[.slice none 0 0, .agg #[.slice none 0 0, .int .i64 0]], []⟩ 8 (by kernel_rfl) (by kernel_rfl) (by kernel_rfl) (by kernel_rfl)) ?_
  intro W base args ds gs before hval hW _ hsz _
  obtain ⟨hA, hsz'⟩ := Try.law_reads (s := Rows.payloadConsecutiveSpec) rfl hW hsz
  refine (payloadConsecutive_opened H enc W base args ds before hval hA hsz').mono fun e W' ⟨he, hc⟩ => ⟨_, he, ?_⟩
  rw [Try.params22] at hA
  obtain ⟨v0, v1, d0, d1, p0, p1, _, rfl, _⟩ := trodAll_two hA
  exact law_post Try.laidOut rfl rfl Try.underlying4 (by rw [Try.params22]; exact Try.readable (by kernel_rfl)) ⟨rfl, rfl, rfl⟩ hW hc

theorem payloadConsecutive_closed : joinedFacts Try.prog 22 Try.f22 Rows.payloadConsecutiveSpec Rows.payloadConsecutiveRow = true := by
  unfold joinedFacts
  rw [Try.mayEnter0, Try.liftsFinal0, Try.make0]
  kernel_rfl

theorem PayloadConsecutive_holds : Rows.PayloadConsecutiveSaid :=
  OpenClaim.holds_of_wide 22 Try.f22 rfl rfl rfl rfl rfl rfl rfl ⟨rfl, rfl, rfl, rfl, rfl⟩ rfl rfl rfl rfl rfl (by kernel_rfl) Try.func22 payloadConsecutive_closed
    (of_decide_eq_true (by kernel_rfl)) (by unfold Func.isWrapper; rw [if_neg (of_decide_eq_false (by kernel_rfl))]; exact ⟨rfl, rfl⟩)
    (fun os started H enc _ => payloadConsecutive_lifted os started H enc)
#print axioms PayloadConsecutive_holds
end Go.Proofs.Ytljlcigbehgohaa
