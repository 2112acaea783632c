/- PayloadRoundTrip is proved: for every input the law returns true and changes nothing that was there. No condition. -/
import Derived.Test.YtljlcigbehgohaaPLawD
import Derived.Test.YtljlcigbehgohaaOpen
import Derived.Test.YtljlcigbehgohaaHead
namespace Go.Proofs.Ytljlcigbehgohaa
open Go.ChangeShapes Go.WideShapes Go.ChangeAt Go.RowKit Go.Pax Go.Joins

set_option maxRecDepth 100000 in
theorem payloadRoundTrip_opened (H : Type) (enc : TypeId × Value → H) (W : World) (base : Nat) (args : Array Value) (ds : List (DataW H)) (before : List MemPlace)
    (hval : ∀ (j : Nat) t v, Try.f21.params[j]? = some t → args[j]? = some v → Value.okWide Try.prog W .any base t v)
    (hA : DataW.TrodAll enc Try.prog W 0 (fun _ => true) true Try.f21.params.toList args.toList ds before)
    (hsz : (DataW.weightsEach Try.prog Try.f21.params.toList ds).all (· ≤ reachBytes) = true) :
    Calls Try.prog 21 args W fun e W' => e = .returned (.bool true) ∧ Chg [] W W' := by
  rw [Try.params21] at hA hval hsz
  obtain ⟨v0, v1, v2, d0, d1, d2, p0, p1, p2, rfl, rfl, rfl, h0, h1, h2⟩ := trodAll_three hA
  obtain ⟨a0, c0, b0, f0, rfl, hl0, hcap0, r0⟩ := Try.openB (hval 0 22 v0 rfl rfl) h0 (Try.sized hsz 0 rfl rfl)
  obtain ⟨a1, c1, s1, f1, fail1, rfl, hl1, r1, hf1⟩ := Try.openScript (hval 1 25 v1 rfl rfl) h1 (Try.sized hsz 1 rfl rfl)
  obtain ⟨n2, rfl, rfl, rfl, w2⟩ := open_int Try.underlying33 (hval 2 33 v2 rfl rfl) h2
  exact payRounds W a0 a1 c0 c1 b0 s1 fail1 n2 (f0 ++ f1) (by simpa [Lit.wf, IntKind.min, IntKind.max, IntKind.signed, IntKind.bits] using w2) hl0 hcap0 hl1 (r0.mono (fun k hk => by simp [hk])) (r1.mono (fun k hk => by simp [hk]))

set_option maxRecDepth 100000 in
theorem payloadRoundTrip_lifted (os : Os) (started : os.Started) (H : Type) (enc : TypeId × Value → H) :
    ReturnsInHanded {} Try.checked os 21 .any (Rows.payloadRoundTripSpec.pre6 enc Try.prog Try.f21 Rows.payloadRoundTripRow.domain false) (Rows.payloadRoundTripSpec.post enc Try.prog Try.f21 false true false false) := by
  refine returnsInHanded_of_change_sized (C := Try.checked) Try.own started (by kernel_rfl) Try.func21
    (ChangeSpec.witness6 (enc := enc) (C := Try.checked) false ⟨#[], #[.slice none 0 0, .agg #[.slice none 0 0, .int .i64 0], .int .u16 0], []⟩ 8 (by kernel_rfl) (by kernel_rfl) (by kernel_rfl) (by kernel_rfl)) ?_
  intro W base args ds gs before hval hW _ hsz _
  obtain ⟨hA, hsz'⟩ := Try.law_reads (s := Rows.payloadRoundTripSpec) rfl hW hsz
  refine (payloadRoundTrip_opened H enc W base args ds before hval hA hsz').mono fun e W' ⟨he, hc⟩ => ⟨_, he, ?_⟩
  rw [Try.params21] at hA
  obtain ⟨v0, v1, v2, d0, d1, d2, p0, p1, p2, _, rfl, _⟩ := trodAll_three hA
  exact law_post Try.laidOut rfl rfl Try.underlying4 (by rw [Try.params21]; exact Try.readable (by kernel_rfl)) ⟨rfl, rfl, rfl⟩ hW hc

theorem payloadRoundTrip_closed : joinedFacts Try.prog 21 Try.f21 Rows.payloadRoundTripSpec Rows.payloadRoundTripRow = true := by
  unfold joinedFacts
  rw [Try.mayEnter0, Try.liftsFinal0, Try.make0]
  kernel_rfl

theorem PayloadRoundTrip_holds : Rows.PayloadRoundTripSaid :=
  OpenClaim.holds_of_wide 21 Try.f21 rfl rfl rfl rfl rfl rfl rfl ⟨rfl, rfl, rfl, rfl, rfl⟩ rfl rfl rfl rfl rfl (by kernel_rfl) Try.func21 payloadRoundTrip_closed
    (of_decide_eq_true (by kernel_rfl)) (by unfold Func.isWrapper; rw [if_neg (of_decide_eq_false (by kernel_rfl))]; exact ⟨rfl, rfl⟩)
    (fun os started H enc _ => payloadRoundTrip_lifted os started H enc)
#print axioms PayloadRoundTrip_holds
end Go.Proofs.Ytljlcigbehgohaa
