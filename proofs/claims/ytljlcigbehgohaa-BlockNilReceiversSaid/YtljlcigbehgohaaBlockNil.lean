/- BlockNilReceivers is proved: for every input the law returns true and changes nothing that was there. No condition. -/
import Derived.Test.YtljlcigbehgohaaBlkN
import Derived.Test.YtljlcigbehgohaaOpen
import Derived.Test.YtljlcigbehgohaaHead
namespace Go.Proofs.Ytljlcigbehgohaa
open Go.ChangeShapes Go.WideShapes Go.ChangeAt Go.RowKit Go.Pax Go.Joins

set_option maxRecDepth 100000 in
theorem blockNilReceivers_opened (H : Type) (enc : TypeId × Value → H) (W : World) (base : Nat) (args : Array Value) (ds : List (DataW H)) (before : List MemPlace)
    (hval : ∀ (j : Nat) t v, Try.f17.params[j]? = some t → args[j]? = some v → Value.okWide Try.prog W .any base t v)
    (hA : DataW.TrodAll enc Try.prog W 0 (fun _ => true) true Try.f17.params.toList args.toList ds before)
    (hsz : (DataW.weightsEach Try.prog Try.f17.params.toList ds).all (· ≤ reachBytes) = true) :
    Calls Try.prog 17 args W fun e W' => e = .returned (.bool true) ∧ Chg [] W W' := by
  rw [Try.params17] at hA hval hsz
  obtain ⟨v0, v1, d0, d1, p0, p1, rfl, rfl, rfl, h0, h1⟩ := trodAll_two hA
  obtain ⟨n0, rfl, rfl, rfl, w0⟩ := open_int Try.underlying3 (hval 0 3 v0 rfl rfl) h0
  obtain ⟨a1, c1, b1, f1, rfl, hl1, _hcap1, r1⟩ := Try.openB (hval 1 22 v1 rfl rfl) h1 (Try.sized hsz 1 rfl rfl)
  exact blkNil W n0 _

set_option maxRecDepth 100000 in
theorem blockNilReceivers_lifted (os : Os) (started : os.Started) (H : Type) (enc : TypeId × Value → H) :
    ReturnsInHanded {} Try.checked os 17 .any (Rows.blockNilReceiversSpec.pre6 enc Try.prog Try.f17 Rows.blockNilReceiversRow.domain false) (Rows.blockNilReceiversSpec.post enc Try.prog Try.f17 false true false false) := by
  refine returnsInHanded_of_change_sized (C := Try.checked) Try.own started (by kernel_rfl) Try.func17
    (ChangeSpec.witness6 (enc := enc) (C := Try.checked) false ⟨#[], #[.int .i64 0, .slice none 0 0], []⟩ 8 (by kernel_rfl) (by kernel_rfl) (by kernel_rfl) (by kernel_rfl)) ?_
  intro W base args ds gs before hval hW _ hsz _
  obtain ⟨hA, hsz'⟩ := Try.law_reads (s := Rows.blockNilReceiversSpec) rfl hW hsz
  refine (blockNilReceivers_opened H enc W base args ds before hval hA hsz').mono fun e W' ⟨he, hc⟩ => ⟨_, he, ?_⟩
  rw [Try.params17] at hA
  obtain ⟨v0, v1, d0, d1, p0, p1, _, rfl, _⟩ := trodAll_two hA
  exact law_post Try.laidOut rfl rfl Try.underlying4 (by rw [Try.params17]; exact Try.readable (by kernel_rfl)) ⟨rfl, rfl, rfl⟩ hW hc

theorem blockNilReceivers_closed : joinedFacts Try.prog 17 Try.f17 Rows.blockNilReceiversSpec Rows.blockNilReceiversRow = true := by
  unfold joinedFacts
  rw [Try.mayEnter0, Try.liftsFinal0, Try.make0]
  kernel_rfl

theorem BlockNilReceivers_holds : Rows.BlockNilReceiversSaid :=
  OpenClaim.holds_of_wide 17 Try.f17 rfl rfl rfl rfl rfl rfl rfl ⟨rfl, rfl, rfl, rfl, rfl⟩ rfl rfl rfl rfl rfl (by kernel_rfl) Try.func17 blockNilReceivers_closed
    (of_decide_eq_true (by kernel_rfl)) (by unfold Func.isWrapper; rw [if_neg (of_decide_eq_false (by kernel_rfl))]; exact ⟨rfl, rfl⟩)
    (fun os started H enc _ => blockNilReceivers_lifted os started H enc)
#print axioms BlockNilReceivers_holds
end Go.Proofs.Ytljlcigbehgohaa
