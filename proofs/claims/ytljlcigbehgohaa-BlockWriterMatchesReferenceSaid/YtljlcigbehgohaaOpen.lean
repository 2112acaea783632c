/- The arguments of this seat's laws, opened; small facts on the program's tables. -/
import Derived.Test.YtljlcigbehgohaaRows
import Derived.Test.YtljlcigbehgohaaLift
namespace Go.Proofs.Ytljlcigbehgohaa
open Go.ChangeShapes Go.WideShapes Go.ChangeAt Go.RowKit Go.Pax Go.Joins

theorem Try.own : ownKnob Try.prog.godebug = none := by kernel_rfl
theorem Try.laidOut : laidOutB Try.prog = true := by kernel_rfl
theorem Try.cells3 : Try.prog.cellsOf 3 = 1 := by kernel_rfl
theorem Try.cells5 : Try.prog.cellsOf 5 = 1 := by kernel_rfl
theorem Try.cells25 : Try.prog.cellsOf 25 = 2 := by kernel_rfl
theorem Try.bytes3 : Try.prog.bytesOf 3 = 8 := by kernel_rfl
theorem Try.bytes5 : Try.prog.bytesOf 5 = 1 := by kernel_rfl

theorem Try.readable {ts : List TypeId} (h : (ts.all fun t => Try.prog.readableRec t && decide (t < Try.prog.types.size)) = true) : ∀ t ∈ ts, Try.prog.readableRec t = true ∧ t < Try.prog.types.size := by
  intro t ht
  have := List.all_eq_true.1 h t ht
  simpa using this

section
variable {H : Type} {enc : TypeId × Value → H} {W : World}
theorem Try.sized {ts : List TypeId} {ds : List (DataW H)} (h : (DataW.weightsEach Try.prog ts ds).all (· ≤ reachBytes) = true) (j : Nat) {t : TypeId} {d : DataW H} (ht : ts[j]? = some t) (hd : ds[j]? = some d) : ∀ n ∈ d.weights Try.prog t, n ≤ reachBytes := by
  intro n hn
  simpa using List.all_eq_true.1 h _ (DataW.weights_mem_each ht hd n hn)

theorem Try.law_reads {fn : Func} {s : ChangeSpec} {apart : Bool} {args : Array Value} {ds gs : List (DataW H)} {before : List MemPlace} (hv : s.vars = [])
    (hW : DataW.Whole enc Try.prog fn.params.toList s.vars apart W args.toList ds gs before) (hsz : (DataW.weightsEach Try.checked.prog (fn.params.toList ++ s.plain.varTypes Try.checked.prog) (ds ++ gs)).all (· ≤ reachBytes) = true) :
    DataW.TrodAll enc Try.prog W 0 (fun _ => true) true fn.params.toList args.toList ds before ∧ (DataW.weightsEach Try.prog fn.params.toList ds).all (· ≤ reachBytes) = true := by
  obtain ⟨p, q, hA, hV, rfl, hfz, hnd⟩ := hW
  rw [hv] at hV
  obtain ⟨rfl, rfl⟩ := trodVars_none hV
  have hvt : s.plain.varTypes Try.checked.prog = [] := by
    have h0 : s.plain.vars = [] := hv
    unfold DataSpec.varTypes
    rw [h0]
    rfl
  rw [hvt, List.append_nil, List.append_nil] at hsz
  exact ⟨by simpa using hA, hsz⟩

set_option maxRecDepth 100000 in
theorem Try.openB {r : Reach} {b0 : Nat} {v : Value} {d : DataW H} {p : List MemPlace} (hv : Value.okWide Try.prog W r b0 22 v) (h : DataW.Trod enc Try.prog W 0 (fun _ => true) true 22 v d p) (hs : ∀ n ∈ d.weights Try.prog 22, n ≤ reachBytes) :
    ∃ ao cap b fp, v = .slice ao b.length cap ∧ b.length ≤ 140737488355328 ∧ b.length ≤ cap ∧ Rd W fp ao (bv b) := by
  obtain ⟨a, l, c, rfl⟩ := okWide_slice Try.underlying22 hv
  obtain ⟨fuel, hf⟩ := h
  obtain ⟨ao, cap, b, fp, hcs, h1, h2, h3⟩ := open_bytes Try.underlying22 Try.underlying5 Try.cells5 Try.bytes5 hf hs
  simp [Value.cells] at hcs
  obtain ⟨rfl, rfl, rfl⟩ := hcs
  exact ⟨_, _, b, fp, rfl, h1, h2, h3⟩
set_option maxRecDepth 100000 in
theorem Try.openI {r : Reach} {b0 : Nat} {v : Value} {d : DataW H} {p : List MemPlace} (hv : Value.okWide Try.prog W r b0 23 v) (h : DataW.Trod enc Try.prog W 0 (fun _ => true) true 23 v d p) (hs : ∀ n ∈ d.weights Try.prog 23, n ≤ reachBytes) :
    ∃ ao cap l fp, v = .slice ao l.length cap ∧ l.length * 8 ≤ 140737488355328 ∧ Rd W fp ao (iv l) ∧ ∀ n ∈ l, -9223372036854775808 ≤ n ∧ n ≤ 9223372036854775807 := by
  obtain ⟨a, l, c, rfl⟩ := okWide_slice Try.underlying23 hv
  obtain ⟨fuel, hf⟩ := h
  obtain ⟨ao, cap, b, fp, hcs, h1, h2, h3⟩ := open_i64s Try.underlying23 Try.underlying3 Try.cells3 Try.bytes3 hf hs
  simp [Value.cells] at hcs
  obtain ⟨rfl, rfl, rfl⟩ := hcs
  exact ⟨_, _, b, fp, rfl, h1, h2, h3⟩
set_option maxRecDepth 100000 in
theorem Try.openScript {r : Reach} {b0 : Nat} {v : Value} {d : DataW H} {p : List MemPlace} (hv : Value.okWide Try.prog W r b0 25 v) (h : DataW.Trod enc Try.prog W 0 (fun _ => true) true 25 v d p) (hs : ∀ n ∈ d.weights Try.prog 25, n ≤ reachBytes) :
    ∃ ao cap c fp fail, v = .agg #[.slice ao c.length cap, .int .i64 fail] ∧ c.length * 8 ≤ 140737488355328 ∧ Rd W fp ao (iv c) ∧ -9223372036854775808 ≤ fail ∧ fail ≤ 9223372036854775807 := by
  obtain ⟨c0, c1, y0, y1, m, rfl, rfl, rfl, hy0, hy1⟩ := open_agg2 Try.underlying25 (by kernel_rfl) Try.cells25 hv h
  obtain ⟨fail, e1, hx1, w1⟩ := DataW.trod_int Try.underlying2 hy1
  simp at e1
  subst e1
  obtain ⟨ao, cap, c, fp, hcs, h1, h2, _⟩ := open_i64s Try.underlying23 Try.underlying3 Try.cells3 Try.bytes3 hy0 (fun n hn => hs n (by
    simp only [DataW.weights, Try.underlying25, DataW.weightsEach, List.map_cons, List.map_nil, List.mem_append]
    exact .inl hn))
  simp at hcs
  subst hcs
  exact ⟨ao, cap, c, fp, fail, rfl, h1, h2, by simpa [Lit.wf, IntKind.min, IntKind.max, IntKind.signed, IntKind.bits] using w1⟩
end
end Go.Proofs.Ytljlcigbehgohaa
