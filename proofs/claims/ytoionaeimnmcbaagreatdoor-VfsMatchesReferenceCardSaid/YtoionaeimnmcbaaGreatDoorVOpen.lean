/- The arguments of these laws, opened; the listed variables, as they lie. -/
import Derived.Test.YtoionaeimnmcbaaGreatDoorVLift
import Derived.Test.YtoionaeimnmcbaaGreatDoorTie
import Derived.Test.YtoionaeimnmcbaaGreatDoorCards
namespace Go.Proofs.YtoionaeimnmcbaaGreatDoor
open Go.ChangeShapes Go.WideShapes Go.ChangeAt Go.RowKit Go.Pax Go.Joins Go.Deep

theorem Tryz.own : ownKnob Tryz.prog.godebug = none := by kernel_rfl
theorem Tryz.laidOut : laidOutB Tryz.prog = true := by kernel_rfl

theorem Tryz.vcellsI : Tryz.prog.cellsOf 3 = 1 := by kernel_rfl
theorem Tryz.vcellsB : Tryz.prog.cellsOf 5 = 1 := by kernel_rfl
theorem Tryz.vbytesI : Tryz.prog.bytesOf 3 = 8 := by kernel_rfl
theorem Tryz.vbytesB : Tryz.prog.bytesOf 5 = 1 := by kernel_rfl
theorem Tryz.vbytesS : Tryz.prog.bytesOf 9 = 16 := by kernel_rfl
theorem Tryz.vcellsS : Tryz.prog.cellsOf 9 = 1 := by kernel_rfl

theorem Tryz.readable {ts : List TypeId} (h : (ts.all fun t => Tryz.prog.readableRec t && decide (t < Tryz.prog.types.size)) = true) : ∀ t ∈ ts, Tryz.prog.readableRec t = true ∧ t < Tryz.prog.types.size := by
  intro t ht
  have := List.all_eq_true.1 h t ht
  simpa using this

section
variable {H : Type} {enc : TypeId × Value → H} {W : World}
theorem Tryz.sized {ts : List TypeId} {ds : List (DataW H)} (h : (DataW.weightsEach Tryz.prog ts ds).all (· ≤ reachBytes) = true) (j : Nat) {t : TypeId} {d : DataW H} (ht : ts[j]? = some t) (hd : ds[j]? = some d) : ∀ n ∈ d.weights Tryz.prog t, n ≤ reachBytes := by
  intro n hn
  simpa using List.all_eq_true.1 h _ (DataW.weights_mem_each ht hd n hn)

theorem Tryz.law_reads {fn : Func} {s : ChangeSpec} {apart : Bool} {args : Array Value} {ds gs : List (DataW H)} {before : List MemPlace} (hv : s.vars = [])
    (hW : DataW.Whole enc Tryz.prog fn.params.toList s.vars apart W args.toList ds gs before) (hsz : (DataW.weightsEach Tryz.checked.prog (fn.params.toList ++ s.plain.varTypes Tryz.checked.prog) (ds ++ gs)).all (· ≤ reachBytes) = true) :
    DataW.TrodAll enc Tryz.prog W 0 (fun _ => true) true fn.params.toList args.toList ds before ∧ (DataW.weightsEach Tryz.prog fn.params.toList ds).all (· ≤ reachBytes) = true := by
  obtain ⟨p, q, hA, hV, rfl, hfz, hnd⟩ := hW
  rw [hv] at hV
  obtain ⟨rfl, rfl⟩ := trodVars_none hV
  have hvt : s.plain.varTypes Tryz.checked.prog = [] := by
    have h0 : s.plain.vars = [] := hv
    unfold DataSpec.varTypes
    rw [h0]
    rfl
  rw [hvt, List.append_nil, List.append_nil] at hsz
  exact ⟨by simpa using hA, hsz⟩

set_option maxRecDepth 100000 in
theorem Tryz.openB {r : Reach} {b0 : Nat} {v : Value} {d : DataW H} {p : List MemPlace} (hv : Value.okWide Tryz.prog W r b0 24 v) (h : DataW.Trod enc Tryz.prog W 0 (fun _ => true) true 24 v d p) (hs : ∀ n ∈ d.weights Tryz.prog 24, n ≤ reachBytes) :
    ∃ ao cap b fp, v = .slice ao b.length cap ∧ b.length ≤ 140737488355328 ∧ b.length ≤ cap ∧ Rd W fp ao (bv b) := by
  obtain ⟨a, l, c, rfl⟩ := okWide_slice Tryz.underlying24 hv
  obtain ⟨fuel, hf⟩ := h
  obtain ⟨ao, cap, b, fp, hcs, h1, h2, h3⟩ := open_bytes Tryz.underlying24 Tryz.underlying5 Tryz.vcellsB Tryz.vbytesB hf hs
  simp [Value.cells] at hcs
  obtain ⟨rfl, rfl, rfl⟩ := hcs
  exact ⟨_, _, b, fp, rfl, h1, h2, h3⟩
set_option maxRecDepth 100000 in
theorem Tryz.openI {r : Reach} {b0 : Nat} {v : Value} {d : DataW H} {p : List MemPlace} (hv : Value.okWide Tryz.prog W r b0 28 v) (h : DataW.Trod enc Tryz.prog W 0 (fun _ => true) true 28 v d p) (hs : ∀ n ∈ d.weights Tryz.prog 28, n ≤ reachBytes) :
    ∃ ao cap l fp, v = .slice ao l.length cap ∧ l.length * 8 ≤ 140737488355328 ∧ Rd W fp ao (iv l) ∧ ∀ n ∈ l, -9223372036854775808 ≤ n ∧ n ≤ 9223372036854775807 := by
  obtain ⟨a, l, c, rfl⟩ := okWide_slice Tryz.underlying28 hv
  obtain ⟨fuel, hf⟩ := h
  obtain ⟨ao, cap, b, fp, hcs, h1, h2, h3⟩ := open_i64s Tryz.underlying28 Tryz.underlying3 Tryz.vcellsI Tryz.vbytesI hf hs
  simp [Value.cells] at hcs
  obtain ⟨rfl, rfl, rfl⟩ := hcs
  exact ⟨_, _, b, fp, rfl, h1, h2, h3⟩
set_option maxRecDepth 100000 in
theorem Tryz.openS {r : Reach} {b0 : Nat} {v : Value} {d : DataW H} {p : List MemPlace} (hv : Value.okWide Tryz.prog W r b0 9 v) (h : DataW.Trod enc Tryz.prog W 0 (fun _ => true) true 9 v d p) (hs : ∀ n ∈ d.weights Tryz.prog 9, n ≤ reachBytes) :
    ∃ l : List UInt8, v = .string (ba l) ∧ l.length ≤ 140737488355328 := by
  obtain ⟨s, rfl, rfl, _, _⟩ := Go.ChangeMaps.open_string Tryz.underlying9 hv h
  refine ⟨s.data.toList, by rw [ba_toList], ?_⟩
  have := hs s.data.toList.length (by simp [DataW.weights])
  simp only [reachBytes] at this
  omega
set_option maxRecDepth 100000 in
theorem Tryz.openA {r : Reach} {b0 : Nat} {v : Value} {d : DataW H} {p : List MemPlace} (hv : Value.okWide Tryz.prog W r b0 25 v) (h : DataW.Trod enc Tryz.prog W 0 (fun _ => true) true 25 v d p) (hs : ∀ n ∈ d.weights Tryz.prog 25, n ≤ reachBytes) :
    ∃ ao cap L fp, v = .slice ao L.length cap ∧ (L.length ≤ 140737488355328 ∧ ∀ y ∈ L, y.wf) ∧ RdAct W fp ao L := by
  obtain ⟨a, l, c, rfl⟩ := okWide_slice Tryz.underlying25 hv
  obtain ⟨fuel, hf⟩ := h
  obtain ⟨ao, cap, b, fp, hcs, h1, h2⟩ := open_act5 (ti := 3) (ts := 9) (tb := 24) Tryz.underlying25 Tryz.underlying40 rfl rfl rfl rfl rfl Tryz.underlying3 Tryz.underlying9 Tryz.underlying24 Tryz.underlying5 Tryz.vcellsB Tryz.vbytesB (by kernel_rfl) (by kernel_rfl) (B := 72) (by kernel_rfl) hf hs
  simp [Value.cells] at hcs
  obtain ⟨rfl, rfl, rfl⟩ := hcs
  exact ⟨_, _, b, fp, rfl, ⟨by omega, h1.2⟩, h2⟩
end
/-- The listed variable paxrec.keys, as it lies. -/
theorem Tryz.keysAt {W : World} {l : List (String × DataW Unit)} (hm : ("paxtar/paxrec.keys", (Rows.laid_paxtar_paxrec_keys : DataW Unit)) ∈ l) (h : laidMetH Tryz.prog l W) (hn : (l.all fun x => x.2.handleName?.isNone) = true) : KeysAt W := by
  rw [MakeChecks.laidMetH_plain _ _ _ hn] at h
  exact laid_three (n := "paxtar/paxrec.keys") h hm (by kernel_rfl) (t := 138) (by kernel_rfl) (e := 9) Tryz.underlying138 Tryz.underlying9 Tryz.vcellsS (by kernel_rfl)
end Go.Proofs.YtoionaeimnmcbaaGreatDoor
