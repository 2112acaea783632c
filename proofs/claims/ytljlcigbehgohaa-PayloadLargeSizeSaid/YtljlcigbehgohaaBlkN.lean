/- paxtarlaw06.BlockNilReceivers. -/
import Derived.Test.YtljlcigbehgohaaBlkA
namespace Go.Proofs.Ytljlcigbehgohaa
open Go.RowKit Go.Pax

set_option maxRecDepth 100000 in
set_option maxHeartbeats 4000000 in
theorem blkNil (w : World) (n : Int) (v : Value) : Calls Try.prog 17 #[.int .i64 n, v] w fun e w' => e = .returned (.bool true) ∧ Chg [] w w' := by
  go_enter Try.func17, Try.ntmps17
  go_wp2_with (first
    | (go_at_call 43; refine (newReader_none _).mono ?_; rintro e w' ⟨rfl, rfl⟩)
    | (go_at_call 47; refine (newWriter_none _).mono ?_; rintro e w' ⟨rfl, rfl⟩)
    | (go_at_call 44; refine (readerNext_none _).mono ?_; rintro e w' ⟨rfl, rfl⟩)
    | (go_at_call 46; refine (readerOffset_none _).mono ?_; rintro e w' ⟨rfl, rfl⟩)
    | (go_at_call 48; refine (writerWrite_none _ _).mono ?_; rintro e w' ⟨rfl, rfl⟩)
    | (go_at_call 49; refine (writerPad_none _).mono ?_; rintro e w' ⟨rfl, rfl⟩)
    | (go_at_call 53; refine (writerZeros_none _ _).mono ?_; rintro e w' ⟨rfl, rfl⟩)
    | (go_at_call 50; refine (writerOffset_none _).mono ?_; rintro e w' ⟨rfl, rfl⟩)
    | (go_at_call 42; refine (blkAlive _).mono ?_; rintro e w9 ⟨rfl, hc9⟩; have HC9 := Lib.hid hc9; clear hc9))
  go_ret
  exact ⟨rfl, HC9.out⟩
end Go.Proofs.Ytljlcigbehgohaa
