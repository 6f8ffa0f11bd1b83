/- For every two lists of pairs of bytes PolylineCrosses returns true and leaves the lists as they read before; no condition but the row's own (the laid variables, tied to the program's text). -/
import Derived.Test.YtkjnjdcbnelceaaGreatDoorM7
import Derived.Test.YtkjnjdcbnelceaaGreatDoorTie
import Derived.Test.YtkjnjdcbnelceaaGreatDoorCards
import Derived.SevenTiedAt
open Go Go.Proofs
namespace Go.Proofs.YtkjnjdcbnelceaaGreatDoor
theorem polylineCrosses_card : Rows.PolylineCrossesCardSaid :=
  Claim7.holds_tied_plain_at .later [] [.data, .data, .data, .sentinel, .sentinel] true (true, "e509b1a63383e86863637932edc9b4b16956ca8ddd7e81947a022eabf574efde") true
    KA.crosses_row (fun _ h => by cases h) (by kernel_rfl) (fun _ h => by cases h) polylineCrosses_row_tie rfl ⟨rfl, rfl⟩ (by kernel_rfl) rfl
    (fun f fn hf hfn => by
      obtain rfl : f = 3 := Option.some.inj ((show Tryz.prog.funcNamed "klippe/klippelaw11.PolylineCrosses" = some 3 by kernel_rfl).symm.trans hf) |>.symm
      obtain rfl : fn = Tryz.f3 := (Option.some.inj (Tryz.func3.symm.trans hfn)).symm
      exact ⟨by kernel_rfl, fun j t ht => by
        rw [Tryz.params3] at ht
        have hm : t ∈ [22, 22] := by simpa using Array.mem_of_getElem? ht
        have hall : ([22, 22].all fun u => !Tryz.prog.wantsStandIn u) = true := by kernel_rfl
        exact (show Tryz.prog.wantsStandIn t = false by simpa using List.all_eq_true.1 hall t hm)⟩)
    (by kernel_rfl)
#print axioms polylineCrosses_card
end Go.Proofs.YtkjnjdcbnelceaaGreatDoor
