/- For every list of pairs of bytes and every text PolylineSimplifies returns true and leaves the list as it read before; no condition but the row's own (the laid variables, tied to the program's text). -/
import Derived.Test.YtkjnjdcbnelceaaGreatDoorR8
import Derived.Test.YtkjnjdcbnelceaaGreatDoorTie
import Derived.Test.YtkjnjdcbnelceaaGreatDoorCards
import Derived.SevenTiedAt
open Go Go.Proofs
namespace Go.Proofs.YtkjnjdcbnelceaaGreatDoor
theorem polylineSimplifies_card : Rows.PolylineSimplifiesCardSaid :=
  Claim7.holds_tied_plain_at .later [] [.data, .data, .data, .sentinel, .sentinel] true (true, "e509b1a63383e86863637932edc9b4b16956ca8ddd7e81947a022eabf574efde") true
    KA.simplifies_row (fun _ h => by cases h) (by kernel_rfl) (fun _ h => by cases h) polylineSimplifies_row_tie rfl ⟨rfl, rfl⟩ (by kernel_rfl) rfl
    (fun f fn hf hfn => by
      obtain rfl : f = 4 := Option.some.inj ((show Tryz.prog.funcNamed "klippe/klippelaw11.PolylineSimplifies" = some 4 by kernel_rfl).symm.trans hf) |>.symm
      obtain rfl : fn = Tryz.f4 := (Option.some.inj (Tryz.func4.symm.trans hfn)).symm
      exact ⟨by kernel_rfl, fun j t ht => by
        rw [Tryz.params4] at ht
        have hm : t ∈ [22, 33] := by simpa using Array.mem_of_getElem? ht
        have hall : ([22, 33].all fun u => !Tryz.prog.wantsStandIn u) = true := by kernel_rfl
        exact (show Tryz.prog.wantsStandIn t = false by simpa using List.all_eq_true.1 hall t hm)⟩)
    (by kernel_rfl)
#print axioms polylineSimplifies_card
end Go.Proofs.YtkjnjdcbnelceaaGreatDoor
