/- Parts of the proof, in order: each part's head says what it holds. -/
import Derived.Test.YtkjnjdcbnelceaaGreatDoorM4
import Derived.Test.YtkjnjdcbnelceaaGreatDoorM3

section
/- Contracts of rational arithmetic, of numbers with short parts. -/
open Go Go.Proofs
set_option linter.unusedSimpArgs false
set_option linter.unusedVariables false
namespace Go.Proofs.YtkjnjdcbnelceaaGreatDoor.KA
open Num

theorem qk_of {q : Rat} (h1 : q.num.natAbs < 10 ^ 9) (h2 : q.den < 10 ^ 9) : qk q := by
  refine ⟨?_, ?_⟩
  · unfold d1; rw [dec_length]; exact nDigits_le (by omega) h1
  · unfold d2; split
    · simp
    · rw [dec_length]; exact nDigits_le (by omega) h2
theorem qk_lt {q : Rat} (h : qk q) : q.num.natAbs < 10 ^ 9 ∧ q.den < 10 ^ 9 := by
  obtain ⟨h1, h2⟩ := h
  unfold d1 at h1; unfold d2 at h2
  rw [dec_length] at h1
  refine ⟨lt_of_nDigits h1, ?_⟩
  split at h2
  · omega
  · rw [dec_length] at h2; exact lt_of_nDigits h2
theorem qk_len {q : Rat} (h : qk q) : (tq q).length ≤ 20 := by
  obtain ⟨h1, h2⟩ := h
  rw [tq_split, List.length_append, List.length_append]
  split <;> split <;> simp <;> omega
theorem qk_neg {q : Rat} (h : qk q) : qk (-q) := by
  obtain ⟨h1, h2⟩ := qk_lt h
  exact qk_of (by simpa using h1) (by simpa using h2)
theorem den_pos (q : Rat) : 0 < q.den := Nat.pos_of_ne_zero q.den_nz
theorem s57q (m : Int) (q : Rat) (h : qk q) : SpecP (cx m) 57 [.str (tq q)] (.tuple [.int .i64 q.num, .int .i64 q.den, .bool true]) := by
  have := s57 m q (by have := qk_len h; omega)
  rw [if_pos h] at this; exact this

/-- rational.Parts -/
theorem s58 (m : Int) (q : Rat) (hl : (tq q).length < 4294967281) : SpecP (cx m) 58 [.str (tq q)] (.tuple [.str (Lib.itoa q.num), .str (Lib.decDigits q.den)]) := by
  refine specP_of (mixed m) (k58 m) (Nat.le_of_ble_eq_true rfl) (X_start ?_)
  unfold c58
  have hc := s99 m (tq q) [47] hl
  have e : Lib.cut (tq q) [47] = if q.den = 1 then (Lib.itoa q.num, [], false) else (Lib.itoa q.num, Lib.decDigits q.den, true) := by
    by_cases h : q.den = 1
    · rw [if_pos h, tq_whole h, cut_none (itoa_no47 _)]
    · rw [if_neg h, tq_part h, cut_some (itoa_no47 _)]
  by_cases h : q.den = 1
  · rw [e, if_pos h] at hc
    simp -implicitDefEqProofs (disch := omega) only [KF, KV0, KV1, KV2, KW, ↓bstep, ↓astep, ↓O1.eq_def, ↓onBool.eq_def, ↓onInt.eq_def, ↓onStr.eq_def, ↓onLo.eq_def, ↓binK.eq_def, ↓arith.eq_def, ↓strOp.eq_def, ↓srcElems.eq_def, ↓dst1.eq_def, args0, List.zipIdx, List.map, lookup, St.ev, St.set, St.setO, reduceCtorEq, AV.plain, AV.plainL, AV.flat, AV.flatL, AV.cells, Nat.reduceEqDiff, ↓reduceIte, List.drop, List.take, List.length, Nat.reduceAdd, Nat.reduceLeDiff, Nat.reduceMul, E.done, rvsK, rvK, resAV, Int.reduceToNat, Int.reduceLE, Int.reduceLT, Int.reduceNeg, Int.reduceAdd, Int.reduceSub, Int.reduceMul, Nat.reduceLT, AV.isElem, AV.one, ↓buildCells.eq_1, ↓buildCells.eq_2, Nat.reduceBEq, eqCells]
    refine CL_pure hc rfl ?_
    simp -implicitDefEqProofs (disch := omega) only [KF, KV0, KV1, KV2, KW, ↓bstep, ↓astep, ↓O1.eq_def, ↓onBool.eq_def, ↓onInt.eq_def, ↓onStr.eq_def, ↓onLo.eq_def, ↓binK.eq_def, ↓arith.eq_def, ↓strOp.eq_def, ↓srcElems.eq_def, ↓dst1.eq_def, args0, List.zipIdx, List.map, lookup, St.ev, St.set, St.setO, reduceCtorEq, AV.plain, AV.plainL, AV.flat, AV.flatL, AV.cells, Nat.reduceEqDiff, ↓reduceIte, List.drop, List.take, List.length, Nat.reduceAdd, Nat.reduceLeDiff, Nat.reduceMul, E.done, rvsK, rvK, resAV, Int.reduceToNat, Int.reduceLE, Int.reduceLT, Int.reduceNeg, Int.reduceAdd, Int.reduceSub, Int.reduceMul, Nat.reduceLT, AV.isElem, AV.one, ↓buildCells.eq_1, ↓buildCells.eq_2, Nat.reduceBEq, eqCells]
    exact shv (by rw [h, dec_one]) rfl
  · rw [e, if_neg h] at hc
    simp -implicitDefEqProofs (disch := omega) only [KF, KV0, KV1, KV2, KW, ↓bstep, ↓astep, ↓O1.eq_def, ↓onBool.eq_def, ↓onInt.eq_def, ↓onStr.eq_def, ↓onLo.eq_def, ↓binK.eq_def, ↓arith.eq_def, ↓strOp.eq_def, ↓srcElems.eq_def, ↓dst1.eq_def, args0, List.zipIdx, List.map, lookup, St.ev, St.set, St.setO, reduceCtorEq, AV.plain, AV.plainL, AV.flat, AV.flatL, AV.cells, Nat.reduceEqDiff, ↓reduceIte, List.drop, List.take, List.length, Nat.reduceAdd, Nat.reduceLeDiff, Nat.reduceMul, E.done, rvsK, rvK, resAV, Int.reduceToNat, Int.reduceLE, Int.reduceLT, Int.reduceNeg, Int.reduceAdd, Int.reduceSub, Int.reduceMul, Nat.reduceLT, AV.isElem, AV.one, ↓buildCells.eq_1, ↓buildCells.eq_2, Nat.reduceBEq, eqCells]
    refine CL_pure hc rfl ?_
    simp -implicitDefEqProofs (disch := omega) only [KF, KV0, KV1, KV2, KW, ↓bstep, ↓astep, ↓O1.eq_def, ↓onBool.eq_def, ↓onInt.eq_def, ↓onStr.eq_def, ↓onLo.eq_def, ↓binK.eq_def, ↓arith.eq_def, ↓strOp.eq_def, ↓srcElems.eq_def, ↓dst1.eq_def, args0, List.zipIdx, List.map, lookup, St.ev, St.set, St.setO, reduceCtorEq, AV.plain, AV.plainL, AV.flat, AV.flatL, AV.cells, Nat.reduceEqDiff, ↓reduceIte, List.drop, List.take, List.length, Nat.reduceAdd, Nat.reduceLeDiff, Nat.reduceMul, E.done, rvsK, rvK, resAV, Int.reduceToNat, Int.reduceLE, Int.reduceLT, Int.reduceNeg, Int.reduceAdd, Int.reduceSub, Int.reduceMul, Nat.reduceLT, AV.isElem, AV.one, ↓buildCells.eq_1, ↓buildCells.eq_2, Nat.reduceBEq, eqCells]
    exact shv rfl rfl

theorem add_mk (a b : Rat) : mkRat (a.num * b.den + b.num * a.den) (a.den * b.den) = a + b := by
  rw [Rat.add_def, Rat.normalize_eq_mkRat]
theorem mul_mk (a b : Rat) : mkRat (a.num * b.num) (a.den * b.den) = a * b := by
  rw [Rat.mul_def, Rat.normalize_eq_mkRat]
theorem mul_lt {x y : Int} (hx : x.natAbs < 10 ^ 9) (hy : y.natAbs < 10 ^ 9) : (x * y).natAbs < 1000000000000000000 := by
  rw [Int.natAbs_mul]
  exact Nat.lt_of_lt_of_le (Nat.mul_lt_mul'' hx hy) (by decide)

/-- rational.Add -/
theorem s29 (m : Int) (a b : Rat) (ha : qk a) (hb : qk b) : SpecP (cx m) 29 [.str (tq a), .str (tq b)] (.str (tq (a + b))) := by
  refine specP_of (mixed m) (k29 m) (Nat.le_of_ble_eq_true rfl) (X_start ?_)
  unfold c29
  obtain ⟨a1, a2⟩ := qk_lt ha
  obtain ⟨b1, b2⟩ := qk_lt hb
  have m1 := mul_lt (x := a.num) (y := b.den) a1 (by simpa using b2)
  have m2 := mul_lt (x := b.num) (y := a.den) b1 (by simpa using a2)
  have m3 := mul_lt (x := a.den) (y := b.den) (by simpa using a2) (by simpa using b2)
  simp -implicitDefEqProofs (disch := omega) only [KF, KV0, KV1, KV2, KW, ↓bstep, ↓astep, ↓O1.eq_def, ↓onBool.eq_def, ↓onInt.eq_def, ↓onStr.eq_def, ↓onLo.eq_def, ↓binK.eq_def, ↓arith.eq_def, ↓strOp.eq_def, ↓srcElems.eq_def, ↓dst1.eq_def, args0, List.zipIdx, List.map, lookup, St.ev, St.set, St.setO, reduceCtorEq, AV.plain, AV.plainL, AV.flat, AV.flatL, AV.cells, Nat.reduceEqDiff, ↓reduceIte, List.drop, List.take, List.length, Nat.reduceAdd, Nat.reduceLeDiff, Nat.reduceMul, E.done, rvsK, rvK, resAV, Int.reduceToNat, Int.reduceLE, Int.reduceLT, Int.reduceNeg, Int.reduceAdd, Int.reduceSub, Int.reduceMul, Nat.reduceLT, AV.isElem, AV.one, ↓buildCells.eq_1, ↓buildCells.eq_2, Nat.reduceBEq, eqCells, tq_is0]
  refine iteI (fun h => shs (by rw [h, Rat.zero_add])) (fun h => iteI (fun h' => shs (by rw [h', Rat.add_zero])) (fun h' => ?_))
  refine CL_pure (s57q m a ha) rfl ?_
  simp -implicitDefEqProofs (disch := omega) only [KF, KV0, KV1, KV2, KW, ↓bstep, ↓astep, ↓O1.eq_def, ↓onBool.eq_def, ↓onInt.eq_def, ↓onStr.eq_def, ↓onLo.eq_def, ↓binK.eq_def, ↓arith.eq_def, ↓strOp.eq_def, ↓srcElems.eq_def, ↓dst1.eq_def, args0, List.zipIdx, List.map, lookup, St.ev, St.set, St.setO, reduceCtorEq, AV.plain, AV.plainL, AV.flat, AV.flatL, AV.cells, Nat.reduceEqDiff, ↓reduceIte, List.drop, List.take, List.length, Nat.reduceAdd, Nat.reduceLeDiff, Nat.reduceMul, E.done, rvsK, rvK, resAV, Int.reduceToNat, Int.reduceLE, Int.reduceLT, Int.reduceNeg, Int.reduceAdd, Int.reduceSub, Int.reduceMul, Nat.reduceLT, AV.isElem, AV.one, ↓buildCells.eq_1, ↓buildCells.eq_2, Nat.reduceBEq, eqCells]
  refine CL_pure (s57q m b hb) rfl ?_
  simp -implicitDefEqProofs (disch := omega) only [KF, KV0, KV1, KV2, KW, ↓bstep, ↓astep, ↓O1.eq_def, ↓onBool.eq_def, ↓onInt.eq_def, ↓onStr.eq_def, ↓onLo.eq_def, ↓binK.eq_def, ↓arith.eq_def, ↓strOp.eq_def, ↓srcElems.eq_def, ↓dst1.eq_def, args0, List.zipIdx, List.map, lookup, St.ev, St.set, St.setO, reduceCtorEq, AV.plain, AV.plainL, AV.flat, AV.flatL, AV.cells, Nat.reduceEqDiff, ↓reduceIte, List.drop, List.take, List.length, Nat.reduceAdd, Nat.reduceLeDiff, Nat.reduceMul, E.done, rvsK, rvK, resAV, Int.reduceToNat, Int.reduceLE, Int.reduceLT, Int.reduceNeg, Int.reduceAdd, Int.reduceSub, Int.reduceMul, Nat.reduceLT, AV.isElem, AV.one, ↓buildCells.eq_1, ↓buildCells.eq_2, Nat.reduceBEq, eqCells]
  have := s63 m (a.num * b.den + b.num * a.den) (a.den * b.den) (Nat.mul_pos (den_pos a) (den_pos b)) (by omega) (by rw [Int.natAbs_mul, Int.natAbs_natCast, Int.natAbs_natCast] at m3; omega)
  rw [add_mk] at this
  refine CL_pure this rfl ?_
  simp -implicitDefEqProofs (disch := omega) only [KF, KV0, KV1, KV2, KW, ↓bstep, ↓astep, ↓O1.eq_def, ↓onBool.eq_def, ↓onInt.eq_def, ↓onStr.eq_def, ↓onLo.eq_def, ↓binK.eq_def, ↓arith.eq_def, ↓strOp.eq_def, ↓srcElems.eq_def, ↓dst1.eq_def, args0, List.zipIdx, List.map, lookup, St.ev, St.set, St.setO, reduceCtorEq, AV.plain, AV.plainL, AV.flat, AV.flatL, AV.cells, Nat.reduceEqDiff, ↓reduceIte, List.drop, List.take, List.length, Nat.reduceAdd, Nat.reduceLeDiff, Nat.reduceMul, E.done, rvsK, rvK, resAV, Int.reduceToNat, Int.reduceLE, Int.reduceLT, Int.reduceNeg, Int.reduceAdd, Int.reduceSub, Int.reduceMul, Nat.reduceLT, AV.isElem, AV.one, ↓buildCells.eq_1, ↓buildCells.eq_2, Nat.reduceBEq, eqCells]
  exact shs rfl
/-- rational.Sub -/
theorem s56 (m : Int) (a b : Rat) (ha : qk a) (hb : qk b) : SpecP (cx m) 56 [.str (tq a), .str (tq b)] (.str (tq (a - b))) := by
  refine specP_of (mixed m) (k56 m) (Nat.le_of_ble_eq_true rfl) (X_start ?_)
  unfold c56
  simp -implicitDefEqProofs (disch := omega) only [KF, KV0, KV1, KV2, KW, ↓bstep, ↓astep, ↓O1.eq_def, ↓onBool.eq_def, ↓onInt.eq_def, ↓onStr.eq_def, ↓onLo.eq_def, ↓binK.eq_def, ↓arith.eq_def, ↓strOp.eq_def, ↓srcElems.eq_def, ↓dst1.eq_def, args0, List.zipIdx, List.map, lookup, St.ev, St.set, St.setO, reduceCtorEq, AV.plain, AV.plainL, AV.flat, AV.flatL, AV.cells, Nat.reduceEqDiff, ↓reduceIte, List.drop, List.take, List.length, Nat.reduceAdd, Nat.reduceLeDiff, Nat.reduceMul, E.done, rvsK, rvK, resAV, Int.reduceToNat, Int.reduceLE, Int.reduceLT, Int.reduceNeg, Int.reduceAdd, Int.reduceSub, Int.reduceMul, Nat.reduceLT, AV.isElem, AV.one, ↓buildCells.eq_1, ↓buildCells.eq_2, Nat.reduceBEq, eqCells]
  refine CL_pure (s107 m b (by have := qk_len hb; omega)) rfl ?_
  simp -implicitDefEqProofs (disch := omega) only [KF, KV0, KV1, KV2, KW, ↓bstep, ↓astep, ↓O1.eq_def, ↓onBool.eq_def, ↓onInt.eq_def, ↓onStr.eq_def, ↓onLo.eq_def, ↓binK.eq_def, ↓arith.eq_def, ↓strOp.eq_def, ↓srcElems.eq_def, ↓dst1.eq_def, args0, List.zipIdx, List.map, lookup, St.ev, St.set, St.setO, reduceCtorEq, AV.plain, AV.plainL, AV.flat, AV.flatL, AV.cells, Nat.reduceEqDiff, ↓reduceIte, List.drop, List.take, List.length, Nat.reduceAdd, Nat.reduceLeDiff, Nat.reduceMul, E.done, rvsK, rvK, resAV, Int.reduceToNat, Int.reduceLE, Int.reduceLT, Int.reduceNeg, Int.reduceAdd, Int.reduceSub, Int.reduceMul, Nat.reduceLT, AV.isElem, AV.one, ↓buildCells.eq_1, ↓buildCells.eq_2, Nat.reduceBEq, eqCells]
  refine CL_pure (s29 m a (-b) ha (qk_neg hb)) rfl ?_
  simp -implicitDefEqProofs (disch := omega) only [KF, KV0, KV1, KV2, KW, ↓bstep, ↓astep, ↓O1.eq_def, ↓onBool.eq_def, ↓onInt.eq_def, ↓onStr.eq_def, ↓onLo.eq_def, ↓binK.eq_def, ↓arith.eq_def, ↓strOp.eq_def, ↓srcElems.eq_def, ↓dst1.eq_def, args0, List.zipIdx, List.map, lookup, St.ev, St.set, St.setO, reduceCtorEq, AV.plain, AV.plainL, AV.flat, AV.flatL, AV.cells, Nat.reduceEqDiff, ↓reduceIte, List.drop, List.take, List.length, Nat.reduceAdd, Nat.reduceLeDiff, Nat.reduceMul, E.done, rvsK, rvK, resAV, Int.reduceToNat, Int.reduceLE, Int.reduceLT, Int.reduceNeg, Int.reduceAdd, Int.reduceSub, Int.reduceMul, Nat.reduceLT, AV.isElem, AV.one, ↓buildCells.eq_1, ↓buildCells.eq_2, Nat.reduceBEq, eqCells]
  exact shs (by rw [Rat.sub_eq_add_neg])
/-- rational.Mul -/
theorem s55 (m : Int) (a b : Rat) (ha : qk a) (hb : qk b) : SpecP (cx m) 55 [.str (tq a), .str (tq b)] (.str (tq (a * b))) := by
  refine specP_of (mixed m) (k55 m) (Nat.le_of_ble_eq_true rfl) (X_start ?_)
  unfold c55
  obtain ⟨a1, a2⟩ := qk_lt ha
  obtain ⟨b1, b2⟩ := qk_lt hb
  have m1 := mul_lt (x := a.num) (y := b.num) a1 b1
  have m3 := mul_lt (x := a.den) (y := b.den) (by simpa using a2) (by simpa using b2)
  by_cases z1 : a = 0
  · simp -implicitDefEqProofs (disch := omega) only [KF, KV0, KV1, KV2, KW, ↓bstep, ↓astep, ↓O1.eq_def, ↓onBool.eq_def, ↓onInt.eq_def, ↓onStr.eq_def, ↓onLo.eq_def, ↓binK.eq_def, ↓arith.eq_def, ↓strOp.eq_def, ↓srcElems.eq_def, ↓dst1.eq_def, args0, List.zipIdx, List.map, lookup, St.ev, St.set, St.setO, reduceCtorEq, AV.plain, AV.plainL, AV.flat, AV.flatL, AV.cells, Nat.reduceEqDiff, ↓reduceIte, List.drop, List.take, List.length, Nat.reduceAdd, Nat.reduceLeDiff, Nat.reduceMul, E.done, rvsK, rvK, resAV, Int.reduceToNat, Int.reduceLE, Int.reduceLT, Int.reduceNeg, Int.reduceAdd, Int.reduceSub, Int.reduceMul, Nat.reduceLT, AV.isElem, AV.one, ↓buildCells.eq_1, ↓buildCells.eq_2, Nat.reduceBEq, eqCells, tq_is0, z1]
    exact shs (by rw [Rat.zero_mul, tq_zero])
  by_cases z2 : b = 0
  · simp -implicitDefEqProofs (disch := omega) only [KF, KV0, KV1, KV2, KW, ↓bstep, ↓astep, ↓O1.eq_def, ↓onBool.eq_def, ↓onInt.eq_def, ↓onStr.eq_def, ↓onLo.eq_def, ↓binK.eq_def, ↓arith.eq_def, ↓strOp.eq_def, ↓srcElems.eq_def, ↓dst1.eq_def, args0, List.zipIdx, List.map, lookup, St.ev, St.set, St.setO, reduceCtorEq, AV.plain, AV.plainL, AV.flat, AV.flatL, AV.cells, Nat.reduceEqDiff, ↓reduceIte, List.drop, List.take, List.length, Nat.reduceAdd, Nat.reduceLeDiff, Nat.reduceMul, E.done, rvsK, rvK, resAV, Int.reduceToNat, Int.reduceLE, Int.reduceLT, Int.reduceNeg, Int.reduceAdd, Int.reduceSub, Int.reduceMul, Nat.reduceLT, AV.isElem, AV.one, ↓buildCells.eq_1, ↓buildCells.eq_2, Nat.reduceBEq, eqCells, tq_is0, z1, z2]
    exact shs (by rw [Rat.mul_zero, tq_zero])
  by_cases z3 : a = 1
  · simp -implicitDefEqProofs (disch := omega) only [KF, KV0, KV1, KV2, KW, ↓bstep, ↓astep, ↓O1.eq_def, ↓onBool.eq_def, ↓onInt.eq_def, ↓onStr.eq_def, ↓onLo.eq_def, ↓binK.eq_def, ↓arith.eq_def, ↓strOp.eq_def, ↓srcElems.eq_def, ↓dst1.eq_def, args0, List.zipIdx, List.map, lookup, St.ev, St.set, St.setO, reduceCtorEq, AV.plain, AV.plainL, AV.flat, AV.flatL, AV.cells, Nat.reduceEqDiff, ↓reduceIte, List.drop, List.take, List.length, Nat.reduceAdd, Nat.reduceLeDiff, Nat.reduceMul, E.done, rvsK, rvK, resAV, Int.reduceToNat, Int.reduceLE, Int.reduceLT, Int.reduceNeg, Int.reduceAdd, Int.reduceSub, Int.reduceMul, Nat.reduceLT, AV.isElem, AV.one, ↓buildCells.eq_1, ↓buildCells.eq_2, Nat.reduceBEq, eqCells, tq_is0, tq_is1, z1, z2, z3]
    exact shs (by rw [Rat.one_mul])
  by_cases z4 : b = 1
  · simp -implicitDefEqProofs (disch := omega) only [KF, KV0, KV1, KV2, KW, ↓bstep, ↓astep, ↓O1.eq_def, ↓onBool.eq_def, ↓onInt.eq_def, ↓onStr.eq_def, ↓onLo.eq_def, ↓binK.eq_def, ↓arith.eq_def, ↓strOp.eq_def, ↓srcElems.eq_def, ↓dst1.eq_def, args0, List.zipIdx, List.map, lookup, St.ev, St.set, St.setO, reduceCtorEq, AV.plain, AV.plainL, AV.flat, AV.flatL, AV.cells, Nat.reduceEqDiff, ↓reduceIte, List.drop, List.take, List.length, Nat.reduceAdd, Nat.reduceLeDiff, Nat.reduceMul, E.done, rvsK, rvK, resAV, Int.reduceToNat, Int.reduceLE, Int.reduceLT, Int.reduceNeg, Int.reduceAdd, Int.reduceSub, Int.reduceMul, Nat.reduceLT, AV.isElem, AV.one, ↓buildCells.eq_1, ↓buildCells.eq_2, Nat.reduceBEq, eqCells, tq_is0, tq_is1, z1, z2, z3, z4]
    exact shs (by rw [Rat.mul_one])
  simp -implicitDefEqProofs (disch := omega) only [KF, KV0, KV1, KV2, KW, ↓bstep, ↓astep, ↓O1.eq_def, ↓onBool.eq_def, ↓onInt.eq_def, ↓onStr.eq_def, ↓onLo.eq_def, ↓binK.eq_def, ↓arith.eq_def, ↓strOp.eq_def, ↓srcElems.eq_def, ↓dst1.eq_def, args0, List.zipIdx, List.map, lookup, St.ev, St.set, St.setO, reduceCtorEq, AV.plain, AV.plainL, AV.flat, AV.flatL, AV.cells, Nat.reduceEqDiff, ↓reduceIte, List.drop, List.take, List.length, Nat.reduceAdd, Nat.reduceLeDiff, Nat.reduceMul, E.done, rvsK, rvK, resAV, Int.reduceToNat, Int.reduceLE, Int.reduceLT, Int.reduceNeg, Int.reduceAdd, Int.reduceSub, Int.reduceMul, Nat.reduceLT, AV.isElem, AV.one, ↓buildCells.eq_1, ↓buildCells.eq_2, Nat.reduceBEq, eqCells, tq_is0, tq_is1, z1, z2, z3, z4]
  refine CL_pure (s57q m a ha) rfl ?_
  simp -implicitDefEqProofs (disch := omega) only [KF, KV0, KV1, KV2, KW, ↓bstep, ↓astep, ↓O1.eq_def, ↓onBool.eq_def, ↓onInt.eq_def, ↓onStr.eq_def, ↓onLo.eq_def, ↓binK.eq_def, ↓arith.eq_def, ↓strOp.eq_def, ↓srcElems.eq_def, ↓dst1.eq_def, args0, List.zipIdx, List.map, lookup, St.ev, St.set, St.setO, reduceCtorEq, AV.plain, AV.plainL, AV.flat, AV.flatL, AV.cells, Nat.reduceEqDiff, ↓reduceIte, List.drop, List.take, List.length, Nat.reduceAdd, Nat.reduceLeDiff, Nat.reduceMul, E.done, rvsK, rvK, resAV, Int.reduceToNat, Int.reduceLE, Int.reduceLT, Int.reduceNeg, Int.reduceAdd, Int.reduceSub, Int.reduceMul, Nat.reduceLT, AV.isElem, AV.one, ↓buildCells.eq_1, ↓buildCells.eq_2, Nat.reduceBEq, eqCells]
  refine CL_pure (s57q m b hb) rfl ?_
  simp -implicitDefEqProofs (disch := omega) only [KF, KV0, KV1, KV2, KW, ↓bstep, ↓astep, ↓O1.eq_def, ↓onBool.eq_def, ↓onInt.eq_def, ↓onStr.eq_def, ↓onLo.eq_def, ↓binK.eq_def, ↓arith.eq_def, ↓strOp.eq_def, ↓srcElems.eq_def, ↓dst1.eq_def, args0, List.zipIdx, List.map, lookup, St.ev, St.set, St.setO, reduceCtorEq, AV.plain, AV.plainL, AV.flat, AV.flatL, AV.cells, Nat.reduceEqDiff, ↓reduceIte, List.drop, List.take, List.length, Nat.reduceAdd, Nat.reduceLeDiff, Nat.reduceMul, E.done, rvsK, rvK, resAV, Int.reduceToNat, Int.reduceLE, Int.reduceLT, Int.reduceNeg, Int.reduceAdd, Int.reduceSub, Int.reduceMul, Nat.reduceLT, AV.isElem, AV.one, ↓buildCells.eq_1, ↓buildCells.eq_2, Nat.reduceBEq, eqCells]
  have := s63 m (a.num * b.num) (a.den * b.den) (Nat.mul_pos (den_pos a) (den_pos b)) (by omega) (by rw [Int.natAbs_mul, Int.natAbs_natCast, Int.natAbs_natCast] at m3; omega)
  rw [mul_mk] at this
  refine CL_pure this rfl ?_
  simp -implicitDefEqProofs (disch := omega) only [KF, KV0, KV1, KV2, KW, ↓bstep, ↓astep, ↓O1.eq_def, ↓onBool.eq_def, ↓onInt.eq_def, ↓onStr.eq_def, ↓onLo.eq_def, ↓binK.eq_def, ↓arith.eq_def, ↓strOp.eq_def, ↓srcElems.eq_def, ↓dst1.eq_def, args0, List.zipIdx, List.map, lookup, St.ev, St.set, St.setO, reduceCtorEq, AV.plain, AV.plainL, AV.flat, AV.flatL, AV.cells, Nat.reduceEqDiff, ↓reduceIte, List.drop, List.take, List.length, Nat.reduceAdd, Nat.reduceLeDiff, Nat.reduceMul, E.done, rvsK, rvK, resAV, Int.reduceToNat, Int.reduceLE, Int.reduceLT, Int.reduceNeg, Int.reduceAdd, Int.reduceSub, Int.reduceMul, Nat.reduceLT, AV.isElem, AV.one, ↓buildCells.eq_1, ↓buildCells.eq_2, Nat.reduceBEq, eqCells]
  exact shs rfl
/-- rational.Compare -/
theorem s21 (m : Int) (a b : Rat) (ha : qk a) (hb : qk b) : SpecP (cx m) 21 [.str (tq a), .str (tq b)] (.int .i64 (Geo.cm a b)) := by
  refine specP_of (mixed m) (k21 m) (Nat.le_of_ble_eq_true rfl) (X_start ?_)
  unfold c21
  obtain ⟨a1, a2⟩ := qk_lt ha
  obtain ⟨b1, b2⟩ := qk_lt hb
  have m1 := mul_lt (x := a.num) (y := b.den) a1 (by simpa using b2)
  have m2 := mul_lt (x := b.num) (y := a.den) b1 (by simpa using a2)
  simp -implicitDefEqProofs (disch := omega) only [KF, KV0, KV1, KV2, KW, ↓bstep, ↓astep, ↓O1.eq_def, ↓onBool.eq_def, ↓onInt.eq_def, ↓onStr.eq_def, ↓onLo.eq_def, ↓binK.eq_def, ↓arith.eq_def, ↓strOp.eq_def, ↓srcElems.eq_def, ↓dst1.eq_def, args0, List.zipIdx, List.map, lookup, St.ev, St.set, St.setO, reduceCtorEq, AV.plain, AV.plainL, AV.flat, AV.flatL, AV.cells, Nat.reduceEqDiff, ↓reduceIte, List.drop, List.take, List.length, Nat.reduceAdd, Nat.reduceLeDiff, Nat.reduceMul, E.done, rvsK, rvK, resAV, Int.reduceToNat, Int.reduceLE, Int.reduceLT, Int.reduceNeg, Int.reduceAdd, Int.reduceSub, Int.reduceMul, Nat.reduceLT, AV.isElem, AV.one, ↓buildCells.eq_1, ↓buildCells.eq_2, Nat.reduceBEq, eqCells, tq_eq]
  refine iteI (fun h => shi (by simp [Geo.cm, h])) (fun h => ?_)
  refine CL_pure (s57q m a ha) rfl ?_
  simp -implicitDefEqProofs (disch := omega) only [KF, KV0, KV1, KV2, KW, ↓bstep, ↓astep, ↓O1.eq_def, ↓onBool.eq_def, ↓onInt.eq_def, ↓onStr.eq_def, ↓onLo.eq_def, ↓binK.eq_def, ↓arith.eq_def, ↓strOp.eq_def, ↓srcElems.eq_def, ↓dst1.eq_def, args0, List.zipIdx, List.map, lookup, St.ev, St.set, St.setO, reduceCtorEq, AV.plain, AV.plainL, AV.flat, AV.flatL, AV.cells, Nat.reduceEqDiff, ↓reduceIte, List.drop, List.take, List.length, Nat.reduceAdd, Nat.reduceLeDiff, Nat.reduceMul, E.done, rvsK, rvK, resAV, Int.reduceToNat, Int.reduceLE, Int.reduceLT, Int.reduceNeg, Int.reduceAdd, Int.reduceSub, Int.reduceMul, Nat.reduceLT, AV.isElem, AV.one, ↓buildCells.eq_1, ↓buildCells.eq_2, Nat.reduceBEq, eqCells]
  refine CL_pure (s57q m b hb) rfl ?_
  have l1 := Rat.lt_iff a b
  have l2 := Rat.lt_iff b a
  simp -implicitDefEqProofs (disch := omega) only [KF, KV0, KV1, KV2, KW, ↓bstep, ↓astep, ↓O1.eq_def, ↓onBool.eq_def, ↓onInt.eq_def, ↓onStr.eq_def, ↓onLo.eq_def, ↓binK.eq_def, ↓arith.eq_def, ↓strOp.eq_def, ↓srcElems.eq_def, ↓dst1.eq_def, args0, List.zipIdx, List.map, lookup, St.ev, St.set, St.setO, reduceCtorEq, AV.plain, AV.plainL, AV.flat, AV.flatL, AV.cells, Nat.reduceEqDiff, ↓reduceIte, List.drop, List.take, List.length, Nat.reduceAdd, Nat.reduceLeDiff, Nat.reduceMul, E.done, rvsK, rvK, resAV, Int.reduceToNat, Int.reduceLE, Int.reduceLT, Int.reduceNeg, Int.reduceAdd, Int.reduceSub, Int.reduceMul, Nat.reduceLT, AV.isElem, AV.one, ↓buildCells.eq_1, ↓buildCells.eq_2, Nat.reduceBEq, eqCells]
  refine iteI (fun h' => shi ?_) (fun h' => iteI (fun h2 => shi ?_) (fun h2 => absurd ?_ h))
  · simp [Geo.cm, h, l1.2 h']
  · have : ¬ a < b := fun h3 => h' (l1.1 h3)
    simp [Geo.cm, h, this]
  · have h3 : ¬ a < b := fun h3 => h' (l1.1 h3)
    have h4 : ¬ b < a := fun h3 => h2 (l2.1 h3)
    grind
/-- rational.Div -/
theorem s95 (m : Int) (a b : Rat) (ha : qk a) (hb : qk b) (h0 : b ≠ 0) : SpecP (cx m) 95 [.str (tq a), .str (tq b)] (.tuple [.str (tq (a / b)), .int .i64 0]) := by
  refine specP_of (mixed m) (k95 m) (Nat.le_of_ble_eq_true rfl) (X_start ?_)
  unfold c95
  obtain ⟨b1, b2⟩ := qk_lt hb
  have hn : b.num ≠ 0 := fun h => h0 (Rat.num_eq_zero.1 h)
  have i1 := Rat.num_inv b
  have i2 := Rat.den_inv b
  rw [if_neg hn] at i2
  have hi : qk b⁻¹ := by
    refine qk_of ?_ (by rw [i2]; exact b1)
    rw [i1, Int.natAbs_mul]
    rcases Int.lt_trichotomy b.num 0 with h | h | h
    · rw [Int.sign_eq_neg_one_of_neg h]; simpa using b2
    · exact absurd h hn
    · rw [Int.sign_eq_one_of_pos h]; simpa using b2
  have fin := s55 m a b⁻¹ ha hi
  rw [← Rat.div_def] at fin
  obtain ⟨c, l, e, h1, _⟩ := tq_head b
  have hx : (tq b)[0]? = some c := by rw [e]; rfl
  have hc : (c.toNat : Int) = 45 ↔ b < 0 := by rw [← h1]; exact byte_is (c := 45)
  have len := qk_len hb
  have ln := len_itoa (n := b.num) (k := 9) (by omega) b1
  have ld := len_itoa (n := (b.den : Int)) (k := 9) (by omega) (by simpa using b2)
  simp -implicitDefEqProofs (disch := omega) only [KF, KV0, KV1, KV2, KW, ↓bstep, ↓astep, ↓O1.eq_def, ↓onBool.eq_def, ↓onInt.eq_def, ↓onStr.eq_def, ↓onLo.eq_def, ↓binK.eq_def, ↓arith.eq_def, ↓strOp.eq_def, ↓srcElems.eq_def, ↓dst1.eq_def, args0, List.zipIdx, List.map, lookup, St.ev, St.set, St.setO, reduceCtorEq, AV.plain, AV.plainL, AV.flat, AV.flatL, AV.cells, Nat.reduceEqDiff, ↓reduceIte, List.drop, List.take, List.length, Nat.reduceAdd, Nat.reduceLeDiff, Nat.reduceMul, E.done, rvsK, rvK, resAV, Int.reduceToNat, Int.reduceLE, Int.reduceLT, Int.reduceNeg, Int.reduceAdd, Int.reduceSub, Int.reduceMul, Nat.reduceLT, AV.isElem, AV.one, ↓buildCells.eq_1, ↓buildCells.eq_2, Nat.reduceBEq, eqCells, tq_is0, h0]
  refine CL_pure (s58 m b (by omega)) rfl ?_
  simp -implicitDefEqProofs (disch := omega) only [KF, KV0, KV1, KV2, KW, ↓bstep, ↓astep, ↓O1.eq_def, ↓onBool.eq_def, ↓onInt.eq_def, ↓onStr.eq_def, ↓onLo.eq_def, ↓binK.eq_def, ↓arith.eq_def, ↓strOp.eq_def, ↓srcElems.eq_def, ↓dst1.eq_def, args0, List.zipIdx, List.map, lookup, St.ev, St.set, St.setO, reduceCtorEq, AV.plain, AV.plainL, AV.flat, AV.flatL, AV.cells, Nat.reduceEqDiff, ↓reduceIte, List.drop, List.take, List.length, Nat.reduceAdd, Nat.reduceLeDiff, Nat.reduceMul, E.done, rvsK, rvK, resAV, Int.reduceToNat, Int.reduceLE, Int.reduceLT, Int.reduceNeg, Int.reduceAdd, Int.reduceSub, Int.reduceMul, Nat.reduceLT, AV.isElem, AV.one, ↓buildCells.eq_1, ↓buildCells.eq_2, Nat.reduceBEq, eqCells, hx, hc]
  refine iteI (fun h => ?_) (fun h => ?_)
  · have hneg := num_neg.1 h
    refine CL_pure (s117 m b.num (by omega)) rfl ?_
    simp -implicitDefEqProofs (disch := omega) only [KF, KV0, KV1, KV2, KW, ↓bstep, ↓astep, ↓O1.eq_def, ↓onBool.eq_def, ↓onInt.eq_def, ↓onStr.eq_def, ↓onLo.eq_def, ↓binK.eq_def, ↓arith.eq_def, ↓strOp.eq_def, ↓srcElems.eq_def, ↓dst1.eq_def, args0, List.zipIdx, List.map, lookup, St.ev, St.set, St.setO, reduceCtorEq, AV.plain, AV.plainL, AV.flat, AV.flatL, AV.cells, Nat.reduceEqDiff, ↓reduceIte, List.drop, List.take, List.length, Nat.reduceAdd, Nat.reduceLeDiff, Nat.reduceMul, E.done, rvsK, rvK, resAV, Int.reduceToNat, Int.reduceLE, Int.reduceLT, Int.reduceNeg, Int.reduceAdd, Int.reduceSub, Int.reduceMul, Nat.reduceLT, AV.isElem, AV.one, ↓buildCells.eq_1, ↓buildCells.eq_2, Nat.reduceBEq, eqCells]
    have := s117 m (b.den : Int) (by omega)
    rw [itoa_nonneg (n := (b.den : Int)) (by omega)] at this
    refine CL_pure this rfl ?_
    simp -implicitDefEqProofs (disch := omega) only [KF, KV0, KV1, KV2, KW, ↓bstep, ↓astep, ↓O1.eq_def, ↓onBool.eq_def, ↓onInt.eq_def, ↓onStr.eq_def, ↓onLo.eq_def, ↓binK.eq_def, ↓arith.eq_def, ↓strOp.eq_def, ↓srcElems.eq_def, ↓dst1.eq_def, args0, List.zipIdx, List.map, lookup, St.ev, St.set, St.setO, reduceCtorEq, AV.plain, AV.plainL, AV.flat, AV.flatL, AV.cells, Nat.reduceEqDiff, ↓reduceIte, List.drop, List.take, List.length, Nat.reduceAdd, Nat.reduceLeDiff, Nat.reduceMul, E.done, rvsK, rvK, resAV, Int.reduceToNat, Int.reduceLE, Int.reduceLT, Int.reduceNeg, Int.reduceAdd, Int.reduceSub, Int.reduceMul, Nat.reduceLT, AV.isElem, AV.one, ↓buildCells.eq_1, ↓buildCells.eq_2, Nat.reduceBEq, eqCells]
    have j := s119 m (-(b.den : Int)) (b.num.natAbs) (by have := len_itoa (n := -(b.den : Int)) (k := 9) (by omega) (by simpa using b2); omega) (by rw [dec_length]; have := nDigits_le (k := 9) (by omega) b1; omega)
    rw [show (if b.num.natAbs = 1 then Lib.itoa (-(b.den : Int)) else Lib.itoa (-(b.den : Int)) ++ 47 :: Lib.decDigits b.num.natAbs) = tq b⁻¹ by
      unfold tq; rw [i2, i1, Int.sign_eq_neg_one_of_neg hneg, Int.neg_one_mul]] at j
    have e3 : Lib.itoa (-b.num) = Lib.decDigits b.num.natAbs := by rw [itoa_nonneg (n := -b.num) (by omega)]; congr 1; omega
    rw [e3]
    refine CL_pure j rfl ?_
    simp -implicitDefEqProofs (disch := omega) only [KF, KV0, KV1, KV2, KW, ↓bstep, ↓astep, ↓O1.eq_def, ↓onBool.eq_def, ↓onInt.eq_def, ↓onStr.eq_def, ↓onLo.eq_def, ↓binK.eq_def, ↓arith.eq_def, ↓strOp.eq_def, ↓srcElems.eq_def, ↓dst1.eq_def, args0, List.zipIdx, List.map, lookup, St.ev, St.set, St.setO, reduceCtorEq, AV.plain, AV.plainL, AV.flat, AV.flatL, AV.cells, Nat.reduceEqDiff, ↓reduceIte, List.drop, List.take, List.length, Nat.reduceAdd, Nat.reduceLeDiff, Nat.reduceMul, E.done, rvsK, rvK, resAV, Int.reduceToNat, Int.reduceLE, Int.reduceLT, Int.reduceNeg, Int.reduceAdd, Int.reduceSub, Int.reduceMul, Nat.reduceLT, AV.isElem, AV.one, ↓buildCells.eq_1, ↓buildCells.eq_2, Nat.reduceBEq, eqCells]
    refine CL_pure fin rfl ?_
    simp -implicitDefEqProofs (disch := omega) only [KF, KV0, KV1, KV2, KW, ↓bstep, ↓astep, ↓O1.eq_def, ↓onBool.eq_def, ↓onInt.eq_def, ↓onStr.eq_def, ↓onLo.eq_def, ↓binK.eq_def, ↓arith.eq_def, ↓strOp.eq_def, ↓srcElems.eq_def, ↓dst1.eq_def, args0, List.zipIdx, List.map, lookup, St.ev, St.set, St.setO, reduceCtorEq, AV.plain, AV.plainL, AV.flat, AV.flatL, AV.cells, Nat.reduceEqDiff, ↓reduceIte, List.drop, List.take, List.length, Nat.reduceAdd, Nat.reduceLeDiff, Nat.reduceMul, E.done, rvsK, rvK, resAV, Int.reduceToNat, Int.reduceLE, Int.reduceLT, Int.reduceNeg, Int.reduceAdd, Int.reduceSub, Int.reduceMul, Nat.reduceLT, AV.isElem, AV.one, ↓buildCells.eq_1, ↓buildCells.eq_2, Nat.reduceBEq, eqCells]
    exact shv rfl rfl
  · have hpos : 0 < b.num := by
      have : ¬ b.num < 0 := fun h2 => h (num_neg.2 h2)
      omega
    have j := s119 m (b.den : Int) (b.num.natAbs) (by omega) (by rw [dec_length]; have := nDigits_le (k := 9) (by omega) b1; omega)
    rw [show (if b.num.natAbs = 1 then Lib.itoa (b.den : Int) else Lib.itoa (b.den : Int) ++ 47 :: Lib.decDigits b.num.natAbs) = tq b⁻¹ by
      unfold tq; rw [i2, i1, Int.sign_eq_one_of_pos hpos, Int.one_mul]] at j
    rw [itoa_nonneg (n := (b.den : Int)) (by omega), Int.toNat_natCast] at j
    have e3 : Lib.itoa b.num = Lib.decDigits b.num.natAbs := by rw [itoa_nonneg (n := b.num) (by omega)]; congr 1; omega
    rw [e3]
    refine CL_pure j rfl ?_
    simp -implicitDefEqProofs (disch := omega) only [KF, KV0, KV1, KV2, KW, ↓bstep, ↓astep, ↓O1.eq_def, ↓onBool.eq_def, ↓onInt.eq_def, ↓onStr.eq_def, ↓onLo.eq_def, ↓binK.eq_def, ↓arith.eq_def, ↓strOp.eq_def, ↓srcElems.eq_def, ↓dst1.eq_def, args0, List.zipIdx, List.map, lookup, St.ev, St.set, St.setO, reduceCtorEq, AV.plain, AV.plainL, AV.flat, AV.flatL, AV.cells, Nat.reduceEqDiff, ↓reduceIte, List.drop, List.take, List.length, Nat.reduceAdd, Nat.reduceLeDiff, Nat.reduceMul, E.done, rvsK, rvK, resAV, Int.reduceToNat, Int.reduceLE, Int.reduceLT, Int.reduceNeg, Int.reduceAdd, Int.reduceSub, Int.reduceMul, Nat.reduceLT, AV.isElem, AV.one, ↓buildCells.eq_1, ↓buildCells.eq_2, Nat.reduceBEq, eqCells]
    refine CL_pure fin rfl ?_
    simp -implicitDefEqProofs (disch := omega) only [KF, KV0, KV1, KV2, KW, ↓bstep, ↓astep, ↓O1.eq_def, ↓onBool.eq_def, ↓onInt.eq_def, ↓onStr.eq_def, ↓onLo.eq_def, ↓binK.eq_def, ↓arith.eq_def, ↓strOp.eq_def, ↓srcElems.eq_def, ↓dst1.eq_def, args0, List.zipIdx, List.map, lookup, St.ev, St.set, St.setO, reduceCtorEq, AV.plain, AV.plainL, AV.flat, AV.flatL, AV.cells, Nat.reduceEqDiff, ↓reduceIte, List.drop, List.take, List.length, Nat.reduceAdd, Nat.reduceLeDiff, Nat.reduceMul, E.done, rvsK, rvK, resAV, Int.reduceToNat, Int.reduceLE, Int.reduceLT, Int.reduceNeg, Int.reduceAdd, Int.reduceSub, Int.reduceMul, Nat.reduceLT, AV.isElem, AV.one, ↓buildCells.eq_1, ↓buildCells.eq_2, Nat.reduceBEq, eqCells]
    exact shv rfl rfl
end Go.Proofs.YtkjnjdcbnelceaaGreatDoor.KA
end

section
/- The small code of functions, as own tools print it; that it is the program's is checked by the kernel. -/
open Go Go.Proofs
set_option linter.unusedVariables false
namespace Go.Proofs.YtkjnjdcbnelceaaGreatDoor.KA
def c84 : C := (C.ops [⟨I.mv 2 (O.k (AV.int IntKind.i64 0)), none, some 2⟩]).seq (((C.ops [⟨I.mv 6 (O.t 0), none, some 6⟩, ⟨I.len 7 (O.t 6), none, some 7⟩, ⟨I.mv 8 (O.k (AV.int IntKind.i64 0)), none, some 8⟩]).seq (C.block 0 ((C.ops [⟨I.bin 9 BinOp.lss (O.t 8) (O.t 7), none, some 9⟩]).seq ((C.cond (O.t 9) C.skip (C.exit 0)).seq ((C.block 1 ((C.ops [⟨I.idxa 10 1 none (O.t 6) (O.t 8), none, some 10⟩, ⟨I.loadf 11 false 1 (O.t 10), none, some 11⟩, ⟨I.mv 4 (O.t 11), none, some 4⟩]).seq ((C.ops [⟨I.mv 12 (O.t 4), none, some 12⟩, ⟨I.call (some 13) (O.k (AV.fn 50 [])) [O.t 12] false, none, some 13⟩, ⟨I.mv 5 (O.t 13), none, some 5⟩]).seq ((C.ops [⟨I.mv 14 (O.t 5), none, some 14⟩, ⟨I.bin 15 BinOp.neq (O.t 14) (O.k (AV.int IntKind.i64 0)), none, some 15⟩]).seq (C.cond (O.t 15) ((C.ops [⟨I.mv 16 (O.t 5), none, some 16⟩, ⟨I.mv 2 (O.t 16), none, some 2⟩]).seq C.ret) C.skip))))).seq (C.ops [⟨I.bin 17 BinOp.add (O.t 8) (O.k (AV.int IntKind.i64 1)), none, some 17⟩, ⟨I.mv 8 (O.t 17), none, some 8⟩])))).loop)).seq ((C.ops [⟨I.mv 2 (O.k (AV.int IntKind.i64 0)), none, some 2⟩]).seq C.ret))
theorem k84 (m : Int) : compF (cx m).P (cx m).gt (fun _ => false) 84 = some (c84, [RV.tmp 2], 18) := by kernel_rfl
def c49 : C := (C.ops [⟨I.box 1 (O.t 0) false, none, some 1⟩, ⟨I.mv 2 (O.k (AV.int IntKind.i64 0)), none, some 2⟩]).seq ((C.ops [⟨I.fld 3 0 (O.t 1), none, some 3⟩, ⟨I.loadf 4 false 1 (O.t 3), none, some 4⟩, ⟨I.fld 5 1 (O.t 1), none, some 5⟩, ⟨I.loadf 6 false 1 (O.t 5), none, some 6⟩, ⟨I.bsl 7 1 [O.t 4, O.t 6] false, none, some 7⟩, ⟨I.call (some 8) (O.k (AV.fn 84 [])) [O.t 7] false, none, some 8⟩, ⟨I.mv 2 (O.t 8), none, some 2⟩]).seq C.ret)
theorem k49 (m : Int) : compF (cx m).P (cx m).gt (fun _ => false) 49 = some (c49, [RV.tmp 2], 9) := by kernel_rfl
def c140 : C := (C.ops [⟨I.mv 2 (O.k (AV.bool false)), none, some 2⟩, ⟨I.mv 3 (O.k (AV.str [])), none, some 3⟩]).seq ((C.ops [⟨I.mv 5 (O.t 0), none, some 5⟩, ⟨I.mv 4 (O.t 5), none, some 4⟩]).seq (((C.ops [⟨I.mv 6 (O.t 4), none, some 6⟩, ⟨I.lens 7 (O.t 6), none, some 7⟩, ⟨I.bin 8 BinOp.gtr (O.t 7) (O.k (AV.int IntKind.i64 0)), none, some 8⟩, ⟨I.mv 9 (O.t 8), none, some 9⟩, ⟨I.mv 10 (O.t 4), some (9, true), some 10⟩, ⟨I.idx 11 (O.t 10) (O.k (AV.int IntKind.i64 0)), some (9, true), some 11⟩, ⟨I.bin 12 BinOp.eql (O.t 11) (O.k (AV.int IntKind.u8 45)), some (9, true), some 12⟩, ⟨I.pick 13 (O.t 9) (O.t 12) (O.k (AV.bool false)), none, some 13⟩]).seq (C.cond (O.t 13) ((C.ops [⟨I.mv 14 (O.t 4), none, some 14⟩, ⟨I.slcs 15 (O.t 14) (some (O.k (AV.int IntKind.i64 1))) none, none, some 15⟩, ⟨I.mv 2 (O.k (AV.bool true)), none, some 2⟩, ⟨I.mv 3 (O.t 15), none, some 3⟩]).seq C.ret) C.skip)).seq ((C.ops [⟨I.mv 16 (O.t 4), none, some 16⟩, ⟨I.mv 2 (O.k (AV.bool false)), none, some 2⟩, ⟨I.mv 3 (O.t 16), none, some 3⟩]).seq C.ret)))
theorem k140 (m : Int) : compF (cx m).P (cx m).gt (fun _ => false) 140 = some (c140, [RV.tmp 2, RV.tmp 3], 17) := by kernel_rfl
def c141 : C := (C.ops [⟨I.mv 2 (O.k (AV.bool false)), none, some 2⟩]).seq ((C.ops [⟨I.mv 7 (O.t 0), none, some 7⟩, ⟨I.call (some 8) (O.k (AV.fn 140 [])) [O.t 7] false, none, some 8⟩, ⟨I.mv 6 (O.t 8), none, some 6⟩, ⟨I.ext 9 (O.t 6) 0, none, some 9⟩, ⟨I.ext 10 (O.t 6) 1, none, some 10⟩, ⟨I.mv 3 (O.t 9), none, some 3⟩, ⟨I.mv 4 (O.t 10), none, some 4⟩]).seq (((C.ops [⟨I.mv 5 (O.k (AV.int IntKind.i64 0)), none, some 5⟩]).seq (C.block 0 (((C.ops [⟨I.mv 11 (O.t 5), none, some 11⟩, ⟨I.mv 12 (O.t 4), none, some 12⟩, ⟨I.lens 13 (O.t 12), none, some 13⟩, ⟨I.bin 14 BinOp.lss (O.t 11) (O.t 13), none, some 14⟩]).seq (C.cond (O.t 14) C.skip (C.exit 0))).seq ((C.block 1 ((C.ops [⟨I.mv 17 (O.t 4), none, some 17⟩, ⟨I.mv 18 (O.t 5), none, some 18⟩, ⟨I.idx 19 (O.t 17) (O.t 18), none, some 19⟩, ⟨I.bin 20 BinOp.lss (O.t 19) (O.k (AV.int IntKind.u8 48)), none, some 20⟩, ⟨I.mv 21 (O.t 20), none, some 21⟩, ⟨I.mv 22 (O.t 4), some (21, false), some 22⟩, ⟨I.mv 23 (O.t 5), some (21, false), some 23⟩, ⟨I.idx 24 (O.t 22) (O.t 23), some (21, false), some 24⟩, ⟨I.bin 25 BinOp.gtr (O.t 24) (O.k (AV.int IntKind.u8 57)), some (21, false), some 25⟩, ⟨I.pick 26 (O.t 21) (O.k (AV.bool true)) (O.t 25), none, some 26⟩]).seq (C.cond (O.t 26) ((C.ops [⟨I.mv 2 (O.k (AV.bool false)), none, some 2⟩]).seq C.ret) C.skip))).seq (C.ops [⟨I.mv 15 (O.t 5), none, some 15⟩, ⟨I.bin 16 BinOp.add (O.t 15) (O.k (AV.int IntKind.i64 1)), none, some 16⟩, ⟨I.mv 5 (O.t 16), none, some 5⟩]))).loop)).seq (((C.ops [⟨I.mv 27 (O.t 4), none, some 27⟩, ⟨I.lens 28 (O.t 27), none, some 28⟩, ⟨I.bin 29 BinOp.eql (O.t 28) (O.k (AV.int IntKind.i64 0)), none, some 29⟩, ⟨I.mv 30 (O.t 29), none, some 30⟩, ⟨I.mv 31 (O.t 4), some (30, false), some 31⟩, ⟨I.idx 32 (O.t 31) (O.k (AV.int IntKind.i64 0)), some (30, false), some 32⟩, ⟨I.bin 33 BinOp.eql (O.t 32) (O.k (AV.int IntKind.u8 48)), some (30, false), some 33⟩, ⟨I.mv 34 (O.t 33), some (30, false), some 34⟩, ⟨I.mv 35 (O.t 3), some (34, true), some 35⟩, ⟨I.mv 36 (O.t 35), some (34, true), some 36⟩, ⟨I.mv 37 (O.t 4), some (36, false), some 37⟩, ⟨I.lens 38 (O.t 37), some (36, false), some 38⟩, ⟨I.bin 39 BinOp.gtr (O.t 38) (O.k (AV.int IntKind.i64 1)), some (36, false), some 39⟩, ⟨I.pick 40 (O.t 36) (O.k (AV.bool true)) (O.t 39), some (34, true), some 40⟩, ⟨I.pick 41 (O.t 34) (O.t 40) (O.k (AV.bool false)), some (30, false), some 41⟩, ⟨I.pick 42 (O.t 30) (O.k (AV.bool true)) (O.t 41), none, some 42⟩]).seq (C.cond (O.t 42) ((C.ops [⟨I.mv 2 (O.k (AV.bool false)), none, some 2⟩]).seq C.ret) C.skip)).seq ((C.ops [⟨I.mv 2 (O.k (AV.bool true)), none, some 2⟩]).seq C.ret))))
theorem k141 (m : Int) : compF (cx m).P (cx m).gt (fun _ => false) 141 = some (c141, [RV.tmp 2], 43) := by kernel_rfl
def c103 : C := (C.ops [⟨I.mv 2 (O.k (AV.bool false)), none, some 2⟩]).seq ((C.ops [⟨I.mv 6 (O.t 0), none, some 6⟩, ⟨I.call (some 7) (O.k (AV.fn 140 [])) [O.t 6] false, none, some 7⟩, ⟨I.mv 5 (O.t 7), none, some 5⟩, ⟨I.ext 8 (O.t 5) 0, none, some 8⟩, ⟨I.ext 9 (O.t 5) 1, none, some 9⟩, ⟨I.mv 3 (O.t 8), none, some 3⟩, ⟨I.mv 4 (O.t 9), none, some 4⟩]).seq ((C.ops [⟨I.mv 10 (O.t 0), none, some 10⟩, ⟨I.call (some 11) (O.k (AV.fn 141 [])) [O.t 10] false, none, some 11⟩, ⟨I.mv 12 (O.t 11), none, some 12⟩, ⟨I.mv 13 (O.t 4), some (12, true), some 13⟩, ⟨I.lens 14 (O.t 13), some (12, true), some 14⟩, ⟨I.bin 15 BinOp.leq (O.t 14) (O.k (AV.int IntKind.i64 200)), some (12, true), some 15⟩, ⟨I.pick 16 (O.t 12) (O.t 15) (O.k (AV.bool false)), none, some 16⟩, ⟨I.mv 2 (O.t 16), none, some 2⟩]).seq C.ret))
theorem k103 (m : Int) : compF (cx m).P (cx m).gt (fun _ => false) 103 = some (c103, [RV.tmp 2], 17) := by kernel_rfl
def c102 : C := (C.ops [⟨I.mv 2 (O.k (AV.str [])), none, some 2⟩, ⟨I.mv 3 (O.k (AV.str [])), none, some 3⟩]).seq ((C.ops [⟨I.mv 5 (O.t 0), none, some 5⟩, ⟨I.call (some 6) (O.k (AV.fn 104 [])) [O.t 5, O.k (AV.int IntKind.u8 47)] false, none, some 6⟩, ⟨I.mv 4 (O.t 6), none, some 4⟩]).seq (((C.ops [⟨I.mv 7 (O.t 4), none, some 7⟩, ⟨I.bin 8 BinOp.lss (O.t 7) (O.k (AV.int IntKind.i64 0)), none, some 8⟩]).seq (C.cond (O.t 8) ((C.ops [⟨I.mv 9 (O.t 0), none, some 9⟩, ⟨I.mv 2 (O.t 9), none, some 2⟩, ⟨I.mv 3 (O.k (AV.str [49])), none, some 3⟩]).seq C.ret) C.skip)).seq ((C.ops [⟨I.mv 10 (O.t 0), none, some 10⟩, ⟨I.mv 11 (O.t 4), none, some 11⟩, ⟨I.slcs 12 (O.t 10) none (some (O.t 11)), none, some 12⟩, ⟨I.mv 13 (O.t 0), none, some 13⟩, ⟨I.mv 14 (O.t 4), none, some 14⟩, ⟨I.bin 15 BinOp.add (O.t 14) (O.k (AV.int IntKind.i64 1)), none, some 15⟩, ⟨I.slcs 16 (O.t 13) (some (O.t 15)) none, none, some 16⟩, ⟨I.mv 2 (O.t 12), none, some 2⟩, ⟨I.mv 3 (O.t 16), none, some 3⟩]).seq C.ret)))
theorem k102 (m : Int) : compF (cx m).P (cx m).gt (fun _ => false) 102 = some (c102, [RV.tmp 2, RV.tmp 3], 17) := by kernel_rfl
def c54 : C := (C.ops [⟨I.mv 2 (O.k (AV.bool false)), none, some 2⟩]).seq ((C.ops [⟨I.mv 6 (O.t 0), none, some 6⟩, ⟨I.call (some 7) (O.k (AV.fn 102 [])) [O.t 6] false, none, some 7⟩, ⟨I.mv 5 (O.t 7), none, some 5⟩, ⟨I.ext 8 (O.t 5) 0, none, some 8⟩, ⟨I.ext 9 (O.t 5) 1, none, some 9⟩, ⟨I.mv 3 (O.t 8), none, some 3⟩, ⟨I.mv 4 (O.t 9), none, some 4⟩]).seq (((C.ops [⟨I.mv 10 (O.t 3), none, some 10⟩, ⟨I.call (some 11) (O.k (AV.fn 103 [])) [O.t 10] false, none, some 11⟩, ⟨I.not 12 (O.t 11), none, some 12⟩, ⟨I.mv 13 (O.t 12), none, some 13⟩, ⟨I.mv 14 (O.t 4), some (13, false), some 14⟩, ⟨I.call (some 15) (O.k (AV.fn 103 [])) [O.t 14] false, some (13, false), some 15⟩, ⟨I.not 16 (O.t 15), some (13, false), some 16⟩, ⟨I.pick 17 (O.t 13) (O.k (AV.bool true)) (O.t 16), none, some 17⟩]).seq (C.cond (O.t 17) ((C.ops [⟨I.mv 2 (O.k (AV.bool false)), none, some 2⟩]).seq C.ret) C.skip)).seq (((C.ops [⟨I.mv 18 (O.t 0), none, some 18⟩, ⟨I.call (some 19) (O.k (AV.fn 104 [])) [O.t 18, O.k (AV.int IntKind.u8 47)] false, none, some 19⟩, ⟨I.bin 20 BinOp.lss (O.t 19) (O.k (AV.int IntKind.i64 0)), none, some 20⟩]).seq (C.cond (O.t 20) ((C.ops [⟨I.mv 2 (O.k (AV.bool true)), none, some 2⟩]).seq C.ret) C.skip)).seq ((C.ops [⟨I.mv 21 (O.t 4), none, some 21⟩, ⟨I.call (some 22) (O.k (AV.fn 105 [])) [O.t 21, O.k (AV.str [49])] false, none, some 22⟩, ⟨I.bin 23 BinOp.gtr (O.t 22) (O.k (AV.int IntKind.i64 0)), none, some 23⟩, ⟨I.mv 24 (O.t 23), none, some 24⟩, ⟨I.mv 25 (O.t 3), some (24, true), some 25⟩, ⟨I.bin 26 BinOp.neq (O.t 25) (O.k (AV.str [48])), some (24, true), some 26⟩, ⟨I.pick 27 (O.t 24) (O.t 26) (O.k (AV.bool false)), none, some 27⟩, ⟨I.mv 28 (O.t 27), none, some 28⟩, ⟨I.mv 29 (O.t 3), some (28, true), some 29⟩, ⟨I.mv 30 (O.t 4), some (28, true), some 30⟩, ⟨I.call (some 31) (O.k (AV.fn 106 [])) [O.t 29, O.t 30] false, some (28, true), some 31⟩, ⟨I.bin 32 BinOp.eql (O.t 31) (O.k (AV.str [49])), some (28, true), some 32⟩, ⟨I.pick 33 (O.t 28) (O.t 32) (O.k (AV.bool false)), none, some 33⟩, ⟨I.mv 2 (O.t 33), none, some 2⟩]).seq C.ret))))
theorem k54 (m : Int) : compF (cx m).P (cx m).gt (fun _ => false) 54 = some (c54, [RV.tmp 2], 34) := by kernel_rfl
def c17 : C := (C.ops [⟨I.mv 2 (O.k (AV.bool false)), none, some 2⟩]).seq ((C.ops [⟨I.mv 3 (O.t 0), none, some 3⟩, ⟨I.call (some 4) (O.k (AV.fn 54 [])) [O.t 3] false, none, some 4⟩, ⟨I.mv 2 (O.t 4), none, some 2⟩]).seq C.ret)
theorem k17 (m : Int) : compF (cx m).P (cx m).gt (fun _ => false) 17 = some (c17, [RV.tmp 2], 5) := by kernel_rfl
def c24 : C := (C.ops [⟨I.box 1 (O.t 0) false, none, some 1⟩, ⟨I.mv 2 (O.k (AV.bool false)), none, some 2⟩]).seq ((C.ops [⟨I.fld 3 0 (O.t 1), none, some 3⟩, ⟨I.loadf 4 false 1 (O.t 3), none, some 4⟩, ⟨I.call (some 5) (O.k (AV.fn 17 [])) [O.t 4] false, none, some 5⟩, ⟨I.mv 6 (O.t 5), none, some 6⟩, ⟨I.fld 7 1 (O.t 1), some (6, true), some 7⟩, ⟨I.loadf 8 false 1 (O.t 7), some (6, true), some 8⟩, ⟨I.call (some 9) (O.k (AV.fn 17 [])) [O.t 8] false, some (6, true), some 9⟩, ⟨I.pick 10 (O.t 6) (O.t 9) (O.k (AV.bool false)), none, some 10⟩, ⟨I.mv 2 (O.t 10), none, some 2⟩]).seq C.ret)
theorem k24 (m : Int) : compF (cx m).P (cx m).gt (fun _ => false) 24 = some (c24, [RV.tmp 2], 11) := by kernel_rfl
end Go.Proofs.YtkjnjdcbnelceaaGreatDoor.KA
end

section
/- Contracts: numbers and points are checked. -/
open Go Go.Proofs
set_option linter.unusedSimpArgs false
set_option linter.unusedVariables false
namespace Go.Proofs.YtkjnjdcbnelceaaGreatDoor.KA
open Num Geo

theorem dec_idx (u j : Nat) (h : j < (Lib.decDigits u).length) : ∃ c, (Lib.decDigits u)[j]? = some c ∧ 48 ≤ c.toNat ∧ c.toNat ≤ 57 :=
  ⟨(Lib.decDigits u)[j], by simp [h], dec_digit u _ (List.getElem_mem h)⟩
/-- The first digit is 0 of the number 0 alone. -/
theorem dec_fst (u : Nat) : ∃ c, (Lib.decDigits u)[0]? = some c ∧ ((c.toNat : Int) = 48 ↔ u = 0) := by
  by_cases h : u = 0
  · subst h; exact ⟨48, by rw [dec_zero]; rfl, by decide⟩
  · obtain ⟨b, l, e, h1, h2⟩ := dec_head u h
    refine ⟨b, by rw [e]; rfl, ?_⟩
    constructor
    · intro hh; omega
    · intro hh; exact absurd hh h

/-- integer.Check -/
theorem s100 (m : Int) (n : Int) (hl : (Lib.decDigits n.natAbs).length ≤ 200) : SpecP (cx m) 100 [.str (Lib.itoa n)] (.int .i64 0) := by
  refine specP_of (mixed m) (k100 m) (Nat.le_of_ble_eq_true rfl) (X_start ?_)
  unfold c100
  have hne := dec_ne n.natAbs
  obtain ⟨c, h0, h48⟩ := dec_fst n.natAbs
  have hp := s138 m (Lib.itoa n) [45]
  rw [itoa_trim, itoa_minus] at hp
  have hdig := dec_idx n.natAbs
  have hl2 : ¬ (200 : Int) < ((Lib.decDigits n.natAbs).length : Int) := by omega
  have rest : n = 0 → ((Lib.decDigits n.natAbs).length = 1 ∧ ¬ n < 0) := by
    intro h; subst h; exact ⟨by rw [show (0 : Int).natAbs = 0 from rfl, dec_zero]; rfl, by omega⟩
  have hz : n.natAbs = 0 ↔ n = 0 := by omega
  rw [hz] at h48
  generalize hD : Lib.decDigits n.natAbs = D at *
  simp -implicitDefEqProofs (disch := omega) only [KF, KV0, KV1, KV2, KW, ↓bstep, ↓astep, ↓O1.eq_def, ↓onBool.eq_def, ↓onInt.eq_def, ↓onStr.eq_def, ↓onLo.eq_def, ↓binK.eq_def, ↓arith.eq_def, ↓strOp.eq_def, ↓srcElems.eq_def, ↓dst1.eq_def, args0, List.zipIdx, List.map, lookup, St.ev, St.set, St.setO, reduceCtorEq, AV.plain, AV.plainL, AV.flat, AV.flatL, AV.cells, Nat.reduceEqDiff, ↓reduceIte, List.drop, List.take, List.length, Nat.reduceAdd, Nat.reduceLeDiff, Nat.reduceMul, E.done, rvsK, rvK, resAV, Int.reduceToNat, Int.reduceLE, Int.reduceLT, Int.reduceNeg, Int.reduceAdd, Int.reduceSub, Int.reduceMul, Nat.reduceLT, AV.isElem, AV.one, ↓buildCells.eq_1, ↓buildCells.eq_2, Nat.reduceBEq, eqCells]
  refine CL_pure hp rfl ?_
  have loop : ∀ fs : List F, ∀ st : St, True := fun _ _ => trivial
  by_cases hn : n = 0
  · obtain ⟨r1, r2⟩ := rest hn
    have r3 : ¬ (1 : Int) < (D.length : Int) := by omega
    have h48 := h48.2 hn
    simp -implicitDefEqProofs (disch := omega) only [KF, KV0, KV1, KV2, KW, ↓bstep, ↓astep, ↓O1.eq_def, ↓onBool.eq_def, ↓onInt.eq_def, ↓onStr.eq_def, ↓onLo.eq_def, ↓binK.eq_def, ↓arith.eq_def, ↓strOp.eq_def, ↓srcElems.eq_def, ↓dst1.eq_def, args0, List.zipIdx, List.map, lookup, St.ev, St.set, St.setO, reduceCtorEq, AV.plain, AV.plainL, AV.flat, AV.flatL, AV.cells, Nat.reduceEqDiff, ↓reduceIte, List.drop, List.take, List.length, Nat.reduceAdd, Nat.reduceLeDiff, Nat.reduceMul, E.done, rvsK, rvK, resAV, Int.reduceToNat, Int.reduceLE, Int.reduceLT, Int.reduceNeg, Int.reduceAdd, Int.reduceSub, Int.reduceMul, Nat.reduceLT, AV.isElem, AV.one, ↓buildCells.eq_1, ↓buildCells.eq_2, Nat.reduceBEq, eqCells, hne, hl2, h0, h48, r3, r2]
    refine X_for (fun j : Nat => ⟨[(3, .str D), (32, .int .i64 D.length), (33, .int .i64 j)], []⟩) (fun j => j ≤ D.length) (fun j => D.length - j) 0 (Nat.zero_le _) ?_ ?_
    · exact weak_keep (by simp [lookup])
    intro j R j1 hR
    try dsimp only at hR ⊢
    rcases Nat.lt_or_ge j D.length with hj | hj
    · obtain ⟨x, hx, x1, x2⟩ := hdig j hj
      have x3 : ¬ (x.toNat : Int) < 48 := by omega
      have x4 : ¬ 57 < (x.toNat : Int) := by omega
      simp -implicitDefEqProofs (disch := omega) only [KF, KV0, KV1, KV2, KW, ↓bstep, ↓astep, ↓O1.eq_def, ↓onBool.eq_def, ↓onInt.eq_def, ↓onStr.eq_def, ↓onLo.eq_def, ↓binK.eq_def, ↓arith.eq_def, ↓strOp.eq_def, ↓srcElems.eq_def, ↓dst1.eq_def, args0, List.zipIdx, List.map, lookup, St.ev, St.set, St.setO, reduceCtorEq, AV.plain, AV.plainL, AV.flat, AV.flatL, AV.cells, Nat.reduceEqDiff, ↓reduceIte, List.drop, List.take, List.length, Nat.reduceAdd, Nat.reduceLeDiff, Nat.reduceMul, E.done, rvsK, rvK, resAV, Int.reduceToNat, Int.reduceLE, Int.reduceLT, Int.reduceNeg, Int.reduceAdd, Int.reduceSub, Int.reduceMul, Nat.reduceLT, AV.isElem, AV.one, ↓buildCells.eq_1, ↓buildCells.eq_2, Nat.reduceBEq, eqCells, hj, hx, x3, x4]
      exact hR (j + 1) _ (by omega) (by omega) (weak_keep (by simp [lookup]))
    · have hj' : ¬ j < D.length := by omega
      simp -implicitDefEqProofs (disch := omega) only [KF, KV0, KV1, KV2, KW, ↓bstep, ↓astep, ↓O1.eq_def, ↓onBool.eq_def, ↓onInt.eq_def, ↓onStr.eq_def, ↓onLo.eq_def, ↓binK.eq_def, ↓arith.eq_def, ↓strOp.eq_def, ↓srcElems.eq_def, ↓dst1.eq_def, args0, List.zipIdx, List.map, lookup, St.ev, St.set, St.setO, reduceCtorEq, AV.plain, AV.plainL, AV.flat, AV.flatL, AV.cells, Nat.reduceEqDiff, ↓reduceIte, List.drop, List.take, List.length, Nat.reduceAdd, Nat.reduceLeDiff, Nat.reduceMul, E.done, rvsK, rvK, resAV, Int.reduceToNat, Int.reduceLE, Int.reduceLT, Int.reduceNeg, Int.reduceAdd, Int.reduceSub, Int.reduceMul, Nat.reduceLT, AV.isElem, AV.one, ↓buildCells.eq_1, ↓buildCells.eq_2, Nat.reduceBEq, eqCells, hj']
      exact shi rfl
  · have h48 : ¬ (c.toNat : Int) = 48 := fun h => hn (h48.1 h)
    simp -implicitDefEqProofs (disch := omega) only [KF, KV0, KV1, KV2, KW, ↓bstep, ↓astep, ↓O1.eq_def, ↓onBool.eq_def, ↓onInt.eq_def, ↓onStr.eq_def, ↓onLo.eq_def, ↓binK.eq_def, ↓arith.eq_def, ↓strOp.eq_def, ↓srcElems.eq_def, ↓dst1.eq_def, args0, List.zipIdx, List.map, lookup, St.ev, St.set, St.setO, reduceCtorEq, AV.plain, AV.plainL, AV.flat, AV.flatL, AV.cells, Nat.reduceEqDiff, ↓reduceIte, List.drop, List.take, List.length, Nat.reduceAdd, Nat.reduceLeDiff, Nat.reduceMul, E.done, rvsK, rvK, resAV, Int.reduceToNat, Int.reduceLE, Int.reduceLT, Int.reduceNeg, Int.reduceAdd, Int.reduceSub, Int.reduceMul, Nat.reduceLT, AV.isElem, AV.one, ↓buildCells.eq_1, ↓buildCells.eq_2, Nat.reduceBEq, eqCells, hne, hl2, h0, h48]
    refine X_for (fun j : Nat => ⟨[(3, .str D), (32, .int .i64 D.length), (33, .int .i64 j)], []⟩) (fun j => j ≤ D.length) (fun j => D.length - j) 0 (Nat.zero_le _) ?_ ?_
    · exact weak_keep (by simp [lookup])
    intro j R j1 hR
    try dsimp only at hR ⊢
    rcases Nat.lt_or_ge j D.length with hj | hj
    · obtain ⟨x, hx, x1, x2⟩ := hdig j hj
      have x3 : ¬ (x.toNat : Int) < 48 := by omega
      have x4 : ¬ 57 < (x.toNat : Int) := by omega
      simp -implicitDefEqProofs (disch := omega) only [KF, KV0, KV1, KV2, KW, ↓bstep, ↓astep, ↓O1.eq_def, ↓onBool.eq_def, ↓onInt.eq_def, ↓onStr.eq_def, ↓onLo.eq_def, ↓binK.eq_def, ↓arith.eq_def, ↓strOp.eq_def, ↓srcElems.eq_def, ↓dst1.eq_def, args0, List.zipIdx, List.map, lookup, St.ev, St.set, St.setO, reduceCtorEq, AV.plain, AV.plainL, AV.flat, AV.flatL, AV.cells, Nat.reduceEqDiff, ↓reduceIte, List.drop, List.take, List.length, Nat.reduceAdd, Nat.reduceLeDiff, Nat.reduceMul, E.done, rvsK, rvK, resAV, Int.reduceToNat, Int.reduceLE, Int.reduceLT, Int.reduceNeg, Int.reduceAdd, Int.reduceSub, Int.reduceMul, Nat.reduceLT, AV.isElem, AV.one, ↓buildCells.eq_1, ↓buildCells.eq_2, Nat.reduceBEq, eqCells, hj, hx, x3, x4]
      exact hR (j + 1) _ (by omega) (by omega) (weak_keep (by simp [lookup]))
    · have hj' : ¬ j < D.length := by omega
      simp -implicitDefEqProofs (disch := omega) only [KF, KV0, KV1, KV2, KW, ↓bstep, ↓astep, ↓O1.eq_def, ↓onBool.eq_def, ↓onInt.eq_def, ↓onStr.eq_def, ↓onLo.eq_def, ↓binK.eq_def, ↓arith.eq_def, ↓strOp.eq_def, ↓srcElems.eq_def, ↓dst1.eq_def, args0, List.zipIdx, List.map, lookup, St.ev, St.set, St.setO, reduceCtorEq, AV.plain, AV.plainL, AV.flat, AV.flatL, AV.cells, Nat.reduceEqDiff, ↓reduceIte, List.drop, List.take, List.length, Nat.reduceAdd, Nat.reduceLeDiff, Nat.reduceMul, E.done, rvsK, rvK, resAV, Int.reduceToNat, Int.reduceLE, Int.reduceLT, Int.reduceNeg, Int.reduceAdd, Int.reduceSub, Int.reduceMul, Nat.reduceLT, AV.isElem, AV.one, ↓buildCells.eq_1, ↓buildCells.eq_2, Nat.reduceBEq, eqCells, hj']
      exact shi rfl

/-! The order of digits. -/
theorem cb_snoc : ∀ (l l' : List UInt8) (x y : UInt8), l.length = l'.length → Lib.compareBytes (l ++ [x]) (l' ++ [y]) = if Lib.compareBytes l l' = 0 then (if x < y then -1 else if y < x then 1 else 0) else Lib.compareBytes l l'
  | [], [], x, y, _ => by simp [Lib.compareBytes]
  | [], _ :: _, _, _, h => by simp at h
  | _ :: _, [], _, _, h => by simp at h
  | a :: l, b :: l', x, y, h => by
    simp only [List.cons_append, Lib.compareBytes]
    split
    · simp
    · split
      · simp
      · exact cb_snoc l l' x y (by simpa using h)
theorem cb_dec : ∀ (u v : Nat), Lib.nDigits u = Lib.nDigits v → Lib.compareBytes (Lib.decDigits u) (Lib.decDigits v) = if u < v then -1 else if v < u then 1 else 0 := by
  intro u
  induction u using Nat.strongRecOn with
  | _ u ih =>
    intro v h
    have hb : ∀ d e : Nat, d < 10 → e < 10 → (UInt8.ofNat (48 + d) < UInt8.ofNat (48 + e) ↔ d < e) := by
      intro d e hd he
      rw [UInt8.lt_iff_toNat_lt, byte_nat hd, byte_nat he]; omega
    by_cases hu : u < 10
    · have hv : v < 10 := by
        rw [Lib.nDigits_small hu] at h
        have := Lib.lt_pow_nDigits v
        rw [← h] at this; omega
      rw [dec_small hu, dec_small hv]
      simp only [Lib.compareBytes, hb u v hu hv, hb v u hv hu]
    · have hv : ¬ v < 10 := by
        intro hv
        rw [Lib.nDigits_small hv, Lib.nDigits_big hu] at h
        have := Lib.nDigits_pos (u / 10)
        omega
      rw [Lib.nDigits_big hu, Lib.nDigits_big hv] at h
      have ih' := ih (u / 10) (by omega) (v / 10) (by omega)
      rw [dec_big hu, dec_big hv, cb_snoc _ _ _ _ (by rw [dec_length, dec_length]; omega), ih']
      simp only [hb (u % 10) (v % 10) (by omega) (by omega), hb (v % 10) (u % 10) (by omega) (by omega)]
      (repeat' split) <;> omega
theorem nDigits_mono {u v : Nat} (h : Lib.nDigits u < Lib.nDigits v) : u < v := by
  have h1 := Lib.lt_pow_nDigits u
  rcases Nat.lt_or_ge u v with h2 | h2
  · exact h2
  · have : Lib.nDigits v ≤ Lib.nDigits u := nDigits_le (Lib.nDigits_pos u) (by omega)
    omega

/-- integer.Compare -/
theorem s59 (m : Int) (a b : Int) : SpecP (cx m) 59 [.str (Lib.itoa a), .str (Lib.itoa b)] (.int .i64 (sgi (a - b))) := by
  refine specP_of (mixed m) (k59 m) (Nat.le_of_ble_eq_true rfl) (X_start ?_)
  unfold c59
  have ta := s109 m (Lib.itoa a) [45]
  have tb := s109 m (Lib.itoa b) [45]
  rw [itoa_trim] at ta tb
  have sa : sgi a = 1 ∧ 0 < a ∨ sgi a = 0 ∧ a = 0 ∨ sgi a = -1 ∧ a < 0 := by unfold sgi; split <;> (try split) <;> omega
  have sb : sgi b = 1 ∧ 0 < b ∨ sgi b = 0 ∧ b = 0 ∨ sgi b = -1 ∧ b < 0 := by unfold sgi; split <;> (try split) <;> omega
  have sd : sgi (a - b) = if a = b then 0 else if a < b then -1 else 1 := by unfold sgi; split <;> split <;> (try split) <;> omega
  have cd := cb_dec a.natAbs b.natAbs
  have mo := @nDigits_mono a.natAbs b.natAbs
  have mo' := @nDigits_mono b.natAbs a.natAbs
  have la := dec_length a.natAbs
  have lb := dec_length b.natAbs
  simp -implicitDefEqProofs (disch := omega) only [KF, KV0, KV1, KV2, KW, ↓bstep, ↓astep, ↓O1.eq_def, ↓onBool.eq_def, ↓onInt.eq_def, ↓onStr.eq_def, ↓onLo.eq_def, ↓binK.eq_def, ↓arith.eq_def, ↓strOp.eq_def, ↓srcElems.eq_def, ↓dst1.eq_def, args0, List.zipIdx, List.map, lookup, St.ev, St.set, St.setO, reduceCtorEq, AV.plain, AV.plainL, AV.flat, AV.flatL, AV.cells, Nat.reduceEqDiff, ↓reduceIte, List.drop, List.take, List.length, Nat.reduceAdd, Nat.reduceLeDiff, Nat.reduceMul, E.done, rvsK, rvK, resAV, Int.reduceToNat, Int.reduceLE, Int.reduceLT, Int.reduceNeg, Int.reduceAdd, Int.reduceSub, Int.reduceMul, Nat.reduceLT, AV.isElem, AV.one, ↓buildCells.eq_1, ↓buildCells.eq_2, Nat.reduceBEq, eqCells]
  refine CL_pure (s108 m a) rfl ?_
  simp -implicitDefEqProofs (disch := omega) only [KF, KV0, KV1, KV2, KW, ↓bstep, ↓astep, ↓O1.eq_def, ↓onBool.eq_def, ↓onInt.eq_def, ↓onStr.eq_def, ↓onLo.eq_def, ↓binK.eq_def, ↓arith.eq_def, ↓strOp.eq_def, ↓srcElems.eq_def, ↓dst1.eq_def, args0, List.zipIdx, List.map, lookup, St.ev, St.set, St.setO, reduceCtorEq, AV.plain, AV.plainL, AV.flat, AV.flatL, AV.cells, Nat.reduceEqDiff, ↓reduceIte, List.drop, List.take, List.length, Nat.reduceAdd, Nat.reduceLeDiff, Nat.reduceMul, E.done, rvsK, rvK, resAV, Int.reduceToNat, Int.reduceLE, Int.reduceLT, Int.reduceNeg, Int.reduceAdd, Int.reduceSub, Int.reduceMul, Nat.reduceLT, AV.isElem, AV.one, ↓buildCells.eq_1, ↓buildCells.eq_2, Nat.reduceBEq, eqCells]
  refine CL_pure (s108 m b) rfl ?_
  simp -implicitDefEqProofs (disch := omega) only [KF, KV0, KV1, KV2, KW, ↓bstep, ↓astep, ↓O1.eq_def, ↓onBool.eq_def, ↓onInt.eq_def, ↓onStr.eq_def, ↓onLo.eq_def, ↓binK.eq_def, ↓arith.eq_def, ↓strOp.eq_def, ↓srcElems.eq_def, ↓dst1.eq_def, args0, List.zipIdx, List.map, lookup, St.ev, St.set, St.setO, reduceCtorEq, AV.plain, AV.plainL, AV.flat, AV.flatL, AV.cells, Nat.reduceEqDiff, ↓reduceIte, List.drop, List.take, List.length, Nat.reduceAdd, Nat.reduceLeDiff, Nat.reduceMul, E.done, rvsK, rvK, resAV, Int.reduceToNat, Int.reduceLE, Int.reduceLT, Int.reduceNeg, Int.reduceAdd, Int.reduceSub, Int.reduceMul, Nat.reduceLT, AV.isElem, AV.one, ↓buildCells.eq_1, ↓buildCells.eq_2, Nat.reduceBEq, eqCells]
  refine iteI (fun h => iteI (fun h' => shi ?_) (fun h' => shi ?_)) (fun h => ?_)
  · rw [sd]; split <;> (try split) <;> omega
  · rw [sd]; split <;> (try split) <;> omega
  have h := Classical.not_not.1 h
  refine CL_pure ta rfl ?_
  simp -implicitDefEqProofs (disch := omega) only [KF, KV0, KV1, KV2, KW, ↓bstep, ↓astep, ↓O1.eq_def, ↓onBool.eq_def, ↓onInt.eq_def, ↓onStr.eq_def, ↓onLo.eq_def, ↓binK.eq_def, ↓arith.eq_def, ↓strOp.eq_def, ↓srcElems.eq_def, ↓dst1.eq_def, args0, List.zipIdx, List.map, lookup, St.ev, St.set, St.setO, reduceCtorEq, AV.plain, AV.plainL, AV.flat, AV.flatL, AV.cells, Nat.reduceEqDiff, ↓reduceIte, List.drop, List.take, List.length, Nat.reduceAdd, Nat.reduceLeDiff, Nat.reduceMul, E.done, rvsK, rvK, resAV, Int.reduceToNat, Int.reduceLE, Int.reduceLT, Int.reduceNeg, Int.reduceAdd, Int.reduceSub, Int.reduceMul, Nat.reduceLT, AV.isElem, AV.one, ↓buildCells.eq_1, ↓buildCells.eq_2, Nat.reduceBEq, eqCells]
  refine CL_pure tb rfl ?_
  simp -implicitDefEqProofs (disch := omega) only [KF, KV0, KV1, KV2, KW, ↓bstep, ↓astep, ↓O1.eq_def, ↓onBool.eq_def, ↓onInt.eq_def, ↓onStr.eq_def, ↓onLo.eq_def, ↓binK.eq_def, ↓arith.eq_def, ↓strOp.eq_def, ↓srcElems.eq_def, ↓dst1.eq_def, args0, List.zipIdx, List.map, lookup, St.ev, St.set, St.setO, reduceCtorEq, AV.plain, AV.plainL, AV.flat, AV.flatL, AV.cells, Nat.reduceEqDiff, ↓reduceIte, List.drop, List.take, List.length, Nat.reduceAdd, Nat.reduceLeDiff, Nat.reduceMul, E.done, rvsK, rvK, resAV, Int.reduceToNat, Int.reduceLE, Int.reduceLT, Int.reduceNeg, Int.reduceAdd, Int.reduceSub, Int.reduceMul, Nat.reduceLT, AV.isElem, AV.one, ↓buildCells.eq_1, ↓buildCells.eq_2, Nat.reduceBEq, eqCells]
  refine iteI (fun h1 => iteI (fun h2 => shi ?_) (fun h2 => shi ?_)) (fun h1 => ?_)
  · rw [sd]; split <;> (try split) <;> omega
  · rw [sd]; split <;> (try split) <;> omega
  refine CL_pure (s110 m _ _) rfl ?_
  have h1 : Lib.nDigits a.natAbs = Lib.nDigits b.natAbs := by omega
  rw [cd h1]
  have e : sgi a * (if a.natAbs < b.natAbs then -1 else if b.natAbs < a.natAbs then 1 else 0) = sgi (a - b) := by
    rw [sd]
    rcases sa with ⟨s, h3⟩ | ⟨s, h3⟩ | ⟨s, h3⟩ <;> rw [s] <;> (repeat' split) <;> omega
  have hr : -1 ≤ sgi (a - b) ∧ sgi (a - b) ≤ 1 := by unfold sgi; split <;> (try split) <;> omega
  simp -implicitDefEqProofs (disch := omega) only [KF, KV0, KV1, KV2, KW, ↓bstep, ↓astep, ↓O1.eq_def, ↓onBool.eq_def, ↓onInt.eq_def, ↓onStr.eq_def, ↓onLo.eq_def, ↓binK.eq_def, ↓arith.eq_def, ↓strOp.eq_def, ↓srcElems.eq_def, ↓dst1.eq_def, args0, List.zipIdx, List.map, lookup, St.ev, St.set, St.setO, reduceCtorEq, AV.plain, AV.plainL, AV.flat, AV.flatL, AV.cells, Nat.reduceEqDiff, ↓reduceIte, List.drop, List.take, List.length, Nat.reduceAdd, Nat.reduceLeDiff, Nat.reduceMul, E.done, rvsK, rvK, resAV, Int.reduceToNat, Int.reduceLE, Int.reduceLT, Int.reduceNeg, Int.reduceAdd, Int.reduceSub, Int.reduceMul, Nat.reduceLT, AV.isElem, AV.one, ↓buildCells.eq_1, ↓buildCells.eq_2, Nat.reduceBEq, eqCells, e]
  exact shi rfl
/-- Short numbers: what the checks want. -/
def sm (q : Rat) : Prop := q.num.natAbs < 10 ^ 9 ∧ q.den < 10 ^ 9
theorem sm_qk {q : Rat} (h : sm q) : qk q := qk_of h.1 h.2

/-- rational.Check -/
theorem s50 (m : Int) (q : Rat) (hq : qk q) : SpecP (cx m) 50 [.str (tq q)] (.int .i64 0) := by
  refine specP_of (mixed m) (k50 m) (Nat.le_of_ble_eq_true rfl) (X_start ?_)
  unfold c50
  obtain ⟨q1, q2⟩ := qk_lt hq
  have len := qk_len hq
  have hc := s99 m (tq q) [47] (by omega)
  have dn : (Lib.decDigits q.num.natAbs).length ≤ 9 := by rw [dec_length]; exact nDigits_le (by omega) q1
  have dd : (Lib.decDigits q.den).length ≤ 9 := by rw [dec_length]; exact nDigits_le (by omega) q2
  have n1 := s100 m q.num (by omega)
  by_cases h : q.den = 1
  · have e : Lib.cut (tq q) [47] = (Lib.itoa q.num, [], false) := by rw [tq_whole h, cut_none (itoa_no47 _)]
    rw [e] at hc
    simp -implicitDefEqProofs (disch := omega) only [KF, KV0, KV1, KV2, KW, ↓bstep, ↓astep, ↓O1.eq_def, ↓onBool.eq_def, ↓onInt.eq_def, ↓onStr.eq_def, ↓onLo.eq_def, ↓binK.eq_def, ↓arith.eq_def, ↓strOp.eq_def, ↓srcElems.eq_def, ↓dst1.eq_def, args0, List.zipIdx, List.map, lookup, St.ev, St.set, St.setO, reduceCtorEq, AV.plain, AV.plainL, AV.flat, AV.flatL, AV.cells, Nat.reduceEqDiff, ↓reduceIte, List.drop, List.take, List.length, Nat.reduceAdd, Nat.reduceLeDiff, Nat.reduceMul, E.done, rvsK, rvK, resAV, Int.reduceToNat, Int.reduceLE, Int.reduceLT, Int.reduceNeg, Int.reduceAdd, Int.reduceSub, Int.reduceMul, Nat.reduceLT, AV.isElem, AV.one, ↓buildCells.eq_1, ↓buildCells.eq_2, Nat.reduceBEq, eqCells]
    refine CL_pure hc rfl ?_
    simp -implicitDefEqProofs (disch := omega) only [KF, KV0, KV1, KV2, KW, ↓bstep, ↓astep, ↓O1.eq_def, ↓onBool.eq_def, ↓onInt.eq_def, ↓onStr.eq_def, ↓onLo.eq_def, ↓binK.eq_def, ↓arith.eq_def, ↓strOp.eq_def, ↓srcElems.eq_def, ↓dst1.eq_def, args0, List.zipIdx, List.map, lookup, St.ev, St.set, St.setO, reduceCtorEq, AV.plain, AV.plainL, AV.flat, AV.flatL, AV.cells, Nat.reduceEqDiff, ↓reduceIte, List.drop, List.take, List.length, Nat.reduceAdd, Nat.reduceLeDiff, Nat.reduceMul, E.done, rvsK, rvK, resAV, Int.reduceToNat, Int.reduceLE, Int.reduceLT, Int.reduceNeg, Int.reduceAdd, Int.reduceSub, Int.reduceMul, Nat.reduceLT, AV.isElem, AV.one, ↓buildCells.eq_1, ↓buildCells.eq_2, Nat.reduceBEq, eqCells]
    refine CL_pure n1 rfl ?_
    simp -implicitDefEqProofs (disch := omega) only [KF, KV0, KV1, KV2, KW, ↓bstep, ↓astep, ↓O1.eq_def, ↓onBool.eq_def, ↓onInt.eq_def, ↓onStr.eq_def, ↓onLo.eq_def, ↓binK.eq_def, ↓arith.eq_def, ↓strOp.eq_def, ↓srcElems.eq_def, ↓dst1.eq_def, args0, List.zipIdx, List.map, lookup, St.ev, St.set, St.setO, reduceCtorEq, AV.plain, AV.plainL, AV.flat, AV.flatL, AV.cells, Nat.reduceEqDiff, ↓reduceIte, List.drop, List.take, List.length, Nat.reduceAdd, Nat.reduceLeDiff, Nat.reduceMul, E.done, rvsK, rvK, resAV, Int.reduceToNat, Int.reduceLE, Int.reduceLT, Int.reduceNeg, Int.reduceAdd, Int.reduceSub, Int.reduceMul, Nat.reduceLT, AV.isElem, AV.one, ↓buildCells.eq_1, ↓buildCells.eq_2, Nat.reduceBEq, eqCells]
    exact shi rfl
  · have e : Lib.cut (tq q) [47] = (Lib.itoa q.num, Lib.decDigits q.den, true) := by rw [tq_part h, cut_some (itoa_no47 _)]
    rw [e] at hc
    have hden := den_pos q
    have ei : Lib.decDigits q.den = Lib.itoa (q.den : Int) := by rw [itoa_nonneg (n := (q.den : Int)) (by omega)]; simp
    have n2 := s100 m (q.den : Int) (by simpa using (show (Lib.decDigits q.den).length ≤ 200 by omega))
    have n3 := s59 m (q.den : Int) 1
    rw [itoa_one, show sgi ((q.den : Int) - 1) = 1 by unfold sgi; split <;> (try split) <;> omega] at n3
    have n4 := s101 m q.num (q.den : Int) (by have := len_itoa (n := q.num) (k := 9) (by omega) q1; omega) (by have := len_itoa (n := (q.den : Int)) (k := 9) (by omega) (by simpa using q2); omega)
    rw [show Int.gcd q.num (q.den : Int) = 1 by have := q.reduced; unfold Nat.Coprime at this; unfold Int.gcd; simpa using this, show (((1 : Nat) : Int)) = 1 from rfl, itoa_one] at n4
    rw [← ei] at n2 n3 n4
    have hz : ¬ q.num = 0 := by
      intro hz
      have := q.reduced
      rw [hz] at this
      unfold Nat.Coprime at this
      simp at this; exact h this
    simp -implicitDefEqProofs (disch := omega) only [KF, KV0, KV1, KV2, KW, ↓bstep, ↓astep, ↓O1.eq_def, ↓onBool.eq_def, ↓onInt.eq_def, ↓onStr.eq_def, ↓onLo.eq_def, ↓binK.eq_def, ↓arith.eq_def, ↓strOp.eq_def, ↓srcElems.eq_def, ↓dst1.eq_def, args0, List.zipIdx, List.map, lookup, St.ev, St.set, St.setO, reduceCtorEq, AV.plain, AV.plainL, AV.flat, AV.flatL, AV.cells, Nat.reduceEqDiff, ↓reduceIte, List.drop, List.take, List.length, Nat.reduceAdd, Nat.reduceLeDiff, Nat.reduceMul, E.done, rvsK, rvK, resAV, Int.reduceToNat, Int.reduceLE, Int.reduceLT, Int.reduceNeg, Int.reduceAdd, Int.reduceSub, Int.reduceMul, Nat.reduceLT, AV.isElem, AV.one, ↓buildCells.eq_1, ↓buildCells.eq_2, Nat.reduceBEq, eqCells]
    refine CL_pure hc rfl ?_
    simp -implicitDefEqProofs (disch := omega) only [KF, KV0, KV1, KV2, KW, ↓bstep, ↓astep, ↓O1.eq_def, ↓onBool.eq_def, ↓onInt.eq_def, ↓onStr.eq_def, ↓onLo.eq_def, ↓binK.eq_def, ↓arith.eq_def, ↓strOp.eq_def, ↓srcElems.eq_def, ↓dst1.eq_def, args0, List.zipIdx, List.map, lookup, St.ev, St.set, St.setO, reduceCtorEq, AV.plain, AV.plainL, AV.flat, AV.flatL, AV.cells, Nat.reduceEqDiff, ↓reduceIte, List.drop, List.take, List.length, Nat.reduceAdd, Nat.reduceLeDiff, Nat.reduceMul, E.done, rvsK, rvK, resAV, Int.reduceToNat, Int.reduceLE, Int.reduceLT, Int.reduceNeg, Int.reduceAdd, Int.reduceSub, Int.reduceMul, Nat.reduceLT, AV.isElem, AV.one, ↓buildCells.eq_1, ↓buildCells.eq_2, Nat.reduceBEq, eqCells]
    refine CL_pure n1 rfl ?_
    simp -implicitDefEqProofs (disch := omega) only [KF, KV0, KV1, KV2, KW, ↓bstep, ↓astep, ↓O1.eq_def, ↓onBool.eq_def, ↓onInt.eq_def, ↓onStr.eq_def, ↓onLo.eq_def, ↓binK.eq_def, ↓arith.eq_def, ↓strOp.eq_def, ↓srcElems.eq_def, ↓dst1.eq_def, args0, List.zipIdx, List.map, lookup, St.ev, St.set, St.setO, reduceCtorEq, AV.plain, AV.plainL, AV.flat, AV.flatL, AV.cells, Nat.reduceEqDiff, ↓reduceIte, List.drop, List.take, List.length, Nat.reduceAdd, Nat.reduceLeDiff, Nat.reduceMul, E.done, rvsK, rvK, resAV, Int.reduceToNat, Int.reduceLE, Int.reduceLT, Int.reduceNeg, Int.reduceAdd, Int.reduceSub, Int.reduceMul, Nat.reduceLT, AV.isElem, AV.one, ↓buildCells.eq_1, ↓buildCells.eq_2, Nat.reduceBEq, eqCells]
    refine CL_pure n2 rfl ?_
    simp -implicitDefEqProofs (disch := omega) only [KF, KV0, KV1, KV2, KW, ↓bstep, ↓astep, ↓O1.eq_def, ↓onBool.eq_def, ↓onInt.eq_def, ↓onStr.eq_def, ↓onLo.eq_def, ↓binK.eq_def, ↓arith.eq_def, ↓strOp.eq_def, ↓srcElems.eq_def, ↓dst1.eq_def, args0, List.zipIdx, List.map, lookup, St.ev, St.set, St.setO, reduceCtorEq, AV.plain, AV.plainL, AV.flat, AV.flatL, AV.cells, Nat.reduceEqDiff, ↓reduceIte, List.drop, List.take, List.length, Nat.reduceAdd, Nat.reduceLeDiff, Nat.reduceMul, E.done, rvsK, rvK, resAV, Int.reduceToNat, Int.reduceLE, Int.reduceLT, Int.reduceNeg, Int.reduceAdd, Int.reduceSub, Int.reduceMul, Nat.reduceLT, AV.isElem, AV.one, ↓buildCells.eq_1, ↓buildCells.eq_2, Nat.reduceBEq, eqCells]
    refine CL_pure n3 rfl ?_
    simp -implicitDefEqProofs (disch := omega) only [KF, KV0, KV1, KV2, KW, ↓bstep, ↓astep, ↓O1.eq_def, ↓onBool.eq_def, ↓onInt.eq_def, ↓onStr.eq_def, ↓onLo.eq_def, ↓binK.eq_def, ↓arith.eq_def, ↓strOp.eq_def, ↓srcElems.eq_def, ↓dst1.eq_def, args0, List.zipIdx, List.map, lookup, St.ev, St.set, St.setO, reduceCtorEq, AV.plain, AV.plainL, AV.flat, AV.flatL, AV.cells, Nat.reduceEqDiff, ↓reduceIte, List.drop, List.take, List.length, Nat.reduceAdd, Nat.reduceLeDiff, Nat.reduceMul, E.done, rvsK, rvK, resAV, Int.reduceToNat, Int.reduceLE, Int.reduceLT, Int.reduceNeg, Int.reduceAdd, Int.reduceSub, Int.reduceMul, Nat.reduceLT, AV.isElem, AV.one, ↓buildCells.eq_1, ↓buildCells.eq_2, Nat.reduceBEq, eqCells, itoa_is0, hz]
    refine CL_pure n4 rfl ?_
    simp -implicitDefEqProofs (disch := omega) only [KF, KV0, KV1, KV2, KW, ↓bstep, ↓astep, ↓O1.eq_def, ↓onBool.eq_def, ↓onInt.eq_def, ↓onStr.eq_def, ↓onLo.eq_def, ↓binK.eq_def, ↓arith.eq_def, ↓strOp.eq_def, ↓srcElems.eq_def, ↓dst1.eq_def, args0, List.zipIdx, List.map, lookup, St.ev, St.set, St.setO, reduceCtorEq, AV.plain, AV.plainL, AV.flat, AV.flatL, AV.cells, Nat.reduceEqDiff, ↓reduceIte, List.drop, List.take, List.length, Nat.reduceAdd, Nat.reduceLeDiff, Nat.reduceMul, E.done, rvsK, rvK, resAV, Int.reduceToNat, Int.reduceLE, Int.reduceLT, Int.reduceNeg, Int.reduceAdd, Int.reduceSub, Int.reduceMul, Nat.reduceLT, AV.isElem, AV.one, ↓buildCells.eq_1, ↓buildCells.eq_2, Nat.reduceBEq, eqCells]
    exact shi rfl

/-- rational.Of, of a fraction in lowest terms -/
theorem s64 (m : Int) (n : Int) (d : Nat) (hd : 0 < d) (hg : Int.gcd n d = 1) (h1 : n.natAbs < 10 ^ 17) (h2 : d < 10 ^ 17) :
    SpecP (cx m) 64 [.str (Lib.itoa n), .str (Lib.itoa d)] (.str (if d = 1 then Lib.itoa n else Lib.itoa n ++ 47 :: Lib.decDigits d)) := by
  refine specP_of (mixed m) (k64 m) (Nat.le_of_ble_eq_true rfl) (X_start ?_)
  unfold c64
  have l1 := len_itoa (n := n) (k := 17) (by omega) h1
  have l2 := len_itoa (n := (d : Int)) (k := 17) (by omega) (by simpa using h2)
  have g := s101 m n (d : Int) (by omega) (by omega)
  rw [hg, show (((1 : Nat) : Int)) = 1 from rfl, itoa_one] at g
  have s := s108 m (d : Int)
  rw [show sgi (d : Int) = 1 by unfold sgi; split <;> (try split) <;> omega] at s
  have ei : Lib.itoa (d : Int) = Lib.decDigits d := by rw [itoa_nonneg (n := (d : Int)) (by omega)]; simp
  simp -implicitDefEqProofs (disch := omega) only [KF, KV0, KV1, KV2, KW, ↓bstep, ↓astep, ↓O1.eq_def, ↓onBool.eq_def, ↓onInt.eq_def, ↓onStr.eq_def, ↓onLo.eq_def, ↓binK.eq_def, ↓arith.eq_def, ↓strOp.eq_def, ↓srcElems.eq_def, ↓dst1.eq_def, args0, List.zipIdx, List.map, lookup, St.ev, St.set, St.setO, reduceCtorEq, AV.plain, AV.plainL, AV.flat, AV.flatL, AV.cells, Nat.reduceEqDiff, ↓reduceIte, List.drop, List.take, List.length, Nat.reduceAdd, Nat.reduceLeDiff, Nat.reduceMul, E.done, rvsK, rvK, resAV, Int.reduceToNat, Int.reduceLE, Int.reduceLT, Int.reduceNeg, Int.reduceAdd, Int.reduceSub, Int.reduceMul, Nat.reduceLT, AV.isElem, AV.one, ↓buildCells.eq_1, ↓buildCells.eq_2, Nat.reduceBEq, eqCells]
  refine CL_pure s rfl ?_
  simp -implicitDefEqProofs (disch := omega) only [KF, KV0, KV1, KV2, KW, ↓bstep, ↓astep, ↓O1.eq_def, ↓onBool.eq_def, ↓onInt.eq_def, ↓onStr.eq_def, ↓onLo.eq_def, ↓binK.eq_def, ↓arith.eq_def, ↓strOp.eq_def, ↓srcElems.eq_def, ↓dst1.eq_def, args0, List.zipIdx, List.map, lookup, St.ev, St.set, St.setO, reduceCtorEq, AV.plain, AV.plainL, AV.flat, AV.flatL, AV.cells, Nat.reduceEqDiff, ↓reduceIte, List.drop, List.take, List.length, Nat.reduceAdd, Nat.reduceLeDiff, Nat.reduceMul, E.done, rvsK, rvK, resAV, Int.reduceToNat, Int.reduceLE, Int.reduceLT, Int.reduceNeg, Int.reduceAdd, Int.reduceSub, Int.reduceMul, Nat.reduceLT, AV.isElem, AV.one, ↓buildCells.eq_1, ↓buildCells.eq_2, Nat.reduceBEq, eqCells]
  refine CL_pure g rfl ?_
  simp -implicitDefEqProofs (disch := omega) only [KF, KV0, KV1, KV2, KW, ↓bstep, ↓astep, ↓O1.eq_def, ↓onBool.eq_def, ↓onInt.eq_def, ↓onStr.eq_def, ↓onLo.eq_def, ↓binK.eq_def, ↓arith.eq_def, ↓strOp.eq_def, ↓srcElems.eq_def, ↓dst1.eq_def, args0, List.zipIdx, List.map, lookup, St.ev, St.set, St.setO, reduceCtorEq, AV.plain, AV.plainL, AV.flat, AV.flatL, AV.cells, Nat.reduceEqDiff, ↓reduceIte, List.drop, List.take, List.length, Nat.reduceAdd, Nat.reduceLeDiff, Nat.reduceMul, E.done, rvsK, rvK, resAV, Int.reduceToNat, Int.reduceLE, Int.reduceLT, Int.reduceNeg, Int.reduceAdd, Int.reduceSub, Int.reduceMul, Nat.reduceLT, AV.isElem, AV.one, ↓buildCells.eq_1, ↓buildCells.eq_2, Nat.reduceBEq, eqCells]
  rw [ei] at l2 ⊢
  refine CL_pure (s119 m n d (by omega) (by omega)) rfl ?_
  simp -implicitDefEqProofs (disch := omega) only [KF, KV0, KV1, KV2, KW, ↓bstep, ↓astep, ↓O1.eq_def, ↓onBool.eq_def, ↓onInt.eq_def, ↓onStr.eq_def, ↓onLo.eq_def, ↓binK.eq_def, ↓arith.eq_def, ↓strOp.eq_def, ↓srcElems.eq_def, ↓dst1.eq_def, args0, List.zipIdx, List.map, lookup, St.ev, St.set, St.setO, reduceCtorEq, AV.plain, AV.plainL, AV.flat, AV.flatL, AV.cells, Nat.reduceEqDiff, ↓reduceIte, List.drop, List.take, List.length, Nat.reduceAdd, Nat.reduceLeDiff, Nat.reduceMul, E.done, rvsK, rvK, resAV, Int.reduceToNat, Int.reduceLE, Int.reduceLT, Int.reduceNeg, Int.reduceAdd, Int.reduceSub, Int.reduceMul, Nat.reduceLT, AV.isElem, AV.one, ↓buildCells.eq_1, ↓buildCells.eq_2, Nat.reduceBEq, eqCells]
  exact shs rfl
theorem s93 (m : Int) (n : Int) (d : Nat) (hd : 0 < d) (hg : Int.gcd n d = 1) (h1 : n.natAbs < 10 ^ 17) (h2 : d < 10 ^ 17) :
    SpecP (cx m) 93 [.str (Lib.itoa n), .str (Lib.itoa d)] (.tuple [.str (if d = 1 then Lib.itoa n else Lib.itoa n ++ 47 :: Lib.decDigits d), .int .i64 0]) := by
  refine specP_of (mixed m) (k93 m) (Nat.le_of_ble_eq_true rfl) (X_start ?_)
  unfold c93
  have s := s108 m (d : Int)
  rw [show sgi (d : Int) = 1 by unfold sgi; split <;> (try split) <;> omega] at s
  simp -implicitDefEqProofs (disch := omega) only [KF, KV0, KV1, KV2, KW, ↓bstep, ↓astep, ↓O1.eq_def, ↓onBool.eq_def, ↓onInt.eq_def, ↓onStr.eq_def, ↓onLo.eq_def, ↓binK.eq_def, ↓arith.eq_def, ↓strOp.eq_def, ↓srcElems.eq_def, ↓dst1.eq_def, args0, List.zipIdx, List.map, lookup, St.ev, St.set, St.setO, reduceCtorEq, AV.plain, AV.plainL, AV.flat, AV.flatL, AV.cells, Nat.reduceEqDiff, ↓reduceIte, List.drop, List.take, List.length, Nat.reduceAdd, Nat.reduceLeDiff, Nat.reduceMul, E.done, rvsK, rvK, resAV, Int.reduceToNat, Int.reduceLE, Int.reduceLT, Int.reduceNeg, Int.reduceAdd, Int.reduceSub, Int.reduceMul, Nat.reduceLT, AV.isElem, AV.one, ↓buildCells.eq_1, ↓buildCells.eq_2, Nat.reduceBEq, eqCells]
  refine CL_pure s rfl ?_
  simp -implicitDefEqProofs (disch := omega) only [KF, KV0, KV1, KV2, KW, ↓bstep, ↓astep, ↓O1.eq_def, ↓onBool.eq_def, ↓onInt.eq_def, ↓onStr.eq_def, ↓onLo.eq_def, ↓binK.eq_def, ↓arith.eq_def, ↓strOp.eq_def, ↓srcElems.eq_def, ↓dst1.eq_def, args0, List.zipIdx, List.map, lookup, St.ev, St.set, St.setO, reduceCtorEq, AV.plain, AV.plainL, AV.flat, AV.flatL, AV.cells, Nat.reduceEqDiff, ↓reduceIte, List.drop, List.take, List.length, Nat.reduceAdd, Nat.reduceLeDiff, Nat.reduceMul, E.done, rvsK, rvK, resAV, Int.reduceToNat, Int.reduceLE, Int.reduceLT, Int.reduceNeg, Int.reduceAdd, Int.reduceSub, Int.reduceMul, Nat.reduceLT, AV.isElem, AV.one, ↓buildCells.eq_1, ↓buildCells.eq_2, Nat.reduceBEq, eqCells]
  refine CL_pure (s64 m n d hd hg h1 h2) rfl ?_
  simp -implicitDefEqProofs (disch := omega) only [KF, KV0, KV1, KV2, KW, ↓bstep, ↓astep, ↓O1.eq_def, ↓onBool.eq_def, ↓onInt.eq_def, ↓onStr.eq_def, ↓onLo.eq_def, ↓binK.eq_def, ↓arith.eq_def, ↓strOp.eq_def, ↓srcElems.eq_def, ↓dst1.eq_def, args0, List.zipIdx, List.map, lookup, St.ev, St.set, St.setO, reduceCtorEq, AV.plain, AV.plainL, AV.flat, AV.flatL, AV.cells, Nat.reduceEqDiff, ↓reduceIte, List.drop, List.take, List.length, Nat.reduceAdd, Nat.reduceLeDiff, Nat.reduceMul, E.done, rvsK, rvK, resAV, Int.reduceToNat, Int.reduceLE, Int.reduceLT, Int.reduceNeg, Int.reduceAdd, Int.reduceSub, Int.reduceMul, Nat.reduceLT, AV.isElem, AV.one, ↓buildCells.eq_1, ↓buildCells.eq_2, Nat.reduceBEq, eqCells]
  exact shv rfl rfl
/-- rational.Of, of an integer -/
theorem s44 (m : Int) (n : Int) (h1 : n.natAbs < 10 ^ 17) : SpecP (cx m) 44 [.int .i64 n, .int .i64 1] (.tuple [.str (tq n), .int .i64 0]) := by
  refine specP_of (mixed m) (k44 m) (Nat.le_of_ble_eq_true rfl) (X_start ?_)
  unfold c44
  have s := s93 m n 1 (by omega) (by simp) h1 (by decide)
  rw [if_pos rfl] at s
  simp -implicitDefEqProofs (disch := omega) only [KF, KV0, KV1, KV2, KW, ↓bstep, ↓astep, ↓O1.eq_def, ↓onBool.eq_def, ↓onInt.eq_def, ↓onStr.eq_def, ↓onLo.eq_def, ↓binK.eq_def, ↓arith.eq_def, ↓strOp.eq_def, ↓srcElems.eq_def, ↓dst1.eq_def, args0, List.zipIdx, List.map, lookup, St.ev, St.set, St.setO, reduceCtorEq, AV.plain, AV.plainL, AV.flat, AV.flatL, AV.cells, Nat.reduceEqDiff, ↓reduceIte, List.drop, List.take, List.length, Nat.reduceAdd, Nat.reduceLeDiff, Nat.reduceMul, E.done, rvsK, rvK, resAV, Int.reduceToNat, Int.reduceLE, Int.reduceLT, Int.reduceNeg, Int.reduceAdd, Int.reduceSub, Int.reduceMul, Nat.reduceLT, AV.isElem, AV.one, ↓buildCells.eq_1, ↓buildCells.eq_2, Nat.reduceBEq, eqCells]
  refine CL_pure (s94 m n (by omega) (by omega)) rfl ?_
  simp -implicitDefEqProofs (disch := omega) only [KF, KV0, KV1, KV2, KW, ↓bstep, ↓astep, ↓O1.eq_def, ↓onBool.eq_def, ↓onInt.eq_def, ↓onStr.eq_def, ↓onLo.eq_def, ↓binK.eq_def, ↓arith.eq_def, ↓strOp.eq_def, ↓srcElems.eq_def, ↓dst1.eq_def, args0, List.zipIdx, List.map, lookup, St.ev, St.set, St.setO, reduceCtorEq, AV.plain, AV.plainL, AV.flat, AV.flatL, AV.cells, Nat.reduceEqDiff, ↓reduceIte, List.drop, List.take, List.length, Nat.reduceAdd, Nat.reduceLeDiff, Nat.reduceMul, E.done, rvsK, rvK, resAV, Int.reduceToNat, Int.reduceLE, Int.reduceLT, Int.reduceNeg, Int.reduceAdd, Int.reduceSub, Int.reduceMul, Nat.reduceLT, AV.isElem, AV.one, ↓buildCells.eq_1, ↓buildCells.eq_2, Nat.reduceBEq, eqCells]
  refine CL_pure (s94 m 1 (by omega) (by omega)) rfl ?_
  simp -implicitDefEqProofs (disch := omega) only [KF, KV0, KV1, KV2, KW, ↓bstep, ↓astep, ↓O1.eq_def, ↓onBool.eq_def, ↓onInt.eq_def, ↓onStr.eq_def, ↓onLo.eq_def, ↓binK.eq_def, ↓arith.eq_def, ↓strOp.eq_def, ↓srcElems.eq_def, ↓dst1.eq_def, args0, List.zipIdx, List.map, lookup, St.ev, St.set, St.setO, reduceCtorEq, AV.plain, AV.plainL, AV.flat, AV.flatL, AV.cells, Nat.reduceEqDiff, ↓reduceIte, List.drop, List.take, List.length, Nat.reduceAdd, Nat.reduceLeDiff, Nat.reduceMul, E.done, rvsK, rvK, resAV, Int.reduceToNat, Int.reduceLE, Int.reduceLT, Int.reduceNeg, Int.reduceAdd, Int.reduceSub, Int.reduceMul, Nat.reduceLT, AV.isElem, AV.one, ↓buildCells.eq_1, ↓buildCells.eq_2, Nat.reduceBEq, eqCells]
  refine CL_pure s rfl ?_
  simp -implicitDefEqProofs (disch := omega) only [KF, KV0, KV1, KV2, KW, ↓bstep, ↓astep, ↓O1.eq_def, ↓onBool.eq_def, ↓onInt.eq_def, ↓onStr.eq_def, ↓onLo.eq_def, ↓binK.eq_def, ↓arith.eq_def, ↓strOp.eq_def, ↓srcElems.eq_def, ↓dst1.eq_def, args0, List.zipIdx, List.map, lookup, St.ev, St.set, St.setO, reduceCtorEq, AV.plain, AV.plainL, AV.flat, AV.flatL, AV.cells, Nat.reduceEqDiff, ↓reduceIte, List.drop, List.take, List.length, Nat.reduceAdd, Nat.reduceLeDiff, Nat.reduceMul, E.done, rvsK, rvK, resAV, Int.reduceToNat, Int.reduceLE, Int.reduceLT, Int.reduceNeg, Int.reduceAdd, Int.reduceSub, Int.reduceMul, Nat.reduceLT, AV.isElem, AV.one, ↓buildCells.eq_1, ↓buildCells.eq_2, Nat.reduceBEq, eqCells]
  exact shv (by rw [tq_int]) rfl

/-- A point. -/
def eP (p : Pt) : AV := .agg [.str (tq p.1), .str (tq p.2)]
theorem eP_plain (p : Pt) : (eP p).plain = true := rfl
theorem eP_cells (p : Pt) : (eP p).cells = [.str (tq p.1), .str (tq p.2)] := rfl

/-- vector.CheckPoint -/
theorem s84 (m : Int) (l : List Rat) (h : ∀ q ∈ l, qk q) (hl : l.length < 1000000) : SpecP (cx m) 84 [.sl 1 (l.map fun q => .str (tq q))] (.int .i64 0) := by
  refine specP_of (mixed m) (k84 m) (Nat.le_of_ble_eq_true rfl) (X_start ?_)
  unfold c84
  simp -implicitDefEqProofs (disch := omega) only [KF, KV0, KV1, KV2, KW, ↓bstep, ↓astep, ↓O1.eq_def, ↓onBool.eq_def, ↓onInt.eq_def, ↓onStr.eq_def, ↓onLo.eq_def, ↓binK.eq_def, ↓arith.eq_def, ↓strOp.eq_def, ↓srcElems.eq_def, ↓dst1.eq_def, args0, List.zipIdx, List.map, lookup, St.ev, St.set, St.setO, reduceCtorEq, AV.plain, AV.plainL, AV.flat, AV.flatL, AV.cells, Nat.reduceEqDiff, ↓reduceIte, List.drop, List.take, List.length, Nat.reduceAdd, Nat.reduceLeDiff, Nat.reduceMul, E.done, rvsK, rvK, resAV, Int.reduceToNat, Int.reduceLE, Int.reduceLT, Int.reduceNeg, Int.reduceAdd, Int.reduceSub, Int.reduceMul, Nat.reduceLT, AV.isElem, AV.one, ↓buildCells.eq_1, ↓buildCells.eq_2, Nat.reduceBEq, eqCells]
  refine X_for (fun j : Nat => ⟨[(6, .sl 1 (l.map fun q => .str (tq q))), (7, .int .i64 l.length), (8, .int .i64 j)], []⟩) (fun j => j ≤ l.length) (fun j => l.length - j) 0 (Nat.zero_le _) ?_ ?_
  · exact weak_keep (by simp [lookup])
  intro j R j1 hR
  try dsimp only at hR ⊢
  rcases Nat.lt_or_ge j l.length with hj | hj
  · have hx : (l.map fun q => AV.str (tq q))[j]? = some (.str (tq l[j])) := by simp [hj]
    simp -implicitDefEqProofs (disch := omega) only [KF, KV0, KV1, KV2, KW, ↓bstep, ↓astep, ↓O1.eq_def, ↓onBool.eq_def, ↓onInt.eq_def, ↓onStr.eq_def, ↓onLo.eq_def, ↓binK.eq_def, ↓arith.eq_def, ↓strOp.eq_def, ↓srcElems.eq_def, ↓dst1.eq_def, args0, List.zipIdx, List.map, lookup, St.ev, St.set, St.setO, reduceCtorEq, AV.plain, AV.plainL, AV.flat, AV.flatL, AV.cells, Nat.reduceEqDiff, ↓reduceIte, List.drop, List.take, List.length, Nat.reduceAdd, Nat.reduceLeDiff, Nat.reduceMul, E.done, rvsK, rvK, resAV, Int.reduceToNat, Int.reduceLE, Int.reduceLT, Int.reduceNeg, Int.reduceAdd, Int.reduceSub, Int.reduceMul, Nat.reduceLT, AV.isElem, AV.one, ↓buildCells.eq_1, ↓buildCells.eq_2, Nat.reduceBEq, eqCells, hj, hx]
    refine CL_pure (s50 m _ (h _ (List.getElem_mem hj))) rfl ?_
    simp -implicitDefEqProofs (disch := omega) only [KF, KV0, KV1, KV2, KW, ↓bstep, ↓astep, ↓O1.eq_def, ↓onBool.eq_def, ↓onInt.eq_def, ↓onStr.eq_def, ↓onLo.eq_def, ↓binK.eq_def, ↓arith.eq_def, ↓strOp.eq_def, ↓srcElems.eq_def, ↓dst1.eq_def, args0, List.zipIdx, List.map, lookup, St.ev, St.set, St.setO, reduceCtorEq, AV.plain, AV.plainL, AV.flat, AV.flatL, AV.cells, Nat.reduceEqDiff, ↓reduceIte, List.drop, List.take, List.length, Nat.reduceAdd, Nat.reduceLeDiff, Nat.reduceMul, E.done, rvsK, rvK, resAV, Int.reduceToNat, Int.reduceLE, Int.reduceLT, Int.reduceNeg, Int.reduceAdd, Int.reduceSub, Int.reduceMul, Nat.reduceLT, AV.isElem, AV.one, ↓buildCells.eq_1, ↓buildCells.eq_2, Nat.reduceBEq, eqCells]
    exact hR (j + 1) _ (by omega) (by omega) (weak_keep (by simp [lookup]))
  · have hj' : ¬ j < l.length := by omega
    simp -implicitDefEqProofs (disch := omega) only [KF, KV0, KV1, KV2, KW, ↓bstep, ↓astep, ↓O1.eq_def, ↓onBool.eq_def, ↓onInt.eq_def, ↓onStr.eq_def, ↓onLo.eq_def, ↓binK.eq_def, ↓arith.eq_def, ↓strOp.eq_def, ↓srcElems.eq_def, ↓dst1.eq_def, args0, List.zipIdx, List.map, lookup, St.ev, St.set, St.setO, reduceCtorEq, AV.plain, AV.plainL, AV.flat, AV.flatL, AV.cells, Nat.reduceEqDiff, ↓reduceIte, List.drop, List.take, List.length, Nat.reduceAdd, Nat.reduceLeDiff, Nat.reduceMul, E.done, rvsK, rvK, resAV, Int.reduceToNat, Int.reduceLE, Int.reduceLT, Int.reduceNeg, Int.reduceAdd, Int.reduceSub, Int.reduceMul, Nat.reduceLT, AV.isElem, AV.one, ↓buildCells.eq_1, ↓buildCells.eq_2, Nat.reduceBEq, eqCells, hj']
    exact shi rfl
theorem s49 (m : Int) (p : Pt) (h1 : qk p.1) (h2 : qk p.2) : SpecP (cx m) 49 [eP p] (.int .i64 0) := by
  refine specP_of (mixed m) (k49 m) (Nat.le_of_ble_eq_true rfl) (X_start ?_)
  unfold c49
  simp -implicitDefEqProofs (disch := omega) only [KF, KV0, KV1, KV2, KW, ↓bstep, ↓astep, ↓O1.eq_def, ↓onBool.eq_def, ↓onInt.eq_def, ↓onStr.eq_def, ↓onLo.eq_def, ↓binK.eq_def, ↓arith.eq_def, ↓strOp.eq_def, ↓srcElems.eq_def, ↓dst1.eq_def, args0, List.zipIdx, List.map, lookup, St.ev, St.set, St.setO, reduceCtorEq, AV.plain, AV.plainL, AV.flat, AV.flatL, AV.cells, Nat.reduceEqDiff, ↓reduceIte, List.drop, List.take, List.length, Nat.reduceAdd, Nat.reduceLeDiff, Nat.reduceMul, E.done, rvsK, rvK, resAV, Int.reduceToNat, Int.reduceLE, Int.reduceLT, Int.reduceNeg, Int.reduceAdd, Int.reduceSub, Int.reduceMul, Nat.reduceLT, AV.isElem, AV.one, ↓buildCells.eq_1, ↓buildCells.eq_2, Nat.reduceBEq, eqCells, eP]
  refine CL_pure (s84 m [p.1, p.2] (by simp [h1, h2]) (by simp)) rfl ?_
  simp -implicitDefEqProofs (disch := omega) only [KF, KV0, KV1, KV2, KW, ↓bstep, ↓astep, ↓O1.eq_def, ↓onBool.eq_def, ↓onInt.eq_def, ↓onStr.eq_def, ↓onLo.eq_def, ↓binK.eq_def, ↓arith.eq_def, ↓strOp.eq_def, ↓srcElems.eq_def, ↓dst1.eq_def, args0, List.zipIdx, List.map, lookup, St.ev, St.set, St.setO, reduceCtorEq, AV.plain, AV.plainL, AV.flat, AV.flatL, AV.cells, Nat.reduceEqDiff, ↓reduceIte, List.drop, List.take, List.length, Nat.reduceAdd, Nat.reduceLeDiff, Nat.reduceMul, E.done, rvsK, rvK, resAV, Int.reduceToNat, Int.reduceLE, Int.reduceLT, Int.reduceNeg, Int.reduceAdd, Int.reduceSub, Int.reduceMul, Nat.reduceLT, AV.isElem, AV.one, ↓buildCells.eq_1, ↓buildCells.eq_2, Nat.reduceBEq, eqCells]
  exact shi rfl
end Go.Proofs.YtkjnjdcbnelceaaGreatDoor.KA
end

section
/- The small code of functions, as own tools print it; that it is the program's is checked by the kernel. -/
open Go Go.Proofs
set_option linter.unusedVariables false
namespace Go.Proofs.YtkjnjdcbnelceaaGreatDoor.KA
def c20 : C := (C.ops [⟨I.box 3 (O.t 0) false, none, some 3⟩, ⟨I.box 4 (O.t 1) false, none, some 4⟩, ⟨I.box 5 (O.t 2) false, none, some 5⟩, ⟨I.mv 6 (O.k (AV.str [])), none, some 6⟩]).seq ((C.ops [⟨I.fld 8 0 (O.t 4), none, some 8⟩, ⟨I.loadf 9 false 1 (O.t 8), none, some 9⟩, ⟨I.fld 10 0 (O.t 3), none, some 10⟩, ⟨I.loadf 11 false 1 (O.t 10), none, some 11⟩, ⟨I.call (some 12) (O.k (AV.fn 56 [])) [O.t 9, O.t 11] false, none, some 12⟩, ⟨I.fld 13 1 (O.t 5), none, some 13⟩, ⟨I.loadf 14 false 1 (O.t 13), none, some 14⟩, ⟨I.fld 15 1 (O.t 3), none, some 15⟩, ⟨I.loadf 16 false 1 (O.t 15), none, some 16⟩, ⟨I.call (some 17) (O.k (AV.fn 56 [])) [O.t 14, O.t 16] false, none, some 17⟩, ⟨I.call (some 18) (O.k (AV.fn 55 [])) [O.t 12, O.t 17] false, none, some 18⟩, ⟨I.mv 7 (O.t 18), none, some 7⟩]).seq ((C.ops [⟨I.mv 19 (O.t 7), none, some 19⟩, ⟨I.fld 20 1 (O.t 4), none, some 20⟩, ⟨I.loadf 21 false 1 (O.t 20), none, some 21⟩, ⟨I.fld 22 1 (O.t 3), none, some 22⟩, ⟨I.loadf 23 false 1 (O.t 22), none, some 23⟩, ⟨I.call (some 24) (O.k (AV.fn 56 [])) [O.t 21, O.t 23] false, none, some 24⟩, ⟨I.fld 25 0 (O.t 5), none, some 25⟩, ⟨I.loadf 26 false 1 (O.t 25), none, some 26⟩, ⟨I.fld 27 0 (O.t 3), none, some 27⟩, ⟨I.loadf 28 false 1 (O.t 27), none, some 28⟩, ⟨I.call (some 29) (O.k (AV.fn 56 [])) [O.t 26, O.t 28] false, none, some 29⟩, ⟨I.call (some 30) (O.k (AV.fn 55 [])) [O.t 24, O.t 29] false, none, some 30⟩, ⟨I.call (some 31) (O.k (AV.fn 56 [])) [O.t 19, O.t 30] false, none, some 31⟩, ⟨I.mv 6 (O.t 31), none, some 6⟩]).seq C.ret))
theorem k20 (m : Int) : compF (cx m).P (cx m).gt (fun _ => false) 20 = some (c20, [RV.tmp 6], 32) := by kernel_rfl
def c52 : C := (C.ops [⟨I.box 3 (O.t 0) false, none, some 3⟩, ⟨I.box 4 (O.t 1) false, none, some 4⟩, ⟨I.box 5 (O.t 2) false, none, some 5⟩, ⟨I.mv 6 (O.k (AV.str [])), none, some 6⟩]).seq ((C.ops [⟨I.fld 7 0 (O.t 4), none, some 7⟩, ⟨I.loadf 8 false 1 (O.t 7), none, some 8⟩, ⟨I.fld 9 0 (O.t 3), none, some 9⟩, ⟨I.loadf 10 false 1 (O.t 9), none, some 10⟩, ⟨I.call (some 11) (O.k (AV.fn 56 [])) [O.t 8, O.t 10] false, none, some 11⟩, ⟨I.fld 12 1 (O.t 5), none, some 12⟩, ⟨I.loadf 13 false 1 (O.t 12), none, some 13⟩, ⟨I.fld 14 1 (O.t 3), none, some 14⟩, ⟨I.loadf 15 false 1 (O.t 14), none, some 15⟩, ⟨I.call (some 16) (O.k (AV.fn 56 [])) [O.t 13, O.t 15] false, none, some 16⟩, ⟨I.call (some 17) (O.k (AV.fn 55 [])) [O.t 11, O.t 16] false, none, some 17⟩, ⟨I.fld 18 1 (O.t 4), none, some 18⟩, ⟨I.loadf 19 false 1 (O.t 18), none, some 19⟩, ⟨I.fld 20 1 (O.t 3), none, some 20⟩, ⟨I.loadf 21 false 1 (O.t 20), none, some 21⟩, ⟨I.call (some 22) (O.k (AV.fn 56 [])) [O.t 19, O.t 21] false, none, some 22⟩, ⟨I.fld 23 0 (O.t 5), none, some 23⟩, ⟨I.loadf 24 false 1 (O.t 23), none, some 24⟩, ⟨I.fld 25 0 (O.t 3), none, some 25⟩, ⟨I.loadf 26 false 1 (O.t 25), none, some 26⟩, ⟨I.call (some 27) (O.k (AV.fn 56 [])) [O.t 24, O.t 26] false, none, some 27⟩, ⟨I.call (some 28) (O.k (AV.fn 55 [])) [O.t 22, O.t 27] false, none, some 28⟩, ⟨I.call (some 29) (O.k (AV.fn 56 [])) [O.t 17, O.t 28] false, none, some 29⟩, ⟨I.mv 6 (O.t 29), none, some 6⟩]).seq C.ret)
theorem k52 (m : Int) : compF (cx m).P (cx m).gt (fun _ => false) 52 = some (c52, [RV.tmp 6], 30) := by kernel_rfl
def c32 : C := (C.ops [⟨I.box 2 (O.t 0) false, none, some 2⟩, ⟨I.box 3 (O.t 1) false, none, some 3⟩, ⟨I.mv 4 (O.k (AV.int IntKind.i64 0)), none, some 4⟩]).seq (((C.ops [⟨I.fld 6 0 (O.t 2), none, some 6⟩, ⟨I.loadf 7 false 1 (O.t 6), none, some 7⟩, ⟨I.fld 8 0 (O.t 3), none, some 8⟩, ⟨I.loadf 9 false 1 (O.t 8), none, some 9⟩, ⟨I.call (some 10) (O.k (AV.fn 21 [])) [O.t 7, O.t 9] false, none, some 10⟩, ⟨I.mv 5 (O.t 10), none, some 5⟩]).seq ((C.ops [⟨I.mv 11 (O.t 5), none, some 11⟩, ⟨I.bin 12 BinOp.neq (O.t 11) (O.k (AV.int IntKind.i64 0)), none, some 12⟩]).seq (C.cond (O.t 12) ((C.ops [⟨I.mv 13 (O.t 5), none, some 13⟩, ⟨I.mv 4 (O.t 13), none, some 4⟩]).seq C.ret) C.skip))).seq ((C.ops [⟨I.fld 14 1 (O.t 2), none, some 14⟩, ⟨I.loadf 15 false 1 (O.t 14), none, some 15⟩, ⟨I.fld 16 1 (O.t 3), none, some 16⟩, ⟨I.loadf 17 false 1 (O.t 16), none, some 17⟩, ⟨I.call (some 18) (O.k (AV.fn 21 [])) [O.t 15, O.t 17] false, none, some 18⟩, ⟨I.mv 4 (O.t 18), none, some 4⟩]).seq C.ret))
theorem k32 (m : Int) : compF (cx m).P (cx m).gt (fun _ => false) 32 = some (c32, [RV.tmp 4], 19) := by kernel_rfl
def c70 : C := (C.ops [⟨I.box 2 (O.t 0) false, none, some 2⟩, ⟨I.box 3 (O.t 1) false, none, some 3⟩, ⟨I.mv 4 (O.k (AV.int IntKind.i64 0)), none, some 4⟩]).seq (((C.ops [⟨I.fld 6 0 (O.t 2), none, some 6⟩, ⟨I.loadf 7 false 1 (O.t 6), none, some 7⟩, ⟨I.fld 8 0 (O.t 3), none, some 8⟩, ⟨I.loadf 9 false 1 (O.t 8), none, some 9⟩, ⟨I.call (some 10) (O.k (AV.fn 21 [])) [O.t 7, O.t 9] false, none, some 10⟩, ⟨I.mv 5 (O.t 10), none, some 5⟩]).seq ((C.ops [⟨I.mv 11 (O.t 5), none, some 11⟩, ⟨I.bin 12 BinOp.neq (O.t 11) (O.k (AV.int IntKind.i64 0)), none, some 12⟩]).seq (C.cond (O.t 12) ((C.ops [⟨I.mv 13 (O.t 5), none, some 13⟩, ⟨I.mv 4 (O.t 13), none, some 4⟩]).seq C.ret) C.skip))).seq ((C.ops [⟨I.fld 14 1 (O.t 2), none, some 14⟩, ⟨I.loadf 15 false 1 (O.t 14), none, some 15⟩, ⟨I.fld 16 1 (O.t 3), none, some 16⟩, ⟨I.loadf 17 false 1 (O.t 16), none, some 17⟩, ⟨I.call (some 18) (O.k (AV.fn 21 [])) [O.t 15, O.t 17] false, none, some 18⟩, ⟨I.mv 4 (O.t 18), none, some 4⟩]).seq C.ret))
theorem k70 (m : Int) : compF (cx m).P (cx m).gt (fun _ => false) 70 = some (c70, [RV.tmp 4], 19) := by kernel_rfl
def c25 : C := (C.ops [⟨I.box 3 (O.t 0) false, none, some 3⟩, ⟨I.box 4 (O.t 1) false, none, some 4⟩, ⟨I.box 5 (O.t 2) false, none, some 5⟩, ⟨I.mv 6 (O.k (AV.bool false)), none, some 6⟩]).seq ((C.ops [⟨I.loadf 9 true 2 (O.t 3), none, some 9⟩, ⟨I.loadf 10 true 2 (O.t 4), none, some 10⟩, ⟨I.alloc 7 [AV.str [], AV.str []] true, none, some 7⟩, ⟨I.alloc 8 [AV.str [], AV.str []] true, none, some 8⟩, ⟨I.store 2 (O.t 7) (O.t 9), none, none⟩, ⟨I.store 2 (O.t 8) (O.t 10), none, none⟩]).seq (((C.ops [⟨I.loadf 11 true 2 (O.t 3), none, some 11⟩, ⟨I.loadf 12 true 2 (O.t 4), none, some 12⟩, ⟨I.call (some 13) (O.k (AV.fn 32 [])) [O.t 11, O.t 12] false, none, some 13⟩, ⟨I.bin 14 BinOp.gtr (O.t 13) (O.k (AV.int IntKind.i64 0)), none, some 14⟩]).seq (C.cond (O.t 14) (C.ops [⟨I.loadf 15 true 2 (O.t 4), none, some 15⟩, ⟨I.loadf 16 true 2 (O.t 3), none, some 16⟩, ⟨I.store 2 (O.t 7) (O.t 15), none, none⟩, ⟨I.store 2 (O.t 8) (O.t 16), none, none⟩]) C.skip)).seq ((C.ops [⟨I.loadf 17 true 2 (O.t 3), none, some 17⟩, ⟨I.loadf 18 true 2 (O.t 4), none, some 18⟩, ⟨I.loadf 19 true 2 (O.t 5), none, some 19⟩, ⟨I.call (some 20) (O.k (AV.fn 20 [])) [O.t 17, O.t 18, O.t 19] false, none, some 20⟩, ⟨I.call (some 21) (O.k (AV.fn 18 [])) [O.t 20] false, none, some 21⟩, ⟨I.bin 22 BinOp.eql (O.t 21) (O.k (AV.int IntKind.i64 0)), none, some 22⟩, ⟨I.mv 23 (O.t 22), none, some 23⟩, ⟨I.load 24 true 2 (O.t 7), some (23, true), some 24⟩, ⟨I.loadf 25 true 2 (O.t 5), some (23, true), some 25⟩, ⟨I.call (some 26) (O.k (AV.fn 32 [])) [O.t 24, O.t 25] false, some (23, true), some 26⟩, ⟨I.bin 27 BinOp.leq (O.t 26) (O.k (AV.int IntKind.i64 0)), some (23, true), some 27⟩, ⟨I.pick 28 (O.t 23) (O.t 27) (O.k (AV.bool false)), none, some 28⟩, ⟨I.mv 29 (O.t 28), none, some 29⟩, ⟨I.loadf 30 true 2 (O.t 5), some (29, true), some 30⟩, ⟨I.load 31 true 2 (O.t 8), some (29, true), some 31⟩, ⟨I.call (some 32) (O.k (AV.fn 32 [])) [O.t 30, O.t 31] false, some (29, true), some 32⟩, ⟨I.bin 33 BinOp.leq (O.t 32) (O.k (AV.int IntKind.i64 0)), some (29, true), some 33⟩, ⟨I.pick 34 (O.t 29) (O.t 33) (O.k (AV.bool false)), none, some 34⟩, ⟨I.mv 6 (O.t 34), none, some 6⟩]).seq C.ret)))
theorem k25 (m : Int) : compF (cx m).P (cx m).gt (fun t => t == 7 || t == 8 || t == 24 || t == 31) 25 = some (c25, [RV.tmp 6], 35) := by kernel_rfl
def c96 : C := (C.ops [⟨I.box 4 (O.t 0) true, none, some 4⟩, ⟨I.box 5 (O.t 1) true, none, some 5⟩, ⟨I.box 6 (O.t 2) true, none, some 6⟩, ⟨I.box 7 (O.t 3) true, none, some 7⟩, ⟨I.mv 8 (O.k (AV.int IntKind.i64 0)), none, some 8⟩, ⟨I.alloc 9 [AV.str [], AV.str []] true, none, some 9⟩]).seq (((C.ops [⟨I.load 13 true 2 (O.t 4), none, some 13⟩, ⟨I.load 14 true 2 (O.t 5), none, some 14⟩, ⟨I.call (some 15) (O.k (AV.fn 70 [])) [O.t 13, O.t 14] false, none, some 15⟩, ⟨I.bin 16 BinOp.gtr (O.t 15) (O.k (AV.int IntKind.i64 0)), none, some 16⟩]).seq (C.cond (O.t 16) (C.ops [⟨I.load 17 true 2 (O.t 5), none, some 17⟩, ⟨I.load 18 true 2 (O.t 4), none, some 18⟩, ⟨I.store 2 (O.t 4) (O.t 17), none, none⟩, ⟨I.store 2 (O.t 5) (O.t 18), none, none⟩]) C.skip)).seq (((C.ops [⟨I.load 19 true 2 (O.t 6), none, some 19⟩, ⟨I.load 20 true 2 (O.t 7), none, some 20⟩, ⟨I.call (some 21) (O.k (AV.fn 70 [])) [O.t 19, O.t 20] false, none, some 21⟩, ⟨I.bin 22 BinOp.gtr (O.t 21) (O.k (AV.int IntKind.i64 0)), none, some 22⟩]).seq (C.cond (O.t 22) (C.ops [⟨I.load 23 true 2 (O.t 7), none, some 23⟩, ⟨I.load 24 true 2 (O.t 6), none, some 24⟩, ⟨I.store 2 (O.t 6) (O.t 23), none, none⟩, ⟨I.store 2 (O.t 7) (O.t 24), none, none⟩]) C.skip)).seq ((C.ops [⟨I.load 25 true 2 (O.t 4), none, some 25⟩, ⟨I.load 26 true 2 (O.t 5), none, some 26⟩, ⟨I.alloc 10 [AV.str [], AV.str []] true, none, some 10⟩, ⟨I.alloc 11 [AV.str [], AV.str []] true, none, some 11⟩, ⟨I.store 2 (O.t 10) (O.t 25), none, none⟩, ⟨I.store 2 (O.t 11) (O.t 26), none, none⟩]).seq (((C.ops [⟨I.load 27 true 2 (O.t 6), none, some 27⟩, ⟨I.load 28 true 2 (O.t 10), none, some 28⟩, ⟨I.call (some 29) (O.k (AV.fn 70 [])) [O.t 27, O.t 28] false, none, some 29⟩, ⟨I.bin 30 BinOp.gtr (O.t 29) (O.k (AV.int IntKind.i64 0)), none, some 30⟩]).seq (C.cond (O.t 30) (C.ops [⟨I.load 31 true 2 (O.t 6), none, some 31⟩, ⟨I.store 2 (O.t 10) (O.t 31), none, none⟩]) C.skip)).seq (((C.ops [⟨I.load 32 true 2 (O.t 7), none, some 32⟩, ⟨I.load 33 true 2 (O.t 11), none, some 33⟩, ⟨I.call (some 34) (O.k (AV.fn 70 [])) [O.t 32, O.t 33] false, none, some 34⟩, ⟨I.bin 35 BinOp.lss (O.t 34) (O.k (AV.int IntKind.i64 0)), none, some 35⟩]).seq (C.cond (O.t 35) (C.ops [⟨I.load 36 true 2 (O.t 7), none, some 36⟩, ⟨I.store 2 (O.t 11) (O.t 36), none, none⟩]) C.skip)).seq (((C.ops [⟨I.load 37 true 2 (O.t 10), none, some 37⟩, ⟨I.load 38 true 2 (O.t 11), none, some 38⟩, ⟨I.call (some 39) (O.k (AV.fn 70 [])) [O.t 37, O.t 38] false, none, some 39⟩, ⟨I.mv 12 (O.t 39), none, some 12⟩]).seq (C.block 0 ((C.ops [⟨I.mv 41 (O.t 12), none, some 41⟩, ⟨I.bin 42 BinOp.gtr (O.t 41) (O.k (AV.int IntKind.i64 0)), none, some 42⟩, ⟨I.mv 40 (O.t 42), none, some 40⟩]).seq (C.cond (O.t 40) ((C.ops [⟨I.build 43 [AV.str [], AV.str []] [], none, some 43⟩, ⟨I.mv 8 (O.k (AV.int IntKind.i64 0)), none, some 8⟩, ⟨I.store 2 (O.t 9) (O.t 43), none, none⟩]).seq C.ret) ((C.ops [⟨I.mv 45 (O.t 12), none, some 45⟩, ⟨I.bin 46 BinOp.eql (O.t 45) (O.k (AV.int IntKind.i64 0)), none, some 46⟩, ⟨I.mv 44 (O.t 46), none, some 44⟩]).seq (C.cond (O.t 44) ((C.ops [⟨I.load 47 true 2 (O.t 10), none, some 47⟩, ⟨I.mv 8 (O.k (AV.int IntKind.i64 1)), none, some 8⟩, ⟨I.store 2 (O.t 9) (O.t 47), none, none⟩]).seq C.ret) C.skip)))))).seq ((C.ops [⟨I.build 48 [AV.str [], AV.str []] [], none, some 48⟩, ⟨I.mv 8 (O.k (AV.int IntKind.i64 2)), none, some 8⟩, ⟨I.store 2 (O.t 9) (O.t 48), none, none⟩]).seq C.ret)))))))
theorem k96 (m : Int) : compF (cx m).P (cx m).gt (fun t => t == 4 || t == 5 || t == 6 || t == 7 || t == 9 || t == 10 || t == 11 || t == 13 || t == 14 || t == 17 || t == 18 || t == 19 || t == 20 || t == 23 || t == 24 || t == 25 || t == 26 || t == 27 || t == 28 || t == 31 || t == 32 || t == 33 || t == 36 || t == 37 || t == 38 || t == 47) 96 = some (c96, [RV.tmp 8, RV.cell 9 true 2], 49) := by kernel_rfl
def c46 : C := (C.ops [⟨I.box 4 (O.t 0) false, none, some 4⟩, ⟨I.box 5 (O.t 1) false, none, some 5⟩, ⟨I.box 6 (O.t 2) false, none, some 6⟩, ⟨I.box 7 (O.t 3) false, none, some 7⟩, ⟨I.mv 8 (O.k (AV.int IntKind.i64 0)), none, some 8⟩, ⟨I.alloc 9 [AV.str [], AV.str []] true, none, some 9⟩]).seq ((C.ops [⟨I.loadf 19 true 2 (O.t 4), none, some 19⟩, ⟨I.loadf 20 true 2 (O.t 5), none, some 20⟩, ⟨I.loadf 21 true 2 (O.t 6), none, some 21⟩, ⟨I.call (some 22) (O.k (AV.fn 62 [])) [O.t 19, O.t 20, O.t 21] false, none, some 22⟩, ⟨I.loadf 23 true 2 (O.t 4), none, some 23⟩, ⟨I.loadf 24 true 2 (O.t 5), none, some 24⟩, ⟨I.loadf 25 true 2 (O.t 7), none, some 25⟩, ⟨I.call (some 26) (O.k (AV.fn 62 [])) [O.t 23, O.t 24, O.t 25] false, none, some 26⟩, ⟨I.loadf 27 true 2 (O.t 6), none, some 27⟩, ⟨I.loadf 28 true 2 (O.t 7), none, some 28⟩, ⟨I.loadf 29 true 2 (O.t 4), none, some 29⟩, ⟨I.call (some 30) (O.k (AV.fn 62 [])) [O.t 27, O.t 28, O.t 29] false, none, some 30⟩, ⟨I.loadf 31 true 2 (O.t 6), none, some 31⟩, ⟨I.loadf 32 true 2 (O.t 7), none, some 32⟩, ⟨I.loadf 33 true 2 (O.t 5), none, some 33⟩, ⟨I.call (some 34) (O.k (AV.fn 62 [])) [O.t 31, O.t 32, O.t 33] false, none, some 34⟩, ⟨I.mv 10 (O.t 22), none, some 10⟩, ⟨I.mv 11 (O.t 26), none, some 11⟩, ⟨I.mv 12 (O.t 30), none, some 12⟩, ⟨I.mv 13 (O.t 34), none, some 13⟩]).seq (((C.ops [⟨I.mv 35 (O.t 10), none, some 35⟩, ⟨I.bin 36 BinOp.eql (O.t 35) (O.k (AV.int IntKind.i64 0)), none, some 36⟩, ⟨I.mv 37 (O.t 36), none, some 37⟩, ⟨I.mv 38 (O.t 11), some (37, true), some 38⟩, ⟨I.bin 39 BinOp.eql (O.t 38) (O.k (AV.int IntKind.i64 0)), some (37, true), some 39⟩, ⟨I.pick 40 (O.t 37) (O.t 39) (O.k (AV.bool false)), none, some 40⟩]).seq (C.cond (O.t 40) ((C.ops [⟨I.loadf 41 true 2 (O.t 4), none, some 41⟩, ⟨I.loadf 42 true 2 (O.t 5), none, some 42⟩, ⟨I.loadf 43 true 2 (O.t 6), none, some 43⟩, ⟨I.loadf 44 true 2 (O.t 7), none, some 44⟩, ⟨I.call (some 45) (O.k (AV.fn 96 [])) [O.t 41, O.t 42, O.t 43, O.t 44] false, none, some 45⟩, ⟨I.ext 46 (O.t 45) 0, none, some 46⟩, ⟨I.ext 47 (O.t 45) 1, none, some 47⟩, ⟨I.mv 8 (O.t 46), none, some 8⟩, ⟨I.store 2 (O.t 9) (O.t 47), none, none⟩]).seq C.ret) C.skip)).seq (((C.ops [⟨I.mv 48 (O.t 10), none, some 48⟩, ⟨I.mv 49 (O.t 11), none, some 49⟩, ⟨I.bin 50 BinOp.mul (O.t 48) (O.t 49), none, some 50⟩, ⟨I.bin 51 BinOp.gtr (O.t 50) (O.k (AV.int IntKind.i64 0)), none, some 51⟩, ⟨I.mv 52 (O.t 51), none, some 52⟩, ⟨I.mv 53 (O.t 12), some (52, false), some 53⟩, ⟨I.mv 54 (O.t 13), some (52, false), some 54⟩, ⟨I.bin 55 BinOp.mul (O.t 53) (O.t 54), some (52, false), some 55⟩, ⟨I.bin 56 BinOp.gtr (O.t 55) (O.k (AV.int IntKind.i64 0)), some (52, false), some 56⟩, ⟨I.pick 57 (O.t 52) (O.k (AV.bool true)) (O.t 56), none, some 57⟩]).seq (C.cond (O.t 57) ((C.ops [⟨I.build 58 [AV.str [], AV.str []] [], none, some 58⟩, ⟨I.mv 8 (O.k (AV.int IntKind.i64 0)), none, some 8⟩, ⟨I.store 2 (O.t 9) (O.t 58), none, none⟩]).seq C.ret) C.skip)).seq ((C.ops [⟨I.loadf 59 true 2 (O.t 4), none, some 59⟩, ⟨I.loadf 60 true 2 (O.t 5), none, some 60⟩, ⟨I.loadf 61 true 2 (O.t 6), none, some 61⟩, ⟨I.call (some 62) (O.k (AV.fn 52 [])) [O.t 59, O.t 60, O.t 61] false, none, some 62⟩, ⟨I.loadf 63 true 2 (O.t 4), none, some 63⟩, ⟨I.loadf 64 true 2 (O.t 5), none, some 64⟩, ⟨I.loadf 65 true 2 (O.t 7), none, some 65⟩, ⟨I.call (some 66) (O.k (AV.fn 52 [])) [O.t 63, O.t 64, O.t 65] false, none, some 66⟩, ⟨I.mv 14 (O.t 62), none, some 14⟩, ⟨I.mv 15 (O.t 66), none, some 15⟩]).seq ((C.ops [⟨I.mv 68 (O.t 14), none, some 68⟩, ⟨I.mv 69 (O.t 14), none, some 69⟩, ⟨I.mv 70 (O.t 15), none, some 70⟩, ⟨I.call (some 71) (O.k (AV.fn 56 [])) [O.t 69, O.t 70] false, none, some 71⟩, ⟨I.call (some 72) (O.k (AV.fn 95 [])) [O.t 68, O.t 71] false, none, some 72⟩, ⟨I.mv 67 (O.t 72), none, some 67⟩, ⟨I.ext 73 (O.t 67) 0, none, some 73⟩, ⟨I.ext 74 (O.t 67) 1, none, some 74⟩, ⟨I.alloc 16 [AV.str []] true, none, some 16⟩, ⟨I.store 1 (O.t 16) (O.t 73), none, none⟩, ⟨I.mv 17 (O.t 74), none, some 17⟩]).seq ((C.ops [⟨I.mkfn 75 97 [O.t 16], none, some 75⟩, ⟨I.mv 18 (O.t 75), none, some 18⟩]).seq ((C.ops [⟨I.mv 76 (O.t 18), none, some 76⟩, ⟨I.fld 77 0 (O.t 6), none, some 77⟩, ⟨I.loadf 78 false 1 (O.t 77), none, some 78⟩, ⟨I.fld 79 0 (O.t 7), none, some 79⟩, ⟨I.loadf 80 false 1 (O.t 79), none, some 80⟩, ⟨I.call (some 81) (O.t 76) [O.t 78, O.t 80] false, none, some 81⟩, ⟨I.mv 82 (O.t 18), none, some 82⟩, ⟨I.fld 83 1 (O.t 6), none, some 83⟩, ⟨I.loadf 84 false 1 (O.t 83), none, some 84⟩, ⟨I.fld 85 1 (O.t 7), none, some 85⟩, ⟨I.loadf 86 false 1 (O.t 85), none, some 86⟩, ⟨I.call (some 87) (O.t 82) [O.t 84, O.t 86] false, none, some 87⟩, ⟨I.build 88 [AV.str [], AV.str []] [(0, 1, O.t 81), (1, 1, O.t 87)], none, some 88⟩, ⟨I.mv 8 (O.k (AV.int IntKind.i64 1)), none, some 8⟩, ⟨I.store 2 (O.t 9) (O.t 88), none, none⟩]).seq C.ret)))))))
theorem k46 (m : Int) : compF (cx m).P (cx m).gt (fun t => t == 9 || t == 16) 46 = some (c46, [RV.tmp 8, RV.cell 9 true 2], 89) := by kernel_rfl
def c45 : C := (C.ops [⟨I.box 4 (O.t 0) false, none, some 4⟩, ⟨I.box 5 (O.t 1) false, none, some 5⟩, ⟨I.box 6 (O.t 2) false, none, some 6⟩, ⟨I.box 7 (O.t 3) false, none, some 7⟩, ⟨I.mv 8 (O.k (AV.int IntKind.i64 0)), none, some 8⟩, ⟨I.alloc 9 [AV.str [], AV.str []] true, none, some 9⟩]).seq ((C.ops [⟨I.mv 10 (O.k AV.nils), none, some 10⟩]).seq (((C.ops [⟨I.loadf 23 true 2 (O.t 4), none, some 23⟩, ⟨I.loadf 24 true 2 (O.t 5), none, some 24⟩, ⟨I.loadf 25 true 2 (O.t 6), none, some 25⟩, ⟨I.loadf 26 true 2 (O.t 7), none, some 26⟩, ⟨I.bsl 27 2 [O.t 23, O.t 24, O.t 25, O.t 26] false, none, some 27⟩, ⟨I.len 28 (O.t 27), none, some 28⟩, ⟨I.mv 29 (O.k (AV.int IntKind.i64 0)), none, some 29⟩]).seq (C.block 0 ((C.ops [⟨I.bin 30 BinOp.lss (O.t 29) (O.t 28), none, some 30⟩]).seq ((C.cond (O.t 30) C.skip (C.exit 0)).seq ((C.block 1 ((C.ops [⟨I.idxa 31 2 none (O.t 27) (O.t 29), none, some 31⟩, ⟨I.loadf 32 true 2 (O.t 31), none, some 32⟩, ⟨I.alloc 12 [AV.str [], AV.str []] true, none, some 12⟩, ⟨I.store 2 (O.t 12) (O.t 32), none, none⟩]).seq ((C.ops [⟨I.loadf 33 true 2 (O.t 4), none, some 33⟩, ⟨I.loadf 34 true 2 (O.t 5), none, some 34⟩, ⟨I.load 35 true 2 (O.t 12), none, some 35⟩, ⟨I.call (some 36) (O.k (AV.fn 25 [])) [O.t 33, O.t 34, O.t 35] false, none, some 36⟩, ⟨I.mv 37 (O.t 36), none, some 37⟩, ⟨I.loadf 38 true 2 (O.t 6), some (37, true), some 38⟩, ⟨I.loadf 39 true 2 (O.t 7), some (37, true), some 39⟩, ⟨I.load 40 true 2 (O.t 12), some (37, true), some 40⟩, ⟨I.call (some 41) (O.k (AV.fn 25 [])) [O.t 38, O.t 39, O.t 40] false, some (37, true), some 41⟩, ⟨I.pick 42 (O.t 37) (O.t 41) (O.k (AV.bool false)), none, some 42⟩]).seq (C.cond (O.t 42) ((C.ops [⟨I.mv 13 (O.k (AV.bool false)), none, some 13⟩]).seq (((C.ops [⟨I.mv 14 (O.k (AV.int IntKind.i64 0)), none, some 14⟩]).seq (C.block 2 (((C.ops [⟨I.mv 43 (O.t 14), none, some 43⟩, ⟨I.mv 44 (O.t 10), none, some 44⟩, ⟨I.len 45 (O.t 44), none, some 45⟩, ⟨I.bin 46 BinOp.lss (O.t 43) (O.t 45), none, some 46⟩]).seq (C.cond (O.t 46) C.skip (C.exit 2))).seq ((C.block 3 (C.ops [⟨I.mv 49 (O.t 13), none, some 49⟩, ⟨I.mv 50 (O.t 49), none, some 50⟩, ⟨I.mv 51 (O.t 10), some (50, false), some 51⟩, ⟨I.mv 52 (O.t 14), some (50, false), some 52⟩, ⟨I.idxa 53 2 none (O.t 51) (O.t 52), some (50, false), some 53⟩, ⟨I.load 54 true 2 (O.t 53), some (50, false), some 54⟩, ⟨I.load 55 true 2 (O.t 12), some (50, false), some 55⟩, ⟨I.eqs 56 false [Leaf.str, Leaf.str] (O.t 54) (O.t 55), some (50, false), some 56⟩, ⟨I.pick 57 (O.t 50) (O.k (AV.bool true)) (O.t 56), none, some 57⟩, ⟨I.mv 13 (O.t 57), none, some 13⟩])).seq (C.ops [⟨I.mv 47 (O.t 14), none, some 47⟩, ⟨I.bin 48 BinOp.add (O.t 47) (O.k (AV.int IntKind.i64 1)), none, some 48⟩, ⟨I.mv 14 (O.t 48), none, some 14⟩]))).loop)).seq ((C.ops [⟨I.mv 58 (O.t 13), none, some 58⟩, ⟨I.not 59 (O.t 58), none, some 59⟩]).seq (C.cond (O.t 59) (C.ops [⟨I.mv 60 (O.t 10), none, some 60⟩, ⟨I.load 61 true 2 (O.t 12), none, some 61⟩, ⟨I.bsl 62 2 [O.t 61] false, none, some 62⟩, ⟨I.append 63 2 32 (O.t 60) (O.t 62) true, none, some 63⟩, ⟨I.mv 10 (O.t 63), none, some 10⟩]) C.skip)))) C.skip)))).seq (C.ops [⟨I.bin 64 BinOp.add (O.t 29) (O.k (AV.int IntKind.i64 1)), none, some 64⟩, ⟨I.mv 29 (O.t 64), none, some 29⟩])))).loop)).seq (((C.ops [⟨I.mv 65 (O.t 10), none, some 65⟩, ⟨I.len 66 (O.t 65), none, some 66⟩, ⟨I.bin 67 BinOp.gtr (O.t 66) (O.k (AV.int IntKind.i64 0)), none, some 67⟩]).seq (C.cond (O.t 67) ((C.ops [⟨I.mv 68 (O.t 10), none, some 68⟩, ⟨I.len 69 (O.t 68), none, some 69⟩, ⟨I.min 70 (O.t 69) (O.k (AV.int IntKind.i64 2)), none, some 70⟩, ⟨I.mv 71 (O.t 10), none, some 71⟩, ⟨I.idxa 72 2 none (O.t 71) (O.k (AV.int IntKind.i64 0)), none, some 72⟩, ⟨I.load 73 true 2 (O.t 72), none, some 73⟩, ⟨I.mv 8 (O.t 70), none, some 8⟩, ⟨I.store 2 (O.t 9) (O.t 73), none, none⟩]).seq C.ret) C.skip)).seq ((C.ops [⟨I.loadf 74 true 2 (O.t 6), none, some 74⟩, ⟨I.loadf 75 true 2 (O.t 7), none, some 75⟩, ⟨I.loadf 76 true 2 (O.t 4), none, some 76⟩, ⟨I.call (some 77) (O.k (AV.fn 20 [])) [O.t 74, O.t 75, O.t 76] false, none, some 77⟩, ⟨I.loadf 78 true 2 (O.t 6), none, some 78⟩, ⟨I.loadf 79 true 2 (O.t 7), none, some 79⟩, ⟨I.loadf 80 true 2 (O.t 5), none, some 80⟩, ⟨I.call (some 81) (O.k (AV.fn 20 [])) [O.t 78, O.t 79, O.t 80] false, none, some 81⟩, ⟨I.mv 15 (O.t 77), none, some 15⟩, ⟨I.mv 16 (O.t 81), none, some 16⟩]).seq ((C.ops [⟨I.loadf 82 true 2 (O.t 4), none, some 82⟩, ⟨I.loadf 83 true 2 (O.t 5), none, some 83⟩, ⟨I.loadf 84 true 2 (O.t 6), none, some 84⟩, ⟨I.call (some 85) (O.k (AV.fn 20 [])) [O.t 82, O.t 83, O.t 84] false, none, some 85⟩, ⟨I.call (some 86) (O.k (AV.fn 18 [])) [O.t 85] false, none, some 86⟩, ⟨I.loadf 87 true 2 (O.t 4), none, some 87⟩, ⟨I.loadf 88 true 2 (O.t 5), none, some 88⟩, ⟨I.loadf 89 true 2 (O.t 7), none, some 89⟩, ⟨I.call (some 90) (O.k (AV.fn 20 [])) [O.t 87, O.t 88, O.t 89] false, none, some 90⟩, ⟨I.call (some 91) (O.k (AV.fn 18 [])) [O.t 90] false, none, some 91⟩, ⟨I.mv 17 (O.t 86), none, some 17⟩, ⟨I.mv 18 (O.t 91), none, some 18⟩]).seq (((C.ops [⟨I.mv 92 (O.t 15), none, some 92⟩, ⟨I.call (some 93) (O.k (AV.fn 18 [])) [O.t 92] false, none, some 93⟩, ⟨I.mv 94 (O.t 16), none, some 94⟩, ⟨I.call (some 95) (O.k (AV.fn 18 [])) [O.t 94] false, none, some 95⟩, ⟨I.bin 96 BinOp.mul (O.t 93) (O.t 95), none, some 96⟩, ⟨I.bin 97 BinOp.geq (O.t 96) (O.k (AV.int IntKind.i64 0)), none, some 97⟩, ⟨I.mv 98 (O.t 97), none, some 98⟩, ⟨I.mv 99 (O.t 17), some (98, false), some 99⟩, ⟨I.mv 100 (O.t 18), some (98, false), some 100⟩, ⟨I.bin 101 BinOp.mul (O.t 99) (O.t 100), some (98, false), some 101⟩, ⟨I.bin 102 BinOp.geq (O.t 101) (O.k (AV.int IntKind.i64 0)), some (98, false), some 102⟩, ⟨I.pick 103 (O.t 98) (O.k (AV.bool true)) (O.t 102), none, some 103⟩]).seq (C.cond (O.t 103) ((C.ops [⟨I.build 104 [AV.str [], AV.str []] [], none, some 104⟩, ⟨I.mv 8 (O.k (AV.int IntKind.i64 0)), none, some 8⟩, ⟨I.store 2 (O.t 9) (O.t 104), none, none⟩]).seq C.ret) C.skip)).seq ((C.ops [⟨I.mv 106 (O.t 15), none, some 106⟩, ⟨I.mv 107 (O.t 15), none, some 107⟩, ⟨I.mv 108 (O.t 16), none, some 108⟩, ⟨I.call (some 109) (O.k (AV.fn 56 [])) [O.t 107, O.t 108] false, none, some 109⟩, ⟨I.call (some 110) (O.k (AV.fn 95 [])) [O.t 106, O.t 109] false, none, some 110⟩, ⟨I.mv 105 (O.t 110), none, some 105⟩, ⟨I.ext 111 (O.t 105) 0, none, some 111⟩, ⟨I.ext 112 (O.t 105) 1, none, some 112⟩, ⟨I.mv 19 (O.t 111), none, some 19⟩, ⟨I.mv 20 (O.t 112), none, some 20⟩]).seq ((C.ops [⟨I.fld 113 0 (O.t 4), none, some 113⟩, ⟨I.loadf 114 false 1 (O.t 113), none, some 114⟩, ⟨I.mv 115 (O.t 19), none, some 115⟩, ⟨I.fld 116 0 (O.t 5), none, some 116⟩, ⟨I.loadf 117 false 1 (O.t 116), none, some 117⟩, ⟨I.fld 118 0 (O.t 4), none, some 118⟩, ⟨I.loadf 119 false 1 (O.t 118), none, some 119⟩, ⟨I.call (some 120) (O.k (AV.fn 56 [])) [O.t 117, O.t 119] false, none, some 120⟩, ⟨I.call (some 121) (O.k (AV.fn 55 [])) [O.t 115, O.t 120] false, none, some 121⟩, ⟨I.call (some 122) (O.k (AV.fn 29 [])) [O.t 114, O.t 121] false, none, some 122⟩, ⟨I.mv 21 (O.t 122), none, some 21⟩]).seq ((C.ops [⟨I.fld 123 1 (O.t 4), none, some 123⟩, ⟨I.loadf 124 false 1 (O.t 123), none, some 124⟩, ⟨I.mv 125 (O.t 19), none, some 125⟩, ⟨I.fld 126 1 (O.t 5), none, some 126⟩, ⟨I.loadf 127 false 1 (O.t 126), none, some 127⟩, ⟨I.fld 128 1 (O.t 4), none, some 128⟩, ⟨I.loadf 129 false 1 (O.t 128), none, some 129⟩, ⟨I.call (some 130) (O.k (AV.fn 56 [])) [O.t 127, O.t 129] false, none, some 130⟩, ⟨I.call (some 131) (O.k (AV.fn 55 [])) [O.t 125, O.t 130] false, none, some 131⟩, ⟨I.call (some 132) (O.k (AV.fn 29 [])) [O.t 124, O.t 131] false, none, some 132⟩, ⟨I.mv 22 (O.t 132), none, some 22⟩]).seq ((C.ops [⟨I.mv 133 (O.t 21), none, some 133⟩, ⟨I.mv 134 (O.t 22), none, some 134⟩, ⟨I.build 135 [AV.str [], AV.str []] [(0, 1, O.t 133), (1, 1, O.t 134)], none, some 135⟩, ⟨I.mv 8 (O.k (AV.int IntKind.i64 1)), none, some 8⟩, ⟨I.store 2 (O.t 9) (O.t 135), none, none⟩]).seq C.ret))))))))))
theorem k45 (m : Int) : compF (cx m).P (cx m).gt (fun t => t == 9 || t == 12 || t == 35 || t == 40 || t == 54 || t == 55 || t == 61 || t == 63 || t == 73) 45 = some (c45, [RV.tmp 8, RV.cell 9 true 2], 136) := by kernel_rfl
end Go.Proofs.YtkjnjdcbnelceaaGreatDoor.KA
end

section
/- Contracts: areas, the order of points, and how two segments meet. -/
open Go Go.Proofs
set_option linter.unusedSimpArgs false
set_option linter.unusedVariables false
namespace Go.Proofs.YtkjnjdcbnelceaaGreatDoor.KA
open Num Geo

/-- Bounds of a number's parts. -/
def bd (N D : Nat) (q : Rat) : Prop := q.num.natAbs ≤ N ∧ q.den ≤ D
theorem bd_qk {N D : Nat} {q : Rat} (h : bd N D q) (h1 : N < 10 ^ 9) (h2 : D < 10 ^ 9) : qk q := qk_of (by have := h.1; omega) (by have := h.2; omega)
theorem bd_mk (n : Int) (d : Nat) (hd : 0 < d) : (mkRat n d).num.natAbs ≤ n.natAbs ∧ (mkRat n d).den ≤ d := by
  obtain ⟨p1, p2⟩ := mk_parts n d hd
  constructor
  · rw [p1, Int.natAbs_tdiv]; exact Nat.div_le_self _ _
  · have : ((d : Int).tdiv (Int.gcd n d)).natAbs ≤ d := by rw [Int.natAbs_tdiv]; exact Nat.div_le_self _ _
    omega
theorem bd_add {N D N' D' : Nat} {a b : Rat} (ha : bd N D a) (hb : bd N' D' b) : bd (N * D' + N' * D) (D * D') (a + b) := by
  obtain ⟨h1, h2⟩ := bd_mk (a.num * b.den + b.num * a.den) (a.den * b.den) (Nat.mul_pos (den_pos a) (den_pos b))
  rw [add_mk] at h1 h2
  refine ⟨Nat.le_trans h1 (Nat.le_trans (Int.natAbs_add_le _ _) ?_), Nat.le_trans h2 (Nat.mul_le_mul ha.2 hb.2)⟩
  rw [Int.natAbs_mul, Int.natAbs_mul, Int.natAbs_natCast, Int.natAbs_natCast]
  exact Nat.add_le_add (Nat.mul_le_mul ha.1 hb.2) (Nat.mul_le_mul hb.1 ha.2)
theorem bd_neg {N D : Nat} {a : Rat} (ha : bd N D a) : bd N D (-a) := ⟨by simpa using ha.1, by simpa using ha.2⟩
theorem bd_sub {N D N' D' : Nat} {a b : Rat} (ha : bd N D a) (hb : bd N' D' b) : bd (N * D' + N' * D) (D * D') (a - b) := by
  rw [Rat.sub_eq_add_neg]; exact bd_add ha (bd_neg hb)
theorem bd_mul {N D N' D' : Nat} {a b : Rat} (ha : bd N D a) (hb : bd N' D' b) : bd (N * N') (D * D') (a * b) := by
  obtain ⟨h1, h2⟩ := bd_mk (a.num * b.num) (a.den * b.den) (Nat.mul_pos (den_pos a) (den_pos b))
  rw [mul_mk] at h1 h2
  refine ⟨Nat.le_trans h1 ?_, Nat.le_trans h2 (Nat.mul_le_mul ha.2 hb.2)⟩
  rw [Int.natAbs_mul]; exact Nat.mul_le_mul ha.1 hb.1
theorem bd_inv {N D : Nat} {a : Rat} (ha : bd N D a) (h0 : a ≠ 0) : bd D N a⁻¹ := by
  have hn : a.num ≠ 0 := fun h => h0 (Rat.num_eq_zero.1 h)
  have i1 := Rat.num_inv a
  have i2 := Rat.den_inv a
  rw [if_neg hn] at i2
  refine ⟨?_, by rw [i2]; exact ha.1⟩
  rw [i1, Int.natAbs_mul]
  rcases Int.lt_trichotomy a.num 0 with h | h | h
  · rw [Int.sign_eq_neg_one_of_neg h]; simpa using ha.2
  · exact absurd h hn
  · rw [Int.sign_eq_one_of_pos h]; simpa using ha.2
theorem bd_div {N D N' D' : Nat} {a b : Rat} (ha : bd N D a) (hb : bd N' D' b) (h0 : b ≠ 0) : bd (N * D') (D * N') (a / b) := by
  rw [Rat.div_def]; exact bd_mul ha (bd_inv hb h0)
theorem bd_le {N D N' D' : Nat} {a : Rat} (h : bd N D a) (h1 : N ≤ N') (h2 : D ≤ D') : bd N' D' a := ⟨Nat.le_trans h.1 h1, Nat.le_trans h.2 h2⟩

/-- A point of small integers. -/
def P9 (p : Pt) : Prop := bd 9 1 p.1 ∧ bd 9 1 p.2
def PQ (p : Pt) : Prop := qk p.1 ∧ qk p.2
theorem P9.q {p : Pt} (h : P9 p) : PQ p := ⟨bd_qk h.1 (by omega) (by omega), bd_qk h.2 (by omega) (by omega)⟩
theorem bd_ar {p q r : Pt} (hp : P9 p) (hq : P9 q) (hr : P9 r) : bd 648 1 (ar p q r) :=
  bd_sub (bd_mul (bd_sub hq.1 hp.1) (bd_sub hr.2 hp.2)) (bd_mul (bd_sub hq.2 hp.2) (bd_sub hr.1 hp.1))
theorem qk1 {N D : Nat} {q : Rat} (h : bd N D q) (h1 : N < 1000000000 := by decide) (h2 : D < 1000000000 := by decide) : qk q := bd_qk h h1 h2

theorem s20 (m : Int) (p q r : Pt) (hp : P9 p) (hq : P9 q) (hr : P9 r) : SpecP (cx m) 20 [eP p, eP q, eP r] (.str (tq (ar p q r))) := by
  refine specP_of (mixed m) (k20 m) (Nat.le_of_ble_eq_true rfl) (X_start ?_)
  unfold c20
  simp -implicitDefEqProofs (disch := omega) only [KF, KV0, KV1, KV2, KW, ↓bstep, ↓astep, ↓O1.eq_def, ↓onBool.eq_def, ↓onInt.eq_def, ↓onStr.eq_def, ↓onLo.eq_def, ↓binK.eq_def, ↓arith.eq_def, ↓strOp.eq_def, ↓srcElems.eq_def, ↓dst1.eq_def, args0, List.zipIdx, List.map, lookup, St.ev, St.set, St.setO, reduceCtorEq, AV.plain, AV.plainL, AV.flat, AV.flatL, AV.cells, Nat.reduceEqDiff, ↓reduceIte, List.drop, List.take, List.length, Nat.reduceAdd, Nat.reduceLeDiff, Nat.reduceMul, E.done, rvsK, rvK, resAV, Int.reduceToNat, Int.reduceLE, Int.reduceLT, Int.reduceNeg, Int.reduceAdd, Int.reduceSub, Int.reduceMul, Nat.reduceLT, AV.isElem, AV.one, ↓buildCells.eq_1, ↓buildCells.eq_2, Nat.reduceBEq, eqCells, eP]
  refine CL_pure (s56 m _ _ hq.q.1 hp.q.1) rfl ?_
  simp -implicitDefEqProofs (disch := omega) only [KF, KV0, KV1, KV2, KW, ↓bstep, ↓astep, ↓O1.eq_def, ↓onBool.eq_def, ↓onInt.eq_def, ↓onStr.eq_def, ↓onLo.eq_def, ↓binK.eq_def, ↓arith.eq_def, ↓strOp.eq_def, ↓srcElems.eq_def, ↓dst1.eq_def, args0, List.zipIdx, List.map, lookup, St.ev, St.set, St.setO, reduceCtorEq, AV.plain, AV.plainL, AV.flat, AV.flatL, AV.cells, Nat.reduceEqDiff, ↓reduceIte, List.drop, List.take, List.length, Nat.reduceAdd, Nat.reduceLeDiff, Nat.reduceMul, E.done, rvsK, rvK, resAV, Int.reduceToNat, Int.reduceLE, Int.reduceLT, Int.reduceNeg, Int.reduceAdd, Int.reduceSub, Int.reduceMul, Nat.reduceLT, AV.isElem, AV.one, ↓buildCells.eq_1, ↓buildCells.eq_2, Nat.reduceBEq, eqCells]
  refine CL_pure (s56 m _ _ hr.q.2 hp.q.2) rfl ?_
  simp -implicitDefEqProofs (disch := omega) only [KF, KV0, KV1, KV2, KW, ↓bstep, ↓astep, ↓O1.eq_def, ↓onBool.eq_def, ↓onInt.eq_def, ↓onStr.eq_def, ↓onLo.eq_def, ↓binK.eq_def, ↓arith.eq_def, ↓strOp.eq_def, ↓srcElems.eq_def, ↓dst1.eq_def, args0, List.zipIdx, List.map, lookup, St.ev, St.set, St.setO, reduceCtorEq, AV.plain, AV.plainL, AV.flat, AV.flatL, AV.cells, Nat.reduceEqDiff, ↓reduceIte, List.drop, List.take, List.length, Nat.reduceAdd, Nat.reduceLeDiff, Nat.reduceMul, E.done, rvsK, rvK, resAV, Int.reduceToNat, Int.reduceLE, Int.reduceLT, Int.reduceNeg, Int.reduceAdd, Int.reduceSub, Int.reduceMul, Nat.reduceLT, AV.isElem, AV.one, ↓buildCells.eq_1, ↓buildCells.eq_2, Nat.reduceBEq, eqCells]
  refine CL_pure (s55 m _ _ (qk1 (bd_sub hq.1 hp.1)) (qk1 (bd_sub hr.2 hp.2))) rfl ?_
  simp -implicitDefEqProofs (disch := omega) only [KF, KV0, KV1, KV2, KW, ↓bstep, ↓astep, ↓O1.eq_def, ↓onBool.eq_def, ↓onInt.eq_def, ↓onStr.eq_def, ↓onLo.eq_def, ↓binK.eq_def, ↓arith.eq_def, ↓strOp.eq_def, ↓srcElems.eq_def, ↓dst1.eq_def, args0, List.zipIdx, List.map, lookup, St.ev, St.set, St.setO, reduceCtorEq, AV.plain, AV.plainL, AV.flat, AV.flatL, AV.cells, Nat.reduceEqDiff, ↓reduceIte, List.drop, List.take, List.length, Nat.reduceAdd, Nat.reduceLeDiff, Nat.reduceMul, E.done, rvsK, rvK, resAV, Int.reduceToNat, Int.reduceLE, Int.reduceLT, Int.reduceNeg, Int.reduceAdd, Int.reduceSub, Int.reduceMul, Nat.reduceLT, AV.isElem, AV.one, ↓buildCells.eq_1, ↓buildCells.eq_2, Nat.reduceBEq, eqCells]
  refine CL_pure (s56 m _ _ hq.q.2 hp.q.2) rfl ?_
  simp -implicitDefEqProofs (disch := omega) only [KF, KV0, KV1, KV2, KW, ↓bstep, ↓astep, ↓O1.eq_def, ↓onBool.eq_def, ↓onInt.eq_def, ↓onStr.eq_def, ↓onLo.eq_def, ↓binK.eq_def, ↓arith.eq_def, ↓strOp.eq_def, ↓srcElems.eq_def, ↓dst1.eq_def, args0, List.zipIdx, List.map, lookup, St.ev, St.set, St.setO, reduceCtorEq, AV.plain, AV.plainL, AV.flat, AV.flatL, AV.cells, Nat.reduceEqDiff, ↓reduceIte, List.drop, List.take, List.length, Nat.reduceAdd, Nat.reduceLeDiff, Nat.reduceMul, E.done, rvsK, rvK, resAV, Int.reduceToNat, Int.reduceLE, Int.reduceLT, Int.reduceNeg, Int.reduceAdd, Int.reduceSub, Int.reduceMul, Nat.reduceLT, AV.isElem, AV.one, ↓buildCells.eq_1, ↓buildCells.eq_2, Nat.reduceBEq, eqCells]
  refine CL_pure (s56 m _ _ hr.q.1 hp.q.1) rfl ?_
  simp -implicitDefEqProofs (disch := omega) only [KF, KV0, KV1, KV2, KW, ↓bstep, ↓astep, ↓O1.eq_def, ↓onBool.eq_def, ↓onInt.eq_def, ↓onStr.eq_def, ↓onLo.eq_def, ↓binK.eq_def, ↓arith.eq_def, ↓strOp.eq_def, ↓srcElems.eq_def, ↓dst1.eq_def, args0, List.zipIdx, List.map, lookup, St.ev, St.set, St.setO, reduceCtorEq, AV.plain, AV.plainL, AV.flat, AV.flatL, AV.cells, Nat.reduceEqDiff, ↓reduceIte, List.drop, List.take, List.length, Nat.reduceAdd, Nat.reduceLeDiff, Nat.reduceMul, E.done, rvsK, rvK, resAV, Int.reduceToNat, Int.reduceLE, Int.reduceLT, Int.reduceNeg, Int.reduceAdd, Int.reduceSub, Int.reduceMul, Nat.reduceLT, AV.isElem, AV.one, ↓buildCells.eq_1, ↓buildCells.eq_2, Nat.reduceBEq, eqCells]
  refine CL_pure (s55 m _ _ (qk1 (bd_sub hq.2 hp.2)) (qk1 (bd_sub hr.1 hp.1))) rfl ?_
  simp -implicitDefEqProofs (disch := omega) only [KF, KV0, KV1, KV2, KW, ↓bstep, ↓astep, ↓O1.eq_def, ↓onBool.eq_def, ↓onInt.eq_def, ↓onStr.eq_def, ↓onLo.eq_def, ↓binK.eq_def, ↓arith.eq_def, ↓strOp.eq_def, ↓srcElems.eq_def, ↓dst1.eq_def, args0, List.zipIdx, List.map, lookup, St.ev, St.set, St.setO, reduceCtorEq, AV.plain, AV.plainL, AV.flat, AV.flatL, AV.cells, Nat.reduceEqDiff, ↓reduceIte, List.drop, List.take, List.length, Nat.reduceAdd, Nat.reduceLeDiff, Nat.reduceMul, E.done, rvsK, rvK, resAV, Int.reduceToNat, Int.reduceLE, Int.reduceLT, Int.reduceNeg, Int.reduceAdd, Int.reduceSub, Int.reduceMul, Nat.reduceLT, AV.isElem, AV.one, ↓buildCells.eq_1, ↓buildCells.eq_2, Nat.reduceBEq, eqCells]
  refine CL_pure (s56 m _ _ (qk1 (bd_mul (bd_sub hq.1 hp.1) (bd_sub hr.2 hp.2))) (qk1 (bd_mul (bd_sub hq.2 hp.2) (bd_sub hr.1 hp.1)))) rfl ?_
  simp -implicitDefEqProofs (disch := omega) only [KF, KV0, KV1, KV2, KW, ↓bstep, ↓astep, ↓O1.eq_def, ↓onBool.eq_def, ↓onInt.eq_def, ↓onStr.eq_def, ↓onLo.eq_def, ↓binK.eq_def, ↓arith.eq_def, ↓strOp.eq_def, ↓srcElems.eq_def, ↓dst1.eq_def, args0, List.zipIdx, List.map, lookup, St.ev, St.set, St.setO, reduceCtorEq, AV.plain, AV.plainL, AV.flat, AV.flatL, AV.cells, Nat.reduceEqDiff, ↓reduceIte, List.drop, List.take, List.length, Nat.reduceAdd, Nat.reduceLeDiff, Nat.reduceMul, E.done, rvsK, rvK, resAV, Int.reduceToNat, Int.reduceLE, Int.reduceLT, Int.reduceNeg, Int.reduceAdd, Int.reduceSub, Int.reduceMul, Nat.reduceLT, AV.isElem, AV.one, ↓buildCells.eq_1, ↓buildCells.eq_2, Nat.reduceBEq, eqCells]
  exact shs rfl
theorem s52 (m : Int) (p q r : Pt) (hp : P9 p) (hq : P9 q) (hr : P9 r) : SpecP (cx m) 52 [eP p, eP q, eP r] (.str (tq (ar p q r))) := by
  refine specP_of (mixed m) (k52 m) (Nat.le_of_ble_eq_true rfl) (X_start ?_)
  unfold c52
  simp -implicitDefEqProofs (disch := omega) only [KF, KV0, KV1, KV2, KW, ↓bstep, ↓astep, ↓O1.eq_def, ↓onBool.eq_def, ↓onInt.eq_def, ↓onStr.eq_def, ↓onLo.eq_def, ↓binK.eq_def, ↓arith.eq_def, ↓strOp.eq_def, ↓srcElems.eq_def, ↓dst1.eq_def, args0, List.zipIdx, List.map, lookup, St.ev, St.set, St.setO, reduceCtorEq, AV.plain, AV.plainL, AV.flat, AV.flatL, AV.cells, Nat.reduceEqDiff, ↓reduceIte, List.drop, List.take, List.length, Nat.reduceAdd, Nat.reduceLeDiff, Nat.reduceMul, E.done, rvsK, rvK, resAV, Int.reduceToNat, Int.reduceLE, Int.reduceLT, Int.reduceNeg, Int.reduceAdd, Int.reduceSub, Int.reduceMul, Nat.reduceLT, AV.isElem, AV.one, ↓buildCells.eq_1, ↓buildCells.eq_2, Nat.reduceBEq, eqCells, eP]
  refine CL_pure (s56 m _ _ hq.q.1 hp.q.1) rfl ?_
  simp -implicitDefEqProofs (disch := omega) only [KF, KV0, KV1, KV2, KW, ↓bstep, ↓astep, ↓O1.eq_def, ↓onBool.eq_def, ↓onInt.eq_def, ↓onStr.eq_def, ↓onLo.eq_def, ↓binK.eq_def, ↓arith.eq_def, ↓strOp.eq_def, ↓srcElems.eq_def, ↓dst1.eq_def, args0, List.zipIdx, List.map, lookup, St.ev, St.set, St.setO, reduceCtorEq, AV.plain, AV.plainL, AV.flat, AV.flatL, AV.cells, Nat.reduceEqDiff, ↓reduceIte, List.drop, List.take, List.length, Nat.reduceAdd, Nat.reduceLeDiff, Nat.reduceMul, E.done, rvsK, rvK, resAV, Int.reduceToNat, Int.reduceLE, Int.reduceLT, Int.reduceNeg, Int.reduceAdd, Int.reduceSub, Int.reduceMul, Nat.reduceLT, AV.isElem, AV.one, ↓buildCells.eq_1, ↓buildCells.eq_2, Nat.reduceBEq, eqCells]
  refine CL_pure (s56 m _ _ hr.q.2 hp.q.2) rfl ?_
  simp -implicitDefEqProofs (disch := omega) only [KF, KV0, KV1, KV2, KW, ↓bstep, ↓astep, ↓O1.eq_def, ↓onBool.eq_def, ↓onInt.eq_def, ↓onStr.eq_def, ↓onLo.eq_def, ↓binK.eq_def, ↓arith.eq_def, ↓strOp.eq_def, ↓srcElems.eq_def, ↓dst1.eq_def, args0, List.zipIdx, List.map, lookup, St.ev, St.set, St.setO, reduceCtorEq, AV.plain, AV.plainL, AV.flat, AV.flatL, AV.cells, Nat.reduceEqDiff, ↓reduceIte, List.drop, List.take, List.length, Nat.reduceAdd, Nat.reduceLeDiff, Nat.reduceMul, E.done, rvsK, rvK, resAV, Int.reduceToNat, Int.reduceLE, Int.reduceLT, Int.reduceNeg, Int.reduceAdd, Int.reduceSub, Int.reduceMul, Nat.reduceLT, AV.isElem, AV.one, ↓buildCells.eq_1, ↓buildCells.eq_2, Nat.reduceBEq, eqCells]
  refine CL_pure (s55 m _ _ (qk1 (bd_sub hq.1 hp.1)) (qk1 (bd_sub hr.2 hp.2))) rfl ?_
  simp -implicitDefEqProofs (disch := omega) only [KF, KV0, KV1, KV2, KW, ↓bstep, ↓astep, ↓O1.eq_def, ↓onBool.eq_def, ↓onInt.eq_def, ↓onStr.eq_def, ↓onLo.eq_def, ↓binK.eq_def, ↓arith.eq_def, ↓strOp.eq_def, ↓srcElems.eq_def, ↓dst1.eq_def, args0, List.zipIdx, List.map, lookup, St.ev, St.set, St.setO, reduceCtorEq, AV.plain, AV.plainL, AV.flat, AV.flatL, AV.cells, Nat.reduceEqDiff, ↓reduceIte, List.drop, List.take, List.length, Nat.reduceAdd, Nat.reduceLeDiff, Nat.reduceMul, E.done, rvsK, rvK, resAV, Int.reduceToNat, Int.reduceLE, Int.reduceLT, Int.reduceNeg, Int.reduceAdd, Int.reduceSub, Int.reduceMul, Nat.reduceLT, AV.isElem, AV.one, ↓buildCells.eq_1, ↓buildCells.eq_2, Nat.reduceBEq, eqCells]
  refine CL_pure (s56 m _ _ hq.q.2 hp.q.2) rfl ?_
  simp -implicitDefEqProofs (disch := omega) only [KF, KV0, KV1, KV2, KW, ↓bstep, ↓astep, ↓O1.eq_def, ↓onBool.eq_def, ↓onInt.eq_def, ↓onStr.eq_def, ↓onLo.eq_def, ↓binK.eq_def, ↓arith.eq_def, ↓strOp.eq_def, ↓srcElems.eq_def, ↓dst1.eq_def, args0, List.zipIdx, List.map, lookup, St.ev, St.set, St.setO, reduceCtorEq, AV.plain, AV.plainL, AV.flat, AV.flatL, AV.cells, Nat.reduceEqDiff, ↓reduceIte, List.drop, List.take, List.length, Nat.reduceAdd, Nat.reduceLeDiff, Nat.reduceMul, E.done, rvsK, rvK, resAV, Int.reduceToNat, Int.reduceLE, Int.reduceLT, Int.reduceNeg, Int.reduceAdd, Int.reduceSub, Int.reduceMul, Nat.reduceLT, AV.isElem, AV.one, ↓buildCells.eq_1, ↓buildCells.eq_2, Nat.reduceBEq, eqCells]
  refine CL_pure (s56 m _ _ hr.q.1 hp.q.1) rfl ?_
  simp -implicitDefEqProofs (disch := omega) only [KF, KV0, KV1, KV2, KW, ↓bstep, ↓astep, ↓O1.eq_def, ↓onBool.eq_def, ↓onInt.eq_def, ↓onStr.eq_def, ↓onLo.eq_def, ↓binK.eq_def, ↓arith.eq_def, ↓strOp.eq_def, ↓srcElems.eq_def, ↓dst1.eq_def, args0, List.zipIdx, List.map, lookup, St.ev, St.set, St.setO, reduceCtorEq, AV.plain, AV.plainL, AV.flat, AV.flatL, AV.cells, Nat.reduceEqDiff, ↓reduceIte, List.drop, List.take, List.length, Nat.reduceAdd, Nat.reduceLeDiff, Nat.reduceMul, E.done, rvsK, rvK, resAV, Int.reduceToNat, Int.reduceLE, Int.reduceLT, Int.reduceNeg, Int.reduceAdd, Int.reduceSub, Int.reduceMul, Nat.reduceLT, AV.isElem, AV.one, ↓buildCells.eq_1, ↓buildCells.eq_2, Nat.reduceBEq, eqCells]
  refine CL_pure (s55 m _ _ (qk1 (bd_sub hq.2 hp.2)) (qk1 (bd_sub hr.1 hp.1))) rfl ?_
  simp -implicitDefEqProofs (disch := omega) only [KF, KV0, KV1, KV2, KW, ↓bstep, ↓astep, ↓O1.eq_def, ↓onBool.eq_def, ↓onInt.eq_def, ↓onStr.eq_def, ↓onLo.eq_def, ↓binK.eq_def, ↓arith.eq_def, ↓strOp.eq_def, ↓srcElems.eq_def, ↓dst1.eq_def, args0, List.zipIdx, List.map, lookup, St.ev, St.set, St.setO, reduceCtorEq, AV.plain, AV.plainL, AV.flat, AV.flatL, AV.cells, Nat.reduceEqDiff, ↓reduceIte, List.drop, List.take, List.length, Nat.reduceAdd, Nat.reduceLeDiff, Nat.reduceMul, E.done, rvsK, rvK, resAV, Int.reduceToNat, Int.reduceLE, Int.reduceLT, Int.reduceNeg, Int.reduceAdd, Int.reduceSub, Int.reduceMul, Nat.reduceLT, AV.isElem, AV.one, ↓buildCells.eq_1, ↓buildCells.eq_2, Nat.reduceBEq, eqCells]
  refine CL_pure (s56 m _ _ (qk1 (bd_mul (bd_sub hq.1 hp.1) (bd_sub hr.2 hp.2))) (qk1 (bd_mul (bd_sub hq.2 hp.2) (bd_sub hr.1 hp.1)))) rfl ?_
  simp -implicitDefEqProofs (disch := omega) only [KF, KV0, KV1, KV2, KW, ↓bstep, ↓astep, ↓O1.eq_def, ↓onBool.eq_def, ↓onInt.eq_def, ↓onStr.eq_def, ↓onLo.eq_def, ↓binK.eq_def, ↓arith.eq_def, ↓strOp.eq_def, ↓srcElems.eq_def, ↓dst1.eq_def, args0, List.zipIdx, List.map, lookup, St.ev, St.set, St.setO, reduceCtorEq, AV.plain, AV.plainL, AV.flat, AV.flatL, AV.cells, Nat.reduceEqDiff, ↓reduceIte, List.drop, List.take, List.length, Nat.reduceAdd, Nat.reduceLeDiff, Nat.reduceMul, E.done, rvsK, rvK, resAV, Int.reduceToNat, Int.reduceLE, Int.reduceLT, Int.reduceNeg, Int.reduceAdd, Int.reduceSub, Int.reduceMul, Nat.reduceLT, AV.isElem, AV.one, ↓buildCells.eq_1, ↓buildCells.eq_2, Nat.reduceBEq, eqCells]
  exact shs rfl
theorem s18' (m : Int) (q : Rat) : SpecP (cx m) 18 [.str (tq q)] (.int .i64 (sg q)) := s18 m q
theorem s62 (m : Int) (p q r : Pt) (hp : P9 p) (hq : P9 q) (hr : P9 r) : SpecP (cx m) 62 [eP p, eP q, eP r] (.int .i64 (sg (ar p q r))) := by
  refine specP_of (mixed m) (k62 m) (Nat.le_of_ble_eq_true rfl) (X_start ?_)
  unfold c62
  have h := s52 m p q r hp hq hr
  unfold eP at h
  simp -implicitDefEqProofs (disch := omega) only [KF, KV0, KV1, KV2, KW, ↓bstep, ↓astep, ↓O1.eq_def, ↓onBool.eq_def, ↓onInt.eq_def, ↓onStr.eq_def, ↓onLo.eq_def, ↓binK.eq_def, ↓arith.eq_def, ↓strOp.eq_def, ↓srcElems.eq_def, ↓dst1.eq_def, args0, List.zipIdx, List.map, lookup, St.ev, St.set, St.setO, reduceCtorEq, AV.plain, AV.plainL, AV.flat, AV.flatL, AV.cells, Nat.reduceEqDiff, ↓reduceIte, List.drop, List.take, List.length, Nat.reduceAdd, Nat.reduceLeDiff, Nat.reduceMul, E.done, rvsK, rvK, resAV, Int.reduceToNat, Int.reduceLE, Int.reduceLT, Int.reduceNeg, Int.reduceAdd, Int.reduceSub, Int.reduceMul, Nat.reduceLT, AV.isElem, AV.one, ↓buildCells.eq_1, ↓buildCells.eq_2, Nat.reduceBEq, eqCells, eP]
  refine CL_pure h rfl ?_
  simp -implicitDefEqProofs (disch := omega) only [KF, KV0, KV1, KV2, KW, ↓bstep, ↓astep, ↓O1.eq_def, ↓onBool.eq_def, ↓onInt.eq_def, ↓onStr.eq_def, ↓onLo.eq_def, ↓binK.eq_def, ↓arith.eq_def, ↓strOp.eq_def, ↓srcElems.eq_def, ↓dst1.eq_def, args0, List.zipIdx, List.map, lookup, St.ev, St.set, St.setO, reduceCtorEq, AV.plain, AV.plainL, AV.flat, AV.flatL, AV.cells, Nat.reduceEqDiff, ↓reduceIte, List.drop, List.take, List.length, Nat.reduceAdd, Nat.reduceLeDiff, Nat.reduceMul, E.done, rvsK, rvK, resAV, Int.reduceToNat, Int.reduceLE, Int.reduceLT, Int.reduceNeg, Int.reduceAdd, Int.reduceSub, Int.reduceMul, Nat.reduceLT, AV.isElem, AV.one, ↓buildCells.eq_1, ↓buildCells.eq_2, Nat.reduceBEq, eqCells]
  refine CL_pure (s18' m _) rfl ?_
  simp -implicitDefEqProofs (disch := omega) only [KF, KV0, KV1, KV2, KW, ↓bstep, ↓astep, ↓O1.eq_def, ↓onBool.eq_def, ↓onInt.eq_def, ↓onStr.eq_def, ↓onLo.eq_def, ↓binK.eq_def, ↓arith.eq_def, ↓strOp.eq_def, ↓srcElems.eq_def, ↓dst1.eq_def, args0, List.zipIdx, List.map, lookup, St.ev, St.set, St.setO, reduceCtorEq, AV.plain, AV.plainL, AV.flat, AV.flatL, AV.cells, Nat.reduceEqDiff, ↓reduceIte, List.drop, List.take, List.length, Nat.reduceAdd, Nat.reduceLeDiff, Nat.reduceMul, E.done, rvsK, rvK, resAV, Int.reduceToNat, Int.reduceLE, Int.reduceLT, Int.reduceNeg, Int.reduceAdd, Int.reduceSub, Int.reduceMul, Nat.reduceLT, AV.isElem, AV.one, ↓buildCells.eq_1, ↓buildCells.eq_2, Nat.reduceBEq, eqCells]
  exact shi rfl
theorem s32 (m : Int) (p q : Pt) (hp : PQ p) (hq : PQ q) : SpecP (cx m) 32 [eP p, eP q] (.int .i64 (cp p q)) := by
  refine specP_of (mixed m) (k32 m) (Nat.le_of_ble_eq_true rfl) (X_start ?_)
  unfold c32
  simp -implicitDefEqProofs (disch := omega) only [KF, KV0, KV1, KV2, KW, ↓bstep, ↓astep, ↓O1.eq_def, ↓onBool.eq_def, ↓onInt.eq_def, ↓onStr.eq_def, ↓onLo.eq_def, ↓binK.eq_def, ↓arith.eq_def, ↓strOp.eq_def, ↓srcElems.eq_def, ↓dst1.eq_def, args0, List.zipIdx, List.map, lookup, St.ev, St.set, St.setO, reduceCtorEq, AV.plain, AV.plainL, AV.flat, AV.flatL, AV.cells, Nat.reduceEqDiff, ↓reduceIte, List.drop, List.take, List.length, Nat.reduceAdd, Nat.reduceLeDiff, Nat.reduceMul, E.done, rvsK, rvK, resAV, Int.reduceToNat, Int.reduceLE, Int.reduceLT, Int.reduceNeg, Int.reduceAdd, Int.reduceSub, Int.reduceMul, Nat.reduceLT, AV.isElem, AV.one, ↓buildCells.eq_1, ↓buildCells.eq_2, Nat.reduceBEq, eqCells, eP]
  refine CL_pure (s21 m _ _ hp.1 hq.1) rfl ?_
  simp -implicitDefEqProofs (disch := omega) only [KF, KV0, KV1, KV2, KW, ↓bstep, ↓astep, ↓O1.eq_def, ↓onBool.eq_def, ↓onInt.eq_def, ↓onStr.eq_def, ↓onLo.eq_def, ↓binK.eq_def, ↓arith.eq_def, ↓strOp.eq_def, ↓srcElems.eq_def, ↓dst1.eq_def, args0, List.zipIdx, List.map, lookup, St.ev, St.set, St.setO, reduceCtorEq, AV.plain, AV.plainL, AV.flat, AV.flatL, AV.cells, Nat.reduceEqDiff, ↓reduceIte, List.drop, List.take, List.length, Nat.reduceAdd, Nat.reduceLeDiff, Nat.reduceMul, E.done, rvsK, rvK, resAV, Int.reduceToNat, Int.reduceLE, Int.reduceLT, Int.reduceNeg, Int.reduceAdd, Int.reduceSub, Int.reduceMul, Nat.reduceLT, AV.isElem, AV.one, ↓buildCells.eq_1, ↓buildCells.eq_2, Nat.reduceBEq, eqCells]
  refine iteI (fun h => shi (by unfold cp; rw [if_pos h])) (fun h => ?_)
  refine CL_pure (s21 m _ _ hp.2 hq.2) rfl ?_
  simp -implicitDefEqProofs (disch := omega) only [KF, KV0, KV1, KV2, KW, ↓bstep, ↓astep, ↓O1.eq_def, ↓onBool.eq_def, ↓onInt.eq_def, ↓onStr.eq_def, ↓onLo.eq_def, ↓binK.eq_def, ↓arith.eq_def, ↓strOp.eq_def, ↓srcElems.eq_def, ↓dst1.eq_def, args0, List.zipIdx, List.map, lookup, St.ev, St.set, St.setO, reduceCtorEq, AV.plain, AV.plainL, AV.flat, AV.flatL, AV.cells, Nat.reduceEqDiff, ↓reduceIte, List.drop, List.take, List.length, Nat.reduceAdd, Nat.reduceLeDiff, Nat.reduceMul, E.done, rvsK, rvK, resAV, Int.reduceToNat, Int.reduceLE, Int.reduceLT, Int.reduceNeg, Int.reduceAdd, Int.reduceSub, Int.reduceMul, Nat.reduceLT, AV.isElem, AV.one, ↓buildCells.eq_1, ↓buildCells.eq_2, Nat.reduceBEq, eqCells]
  exact shi (by unfold cp; rw [if_neg h])
theorem s70 (m : Int) (p q : Pt) (hp : PQ p) (hq : PQ q) : SpecP (cx m) 70 [eP p, eP q] (.int .i64 (cp p q)) := by
  refine specP_of (mixed m) (k70 m) (Nat.le_of_ble_eq_true rfl) (X_start ?_)
  unfold c70
  simp -implicitDefEqProofs (disch := omega) only [KF, KV0, KV1, KV2, KW, ↓bstep, ↓astep, ↓O1.eq_def, ↓onBool.eq_def, ↓onInt.eq_def, ↓onStr.eq_def, ↓onLo.eq_def, ↓binK.eq_def, ↓arith.eq_def, ↓strOp.eq_def, ↓srcElems.eq_def, ↓dst1.eq_def, args0, List.zipIdx, List.map, lookup, St.ev, St.set, St.setO, reduceCtorEq, AV.plain, AV.plainL, AV.flat, AV.flatL, AV.cells, Nat.reduceEqDiff, ↓reduceIte, List.drop, List.take, List.length, Nat.reduceAdd, Nat.reduceLeDiff, Nat.reduceMul, E.done, rvsK, rvK, resAV, Int.reduceToNat, Int.reduceLE, Int.reduceLT, Int.reduceNeg, Int.reduceAdd, Int.reduceSub, Int.reduceMul, Nat.reduceLT, AV.isElem, AV.one, ↓buildCells.eq_1, ↓buildCells.eq_2, Nat.reduceBEq, eqCells, eP]
  refine CL_pure (s21 m _ _ hp.1 hq.1) rfl ?_
  simp -implicitDefEqProofs (disch := omega) only [KF, KV0, KV1, KV2, KW, ↓bstep, ↓astep, ↓O1.eq_def, ↓onBool.eq_def, ↓onInt.eq_def, ↓onStr.eq_def, ↓onLo.eq_def, ↓binK.eq_def, ↓arith.eq_def, ↓strOp.eq_def, ↓srcElems.eq_def, ↓dst1.eq_def, args0, List.zipIdx, List.map, lookup, St.ev, St.set, St.setO, reduceCtorEq, AV.plain, AV.plainL, AV.flat, AV.flatL, AV.cells, Nat.reduceEqDiff, ↓reduceIte, List.drop, List.take, List.length, Nat.reduceAdd, Nat.reduceLeDiff, Nat.reduceMul, E.done, rvsK, rvK, resAV, Int.reduceToNat, Int.reduceLE, Int.reduceLT, Int.reduceNeg, Int.reduceAdd, Int.reduceSub, Int.reduceMul, Nat.reduceLT, AV.isElem, AV.one, ↓buildCells.eq_1, ↓buildCells.eq_2, Nat.reduceBEq, eqCells]
  refine iteI (fun h => shi (by unfold cp; rw [if_pos h])) (fun h => ?_)
  refine CL_pure (s21 m _ _ hp.2 hq.2) rfl ?_
  simp -implicitDefEqProofs (disch := omega) only [KF, KV0, KV1, KV2, KW, ↓bstep, ↓astep, ↓O1.eq_def, ↓onBool.eq_def, ↓onInt.eq_def, ↓onStr.eq_def, ↓onLo.eq_def, ↓binK.eq_def, ↓arith.eq_def, ↓strOp.eq_def, ↓srcElems.eq_def, ↓dst1.eq_def, args0, List.zipIdx, List.map, lookup, St.ev, St.set, St.setO, reduceCtorEq, AV.plain, AV.plainL, AV.flat, AV.flatL, AV.cells, Nat.reduceEqDiff, ↓reduceIte, List.drop, List.take, List.length, Nat.reduceAdd, Nat.reduceLeDiff, Nat.reduceMul, E.done, rvsK, rvK, resAV, Int.reduceToNat, Int.reduceLE, Int.reduceLT, Int.reduceNeg, Int.reduceAdd, Int.reduceSub, Int.reduceMul, Nat.reduceLT, AV.isElem, AV.one, ↓buildCells.eq_1, ↓buildCells.eq_2, Nat.reduceBEq, eqCells]
  exact shi (by unfold cp; rw [if_neg h])

/-- klippelaw11.between -/
theorem s25 (m : Int) (a b p : Pt) (ha : P9 a) (hb : P9 b) (hp : P9 p) : SpecP (cx m) 25 [eP a, eP b, eP p] (.bool (btw a b p)) := by
  refine specP_of (mixed m) (k25 m) (Nat.le_of_ble_eq_true rfl) (X_start ?_)
  unfold c25
  have h32 := fun p q (hp : PQ p) (hq : PQ q) => s32 m p q hp hq
  have h20 := s20 m a b p ha hb hp
  unfold eP at h32 h20
  have c1 := h32 a b ha.q hb.q
  have key : btw a b p = (decide (sg (ar a b p) = 0) && (decide (cp (lo a b) p ≤ 0) && decide (cp p (hi a b) ≤ 0))) := rfl
  simp -implicitDefEqProofs (disch := omega) only [KF, KV0, KV1, KV2, KW, ↓bstep, ↓astep, ↓O1.eq_def, ↓onBool.eq_def, ↓onInt.eq_def, ↓onStr.eq_def, ↓onLo.eq_def, ↓binK.eq_def, ↓arith.eq_def, ↓strOp.eq_def, ↓srcElems.eq_def, ↓dst1.eq_def, args0, List.zipIdx, List.map, lookup, St.ev, St.set, St.setO, reduceCtorEq, AV.plain, AV.plainL, AV.flat, AV.flatL, AV.cells, Nat.reduceEqDiff, ↓reduceIte, List.drop, List.take, List.length, Nat.reduceAdd, Nat.reduceLeDiff, Nat.reduceMul, E.done, rvsK, rvK, resAV, Int.reduceToNat, Int.reduceLE, Int.reduceLT, Int.reduceNeg, Int.reduceAdd, Int.reduceSub, Int.reduceMul, Nat.reduceLT, AV.isElem, AV.one, ↓buildCells.eq_1, ↓buildCells.eq_2, Nat.reduceBEq, eqCells, eP]
  refine CL_pure c1 rfl ?_
  simp -implicitDefEqProofs (disch := omega) only [KF, KV0, KV1, KV2, KW, ↓bstep, ↓astep, ↓O1.eq_def, ↓onBool.eq_def, ↓onInt.eq_def, ↓onStr.eq_def, ↓onLo.eq_def, ↓binK.eq_def, ↓arith.eq_def, ↓strOp.eq_def, ↓srcElems.eq_def, ↓dst1.eq_def, args0, List.zipIdx, List.map, lookup, St.ev, St.set, St.setO, reduceCtorEq, AV.plain, AV.plainL, AV.flat, AV.flatL, AV.cells, Nat.reduceEqDiff, ↓reduceIte, List.drop, List.take, List.length, Nat.reduceAdd, Nat.reduceLeDiff, Nat.reduceMul, E.done, rvsK, rvK, resAV, Int.reduceToNat, Int.reduceLE, Int.reduceLT, Int.reduceNeg, Int.reduceAdd, Int.reduceSub, Int.reduceMul, Nat.reduceLT, AV.isElem, AV.one, ↓buildCells.eq_1, ↓buildCells.eq_2, Nat.reduceBEq, eqCells]
  refine iteI (fun h => ?_) (fun h => ?_)
  · have e1 : lo a b = b := by unfold lo; rw [if_pos h]
    have e2 : hi a b = a := by unfold hi; rw [if_pos h]
    rw [e1, e2] at key
    refine CL_pure h20 rfl ?_
    simp -implicitDefEqProofs (disch := omega) only [KF, KV0, KV1, KV2, KW, ↓bstep, ↓astep, ↓O1.eq_def, ↓onBool.eq_def, ↓onInt.eq_def, ↓onStr.eq_def, ↓onLo.eq_def, ↓binK.eq_def, ↓arith.eq_def, ↓strOp.eq_def, ↓srcElems.eq_def, ↓dst1.eq_def, args0, List.zipIdx, List.map, lookup, St.ev, St.set, St.setO, reduceCtorEq, AV.plain, AV.plainL, AV.flat, AV.flatL, AV.cells, Nat.reduceEqDiff, ↓reduceIte, List.drop, List.take, List.length, Nat.reduceAdd, Nat.reduceLeDiff, Nat.reduceMul, E.done, rvsK, rvK, resAV, Int.reduceToNat, Int.reduceLE, Int.reduceLT, Int.reduceNeg, Int.reduceAdd, Int.reduceSub, Int.reduceMul, Nat.reduceLT, AV.isElem, AV.one, ↓buildCells.eq_1, ↓buildCells.eq_2, Nat.reduceBEq, eqCells]
    refine CL_pure (s18' m _) rfl ?_
    simp -implicitDefEqProofs (disch := omega) only [KF, KV0, KV1, KV2, KW, ↓bstep, ↓astep, ↓O1.eq_def, ↓onBool.eq_def, ↓onInt.eq_def, ↓onStr.eq_def, ↓onLo.eq_def, ↓binK.eq_def, ↓arith.eq_def, ↓strOp.eq_def, ↓srcElems.eq_def, ↓dst1.eq_def, args0, List.zipIdx, List.map, lookup, St.ev, St.set, St.setO, reduceCtorEq, AV.plain, AV.plainL, AV.flat, AV.flatL, AV.cells, Nat.reduceEqDiff, ↓reduceIte, List.drop, List.take, List.length, Nat.reduceAdd, Nat.reduceLeDiff, Nat.reduceMul, E.done, rvsK, rvK, resAV, Int.reduceToNat, Int.reduceLE, Int.reduceLT, Int.reduceNeg, Int.reduceAdd, Int.reduceSub, Int.reduceMul, Nat.reduceLT, AV.isElem, AV.one, ↓buildCells.eq_1, ↓buildCells.eq_2, Nat.reduceBEq, eqCells]
    refine iteI (fun h1 => ?_) (fun h1 => shb (by rw [key]; simp [h1]))
    refine CL_pure (h32 b p hb.q hp.q) rfl ?_
    simp -implicitDefEqProofs (disch := omega) only [KF, KV0, KV1, KV2, KW, ↓bstep, ↓astep, ↓O1.eq_def, ↓onBool.eq_def, ↓onInt.eq_def, ↓onStr.eq_def, ↓onLo.eq_def, ↓binK.eq_def, ↓arith.eq_def, ↓strOp.eq_def, ↓srcElems.eq_def, ↓dst1.eq_def, args0, List.zipIdx, List.map, lookup, St.ev, St.set, St.setO, reduceCtorEq, AV.plain, AV.plainL, AV.flat, AV.flatL, AV.cells, Nat.reduceEqDiff, ↓reduceIte, List.drop, List.take, List.length, Nat.reduceAdd, Nat.reduceLeDiff, Nat.reduceMul, E.done, rvsK, rvK, resAV, Int.reduceToNat, Int.reduceLE, Int.reduceLT, Int.reduceNeg, Int.reduceAdd, Int.reduceSub, Int.reduceMul, Nat.reduceLT, AV.isElem, AV.one, ↓buildCells.eq_1, ↓buildCells.eq_2, Nat.reduceBEq, eqCells]
    refine iteI (fun h2 => ?_) (fun h2 => shb (by rw [key]; simp [h1]; omega))
    refine CL_pure (h32 p a hp.q ha.q) rfl ?_
    simp -implicitDefEqProofs (disch := omega) only [KF, KV0, KV1, KV2, KW, ↓bstep, ↓astep, ↓O1.eq_def, ↓onBool.eq_def, ↓onInt.eq_def, ↓onStr.eq_def, ↓onLo.eq_def, ↓binK.eq_def, ↓arith.eq_def, ↓strOp.eq_def, ↓srcElems.eq_def, ↓dst1.eq_def, args0, List.zipIdx, List.map, lookup, St.ev, St.set, St.setO, reduceCtorEq, AV.plain, AV.plainL, AV.flat, AV.flatL, AV.cells, Nat.reduceEqDiff, ↓reduceIte, List.drop, List.take, List.length, Nat.reduceAdd, Nat.reduceLeDiff, Nat.reduceMul, E.done, rvsK, rvK, resAV, Int.reduceToNat, Int.reduceLE, Int.reduceLT, Int.reduceNeg, Int.reduceAdd, Int.reduceSub, Int.reduceMul, Nat.reduceLT, AV.isElem, AV.one, ↓buildCells.eq_1, ↓buildCells.eq_2, Nat.reduceBEq, eqCells]
    exact shb (by rw [key]; simp [h1, h2])
  · have e1 : lo a b = a := by unfold lo; rw [if_neg h]
    have e2 : hi a b = b := by unfold hi; rw [if_neg h]
    rw [e1, e2] at key
    refine CL_pure h20 rfl ?_
    simp -implicitDefEqProofs (disch := omega) only [KF, KV0, KV1, KV2, KW, ↓bstep, ↓astep, ↓O1.eq_def, ↓onBool.eq_def, ↓onInt.eq_def, ↓onStr.eq_def, ↓onLo.eq_def, ↓binK.eq_def, ↓arith.eq_def, ↓strOp.eq_def, ↓srcElems.eq_def, ↓dst1.eq_def, args0, List.zipIdx, List.map, lookup, St.ev, St.set, St.setO, reduceCtorEq, AV.plain, AV.plainL, AV.flat, AV.flatL, AV.cells, Nat.reduceEqDiff, ↓reduceIte, List.drop, List.take, List.length, Nat.reduceAdd, Nat.reduceLeDiff, Nat.reduceMul, E.done, rvsK, rvK, resAV, Int.reduceToNat, Int.reduceLE, Int.reduceLT, Int.reduceNeg, Int.reduceAdd, Int.reduceSub, Int.reduceMul, Nat.reduceLT, AV.isElem, AV.one, ↓buildCells.eq_1, ↓buildCells.eq_2, Nat.reduceBEq, eqCells]
    refine CL_pure (s18' m _) rfl ?_
    simp -implicitDefEqProofs (disch := omega) only [KF, KV0, KV1, KV2, KW, ↓bstep, ↓astep, ↓O1.eq_def, ↓onBool.eq_def, ↓onInt.eq_def, ↓onStr.eq_def, ↓onLo.eq_def, ↓binK.eq_def, ↓arith.eq_def, ↓strOp.eq_def, ↓srcElems.eq_def, ↓dst1.eq_def, args0, List.zipIdx, List.map, lookup, St.ev, St.set, St.setO, reduceCtorEq, AV.plain, AV.plainL, AV.flat, AV.flatL, AV.cells, Nat.reduceEqDiff, ↓reduceIte, List.drop, List.take, List.length, Nat.reduceAdd, Nat.reduceLeDiff, Nat.reduceMul, E.done, rvsK, rvK, resAV, Int.reduceToNat, Int.reduceLE, Int.reduceLT, Int.reduceNeg, Int.reduceAdd, Int.reduceSub, Int.reduceMul, Nat.reduceLT, AV.isElem, AV.one, ↓buildCells.eq_1, ↓buildCells.eq_2, Nat.reduceBEq, eqCells]
    refine iteI (fun h1 => ?_) (fun h1 => shb (by rw [key]; simp [h1]))
    refine CL_pure (h32 a p ha.q hp.q) rfl ?_
    simp -implicitDefEqProofs (disch := omega) only [KF, KV0, KV1, KV2, KW, ↓bstep, ↓astep, ↓O1.eq_def, ↓onBool.eq_def, ↓onInt.eq_def, ↓onStr.eq_def, ↓onLo.eq_def, ↓binK.eq_def, ↓arith.eq_def, ↓strOp.eq_def, ↓srcElems.eq_def, ↓dst1.eq_def, args0, List.zipIdx, List.map, lookup, St.ev, St.set, St.setO, reduceCtorEq, AV.plain, AV.plainL, AV.flat, AV.flatL, AV.cells, Nat.reduceEqDiff, ↓reduceIte, List.drop, List.take, List.length, Nat.reduceAdd, Nat.reduceLeDiff, Nat.reduceMul, E.done, rvsK, rvK, resAV, Int.reduceToNat, Int.reduceLE, Int.reduceLT, Int.reduceNeg, Int.reduceAdd, Int.reduceSub, Int.reduceMul, Nat.reduceLT, AV.isElem, AV.one, ↓buildCells.eq_1, ↓buildCells.eq_2, Nat.reduceBEq, eqCells]
    refine iteI (fun h2 => ?_) (fun h2 => shb (by rw [key]; simp [h1]; omega))
    refine CL_pure (h32 p b hp.q hb.q) rfl ?_
    simp -implicitDefEqProofs (disch := omega) only [KF, KV0, KV1, KV2, KW, ↓bstep, ↓astep, ↓O1.eq_def, ↓onBool.eq_def, ↓onInt.eq_def, ↓onStr.eq_def, ↓onLo.eq_def, ↓binK.eq_def, ↓arith.eq_def, ↓strOp.eq_def, ↓srcElems.eq_def, ↓dst1.eq_def, args0, List.zipIdx, List.map, lookup, St.ev, St.set, St.setO, reduceCtorEq, AV.plain, AV.plainL, AV.flat, AV.flatL, AV.cells, Nat.reduceEqDiff, ↓reduceIte, List.drop, List.take, List.length, Nat.reduceAdd, Nat.reduceLeDiff, Nat.reduceMul, E.done, rvsK, rvK, resAV, Int.reduceToNat, Int.reduceLE, Int.reduceLT, Int.reduceNeg, Int.reduceAdd, Int.reduceSub, Int.reduceMul, Nat.reduceLT, AV.isElem, AV.one, ↓buildCells.eq_1, ↓buildCells.eq_2, Nat.reduceBEq, eqCells]
    exact shb (by rw [key]; simp [h1, h2])
end Go.Proofs.YtkjnjdcbnelceaaGreatDoor.KA
end

section
/- Contracts: how two segments meet. -/
open Go Go.Proofs
set_option linter.unusedSimpArgs false
set_option linter.unusedVariables false
set_option maxHeartbeats 1000000
namespace Go.Proofs.YtkjnjdcbnelceaaGreatDoor.KA
open Num Geo

/-- A place, or none. -/
def eO : Option Pt → AV
  | some p => eP p
  | none => .agg [.str [], .str []]
def eR (r : Nat × Option Pt) : AV := .tuple [.int .i64 r.1, eO r.2]
theorem eO_plain (o : Option Pt) : (eO o).plain = true := by cases o <;> rfl
theorem eR_plain (r : Nat × Option Pt) : (eR r).plain = true := by unfold eR; simp [AV.plain, AV.plainL, eO_plain]

/-- polyline.collinear -/
theorem s96 (m : Int) (a b c d : Pt) (pa : PQ a) (pb : PQ b) (pc : PQ c) (pd : PQ d) : SpecP (cx m) 96 [eP a, eP b, eP c, eP d] (eR (colP a b c d)) := by
  refine specP_of (mixed m) (k96 m) (Nat.le_of_ble_eq_true rfl) (X_start ?_)
  unfold c96
  have h70 := fun p q (hp : PQ p) (hq : PQ q) => s70 m p q hp hq
  unfold eP at h70
  simp -implicitDefEqProofs (disch := omega) only [KF, KV0, KV1, KV2, KW, ↓bstep, ↓astep, ↓O1.eq_def, ↓onBool.eq_def, ↓onInt.eq_def, ↓onStr.eq_def, ↓onLo.eq_def, ↓binK.eq_def, ↓arith.eq_def, ↓strOp.eq_def, ↓srcElems.eq_def, ↓dst1.eq_def, args0, List.zipIdx, List.map, lookup, St.ev, St.set, St.setO, reduceCtorEq, AV.plain, AV.plainL, AV.flat, AV.flatL, AV.cells, Nat.reduceEqDiff, ↓reduceIte, List.drop, List.take, List.length, Nat.reduceAdd, Nat.reduceLeDiff, Nat.reduceMul, E.done, rvsK, rvK, resAV, Int.reduceToNat, Int.reduceLE, Int.reduceLT, Int.reduceNeg, Int.reduceAdd, Int.reduceSub, Int.reduceMul, Nat.reduceLT, AV.isElem, AV.one, ↓buildCells.eq_1, ↓buildCells.eq_2, Nat.reduceBEq, eqCells, eP]
  refine CL_pure (h70 _ _ (by assumption) (by assumption)) rfl ?_
  simp -implicitDefEqProofs (disch := omega) only [KF, KV0, KV1, KV2, KW, ↓bstep, ↓astep, ↓O1.eq_def, ↓onBool.eq_def, ↓onInt.eq_def, ↓onStr.eq_def, ↓onLo.eq_def, ↓binK.eq_def, ↓arith.eq_def, ↓strOp.eq_def, ↓srcElems.eq_def, ↓dst1.eq_def, args0, List.zipIdx, List.map, lookup, St.ev, St.set, St.setO, reduceCtorEq, AV.plain, AV.plainL, AV.flat, AV.flatL, AV.cells, Nat.reduceEqDiff, ↓reduceIte, List.drop, List.take, List.length, Nat.reduceAdd, Nat.reduceLeDiff, Nat.reduceMul, E.done, rvsK, rvK, resAV, Int.reduceToNat, Int.reduceLE, Int.reduceLT, Int.reduceNeg, Int.reduceAdd, Int.reduceSub, Int.reduceMul, Nat.reduceLT, AV.isElem, AV.one, ↓buildCells.eq_1, ↓buildCells.eq_2, Nat.reduceBEq, eqCells]
  refine iteI (fun h1 => ?_) (fun h1 => ?_)
  all_goals
    refine CL_pure (h70 _ _ (by assumption) (by assumption)) rfl ?_
    simp -implicitDefEqProofs (disch := omega) only [KF, KV0, KV1, KV2, KW, ↓bstep, ↓astep, ↓O1.eq_def, ↓onBool.eq_def, ↓onInt.eq_def, ↓onStr.eq_def, ↓onLo.eq_def, ↓binK.eq_def, ↓arith.eq_def, ↓strOp.eq_def, ↓srcElems.eq_def, ↓dst1.eq_def, args0, List.zipIdx, List.map, lookup, St.ev, St.set, St.setO, reduceCtorEq, AV.plain, AV.plainL, AV.flat, AV.flatL, AV.cells, Nat.reduceEqDiff, ↓reduceIte, List.drop, List.take, List.length, Nat.reduceAdd, Nat.reduceLeDiff, Nat.reduceMul, E.done, rvsK, rvK, resAV, Int.reduceToNat, Int.reduceLE, Int.reduceLT, Int.reduceNeg, Int.reduceAdd, Int.reduceSub, Int.reduceMul, Nat.reduceLT, AV.isElem, AV.one, ↓buildCells.eq_1, ↓buildCells.eq_2, Nat.reduceBEq, eqCells]
    refine iteI (fun h2 => ?_) (fun h2 => ?_)
  all_goals
    refine CL_pure (h70 _ _ (by assumption) (by assumption)) rfl ?_
    simp -implicitDefEqProofs (disch := omega) only [KF, KV0, KV1, KV2, KW, ↓bstep, ↓astep, ↓O1.eq_def, ↓onBool.eq_def, ↓onInt.eq_def, ↓onStr.eq_def, ↓onLo.eq_def, ↓binK.eq_def, ↓arith.eq_def, ↓strOp.eq_def, ↓srcElems.eq_def, ↓dst1.eq_def, args0, List.zipIdx, List.map, lookup, St.ev, St.set, St.setO, reduceCtorEq, AV.plain, AV.plainL, AV.flat, AV.flatL, AV.cells, Nat.reduceEqDiff, ↓reduceIte, List.drop, List.take, List.length, Nat.reduceAdd, Nat.reduceLeDiff, Nat.reduceMul, E.done, rvsK, rvK, resAV, Int.reduceToNat, Int.reduceLE, Int.reduceLT, Int.reduceNeg, Int.reduceAdd, Int.reduceSub, Int.reduceMul, Nat.reduceLT, AV.isElem, AV.one, ↓buildCells.eq_1, ↓buildCells.eq_2, Nat.reduceBEq, eqCells]
    refine iteI (fun h3 => ?_) (fun h3 => ?_)
  all_goals
    refine CL_pure (h70 _ _ (by assumption) (by assumption)) rfl ?_
    simp -implicitDefEqProofs (disch := omega) only [KF, KV0, KV1, KV2, KW, ↓bstep, ↓astep, ↓O1.eq_def, ↓onBool.eq_def, ↓onInt.eq_def, ↓onStr.eq_def, ↓onLo.eq_def, ↓binK.eq_def, ↓arith.eq_def, ↓strOp.eq_def, ↓srcElems.eq_def, ↓dst1.eq_def, args0, List.zipIdx, List.map, lookup, St.ev, St.set, St.setO, reduceCtorEq, AV.plain, AV.plainL, AV.flat, AV.flatL, AV.cells, Nat.reduceEqDiff, ↓reduceIte, List.drop, List.take, List.length, Nat.reduceAdd, Nat.reduceLeDiff, Nat.reduceMul, E.done, rvsK, rvK, resAV, Int.reduceToNat, Int.reduceLE, Int.reduceLT, Int.reduceNeg, Int.reduceAdd, Int.reduceSub, Int.reduceMul, Nat.reduceLT, AV.isElem, AV.one, ↓buildCells.eq_1, ↓buildCells.eq_2, Nat.reduceBEq, eqCells]
    refine iteI (fun h4 => ?_) (fun h4 => ?_)
  all_goals
    refine CL_pure (h70 _ _ (by assumption) (by assumption)) rfl ?_
    simp -implicitDefEqProofs (disch := omega) only [KF, KV0, KV1, KV2, KW, ↓bstep, ↓astep, ↓O1.eq_def, ↓onBool.eq_def, ↓onInt.eq_def, ↓onStr.eq_def, ↓onLo.eq_def, ↓binK.eq_def, ↓arith.eq_def, ↓strOp.eq_def, ↓srcElems.eq_def, ↓dst1.eq_def, args0, List.zipIdx, List.map, lookup, St.ev, St.set, St.setO, reduceCtorEq, AV.plain, AV.plainL, AV.flat, AV.flatL, AV.cells, Nat.reduceEqDiff, ↓reduceIte, List.drop, List.take, List.length, Nat.reduceAdd, Nat.reduceLeDiff, Nat.reduceMul, E.done, rvsK, rvK, resAV, Int.reduceToNat, Int.reduceLE, Int.reduceLT, Int.reduceNeg, Int.reduceAdd, Int.reduceSub, Int.reduceMul, Nat.reduceLT, AV.isElem, AV.one, ↓buildCells.eq_1, ↓buildCells.eq_2, Nat.reduceBEq, eqCells]
    refine iteI (fun h5 => ?_) (fun h5 => ?_)
    · first
      | contradiction
      | (refine shv ?_ (eR_plain _); simp [eR, eO, colP, colR, lo, hi, *])
    · refine iteI (fun h6 => ?_) (fun h6 => ?_)
      · refine shv ?_ (eR_plain _)
        simp [eR, eO, eP, colP, colR, lo, hi, *]
      · refine shv ?_ (eR_plain _)
        simp [eR, eO, colP, colR, lo, hi, *]

/-- What k (y - x) + x comes to, in polyline.meet -/
theorem s97' (m : Int) (x y k : Rat) (hx : bd 9 1 x) (hy : bd 9 1 y) (hk : bd 648 1296 k) : SpecP (cx m) 97 [.str (tq x), .str (tq y), .fp [.str (tq k)]] (.str (tq (x + k * (y - x)))) := by
  refine specP_of (mixed m) (k97 m) (Nat.le_of_ble_eq_true rfl) (X_start ?_)
  unfold c97
  simp -implicitDefEqProofs (disch := omega) only [KF, KV0, KV1, KV2, KW, ↓bstep, ↓astep, ↓O1.eq_def, ↓onBool.eq_def, ↓onInt.eq_def, ↓onStr.eq_def, ↓onLo.eq_def, ↓binK.eq_def, ↓arith.eq_def, ↓strOp.eq_def, ↓srcElems.eq_def, ↓dst1.eq_def, args0, List.zipIdx, List.map, lookup, St.ev, St.set, St.setO, reduceCtorEq, AV.plain, AV.plainL, AV.flat, AV.flatL, AV.cells, Nat.reduceEqDiff, ↓reduceIte, List.drop, List.take, List.length, Nat.reduceAdd, Nat.reduceLeDiff, Nat.reduceMul, E.done, rvsK, rvK, resAV, Int.reduceToNat, Int.reduceLE, Int.reduceLT, Int.reduceNeg, Int.reduceAdd, Int.reduceSub, Int.reduceMul, Nat.reduceLT, AV.isElem, AV.one, ↓buildCells.eq_1, ↓buildCells.eq_2, Nat.reduceBEq, eqCells]
  refine CL_pure (s56 m _ _ (qk1 hy) (qk1 hx)) rfl ?_
  simp -implicitDefEqProofs (disch := omega) only [KF, KV0, KV1, KV2, KW, ↓bstep, ↓astep, ↓O1.eq_def, ↓onBool.eq_def, ↓onInt.eq_def, ↓onStr.eq_def, ↓onLo.eq_def, ↓binK.eq_def, ↓arith.eq_def, ↓strOp.eq_def, ↓srcElems.eq_def, ↓dst1.eq_def, args0, List.zipIdx, List.map, lookup, St.ev, St.set, St.setO, reduceCtorEq, AV.plain, AV.plainL, AV.flat, AV.flatL, AV.cells, Nat.reduceEqDiff, ↓reduceIte, List.drop, List.take, List.length, Nat.reduceAdd, Nat.reduceLeDiff, Nat.reduceMul, E.done, rvsK, rvK, resAV, Int.reduceToNat, Int.reduceLE, Int.reduceLT, Int.reduceNeg, Int.reduceAdd, Int.reduceSub, Int.reduceMul, Nat.reduceLT, AV.isElem, AV.one, ↓buildCells.eq_1, ↓buildCells.eq_2, Nat.reduceBEq, eqCells]
  refine CL_pure (s55 m _ _ (qk1 hk) (qk1 (bd_sub hy hx))) rfl ?_
  simp -implicitDefEqProofs (disch := omega) only [KF, KV0, KV1, KV2, KW, ↓bstep, ↓astep, ↓O1.eq_def, ↓onBool.eq_def, ↓onInt.eq_def, ↓onStr.eq_def, ↓onLo.eq_def, ↓binK.eq_def, ↓arith.eq_def, ↓strOp.eq_def, ↓srcElems.eq_def, ↓dst1.eq_def, args0, List.zipIdx, List.map, lookup, St.ev, St.set, St.setO, reduceCtorEq, AV.plain, AV.plainL, AV.flat, AV.flatL, AV.cells, Nat.reduceEqDiff, ↓reduceIte, List.drop, List.take, List.length, Nat.reduceAdd, Nat.reduceLeDiff, Nat.reduceMul, E.done, rvsK, rvK, resAV, Int.reduceToNat, Int.reduceLE, Int.reduceLT, Int.reduceNeg, Int.reduceAdd, Int.reduceSub, Int.reduceMul, Nat.reduceLT, AV.isElem, AV.one, ↓buildCells.eq_1, ↓buildCells.eq_2, Nat.reduceBEq, eqCells]
  refine CL_pure (s29 m _ _ (qk1 hx) (qk1 (bd_mul hk (bd_sub hy hx)))) rfl ?_
  simp -implicitDefEqProofs (disch := omega) only [KF, KV0, KV1, KV2, KW, ↓bstep, ↓astep, ↓O1.eq_def, ↓onBool.eq_def, ↓onInt.eq_def, ↓onStr.eq_def, ↓onLo.eq_def, ↓binK.eq_def, ↓arith.eq_def, ↓strOp.eq_def, ↓srcElems.eq_def, ↓dst1.eq_def, args0, List.zipIdx, List.map, lookup, St.ev, St.set, St.setO, reduceCtorEq, AV.plain, AV.plainL, AV.flat, AV.flatL, AV.cells, Nat.reduceEqDiff, ↓reduceIte, List.drop, List.take, List.length, Nat.reduceAdd, Nat.reduceLeDiff, Nat.reduceMul, E.done, rvsK, rvK, resAV, Int.reduceToNat, Int.reduceLE, Int.reduceLT, Int.reduceNeg, Int.reduceAdd, Int.reduceSub, Int.reduceMul, Nat.reduceLT, AV.isElem, AV.one, ↓buildCells.eq_1, ↓buildCells.eq_2, Nat.reduceBEq, eqCells]
  exact shs rfl

theorem sg_abs (q : Rat) : -1 ≤ sg q ∧ sg q ≤ 1 := by unfold sg; split <;> (try split) <;> omega
theorem sg_prod (p q : Rat) : -1 ≤ sg p * sg q ∧ sg p * sg q ≤ 1 := by rw [sg_mul]; exact sg_abs _

/-- polyline.meet -/
theorem s46 (m : Int) (a b c d : Pt) (pa : P9 a) (pb : P9 b) (pc : P9 c) (pd : P9 d) : SpecP (cx m) 46 [eP a, eP b, eP c, eP d] (eR (meetP a b c d)) := by
  refine specP_of (mixed m) (k46 m) (Nat.le_of_ble_eq_true rfl) (X_start ?_)
  unfold c46
  have h62 := fun p q r (hp : P9 p) (hq : P9 q) (hr : P9 r) => s62 m p q r hp hq hr
  have h52 := fun p q r (hp : P9 p) (hq : P9 q) (hr : P9 r) => s52 m p q r hp hq hr
  have h96 := s96 m a b c d pa.q pb.q pc.q pd.q
  unfold eP at h62 h52 h96
  have g1 := sg_prod (ar a b c) (ar a b d)
  have g2 := sg_prod (ar c d a) (ar c d b)
  simp -implicitDefEqProofs (disch := omega) only [KF, KV0, KV1, KV2, KW, ↓bstep, ↓astep, ↓O1.eq_def, ↓onBool.eq_def, ↓onInt.eq_def, ↓onStr.eq_def, ↓onLo.eq_def, ↓binK.eq_def, ↓arith.eq_def, ↓strOp.eq_def, ↓srcElems.eq_def, ↓dst1.eq_def, args0, List.zipIdx, List.map, lookup, St.ev, St.set, St.setO, reduceCtorEq, AV.plain, AV.plainL, AV.flat, AV.flatL, AV.cells, Nat.reduceEqDiff, ↓reduceIte, List.drop, List.take, List.length, Nat.reduceAdd, Nat.reduceLeDiff, Nat.reduceMul, E.done, rvsK, rvK, resAV, Int.reduceToNat, Int.reduceLE, Int.reduceLT, Int.reduceNeg, Int.reduceAdd, Int.reduceSub, Int.reduceMul, Nat.reduceLT, AV.isElem, AV.one, ↓buildCells.eq_1, ↓buildCells.eq_2, Nat.reduceBEq, eqCells, eP]
  refine CL_pure (h62 _ _ _ pa pb pc) rfl ?_
  simp -implicitDefEqProofs (disch := omega) only [KF, KV0, KV1, KV2, KW, ↓bstep, ↓astep, ↓O1.eq_def, ↓onBool.eq_def, ↓onInt.eq_def, ↓onStr.eq_def, ↓onLo.eq_def, ↓binK.eq_def, ↓arith.eq_def, ↓strOp.eq_def, ↓srcElems.eq_def, ↓dst1.eq_def, args0, List.zipIdx, List.map, lookup, St.ev, St.set, St.setO, reduceCtorEq, AV.plain, AV.plainL, AV.flat, AV.flatL, AV.cells, Nat.reduceEqDiff, ↓reduceIte, List.drop, List.take, List.length, Nat.reduceAdd, Nat.reduceLeDiff, Nat.reduceMul, E.done, rvsK, rvK, resAV, Int.reduceToNat, Int.reduceLE, Int.reduceLT, Int.reduceNeg, Int.reduceAdd, Int.reduceSub, Int.reduceMul, Nat.reduceLT, AV.isElem, AV.one, ↓buildCells.eq_1, ↓buildCells.eq_2, Nat.reduceBEq, eqCells]
  refine CL_pure (h62 _ _ _ pa pb pd) rfl ?_
  simp -implicitDefEqProofs (disch := omega) only [KF, KV0, KV1, KV2, KW, ↓bstep, ↓astep, ↓O1.eq_def, ↓onBool.eq_def, ↓onInt.eq_def, ↓onStr.eq_def, ↓onLo.eq_def, ↓binK.eq_def, ↓arith.eq_def, ↓strOp.eq_def, ↓srcElems.eq_def, ↓dst1.eq_def, args0, List.zipIdx, List.map, lookup, St.ev, St.set, St.setO, reduceCtorEq, AV.plain, AV.plainL, AV.flat, AV.flatL, AV.cells, Nat.reduceEqDiff, ↓reduceIte, List.drop, List.take, List.length, Nat.reduceAdd, Nat.reduceLeDiff, Nat.reduceMul, E.done, rvsK, rvK, resAV, Int.reduceToNat, Int.reduceLE, Int.reduceLT, Int.reduceNeg, Int.reduceAdd, Int.reduceSub, Int.reduceMul, Nat.reduceLT, AV.isElem, AV.one, ↓buildCells.eq_1, ↓buildCells.eq_2, Nat.reduceBEq, eqCells]
  refine CL_pure (h62 _ _ _ pc pd pa) rfl ?_
  simp -implicitDefEqProofs (disch := omega) only [KF, KV0, KV1, KV2, KW, ↓bstep, ↓astep, ↓O1.eq_def, ↓onBool.eq_def, ↓onInt.eq_def, ↓onStr.eq_def, ↓onLo.eq_def, ↓binK.eq_def, ↓arith.eq_def, ↓strOp.eq_def, ↓srcElems.eq_def, ↓dst1.eq_def, args0, List.zipIdx, List.map, lookup, St.ev, St.set, St.setO, reduceCtorEq, AV.plain, AV.plainL, AV.flat, AV.flatL, AV.cells, Nat.reduceEqDiff, ↓reduceIte, List.drop, List.take, List.length, Nat.reduceAdd, Nat.reduceLeDiff, Nat.reduceMul, E.done, rvsK, rvK, resAV, Int.reduceToNat, Int.reduceLE, Int.reduceLT, Int.reduceNeg, Int.reduceAdd, Int.reduceSub, Int.reduceMul, Nat.reduceLT, AV.isElem, AV.one, ↓buildCells.eq_1, ↓buildCells.eq_2, Nat.reduceBEq, eqCells]
  refine CL_pure (h62 _ _ _ pc pd pb) rfl ?_
  by_cases e : sg (ar a b c) = 0 ∧ sg (ar a b d) = 0
  · have em : meetP a b c d = colP a b c d := by unfold meetP; rw [if_pos e]
    obtain ⟨e1, e2⟩ := e
    obtain ⟨x, y, he⟩ : ∃ x y, eO (colP a b c d).2 = .agg [.str x, .str y] := by cases (colP a b c d).2 <;> exact ⟨_, _, rfl⟩
    unfold eR at h96
    rw [he] at h96
    simp -implicitDefEqProofs (disch := omega) only [KF, KV0, KV1, KV2, KW, ↓bstep, ↓astep, ↓O1.eq_def, ↓onBool.eq_def, ↓onInt.eq_def, ↓onStr.eq_def, ↓onLo.eq_def, ↓binK.eq_def, ↓arith.eq_def, ↓strOp.eq_def, ↓srcElems.eq_def, ↓dst1.eq_def, args0, List.zipIdx, List.map, lookup, St.ev, St.set, St.setO, reduceCtorEq, AV.plain, AV.plainL, AV.flat, AV.flatL, AV.cells, Nat.reduceEqDiff, ↓reduceIte, List.drop, List.take, List.length, Nat.reduceAdd, Nat.reduceLeDiff, Nat.reduceMul, E.done, rvsK, rvK, resAV, Int.reduceToNat, Int.reduceLE, Int.reduceLT, Int.reduceNeg, Int.reduceAdd, Int.reduceSub, Int.reduceMul, Nat.reduceLT, AV.isElem, AV.one, ↓buildCells.eq_1, ↓buildCells.eq_2, Nat.reduceBEq, eqCells, e1, e2]
    refine CL_pure h96 rfl ?_
    simp -implicitDefEqProofs (disch := omega) only [KF, KV0, KV1, KV2, KW, ↓bstep, ↓astep, ↓O1.eq_def, ↓onBool.eq_def, ↓onInt.eq_def, ↓onStr.eq_def, ↓onLo.eq_def, ↓binK.eq_def, ↓arith.eq_def, ↓strOp.eq_def, ↓srcElems.eq_def, ↓dst1.eq_def, args0, List.zipIdx, List.map, lookup, St.ev, St.set, St.setO, reduceCtorEq, AV.plain, AV.plainL, AV.flat, AV.flatL, AV.cells, Nat.reduceEqDiff, ↓reduceIte, List.drop, List.take, List.length, Nat.reduceAdd, Nat.reduceLeDiff, Nat.reduceMul, E.done, rvsK, rvK, resAV, Int.reduceToNat, Int.reduceLE, Int.reduceLT, Int.reduceNeg, Int.reduceAdd, Int.reduceSub, Int.reduceMul, Nat.reduceLT, AV.isElem, AV.one, ↓buildCells.eq_1, ↓buildCells.eq_2, Nat.reduceBEq, eqCells]
    refine shv ?_ (eR_plain _)
    rw [em]; unfold eR; rw [he]
  · by_cases e1 : sg (ar a b c) = 0
    · have e2 : ¬ sg (ar a b d) = 0 := fun h => e ⟨e1, h⟩
      by_cases c1 : 0 < sg (ar a b c) * sg (ar a b d)
      · rw [e1, Int.zero_mul] at c1; omega
      by_cases c2 : 0 < sg (ar c d a) * sg (ar c d b)
      · simp -implicitDefEqProofs (disch := omega) only [KF, KV0, KV1, KV2, KW, ↓bstep, ↓astep, ↓O1.eq_def, ↓onBool.eq_def, ↓onInt.eq_def, ↓onStr.eq_def, ↓onLo.eq_def, ↓binK.eq_def, ↓arith.eq_def, ↓strOp.eq_def, ↓srcElems.eq_def, ↓dst1.eq_def, args0, List.zipIdx, List.map, lookup, St.ev, St.set, St.setO, reduceCtorEq, AV.plain, AV.plainL, AV.flat, AV.flatL, AV.cells, Nat.reduceEqDiff, ↓reduceIte, List.drop, List.take, List.length, Nat.reduceAdd, Nat.reduceLeDiff, Nat.reduceMul, E.done, rvsK, rvK, resAV, Int.reduceToNat, Int.reduceLE, Int.reduceLT, Int.reduceNeg, Int.reduceAdd, Int.reduceSub, Int.reduceMul, Nat.reduceLT, AV.isElem, AV.one, ↓buildCells.eq_1, ↓buildCells.eq_2, Nat.reduceBEq, eqCells, c2, e1, e2, Int.zero_mul, Int.lt_irrefl]
        refine shv ?_ (eR_plain _)
        have : meetP a b c d = (0, none) := by unfold meetP; rw [if_neg e, if_pos (.inr c2)]
        rw [this]; rfl
      simp -implicitDefEqProofs (disch := omega) only [KF, KV0, KV1, KV2, KW, ↓bstep, ↓astep, ↓O1.eq_def, ↓onBool.eq_def, ↓onInt.eq_def, ↓onStr.eq_def, ↓onLo.eq_def, ↓binK.eq_def, ↓arith.eq_def, ↓strOp.eq_def, ↓srcElems.eq_def, ↓dst1.eq_def, args0, List.zipIdx, List.map, lookup, St.ev, St.set, St.setO, reduceCtorEq, AV.plain, AV.plainL, AV.flat, AV.flatL, AV.cells, Nat.reduceEqDiff, ↓reduceIte, List.drop, List.take, List.length, Nat.reduceAdd, Nat.reduceLeDiff, Nat.reduceMul, E.done, rvsK, rvK, resAV, Int.reduceToNat, Int.reduceLE, Int.reduceLT, Int.reduceNeg, Int.reduceAdd, Int.reduceSub, Int.reduceMul, Nat.reduceLT, AV.isElem, AV.one, ↓buildCells.eq_1, ↓buildCells.eq_2, Nat.reduceBEq, eqCells, c2, e1, e2, Int.zero_mul, Int.lt_irrefl]
      refine CL_pure (h52 _ _ _ pa pb pc) rfl ?_
      simp -implicitDefEqProofs (disch := omega) only [KF, KV0, KV1, KV2, KW, ↓bstep, ↓astep, ↓O1.eq_def, ↓onBool.eq_def, ↓onInt.eq_def, ↓onStr.eq_def, ↓onLo.eq_def, ↓binK.eq_def, ↓arith.eq_def, ↓strOp.eq_def, ↓srcElems.eq_def, ↓dst1.eq_def, args0, List.zipIdx, List.map, lookup, St.ev, St.set, St.setO, reduceCtorEq, AV.plain, AV.plainL, AV.flat, AV.flatL, AV.cells, Nat.reduceEqDiff, ↓reduceIte, List.drop, List.take, List.length, Nat.reduceAdd, Nat.reduceLeDiff, Nat.reduceMul, E.done, rvsK, rvK, resAV, Int.reduceToNat, Int.reduceLE, Int.reduceLT, Int.reduceNeg, Int.reduceAdd, Int.reduceSub, Int.reduceMul, Nat.reduceLT, AV.isElem, AV.one, ↓buildCells.eq_1, ↓buildCells.eq_2, Nat.reduceBEq, eqCells]
      refine CL_pure (h52 _ _ _ pa pb pd) rfl ?_
      simp -implicitDefEqProofs (disch := omega) only [KF, KV0, KV1, KV2, KW, ↓bstep, ↓astep, ↓O1.eq_def, ↓onBool.eq_def, ↓onInt.eq_def, ↓onStr.eq_def, ↓onLo.eq_def, ↓binK.eq_def, ↓arith.eq_def, ↓strOp.eq_def, ↓srcElems.eq_def, ↓dst1.eq_def, args0, List.zipIdx, List.map, lookup, St.ev, St.set, St.setO, reduceCtorEq, AV.plain, AV.plainL, AV.flat, AV.flatL, AV.cells, Nat.reduceEqDiff, ↓reduceIte, List.drop, List.take, List.length, Nat.reduceAdd, Nat.reduceLeDiff, Nat.reduceMul, E.done, rvsK, rvK, resAV, Int.reduceToNat, Int.reduceLE, Int.reduceLT, Int.reduceNeg, Int.reduceAdd, Int.reduceSub, Int.reduceMul, Nat.reduceLT, AV.isElem, AV.one, ↓buildCells.eq_1, ↓buildCells.eq_2, Nat.reduceBEq, eqCells]
      have hne : ar a b c - ar a b d ≠ 0 := by
        intro h
        have h' : ar a b c = ar a b d := by grind
        rw [h', sg_mul, ← gt_iff_lt, sg_gt] at c1
        rw [h'] at e
        apply e
        have : ar a b d = 0 := by
          rcases tri (ar a b d) with h | h | h
          · exact absurd (by have := Rat.mul_pos (a := -ar a b d) (b := -ar a b d) (by grind) (by grind); grind) c1
          · exact h
          · exact absurd (Rat.mul_pos h h) c1
        rw [this]; simp [sg]
      have b1 := bd_ar pa pb pc
      have b2 := bd_sub b1 (bd_ar pa pb pd)
      have bk := bd_div b1 b2 hne
      have fin : meetP a b c d = (1, some (c.1 + ar a b c / (ar a b c - ar a b d) * (d.1 - c.1), c.2 + ar a b c / (ar a b c - ar a b d) * (d.2 - c.2))) := by
        unfold meetP; rw [if_neg e, if_neg (by rintro (h | h); exact c1 h; exact c2 h)]
      refine CL_pure (s56 m _ _ (qk1 b1) (qk1 (bd_ar pa pb pd))) rfl ?_
      simp -implicitDefEqProofs (disch := omega) only [KF, KV0, KV1, KV2, KW, ↓bstep, ↓astep, ↓O1.eq_def, ↓onBool.eq_def, ↓onInt.eq_def, ↓onStr.eq_def, ↓onLo.eq_def, ↓binK.eq_def, ↓arith.eq_def, ↓strOp.eq_def, ↓srcElems.eq_def, ↓dst1.eq_def, args0, List.zipIdx, List.map, lookup, St.ev, St.set, St.setO, reduceCtorEq, AV.plain, AV.plainL, AV.flat, AV.flatL, AV.cells, Nat.reduceEqDiff, ↓reduceIte, List.drop, List.take, List.length, Nat.reduceAdd, Nat.reduceLeDiff, Nat.reduceMul, E.done, rvsK, rvK, resAV, Int.reduceToNat, Int.reduceLE, Int.reduceLT, Int.reduceNeg, Int.reduceAdd, Int.reduceSub, Int.reduceMul, Nat.reduceLT, AV.isElem, AV.one, ↓buildCells.eq_1, ↓buildCells.eq_2, Nat.reduceBEq, eqCells]
      refine CL_pure (s95 m _ _ (qk1 b1) (qk1 b2) hne) rfl ?_
      simp -implicitDefEqProofs (disch := omega) only [KF, KV0, KV1, KV2, KW, ↓bstep, ↓astep, ↓O1.eq_def, ↓onBool.eq_def, ↓onInt.eq_def, ↓onStr.eq_def, ↓onLo.eq_def, ↓binK.eq_def, ↓arith.eq_def, ↓strOp.eq_def, ↓srcElems.eq_def, ↓dst1.eq_def, args0, List.zipIdx, List.map, lookup, St.ev, St.set, St.setO, reduceCtorEq, AV.plain, AV.plainL, AV.flat, AV.flatL, AV.cells, Nat.reduceEqDiff, ↓reduceIte, List.drop, List.take, List.length, Nat.reduceAdd, Nat.reduceLeDiff, Nat.reduceMul, E.done, rvsK, rvK, resAV, Int.reduceToNat, Int.reduceLE, Int.reduceLT, Int.reduceNeg, Int.reduceAdd, Int.reduceSub, Int.reduceMul, Nat.reduceLT, AV.isElem, AV.one, ↓buildCells.eq_1, ↓buildCells.eq_2, Nat.reduceBEq, eqCells]
      refine CL_show (s97' m c.1 d.1 (ar a b c / (ar a b c - ar a b d)) pc.1 pd.1 bk) (.cons _ _ _ _ (.same _ rfl) (.cons _ _ _ _ (.same _ rfl) (.cons _ _ _ _ (.ref 1 0 _ _ 1 rfl (.cons _ _ _ _ (.same _ rfl) .nil)) .nil))) rfl ?_
      simp -implicitDefEqProofs (disch := omega) only [KF, KV0, KV1, KV2, KW, ↓bstep, ↓astep, ↓O1.eq_def, ↓onBool.eq_def, ↓onInt.eq_def, ↓onStr.eq_def, ↓onLo.eq_def, ↓binK.eq_def, ↓arith.eq_def, ↓strOp.eq_def, ↓srcElems.eq_def, ↓dst1.eq_def, args0, List.zipIdx, List.map, lookup, St.ev, St.set, St.setO, reduceCtorEq, AV.plain, AV.plainL, AV.flat, AV.flatL, AV.cells, Nat.reduceEqDiff, ↓reduceIte, List.drop, List.take, List.length, Nat.reduceAdd, Nat.reduceLeDiff, Nat.reduceMul, E.done, rvsK, rvK, resAV, Int.reduceToNat, Int.reduceLE, Int.reduceLT, Int.reduceNeg, Int.reduceAdd, Int.reduceSub, Int.reduceMul, Nat.reduceLT, AV.isElem, AV.one, ↓buildCells.eq_1, ↓buildCells.eq_2, Nat.reduceBEq, eqCells]
      refine CL_show (s97' m c.2 d.2 (ar a b c / (ar a b c - ar a b d)) pc.2 pd.2 bk) (.cons _ _ _ _ (.same _ rfl) (.cons _ _ _ _ (.same _ rfl) (.cons _ _ _ _ (.ref 1 0 _ _ 1 rfl (.cons _ _ _ _ (.same _ rfl) .nil)) .nil))) rfl ?_
      simp -implicitDefEqProofs (disch := omega) only [KF, KV0, KV1, KV2, KW, ↓bstep, ↓astep, ↓O1.eq_def, ↓onBool.eq_def, ↓onInt.eq_def, ↓onStr.eq_def, ↓onLo.eq_def, ↓binK.eq_def, ↓arith.eq_def, ↓strOp.eq_def, ↓srcElems.eq_def, ↓dst1.eq_def, args0, List.zipIdx, List.map, lookup, St.ev, St.set, St.setO, reduceCtorEq, AV.plain, AV.plainL, AV.flat, AV.flatL, AV.cells, Nat.reduceEqDiff, ↓reduceIte, List.drop, List.take, List.length, Nat.reduceAdd, Nat.reduceLeDiff, Nat.reduceMul, E.done, rvsK, rvK, resAV, Int.reduceToNat, Int.reduceLE, Int.reduceLT, Int.reduceNeg, Int.reduceAdd, Int.reduceSub, Int.reduceMul, Nat.reduceLT, AV.isElem, AV.one, ↓buildCells.eq_1, ↓buildCells.eq_2, Nat.reduceBEq, eqCells]
      refine shv ?_ (eR_plain _)
      rw [fin]; rfl
    · skip
      by_cases c1 : 0 < sg (ar a b c) * sg (ar a b d)
      · simp -implicitDefEqProofs (disch := omega) only [KF, KV0, KV1, KV2, KW, ↓bstep, ↓astep, ↓O1.eq_def, ↓onBool.eq_def, ↓onInt.eq_def, ↓onStr.eq_def, ↓onLo.eq_def, ↓binK.eq_def, ↓arith.eq_def, ↓strOp.eq_def, ↓srcElems.eq_def, ↓dst1.eq_def, args0, List.zipIdx, List.map, lookup, St.ev, St.set, St.setO, reduceCtorEq, AV.plain, AV.plainL, AV.flat, AV.flatL, AV.cells, Nat.reduceEqDiff, ↓reduceIte, List.drop, List.take, List.length, Nat.reduceAdd, Nat.reduceLeDiff, Nat.reduceMul, E.done, rvsK, rvK, resAV, Int.reduceToNat, Int.reduceLE, Int.reduceLT, Int.reduceNeg, Int.reduceAdd, Int.reduceSub, Int.reduceMul, Nat.reduceLT, AV.isElem, AV.one, ↓buildCells.eq_1, ↓buildCells.eq_2, Nat.reduceBEq, eqCells, c1, e1]
        refine shv ?_ (eR_plain _)
        have : meetP a b c d = (0, none) := by unfold meetP; rw [if_neg e, if_pos (.inl c1)]
        rw [this]; rfl
      by_cases c2 : 0 < sg (ar c d a) * sg (ar c d b)
      · simp -implicitDefEqProofs (disch := omega) only [KF, KV0, KV1, KV2, KW, ↓bstep, ↓astep, ↓O1.eq_def, ↓onBool.eq_def, ↓onInt.eq_def, ↓onStr.eq_def, ↓onLo.eq_def, ↓binK.eq_def, ↓arith.eq_def, ↓strOp.eq_def, ↓srcElems.eq_def, ↓dst1.eq_def, args0, List.zipIdx, List.map, lookup, St.ev, St.set, St.setO, reduceCtorEq, AV.plain, AV.plainL, AV.flat, AV.flatL, AV.cells, Nat.reduceEqDiff, ↓reduceIte, List.drop, List.take, List.length, Nat.reduceAdd, Nat.reduceLeDiff, Nat.reduceMul, E.done, rvsK, rvK, resAV, Int.reduceToNat, Int.reduceLE, Int.reduceLT, Int.reduceNeg, Int.reduceAdd, Int.reduceSub, Int.reduceMul, Nat.reduceLT, AV.isElem, AV.one, ↓buildCells.eq_1, ↓buildCells.eq_2, Nat.reduceBEq, eqCells, c1, c2, e1]
        refine shv ?_ (eR_plain _)
        have : meetP a b c d = (0, none) := by unfold meetP; rw [if_neg e, if_pos (.inr c2)]
        rw [this]; rfl
      simp -implicitDefEqProofs (disch := omega) only [KF, KV0, KV1, KV2, KW, ↓bstep, ↓astep, ↓O1.eq_def, ↓onBool.eq_def, ↓onInt.eq_def, ↓onStr.eq_def, ↓onLo.eq_def, ↓binK.eq_def, ↓arith.eq_def, ↓strOp.eq_def, ↓srcElems.eq_def, ↓dst1.eq_def, args0, List.zipIdx, List.map, lookup, St.ev, St.set, St.setO, reduceCtorEq, AV.plain, AV.plainL, AV.flat, AV.flatL, AV.cells, Nat.reduceEqDiff, ↓reduceIte, List.drop, List.take, List.length, Nat.reduceAdd, Nat.reduceLeDiff, Nat.reduceMul, E.done, rvsK, rvK, resAV, Int.reduceToNat, Int.reduceLE, Int.reduceLT, Int.reduceNeg, Int.reduceAdd, Int.reduceSub, Int.reduceMul, Nat.reduceLT, AV.isElem, AV.one, ↓buildCells.eq_1, ↓buildCells.eq_2, Nat.reduceBEq, eqCells, c1, c2, e1]
      refine CL_pure (h52 _ _ _ pa pb pc) rfl ?_
      simp -implicitDefEqProofs (disch := omega) only [KF, KV0, KV1, KV2, KW, ↓bstep, ↓astep, ↓O1.eq_def, ↓onBool.eq_def, ↓onInt.eq_def, ↓onStr.eq_def, ↓onLo.eq_def, ↓binK.eq_def, ↓arith.eq_def, ↓strOp.eq_def, ↓srcElems.eq_def, ↓dst1.eq_def, args0, List.zipIdx, List.map, lookup, St.ev, St.set, St.setO, reduceCtorEq, AV.plain, AV.plainL, AV.flat, AV.flatL, AV.cells, Nat.reduceEqDiff, ↓reduceIte, List.drop, List.take, List.length, Nat.reduceAdd, Nat.reduceLeDiff, Nat.reduceMul, E.done, rvsK, rvK, resAV, Int.reduceToNat, Int.reduceLE, Int.reduceLT, Int.reduceNeg, Int.reduceAdd, Int.reduceSub, Int.reduceMul, Nat.reduceLT, AV.isElem, AV.one, ↓buildCells.eq_1, ↓buildCells.eq_2, Nat.reduceBEq, eqCells]
      refine CL_pure (h52 _ _ _ pa pb pd) rfl ?_
      simp -implicitDefEqProofs (disch := omega) only [KF, KV0, KV1, KV2, KW, ↓bstep, ↓astep, ↓O1.eq_def, ↓onBool.eq_def, ↓onInt.eq_def, ↓onStr.eq_def, ↓onLo.eq_def, ↓binK.eq_def, ↓arith.eq_def, ↓strOp.eq_def, ↓srcElems.eq_def, ↓dst1.eq_def, args0, List.zipIdx, List.map, lookup, St.ev, St.set, St.setO, reduceCtorEq, AV.plain, AV.plainL, AV.flat, AV.flatL, AV.cells, Nat.reduceEqDiff, ↓reduceIte, List.drop, List.take, List.length, Nat.reduceAdd, Nat.reduceLeDiff, Nat.reduceMul, E.done, rvsK, rvK, resAV, Int.reduceToNat, Int.reduceLE, Int.reduceLT, Int.reduceNeg, Int.reduceAdd, Int.reduceSub, Int.reduceMul, Nat.reduceLT, AV.isElem, AV.one, ↓buildCells.eq_1, ↓buildCells.eq_2, Nat.reduceBEq, eqCells]
      have hne : ar a b c - ar a b d ≠ 0 := by
        intro h
        have h' : ar a b c = ar a b d := by grind
        rw [h', sg_mul, ← gt_iff_lt, sg_gt] at c1
        rw [h'] at e
        apply e
        have : ar a b d = 0 := by
          rcases tri (ar a b d) with h | h | h
          · exact absurd (by have := Rat.mul_pos (a := -ar a b d) (b := -ar a b d) (by grind) (by grind); grind) c1
          · exact h
          · exact absurd (Rat.mul_pos h h) c1
        rw [this]; simp [sg]
      have b1 := bd_ar pa pb pc
      have b2 := bd_sub b1 (bd_ar pa pb pd)
      have bk := bd_div b1 b2 hne
      have fin : meetP a b c d = (1, some (c.1 + ar a b c / (ar a b c - ar a b d) * (d.1 - c.1), c.2 + ar a b c / (ar a b c - ar a b d) * (d.2 - c.2))) := by
        unfold meetP; rw [if_neg e, if_neg (by rintro (h | h); exact c1 h; exact c2 h)]
      refine CL_pure (s56 m _ _ (qk1 b1) (qk1 (bd_ar pa pb pd))) rfl ?_
      simp -implicitDefEqProofs (disch := omega) only [KF, KV0, KV1, KV2, KW, ↓bstep, ↓astep, ↓O1.eq_def, ↓onBool.eq_def, ↓onInt.eq_def, ↓onStr.eq_def, ↓onLo.eq_def, ↓binK.eq_def, ↓arith.eq_def, ↓strOp.eq_def, ↓srcElems.eq_def, ↓dst1.eq_def, args0, List.zipIdx, List.map, lookup, St.ev, St.set, St.setO, reduceCtorEq, AV.plain, AV.plainL, AV.flat, AV.flatL, AV.cells, Nat.reduceEqDiff, ↓reduceIte, List.drop, List.take, List.length, Nat.reduceAdd, Nat.reduceLeDiff, Nat.reduceMul, E.done, rvsK, rvK, resAV, Int.reduceToNat, Int.reduceLE, Int.reduceLT, Int.reduceNeg, Int.reduceAdd, Int.reduceSub, Int.reduceMul, Nat.reduceLT, AV.isElem, AV.one, ↓buildCells.eq_1, ↓buildCells.eq_2, Nat.reduceBEq, eqCells]
      refine CL_pure (s95 m _ _ (qk1 b1) (qk1 b2) hne) rfl ?_
      simp -implicitDefEqProofs (disch := omega) only [KF, KV0, KV1, KV2, KW, ↓bstep, ↓astep, ↓O1.eq_def, ↓onBool.eq_def, ↓onInt.eq_def, ↓onStr.eq_def, ↓onLo.eq_def, ↓binK.eq_def, ↓arith.eq_def, ↓strOp.eq_def, ↓srcElems.eq_def, ↓dst1.eq_def, args0, List.zipIdx, List.map, lookup, St.ev, St.set, St.setO, reduceCtorEq, AV.plain, AV.plainL, AV.flat, AV.flatL, AV.cells, Nat.reduceEqDiff, ↓reduceIte, List.drop, List.take, List.length, Nat.reduceAdd, Nat.reduceLeDiff, Nat.reduceMul, E.done, rvsK, rvK, resAV, Int.reduceToNat, Int.reduceLE, Int.reduceLT, Int.reduceNeg, Int.reduceAdd, Int.reduceSub, Int.reduceMul, Nat.reduceLT, AV.isElem, AV.one, ↓buildCells.eq_1, ↓buildCells.eq_2, Nat.reduceBEq, eqCells]
      refine CL_show (s97' m c.1 d.1 (ar a b c / (ar a b c - ar a b d)) pc.1 pd.1 bk) (.cons _ _ _ _ (.same _ rfl) (.cons _ _ _ _ (.same _ rfl) (.cons _ _ _ _ (.ref 1 0 _ _ 1 rfl (.cons _ _ _ _ (.same _ rfl) .nil)) .nil))) rfl ?_
      simp -implicitDefEqProofs (disch := omega) only [KF, KV0, KV1, KV2, KW, ↓bstep, ↓astep, ↓O1.eq_def, ↓onBool.eq_def, ↓onInt.eq_def, ↓onStr.eq_def, ↓onLo.eq_def, ↓binK.eq_def, ↓arith.eq_def, ↓strOp.eq_def, ↓srcElems.eq_def, ↓dst1.eq_def, args0, List.zipIdx, List.map, lookup, St.ev, St.set, St.setO, reduceCtorEq, AV.plain, AV.plainL, AV.flat, AV.flatL, AV.cells, Nat.reduceEqDiff, ↓reduceIte, List.drop, List.take, List.length, Nat.reduceAdd, Nat.reduceLeDiff, Nat.reduceMul, E.done, rvsK, rvK, resAV, Int.reduceToNat, Int.reduceLE, Int.reduceLT, Int.reduceNeg, Int.reduceAdd, Int.reduceSub, Int.reduceMul, Nat.reduceLT, AV.isElem, AV.one, ↓buildCells.eq_1, ↓buildCells.eq_2, Nat.reduceBEq, eqCells]
      refine CL_show (s97' m c.2 d.2 (ar a b c / (ar a b c - ar a b d)) pc.2 pd.2 bk) (.cons _ _ _ _ (.same _ rfl) (.cons _ _ _ _ (.same _ rfl) (.cons _ _ _ _ (.ref 1 0 _ _ 1 rfl (.cons _ _ _ _ (.same _ rfl) .nil)) .nil))) rfl ?_
      simp -implicitDefEqProofs (disch := omega) only [KF, KV0, KV1, KV2, KW, ↓bstep, ↓astep, ↓O1.eq_def, ↓onBool.eq_def, ↓onInt.eq_def, ↓onStr.eq_def, ↓onLo.eq_def, ↓binK.eq_def, ↓arith.eq_def, ↓strOp.eq_def, ↓srcElems.eq_def, ↓dst1.eq_def, args0, List.zipIdx, List.map, lookup, St.ev, St.set, St.setO, reduceCtorEq, AV.plain, AV.plainL, AV.flat, AV.flatL, AV.cells, Nat.reduceEqDiff, ↓reduceIte, List.drop, List.take, List.length, Nat.reduceAdd, Nat.reduceLeDiff, Nat.reduceMul, E.done, rvsK, rvK, resAV, Int.reduceToNat, Int.reduceLE, Int.reduceLT, Int.reduceNeg, Int.reduceAdd, Int.reduceSub, Int.reduceMul, Nat.reduceLT, AV.isElem, AV.one, ↓buildCells.eq_1, ↓buildCells.eq_2, Nat.reduceBEq, eqCells]
      refine shv ?_ (eR_plain _)
      rw [fin]; rfl
end Go.Proofs.YtkjnjdcbnelceaaGreatDoor.KA
end
