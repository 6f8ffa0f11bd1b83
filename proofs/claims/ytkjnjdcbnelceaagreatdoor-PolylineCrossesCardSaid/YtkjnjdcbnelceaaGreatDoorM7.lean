/- Parts of the proof, in order: each part's head says what it holds. -/
import Derived.Test.YtkjnjdcbnelceaaGreatDoorM6
import Derived.Test.YtkjnjdcbnelceaaGreatDoorM3
import Derived.HandedShaped
import Derived.ProofKit
import Derived.Lay
import Derived.Handy
import Derived.WideKeyArgs
import Derived.Lib.LaidTab
import Derived.Shelf.Vars
import Derived.OpenShut
import Derived.Test.YtkjnjdcbnelceaaGreatDoorRows
import Derived.Test.YtkjnjdcbnelceaaGreatDoorM4

section
/- Contracts: polyline.Crossings. -/
open Go Go.Proofs
set_option linter.unusedSimpArgs false
set_option linter.unusedVariables false
set_option maxHeartbeats 1000000
set_option maxRecDepth 20000
namespace Go.Proofs.YtkjnjdcbnelceaaGreatDoor.KA
open Num Geo

def overP (a b : List Pt) : Prop := ∃ i k, i + 1 < a.length ∧ k + 1 < b.length ∧ (mP a b i k).1 = 2
theorem ePs_plain (c : List Pt) : (ePs c).plain = true := rfl
open Classical in
/-- polyline.Crossings, of chains -/
theorem s14 (m : Int) (a b : List Pt) (ha : all9 a) (hb : all9 b) (la : a.length ≤ 8) (lb : b.length ≤ 8) (la2 : 2 ≤ a.length) (lb2 : 2 ≤ b.length) (ca : checkP a = 0) (cb : checkP b = 0) :
    SpecP (cx m) 14 [ePs a, ePs b] (if overP a b then .tuple [.sl 4 [], .int .i64 7] else .tuple [.sl 4 ((hits (mP a b) (a.length - 1) (b.length - 1)).map eX), .int .i64 0]) := by
  refine specP_of (mixed m) (k14 m) (Nat.le_of_ble_eq_true rfl) (X_start ?_)
  unfold c14
  have sa := s42 m a ha la2 (by omega)
  have sb := s42 m b hb lb2 (by omega)
  rw [ca] at sa
  rw [cb] at sb
  simp -implicitDefEqProofs (disch := omega) only [KF, KV0, KV1, KV2, KW, ↓bstep, ↓astep, ↓O1.eq_def, ↓onBool.eq_def, ↓onInt.eq_def, ↓onStr.eq_def, ↓onLo.eq_def, ↓binK.eq_def, ↓arith.eq_def, ↓strOp.eq_def, ↓srcElems.eq_def, ↓dst1.eq_def, args0, List.zipIdx, List.map, lookup, St.ev, St.set, St.setO, reduceCtorEq, AV.plain, AV.plainL, AV.flat, AV.flatL, AV.cells, Nat.reduceEqDiff, ↓reduceIte, List.drop, List.take, List.length, Nat.reduceAdd, Nat.reduceLeDiff, Nat.reduceMul, E.done, rvsK, rvK, resAV, Int.reduceToNat, Int.reduceLE, Int.reduceLT, Int.reduceNeg, Int.reduceAdd, Int.reduceSub, Int.reduceMul, Nat.reduceLT, AV.isElem, AV.one, ↓buildCells.eq_1, ↓buildCells.eq_2, Nat.reduceBEq, eqCells, ePs]
  refine X_for (fun i : Nat => ⟨[(0, ePs a), (1, ePs b), (16, .agg [ePs a, ePs b]), (17, .int .i64 i)], []⟩) (fun i => i ≤ 2) (fun i => 2 - i) 0 (Nat.zero_le _) ?_ ?_
  · exact weak_keep (by simp [lookup, ePs])
  intro i R i1 hR
  try dsimp only at hR ⊢
  rcases i with _ | _ | i
  · simp -implicitDefEqProofs (disch := omega) only [KF, KV0, KV1, KV2, KW, ↓bstep, ↓astep, ↓O1.eq_def, ↓onBool.eq_def, ↓onInt.eq_def, ↓onStr.eq_def, ↓onLo.eq_def, ↓binK.eq_def, ↓arith.eq_def, ↓strOp.eq_def, ↓srcElems.eq_def, ↓dst1.eq_def, args0, List.zipIdx, List.map, lookup, St.ev, St.set, St.setO, reduceCtorEq, AV.plain, AV.plainL, AV.flat, AV.flatL, AV.cells, Nat.reduceEqDiff, ↓reduceIte, List.drop, List.take, List.length, Nat.reduceAdd, Nat.reduceLeDiff, Nat.reduceMul, E.done, rvsK, rvK, resAV, Int.reduceToNat, Int.reduceLE, Int.reduceLT, Int.reduceNeg, Int.reduceAdd, Int.reduceSub, Int.reduceMul, Nat.reduceLT, AV.isElem, AV.one, ↓buildCells.eq_1, ↓buildCells.eq_2, Nat.reduceBEq, eqCells, show (((0 : Nat) : Int)) = 0 from rfl, Nat.zero_mul]
    refine ⟨by omega, CL_pure sa rfl ?_⟩
    simp -implicitDefEqProofs (disch := omega) only [KF, KV0, KV1, KV2, KW, ↓bstep, ↓astep, ↓O1.eq_def, ↓onBool.eq_def, ↓onInt.eq_def, ↓onStr.eq_def, ↓onLo.eq_def, ↓binK.eq_def, ↓arith.eq_def, ↓strOp.eq_def, ↓srcElems.eq_def, ↓dst1.eq_def, args0, List.zipIdx, List.map, lookup, St.ev, St.set, St.setO, reduceCtorEq, AV.plain, AV.plainL, AV.flat, AV.flatL, AV.cells, Nat.reduceEqDiff, ↓reduceIte, List.drop, List.take, List.length, Nat.reduceAdd, Nat.reduceLeDiff, Nat.reduceMul, E.done, rvsK, rvK, resAV, Int.reduceToNat, Int.reduceLE, Int.reduceLT, Int.reduceNeg, Int.reduceAdd, Int.reduceSub, Int.reduceMul, Nat.reduceLT, AV.isElem, AV.one, ↓buildCells.eq_1, ↓buildCells.eq_2, Nat.reduceBEq, eqCells]
    exact hR 1 _ (by omega) (by omega) (weak_keep (by simp [lookup]))
  · simp -implicitDefEqProofs (disch := omega) only [KF, KV0, KV1, KV2, KW, ↓bstep, ↓astep, ↓O1.eq_def, ↓onBool.eq_def, ↓onInt.eq_def, ↓onStr.eq_def, ↓onLo.eq_def, ↓binK.eq_def, ↓arith.eq_def, ↓strOp.eq_def, ↓srcElems.eq_def, ↓dst1.eq_def, args0, List.zipIdx, List.map, lookup, St.ev, St.set, St.setO, reduceCtorEq, AV.plain, AV.plainL, AV.flat, AV.flatL, AV.cells, Nat.reduceEqDiff, ↓reduceIte, List.drop, List.take, List.length, Nat.reduceAdd, Nat.reduceLeDiff, Nat.reduceMul, E.done, rvsK, rvK, resAV, Int.reduceToNat, Int.reduceLE, Int.reduceLT, Int.reduceNeg, Int.reduceAdd, Int.reduceSub, Int.reduceMul, Nat.reduceLT, AV.isElem, AV.one, ↓buildCells.eq_1, ↓buildCells.eq_2, Nat.reduceBEq, eqCells, show (((0 + 1 : Nat) : Int)) = 1 from rfl, Nat.one_mul]
    refine ⟨by omega, CL_pure sb rfl ?_⟩
    simp -implicitDefEqProofs (disch := omega) only [KF, KV0, KV1, KV2, KW, ↓bstep, ↓astep, ↓O1.eq_def, ↓onBool.eq_def, ↓onInt.eq_def, ↓onStr.eq_def, ↓onLo.eq_def, ↓binK.eq_def, ↓arith.eq_def, ↓strOp.eq_def, ↓srcElems.eq_def, ↓dst1.eq_def, args0, List.zipIdx, List.map, lookup, St.ev, St.set, St.setO, reduceCtorEq, AV.plain, AV.plainL, AV.flat, AV.flatL, AV.cells, Nat.reduceEqDiff, ↓reduceIte, List.drop, List.take, List.length, Nat.reduceAdd, Nat.reduceLeDiff, Nat.reduceMul, E.done, rvsK, rvK, resAV, Int.reduceToNat, Int.reduceLE, Int.reduceLT, Int.reduceNeg, Int.reduceAdd, Int.reduceSub, Int.reduceMul, Nat.reduceLT, AV.isElem, AV.one, ↓buildCells.eq_1, ↓buildCells.eq_2, Nat.reduceBEq, eqCells]
    exact hR 2 _ (by omega) (by omega) (weak_keep (by simp [lookup]))
  have hi2 : ¬ ((i + 1 + 1 : Nat) : Int) < 2 := by omega
  have q1 : ((a.length : Int) - 1) = ((a.length - 1 : Nat) : Int) := by omega
  have q2 : ((b.length : Int) - 1) = ((b.length - 1 : Nat) : Int) := by omega
  simp -implicitDefEqProofs (disch := omega) only [KF, KV0, KV1, KV2, KW, ↓bstep, ↓astep, ↓O1.eq_def, ↓onBool.eq_def, ↓onInt.eq_def, ↓onStr.eq_def, ↓onLo.eq_def, ↓binK.eq_def, ↓arith.eq_def, ↓strOp.eq_def, ↓srcElems.eq_def, ↓dst1.eq_def, args0, List.zipIdx, List.map, lookup, St.ev, St.set, St.setO, reduceCtorEq, AV.plain, AV.plainL, AV.flat, AV.flatL, AV.cells, Nat.reduceEqDiff, ↓reduceIte, List.drop, List.take, List.length, Nat.reduceAdd, Nat.reduceLeDiff, Nat.reduceMul, E.done, rvsK, rvK, resAV, Int.reduceToNat, Int.reduceLE, Int.reduceLT, Int.reduceNeg, Int.reduceAdd, Int.reduceSub, Int.reduceMul, Nat.reduceLT, AV.isElem, AV.one, ↓buildCells.eq_1, ↓buildCells.eq_2, Nat.reduceBEq, eqCells, hi2, ePs, List.length_map, q1]
  clear hR i1 hi2
  refine X_for (fun i : Nat => ⟨[(0, ePs a), (1, ePs b), (9, outAV (hits (mP a b) i (b.length - 1))), (28, .int .i64 (a.length - 1 : Nat)), (29, .int .i64 i)], outBlk (hits (mP a b) i (b.length - 1))⟩)
    (fun i => i ≤ a.length - 1 ∧ ∀ i' k, i' < i → k + 1 < b.length → ¬ (mP a b i' k).1 = 2) (fun i => a.length - i) 0 ⟨Nat.zero_le _, fun i' k h => absurd h (Nat.not_lt_zero _)⟩ ?_ ?_
  · simp only [hits_zero, outAV, outBlk]
    exact weak_keep (by simp [lookup, ePs])
  intro i R ⟨i1, i2⟩ hR
  try dsimp only at hR ⊢
  have e1 : ((i : Int) + 1) = ((i + 1 : Nat) : Int) := by omega
  rcases Nat.lt_or_ge i (a.length - 1) with hi | hi
  · have bl := hits_len (mP a b) (b.length - 1) i
    have bm : i * (b.length - 1) ≤ 8 * 8 := Nat.mul_le_mul (by omega) (by omega)
    simp -implicitDefEqProofs (disch := omega) only [KF, KV0, KV1, KV2, KW, ↓bstep, ↓astep, ↓O1.eq_def, ↓onBool.eq_def, ↓onInt.eq_def, ↓onStr.eq_def, ↓onLo.eq_def, ↓binK.eq_def, ↓arith.eq_def, ↓strOp.eq_def, ↓srcElems.eq_def, ↓dst1.eq_def, args0, List.zipIdx, List.map, lookup, St.ev, St.set, St.setO, reduceCtorEq, AV.plain, AV.plainL, AV.flat, AV.flatL, AV.cells, Nat.reduceEqDiff, ↓reduceIte, List.drop, List.take, List.length, Nat.reduceAdd, Nat.reduceLeDiff, Nat.reduceMul, E.done, rvsK, rvK, resAV, Int.reduceToNat, Int.reduceLE, Int.reduceLT, Int.reduceNeg, Int.reduceAdd, Int.reduceSub, Int.reduceMul, Nat.reduceLT, AV.isElem, AV.one, ↓buildCells.eq_1, ↓buildCells.eq_2, Nat.reduceBEq, eqCells, ePs, List.length_map, hi, q2]
    refine X_for (fun k : Nat => ⟨[(0, ePs a), (1, ePs b), (9, outAV (hits (mP a b) i (b.length - 1) ++ row (mP a b) k i)), (10, .int .i64 i), (28, .int .i64 (a.length - 1 : Nat)), (29, .int .i64 i), (34, .int .i64 (b.length - 1 : Nat)), (35, .int .i64 k)], outBlk (hits (mP a b) i (b.length - 1) ++ row (mP a b) k i)⟩)
      (fun k => k ≤ b.length - 1 ∧ ∀ k', k' < k → ¬ (mP a b i k').1 = 2) (fun k => b.length - k) 0 ⟨Nat.zero_le _, fun k h => absurd h (Nat.not_lt_zero _)⟩ ?_ ?_
    · simp only [row_zero, List.append_nil]
      exact weak_keep (by simp [lookup, ePs])
    intro k R' ⟨k1, k2⟩ hR'
    try dsimp only at hR' ⊢
    have e2 : ((k : Int) + 1) = ((k + 1 : Nat) : Int) := by omega
    rcases Nat.lt_or_ge k (b.length - 1) with hk | hk
    · have x1 := get_pt (show i < a.length by omega)
      have x2 := get_pt (show i + 1 < a.length by omega)
      have x3 := get_pt (show k < b.length by omega)
      have x4 := get_pt (show k + 1 < b.length by omega)
      have hm := s46 m _ _ _ _ (ha.get (show i < a.length by omega)) (ha.get (show i + 1 < a.length by omega)) (hb.get (show k < b.length by omega)) (hb.get (show k + 1 < b.length by omega))
      have hw := meetP_how (at' a i) (at' a (i + 1)) (at' b k) (at' b (k + 1))
      have hsm := meetP_some (at' a i) (at' a (i + 1)) (at' b k) (at' b (k + 1))
      have rl := row_len (mP a b) i k
      generalize hr : meetP (at' a i) (at' a (i + 1)) (at' b k) (at' b (k + 1)) = r at *
      have hr' : mP a b i k = r := hr
      obtain ⟨h, o⟩ := r
      unfold eR eP at hm
      dsimp only at hm hw hsm
      generalize hl : hits (mP a b) i (b.length - 1) ++ row (mP a b) k i = L at *
      have hL : L.length ≤ 100 := by rw [← hl, List.length_append]; omega
      have okk : ¬ (mP a b i k).1 = 2 → ∀ k', k' < k + 1 → ¬ (mP a b i k').1 = 2 := fun h k' h2 => by
        by_cases e : k' = k
        · rw [e]; exact h
        · exact k2 k' (by omega)
      rcases L with _ | ⟨y, L⟩
      · rcases hw with rfl | rfl | rfl
        · skip
          obtain ⟨u, v, he⟩ : ∃ u v, eO o = .agg [.str u, .str v] := by cases o <;> exact ⟨_, _, rfl⟩
          rw [he, show ((0 : Nat) : Int) = 0 from rfl] at hm
          simp -implicitDefEqProofs (disch := omega) only [KF, KV0, KV1, KV2, KW, ↓bstep, ↓astep, ↓O1.eq_def, ↓onBool.eq_def, ↓onInt.eq_def, ↓onStr.eq_def, ↓onLo.eq_def, ↓binK.eq_def, ↓arith.eq_def, ↓strOp.eq_def, ↓srcElems.eq_def, ↓dst1.eq_def, args0, List.zipIdx, List.map, lookup, St.ev, St.set, St.setO, reduceCtorEq, AV.plain, AV.plainL, AV.flat, AV.flatL, AV.cells, Nat.reduceEqDiff, ↓reduceIte, List.drop, List.take, List.length, Nat.reduceAdd, Nat.reduceLeDiff, Nat.reduceMul, E.done, rvsK, rvK, resAV, Int.reduceToNat, Int.reduceLE, Int.reduceLT, Int.reduceNeg, Int.reduceAdd, Int.reduceSub, Int.reduceMul, Nat.reduceLT, AV.isElem, AV.one, ↓buildCells.eq_1, ↓buildCells.eq_2, Nat.reduceBEq, eqCells, ePs, List.length_map, e1, e2, hk, x1, x2, x3, x4, outAV, outBlk]
          refine CL_pure hm rfl ?_
          simp -implicitDefEqProofs (disch := omega) only [KF, KV0, KV1, KV2, KW, ↓bstep, ↓astep, ↓O1.eq_def, ↓onBool.eq_def, ↓onInt.eq_def, ↓onStr.eq_def, ↓onLo.eq_def, ↓binK.eq_def, ↓arith.eq_def, ↓strOp.eq_def, ↓srcElems.eq_def, ↓dst1.eq_def, args0, List.zipIdx, List.map, lookup, St.ev, St.set, St.setO, reduceCtorEq, AV.plain, AV.plainL, AV.flat, AV.flatL, AV.cells, Nat.reduceEqDiff, ↓reduceIte, List.drop, List.take, List.length, Nat.reduceAdd, Nat.reduceLeDiff, Nat.reduceMul, E.done, rvsK, rvK, resAV, Int.reduceToNat, Int.reduceLE, Int.reduceLT, Int.reduceNeg, Int.reduceAdd, Int.reduceSub, Int.reduceMul, Nat.reduceLT, AV.isElem, AV.one, ↓buildCells.eq_1, ↓buildCells.eq_2, Nat.reduceBEq, eqCells]
          have hL' : hits (mP a b) i (b.length - 1) ++ row (mP a b) (k + 1) i = [] := by rw [row_none hr', hl]
          refine hR' (k + 1) _ ⟨by omega, okk (by rw [hr']; dsimp only; omega)⟩ (by omega) ?_
          rw [hL']
          exact weak_none (by simp [lookup, outAV, AV.plain, ePs])
        · obtain ⟨p, rfl⟩ := hsm rfl
          unfold eO eP at hm
          rw [show ((1 : Nat) : Int) = 1 from rfl] at hm
          simp -implicitDefEqProofs (disch := omega) only [KF, KV0, KV1, KV2, KW, ↓bstep, ↓astep, ↓O1.eq_def, ↓onBool.eq_def, ↓onInt.eq_def, ↓onStr.eq_def, ↓onLo.eq_def, ↓binK.eq_def, ↓arith.eq_def, ↓strOp.eq_def, ↓srcElems.eq_def, ↓dst1.eq_def, args0, List.zipIdx, List.map, lookup, St.ev, St.set, St.setO, reduceCtorEq, AV.plain, AV.plainL, AV.flat, AV.flatL, AV.cells, Nat.reduceEqDiff, ↓reduceIte, List.drop, List.take, List.length, Nat.reduceAdd, Nat.reduceLeDiff, Nat.reduceMul, E.done, rvsK, rvK, resAV, Int.reduceToNat, Int.reduceLE, Int.reduceLT, Int.reduceNeg, Int.reduceAdd, Int.reduceSub, Int.reduceMul, Nat.reduceLT, AV.isElem, AV.one, ↓buildCells.eq_1, ↓buildCells.eq_2, Nat.reduceBEq, eqCells, ePs, List.length_map, e1, e2, hk, x1, x2, x3, x4, outAV, outBlk]
          refine CL_pure hm rfl ?_
          simp -implicitDefEqProofs (disch := omega) only [KF, KV0, KV1, KV2, KW, ↓bstep, ↓astep, ↓O1.eq_def, ↓onBool.eq_def, ↓onInt.eq_def, ↓onStr.eq_def, ↓onLo.eq_def, ↓binK.eq_def, ↓arith.eq_def, ↓strOp.eq_def, ↓srcElems.eq_def, ↓dst1.eq_def, args0, List.zipIdx, List.map, lookup, St.ev, St.set, St.setO, reduceCtorEq, AV.plain, AV.plainL, AV.flat, AV.flatL, AV.cells, Nat.reduceEqDiff, ↓reduceIte, List.drop, List.take, List.length, Nat.reduceAdd, Nat.reduceLeDiff, Nat.reduceMul, E.done, rvsK, rvK, resAV, Int.reduceToNat, Int.reduceLE, Int.reduceLT, Int.reduceNeg, Int.reduceAdd, Int.reduceSub, Int.reduceMul, Nat.reduceLT, AV.isElem, AV.one, ↓buildCells.eq_1, ↓buildCells.eq_2, Nat.reduceBEq, eqCells]
          have hL' : hits (mP a b) i (b.length - 1) ++ row (mP a b) (k + 1) i = [(i, k, p)] := by rw [row_one hr', ← List.append_assoc, hl]; rfl
          refine hR' (k + 1) _ ⟨by omega, okk (by rw [hr']; dsimp only; omega)⟩ (by omega) ?_
          rw [hL']
          exact weak_one 1 rfl (cells4_plain [(i, k, p)]) (by simp [lookup, outAV, AV.ren, AV.idsLt, ePs])
        · skip
          obtain ⟨u, v, he⟩ : ∃ u v, eO o = .agg [.str u, .str v] := by cases o <;> exact ⟨_, _, rfl⟩
          rw [he, show ((2 : Nat) : Int) = 2 from rfl] at hm
          simp -implicitDefEqProofs (disch := omega) only [KF, KV0, KV1, KV2, KW, ↓bstep, ↓astep, ↓O1.eq_def, ↓onBool.eq_def, ↓onInt.eq_def, ↓onStr.eq_def, ↓onLo.eq_def, ↓binK.eq_def, ↓arith.eq_def, ↓strOp.eq_def, ↓srcElems.eq_def, ↓dst1.eq_def, args0, List.zipIdx, List.map, lookup, St.ev, St.set, St.setO, reduceCtorEq, AV.plain, AV.plainL, AV.flat, AV.flatL, AV.cells, Nat.reduceEqDiff, ↓reduceIte, List.drop, List.take, List.length, Nat.reduceAdd, Nat.reduceLeDiff, Nat.reduceMul, E.done, rvsK, rvK, resAV, Int.reduceToNat, Int.reduceLE, Int.reduceLT, Int.reduceNeg, Int.reduceAdd, Int.reduceSub, Int.reduceMul, Nat.reduceLT, AV.isElem, AV.one, ↓buildCells.eq_1, ↓buildCells.eq_2, Nat.reduceBEq, eqCells, ePs, List.length_map, e1, e2, hk, x1, x2, x3, x4, outAV, outBlk]
          refine CL_pure hm rfl ?_
          simp -implicitDefEqProofs (disch := omega) only [KF, KV0, KV1, KV2, KW, ↓bstep, ↓astep, ↓O1.eq_def, ↓onBool.eq_def, ↓onInt.eq_def, ↓onStr.eq_def, ↓onLo.eq_def, ↓binK.eq_def, ↓arith.eq_def, ↓strOp.eq_def, ↓srcElems.eq_def, ↓dst1.eq_def, args0, List.zipIdx, List.map, lookup, St.ev, St.set, St.setO, reduceCtorEq, AV.plain, AV.plainL, AV.flat, AV.flatL, AV.cells, Nat.reduceEqDiff, ↓reduceIte, List.drop, List.take, List.length, Nat.reduceAdd, Nat.reduceLeDiff, Nat.reduceMul, E.done, rvsK, rvK, resAV, Int.reduceToNat, Int.reduceLE, Int.reduceLT, Int.reduceNeg, Int.reduceAdd, Int.reduceSub, Int.reduceMul, Nat.reduceLT, AV.isElem, AV.one, ↓buildCells.eq_1, ↓buildCells.eq_2, Nat.reduceBEq, eqCells]
          rw [if_pos ⟨i, k, by omega, by omega, by rw [hr']⟩]
          exact .tuple _ _ (.cons _ _ _ _ (.nil 4) (.cons _ _ _ _ (.same _ rfl) .nil))
      · have cl := cells4_length (y :: L)
        rw [List.length_cons] at hL cl
        rcases hw with rfl | rfl | rfl
        · skip
          obtain ⟨u, v, he⟩ : ∃ u v, eO o = .agg [.str u, .str v] := by cases o <;> exact ⟨_, _, rfl⟩
          rw [he, show ((0 : Nat) : Int) = 0 from rfl] at hm
          simp -implicitDefEqProofs (disch := omega) only [KF, KV0, KV1, KV2, KW, ↓bstep, ↓astep, ↓O1.eq_def, ↓onBool.eq_def, ↓onInt.eq_def, ↓onStr.eq_def, ↓onLo.eq_def, ↓binK.eq_def, ↓arith.eq_def, ↓strOp.eq_def, ↓srcElems.eq_def, ↓dst1.eq_def, args0, List.zipIdx, List.map, lookup, St.ev, St.set, St.setO, reduceCtorEq, AV.plain, AV.plainL, AV.flat, AV.flatL, AV.cells, Nat.reduceEqDiff, ↓reduceIte, List.drop, List.take, List.length, Nat.reduceAdd, Nat.reduceLeDiff, Nat.reduceMul, E.done, rvsK, rvK, resAV, Int.reduceToNat, Int.reduceLE, Int.reduceLT, Int.reduceNeg, Int.reduceAdd, Int.reduceSub, Int.reduceMul, Nat.reduceLT, AV.isElem, AV.one, ↓buildCells.eq_1, ↓buildCells.eq_2, Nat.reduceBEq, eqCells, ePs, List.length_map, e1, e2, hk, x1, x2, x3, x4, outAV, outBlk]
          refine CL_pure hm rfl ?_
          simp -implicitDefEqProofs (disch := omega) only [KF, KV0, KV1, KV2, KW, ↓bstep, ↓astep, ↓O1.eq_def, ↓onBool.eq_def, ↓onInt.eq_def, ↓onStr.eq_def, ↓onLo.eq_def, ↓binK.eq_def, ↓arith.eq_def, ↓strOp.eq_def, ↓srcElems.eq_def, ↓dst1.eq_def, args0, List.zipIdx, List.map, lookup, St.ev, St.set, St.setO, reduceCtorEq, AV.plain, AV.plainL, AV.flat, AV.flatL, AV.cells, Nat.reduceEqDiff, ↓reduceIte, List.drop, List.take, List.length, Nat.reduceAdd, Nat.reduceLeDiff, Nat.reduceMul, E.done, rvsK, rvK, resAV, Int.reduceToNat, Int.reduceLE, Int.reduceLT, Int.reduceNeg, Int.reduceAdd, Int.reduceSub, Int.reduceMul, Nat.reduceLT, AV.isElem, AV.one, ↓buildCells.eq_1, ↓buildCells.eq_2, Nat.reduceBEq, eqCells]
          have hL' : hits (mP a b) i (b.length - 1) ++ row (mP a b) (k + 1) i = y :: L := by rw [row_none hr', hl]
          refine hR' (k + 1) _ ⟨by omega, okk (by rw [hr']; dsimp only; omega)⟩ (by omega) ?_
          rw [hL']
          exact weak_one 0 rfl (cells4_plain (y :: L)) (by simp [lookup, outAV, AV.ren, AV.idsLt, ePs])
        · obtain ⟨p, rfl⟩ := hsm rfl
          unfold eO eP at hm
          rw [show ((1 : Nat) : Int) = 1 from rfl] at hm
          simp -implicitDefEqProofs (disch := omega) only [KF, KV0, KV1, KV2, KW, ↓bstep, ↓astep, ↓O1.eq_def, ↓onBool.eq_def, ↓onInt.eq_def, ↓onStr.eq_def, ↓onLo.eq_def, ↓binK.eq_def, ↓arith.eq_def, ↓strOp.eq_def, ↓srcElems.eq_def, ↓dst1.eq_def, args0, List.zipIdx, List.map, lookup, St.ev, St.set, St.setO, reduceCtorEq, AV.plain, AV.plainL, AV.flat, AV.flatL, AV.cells, Nat.reduceEqDiff, ↓reduceIte, List.drop, List.take, List.length, Nat.reduceAdd, Nat.reduceLeDiff, Nat.reduceMul, E.done, rvsK, rvK, resAV, Int.reduceToNat, Int.reduceLE, Int.reduceLT, Int.reduceNeg, Int.reduceAdd, Int.reduceSub, Int.reduceMul, Nat.reduceLT, AV.isElem, AV.one, ↓buildCells.eq_1, ↓buildCells.eq_2, Nat.reduceBEq, eqCells, ePs, List.length_map, e1, e2, hk, x1, x2, x3, x4, outAV, outBlk]
          refine CL_pure hm rfl ?_
          simp -implicitDefEqProofs (disch := omega) only [KF, KV0, KV1, KV2, KW, ↓bstep, ↓astep, ↓O1.eq_def, ↓onBool.eq_def, ↓onInt.eq_def, ↓onStr.eq_def, ↓onLo.eq_def, ↓binK.eq_def, ↓arith.eq_def, ↓strOp.eq_def, ↓srcElems.eq_def, ↓dst1.eq_def, args0, List.zipIdx, List.map, lookup, St.ev, St.set, St.setO, reduceCtorEq, AV.plain, AV.plainL, AV.flat, AV.flatL, AV.cells, Nat.reduceEqDiff, ↓reduceIte, List.drop, List.take, List.length, Nat.reduceAdd, Nat.reduceLeDiff, Nat.reduceMul, E.done, rvsK, rvK, resAV, Int.reduceToNat, Int.reduceLE, Int.reduceLT, Int.reduceNeg, Int.reduceAdd, Int.reduceSub, Int.reduceMul, Nat.reduceLT, AV.isElem, AV.one, ↓buildCells.eq_1, ↓buildCells.eq_2, Nat.reduceBEq, eqCells]
          have hL' : hits (mP a b) i (b.length - 1) ++ row (mP a b) (k + 1) i = y :: (L ++ [(i, k, p)]) := by rw [row_one hr', ← List.append_assoc, hl]; rfl
          have e : List.take ((L.length + 1) * 4) (cells4 (y :: L)) ++ List.flatMap AV.cells [AV.agg [.int .i64 i, .int .i64 k, .str (tq p.1), .str (tq p.2)]] = cells4 (y :: (L ++ [(i, k, p)])) := by
            rw [← cl, List.take_length, ← List.cons_append, cells4_append]; rfl
          refine ⟨by rw [cl]; omega, by omega, by omega, ?_⟩
          rw [e]
          refine hR' (k + 1) _ ⟨by omega, okk (by rw [hr']; dsimp only; omega)⟩ (by omega) ?_
          rw [hL']
          exact weak_one 2 rfl (cells4_plain _) (by simp [lookup, outAV, AV.ren, AV.idsLt, ePs])
        · skip
          obtain ⟨u, v, he⟩ : ∃ u v, eO o = .agg [.str u, .str v] := by cases o <;> exact ⟨_, _, rfl⟩
          rw [he, show ((2 : Nat) : Int) = 2 from rfl] at hm
          simp -implicitDefEqProofs (disch := omega) only [KF, KV0, KV1, KV2, KW, ↓bstep, ↓astep, ↓O1.eq_def, ↓onBool.eq_def, ↓onInt.eq_def, ↓onStr.eq_def, ↓onLo.eq_def, ↓binK.eq_def, ↓arith.eq_def, ↓strOp.eq_def, ↓srcElems.eq_def, ↓dst1.eq_def, args0, List.zipIdx, List.map, lookup, St.ev, St.set, St.setO, reduceCtorEq, AV.plain, AV.plainL, AV.flat, AV.flatL, AV.cells, Nat.reduceEqDiff, ↓reduceIte, List.drop, List.take, List.length, Nat.reduceAdd, Nat.reduceLeDiff, Nat.reduceMul, E.done, rvsK, rvK, resAV, Int.reduceToNat, Int.reduceLE, Int.reduceLT, Int.reduceNeg, Int.reduceAdd, Int.reduceSub, Int.reduceMul, Nat.reduceLT, AV.isElem, AV.one, ↓buildCells.eq_1, ↓buildCells.eq_2, Nat.reduceBEq, eqCells, ePs, List.length_map, e1, e2, hk, x1, x2, x3, x4, outAV, outBlk]
          refine CL_pure hm rfl ?_
          simp -implicitDefEqProofs (disch := omega) only [KF, KV0, KV1, KV2, KW, ↓bstep, ↓astep, ↓O1.eq_def, ↓onBool.eq_def, ↓onInt.eq_def, ↓onStr.eq_def, ↓onLo.eq_def, ↓binK.eq_def, ↓arith.eq_def, ↓strOp.eq_def, ↓srcElems.eq_def, ↓dst1.eq_def, args0, List.zipIdx, List.map, lookup, St.ev, St.set, St.setO, reduceCtorEq, AV.plain, AV.plainL, AV.flat, AV.flatL, AV.cells, Nat.reduceEqDiff, ↓reduceIte, List.drop, List.take, List.length, Nat.reduceAdd, Nat.reduceLeDiff, Nat.reduceMul, E.done, rvsK, rvK, resAV, Int.reduceToNat, Int.reduceLE, Int.reduceLT, Int.reduceNeg, Int.reduceAdd, Int.reduceSub, Int.reduceMul, Nat.reduceLT, AV.isElem, AV.one, ↓buildCells.eq_1, ↓buildCells.eq_2, Nat.reduceBEq, eqCells]
          rw [if_pos ⟨i, k, by omega, by omega, by rw [hr']⟩]
          exact .tuple _ _ (.cons _ _ _ _ (.nil 4) (.cons _ _ _ _ (.same _ rfl) .nil))
    · have ek : k = b.length - 1 := by omega
      have hk' : ¬ k < b.length - 1 := by omega
      simp -implicitDefEqProofs (disch := omega) only [KF, KV0, KV1, KV2, KW, ↓bstep, ↓astep, ↓O1.eq_def, ↓onBool.eq_def, ↓onInt.eq_def, ↓onStr.eq_def, ↓onLo.eq_def, ↓binK.eq_def, ↓arith.eq_def, ↓strOp.eq_def, ↓srcElems.eq_def, ↓dst1.eq_def, args0, List.zipIdx, List.map, lookup, St.ev, St.set, St.setO, reduceCtorEq, AV.plain, AV.plainL, AV.flat, AV.flatL, AV.cells, Nat.reduceEqDiff, ↓reduceIte, List.drop, List.take, List.length, Nat.reduceAdd, Nat.reduceLeDiff, Nat.reduceMul, E.done, rvsK, rvK, resAV, Int.reduceToNat, Int.reduceLE, Int.reduceLT, Int.reduceNeg, Int.reduceAdd, Int.reduceSub, Int.reduceMul, Nat.reduceLT, AV.isElem, AV.one, ↓buildCells.eq_1, ↓buildCells.eq_2, Nat.reduceBEq, eqCells, hk']
      refine hR (i + 1) _ ⟨by omega, fun i' k' h1 h2 => ?_⟩ (by omega) ?_
      · by_cases e : i' = i
        · rw [e]; exact k2 k' (by omega)
        · exact i2 i' k' (by omega) h2
      · rw [hits_succ, ← ek]
        exact weak_keep (by simp [lookup, ePs, ek])
  · have ei : i = a.length - 1 := by omega
    have hi' : ¬ i < a.length - 1 := by omega
    simp -implicitDefEqProofs (disch := omega) only [KF, KV0, KV1, KV2, KW, ↓bstep, ↓astep, ↓O1.eq_def, ↓onBool.eq_def, ↓onInt.eq_def, ↓onStr.eq_def, ↓onLo.eq_def, ↓binK.eq_def, ↓arith.eq_def, ↓strOp.eq_def, ↓srcElems.eq_def, ↓dst1.eq_def, args0, List.zipIdx, List.map, lookup, St.ev, St.set, St.setO, reduceCtorEq, AV.plain, AV.plainL, AV.flat, AV.flatL, AV.cells, Nat.reduceEqDiff, ↓reduceIte, List.drop, List.take, List.length, Nat.reduceAdd, Nat.reduceLeDiff, Nat.reduceMul, E.done, rvsK, rvK, resAV, Int.reduceToNat, Int.reduceLE, Int.reduceLT, Int.reduceNeg, Int.reduceAdd, Int.reduceSub, Int.reduceMul, Nat.reduceLT, AV.isElem, AV.one, ↓buildCells.eq_1, ↓buildCells.eq_2, Nat.reduceBEq, eqCells, hi']
    have no : ¬ overP a b := by
      rintro ⟨i', k', h1, h2, h3⟩
      exact i2 i' k' (by omega) h2 h3
    have hq := hits_qk ha hb
    rw [if_neg no]
    subst ei
    have bl := hits_len (mP a b) (b.length - 1) (a.length - 1)
    have bm : (a.length - 1) * (b.length - 1) ≤ 8 * 8 := Nat.mul_le_mul (by omega) (by omega)
    refine CL_show (s47 m _ hq (by omega)) (.cons _ _ _ _ (out_shows _) (.cons _ _ _ _ (.same _ rfl) .nil)) rfl ?_
    simp -implicitDefEqProofs (disch := omega) only [KF, KV0, KV1, KV2, KW, ↓bstep, ↓astep, ↓O1.eq_def, ↓onBool.eq_def, ↓onInt.eq_def, ↓onStr.eq_def, ↓onLo.eq_def, ↓binK.eq_def, ↓arith.eq_def, ↓strOp.eq_def, ↓srcElems.eq_def, ↓dst1.eq_def, args0, List.zipIdx, List.map, lookup, St.ev, St.set, St.setO, reduceCtorEq, AV.plain, AV.plainL, AV.flat, AV.flatL, AV.cells, Nat.reduceEqDiff, ↓reduceIte, List.drop, List.take, List.length, Nat.reduceAdd, Nat.reduceLeDiff, Nat.reduceMul, E.done, rvsK, rvK, resAV, Int.reduceToNat, Int.reduceLE, Int.reduceLT, Int.reduceNeg, Int.reduceAdd, Int.reduceSub, Int.reduceMul, Nat.reduceLT, AV.isElem, AV.one, ↓buildCells.eq_1, ↓buildCells.eq_2, Nat.reduceBEq, eqCells]
    exact .tuple _ _ (.cons _ _ _ _ (out_shows _) (.cons _ _ _ _ (.same _ rfl) .nil))
end Go.Proofs.YtkjnjdcbnelceaaGreatDoor.KA
end

section
/- Contract: the law's points. -/
open Go Go.Proofs
set_option linter.unusedSimpArgs false
set_option linter.unusedVariables false
set_option maxHeartbeats 1000000
set_option maxRecDepth 20000
namespace Go.Proofs.YtkjnjdcbnelceaaGreatDoor.KA
open Num Geo

def eI8 (l : List (Int × Int)) : AV := .sl 2 (l.map fun p => .agg [.int .i8 p.1, .int .i8 p.2])
def in8 (l : List (Int × Int)) : Prop := ∀ p ∈ l, (-128 ≤ p.1 ∧ p.1 ≤ 127) ∧ (-128 ≤ p.2 ∧ p.2 ≤ 127)
def ptOf (p : Int × Int) : Pt := (((p.1.tmod 10 : Int) : Rat), ((p.2.tmod 10 : Int) : Rat))
def pts (l : List (Int × Int)) : List Pt := l.map ptOf
theorem tmod10 (n : Int) : (n.tmod 10).natAbs ≤ 9 := by
  rw [Int.natAbs_tmod]
  have := Nat.mod_lt n.natAbs (show 0 < (10 : Int).natAbs by decide)
  have h : (10 : Int).natAbs = 10 := rfl
  omega
theorem pts9 (l : List (Int × Int)) : all9 (pts l) := by
  intro p hp
  obtain ⟨q, _, rfl⟩ := List.mem_map.1 hp
  exact ⟨⟨by simpa [ptOf] using tmod10 q.1, by simp [ptOf]⟩, ⟨by simpa [ptOf] using tmod10 q.2, by simp [ptOf]⟩⟩
def ptAV : List Pt → AV
  | [] => .nils
  | l => .own 2 0 0 l.length l.length
def ptBlk : List Pt → AHeap
  | [] => []
  | l => [some (cells l)]
theorem pt_map (l : List Pt) : (l.map fun p : Pt => AV.agg [.str (tq p.1), .str (tq p.2)]).flatMap AV.cells = cells l := by
  unfold cells; rw [List.flatMap_map]; rfl
theorem pt_shows (l : List Pt) : Shows (ptBlk l) (ptAV l) (ePs l) := by
  cases l with
  | nil => exact .nil 2
  | cons x l =>
    refine .own 2 0 0 _ _ (cells (x :: l)) _ rfl (by rw [cells_length]; omega) (by simp) (fun y hy => ?_) ?_
    · obtain ⟨z, _, rfl⟩ := List.mem_map.1 hy; rfl
    · rw [pt_map, List.drop_zero, ← cells_length, List.take_length]
      exact showsL_refl (cells_plain _)
/-- klippelaw11.Points -/
theorem s12 (m : Int) (l : List (Int × Int)) (h8 : in8 l) (hl : l.length ≤ 8) : SpecP (cx m) 12 [eI8 l, .bool false] (ePs (pts l)) := by
  refine specP_of (mixed m) (k12 m) (Nat.le_of_ble_eq_true rfl) (X_start ?_)
  unfold c12
  simp -implicitDefEqProofs (disch := omega) only [KF, KV0, KV1, KV2, KW, ↓bstep, ↓astep, ↓O1.eq_def, ↓onBool.eq_def, ↓onInt.eq_def, ↓onStr.eq_def, ↓onLo.eq_def, ↓binK.eq_def, ↓arith.eq_def, ↓strOp.eq_def, ↓srcElems.eq_def, ↓dst1.eq_def, args0, List.zipIdx, List.map, lookup, St.ev, St.set, St.setO, reduceCtorEq, AV.plain, AV.plainL, AV.flat, AV.flatL, AV.cells, Nat.reduceEqDiff, ↓reduceIte, List.drop, List.take, List.length, Nat.reduceAdd, Nat.reduceLeDiff, Nat.reduceMul, E.done, rvsK, rvK, resAV, Int.reduceToNat, Int.reduceLE, Int.reduceLT, Int.reduceNeg, Int.reduceAdd, Int.reduceSub, Int.reduceMul, Nat.reduceLT, AV.isElem, AV.one, ↓buildCells.eq_1, ↓buildCells.eq_2, Nat.reduceBEq, eqCells]
  refine X_for (fun i : Nat => ⟨[(0, eI8 l), (5, ptAV (pts (l.take i))), (6, .int .i64 1), (7, .int .i64 i)], ptBlk (pts (l.take i))⟩) (fun i => i ≤ l.length) (fun i => l.length - i) 0 (Nat.zero_le _) ?_ ?_
  · exact weak_keep (by simp [lookup, pts, ptAV])
  intro i R i1 hR
  try dsimp only at hR ⊢
  rcases Nat.lt_or_ge i l.length with hi | hi
  · have x1 : (l.map fun p : Int × Int => AV.agg [.int .i8 p.1, .int .i8 p.2])[i]? = some (.agg [.int .i8 l[i].1, .int .i8 l[i].2]) := by simp [hi]
    obtain ⟨b1, b2⟩ := h8 _ (List.getElem_mem hi)
    have t1 := tmod10 l[i].1
    have t2 := tmod10 l[i].2
    have q8 : (i : Int) < 8 := by omega
    have hP : pts (l.take (i + 1)) = pts (l.take i) ++ [ptOf l[i]] := by
      unfold pts; rw [List.take_add_one, List.getElem?_eq_getElem hi, List.map_append]; rfl
    have hlen : (pts (l.take i)).length = i := by simp [pts]; omega
    generalize hL : pts (l.take i) = L at *
    rcases L with _ | ⟨y, L⟩
    · simp -implicitDefEqProofs (disch := omega) only [KF, KV0, KV1, KV2, KW, ↓bstep, ↓astep, ↓O1.eq_def, ↓onBool.eq_def, ↓onInt.eq_def, ↓onStr.eq_def, ↓onLo.eq_def, ↓binK.eq_def, ↓arith.eq_def, ↓strOp.eq_def, ↓srcElems.eq_def, ↓dst1.eq_def, args0, List.zipIdx, List.map, lookup, St.ev, St.set, St.setO, reduceCtorEq, AV.plain, AV.plainL, AV.flat, AV.flatL, AV.cells, Nat.reduceEqDiff, ↓reduceIte, List.drop, List.take, List.length, Nat.reduceAdd, Nat.reduceLeDiff, Nat.reduceMul, E.done, rvsK, rvK, resAV, Int.reduceToNat, Int.reduceLE, Int.reduceLT, Int.reduceNeg, Int.reduceAdd, Int.reduceSub, Int.reduceMul, Nat.reduceLT, AV.isElem, AV.one, ↓buildCells.eq_1, ↓buildCells.eq_2, Nat.reduceBEq, eqCells, eI8, List.length_map, hi, q8, x1, ptAV, ptBlk]
      refine ⟨by omega, by omega, CL_pure (s44 m (l[i].1.tmod 10) (by omega)) rfl ?_⟩
      simp -implicitDefEqProofs (disch := omega) only [KF, KV0, KV1, KV2, KW, ↓bstep, ↓astep, ↓O1.eq_def, ↓onBool.eq_def, ↓onInt.eq_def, ↓onStr.eq_def, ↓onLo.eq_def, ↓binK.eq_def, ↓arith.eq_def, ↓strOp.eq_def, ↓srcElems.eq_def, ↓dst1.eq_def, args0, List.zipIdx, List.map, lookup, St.ev, St.set, St.setO, reduceCtorEq, AV.plain, AV.plainL, AV.flat, AV.flatL, AV.cells, Nat.reduceEqDiff, ↓reduceIte, List.drop, List.take, List.length, Nat.reduceAdd, Nat.reduceLeDiff, Nat.reduceMul, E.done, rvsK, rvK, resAV, Int.reduceToNat, Int.reduceLE, Int.reduceLT, Int.reduceNeg, Int.reduceAdd, Int.reduceSub, Int.reduceMul, Nat.reduceLT, AV.isElem, AV.one, ↓buildCells.eq_1, ↓buildCells.eq_2, Nat.reduceBEq, eqCells, x1]
      refine ⟨by omega, by omega, CL_pure (s44 m (l[i].2.tmod 10) (by omega)) rfl ?_⟩
      simp -implicitDefEqProofs (disch := omega) only [KF, KV0, KV1, KV2, KW, ↓bstep, ↓astep, ↓O1.eq_def, ↓onBool.eq_def, ↓onInt.eq_def, ↓onStr.eq_def, ↓onLo.eq_def, ↓binK.eq_def, ↓arith.eq_def, ↓strOp.eq_def, ↓srcElems.eq_def, ↓dst1.eq_def, args0, List.zipIdx, List.map, lookup, St.ev, St.set, St.setO, reduceCtorEq, AV.plain, AV.plainL, AV.flat, AV.flatL, AV.cells, Nat.reduceEqDiff, ↓reduceIte, List.drop, List.take, List.length, Nat.reduceAdd, Nat.reduceLeDiff, Nat.reduceMul, E.done, rvsK, rvK, resAV, Int.reduceToNat, Int.reduceLE, Int.reduceLT, Int.reduceNeg, Int.reduceAdd, Int.reduceSub, Int.reduceMul, Nat.reduceLT, AV.isElem, AV.one, ↓buildCells.eq_1, ↓buildCells.eq_2, Nat.reduceBEq, eqCells]
      refine hR (i + 1) _ (by omega) (by omega) ?_
      rw [hP]
      exact weak_one 0 rfl (cells_plain [ptOf l[i]]) (by simp [lookup, eI8, ptAV, AV.ren, AV.idsLt])
    · have cl := cells_length (y :: L)
      rw [List.length_cons] at hlen cl
      simp -implicitDefEqProofs (disch := omega) only [KF, KV0, KV1, KV2, KW, ↓bstep, ↓astep, ↓O1.eq_def, ↓onBool.eq_def, ↓onInt.eq_def, ↓onStr.eq_def, ↓onLo.eq_def, ↓binK.eq_def, ↓arith.eq_def, ↓strOp.eq_def, ↓srcElems.eq_def, ↓dst1.eq_def, args0, List.zipIdx, List.map, lookup, St.ev, St.set, St.setO, reduceCtorEq, AV.plain, AV.plainL, AV.flat, AV.flatL, AV.cells, Nat.reduceEqDiff, ↓reduceIte, List.drop, List.take, List.length, Nat.reduceAdd, Nat.reduceLeDiff, Nat.reduceMul, E.done, rvsK, rvK, resAV, Int.reduceToNat, Int.reduceLE, Int.reduceLT, Int.reduceNeg, Int.reduceAdd, Int.reduceSub, Int.reduceMul, Nat.reduceLT, AV.isElem, AV.one, ↓buildCells.eq_1, ↓buildCells.eq_2, Nat.reduceBEq, eqCells, eI8, List.length_map, hi, q8, x1, ptAV, ptBlk]
      refine ⟨by omega, by omega, CL_pure (s44 m (l[i].1.tmod 10) (by omega)) rfl ?_⟩
      simp -implicitDefEqProofs (disch := omega) only [KF, KV0, KV1, KV2, KW, ↓bstep, ↓astep, ↓O1.eq_def, ↓onBool.eq_def, ↓onInt.eq_def, ↓onStr.eq_def, ↓onLo.eq_def, ↓binK.eq_def, ↓arith.eq_def, ↓strOp.eq_def, ↓srcElems.eq_def, ↓dst1.eq_def, args0, List.zipIdx, List.map, lookup, St.ev, St.set, St.setO, reduceCtorEq, AV.plain, AV.plainL, AV.flat, AV.flatL, AV.cells, Nat.reduceEqDiff, ↓reduceIte, List.drop, List.take, List.length, Nat.reduceAdd, Nat.reduceLeDiff, Nat.reduceMul, E.done, rvsK, rvK, resAV, Int.reduceToNat, Int.reduceLE, Int.reduceLT, Int.reduceNeg, Int.reduceAdd, Int.reduceSub, Int.reduceMul, Nat.reduceLT, AV.isElem, AV.one, ↓buildCells.eq_1, ↓buildCells.eq_2, Nat.reduceBEq, eqCells, x1]
      refine ⟨by omega, by omega, CL_pure (s44 m (l[i].2.tmod 10) (by omega)) rfl ?_⟩
      simp -implicitDefEqProofs (disch := omega) only [KF, KV0, KV1, KV2, KW, ↓bstep, ↓astep, ↓O1.eq_def, ↓onBool.eq_def, ↓onInt.eq_def, ↓onStr.eq_def, ↓onLo.eq_def, ↓binK.eq_def, ↓arith.eq_def, ↓strOp.eq_def, ↓srcElems.eq_def, ↓dst1.eq_def, args0, List.zipIdx, List.map, lookup, St.ev, St.set, St.setO, reduceCtorEq, AV.plain, AV.plainL, AV.flat, AV.flatL, AV.cells, Nat.reduceEqDiff, ↓reduceIte, List.drop, List.take, List.length, Nat.reduceAdd, Nat.reduceLeDiff, Nat.reduceMul, E.done, rvsK, rvK, resAV, Int.reduceToNat, Int.reduceLE, Int.reduceLT, Int.reduceNeg, Int.reduceAdd, Int.reduceSub, Int.reduceMul, Nat.reduceLT, AV.isElem, AV.one, ↓buildCells.eq_1, ↓buildCells.eq_2, Nat.reduceBEq, eqCells]
      have e : List.take ((L.length + 1) * 2) (cells (y :: L)) ++ List.flatMap AV.cells [AV.agg [.str (tq ((l[i].1.tmod 10 : Int) : Rat)), .str (tq ((l[i].2.tmod 10 : Int) : Rat))]] = cells (y :: (L ++ [ptOf l[i]])) := by
        rw [← cl, List.take_length, ← List.cons_append, cells_append]; rfl
      refine ⟨by rw [cl]; omega, by omega, by omega, ?_⟩
      rw [e]
      refine hR (i + 1) _ (by omega) (by omega) ?_
      rw [hP]
      exact weak_one 1 rfl (cells_plain (y :: (L ++ [ptOf l[i]]))) (by simp [lookup, eI8, ptAV, AV.ren, AV.idsLt])
  · have hi' : ¬ i < l.length := by omega
    simp -implicitDefEqProofs (disch := omega) only [KF, KV0, KV1, KV2, KW, ↓bstep, ↓astep, ↓O1.eq_def, ↓onBool.eq_def, ↓onInt.eq_def, ↓onStr.eq_def, ↓onLo.eq_def, ↓binK.eq_def, ↓arith.eq_def, ↓strOp.eq_def, ↓srcElems.eq_def, ↓dst1.eq_def, args0, List.zipIdx, List.map, lookup, St.ev, St.set, St.setO, reduceCtorEq, AV.plain, AV.plainL, AV.flat, AV.flatL, AV.cells, Nat.reduceEqDiff, ↓reduceIte, List.drop, List.take, List.length, Nat.reduceAdd, Nat.reduceLeDiff, Nat.reduceMul, E.done, rvsK, rvK, resAV, Int.reduceToNat, Int.reduceLE, Int.reduceLT, Int.reduceNeg, Int.reduceAdd, Int.reduceSub, Int.reduceMul, Nat.reduceLT, AV.isElem, AV.one, ↓buildCells.eq_1, ↓buildCells.eq_2, Nat.reduceBEq, eqCells, eI8, List.length_map, hi']
    rw [List.take_of_length_le (by omega)]
    exact pt_shows _
end Go.Proofs.YtkjnjdcbnelceaaGreatDoor.KA
end

section
/- The law PolylineCrosses, from what the known examples come to. -/
open Go Go.Proofs
set_option linter.unusedSimpArgs false
set_option linter.unusedVariables false
set_option maxHeartbeats 1000000
set_option maxRecDepth 20000
namespace Go.Proofs.YtkjnjdcbnelceaaGreatDoor.KA
open Num Geo

theorem crossed_of {c : List Pt} {i k : Nat} (hik : i < k) (hk : k + 1 < c.length) (h : ¬ badP c i k) : crossedP c (c.length - 1) i k = false := by
  have e1 : (i + 1) % c.length = i + 1 := Nat.mod_eq_of_lt (by omega)
  have e2 : (k + 1) % c.length = k + 1 := Nat.mod_eq_of_lt hk
  have hn : nextP c.length (c.length - 1) i k = decide (k = i + 1) := by
    unfold nextP
    rw [decide_eq_false (show ¬ c.length - 1 = c.length by omega)]
    simp
  unfold crossedP
  rw [e1, e2]
  unfold badP mP at h
  generalize meetP (at' c i) (at' c (i + 1)) (at' c k) (at' c (k + 1)) = r at *
  unfold crossR
  rw [hn]
  by_cases h0 : r.1 = 0
  · rw [if_pos h0]
  · rw [if_neg h0]
    have h' : ¬ (r.1 = 2 ∨ k ≠ i + 1 ∨ (r.2 ≠ some (at' c k) ∧ (r.2 ≠ some (at' c i) ∨ k ≠ c.length - 1))) := fun hh => h ⟨h0, hh⟩
    have h2 : ¬ r.1 = 2 := fun hh => h' (.inl hh)
    have h3 : k = i + 1 := Classical.byContradiction fun hh => h' (.inr (.inl hh))
    have h4 : r.2 ≠ some (at' c k) → ¬ (r.2 ≠ some (at' c i) ∨ k ≠ c.length - 1) := fun h5 h6 => h' (.inr (.inr ⟨h5, h6⟩))
    rw [if_neg (by rintro (hh | hh); exact h2 hh; simp [h3] at hh)]
    by_cases h5 : r.2 = some (at' c k)
    · rw [if_pos ⟨h3, h5⟩]
    · rw [if_neg (fun hh => h5 hh.2)]
      have h6 := h4 h5
      simp only [not_or, ne_eq, Classical.not_not] at h6
      simp [h6.1, h6.2]

theorem checked {c : List Pt} (h : checkL c = 0) : 2 ≤ c.length ∧ apart c ∧ checkP c = 0 := by
  unfold checkL at h
  split at h
  · omega
  · split at h
    · omega
    · rename_i h1 h2
      split at h
      · rename_i h3
        have ha : apart c := fun i hi e => h2 ⟨i, hi, e⟩
        refine ⟨by omega, ha, ?_⟩
        have hs := simple_agree ha h3
        unfold checkP
        rw [if_neg h2, if_pos]
        intro i k hik hk
        exact crossed_of hik (by omega) (hs i k hik (by omega))
      · omega

theorem over_iff {a b : List Pt} (ha : apart a) (hb : apart b) : overL a b ↔ overP a b := by
  unfold overL overP
  constructor
  · rintro ⟨i, k, h1, h2, h3⟩
    rw [over_agree ha hb h1 h2] at h3
    have := mP_how a b i k
    exact ⟨i, k, h1, h2, by omega⟩
  · rintro ⟨i, k, h1, h2, h3⟩
    exact ⟨i, k, h1, h2, by rw [over_agree ha hb h1 h2]; omega⟩

/-- klippelaw11.PolylineCrosses -/
theorem s3 (m : Int) (hK : SpecP (cx m) 11 [] (.bool true)) (l r : List (Int × Int)) (hl : in8 l) (hr : in8 r) : SpecP (cx m) 3 [eI8 l, eI8 r] (.bool true) := by
  refine specP_of (mixed m) (k3 m) (Nat.le_of_ble_eq_true rfl) (X_start ?_)
  unfold c3
  simp -implicitDefEqProofs (disch := omega) only [KF, KV0, KV1, KV2, KW, ↓bstep, ↓astep, ↓O1.eq_def, ↓onBool.eq_def, ↓onInt.eq_def, ↓onStr.eq_def, ↓onLo.eq_def, ↓binK.eq_def, ↓arith.eq_def, ↓strOp.eq_def, ↓srcElems.eq_def, ↓dst1.eq_def, args0, List.zipIdx, List.map, lookup, St.ev, St.set, St.setO, reduceCtorEq, AV.plain, AV.plainL, AV.flat, AV.flatL, AV.cells, Nat.reduceEqDiff, ↓reduceIte, List.drop, List.take, List.length, Nat.reduceAdd, Nat.reduceLeDiff, Nat.reduceMul, E.done, rvsK, rvK, resAV, Int.reduceToNat, Int.reduceLE, Int.reduceLT, Int.reduceNeg, Int.reduceAdd, Int.reduceSub, Int.reduceMul, Nat.reduceLT, AV.isElem, AV.one, ↓buildCells.eq_1, ↓buildCells.eq_2, Nat.reduceBEq, eqCells]
  refine CL_pure hK rfl ?_
  by_cases l6 : 6 < l.length
  · have f1 : (6 : Int) < (l.length : Int) := by omega
    simp -implicitDefEqProofs (disch := omega) only [KF, KV0, KV1, KV2, KW, ↓bstep, ↓astep, ↓O1.eq_def, ↓onBool.eq_def, ↓onInt.eq_def, ↓onStr.eq_def, ↓onLo.eq_def, ↓binK.eq_def, ↓arith.eq_def, ↓strOp.eq_def, ↓srcElems.eq_def, ↓dst1.eq_def, args0, List.zipIdx, List.map, lookup, St.ev, St.set, St.setO, reduceCtorEq, AV.plain, AV.plainL, AV.flat, AV.flatL, AV.cells, Nat.reduceEqDiff, ↓reduceIte, List.drop, List.take, List.length, Nat.reduceAdd, Nat.reduceLeDiff, Nat.reduceMul, E.done, rvsK, rvK, resAV, Int.reduceToNat, Int.reduceLE, Int.reduceLT, Int.reduceNeg, Int.reduceAdd, Int.reduceSub, Int.reduceMul, Nat.reduceLT, AV.isElem, AV.one, ↓buildCells.eq_1, ↓buildCells.eq_2, Nat.reduceBEq, eqCells, eI8, List.length_map, f1]
    refine CL_pure hK rfl ?_
    simp -implicitDefEqProofs (disch := omega) only [KF, KV0, KV1, KV2, KW, ↓bstep, ↓astep, ↓O1.eq_def, ↓onBool.eq_def, ↓onInt.eq_def, ↓onStr.eq_def, ↓onLo.eq_def, ↓binK.eq_def, ↓arith.eq_def, ↓strOp.eq_def, ↓srcElems.eq_def, ↓dst1.eq_def, args0, List.zipIdx, List.map, lookup, St.ev, St.set, St.setO, reduceCtorEq, AV.plain, AV.plainL, AV.flat, AV.flatL, AV.cells, Nat.reduceEqDiff, ↓reduceIte, List.drop, List.take, List.length, Nat.reduceAdd, Nat.reduceLeDiff, Nat.reduceMul, E.done, rvsK, rvK, resAV, Int.reduceToNat, Int.reduceLE, Int.reduceLT, Int.reduceNeg, Int.reduceAdd, Int.reduceSub, Int.reduceMul, Nat.reduceLT, AV.isElem, AV.one, ↓buildCells.eq_1, ↓buildCells.eq_2, Nat.reduceBEq, eqCells]
    exact shb rfl
  have f1 : ¬ (6 : Int) < (l.length : Int) := by omega
  by_cases r6 : 6 < r.length
  · have f2 : (6 : Int) < (r.length : Int) := by omega
    simp -implicitDefEqProofs (disch := omega) only [KF, KV0, KV1, KV2, KW, ↓bstep, ↓astep, ↓O1.eq_def, ↓onBool.eq_def, ↓onInt.eq_def, ↓onStr.eq_def, ↓onLo.eq_def, ↓binK.eq_def, ↓arith.eq_def, ↓strOp.eq_def, ↓srcElems.eq_def, ↓dst1.eq_def, args0, List.zipIdx, List.map, lookup, St.ev, St.set, St.setO, reduceCtorEq, AV.plain, AV.plainL, AV.flat, AV.flatL, AV.cells, Nat.reduceEqDiff, ↓reduceIte, List.drop, List.take, List.length, Nat.reduceAdd, Nat.reduceLeDiff, Nat.reduceMul, E.done, rvsK, rvK, resAV, Int.reduceToNat, Int.reduceLE, Int.reduceLT, Int.reduceNeg, Int.reduceAdd, Int.reduceSub, Int.reduceMul, Nat.reduceLT, AV.isElem, AV.one, ↓buildCells.eq_1, ↓buildCells.eq_2, Nat.reduceBEq, eqCells, eI8, List.length_map, f1, f2]
    refine CL_pure hK rfl ?_
    simp -implicitDefEqProofs (disch := omega) only [KF, KV0, KV1, KV2, KW, ↓bstep, ↓astep, ↓O1.eq_def, ↓onBool.eq_def, ↓onInt.eq_def, ↓onStr.eq_def, ↓onLo.eq_def, ↓binK.eq_def, ↓arith.eq_def, ↓strOp.eq_def, ↓srcElems.eq_def, ↓dst1.eq_def, args0, List.zipIdx, List.map, lookup, St.ev, St.set, St.setO, reduceCtorEq, AV.plain, AV.plainL, AV.flat, AV.flatL, AV.cells, Nat.reduceEqDiff, ↓reduceIte, List.drop, List.take, List.length, Nat.reduceAdd, Nat.reduceLeDiff, Nat.reduceMul, E.done, rvsK, rvK, resAV, Int.reduceToNat, Int.reduceLE, Int.reduceLT, Int.reduceNeg, Int.reduceAdd, Int.reduceSub, Int.reduceMul, Nat.reduceLT, AV.isElem, AV.one, ↓buildCells.eq_1, ↓buildCells.eq_2, Nat.reduceBEq, eqCells]
    exact shb rfl
  have f2 : ¬ (6 : Int) < (r.length : Int) := by omega
  have pl := s12 m l hl (by omega)
  have pr := s12 m r hr (by omega)
  have cl := s13 m (pts l) (pts9 l) (by simp [pts]; omega)
  have cr := s13 m (pts r) (pts9 r) (by simp [pts]; omega)
  unfold eI8 at pl pr
  simp -implicitDefEqProofs (disch := omega) only [KF, KV0, KV1, KV2, KW, ↓bstep, ↓astep, ↓O1.eq_def, ↓onBool.eq_def, ↓onInt.eq_def, ↓onStr.eq_def, ↓onLo.eq_def, ↓binK.eq_def, ↓arith.eq_def, ↓strOp.eq_def, ↓srcElems.eq_def, ↓dst1.eq_def, args0, List.zipIdx, List.map, lookup, St.ev, St.set, St.setO, reduceCtorEq, AV.plain, AV.plainL, AV.flat, AV.flatL, AV.cells, Nat.reduceEqDiff, ↓reduceIte, List.drop, List.take, List.length, Nat.reduceAdd, Nat.reduceLeDiff, Nat.reduceMul, E.done, rvsK, rvK, resAV, Int.reduceToNat, Int.reduceLE, Int.reduceLT, Int.reduceNeg, Int.reduceAdd, Int.reduceSub, Int.reduceMul, Nat.reduceLT, AV.isElem, AV.one, ↓buildCells.eq_1, ↓buildCells.eq_2, Nat.reduceBEq, eqCells, eI8, List.length_map, f1, f2]
  refine CL_pure pl rfl ?_
  simp -implicitDefEqProofs (disch := omega) only [KF, KV0, KV1, KV2, KW, ↓bstep, ↓astep, ↓O1.eq_def, ↓onBool.eq_def, ↓onInt.eq_def, ↓onStr.eq_def, ↓onLo.eq_def, ↓binK.eq_def, ↓arith.eq_def, ↓strOp.eq_def, ↓srcElems.eq_def, ↓dst1.eq_def, args0, List.zipIdx, List.map, lookup, St.ev, St.set, St.setO, reduceCtorEq, AV.plain, AV.plainL, AV.flat, AV.flatL, AV.cells, Nat.reduceEqDiff, ↓reduceIte, List.drop, List.take, List.length, Nat.reduceAdd, Nat.reduceLeDiff, Nat.reduceMul, E.done, rvsK, rvK, resAV, Int.reduceToNat, Int.reduceLE, Int.reduceLT, Int.reduceNeg, Int.reduceAdd, Int.reduceSub, Int.reduceMul, Nat.reduceLT, AV.isElem, AV.one, ↓buildCells.eq_1, ↓buildCells.eq_2, Nat.reduceBEq, eqCells]
  refine CL_pure pr rfl ?_
  simp -implicitDefEqProofs (disch := omega) only [KF, KV0, KV1, KV2, KW, ↓bstep, ↓astep, ↓O1.eq_def, ↓onBool.eq_def, ↓onInt.eq_def, ↓onStr.eq_def, ↓onLo.eq_def, ↓binK.eq_def, ↓arith.eq_def, ↓strOp.eq_def, ↓srcElems.eq_def, ↓dst1.eq_def, args0, List.zipIdx, List.map, lookup, St.ev, St.set, St.setO, reduceCtorEq, AV.plain, AV.plainL, AV.flat, AV.flatL, AV.cells, Nat.reduceEqDiff, ↓reduceIte, List.drop, List.take, List.length, Nat.reduceAdd, Nat.reduceLeDiff, Nat.reduceMul, E.done, rvsK, rvK, resAV, Int.reduceToNat, Int.reduceLE, Int.reduceLT, Int.reduceNeg, Int.reduceAdd, Int.reduceSub, Int.reduceMul, Nat.reduceLT, AV.isElem, AV.one, ↓buildCells.eq_1, ↓buildCells.eq_2, Nat.reduceBEq, eqCells]
  refine CL_pure cl rfl ?_
  simp -implicitDefEqProofs (disch := omega) only [KF, KV0, KV1, KV2, KW, ↓bstep, ↓astep, ↓O1.eq_def, ↓onBool.eq_def, ↓onInt.eq_def, ↓onStr.eq_def, ↓onLo.eq_def, ↓binK.eq_def, ↓arith.eq_def, ↓strOp.eq_def, ↓srcElems.eq_def, ↓dst1.eq_def, args0, List.zipIdx, List.map, lookup, St.ev, St.set, St.setO, reduceCtorEq, AV.plain, AV.plainL, AV.flat, AV.flatL, AV.cells, Nat.reduceEqDiff, ↓reduceIte, List.drop, List.take, List.length, Nat.reduceAdd, Nat.reduceLeDiff, Nat.reduceMul, E.done, rvsK, rvK, resAV, Int.reduceToNat, Int.reduceLE, Int.reduceLT, Int.reduceNeg, Int.reduceAdd, Int.reduceSub, Int.reduceMul, Nat.reduceLT, AV.isElem, AV.one, ↓buildCells.eq_1, ↓buildCells.eq_2, Nat.reduceBEq, eqCells]
  by_cases z1 : checkL (pts l) = 0
  rotate_left
  · simp -implicitDefEqProofs (disch := omega) only [KF, KV0, KV1, KV2, KW, ↓bstep, ↓astep, ↓O1.eq_def, ↓onBool.eq_def, ↓onInt.eq_def, ↓onStr.eq_def, ↓onLo.eq_def, ↓binK.eq_def, ↓arith.eq_def, ↓strOp.eq_def, ↓srcElems.eq_def, ↓dst1.eq_def, args0, List.zipIdx, List.map, lookup, St.ev, St.set, St.setO, reduceCtorEq, AV.plain, AV.plainL, AV.flat, AV.flatL, AV.cells, Nat.reduceEqDiff, ↓reduceIte, List.drop, List.take, List.length, Nat.reduceAdd, Nat.reduceLeDiff, Nat.reduceMul, E.done, rvsK, rvK, resAV, Int.reduceToNat, Int.reduceLE, Int.reduceLT, Int.reduceNeg, Int.reduceAdd, Int.reduceSub, Int.reduceMul, Nat.reduceLT, AV.isElem, AV.one, ↓buildCells.eq_1, ↓buildCells.eq_2, Nat.reduceBEq, eqCells, z1]
    exact shb rfl
  simp -implicitDefEqProofs (disch := omega) only [KF, KV0, KV1, KV2, KW, ↓bstep, ↓astep, ↓O1.eq_def, ↓onBool.eq_def, ↓onInt.eq_def, ↓onStr.eq_def, ↓onLo.eq_def, ↓binK.eq_def, ↓arith.eq_def, ↓strOp.eq_def, ↓srcElems.eq_def, ↓dst1.eq_def, args0, List.zipIdx, List.map, lookup, St.ev, St.set, St.setO, reduceCtorEq, AV.plain, AV.plainL, AV.flat, AV.flatL, AV.cells, Nat.reduceEqDiff, ↓reduceIte, List.drop, List.take, List.length, Nat.reduceAdd, Nat.reduceLeDiff, Nat.reduceMul, E.done, rvsK, rvK, resAV, Int.reduceToNat, Int.reduceLE, Int.reduceLT, Int.reduceNeg, Int.reduceAdd, Int.reduceSub, Int.reduceMul, Nat.reduceLT, AV.isElem, AV.one, ↓buildCells.eq_1, ↓buildCells.eq_2, Nat.reduceBEq, eqCells, z1]
  refine CL_pure cr rfl ?_
  by_cases z2 : checkL (pts r) = 0
  rotate_left
  · simp -implicitDefEqProofs (disch := omega) only [KF, KV0, KV1, KV2, KW, ↓bstep, ↓astep, ↓O1.eq_def, ↓onBool.eq_def, ↓onInt.eq_def, ↓onStr.eq_def, ↓onLo.eq_def, ↓binK.eq_def, ↓arith.eq_def, ↓strOp.eq_def, ↓srcElems.eq_def, ↓dst1.eq_def, args0, List.zipIdx, List.map, lookup, St.ev, St.set, St.setO, reduceCtorEq, AV.plain, AV.plainL, AV.flat, AV.flatL, AV.cells, Nat.reduceEqDiff, ↓reduceIte, List.drop, List.take, List.length, Nat.reduceAdd, Nat.reduceLeDiff, Nat.reduceMul, E.done, rvsK, rvK, resAV, Int.reduceToNat, Int.reduceLE, Int.reduceLT, Int.reduceNeg, Int.reduceAdd, Int.reduceSub, Int.reduceMul, Nat.reduceLT, AV.isElem, AV.one, ↓buildCells.eq_1, ↓buildCells.eq_2, Nat.reduceBEq, eqCells, z2]
    exact shb rfl
  obtain ⟨la, aa, ca⟩ := checked z1
  obtain ⟨lb, ab, cb⟩ := checked z2
  have na : (pts l).length ≤ 8 := by simp [pts]; omega
  have nb : (pts r).length ≤ 8 := by simp [pts]; omega
  have x14 := s14 m (pts l) (pts r) (pts9 l) (pts9 r) na nb la lb ca cb
  have x15 := s15 m (pts l) (pts r) (pts9 l) (pts9 r) na nb
  simp -implicitDefEqProofs (disch := omega) only [KF, KV0, KV1, KV2, KW, ↓bstep, ↓astep, ↓O1.eq_def, ↓onBool.eq_def, ↓onInt.eq_def, ↓onStr.eq_def, ↓onLo.eq_def, ↓binK.eq_def, ↓arith.eq_def, ↓strOp.eq_def, ↓srcElems.eq_def, ↓dst1.eq_def, args0, List.zipIdx, List.map, lookup, St.ev, St.set, St.setO, reduceCtorEq, AV.plain, AV.plainL, AV.flat, AV.flatL, AV.cells, Nat.reduceEqDiff, ↓reduceIte, List.drop, List.take, List.length, Nat.reduceAdd, Nat.reduceLeDiff, Nat.reduceMul, E.done, rvsK, rvK, resAV, Int.reduceToNat, Int.reduceLE, Int.reduceLT, Int.reduceNeg, Int.reduceAdd, Int.reduceSub, Int.reduceMul, Nat.reduceLT, AV.isElem, AV.one, ↓buildCells.eq_1, ↓buildCells.eq_2, Nat.reduceBEq, eqCells, z2]
  by_cases ov : overP (pts l) (pts r)
  · rw [if_pos ov] at x14
    rw [if_pos ((over_iff aa ab).2 ov)] at x15
    refine CL_pure x14 rfl ?_
    simp -implicitDefEqProofs (disch := omega) only [KF, KV0, KV1, KV2, KW, ↓bstep, ↓astep, ↓O1.eq_def, ↓onBool.eq_def, ↓onInt.eq_def, ↓onStr.eq_def, ↓onLo.eq_def, ↓binK.eq_def, ↓arith.eq_def, ↓strOp.eq_def, ↓srcElems.eq_def, ↓dst1.eq_def, args0, List.zipIdx, List.map, lookup, St.ev, St.set, St.setO, reduceCtorEq, AV.plain, AV.plainL, AV.flat, AV.flatL, AV.cells, Nat.reduceEqDiff, ↓reduceIte, List.drop, List.take, List.length, Nat.reduceAdd, Nat.reduceLeDiff, Nat.reduceMul, E.done, rvsK, rvK, resAV, Int.reduceToNat, Int.reduceLE, Int.reduceLT, Int.reduceNeg, Int.reduceAdd, Int.reduceSub, Int.reduceMul, Nat.reduceLT, AV.isElem, AV.one, ↓buildCells.eq_1, ↓buildCells.eq_2, Nat.reduceBEq, eqCells]
    refine CL_pure x15 rfl ?_
    simp -implicitDefEqProofs (disch := omega) only [KF, KV0, KV1, KV2, KW, ↓bstep, ↓astep, ↓O1.eq_def, ↓onBool.eq_def, ↓onInt.eq_def, ↓onStr.eq_def, ↓onLo.eq_def, ↓binK.eq_def, ↓arith.eq_def, ↓strOp.eq_def, ↓srcElems.eq_def, ↓dst1.eq_def, args0, List.zipIdx, List.map, lookup, St.ev, St.set, St.setO, reduceCtorEq, AV.plain, AV.plainL, AV.flat, AV.flatL, AV.cells, Nat.reduceEqDiff, ↓reduceIte, List.drop, List.take, List.length, Nat.reduceAdd, Nat.reduceLeDiff, Nat.reduceMul, E.done, rvsK, rvK, resAV, Int.reduceToNat, Int.reduceLE, Int.reduceLT, Int.reduceNeg, Int.reduceAdd, Int.reduceSub, Int.reduceMul, Nat.reduceLT, AV.isElem, AV.one, ↓buildCells.eq_1, ↓buildCells.eq_2, Nat.reduceBEq, eqCells, show (((0 : Nat) : Int)) = 0 from rfl]
    exact shb rfl
  · rw [if_neg ov] at x14
    rw [if_neg (fun h => ov ((over_iff aa ab).1 h)), hits_agree aa ab] at x15
    have hlen := hits_len (mP (pts l) (pts r)) ((pts r).length - 1) ((pts l).length - 1)
    have hm : ((pts l).length - 1) * ((pts r).length - 1) ≤ 8 * 8 := Nat.mul_le_mul (by omega) (by omega)
    generalize hits (mP (pts l) (pts r)) ((pts l).length - 1) ((pts r).length - 1) = H at *
    refine CL_pure x14 rfl ?_
    simp -implicitDefEqProofs (disch := omega) only [KF, KV0, KV1, KV2, KW, ↓bstep, ↓astep, ↓O1.eq_def, ↓onBool.eq_def, ↓onInt.eq_def, ↓onStr.eq_def, ↓onLo.eq_def, ↓binK.eq_def, ↓arith.eq_def, ↓strOp.eq_def, ↓srcElems.eq_def, ↓dst1.eq_def, args0, List.zipIdx, List.map, lookup, St.ev, St.set, St.setO, reduceCtorEq, AV.plain, AV.plainL, AV.flat, AV.flatL, AV.cells, Nat.reduceEqDiff, ↓reduceIte, List.drop, List.take, List.length, Nat.reduceAdd, Nat.reduceLeDiff, Nat.reduceMul, E.done, rvsK, rvK, resAV, Int.reduceToNat, Int.reduceLE, Int.reduceLT, Int.reduceNeg, Int.reduceAdd, Int.reduceSub, Int.reduceMul, Nat.reduceLT, AV.isElem, AV.one, ↓buildCells.eq_1, ↓buildCells.eq_2, Nat.reduceBEq, eqCells]
    refine CL_pure x15 rfl ?_
    simp -implicitDefEqProofs (disch := omega) only [KF, KV0, KV1, KV2, KW, ↓bstep, ↓astep, ↓O1.eq_def, ↓onBool.eq_def, ↓onInt.eq_def, ↓onStr.eq_def, ↓onLo.eq_def, ↓binK.eq_def, ↓arith.eq_def, ↓strOp.eq_def, ↓srcElems.eq_def, ↓dst1.eq_def, args0, List.zipIdx, List.map, lookup, St.ev, St.set, St.setO, reduceCtorEq, AV.plain, AV.plainL, AV.flat, AV.flatL, AV.cells, Nat.reduceEqDiff, ↓reduceIte, List.drop, List.take, List.length, Nat.reduceAdd, Nat.reduceLeDiff, Nat.reduceMul, E.done, rvsK, rvK, resAV, Int.reduceToNat, Int.reduceLE, Int.reduceLT, Int.reduceNeg, Int.reduceAdd, Int.reduceSub, Int.reduceMul, Nat.reduceLT, AV.isElem, AV.one, ↓buildCells.eq_1, ↓buildCells.eq_2, Nat.reduceBEq, eqCells, List.length_map]
    refine X_for (fun i : Nat => ⟨[(7, .sl 4 (H.map eX)), (9, .sl 4 (H.map eX)), (11, .int .i64 i)], []⟩) (fun i => i ≤ H.length) (fun i => H.length - i) 0 (Nat.zero_le _) ?_ ?_
    · exact weak_keep (by simp [lookup])
    intro i R i1 hR
    try dsimp only at hR ⊢
    rcases Nat.lt_or_ge i H.length with hi | hi
    · have x1 : (H.map eX)[i]? = some (eX H[i]) := by simp [hi]
      simp -implicitDefEqProofs (disch := omega) only [KF, KV0, KV1, KV2, KW, ↓bstep, ↓astep, ↓O1.eq_def, ↓onBool.eq_def, ↓onInt.eq_def, ↓onStr.eq_def, ↓onLo.eq_def, ↓binK.eq_def, ↓arith.eq_def, ↓strOp.eq_def, ↓srcElems.eq_def, ↓dst1.eq_def, args0, List.zipIdx, List.map, lookup, St.ev, St.set, St.setO, reduceCtorEq, AV.plain, AV.plainL, AV.flat, AV.flatL, AV.cells, Nat.reduceEqDiff, ↓reduceIte, List.drop, List.take, List.length, Nat.reduceAdd, Nat.reduceLeDiff, Nat.reduceMul, E.done, rvsK, rvK, resAV, Int.reduceToNat, Int.reduceLE, Int.reduceLT, Int.reduceNeg, Int.reduceAdd, Int.reduceSub, Int.reduceMul, Nat.reduceLT, AV.isElem, AV.one, ↓buildCells.eq_1, ↓buildCells.eq_2, Nat.reduceBEq, eqCells, List.length_map, hi, x1, eX, and_self]
      exact hR (i + 1) _ (by omega) (by omega) (weak_keep (by simp [lookup]))
    · have hi' : ¬ i < H.length := by omega
      simp -implicitDefEqProofs (disch := omega) only [KF, KV0, KV1, KV2, KW, ↓bstep, ↓astep, ↓O1.eq_def, ↓onBool.eq_def, ↓onInt.eq_def, ↓onStr.eq_def, ↓onLo.eq_def, ↓binK.eq_def, ↓arith.eq_def, ↓strOp.eq_def, ↓srcElems.eq_def, ↓dst1.eq_def, args0, List.zipIdx, List.map, lookup, St.ev, St.set, St.setO, reduceCtorEq, AV.plain, AV.plainL, AV.flat, AV.flatL, AV.cells, Nat.reduceEqDiff, ↓reduceIte, List.drop, List.take, List.length, Nat.reduceAdd, Nat.reduceLeDiff, Nat.reduceMul, E.done, rvsK, rvK, resAV, Int.reduceToNat, Int.reduceLE, Int.reduceLT, Int.reduceNeg, Int.reduceAdd, Int.reduceSub, Int.reduceMul, Nat.reduceLT, AV.isElem, AV.one, ↓buildCells.eq_1, ↓buildCells.eq_2, Nat.reduceBEq, eqCells, List.length_map, hi']
      exact shb rfl
end Go.Proofs.YtkjnjdcbnelceaaGreatDoor.KA
end

section
/- The small code of functions, as own tools print it; that it is the program's is checked by the kernel. -/
open Go Go.Proofs
set_option linter.unusedVariables false
namespace Go.Proofs.YtkjnjdcbnelceaaGreatDoor.KA
def c51 : C := (C.ops [⟨I.mv 2 (O.k AV.nils), none, some 2⟩]).seq (((C.ops [⟨I.mv 3 (O.t 0), none, some 3⟩, ⟨I.eqn 4 false 0 (O.t 3), none, some 4⟩]).seq (C.cond (O.t 4) ((C.ops [⟨I.mv 2 (O.k AV.nils), none, some 2⟩]).seq C.ret) C.skip)).seq ((C.ops [⟨I.bsl 5 2 [] true, none, some 5⟩, ⟨I.mv 6 (O.t 0), none, some 6⟩, ⟨I.append 7 2 32 (O.t 5) (O.t 6) true, none, some 7⟩, ⟨I.mv 2 (O.t 7), none, some 2⟩]).seq C.ret))
theorem k51 (m : Int) : compF (cx m).P (cx m).gt (fun t => t == 5 || t == 7) 51 = some (c51, [RV.tmp 2], 8) := by kernel_rfl
def c53 : C := (C.ops [⟨I.mv 6 (O.k AV.nils), none, some 6⟩]).seq ((C.ops [⟨I.mv 8 (O.t 0), none, some 8⟩, ⟨I.mv 9 (O.t 1), none, some 9⟩, ⟨I.mv 10 (O.t 2), none, some 10⟩, ⟨I.mv 11 (O.t 0), none, some 11⟩, ⟨I.len 12 (O.t 11), none, some 12⟩, ⟨I.slc 13 2 (O.t 8) (some (O.t 9)) (some (O.t 10)) (some (O.t 12)), none, some 13⟩]).seq (((C.ops [⟨I.mv 14 (O.t 1), none, some 14⟩, ⟨I.mv 15 (O.t 2), none, some 15⟩, ⟨I.bin 16 BinOp.eql (O.t 14) (O.t 15), none, some 16⟩]).seq (C.cond (O.t 16) ((C.ops [⟨I.mv 17 (O.t 0), none, some 17⟩, ⟨I.mv 6 (O.t 17), none, some 6⟩]).seq C.ret) C.skip)).seq ((C.ops [⟨I.mv 18 (O.t 0), none, some 18⟩, ⟨I.len 19 (O.t 18), none, some 19⟩, ⟨I.mv 7 (O.t 19), none, some 7⟩]).seq ((C.ops [⟨I.mv 20 (O.t 0), none, some 20⟩, ⟨I.mv 21 (O.t 1), none, some 21⟩, ⟨I.slc 22 2 (O.t 20) none (some (O.t 21)) none, none, some 22⟩, ⟨I.mv 23 (O.t 0), none, some 23⟩, ⟨I.mv 24 (O.t 2), none, some 24⟩, ⟨I.slc 25 2 (O.t 23) (some (O.t 24)) none none, none, some 25⟩, ⟨I.append 26 2 32 (O.t 22) (O.t 25) true, none, some 26⟩, ⟨I.mv 0 (O.t 26), none, some 0⟩]).seq ((C.ops [⟨I.mv 27 (O.t 0), none, some 27⟩, ⟨I.mv 28 (O.t 0), none, some 28⟩, ⟨I.len 29 (O.t 28), none, some 29⟩, ⟨I.mv 30 (O.t 7), none, some 30⟩, ⟨I.slc 31 2 (O.t 27) (some (O.t 29)) (some (O.t 30)) none, none, some 31⟩, ⟨I.clear 2 [AV.str [], AV.str []] (O.t 31), none, none⟩]).seq ((C.ops [⟨I.mv 32 (O.t 0), none, some 32⟩, ⟨I.mv 6 (O.t 32), none, some 6⟩]).seq C.ret))))))
theorem k53 (m : Int) : compF (cx m).P (cx m).gt (fun t => t == 26) 53 = some (c53, [RV.tmp 6], 33) := by kernel_rfl
def c16 : C := (C.ops [⟨I.mv 4 (O.k AV.nils), none, some 4⟩, ⟨I.mv 5 (O.k (AV.int IntKind.i64 0)), none, some 5⟩]).seq (((C.ops [⟨I.mv 13 (O.t 0), none, some 13⟩, ⟨I.call (some 14) (O.k (AV.fn 42 [])) [O.t 13] false, none, some 14⟩, ⟨I.mv 6 (O.t 14), none, some 6⟩]).seq ((C.ops [⟨I.mv 15 (O.t 6), none, some 15⟩, ⟨I.bin 16 BinOp.neq (O.t 15) (O.k (AV.int IntKind.i64 0)), none, some 16⟩]).seq (C.cond (O.t 16) ((C.ops [⟨I.mv 17 (O.t 6), none, some 17⟩, ⟨I.mv 4 (O.k AV.nils), none, some 4⟩, ⟨I.mv 5 (O.t 17), none, some 5⟩]).seq C.ret) C.skip))).seq ((C.block 0 ((C.ops [⟨I.mv 19 (O.t 1), none, some 19⟩, ⟨I.call (some 20) (O.k (AV.fn 50 [])) [O.t 19] false, none, some 20⟩, ⟨I.bin 21 BinOp.neq (O.t 20) (O.k (AV.int IntKind.i64 0)), none, some 21⟩, ⟨I.mv 18 (O.t 21), none, some 18⟩]).seq (C.cond (O.t 18) ((C.ops [⟨I.mv 4 (O.k AV.nils), none, some 4⟩, ⟨I.mv 5 (O.k (AV.int IntKind.i64 2)), none, some 5⟩]).seq C.ret) ((C.ops [⟨I.mv 23 (O.t 1), none, some 23⟩, ⟨I.call (some 24) (O.k (AV.fn 18 [])) [O.t 23] false, none, some 24⟩, ⟨I.bin 25 BinOp.lss (O.t 24) (O.k (AV.int IntKind.i64 0)), none, some 25⟩, ⟨I.mv 22 (O.t 25), none, some 22⟩]).seq (C.cond (O.t 22) ((C.ops [⟨I.mv 4 (O.k AV.nils), none, some 4⟩, ⟨I.mv 5 (O.k (AV.int IntKind.i64 3)), none, some 5⟩]).seq C.ret) C.skip))))).seq ((C.ops [⟨I.mv 26 (O.t 0), none, some 26⟩, ⟨I.call (some 27) (O.k (AV.fn 51 [])) [O.t 26] true, none, some 27⟩, ⟨I.mv 7 (O.t 27), none, some 7⟩]).seq (C.block 1 (C.block 2 ((C.ops [⟨I.mv 8 (O.k (AV.int IntKind.i64 (-1))), none, some 8⟩]).seq ((C.ops [⟨I.mv 28 (O.t 1), none, some 28⟩, ⟨I.mv 9 (O.t 28), none, some 9⟩]).seq (((C.ops [⟨I.mv 10 (O.k (AV.int IntKind.i64 1)), none, some 10⟩]).seq (C.block 3 (((C.ops [⟨I.mv 29 (O.t 10), none, some 29⟩, ⟨I.bin 30 BinOp.add (O.t 29) (O.k (AV.int IntKind.i64 1)), none, some 30⟩, ⟨I.mv 31 (O.t 7), none, some 31⟩, ⟨I.len 32 (O.t 31), none, some 32⟩, ⟨I.bin 33 BinOp.lss (O.t 30) (O.t 32), none, some 33⟩]).seq (C.cond (O.t 33) C.skip (C.exit 3))).seq ((C.block 4 ((C.ops [⟨I.mv 36 (O.t 7), none, some 36⟩, ⟨I.mv 37 (O.t 10), none, some 37⟩, ⟨I.bin 38 BinOp.sub (O.t 37) (O.k (AV.int IntKind.i64 1)), none, some 38⟩, ⟨I.idxa 39 2 none (O.t 36) (O.t 38), none, some 39⟩, ⟨I.load 40 true 2 (O.t 39), none, some 40⟩, ⟨I.mv 41 (O.t 7), none, some 41⟩, ⟨I.mv 42 (O.t 10), none, some 42⟩, ⟨I.idxa 43 2 none (O.t 41) (O.t 42), none, some 43⟩, ⟨I.load 44 true 2 (O.t 43), none, some 44⟩, ⟨I.mv 45 (O.t 7), none, some 45⟩, ⟨I.mv 46 (O.t 10), none, some 46⟩, ⟨I.bin 47 BinOp.add (O.t 46) (O.k (AV.int IntKind.i64 1)), none, some 47⟩, ⟨I.idxa 48 2 none (O.t 45) (O.t 47), none, some 48⟩, ⟨I.load 49 true 2 (O.t 48), none, some 49⟩, ⟨I.call (some 50) (O.k (AV.fn 52 [])) [O.t 40, O.t 44, O.t 49] false, none, some 50⟩, ⟨I.call (some 51) (O.k (AV.fn 19 [])) [O.t 50] false, none, some 51⟩, ⟨I.mv 11 (O.t 51), none, some 11⟩]).seq (((C.ops [⟨I.mv 52 (O.t 11), none, some 52⟩, ⟨I.mv 53 (O.t 9), none, some 53⟩, ⟨I.call (some 54) (O.k (AV.fn 21 [])) [O.t 52, O.t 53] false, none, some 54⟩, ⟨I.mv 12 (O.t 54), none, some 12⟩]).seq ((C.ops [⟨I.mv 55 (O.t 12), none, some 55⟩, ⟨I.bin 56 BinOp.gtr (O.t 55) (O.k (AV.int IntKind.i64 0)), none, some 56⟩, ⟨I.mv 57 (O.t 56), none, some 57⟩, ⟨I.mv 58 (O.t 12), some (57, false), some 58⟩, ⟨I.bin 59 BinOp.eql (O.t 58) (O.k (AV.int IntKind.i64 0)), some (57, false), some 59⟩, ⟨I.mv 60 (O.t 59), some (57, false), some 60⟩, ⟨I.mv 61 (O.t 8), some (60, true), some 61⟩, ⟨I.bin 62 BinOp.geq (O.t 61) (O.k (AV.int IntKind.i64 0)), some (60, true), some 62⟩, ⟨I.pick 63 (O.t 60) (O.t 62) (O.k (AV.bool false)), some (57, false), some 63⟩, ⟨I.pick 64 (O.t 57) (O.k (AV.bool true)) (O.t 63), none, some 64⟩]).seq (C.cond (O.t 64) (C.exit 4) C.skip))).seq ((C.ops [⟨I.mv 65 (O.t 7), none, some 65⟩, ⟨I.call (some 66) (O.k (AV.fn 51 [])) [O.t 65] true, none, some 66⟩, ⟨I.mv 67 (O.t 10), none, some 67⟩, ⟨I.mv 68 (O.t 10), none, some 68⟩, ⟨I.bin 69 BinOp.add (O.t 68) (O.k (AV.int IntKind.i64 1)), none, some 69⟩, ⟨I.call (some 70) (O.k (AV.fn 53 [])) [O.t 66, O.t 67, O.t 69] true, none, some 70⟩, ⟨I.call (some 71) (O.k (AV.fn 42 [])) [O.t 70] false, none, some 71⟩, ⟨I.bin 72 BinOp.eql (O.t 71) (O.k (AV.int IntKind.i64 0)), none, some 72⟩]).seq (C.cond (O.t 72) (C.ops [⟨I.mv 73 (O.t 10), none, some 73⟩, ⟨I.mv 74 (O.t 11), none, some 74⟩, ⟨I.mv 8 (O.t 73), none, some 8⟩, ⟨I.mv 9 (O.t 74), none, some 9⟩]) C.skip))))).seq (C.ops [⟨I.mv 34 (O.t 10), none, some 34⟩, ⟨I.bin 35 BinOp.add (O.t 34) (O.k (AV.int IntKind.i64 1)), none, some 35⟩, ⟨I.mv 10 (O.t 35), none, some 10⟩]))).loop)).seq (((C.ops [⟨I.mv 75 (O.t 8), none, some 75⟩, ⟨I.bin 76 BinOp.lss (O.t 75) (O.k (AV.int IntKind.i64 0)), none, some 76⟩]).seq (C.cond (O.t 76) ((C.ops [⟨I.mv 77 (O.t 7), none, some 77⟩, ⟨I.mv 4 (O.t 77), none, some 4⟩, ⟨I.mv 5 (O.k (AV.int IntKind.i64 0)), none, some 5⟩]).seq C.ret) C.skip)).seq (C.ops [⟨I.mv 78 (O.t 7), none, some 78⟩, ⟨I.mv 79 (O.t 8), none, some 79⟩, ⟨I.mv 80 (O.t 8), none, some 80⟩, ⟨I.bin 81 BinOp.add (O.t 80) (O.k (AV.int IntKind.i64 1)), none, some 81⟩, ⟨I.call (some 82) (O.k (AV.fn 53 [])) [O.t 78, O.t 79, O.t 81] true, none, some 82⟩, ⟨I.mv 7 (O.t 82), none, some 7⟩])))))).loop))))
theorem k16 (m : Int) : compF (cx m).P (cx m).gt (fun t => t == 27 || t == 40 || t == 44 || t == 49 || t == 66 || t == 70 || t == 82) 16 = some (c16, [RV.tmp 4, RV.tmp 5], 83) := by kernel_rfl
def c30 : C := (C.ops [⟨I.mv 2 (O.k (AV.str [])), none, some 2⟩, ⟨I.mv 3 (O.k (AV.int IntKind.i64 0)), none, some 3⟩]).seq (((C.ops [⟨I.mv 6 (O.t 0), none, some 6⟩, ⟨I.call (some 7) (O.k (AV.fn 38 [])) [O.t 6] false, none, some 7⟩, ⟨I.mv 4 (O.t 7), none, some 4⟩]).seq ((C.ops [⟨I.mv 8 (O.t 4), none, some 8⟩, ⟨I.bin 9 BinOp.neq (O.t 8) (O.k (AV.int IntKind.i64 0)), none, some 9⟩]).seq (C.cond (O.t 9) ((C.ops [⟨I.mv 10 (O.t 4), none, some 10⟩, ⟨I.mv 2 (O.k (AV.str [])), none, some 2⟩, ⟨I.mv 3 (O.t 10), none, some 3⟩]).seq C.ret) C.skip))).seq ((C.ops [⟨I.mv 11 (O.t 0), none, some 11⟩, ⟨I.call (some 12) (O.k (AV.fn 66 [])) [O.t 11] false, none, some 12⟩, ⟨I.mv 5 (O.t 12), none, some 5⟩]).seq (((C.ops [⟨I.mv 13 (O.t 5), none, some 13⟩, ⟨I.call (some 14) (O.k (AV.fn 50 [])) [O.t 13] false, none, some 14⟩, ⟨I.bin 15 BinOp.neq (O.t 14) (O.k (AV.int IntKind.i64 0)), none, some 15⟩]).seq (C.cond (O.t 15) ((C.ops [⟨I.mv 2 (O.k (AV.str [])), none, some 2⟩, ⟨I.mv 3 (O.k (AV.int IntKind.i64 4)), none, some 3⟩]).seq C.ret) C.skip)).seq ((C.ops [⟨I.mv 16 (O.t 5), none, some 16⟩, ⟨I.mv 2 (O.t 16), none, some 2⟩, ⟨I.mv 3 (O.k (AV.int IntKind.i64 0)), none, some 3⟩]).seq C.ret))))
theorem k30 (m : Int) : compF (cx m).P (cx m).gt (fun _ => false) 30 = some (c30, [RV.tmp 2, RV.tmp 3], 17) := by kernel_rfl
def c66 : C := (C.ops [⟨I.mv 2 (O.k (AV.str [])), none, some 2⟩]).seq ((C.ops [⟨I.mv 3 (O.k (AV.str [48])), none, some 3⟩]).seq (((C.ops [⟨I.mv 4 (O.k (AV.int IntKind.i64 2)), none, some 4⟩]).seq (C.block 0 (((C.ops [⟨I.mv 5 (O.t 4), none, some 5⟩, ⟨I.mv 6 (O.t 0), none, some 6⟩, ⟨I.len 7 (O.t 6), none, some 7⟩, ⟨I.bin 8 BinOp.lss (O.t 5) (O.t 7), none, some 8⟩]).seq (C.cond (O.t 8) C.skip (C.exit 0))).seq ((C.block 1 (C.ops [⟨I.mv 11 (O.t 3), none, some 11⟩, ⟨I.mv 12 (O.t 0), none, some 12⟩, ⟨I.idxa 13 2 none (O.t 12) (O.k (AV.int IntKind.i64 0)), none, some 13⟩, ⟨I.loadf 14 true 2 (O.t 13), none, some 14⟩, ⟨I.mv 15 (O.t 0), none, some 15⟩, ⟨I.mv 16 (O.t 4), none, some 16⟩, ⟨I.bin 17 BinOp.sub (O.t 16) (O.k (AV.int IntKind.i64 1)), none, some 17⟩, ⟨I.idxa 18 2 none (O.t 15) (O.t 17), none, some 18⟩, ⟨I.loadf 19 true 2 (O.t 18), none, some 19⟩, ⟨I.mv 20 (O.t 0), none, some 20⟩, ⟨I.mv 21 (O.t 4), none, some 21⟩, ⟨I.idxa 22 2 none (O.t 20) (O.t 21), none, some 22⟩, ⟨I.loadf 23 true 2 (O.t 22), none, some 23⟩, ⟨I.call (some 24) (O.k (AV.fn 52 [])) [O.t 14, O.t 19, O.t 23] false, none, some 24⟩, ⟨I.call (some 25) (O.k (AV.fn 29 [])) [O.t 11, O.t 24] false, none, some 25⟩, ⟨I.mv 3 (O.t 25), none, some 3⟩])).seq (C.ops [⟨I.mv 9 (O.t 4), none, some 9⟩, ⟨I.bin 10 BinOp.add (O.t 9) (O.k (AV.int IntKind.i64 1)), none, some 10⟩, ⟨I.mv 4 (O.t 10), none, some 4⟩]))).loop)).seq ((C.ops [⟨I.mv 26 (O.t 3), none, some 26⟩, ⟨I.mv 2 (O.t 26), none, some 2⟩]).seq C.ret)))
theorem k66 (m : Int) : compF (cx m).P (cx m).gt (fun _ => false) 66 = some (c66, [RV.tmp 2], 27) := by kernel_rfl
def c38 : C := (C.ops [⟨I.mv 2 (O.k (AV.int IntKind.i64 0)), none, some 2⟩]).seq ((C.block 0 ((C.ops [⟨I.mv 6 (O.t 0), none, some 6⟩, ⟨I.len 7 (O.t 6), none, some 7⟩, ⟨I.bin 8 BinOp.lss (O.t 7) (O.k (AV.int IntKind.i64 3)), none, some 8⟩, ⟨I.mv 5 (O.t 8), none, some 5⟩]).seq (C.cond (O.t 5) ((C.ops [⟨I.mv 2 (O.k (AV.int IntKind.i64 5)), none, some 2⟩]).seq C.ret) ((C.ops [⟨I.mv 10 (O.t 0), none, some 10⟩, ⟨I.len 11 (O.t 10), none, some 11⟩, ⟨I.bin 12 BinOp.gtr (O.t 11) (O.k (AV.int IntKind.i64 400)), none, some 12⟩, ⟨I.mv 9 (O.t 12), none, some 9⟩]).seq (C.cond (O.t 9) ((C.ops [⟨I.mv 2 (O.k (AV.int IntKind.i64 4)), none, some 2⟩]).seq C.ret) C.skip))))).seq (((C.ops [⟨I.mv 13 (O.t 0), none, some 13⟩, ⟨I.len 14 (O.t 13), none, some 14⟩, ⟨I.mv 15 (O.k (AV.int IntKind.i64 0)), none, some 15⟩]).seq (C.block 1 ((C.ops [⟨I.bin 16 BinOp.lss (O.t 15) (O.t 14), none, some 16⟩]).seq ((C.cond (O.t 16) C.skip (C.exit 1)).seq ((C.block 2 ((C.ops [⟨I.mv 17 (O.t 15), none, some 17⟩, ⟨I.idxa 18 2 none (O.t 13) (O.t 15), none, some 18⟩, ⟨I.loadf 19 true 2 (O.t 18), none, some 19⟩, ⟨I.alloc 4 [AV.str [], AV.str []] true, none, some 4⟩, ⟨I.mv 3 (O.t 17), none, some 3⟩, ⟨I.store 2 (O.t 4) (O.t 19), none, none⟩]).seq (C.block 3 ((C.ops [⟨I.load 21 true 2 (O.t 4), none, some 21⟩, ⟨I.call (some 22) (O.k (AV.fn 49 [])) [O.t 21] false, none, some 22⟩, ⟨I.bin 23 BinOp.neq (O.t 22) (O.k (AV.int IntKind.i64 0)), none, some 23⟩, ⟨I.mv 20 (O.t 23), none, some 20⟩]).seq (C.cond (O.t 20) ((C.ops [⟨I.mv 2 (O.k (AV.int IntKind.i64 2)), none, some 2⟩]).seq C.ret) ((C.ops [⟨I.mv 25 (O.t 0), none, some 25⟩, ⟨I.mv 26 (O.t 3), none, some 26⟩, ⟨I.mv 27 (O.t 0), none, some 27⟩, ⟨I.len 28 (O.t 27), none, some 28⟩, ⟨I.bin 29 BinOp.add (O.t 26) (O.t 28), none, some 29⟩, ⟨I.bin 30 BinOp.sub (O.t 29) (O.k (AV.int IntKind.i64 1)), none, some 30⟩, ⟨I.mv 31 (O.t 0), none, some 31⟩, ⟨I.len 32 (O.t 31), none, some 32⟩, ⟨I.bin 33 BinOp.rem (O.t 30) (O.t 32), none, some 33⟩, ⟨I.idxa 34 2 none (O.t 25) (O.t 33), none, some 34⟩, ⟨I.loadf 35 true 2 (O.t 34), none, some 35⟩, ⟨I.load 36 true 2 (O.t 4), none, some 36⟩, ⟨I.eqs 37 false [Leaf.str, Leaf.str] (O.t 35) (O.t 36), none, some 37⟩, ⟨I.mv 24 (O.t 37), none, some 24⟩]).seq (C.cond (O.t 24) ((C.ops [⟨I.mv 2 (O.k (AV.int IntKind.i64 17)), none, some 2⟩]).seq C.ret) C.skip))))))).seq (C.ops [⟨I.bin 38 BinOp.add (O.t 15) (O.k (AV.int IntKind.i64 1)), none, some 38⟩, ⟨I.mv 15 (O.t 38), none, some 15⟩])))).loop)).seq ((C.ops [⟨I.mv 39 (O.t 0), none, some 39⟩, ⟨I.mv 40 (O.t 0), none, some 40⟩, ⟨I.len 41 (O.t 40), none, some 41⟩, ⟨I.call (some 42) (O.k (AV.fn 80 [])) [O.t 39, O.t 41] false, none, some 42⟩, ⟨I.mv 2 (O.t 42), none, some 2⟩]).seq C.ret)))
theorem k38 (m : Int) : compF (cx m).P (cx m).gt (fun t => t == 4 || t == 21 || t == 36) 38 = some (c38, [RV.tmp 2], 43) := by kernel_rfl
def c11 : C := (C.ops [⟨I.mv 0 (O.k (AV.bool false)), none, some 0⟩]).seq ((C.ops [⟨I.build 9 [AV.str [], AV.str []] [(0, 1, O.k (AV.str [48])), (1, 1, O.k (AV.str [48]))], none, some 9⟩, ⟨I.build 10 [AV.str [], AV.str []] [(0, 1, O.k (AV.str [52])), (1, 1, O.k (AV.str [48]))], none, some 10⟩, ⟨I.bsl 11 2 [O.t 9, O.t 10] false, none, some 11⟩, ⟨I.mv 1 (O.t 11), none, some 1⟩]).seq ((C.ops [⟨I.build 12 [AV.str [], AV.str []] [(0, 1, O.k (AV.str [49])), (1, 1, O.k (AV.str [45, 49]))], none, some 12⟩, ⟨I.build 13 [AV.str [], AV.str []] [(0, 1, O.k (AV.str [49])), (1, 1, O.k (AV.str [49]))], none, some 13⟩, ⟨I.build 14 [AV.str [], AV.str []] [(0, 1, O.k (AV.str [51])), (1, 1, O.k (AV.str [49]))], none, some 14⟩, ⟨I.build 15 [AV.str [], AV.str []] [(0, 1, O.k (AV.str [51])), (1, 1, O.k (AV.str [45, 49]))], none, some 15⟩, ⟨I.bsl 16 2 [O.t 12, O.t 13, O.t 14, O.t 15] false, none, some 16⟩, ⟨I.mv 2 (O.t 16), none, some 2⟩]).seq ((C.ops [⟨I.mv 18 (O.t 1), none, some 18⟩, ⟨I.mv 19 (O.t 2), none, some 19⟩, ⟨I.call (some 20) (O.k (AV.fn 14 [])) [O.t 18, O.t 19] false, none, some 20⟩, ⟨I.mv 17 (O.t 20), none, some 17⟩, ⟨I.ext 21 (O.t 17) 0, none, some 21⟩, ⟨I.ext 22 (O.t 17) 1, none, some 22⟩, ⟨I.mv 3 (O.t 21), none, some 3⟩, ⟨I.mv 4 (O.t 22), none, some 4⟩]).seq ((C.ops [⟨I.build 24 [AV.str [], AV.str []] [(0, 1, O.k (AV.str [48])), (1, 1, O.k (AV.str [48]))], none, some 24⟩, ⟨I.build 25 [AV.str [], AV.str []] [(0, 1, O.k (AV.str [49])), (1, 1, O.k (AV.str [48]))], none, some 25⟩, ⟨I.build 26 [AV.str [], AV.str []] [(0, 1, O.k (AV.str [50])), (1, 1, O.k (AV.str [49]))], none, some 26⟩, ⟨I.build 27 [AV.str [], AV.str []] [(0, 1, O.k (AV.str [52])), (1, 1, O.k (AV.str [48]))], none, some 27⟩, ⟨I.bsl 28 2 [O.t 24, O.t 25, O.t 26, O.t 27] false, none, some 28⟩, ⟨I.call (some 29) (O.k (AV.fn 16 [])) [O.t 28, O.k (AV.str [49])] false, none, some 29⟩, ⟨I.mv 23 (O.t 29), none, some 23⟩, ⟨I.ext 30 (O.t 23) 0, none, some 30⟩, ⟨I.ext 31 (O.t 23) 1, none, some 31⟩, ⟨I.mv 5 (O.t 30), none, some 5⟩, ⟨I.mv 6 (O.t 31), none, some 6⟩]).seq ((C.ops [⟨I.build 33 [AV.str [], AV.str []] [(0, 1, O.k (AV.str [48])), (1, 1, O.k (AV.str [48]))], none, some 33⟩, ⟨I.build 34 [AV.str [], AV.str []] [(0, 1, O.k (AV.str [50])), (1, 1, O.k (AV.str [48]))], none, some 34⟩, ⟨I.build 35 [AV.str [], AV.str []] [(0, 1, O.k (AV.str [50])), (1, 1, O.k (AV.str [50]))], none, some 35⟩, ⟨I.bsl 36 2 [O.t 33, O.t 34, O.t 35] false, none, some 36⟩, ⟨I.call (some 37) (O.k (AV.fn 30 [])) [O.t 36] false, none, some 37⟩, ⟨I.mv 32 (O.t 37), none, some 32⟩, ⟨I.ext 38 (O.t 32) 0, none, some 38⟩, ⟨I.ext 39 (O.t 32) 1, none, some 39⟩, ⟨I.mv 7 (O.t 38), none, some 7⟩, ⟨I.mv 8 (O.t 39), none, some 8⟩]).seq ((C.ops [⟨I.mv 40 (O.t 4), none, some 40⟩, ⟨I.bin 41 BinOp.eql (O.t 40) (O.k (AV.int IntKind.i64 0)), none, some 41⟩, ⟨I.mv 42 (O.t 41), none, some 42⟩, ⟨I.mv 43 (O.t 3), some (42, true), some 43⟩, ⟨I.len 44 (O.t 43), some (42, true), some 44⟩, ⟨I.bin 45 BinOp.eql (O.t 44) (O.k (AV.int IntKind.i64 2)), some (42, true), some 45⟩, ⟨I.pick 46 (O.t 42) (O.t 45) (O.k (AV.bool false)), none, some 46⟩, ⟨I.mv 47 (O.t 46), none, some 47⟩, ⟨I.mv 48 (O.t 3), some (47, true), some 48⟩, ⟨I.idxa 49 4 none (O.t 48) (O.k (AV.int IntKind.i64 0)), some (47, true), some 49⟩, ⟨I.fld 50 2 (O.t 49), some (47, true), some 50⟩, ⟨I.loadf 51 true 2 (O.t 50), some (47, true), some 51⟩, ⟨I.build 52 [AV.str [], AV.str []] [(0, 1, O.k (AV.str [49])), (1, 1, O.k (AV.str [48]))], some (47, true), some 52⟩, ⟨I.eqs 53 false [Leaf.str, Leaf.str] (O.t 51) (O.t 52), some (47, true), some 53⟩, ⟨I.pick 54 (O.t 47) (O.t 53) (O.k (AV.bool false)), none, some 54⟩, ⟨I.mv 55 (O.t 54), none, some 55⟩, ⟨I.mv 56 (O.t 3), some (55, true), some 56⟩, ⟨I.idxa 57 4 none (O.t 56) (O.k (AV.int IntKind.i64 1)), some (55, true), some 57⟩, ⟨I.loadf 58 true 4 (O.t 57), some (55, true), some 58⟩, ⟨I.build 59 [AV.str [], AV.str []] [(0, 1, O.k (AV.str [51])), (1, 1, O.k (AV.str [48]))], some (55, true), some 59⟩, ⟨I.build 60 [AV.int IntKind.i64 0, AV.int IntKind.i64 0, AV.str [], AV.str []] [(0, 1, O.k (AV.int IntKind.i64 0)), (1, 1, O.k (AV.int IntKind.i64 2)), (2, 2, O.t 59)], some (55, true), some 60⟩, ⟨I.eqs 61 false [Leaf.int IntKind.i64, Leaf.int IntKind.i64, Leaf.str, Leaf.str] (O.t 58) (O.t 60), some (55, true), some 61⟩, ⟨I.pick 62 (O.t 55) (O.t 61) (O.k (AV.bool false)), none, some 62⟩, ⟨I.mv 63 (O.t 62), none, some 63⟩, ⟨I.mv 64 (O.t 6), some (63, true), some 64⟩, ⟨I.bin 65 BinOp.eql (O.t 64) (O.k (AV.int IntKind.i64 0)), some (63, true), some 65⟩, ⟨I.pick 66 (O.t 63) (O.t 65) (O.k (AV.bool false)), none, some 66⟩, ⟨I.mv 67 (O.t 66), none, some 67⟩, ⟨I.mv 68 (O.t 5), some (67, true), some 68⟩, ⟨I.len 69 (O.t 68), some (67, true), some 69⟩, ⟨I.bin 70 BinOp.eql (O.t 69) (O.k (AV.int IntKind.i64 3)), some (67, true), some 70⟩, ⟨I.pick 71 (O.t 67) (O.t 70) (O.k (AV.bool false)), none, some 71⟩, ⟨I.mv 72 (O.t 71), none, some 72⟩, ⟨I.mv 73 (O.t 5), some (72, true), some 73⟩, ⟨I.idxa 74 2 none (O.t 73) (O.k (AV.int IntKind.i64 1)), some (72, true), some 74⟩, ⟨I.loadf 75 true 2 (O.t 74), some (72, true), some 75⟩, ⟨I.build 76 [AV.str [], AV.str []] [(0, 1, O.k (AV.str [50])), (1, 1, O.k (AV.str [49]))], some (72, true), some 76⟩, ⟨I.eqs 77 false [Leaf.str, Leaf.str] (O.t 75) (O.t 76), some (72, true), some 77⟩, ⟨I.pick 78 (O.t 72) (O.t 77) (O.k (AV.bool false)), none, some 78⟩, ⟨I.mv 79 (O.t 78), none, some 79⟩, ⟨I.mv 80 (O.t 7), some (79, true), some 80⟩, ⟨I.bin 81 BinOp.eql (O.t 80) (O.k (AV.str [52])), some (79, true), some 81⟩, ⟨I.pick 82 (O.t 79) (O.t 81) (O.k (AV.bool false)), none, some 82⟩, ⟨I.mv 83 (O.t 82), none, some 83⟩, ⟨I.mv 84 (O.t 8), some (83, true), some 84⟩, ⟨I.bin 85 BinOp.eql (O.t 84) (O.k (AV.int IntKind.i64 0)), some (83, true), some 85⟩, ⟨I.pick 86 (O.t 83) (O.t 85) (O.k (AV.bool false)), none, some 86⟩, ⟨I.mv 0 (O.t 86), none, some 0⟩]).seq C.ret))))))
theorem k11 (m : Int) : compF (cx m).P (cx m).gt (fun _ => false) 11 = some (c11, [RV.tmp 0], 87) := by kernel_rfl
end Go.Proofs.YtkjnjdcbnelceaaGreatDoor.KA
end

section
/- Contracts: slices.Clone and slices.Delete of points. -/
open Go Go.Proofs
set_option linter.unusedSimpArgs false
set_option linter.unusedVariables false
set_option maxHeartbeats 1000000
set_option maxRecDepth 20000
namespace Go.Proofs.YtkjnjdcbnelceaaGreatDoor.KA
open Num Geo

section
variable {c : Ctx} {k : Nat} {fs : List F} {st : St} {Q : E → St → Prop} {l : List GI}
/-- A call that is handed no block to write, and gives a new one. -/
theorem CL_new {d : Option Nat} {f : FuncId} {args : List AV} {r : AV} {cs : List AV} (h : SpecG c f args [] r [some cs]) (hp : AV.plainL args = true) (hc : AV.plainL cs = true)
    (hk : Y c k l fs (({ st with h := st.h ++ [some cs] } : St).setO d (r.ren fun i => st.h.length + i)) Q) : CL c k d f args true l fs st Q := by
  refine ⟨.inr (.inr ⟨rfl, [], args, [], r, [some cs], h, (plain_renL hp).1.symm, rfl, List.nodup_nil, fun i hi => by simp at hi, fun i k o hi => by simp at hi, ?_⟩)⟩
  have e1 : place [] st.h.length = fun i => st.h.length + i := by funext i; simp [place]
  have e2 : putBack st.h [] [some cs] = st.h ++ [some cs] := by
    simp only [putBack, List.zip_nil_left, List.foldl, List.length_nil, List.drop_zero, List.map, Option.map_some]
    rw [(plain_renL hc).1]
  rw [e1, e2]; exact hk
/-- A call that is handed one block to write: it is given up, and a new one comes back. -/
theorem CL_swap {d : Option Nat} {f : FuncId} {args az : List AV} {r : AV} {cs cs' : List AV} (id : Nat) (h : SpecG c f az [some cs] r [none, some cs']) (hid : st.h[id]? = some (some cs)) (hc : AV.plainL cs = true) (hc' : AV.plainL cs' = true)
    (ha : args = AV.renL (fun i => if i = 0 then id else st.h.length + (i - 1)) az)
    (hk : Y c k l fs (({ st with h := st.h.set id none ++ [some cs'] } : St).setO d (r.ren fun i => if i = 0 then id else st.h.length + (i - 1))) Q) : CL c k d f args true l fs st Q := by
  have e1 : place [id] st.h.length = fun i => if i = 0 then id else st.h.length + (i - 1) := by
    funext i
    unfold place
    cases i with
    | zero => rfl
    | succ i => simp
  refine ⟨.inr (.inr ⟨rfl, [id], az, [some cs], r, [none, some cs'], h, by rw [e1]; exact ha, rfl, by simp, fun i hi => by
    rw [List.mem_singleton] at hi; subst hi; exact (List.getElem?_eq_some_iff.1 hid).1, fun i k o hi ho => ?_, ?_⟩)⟩
  · cases i with
    | zero =>
      simp only [List.getElem?_cons_zero, Option.some.injEq] at hi ho
      subst hi; subst ho
      exact ⟨_, hid, fun ds hd => by cases hd; rw [(plain_renL hc).1]⟩
    | succ i => simp at hi
  · have e2 : putBack st.h [id] [none, some cs'] = st.h.set id none ++ [some cs'] := by
      simp only [putBack, List.map, Option.map_none, Option.map_some, List.zip_cons_cons, List.zip_nil_left, List.foldl, List.length_cons, List.length_nil, List.drop_succ_cons, List.drop_zero]
      rw [(plain_renL hc').1]
    rw [e1, e2]; exact hk
end

theorem cells_drop : ∀ (j : Nat) (c : List Pt), (cells c).drop (j * 2) = cells (c.drop j)
  | 0, c => by simp
  | j + 1, [] => by simp [cells_nil]
  | j + 1, p :: c => by
    rw [cells_cons, show (j + 1) * 2 = j * 2 + 1 + 1 by omega, List.drop_succ_cons, List.drop_succ_cons, List.drop_succ_cons]
    exact cells_drop j c
theorem cells_take : ∀ (j : Nat) (c : List Pt), (cells c).take (j * 2) = cells (c.take j)
  | 0, c => by simp [cells_nil]
  | j + 1, [] => by simp [cells_nil]
  | j + 1, p :: c => by
    rw [cells_cons, show (j + 1) * 2 = j * 2 + 1 + 1 by omega, List.take_succ_cons, List.take_succ_cons, List.take_succ_cons, cells_cons, cells_take j c]
theorem cells_flat (c : List Pt) : AV.flatL (cells c) = true := by
  induction c with
  | nil => rfl
  | cons p l ih => rw [cells_cons]; simp [AV.flatL, AV.flat, ih]
theorem weak_eq {k : Nat} {st : St} {r : AV} {h' : AHeap} (e1 : lookup st.s 0 = r) (e2 : h' = st.h) : weak k st ⟨[(0, r)], h'⟩ :=
  .inl ⟨fun p hp => by rw [List.mem_singleton] at hp; subst hp; exact e1, e2⟩

/-- slices.Clone -/
theorem g51 (m : Int) (c : List Pt) (h0 : 0 < c.length) (hl : c.length < 1000000) : SpecG (cx m) 51 [ePs c] [] (.own 2 0 0 c.length c.length) [some (cells c)] := by
  refine specG_of (mixed m) (k51 m) (Nat.le_of_ble_eq_true rfl) (Nat.zero_le _) (X_start ?_)
  unfold c51
  have e := pt_map c
  rcases c with _ | ⟨p, l⟩
  · simp at h0
  · rw [List.map_cons] at e
    simp -implicitDefEqProofs (disch := omega) only [KF, KV0, KV1, KV2, KW, ↓bstep, ↓astep, ↓O1.eq_def, ↓onBool.eq_def, ↓onInt.eq_def, ↓onStr.eq_def, ↓onLo.eq_def, ↓binK.eq_def, ↓arith.eq_def, ↓strOp.eq_def, ↓srcElems.eq_def, ↓dst1.eq_def, args0, List.zipIdx, List.map, lookup, St.ev, St.set, St.setO, reduceCtorEq, AV.plain, AV.plainL, AV.flat, AV.flatL, AV.cells, Nat.reduceEqDiff, ↓reduceIte, List.drop, List.take, List.length, Nat.reduceAdd, Nat.reduceLeDiff, Nat.reduceMul, E.done, rvsK, rvK, resAV, Int.reduceToNat, Int.reduceLE, Int.reduceLT, Int.reduceNeg, Int.reduceAdd, Int.reduceSub, Int.reduceMul, Nat.reduceLT, AV.isElem, AV.one, ↓buildCells.eq_1, ↓buildCells.eq_2, Nat.reduceBEq, eqCells, ePs, onNil, List.map_cons]
    rw [List.length_cons] at hl
    simp only [List.length_map]
    refine ⟨by omega, by omega, weak_eq ?_ ?_⟩
    · simp [lookup]
    · rw [e]
/-- slices.Delete, of one point that is not the last -/
theorem g53 (m : Int) (c : List Pt) (i : Nat) (hi : i + 1 < c.length) (hl : c.length < 1000000) :
    SpecG (cx m) 53 [.own 2 0 0 c.length c.length, .int .i64 i, .int .i64 (i + 1 : Nat)] [some (cells c)] (.own 2 1 0 (c.length - 1) c.length) [none, some (cells (c.eraseIdx i) ++ [.str [], .str []])] := by
  refine specG_of (mixed m) (k53 m) (Nat.le_of_ble_eq_true rfl) (by simp) (X_start ?_)
  unfold c53
  have cl := cells_length c
  have f1 := eq_false (show ¬ (i : Int) = ((i + 1 : Nat) : Int) by omega)
  have f2 := eq_true (show i + 1 ≤ c.length by omega)
  have f3 := eq_true (show i ≤ i + 1 by omega)
  have f4 := eq_true (show i < c.length by omega)
  have f5 := eq_true (show i ≤ c.length by omega)
  have f6 := eq_true hi
  have f7 := eq_true (show i = 0 ∨ i < c.length by omega)
  simp -implicitDefEqProofs (disch := omega) only [KF, KV0, KV1, KV2, KW, ↓bstep, ↓astep, ↓O1.eq_def, ↓onBool.eq_def, ↓onInt.eq_def, ↓onStr.eq_def, ↓onLo.eq_def, ↓binK.eq_def, ↓arith.eq_def, ↓strOp.eq_def, ↓srcElems.eq_def, ↓dst1.eq_def, args0, List.zipIdx, List.map, lookup, St.ev, St.set, St.setO, reduceCtorEq, AV.plain, AV.plainL, AV.flat, AV.flatL, AV.cells, Nat.reduceEqDiff, ↓reduceIte, List.drop, List.take, List.length, Nat.reduceAdd, Nat.reduceLeDiff, Nat.reduceMul, E.done, rvsK, rvK, resAV, Int.reduceToNat, Int.reduceLE, Int.reduceLT, Int.reduceNeg, Int.reduceAdd, Int.reduceSub, Int.reduceMul, Nat.reduceLT, AV.isElem, AV.one, ↓buildCells.eq_1, ↓buildCells.eq_2, Nat.reduceBEq, eqCells, f1, f2, f3, f4, f5, f6, or_true]
  obtain ⟨q, D, hD⟩ : ∃ q D, c.drop (i + 1) = q :: D := by
    cases h : c.drop (i + 1) with
    | nil => have := congrArg List.length h; simp at this; omega
    | cons q D => exact ⟨q, D, rfl⟩
  have hdl : D.length + 1 = c.length - (i + 1) := by
    have := congrArg List.length hD
    rw [List.length_drop, List.length_cons] at this; omega
  have hdr : (cells c).drop (0 + (i + 1) * 2) = cells (q :: D) := by rw [Nat.zero_add, cells_drop, hD]
  refine ⟨.inl trivial, (q :: D).map (fun p : Pt => AV.agg [.str (tq p.1), .str (tq p.2)]), ?_, ?_, ?_⟩
  · refine .own 2 0 _ _ _ (cells c) _ rfl (by rw [cl]; omega) (by simp; omega) (fun y hy => ?_) ?_
    · obtain ⟨z, _, rfl⟩ := List.mem_map.1 hy; rfl
    · rw [pt_map, hdr, show (c.length - (i + 1)) * 2 = (cells (q :: D)).length by rw [cells_length, List.length_cons]; omega, List.take_length]
      exact showsL_refl (cells_plain _)
  · rw [pt_map]; exact cells_flat _
  · have hpm := pt_map (q :: D)
    rw [List.map_cons] at hpm ⊢
    simp only [List.length_map, Nat.sub_zero, Nat.zero_add]
    rw [hpm]
    have e1 : i + (D.length + 1) = c.length - 1 := by omega
    have e2 : max (c.length - 1) c.length = c.length := by omega
    have e3 : c.length - (c.length - 1) = 1 := by omega
    have hA : (cells c).take (i * 2) ++ cells (q :: D) = cells (c.eraseIdx i) := by
      rw [cells_take, ← cells_append, ← hD, List.eraseIdx_eq_take_drop_succ]
    have hAl : (cells (c.eraseIdx i)).length = (c.length - 1) * 2 := by rw [cells_length, List.length_eraseIdx_of_lt (by omega)]
    rw [e1, e2, e3, ← List.append_assoc, hA]
    refine ⟨by rw [cl]; omega, by omega, by omega, by omega, by omega, .inr (by omega), by rw [List.length_append, hAl, List.length_replicate]; omega, ?_⟩
    refine weak_eq ?_ ?_
    · simp [lookup]
    · have h1 : List.take ((c.length - 1) * 2) (cells (c.eraseIdx i) ++ List.replicate (1 * 2) AV.undef) = cells (c.eraseIdx i) := by
        rw [← hAl, List.take_left]
      have h2 : List.drop ((c.length - 1) * 2 + 1 * 2) (cells (c.eraseIdx i) ++ List.replicate (1 * 2) AV.undef) = [] := by
        apply List.drop_eq_nil_of_le
        rw [List.length_append, hAl, List.length_replicate]; omega
      rw [h1, h2]; simp
end Go.Proofs.YtkjnjdcbnelceaaGreatDoor.KA
end

section
/- Contracts: polyline.Ring and Area. -/
open Go Go.Proofs
set_option linter.unusedSimpArgs false
set_option linter.unusedVariables false
set_option maxHeartbeats 1000000
set_option maxRecDepth 20000
namespace Go.Proofs.YtkjnjdcbnelceaaGreatDoor.KA
open Num Geo

/-- The doubled area of the first triangles. -/
def sA (c : List Pt) : Nat → Rat
  | 0 => 0
  | n + 1 => sA c n + ar (at' c 0) (at' c (n + 1)) (at' c (n + 2))
theorem bd_sA {c : List Pt} (h9 : all9 c) : ∀ n, n + 1 < c.length → bd (648 * n) 1 (sA c n)
  | 0, _ => ⟨by simp [sA], by simp [sA]⟩
  | n + 1, h => by
    have h1 := bd_add (bd_sA h9 n (by omega)) (bd_ar (h9.get (show 0 < c.length by omega)) (h9.get (show n + 1 < c.length by omega)) (h9.get (show n + 2 < c.length by omega)))
    exact bd_le h1 (by omega) (by omega)
theorem s66 (m : Int) (c : List Pt) (h9 : all9 c) (h3 : 3 ≤ c.length) (h8 : c.length ≤ 400) : SpecP (cx m) 66 [ePs c] (.str (tq (sA c (c.length - 2)))) := by
  refine specP_of (mixed m) (k66 m) (Nat.le_of_ble_eq_true rfl) (X_start ?_)
  unfold c66
  simp -implicitDefEqProofs (disch := omega) only [KF, KV0, KV1, KV2, KW, ↓bstep, ↓astep, ↓O1.eq_def, ↓onBool.eq_def, ↓onInt.eq_def, ↓onStr.eq_def, ↓onLo.eq_def, ↓binK.eq_def, ↓arith.eq_def, ↓strOp.eq_def, ↓srcElems.eq_def, ↓dst1.eq_def, args0, List.zipIdx, List.map, lookup, St.ev, St.set, St.setO, reduceCtorEq, AV.plain, AV.plainL, AV.flat, AV.flatL, AV.cells, Nat.reduceEqDiff, ↓reduceIte, List.drop, List.take, List.length, Nat.reduceAdd, Nat.reduceLeDiff, Nat.reduceMul, E.done, rvsK, rvK, resAV, Int.reduceToNat, Int.reduceLE, Int.reduceLT, Int.reduceNeg, Int.reduceAdd, Int.reduceSub, Int.reduceMul, Nat.reduceLT, AV.isElem, AV.one, ↓buildCells.eq_1, ↓buildCells.eq_2, Nat.reduceBEq, eqCells]
  refine X_for (fun j : Nat => ⟨[(0, ePs c), (3, .str (tq (sA c j))), (4, .int .i64 (j + 2 : Nat))], []⟩) (fun j => j + 2 ≤ c.length) (fun j => c.length - j) 0 (by omega) ?_ ?_
  · exact weak_keep (by simp [lookup, sA, tq_zero])
  intro j R j1 hR
  try dsimp only at hR ⊢
  rcases Nat.lt_or_ge (j + 2) c.length with hj | hj
  · have x0 := get_pt (show 0 < c.length by omega)
    have x1 := get_pt (show j + 1 < c.length by omega)
    have x2 := get_pt hj
    have p1 : (((j + 2 : Nat) : Int) - 1) = ((j + 1 : Nat) : Int) := by omega
    have a := s52 m _ _ _ (h9.get (show 0 < c.length by omega)) (h9.get (show j + 1 < c.length by omega)) (h9.get hj)
    have b1 := bd_sA h9 j (by omega)
    have b2 := bd_ar (h9.get (show 0 < c.length by omega)) (h9.get (show j + 1 < c.length by omega)) (h9.get hj)
    unfold eP at a
    simp -implicitDefEqProofs (disch := omega) only [KF, KV0, KV1, KV2, KW, ↓bstep, ↓astep, ↓O1.eq_def, ↓onBool.eq_def, ↓onInt.eq_def, ↓onStr.eq_def, ↓onLo.eq_def, ↓binK.eq_def, ↓arith.eq_def, ↓strOp.eq_def, ↓srcElems.eq_def, ↓dst1.eq_def, args0, List.zipIdx, List.map, lookup, St.ev, St.set, St.setO, reduceCtorEq, AV.plain, AV.plainL, AV.flat, AV.flatL, AV.cells, Nat.reduceEqDiff, ↓reduceIte, List.drop, List.take, List.length, Nat.reduceAdd, Nat.reduceLeDiff, Nat.reduceMul, E.done, rvsK, rvK, resAV, Int.reduceToNat, Int.reduceLE, Int.reduceLT, Int.reduceNeg, Int.reduceAdd, Int.reduceSub, Int.reduceMul, Nat.reduceLT, AV.isElem, AV.one, ↓buildCells.eq_1, ↓buildCells.eq_2, Nat.reduceBEq, eqCells, ePs, List.length_map, hj, x0, p1, x1, x2]
    refine CL_pure a rfl ?_
    simp -implicitDefEqProofs (disch := omega) only [KF, KV0, KV1, KV2, KW, ↓bstep, ↓astep, ↓O1.eq_def, ↓onBool.eq_def, ↓onInt.eq_def, ↓onStr.eq_def, ↓onLo.eq_def, ↓binK.eq_def, ↓arith.eq_def, ↓strOp.eq_def, ↓srcElems.eq_def, ↓dst1.eq_def, args0, List.zipIdx, List.map, lookup, St.ev, St.set, St.setO, reduceCtorEq, AV.plain, AV.plainL, AV.flat, AV.flatL, AV.cells, Nat.reduceEqDiff, ↓reduceIte, List.drop, List.take, List.length, Nat.reduceAdd, Nat.reduceLeDiff, Nat.reduceMul, E.done, rvsK, rvK, resAV, Int.reduceToNat, Int.reduceLE, Int.reduceLT, Int.reduceNeg, Int.reduceAdd, Int.reduceSub, Int.reduceMul, Nat.reduceLT, AV.isElem, AV.one, ↓buildCells.eq_1, ↓buildCells.eq_2, Nat.reduceBEq, eqCells]
    refine CL_pure (s29 m _ _ (bd_qk b1 (by omega) (by omega)) (qk1 b2)) rfl ?_
    simp -implicitDefEqProofs (disch := omega) only [KF, KV0, KV1, KV2, KW, ↓bstep, ↓astep, ↓O1.eq_def, ↓onBool.eq_def, ↓onInt.eq_def, ↓onStr.eq_def, ↓onLo.eq_def, ↓binK.eq_def, ↓arith.eq_def, ↓strOp.eq_def, ↓srcElems.eq_def, ↓dst1.eq_def, args0, List.zipIdx, List.map, lookup, St.ev, St.set, St.setO, reduceCtorEq, AV.plain, AV.plainL, AV.flat, AV.flatL, AV.cells, Nat.reduceEqDiff, ↓reduceIte, List.drop, List.take, List.length, Nat.reduceAdd, Nat.reduceLeDiff, Nat.reduceMul, E.done, rvsK, rvK, resAV, Int.reduceToNat, Int.reduceLE, Int.reduceLT, Int.reduceNeg, Int.reduceAdd, Int.reduceSub, Int.reduceMul, Nat.reduceLT, AV.isElem, AV.one, ↓buildCells.eq_1, ↓buildCells.eq_2, Nat.reduceBEq, eqCells]
    exact hR (j + 1) _ (by omega) (by omega) (weak_keep (by simp [lookup, ePs, sA]; omega))
  · have hj' : ¬ j + 2 < c.length := by omega
    simp -implicitDefEqProofs (disch := omega) only [KF, KV0, KV1, KV2, KW, ↓bstep, ↓astep, ↓O1.eq_def, ↓onBool.eq_def, ↓onInt.eq_def, ↓onStr.eq_def, ↓onLo.eq_def, ↓binK.eq_def, ↓arith.eq_def, ↓strOp.eq_def, ↓srcElems.eq_def, ↓dst1.eq_def, args0, List.zipIdx, List.map, lookup, St.ev, St.set, St.setO, reduceCtorEq, AV.plain, AV.plainL, AV.flat, AV.flatL, AV.cells, Nat.reduceEqDiff, ↓reduceIte, List.drop, List.take, List.length, Nat.reduceAdd, Nat.reduceLeDiff, Nat.reduceMul, E.done, rvsK, rvK, resAV, Int.reduceToNat, Int.reduceLE, Int.reduceLT, Int.reduceNeg, Int.reduceAdd, Int.reduceSub, Int.reduceMul, Nat.reduceLT, AV.isElem, AV.one, ↓buildCells.eq_1, ↓buildCells.eq_2, Nat.reduceBEq, eqCells, ePs, List.length_map, hj']
    exact shs (by rw [show c.length - 2 = j by omega])

/-- Two neighbours of a ring are the same. -/
def twinR (c : List Pt) : Prop := ∃ i, i < c.length ∧ at' c ((i + c.length - 1) % c.length) = at' c i
open Classical in
noncomputable def ringP (c : List Pt) : Int := if twinR c then 17 else if simpleB c c.length then 0 else 26
theorem s38 (m : Int) (c : List Pt) (h9 : all9 c) (h3 : 3 ≤ c.length) (h400 : c.length ≤ 400) : SpecP (cx m) 38 [ePs c] (.int .i64 (ringP c)) := by
  refine specP_of (mixed m) (k38 m) (Nat.le_of_ble_eq_true rfl) (X_start ?_)
  unfold c38
  have a1 : ¬ (c.length : Int) < 3 := by omega
  have a2 : ¬ (400 : Int) < (c.length : Int) := by omega
  simp -implicitDefEqProofs (disch := omega) only [KF, KV0, KV1, KV2, KW, ↓bstep, ↓astep, ↓O1.eq_def, ↓onBool.eq_def, ↓onInt.eq_def, ↓onStr.eq_def, ↓onLo.eq_def, ↓binK.eq_def, ↓arith.eq_def, ↓strOp.eq_def, ↓srcElems.eq_def, ↓dst1.eq_def, args0, List.zipIdx, List.map, lookup, St.ev, St.set, St.setO, reduceCtorEq, AV.plain, AV.plainL, AV.flat, AV.flatL, AV.cells, Nat.reduceEqDiff, ↓reduceIte, List.drop, List.take, List.length, Nat.reduceAdd, Nat.reduceLeDiff, Nat.reduceMul, E.done, rvsK, rvK, resAV, Int.reduceToNat, Int.reduceLE, Int.reduceLT, Int.reduceNeg, Int.reduceAdd, Int.reduceSub, Int.reduceMul, Nat.reduceLT, AV.isElem, AV.one, ↓buildCells.eq_1, ↓buildCells.eq_2, Nat.reduceBEq, eqCells, ePs, List.length_map, a1, a2]
  refine X_for (fun i : Nat => ⟨[(0, ePs c), (13, ePs c), (14, .int .i64 c.length), (15, .int .i64 i)], []⟩) (fun i => i ≤ c.length ∧ ∀ j, j < i → at' c ((j + c.length - 1) % c.length) ≠ at' c j) (fun i => c.length - i) 0 ⟨Nat.zero_le _, fun j h => absurd h (Nat.not_lt_zero _)⟩ ?_ ?_
  · exact weak_keep (by simp [lookup, ePs])
  intro i R ⟨i1, i2⟩ hR
  try dsimp only at hR ⊢
  rcases Nat.lt_or_ge i c.length with hi | hi
  · have x1 := get_pt hi
    have hq : (i + c.length - 1) % c.length < c.length := Nat.mod_lt _ (by omega)
    have x2 := get_pt hq
    have cp := s49 m (at' c i) (h9.get hi).q.1 (h9.get hi).q.2
    unfold eP at cp
    have p1 : ((i : Int) + (c.length : Int) - 1).tmod (c.length : Int) = (((i + c.length - 1) % c.length : Nat) : Int) := by
      rw [show (i : Int) + (c.length : Int) - 1 = ((i + c.length - 1 : Nat) : Int) by omega]; exact (Int.ofNat_tmod _ _).symm
    have hn0 : ¬ ((c.length : Int) = 0) := by omega
    have pe := pt_eq' (at' c ((i + c.length - 1) % c.length)) (at' c i)
    simp -implicitDefEqProofs (disch := omega) only [KF, KV0, KV1, KV2, KW, ↓bstep, ↓astep, ↓O1.eq_def, ↓onBool.eq_def, ↓onInt.eq_def, ↓onStr.eq_def, ↓onLo.eq_def, ↓binK.eq_def, ↓arith.eq_def, ↓strOp.eq_def, ↓srcElems.eq_def, ↓dst1.eq_def, args0, List.zipIdx, List.map, lookup, St.ev, St.set, St.setO, reduceCtorEq, AV.plain, AV.plainL, AV.flat, AV.flatL, AV.cells, Nat.reduceEqDiff, ↓reduceIte, List.drop, List.take, List.length, Nat.reduceAdd, Nat.reduceLeDiff, Nat.reduceMul, E.done, rvsK, rvK, resAV, Int.reduceToNat, Int.reduceLE, Int.reduceLT, Int.reduceNeg, Int.reduceAdd, Int.reduceSub, Int.reduceMul, Nat.reduceLT, AV.isElem, AV.one, ↓buildCells.eq_1, ↓buildCells.eq_2, Nat.reduceBEq, eqCells, ePs, List.length_map, hi, x1]
    refine CL_pure cp rfl ?_
    by_cases e : at' c ((i + c.length - 1) % c.length) = at' c i
    · rw [decide_eq_true e] at pe
      simp -implicitDefEqProofs (disch := omega) only [KF, KV0, KV1, KV2, KW, ↓bstep, ↓astep, ↓O1.eq_def, ↓onBool.eq_def, ↓onInt.eq_def, ↓onStr.eq_def, ↓onLo.eq_def, ↓binK.eq_def, ↓arith.eq_def, ↓strOp.eq_def, ↓srcElems.eq_def, ↓dst1.eq_def, args0, List.zipIdx, List.map, lookup, St.ev, St.set, St.setO, reduceCtorEq, AV.plain, AV.plainL, AV.flat, AV.flatL, AV.cells, Nat.reduceEqDiff, ↓reduceIte, List.drop, List.take, List.length, Nat.reduceAdd, Nat.reduceLeDiff, Nat.reduceMul, E.done, rvsK, rvK, resAV, Int.reduceToNat, Int.reduceLE, Int.reduceLT, Int.reduceNeg, Int.reduceAdd, Int.reduceSub, Int.reduceMul, Nat.reduceLT, AV.isElem, AV.one, ↓buildCells.eq_1, ↓buildCells.eq_2, Nat.reduceBEq, eqCells, List.length_map, p1, hn0, x2, pe]
      refine shi ?_
      unfold ringP
      rw [if_pos ⟨i, hi, e⟩]
    · rw [decide_eq_false e] at pe
      simp -implicitDefEqProofs (disch := omega) only [KF, KV0, KV1, KV2, KW, ↓bstep, ↓astep, ↓O1.eq_def, ↓onBool.eq_def, ↓onInt.eq_def, ↓onStr.eq_def, ↓onLo.eq_def, ↓binK.eq_def, ↓arith.eq_def, ↓strOp.eq_def, ↓srcElems.eq_def, ↓dst1.eq_def, args0, List.zipIdx, List.map, lookup, St.ev, St.set, St.setO, reduceCtorEq, AV.plain, AV.plainL, AV.flat, AV.flatL, AV.cells, Nat.reduceEqDiff, ↓reduceIte, List.drop, List.take, List.length, Nat.reduceAdd, Nat.reduceLeDiff, Nat.reduceMul, E.done, rvsK, rvK, resAV, Int.reduceToNat, Int.reduceLE, Int.reduceLT, Int.reduceNeg, Int.reduceAdd, Int.reduceSub, Int.reduceMul, Nat.reduceLT, AV.isElem, AV.one, ↓buildCells.eq_1, ↓buildCells.eq_2, Nat.reduceBEq, eqCells, List.length_map, p1, hn0, x2, pe]
      refine hR (i + 1) _ ⟨by omega, fun j h => ?_⟩ (by omega) (weak_none (by simp [lookup, ePs, AV.plain]))
      by_cases ej : j = i
      · rw [ej]; exact e
      · exact i2 j (by omega)
  · have hi' : ¬ i < c.length := by omega
    have sp := s80 m c c.length h9 (by omega) (by omega)
    unfold ePs at sp
    simp -implicitDefEqProofs (disch := omega) only [KF, KV0, KV1, KV2, KW, ↓bstep, ↓astep, ↓O1.eq_def, ↓onBool.eq_def, ↓onInt.eq_def, ↓onStr.eq_def, ↓onLo.eq_def, ↓binK.eq_def, ↓arith.eq_def, ↓strOp.eq_def, ↓srcElems.eq_def, ↓dst1.eq_def, args0, List.zipIdx, List.map, lookup, St.ev, St.set, St.setO, reduceCtorEq, AV.plain, AV.plainL, AV.flat, AV.flatL, AV.cells, Nat.reduceEqDiff, ↓reduceIte, List.drop, List.take, List.length, Nat.reduceAdd, Nat.reduceLeDiff, Nat.reduceMul, E.done, rvsK, rvK, resAV, Int.reduceToNat, Int.reduceLE, Int.reduceLT, Int.reduceNeg, Int.reduceAdd, Int.reduceSub, Int.reduceMul, Nat.reduceLT, AV.isElem, AV.one, ↓buildCells.eq_1, ↓buildCells.eq_2, Nat.reduceBEq, eqCells, ePs, List.length_map, hi']
    refine CL_pure sp rfl ?_
    simp -implicitDefEqProofs (disch := omega) only [KF, KV0, KV1, KV2, KW, ↓bstep, ↓astep, ↓O1.eq_def, ↓onBool.eq_def, ↓onInt.eq_def, ↓onStr.eq_def, ↓onLo.eq_def, ↓binK.eq_def, ↓arith.eq_def, ↓strOp.eq_def, ↓srcElems.eq_def, ↓dst1.eq_def, args0, List.zipIdx, List.map, lookup, St.ev, St.set, St.setO, reduceCtorEq, AV.plain, AV.plainL, AV.flat, AV.flatL, AV.cells, Nat.reduceEqDiff, ↓reduceIte, List.drop, List.take, List.length, Nat.reduceAdd, Nat.reduceLeDiff, Nat.reduceMul, E.done, rvsK, rvK, resAV, Int.reduceToNat, Int.reduceLE, Int.reduceLT, Int.reduceNeg, Int.reduceAdd, Int.reduceSub, Int.reduceMul, Nat.reduceLT, AV.isElem, AV.one, ↓buildCells.eq_1, ↓buildCells.eq_2, Nat.reduceBEq, eqCells]
    refine shi ?_
    have nt : ¬ twinR c := by
      rintro ⟨j, j1, j2⟩
      exact i2 j (by omega) j2
    unfold ringP
    rw [if_neg nt]
/-- polyline.Area, of a ring -/
theorem s30 (m : Int) (c : List Pt) (h9 : all9 c) (h3 : 3 ≤ c.length) (h400 : c.length ≤ 400) (hr : ringP c = 0) : SpecP (cx m) 30 [ePs c] (.tuple [.str (tq (sA c (c.length - 2))), .int .i64 0]) := by
  refine specP_of (mixed m) (k30 m) (Nat.le_of_ble_eq_true rfl) (X_start ?_)
  unfold c30
  have sr := s38 m c h9 h3 h400
  rw [hr] at sr
  have b := bd_sA h9 (c.length - 2) (by omega)
  simp -implicitDefEqProofs (disch := omega) only [KF, KV0, KV1, KV2, KW, ↓bstep, ↓astep, ↓O1.eq_def, ↓onBool.eq_def, ↓onInt.eq_def, ↓onStr.eq_def, ↓onLo.eq_def, ↓binK.eq_def, ↓arith.eq_def, ↓strOp.eq_def, ↓srcElems.eq_def, ↓dst1.eq_def, args0, List.zipIdx, List.map, lookup, St.ev, St.set, St.setO, reduceCtorEq, AV.plain, AV.plainL, AV.flat, AV.flatL, AV.cells, Nat.reduceEqDiff, ↓reduceIte, List.drop, List.take, List.length, Nat.reduceAdd, Nat.reduceLeDiff, Nat.reduceMul, E.done, rvsK, rvK, resAV, Int.reduceToNat, Int.reduceLE, Int.reduceLT, Int.reduceNeg, Int.reduceAdd, Int.reduceSub, Int.reduceMul, Nat.reduceLT, AV.isElem, AV.one, ↓buildCells.eq_1, ↓buildCells.eq_2, Nat.reduceBEq, eqCells]
  refine CL_pure sr rfl ?_
  simp -implicitDefEqProofs (disch := omega) only [KF, KV0, KV1, KV2, KW, ↓bstep, ↓astep, ↓O1.eq_def, ↓onBool.eq_def, ↓onInt.eq_def, ↓onStr.eq_def, ↓onLo.eq_def, ↓binK.eq_def, ↓arith.eq_def, ↓strOp.eq_def, ↓srcElems.eq_def, ↓dst1.eq_def, args0, List.zipIdx, List.map, lookup, St.ev, St.set, St.setO, reduceCtorEq, AV.plain, AV.plainL, AV.flat, AV.flatL, AV.cells, Nat.reduceEqDiff, ↓reduceIte, List.drop, List.take, List.length, Nat.reduceAdd, Nat.reduceLeDiff, Nat.reduceMul, E.done, rvsK, rvK, resAV, Int.reduceToNat, Int.reduceLE, Int.reduceLT, Int.reduceNeg, Int.reduceAdd, Int.reduceSub, Int.reduceMul, Nat.reduceLT, AV.isElem, AV.one, ↓buildCells.eq_1, ↓buildCells.eq_2, Nat.reduceBEq, eqCells]
  refine CL_pure (s66 m c h9 h3 h400) rfl ?_
  simp -implicitDefEqProofs (disch := omega) only [KF, KV0, KV1, KV2, KW, ↓bstep, ↓astep, ↓O1.eq_def, ↓onBool.eq_def, ↓onInt.eq_def, ↓onStr.eq_def, ↓onLo.eq_def, ↓binK.eq_def, ↓arith.eq_def, ↓strOp.eq_def, ↓srcElems.eq_def, ↓dst1.eq_def, args0, List.zipIdx, List.map, lookup, St.ev, St.set, St.setO, reduceCtorEq, AV.plain, AV.plainL, AV.flat, AV.flatL, AV.cells, Nat.reduceEqDiff, ↓reduceIte, List.drop, List.take, List.length, Nat.reduceAdd, Nat.reduceLeDiff, Nat.reduceMul, E.done, rvsK, rvK, resAV, Int.reduceToNat, Int.reduceLE, Int.reduceLT, Int.reduceNeg, Int.reduceAdd, Int.reduceSub, Int.reduceMul, Nat.reduceLT, AV.isElem, AV.one, ↓buildCells.eq_1, ↓buildCells.eq_2, Nat.reduceBEq, eqCells]
  refine CL_pure (s50 m _ (bd_qk b (by omega) (by omega))) rfl ?_
  simp -implicitDefEqProofs (disch := omega) only [KF, KV0, KV1, KV2, KW, ↓bstep, ↓astep, ↓O1.eq_def, ↓onBool.eq_def, ↓onInt.eq_def, ↓onStr.eq_def, ↓onLo.eq_def, ↓binK.eq_def, ↓arith.eq_def, ↓strOp.eq_def, ↓srcElems.eq_def, ↓dst1.eq_def, args0, List.zipIdx, List.map, lookup, St.ev, St.set, St.setO, reduceCtorEq, AV.plain, AV.plainL, AV.flat, AV.flatL, AV.cells, Nat.reduceEqDiff, ↓reduceIte, List.drop, List.take, List.length, Nat.reduceAdd, Nat.reduceLeDiff, Nat.reduceMul, E.done, rvsK, rvK, resAV, Int.reduceToNat, Int.reduceLE, Int.reduceLT, Int.reduceNeg, Int.reduceAdd, Int.reduceSub, Int.reduceMul, Nat.reduceLT, AV.isElem, AV.one, ↓buildCells.eq_1, ↓buildCells.eq_2, Nat.reduceBEq, eqCells]
  exact shv rfl rfl
end Go.Proofs.YtkjnjdcbnelceaaGreatDoor.KA
end

section
/- Contracts: Clone and Delete of a slice with room; the checks as they can be reckoned. -/
open Go Go.Proofs
set_option linter.unusedSimpArgs false
set_option linter.unusedVariables false
set_option maxHeartbeats 1000000
set_option maxRecDepth 20000
namespace Go.Proofs.YtkjnjdcbnelceaaGreatDoor.KA
open Num Geo

def twinD (c : List Pt) : Bool := (List.range (c.length - 1)).any fun i => decide (at' c i = at' c (i + 1))
def simpleD (c : List Pt) (segs : Nat) : Bool := (List.range segs).all fun k => (List.range k).all fun i => !crossedP c segs i k
theorem twinD_iff (c : List Pt) : twinD c = true ↔ twin c := by
  unfold twinD twin
  rw [List.any_eq_true]
  constructor
  · rintro ⟨i, hi, h⟩
    rw [List.mem_range] at hi
    exact ⟨i, by omega, by simpa using h⟩
  · rintro ⟨i, hi, h⟩
    exact ⟨i, List.mem_range.2 (by omega), by simpa using h⟩
theorem simpleD_iff (c : List Pt) (segs : Nat) : simpleD c segs = true ↔ simpleB c segs := by
  unfold simpleD simpleB
  rw [List.all_eq_true]
  constructor
  · intro h i k hik hk
    have := List.all_eq_true.1 (h k (List.mem_range.2 hk)) i (List.mem_range.2 hik)
    simpa using this
  · intro h k hk
    rw [List.all_eq_true]
    intro i hi
    rw [List.mem_range] at hk hi
    simpa using h i k hi hk
def checkD (c : List Pt) : Int := if twinD c then 17 else if simpleD c (c.length - 1) then 0 else 26
theorem checkD_eq (c : List Pt) : checkP c = checkD c := by
  unfold checkP checkD
  by_cases h : twin c
  · rw [if_pos h, if_pos ((twinD_iff c).2 h)]
  · rw [if_neg h, if_neg (fun h2 => h ((twinD_iff c).1 h2))]
    by_cases h3 : simpleB c (c.length - 1)
    · rw [if_pos h3, if_pos ((simpleD_iff c _).2 h3)]
    · rw [if_neg h3, if_neg (fun h2 => h3 ((simpleD_iff c _).1 h2))]
def twinRD (c : List Pt) : Bool := (List.range c.length).any fun i => decide (at' c ((i + c.length - 1) % c.length) = at' c i)
theorem ring_ok {c : List Pt} (h1 : twinRD c = false) (h2 : simpleD c c.length = true) : ringP c = 0 := by
  unfold ringP
  rw [if_neg, if_pos ((simpleD_iff c _).1 h2)]
  rintro ⟨i, hi, h⟩
  have : twinRD c = true := by
    unfold twinRD
    rw [List.any_eq_true]
    exact ⟨i, List.mem_range.2 hi, by simpa using h⟩
  rw [h1] at this; cases this

section
variable {c : Ctx} {k : Nat} {fs : List F} {st : St} {Q : E → St → Prop} {l : List GI}
/-- A call that is handed a block, leaves it, and gives a new one. -/
theorem CL_hand {d : Option Nat} {f : FuncId} {args az : List AV} {r : AV} {cs cs' : List AV} (id : Nat) (h : SpecG c f az [some cs] r [some cs, some cs']) (hid : st.h[id]? = some (some cs)) (hc : AV.plainL cs = true) (hc' : AV.plainL cs' = true)
    (ha : args = AV.renL (fun i => if i = 0 then id else st.h.length + (i - 1)) az)
    (hk : Y c k l fs (({ st with h := st.h ++ [some cs'] } : St).setO d (r.ren fun i => if i = 0 then id else st.h.length + (i - 1))) Q) : CL c k d f args true l fs st Q := by
  have e1 : place [id] st.h.length = fun i => if i = 0 then id else st.h.length + (i - 1) := by
    funext i
    unfold place
    cases i with
    | zero => rfl
    | succ i => simp
  have hlt := (List.getElem?_eq_some_iff.1 hid).1
  refine ⟨.inr (.inr ⟨rfl, [id], az, [some cs], r, [some cs, some cs'], h, by rw [e1]; exact ha, rfl, by simp, fun i hi => by
    rw [List.mem_singleton] at hi; subst hi; exact hlt, fun i k o hi ho => ?_, ?_⟩)⟩
  · cases i with
    | zero =>
      simp only [List.getElem?_cons_zero, Option.some.injEq] at hi ho
      subst hi; subst ho
      exact ⟨_, hid, fun ds hd => by cases hd; rw [(plain_renL hc).1]⟩
    | succ i => simp at hi
  · have e2 : putBack st.h [id] [some cs, some cs'] = st.h ++ [some cs'] := by
      simp only [putBack, List.map, Option.map_some, List.zip_cons_cons, List.zip_nil_left, List.foldl, List.length_cons, List.length_nil, List.drop_succ_cons, List.drop_zero]
      rw [(plain_renL hc').1, (plain_renL hc).1]
      congr 1
      refine List.ext_getElem? fun j => ?_
      by_cases e : j = id
      · subst e; rw [hid]; simp [hlt]
      · rw [List.getElem?_set_ne (Ne.symm e)]
    rw [e1, e2]; exact hk
end

theorem cells_shows {h : AHeap} {id n q : Nat} {c : List Pt} {J : List AV} (hh : h[id]? = some (some (cells c ++ J))) (hn : n = c.length) : Shows h (.own 2 id 0 n q) (ePs c) := by
  subst hn
  refine .own 2 id 0 _ _ (cells c ++ J) _ hh (by rw [List.length_append, cells_length]; omega) (by simp) (fun y hy => ?_) ?_
  · obtain ⟨z, _, rfl⟩ := List.mem_map.1 hy; rfl
  · rw [pt_map, List.drop_zero, ← cells_length, List.take_left]
    exact showsL_refl (cells_plain _)

/-- slices.Clone, of a slice that is owned -/
theorem h51 (m : Int) (c : List Pt) (q : Nat) (J : List AV) (h0 : 0 < c.length) (hl : c.length < 1000000) : SpecG (cx m) 51 [.own 2 0 0 c.length q] [some (cells c ++ J)] (.own 2 1 0 c.length c.length) [some (cells c ++ J), some (cells c)] := by
  refine specG_of (mixed m) (k51 m) (Nat.le_of_ble_eq_true rfl) (by simp) (X_start ?_)
  unfold c51
  have e := pt_map c
  simp -implicitDefEqProofs (disch := omega) only [KF, KV0, KV1, KV2, KW, ↓bstep, ↓astep, ↓O1.eq_def, ↓onBool.eq_def, ↓onInt.eq_def, ↓onStr.eq_def, ↓onLo.eq_def, ↓binK.eq_def, ↓arith.eq_def, ↓strOp.eq_def, ↓srcElems.eq_def, ↓dst1.eq_def, args0, List.zipIdx, List.map, lookup, St.ev, St.set, St.setO, reduceCtorEq, AV.plain, AV.plainL, AV.flat, AV.flatL, AV.cells, Nat.reduceEqDiff, ↓reduceIte, List.drop, List.take, List.length, Nat.reduceAdd, Nat.reduceLeDiff, Nat.reduceMul, E.done, rvsK, rvK, resAV, Int.reduceToNat, Int.reduceLE, Int.reduceLT, Int.reduceNeg, Int.reduceAdd, Int.reduceSub, Int.reduceMul, Nat.reduceLT, AV.isElem, AV.one, ↓buildCells.eq_1, ↓buildCells.eq_2, Nat.reduceBEq, eqCells, onNil]
  refine ⟨c.map (fun p : Pt => AV.agg [.str (tq p.1), .str (tq p.2)]), cells_shows (J := J) rfl rfl, by rw [e]; exact cells_flat _, ?_⟩
  rcases c with _ | ⟨p, l⟩
  · simp at h0
  · rw [List.map_cons] at e ⊢
    rw [List.length_cons] at hl
    simp only [List.length_map, Nat.zero_add]
    refine ⟨by omega, by omega, weak_eq ?_ ?_⟩
    · simp [lookup]
    · rw [e]
/-- slices.Delete, of a slice with room behind it -/
theorem h53 (m : Int) (c : List Pt) (i q : Nat) (J : List AV) (hi : i + 1 < c.length) (hq : c.length ≤ q) (hJ : J.length = (q - c.length) * 2) (hl : q < 1000000) :
    SpecG (cx m) 53 [.own 2 0 0 c.length q, .int .i64 i, .int .i64 (i + 1 : Nat)] [some (cells c ++ J)] (.own 2 1 0 (c.length - 1) q) [none, some (cells (c.eraseIdx i) ++ ([.str [], .str []] ++ List.replicate ((q - c.length) * 2) AV.undef))] := by
  refine specG_of (mixed m) (k53 m) (Nat.le_of_ble_eq_true rfl) (by simp) (X_start ?_)
  unfold c53
  have cl := cells_length c
  have f1 := eq_false (show ¬ (i : Int) = ((i + 1 : Nat) : Int) by omega)
  have f2 := eq_true (show i + 1 ≤ c.length by omega)
  have f3 := eq_true (show i ≤ i + 1 by omega)
  have f4 := eq_true (show i < c.length by omega)
  have f5 := eq_true (show i ≤ c.length by omega)
  have f6 := eq_true hi
  have g1 := eq_true hq
  have g2 := eq_true (show i ≤ q by omega)
  have g3 := eq_true (show i < q by omega)
  have g4 := eq_true (show i + 1 < q by omega)
  simp -implicitDefEqProofs (disch := omega) only [KF, KV0, KV1, KV2, KW, ↓bstep, ↓astep, ↓O1.eq_def, ↓onBool.eq_def, ↓onInt.eq_def, ↓onStr.eq_def, ↓onLo.eq_def, ↓binK.eq_def, ↓arith.eq_def, ↓strOp.eq_def, ↓srcElems.eq_def, ↓dst1.eq_def, args0, List.zipIdx, List.map, lookup, St.ev, St.set, St.setO, reduceCtorEq, AV.plain, AV.plainL, AV.flat, AV.flatL, AV.cells, Nat.reduceEqDiff, ↓reduceIte, List.drop, List.take, List.length, Nat.reduceAdd, Nat.reduceLeDiff, Nat.reduceMul, E.done, rvsK, rvK, resAV, Int.reduceToNat, Int.reduceLE, Int.reduceLT, Int.reduceNeg, Int.reduceAdd, Int.reduceSub, Int.reduceMul, Nat.reduceLT, AV.isElem, AV.one, ↓buildCells.eq_1, ↓buildCells.eq_2, Nat.reduceBEq, eqCells, f1, f2, f3, f4, f5, f6, or_true, g1, g2, g3, g4]
  obtain ⟨p, D, hD⟩ : ∃ p D, c.drop (i + 1) = p :: D := by
    cases h : c.drop (i + 1) with
    | nil => have := congrArg List.length h; simp at this; omega
    | cons p D => exact ⟨p, D, rfl⟩
  have hdl : D.length + 1 = c.length - (i + 1) := by
    have := congrArg List.length hD
    rw [List.length_drop, List.length_cons] at this; omega
  have hdr : ((cells c ++ J).drop (0 + (i + 1) * 2)).take ((c.length - (i + 1)) * 2) = cells (p :: D) := by
    rw [Nat.zero_add, List.drop_append_of_le_length (by rw [cl]; omega), cells_drop, hD, show (c.length - (i + 1)) * 2 = (cells (p :: D)).length by rw [cells_length, List.length_cons]; omega, List.take_left]
  refine ⟨.inl trivial, (p :: D).map (fun p : Pt => AV.agg [.str (tq p.1), .str (tq p.2)]), ?_, ?_, ?_⟩
  · refine .own 2 0 _ _ _ (cells c ++ J) _ rfl (by rw [List.length_append, cl]; omega) (by simp; omega) (fun y hy => ?_) ?_
    · obtain ⟨z, _, rfl⟩ := List.mem_map.1 hy; rfl
    · rw [pt_map, hdr]
      exact showsL_refl (cells_plain _)
  · rw [pt_map]; exact cells_flat _
  · have hpm := pt_map (p :: D)
    rw [List.map_cons] at hpm ⊢
    simp only [List.length_map, Nat.sub_zero, Nat.zero_add]
    rw [hpm]
    have e1 : i + (D.length + 1) = c.length - 1 := by omega
    have e2 : max (c.length - 1) q = q := by omega
    have e3 : c.length - (c.length - 1) = 1 := by omega
    have hA : (cells c ++ J).take (i * 2) ++ cells (p :: D) = cells (c.eraseIdx i) := by
      rw [List.take_append_of_le_length (by rw [cl]; omega), cells_take, ← cells_append, ← hD, List.eraseIdx_eq_take_drop_succ]
    have hAl : (cells (c.eraseIdx i)).length = (c.length - 1) * 2 := by rw [cells_length, List.length_eraseIdx_of_lt (by omega)]
    rw [e1, e2, e3, ← List.append_assoc, hA]
    refine ⟨by rw [List.length_append, cl]; omega, by omega, by omega, by omega, by omega, .inr (by omega), by rw [List.length_append, hAl, List.length_replicate]; omega, ?_⟩
    refine weak_eq ?_ ?_
    · simp [lookup]
    · have h1 : List.take ((c.length - 1) * 2) (cells (c.eraseIdx i) ++ List.replicate ((q - (c.length - 1)) * 2) AV.undef) = cells (c.eraseIdx i) := by
        rw [← hAl, List.take_left]
      have h2 : List.drop ((c.length - 1) * 2 + 1 * 2) (cells (c.eraseIdx i) ++ List.replicate ((q - (c.length - 1)) * 2) AV.undef) = List.replicate ((q - c.length) * 2) AV.undef := by
        rw [← hAl, ← List.drop_drop, List.drop_left, List.drop_replicate]
        congr 1; omega
      rw [h1, h2]; simp
end Go.Proofs.YtkjnjdcbnelceaaGreatDoor.KA
end

section
/- Contract: polyline.Simplify, of chains of small points. -/
open Go Go.Proofs
set_option linter.unusedSimpArgs false
set_option linter.unusedVariables false
set_option maxHeartbeats 1000000
set_option maxRecDepth 20000
namespace Go.Proofs.YtkjnjdcbnelceaaGreatDoor.KA
open Num Geo

def absq (x : Rat) : Rat := if x < 0 then -x else x
theorem bd_abs {N D : Nat} {x : Rat} (h : bd N D x) : bd N D (absq x) := by unfold absq; split; exact bd_neg h; exact h
def triS (L : List Pt) (i : Nat) : Rat := absq (ar (at' L (i - 1)) (at' L i) (at' L (i + 1)))
def stepS (L : List Pt) (i : Nat) (p : Int × Rat) : Int × Rat :=
  if cm (triS L i) p.2 > 0 ∨ (cm (triS L i) p.2 = 0 ∧ p.1 ≥ 0) then p else if checkD (L.eraseIdx i) = 0 then ((i : Int), triS L i) else p
def pickS (L : List Pt) (most : Rat) : Nat → Int × Rat
  | 0 => (-1, most)
  | n + 1 => stepS L (n + 1) (pickS L most n)
def nextS (L : List Pt) (most : Rat) : Option (List Pt) :=
  if (pickS L most (L.length - 2)).1 < 0 then none else some (L.eraseIdx (pickS L most (L.length - 2)).1.toNat)
def simpS : Nat → List Pt → Rat → List Pt
  | 0, L, _ => L
  | f + 1, L, most => match nextS L most with
    | none => L
    | some L' => simpS f L' most
theorem pick_ok {L : List Pt} {most : Rat} (h9 : all9 L) (hm : qk most) : ∀ n, n + 1 < L.length → ((pickS L most n).1 = -1 ∨ ∃ j : Nat, (pickS L most n).1 = j ∧ 1 ≤ j ∧ j ≤ n) ∧ qk (pickS L most n).2
  | 0, _ => ⟨.inl rfl, hm⟩
  | n + 1, h => by
    obtain ⟨h1, h2⟩ := pick_ok h9 hm n (by omega)
    have b : qk (triS L (n + 1)) := by
      unfold triS
      exact qk1 (bd_abs (bd_ar (h9.get (by omega)) (h9.get (by omega)) (h9.get (by omega))))
    have old : ((pickS L most n).1 = -1 ∨ ∃ j : Nat, (pickS L most n).1 = j ∧ 1 ≤ j ∧ j ≤ n + 1) ∧ qk (pickS L most n).2 := ⟨h1.elim .inl (fun ⟨j, a, b, c⟩ => .inr ⟨j, a, b, by omega⟩), h2⟩
    show ((stepS L (n + 1) (pickS L most n)).1 = -1 ∨ _) ∧ _
    simp only [pickS]
    unfold stepS
    split
    · exact old
    · split
      · exact ⟨.inr ⟨n + 1, rfl, by omega, by omega⟩, b⟩
      · exact old
theorem all9.erase {c : List Pt} (h : all9 c) (i : Nat) : all9 (c.eraseIdx i) := fun p hp => h p (List.mem_of_mem_eraseIdx hp)
theorem cells_atJ (l : List Pt) (J : List AV) (j : Nat) (p : Pt) (h : l[j]? = some p) : ((cells l ++ J).drop (0 + j * 2)).take 2 = [.str (tq p.1), .str (tq p.2)] := by
  have hj := (List.getElem?_eq_some_iff.1 h).1
  have hd : 2 ≤ ((cells l).drop (0 + j * 2)).length := by rw [List.length_drop, cells_length]; omega
  rw [List.drop_append_of_le_length (by rw [cells_length]; omega), List.take_append_of_le_length hd]
  exact cells_at l j p h
theorem weak_keep' {k : Nat} {st : St} {s : List (Nat × AV)} {h' : AHeap} (h : ∀ p ∈ s, lookup st.s p.1 = p.2) (e : h' = st.h) : weak k st ⟨s, h'⟩ := .inl ⟨h, e⟩
theorem at_get {c : List Pt} {j : Nat} (h : j < c.length) : c[j]? = some (at' c j) := by simp [at', h]

theorem s16 (m : Int) (c : List Pt) (most : Rat) (h9 : all9 c) (h2 : 2 ≤ c.length) (h400 : c.length ≤ 400) (hc : checkP c = 0) (hm : qk most) (h0 : 0 ≤ most) :
    SpecP (cx m) 16 [ePs c, .str (tq most)] (.tuple [ePs (simpS c.length c most), .int .i64 0]) := by
  refine specP_of (mixed m) (k16 m) (Nat.le_of_ble_eq_true rfl) (X_start ?_)
  unfold c16
  have sc := s42 m c h9 h2 h400
  rw [hc] at sc
  have sgm : ¬ sg most < 0 := by have := sg_ge.2 h0; omega
  simp -implicitDefEqProofs (disch := omega) only [KF, KV0, KV1, KV2, KW, ↓bstep, ↓astep, ↓O1.eq_def, ↓onBool.eq_def, ↓onInt.eq_def, ↓onStr.eq_def, ↓onLo.eq_def, ↓binK.eq_def, ↓arith.eq_def, ↓strOp.eq_def, ↓srcElems.eq_def, ↓dst1.eq_def, args0, List.zipIdx, List.map, lookup, St.ev, St.set, St.setO, reduceCtorEq, AV.plain, AV.plainL, AV.flat, AV.flatL, AV.cells, Nat.reduceEqDiff, ↓reduceIte, List.drop, List.take, List.length, Nat.reduceAdd, Nat.reduceLeDiff, Nat.reduceMul, E.done, rvsK, rvK, resAV, Int.reduceToNat, Int.reduceLE, Int.reduceLT, Int.reduceNeg, Int.reduceAdd, Int.reduceSub, Int.reduceMul, Nat.reduceLT, AV.isElem, AV.one, ↓buildCells.eq_1, ↓buildCells.eq_2, Nat.reduceBEq, eqCells]
  refine CL_pure sc rfl ?_
  simp -implicitDefEqProofs (disch := omega) only [KF, KV0, KV1, KV2, KW, ↓bstep, ↓astep, ↓O1.eq_def, ↓onBool.eq_def, ↓onInt.eq_def, ↓onStr.eq_def, ↓onLo.eq_def, ↓binK.eq_def, ↓arith.eq_def, ↓strOp.eq_def, ↓srcElems.eq_def, ↓dst1.eq_def, args0, List.zipIdx, List.map, lookup, St.ev, St.set, St.setO, reduceCtorEq, AV.plain, AV.plainL, AV.flat, AV.flatL, AV.cells, Nat.reduceEqDiff, ↓reduceIte, List.drop, List.take, List.length, Nat.reduceAdd, Nat.reduceLeDiff, Nat.reduceMul, E.done, rvsK, rvK, resAV, Int.reduceToNat, Int.reduceLE, Int.reduceLT, Int.reduceNeg, Int.reduceAdd, Int.reduceSub, Int.reduceMul, Nat.reduceLT, AV.isElem, AV.one, ↓buildCells.eq_1, ↓buildCells.eq_2, Nat.reduceBEq, eqCells]
  refine CL_pure (s50 m most hm) rfl ?_
  simp -implicitDefEqProofs (disch := omega) only [KF, KV0, KV1, KV2, KW, ↓bstep, ↓astep, ↓O1.eq_def, ↓onBool.eq_def, ↓onInt.eq_def, ↓onStr.eq_def, ↓onLo.eq_def, ↓binK.eq_def, ↓arith.eq_def, ↓strOp.eq_def, ↓srcElems.eq_def, ↓dst1.eq_def, args0, List.zipIdx, List.map, lookup, St.ev, St.set, St.setO, reduceCtorEq, AV.plain, AV.plainL, AV.flat, AV.flatL, AV.cells, Nat.reduceEqDiff, ↓reduceIte, List.drop, List.take, List.length, Nat.reduceAdd, Nat.reduceLeDiff, Nat.reduceMul, E.done, rvsK, rvK, resAV, Int.reduceToNat, Int.reduceLE, Int.reduceLT, Int.reduceNeg, Int.reduceAdd, Int.reduceSub, Int.reduceMul, Nat.reduceLT, AV.isElem, AV.one, ↓buildCells.eq_1, ↓buildCells.eq_2, Nat.reduceBEq, eqCells]
  refine CL_pure (s18' m most) rfl ?_
  simp -implicitDefEqProofs (disch := omega) only [KF, KV0, KV1, KV2, KW, ↓bstep, ↓astep, ↓O1.eq_def, ↓onBool.eq_def, ↓onInt.eq_def, ↓onStr.eq_def, ↓onLo.eq_def, ↓binK.eq_def, ↓arith.eq_def, ↓strOp.eq_def, ↓srcElems.eq_def, ↓dst1.eq_def, args0, List.zipIdx, List.map, lookup, St.ev, St.set, St.setO, reduceCtorEq, AV.plain, AV.plainL, AV.flat, AV.flatL, AV.cells, Nat.reduceEqDiff, ↓reduceIte, List.drop, List.take, List.length, Nat.reduceAdd, Nat.reduceLeDiff, Nat.reduceMul, E.done, rvsK, rvK, resAV, Int.reduceToNat, Int.reduceLE, Int.reduceLT, Int.reduceNeg, Int.reduceAdd, Int.reduceSub, Int.reduceMul, Nat.reduceLT, AV.isElem, AV.one, ↓buildCells.eq_1, ↓buildCells.eq_2, Nat.reduceBEq, eqCells, sgm]
  refine CL_new (g51 m c (by omega) (by omega)) rfl (cells_plain c) ?_
  simp -implicitDefEqProofs (disch := omega) only [KF, KV0, KV1, KV2, KW, ↓bstep, ↓astep, ↓O1.eq_def, ↓onBool.eq_def, ↓onInt.eq_def, ↓onStr.eq_def, ↓onLo.eq_def, ↓binK.eq_def, ↓arith.eq_def, ↓strOp.eq_def, ↓srcElems.eq_def, ↓dst1.eq_def, args0, List.zipIdx, List.map, lookup, St.ev, St.set, St.setO, reduceCtorEq, AV.plain, AV.plainL, AV.flat, AV.flatL, AV.cells, Nat.reduceEqDiff, ↓reduceIte, List.drop, List.take, List.length, Nat.reduceAdd, Nat.reduceLeDiff, Nat.reduceMul, E.done, rvsK, rvK, resAV, Int.reduceToNat, Int.reduceLE, Int.reduceLT, Int.reduceNeg, Int.reduceAdd, Int.reduceSub, Int.reduceMul, Nat.reduceLT, AV.isElem, AV.one, ↓buildCells.eq_1, ↓buildCells.eq_2, Nat.reduceBEq, eqCells, AV.ren, List.length_nil, Nat.zero_add]
  refine X_for (fun x : List Pt × Nat × List AV => ⟨[(1, .str (tq most)), (7, .own 2 0 0 x.1.length x.2.1)], [some (cells x.1 ++ x.2.2)]⟩)
    (fun x => all9 x.1 ∧ 2 ≤ x.1.length ∧ x.1.length ≤ x.2.1 ∧ x.2.1 ≤ 400 ∧ x.2.2.length = (x.2.1 - x.1.length) * 2 ∧ AV.plainL x.2.2 = true ∧ simpS x.1.length x.1 most = simpS c.length c most) (fun x => x.1.length) (c, c.length, []) ⟨h9, h2, Nat.le_refl _, h400, by simp, rfl, rfl⟩ ?_ ?_
  · refine weak_keep' ?_ ?_
    · simp [lookup]
    · simp
  rintro ⟨L, q, J⟩ R ⟨l9, l2, lq, q4, lJ, pJ, hS⟩ hR
  try dsimp only at hR ⊢ l9 l2 lq q4 lJ pJ hS
  have cl := cells_length L
  have pl : AV.plainL (cells L ++ J) = true := plainL_all fun x hx => (List.mem_append.1 hx).elim (plainL_mem (cells_plain L) x) (plainL_mem pJ x)
  simp -implicitDefEqProofs (disch := omega) only [KF, KV0, KV1, KV2, KW, ↓bstep, ↓astep, ↓O1.eq_def, ↓onBool.eq_def, ↓onInt.eq_def, ↓onStr.eq_def, ↓onLo.eq_def, ↓binK.eq_def, ↓arith.eq_def, ↓strOp.eq_def, ↓srcElems.eq_def, ↓dst1.eq_def, args0, List.zipIdx, List.map, lookup, St.ev, St.set, St.setO, reduceCtorEq, AV.plain, AV.plainL, AV.flat, AV.flatL, AV.cells, Nat.reduceEqDiff, ↓reduceIte, List.drop, List.take, List.length, Nat.reduceAdd, Nat.reduceLeDiff, Nat.reduceMul, E.done, rvsK, rvK, resAV, Int.reduceToNat, Int.reduceLE, Int.reduceLT, Int.reduceNeg, Int.reduceAdd, Int.reduceSub, Int.reduceMul, Nat.reduceLT, AV.isElem, AV.one, ↓buildCells.eq_1, ↓buildCells.eq_2, Nat.reduceBEq, eqCells]
  refine X_for (fun n : Nat => ⟨[(1, .str (tq most)), (7, .own 2 0 0 L.length q), (8, .int .i64 (pickS L most n).1), (9, .str (tq (pickS L most n).2)), (10, .int .i64 (n + 1 : Nat))], [some (cells L ++ J)]⟩)
    (fun n => n + 2 ≤ L.length) (fun n => L.length - n) 0 (by omega) ?_ ?_
  · exact weak_keep (by simp [lookup, pickS])
  intro n R' n1 hR'
  try dsimp only at hR' ⊢
  have e1 : (((n + 1 : Nat) : Int) + 1) = ((n + 2 : Nat) : Int) := by omega
  have e0 : (((n + 1 : Nat) : Int) - 1) = (n : Int) := by omega
  rcases Nat.lt_or_ge (n + 2) L.length with hn | hn
  · have a0 := cells_atJ L J n _ (at_get (show n < L.length by omega))
    have a1 := cells_atJ L J (n + 1) _ (at_get (show n + 1 < L.length by omega))
    have a2 := cells_atJ L J (n + 2) _ (at_get hn)
    have b0 := eq_true (show 0 + n * 2 + 2 ≤ (cells L ++ J).length by rw [List.length_append, cl]; omega)
    have b1 := eq_true (show 0 + (n + 1) * 2 + 2 ≤ (cells L ++ J).length by rw [List.length_append, cl]; omega)
    have b2 := eq_true (show 0 + (n + 2) * 2 + 2 ≤ (cells L ++ J).length by rw [List.length_append, cl]; omega)
    have d0 := eq_true (show n < L.length by omega)
    have d1 := eq_true (show n + 1 < L.length by omega)
    have ha := s52 m _ _ _ (l9.get (show n < L.length by omega)) (l9.get (show n + 1 < L.length by omega)) (l9.get hn)
    unfold eP at ha
    obtain ⟨k1, k2⟩ := pick_ok l9 hm n (by omega)
    have h19 : SpecP (cx m) 19 [.str (tq (ar (at' L n) (at' L (n + 1)) (at' L (n + 2))))] (.str (tq (triS L (n + 1)))) := s19 m _
    have qt : qk (triS L (n + 1)) := by
      unfold triS
      exact qk1 (bd_abs (bd_ar (l9.get (by omega)) (l9.get (by omega)) (l9.get (by omega))))
    have pk : -1 ≤ (pickS L most n).1 ∧ (pickS L most n).1 ≤ 400 := by
      rcases k1 with h | ⟨j, h, h', h''⟩ <;> omega
    simp -implicitDefEqProofs (disch := omega) only [KF, KV0, KV1, KV2, KW, ↓bstep, ↓astep, ↓O1.eq_def, ↓onBool.eq_def, ↓onInt.eq_def, ↓onStr.eq_def, ↓onLo.eq_def, ↓binK.eq_def, ↓arith.eq_def, ↓strOp.eq_def, ↓srcElems.eq_def, ↓dst1.eq_def, args0, List.zipIdx, List.map, lookup, St.ev, St.set, St.setO, reduceCtorEq, AV.plain, AV.plainL, AV.flat, AV.flatL, AV.cells, Nat.reduceEqDiff, ↓reduceIte, List.drop, List.take, List.length, Nat.reduceAdd, Nat.reduceLeDiff, Nat.reduceMul, E.done, rvsK, rvK, resAV, Int.reduceToNat, Int.reduceLE, Int.reduceLT, Int.reduceNeg, Int.reduceAdd, Int.reduceSub, Int.reduceMul, Nat.reduceLT, AV.isElem, AV.one, ↓buildCells.eq_1, ↓buildCells.eq_2, Nat.reduceBEq, eqCells, e0, e1, hn, a0, a1, a2, b0, b1, b2, d0, d1]
    refine CL_pure ha rfl ?_
    simp -implicitDefEqProofs (disch := omega) only [KF, KV0, KV1, KV2, KW, ↓bstep, ↓astep, ↓O1.eq_def, ↓onBool.eq_def, ↓onInt.eq_def, ↓onStr.eq_def, ↓onLo.eq_def, ↓binK.eq_def, ↓arith.eq_def, ↓strOp.eq_def, ↓srcElems.eq_def, ↓dst1.eq_def, args0, List.zipIdx, List.map, lookup, St.ev, St.set, St.setO, reduceCtorEq, AV.plain, AV.plainL, AV.flat, AV.flatL, AV.cells, Nat.reduceEqDiff, ↓reduceIte, List.drop, List.take, List.length, Nat.reduceAdd, Nat.reduceLeDiff, Nat.reduceMul, E.done, rvsK, rvK, resAV, Int.reduceToNat, Int.reduceLE, Int.reduceLT, Int.reduceNeg, Int.reduceAdd, Int.reduceSub, Int.reduceMul, Nat.reduceLT, AV.isElem, AV.one, ↓buildCells.eq_1, ↓buildCells.eq_2, Nat.reduceBEq, eqCells]
    refine CL_pure h19 rfl ?_
    simp -implicitDefEqProofs (disch := omega) only [KF, KV0, KV1, KV2, KW, ↓bstep, ↓astep, ↓O1.eq_def, ↓onBool.eq_def, ↓onInt.eq_def, ↓onStr.eq_def, ↓onLo.eq_def, ↓binK.eq_def, ↓arith.eq_def, ↓strOp.eq_def, ↓srcElems.eq_def, ↓dst1.eq_def, args0, List.zipIdx, List.map, lookup, St.ev, St.set, St.setO, reduceCtorEq, AV.plain, AV.plainL, AV.flat, AV.flatL, AV.cells, Nat.reduceEqDiff, ↓reduceIte, List.drop, List.take, List.length, Nat.reduceAdd, Nat.reduceLeDiff, Nat.reduceMul, E.done, rvsK, rvK, resAV, Int.reduceToNat, Int.reduceLE, Int.reduceLT, Int.reduceNeg, Int.reduceAdd, Int.reduceSub, Int.reduceMul, Nat.reduceLT, AV.isElem, AV.one, ↓buildCells.eq_1, ↓buildCells.eq_2, Nat.reduceBEq, eqCells]
    refine CL_pure (s21 m _ _ qt k2) rfl ?_
    by_cases sk : cm (triS L (n + 1)) (pickS L most n).2 > 0 ∨ (cm (triS L (n + 1)) (pickS L most n).2 = 0 ∧ (pickS L most n).1 ≥ 0)
    · have es : pickS L most (n + 1) = pickS L most n := by
        show stepS L (n + 1) (pickS L most n) = _
        unfold stepS; rw [if_pos sk]
      rcases sk with c1 | ⟨c2, c3⟩
      · have c1 := eq_true (show 0 < cm (triS L (n + 1)) (pickS L most n).2 from c1)
        simp -implicitDefEqProofs (disch := omega) only [KF, KV0, KV1, KV2, KW, ↓bstep, ↓astep, ↓O1.eq_def, ↓onBool.eq_def, ↓onInt.eq_def, ↓onStr.eq_def, ↓onLo.eq_def, ↓binK.eq_def, ↓arith.eq_def, ↓strOp.eq_def, ↓srcElems.eq_def, ↓dst1.eq_def, args0, List.zipIdx, List.map, lookup, St.ev, St.set, St.setO, reduceCtorEq, AV.plain, AV.plainL, AV.flat, AV.flatL, AV.cells, Nat.reduceEqDiff, ↓reduceIte, List.drop, List.take, List.length, Nat.reduceAdd, Nat.reduceLeDiff, Nat.reduceMul, E.done, rvsK, rvK, resAV, Int.reduceToNat, Int.reduceLE, Int.reduceLT, Int.reduceNeg, Int.reduceAdd, Int.reduceSub, Int.reduceMul, Nat.reduceLT, AV.isElem, AV.one, ↓buildCells.eq_1, ↓buildCells.eq_2, Nat.reduceBEq, eqCells, c1]
        refine hR' (n + 1) _ (by omega) (by omega) ?_
        rw [es]
        exact weak_keep (by simp [lookup])
      · have c1 := eq_false (show ¬ 0 < cm (triS L (n + 1)) (pickS L most n).2 by omega)
        have c2 := eq_true c2
        have c3 := eq_true (show 0 ≤ (pickS L most n).1 from c3)
        simp -implicitDefEqProofs (disch := omega) only [KF, KV0, KV1, KV2, KW, ↓bstep, ↓astep, ↓O1.eq_def, ↓onBool.eq_def, ↓onInt.eq_def, ↓onStr.eq_def, ↓onLo.eq_def, ↓binK.eq_def, ↓arith.eq_def, ↓strOp.eq_def, ↓srcElems.eq_def, ↓dst1.eq_def, args0, List.zipIdx, List.map, lookup, St.ev, St.set, St.setO, reduceCtorEq, AV.plain, AV.plainL, AV.flat, AV.flatL, AV.cells, Nat.reduceEqDiff, ↓reduceIte, List.drop, List.take, List.length, Nat.reduceAdd, Nat.reduceLeDiff, Nat.reduceMul, E.done, rvsK, rvK, resAV, Int.reduceToNat, Int.reduceLE, Int.reduceLT, Int.reduceNeg, Int.reduceAdd, Int.reduceSub, Int.reduceMul, Nat.reduceLT, AV.isElem, AV.one, ↓buildCells.eq_1, ↓buildCells.eq_2, Nat.reduceBEq, eqCells, c1, c2, c3]
        refine hR' (n + 1) _ (by omega) (by omega) ?_
        rw [es]
        exact weak_keep (by simp [lookup])
    · have c1 := eq_false (show ¬ 0 < cm (triS L (n + 1)) (pickS L most n).2 from fun h => sk (.inl h))
      by_cases c2 : cm (triS L (n + 1)) (pickS L most n).2 = 0
      · have c3 := eq_false (show ¬ 0 ≤ (pickS L most n).1 from fun h => sk (.inr ⟨c2, h⟩))
        have c2' := eq_true c2
        simp -implicitDefEqProofs (disch := omega) only [KF, KV0, KV1, KV2, KW, ↓bstep, ↓astep, ↓O1.eq_def, ↓onBool.eq_def, ↓onInt.eq_def, ↓onStr.eq_def, ↓onLo.eq_def, ↓binK.eq_def, ↓arith.eq_def, ↓strOp.eq_def, ↓srcElems.eq_def, ↓dst1.eq_def, args0, List.zipIdx, List.map, lookup, St.ev, St.set, St.setO, reduceCtorEq, AV.plain, AV.plainL, AV.flat, AV.flatL, AV.cells, Nat.reduceEqDiff, ↓reduceIte, List.drop, List.take, List.length, Nat.reduceAdd, Nat.reduceLeDiff, Nat.reduceMul, E.done, rvsK, rvK, resAV, Int.reduceToNat, Int.reduceLE, Int.reduceLT, Int.reduceNeg, Int.reduceAdd, Int.reduceSub, Int.reduceMul, Nat.reduceLT, AV.isElem, AV.one, ↓buildCells.eq_1, ↓buildCells.eq_2, Nat.reduceBEq, eqCells, c1, c2', c3]
        refine CL_hand 0 (h51 m L q J (by omega) (by omega)) rfl pl (cells_plain L) rfl ?_
        simp -implicitDefEqProofs (disch := omega) only [KF, KV0, KV1, KV2, KW, ↓bstep, ↓astep, ↓O1.eq_def, ↓onBool.eq_def, ↓onInt.eq_def, ↓onStr.eq_def, ↓onLo.eq_def, ↓binK.eq_def, ↓arith.eq_def, ↓strOp.eq_def, ↓srcElems.eq_def, ↓dst1.eq_def, args0, List.zipIdx, List.map, lookup, St.ev, St.set, St.setO, reduceCtorEq, AV.plain, AV.plainL, AV.flat, AV.flatL, AV.cells, Nat.reduceEqDiff, ↓reduceIte, List.drop, List.take, List.length, Nat.reduceAdd, Nat.reduceLeDiff, Nat.reduceMul, E.done, rvsK, rvK, resAV, Int.reduceToNat, Int.reduceLE, Int.reduceLT, Int.reduceNeg, Int.reduceAdd, Int.reduceSub, Int.reduceMul, Nat.reduceLT, AV.isElem, AV.one, ↓buildCells.eq_1, ↓buildCells.eq_2, Nat.reduceBEq, eqCells, AV.ren, List.length_cons, List.length_nil, e1]
        refine CL_swap 1 (g53 m L (n + 1) (by omega) (by omega)) rfl (cells_plain L) (plainL_all fun x hx => (List.mem_append.1 hx).elim (plainL_mem (cells_plain _) x) (by simp; rintro (rfl | rfl) <;> rfl)) rfl ?_
        simp -implicitDefEqProofs (disch := omega) only [KF, KV0, KV1, KV2, KW, ↓bstep, ↓astep, ↓O1.eq_def, ↓onBool.eq_def, ↓onInt.eq_def, ↓onStr.eq_def, ↓onLo.eq_def, ↓binK.eq_def, ↓arith.eq_def, ↓strOp.eq_def, ↓srcElems.eq_def, ↓dst1.eq_def, args0, List.zipIdx, List.map, lookup, St.ev, St.set, St.setO, reduceCtorEq, AV.plain, AV.plainL, AV.flat, AV.flatL, AV.cells, Nat.reduceEqDiff, ↓reduceIte, List.drop, List.take, List.length, Nat.reduceAdd, Nat.reduceLeDiff, Nat.reduceMul, E.done, rvsK, rvK, resAV, Int.reduceToNat, Int.reduceLE, Int.reduceLT, Int.reduceNeg, Int.reduceAdd, Int.reduceSub, Int.reduceMul, Nat.reduceLT, AV.isElem, AV.one, ↓buildCells.eq_1, ↓buildCells.eq_2, Nat.reduceBEq, eqCells, AV.ren, List.length_cons, List.length_nil]
        have hse := s42 m (L.eraseIdx (n + 1)) (l9.erase _) (by rw [List.length_eraseIdx_of_lt (by omega)]; omega) (by rw [List.length_eraseIdx_of_lt (by omega)]; omega)
        rw [checkD_eq] at hse
        refine CL_show hse (.cons _ _ _ _ (cells_shows (J := [.str [], .str []]) rfl (by rw [List.length_eraseIdx_of_lt (by omega)])) .nil) rfl ?_
        by_cases z : checkD (L.eraseIdx (n + 1)) = 0
        · simp -implicitDefEqProofs (disch := omega) only [KF, KV0, KV1, KV2, KW, ↓bstep, ↓astep, ↓O1.eq_def, ↓onBool.eq_def, ↓onInt.eq_def, ↓onStr.eq_def, ↓onLo.eq_def, ↓binK.eq_def, ↓arith.eq_def, ↓strOp.eq_def, ↓srcElems.eq_def, ↓dst1.eq_def, args0, List.zipIdx, List.map, lookup, St.ev, St.set, St.setO, reduceCtorEq, AV.plain, AV.plainL, AV.flat, AV.flatL, AV.cells, Nat.reduceEqDiff, ↓reduceIte, List.drop, List.take, List.length, Nat.reduceAdd, Nat.reduceLeDiff, Nat.reduceMul, E.done, rvsK, rvK, resAV, Int.reduceToNat, Int.reduceLE, Int.reduceLT, Int.reduceNeg, Int.reduceAdd, Int.reduceSub, Int.reduceMul, Nat.reduceLT, AV.isElem, AV.one, ↓buildCells.eq_1, ↓buildCells.eq_2, Nat.reduceBEq, eqCells, z]
          refine hR' (n + 1) _ (by omega) (by omega) ?_
          have es : pickS L most (n + 1) = (((n + 1 : Nat) : Int), triS L (n + 1)) := by
            show stepS L (n + 1) (pickS L most n) = _
            unfold stepS; rw [if_neg sk, if_pos z]
          rw [es]
          exact weak_one 0 rfl pl (by simp [lookup, AV.ren, AV.idsLt])
        · simp -implicitDefEqProofs (disch := omega) only [KF, KV0, KV1, KV2, KW, ↓bstep, ↓astep, ↓O1.eq_def, ↓onBool.eq_def, ↓onInt.eq_def, ↓onStr.eq_def, ↓onLo.eq_def, ↓binK.eq_def, ↓arith.eq_def, ↓strOp.eq_def, ↓srcElems.eq_def, ↓dst1.eq_def, args0, List.zipIdx, List.map, lookup, St.ev, St.set, St.setO, reduceCtorEq, AV.plain, AV.plainL, AV.flat, AV.flatL, AV.cells, Nat.reduceEqDiff, ↓reduceIte, List.drop, List.take, List.length, Nat.reduceAdd, Nat.reduceLeDiff, Nat.reduceMul, E.done, rvsK, rvK, resAV, Int.reduceToNat, Int.reduceLE, Int.reduceLT, Int.reduceNeg, Int.reduceAdd, Int.reduceSub, Int.reduceMul, Nat.reduceLT, AV.isElem, AV.one, ↓buildCells.eq_1, ↓buildCells.eq_2, Nat.reduceBEq, eqCells, z]
          refine hR' (n + 1) _ (by omega) (by omega) ?_
          have es : pickS L most (n + 1) = pickS L most n := by
            show stepS L (n + 1) (pickS L most n) = _
            unfold stepS; rw [if_neg sk, if_neg z]
          rw [es]
          exact weak_one 0 rfl pl (by simp [lookup, AV.ren, AV.idsLt])
      · have c2' := eq_false c2
        simp -implicitDefEqProofs (disch := omega) only [KF, KV0, KV1, KV2, KW, ↓bstep, ↓astep, ↓O1.eq_def, ↓onBool.eq_def, ↓onInt.eq_def, ↓onStr.eq_def, ↓onLo.eq_def, ↓binK.eq_def, ↓arith.eq_def, ↓strOp.eq_def, ↓srcElems.eq_def, ↓dst1.eq_def, args0, List.zipIdx, List.map, lookup, St.ev, St.set, St.setO, reduceCtorEq, AV.plain, AV.plainL, AV.flat, AV.flatL, AV.cells, Nat.reduceEqDiff, ↓reduceIte, List.drop, List.take, List.length, Nat.reduceAdd, Nat.reduceLeDiff, Nat.reduceMul, E.done, rvsK, rvK, resAV, Int.reduceToNat, Int.reduceLE, Int.reduceLT, Int.reduceNeg, Int.reduceAdd, Int.reduceSub, Int.reduceMul, Nat.reduceLT, AV.isElem, AV.one, ↓buildCells.eq_1, ↓buildCells.eq_2, Nat.reduceBEq, eqCells, c1, c2']
        refine CL_hand 0 (h51 m L q J (by omega) (by omega)) rfl pl (cells_plain L) rfl ?_
        simp -implicitDefEqProofs (disch := omega) only [KF, KV0, KV1, KV2, KW, ↓bstep, ↓astep, ↓O1.eq_def, ↓onBool.eq_def, ↓onInt.eq_def, ↓onStr.eq_def, ↓onLo.eq_def, ↓binK.eq_def, ↓arith.eq_def, ↓strOp.eq_def, ↓srcElems.eq_def, ↓dst1.eq_def, args0, List.zipIdx, List.map, lookup, St.ev, St.set, St.setO, reduceCtorEq, AV.plain, AV.plainL, AV.flat, AV.flatL, AV.cells, Nat.reduceEqDiff, ↓reduceIte, List.drop, List.take, List.length, Nat.reduceAdd, Nat.reduceLeDiff, Nat.reduceMul, E.done, rvsK, rvK, resAV, Int.reduceToNat, Int.reduceLE, Int.reduceLT, Int.reduceNeg, Int.reduceAdd, Int.reduceSub, Int.reduceMul, Nat.reduceLT, AV.isElem, AV.one, ↓buildCells.eq_1, ↓buildCells.eq_2, Nat.reduceBEq, eqCells, AV.ren, List.length_cons, List.length_nil, e1]
        refine CL_swap 1 (g53 m L (n + 1) (by omega) (by omega)) rfl (cells_plain L) (plainL_all fun x hx => (List.mem_append.1 hx).elim (plainL_mem (cells_plain _) x) (by simp; rintro (rfl | rfl) <;> rfl)) rfl ?_
        simp -implicitDefEqProofs (disch := omega) only [KF, KV0, KV1, KV2, KW, ↓bstep, ↓astep, ↓O1.eq_def, ↓onBool.eq_def, ↓onInt.eq_def, ↓onStr.eq_def, ↓onLo.eq_def, ↓binK.eq_def, ↓arith.eq_def, ↓strOp.eq_def, ↓srcElems.eq_def, ↓dst1.eq_def, args0, List.zipIdx, List.map, lookup, St.ev, St.set, St.setO, reduceCtorEq, AV.plain, AV.plainL, AV.flat, AV.flatL, AV.cells, Nat.reduceEqDiff, ↓reduceIte, List.drop, List.take, List.length, Nat.reduceAdd, Nat.reduceLeDiff, Nat.reduceMul, E.done, rvsK, rvK, resAV, Int.reduceToNat, Int.reduceLE, Int.reduceLT, Int.reduceNeg, Int.reduceAdd, Int.reduceSub, Int.reduceMul, Nat.reduceLT, AV.isElem, AV.one, ↓buildCells.eq_1, ↓buildCells.eq_2, Nat.reduceBEq, eqCells, AV.ren, List.length_cons, List.length_nil]
        have hse := s42 m (L.eraseIdx (n + 1)) (l9.erase _) (by rw [List.length_eraseIdx_of_lt (by omega)]; omega) (by rw [List.length_eraseIdx_of_lt (by omega)]; omega)
        rw [checkD_eq] at hse
        refine CL_show hse (.cons _ _ _ _ (cells_shows (J := [.str [], .str []]) rfl (by rw [List.length_eraseIdx_of_lt (by omega)])) .nil) rfl ?_
        by_cases z : checkD (L.eraseIdx (n + 1)) = 0
        · simp -implicitDefEqProofs (disch := omega) only [KF, KV0, KV1, KV2, KW, ↓bstep, ↓astep, ↓O1.eq_def, ↓onBool.eq_def, ↓onInt.eq_def, ↓onStr.eq_def, ↓onLo.eq_def, ↓binK.eq_def, ↓arith.eq_def, ↓strOp.eq_def, ↓srcElems.eq_def, ↓dst1.eq_def, args0, List.zipIdx, List.map, lookup, St.ev, St.set, St.setO, reduceCtorEq, AV.plain, AV.plainL, AV.flat, AV.flatL, AV.cells, Nat.reduceEqDiff, ↓reduceIte, List.drop, List.take, List.length, Nat.reduceAdd, Nat.reduceLeDiff, Nat.reduceMul, E.done, rvsK, rvK, resAV, Int.reduceToNat, Int.reduceLE, Int.reduceLT, Int.reduceNeg, Int.reduceAdd, Int.reduceSub, Int.reduceMul, Nat.reduceLT, AV.isElem, AV.one, ↓buildCells.eq_1, ↓buildCells.eq_2, Nat.reduceBEq, eqCells, z]
          refine hR' (n + 1) _ (by omega) (by omega) ?_
          have es : pickS L most (n + 1) = (((n + 1 : Nat) : Int), triS L (n + 1)) := by
            show stepS L (n + 1) (pickS L most n) = _
            unfold stepS; rw [if_neg sk, if_pos z]
          rw [es]
          exact weak_one 0 rfl pl (by simp [lookup, AV.ren, AV.idsLt])
        · simp -implicitDefEqProofs (disch := omega) only [KF, KV0, KV1, KV2, KW, ↓bstep, ↓astep, ↓O1.eq_def, ↓onBool.eq_def, ↓onInt.eq_def, ↓onStr.eq_def, ↓onLo.eq_def, ↓binK.eq_def, ↓arith.eq_def, ↓strOp.eq_def, ↓srcElems.eq_def, ↓dst1.eq_def, args0, List.zipIdx, List.map, lookup, St.ev, St.set, St.setO, reduceCtorEq, AV.plain, AV.plainL, AV.flat, AV.flatL, AV.cells, Nat.reduceEqDiff, ↓reduceIte, List.drop, List.take, List.length, Nat.reduceAdd, Nat.reduceLeDiff, Nat.reduceMul, E.done, rvsK, rvK, resAV, Int.reduceToNat, Int.reduceLE, Int.reduceLT, Int.reduceNeg, Int.reduceAdd, Int.reduceSub, Int.reduceMul, Nat.reduceLT, AV.isElem, AV.one, ↓buildCells.eq_1, ↓buildCells.eq_2, Nat.reduceBEq, eqCells, z]
          refine hR' (n + 1) _ (by omega) (by omega) ?_
          have es : pickS L most (n + 1) = pickS L most n := by
            show stepS L (n + 1) (pickS L most n) = _
            unfold stepS; rw [if_neg sk, if_neg z]
          rw [es]
          exact weak_one 0 rfl pl (by simp [lookup, AV.ren, AV.idsLt])
  · have en : n = L.length - 2 := by omega
    have hn' : ¬ n + 2 < L.length := by omega
    obtain ⟨k1, k2⟩ := pick_ok l9 hm n (by omega)
    obtain ⟨f, hf⟩ : ∃ f, L.length = f + 1 := ⟨L.length - 1, by omega⟩
    by_cases neg : (pickS L most n).1 < 0
    · have hS' : L = simpS c.length c most := by
        rw [← hS, hf]
        unfold simpS nextS
        rw [← en, if_pos neg]
      simp -implicitDefEqProofs (disch := omega) only [KF, KV0, KV1, KV2, KW, ↓bstep, ↓astep, ↓O1.eq_def, ↓onBool.eq_def, ↓onInt.eq_def, ↓onStr.eq_def, ↓onLo.eq_def, ↓binK.eq_def, ↓arith.eq_def, ↓strOp.eq_def, ↓srcElems.eq_def, ↓dst1.eq_def, args0, List.zipIdx, List.map, lookup, St.ev, St.set, St.setO, reduceCtorEq, AV.plain, AV.plainL, AV.flat, AV.flatL, AV.cells, Nat.reduceEqDiff, ↓reduceIte, List.drop, List.take, List.length, Nat.reduceAdd, Nat.reduceLeDiff, Nat.reduceMul, E.done, rvsK, rvK, resAV, Int.reduceToNat, Int.reduceLE, Int.reduceLT, Int.reduceNeg, Int.reduceAdd, Int.reduceSub, Int.reduceMul, Nat.reduceLT, AV.isElem, AV.one, ↓buildCells.eq_1, ↓buildCells.eq_2, Nat.reduceBEq, eqCells, e1, hn', neg]
      rw [← hS']
      exact .tuple _ _ (.cons _ _ _ _ (cells_shows (J := J) rfl rfl) (.cons _ _ _ _ (.same _ rfl) .nil))
    · rcases k1 with h | ⟨j, h, j1, j2⟩
      · omega
      · have ej : ((j : Int) + 1) = ((j + 1 : Nat) : Int) := by omega
        have neg' := eq_false (show ¬ (j : Int) < 0 by omega)
        simp -implicitDefEqProofs (disch := omega) only [KF, KV0, KV1, KV2, KW, ↓bstep, ↓astep, ↓O1.eq_def, ↓onBool.eq_def, ↓onInt.eq_def, ↓onStr.eq_def, ↓onLo.eq_def, ↓binK.eq_def, ↓arith.eq_def, ↓strOp.eq_def, ↓srcElems.eq_def, ↓dst1.eq_def, args0, List.zipIdx, List.map, lookup, St.ev, St.set, St.setO, reduceCtorEq, AV.plain, AV.plainL, AV.flat, AV.flatL, AV.cells, Nat.reduceEqDiff, ↓reduceIte, List.drop, List.take, List.length, Nat.reduceAdd, Nat.reduceLeDiff, Nat.reduceMul, E.done, rvsK, rvK, resAV, Int.reduceToNat, Int.reduceLE, Int.reduceLT, Int.reduceNeg, Int.reduceAdd, Int.reduceSub, Int.reduceMul, Nat.reduceLT, AV.isElem, AV.one, ↓buildCells.eq_1, ↓buildCells.eq_2, Nat.reduceBEq, eqCells, e1, hn', h, neg', ej]
        have le := List.length_eraseIdx_of_lt (l := L) (i := j) (by omega)
        refine CL_swap 0 (h53 m L j q J (by omega) lq lJ (by omega)) rfl pl (plainL_all fun x hx => (List.mem_append.1 hx).elim (plainL_mem (cells_plain _) x) (by
          simp only [List.mem_append, List.mem_cons, List.mem_replicate, List.not_mem_nil, or_false]
          rintro ((rfl | rfl) | ⟨_, rfl⟩) <;> rfl)) rfl ?_
        simp -implicitDefEqProofs (disch := omega) only [KF, KV0, KV1, KV2, KW, ↓bstep, ↓astep, ↓O1.eq_def, ↓onBool.eq_def, ↓onInt.eq_def, ↓onStr.eq_def, ↓onLo.eq_def, ↓binK.eq_def, ↓arith.eq_def, ↓strOp.eq_def, ↓srcElems.eq_def, ↓dst1.eq_def, args0, List.zipIdx, List.map, lookup, St.ev, St.set, St.setO, reduceCtorEq, AV.plain, AV.plainL, AV.flat, AV.flatL, AV.cells, Nat.reduceEqDiff, ↓reduceIte, List.drop, List.take, List.length, Nat.reduceAdd, Nat.reduceLeDiff, Nat.reduceMul, E.done, rvsK, rvK, resAV, Int.reduceToNat, Int.reduceLE, Int.reduceLT, Int.reduceNeg, Int.reduceAdd, Int.reduceSub, Int.reduceMul, Nat.reduceLT, AV.isElem, AV.one, ↓buildCells.eq_1, ↓buildCells.eq_2, Nat.reduceBEq, eqCells, AV.ren, List.length_cons, List.length_nil]
        refine hR (L.eraseIdx j, q, [.str [], .str []] ++ List.replicate ((q - L.length) * 2) AV.undef) _ ⟨l9.erase j, by dsimp only; rw [le]; omega, by dsimp only; rw [le]; omega, q4, by simp only [List.length_append, List.length_cons, List.length_nil, List.length_replicate]; rw [le]; omega, ?_, ?_⟩ (by dsimp only; rw [le]; omega) ?_
        · exact plainL_all fun x hx => by
            simp only [List.mem_append, List.mem_cons, List.mem_replicate, List.not_mem_nil, or_false] at hx
            rcases hx with (rfl | rfl) | ⟨_, rfl⟩ <;> rfl
        · dsimp only
          rw [← hS, le, hf]
          have : nextS L most = some (L.eraseIdx j) := by
            unfold nextS
            rw [← en, if_neg neg, h]; rfl
          show simpS (f + 1 - 1) _ most = simpS (f + 1) L most
          unfold simpS
          rw [this]
          cases f with
          | zero => omega
          | succ f => rfl
        · exact weak_one 1 rfl (plainL_all fun x hx => (List.mem_append.1 hx).elim (plainL_mem (cells_plain _) x) (by
            simp only [List.mem_append, List.mem_cons, List.mem_replicate, List.not_mem_nil, or_false]
            rintro ((rfl | rfl) | ⟨_, rfl⟩) <;> rfl)) (by simp [lookup, AV.ren, AV.idsLt, le])
end Go.Proofs.YtkjnjdcbnelceaaGreatDoor.KA
end

section
/- Contract: the known examples of the chapter. -/
open Go Go.Proofs
set_option linter.unusedSimpArgs false
set_option linter.unusedVariables false
set_option maxHeartbeats 1000000
set_option maxRecDepth 20000
namespace Go.Proofs.YtkjnjdcbnelceaaGreatDoor.KA
open Num Geo

def kA : List Pt := [(0, 0), (4, 0)]
def kB : List Pt := [(1, -1), (1, 1), (3, 1), (3, -1)]
def kC : List Pt := [(0, 0), (1, 0), (2, 1), (4, 0)]
def kD : List Pt := [(0, 0), (2, 0), (2, 2)]
theorem kA_ok : checkD kA = 0 := by decide +kernel
theorem kB_ok : checkD kB = 0 := by decide +kernel
theorem kC_ok : checkD kC = 0 := by decide +kernel
theorem kD_ok : twinRD kD = false ∧ simpleD kD kD.length = true := by decide +kernel
theorem kAB : hits (mP kA kB) 1 3 = [(0, 0, (1, 0)), (0, 2, (3, 0))] := by decide +kernel
theorem kC_simp : simpS 4 kC 1 = [(0, 0), (2, 1), (4, 0)] := by decide +kernel
theorem kD_area : sA kD 1 = 4 := by decide +kernel
def overD (a b : List Pt) : Bool := (List.range (a.length - 1)).any fun i => (List.range (b.length - 1)).any fun k => decide ((mP a b i k).1 = 2)
theorem kAB_over : overD kA kB = false := by decide +kernel
theorem overD_iff {a b : List Pt} (h : overD a b = false) : ¬ overP a b := by
  rintro ⟨i, k, h1, h2, h3⟩
  have : overD a b = true := by
    unfold overD
    rw [List.any_eq_true]
    refine ⟨i, List.mem_range.2 (by omega), ?_⟩
    rw [List.any_eq_true]
    exact ⟨k, List.mem_range.2 (by omega), by simpa using h3⟩
  rw [h] at this; cases this
theorem tq0 : tq 0 = [48] := tq_zero
theorem tq1 : tq 1 = [49] := tq_one
theorem tq2 : tq 2 = [50] := by rw [show (2 : Rat) = ((2 : Int) : Rat) from rfl, tq_int, itoa_nonneg (by omega), dec_small (by decide)]; rfl
theorem tq3 : tq 3 = [51] := by rw [show (3 : Rat) = ((3 : Int) : Rat) from rfl, tq_int, itoa_nonneg (by omega), dec_small (by decide)]; rfl
theorem tq4 : tq 4 = [52] := by rw [show (4 : Rat) = ((4 : Int) : Rat) from rfl, tq_int, itoa_nonneg (by omega), dec_small (by decide)]; rfl
theorem tqm : tq (-1) = [45, 49] := by rw [show (-1 : Rat) = ((-1 : Int) : Rat) from rfl, tq_int, itoa_neg (by omega), dec_small (by decide)]; rfl
theorem all9_of {c : List Pt} (h : (c.all fun p => decide (p.1.num.natAbs ≤ 9) && (decide (p.1.den ≤ 1) && (decide (p.2.num.natAbs ≤ 9) && decide (p.2.den ≤ 1)))) = true) : all9 c := by
  intro p hp
  have := List.all_eq_true.1 h p hp
  simp only [Bool.and_eq_true, decide_eq_true_eq] at this
  exact ⟨⟨this.1, this.2.1⟩, ⟨this.2.2.1, this.2.2.2⟩⟩
theorem kA9 : all9 kA := all9_of (by decide +kernel)
theorem kB9 : all9 kB := all9_of (by decide +kernel)
theorem kC9 : all9 kC := all9_of (by decide +kernel)
theorem kD9 : all9 kD := all9_of (by decide +kernel)
/-- klippelaw11.known -/
theorem s11 (m : Int) : SpecP (cx m) 11 [] (.bool true) := by
  refine specP_of (mixed m) (k11 m) (Nat.le_of_ble_eq_true rfl) (X_start ?_)
  unfold c11
  have x14 := s14 m kA kB kA9 kB9 (by decide) (by decide) (by decide) (by decide) ((checkD_eq _).trans kA_ok) ((checkD_eq _).trans kB_ok)
  rw [if_neg (overD_iff kAB_over), show kA.length - 1 = 1 from rfl, show kB.length - 1 = 3 from rfl, kAB] at x14
  have x16 := s16 m kC 1 kC9 (by decide) (by decide) ((checkD_eq _).trans kC_ok) (qk_of (by decide) (by decide)) (by decide)
  rw [show kC.length = 4 from rfl, kC_simp] at x16
  have x30 := s30 m kD kD9 (by decide) (by decide) (ring_ok kD_ok.1 kD_ok.2)
  rw [show kD.length - 2 = 1 from rfl, kD_area] at x30
  simp only [ePs, kA, kB, kC, kD, List.map_cons, List.map_nil, tq0, tq1, tq2, tq3, tq4, tqm, eX] at x14 x16 x30
  rw [show ((0 : Nat) : Int) = 0 from rfl, show ((2 : Nat) : Int) = 2 from rfl] at x14
  simp -implicitDefEqProofs (disch := omega) only [KF, KV0, KV1, KV2, KW, ↓bstep, ↓astep, ↓O1.eq_def, ↓onBool.eq_def, ↓onInt.eq_def, ↓onStr.eq_def, ↓onLo.eq_def, ↓binK.eq_def, ↓arith.eq_def, ↓strOp.eq_def, ↓srcElems.eq_def, ↓dst1.eq_def, args0, List.zipIdx, List.map, lookup, St.ev, St.set, St.setO, reduceCtorEq, AV.plain, AV.plainL, AV.flat, AV.flatL, AV.cells, Nat.reduceEqDiff, ↓reduceIte, List.drop, List.take, List.length, Nat.reduceAdd, Nat.reduceLeDiff, Nat.reduceMul, E.done, rvsK, rvK, resAV, Int.reduceToNat, Int.reduceLE, Int.reduceLT, Int.reduceNeg, Int.reduceAdd, Int.reduceSub, Int.reduceMul, Nat.reduceLT, AV.isElem, AV.one, ↓buildCells.eq_1, ↓buildCells.eq_2, Nat.reduceBEq, eqCells]
  refine CL_pure x14 rfl ?_
  simp -implicitDefEqProofs (disch := omega) only [KF, KV0, KV1, KV2, KW, ↓bstep, ↓astep, ↓O1.eq_def, ↓onBool.eq_def, ↓onInt.eq_def, ↓onStr.eq_def, ↓onLo.eq_def, ↓binK.eq_def, ↓arith.eq_def, ↓strOp.eq_def, ↓srcElems.eq_def, ↓dst1.eq_def, args0, List.zipIdx, List.map, lookup, St.ev, St.set, St.setO, reduceCtorEq, AV.plain, AV.plainL, AV.flat, AV.flatL, AV.cells, Nat.reduceEqDiff, ↓reduceIte, List.drop, List.take, List.length, Nat.reduceAdd, Nat.reduceLeDiff, Nat.reduceMul, E.done, rvsK, rvK, resAV, Int.reduceToNat, Int.reduceLE, Int.reduceLT, Int.reduceNeg, Int.reduceAdd, Int.reduceSub, Int.reduceMul, Nat.reduceLT, AV.isElem, AV.one, ↓buildCells.eq_1, ↓buildCells.eq_2, Nat.reduceBEq, eqCells]
  refine CL_pure x16 rfl ?_
  simp -implicitDefEqProofs (disch := omega) only [KF, KV0, KV1, KV2, KW, ↓bstep, ↓astep, ↓O1.eq_def, ↓onBool.eq_def, ↓onInt.eq_def, ↓onStr.eq_def, ↓onLo.eq_def, ↓binK.eq_def, ↓arith.eq_def, ↓strOp.eq_def, ↓srcElems.eq_def, ↓dst1.eq_def, args0, List.zipIdx, List.map, lookup, St.ev, St.set, St.setO, reduceCtorEq, AV.plain, AV.plainL, AV.flat, AV.flatL, AV.cells, Nat.reduceEqDiff, ↓reduceIte, List.drop, List.take, List.length, Nat.reduceAdd, Nat.reduceLeDiff, Nat.reduceMul, E.done, rvsK, rvK, resAV, Int.reduceToNat, Int.reduceLE, Int.reduceLT, Int.reduceNeg, Int.reduceAdd, Int.reduceSub, Int.reduceMul, Nat.reduceLT, AV.isElem, AV.one, ↓buildCells.eq_1, ↓buildCells.eq_2, Nat.reduceBEq, eqCells]
  refine CL_pure x30 rfl ?_
  simp -implicitDefEqProofs (disch := omega) only [KF, KV0, KV1, KV2, KW, ↓bstep, ↓astep, ↓O1.eq_def, ↓onBool.eq_def, ↓onInt.eq_def, ↓onStr.eq_def, ↓onLo.eq_def, ↓binK.eq_def, ↓arith.eq_def, ↓strOp.eq_def, ↓srcElems.eq_def, ↓dst1.eq_def, args0, List.zipIdx, List.map, lookup, St.ev, St.set, St.setO, reduceCtorEq, AV.plain, AV.plainL, AV.flat, AV.flatL, AV.cells, Nat.reduceEqDiff, ↓reduceIte, List.drop, List.take, List.length, Nat.reduceAdd, Nat.reduceLeDiff, Nat.reduceMul, E.done, rvsK, rvK, resAV, Int.reduceToNat, Int.reduceLE, Int.reduceLT, Int.reduceNeg, Int.reduceAdd, Int.reduceSub, Int.reduceMul, Nat.reduceLT, AV.isElem, AV.one, ↓buildCells.eq_1, ↓buildCells.eq_2, Nat.reduceBEq, eqCells, and_self, List.cons.injEq]
  refine iteI (fun _ => iteI (fun _ => shb rfl) (fun h => absurd rfl h)) (fun h => absurd rfl h)
/-- klippelaw11.PolylineCrosses, whole -/
theorem crosses (m : Int) (l r : List (Int × Int)) (hl : in8 l) (hr : in8 r) : SpecP (cx m) 3 [eI8 l, eI8 r] (.bool true) :=
  s3 m (s11 m) l r hl hr
end Go.Proofs.YtkjnjdcbnelceaaGreatDoor.KA
end

section
/- From a row's condition to the walk's contracts, and back. -/
open Go Go.Proofs
open Go.ChangeShapes Go.WideShapes Go.ChangeAt Go.RowKit
set_option linter.unusedSimpArgs false
namespace Go.Proofs.YtkjnjdcbnelceaaGreatDoor.KA

theorem Pres.below {w w' : World} {fz fz' : Nat → Prop} (h : Pres w (fun _ => False) fz w' fz') : Below w.heap.size w w' :=
  ⟨h.os, h.tape, h.output, h.size, fun b hb => h.block b hb (fun x => x)⟩

section
variable {H : Type} {enc : TypeId × Value → H}
/-- The row's wrap, with what the row lists and the world's shape handed on. -/
theorem handed_both {a : Assume} {C : Checked} {os : Os} {f : FuncId} {fn : Func} {s : ChangeSpec} {conds : List PathCond} {apart fresh handsOn again : Bool} {X : World → Array Value → Prop}
    (hX : ∀ (w w' : World) (args : Array Value), w.heap = w'.heap → X w args → X w' args)
    (own : ownKnob C.prog.godebug = none) (started : os.Started) (noInit : C.prog.inits.idxOf? f = none) (hfn : C.prog.funcs[f]? = some fn)
    (witness : ∃ (w : World) (tape : Tape) (i : Input), w.os = os ∧ (w.forCall tape i).Shaped C.prog ∧ i.vars = [] ∧ Input.okWide C.prog (w.forCall tape i) .any w.heap.size f i ∧
      ((s.pre enc C.prog fn conds apart (w.forCall tape i).memory i.args ∧ X (w.forCall tape i).memory i.args) ∧ sizedMet enc C.prog fn (OpenSpec.ofChange s) apart (w.forCall tape i).memory i.args) ∧ a.holds C.prog (lone (Frame.enter C.prog f i.args .normal) [] (w.forCall tape i)))
    (contract : ∀ (W : World) (base : Nat) (args : Array Value) (ds gs : List (DataW H)) (before : List MemPlace),
      (∀ (j : Nat) t v, fn.params[j]? = some t → args[j]? = some v → Value.okWide C.prog W .any base t v) →
      DataW.Whole enc C.prog fn.params.toList s.vars apart W args.toList ds gs before →
      conds.all (PathCond.test C.prog ⟨fn.params.toList, ds, s.plain.varTypes C.prog, gs⟩) = true →
      (DataW.weightsEach C.prog (fn.params.toList ++ s.plain.varTypes C.prog) (ds ++ gs)).all (· ≤ reachBytes) = true → X W args → W.ShapedOpen C.prog →
      Calls C.prog f args W fun e W' => ∃ v, e = .returned v ∧ s.post enc C.prog fn apart fresh handsOn again W args v W') :
    ReturnsInHanded a C os f .any (fun w args => (s.pre enc C.prog fn conds apart w args ∧ X w args) ∧ sizedMet enc C.prog fn (OpenSpec.ofChange s) apart w args) (s.post enc C.prog fn apart fresh handsOn again) := by
  refine returnsInHanded_of_calls own started noInit witness ?_
  intro w tape i _ hsh _ hok hpre _
  obtain ⟨_, _, _, fn', hfn', _, _, _, _, hval⟩ := hok
  have e : fn' = fn := Option.some.inj (hfn'.symm.trans hfn)
  subst e
  obtain ⟨⟨⟨ds, gs, before, hw, hc⟩, hx⟩, hz⟩ := hpre
  have hw' := DataW.Whole.of_heap (w' := w.forCall tape i) (by rfl) hw
  refine (contract (w.forCall tape i) w.heap.size i.args ds gs before hval hw' hc (hz.weights hw) (hX _ _ _ (by rfl) hx) hsh).mono fun e W' ⟨v, he, hp⟩ => ?_
  subst he
  exact ChangeSpec.post_blind hp

theorem pair_at {x y : Int × Int → AV} : ∀ (l : List (Int × Int)) (k : Nat) (a : AV), (l.flatMap fun p => [x p, y p])[k]? = some a →
    ∃ i p, l[i]? = some p ∧ ((k = i * 2 ∧ a = x p) ∨ (k = i * 2 + 1 ∧ a = y p))
  | [], k, a, h => by simp at h
  | p :: l, 0, a, h => by
    simp only [List.flatMap_cons, List.cons_append, List.getElem?_cons_zero, Option.some.injEq] at h
    exact ⟨0, p, rfl, .inl ⟨rfl, h.symm⟩⟩
  | p :: l, 1, a, h => by
    simp only [List.flatMap_cons, List.cons_append, List.getElem?_cons_succ, List.getElem?_cons_zero, Option.some.injEq] at h
    exact ⟨0, p, rfl, .inr ⟨rfl, h.symm⟩⟩
  | p :: l, k + 2, a, h => by
    simp only [List.flatMap_cons, List.cons_append, List.getElem?_cons_succ, List.nil_append] at h
    obtain ⟨i, q, hq, hh⟩ := pair_at l k a h
    refine ⟨i + 1, q, by simpa using hq, ?_⟩
    rcases hh with ⟨h1, h2⟩ | ⟨h1, h2⟩
    · exact .inl ⟨by omega, h2⟩
    · exact .inr ⟨by omega, h2⟩

theorem plain_add (b off n : Nat) : (⟨b, off, none⟩ : Addr).add n = ⟨b, off + n, none⟩ := by
  unfold Addr.add; split <;> simp_all

/-- A slice of pairs of int8, read. -/
theorem open_pairs {P : Program} {W : World} {base0 : Nat} {t e u : TypeId} {v : Value} {d : DataW H} {p : List MemPlace}
    (ht : P.underlying t = some (.slice e)) (he : P.underlying e = some (.array 2 u)) (hu : P.underlying u = some (.int .i8)) (hc : P.cellsOf e = 2) (hcu : P.cellsOf u = 1)
    (hok : Value.okWide P W .any base0 t v) (h : DataW.Trod enc P W 0 (fun _ => true) true t v d p) :
    ∃ l : List (Int × Int), (∀ q ∈ l, (-128 ≤ q.1 ∧ q.1 ≤ 127) ∧ (-128 ≤ q.2 ∧ q.2 ≤ 127)) ∧ RF W (· < W.heap.size) (.sl 2 (l.map fun q => .agg [.int .i8 q.1, .int .i8 q.2])) v := by
  obtain ⟨fuel, hf⟩ := h
  obtain ⟨a, len, cap, rfl⟩ := okWide_slice ht hok
  rcases DataW.trod_slice ht hf with ⟨h1, _⟩ | ⟨a, len', cap', elems, rest, n, _, h1, _, _, hl, hm, hlen, hel, _, _⟩
  · simp only [Value.cells, List.cons.injEq, Value.slice.injEq, and_true] at h1
    obtain ⟨rfl, rfl, rfl⟩ := h1
    exact ⟨[], by simp, .slnil 2⟩
  simp only [Value.cells, List.cons.injEq, Value.slice.injEq, and_true] at h1
  obtain ⟨rfl, rfl, rfl⟩ := h1
  have hh : W.has P .any base0 a e cap := by
    unfold Value.okWide at hok
    simp only [ht] at hok
    unfold Cell.okWide at hok
    simp only [ht] at hok
    unfold Cell.ok at hok
    simp only [ht] at hok
    exact hok.2.2
  obtain ⟨_, hspot, row, cells, hshape, _⟩ := hh
  obtain ⟨b, off, spot⟩ := a
  obtain rfl : spot = none := hspot
  have hb : b < W.heap.size := by
    rcases Nat.lt_or_ge b W.heap.size with h' | h'
    · exact h'
    · simp [World.shape?, Array.getElem?_eq_none h'] at hshape
  have each : ∀ i, i < len → ∃ q : Int × Int, ((-128 ≤ q.1 ∧ q.1 ≤ 127) ∧ (-128 ≤ q.2 ∧ q.2 ≤ 127)) ∧ W.cell? ⟨b, off + i * 2, none⟩ = some (.int .i8 q.1) ∧ W.cell? ⟨b, off + (i * 2 + 1), none⟩ = some (.int .i8 q.2) := by
    intro i hi
    have h2 := hel i hi
    rw [List.getElem?_eq_getElem (by omega), hc, plain_add, Option.bind_eq_some_iff] at h2
    obtain ⟨cs, hcs, hy⟩ := h2
    obtain ⟨_, hcl, hcell⟩ := World.cells?_some hcs
    obtain ⟨xs, m, _, _, _, hxl, hx⟩ := DataW.trod_array he hy
    have c0 := hx 0 (by omega)
    have c1 := hx 1 (by omega)
    rw [List.getElem?_eq_getElem (by omega), hcu] at c0 c1
    obtain ⟨n0, e0, _, w0⟩ := DataW.trod_int hu c0
    obtain ⟨n1, e1, _, w1⟩ := DataW.trod_int hu c1
    match cs, hcl with
    | [v0, v1], _ =>
      simp only [Nat.zero_mul, Nat.one_mul, List.drop_zero, List.drop_succ_cons, List.take_succ_cons, List.take_zero, List.cons.injEq, and_true] at e0 e1
      have z0 := hcell 0 (by omega)
      have z1 := hcell 1 (by omega)
      rw [plain_add] at z0 z1
      refine ⟨(n0, n1), ⟨bounds_i8 w0, bounds_i8 w1⟩, ?_, ?_⟩
      · rw [show off + i * 2 + 0 = off + i * 2 by omega] at z0
        rw [z0]; simp [e0]
      · rw [show off + i * 2 + 1 = off + (i * 2 + 1) by omega] at z1
        rw [z1]; simp [e1]
  have pick : ∀ i, ∃ q : Int × Int, i < len → ((-128 ≤ q.1 ∧ q.1 ≤ 127) ∧ (-128 ≤ q.2 ∧ q.2 ≤ 127)) ∧ W.cell? ⟨b, off + i * 2, none⟩ = some (.int .i8 q.1) ∧ W.cell? ⟨b, off + (i * 2 + 1), none⟩ = some (.int .i8 q.2) := by
    intro i
    by_cases hi : i < len
    · obtain ⟨q, hq⟩ := each i hi
      exact ⟨q, fun _ => hq⟩
    · exact ⟨(0, 0), fun h => absurd h hi⟩
  refine ⟨(List.range len).map fun i => Classical.choose (pick i), ?_, ?_⟩
  · intro q hq
    obtain ⟨i, hi, rfl⟩ := List.mem_map.1 hq
    exact (Classical.choose_spec (pick i) (List.mem_range.1 hi)).1
  have main : ∀ k x, ((((List.range len).map fun i => Classical.choose (pick i)).map fun q => AV.agg [.int .i8 q.1, .int .i8 q.2]).flatMap AV.cells)[k]? = some x →
      ∃ n, x = .int .i8 n ∧ W.cell? ⟨b, off + k, none⟩ = some (.int .i8 n) := by
    intro k x hx
    rw [List.flatMap_map] at hx
    obtain ⟨i, q, hq, hh⟩ := pair_at (x := fun q => AV.int .i8 q.1) (y := fun q => AV.int .i8 q.2) _ _ _ hx
    simp only [List.getElem?_map, Option.map_eq_some_iff] at hq
    obtain ⟨j, hj, rfl⟩ := hq
    have hi : i < len := by
      rcases Nat.lt_or_ge i len with h' | h'
      · exact h'
      · rw [List.getElem?_eq_none (by simpa using h')] at hj; cases hj
    have hji : j = i := by
      rw [List.getElem?_range hi] at hj
      exact (Option.some.inj hj).symm
    subst hji
    have sp := Classical.choose_spec (pick j) hi
    rcases hh with ⟨rfl, rfl⟩ | ⟨rfl, rfl⟩
    · exact ⟨_, rfl, sp.2.1⟩
    · exact ⟨_, rfl, sp.2.2⟩
  have hlen' : (((List.range len).map fun i => Classical.choose (pick i)).map fun q => AV.agg [.int .i8 q.1, .int .i8 q.2]).length = len := by simp
  have hR := RF.sl (w := W) (fz := (· < W.heap.size)) 2 (((List.range len).map fun i => Classical.choose (pick i)).map fun q => AV.agg [.int .i8 q.1, .int .i8 q.2]) b off cap (fun k => (W.cell? ⟨b, off + k, none⟩).getD undef) hb (by rw [hlen']; exact hl)
    (by intro x hx; obtain ⟨q, _, rfl⟩ := List.mem_map.1 hx; rfl)
    (by intro k x hx; obtain ⟨n, rfl, e⟩ := main k x hx; simp only [e, Option.getD_some])
    (by intro k x hx; obtain ⟨n, rfl, e⟩ := main k x hx; simp only [e, Option.getD_some]; exact .int _ _)
  rw [hlen'] at hR
  exact hR

/-- A variable of one integer. -/
theorem glob_int {W : World} {g : Nat} {k : IntKind} {n : Int} (h : W.cell? ⟨g, 0, none⟩ = some (.int k n)) (hs : ∃ cs ty fr, W.heap[g]? = some (.cells cs ty fr) ∧ cs.size = 1) :
    RF W (· < W.heap.size) (.fp [.int k n]) (.pointer (some ⟨g, 0, none⟩)) ∧ g < W.heap.size ∧ ∃ arr ty fr, W.heap[g]? = some (.cells arr ty fr) ∧ arr.size = [AV.int k n].length := by
  obtain ⟨cs, ty, fr, hh, hz⟩ := hs
  have hg : g < W.heap.size := by
    rcases Nat.lt_or_ge g W.heap.size with h' | h'
    · exact h'
    · rw [Array.getElem?_eq_none h'] at hh; cases hh
  refine ⟨.fp _ g 0 (fun _ => .int k n) hg ?_ ?_, hg, cs, ty, fr, hh, hz⟩
  · intro j a hj
    match j, hj with
    | 0, hj => exact h
  · intro j a hj
    match j, hj with
    | 0, hj => simp at hj; subst hj; exact .int _ _

/-- A laid table of integers. -/
theorem glob_tab {P : Program} {W : World} {name : String} {g : Nat} {k : IntKind} {zs : List Int} (h : Lib.TabIs P W name k zs) (hg : P.globalNamed name = some g) :
    RF W (· < W.heap.size) (.fp (zs.map (AV.int k))) (.pointer (some ⟨g, 0, none⟩)) ∧ g < W.heap.size ∧ ∃ arr ty fr, W.heap[g]? = some (.cells arr ty fr) ∧ arr.size = (zs.map (AV.int k)).length := by
  have h0 := h
  unfold Lib.TabIs World.var? at h
  simp only [hg, Option.bind_some] at h
  obtain ⟨arr, ty, fr, hh, he⟩ : ∃ arr ty fr, W.heap[g]? = some (.cells arr ty fr) ∧ arr = (zs.map fun z => Value.int k z).toArray := by
    split at h
    · rename_i cs a b e; exact ⟨_, _, _, e, Option.some.inj h⟩
    · cases h
  have hlt : g < W.heap.size := by
    rcases Nat.lt_or_ge g W.heap.size with h' | h'
    · exact h'
    · rw [Array.getElem?_eq_none h'] at hh; cases hh
  refine ⟨.fp _ g 0 (fun j => .int k (zs.getD j 0)) hlt ?_ ?_, hlt, arr, ty, fr, hh, by simp [he]⟩
  · intro j a hj
    have hj' : j < zs.length := by
      rcases Nat.lt_or_ge j zs.length with h' | h'
      · exact h'
      · rw [List.getElem?_eq_none (by simpa using h')] at hj; cases hj
    rw [Nat.zero_add]
    exact Lib.TabIs.cell h0 hg j hj'
  · intro j a hj
    simp only [List.getElem?_map, Option.map_eq_some_iff] at hj
    obtain ⟨z, hz, rfl⟩ := hj
    have : zs.getD j 0 = z := by simp [List.getD, hz]
    rw [this]
    exact .int _ _

/-- The third variable of a list, a table. -/
theorem tabIs_third {P : Program} {W : World} {name : String} {k : IntKind} {zs : List Int} {x1 x2 : String × DataW Unit} {rest : List (String × DataW Unit)} {g : Nat} {t e : TypeId} {n : Nat}
    (hg : P.globalNamed name = some g) (hty : (P.globals[g]?).map (·.type) = some t) (ht : P.underlying t = some (.array n e)) (he : P.underlying e = some (.int k)) (hce : P.cellsOf e = 1) (hct : P.cellsOf t = n)
    (h : laidMet P (x1 :: x2 :: (name, Lib.tabData k zs) :: rest) W) : Lib.TabIs P W name k zs := by
  obtain ⟨ps, ⟨_, _, _, _, _, _, _, _, _, _, ⟨_, _, _, _, _, _, _, _, _, _, ⟨g', t', cs, fuel, p, q, hg', ht', hvar, hd, _, _⟩, _⟩, _⟩, _⟩ := h
  obtain rfl := Option.some.inj (hg.symm.trans hg')
  obtain rfl := Option.some.inj (hty.symm.trans ht')
  unfold Lib.TabIs
  rw [hvar, ← Lib.cells_of_tab ht he hce hct hd]

end
end Go.Proofs.YtkjnjdcbnelceaaGreatDoor.KA
end

section
/- The rows' frame at this seat: the world that fits, and what a row's condition gives a walk. -/
open Go Go.Proofs
open Go.ChangeShapes Go.WideShapes Go.ChangeAt Go.RowKit
set_option linter.unusedSimpArgs false
namespace Go.Proofs.YtkjnjdcbnelceaaGreatDoor.KA
theorem own : ownKnob Tryz.prog.godebug = none := by kernel_rfl
theorem laidOut : laidOutB Tryz.prog = true := by kernel_rfl
/-- What the rows list. -/
def laidL : List (String × DataW Unit) := [("math/bits.deBruijn32tab", Rows.laid_math_bits_deBruijn32tab), ("math/bits.deBruijn64tab", Rows.laid_math_bits_deBruijn64tab), ("internal/strconv.uint64pow10", Rows.laid_internal_strconv_uint64pow10), ("strconv.ErrRange", Rows.laid_strconv_ErrRange), ("strconv.ErrSyntax", Rows.laid_strconv_ErrSyntax)]
theorem laidL_plain : (laidL.filter fun x => x.2.handleName?.isSome) = [] := by kernel_rfl
theorem laid_of {W : World} (h : laidMetH Tryz.prog laidL W) : laidMet Tryz.prog laidL W := by
  unfold laidMetH at h
  rw [laidL_plain] at h
  exact h
theorem laid_to {W : World} (h : laidMet Tryz.prog laidL W) : laidMetH Tryz.prog laidL W := by
  unfold laidMetH
  rw [laidL_plain]
  exact h
theorem laid_world (os : Os) (args : Array Value) : laidMetH Tryz.prog laidL ((World.laidAll Tryz.prog os laidL).forCall (fun _ _ => 0) ⟨#[], args, []⟩).memory :=
  laid_to (laidMet_laidAll _ (by kernel_rfl) (by kernel_rfl))
theorem laid_shaped (os : Os) (args : Array Value) : ((World.laidAll Tryz.prog os laidL).forCall (fun _ _ => 0) ⟨#[], args, []⟩).Shaped Tryz.checked.prog :=
  World.shaped_of_ZipB (by kernel_rfl) (by kernel_rfl)
theorem p10_type : (Tryz.prog.globals[3]?).map (·.type) = some 272 := by kernel_rfl
theorem p10_cells : Tryz.prog.cellsOf 272 = 20 := by kernel_rfl
theorem u64_cells : Tryz.prog.cellsOf 178 = 1 := by kernel_rfl
theorem pair_cells : Tryz.prog.cellsOf 81 = 2 := by kernel_rfl
theorem i8_cells : Tryz.prog.cellsOf 80 = 1 := by kernel_rfl
theorem p10_laid {W : World} (h : laidMetH Tryz.prog laidL W) : Lib.TabIs Tryz.prog W "internal/strconv.uint64pow10" .u64 Lib.pow10Tab :=
  tabIs_third p10_at p10_type Tryz.underlying272 Tryz.underlying178 u64_cells p10_cells (laid_of h)
theorem max_shape : ((begin Tryz.prog (fun _ _ => 0) default).world.heap[0]?).bind Obj.row? = some (#[.int .i64 0], 3) := by kernel_rfl
theorem max_cell {W : World} (h : W.ShapedOpen Tryz.prog) : ∃ m, W.cell? ⟨0, 0, none⟩ = some (.int .i64 m) :=
  cell_of_shapedOpen_int h (of_decide_eq_true (by kernel_rfl)) max_shape rfl (by kernel_rfl) (by kernel_rfl) Tryz.underlying3
/-- The variables, at a row's first world. -/
theorem glob_of {W : World} (hL : laidMetH Tryz.prog laidL W) (hS : W.ShapedOpen Tryz.prog) : ∃ m, Glob (cx m).gt W (· < W.heap.size) := by
  obtain ⟨m, hm⟩ := max_cell hS
  obtain ⟨cs, hh, hz, _⟩ := hS.1 0 _ _ (of_decide_eq_true (by kernel_rfl)) max_shape
  refine ⟨m, fun p hp => ?_⟩
  rcases List.mem_cons.1 hp with rfl | hp
  · exact glob_int hm ⟨cs, _, _, hh, by simpa using hz⟩
  · obtain rfl := List.mem_singleton.1 hp
    exact glob_tab (p10_laid hL) p10_at
/-- A contract of a function of two arguments, at such a world. -/
theorem calls_of {W : World} (hL : laidMetH Tryz.prog laidL W) (hS : W.ShapedOpen Tryz.prog) {f : FuncId} {ls : List AV} {vs : Array Value} {b : Bool} (hc : ∀ m, SpecP (cx m) f ls (.bool b)) (hv : RFs W (· < W.heap.size) ls vs) :
    Calls Tryz.prog f vs W fun e W' => e = .returned (.bool b) ∧ Below W.heap.size W W' := by
  obtain ⟨m, hg⟩ := glob_of hL hS
  refine ((hc m).2 W (· < W.heap.size) vs (fun _ h => h) hg hv).mono fun e W' ⟨v, fz', he, hr, _, hp⟩ => ?_
  cases hr
  exact ⟨he, hp.below⟩
end Go.Proofs.YtkjnjdcbnelceaaGreatDoor.KA
end

section
/- The row of PolylineCrosses. -/
open Go Go.Proofs
open Go.ChangeShapes Go.WideShapes Go.ChangeAt Go.RowKit
set_option linter.unusedSimpArgs false
namespace Go.Proofs.YtkjnjdcbnelceaaGreatDoor.KA
theorem RFs_two {w : World} {fz : Nat → Prop} {a b : AV} {u v : Value} (h : RF w fz a u) (k : RF w fz b v) : RFs w fz [a, b] #[u, v] :=
  ⟨rfl, fun i x hx => by
    match i, hx with
    | 0, hx => simp at hx; subst hx; exact h
    | 1, hx => simp at hx; subst hx; exact k⟩
theorem read22 : Tryz.prog.readableRec 22 = true := by kernel_rfl
theorem row22 : 22 < Tryz.prog.types.size := of_decide_eq_true (by kernel_rfl)
set_option maxRecDepth 100000 in
theorem crosses_lifted (os : Os) (started : os.Started) (H : Type) (enc : TypeId × Value → H) :
    ReturnsInHanded {} Tryz.checked os 3 .any (fun w args => (Rows.polylineCrossesSpec.pre enc Tryz.prog Tryz.f3 [] false w args ∧ laidMetH Tryz.prog laidL w) ∧ sizedMet enc Tryz.prog Tryz.f3 (OpenSpec.ofChange Rows.polylineCrossesSpec) false w args)
      (Rows.polylineCrossesSpec.post enc Tryz.prog Tryz.f3 false true false false) := by
  refine handed_both (C := Tryz.checked) (X := fun w _ => laidMetH Tryz.prog laidL w) (fun _ _ _ hh h => h.of_heap hh) own started (by kernel_rfl) Tryz.func3
    (ChangeSpec.witness_shaped (enc := enc) (C := Tryz.checked) (os := os) (X := fun w _ => laidMetH Tryz.prog laidL w) false (World.laidAll Tryz.prog os laidL) #[.slice none 0 0, .slice none 0 0] 8 (World.laidAll_os _ _ _)
      (laid_shaped os _) (by kernel_rfl) (by kernel_rfl) (by kernel_rfl) (laid_world os _)) ?_
  intro W base args ds gs before hval0 hW _ _ hL hS
  have hval : ∀ (j : Nat) t v, Tryz.f3.params[j]? = some t → args[j]? = some v → Value.okWide Tryz.prog W .any base t v := hval0
  have hW' := hW
  obtain ⟨p, q, hA0, hV, rfl, _, _⟩ := hW
  have hA : DataW.TrodAll enc Tryz.prog W 0 (fun _ => true) true Tryz.f3.params.toList args.toList ds p := hA0
  rw [Tryz.params3] at hA hval
  obtain ⟨v0, v1, d0, d1, p0, p1, rfl, rfl, rfl, h0, h1⟩ := trodAll_two hA
  obtain ⟨rfl, rfl⟩ := trodVars_none hV
  obtain ⟨l, hl, fl⟩ := open_pairs Tryz.underlying22 Tryz.underlying81 Tryz.underlying80 pair_cells i8_cells (hval 0 22 v0 rfl rfl) h0
  obtain ⟨r, hr, fr⟩ := open_pairs Tryz.underlying22 Tryz.underlying81 Tryz.underlying80 pair_cells i8_cells (hval 1 22 v1 rfl rfl) h1
  have hlt := hW'.lt
  refine (calls_of hL hS (fun m => crosses m l r hl hr) (RFs_two fl fr)).mono fun e W' ⟨he, hb⟩ => ?_
  subst he
  refine ⟨_, rfl, _, _, _, [], p0 ++ p1, [], hW', trodAll_mk1 (shut_bool Tryz.underlying4 _), trodAll_mk2 ?_ ?_, rfl, hb.frame _, fun h => by cases h⟩
  · exact Go.WideElems.Trod_stays laidOut read22 row22 h0 (fun x hx => hb.same (hlt x (by simp [hx]))) (fun x hx => decide_eq_true (hlt x (by simp [hx])))
  · exact Go.WideElems.Trod_stays laidOut read22 row22 h1 (fun x hx => hb.same (hlt x (by simp [hx]))) (fun x hx => decide_eq_true (hlt x (by simp [hx])))
theorem crosses_row : Rows.PolylineCrossesSaid :=
  OpenClaim.holds_of_wide 3 Tryz.f3 rfl rfl rfl rfl rfl rfl rfl ⟨rfl, rfl, rfl, rfl, rfl⟩ rfl rfl rfl rfl rfl (by kernel_rfl) Tryz.func3 (by kernel_rfl)
    (of_decide_eq_true (by kernel_rfl)) (by unfold Func.isWrapper; first | (rw [if_pos (by decide +kernel)]; kernel_rfl) | (rw [if_neg (by decide +kernel)]; exact ⟨rfl, rfl⟩))
    (fun os started H enc _ => crosses_lifted os started H enc)
end Go.Proofs.YtkjnjdcbnelceaaGreatDoor.KA
end
