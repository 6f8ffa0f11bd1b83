/- Parts of the proof, in order: each part's head says what it holds. -/
import Derived.Test.YtkjnjdcbnelceaaGreatDoorR5
import Derived.Shelf.Strings.BuilderK
import Derived.Shelf.Pu.ParseUintPublic10
import Derived.Test.YtkjnjdcbnelceaaGreatDoorR4
import Derived.RangeFuncBox
import Derived.RangeFuncLeaves
import Derived.WalkKit
import Derived.OwnWalkIn
import Derived.TacticsInMore
import Derived.LoopNIn
import Derived.LoopIn
import Derived.Shelf.Strconv.Itoa3
import Derived.Lib.AppendIntMem
import Derived.RangeFuncWrites
import Derived.RangeFuncCalls

section
/- Contracts: where two chains meet, the code's way; the law's points. -/
open Go Go.Proofs
set_option linter.unusedSimpArgs false
set_option linter.unusedVariables false
set_option maxHeartbeats 1000000
set_option maxRecDepth 20000
namespace Go.Proofs.YtkjnjdcbnelceaaGreatDoor.KA
open Num Geo

theorem colR_low {l h p : Pt} (e : (colR l h).2 = some p) : p = l := by
  unfold colR at e
  by_cases c1 : cp l h > 0
  · rw [if_pos c1] at e; cases e
  · rw [if_neg c1] at e
    by_cases c2 : cp l h = 0
    · rw [if_pos c2] at e; exact (Option.some.inj e).symm
    · rw [if_neg c2] at e; cases e
theorem meetP_qk {a b c d : Pt} (pa : P9 a) (pb : P9 b) (pc : P9 c) (pd : P9 d) {p : Pt} (h : (meetP a b c d).2 = some p) : PQ p := by
  unfold meetP at h
  split at h <;> rename_i h1
  · unfold colP at h
    have e := colR_low h
    rw [e]
    split
    · rcases lo_or c d with ⟨e, _⟩ | ⟨e, _⟩
      · rw [e]; exact pc.q
      · rw [e]; exact pd.q
    · rcases lo_or a b with ⟨e, _⟩ | ⟨e, _⟩
      · rw [e]; exact pa.q
      · rw [e]; exact pb.q
  · split at h <;> rename_i h2
    · cases h
    · simp only [Option.some.injEq] at h
      rw [← h]
      have hne : ar a b c - ar a b d ≠ 0 := by
        intro h
        have h' : ar a b c = ar a b d := by grind
        apply h2
        left
        rw [h', sg_mul, sg_gt]
        rw [h'] at h1
        rcases tri (ar a b d) with h | h | h
        · have := Rat.mul_pos (a := -ar a b d) (b := -ar a b d) (by grind) (by grind); grind
        · exact absurd ⟨by rw [h]; simp [sg], by rw [h]; simp [sg]⟩ h1
        · exact Rat.mul_pos h h
      have b1 := bd_ar pa pb pc
      have bk := bd_div b1 (bd_sub b1 (bd_ar pa pb pd)) hne
      exact ⟨qk1 (bd_add pc.1 (bd_mul bk (bd_sub pd.1 pc.1))), qk1 (bd_add pc.2 (bd_mul bk (bd_sub pd.2 pc.2)))⟩
theorem hits_mem {f : Nat → Nat → Nat × Option Pt} {l n : Nat} {x : Hit} (h : x ∈ hits f l n) : x.1 < l ∧ x.2.1 < n ∧ f x.1 x.2.1 = (1, some x.2.2) := by
  unfold hits row at h
  rw [List.mem_flatMap] at h
  obtain ⟨i, hi, h⟩ := h
  rw [List.mem_filterMap] at h
  obtain ⟨k, hk, h⟩ := h
  rw [List.mem_range] at hi hk
  unfold hit at h
  split at h
  · rename_i p e
    simp only [Option.some.injEq] at h
    subst h
    exact ⟨hi, hk, e⟩
  · cases h
theorem hits_qk {a b : List Pt} (ha : all9 a) (hb : all9 b) : ∀ x ∈ hits (mP a b) (a.length - 1) (b.length - 1), PQ x.2.2 := by
  intro x hx
  obtain ⟨h1, h2, h3⟩ := hits_mem hx
  exact meetP_qk (ha.get (by omega)) (ha.get (by omega)) (hb.get (by omega)) (hb.get (by omega)) (congrArg Prod.snd h3)

/-- Crossings' closure, slices.IndexFunc and slices.ContainsFunc at it -/
theorem s48 (m : Int) (x : Hit) (hx : PQ x.2.2) : SpecP (cx m) 48 [eX x] (.bool false) := by
  refine specP_of (mixed m) (k48 m) (Nat.le_of_ble_eq_true rfl) (X_start ?_)
  unfold c48
  have h := s49 m x.2.2 hx.1 hx.2
  unfold eP at h
  refine WF @eX.eq_1 ?_
  refine CL_pure h rfl ?_
  refine WW ?_
  exact shb rfl
theorem s98 (m : Int) (l : List Hit) (hl : ∀ x ∈ l, PQ x.2.2) (hn : l.length < 1000000) : SpecP (cx m) 98 [.sl 4 (l.map eX), .fn 48 []] (.int .i64 (-1)) := by
  refine specP_of (mixed m) (k98 m) (Nat.le_of_ble_eq_true rfl) (X_start ?_)
  unfold c98
  refine WF @List.length_map.{0,0} ?_
  refine X_for (fun i : Nat => ⟨[(0, .sl 4 (l.map eX)), (1, .fn 48 []), (7, .int .i64 l.length), (8, .int .i64 i)], []⟩) (fun i => i ≤ l.length) (fun i => l.length - i) 0 (Nat.zero_le _) ?_ ?_
  · exact weak_keep (by simp [lookup])
  intro i R i1 hR
  try dsimp only at hR ⊢
  rcases Nat.lt_or_ge i l.length with hi | hi
  · have x1 : (l.map eX)[i]? = some (eX l[i]) := by simp [hi]
    have h := s48 m l[i] (hl _ (List.getElem_mem hi))
    unfold eX at h
    refine WF (And.intro hi (And.intro x1 @eX.eq_1)) ?_
    refine CL_pure h rfl ?_
    refine WW ?_
    exact hR (i + 1) _ (by omega) (by omega) (weak_keep (by simp [lookup]))
  · have hi' : ¬ i < l.length := by omega
    refine WF hi' ?_
    exact shi rfl
theorem s47 (m : Int) (l : List Hit) (hl : ∀ x ∈ l, PQ x.2.2) (hn : l.length < 1000000) : SpecP (cx m) 47 [.sl 4 (l.map eX), .fn 48 []] (.bool false) := by
  refine specP_of (mixed m) (k47 m) (Nat.le_of_ble_eq_true rfl) (X_start ?_)
  unfold c47
  refine WW ?_
  refine CL_pure (s98 m l hl hn) (by
    have := plainL_all (l := l.map eX) (fun x hx => by obtain ⟨z, _, rfl⟩ := List.mem_map.1 hx; rfl)
    rfl) ?_
  refine WW ?_
  exact shb rfl
end Go.Proofs.YtkjnjdcbnelceaaGreatDoor.KA
end

section
/- Contracts: polyline.Crossings. -/
open Go Go.Proofs
set_option linter.unusedSimpArgs false
set_option linter.unusedVariables false
set_option maxHeartbeats 1000000
set_option maxRecDepth 20000
namespace Go.Proofs.YtkjnjdcbnelceaaGreatDoor.KA
open Num Geo

def overP (a b : List Pt) : Prop := ∃ i k, i + 1 < a.length ∧ k + 1 < b.length ∧ (mP a b i k).1 = 2
theorem ePs_plain (c : List Pt) : (ePs c).plain = true := rfl
open Classical in
/-- polyline.Crossings, of chains -/
theorem s14 (m : Int) (a b : List Pt) (ha : all9 a) (hb : all9 b) (la : a.length ≤ 8) (lb : b.length ≤ 8) (la2 : 2 ≤ a.length) (lb2 : 2 ≤ b.length) (ca : checkP a = 0) (cb : checkP b = 0) :
    SpecP (cx m) 14 [ePs a, ePs b] (if overP a b then .tuple [.sl 4 [], .int .i64 7] else .tuple [.sl 4 ((hits (mP a b) (a.length - 1) (b.length - 1)).map eX), .int .i64 0]) := by
  refine specP_of (mixed m) (k14 m) (Nat.le_of_ble_eq_true rfl) (X_start ?_)
  unfold c14
  have sa := s42 m a ha la2 (by omega)
  have sb := s42 m b hb lb2 (by omega)
  rw [ca] at sa
  rw [cb] at sb
  refine WF @ePs.eq_1 ?_
  refine X_for (fun i : Nat => ⟨[(0, ePs a), (1, ePs b), (16, .agg [ePs a, ePs b]), (17, .int .i64 i)], []⟩) (fun i => i ≤ 2) (fun i => 2 - i) 0 (Nat.zero_le _) ?_ ?_
  · exact weak_keep (by simp [lookup, ePs])
  intro i R i1 hR
  try dsimp only at hR ⊢
  rcases i with _ | _ | i
  · simp -implicitDefEqProofs (disch := omega) only [KF, KR, KV0, KV1, KV2, KW, ↓bstep, ↓astep, ↓O1.eq_def, ↓onBool.eq_def, ↓onInt.eq_def, ↓onStr.eq_def, ↓onLo.eq_def, ↓binK.eq_def, ↓arith.eq_def, ↓strOp.eq_def, ↓srcElems.eq_def, ↓dst1.eq_def, args0, List.zipIdx, List.map, lookup, St.ev, St.set, St.setO, reduceCtorEq, AV.plain, AV.plainL, AV.flat, AV.flatL, AV.cells, Nat.reduceEqDiff, ↓reduceIte, List.drop, List.take, List.length, Nat.reduceAdd, Nat.reduceLeDiff, Nat.reduceMul, E.done, rvsK, rvK, resAV, Int.reduceToNat, Int.reduceLE, Int.reduceLT, Int.reduceNeg, Int.reduceAdd, Int.reduceSub, Int.reduceMul, Nat.reduceLT, AV.isElem, AV.one, ↓buildCells.eq_1, ↓buildCells.eq_2, Nat.reduceBEq, eqCells, show (((0 : Nat) : Int)) = 0 from rfl, Nat.zero_mul]
    refine ⟨by omega, CL_pure sa rfl ?_⟩
    refine WW ?_
    exact hR 1 _ (by omega) (by omega) (weak_keep (by simp [lookup]))
  · simp -implicitDefEqProofs (disch := omega) only [KF, KR, KV0, KV1, KV2, KW, ↓bstep, ↓astep, ↓O1.eq_def, ↓onBool.eq_def, ↓onInt.eq_def, ↓onStr.eq_def, ↓onLo.eq_def, ↓binK.eq_def, ↓arith.eq_def, ↓strOp.eq_def, ↓srcElems.eq_def, ↓dst1.eq_def, args0, List.zipIdx, List.map, lookup, St.ev, St.set, St.setO, reduceCtorEq, AV.plain, AV.plainL, AV.flat, AV.flatL, AV.cells, Nat.reduceEqDiff, ↓reduceIte, List.drop, List.take, List.length, Nat.reduceAdd, Nat.reduceLeDiff, Nat.reduceMul, E.done, rvsK, rvK, resAV, Int.reduceToNat, Int.reduceLE, Int.reduceLT, Int.reduceNeg, Int.reduceAdd, Int.reduceSub, Int.reduceMul, Nat.reduceLT, AV.isElem, AV.one, ↓buildCells.eq_1, ↓buildCells.eq_2, Nat.reduceBEq, eqCells, show (((0 + 1 : Nat) : Int)) = 1 from rfl, Nat.one_mul]
    refine ⟨by omega, CL_pure sb rfl ?_⟩
    refine WW ?_
    exact hR 2 _ (by omega) (by omega) (weak_keep (by simp [lookup]))
  have hi2 : ¬ ((i + 1 + 1 : Nat) : Int) < 2 := by omega
  have q1 : ((a.length : Int) - 1) = ((a.length - 1 : Nat) : Int) := by omega
  have q2 : ((b.length : Int) - 1) = ((b.length - 1 : Nat) : Int) := by omega
  refine WF (And.intro hi2 (And.intro @ePs.eq_1 (And.intro @List.length_map.{0,0} q1))) ?_
  clear hR i1 hi2
  refine X_for (fun i : Nat => ⟨[(0, ePs a), (1, ePs b), (9, outAV (hits (mP a b) i (b.length - 1))), (28, .int .i64 (a.length - 1 : Nat)), (29, .int .i64 i)], outBlk (hits (mP a b) i (b.length - 1))⟩)
    (fun i => i ≤ a.length - 1 ∧ ∀ i' k, i' < i → k + 1 < b.length → ¬ (mP a b i' k).1 = 2) (fun i => a.length - i) 0 ⟨Nat.zero_le _, fun i' k h => absurd h (Nat.not_lt_zero _)⟩ ?_ ?_
  · simp only [hits_zero, outAV, outBlk]
    exact weak_keep (by simp [lookup, ePs])
  intro i R ⟨i1, i2⟩ hR
  try dsimp only at hR ⊢
  have e1 : ((i : Int) + 1) = ((i + 1 : Nat) : Int) := by omega
  rcases Nat.lt_or_ge i (a.length - 1) with hi | hi
  · have bl := hits_len (mP a b) (b.length - 1) i
    have bm : i * (b.length - 1) ≤ 8 * 8 := Nat.mul_le_mul (by omega) (by omega)
    refine WF (And.intro @ePs.eq_1 (And.intro @List.length_map.{0,0} (And.intro hi q2))) ?_
    refine X_for (fun k : Nat => ⟨[(0, ePs a), (1, ePs b), (9, outAV (hits (mP a b) i (b.length - 1) ++ row (mP a b) k i)), (10, .int .i64 i), (28, .int .i64 (a.length - 1 : Nat)), (29, .int .i64 i), (34, .int .i64 (b.length - 1 : Nat)), (35, .int .i64 k)], outBlk (hits (mP a b) i (b.length - 1) ++ row (mP a b) k i)⟩)
      (fun k => k ≤ b.length - 1 ∧ ∀ k', k' < k → ¬ (mP a b i k').1 = 2) (fun k => b.length - k) 0 ⟨Nat.zero_le _, fun k h => absurd h (Nat.not_lt_zero _)⟩ ?_ ?_
    · simp only [row_zero, List.append_nil]
      exact weak_keep (by simp [lookup, ePs])
    intro k R' ⟨k1, k2⟩ hR'
    try dsimp only at hR' ⊢
    have e2 : ((k : Int) + 1) = ((k + 1 : Nat) : Int) := by omega
    rcases Nat.lt_or_ge k (b.length - 1) with hk | hk
    · have x1 := get_pt (show i < a.length by omega)
      have x2 := get_pt (show i + 1 < a.length by omega)
      have x3 := get_pt (show k < b.length by omega)
      have x4 := get_pt (show k + 1 < b.length by omega)
      have hm := s46 m _ _ _ _ (ha.get (show i < a.length by omega)) (ha.get (show i + 1 < a.length by omega)) (hb.get (show k < b.length by omega)) (hb.get (show k + 1 < b.length by omega))
      have hw := meetP_how (at' a i) (at' a (i + 1)) (at' b k) (at' b (k + 1))
      have hsm := meetP_some (at' a i) (at' a (i + 1)) (at' b k) (at' b (k + 1))
      have rl := row_len (mP a b) i k
      generalize hr : meetP (at' a i) (at' a (i + 1)) (at' b k) (at' b (k + 1)) = r at *
      have hr' : mP a b i k = r := hr
      obtain ⟨h, o⟩ := r
      unfold eR eP at hm
      dsimp only at hm hw hsm
      generalize hl : hits (mP a b) i (b.length - 1) ++ row (mP a b) k i = L at *
      have hL : L.length ≤ 100 := by rw [← hl, List.length_append]; omega
      have okk : ¬ (mP a b i k).1 = 2 → ∀ k', k' < k + 1 → ¬ (mP a b i k').1 = 2 := fun h k' h2 => by
        by_cases e : k' = k
        · rw [e]; exact h
        · exact k2 k' (by omega)
      rcases L with _ | ⟨y, L⟩
      · rcases hw with rfl | rfl | rfl
        · skip
          obtain ⟨u, v, he⟩ : ∃ u v, eO o = .agg [.str u, .str v] := by cases o <;> exact ⟨_, _, rfl⟩
          rw [he, show ((0 : Nat) : Int) = 0 from rfl] at hm
          simp -implicitDefEqProofs (disch := omega) only [KF, KR, KV0, KV1, KV2, KW, ↓bstep, ↓astep, ↓O1.eq_def, ↓onBool.eq_def, ↓onInt.eq_def, ↓onStr.eq_def, ↓onLo.eq_def, ↓binK.eq_def, ↓arith.eq_def, ↓strOp.eq_def, ↓srcElems.eq_def, ↓dst1.eq_def, args0, List.zipIdx, List.map, lookup, St.ev, St.set, St.setO, reduceCtorEq, AV.plain, AV.plainL, AV.flat, AV.flatL, AV.cells, Nat.reduceEqDiff, ↓reduceIte, List.drop, List.take, List.length, Nat.reduceAdd, Nat.reduceLeDiff, Nat.reduceMul, E.done, rvsK, rvK, resAV, Int.reduceToNat, Int.reduceLE, Int.reduceLT, Int.reduceNeg, Int.reduceAdd, Int.reduceSub, Int.reduceMul, Nat.reduceLT, AV.isElem, AV.one, ↓buildCells.eq_1, ↓buildCells.eq_2, Nat.reduceBEq, eqCells, ePs, List.length_map, e1, e2, hk, x1, x2, x3, x4, outAV, outBlk]
          refine CL_pure hm rfl ?_
          refine WW ?_
          have hL' : hits (mP a b) i (b.length - 1) ++ row (mP a b) (k + 1) i = [] := by rw [row_none hr', hl]
          refine hR' (k + 1) _ ⟨by omega, okk (by rw [hr']; dsimp only; omega)⟩ (by omega) ?_
          rw [hL']
          exact weak_none (by simp [lookup, outAV, AV.plain, ePs])
        · obtain ⟨p, rfl⟩ := hsm rfl
          unfold eO eP at hm
          rw [show ((1 : Nat) : Int) = 1 from rfl] at hm
          simp -implicitDefEqProofs (disch := omega) only [KF, KR, KV0, KV1, KV2, KW, ↓bstep, ↓astep, ↓O1.eq_def, ↓onBool.eq_def, ↓onInt.eq_def, ↓onStr.eq_def, ↓onLo.eq_def, ↓binK.eq_def, ↓arith.eq_def, ↓strOp.eq_def, ↓srcElems.eq_def, ↓dst1.eq_def, args0, List.zipIdx, List.map, lookup, St.ev, St.set, St.setO, reduceCtorEq, AV.plain, AV.plainL, AV.flat, AV.flatL, AV.cells, Nat.reduceEqDiff, ↓reduceIte, List.drop, List.take, List.length, Nat.reduceAdd, Nat.reduceLeDiff, Nat.reduceMul, E.done, rvsK, rvK, resAV, Int.reduceToNat, Int.reduceLE, Int.reduceLT, Int.reduceNeg, Int.reduceAdd, Int.reduceSub, Int.reduceMul, Nat.reduceLT, AV.isElem, AV.one, ↓buildCells.eq_1, ↓buildCells.eq_2, Nat.reduceBEq, eqCells, ePs, List.length_map, e1, e2, hk, x1, x2, x3, x4, outAV, outBlk]
          refine CL_pure hm rfl ?_
          refine WW ?_
          have hL' : hits (mP a b) i (b.length - 1) ++ row (mP a b) (k + 1) i = [(i, k, p)] := by rw [row_one hr', ← List.append_assoc, hl]; rfl
          refine hR' (k + 1) _ ⟨by omega, okk (by rw [hr']; dsimp only; omega)⟩ (by omega) ?_
          rw [hL']
          exact weak_one 1 rfl (cells4_plain [(i, k, p)]) (by simp [lookup, outAV, AV.ren, AV.idsLt, ePs])
        · skip
          obtain ⟨u, v, he⟩ : ∃ u v, eO o = .agg [.str u, .str v] := by cases o <;> exact ⟨_, _, rfl⟩
          rw [he, show ((2 : Nat) : Int) = 2 from rfl] at hm
          simp -implicitDefEqProofs (disch := omega) only [KF, KR, KV0, KV1, KV2, KW, ↓bstep, ↓astep, ↓O1.eq_def, ↓onBool.eq_def, ↓onInt.eq_def, ↓onStr.eq_def, ↓onLo.eq_def, ↓binK.eq_def, ↓arith.eq_def, ↓strOp.eq_def, ↓srcElems.eq_def, ↓dst1.eq_def, args0, List.zipIdx, List.map, lookup, St.ev, St.set, St.setO, reduceCtorEq, AV.plain, AV.plainL, AV.flat, AV.flatL, AV.cells, Nat.reduceEqDiff, ↓reduceIte, List.drop, List.take, List.length, Nat.reduceAdd, Nat.reduceLeDiff, Nat.reduceMul, E.done, rvsK, rvK, resAV, Int.reduceToNat, Int.reduceLE, Int.reduceLT, Int.reduceNeg, Int.reduceAdd, Int.reduceSub, Int.reduceMul, Nat.reduceLT, AV.isElem, AV.one, ↓buildCells.eq_1, ↓buildCells.eq_2, Nat.reduceBEq, eqCells, ePs, List.length_map, e1, e2, hk, x1, x2, x3, x4, outAV, outBlk]
          refine CL_pure hm rfl ?_
          refine WW ?_
          rw [if_pos ⟨i, k, by omega, by omega, by rw [hr']⟩]
          exact .tuple _ _ (.cons _ _ _ _ (.nil 4) (.cons _ _ _ _ (.same _ rfl) .nil))
      · have cl := cells4_length (y :: L)
        rw [List.length_cons] at hL cl
        rcases hw with rfl | rfl | rfl
        · skip
          obtain ⟨u, v, he⟩ : ∃ u v, eO o = .agg [.str u, .str v] := by cases o <;> exact ⟨_, _, rfl⟩
          rw [he, show ((0 : Nat) : Int) = 0 from rfl] at hm
          simp -implicitDefEqProofs (disch := omega) only [KF, KR, KV0, KV1, KV2, KW, ↓bstep, ↓astep, ↓O1.eq_def, ↓onBool.eq_def, ↓onInt.eq_def, ↓onStr.eq_def, ↓onLo.eq_def, ↓binK.eq_def, ↓arith.eq_def, ↓strOp.eq_def, ↓srcElems.eq_def, ↓dst1.eq_def, args0, List.zipIdx, List.map, lookup, St.ev, St.set, St.setO, reduceCtorEq, AV.plain, AV.plainL, AV.flat, AV.flatL, AV.cells, Nat.reduceEqDiff, ↓reduceIte, List.drop, List.take, List.length, Nat.reduceAdd, Nat.reduceLeDiff, Nat.reduceMul, E.done, rvsK, rvK, resAV, Int.reduceToNat, Int.reduceLE, Int.reduceLT, Int.reduceNeg, Int.reduceAdd, Int.reduceSub, Int.reduceMul, Nat.reduceLT, AV.isElem, AV.one, ↓buildCells.eq_1, ↓buildCells.eq_2, Nat.reduceBEq, eqCells, ePs, List.length_map, e1, e2, hk, x1, x2, x3, x4, outAV, outBlk]
          refine CL_pure hm rfl ?_
          refine WW ?_
          have hL' : hits (mP a b) i (b.length - 1) ++ row (mP a b) (k + 1) i = y :: L := by rw [row_none hr', hl]
          refine hR' (k + 1) _ ⟨by omega, okk (by rw [hr']; dsimp only; omega)⟩ (by omega) ?_
          rw [hL']
          exact weak_one 0 rfl (cells4_plain (y :: L)) (by simp [lookup, outAV, AV.ren, AV.idsLt, ePs])
        · obtain ⟨p, rfl⟩ := hsm rfl
          unfold eO eP at hm
          rw [show ((1 : Nat) : Int) = 1 from rfl] at hm
          simp -implicitDefEqProofs (disch := omega) only [KF, KR, KV0, KV1, KV2, KW, ↓bstep, ↓astep, ↓O1.eq_def, ↓onBool.eq_def, ↓onInt.eq_def, ↓onStr.eq_def, ↓onLo.eq_def, ↓binK.eq_def, ↓arith.eq_def, ↓strOp.eq_def, ↓srcElems.eq_def, ↓dst1.eq_def, args0, List.zipIdx, List.map, lookup, St.ev, St.set, St.setO, reduceCtorEq, AV.plain, AV.plainL, AV.flat, AV.flatL, AV.cells, Nat.reduceEqDiff, ↓reduceIte, List.drop, List.take, List.length, Nat.reduceAdd, Nat.reduceLeDiff, Nat.reduceMul, E.done, rvsK, rvK, resAV, Int.reduceToNat, Int.reduceLE, Int.reduceLT, Int.reduceNeg, Int.reduceAdd, Int.reduceSub, Int.reduceMul, Nat.reduceLT, AV.isElem, AV.one, ↓buildCells.eq_1, ↓buildCells.eq_2, Nat.reduceBEq, eqCells, ePs, List.length_map, e1, e2, hk, x1, x2, x3, x4, outAV, outBlk]
          refine CL_pure hm rfl ?_
          refine WW ?_
          have hL' : hits (mP a b) i (b.length - 1) ++ row (mP a b) (k + 1) i = y :: (L ++ [(i, k, p)]) := by rw [row_one hr', ← List.append_assoc, hl]; rfl
          have e : List.take ((L.length + 1) * 4) (cells4 (y :: L)) ++ List.flatMap AV.cells [AV.agg [.int .i64 i, .int .i64 k, .str (tq p.1), .str (tq p.2)]] = cells4 (y :: (L ++ [(i, k, p)])) := by
            rw [← cl, List.take_length, ← List.cons_append, cells4_append]; rfl
          refine ⟨by rw [cl]; omega, by omega, by omega, ?_⟩
          rw [e]
          refine hR' (k + 1) _ ⟨by omega, okk (by rw [hr']; dsimp only; omega)⟩ (by omega) ?_
          rw [hL']
          exact weak_one 2 rfl (cells4_plain _) (by simp [lookup, outAV, AV.ren, AV.idsLt, ePs])
        · skip
          obtain ⟨u, v, he⟩ : ∃ u v, eO o = .agg [.str u, .str v] := by cases o <;> exact ⟨_, _, rfl⟩
          rw [he, show ((2 : Nat) : Int) = 2 from rfl] at hm
          simp -implicitDefEqProofs (disch := omega) only [KF, KR, KV0, KV1, KV2, KW, ↓bstep, ↓astep, ↓O1.eq_def, ↓onBool.eq_def, ↓onInt.eq_def, ↓onStr.eq_def, ↓onLo.eq_def, ↓binK.eq_def, ↓arith.eq_def, ↓strOp.eq_def, ↓srcElems.eq_def, ↓dst1.eq_def, args0, List.zipIdx, List.map, lookup, St.ev, St.set, St.setO, reduceCtorEq, AV.plain, AV.plainL, AV.flat, AV.flatL, AV.cells, Nat.reduceEqDiff, ↓reduceIte, List.drop, List.take, List.length, Nat.reduceAdd, Nat.reduceLeDiff, Nat.reduceMul, E.done, rvsK, rvK, resAV, Int.reduceToNat, Int.reduceLE, Int.reduceLT, Int.reduceNeg, Int.reduceAdd, Int.reduceSub, Int.reduceMul, Nat.reduceLT, AV.isElem, AV.one, ↓buildCells.eq_1, ↓buildCells.eq_2, Nat.reduceBEq, eqCells, ePs, List.length_map, e1, e2, hk, x1, x2, x3, x4, outAV, outBlk]
          refine CL_pure hm rfl ?_
          refine WW ?_
          rw [if_pos ⟨i, k, by omega, by omega, by rw [hr']⟩]
          exact .tuple _ _ (.cons _ _ _ _ (.nil 4) (.cons _ _ _ _ (.same _ rfl) .nil))
    · have ek : k = b.length - 1 := by omega
      have hk' : ¬ k < b.length - 1 := by omega
      refine WF hk' ?_
      refine hR (i + 1) _ ⟨by omega, fun i' k' h1 h2 => ?_⟩ (by omega) ?_
      · by_cases e : i' = i
        · rw [e]; exact k2 k' (by omega)
        · exact i2 i' k' (by omega) h2
      · rw [hits_succ, ← ek]
        exact weak_keep (by simp [lookup, ePs, ek])
  · have ei : i = a.length - 1 := by omega
    have hi' : ¬ i < a.length - 1 := by omega
    refine WF hi' ?_
    have no : ¬ overP a b := by
      rintro ⟨i', k', h1, h2, h3⟩
      exact i2 i' k' (by omega) h2 h3
    have hq := hits_qk ha hb
    rw [if_neg no]
    subst ei
    have bl := hits_len (mP a b) (b.length - 1) (a.length - 1)
    have bm : (a.length - 1) * (b.length - 1) ≤ 8 * 8 := Nat.mul_le_mul (by omega) (by omega)
    refine CL_show (s47 m _ hq (by omega)) (.cons _ _ _ _ (out_shows _) (.cons _ _ _ _ (.same _ rfl) .nil)) rfl ?_
    refine WW ?_
    exact .tuple _ _ (.cons _ _ _ _ (out_shows _) (.cons _ _ _ _ (.same _ rfl) .nil))
end Go.Proofs.YtkjnjdcbnelceaaGreatDoor.KA
end

section
/- Contract: the law's points. -/
open Go Go.Proofs
set_option linter.unusedSimpArgs false
set_option linter.unusedVariables false
set_option maxHeartbeats 1000000
set_option maxRecDepth 20000
namespace Go.Proofs.YtkjnjdcbnelceaaGreatDoor.KA
open Num Geo

def eI8 (l : List (Int × Int)) : AV := .sl 2 (l.map fun p => .agg [.int .i8 p.1, .int .i8 p.2])
def in8 (l : List (Int × Int)) : Prop := ∀ p ∈ l, (-128 ≤ p.1 ∧ p.1 ≤ 127) ∧ (-128 ≤ p.2 ∧ p.2 ≤ 127)
def ptOf (p : Int × Int) : Pt := (((p.1.tmod 10 : Int) : Rat), ((p.2.tmod 10 : Int) : Rat))
def pts (l : List (Int × Int)) : List Pt := l.map ptOf
theorem tmod10 (n : Int) : (n.tmod 10).natAbs ≤ 9 := by
  rw [Int.natAbs_tmod]
  have := Nat.mod_lt n.natAbs (show 0 < (10 : Int).natAbs by decide)
  have h : (10 : Int).natAbs = 10 := rfl
  omega
theorem pts9 (l : List (Int × Int)) : all9 (pts l) := by
  intro p hp
  obtain ⟨q, _, rfl⟩ := List.mem_map.1 hp
  exact ⟨⟨by simpa [ptOf] using tmod10 q.1, by simp [ptOf]⟩, ⟨by simpa [ptOf] using tmod10 q.2, by simp [ptOf]⟩⟩
def ptAV : List Pt → AV
  | [] => .nils
  | l => .own 2 0 0 l.length l.length
def ptBlk : List Pt → AHeap
  | [] => []
  | l => [some (cells l)]
theorem pt_map (l : List Pt) : (l.map fun p : Pt => AV.agg [.str (tq p.1), .str (tq p.2)]).flatMap AV.cells = cells l := by
  unfold cells; rw [List.flatMap_map]; rfl
theorem pt_shows (l : List Pt) : Shows (ptBlk l) (ptAV l) (ePs l) := by
  cases l with
  | nil => exact .nil 2
  | cons x l =>
    refine .own 2 0 0 _ _ (cells (x :: l)) _ rfl (by rw [cells_length]; omega) (by simp) (fun y hy => ?_) ?_
    · obtain ⟨z, _, rfl⟩ := List.mem_map.1 hy; rfl
    · rw [pt_map, List.drop_zero, ← cells_length, List.take_length]
      exact showsL_refl (cells_plain _)
/-- klippelaw11.Points -/
theorem s12 (m : Int) (l : List (Int × Int)) (h8 : in8 l) (hl : l.length ≤ 8) : SpecP (cx m) 12 [eI8 l, .bool false] (ePs (pts l)) := by
  refine specP_of (mixed m) (k12 m) (Nat.le_of_ble_eq_true rfl) (X_start ?_)
  unfold c12
  refine WW ?_
  refine X_for (fun i : Nat => ⟨[(0, eI8 l), (5, ptAV (pts (l.take i))), (6, .int .i64 1), (7, .int .i64 i)], ptBlk (pts (l.take i))⟩) (fun i => i ≤ l.length) (fun i => l.length - i) 0 (Nat.zero_le _) ?_ ?_
  · exact weak_keep (by simp [lookup, pts, ptAV])
  intro i R i1 hR
  try dsimp only at hR ⊢
  rcases Nat.lt_or_ge i l.length with hi | hi
  · have x1 : (l.map fun p : Int × Int => AV.agg [.int .i8 p.1, .int .i8 p.2])[i]? = some (.agg [.int .i8 l[i].1, .int .i8 l[i].2]) := by simp [hi]
    obtain ⟨b1, b2⟩ := h8 _ (List.getElem_mem hi)
    have t1 := tmod10 l[i].1
    have t2 := tmod10 l[i].2
    have q8 : (i : Int) < 8 := by omega
    have hP : pts (l.take (i + 1)) = pts (l.take i) ++ [ptOf l[i]] := by
      unfold pts; rw [List.take_add_one, List.getElem?_eq_getElem hi, List.map_append]; rfl
    have hlen : (pts (l.take i)).length = i := by simp [pts]; omega
    generalize hL : pts (l.take i) = L at *
    rcases L with _ | ⟨y, L⟩
    · simp -implicitDefEqProofs (disch := omega) only [KF, KR, KV0, KV1, KV2, KW, ↓bstep, ↓astep, ↓O1.eq_def, ↓onBool.eq_def, ↓onInt.eq_def, ↓onStr.eq_def, ↓onLo.eq_def, ↓binK.eq_def, ↓arith.eq_def, ↓strOp.eq_def, ↓srcElems.eq_def, ↓dst1.eq_def, args0, List.zipIdx, List.map, lookup, St.ev, St.set, St.setO, reduceCtorEq, AV.plain, AV.plainL, AV.flat, AV.flatL, AV.cells, Nat.reduceEqDiff, ↓reduceIte, List.drop, List.take, List.length, Nat.reduceAdd, Nat.reduceLeDiff, Nat.reduceMul, E.done, rvsK, rvK, resAV, Int.reduceToNat, Int.reduceLE, Int.reduceLT, Int.reduceNeg, Int.reduceAdd, Int.reduceSub, Int.reduceMul, Nat.reduceLT, AV.isElem, AV.one, ↓buildCells.eq_1, ↓buildCells.eq_2, Nat.reduceBEq, eqCells, eI8, List.length_map, hi, q8, x1, ptAV, ptBlk]
      refine ⟨by omega, by omega, CL_pure (s44 m (l[i].1.tmod 10) (by omega)) rfl ?_⟩
      refine WF x1 ?_
      refine ⟨by omega, by omega, CL_pure (s44 m (l[i].2.tmod 10) (by omega)) rfl ?_⟩
      refine WW ?_
      refine hR (i + 1) _ (by omega) (by omega) ?_
      rw [hP]
      exact weak_one 0 rfl (cells_plain [ptOf l[i]]) (by simp [lookup, eI8, ptAV, AV.ren, AV.idsLt])
    · have cl := cells_length (y :: L)
      rw [List.length_cons] at hlen cl
      simp -implicitDefEqProofs (disch := omega) only [KF, KR, KV0, KV1, KV2, KW, ↓bstep, ↓astep, ↓O1.eq_def, ↓onBool.eq_def, ↓onInt.eq_def, ↓onStr.eq_def, ↓onLo.eq_def, ↓binK.eq_def, ↓arith.eq_def, ↓strOp.eq_def, ↓srcElems.eq_def, ↓dst1.eq_def, args0, List.zipIdx, List.map, lookup, St.ev, St.set, St.setO, reduceCtorEq, AV.plain, AV.plainL, AV.flat, AV.flatL, AV.cells, Nat.reduceEqDiff, ↓reduceIte, List.drop, List.take, List.length, Nat.reduceAdd, Nat.reduceLeDiff, Nat.reduceMul, E.done, rvsK, rvK, resAV, Int.reduceToNat, Int.reduceLE, Int.reduceLT, Int.reduceNeg, Int.reduceAdd, Int.reduceSub, Int.reduceMul, Nat.reduceLT, AV.isElem, AV.one, ↓buildCells.eq_1, ↓buildCells.eq_2, Nat.reduceBEq, eqCells, eI8, List.length_map, hi, q8, x1, ptAV, ptBlk]
      refine ⟨by omega, by omega, CL_pure (s44 m (l[i].1.tmod 10) (by omega)) rfl ?_⟩
      refine WF x1 ?_
      refine ⟨by omega, by omega, CL_pure (s44 m (l[i].2.tmod 10) (by omega)) rfl ?_⟩
      refine WW ?_
      have e : List.take ((L.length + 1) * 2) (cells (y :: L)) ++ List.flatMap AV.cells [AV.agg [.str (tq ((l[i].1.tmod 10 : Int) : Rat)), .str (tq ((l[i].2.tmod 10 : Int) : Rat))]] = cells (y :: (L ++ [ptOf l[i]])) := by
        rw [← cl, List.take_length, ← List.cons_append, cells_append]; rfl
      refine ⟨by rw [cl]; omega, by omega, by omega, ?_⟩
      rw [e]
      refine hR (i + 1) _ (by omega) (by omega) ?_
      rw [hP]
      exact weak_one 1 rfl (cells_plain (y :: (L ++ [ptOf l[i]]))) (by simp [lookup, eI8, ptAV, AV.ren, AV.idsLt])
  · have hi' : ¬ i < l.length := by omega
    refine WF (And.intro @eI8.eq_1 (And.intro @List.length_map.{0,0} hi')) ?_
    rw [List.take_of_length_le (by omega)]
    exact pt_shows _
end Go.Proofs.YtkjnjdcbnelceaaGreatDoor.KA
end

section
/- The law PolylineCrosses, from what the known examples come to. -/
open Go Go.Proofs
set_option linter.unusedSimpArgs false
set_option linter.unusedVariables false
set_option maxHeartbeats 1000000
set_option maxRecDepth 20000
namespace Go.Proofs.YtkjnjdcbnelceaaGreatDoor.KA
open Num Geo

theorem crossed_of {c : List Pt} {i k : Nat} (hik : i < k) (hk : k + 1 < c.length) (h : ¬ badP c i k) : crossedP c (c.length - 1) i k = false := by
  have e1 : (i + 1) % c.length = i + 1 := Nat.mod_eq_of_lt (by omega)
  have e2 : (k + 1) % c.length = k + 1 := Nat.mod_eq_of_lt hk
  have hn : nextP c.length (c.length - 1) i k = decide (k = i + 1) := by
    unfold nextP
    rw [decide_eq_false (show ¬ c.length - 1 = c.length by omega)]
    simp
  unfold crossedP
  rw [e1, e2]
  unfold badP mP at h
  generalize meetP (at' c i) (at' c (i + 1)) (at' c k) (at' c (k + 1)) = r at *
  unfold crossR
  rw [hn]
  by_cases h0 : r.1 = 0
  · rw [if_pos h0]
  · rw [if_neg h0]
    have h' : ¬ (r.1 = 2 ∨ k ≠ i + 1 ∨ (r.2 ≠ some (at' c k) ∧ (r.2 ≠ some (at' c i) ∨ k ≠ c.length - 1))) := fun hh => h ⟨h0, hh⟩
    have h2 : ¬ r.1 = 2 := fun hh => h' (.inl hh)
    have h3 : k = i + 1 := Classical.byContradiction fun hh => h' (.inr (.inl hh))
    have h4 : r.2 ≠ some (at' c k) → ¬ (r.2 ≠ some (at' c i) ∨ k ≠ c.length - 1) := fun h5 h6 => h' (.inr (.inr ⟨h5, h6⟩))
    rw [if_neg (by rintro (hh | hh); exact h2 hh; simp [h3] at hh)]
    by_cases h5 : r.2 = some (at' c k)
    · rw [if_pos ⟨h3, h5⟩]
    · rw [if_neg (fun hh => h5 hh.2)]
      have h6 := h4 h5
      simp only [not_or, ne_eq, Classical.not_not] at h6
      simp [h6.1, h6.2]

theorem checked {c : List Pt} (h : checkL c = 0) : 2 ≤ c.length ∧ apart c ∧ checkP c = 0 := by
  unfold checkL at h
  split at h
  · omega
  · split at h
    · omega
    · rename_i h1 h2
      split at h
      · rename_i h3
        have ha : apart c := fun i hi e => h2 ⟨i, hi, e⟩
        refine ⟨by omega, ha, ?_⟩
        have hs := simple_agree ha h3
        unfold checkP
        rw [if_neg h2, if_pos]
        intro i k hik hk
        exact crossed_of hik (by omega) (hs i k hik (by omega))
      · omega

theorem over_iff {a b : List Pt} (ha : apart a) (hb : apart b) : overL a b ↔ overP a b := by
  unfold overL overP
  constructor
  · rintro ⟨i, k, h1, h2, h3⟩
    rw [over_agree ha hb h1 h2] at h3
    have := mP_how a b i k
    exact ⟨i, k, h1, h2, by omega⟩
  · rintro ⟨i, k, h1, h2, h3⟩
    exact ⟨i, k, h1, h2, by rw [over_agree ha hb h1 h2]; omega⟩

/-- klippelaw11.PolylineCrosses -/
theorem s3 (m : Int) (hK : SpecP (cx m) 11 [] (.bool true)) (l r : List (Int × Int)) (hl : in8 l) (hr : in8 r) : SpecP (cx m) 3 [eI8 l, eI8 r] (.bool true) := by
  refine specP_of (mixed m) (k3 m) (Nat.le_of_ble_eq_true rfl) (X_start ?_)
  unfold c3
  refine WW ?_
  refine CL_pure hK rfl ?_
  by_cases l6 : 6 < l.length
  · have f1 : (6 : Int) < (l.length : Int) := by omega
    refine WF (And.intro @eI8.eq_1 (And.intro @List.length_map.{0,0} f1)) ?_
    refine CL_pure hK rfl ?_
    refine WW ?_
    exact shb rfl
  have f1 : ¬ (6 : Int) < (l.length : Int) := by omega
  by_cases r6 : 6 < r.length
  · have f2 : (6 : Int) < (r.length : Int) := by omega
    refine WF (And.intro @eI8.eq_1 (And.intro @List.length_map.{0,0} (And.intro f1 f2))) ?_
    refine CL_pure hK rfl ?_
    refine WW ?_
    exact shb rfl
  have f2 : ¬ (6 : Int) < (r.length : Int) := by omega
  have pl := s12 m l hl (by omega)
  have pr := s12 m r hr (by omega)
  have cl := s13 m (pts l) (pts9 l) (by simp [pts]; omega)
  have cr := s13 m (pts r) (pts9 r) (by simp [pts]; omega)
  unfold eI8 at pl pr
  refine WF (And.intro @eI8.eq_1 (And.intro @List.length_map.{0,0} (And.intro f1 f2))) ?_
  refine CL_pure pl rfl ?_
  refine WW ?_
  refine CL_pure pr rfl ?_
  refine WW ?_
  refine CL_pure cl rfl ?_
  refine WW ?_
  by_cases z1 : checkL (pts l) = 0
  rotate_left
  · refine WF z1 ?_
    exact shb rfl
  refine WF z1 ?_
  refine CL_pure cr rfl ?_
  by_cases z2 : checkL (pts r) = 0
  rotate_left
  · refine WF z2 ?_
    exact shb rfl
  obtain ⟨la, aa, ca⟩ := checked z1
  obtain ⟨lb, ab, cb⟩ := checked z2
  have na : (pts l).length ≤ 8 := by simp [pts]; omega
  have nb : (pts r).length ≤ 8 := by simp [pts]; omega
  have x14 := s14 m (pts l) (pts r) (pts9 l) (pts9 r) na nb la lb ca cb
  have x15 := s15 m (pts l) (pts r) (pts9 l) (pts9 r) na nb
  refine WF z2 ?_
  by_cases ov : overP (pts l) (pts r)
  · rw [if_pos ov] at x14
    rw [if_pos ((over_iff aa ab).2 ov)] at x15
    refine CL_pure x14 rfl ?_
    refine WW ?_
    refine CL_pure x15 rfl ?_
    refine WF ((show (((0 : Nat) : Int)) = 0 from rfl)) ?_
    exact shb rfl
  · rw [if_neg ov] at x14
    rw [if_neg (fun h => ov ((over_iff aa ab).1 h)), hits_agree aa ab] at x15
    have hlen := hits_len (mP (pts l) (pts r)) ((pts r).length - 1) ((pts l).length - 1)
    have hm : ((pts l).length - 1) * ((pts r).length - 1) ≤ 8 * 8 := Nat.mul_le_mul (by omega) (by omega)
    generalize hits (mP (pts l) (pts r)) ((pts l).length - 1) ((pts r).length - 1) = H at *
    refine CL_pure x14 rfl ?_
    refine WW ?_
    refine CL_pure x15 rfl ?_
    refine WF @List.length_map.{0,0} ?_
    refine X_for (fun i : Nat => ⟨[(7, .sl 4 (H.map eX)), (9, .sl 4 (H.map eX)), (11, .int .i64 i)], []⟩) (fun i => i ≤ H.length) (fun i => H.length - i) 0 (Nat.zero_le _) ?_ ?_
    · exact weak_keep (by simp [lookup])
    intro i R i1 hR
    try dsimp only at hR ⊢
    rcases Nat.lt_or_ge i H.length with hi | hi
    · have x1 : (H.map eX)[i]? = some (eX H[i]) := by simp [hi]
      refine WF (And.intro @List.length_map.{0,0} (And.intro hi (And.intro x1 (And.intro @eX.eq_1 @and_self)))) ?_
      exact hR (i + 1) _ (by omega) (by omega) (weak_keep (by simp [lookup]))
    · have hi' : ¬ i < H.length := by omega
      refine WF (And.intro @List.length_map.{0,0} hi') ?_
      exact shb rfl
end Go.Proofs.YtkjnjdcbnelceaaGreatDoor.KA
end

section
/- The small code of functions, as own tools print it; that it is the program's is checked by the kernel. -/
open Go Go.Proofs
set_option linter.unusedVariables false
namespace Go.Proofs.YtkjnjdcbnelceaaGreatDoor.KA
def c51 : C := (C.ops [⟨I.mv 2 (O.k AV.nils), none, some 2⟩]).seq (((C.ops [⟨I.mv 3 (O.t 0), none, some 3⟩, ⟨I.eqn 4 false 0 (O.t 3), none, some 4⟩]).seq (C.cond (O.t 4) ((C.ops [⟨I.mv 2 (O.k AV.nils), none, some 2⟩]).seq C.ret) C.skip)).seq ((C.ops [⟨I.bsl 5 2 [] true, none, some 5⟩, ⟨I.mv 6 (O.t 0), none, some 6⟩, ⟨I.append 7 2 32 (O.t 5) (O.t 6) true, none, some 7⟩, ⟨I.mv 2 (O.t 7), none, some 2⟩]).seq C.ret))
theorem k51 (m : Int) : compF (cx m).P (cx m).gt (fun t => t == 5 || t == 7) 51 = some (c51, [RV.tmp 2], 8) := by kernel_rfl
def c53 : C := (C.ops [⟨I.mv 6 (O.k AV.nils), none, some 6⟩]).seq ((C.ops [⟨I.mv 8 (O.t 0), none, some 8⟩, ⟨I.mv 9 (O.t 1), none, some 9⟩, ⟨I.mv 10 (O.t 2), none, some 10⟩, ⟨I.mv 11 (O.t 0), none, some 11⟩, ⟨I.len 12 (O.t 11), none, some 12⟩, ⟨I.slc 13 2 (O.t 8) (some (O.t 9)) (some (O.t 10)) (some (O.t 12)), none, some 13⟩]).seq (((C.ops [⟨I.mv 14 (O.t 1), none, some 14⟩, ⟨I.mv 15 (O.t 2), none, some 15⟩, ⟨I.bin 16 BinOp.eql (O.t 14) (O.t 15), none, some 16⟩]).seq (C.cond (O.t 16) ((C.ops [⟨I.mv 17 (O.t 0), none, some 17⟩, ⟨I.mv 6 (O.t 17), none, some 6⟩]).seq C.ret) C.skip)).seq ((C.ops [⟨I.mv 18 (O.t 0), none, some 18⟩, ⟨I.len 19 (O.t 18), none, some 19⟩, ⟨I.mv 7 (O.t 19), none, some 7⟩]).seq ((C.ops [⟨I.mv 20 (O.t 0), none, some 20⟩, ⟨I.mv 21 (O.t 1), none, some 21⟩, ⟨I.slc 22 2 (O.t 20) none (some (O.t 21)) none, none, some 22⟩, ⟨I.mv 23 (O.t 0), none, some 23⟩, ⟨I.mv 24 (O.t 2), none, some 24⟩, ⟨I.slc 25 2 (O.t 23) (some (O.t 24)) none none, none, some 25⟩, ⟨I.append 26 2 32 (O.t 22) (O.t 25) true, none, some 26⟩, ⟨I.mv 0 (O.t 26), none, some 0⟩]).seq ((C.ops [⟨I.mv 27 (O.t 0), none, some 27⟩, ⟨I.mv 28 (O.t 0), none, some 28⟩, ⟨I.len 29 (O.t 28), none, some 29⟩, ⟨I.mv 30 (O.t 7), none, some 30⟩, ⟨I.slc 31 2 (O.t 27) (some (O.t 29)) (some (O.t 30)) none, none, some 31⟩, ⟨I.clear 2 [AV.str [], AV.str []] (O.t 31), none, none⟩]).seq ((C.ops [⟨I.mv 32 (O.t 0), none, some 32⟩, ⟨I.mv 6 (O.t 32), none, some 6⟩]).seq C.ret))))))
theorem k53 (m : Int) : compF (cx m).P (cx m).gt (fun t => t == 26) 53 = some (c53, [RV.tmp 6], 33) := by kernel_rfl
def c16 : C := (C.ops [⟨I.mv 4 (O.k AV.nils), none, some 4⟩, ⟨I.mv 5 (O.k (AV.int IntKind.i64 0)), none, some 5⟩]).seq (((C.ops [⟨I.mv 13 (O.t 0), none, some 13⟩, ⟨I.call (some 14) (O.k (AV.fn 42 [])) [O.t 13] false, none, some 14⟩, ⟨I.mv 6 (O.t 14), none, some 6⟩]).seq ((C.ops [⟨I.mv 15 (O.t 6), none, some 15⟩, ⟨I.bin 16 BinOp.neq (O.t 15) (O.k (AV.int IntKind.i64 0)), none, some 16⟩]).seq (C.cond (O.t 16) ((C.ops [⟨I.mv 17 (O.t 6), none, some 17⟩, ⟨I.mv 4 (O.k AV.nils), none, some 4⟩, ⟨I.mv 5 (O.t 17), none, some 5⟩]).seq C.ret) C.skip))).seq ((C.block 0 ((C.ops [⟨I.mv 19 (O.t 1), none, some 19⟩, ⟨I.call (some 20) (O.k (AV.fn 50 [])) [O.t 19] false, none, some 20⟩, ⟨I.bin 21 BinOp.neq (O.t 20) (O.k (AV.int IntKind.i64 0)), none, some 21⟩, ⟨I.mv 18 (O.t 21), none, some 18⟩]).seq (C.cond (O.t 18) ((C.ops [⟨I.mv 4 (O.k AV.nils), none, some 4⟩, ⟨I.mv 5 (O.k (AV.int IntKind.i64 2)), none, some 5⟩]).seq C.ret) ((C.ops [⟨I.mv 23 (O.t 1), none, some 23⟩, ⟨I.call (some 24) (O.k (AV.fn 18 [])) [O.t 23] false, none, some 24⟩, ⟨I.bin 25 BinOp.lss (O.t 24) (O.k (AV.int IntKind.i64 0)), none, some 25⟩, ⟨I.mv 22 (O.t 25), none, some 22⟩]).seq (C.cond (O.t 22) ((C.ops [⟨I.mv 4 (O.k AV.nils), none, some 4⟩, ⟨I.mv 5 (O.k (AV.int IntKind.i64 3)), none, some 5⟩]).seq C.ret) C.skip))))).seq ((C.ops [⟨I.mv 26 (O.t 0), none, some 26⟩, ⟨I.call (some 27) (O.k (AV.fn 51 [])) [O.t 26] true, none, some 27⟩, ⟨I.mv 7 (O.t 27), none, some 7⟩]).seq (C.block 1 (C.block 2 ((C.ops [⟨I.mv 8 (O.k (AV.int IntKind.i64 (-1))), none, some 8⟩]).seq ((C.ops [⟨I.mv 28 (O.t 1), none, some 28⟩, ⟨I.mv 9 (O.t 28), none, some 9⟩]).seq (((C.ops [⟨I.mv 10 (O.k (AV.int IntKind.i64 1)), none, some 10⟩]).seq (C.block 3 (((C.ops [⟨I.mv 29 (O.t 10), none, some 29⟩, ⟨I.bin 30 BinOp.add (O.t 29) (O.k (AV.int IntKind.i64 1)), none, some 30⟩, ⟨I.mv 31 (O.t 7), none, some 31⟩, ⟨I.len 32 (O.t 31), none, some 32⟩, ⟨I.bin 33 BinOp.lss (O.t 30) (O.t 32), none, some 33⟩]).seq (C.cond (O.t 33) C.skip (C.exit 3))).seq ((C.block 4 ((C.ops [⟨I.mv 36 (O.t 7), none, some 36⟩, ⟨I.mv 37 (O.t 10), none, some 37⟩, ⟨I.bin 38 BinOp.sub (O.t 37) (O.k (AV.int IntKind.i64 1)), none, some 38⟩, ⟨I.idxa 39 2 none (O.t 36) (O.t 38), none, some 39⟩, ⟨I.load 40 true 2 (O.t 39), none, some 40⟩, ⟨I.mv 41 (O.t 7), none, some 41⟩, ⟨I.mv 42 (O.t 10), none, some 42⟩, ⟨I.idxa 43 2 none (O.t 41) (O.t 42), none, some 43⟩, ⟨I.load 44 true 2 (O.t 43), none, some 44⟩, ⟨I.mv 45 (O.t 7), none, some 45⟩, ⟨I.mv 46 (O.t 10), none, some 46⟩, ⟨I.bin 47 BinOp.add (O.t 46) (O.k (AV.int IntKind.i64 1)), none, some 47⟩, ⟨I.idxa 48 2 none (O.t 45) (O.t 47), none, some 48⟩, ⟨I.load 49 true 2 (O.t 48), none, some 49⟩, ⟨I.call (some 50) (O.k (AV.fn 52 [])) [O.t 40, O.t 44, O.t 49] false, none, some 50⟩, ⟨I.call (some 51) (O.k (AV.fn 19 [])) [O.t 50] false, none, some 51⟩, ⟨I.mv 11 (O.t 51), none, some 11⟩]).seq (((C.ops [⟨I.mv 52 (O.t 11), none, some 52⟩, ⟨I.mv 53 (O.t 9), none, some 53⟩, ⟨I.call (some 54) (O.k (AV.fn 21 [])) [O.t 52, O.t 53] false, none, some 54⟩, ⟨I.mv 12 (O.t 54), none, some 12⟩]).seq ((C.ops [⟨I.mv 55 (O.t 12), none, some 55⟩, ⟨I.bin 56 BinOp.gtr (O.t 55) (O.k (AV.int IntKind.i64 0)), none, some 56⟩, ⟨I.mv 57 (O.t 56), none, some 57⟩, ⟨I.mv 58 (O.t 12), some (57, false), some 58⟩, ⟨I.bin 59 BinOp.eql (O.t 58) (O.k (AV.int IntKind.i64 0)), some (57, false), some 59⟩, ⟨I.mv 60 (O.t 59), some (57, false), some 60⟩, ⟨I.mv 61 (O.t 8), some (60, true), some 61⟩, ⟨I.bin 62 BinOp.geq (O.t 61) (O.k (AV.int IntKind.i64 0)), some (60, true), some 62⟩, ⟨I.pick 63 (O.t 60) (O.t 62) (O.k (AV.bool false)), some (57, false), some 63⟩, ⟨I.pick 64 (O.t 57) (O.k (AV.bool true)) (O.t 63), none, some 64⟩]).seq (C.cond (O.t 64) (C.exit 4) C.skip))).seq ((C.ops [⟨I.mv 65 (O.t 7), none, some 65⟩, ⟨I.call (some 66) (O.k (AV.fn 51 [])) [O.t 65] true, none, some 66⟩, ⟨I.mv 67 (O.t 10), none, some 67⟩, ⟨I.mv 68 (O.t 10), none, some 68⟩, ⟨I.bin 69 BinOp.add (O.t 68) (O.k (AV.int IntKind.i64 1)), none, some 69⟩, ⟨I.call (some 70) (O.k (AV.fn 53 [])) [O.t 66, O.t 67, O.t 69] true, none, some 70⟩, ⟨I.call (some 71) (O.k (AV.fn 42 [])) [O.t 70] false, none, some 71⟩, ⟨I.bin 72 BinOp.eql (O.t 71) (O.k (AV.int IntKind.i64 0)), none, some 72⟩]).seq (C.cond (O.t 72) (C.ops [⟨I.mv 73 (O.t 10), none, some 73⟩, ⟨I.mv 74 (O.t 11), none, some 74⟩, ⟨I.mv 8 (O.t 73), none, some 8⟩, ⟨I.mv 9 (O.t 74), none, some 9⟩]) C.skip))))).seq (C.ops [⟨I.mv 34 (O.t 10), none, some 34⟩, ⟨I.bin 35 BinOp.add (O.t 34) (O.k (AV.int IntKind.i64 1)), none, some 35⟩, ⟨I.mv 10 (O.t 35), none, some 10⟩]))).loop)).seq (((C.ops [⟨I.mv 75 (O.t 8), none, some 75⟩, ⟨I.bin 76 BinOp.lss (O.t 75) (O.k (AV.int IntKind.i64 0)), none, some 76⟩]).seq (C.cond (O.t 76) ((C.ops [⟨I.mv 77 (O.t 7), none, some 77⟩, ⟨I.mv 4 (O.t 77), none, some 4⟩, ⟨I.mv 5 (O.k (AV.int IntKind.i64 0)), none, some 5⟩]).seq C.ret) C.skip)).seq (C.ops [⟨I.mv 78 (O.t 7), none, some 78⟩, ⟨I.mv 79 (O.t 8), none, some 79⟩, ⟨I.mv 80 (O.t 8), none, some 80⟩, ⟨I.bin 81 BinOp.add (O.t 80) (O.k (AV.int IntKind.i64 1)), none, some 81⟩, ⟨I.call (some 82) (O.k (AV.fn 53 [])) [O.t 78, O.t 79, O.t 81] true, none, some 82⟩, ⟨I.mv 7 (O.t 82), none, some 7⟩])))))).loop))))
theorem k16 (m : Int) : compF (cx m).P (cx m).gt (fun t => t == 27 || t == 40 || t == 44 || t == 49 || t == 66 || t == 70 || t == 82) 16 = some (c16, [RV.tmp 4, RV.tmp 5], 83) := by kernel_rfl
def c30 : C := (C.ops [⟨I.mv 2 (O.k (AV.str [])), none, some 2⟩, ⟨I.mv 3 (O.k (AV.int IntKind.i64 0)), none, some 3⟩]).seq (((C.ops [⟨I.mv 6 (O.t 0), none, some 6⟩, ⟨I.call (some 7) (O.k (AV.fn 38 [])) [O.t 6] false, none, some 7⟩, ⟨I.mv 4 (O.t 7), none, some 4⟩]).seq ((C.ops [⟨I.mv 8 (O.t 4), none, some 8⟩, ⟨I.bin 9 BinOp.neq (O.t 8) (O.k (AV.int IntKind.i64 0)), none, some 9⟩]).seq (C.cond (O.t 9) ((C.ops [⟨I.mv 10 (O.t 4), none, some 10⟩, ⟨I.mv 2 (O.k (AV.str [])), none, some 2⟩, ⟨I.mv 3 (O.t 10), none, some 3⟩]).seq C.ret) C.skip))).seq ((C.ops [⟨I.mv 11 (O.t 0), none, some 11⟩, ⟨I.call (some 12) (O.k (AV.fn 66 [])) [O.t 11] false, none, some 12⟩, ⟨I.mv 5 (O.t 12), none, some 5⟩]).seq (((C.ops [⟨I.mv 13 (O.t 5), none, some 13⟩, ⟨I.call (some 14) (O.k (AV.fn 50 [])) [O.t 13] false, none, some 14⟩, ⟨I.bin 15 BinOp.neq (O.t 14) (O.k (AV.int IntKind.i64 0)), none, some 15⟩]).seq (C.cond (O.t 15) ((C.ops [⟨I.mv 2 (O.k (AV.str [])), none, some 2⟩, ⟨I.mv 3 (O.k (AV.int IntKind.i64 4)), none, some 3⟩]).seq C.ret) C.skip)).seq ((C.ops [⟨I.mv 16 (O.t 5), none, some 16⟩, ⟨I.mv 2 (O.t 16), none, some 2⟩, ⟨I.mv 3 (O.k (AV.int IntKind.i64 0)), none, some 3⟩]).seq C.ret))))
theorem k30 (m : Int) : compF (cx m).P (cx m).gt (fun _ => false) 30 = some (c30, [RV.tmp 2, RV.tmp 3], 17) := by kernel_rfl
def c66 : C := (C.ops [⟨I.mv 2 (O.k (AV.str [])), none, some 2⟩]).seq ((C.ops [⟨I.mv 3 (O.k (AV.str [48])), none, some 3⟩]).seq (((C.ops [⟨I.mv 4 (O.k (AV.int IntKind.i64 2)), none, some 4⟩]).seq (C.block 0 (((C.ops [⟨I.mv 5 (O.t 4), none, some 5⟩, ⟨I.mv 6 (O.t 0), none, some 6⟩, ⟨I.len 7 (O.t 6), none, some 7⟩, ⟨I.bin 8 BinOp.lss (O.t 5) (O.t 7), none, some 8⟩]).seq (C.cond (O.t 8) C.skip (C.exit 0))).seq ((C.block 1 (C.ops [⟨I.mv 11 (O.t 3), none, some 11⟩, ⟨I.mv 12 (O.t 0), none, some 12⟩, ⟨I.idxa 13 2 none (O.t 12) (O.k (AV.int IntKind.i64 0)), none, some 13⟩, ⟨I.loadf 14 true 2 (O.t 13), none, some 14⟩, ⟨I.mv 15 (O.t 0), none, some 15⟩, ⟨I.mv 16 (O.t 4), none, some 16⟩, ⟨I.bin 17 BinOp.sub (O.t 16) (O.k (AV.int IntKind.i64 1)), none, some 17⟩, ⟨I.idxa 18 2 none (O.t 15) (O.t 17), none, some 18⟩, ⟨I.loadf 19 true 2 (O.t 18), none, some 19⟩, ⟨I.mv 20 (O.t 0), none, some 20⟩, ⟨I.mv 21 (O.t 4), none, some 21⟩, ⟨I.idxa 22 2 none (O.t 20) (O.t 21), none, some 22⟩, ⟨I.loadf 23 true 2 (O.t 22), none, some 23⟩, ⟨I.call (some 24) (O.k (AV.fn 52 [])) [O.t 14, O.t 19, O.t 23] false, none, some 24⟩, ⟨I.call (some 25) (O.k (AV.fn 29 [])) [O.t 11, O.t 24] false, none, some 25⟩, ⟨I.mv 3 (O.t 25), none, some 3⟩])).seq (C.ops [⟨I.mv 9 (O.t 4), none, some 9⟩, ⟨I.bin 10 BinOp.add (O.t 9) (O.k (AV.int IntKind.i64 1)), none, some 10⟩, ⟨I.mv 4 (O.t 10), none, some 4⟩]))).loop)).seq ((C.ops [⟨I.mv 26 (O.t 3), none, some 26⟩, ⟨I.mv 2 (O.t 26), none, some 2⟩]).seq C.ret)))
theorem k66 (m : Int) : compF (cx m).P (cx m).gt (fun _ => false) 66 = some (c66, [RV.tmp 2], 27) := by kernel_rfl
def c38 : C := (C.ops [⟨I.mv 2 (O.k (AV.int IntKind.i64 0)), none, some 2⟩]).seq ((C.block 0 ((C.ops [⟨I.mv 6 (O.t 0), none, some 6⟩, ⟨I.len 7 (O.t 6), none, some 7⟩, ⟨I.bin 8 BinOp.lss (O.t 7) (O.k (AV.int IntKind.i64 3)), none, some 8⟩, ⟨I.mv 5 (O.t 8), none, some 5⟩]).seq (C.cond (O.t 5) ((C.ops [⟨I.mv 2 (O.k (AV.int IntKind.i64 5)), none, some 2⟩]).seq C.ret) ((C.ops [⟨I.mv 10 (O.t 0), none, some 10⟩, ⟨I.len 11 (O.t 10), none, some 11⟩, ⟨I.bin 12 BinOp.gtr (O.t 11) (O.k (AV.int IntKind.i64 400)), none, some 12⟩, ⟨I.mv 9 (O.t 12), none, some 9⟩]).seq (C.cond (O.t 9) ((C.ops [⟨I.mv 2 (O.k (AV.int IntKind.i64 4)), none, some 2⟩]).seq C.ret) C.skip))))).seq (((C.ops [⟨I.mv 13 (O.t 0), none, some 13⟩, ⟨I.len 14 (O.t 13), none, some 14⟩, ⟨I.mv 15 (O.k (AV.int IntKind.i64 0)), none, some 15⟩]).seq (C.block 1 ((C.ops [⟨I.bin 16 BinOp.lss (O.t 15) (O.t 14), none, some 16⟩]).seq ((C.cond (O.t 16) C.skip (C.exit 1)).seq ((C.block 2 ((C.ops [⟨I.mv 17 (O.t 15), none, some 17⟩, ⟨I.idxa 18 2 none (O.t 13) (O.t 15), none, some 18⟩, ⟨I.loadf 19 true 2 (O.t 18), none, some 19⟩, ⟨I.alloc 4 [AV.str [], AV.str []] true, none, some 4⟩, ⟨I.mv 3 (O.t 17), none, some 3⟩, ⟨I.store 2 (O.t 4) (O.t 19), none, none⟩]).seq (C.block 3 ((C.ops [⟨I.load 21 true 2 (O.t 4), none, some 21⟩, ⟨I.call (some 22) (O.k (AV.fn 49 [])) [O.t 21] false, none, some 22⟩, ⟨I.bin 23 BinOp.neq (O.t 22) (O.k (AV.int IntKind.i64 0)), none, some 23⟩, ⟨I.mv 20 (O.t 23), none, some 20⟩]).seq (C.cond (O.t 20) ((C.ops [⟨I.mv 2 (O.k (AV.int IntKind.i64 2)), none, some 2⟩]).seq C.ret) ((C.ops [⟨I.mv 25 (O.t 0), none, some 25⟩, ⟨I.mv 26 (O.t 3), none, some 26⟩, ⟨I.mv 27 (O.t 0), none, some 27⟩, ⟨I.len 28 (O.t 27), none, some 28⟩, ⟨I.bin 29 BinOp.add (O.t 26) (O.t 28), none, some 29⟩, ⟨I.bin 30 BinOp.sub (O.t 29) (O.k (AV.int IntKind.i64 1)), none, some 30⟩, ⟨I.mv 31 (O.t 0), none, some 31⟩, ⟨I.len 32 (O.t 31), none, some 32⟩, ⟨I.bin 33 BinOp.rem (O.t 30) (O.t 32), none, some 33⟩, ⟨I.idxa 34 2 none (O.t 25) (O.t 33), none, some 34⟩, ⟨I.loadf 35 true 2 (O.t 34), none, some 35⟩, ⟨I.load 36 true 2 (O.t 4), none, some 36⟩, ⟨I.eqs 37 false [Leaf.str, Leaf.str] (O.t 35) (O.t 36), none, some 37⟩, ⟨I.mv 24 (O.t 37), none, some 24⟩]).seq (C.cond (O.t 24) ((C.ops [⟨I.mv 2 (O.k (AV.int IntKind.i64 17)), none, some 2⟩]).seq C.ret) C.skip))))))).seq (C.ops [⟨I.bin 38 BinOp.add (O.t 15) (O.k (AV.int IntKind.i64 1)), none, some 38⟩, ⟨I.mv 15 (O.t 38), none, some 15⟩])))).loop)).seq ((C.ops [⟨I.mv 39 (O.t 0), none, some 39⟩, ⟨I.mv 40 (O.t 0), none, some 40⟩, ⟨I.len 41 (O.t 40), none, some 41⟩, ⟨I.call (some 42) (O.k (AV.fn 80 [])) [O.t 39, O.t 41] false, none, some 42⟩, ⟨I.mv 2 (O.t 42), none, some 2⟩]).seq C.ret)))
theorem k38 (m : Int) : compF (cx m).P (cx m).gt (fun t => t == 4 || t == 21 || t == 36) 38 = some (c38, [RV.tmp 2], 43) := by kernel_rfl
def c11 : C := (C.ops [⟨I.mv 0 (O.k (AV.bool false)), none, some 0⟩]).seq ((C.ops [⟨I.build 9 [AV.str [], AV.str []] [(0, 1, O.k (AV.str [48])), (1, 1, O.k (AV.str [48]))], none, some 9⟩, ⟨I.build 10 [AV.str [], AV.str []] [(0, 1, O.k (AV.str [52])), (1, 1, O.k (AV.str [48]))], none, some 10⟩, ⟨I.bsl 11 2 [O.t 9, O.t 10] false, none, some 11⟩, ⟨I.mv 1 (O.t 11), none, some 1⟩]).seq ((C.ops [⟨I.build 12 [AV.str [], AV.str []] [(0, 1, O.k (AV.str [49])), (1, 1, O.k (AV.str [45, 49]))], none, some 12⟩, ⟨I.build 13 [AV.str [], AV.str []] [(0, 1, O.k (AV.str [49])), (1, 1, O.k (AV.str [49]))], none, some 13⟩, ⟨I.build 14 [AV.str [], AV.str []] [(0, 1, O.k (AV.str [51])), (1, 1, O.k (AV.str [49]))], none, some 14⟩, ⟨I.build 15 [AV.str [], AV.str []] [(0, 1, O.k (AV.str [51])), (1, 1, O.k (AV.str [45, 49]))], none, some 15⟩, ⟨I.bsl 16 2 [O.t 12, O.t 13, O.t 14, O.t 15] false, none, some 16⟩, ⟨I.mv 2 (O.t 16), none, some 2⟩]).seq ((C.ops [⟨I.mv 18 (O.t 1), none, some 18⟩, ⟨I.mv 19 (O.t 2), none, some 19⟩, ⟨I.call (some 20) (O.k (AV.fn 14 [])) [O.t 18, O.t 19] false, none, some 20⟩, ⟨I.mv 17 (O.t 20), none, some 17⟩, ⟨I.ext 21 (O.t 17) 0, none, some 21⟩, ⟨I.ext 22 (O.t 17) 1, none, some 22⟩, ⟨I.mv 3 (O.t 21), none, some 3⟩, ⟨I.mv 4 (O.t 22), none, some 4⟩]).seq ((C.ops [⟨I.build 24 [AV.str [], AV.str []] [(0, 1, O.k (AV.str [48])), (1, 1, O.k (AV.str [48]))], none, some 24⟩, ⟨I.build 25 [AV.str [], AV.str []] [(0, 1, O.k (AV.str [49])), (1, 1, O.k (AV.str [48]))], none, some 25⟩, ⟨I.build 26 [AV.str [], AV.str []] [(0, 1, O.k (AV.str [50])), (1, 1, O.k (AV.str [49]))], none, some 26⟩, ⟨I.build 27 [AV.str [], AV.str []] [(0, 1, O.k (AV.str [52])), (1, 1, O.k (AV.str [48]))], none, some 27⟩, ⟨I.bsl 28 2 [O.t 24, O.t 25, O.t 26, O.t 27] false, none, some 28⟩, ⟨I.call (some 29) (O.k (AV.fn 16 [])) [O.t 28, O.k (AV.str [49])] false, none, some 29⟩, ⟨I.mv 23 (O.t 29), none, some 23⟩, ⟨I.ext 30 (O.t 23) 0, none, some 30⟩, ⟨I.ext 31 (O.t 23) 1, none, some 31⟩, ⟨I.mv 5 (O.t 30), none, some 5⟩, ⟨I.mv 6 (O.t 31), none, some 6⟩]).seq ((C.ops [⟨I.build 33 [AV.str [], AV.str []] [(0, 1, O.k (AV.str [48])), (1, 1, O.k (AV.str [48]))], none, some 33⟩, ⟨I.build 34 [AV.str [], AV.str []] [(0, 1, O.k (AV.str [50])), (1, 1, O.k (AV.str [48]))], none, some 34⟩, ⟨I.build 35 [AV.str [], AV.str []] [(0, 1, O.k (AV.str [50])), (1, 1, O.k (AV.str [50]))], none, some 35⟩, ⟨I.bsl 36 2 [O.t 33, O.t 34, O.t 35] false, none, some 36⟩, ⟨I.call (some 37) (O.k (AV.fn 30 [])) [O.t 36] false, none, some 37⟩, ⟨I.mv 32 (O.t 37), none, some 32⟩, ⟨I.ext 38 (O.t 32) 0, none, some 38⟩, ⟨I.ext 39 (O.t 32) 1, none, some 39⟩, ⟨I.mv 7 (O.t 38), none, some 7⟩, ⟨I.mv 8 (O.t 39), none, some 8⟩]).seq ((C.ops [⟨I.mv 40 (O.t 4), none, some 40⟩, ⟨I.bin 41 BinOp.eql (O.t 40) (O.k (AV.int IntKind.i64 0)), none, some 41⟩, ⟨I.mv 42 (O.t 41), none, some 42⟩, ⟨I.mv 43 (O.t 3), some (42, true), some 43⟩, ⟨I.len 44 (O.t 43), some (42, true), some 44⟩, ⟨I.bin 45 BinOp.eql (O.t 44) (O.k (AV.int IntKind.i64 2)), some (42, true), some 45⟩, ⟨I.pick 46 (O.t 42) (O.t 45) (O.k (AV.bool false)), none, some 46⟩, ⟨I.mv 47 (O.t 46), none, some 47⟩, ⟨I.mv 48 (O.t 3), some (47, true), some 48⟩, ⟨I.idxa 49 4 none (O.t 48) (O.k (AV.int IntKind.i64 0)), some (47, true), some 49⟩, ⟨I.fld 50 2 (O.t 49), some (47, true), some 50⟩, ⟨I.loadf 51 true 2 (O.t 50), some (47, true), some 51⟩, ⟨I.build 52 [AV.str [], AV.str []] [(0, 1, O.k (AV.str [49])), (1, 1, O.k (AV.str [48]))], some (47, true), some 52⟩, ⟨I.eqs 53 false [Leaf.str, Leaf.str] (O.t 51) (O.t 52), some (47, true), some 53⟩, ⟨I.pick 54 (O.t 47) (O.t 53) (O.k (AV.bool false)), none, some 54⟩, ⟨I.mv 55 (O.t 54), none, some 55⟩, ⟨I.mv 56 (O.t 3), some (55, true), some 56⟩, ⟨I.idxa 57 4 none (O.t 56) (O.k (AV.int IntKind.i64 1)), some (55, true), some 57⟩, ⟨I.loadf 58 true 4 (O.t 57), some (55, true), some 58⟩, ⟨I.build 59 [AV.str [], AV.str []] [(0, 1, O.k (AV.str [51])), (1, 1, O.k (AV.str [48]))], some (55, true), some 59⟩, ⟨I.build 60 [AV.int IntKind.i64 0, AV.int IntKind.i64 0, AV.str [], AV.str []] [(0, 1, O.k (AV.int IntKind.i64 0)), (1, 1, O.k (AV.int IntKind.i64 2)), (2, 2, O.t 59)], some (55, true), some 60⟩, ⟨I.eqs 61 false [Leaf.int IntKind.i64, Leaf.int IntKind.i64, Leaf.str, Leaf.str] (O.t 58) (O.t 60), some (55, true), some 61⟩, ⟨I.pick 62 (O.t 55) (O.t 61) (O.k (AV.bool false)), none, some 62⟩, ⟨I.mv 63 (O.t 62), none, some 63⟩, ⟨I.mv 64 (O.t 6), some (63, true), some 64⟩, ⟨I.bin 65 BinOp.eql (O.t 64) (O.k (AV.int IntKind.i64 0)), some (63, true), some 65⟩, ⟨I.pick 66 (O.t 63) (O.t 65) (O.k (AV.bool false)), none, some 66⟩, ⟨I.mv 67 (O.t 66), none, some 67⟩, ⟨I.mv 68 (O.t 5), some (67, true), some 68⟩, ⟨I.len 69 (O.t 68), some (67, true), some 69⟩, ⟨I.bin 70 BinOp.eql (O.t 69) (O.k (AV.int IntKind.i64 3)), some (67, true), some 70⟩, ⟨I.pick 71 (O.t 67) (O.t 70) (O.k (AV.bool false)), none, some 71⟩, ⟨I.mv 72 (O.t 71), none, some 72⟩, ⟨I.mv 73 (O.t 5), some (72, true), some 73⟩, ⟨I.idxa 74 2 none (O.t 73) (O.k (AV.int IntKind.i64 1)), some (72, true), some 74⟩, ⟨I.loadf 75 true 2 (O.t 74), some (72, true), some 75⟩, ⟨I.build 76 [AV.str [], AV.str []] [(0, 1, O.k (AV.str [50])), (1, 1, O.k (AV.str [49]))], some (72, true), some 76⟩, ⟨I.eqs 77 false [Leaf.str, Leaf.str] (O.t 75) (O.t 76), some (72, true), some 77⟩, ⟨I.pick 78 (O.t 72) (O.t 77) (O.k (AV.bool false)), none, some 78⟩, ⟨I.mv 79 (O.t 78), none, some 79⟩, ⟨I.mv 80 (O.t 7), some (79, true), some 80⟩, ⟨I.bin 81 BinOp.eql (O.t 80) (O.k (AV.str [52])), some (79, true), some 81⟩, ⟨I.pick 82 (O.t 79) (O.t 81) (O.k (AV.bool false)), none, some 82⟩, ⟨I.mv 83 (O.t 82), none, some 83⟩, ⟨I.mv 84 (O.t 8), some (83, true), some 84⟩, ⟨I.bin 85 BinOp.eql (O.t 84) (O.k (AV.int IntKind.i64 0)), some (83, true), some 85⟩, ⟨I.pick 86 (O.t 83) (O.t 85) (O.k (AV.bool false)), none, some 86⟩, ⟨I.mv 0 (O.t 86), none, some 0⟩]).seq C.ret))))))
theorem k11 (m : Int) : compF (cx m).P (cx m).gt (fun _ => false) 11 = some (c11, [RV.tmp 0], 87) := by kernel_rfl
end Go.Proofs.YtkjnjdcbnelceaaGreatDoor.KA
end

section
/- Contracts: slices.Clone and slices.Delete of points. -/
open Go Go.Proofs
set_option linter.unusedSimpArgs false
set_option linter.unusedVariables false
set_option maxHeartbeats 1000000
set_option maxRecDepth 20000
namespace Go.Proofs.YtkjnjdcbnelceaaGreatDoor.KA
open Num Geo

section
variable {c : Ctx} {k : Nat} {fs : List F} {st : St} {Q : E → St → Prop} {l : List GI}
/-- A call that is handed no block to write, and gives a new one. -/
theorem CL_new {d : Option Nat} {f : FuncId} {args : List AV} {r : AV} {cs : List AV} (h : SpecG c f args [] r [some cs]) (hp : AV.plainL args = true) (hc : AV.plainL cs = true)
    (hk : Y c k l fs (({ st with h := st.h ++ [some cs] } : St).setO d (r.ren fun i => st.h.length + i)) Q) : CL c k d f args true l fs st Q := by
  refine ⟨.inr (.inr ⟨rfl, [], args, [], r, [some cs], h, (plain_renL hp).1.symm, rfl, List.nodup_nil, fun i hi => by simp at hi, fun i k o hi => by simp at hi, ?_⟩)⟩
  have e1 : place [] st.h.length = fun i => st.h.length + i := by funext i; simp [place]
  have e2 : putBack st.h [] [some cs] = st.h ++ [some cs] := by
    simp only [putBack, List.zip_nil_left, List.foldl, List.length_nil, List.drop_zero, List.map, Option.map_some]
    rw [(plain_renL hc).1]
  rw [e1, e2]; exact hk
/-- A call that is handed one block to write: it is given up, and a new one comes back. -/
theorem CL_swap {d : Option Nat} {f : FuncId} {args az : List AV} {r : AV} {cs cs' : List AV} (id : Nat) (h : SpecG c f az [some cs] r [none, some cs']) (hid : st.h[id]? = some (some cs)) (hc : AV.plainL cs = true) (hc' : AV.plainL cs' = true)
    (ha : args = AV.renL (fun i => if i = 0 then id else st.h.length + (i - 1)) az)
    (hk : Y c k l fs (({ st with h := st.h.set id none ++ [some cs'] } : St).setO d (r.ren fun i => if i = 0 then id else st.h.length + (i - 1))) Q) : CL c k d f args true l fs st Q := by
  have e1 : place [id] st.h.length = fun i => if i = 0 then id else st.h.length + (i - 1) := by
    funext i
    unfold place
    cases i with
    | zero => rfl
    | succ i => simp
  refine ⟨.inr (.inr ⟨rfl, [id], az, [some cs], r, [none, some cs'], h, by rw [e1]; exact ha, rfl, by simp, fun i hi => by
    rw [List.mem_singleton] at hi; subst hi; exact (List.getElem?_eq_some_iff.1 hid).1, fun i k o hi ho => ?_, ?_⟩)⟩
  · cases i with
    | zero =>
      simp only [List.getElem?_cons_zero, Option.some.injEq] at hi ho
      subst hi; subst ho
      exact ⟨_, hid, fun ds hd => by cases hd; rw [(plain_renL hc).1]⟩
    | succ i => simp at hi
  · have e2 : putBack st.h [id] [none, some cs'] = st.h.set id none ++ [some cs'] := by
      simp only [putBack, List.map, Option.map_none, Option.map_some, List.zip_cons_cons, List.zip_nil_left, List.foldl, List.length_cons, List.length_nil, List.drop_succ_cons, List.drop_zero]
      rw [(plain_renL hc').1]
    rw [e1, e2]; exact hk
end

theorem cells_drop : ∀ (j : Nat) (c : List Pt), (cells c).drop (j * 2) = cells (c.drop j)
  | 0, c => by simp
  | j + 1, [] => by simp [cells_nil]
  | j + 1, p :: c => by
    rw [cells_cons, show (j + 1) * 2 = j * 2 + 1 + 1 by omega, List.drop_succ_cons, List.drop_succ_cons, List.drop_succ_cons]
    exact cells_drop j c
theorem cells_take : ∀ (j : Nat) (c : List Pt), (cells c).take (j * 2) = cells (c.take j)
  | 0, c => by simp [cells_nil]
  | j + 1, [] => by simp [cells_nil]
  | j + 1, p :: c => by
    rw [cells_cons, show (j + 1) * 2 = j * 2 + 1 + 1 by omega, List.take_succ_cons, List.take_succ_cons, List.take_succ_cons, cells_cons, cells_take j c]
theorem cells_flat (c : List Pt) : AV.flatL (cells c) = true := by
  induction c with
  | nil => rfl
  | cons p l ih => rw [cells_cons]; simp [AV.flatL, AV.flat, ih]
theorem weak_eq {k : Nat} {st : St} {r : AV} {h' : AHeap} (e1 : lookup st.s 0 = r) (e2 : h' = st.h) : weak k st ⟨[(0, r)], h'⟩ :=
  .inl ⟨fun p hp => by rw [List.mem_singleton] at hp; subst hp; exact e1, e2⟩

/-- slices.Clone -/
theorem g51 (m : Int) (c : List Pt) (h0 : 0 < c.length) (hl : c.length < 1000000) : SpecG (cx m) 51 [ePs c] [] (.own 2 0 0 c.length c.length) [some (cells c)] := by
  refine specG_of (mixed m) (k51 m) (Nat.le_of_ble_eq_true rfl) (Nat.zero_le _) (X_start ?_)
  unfold c51
  have e := pt_map c
  rcases c with _ | ⟨p, l⟩
  · simp at h0
  · rw [List.map_cons] at e
    simp -implicitDefEqProofs (disch := omega) only [KF, KR, KV0, KV1, KV2, KW, ↓bstep, ↓astep, ↓O1.eq_def, ↓onBool.eq_def, ↓onInt.eq_def, ↓onStr.eq_def, ↓onLo.eq_def, ↓binK.eq_def, ↓arith.eq_def, ↓strOp.eq_def, ↓srcElems.eq_def, ↓dst1.eq_def, args0, List.zipIdx, List.map, lookup, St.ev, St.set, St.setO, reduceCtorEq, AV.plain, AV.plainL, AV.flat, AV.flatL, AV.cells, Nat.reduceEqDiff, ↓reduceIte, List.drop, List.take, List.length, Nat.reduceAdd, Nat.reduceLeDiff, Nat.reduceMul, E.done, rvsK, rvK, resAV, Int.reduceToNat, Int.reduceLE, Int.reduceLT, Int.reduceNeg, Int.reduceAdd, Int.reduceSub, Int.reduceMul, Nat.reduceLT, AV.isElem, AV.one, ↓buildCells.eq_1, ↓buildCells.eq_2, Nat.reduceBEq, eqCells, ePs, onNil, List.map_cons]
    rw [List.length_cons] at hl
    simp only [List.length_map]
    refine ⟨by omega, by omega, weak_eq ?_ ?_⟩
    · simp [lookup]
    · rw [e]
/-- slices.Delete, of one point that is not the last -/
theorem g53 (m : Int) (c : List Pt) (i : Nat) (hi : i + 1 < c.length) (hl : c.length < 1000000) :
    SpecG (cx m) 53 [.own 2 0 0 c.length c.length, .int .i64 i, .int .i64 (i + 1 : Nat)] [some (cells c)] (.own 2 1 0 (c.length - 1) c.length) [none, some (cells (c.eraseIdx i) ++ [.str [], .str []])] := by
  refine specG_of (mixed m) (k53 m) (Nat.le_of_ble_eq_true rfl) (by simp) (X_start ?_)
  unfold c53
  have cl := cells_length c
  have f1 := eq_false (show ¬ (i : Int) = ((i + 1 : Nat) : Int) by omega)
  have f2 := eq_true (show i + 1 ≤ c.length by omega)
  have f3 := eq_true (show i ≤ i + 1 by omega)
  have f4 := eq_true (show i < c.length by omega)
  have f5 := eq_true (show i ≤ c.length by omega)
  have f6 := eq_true hi
  have f7 := eq_true (show i = 0 ∨ i < c.length by omega)
  refine WF (And.intro f1 (And.intro f2 (And.intro f3 (And.intro f4 (And.intro f5 (And.intro f6 or_true)))))) ?_
  obtain ⟨q, D, hD⟩ : ∃ q D, c.drop (i + 1) = q :: D := by
    cases h : c.drop (i + 1) with
    | nil => have := congrArg List.length h; simp at this; omega
    | cons q D => exact ⟨q, D, rfl⟩
  have hdl : D.length + 1 = c.length - (i + 1) := by
    have := congrArg List.length hD
    rw [List.length_drop, List.length_cons] at this; omega
  have hdr : (cells c).drop (0 + (i + 1) * 2) = cells (q :: D) := by rw [Nat.zero_add, cells_drop, hD]
  refine ⟨.inl trivial, (q :: D).map (fun p : Pt => AV.agg [.str (tq p.1), .str (tq p.2)]), ?_, ?_, ?_⟩
  · refine .own 2 0 _ _ _ (cells c) _ rfl (by rw [cl]; omega) (by simp; omega) (fun y hy => ?_) ?_
    · obtain ⟨z, _, rfl⟩ := List.mem_map.1 hy; rfl
    · rw [pt_map, hdr, show (c.length - (i + 1)) * 2 = (cells (q :: D)).length by rw [cells_length, List.length_cons]; omega, List.take_length]
      exact showsL_refl (cells_plain _)
  · rw [pt_map]; exact cells_flat _
  · have hpm := pt_map (q :: D)
    rw [List.map_cons] at hpm ⊢
    simp only [List.length_map, Nat.sub_zero, Nat.zero_add]
    rw [hpm]
    have e1 : i + (D.length + 1) = c.length - 1 := by omega
    have e2 : max (c.length - 1) c.length = c.length := by omega
    have e3 : c.length - (c.length - 1) = 1 := by omega
    have hA : (cells c).take (i * 2) ++ cells (q :: D) = cells (c.eraseIdx i) := by
      rw [cells_take, ← cells_append, ← hD, List.eraseIdx_eq_take_drop_succ]
    have hAl : (cells (c.eraseIdx i)).length = (c.length - 1) * 2 := by rw [cells_length, List.length_eraseIdx_of_lt (by omega)]
    rw [e1, e2, e3, ← List.append_assoc, hA]
    refine ⟨by rw [cl]; omega, by omega, by omega, by omega, by omega, .inr (by omega), by rw [List.length_append, hAl, List.length_replicate]; omega, ?_⟩
    refine weak_eq ?_ ?_
    · simp [lookup]
    · have h1 : List.take ((c.length - 1) * 2) (cells (c.eraseIdx i) ++ List.replicate (1 * 2) AV.undef) = cells (c.eraseIdx i) := by
        rw [← hAl, List.take_left]
      have h2 : List.drop ((c.length - 1) * 2 + 1 * 2) (cells (c.eraseIdx i) ++ List.replicate (1 * 2) AV.undef) = [] := by
        apply List.drop_eq_nil_of_le
        rw [List.length_append, hAl, List.length_replicate]; omega
      rw [h1, h2]; simp
end Go.Proofs.YtkjnjdcbnelceaaGreatDoor.KA
end

section
/- Contracts: polyline.Ring and Area. -/
open Go Go.Proofs
set_option linter.unusedSimpArgs false
set_option linter.unusedVariables false
set_option maxHeartbeats 1000000
set_option maxRecDepth 20000
namespace Go.Proofs.YtkjnjdcbnelceaaGreatDoor.KA
open Num Geo

/-- The doubled area of the first triangles. -/
def sA (c : List Pt) : Nat → Rat
  | 0 => 0
  | n + 1 => sA c n + ar (at' c 0) (at' c (n + 1)) (at' c (n + 2))
theorem bd_sA {c : List Pt} (h9 : all9 c) : ∀ n, n + 1 < c.length → bd (648 * n) 1 (sA c n)
  | 0, _ => ⟨by simp [sA], by simp [sA]⟩
  | n + 1, h => by
    have h1 := bd_add (bd_sA h9 n (by omega)) (bd_ar (h9.get (show 0 < c.length by omega)) (h9.get (show n + 1 < c.length by omega)) (h9.get (show n + 2 < c.length by omega)))
    exact bd_le h1 (by omega) (by omega)
theorem s66 (m : Int) (c : List Pt) (h9 : all9 c) (h3 : 3 ≤ c.length) (h8 : c.length ≤ 400) : SpecP (cx m) 66 [ePs c] (.str (tq (sA c (c.length - 2)))) := by
  refine specP_of (mixed m) (k66 m) (Nat.le_of_ble_eq_true rfl) (X_start ?_)
  unfold c66
  refine WW ?_
  refine X_for (fun j : Nat => ⟨[(0, ePs c), (3, .str (tq (sA c j))), (4, .int .i64 (j + 2 : Nat))], []⟩) (fun j => j + 2 ≤ c.length) (fun j => c.length - j) 0 (by omega) ?_ ?_
  · exact weak_keep (by simp [lookup, sA, tq_zero])
  intro j R j1 hR
  try dsimp only at hR ⊢
  rcases Nat.lt_or_ge (j + 2) c.length with hj | hj
  · have x0 := get_pt (show 0 < c.length by omega)
    have x1 := get_pt (show j + 1 < c.length by omega)
    have x2 := get_pt hj
    have p1 : (((j + 2 : Nat) : Int) - 1) = ((j + 1 : Nat) : Int) := by omega
    have a := s52 m _ _ _ (h9.get (show 0 < c.length by omega)) (h9.get (show j + 1 < c.length by omega)) (h9.get hj)
    have b1 := bd_sA h9 j (by omega)
    have b2 := bd_ar (h9.get (show 0 < c.length by omega)) (h9.get (show j + 1 < c.length by omega)) (h9.get hj)
    unfold eP at a
    refine WF (And.intro @ePs.eq_1 (And.intro @List.length_map.{0,0} (And.intro hj (And.intro x0 (And.intro p1 (And.intro x1 x2)))))) ?_
    refine CL_pure a rfl ?_
    refine WW ?_
    refine CL_pure (s29 m _ _ (bd_qk b1 (by omega) (by omega)) (qk1 b2)) rfl ?_
    refine WW ?_
    exact hR (j + 1) _ (by omega) (by omega) (weak_keep (by simp [lookup, ePs, sA]; omega))
  · have hj' : ¬ j + 2 < c.length := by omega
    refine WF (And.intro @ePs.eq_1 (And.intro @List.length_map.{0,0} hj')) ?_
    exact shs (by rw [show c.length - 2 = j by omega])

/-- Two neighbours of a ring are the same. -/
def twinR (c : List Pt) : Prop := ∃ i, i < c.length ∧ at' c ((i + c.length - 1) % c.length) = at' c i
open Classical in
noncomputable def ringP (c : List Pt) : Int := if twinR c then 17 else if simpleB c c.length then 0 else 26
theorem s38 (m : Int) (c : List Pt) (h9 : all9 c) (h3 : 3 ≤ c.length) (h400 : c.length ≤ 400) : SpecP (cx m) 38 [ePs c] (.int .i64 (ringP c)) := by
  refine specP_of (mixed m) (k38 m) (Nat.le_of_ble_eq_true rfl) (X_start ?_)
  unfold c38
  have a1 : ¬ (c.length : Int) < 3 := by omega
  have a2 : ¬ (400 : Int) < (c.length : Int) := by omega
  refine WF (And.intro @ePs.eq_1 (And.intro @List.length_map.{0,0} (And.intro a1 a2))) ?_
  refine X_for (fun i : Nat => ⟨[(0, ePs c), (13, ePs c), (14, .int .i64 c.length), (15, .int .i64 i)], []⟩) (fun i => i ≤ c.length ∧ ∀ j, j < i → at' c ((j + c.length - 1) % c.length) ≠ at' c j) (fun i => c.length - i) 0 ⟨Nat.zero_le _, fun j h => absurd h (Nat.not_lt_zero _)⟩ ?_ ?_
  · exact weak_keep (by simp [lookup, ePs])
  intro i R ⟨i1, i2⟩ hR
  try dsimp only at hR ⊢
  rcases Nat.lt_or_ge i c.length with hi | hi
  · have x1 := get_pt hi
    have hq : (i + c.length - 1) % c.length < c.length := Nat.mod_lt _ (by omega)
    have x2 := get_pt hq
    have cp := s49 m (at' c i) (h9.get hi).q.1 (h9.get hi).q.2
    unfold eP at cp
    have p1 : ((i : Int) + (c.length : Int) - 1).tmod (c.length : Int) = (((i + c.length - 1) % c.length : Nat) : Int) := by
      rw [show (i : Int) + (c.length : Int) - 1 = ((i + c.length - 1 : Nat) : Int) by omega]; exact (Int.ofNat_tmod _ _).symm
    have hn0 : ¬ ((c.length : Int) = 0) := by omega
    have pe := pt_eq' (at' c ((i + c.length - 1) % c.length)) (at' c i)
    refine WF (And.intro @ePs.eq_1 (And.intro @List.length_map.{0,0} (And.intro hi x1))) ?_
    refine CL_pure cp rfl ?_
    by_cases e : at' c ((i + c.length - 1) % c.length) = at' c i
    · rw [decide_eq_true e] at pe
      refine WF (And.intro @List.length_map.{0,0} (And.intro p1 (And.intro hn0 (And.intro x2 pe)))) ?_
      refine shi ?_
      unfold ringP
      rw [if_pos ⟨i, hi, e⟩]
    · rw [decide_eq_false e] at pe
      refine WF (And.intro @List.length_map.{0,0} (And.intro p1 (And.intro hn0 (And.intro x2 pe)))) ?_
      refine hR (i + 1) _ ⟨by omega, fun j h => ?_⟩ (by omega) (weak_none (by simp [lookup, ePs, AV.plain]))
      by_cases ej : j = i
      · rw [ej]; exact e
      · exact i2 j (by omega)
  · have hi' : ¬ i < c.length := by omega
    have sp := s80 m c c.length h9 (by omega) (by omega)
    unfold ePs at sp
    refine WF (And.intro @ePs.eq_1 (And.intro @List.length_map.{0,0} hi')) ?_
    refine CL_pure sp rfl ?_
    refine WW ?_
    refine shi ?_
    have nt : ¬ twinR c := by
      rintro ⟨j, j1, j2⟩
      exact i2 j (by omega) j2
    unfold ringP
    rw [if_neg nt]
/-- polyline.Area, of a ring -/
theorem s30 (m : Int) (c : List Pt) (h9 : all9 c) (h3 : 3 ≤ c.length) (h400 : c.length ≤ 400) (hr : ringP c = 0) : SpecP (cx m) 30 [ePs c] (.tuple [.str (tq (sA c (c.length - 2))), .int .i64 0]) := by
  refine specP_of (mixed m) (k30 m) (Nat.le_of_ble_eq_true rfl) (X_start ?_)
  unfold c30
  have sr := s38 m c h9 h3 h400
  rw [hr] at sr
  have b := bd_sA h9 (c.length - 2) (by omega)
  refine WW ?_
  refine CL_pure sr rfl ?_
  refine WW ?_
  refine CL_pure (s66 m c h9 h3 h400) rfl ?_
  refine WW ?_
  refine CL_pure (s50 m _ (bd_qk b (by omega) (by omega))) rfl ?_
  refine WW ?_
  exact shv rfl rfl
end Go.Proofs.YtkjnjdcbnelceaaGreatDoor.KA
end

section
/- Contracts: Clone and Delete of a slice with room; the checks as they can be reckoned. -/
open Go Go.Proofs
set_option linter.unusedSimpArgs false
set_option linter.unusedVariables false
set_option maxHeartbeats 1000000
set_option maxRecDepth 20000
namespace Go.Proofs.YtkjnjdcbnelceaaGreatDoor.KA
open Num Geo

def twinD (c : List Pt) : Bool := (List.range (c.length - 1)).any fun i => decide (at' c i = at' c (i + 1))
def simpleD (c : List Pt) (segs : Nat) : Bool := (List.range segs).all fun k => (List.range k).all fun i => !crossedP c segs i k
theorem twinD_iff (c : List Pt) : twinD c = true ↔ twin c := by
  unfold twinD twin
  rw [List.any_eq_true]
  constructor
  · rintro ⟨i, hi, h⟩
    rw [List.mem_range] at hi
    exact ⟨i, by omega, by simpa using h⟩
  · rintro ⟨i, hi, h⟩
    exact ⟨i, List.mem_range.2 (by omega), by simpa using h⟩
theorem simpleD_iff (c : List Pt) (segs : Nat) : simpleD c segs = true ↔ simpleB c segs := by
  unfold simpleD simpleB
  rw [List.all_eq_true]
  constructor
  · intro h i k hik hk
    have := List.all_eq_true.1 (h k (List.mem_range.2 hk)) i (List.mem_range.2 hik)
    simpa using this
  · intro h k hk
    rw [List.all_eq_true]
    intro i hi
    rw [List.mem_range] at hk hi
    simpa using h i k hi hk
def checkD (c : List Pt) : Int := if twinD c then 17 else if simpleD c (c.length - 1) then 0 else 26
theorem checkD_eq (c : List Pt) : checkP c = checkD c := by
  unfold checkP checkD
  by_cases h : twin c
  · rw [if_pos h, if_pos ((twinD_iff c).2 h)]
  · rw [if_neg h, if_neg (fun h2 => h ((twinD_iff c).1 h2))]
    by_cases h3 : simpleB c (c.length - 1)
    · rw [if_pos h3, if_pos ((simpleD_iff c _).2 h3)]
    · rw [if_neg h3, if_neg (fun h2 => h3 ((simpleD_iff c _).1 h2))]
def twinRD (c : List Pt) : Bool := (List.range c.length).any fun i => decide (at' c ((i + c.length - 1) % c.length) = at' c i)
theorem ring_ok {c : List Pt} (h1 : twinRD c = false) (h2 : simpleD c c.length = true) : ringP c = 0 := by
  unfold ringP
  rw [if_neg, if_pos ((simpleD_iff c _).1 h2)]
  rintro ⟨i, hi, h⟩
  have : twinRD c = true := by
    unfold twinRD
    rw [List.any_eq_true]
    exact ⟨i, List.mem_range.2 hi, by simpa using h⟩
  rw [h1] at this; cases this

section
variable {c : Ctx} {k : Nat} {fs : List F} {st : St} {Q : E → St → Prop} {l : List GI}
/-- A call that is handed a block, leaves it, and gives a new one. -/
theorem CL_hand {d : Option Nat} {f : FuncId} {args az : List AV} {r : AV} {cs cs' : List AV} (id : Nat) (h : SpecG c f az [some cs] r [some cs, some cs']) (hid : st.h[id]? = some (some cs)) (hc : AV.plainL cs = true) (hc' : AV.plainL cs' = true)
    (ha : args = AV.renL (fun i => if i = 0 then id else st.h.length + (i - 1)) az)
    (hk : Y c k l fs (({ st with h := st.h ++ [some cs'] } : St).setO d (r.ren fun i => if i = 0 then id else st.h.length + (i - 1))) Q) : CL c k d f args true l fs st Q := by
  have e1 : place [id] st.h.length = fun i => if i = 0 then id else st.h.length + (i - 1) := by
    funext i
    unfold place
    cases i with
    | zero => rfl
    | succ i => simp
  have hlt := (List.getElem?_eq_some_iff.1 hid).1
  refine ⟨.inr (.inr ⟨rfl, [id], az, [some cs], r, [some cs, some cs'], h, by rw [e1]; exact ha, rfl, by simp, fun i hi => by
    rw [List.mem_singleton] at hi; subst hi; exact hlt, fun i k o hi ho => ?_, ?_⟩)⟩
  · cases i with
    | zero =>
      simp only [List.getElem?_cons_zero, Option.some.injEq] at hi ho
      subst hi; subst ho
      exact ⟨_, hid, fun ds hd => by cases hd; rw [(plain_renL hc).1]⟩
    | succ i => simp at hi
  · have e2 : putBack st.h [id] [some cs, some cs'] = st.h ++ [some cs'] := by
      simp only [putBack, List.map, Option.map_some, List.zip_cons_cons, List.zip_nil_left, List.foldl, List.length_cons, List.length_nil, List.drop_succ_cons, List.drop_zero]
      rw [(plain_renL hc').1, (plain_renL hc).1]
      congr 1
      refine List.ext_getElem? fun j => ?_
      by_cases e : j = id
      · subst e; rw [hid]; simp [hlt]
      · rw [List.getElem?_set_ne (Ne.symm e)]
    rw [e1, e2]; exact hk
end

theorem cells_shows {h : AHeap} {id n q : Nat} {c : List Pt} {J : List AV} (hh : h[id]? = some (some (cells c ++ J))) (hn : n = c.length) : Shows h (.own 2 id 0 n q) (ePs c) := by
  subst hn
  refine .own 2 id 0 _ _ (cells c ++ J) _ hh (by rw [List.length_append, cells_length]; omega) (by simp) (fun y hy => ?_) ?_
  · obtain ⟨z, _, rfl⟩ := List.mem_map.1 hy; rfl
  · rw [pt_map, List.drop_zero, ← cells_length, List.take_left]
    exact showsL_refl (cells_plain _)

/-- slices.Clone, of a slice that is owned -/
theorem h51 (m : Int) (c : List Pt) (q : Nat) (J : List AV) (h0 : 0 < c.length) (hl : c.length < 1000000) : SpecG (cx m) 51 [.own 2 0 0 c.length q] [some (cells c ++ J)] (.own 2 1 0 c.length c.length) [some (cells c ++ J), some (cells c)] := by
  refine specG_of (mixed m) (k51 m) (Nat.le_of_ble_eq_true rfl) (by simp) (X_start ?_)
  unfold c51
  have e := pt_map c
  simp -implicitDefEqProofs (disch := omega) only [KF, KR, KV0, KV1, KV2, KW, ↓bstep, ↓astep, ↓O1.eq_def, ↓onBool.eq_def, ↓onInt.eq_def, ↓onStr.eq_def, ↓onLo.eq_def, ↓binK.eq_def, ↓arith.eq_def, ↓strOp.eq_def, ↓srcElems.eq_def, ↓dst1.eq_def, args0, List.zipIdx, List.map, lookup, St.ev, St.set, St.setO, reduceCtorEq, AV.plain, AV.plainL, AV.flat, AV.flatL, AV.cells, Nat.reduceEqDiff, ↓reduceIte, List.drop, List.take, List.length, Nat.reduceAdd, Nat.reduceLeDiff, Nat.reduceMul, E.done, rvsK, rvK, resAV, Int.reduceToNat, Int.reduceLE, Int.reduceLT, Int.reduceNeg, Int.reduceAdd, Int.reduceSub, Int.reduceMul, Nat.reduceLT, AV.isElem, AV.one, ↓buildCells.eq_1, ↓buildCells.eq_2, Nat.reduceBEq, eqCells, onNil]
  refine ⟨c.map (fun p : Pt => AV.agg [.str (tq p.1), .str (tq p.2)]), cells_shows (J := J) rfl rfl, by rw [e]; exact cells_flat _, ?_⟩
  rcases c with _ | ⟨p, l⟩
  · simp at h0
  · rw [List.map_cons] at e ⊢
    rw [List.length_cons] at hl
    simp only [List.length_map, Nat.zero_add]
    refine ⟨by omega, by omega, weak_eq ?_ ?_⟩
    · simp [lookup]
    · rw [e]
/-- slices.Delete, of a slice with room behind it -/
theorem h53 (m : Int) (c : List Pt) (i q : Nat) (J : List AV) (hi : i + 1 < c.length) (hq : c.length ≤ q) (hJ : J.length = (q - c.length) * 2) (hl : q < 1000000) :
    SpecG (cx m) 53 [.own 2 0 0 c.length q, .int .i64 i, .int .i64 (i + 1 : Nat)] [some (cells c ++ J)] (.own 2 1 0 (c.length - 1) q) [none, some (cells (c.eraseIdx i) ++ ([.str [], .str []] ++ List.replicate ((q - c.length) * 2) AV.undef))] := by
  refine specG_of (mixed m) (k53 m) (Nat.le_of_ble_eq_true rfl) (by simp) (X_start ?_)
  unfold c53
  have cl := cells_length c
  have f1 := eq_false (show ¬ (i : Int) = ((i + 1 : Nat) : Int) by omega)
  have f2 := eq_true (show i + 1 ≤ c.length by omega)
  have f3 := eq_true (show i ≤ i + 1 by omega)
  have f4 := eq_true (show i < c.length by omega)
  have f5 := eq_true (show i ≤ c.length by omega)
  have f6 := eq_true hi
  have g1 := eq_true hq
  have g2 := eq_true (show i ≤ q by omega)
  have g3 := eq_true (show i < q by omega)
  have g4 := eq_true (show i + 1 < q by omega)
  refine WF (And.intro f1 (And.intro f2 (And.intro f3 (And.intro f4 (And.intro f5 (And.intro f6 (And.intro or_true (And.intro g1 (And.intro g2 (And.intro g3 g4)))))))))) ?_
  obtain ⟨p, D, hD⟩ : ∃ p D, c.drop (i + 1) = p :: D := by
    cases h : c.drop (i + 1) with
    | nil => have := congrArg List.length h; simp at this; omega
    | cons p D => exact ⟨p, D, rfl⟩
  have hdl : D.length + 1 = c.length - (i + 1) := by
    have := congrArg List.length hD
    rw [List.length_drop, List.length_cons] at this; omega
  have hdr : ((cells c ++ J).drop (0 + (i + 1) * 2)).take ((c.length - (i + 1)) * 2) = cells (p :: D) := by
    rw [Nat.zero_add, List.drop_append_of_le_length (by rw [cl]; omega), cells_drop, hD, show (c.length - (i + 1)) * 2 = (cells (p :: D)).length by rw [cells_length, List.length_cons]; omega, List.take_left]
  refine ⟨.inl trivial, (p :: D).map (fun p : Pt => AV.agg [.str (tq p.1), .str (tq p.2)]), ?_, ?_, ?_⟩
  · refine .own 2 0 _ _ _ (cells c ++ J) _ rfl (by rw [List.length_append, cl]; omega) (by simp; omega) (fun y hy => ?_) ?_
    · obtain ⟨z, _, rfl⟩ := List.mem_map.1 hy; rfl
    · rw [pt_map, hdr]
      exact showsL_refl (cells_plain _)
  · rw [pt_map]; exact cells_flat _
  · have hpm := pt_map (p :: D)
    rw [List.map_cons] at hpm ⊢
    simp only [List.length_map, Nat.sub_zero, Nat.zero_add]
    rw [hpm]
    have e1 : i + (D.length + 1) = c.length - 1 := by omega
    have e2 : max (c.length - 1) q = q := by omega
    have e3 : c.length - (c.length - 1) = 1 := by omega
    have hA : (cells c ++ J).take (i * 2) ++ cells (p :: D) = cells (c.eraseIdx i) := by
      rw [List.take_append_of_le_length (by rw [cl]; omega), cells_take, ← cells_append, ← hD, List.eraseIdx_eq_take_drop_succ]
    have hAl : (cells (c.eraseIdx i)).length = (c.length - 1) * 2 := by rw [cells_length, List.length_eraseIdx_of_lt (by omega)]
    rw [e1, e2, e3, ← List.append_assoc, hA]
    refine ⟨by rw [List.length_append, cl]; omega, by omega, by omega, by omega, by omega, .inr (by omega), by rw [List.length_append, hAl, List.length_replicate]; omega, ?_⟩
    refine weak_eq ?_ ?_
    · simp [lookup]
    · have h1 : List.take ((c.length - 1) * 2) (cells (c.eraseIdx i) ++ List.replicate ((q - (c.length - 1)) * 2) AV.undef) = cells (c.eraseIdx i) := by
        rw [← hAl, List.take_left]
      have h2 : List.drop ((c.length - 1) * 2 + 1 * 2) (cells (c.eraseIdx i) ++ List.replicate ((q - (c.length - 1)) * 2) AV.undef) = List.replicate ((q - c.length) * 2) AV.undef := by
        rw [← hAl, ← List.drop_drop, List.drop_left, List.drop_replicate]
        congr 1; omega
      rw [h1, h2]; simp
end Go.Proofs.YtkjnjdcbnelceaaGreatDoor.KA
end

section
/- Contract: polyline.Simplify, of chains of small points. -/
open Go Go.Proofs
set_option linter.unusedSimpArgs false
set_option linter.unusedVariables false
set_option maxHeartbeats 1000000
set_option maxRecDepth 20000
namespace Go.Proofs.YtkjnjdcbnelceaaGreatDoor.KA
open Num Geo

def absq (x : Rat) : Rat := if x < 0 then -x else x
theorem bd_abs {N D : Nat} {x : Rat} (h : bd N D x) : bd N D (absq x) := by unfold absq; split; exact bd_neg h; exact h
def triS (L : List Pt) (i : Nat) : Rat := absq (ar (at' L (i - 1)) (at' L i) (at' L (i + 1)))
def stepS (L : List Pt) (i : Nat) (p : Int × Rat) : Int × Rat :=
  if cm (triS L i) p.2 > 0 ∨ (cm (triS L i) p.2 = 0 ∧ p.1 ≥ 0) then p else if checkD (L.eraseIdx i) = 0 then ((i : Int), triS L i) else p
def pickS (L : List Pt) (most : Rat) : Nat → Int × Rat
  | 0 => (-1, most)
  | n + 1 => stepS L (n + 1) (pickS L most n)
def nextS (L : List Pt) (most : Rat) : Option (List Pt) :=
  if (pickS L most (L.length - 2)).1 < 0 then none else some (L.eraseIdx (pickS L most (L.length - 2)).1.toNat)
def simpS : Nat → List Pt → Rat → List Pt
  | 0, L, _ => L
  | f + 1, L, most => match nextS L most with
    | none => L
    | some L' => simpS f L' most
theorem pick_ok {L : List Pt} {most : Rat} (h9 : all9 L) (hm : qk most) : ∀ n, n + 1 < L.length → ((pickS L most n).1 = -1 ∨ ∃ j : Nat, (pickS L most n).1 = j ∧ 1 ≤ j ∧ j ≤ n) ∧ qk (pickS L most n).2
  | 0, _ => ⟨.inl rfl, hm⟩
  | n + 1, h => by
    obtain ⟨h1, h2⟩ := pick_ok h9 hm n (by omega)
    have b : qk (triS L (n + 1)) := by
      unfold triS
      exact qk1 (bd_abs (bd_ar (h9.get (by omega)) (h9.get (by omega)) (h9.get (by omega))))
    have old : ((pickS L most n).1 = -1 ∨ ∃ j : Nat, (pickS L most n).1 = j ∧ 1 ≤ j ∧ j ≤ n + 1) ∧ qk (pickS L most n).2 := ⟨h1.elim .inl (fun ⟨j, a, b, c⟩ => .inr ⟨j, a, b, by omega⟩), h2⟩
    show ((stepS L (n + 1) (pickS L most n)).1 = -1 ∨ _) ∧ _
    simp only [pickS]
    unfold stepS
    split
    · exact old
    · split
      · exact ⟨.inr ⟨n + 1, rfl, by omega, by omega⟩, b⟩
      · exact old
theorem all9.erase {c : List Pt} (h : all9 c) (i : Nat) : all9 (c.eraseIdx i) := fun p hp => h p (List.mem_of_mem_eraseIdx hp)
theorem cells_atJ (l : List Pt) (J : List AV) (j : Nat) (p : Pt) (h : l[j]? = some p) : ((cells l ++ J).drop (0 + j * 2)).take 2 = [.str (tq p.1), .str (tq p.2)] := by
  have hj := (List.getElem?_eq_some_iff.1 h).1
  have hd : 2 ≤ ((cells l).drop (0 + j * 2)).length := by rw [List.length_drop, cells_length]; omega
  rw [List.drop_append_of_le_length (by rw [cells_length]; omega), List.take_append_of_le_length hd]
  exact cells_at l j p h
theorem weak_keep' {k : Nat} {st : St} {s : List (Nat × AV)} {h' : AHeap} (h : ∀ p ∈ s, lookup st.s p.1 = p.2) (e : h' = st.h) : weak k st ⟨s, h'⟩ := .inl ⟨h, e⟩
theorem at_get {c : List Pt} {j : Nat} (h : j < c.length) : c[j]? = some (at' c j) := by simp [at', h]

theorem s16 (m : Int) (c : List Pt) (most : Rat) (h9 : all9 c) (h2 : 2 ≤ c.length) (h400 : c.length ≤ 400) (hc : checkP c = 0) (hm : qk most) (h0 : 0 ≤ most) :
    SpecP (cx m) 16 [ePs c, .str (tq most)] (.tuple [ePs (simpS c.length c most), .int .i64 0]) := by
  refine specP_of (mixed m) (k16 m) (Nat.le_of_ble_eq_true rfl) (X_start ?_)
  unfold c16
  have sc := s42 m c h9 h2 h400
  rw [hc] at sc
  have sgm : ¬ sg most < 0 := by have := sg_ge.2 h0; omega
  refine WW ?_
  refine CL_pure sc rfl ?_
  refine WW ?_
  refine CL_pure (s50 m most hm) rfl ?_
  refine WW ?_
  refine CL_pure (s18' m most) rfl ?_
  refine WF sgm ?_
  refine CL_new (g51 m c (by omega) (by omega)) rfl (cells_plain c) ?_
  simp -implicitDefEqProofs (disch := omega) only [KF, KR, KV0, KV1, KV2, KW, ↓bstep, ↓astep, ↓O1.eq_def, ↓onBool.eq_def, ↓onInt.eq_def, ↓onStr.eq_def, ↓onLo.eq_def, ↓binK.eq_def, ↓arith.eq_def, ↓strOp.eq_def, ↓srcElems.eq_def, ↓dst1.eq_def, args0, List.zipIdx, List.map, lookup, St.ev, St.set, St.setO, reduceCtorEq, AV.plain, AV.plainL, AV.flat, AV.flatL, AV.cells, Nat.reduceEqDiff, ↓reduceIte, List.drop, List.take, List.length, Nat.reduceAdd, Nat.reduceLeDiff, Nat.reduceMul, E.done, rvsK, rvK, resAV, Int.reduceToNat, Int.reduceLE, Int.reduceLT, Int.reduceNeg, Int.reduceAdd, Int.reduceSub, Int.reduceMul, Nat.reduceLT, AV.isElem, AV.one, ↓buildCells.eq_1, ↓buildCells.eq_2, Nat.reduceBEq, eqCells, AV.ren, List.length_nil, Nat.zero_add]
  refine X_for (fun x : List Pt × Nat × List AV => ⟨[(1, .str (tq most)), (7, .own 2 0 0 x.1.length x.2.1)], [some (cells x.1 ++ x.2.2)]⟩)
    (fun x => all9 x.1 ∧ 2 ≤ x.1.length ∧ x.1.length ≤ x.2.1 ∧ x.2.1 ≤ 400 ∧ x.2.2.length = (x.2.1 - x.1.length) * 2 ∧ AV.plainL x.2.2 = true ∧ simpS x.1.length x.1 most = simpS c.length c most) (fun x => x.1.length) (c, c.length, []) ⟨h9, h2, Nat.le_refl _, h400, by simp, rfl, rfl⟩ ?_ ?_
  · refine weak_keep' ?_ ?_
    · simp [lookup]
    · simp
  rintro ⟨L, q, J⟩ R ⟨l9, l2, lq, q4, lJ, pJ, hS⟩ hR
  try dsimp only at hR ⊢ l9 l2 lq q4 lJ pJ hS
  have cl := cells_length L
  have pl : AV.plainL (cells L ++ J) = true := plainL_all fun x hx => (List.mem_append.1 hx).elim (plainL_mem (cells_plain L) x) (plainL_mem pJ x)
  refine WW ?_
  refine X_for (fun n : Nat => ⟨[(1, .str (tq most)), (7, .own 2 0 0 L.length q), (8, .int .i64 (pickS L most n).1), (9, .str (tq (pickS L most n).2)), (10, .int .i64 (n + 1 : Nat))], [some (cells L ++ J)]⟩)
    (fun n => n + 2 ≤ L.length) (fun n => L.length - n) 0 (by omega) ?_ ?_
  · exact weak_keep (by simp [lookup, pickS])
  intro n R' n1 hR'
  try dsimp only at hR' ⊢
  have e1 : (((n + 1 : Nat) : Int) + 1) = ((n + 2 : Nat) : Int) := by omega
  have e0 : (((n + 1 : Nat) : Int) - 1) = (n : Int) := by omega
  rcases Nat.lt_or_ge (n + 2) L.length with hn | hn
  · have a0 := cells_atJ L J n _ (at_get (show n < L.length by omega))
    have a1 := cells_atJ L J (n + 1) _ (at_get (show n + 1 < L.length by omega))
    have a2 := cells_atJ L J (n + 2) _ (at_get hn)
    have b0 := eq_true (show 0 + n * 2 + 2 ≤ (cells L ++ J).length by rw [List.length_append, cl]; omega)
    have b1 := eq_true (show 0 + (n + 1) * 2 + 2 ≤ (cells L ++ J).length by rw [List.length_append, cl]; omega)
    have b2 := eq_true (show 0 + (n + 2) * 2 + 2 ≤ (cells L ++ J).length by rw [List.length_append, cl]; omega)
    have d0 := eq_true (show n < L.length by omega)
    have d1 := eq_true (show n + 1 < L.length by omega)
    have ha := s52 m _ _ _ (l9.get (show n < L.length by omega)) (l9.get (show n + 1 < L.length by omega)) (l9.get hn)
    unfold eP at ha
    obtain ⟨k1, k2⟩ := pick_ok l9 hm n (by omega)
    have h19 : SpecP (cx m) 19 [.str (tq (ar (at' L n) (at' L (n + 1)) (at' L (n + 2))))] (.str (tq (triS L (n + 1)))) := s19 m _
    have qt : qk (triS L (n + 1)) := by
      unfold triS
      exact qk1 (bd_abs (bd_ar (l9.get (by omega)) (l9.get (by omega)) (l9.get (by omega))))
    have pk : -1 ≤ (pickS L most n).1 ∧ (pickS L most n).1 ≤ 400 := by
      rcases k1 with h | ⟨j, h, h', h''⟩ <;> omega
    refine WF (And.intro e0 (And.intro e1 (And.intro hn (And.intro a0 (And.intro a1 (And.intro a2 (And.intro b0 (And.intro b1 (And.intro b2 (And.intro d0 d1)))))))))) ?_
    refine CL_pure ha rfl ?_
    refine WW ?_
    refine CL_pure h19 rfl ?_
    refine WW ?_
    refine CL_pure (s21 m _ _ qt k2) rfl ?_
    by_cases sk : cm (triS L (n + 1)) (pickS L most n).2 > 0 ∨ (cm (triS L (n + 1)) (pickS L most n).2 = 0 ∧ (pickS L most n).1 ≥ 0)
    · have es : pickS L most (n + 1) = pickS L most n := by
        show stepS L (n + 1) (pickS L most n) = _
        unfold stepS; rw [if_pos sk]
      rcases sk with c1 | ⟨c2, c3⟩
      · have c1 := eq_true (show 0 < cm (triS L (n + 1)) (pickS L most n).2 from c1)
        refine WF c1 ?_
        refine hR' (n + 1) _ (by omega) (by omega) ?_
        rw [es]
        exact weak_keep (by simp [lookup])
      · have c1 := eq_false (show ¬ 0 < cm (triS L (n + 1)) (pickS L most n).2 by omega)
        have c2 := eq_true c2
        have c3 := eq_true (show 0 ≤ (pickS L most n).1 from c3)
        refine WF (And.intro c1 (And.intro c2 c3)) ?_
        refine hR' (n + 1) _ (by omega) (by omega) ?_
        rw [es]
        exact weak_keep (by simp [lookup])
    · have c1 := eq_false (show ¬ 0 < cm (triS L (n + 1)) (pickS L most n).2 from fun h => sk (.inl h))
      by_cases c2 : cm (triS L (n + 1)) (pickS L most n).2 = 0
      · have c3 := eq_false (show ¬ 0 ≤ (pickS L most n).1 from fun h => sk (.inr ⟨c2, h⟩))
        have c2' := eq_true c2
        refine WF (And.intro c1 (And.intro c2' c3)) ?_
        refine CL_hand 0 (h51 m L q J (by omega) (by omega)) rfl pl (cells_plain L) rfl ?_
        simp -implicitDefEqProofs (disch := omega) only [KF, KR, KV0, KV1, KV2, KW, ↓bstep, ↓astep, ↓O1.eq_def, ↓onBool.eq_def, ↓onInt.eq_def, ↓onStr.eq_def, ↓onLo.eq_def, ↓binK.eq_def, ↓arith.eq_def, ↓strOp.eq_def, ↓srcElems.eq_def, ↓dst1.eq_def, args0, List.zipIdx, List.map, lookup, St.ev, St.set, St.setO, reduceCtorEq, AV.plain, AV.plainL, AV.flat, AV.flatL, AV.cells, Nat.reduceEqDiff, ↓reduceIte, List.drop, List.take, List.length, Nat.reduceAdd, Nat.reduceLeDiff, Nat.reduceMul, E.done, rvsK, rvK, resAV, Int.reduceToNat, Int.reduceLE, Int.reduceLT, Int.reduceNeg, Int.reduceAdd, Int.reduceSub, Int.reduceMul, Nat.reduceLT, AV.isElem, AV.one, ↓buildCells.eq_1, ↓buildCells.eq_2, Nat.reduceBEq, eqCells, AV.ren, List.length_cons, List.length_nil, e1]
        refine CL_swap 1 (g53 m L (n + 1) (by omega) (by omega)) rfl (cells_plain L) (plainL_all fun x hx => (List.mem_append.1 hx).elim (plainL_mem (cells_plain _) x) (by simp; rintro (rfl | rfl) <;> rfl)) rfl ?_
        simp -implicitDefEqProofs (disch := omega) only [KF, KR, KV0, KV1, KV2, KW, ↓bstep, ↓astep, ↓O1.eq_def, ↓onBool.eq_def, ↓onInt.eq_def, ↓onStr.eq_def, ↓onLo.eq_def, ↓binK.eq_def, ↓arith.eq_def, ↓strOp.eq_def, ↓srcElems.eq_def, ↓dst1.eq_def, args0, List.zipIdx, List.map, lookup, St.ev, St.set, St.setO, reduceCtorEq, AV.plain, AV.plainL, AV.flat, AV.flatL, AV.cells, Nat.reduceEqDiff, ↓reduceIte, List.drop, List.take, List.length, Nat.reduceAdd, Nat.reduceLeDiff, Nat.reduceMul, E.done, rvsK, rvK, resAV, Int.reduceToNat, Int.reduceLE, Int.reduceLT, Int.reduceNeg, Int.reduceAdd, Int.reduceSub, Int.reduceMul, Nat.reduceLT, AV.isElem, AV.one, ↓buildCells.eq_1, ↓buildCells.eq_2, Nat.reduceBEq, eqCells, AV.ren, List.length_cons, List.length_nil]
        have hse := s42 m (L.eraseIdx (n + 1)) (l9.erase _) (by rw [List.length_eraseIdx_of_lt (by omega)]; omega) (by rw [List.length_eraseIdx_of_lt (by omega)]; omega)
        rw [checkD_eq] at hse
        refine CL_show hse (.cons _ _ _ _ (cells_shows (J := [.str [], .str []]) rfl (by rw [List.length_eraseIdx_of_lt (by omega)])) .nil) rfl ?_
        by_cases z : checkD (L.eraseIdx (n + 1)) = 0
        · refine WF z ?_
          refine hR' (n + 1) _ (by omega) (by omega) ?_
          have es : pickS L most (n + 1) = (((n + 1 : Nat) : Int), triS L (n + 1)) := by
            show stepS L (n + 1) (pickS L most n) = _
            unfold stepS; rw [if_neg sk, if_pos z]
          rw [es]
          exact weak_one 0 rfl pl (by simp [lookup, AV.ren, AV.idsLt])
        · refine WF z ?_
          refine hR' (n + 1) _ (by omega) (by omega) ?_
          have es : pickS L most (n + 1) = pickS L most n := by
            show stepS L (n + 1) (pickS L most n) = _
            unfold stepS; rw [if_neg sk, if_neg z]
          rw [es]
          exact weak_one 0 rfl pl (by simp [lookup, AV.ren, AV.idsLt])
      · have c2' := eq_false c2
        refine WF (And.intro c1 c2') ?_
        refine CL_hand 0 (h51 m L q J (by omega) (by omega)) rfl pl (cells_plain L) rfl ?_
        simp -implicitDefEqProofs (disch := omega) only [KF, KR, KV0, KV1, KV2, KW, ↓bstep, ↓astep, ↓O1.eq_def, ↓onBool.eq_def, ↓onInt.eq_def, ↓onStr.eq_def, ↓onLo.eq_def, ↓binK.eq_def, ↓arith.eq_def, ↓strOp.eq_def, ↓srcElems.eq_def, ↓dst1.eq_def, args0, List.zipIdx, List.map, lookup, St.ev, St.set, St.setO, reduceCtorEq, AV.plain, AV.plainL, AV.flat, AV.flatL, AV.cells, Nat.reduceEqDiff, ↓reduceIte, List.drop, List.take, List.length, Nat.reduceAdd, Nat.reduceLeDiff, Nat.reduceMul, E.done, rvsK, rvK, resAV, Int.reduceToNat, Int.reduceLE, Int.reduceLT, Int.reduceNeg, Int.reduceAdd, Int.reduceSub, Int.reduceMul, Nat.reduceLT, AV.isElem, AV.one, ↓buildCells.eq_1, ↓buildCells.eq_2, Nat.reduceBEq, eqCells, AV.ren, List.length_cons, List.length_nil, e1]
        refine CL_swap 1 (g53 m L (n + 1) (by omega) (by omega)) rfl (cells_plain L) (plainL_all fun x hx => (List.mem_append.1 hx).elim (plainL_mem (cells_plain _) x) (by simp; rintro (rfl | rfl) <;> rfl)) rfl ?_
        simp -implicitDefEqProofs (disch := omega) only [KF, KR, KV0, KV1, KV2, KW, ↓bstep, ↓astep, ↓O1.eq_def, ↓onBool.eq_def, ↓onInt.eq_def, ↓onStr.eq_def, ↓onLo.eq_def, ↓binK.eq_def, ↓arith.eq_def, ↓strOp.eq_def, ↓srcElems.eq_def, ↓dst1.eq_def, args0, List.zipIdx, List.map, lookup, St.ev, St.set, St.setO, reduceCtorEq, AV.plain, AV.plainL, AV.flat, AV.flatL, AV.cells, Nat.reduceEqDiff, ↓reduceIte, List.drop, List.take, List.length, Nat.reduceAdd, Nat.reduceLeDiff, Nat.reduceMul, E.done, rvsK, rvK, resAV, Int.reduceToNat, Int.reduceLE, Int.reduceLT, Int.reduceNeg, Int.reduceAdd, Int.reduceSub, Int.reduceMul, Nat.reduceLT, AV.isElem, AV.one, ↓buildCells.eq_1, ↓buildCells.eq_2, Nat.reduceBEq, eqCells, AV.ren, List.length_cons, List.length_nil]
        have hse := s42 m (L.eraseIdx (n + 1)) (l9.erase _) (by rw [List.length_eraseIdx_of_lt (by omega)]; omega) (by rw [List.length_eraseIdx_of_lt (by omega)]; omega)
        rw [checkD_eq] at hse
        refine CL_show hse (.cons _ _ _ _ (cells_shows (J := [.str [], .str []]) rfl (by rw [List.length_eraseIdx_of_lt (by omega)])) .nil) rfl ?_
        by_cases z : checkD (L.eraseIdx (n + 1)) = 0
        · refine WF z ?_
          refine hR' (n + 1) _ (by omega) (by omega) ?_
          have es : pickS L most (n + 1) = (((n + 1 : Nat) : Int), triS L (n + 1)) := by
            show stepS L (n + 1) (pickS L most n) = _
            unfold stepS; rw [if_neg sk, if_pos z]
          rw [es]
          exact weak_one 0 rfl pl (by simp [lookup, AV.ren, AV.idsLt])
        · refine WF z ?_
          refine hR' (n + 1) _ (by omega) (by omega) ?_
          have es : pickS L most (n + 1) = pickS L most n := by
            show stepS L (n + 1) (pickS L most n) = _
            unfold stepS; rw [if_neg sk, if_neg z]
          rw [es]
          exact weak_one 0 rfl pl (by simp [lookup, AV.ren, AV.idsLt])
  · have en : n = L.length - 2 := by omega
    have hn' : ¬ n + 2 < L.length := by omega
    obtain ⟨k1, k2⟩ := pick_ok l9 hm n (by omega)
    obtain ⟨f, hf⟩ : ∃ f, L.length = f + 1 := ⟨L.length - 1, by omega⟩
    by_cases neg : (pickS L most n).1 < 0
    · have hS' : L = simpS c.length c most := by
        rw [← hS, hf]
        unfold simpS nextS
        rw [← en, if_pos neg]
      refine WF (And.intro e1 (And.intro hn' neg)) ?_
      rw [← hS']
      exact .tuple _ _ (.cons _ _ _ _ (cells_shows (J := J) rfl rfl) (.cons _ _ _ _ (.same _ rfl) .nil))
    · rcases k1 with h | ⟨j, h, j1, j2⟩
      · omega
      · have ej : ((j : Int) + 1) = ((j + 1 : Nat) : Int) := by omega
        have neg' := eq_false (show ¬ (j : Int) < 0 by omega)
        refine WF (And.intro e1 (And.intro hn' (And.intro h (And.intro neg' ej)))) ?_
        have le := List.length_eraseIdx_of_lt (l := L) (i := j) (by omega)
        refine CL_swap 0 (h53 m L j q J (by omega) lq lJ (by omega)) rfl pl (plainL_all fun x hx => (List.mem_append.1 hx).elim (plainL_mem (cells_plain _) x) (by
          simp only [List.mem_append, List.mem_cons, List.mem_replicate, List.not_mem_nil, or_false]
          rintro ((rfl | rfl) | ⟨_, rfl⟩) <;> rfl)) rfl ?_
        simp -implicitDefEqProofs (disch := omega) only [KF, KR, KV0, KV1, KV2, KW, ↓bstep, ↓astep, ↓O1.eq_def, ↓onBool.eq_def, ↓onInt.eq_def, ↓onStr.eq_def, ↓onLo.eq_def, ↓binK.eq_def, ↓arith.eq_def, ↓strOp.eq_def, ↓srcElems.eq_def, ↓dst1.eq_def, args0, List.zipIdx, List.map, lookup, St.ev, St.set, St.setO, reduceCtorEq, AV.plain, AV.plainL, AV.flat, AV.flatL, AV.cells, Nat.reduceEqDiff, ↓reduceIte, List.drop, List.take, List.length, Nat.reduceAdd, Nat.reduceLeDiff, Nat.reduceMul, E.done, rvsK, rvK, resAV, Int.reduceToNat, Int.reduceLE, Int.reduceLT, Int.reduceNeg, Int.reduceAdd, Int.reduceSub, Int.reduceMul, Nat.reduceLT, AV.isElem, AV.one, ↓buildCells.eq_1, ↓buildCells.eq_2, Nat.reduceBEq, eqCells, AV.ren, List.length_cons, List.length_nil]
        refine hR (L.eraseIdx j, q, [.str [], .str []] ++ List.replicate ((q - L.length) * 2) AV.undef) _ ⟨l9.erase j, by dsimp only; rw [le]; omega, by dsimp only; rw [le]; omega, q4, by simp only [List.length_append, List.length_cons, List.length_nil, List.length_replicate]; rw [le]; omega, ?_, ?_⟩ (by dsimp only; rw [le]; omega) ?_
        · exact plainL_all fun x hx => by
            simp only [List.mem_append, List.mem_cons, List.mem_replicate, List.not_mem_nil, or_false] at hx
            rcases hx with (rfl | rfl) | ⟨_, rfl⟩ <;> rfl
        · dsimp only
          rw [← hS, le, hf]
          have : nextS L most = some (L.eraseIdx j) := by
            unfold nextS
            rw [← en, if_neg neg, h]; rfl
          show simpS (f + 1 - 1) _ most = simpS (f + 1) L most
          unfold simpS
          rw [this]
          cases f with
          | zero => omega
          | succ f => rfl
        · exact weak_one 1 rfl (plainL_all fun x hx => (List.mem_append.1 hx).elim (plainL_mem (cells_plain _) x) (by
            simp only [List.mem_append, List.mem_cons, List.mem_replicate, List.not_mem_nil, or_false]
            rintro ((rfl | rfl) | ⟨_, rfl⟩) <;> rfl)) (by simp [lookup, AV.ren, AV.idsLt, le])
end Go.Proofs.YtkjnjdcbnelceaaGreatDoor.KA
end

section
/- Contract: the known examples of the chapter. -/
open Go Go.Proofs
set_option linter.unusedSimpArgs false
set_option linter.unusedVariables false
set_option maxHeartbeats 1000000
set_option maxRecDepth 20000
namespace Go.Proofs.YtkjnjdcbnelceaaGreatDoor.KA
open Num Geo

def kA : List Pt := [(0, 0), (4, 0)]
def kB : List Pt := [(1, -1), (1, 1), (3, 1), (3, -1)]
def kC : List Pt := [(0, 0), (1, 0), (2, 1), (4, 0)]
def kD : List Pt := [(0, 0), (2, 0), (2, 2)]
theorem kA_ok : checkD kA = 0 := by decide +kernel
theorem kB_ok : checkD kB = 0 := by decide +kernel
theorem kC_ok : checkD kC = 0 := by decide +kernel
theorem kD_ok : twinRD kD = false ∧ simpleD kD kD.length = true := by decide +kernel
theorem kAB : hits (mP kA kB) 1 3 = [(0, 0, (1, 0)), (0, 2, (3, 0))] := by decide +kernel
theorem kC_simp : simpS 4 kC 1 = [(0, 0), (2, 1), (4, 0)] := by decide +kernel
theorem kD_area : sA kD 1 = 4 := by decide +kernel
def overD (a b : List Pt) : Bool := (List.range (a.length - 1)).any fun i => (List.range (b.length - 1)).any fun k => decide ((mP a b i k).1 = 2)
theorem kAB_over : overD kA kB = false := by decide +kernel
theorem overD_iff {a b : List Pt} (h : overD a b = false) : ¬ overP a b := by
  rintro ⟨i, k, h1, h2, h3⟩
  have : overD a b = true := by
    unfold overD
    rw [List.any_eq_true]
    refine ⟨i, List.mem_range.2 (by omega), ?_⟩
    rw [List.any_eq_true]
    exact ⟨k, List.mem_range.2 (by omega), by simpa using h3⟩
  rw [h] at this; cases this
theorem tq0 : tq 0 = [48] := tq_zero
theorem tq1 : tq 1 = [49] := tq_one
theorem tq2 : tq 2 = [50] := by rw [show (2 : Rat) = ((2 : Int) : Rat) from rfl, tq_int, itoa_nonneg (by omega), dec_small (by decide)]; rfl
theorem tq3 : tq 3 = [51] := by rw [show (3 : Rat) = ((3 : Int) : Rat) from rfl, tq_int, itoa_nonneg (by omega), dec_small (by decide)]; rfl
theorem tq4 : tq 4 = [52] := by rw [show (4 : Rat) = ((4 : Int) : Rat) from rfl, tq_int, itoa_nonneg (by omega), dec_small (by decide)]; rfl
theorem tqm : tq (-1) = [45, 49] := by rw [show (-1 : Rat) = ((-1 : Int) : Rat) from rfl, tq_int, itoa_neg (by omega), dec_small (by decide)]; rfl
theorem all9_of {c : List Pt} (h : (c.all fun p => decide (p.1.num.natAbs ≤ 9) && (decide (p.1.den ≤ 1) && (decide (p.2.num.natAbs ≤ 9) && decide (p.2.den ≤ 1)))) = true) : all9 c := by
  intro p hp
  have := List.all_eq_true.1 h p hp
  simp only [Bool.and_eq_true, decide_eq_true_eq] at this
  exact ⟨⟨this.1, this.2.1⟩, ⟨this.2.2.1, this.2.2.2⟩⟩
theorem kA9 : all9 kA := all9_of (by decide +kernel)
theorem kB9 : all9 kB := all9_of (by decide +kernel)
theorem kC9 : all9 kC := all9_of (by decide +kernel)
theorem kD9 : all9 kD := all9_of (by decide +kernel)
/-- klippelaw11.known -/
theorem s11 (m : Int) : SpecP (cx m) 11 [] (.bool true) := by
  refine specP_of (mixed m) (k11 m) (Nat.le_of_ble_eq_true rfl) (X_start ?_)
  unfold c11
  have x14 := s14 m kA kB kA9 kB9 (by decide) (by decide) (by decide) (by decide) ((checkD_eq _).trans kA_ok) ((checkD_eq _).trans kB_ok)
  rw [if_neg (overD_iff kAB_over), show kA.length - 1 = 1 from rfl, show kB.length - 1 = 3 from rfl, kAB] at x14
  have x16 := s16 m kC 1 kC9 (by decide) (by decide) ((checkD_eq _).trans kC_ok) (qk_of (by decide) (by decide)) (by decide)
  rw [show kC.length = 4 from rfl, kC_simp] at x16
  have x30 := s30 m kD kD9 (by decide) (by decide) (ring_ok kD_ok.1 kD_ok.2)
  rw [show kD.length - 2 = 1 from rfl, kD_area] at x30
  simp only [ePs, kA, kB, kC, kD, List.map_cons, List.map_nil, tq0, tq1, tq2, tq3, tq4, tqm, eX] at x14 x16 x30
  rw [show ((0 : Nat) : Int) = 0 from rfl, show ((2 : Nat) : Int) = 2 from rfl] at x14
  refine WW ?_
  refine CL_pure x14 rfl ?_
  refine WW ?_
  refine CL_pure x16 rfl ?_
  refine WW ?_
  refine CL_pure x30 rfl ?_
  simp -implicitDefEqProofs (disch := omega) only [KF, KR, KV0, KV1, KV2, KW, ↓bstep, ↓astep, ↓O1.eq_def, ↓onBool.eq_def, ↓onInt.eq_def, ↓onStr.eq_def, ↓onLo.eq_def, ↓binK.eq_def, ↓arith.eq_def, ↓strOp.eq_def, ↓srcElems.eq_def, ↓dst1.eq_def, args0, List.zipIdx, List.map, lookup, St.ev, St.set, St.setO, reduceCtorEq, AV.plain, AV.plainL, AV.flat, AV.flatL, AV.cells, Nat.reduceEqDiff, ↓reduceIte, List.drop, List.take, List.length, Nat.reduceAdd, Nat.reduceLeDiff, Nat.reduceMul, E.done, rvsK, rvK, resAV, Int.reduceToNat, Int.reduceLE, Int.reduceLT, Int.reduceNeg, Int.reduceAdd, Int.reduceSub, Int.reduceMul, Nat.reduceLT, AV.isElem, AV.one, ↓buildCells.eq_1, ↓buildCells.eq_2, Nat.reduceBEq, eqCells, and_self, List.cons.injEq]
  refine iteI (fun _ => iteI (fun _ => shb rfl) (fun h => absurd rfl h)) (fun h => absurd rfl h)
/-- klippelaw11.PolylineCrosses, whole -/
theorem crosses (m : Int) (l r : List (Int × Int)) (hl : in8 l) (hr : in8 r) : SpecP (cx m) 3 [eI8 l, eI8 r] (.bool true) :=
  s3 m (s11 m) l r hl hr
end Go.Proofs.YtkjnjdcbnelceaaGreatDoor.KA
end

section
/- Contracts of the library, laid at this program by the kit's tools, in plain words: the number that a text spells; a builder's text. -/
namespace Go.Proofs
open Go.Shelf
def Tryz.lays169_ren : Go.Shelf.Ren := ⟨fun | 169 => 157 | n => n, fun | 70 => 182 | 9 => 9 | 0 => 0 | 72 => 185 | 37 => 183 | 127 => 226 | 3 => 3 | 5 => 5 | n => n, fun | n => n⟩
theorem Tryz.lays169 : Go.Proofs.Lays.n169 Tryz.prog Tryz.lays169_ren := {
  mixed := by kernel_rfl
  f169 := Tryz.func157.trans (congrArg some (by kernel_rfl))
  t0 := Tryz.underlying0
  a0 := Tryz.isAgg0
  z0 := Tryz.sizeOf0
  v0 := Tryz.zeroValue0
  t3 := Tryz.underlying3
  a3 := Tryz.isAgg3
  z3 := Tryz.sizeOf3
  v3 := Tryz.zeroValue3
  t9 := Tryz.underlying9
  a9 := Tryz.isAgg9
  z9 := Tryz.sizeOf9
  v9 := Tryz.zeroValue9
  t37 := Tryz.underlying183
  a37 := Tryz.isAgg183
  z37 := Tryz.sizeOf183
  v37 := Tryz.zeroValue183
  t70 := Tryz.underlying182
  a70 := Tryz.isAgg182
  z70 := Tryz.sizeOf182
  v70 := Tryz.zeroValue182
  t72 := Tryz.underlying185
  a72 := Tryz.isAgg185
  z72 := Tryz.sizeOf185
  v72 := Tryz.zeroValue185
  t127 := Tryz.underlying226
  a127 := Tryz.isAgg226
  z127 := Tryz.sizeOf226
  v127 := Tryz.zeroValue226 }
theorem Tryz.Builder_Extra_169 : Builder.Extra Tryz.prog Tryz.lays169_ren := {
  sizeBuilder := by kernel_rfl
  liesBuilder := by kernel_rfl
  t5 := Tryz.underlying5
  a5 := Tryz.isAgg5
  z5 := Tryz.sizeOf5
  v5 := Tryz.zeroValue5
  infoByte := by kernel_rfl
  cellsByte := by kernel_rfl
  sizeByte := by kernel_rfl
  neB5 := by decide }
open Go.RowKit in
theorem Tryz.Builder_String_any_k (B b : Nat) (l : List UInt8) (w : World) (h : Lib.IsBuilderF 185 5 B b (Lib.byteCells l) w) (hBw : B ≤ w.heap.size) :
    Calls Tryz.prog 157 #[.pointer (some ⟨b, 0, none⟩)] w fun e w' => e = .returned (.string ⟨l.toArray⟩) ∧ (Lib.IsBuilderF 185 5 B b (Lib.byteCells l) w' ∧ Below B w w' ∧ Lib.OthersKept 5 (some b) w w') := Any.Builder_String_any_k Tryz.lays169 Tryz.Builder_Extra_169 B b l w h hBw
def Tryz.laysPu14_ren : Go.Shelf.Ren := ⟨fun | 14 => 151 | 16 => 204 | 17 => 203 | 19 => 232 | 20 => 233 | 21 => 228 | 22 => 229 | 23 => 230 | 24 => 231 | 25 => 250 | 27 => 116 | 26 => 251 | 28 => 158 | 29 => 208 | 30 => 235 | 31 => 236 | 32 => 237 | 33 => 238 | 35 => 168 | 34 => 252 | 36 => 253 | 37 => 254 | 38 => 255 | 39 => 259 | 40 => 260 | n => n, fun | 9 => 9 | 3 => 3 | 22 => 178 | 24 => 175 | 25 => 179 | 4 => 4 | 34 => 242 | 5 => 5 | 36 => 156 | 37 => 183 | 0 => 0 | 39 => 245 | 21 => 21 | 44 => 269 | 47 => 226 | 50 => 279 | 48 => 277 | 2 => 2 | 52 => 252 | 55 => 254 | 59 => 272 | 60 => 200 | 20 => 20 | 61 => 273 | 65 => 281 | 66 => 282 | 67 => 191 | n => n, fun | 0 => 1 | 1 => 2 | 2 => 3 | 3 => 4 | 4 => 5 | n => n⟩
theorem Tryz.laysPu14 : Go.Proofs.LaysPu.n14 Tryz.prog Tryz.laysPu14_ren := {
  mixed := by kernel_rfl
  f14 := Tryz.func151.trans (congrArg some (by kernel_rfl))
  f16 := Tryz.func204.trans (congrArg some (by kernel_rfl))
  f17 := Tryz.func203.trans (congrArg some (by kernel_rfl))
  f19 := Tryz.func232.trans (congrArg some (by kernel_rfl))
  f20 := Tryz.func233.trans (congrArg some (by kernel_rfl))
  f21 := Tryz.func228.trans (congrArg some (by kernel_rfl))
  f22 := Tryz.func229.trans (congrArg some (by kernel_rfl))
  f23 := Tryz.func230.trans (congrArg some (by kernel_rfl))
  f24 := Tryz.func231.trans (congrArg some (by kernel_rfl))
  f25 := Tryz.func250.trans (congrArg some (by kernel_rfl))
  f26 := Tryz.func251.trans (congrArg some (by kernel_rfl))
  f27 := Tryz.func116.trans (congrArg some (by kernel_rfl))
  f28 := Tryz.func158.trans (congrArg some (by kernel_rfl))
  f29 := Tryz.func208.trans (congrArg some (by kernel_rfl))
  f30 := Tryz.func235.trans (congrArg some (by kernel_rfl))
  f31 := Tryz.func236.trans (congrArg some (by kernel_rfl))
  f32 := Tryz.func237.trans (congrArg some (by kernel_rfl))
  f33 := Tryz.func238.trans (congrArg some (by kernel_rfl))
  f34 := Tryz.func252.trans (congrArg some (by kernel_rfl))
  f35 := Tryz.func168.trans (congrArg some (by kernel_rfl))
  f36 := Tryz.func253.trans (congrArg some (by kernel_rfl))
  f37 := Tryz.func254.trans (congrArg some (by kernel_rfl))
  f38 := Tryz.func255.trans (congrArg some (by kernel_rfl))
  f39 := Tryz.func259.trans (congrArg some (by kernel_rfl))
  f40 := Tryz.func260.trans (congrArg some (by kernel_rfl))
  t0 := Tryz.underlying0
  a0 := Tryz.isAgg0
  z0 := Tryz.sizeOf0
  v0 := Tryz.zeroValue0
  i0 := by kernel_rfl
  t2 := Tryz.underlying2
  a2 := Tryz.isAgg2
  z2 := Tryz.sizeOf2
  v2 := Tryz.zeroValue2
  i2 := by kernel_rfl
  t3 := Tryz.underlying3
  a3 := Tryz.isAgg3
  z3 := Tryz.sizeOf3
  v3 := Tryz.zeroValue3
  i3 := by kernel_rfl
  t4 := Tryz.underlying4
  a4 := Tryz.isAgg4
  z4 := Tryz.sizeOf4
  v4 := Tryz.zeroValue4
  i4 := by kernel_rfl
  t5 := Tryz.underlying5
  a5 := Tryz.isAgg5
  z5 := Tryz.sizeOf5
  v5 := Tryz.zeroValue5
  i5 := by kernel_rfl
  t9 := Tryz.underlying9
  a9 := Tryz.isAgg9
  z9 := Tryz.sizeOf9
  v9 := Tryz.zeroValue9
  i9 := by kernel_rfl
  t20 := Tryz.underlying20
  a20 := Tryz.isAgg20
  z20 := Tryz.sizeOf20
  v20 := Tryz.zeroValue20
  i20 := by kernel_rfl
  t21 := Tryz.underlying21
  a21 := Tryz.isAgg21
  z21 := Tryz.sizeOf21
  v21 := Tryz.zeroValue21
  i21 := by kernel_rfl
  t22 := Tryz.underlying178
  a22 := Tryz.isAgg178
  z22 := Tryz.sizeOf178
  v22 := Tryz.zeroValue178
  i22 := by kernel_rfl
  t24 := Tryz.underlying175
  a24 := Tryz.isAgg175
  z24 := Tryz.sizeOf175
  v24 := Tryz.zeroValue175
  i24 := by kernel_rfl
  t25 := Tryz.underlying179
  a25 := Tryz.isAgg179
  z25 := Tryz.sizeOf179
  v25 := Tryz.zeroValue179
  i25 := by kernel_rfl
  t34 := Tryz.underlying242
  a34 := Tryz.isAgg242
  z34 := Tryz.sizeOf242
  v34 := Tryz.zeroValue242
  i34 := by kernel_rfl
  c34 := by kernel_rfl
  t36 := Tryz.underlying156
  a36 := Tryz.isAgg156
  z36 := Tryz.sizeOf156
  v36 := Tryz.zeroValue156
  i36 := by kernel_rfl
  t37 := Tryz.underlying183
  a37 := Tryz.isAgg183
  z37 := Tryz.sizeOf183
  v37 := Tryz.zeroValue183
  i37 := by kernel_rfl
  t39 := Tryz.underlying245
  a39 := Tryz.isAgg245
  z39 := Tryz.sizeOf245
  v39 := Tryz.zeroValue245
  i39 := by kernel_rfl
  t44 := Tryz.underlying269
  a44 := Tryz.isAgg269
  z44 := Tryz.sizeOf269
  v44 := Tryz.zeroValue269
  i44 := by kernel_rfl
  t47 := Tryz.underlying226
  a47 := Tryz.isAgg226
  z47 := Tryz.sizeOf226
  v47 := Tryz.zeroValue226
  i47 := by kernel_rfl
  t48 := Tryz.underlying277
  a48 := Tryz.isAgg277
  z48 := Tryz.sizeOf277
  v48 := Tryz.zeroValue277
  i48 := by kernel_rfl
  t50 := Tryz.underlying279
  a50 := Tryz.isAgg279
  z50 := Tryz.sizeOf279
  v50 := Tryz.zeroValue279
  i50 := by kernel_rfl
  t52 := Tryz.underlying252
  a52 := Tryz.isAgg252
  z52 := Tryz.sizeOf252
  v52 := Tryz.zeroValue252
  i52 := by kernel_rfl
  t55 := Tryz.underlying254
  a55 := Tryz.isAgg254
  z55 := Tryz.sizeOf254
  v55 := Tryz.zeroValue254
  i55 := by kernel_rfl
  t59 := Tryz.underlying272
  a59 := Tryz.isAgg272
  z59 := Tryz.sizeOf272
  v59 := Tryz.zeroValue272
  i59 := by kernel_rfl
  t60 := Tryz.underlying200
  a60 := Tryz.isAgg200
  z60 := Tryz.sizeOf200
  v60 := Tryz.zeroValue200
  i60 := by kernel_rfl
  t61 := Tryz.underlying273
  a61 := Tryz.isAgg273
  z61 := Tryz.sizeOf273
  t65 := Tryz.underlying281
  a65 := Tryz.isAgg281
  z65 := Tryz.sizeOf281
  v65 := Tryz.zeroValue281
  i65 := by kernel_rfl
  t66 := Tryz.underlying282
  a66 := Tryz.isAgg282
  z66 := Tryz.sizeOf282
  v66 := Tryz.zeroValue282
  i66 := by kernel_rfl
  t67 := Tryz.underlying191
  a67 := Tryz.isAgg191
  z67 := Tryz.sizeOf191
  v67 := Tryz.zeroValue191
  i67 := by kernel_rfl
  g0 := by kernel_rfl
  m0 := by kernel_rfl
  g1 := by kernel_rfl
  m1 := by kernel_rfl
  g2 := by kernel_rfl
  m2 := by kernel_rfl
  g3 := by kernel_rfl
  m3 := by kernel_rfl
  g4 := by kernel_rfl
  m4 := by kernel_rfl }
open Go.RowKit in
theorem Tryz.strconv_ParseUint_10_at64_ok (s : ByteArray) (hmax : s.size ≤ 9223372036854775806) (u : Nat) (h : Lib.parseUintB 64 s.data.toList = .ok u) (w : World) :
    Calls Tryz.prog 151 #[.string s, .int .i64 10, .int .i64 64] w fun e w' => e = .returned (.tuple #[.int .u64 u, .nilIface]) ∧ (w' = w ∨ w' = Lib.bytesWorld w 5 s) := Any.strconv_ParseUint_10_at64_ok Tryz.laysPu14 s hmax u h w
end Go.Proofs
end

section
/- slices.Backward over a slice of uint64: the iterator calls its argument on the places and elements, from the last one down. -/
set_option linter.unusedVariables false
set_option linter.unusedSimpArgs false
set_option maxRecDepth 100000
set_option maxHeartbeats 2000000
namespace Go.Proofs.YtkjnjdcbnelceaaGreatDoor.KA
open Go Go.Proofs Go.RowKit

/-- What the iterator hands over: the places and the elements, from the last one down. -/
def bkItems (xs : List AV) : List (List AV) := (xs.zipIdx.map fun p => [AV.int .i64 p.2, p.1]).reverse
theorem bkItems_length (xs : List AV) : (bkItems xs).length = xs.length := by simp [bkItems]
theorem bkItems_get (xs : List AV) (k : Nat) (h : k < xs.length) : (bkItems xs)[k]? = some [AV.int .i64 ((xs.length - 1 - k : Nat) : Int), xs[xs.length - 1 - k]] := by
  unfold bkItems
  rw [List.getElem?_reverse (by simpa using h)]
  simp only [List.length_map, List.length_zipIdx, List.getElem?_map]
  rw [List.getElem?_zipIdx]
  rw [List.getElem?_eq_getElem (by omega)]
  simp

/-- Whole numbers as cells. -/
def u64s (ns : List Nat) : List AV := ns.map fun n : Nat => AV.int .u64 (n : Int)
theorem u64s_length (ns : List Nat) : (u64s ns).length = ns.length := by simp [u64s]
theorem u64s_get (ns : List Nat) (k : Nat) (h : k < ns.length) : (u64s ns)[k]? = some (.int .u64 (ns[k] : Int)) := by simp [u64s, h]
theorem u64s_flat (ns : List Nat) : (u64s ns).flatMap AV.cells = u64s ns := by
  induction ns with
  | nil => rfl
  | cons n ns ih => simp only [u64s, List.map_cons, List.flatMap_cons] at ih ⊢; rw [ih]; rfl

theorem bkRF {w : World} {fz : Nat → Prop} {ns : List Nat} {v : Value} (h : RF w fz (.fp [.sl 1 (u64s ns)]) v) : ∃ Bs o, v = .pointer (some ⟨Bs, o, none⟩) ∧
    ∃ base cap, w.cell? ⟨Bs, o, none⟩ = some (.slice base ns.length cap) ∧ (∀ k, k < ns.length → ∃ b off, base = some ⟨b, off, none⟩) ∧
      ∀ b off, base = some ⟨b, off, none⟩ → ∀ k (hk : k < ns.length), w.cell? ⟨b, off + k, none⟩ = some (.int .u64 (ns[k] : Int)) := by
  cases h with
  | fp _ b o g hb hg hr =>
    have e1 := hg 0 _ rfl
    have e2 := hr 0 _ rfl
    rw [Nat.add_zero] at e1
    generalize g 0 = s at e1 e2
    refine ⟨b, o, rfl, ?_⟩
    generalize hx : u64s ns = xs at e2
    have hl : xs.length = ns.length := by rw [← hx, u64s_length]
    cases e2 with
    | slnil =>
      have : ns = [] := List.eq_nil_of_length_eq_zero hl.symm
      subst this
      exact ⟨none, 0, e1, fun k hk => absurd hk (Nat.not_lt_zero _), fun b off e => by cases e⟩
    | sl _ _ b' off cap g' hb' hc hs hg' hr' =>
      refine ⟨some ⟨b', off, none⟩, cap, by rw [← hl]; exact e1, fun _ _ => ⟨b', off, rfl⟩, fun b off e k hk => ?_⟩
      cases e
      have hget : (xs.flatMap AV.cells)[k]? = some (.int .u64 (ns[k] : Int)) := by rw [← hx, u64s_flat, u64s_get _ _ hk]
      rw [hg' k _ hget, (hr' k _ hget).int_eq]

theorem i206 (m : Int) (ns : List Nat) (hlen : ns.length < 1000000000) : IterP (cx m) 206 [.fp [.sl 1 (u64s ns)]] (bkItems (u64s ns)) := by
  refine ⟨⟨Tryz.f206, _, by kernel_rfl, rfl, by kernel_rfl⟩, ?_⟩
  intro l w fz vs J X hvs hJ0 hok hJd hXd hY
  obtain ⟨v, rfl, hv⟩ := hvs.one
  obtain ⟨Bs, o0, rfl, base, cap, c0, cb, ck⟩ := bkRF hv
  show CallsIn (wideR none) 0 Tryz.prog 206 #[.func (.yield l) #[] #[], .pointer (some ⟨Bs, o0, none⟩)] w _
  change ∀ (i : Nat) (x : List AV) (w : World) (fz : Nat → Prop) (us : Array Value), _ → _ → _ → ∃ fn tmps assign body, (Instr.yield l us).run Tryz.prog w = _ ∧ RoundIn _ _ Tryz.prog l fn tmps assign body w _ at hY
  obtain ⟨F, hF⟩ : ∃ F, F = wideR none := ⟨_, rfl⟩
  rw [← hF] at hY ⊢
  have hro : F.round = none := by rw [hF]; rfl
  have hfn : ∀ f, F.fn f := fun f => by rw [hF]; trivial
  have hdep : F.depth = none := by rw [hF]; rfl
  clear hF
  refine callsIn_of_wp Tryz.func206 rfl (hfn _) ?_ hro
  simp only [Tryz.ntmps206, List.size_toArray, List.length_cons, List.length_nil, Nat.reduceAdd, Nat.reduceSub, Array.replicate_succ, Array.replicate_zero, List.push_toArray, List.append_toArray, List.nil_append, List.cons_append]
  gi_wp2
  gi_loopw [3] (fun i wr => ∃ k : Nat, k ≤ ns.length ∧ i = .int .i64 ((ns.length : Int) - 1 - k) ∧ ∃ fz', J k wr fz' ∧ RF wr fz' (.fp [.sl 1 (u64s ns)]) (.pointer (some ⟨Bs, o0, none⟩)))
    (fun i _ => (intOf i + 1).toNat)
  case atStart => exact ⟨0, Nat.zero_le _, by simp, fz, hJ0, hv⟩
  case round =>
    obtain ⟨k, hk, rfl, fz', hJs, hvr⟩ := hrel
    obtain ⟨Bs', o0', e0, base', cap', c0', cb', ck'⟩ := bkRF hvr
    cases e0
    by_cases hlt : k < ns.length
    · obtain ⟨b, off, rfl⟩ := cb' k hlt
      have hc := ck' b off rfl (ns.length - 1 - k) (by omega)
      have hi := bkItems_get (u64s ns) k (by rw [u64s_length]; exact hlt)
      simp only [u64s_length] at hi
      have hx : (u64s ns)[ns.length - 1 - k]'(by rw [u64s_length]; omega) = .int .u64 (ns[ns.length - 1 - k] : Int) := by simp [u64s]
      rw [hx] at hi
      obtain ⟨fn, tmps, assign, body, hy, hR⟩ := hY k _ wr fz' #[.int .i64 ((ns.length - 1 - k : Nat) : Int), .int .u64 (ns[ns.length - 1 - k] : Int)] hi hJs ⟨rfl, fun i a ha => by
        match i, ha with
        | 0, ha => cases ha; exact .int _ _
        | 1, ha => cases ha; exact .int _ _
        | n + 2, ha => simp at ha⟩
      have ei : (ns.length : Int) - 1 - k = ((ns.length - 1 - k : Nat) : Int) := by omega
      rw [ei]
      clear hx hi ei ck ck' cb cb'
      generalize ns[ns.length - 1 - k] = nv at hc hy
      obtain ⟨j, hj⟩ : ∃ j, j = ns.length - 1 - k := ⟨_, rfl⟩
      rw [← hj] at hc hy ⊢
      have hjl : j < ns.length := by omega
      have hj1 : j + k + 1 = ns.length := by omega
      clear hj
      gi_wp2
      refine hR.mono ?_
      rintro e W3 (⟨rfl, fz3, hJ3, hk3, hh3⟩ | ⟨rfl, hx3⟩)
      · gi_wp2
        go_roundw
        case rel => exact ⟨k + 1, by omega, by simp; omega, fz3, hJ3, hvr.mono hh3 hk3⟩
        case measure => simp [intOf]
      · gi_wp2
        refine bodyPost_ret (results_none rfl _ _ _) rfl ?_
        exact ⟨⟨_, rfl⟩, .inr hx3⟩
    · obtain rfl : k = ns.length := by omega
      gi_wp2
      go_end0
      exact ⟨⟨_, rfl⟩, .inl ⟨fz', by rw [bkItems_length, u64s_length]; exact hJs⟩⟩
end Go.Proofs.YtkjnjdcbnelceaaGreatDoor.KA
end

section
/- strings.Builder and strconv.FormatUint, as the kit's worked proofs walk them, at this program's numbers. -/
set_option linter.unusedVariables false
set_option linter.unusedSimpArgs false
namespace Go.Proofs.YtkjnjdcbnelceaaGreatDoor.KA
open Go Go.Proofs Go.RowKit Go.Shelf Go.Sort Go.Lib

theorem bSize : (Tryz.prog.info? 185).map (·.size) = some 2 := (Tryz.Builder_Extra_169).sizeBuilder
theorem bLies : liesAt Tryz.prog Tryz.prog.depth 185 (2 / Tryz.prog.cellsOf 185) 0 185 1 = true := by kernel_rfl
theorem bByte : (Tryz.prog.info? 5).map (fun i => (i.zero, i.size, i.bytes)) = some (some (.int .u8 0), 1, 1) := (Tryz.Builder_Extra_169).infoByte
theorem bCells : Tryz.prog.cellsOf 5 = 1 := (Tryz.Builder_Extra_169).cellsByte

set_option maxHeartbeats 1000000 in
set_option maxRecDepth 100000 in
theorem copyCheck_used (b : Nat) (w : World) (h0 : w.cell? ⟨b, 0, none⟩ = some (.pointer (some ⟨b, 0, none⟩))) :
    Calls Tryz.prog 205 #[.pointer (some ⟨b, 0, none⟩)] w fun e w' => e = .returned (.tuple #[]) ∧ w' = w := by
  obtain ⟨j, hj, _⟩ := Option.map_eq_some_iff.1 bSize
  go_enter Tryz.func205, Tryz.ntmps205
  go_wp2
  rw [Lib.run_neq_ptr_same w _ Tryz.underlying182 hj]
  go_wp2
  go_end0
  exact ⟨rfl, rfl⟩

set_option maxHeartbeats 1000000 in
set_option maxRecDepth 100000 in
theorem copyCheck_fresh (b : Nat) (w : World) (h0 : w.cell? ⟨b, 0, none⟩ = some (.pointer none)) (hsh : w.shape? b = some (185, 2)) (hfz : w.frozen? ⟨b, 0, none⟩ = false) :
    Calls Tryz.prog 205 #[.pointer (some ⟨b, 0, none⟩)] w fun e w' => e = .returned (.tuple #[]) ∧ w' = w.setCell ⟨b, 0, none⟩ (.pointer (some ⟨b, 0, none⟩)) := by
  obtain ⟨j, hj, hjs⟩ := Option.map_eq_some_iff.1 bSize
  go_enter Tryz.func205, Tryz.ntmps205
  go_wp2
  rw [Lib.run_to_unsafe w ⟨b, 0, none⟩ Tryz.underlying182 Tryz.underlying250 hj (by rw [hjs]; decide) hsh (Nat.zero_lt_succ 1)]
  simp only [Result.andThen]
  rw [Oper.upon_value]
  go_wp2
  rw [run_callFunc_extern Tryz.func234 (by kernel_rfl) (by kernel_rfl) (by kernel_rfl) (e := Extern.AbiNoEscape.same) (by kernel_rfl)]
  rw [Lib.run_noEscape]
  simp only [Result.andThen]
  rw [Oper.upon_value]
  go_wp2
  rw [Lib.run_from_unsafe w ⟨b, 0, none⟩ Tryz.underlying250 Tryz.underlying182 hj hsh bLies]
  simp only [Result.andThen]
  rw [Oper.upon_value]
  go_wp2
  go_end0
  exact ⟨rfl, rfl⟩

theorem copyCheck_any (B b : Nat) (bs : List Value) (w : World) (h : Lib.IsBuilderF 185 5 B b bs w) :
    Calls Tryz.prog 205 #[.pointer (some ⟨b, 0, none⟩)] w fun e w' => e = .returned (.tuple #[]) ∧ (Lib.BuilderAtF 185 5 B b (.pointer (some ⟨b, 0, none⟩)) bs w' ∧ Below B w w' ∧ Lib.OthersKept 5 (some b) w w') := by
  rcases h with h | h
  · refine (copyCheck_fresh b w h.cell0 h.shape h.frozen0).mono ?_
    rintro e w' ⟨rfl, rfl⟩
    exact ⟨rfl, h.used _, (Below.refl B w).setCell (p := ⟨b, 0, none⟩) h.1 _, (Lib.OthersKept.refl _ _ _).setCell ⟨b, 0, none⟩ rfl _⟩
  · refine (copyCheck_used b w h.cell0).mono ?_
    rintro e w' ⟨rfl, rfl⟩
    exact ⟨rfl, h, Below.refl B _, Lib.OthersKept.refl _ _ _⟩

set_option maxHeartbeats 2000000 in
set_option maxRecDepth 100000 in
theorem writeByte_any (B b : Nat) (bs : List Value) (c : Int) (w : World) (h : Lib.IsBuilderF 185 5 B b bs w) (hlen : bs.length + 1 ≤ 140737488355328) (hBw : B ≤ w.heap.size) :
    Calls Tryz.prog 153 #[.pointer (some ⟨b, 0, none⟩), .int .u8 c] w fun e w' => e = .returned .nilIface ∧ (Lib.BuilderAtF 185 5 B b (.pointer (some ⟨b, 0, none⟩)) (bs ++ [.int .u8 c]) w' ∧ Below B w w' ∧ Lib.OthersKept 5 (some b) w w') := by
  obtain ⟨i0, hi, hz0, hz1, hz2⟩ := info_parts bByte
  have e240 : ∀ args w, (callFunc 205 args).run Tryz.prog w = .ok (.enter 205 args) w := enters_of Tryz.func205 (by kernel_rfl) rfl
  go_enter Tryz.func153, Tryz.ntmps153
  go_wp2_with (go_at_fn 205; refine (copyCheck_any B b bs _ h).mono ?_)
  rintro e w1 ⟨rfl, h1, hb1, hk1⟩
  obtain ⟨hB, v, hbk, hown, hne⟩ := h1
  have c0 : w1.cell? ⟨b, 0, none⟩ = some (.pointer (some ⟨b, 0, none⟩)) := by rw [Lib.cell_of_heap hbk]; rfl
  have c1 : w1.cell? ⟨b, 1, none⟩ = some v := by rw [Lib.cell_of_heap hbk]; rfl
  go_wp2_with (at_builtin; refine wpList_append_ownF _ rfl _ _ 183 rfl B 5 i0 (.int .u8 0) 1 1 Tryz.underlying183 hi hz0 hz1 hz2 rfl (by decide) _ _ _ rfl (hown.alloc _) ⟨w1.heap.size, 0, none⟩ 1 1 [.int .u8 c] rfl rfl ?c1 ?c2 ?c3 ?c4 ?c5 ?_)
  case c1 =>
    intro j u hj
    match j, hj with
    | 0, hj => simp at hj; subst hj; simp [Addr.add]
  case c2 => intro u hu; simp at hu; subst hu; rfl
  case c3 => unfold maxLen; omega
  case c4 => omega
  case c5 => have := hb1.size; simp; omega
  intro v' w2 hown' hgrow _
  have hlt : b < w1.heap.size := by
    rcases Nat.lt_or_ge b w1.heap.size with h' | h'
    · exact h'
    · simp [Array.getElem?_eq_none h'] at hbk
  have hb2 : w2.heap[b]? = some (.cells #[.pointer (some ⟨b, 0, none⟩), v] 185 (0, 0)) := by
    rw [hgrow.block b (by simp; omega) (fun e => hne e.symm), Lib.alloc_old w1 _ b hlt]
    exact hbk
  have d0 : w2.cell? ⟨b, 0, none⟩ = some (.pointer (some ⟨b, 0, none⟩)) := by rw [Lib.cell_of_heap hb2]; rfl
  have d1 : w2.cell? ⟨b, 1, none⟩ = some v := by rw [Lib.cell_of_heap hb2]; rfl
  have f1 : w2.frozen? ⟨b, 1, none⟩ = false := Lib.frozen_of_heap hb2 1
  obtain ⟨g, cap, rfl⟩ : ∃ g cap, v' = .slice (some ⟨g, 0, none⟩) (bs.length + 1) cap := by
    rcases hown'.2 with ⟨_, h0⟩ | ⟨g, cap, cur, fz, hv, _⟩
    · omega
    · exact ⟨g, cap, hv⟩
  go_wp2
  go_ret
  refine ⟨rfl, ?_, ?_, ((hk1.alloc _).grown hgrow (Lib.ownsRowF_kind (hown.alloc _))).setCell ⟨b, 1, none⟩ rfl _⟩
  · exact Lib.BuilderAtF.put (T := 185) (e := 5) hB hb2 (bs' := bs ++ [.int .u8 c]) (by simpa using hown') (by decide)
  · exact ((hb1.alloc (by have := hb1.size; omega) _).grown hgrow (by have := hb1.size; simp; omega) (fun k hk => (hown.lt k hk).1)).setCell (p := ⟨b, 1, none⟩) hB _

set_option maxHeartbeats 2000000 in
set_option maxRecDepth 100000 in
theorem writeString_any (B b : Nat) (bs : List Value) (s : ByteArray) (w : World) (h : Lib.IsBuilderF 185 5 B b bs w) (hlen : bs.length + s.size ≤ 140737488355328) (hBw : B ≤ w.heap.size) :
    Calls Tryz.prog 156 #[.pointer (some ⟨b, 0, none⟩), .string s] w fun e w' => e = .returned (.tuple #[.int .i64 s.size, .nilIface]) ∧ (Lib.BuilderAtF 185 5 B b (.pointer (some ⟨b, 0, none⟩)) (bs ++ Lib.strCells s) w' ∧ Below B w w' ∧ Lib.OthersKept 5 (some b) w w') := by
  obtain ⟨i0, hi, hz0, hz1, hz2⟩ := info_parts bByte
  have e240 : ∀ args w, (callFunc 205 args).run Tryz.prog w = .ok (.enter 205 args) w := enters_of Tryz.func205 (by kernel_rfl) rfl
  go_enter Tryz.func156, Tryz.ntmps156
  go_wp2_with (go_at_fn 205; refine (copyCheck_any B b bs _ h).mono ?_)
  rintro e w1 ⟨rfl, h1, hb1, hk1⟩
  obtain ⟨hB, v, hbk, hown, hne⟩ := h1
  have c0 : w1.cell? ⟨b, 0, none⟩ = some (.pointer (some ⟨b, 0, none⟩)) := by rw [Lib.cell_of_heap hbk]; rfl
  have c1 : w1.cell? ⟨b, 1, none⟩ = some v := by rw [Lib.cell_of_heap hbk]; rfl
  go_wp2_with (at_builtin; refine Lib.wpList_append_own_stringF _ rfl _ _ 183 9 rfl B 5 i0 Tryz.underlying183 Tryz.underlying9 hi hz0 hz1 hz2 _ _ _ rfl hown s rfl ?c3 ?c4 ?c5 ?_)
  case c3 => unfold maxLen; omega
  case c4 => omega
  case c5 => have := hb1.size; omega
  intro v' w2 hown' hgrow _
  have hlt : b < w1.heap.size := by
    rcases Nat.lt_or_ge b w1.heap.size with h' | h'
    · exact h'
    · simp [Array.getElem?_eq_none h'] at hbk
  have hb2 : w2.heap[b]? = some (.cells #[.pointer (some ⟨b, 0, none⟩), v] 185 (0, 0)) := by
    rw [hgrow.block b hlt (fun e => hne e.symm)]
    exact hbk
  have d0 : w2.cell? ⟨b, 0, none⟩ = some (.pointer (some ⟨b, 0, none⟩)) := by rw [Lib.cell_of_heap hb2]; rfl
  have d1 : w2.cell? ⟨b, 1, none⟩ = some v := by rw [Lib.cell_of_heap hb2]; rfl
  have f1 : w2.frozen? ⟨b, 1, none⟩ = false := Lib.frozen_of_heap hb2 1
  obtain ⟨ao, n', cap, rfl⟩ : ∃ ao n' cap, v' = .slice ao n' cap := by
    rcases hown'.2 with ⟨hv, _⟩ | ⟨g, cap, cur, fz, hv, _⟩
    · exact ⟨_, _, _, hv⟩
    · exact ⟨_, _, _, hv⟩
  go_wp2
  go_ret2
  refine ⟨rfl, ?_, ?_, (hk1.grown hgrow (Lib.ownsRowF_kind hown)).setCell ⟨b, 1, none⟩ rfl _⟩
  · exact Lib.BuilderAtF.put (T := 185) (e := 5) hB hb2 (bs' := bs ++ Lib.strCells s) (by simpa [Lib.strCells_length] using hown') (by decide)
  · exact (hb1.grown hgrow (by have := hb1.size; omega) (fun k hk => (hown.lt k hk).1)).setCell (p := ⟨b, 1, none⟩) hB _

set_option maxHeartbeats 4000000 in
set_option maxRecDepth 100000 in
theorem formatUint_any (u : Nat) (hu64 : u < 18446744073709551616) (w : World) (htab : Lib.TabIs Tryz.prog w "internal/strconv.uint64pow10" .u64 Lib.pow10Tab) :
    Calls Tryz.prog 207 #[.int .u64 u, .int .i64 10] w fun e w' => e = .returned (.string ⟨(Lib.decDigits u).toArray⟩) ∧ ∃ k os, w' = grow (w.drewN k) os := by
  have e283 : ∀ args w, (callFunc 235 args).run Tryz.prog w = .ok (.enter 235 args) w := enters_of Tryz.func235 (by kernel_rfl) rfl
  have e284 : ∀ args w, (callFunc 236 args).run Tryz.prog w = .ok (.enter 236 args) w := enters_of Tryz.func236 (by kernel_rfl) rfl
  have e285 : ∀ args w, (callFunc 237 args).run Tryz.prog w = .ok (.enter 237 args) w := enters_of Tryz.func237 (by kernel_rfl) rfl
  by_cases hi : u < 100
  · go_enter Tryz.func207, Tryz.ntmps207
    go_wp2_with (go_at_fn 235; refine (Tryz.internal_strconv_small u hi _).mono ?_; rintro e w' ⟨rfl, rfl⟩)
    go_ret
    refine ⟨rfl, 0, #[], by simp [World.drewN_zero]⟩
  · have hu1 : 1 ≤ u := by omega
    have hnd20 : Lib.nDigits u ≤ 20 := by have := Lib.numDigits_eq u hu1 hu64; split at this <;> omega
    have hb3 : Lib.nDigits u ≤ 23 := by omega
    have hal : Tryz.prog.arrayLen 252 = 24 := by simp [Program.arrayLen, Tryz.underlying252]
    have hsl1 : ∀ W, (Instr.sliceAt 252 (.pointer (some ⟨w.heap.size, 0, none⟩)) none (some (.int .i64 ((Lib.nDigits u : Int)))) none).run Tryz.prog W = .ok (.slice (some ⟨w.heap.size, 0, none⟩) (Lib.nDigits u) 24) W := fun W => by
      rw [run_sliceAt_array_h W 252 ⟨w.heap.size, 0, none⟩ (by simp [Program.arrayLen, Program.elem, Tryz.underlying252]) .i64 (Lib.nDigits u : Int) (by omega) (by rw [hal]; omega)]
      go_simp
      try omega
    have hH0 : Holds (fun (b : UInt8) => Value.int .u8 (b.toNat : Int)) (w.alloc (.cells Lib.zeros24 252)) w.heap.size 0 (Array.replicate (Lib.nDigits u) 0) := Lib.holds_zero0 w 252 (Lib.nDigits u) (by omega)
    have hfmt := Tryz.internal_strconv_formatBase10 w.heap.size 0 24 u (Array.replicate (Lib.nDigits u) 0) (w.alloc (.cells Lib.zeros24 252)) hH0 (by rw [Array.size_replicate]; exact Lib.lt_pow_nDigits u) hu64 (by rw [Array.size_replicate]; omega)
    rw [Array.size_replicate] at hfmt
    have HH0 := Lib.hid hH0
    clear hH0 hal
    go_enter Tryz.func207, Tryz.ntmps207
    go_wp2_with (first
      | (go_at_fn 236; refine (Tryz.internal_strconv_numDigits u hu1 hu64 _ (Lib.tabIs_alloc htab _)).mono ?_; rintro e w' ⟨rfl, rfl⟩))
    go_at_fn 237
    refine hfmt.mono ?_
    rintro e w' ⟨rfl, k, v', dk, rfl, hF⟩
    have hal : Tryz.prog.arrayLen 252 = 24 := by simp [Program.arrayLen, Tryz.underlying252]
    have hsl2 : ∀ W, (Instr.sliceAt 252 (.pointer (some ⟨w.heap.size, 0, none⟩)) none (some (.int .i64 ((Lib.nDigits u : Int)))) none).run Tryz.prog W = .ok (.slice (some ⟨w.heap.size, 0, none⟩) (Lib.nDigits u) 24) W := fun W => by
      rw [run_sliceAt_array_h W 252 ⟨w.heap.size, 0, none⟩ (by simp [Program.arrayLen, Program.elem, Tryz.underlying252]) .i64 (Lib.nDigits u : Int) (by omega) (by rw [hal]; omega)]
      go_simp
      try omega
    clear hal
    have hcv : (convert 183 9 (.slice (some ⟨w.heap.size, 0, none⟩) (Lib.nDigits u) 24)).run Tryz.prog ((putRow (fun (b : UInt8) => Value.int .u8 (b.toNat : Int)) (w.alloc (.cells Lib.zeros24 252)) w.heap.size 0 dk).drewN k) = .ok (.string ⟨(Lib.decDigits u).toArray⟩) ((putRow (fun (b : UInt8) => Value.int .u8 (b.toNat : Int)) (w.alloc (.cells Lib.zeros24 252)) w.heap.size 0 dk).drewN k) := by
      have h := run_convert_bytes_back (P := Tryz.prog) ((putRow (fun (b : UInt8) => Value.int .u8 (b.toNat : Int)) (w.alloc (.cells Lib.zeros24 252)) w.heap.size 0 dk).drewN k) 183 9 5 ⟨w.heap.size, 0, none⟩ 24 (Lib.decDigits u) Tryz.underlying183 Tryz.underlying5 Tryz.underlying9 (fun j hj => by
        rw [Lib.row_is_numeral hF j hj, Lib.add_plain, World.cell?_drewN]
        exact cell?_putRow (fun (b : UInt8) => Value.int .u8 (b.toNat : Int)) _ w.heap.size 0 _ dk HH0.out (by rw [hF.size, Array.size_replicate]) j (by rw [hF.size]; rw [Lib.decDigits_length] at hj; exact hj))
      rw [Lib.decDigits_length] at h
      exact h
    go_wp2
    go_ret
    obtain ⟨os, eo⟩ := Lib.fin_at w (.cells Lib.zeros24 252) dk k 0
    exact ⟨rfl, k, os, eo⟩

theorem builderString (B b : Nat) (l : List UInt8) (w : World) (h : Lib.IsBuilderF 185 5 B b (Lib.byteCells l) w) :
    Calls Tryz.prog 157 #[.pointer (some ⟨b, 0, none⟩)] w fun e w' => e = .returned (.string ⟨l.toArray⟩) ∧ Below B w w' ∧ Lib.OthersKept 5 (some b) w w' := by
  refine (Tryz.Builder_String_any_k B b l w h (by
    have : B ≤ b ∧ b < w.heap.size := by rcases h with h | h <;> exact ⟨h.1, h.lt⟩
    omega)).mono ?_
  rintro e w' ⟨h1, h2, h3, h4⟩
  exact ⟨h1, h3, h4⟩

set_option maxRecDepth 100000 in
theorem fmt155 (u : Nat) (hu64 : u < 18446744073709551616) (w : World) (htab : Lib.TabIs Tryz.prog w "internal/strconv.uint64pow10" .u64 Lib.pow10Tab) :
    Calls Tryz.prog 155 #[.int .u64 u, .int .i64 10] w fun e w' => e = .returned (.string ⟨(Lib.decDigits u).toArray⟩) ∧ Below w.heap.size w w' := by
  have e207 : ∀ args w, (callFunc 207 args).run Tryz.prog w = .ok (.enter 207 args) w := enters_of Tryz.func207 (by kernel_rfl) rfl
  go_enter Tryz.func155, Tryz.ntmps155
  go_wp2_with (go_at_fn 207; refine (formatUint_any u hu64 _ htab).mono ?_; rintro e w' ⟨rfl, k, os, rfl⟩)
  go_ret
  refine ⟨rfl, rfl, rfl, rfl, ?_, fun g hg => Lib.heap_grow_old w k os g hg⟩
  simp [grow, World.drewN]

theorem backward_any (a : Option Addr) (len cap : Nat) (w : World) :
    Calls Tryz.prog 154 #[.slice a len cap] w fun e w' => e = .returned (.func (.func 206) #[] #[.pointer (some ⟨w.heap.size, 0, none⟩)]) ∧ w' = w.alloc (.cells #[.slice a len cap] 143) := by
  go_enter Tryz.func154, Tryz.ntmps154
  go_wp2
  go_ret
  exact ⟨rfl, rfl⟩
end Go.Proofs.YtkjnjdcbnelceaaGreatDoor.KA
end

section
/- integer.number.close: the text of an integer in pieces of nine digits. -/
set_option linter.unusedVariables false
set_option linter.unusedSimpArgs false
namespace Go.Proofs.YtkjnjdcbnelceaaGreatDoor.KA
open Go Go.Proofs Go.RowKit

/-- Nine digits, with zeros ahead. -/
def pad9 (x : Nat) : List UInt8 := List.replicate (9 - (Lib.decDigits x).length) 48 ++ Lib.decDigits x
def bkP (ns : List Nat) : List (Nat × Nat) := (ns.zipIdx.map fun p => (p.2, p.1)).reverse
def wr1 (n : Nat) (p : Nat × Nat) : List UInt8 := if p.1 + 1 < n then pad9 (p.2 % 1000000000) else Lib.decDigits (p.2 % 1000000000)
def wrt (n : Nat) (pre : List (Nat × Nat)) : List UInt8 := pre.flatMap (wr1 n)
theorem wrt_snoc (n : Nat) (pre : List (Nat × Nat)) (x : Nat × Nat) : wrt n (pre ++ [x]) = wrt n pre ++ wr1 n x := by simp [wrt]
theorem dec9 (x : Nat) : (Lib.decDigits (x % 1000000000)).length ≤ 9 := by
  rw [Go.Proofs.YtkjnjdcbnelceaaGreatDoor.Num.dec_length]; exact Go.Proofs.YtkjnjdcbnelceaaGreatDoor.Num.nDigits_le (by omega) (by omega)
theorem pad9_length (x : Nat) : (pad9 (x % 1000000000)).length = 9 := by
  have := dec9 x
  simp only [pad9, List.length_append, List.length_replicate]; omega
theorem wr1_length (n : Nat) (p : Nat × Nat) : (wr1 n p).length ≤ 9 := by
  unfold wr1; split
  · rw [pad9_length]; omega
  · exact dec9 _
theorem wrt_length (n : Nat) : ∀ pre : List (Nat × Nat), (wrt n pre).length ≤ 9 * pre.length
  | [] => by simp [wrt]
  | p :: pre => by
    have := wrt_length n pre
    have h := wr1_length n p
    simp only [wrt, List.flatMap_cons, List.length_append, List.length_cons] at this ⊢
    omega

theorem bkP_length (ns : List Nat) : (bkP ns).length = ns.length := by simp [bkP]
theorem bkItems_bkP (ns : List Nat) : bkItems (u64s ns) = (bkP ns).map fun p => [AV.int .i64 (p.1 : Int), AV.int .u64 (p.2 : Int)] := by
  unfold bkItems bkP u64s
  rw [List.map_reverse, List.map_map]
  congr 1
  rw [List.zipIdx_map, List.map_map]
  rfl
def encP (x : Nat × Nat) : Array Value := #[.int .i64 (x.1 : Int), .int .u64 ((x.2 % 1000000000 : Nat) : Int)]
theorem bkP_mem {ns : List Nat} {y : Nat × Nat} (h : y ∈ bkP ns) : y.2 ∈ ns := by
  unfold bkP at h
  rw [List.mem_reverse, List.mem_map] at h
  obtain ⟨q, hq, rfl⟩ := h
  exact List.fst_mem_of_mem_zipIdx hq

theorem bkSeq (m : Int) (ns : List Nat) (hns : ∀ x ∈ ns, x < 1000000000) (hlen : ns.length < 1000000000) (Bs b off cap : Nat) (w : World) (hBs : w.cell? ⟨Bs, 0, none⟩ = some (.slice (some ⟨b, off, none⟩) ns.length cap)) (hcap : ns.length ≤ cap)
    (hc : ∀ j (hj : j < ns.length), w.cell? ⟨b, off + j, none⟩ = some (.int .u64 (ns[j] : Int))) (hB : Bs < w.heap.size) (hb : b < w.heap.size) (Kp : World → World → Prop)
    (hKp : ∀ A B, Kp A B → A.heap.size ≤ B.heap.size ∧ B.heap[Bs]? = A.heap[Bs]? ∧ B.heap[b]? = A.heap[b]?) :
    SeqStopsK (wideR none) 2 Tryz.prog 206 #[.pointer (some ⟨Bs, 0, none⟩)] encP Kp (fun xs => xs = bkP ns) (fun _ => True) ns.length w := by
  intro l J Jx W hW hJ hJx hY h0
  obtain ⟨fz, hfz⟩ : ∃ fz : Nat → Prop, fz = fun k => k = Bs ∨ k = b := ⟨_, rfl⟩
  have fzB : fz Bs := by rw [hfz]; exact .inl rfl
  have fzb : fz b := by rw [hfz]; exact .inr rfl
  have kB : W.heap[Bs]? = w.heap[Bs]? := hW.block _ hB
  have kb : W.heap[b]? = w.heap[b]? := hW.block _ hb
  have hvs : RFs W fz [.fp [.sl 1 (u64s ns)]] #[.pointer (some ⟨Bs, 0, none⟩)] := by
    refine ⟨rfl, fun i a ha => ?_⟩
    match i, ha with
    | n + 1, ha => simp at ha
    | 0, ha =>
      cases ha
      refine .fp _ Bs 0 (fun _ => .slice (some ⟨b, off, none⟩) ns.length cap) fzB (fun k a hk => ?_) (fun k a hk => ?_)
      · match k, hk with
        | 0, hk => exact (cell_same kB).trans hBs
        | n + 1, hk => simp at hk
      · match k, hk with
        | 0, hk =>
          cases hk
          have := RF.sl (w := W) (fz := fz) 1 (u64s ns) b off cap (fun k => .int .u64 ((ns[k]?.getD 0 : Nat) : Int)) fzb (by rw [u64s_length]; exact hcap) (fun x hx => by
              obtain ⟨n, _, rfl⟩ := List.mem_map.1 hx; rfl) (fun k a hk => by
              rw [u64s_flat] at hk
              have hl : k < ns.length := by have := (List.getElem?_eq_some_iff.1 hk).1; rwa [u64s_length] at this
              rw [(cell_same kb).trans (hc k hl)]; simp [hl]) (fun k a hk => by
              rw [u64s_flat] at hk
              have hl : k < ns.length := by have := (List.getElem?_eq_some_iff.1 hk).1; rwa [u64s_length] at this
              rw [u64s_get _ _ hl] at hk; cases hk
              simp only [List.getElem?_eq_getElem hl, Option.getD_some]
              exact .int _ _)
          rw [u64s_length] at this
          exact this
        | n + 1, hk => simp at hk
  have key := (i206 m ns hlen).2 l W fz #[.pointer (some ⟨Bs, 0, none⟩)] (fun i W' fz' => J ((bkP ns).take i) W' ∧ fz' = fz ∧ FzOk W' fz ∧ W.heap.size ≤ W'.heap.size) (fun W' => ∃ pre, Jx pre W') hvs
    ⟨by simpa using h0, rfl, fun k hk => by rw [hfz] at hk; have := hW.size; rcases hk with rfl | rfl <;> omega, Nat.le_refl _⟩
    (fun i w fz' h => by rw [h.2.1]; exact h.2.2.1) (fun i w fz' h => ⟨hJ _ _ _ none h.1 ⟨rfl, rfl, rfl, Nat.le_refl _, fun _ _ _ => rfl⟩ (fun r hr => by cases hr), h.2⟩) (fun w ⟨pre, h⟩ => ⟨pre, hJx _ _ _ none h ⟨rfl, rfl, rfl, Nat.le_refl _, fun _ _ _ => rfl⟩ (fun r hr => by cases hr)⟩)
    (fun i x w' fz' us hi hj hus => by
      obtain ⟨j1, rfl, j2, j3⟩ := hj
      rw [bkItems_bkP, List.getElem?_map] at hi
      cases hx : (bkP ns)[i]? with
      | none => rw [hx] at hi; cases hi
      | some y =>
        rw [hx] at hi
        cases hi
        have hil : i < (bkP ns).length := (List.getElem?_eq_some_iff.1 hx).1
        obtain ⟨v, u, rfl, e1, e2⟩ := hus.two
        obtain rfl := e1.int_eq
        obtain rfl := e2.int_eq
        obtain ⟨fn, tmps, assign, body, y1, y2⟩ := hY _ y w' j1 (by rw [List.length_take, Nat.min_eq_left (by omega)]; rw [bkP_length] at hil; exact hil)
        have ey : y.2 % 1000000000 = y.2 := Nat.mod_eq_of_lt (hns _ (bkP_mem (List.mem_of_getElem? hx)))
        unfold encP at y1
        rw [ey] at y1
        refine ⟨fn, tmps, assign, body, y1, ⟨y2.1, fun c cs _ => ?_⟩⟩
        obtain ⟨e, w3, h1, h2⟩ := y2.2 c cs (fun d hd => nomatch hd)
        refine ⟨e, w3, ?_, h2⟩
        have et : (bkP ns).take (i + 1) = (bkP ns).take i ++ [y] := by rw [List.take_add_one, hx]; rfl
        rcases h1 with ⟨h1, h3, h4⟩ | ⟨h1, h3⟩
        · obtain ⟨k1, k2, k3⟩ := hKp _ _ h4
          refine .inl ⟨h1, _, ⟨by rw [et]; exact h3, rfl, fun k hk => by have := j2 k hk; omega, by omega⟩, fun _ h => h, fun k hk => ?_⟩
          rw [hfz] at hk
          rcases hk with rfl | rfl
          · exact k2
          · exact k3
        · exact .inr ⟨h1, _, h3⟩)
  refine callsIn_any (key.mono ?_)
  rintro e W' ⟨h1, ⟨fz', h2, _⟩ | ⟨pre, h2⟩⟩
  · refine ⟨h1, .inl ⟨_, rfl, ?_⟩⟩
    rw [bkItems_length, u64s_length, ← bkP_length ns, List.take_length] at h2
    exact h2
  · exact ⟨h1, .inr ⟨pre, trivial, h2⟩⟩

theorem z9 {k : Nat} (h : k ≤ 9) : (⟨#[48, 48, 48, 48, 48, 48, 48, 48, 48]⟩ : ByteArray).extract k 9 = ⟨(List.replicate (9 - k) 48).toArray⟩ := by
  have : k = 0 ∨ k = 1 ∨ k = 2 ∨ k = 3 ∨ k = 4 ∨ k = 5 ∨ k = 6 ∨ k = 7 ∨ k = 8 ∨ k = 9 := by omega
  rcases this with rfl | rfl | rfl | rfl | rfl | rfl | rfl | rfl | rfl | rfl <;> rfl

/-- A builder, whatever else turns that holds no cells. -/
theorem bld_grown {B b : Nat} {bs : List Value} {W W' : World} {row : Option Nat} (h : Lib.IsBuilderF 185 5 B b bs W) (hg : W.grownBy W' row) (hr : ∀ r, row = some r → ∃ o : Obj, W.heap[r]? = some o ∧ o.isCells = false) : Lib.IsBuilderF 185 5 B b bs W' := by
  have key : ∀ p, Lib.BuilderAtF 185 5 B b p bs W → Lib.BuilderAtF 185 5 B b p bs W' := by
    rintro p ⟨hB, v, hb, hown, hne⟩
    refine ⟨hB, v, (hg.block b (Array.getElem?_eq_some_iff.1 hb).1 (fun e => ?_)).trans hb, hown.kept hg ?_, hne⟩
    · obtain ⟨o, ho, hc⟩ := hr b e.symm
      rw [hb] at ho; cases ho; cases hc
    · rcases hown.2 with ⟨rfl, _⟩ | ⟨g, cap, cur, fz, rfl, _, hg', _⟩
      · exact .inl rfl
      · refine .inr (fun e => ?_)
        obtain ⟨o, ho, hc⟩ := hr g e.symm
        rw [hg'] at ho; cases ho; cases hc
  exact h.elim (fun h => .inl (key _ h)) (fun h => .inr (key _ h))

/-- What stays as it is while the loop goes on. -/
structure Keep3 (B Bs b : Nat) (W W' : World) : Prop where
  size : W.heap.size ≤ W'.heap.size
  box : W'.heap[B]? = W.heap[B]?
  it : W'.heap[Bs]? = W.heap[Bs]?
  data : W'.heap[b]? = W.heap[b]?
theorem Keep3.trans {B Bs b : Nat} {X Y Z : World} (h : Keep3 B Bs b X Y) (k : Keep3 B Bs b Y Z) : Keep3 B Bs b X Z :=
  ⟨Nat.le_trans h.size k.size, k.box.trans h.box, k.it.trans h.it, k.data.trans h.data⟩

structure Inv (B Bs b : Nat) (w W0 : World) (txt : List UInt8) (W : World) : Prop where
  bld : Lib.IsBuilderF 185 5 B (B + 1) (Lib.byteCells txt) W
  keep : Keep3 B Bs b W0 W
  low : Below B w W

theorem bld_ext {B b : Nat} {bs : List Value} {W W' : World} (h : Lib.IsBuilderF 185 5 B b bs W) (hb : Below W.heap.size W W') : Lib.IsBuilderF 185 5 B b bs W' :=
  bld_grown (row := none) h ⟨hb.os, hb.tape, hb.output, hb.size, fun k hk _ => hb.block k hk⟩ (fun r e => by cases e)
theorem bld_block {B b : Nat} {bs : List Value} {W : World} (h : Lib.IsBuilderF 185 5 B b bs W) : ∃ cs, W.heap[b]? = some (.cells cs 185 (0, 0)) := by
  rcases h with ⟨_, v, hb, _⟩ | ⟨_, v, hb, _⟩ <;> exact ⟨_, hb⟩

/-- One step of a round. -/
structure Stp (B Bs b : Nat) (W W' : World) : Prop where
  keep : Keep3 B Bs b W W'
  kf : KeepsFrom 0 W W'
  low : Below B W W'
theorem Stp.trans {B Bs b : Nat} {X Y Z : World} (h : Stp B Bs b X Y) (k : Stp B Bs b Y Z) : Stp B Bs b X Z := ⟨h.keep.trans k.keep, h.kf.trans k.kf, h.low.trans k.low⟩
theorem stp_ext {B Bs b : Nat} {W W' : World} (hb : Below W.heap.size W W') (h1 : B < W.heap.size) (h2 : Bs < W.heap.size) (h3 : b < W.heap.size) : Stp B Bs b W W' :=
  ⟨⟨hb.size, hb.block _ h1, hb.block _ h2, hb.block _ h3⟩, ⟨hb.size, fun k o _ hk _ => (hb.block k (Array.getElem?_eq_some_iff.1 hk).1).trans hk⟩, ⟨hb.os, hb.tape, hb.output, hb.size, fun k hk => hb.block k (by omega)⟩⟩
theorem stp_write {B Bs b : Nat} {bs : List Value} {W W' : World} {c1 c2 : Array Value} (ho : Lib.OthersKept 5 (some (B + 1)) W W') (hl : Below B W W') (h1 : W.heap[B]? = some (.cells c1 145 (0, 0))) (h2 : W.heap[Bs]? = some (.cells c2 143 (0, 0))) (hb : b < B)
    (hbl : Lib.IsBuilderF 185 5 B (B + 1) bs W) (hne : Bs ≠ B + 1) : Stp B Bs b W W' := by
  refine ⟨⟨hl.size, ?_, ?_, hl.block _ hb⟩, ⟨hl.size, fun k o _ hk hc => ho k o hk (fun e => ?_) (fun c fz e => ?_)⟩, hl⟩
  · exact (ho _ _ h1 (fun e => by have := Option.some.inj e; omega) (fun c fz e => by cases e)).trans h1.symm
  · exact (ho _ _ h2 (fun e => hne (Option.some.inj e)) (fun c fz e => by cases e)).trans h2.symm
  · obtain ⟨cs, e2⟩ := bld_block hbl
    rw [Option.some.inj e, e2] at hk; cases hk; cases hc
  · rw [e] at hc; cases hc

set_option maxRecDepth 100000 in
set_option maxHeartbeats 8000000 in
theorem close_in (m : Int) (mi : Bool) (ns : List Nat) (hns : ∀ x ∈ ns, x < 1000000000) (hne : ns ≠ []) (hlen : ns.length < 1000000000) (b off cap : Nat) (w : World) (hcap : ns.length ≤ cap)
    (hb : b < w.heap.size) (hc : ∀ j (hj : j < ns.length), w.cell? ⟨b, off + j, none⟩ = some (.int .u64 (ns[j] : Int))) (htab : ∀ W, Below w.heap.size w W → Lib.TabIs Tryz.prog W "internal/strconv.uint64pow10" .u64 Lib.pow10Tab) :
    Calls Tryz.prog 114 #[.agg #[.bool mi, .slice (some ⟨b, off, none⟩) ns.length cap]] w fun e w' => e = .returned (.string ⟨((if mi then [45] else []) ++ wrt ns.length (bkP ns)).toArray⟩) ∧ Below w.heap.size w w' := by
  obtain ⟨F, hF⟩ : ∃ F, F = wideR none := ⟨_, rfl⟩
  have hro : F.round = none := by rw [hF]; rfl
  have hfn : ∀ f, F.fn f := fun f => by rw [hF]; trivial
  have hdep : F.depth = none := by rw [hF]; rfl
  have cw : ∀ {n f args w R}, Calls Tryz.prog f args w R → CallsIn F n Tryz.prog f args w R := fun h => by rw [hF]; exact callsIn_wideR h
  have cwr : ∀ {l n f args w R}, Calls Tryz.prog f args w R → CallsIn (F.inRound l) n Tryz.prog f args w R := fun h => by rw [hF]; exact callsIn_wideR (r := some _) h
  have hseq := fun Bs w h1 h2 h3 h4 Kp h5 => bkSeq m ns hns hlen Bs b off cap w h1 hcap h2 h3 h4 Kp h5
  rw [← hF] at hseq
  refine callsIn_wideR' (r := none) (n := 3) ?_
  rw [← hF]
  clear hF
  have hl0 : 0 < ns.length := List.length_pos_iff.2 hne
  refine callsIn_of_wp_marks Tryz.func114 rfl (hfn _) ?_ hro
  simp only [Tryz.ntmps114, List.size_toArray, List.length_cons, List.length_nil, Nat.reduceAdd, Nat.reduceSub, Array.replicate_succ, Array.replicate_zero, List.push_toArray, List.append_toArray, List.nil_append, List.cons_append]
  have hB0 : Lib.IsBuilderF 185 5 w.heap.size (w.heap.size + 1) (Lib.byteCells []) ((w.alloc (.cells #[.bool mi, .slice (some ⟨b, off, none⟩) ns.length cap] 145)).alloc (.cells #[.pointer none, .slice none 0 0] 185)) := by
    refine .inl ⟨by omega, .slice none 0 0, ?_, World.ownsRowF_nil _ _ _ _, ?_⟩
    · have := World.alloc_heap_new (w.alloc (.cells #[.bool mi, .slice (some ⟨b, off, none⟩) ns.length cap] 145)) (.cells #[.pointer none, .slice none 0 0] 185)
      rw [World.size_alloc] at this
      exact this
    · simp [Value.ownBlock]
  have hbox : ((w.alloc (.cells #[.bool mi, .slice (some ⟨b, off, none⟩) ns.length cap] 145)).alloc (.cells #[.pointer none, .slice none 0 0] 185)).heap[w.heap.size]? = some (.cells #[.bool mi, .slice (some ⟨b, off, none⟩) ns.length cap] 145 (0, 0)) := by
    rw [Below.heap_alloc _ _ _ (by simp)]; exact World.alloc_heap_new w _
  have hlow : Below w.heap.size w ((w.alloc (.cells #[.bool mi, .slice (some ⟨b, off, none⟩) ns.length cap] 145)).alloc (.cells #[.pointer none, .slice none 0 0] 185)) :=
    ((Below.refl _ w).alloc (Nat.le_refl _) _).alloc (by simp) _
  have hsz : ((w.alloc (.cells #[.bool mi, .slice (some ⟨b, off, none⟩) ns.length cap] 145)).alloc (.cells #[.pointer none, .slice none 0 0] 185)).heap.size = w.heap.size + 2 := by simp
  cases mi
  · gi_wp2
    obtain ⟨W1, hW1⟩ : ∃ W1, W1 = ((w.alloc (.cells #[.bool false, .slice (some ⟨b, off, none⟩) ns.length cap] 145)).alloc (.cells #[.pointer none, .slice none 0 0] 185)) := ⟨_, rfl⟩
    rw [← hW1] at hB0 hbox hlow hsz ⊢
    clear hW1
    have hB1 := hB0
    have hbox1 := hbox
    have hlow1 := hlow
    refine (cw (backward_any _ _ _ _)).mono ?_
    rintro e w' ⟨rfl, rfl⟩
    obtain ⟨Bs, hBs⟩ : ∃ Bs, Bs = W1.heap.size := ⟨_, rfl⟩
    obtain ⟨W2, hW2⟩ : ∃ W2, W2 = W1.alloc (.cells #[.slice (some ⟨b, off, none⟩) ns.length cap] 143) := ⟨_, rfl⟩
    have fB : W2.heap[Bs]? = some (.cells #[.slice (some ⟨b, off, none⟩) ns.length cap] 143 (0, 0)) := by rw [hW2, hBs]; exact World.alloc_heap_new _ _
    have f2 : Below W1.heap.size W1 W2 := by rw [hW2]; exact (Below.refl _ W1).alloc (Nat.le_refl _) _
    have s2 : W2.heap.size = Bs + 1 := by rw [hW2, hBs]; simp
    have b2 : Lib.IsBuilderF 185 5 w.heap.size (w.heap.size + 1) (Lib.byteCells ([] : List UInt8)) W2 := bld_ext hB1 f2
    have x2 : W2.heap[w.heap.size]? = some (.cells #[.bool false, .slice (some ⟨b, off, none⟩) ns.length cap] 145 (0, 0)) := (f2.block _ (by omega)).trans hbox1
    have l2 : Below w.heap.size w W2 := hlow1.trans ⟨f2.os, f2.tape, f2.output, f2.size, fun k hk => f2.block k (by omega)⟩
    have hBs2 : w.heap.size + 2 ≤ Bs := by omega
    have i2 : W2.cell? ⟨Bs, 0, none⟩ = some (.slice (some ⟨b, off, none⟩) ns.length cap) := by rw [Lib.cell_of_heap fB]; rfl
    have d2 : ∀ j (hj : j < ns.length), W2.cell? ⟨b, off + j, none⟩ = some (.int .u64 (ns[j] : Int)) := fun j hj => (cell_same (l2.block _ hb)).trans (hc j hj)
    rw [← hBs, ← hW2]
    clear hW2 hbox1 hB1 hlow1 f2 hBs hsz hbox hB0 hlow
    gi_wp2
    refine wpIn_rangeFunc_ownG (n := 3) hro (by omega) (gf := 206) (lb := #[.pointer (some ⟨Bs, 0, none⟩)]) rfl (hfn _) (enters_of Tryz.func206 (by kernel_rfl) rfl)
      (hseq Bs W2 i2 d2 (by omega) (by omega) (Keep3 w.heap.size Bs b) (fun A B h => ⟨h.size, h.it, h.data⟩)) (fun h k => h.trans k)
      (fun W l o o' hl h _ _ => ⟨by simp, World.putObj_heap_other (by omega), World.putObj_heap_other (by omega), World.putObj_heap_other (by omega)⟩) (Below.refl _ _) (fun _ => rfl)
      (fun pre W => Inv w.heap.size Bs b w W2 (([] : List UInt8) ++ wrt ns.length pre) W) (fun _ _ _ => False)
      (fun s A B row hs hg hr => ⟨bld_grown hs.bld hg (fun r e => (hr r e).2), hs.keep.trans ⟨hg.size, hg.block _ (by have := hs.keep.size; omega) (fun e => by have := (hr _ e.symm).1; omega), hg.block _ (by have := hs.keep.size; omega) (fun e => by have := (hr _ e.symm).1; omega), hg.block _ (by have := hs.keep.size; omega) (fun e => by have := (hr _ e.symm).1; omega)⟩,
        hs.low.grown hg hs.low.size (fun k e => by have := (hr k e).1; omega)⟩)
      (fun _ _ _ _ _ hs _ _ => hs) ⟨by simpa [wrt] using b2, ⟨Nat.le_refl _, rfl, rfl, rfl⟩, l2⟩
      (fun x => { tmps := #[.agg #[.bool false, .slice (some ⟨b, off, none⟩) ns.length cap], .pointer (some ⟨w.heap.size, 0, none⟩), .string ⟨#[]⟩, .pointer (some ⟨w.heap.size + 1, 0, none⟩), .int .i64 (x.1 : Int), .int .u64 ((x.2 % 1000000000 : Nat) : Int), undef,
        .pointer (some ⟨w.heap.size, 1, none⟩), .slice (some ⟨b, off, none⟩) ns.length cap, .int .i64 ns.length, .bool false, .pointer (some ⟨w.heap.size, 0, none⟩), .bool false, undef, .pointer (some ⟨w.heap.size, 1, none⟩), .slice (some ⟨b, off, none⟩) ns.length cap,
        .func (.func 206) #[] #[.pointer (some ⟨Bs, 0, none⟩)], .int .i64 (x.1 : Int), .int .u64 ((x.2 % 1000000000 : Nat) : Int), undef, undef, undef, undef, undef, undef, undef, undef, undef, undef, undef, undef, undef, undef, undef], defers := [] }) ?assign ?body ?done ?stop
    case stop =>
      rintro D c pre W _ _ h _
      exact h.elim
    case assign =>
      intro l x W K hK
      simp only [encP]
      generalize x.2 % 1000000000 = y at hK ⊢
      have hsa := Oper.semAt_some l
      gi_wp2
      exact hK
    case body =>
      rintro l pre x W ⟨hbld, hkeep, hlowW⟩ hlt
      obtain ⟨y, hy⟩ : ∃ y, y = x.2 % 1000000000 := ⟨_, rfl⟩
      have hy9 : y < 1000000000 := by omega
      have hwr : wr1 ns.length x = if x.1 + 1 < ns.length then pad9 y else Lib.decDigits y := by rw [hy]; rfl
      rw [← hy]
      clear hy
      generalize x.1 = i at hwr ⊢
      have hwl := wrt_length ns.length pre
      have xW := hkeep.box.trans x2
      have iW := hkeep.it.trans fB
      have sW := hkeep.size
      have hsa := Oper.semAt_some l
      have fmtc := cwr (l := l) (n := 0) (fmt155 y (by omega) W (htab W hlowW))
      gi_wp2
      refine fmtc.mono ?_
      rintro e W4 ⟨rfl, hb4⟩
      have st4 : Stp w.heap.size Bs b W W4 := stp_ext hb4 (by omega) (by omega) (by omega)
      have bld4 := bld_ext hbld hb4
      have x4 := st4.keep.box.trans xW
      have i4 := st4.keep.it.trans iW
      have c4 : W4.cell? ⟨w.heap.size, 1, none⟩ = some (.slice (some ⟨b, off, none⟩) ns.length cap) := by rw [Lib.cell_of_heap x4]; rfl
      have dl : (Lib.decDigits y).length ≤ 9 := by rw [Go.Proofs.YtkjnjdcbnelceaaGreatDoor.Num.dec_length]; exact Go.Proofs.YtkjnjdcbnelceaaGreatDoor.Num.nDigits_le (by omega) (by omega)
      have bl4 : (Lib.byteCells (([] : List UInt8) ++ wrt ns.length pre)).length ≤ 10000000000 := by
        rw [Lib.byteCells_length, List.length_append]
        have : (([] : List UInt8)).length ≤ 1 := by decide
        omega
      have szW4 : W.heap.size ≤ W4.heap.size := hb4.size
      by_cases hi : i + 1 < ns.length
      · have hi' : (i : Int) < (ns.length : Int) - 1 := by omega
        have wz := cwr (l := l) (n := 0) (writeString_any w.heap.size (w.heap.size + 1) _ ⟨(List.replicate (9 - (Lib.decDigits y).length) 48).toArray⟩ W4 bld4 (by simp only [ByteArray.size, List.size_toArray, List.length_replicate]; omega) (by omega))
        gi_wp2
        rw [z9 dl]
        refine wz.mono ?_
        rintro e W5 ⟨rfl, bld5, l5, o5⟩
        have st5 : Stp w.heap.size Bs b W4 W5 := stp_write o5 l5 x4 i4 hb bld4 (by omega)
        have bl5 : (Lib.byteCells (([] : List UInt8) ++ wrt ns.length pre) ++ Lib.strCells ⟨(List.replicate (9 - (Lib.decDigits y).length) 48).toArray⟩).length ≤ 11000000000 := by
          rw [List.length_append, Lib.strCells_toArray, Lib.byteCells_length (List.replicate _ _), List.length_replicate]; omega
        have szW5 : W4.heap.size ≤ W5.heap.size := l5.size
        have ws := cwr (l := l) (n := 0) (writeString_any w.heap.size (w.heap.size + 1) _ ⟨(Lib.decDigits y).toArray⟩ W5 (.inr bld5) (by simp only [ByteArray.size, List.size_toArray]; omega) (by omega))
        gi_wp2
        refine ws.mono ?_
        rintro e W6 ⟨rfl, bld6, l6, o6⟩
        have st6 : Stp w.heap.size Bs b W5 W6 := stp_write o6 l6 (st5.keep.box.trans x4) (st5.keep.it.trans i4) hb (.inr bld5) (by omega)
        have st := (st4.trans st5).trans st6
        gi_wp2
        refine ⟨⟨st.kf.size, fun k o _ hk ho => st.kf.same k o (Nat.zero_le _) hk ho⟩, st.keep, ?_, hkeep.trans st.keep, hlowW.trans st.low⟩
        rw [wrt_snoc, hwr, if_pos hi]
        simp only [Lib.strCells_toArray, ← Lib.byteCells_append] at bld6
        refine .inr ?_
        have e1 : ([] : List UInt8) ++ (wrt ns.length pre ++ pad9 y) = ([] : List UInt8) ++ wrt ns.length pre ++ List.replicate (9 - (Lib.decDigits y).length) 48 ++ Lib.decDigits y := by simp [pad9]
        rw [e1]
        exact bld6
      · have hi' : ¬ (i : Int) < (ns.length : Int) - 1 := by omega
        have ws := cwr (l := l) (n := 0) (writeString_any w.heap.size (w.heap.size + 1) _ ⟨(Lib.decDigits y).toArray⟩ W4 bld4 (by simp only [ByteArray.size, List.size_toArray]; omega) (by omega))
        gi_wp2
        refine ws.mono ?_
        rintro e W6 ⟨rfl, bld6, l6, o6⟩
        have st6 : Stp w.heap.size Bs b W4 W6 := stp_write o6 l6 x4 i4 hb bld4 (by omega)
        have st := st4.trans st6
        gi_wp2
        refine ⟨⟨st.kf.size, fun k o _ hk ho => st.kf.same k o (Nat.zero_le _) hk ho⟩, st.keep, ?_, hkeep.trans st.keep, hlowW.trans st.low⟩
        rw [wrt_snoc, hwr, if_neg hi]
        simp only [Lib.strCells_toArray, ← Lib.byteCells_append] at bld6
        refine .inr ?_
        have e1 : ([] : List UInt8) ++ (wrt ns.length pre ++ Lib.decDigits y) = ([] : List UInt8) ++ wrt ns.length pre ++ Lib.decDigits y := by simp
        rw [e1]
        exact bld6
    case done =>
      rintro D xs W hD rfl ⟨hbld, hkeep, hlowW⟩ hK
      have hs := cw (n := 2) (builderString w.heap.size (w.heap.size + 1) _ W hbld)
      gi_wp2
      refine hs.mono ?_
      rintro e W3 ⟨rfl, hl3, ho3⟩
      have hK3 : W3.heap[D]? = some (.deferred (some [])) := ho3 D _ hK (fun e => by
        obtain ⟨cs, e2⟩ := bld_block hbld
        rw [Option.some.inj e, e2] at hK; cases hK) (fun c fz e => by cases e)
      gi_wp2
      refine ⟨by simp, .inl ⟨_, _, rfl, run_takeDeferred hK3, ?_⟩⟩
      exact ⟨_, results_tmp rfl _ _ _, by simp, (hlowW.trans hl3).trans (belowK_b (w := W2) (by omega) W3 D _ _ hD hK3 rfl rfl)⟩
  · have wb := cw (n := 2) (writeByte_any w.heap.size (w.heap.size + 1) (Lib.byteCells []) 45 _ hB0 (by decide) (by simp; omega))
    obtain ⟨W0, hW0⟩ : ∃ W0, W0 = ((w.alloc (.cells #[.bool true, .slice (some ⟨b, off, none⟩) ns.length cap] 145)).alloc (.cells #[.pointer none, .slice none 0 0] 185)) := ⟨_, rfl⟩
    gi_wp2
    rw [← hW0] at wb hB0 hbox hlow hsz ⊢
    clear hW0
    refine wb.mono ?_
    rintro e W1 ⟨rfl, hB1', hl1, ho1⟩
    have hB1 : Lib.IsBuilderF 185 5 w.heap.size (w.heap.size + 1) (Lib.byteCells [45]) W1 := .inr hB1'
    have hbox1 := ho1 _ _ hbox (fun e => by have := Option.some.inj e; omega) (fun c fz e => by cases e)
    have hlow1 := hlow.trans hl1
    have hsz1 : w.heap.size + 2 ≤ W1.heap.size := by have := hl1.size; omega
    clear hsz wb hB1' hl1 ho1
    have hsz := hsz1
    have cc1 : W1.cell? ⟨w.heap.size, 1, none⟩ = some (.slice (some ⟨b, off, none⟩) ns.length cap) := by rw [Lib.cell_of_heap hbox1]; rfl
    gi_wp2
    clear cc1 hsz1
    refine (cw (backward_any _ _ _ _)).mono ?_
    rintro e w' ⟨rfl, rfl⟩
    obtain ⟨Bs, hBs⟩ : ∃ Bs, Bs = W1.heap.size := ⟨_, rfl⟩
    obtain ⟨W2, hW2⟩ : ∃ W2, W2 = W1.alloc (.cells #[.slice (some ⟨b, off, none⟩) ns.length cap] 143) := ⟨_, rfl⟩
    have fB : W2.heap[Bs]? = some (.cells #[.slice (some ⟨b, off, none⟩) ns.length cap] 143 (0, 0)) := by rw [hW2, hBs]; exact World.alloc_heap_new _ _
    have f2 : Below W1.heap.size W1 W2 := by rw [hW2]; exact (Below.refl _ W1).alloc (Nat.le_refl _) _
    have s2 : W2.heap.size = Bs + 1 := by rw [hW2, hBs]; simp
    have b2 : Lib.IsBuilderF 185 5 w.heap.size (w.heap.size + 1) (Lib.byteCells ([45] : List UInt8)) W2 := bld_ext hB1 f2
    have x2 : W2.heap[w.heap.size]? = some (.cells #[.bool true, .slice (some ⟨b, off, none⟩) ns.length cap] 145 (0, 0)) := (f2.block _ (by omega)).trans hbox1
    have l2 : Below w.heap.size w W2 := hlow1.trans ⟨f2.os, f2.tape, f2.output, f2.size, fun k hk => f2.block k (by omega)⟩
    have hBs2 : w.heap.size + 2 ≤ Bs := by omega
    have i2 : W2.cell? ⟨Bs, 0, none⟩ = some (.slice (some ⟨b, off, none⟩) ns.length cap) := by rw [Lib.cell_of_heap fB]; rfl
    have d2 : ∀ j (hj : j < ns.length), W2.cell? ⟨b, off + j, none⟩ = some (.int .u64 (ns[j] : Int)) := fun j hj => (cell_same (l2.block _ hb)).trans (hc j hj)
    rw [← hBs, ← hW2]
    clear hW2 hbox1 hB1 hlow1 f2 hBs hsz hbox hB0 hlow
    gi_wp2
    refine wpIn_rangeFunc_ownG (n := 3) hro (by omega) (gf := 206) (lb := #[.pointer (some ⟨Bs, 0, none⟩)]) rfl (hfn _) (enters_of Tryz.func206 (by kernel_rfl) rfl)
      (hseq Bs W2 i2 d2 (by omega) (by omega) (Keep3 w.heap.size Bs b) (fun A B h => ⟨h.size, h.it, h.data⟩)) (fun h k => h.trans k)
      (fun W l o o' hl h _ _ => ⟨by simp, World.putObj_heap_other (by omega), World.putObj_heap_other (by omega), World.putObj_heap_other (by omega)⟩) (Below.refl _ _) (fun _ => rfl)
      (fun pre W => Inv w.heap.size Bs b w W2 (([45] : List UInt8) ++ wrt ns.length pre) W) (fun _ _ _ => False)
      (fun s A B row hs hg hr => ⟨bld_grown hs.bld hg (fun r e => (hr r e).2), hs.keep.trans ⟨hg.size, hg.block _ (by have := hs.keep.size; omega) (fun e => by have := (hr _ e.symm).1; omega), hg.block _ (by have := hs.keep.size; omega) (fun e => by have := (hr _ e.symm).1; omega), hg.block _ (by have := hs.keep.size; omega) (fun e => by have := (hr _ e.symm).1; omega)⟩,
        hs.low.grown hg hs.low.size (fun k e => by have := (hr k e).1; omega)⟩)
      (fun _ _ _ _ _ hs _ _ => hs) ⟨by simpa [wrt] using b2, ⟨Nat.le_refl _, rfl, rfl, rfl⟩, l2⟩
      (fun x => { tmps := #[.agg #[.bool true, .slice (some ⟨b, off, none⟩) ns.length cap], .pointer (some ⟨w.heap.size, 0, none⟩), .string ⟨#[]⟩, .pointer (some ⟨w.heap.size + 1, 0, none⟩), .int .i64 (x.1 : Int), .int .u64 ((x.2 % 1000000000 : Nat) : Int), undef,
        .pointer (some ⟨w.heap.size, 1, none⟩), .slice (some ⟨b, off, none⟩) ns.length cap, .int .i64 ns.length, .bool false, .pointer (some ⟨w.heap.size, 0, none⟩), .bool true, .nilIface, .pointer (some ⟨w.heap.size, 1, none⟩), .slice (some ⟨b, off, none⟩) ns.length cap,
        .func (.func 206) #[] #[.pointer (some ⟨Bs, 0, none⟩)], .int .i64 (x.1 : Int), .int .u64 ((x.2 % 1000000000 : Nat) : Int), undef, undef, undef, undef, undef, undef, undef, undef, undef, undef, undef, undef, undef, undef, undef], defers := [] }) ?assign ?body ?done ?stop
    case stop =>
      rintro D c pre W _ _ h _
      exact h.elim
    case assign =>
      intro l x W K hK
      simp only [encP]
      generalize x.2 % 1000000000 = y at hK ⊢
      have hsa := Oper.semAt_some l
      gi_wp2
      exact hK
    case body =>
      rintro l pre x W ⟨hbld, hkeep, hlowW⟩ hlt
      obtain ⟨y, hy⟩ : ∃ y, y = x.2 % 1000000000 := ⟨_, rfl⟩
      have hy9 : y < 1000000000 := by omega
      have hwr : wr1 ns.length x = if x.1 + 1 < ns.length then pad9 y else Lib.decDigits y := by rw [hy]; rfl
      rw [← hy]
      clear hy
      generalize x.1 = i at hwr ⊢
      have hwl := wrt_length ns.length pre
      have xW := hkeep.box.trans x2
      have iW := hkeep.it.trans fB
      have sW := hkeep.size
      have hsa := Oper.semAt_some l
      have fmtc := cwr (l := l) (n := 0) (fmt155 y (by omega) W (htab W hlowW))
      gi_wp2
      refine fmtc.mono ?_
      rintro e W4 ⟨rfl, hb4⟩
      have st4 : Stp w.heap.size Bs b W W4 := stp_ext hb4 (by omega) (by omega) (by omega)
      have bld4 := bld_ext hbld hb4
      have x4 := st4.keep.box.trans xW
      have i4 := st4.keep.it.trans iW
      have c4 : W4.cell? ⟨w.heap.size, 1, none⟩ = some (.slice (some ⟨b, off, none⟩) ns.length cap) := by rw [Lib.cell_of_heap x4]; rfl
      have dl : (Lib.decDigits y).length ≤ 9 := by rw [Go.Proofs.YtkjnjdcbnelceaaGreatDoor.Num.dec_length]; exact Go.Proofs.YtkjnjdcbnelceaaGreatDoor.Num.nDigits_le (by omega) (by omega)
      have bl4 : (Lib.byteCells (([45] : List UInt8) ++ wrt ns.length pre)).length ≤ 10000000000 := by
        rw [Lib.byteCells_length, List.length_append]
        have : (([45] : List UInt8)).length ≤ 1 := by decide
        omega
      have szW4 : W.heap.size ≤ W4.heap.size := hb4.size
      by_cases hi : i + 1 < ns.length
      · have hi' : (i : Int) < (ns.length : Int) - 1 := by omega
        have wz := cwr (l := l) (n := 0) (writeString_any w.heap.size (w.heap.size + 1) _ ⟨(List.replicate (9 - (Lib.decDigits y).length) 48).toArray⟩ W4 bld4 (by simp only [ByteArray.size, List.size_toArray, List.length_replicate]; omega) (by omega))
        gi_wp2
        rw [z9 dl]
        refine wz.mono ?_
        rintro e W5 ⟨rfl, bld5, l5, o5⟩
        have st5 : Stp w.heap.size Bs b W4 W5 := stp_write o5 l5 x4 i4 hb bld4 (by omega)
        have bl5 : (Lib.byteCells (([45] : List UInt8) ++ wrt ns.length pre) ++ Lib.strCells ⟨(List.replicate (9 - (Lib.decDigits y).length) 48).toArray⟩).length ≤ 11000000000 := by
          rw [List.length_append, Lib.strCells_toArray, Lib.byteCells_length (List.replicate _ _), List.length_replicate]; omega
        have szW5 : W4.heap.size ≤ W5.heap.size := l5.size
        have ws := cwr (l := l) (n := 0) (writeString_any w.heap.size (w.heap.size + 1) _ ⟨(Lib.decDigits y).toArray⟩ W5 (.inr bld5) (by simp only [ByteArray.size, List.size_toArray]; omega) (by omega))
        gi_wp2
        refine ws.mono ?_
        rintro e W6 ⟨rfl, bld6, l6, o6⟩
        have st6 : Stp w.heap.size Bs b W5 W6 := stp_write o6 l6 (st5.keep.box.trans x4) (st5.keep.it.trans i4) hb (.inr bld5) (by omega)
        have st := (st4.trans st5).trans st6
        gi_wp2
        refine ⟨⟨st.kf.size, fun k o _ hk ho => st.kf.same k o (Nat.zero_le _) hk ho⟩, st.keep, ?_, hkeep.trans st.keep, hlowW.trans st.low⟩
        rw [wrt_snoc, hwr, if_pos hi]
        simp only [Lib.strCells_toArray, ← Lib.byteCells_append] at bld6
        refine .inr ?_
        have e1 : ([45] : List UInt8) ++ (wrt ns.length pre ++ pad9 y) = ([45] : List UInt8) ++ wrt ns.length pre ++ List.replicate (9 - (Lib.decDigits y).length) 48 ++ Lib.decDigits y := by simp [pad9]
        rw [e1]
        exact bld6
      · have hi' : ¬ (i : Int) < (ns.length : Int) - 1 := by omega
        have ws := cwr (l := l) (n := 0) (writeString_any w.heap.size (w.heap.size + 1) _ ⟨(Lib.decDigits y).toArray⟩ W4 bld4 (by simp only [ByteArray.size, List.size_toArray]; omega) (by omega))
        gi_wp2
        refine ws.mono ?_
        rintro e W6 ⟨rfl, bld6, l6, o6⟩
        have st6 : Stp w.heap.size Bs b W4 W6 := stp_write o6 l6 x4 i4 hb bld4 (by omega)
        have st := st4.trans st6
        gi_wp2
        refine ⟨⟨st.kf.size, fun k o _ hk ho => st.kf.same k o (Nat.zero_le _) hk ho⟩, st.keep, ?_, hkeep.trans st.keep, hlowW.trans st.low⟩
        rw [wrt_snoc, hwr, if_neg hi]
        simp only [Lib.strCells_toArray, ← Lib.byteCells_append] at bld6
        refine .inr ?_
        have e1 : ([45] : List UInt8) ++ (wrt ns.length pre ++ Lib.decDigits y) = ([45] : List UInt8) ++ wrt ns.length pre ++ Lib.decDigits y := by simp
        rw [e1]
        exact bld6
    case done =>
      rintro D xs W hD rfl ⟨hbld, hkeep, hlowW⟩ hK
      have hs := cw (n := 2) (builderString w.heap.size (w.heap.size + 1) _ W hbld)
      gi_wp2
      refine hs.mono ?_
      rintro e W3 ⟨rfl, hl3, ho3⟩
      have hK3 : W3.heap[D]? = some (.deferred (some [])) := ho3 D _ hK (fun e => by
        obtain ⟨cs, e2⟩ := bld_block hbld
        rw [Option.some.inj e, e2] at hK; cases hK) (fun c fz e => by cases e)
      gi_wp2
      refine ⟨by simp, .inl ⟨_, _, rfl, run_takeDeferred hK3, ?_⟩⟩
      exact ⟨_, results_tmp rfl _ _ _, by simp, (hlowW.trans hl3).trans (belowK_b (w := W2) (by omega) W3 D _ _ hD hK3 rfl rfl)⟩
end Go.Proofs.YtkjnjdcbnelceaaGreatDoor.KA
end

section
/- The small code of functions, as own tools print it; that it is the program's is checked by the kernel. -/
open Go Go.Proofs
set_option linter.unusedVariables false
namespace Go.Proofs.YtkjnjdcbnelceaaGreatDoor.KA
def c112 : C := (C.ops [⟨I.alloc 2 [AV.bool false, AV.nils] true, none, some 2⟩]).seq ((C.ops [⟨I.mv 10 (O.t 0), none, some 10⟩, ⟨I.call (some 11) (O.k (AV.fn 138 [])) [O.t 10, O.k (AV.str [45])] false, none, some 11⟩, ⟨I.mv 9 (O.t 11), none, some 9⟩, ⟨I.ext 12 (O.t 9) 0, none, some 12⟩, ⟨I.ext 13 (O.t 9) 1, none, some 13⟩, ⟨I.mv 3 (O.t 12), none, some 3⟩, ⟨I.mv 4 (O.t 13), none, some 4⟩]).seq ((C.ops [⟨I.mv 14 (O.t 3), none, some 14⟩, ⟨I.lens 15 (O.t 14), none, some 15⟩, ⟨I.bin 16 BinOp.quo (O.t 15) (O.k (AV.int IntKind.i64 9)), none, some 16⟩, ⟨I.bin 17 BinOp.add (O.t 16) (O.k (AV.int IntKind.i64 1)), none, some 17⟩, ⟨I.mksl 18 1 8 [AV.int IntKind.u64 0] (O.k (AV.int IntKind.i64 0)) (O.t 17), none, some 18⟩, ⟨I.mv 5 (O.t 18), none, some 5⟩]).seq ((C.block 0 (((C.ops [⟨I.mv 19 (O.t 3), none, some 19⟩, ⟨I.lens 20 (O.t 19), none, some 20⟩, ⟨I.bin 21 BinOp.gtr (O.t 20) (O.k (AV.int IntKind.i64 0)), none, some 21⟩]).seq (C.cond (O.t 21) C.skip (C.exit 0))).seq (C.block 1 ((C.ops [⟨I.mv 22 (O.t 3), none, some 22⟩, ⟨I.lens 23 (O.t 22), none, some 23⟩, ⟨I.bin 24 BinOp.sub (O.t 23) (O.k (AV.int IntKind.i64 9)), none, some 24⟩, ⟨I.max 25 (O.t 24) (O.k (AV.int IntKind.i64 0)), none, some 25⟩, ⟨I.mv 6 (O.t 25), none, some 6⟩]).seq ((C.ops [⟨I.mv 27 (O.t 3), none, some 27⟩, ⟨I.mv 28 (O.t 6), none, some 28⟩, ⟨I.slcs 29 (O.t 27) (some (O.t 28)) none, none, some 29⟩, ⟨I.call (some 30) (O.k (AV.fn 151 [])) [O.t 29, O.k (AV.int IntKind.i64 10), O.k (AV.int IntKind.i64 64)] false, none, some 30⟩, ⟨I.mv 26 (O.t 30), none, some 26⟩, ⟨I.ext 31 (O.t 26) 0, none, some 31⟩, ⟨I.ext 32 (O.t 26) 1, none, some 32⟩, ⟨I.mv 7 (O.t 31), none, some 7⟩, ⟨I.mv 8 (O.t 32), none, some 8⟩]).seq (C.ops [⟨I.mv 33 (O.t 5), none, some 33⟩, ⟨I.mv 34 (O.t 7), none, some 34⟩, ⟨I.bsl 35 1 [O.t 34] false, none, some 35⟩, ⟨I.append 36 1 8 (O.t 33) (O.t 35) true, none, some 36⟩, ⟨I.mv 37 (O.t 3), none, some 37⟩, ⟨I.mv 38 (O.t 6), none, some 38⟩, ⟨I.slcs 39 (O.t 37) none (some (O.t 38)), none, some 39⟩, ⟨I.mv 5 (O.t 36), none, some 5⟩, ⟨I.mv 3 (O.t 39), none, some 3⟩]))))).loop).seq ((C.ops [⟨I.mv 40 (O.t 4), none, some 40⟩, ⟨I.mv 41 (O.t 5), none, some 41⟩, ⟨I.call (some 42) (O.k (AV.fn 152 [])) [O.t 41] true, none, some 42⟩, ⟨I.build 43 [AV.bool false, AV.nils] [(0, 1, O.t 40), (1, 1, O.t 42)], none, some 43⟩, ⟨I.store 2 (O.t 2) (O.t 43), none, none⟩]).seq C.ret))))
theorem k112 (m : Int) : compF (cx m).P (cx m).gt (fun t => t == 2 || t == 36 || t == 42) 112 = some (c112, [RV.cell 2 true 2], 44) := by kernel_rfl
def c152 : C := (C.ops [⟨I.mv 2 (O.k AV.nils), none, some 2⟩]).seq ((C.block 0 (((C.ops [⟨I.mv 3 (O.t 0), none, some 3⟩, ⟨I.len 4 (O.t 3), none, some 4⟩, ⟨I.bin 5 BinOp.gtr (O.t 4) (O.k (AV.int IntKind.i64 0)), none, some 5⟩, ⟨I.mv 6 (O.t 5), none, some 6⟩, ⟨I.mv 7 (O.t 0), some (6, true), some 7⟩, ⟨I.mv 8 (O.t 0), some (6, true), some 8⟩, ⟨I.len 9 (O.t 8), some (6, true), some 9⟩, ⟨I.bin 10 BinOp.sub (O.t 9) (O.k (AV.int IntKind.i64 1)), some (6, true), some 10⟩, ⟨I.idxa 11 1 none (O.t 7) (O.t 10), some (6, true), some 11⟩, ⟨I.loadf 12 false 1 (O.t 11), some (6, true), some 12⟩, ⟨I.bin 13 BinOp.eql (O.t 12) (O.k (AV.int IntKind.u64 0)), some (6, true), some 13⟩, ⟨I.pick 14 (O.t 6) (O.t 13) (O.k (AV.bool false)), none, some 14⟩]).seq (C.cond (O.t 14) C.skip (C.exit 0))).seq (C.block 1 (C.ops [⟨I.mv 15 (O.t 0), none, some 15⟩, ⟨I.mv 16 (O.t 0), none, some 16⟩, ⟨I.len 17 (O.t 16), none, some 17⟩, ⟨I.bin 18 BinOp.sub (O.t 17) (O.k (AV.int IntKind.i64 1)), none, some 18⟩, ⟨I.slc 19 1 (O.t 15) none (some (O.t 18)) none, none, some 19⟩, ⟨I.mv 0 (O.t 19), none, some 0⟩]))).loop).seq ((C.ops [⟨I.mv 20 (O.t 0), none, some 20⟩, ⟨I.mv 2 (O.t 20), none, some 2⟩]).seq C.ret))
theorem k152 (m : Int) : compF (cx m).P (cx m).gt (fun _ => false) 152 = some (c152, [RV.tmp 2], 21) := by kernel_rfl
def c120 : C := (C.ops [⟨I.mv 4 (O.k AV.nils), none, some 4⟩]).seq (((C.ops [⟨I.mv 9 (O.t 0), none, some 9⟩, ⟨I.len 10 (O.t 9), none, some 10⟩, ⟨I.mv 11 (O.t 1), none, some 11⟩, ⟨I.len 12 (O.t 11), none, some 12⟩, ⟨I.bin 13 BinOp.lss (O.t 10) (O.t 12), none, some 13⟩]).seq (C.cond (O.t 13) (C.ops [⟨I.mv 14 (O.t 1), none, some 14⟩, ⟨I.mv 15 (O.t 0), none, some 15⟩, ⟨I.mv 0 (O.t 14), none, some 0⟩, ⟨I.mv 1 (O.t 15), none, some 1⟩]) C.skip)).seq ((C.ops [⟨I.mv 16 (O.t 0), none, some 16⟩, ⟨I.len 17 (O.t 16), none, some 17⟩, ⟨I.bin 18 BinOp.add (O.t 17) (O.k (AV.int IntKind.i64 1)), none, some 18⟩, ⟨I.mksl 19 1 8 [AV.int IntKind.u64 0] (O.k (AV.int IntKind.i64 0)) (O.t 18), none, some 19⟩, ⟨I.mv 5 (O.t 19), none, some 5⟩]).seq ((C.ops [⟨I.mv 6 (O.k (AV.int IntKind.u64 0)), none, some 6⟩]).seq (((C.ops [⟨I.mv 20 (O.t 0), none, some 20⟩, ⟨I.len 21 (O.t 20), none, some 21⟩, ⟨I.mv 22 (O.k (AV.int IntKind.i64 0)), none, some 22⟩]).seq (C.block 0 ((C.ops [⟨I.bin 23 BinOp.lss (O.t 22) (O.t 21), none, some 23⟩]).seq ((C.cond (O.t 23) C.skip (C.exit 0)).seq ((C.block 1 ((C.ops [⟨I.mv 24 (O.t 22), none, some 24⟩, ⟨I.idxa 25 1 none (O.t 20) (O.t 22), none, some 25⟩, ⟨I.loadf 26 false 1 (O.t 25), none, some 26⟩, ⟨I.mv 7 (O.t 24), none, some 7⟩, ⟨I.mv 8 (O.t 26), none, some 8⟩]).seq ((C.ops [⟨I.mv 27 (O.t 6), none, some 27⟩, ⟨I.mv 28 (O.t 8), none, some 28⟩, ⟨I.bin 29 BinOp.add (O.t 27) (O.t 28), none, some 29⟩, ⟨I.mv 6 (O.t 29), none, some 6⟩]).seq (((C.ops [⟨I.mv 30 (O.t 7), none, some 30⟩, ⟨I.mv 31 (O.t 1), none, some 31⟩, ⟨I.len 32 (O.t 31), none, some 32⟩, ⟨I.bin 33 BinOp.lss (O.t 30) (O.t 32), none, some 33⟩]).seq (C.cond (O.t 33) (C.ops [⟨I.mv 34 (O.t 6), none, some 34⟩, ⟨I.mv 35 (O.t 1), none, some 35⟩, ⟨I.mv 36 (O.t 7), none, some 36⟩, ⟨I.idxa 37 1 none (O.t 35) (O.t 36), none, some 37⟩, ⟨I.loadf 38 false 1 (O.t 37), none, some 38⟩, ⟨I.bin 39 BinOp.add (O.t 34) (O.t 38), none, some 39⟩, ⟨I.mv 6 (O.t 39), none, some 6⟩]) C.skip)).seq ((C.ops [⟨I.mv 40 (O.t 5), none, some 40⟩, ⟨I.mv 41 (O.t 6), none, some 41⟩, ⟨I.bin 42 BinOp.rem (O.t 41) (O.k (AV.int IntKind.u64 1000000000)), none, some 42⟩, ⟨I.bsl 43 1 [O.t 42] false, none, some 43⟩, ⟨I.append 44 1 8 (O.t 40) (O.t 43) true, none, some 44⟩, ⟨I.mv 5 (O.t 44), none, some 5⟩]).seq (C.ops [⟨I.mv 45 (O.t 6), none, some 45⟩, ⟨I.bin 46 BinOp.quo (O.t 45) (O.k (AV.int IntKind.u64 1000000000)), none, some 46⟩, ⟨I.mv 6 (O.t 46), none, some 6⟩])))))).seq (C.ops [⟨I.bin 47 BinOp.add (O.t 22) (O.k (AV.int IntKind.i64 1)), none, some 47⟩, ⟨I.mv 22 (O.t 47), none, some 22⟩])))).loop)).seq ((C.ops [⟨I.mv 48 (O.t 5), none, some 48⟩, ⟨I.mv 49 (O.t 6), none, some 49⟩, ⟨I.bsl 50 1 [O.t 49] false, none, some 50⟩, ⟨I.append 51 1 8 (O.t 48) (O.t 50) true, none, some 51⟩, ⟨I.call (some 52) (O.k (AV.fn 152 [])) [O.t 51] true, none, some 52⟩, ⟨I.mv 4 (O.t 52), none, some 4⟩]).seq C.ret)))))
theorem k120 (m : Int) : compF (cx m).P (cx m).gt (fun t => t == 44 || t == 51 || t == 52) 120 = some (c120, [RV.tmp 4], 53) := by kernel_rfl
def c121 : C := (C.ops [⟨I.mv 4 (O.k (AV.int IntKind.i64 0)), none, some 4⟩]).seq (((C.ops [⟨I.mv 6 (O.t 0), none, some 6⟩, ⟨I.len 7 (O.t 6), none, some 7⟩, ⟨I.mv 8 (O.t 1), none, some 8⟩, ⟨I.len 9 (O.t 8), none, some 9⟩, ⟨I.bin 10 BinOp.neq (O.t 7) (O.t 9), none, some 10⟩]).seq (C.cond (O.t 10) (((C.ops [⟨I.mv 11 (O.t 0), none, some 11⟩, ⟨I.len 12 (O.t 11), none, some 12⟩, ⟨I.mv 13 (O.t 1), none, some 13⟩, ⟨I.len 14 (O.t 13), none, some 14⟩, ⟨I.bin 15 BinOp.lss (O.t 12) (O.t 14), none, some 15⟩]).seq (C.cond (O.t 15) ((C.ops [⟨I.mv 4 (O.k (AV.int IntKind.i64 (-1))), none, some 4⟩]).seq C.ret) C.skip)).seq ((C.ops [⟨I.mv 4 (O.k (AV.int IntKind.i64 1)), none, some 4⟩]).seq C.ret)) C.skip)).seq (((C.ops [⟨I.mv 16 (O.t 0), none, some 16⟩, ⟨I.len 17 (O.t 16), none, some 17⟩, ⟨I.bin 18 BinOp.sub (O.t 17) (O.k (AV.int IntKind.i64 1)), none, some 18⟩, ⟨I.mv 5 (O.t 18), none, some 5⟩]).seq (C.block 0 (((C.ops [⟨I.mv 19 (O.t 5), none, some 19⟩, ⟨I.bin 20 BinOp.geq (O.t 19) (O.k (AV.int IntKind.i64 0)), none, some 20⟩]).seq (C.cond (O.t 20) C.skip (C.exit 0))).seq ((C.block 1 ((C.ops [⟨I.mv 23 (O.t 0), none, some 23⟩, ⟨I.mv 24 (O.t 5), none, some 24⟩, ⟨I.idxa 25 1 none (O.t 23) (O.t 24), none, some 25⟩, ⟨I.loadf 26 false 1 (O.t 25), none, some 26⟩, ⟨I.mv 27 (O.t 1), none, some 27⟩, ⟨I.mv 28 (O.t 5), none, some 28⟩, ⟨I.idxa 29 1 none (O.t 27) (O.t 28), none, some 29⟩, ⟨I.loadf 30 false 1 (O.t 29), none, some 30⟩, ⟨I.bin 31 BinOp.neq (O.t 26) (O.t 30), none, some 31⟩]).seq (C.cond (O.t 31) (((C.ops [⟨I.mv 32 (O.t 0), none, some 32⟩, ⟨I.mv 33 (O.t 5), none, some 33⟩, ⟨I.idxa 34 1 none (O.t 32) (O.t 33), none, some 34⟩, ⟨I.loadf 35 false 1 (O.t 34), none, some 35⟩, ⟨I.mv 36 (O.t 1), none, some 36⟩, ⟨I.mv 37 (O.t 5), none, some 37⟩, ⟨I.idxa 38 1 none (O.t 36) (O.t 37), none, some 38⟩, ⟨I.loadf 39 false 1 (O.t 38), none, some 39⟩, ⟨I.bin 40 BinOp.lss (O.t 35) (O.t 39), none, some 40⟩]).seq (C.cond (O.t 40) ((C.ops [⟨I.mv 4 (O.k (AV.int IntKind.i64 (-1))), none, some 4⟩]).seq C.ret) C.skip)).seq ((C.ops [⟨I.mv 4 (O.k (AV.int IntKind.i64 1)), none, some 4⟩]).seq C.ret)) C.skip))).seq (C.ops [⟨I.mv 21 (O.t 5), none, some 21⟩, ⟨I.bin 22 BinOp.sub (O.t 21) (O.k (AV.int IntKind.i64 1)), none, some 22⟩, ⟨I.mv 5 (O.t 22), none, some 5⟩]))).loop)).seq ((C.ops [⟨I.mv 4 (O.k (AV.int IntKind.i64 0)), none, some 4⟩]).seq C.ret)))
theorem k121 (m : Int) : compF (cx m).P (cx m).gt (fun _ => false) 121 = some (c121, [RV.tmp 4], 41) := by kernel_rfl
def c122 : C := (C.ops [⟨I.mv 4 (O.k AV.nils), none, some 4⟩]).seq ((C.ops [⟨I.mv 10 (O.t 0), none, some 10⟩, ⟨I.len 11 (O.t 10), none, some 11⟩, ⟨I.mksl 12 1 8 [AV.int IntKind.u64 0] (O.k (AV.int IntKind.i64 0)) (O.t 11), none, some 12⟩, ⟨I.mv 5 (O.t 12), none, some 5⟩]).seq ((C.ops [⟨I.mv 6 (O.k (AV.int IntKind.u64 0)), none, some 6⟩]).seq (((C.ops [⟨I.mv 13 (O.t 0), none, some 13⟩, ⟨I.len 14 (O.t 13), none, some 14⟩, ⟨I.mv 15 (O.k (AV.int IntKind.i64 0)), none, some 15⟩]).seq (C.block 0 ((C.ops [⟨I.bin 16 BinOp.lss (O.t 15) (O.t 14), none, some 16⟩]).seq ((C.cond (O.t 16) C.skip (C.exit 0)).seq ((C.block 1 ((C.ops [⟨I.mv 17 (O.t 15), none, some 17⟩, ⟨I.idxa 18 1 none (O.t 13) (O.t 15), none, some 18⟩, ⟨I.loadf 19 false 1 (O.t 18), none, some 19⟩, ⟨I.mv 7 (O.t 17), none, some 7⟩, ⟨I.mv 8 (O.t 19), none, some 8⟩]).seq ((C.ops [⟨I.mv 20 (O.t 6), none, some 20⟩, ⟨I.mv 9 (O.t 20), none, some 9⟩]).seq (((C.ops [⟨I.mv 21 (O.t 7), none, some 21⟩, ⟨I.mv 22 (O.t 1), none, some 22⟩, ⟨I.len 23 (O.t 22), none, some 23⟩, ⟨I.bin 24 BinOp.lss (O.t 21) (O.t 23), none, some 24⟩]).seq (C.cond (O.t 24) (C.ops [⟨I.mv 25 (O.t 9), none, some 25⟩, ⟨I.mv 26 (O.t 1), none, some 26⟩, ⟨I.mv 27 (O.t 7), none, some 27⟩, ⟨I.idxa 28 1 none (O.t 26) (O.t 27), none, some 28⟩, ⟨I.loadf 29 false 1 (O.t 28), none, some 29⟩, ⟨I.bin 30 BinOp.add (O.t 25) (O.t 29), none, some 30⟩, ⟨I.mv 9 (O.t 30), none, some 9⟩]) C.skip)).seq ((C.ops [⟨I.mv 6 (O.k (AV.int IntKind.u64 0)), none, some 6⟩]).seq (((C.ops [⟨I.mv 31 (O.t 8), none, some 31⟩, ⟨I.mv 32 (O.t 9), none, some 32⟩, ⟨I.bin 33 BinOp.lss (O.t 31) (O.t 32), none, some 33⟩]).seq (C.cond (O.t 33) (C.ops [⟨I.mv 34 (O.t 8), none, some 34⟩, ⟨I.bin 35 BinOp.add (O.t 34) (O.k (AV.int IntKind.u64 1000000000)), none, some 35⟩, ⟨I.mv 8 (O.t 35), none, some 8⟩, ⟨I.mv 6 (O.k (AV.int IntKind.u64 1)), none, some 6⟩]) C.skip)).seq (C.ops [⟨I.mv 36 (O.t 5), none, some 36⟩, ⟨I.mv 37 (O.t 8), none, some 37⟩, ⟨I.mv 38 (O.t 9), none, some 38⟩, ⟨I.bin 39 BinOp.sub (O.t 37) (O.t 38), none, some 39⟩, ⟨I.bsl 40 1 [O.t 39] false, none, some 40⟩, ⟨I.append 41 1 8 (O.t 36) (O.t 40) true, none, some 41⟩, ⟨I.mv 5 (O.t 41), none, some 5⟩]))))))).seq (C.ops [⟨I.bin 42 BinOp.add (O.t 15) (O.k (AV.int IntKind.i64 1)), none, some 42⟩, ⟨I.mv 15 (O.t 42), none, some 15⟩])))).loop)).seq ((C.ops [⟨I.mv 43 (O.t 5), none, some 43⟩, ⟨I.call (some 44) (O.k (AV.fn 152 [])) [O.t 43] true, none, some 44⟩, ⟨I.mv 4 (O.t 44), none, some 4⟩]).seq C.ret))))
theorem k122 (m : Int) : compF (cx m).P (cx m).gt (fun t => t == 41 || t == 44) 122 = some (c122, [RV.tmp 4], 45) := by kernel_rfl
def c113 : C := (C.ops [⟨I.mv 4 (O.k AV.nils), none, some 4⟩]).seq ((C.ops [⟨I.mv 12 (O.t 0), none, some 12⟩, ⟨I.len 13 (O.t 12), none, some 13⟩, ⟨I.mv 14 (O.t 1), none, some 14⟩, ⟨I.len 15 (O.t 14), none, some 15⟩, ⟨I.bin 16 BinOp.add (O.t 13) (O.t 15), none, some 16⟩, ⟨I.bin 17 BinOp.add (O.t 16) (O.k (AV.int IntKind.i64 1)), none, some 17⟩, ⟨I.mksl 18 1 8 [AV.int IntKind.u64 0] (O.t 17) (O.t 17), none, some 18⟩, ⟨I.mv 5 (O.t 18), none, some 5⟩]).seq (((C.ops [⟨I.mv 19 (O.t 0), none, some 19⟩, ⟨I.len 20 (O.t 19), none, some 20⟩, ⟨I.mv 21 (O.k (AV.int IntKind.i64 0)), none, some 21⟩]).seq (C.block 0 ((C.ops [⟨I.bin 22 BinOp.lss (O.t 21) (O.t 20), none, some 22⟩]).seq ((C.cond (O.t 22) C.skip (C.exit 0)).seq ((C.block 1 ((C.ops [⟨I.mv 23 (O.t 21), none, some 23⟩, ⟨I.idxa 24 1 none (O.t 19) (O.t 21), none, some 24⟩, ⟨I.loadf 25 false 1 (O.t 24), none, some 25⟩, ⟨I.mv 6 (O.t 23), none, some 6⟩, ⟨I.mv 7 (O.t 25), none, some 7⟩]).seq ((C.ops [⟨I.mv 8 (O.k (AV.int IntKind.u64 0)), none, some 8⟩]).seq (((C.ops [⟨I.mv 26 (O.t 1), none, some 26⟩, ⟨I.len 27 (O.t 26), none, some 27⟩, ⟨I.mv 28 (O.k (AV.int IntKind.i64 0)), none, some 28⟩]).seq (C.block 2 ((C.ops [⟨I.bin 29 BinOp.lss (O.t 28) (O.t 27), none, some 29⟩]).seq ((C.cond (O.t 29) C.skip (C.exit 2)).seq ((C.block 3 ((C.ops [⟨I.mv 30 (O.t 28), none, some 30⟩, ⟨I.idxa 31 1 none (O.t 26) (O.t 28), none, some 31⟩, ⟨I.loadf 32 false 1 (O.t 31), none, some 32⟩, ⟨I.mv 9 (O.t 30), none, some 9⟩, ⟨I.mv 10 (O.t 32), none, some 10⟩]).seq ((C.ops [⟨I.mv 33 (O.t 8), none, some 33⟩, ⟨I.mv 34 (O.t 5), none, some 34⟩, ⟨I.mv 35 (O.t 6), none, some 35⟩, ⟨I.mv 36 (O.t 9), none, some 36⟩, ⟨I.bin 37 BinOp.add (O.t 35) (O.t 36), none, some 37⟩, ⟨I.idxa 38 1 none (O.t 34) (O.t 37), none, some 38⟩, ⟨I.load 39 false 1 (O.t 38), none, some 39⟩, ⟨I.mv 40 (O.t 7), none, some 40⟩, ⟨I.mv 41 (O.t 10), none, some 41⟩, ⟨I.bin 42 BinOp.mul (O.t 40) (O.t 41), none, some 42⟩, ⟨I.bin 43 BinOp.add (O.t 39) (O.t 42), none, some 43⟩, ⟨I.bin 44 BinOp.add (O.t 33) (O.t 43), none, some 44⟩, ⟨I.mv 8 (O.t 44), none, some 8⟩]).seq ((C.ops [⟨I.mv 45 (O.t 5), none, some 45⟩, ⟨I.mv 46 (O.t 6), none, some 46⟩, ⟨I.mv 47 (O.t 9), none, some 47⟩, ⟨I.bin 48 BinOp.add (O.t 46) (O.t 47), none, some 48⟩, ⟨I.mv 49 (O.t 8), none, some 49⟩, ⟨I.bin 50 BinOp.rem (O.t 49) (O.k (AV.int IntKind.u64 1000000000)), none, some 50⟩, ⟨I.idxa 51 1 none (O.t 45) (O.t 48), none, some 51⟩, ⟨I.store 1 (O.t 51) (O.t 50), none, none⟩]).seq (C.ops [⟨I.mv 52 (O.t 8), none, some 52⟩, ⟨I.bin 53 BinOp.quo (O.t 52) (O.k (AV.int IntKind.u64 1000000000)), none, some 53⟩, ⟨I.mv 8 (O.t 53), none, some 8⟩]))))).seq (C.ops [⟨I.bin 54 BinOp.add (O.t 28) (O.k (AV.int IntKind.i64 1)), none, some 54⟩, ⟨I.mv 28 (O.t 54), none, some 28⟩])))).loop)).seq ((C.ops [⟨I.mv 55 (O.t 6), none, some 55⟩, ⟨I.mv 56 (O.t 1), none, some 56⟩, ⟨I.len 57 (O.t 56), none, some 57⟩, ⟨I.bin 58 BinOp.add (O.t 55) (O.t 57), none, some 58⟩, ⟨I.mv 11 (O.t 58), none, some 11⟩]).seq (C.block 4 (((C.ops [⟨I.mv 59 (O.t 8), none, some 59⟩, ⟨I.bin 60 BinOp.gtr (O.t 59) (O.k (AV.int IntKind.u64 0)), none, some 60⟩]).seq (C.cond (O.t 60) C.skip (C.exit 4))).seq ((C.block 5 ((C.ops [⟨I.mv 63 (O.t 8), none, some 63⟩, ⟨I.mv 64 (O.t 5), none, some 64⟩, ⟨I.mv 65 (O.t 11), none, some 65⟩, ⟨I.idxa 66 1 none (O.t 64) (O.t 65), none, some 66⟩, ⟨I.load 67 false 1 (O.t 66), none, some 67⟩, ⟨I.bin 68 BinOp.add (O.t 63) (O.t 67), none, some 68⟩, ⟨I.mv 8 (O.t 68), none, some 8⟩]).seq ((C.ops [⟨I.mv 69 (O.t 5), none, some 69⟩, ⟨I.mv 70 (O.t 11), none, some 70⟩, ⟨I.mv 71 (O.t 8), none, some 71⟩, ⟨I.bin 72 BinOp.rem (O.t 71) (O.k (AV.int IntKind.u64 1000000000)), none, some 72⟩, ⟨I.idxa 73 1 none (O.t 69) (O.t 70), none, some 73⟩, ⟨I.store 1 (O.t 73) (O.t 72), none, none⟩]).seq (C.ops [⟨I.mv 74 (O.t 8), none, some 74⟩, ⟨I.bin 75 BinOp.quo (O.t 74) (O.k (AV.int IntKind.u64 1000000000)), none, some 75⟩, ⟨I.mv 8 (O.t 75), none, some 8⟩])))).seq (C.ops [⟨I.mv 61 (O.t 11), none, some 61⟩, ⟨I.bin 62 BinOp.add (O.t 61) (O.k (AV.int IntKind.i64 1)), none, some 62⟩, ⟨I.mv 11 (O.t 62), none, some 11⟩]))).loop)))))).seq (C.ops [⟨I.bin 76 BinOp.add (O.t 21) (O.k (AV.int IntKind.i64 1)), none, some 76⟩, ⟨I.mv 21 (O.t 76), none, some 21⟩])))).loop)).seq ((C.ops [⟨I.mv 77 (O.t 5), none, some 77⟩, ⟨I.call (some 78) (O.k (AV.fn 152 [])) [O.t 77] true, none, some 78⟩, ⟨I.mv 4 (O.t 78), none, some 4⟩]).seq C.ret)))
theorem k113 (m : Int) : compF (cx m).P (cx m).gt (fun t => t == 39 || t == 67 || t == 78) 113 = some (c113, [RV.tmp 4], 79) := by kernel_rfl
def c190 : C := (C.ops [⟨I.mv 4 (O.k AV.nils), none, some 4⟩]).seq ((C.ops [⟨I.mv 5 (O.t 0), none, some 5⟩, ⟨I.mv 6 (O.t 1), none, some 6⟩, ⟨I.bsl 7 1 [O.t 6] false, none, some 7⟩, ⟨I.call (some 8) (O.k (AV.fn 152 [])) [O.t 7] false, none, some 8⟩, ⟨I.call (some 9) (O.k (AV.fn 113 [])) [O.t 5, O.t 8] false, none, some 9⟩, ⟨I.mv 4 (O.t 9), none, some 4⟩]).seq C.ret)
theorem k190 (m : Int) : compF (cx m).P (cx m).gt (fun _ => false) 190 = some (c190, [RV.tmp 4], 10) := by kernel_rfl
def c154 : C := (C.ops [⟨I.box 1 (O.t 0) false, none, some 1⟩, ⟨I.mv 2 (O.k AV.nilf), none, some 2⟩]).seq ((C.ops [⟨I.mkfn 3 206 [O.t 1], none, some 3⟩, ⟨I.mv 2 (O.t 3), none, some 2⟩]).seq C.ret)
theorem k154 (m : Int) : compF (cx m).P (cx m).gt (fun _ => false) 154 = some (c154, [RV.tmp 2], 4) := by kernel_rfl
end Go.Proofs.YtkjnjdcbnelceaaGreatDoor.KA
end
