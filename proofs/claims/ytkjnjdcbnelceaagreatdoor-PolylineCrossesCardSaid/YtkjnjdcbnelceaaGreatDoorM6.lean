/- Parts of the proof, in order: each part's head says what it holds. -/
import Derived.Test.YtkjnjdcbnelceaaGreatDoorM5

section
/- Contracts: how two segments meet, the law's way. -/
open Go Go.Proofs
set_option linter.unusedSimpArgs false
set_option linter.unusedVariables false
set_option maxHeartbeats 1000000
namespace Go.Proofs.YtkjnjdcbnelceaaGreatDoor.KA
open Num Geo

def cells (l : List Pt) : List AV := l.flatMap fun p => [.str (tq p.1), .str (tq p.2)]
theorem cells_nil : cells [] = [] := rfl
theorem cells_cons (p : Pt) (l : List Pt) : cells (p :: l) = .str (tq p.1) :: .str (tq p.2) :: cells l := rfl
theorem cells_append (l m : List Pt) : cells (l ++ m) = cells l ++ cells m := by unfold cells; rw [List.flatMap_append]
theorem cells_length (l : List Pt) : (cells l).length = l.length * 2 := by
  induction l with
  | nil => rfl
  | cons p l ih => rw [cells_cons]; simp [ih]; omega
theorem cells_plain (l : List Pt) : AV.plainL (cells l) = true := by
  induction l with
  | nil => rfl
  | cons p l ih => rw [cells_cons]; simp [AV.plainL, AV.plain, ih]
theorem cells_at (l : List Pt) (j : Nat) (p : Pt) (h : l[j]? = some p) : ((cells l).drop (0 + j * 2)).take 2 = [.str (tq p.1), .str (tq p.2)] := by
  induction l generalizing j with
  | nil => simp at h
  | cons q l ih =>
    cases j with
    | zero => simp at h; subst h; rfl
    | succ j =>
      rw [cells_cons, show 0 + (j + 1) * 2 = (0 + j * 2) + 1 + 1 by omega, List.drop_succ_cons, List.drop_succ_cons]
      exact ih j (by simpa using h)
theorem pt_eq (p q : Pt) : (decide (tq p.1 = tq q.1) && (decide (tq p.2 = tq q.2) && true)) = decide (p = q) := by
  rw [Bool.and_true, Bool.eq_iff_iff]
  simp only [Bool.and_eq_true, decide_eq_true_eq, tq_eq]
  exact ⟨fun h => Prod.ext h.1 h.2, fun h => by rw [h]; exact ⟨rfl, rfl⟩⟩

theorem pt_eq' (p q : Pt) : (decide (tq p.1 = tq q.1) && decide (tq p.2 = tq q.2)) = decide (p = q) := by
  rw [← pt_eq, Bool.and_true]
/-- Is it among the first j? -/
def agn (l : List Pt) (x : Pt) (j : Nat) : Bool := (l.take j).contains x
theorem agn_zero (l : List Pt) (x : Pt) : agn l x 0 = false := by simp [agn]
theorem agn_succ (l : List Pt) (x q : Pt) (j : Nat) (h : l[j]? = some q) : agn l x (j + 1) = (agn l x j || decide (q = x)) := by
  unfold agn
  rw [List.take_add_one, h, Bool.eq_iff_iff]
  simp only [List.contains_eq_mem, Option.toList_some, List.mem_append, List.mem_singleton, decide_eq_true_eq, Bool.or_eq_true]
  constructor
  · rintro (h | h)
    · exact .inl h
    · exact .inr h.symm
  · rintro (h | h)
    · exact .inl h
    · exact .inr h.symm
theorem agn_all (l : List Pt) (x : Pt) : agn l x l.length = l.contains x := by simp [agn]
theorem weak_res0 {st : St} {s : List (Nat × AV)} {c0 : List AV} (h0 : st.h[0]? = some (some c0)) (p0 : AV.plainL c0 = true)
    (h : ∀ p ∈ s, lookup st.s p.1 = p.2.ren (fun i => [0].getD i 0) ∧ p.2.idsLt 1 = true) : weak 0 st ⟨s, [c0].map some⟩ :=
  weak_pick [0] [c0] rfl (by simp) (fun i cs hc => by
    rcases i with _ | i
    · simp at hc; subst hc; exact ⟨h0, p0⟩
    · simp at hc) h
theorem weak_res1 {st : St} {s : List (Nat × AV)} {c0 c1 : List AV} (j : Nat) (hj : j ≠ 0) (h0 : st.h[0]? = some (some c0)) (p0 : AV.plainL c0 = true) (h1 : st.h[j]? = some (some c1)) (p1 : AV.plainL c1 = true)
    (h : ∀ p ∈ s, lookup st.s p.1 = p.2.ren (fun i => [0, j].getD i 0) ∧ p.2.idsLt 2 = true) : weak 0 st ⟨s, [c0, c1].map some⟩ :=
  weak_pick [0, j] [c0, c1] rfl (by simp; omega) (fun i cs hc => by
    rcases i with _ | _ | i
    · simp at hc; subst hc; exact ⟨h0, p0⟩
    · simp at hc; subst hc; exact ⟨h1, p1⟩
    · simp at hc) h

theorem addOn_len (a b c d x : Pt) (on : List Pt) : (addOn a b c d on x).length ≤ on.length + 1 := by
  unfold addOn; split
  · split
    · omega
    · simp
  · omega
theorem fold_len (a b c d : Pt) : ∀ (l on : List Pt), (l.foldl (addOn a b c d) on).length ≤ on.length + l.length
  | [], on => by simp
  | x :: l, on => by
    have h1 := fold_len a b c d l (addOn a b c d on x)
    have h2 := addOn_len a b c d x on
    simp only [List.foldl, List.length_cons]; omega

def onAV : List Pt → AV
  | [] => .nils
  | l => .own 2 1 0 l.length l.length
def onBlk : List Pt → List (List AV)
  | [] => []
  | l => [cells l]
theorem onAV_cons (p : Pt) (l : List Pt) : onAV (p :: l) = .own 2 1 0 (l.length + 1) (l.length + 1) := rfl
theorem onBlk_cons (p : Pt) (l : List Pt) : onBlk (p :: l) = [cells (p :: l)] := rfl

/-- klippelaw11.meet -/
theorem s45 (m : Int) (a b c d : Pt) (pa : P9 a) (pb : P9 b) (pc : P9 c) (pd : P9 d) : ∃ o, SpecP (cx m) 45 [eP a, eP b, eP c, eP d] (.tuple [.int .i64 (meetL a b c d).1, eO o]) ∧ (meetL a b c d).2 = o := by
  refine ⟨_, ?_, rfl⟩
  refine specP_of (mixed m) (k45 m) (Nat.le_of_ble_eq_true rfl) (X_start ?_)
  unfold c45
  have h25 := fun p q r (hp : P9 p) (hq : P9 q) (hr : P9 r) => s25 m p q r hp hq hr
  have h20 := fun p q r (hp : P9 p) (hq : P9 q) (hr : P9 r) => s20 m p q r hp hq hr
  unfold eP at h25 h20
  have g1 := sg_prod (ar a b c) (ar a b d)
  have g2 := sg_prod (ar c d a) (ar c d b)
  simp -implicitDefEqProofs (disch := omega) only [KF, KV0, KV1, KV2, KW, ↓bstep, ↓astep, ↓O1.eq_def, ↓onBool.eq_def, ↓onInt.eq_def, ↓onStr.eq_def, ↓onLo.eq_def, ↓binK.eq_def, ↓arith.eq_def, ↓strOp.eq_def, ↓srcElems.eq_def, ↓dst1.eq_def, args0, List.zipIdx, List.map, lookup, St.ev, St.set, St.setO, reduceCtorEq, AV.plain, AV.plainL, AV.flat, AV.flatL, AV.cells, Nat.reduceEqDiff, ↓reduceIte, List.drop, List.take, List.length, Nat.reduceAdd, Nat.reduceLeDiff, Nat.reduceMul, E.done, rvsK, rvK, resAV, Int.reduceToNat, Int.reduceLE, Int.reduceLT, Int.reduceNeg, Int.reduceAdd, Int.reduceSub, Int.reduceMul, Nat.reduceLT, AV.isElem, AV.one, ↓buildCells.eq_1, ↓buildCells.eq_2, Nat.reduceBEq, eqCells, eP]
  refine X_for (fun x : Nat × List Pt => ⟨[(4, .fp [.str (tq a.1), .str (tq a.2)]), (5, .fp [.str (tq b.1), .str (tq b.2)]), (6, .fp [.str (tq c.1), .str (tq c.2)]), (7, .fp [.str (tq d.1), .str (tq d.2)]), (9, .ref 0 0), (10, onAV x.2),
      (27, .sl 2 [.agg [.str (tq a.1), .str (tq a.2)], .agg [.str (tq b.1), .str (tq b.2)], .agg [.str (tq c.1), .str (tq c.2)], .agg [.str (tq d.1), .str (tq d.2)]]), (28, .int .i64 4), (29, .int .i64 x.1)], ([.str [], .str []] :: onBlk x.2).map some⟩)
    (fun x => x.1 ≤ 4 ∧ x.2 = ([a, b, c, d].take x.1).foldl (addOn a b c d) []) (fun x => 4 - x.1) (0, []) ⟨by omega, rfl⟩ ?_ ?_
  · exact weak_keep (by simp [lookup, onAV])
  rintro ⟨i, on⟩ R ⟨i1, hon⟩ hR
  try dsimp only at hR ⊢ i1 hon
  rcases Nat.lt_or_ge i 4 with hi | hi
  · have hi' : (i : Int) < 4 := by omega
    obtain ⟨x, hx, px, hxs⟩ : ∃ x, ([AV.agg [.str (tq a.1), .str (tq a.2)], .agg [.str (tq b.1), .str (tq b.2)], .agg [.str (tq c.1), .str (tq c.2)], .agg [.str (tq d.1), .str (tq d.2)]])[i]? = some (.agg [.str (tq x.1), .str (tq x.2)]) ∧ P9 x ∧ [a, b, c, d].take (i + 1) = [a, b, c, d].take i ++ [x] := by
      rcases i with _ | _ | _ | _ | i
      · exact ⟨a, rfl, pa, rfl⟩
      · exact ⟨b, rfl, pb, rfl⟩
      · exact ⟨c, rfl, pc, rfl⟩
      · exact ⟨d, rfl, pd, rfl⟩
      · omega
    have step : ([a, b, c, d].take (i + 1)).foldl (addOn a b c d) [] = addOn a b c d on x := by rw [hxs, List.foldl_append, ← hon]; rfl
    have st2 : ∀ on', addOn a b c d on x = on' → i + 1 ≤ 4 ∧ on' = ([a, b, c, d].take (i + 1)).foldl (addOn a b c d) [] := fun on' h => ⟨by omega, by rw [step, h]⟩
    rcases on with _ | ⟨p, l⟩
    · have out : (btw a b x && btw c d x) = false → addOn a b c d [] x = [] := fun h => by unfold addOn; rw [h]; rfl
      simp -implicitDefEqProofs (disch := omega) only [KF, KV0, KV1, KV2, KW, ↓bstep, ↓astep, ↓O1.eq_def, ↓onBool.eq_def, ↓onInt.eq_def, ↓onStr.eq_def, ↓onLo.eq_def, ↓binK.eq_def, ↓arith.eq_def, ↓strOp.eq_def, ↓srcElems.eq_def, ↓dst1.eq_def, args0, List.zipIdx, List.map, lookup, St.ev, St.set, St.setO, reduceCtorEq, AV.plain, AV.plainL, AV.flat, AV.flatL, AV.cells, Nat.reduceEqDiff, ↓reduceIte, List.drop, List.take, List.length, Nat.reduceAdd, Nat.reduceLeDiff, Nat.reduceMul, E.done, rvsK, rvK, resAV, Int.reduceToNat, Int.reduceLE, Int.reduceLT, Int.reduceNeg, Int.reduceAdd, Int.reduceSub, Int.reduceMul, Nat.reduceLT, AV.isElem, AV.one, ↓buildCells.eq_1, ↓buildCells.eq_2, Nat.reduceBEq, eqCells, hi', hx, onAV, onBlk]
      refine CL_pure (h25 _ _ _ pa pb px) rfl ?_
      simp -implicitDefEqProofs (disch := omega) only [KF, KV0, KV1, KV2, KW, ↓bstep, ↓astep, ↓O1.eq_def, ↓onBool.eq_def, ↓onInt.eq_def, ↓onStr.eq_def, ↓onLo.eq_def, ↓binK.eq_def, ↓arith.eq_def, ↓strOp.eq_def, ↓srcElems.eq_def, ↓dst1.eq_def, args0, List.zipIdx, List.map, lookup, St.ev, St.set, St.setO, reduceCtorEq, AV.plain, AV.plainL, AV.flat, AV.flatL, AV.cells, Nat.reduceEqDiff, ↓reduceIte, List.drop, List.take, List.length, Nat.reduceAdd, Nat.reduceLeDiff, Nat.reduceMul, E.done, rvsK, rvK, resAV, Int.reduceToNat, Int.reduceLE, Int.reduceLT, Int.reduceNeg, Int.reduceAdd, Int.reduceSub, Int.reduceMul, Nat.reduceLT, AV.isElem, AV.one, ↓buildCells.eq_1, ↓buildCells.eq_2, Nat.reduceBEq, eqCells]
      refine iteI (fun t1 => ?_) (fun t1 => ?_)
      · refine CL_pure (h25 _ _ _ pc pd px) rfl ?_
        simp -implicitDefEqProofs (disch := omega) only [KF, KV0, KV1, KV2, KW, ↓bstep, ↓astep, ↓O1.eq_def, ↓onBool.eq_def, ↓onInt.eq_def, ↓onStr.eq_def, ↓onLo.eq_def, ↓binK.eq_def, ↓arith.eq_def, ↓strOp.eq_def, ↓srcElems.eq_def, ↓dst1.eq_def, args0, List.zipIdx, List.map, lookup, St.ev, St.set, St.setO, reduceCtorEq, AV.plain, AV.plainL, AV.flat, AV.flatL, AV.cells, Nat.reduceEqDiff, ↓reduceIte, List.drop, List.take, List.length, Nat.reduceAdd, Nat.reduceLeDiff, Nat.reduceMul, E.done, rvsK, rvK, resAV, Int.reduceToNat, Int.reduceLE, Int.reduceLT, Int.reduceNeg, Int.reduceAdd, Int.reduceSub, Int.reduceMul, Nat.reduceLT, AV.isElem, AV.one, ↓buildCells.eq_1, ↓buildCells.eq_2, Nat.reduceBEq, eqCells]
        refine iteI (fun t2 => ?_) (fun t2 => ?_)
        · refine X_for (fun _ : Unit => ⟨[(4, .fp [.str (tq a.1), .str (tq a.2)]), (5, .fp [.str (tq b.1), .str (tq b.2)]), (6, .fp [.str (tq c.1), .str (tq c.2)]), (7, .fp [.str (tq d.1), .str (tq d.2)]), (9, .ref 0 0), (10, AV.nils), (12, .ref 1 0), (13, .bool false), (14, .int .i64 0), (27, .sl 2 [.agg [.str (tq a.1), .str (tq a.2)], .agg [.str (tq b.1), .str (tq b.2)], .agg [.str (tq c.1), .str (tq c.2)], .agg [.str (tq d.1), .str (tq d.2)]]), (28, .int .i64 4), (29, .int .i64 i)], [some [.str [], .str []], some [.str (tq x.1), .str (tq x.2)]]⟩) (fun _ => True) (fun _ => 0) () trivial ?_ ?_
          · exact weak_keep (by simp [lookup])
          intro _ R' _ hR'
          simp -implicitDefEqProofs (disch := omega) only [KF, KV0, KV1, KV2, KW, ↓bstep, ↓astep, ↓O1.eq_def, ↓onBool.eq_def, ↓onInt.eq_def, ↓onStr.eq_def, ↓onLo.eq_def, ↓binK.eq_def, ↓arith.eq_def, ↓strOp.eq_def, ↓srcElems.eq_def, ↓dst1.eq_def, args0, List.zipIdx, List.map, lookup, St.ev, St.set, St.setO, reduceCtorEq, AV.plain, AV.plainL, AV.flat, AV.flatL, AV.cells, Nat.reduceEqDiff, ↓reduceIte, List.drop, List.take, List.length, Nat.reduceAdd, Nat.reduceLeDiff, Nat.reduceMul, E.done, rvsK, rvK, resAV, Int.reduceToNat, Int.reduceLE, Int.reduceLT, Int.reduceNeg, Int.reduceAdd, Int.reduceSub, Int.reduceMul, Nat.reduceLT, AV.isElem, AV.one, ↓buildCells.eq_1, ↓buildCells.eq_2, Nat.reduceBEq, eqCells, Int.lt_irrefl]
          refine hR (i + 1, [x]) _ (st2 _ (by unfold addOn; rw [t1, t2]; rfl)) (by dsimp only; omega) (weak_res1 2 (by omega) rfl rfl rfl rfl (by simp [lookup, onAV, AV.ren, AV.idsLt]))
        · refine hR (i + 1, []) _ (st2 _ (out (by simp [t1, t2]))) (by dsimp only; omega) (weak_res0 rfl rfl (by simp [lookup, onAV, AV.ren, AV.idsLt]))
      · refine hR (i + 1, []) _ (st2 _ (out (by simp [t1]))) (by dsimp only; omega) (weak_res0 rfl rfl (by simp [lookup, onAV, AV.ren, AV.idsLt]))
    · have out : (btw a b x && btw c d x) = false → addOn a b c d (p :: l) x = p :: l := fun h => by unfold addOn; rw [h]; rfl
      have hlen := fold_len a b c d ([a, b, c, d].take i) []
      rw [← hon, List.length_take] at hlen
      simp only [List.length_cons, List.length_nil] at hlen
      have cl := cells_length (p :: l)
      have cp := cells_plain (p :: l)
      simp -implicitDefEqProofs (disch := omega) only [KF, KV0, KV1, KV2, KW, ↓bstep, ↓astep, ↓O1.eq_def, ↓onBool.eq_def, ↓onInt.eq_def, ↓onStr.eq_def, ↓onLo.eq_def, ↓binK.eq_def, ↓arith.eq_def, ↓strOp.eq_def, ↓srcElems.eq_def, ↓dst1.eq_def, args0, List.zipIdx, List.map, lookup, St.ev, St.set, St.setO, reduceCtorEq, AV.plain, AV.plainL, AV.flat, AV.flatL, AV.cells, Nat.reduceEqDiff, ↓reduceIte, List.drop, List.take, List.length, Nat.reduceAdd, Nat.reduceLeDiff, Nat.reduceMul, E.done, rvsK, rvK, resAV, Int.reduceToNat, Int.reduceLE, Int.reduceLT, Int.reduceNeg, Int.reduceAdd, Int.reduceSub, Int.reduceMul, Nat.reduceLT, AV.isElem, AV.one, ↓buildCells.eq_1, ↓buildCells.eq_2, Nat.reduceBEq, eqCells, hi', hx, onAV, onBlk]
      refine CL_pure (h25 _ _ _ pa pb px) rfl ?_
      simp -implicitDefEqProofs (disch := omega) only [KF, KV0, KV1, KV2, KW, ↓bstep, ↓astep, ↓O1.eq_def, ↓onBool.eq_def, ↓onInt.eq_def, ↓onStr.eq_def, ↓onLo.eq_def, ↓binK.eq_def, ↓arith.eq_def, ↓strOp.eq_def, ↓srcElems.eq_def, ↓dst1.eq_def, args0, List.zipIdx, List.map, lookup, St.ev, St.set, St.setO, reduceCtorEq, AV.plain, AV.plainL, AV.flat, AV.flatL, AV.cells, Nat.reduceEqDiff, ↓reduceIte, List.drop, List.take, List.length, Nat.reduceAdd, Nat.reduceLeDiff, Nat.reduceMul, E.done, rvsK, rvK, resAV, Int.reduceToNat, Int.reduceLE, Int.reduceLT, Int.reduceNeg, Int.reduceAdd, Int.reduceSub, Int.reduceMul, Nat.reduceLT, AV.isElem, AV.one, ↓buildCells.eq_1, ↓buildCells.eq_2, Nat.reduceBEq, eqCells]
      refine iteI (fun t1 => ?_) (fun t1 => ?_)
      · refine CL_pure (h25 _ _ _ pc pd px) rfl ?_
        simp -implicitDefEqProofs (disch := omega) only [KF, KV0, KV1, KV2, KW, ↓bstep, ↓astep, ↓O1.eq_def, ↓onBool.eq_def, ↓onInt.eq_def, ↓onStr.eq_def, ↓onLo.eq_def, ↓binK.eq_def, ↓arith.eq_def, ↓strOp.eq_def, ↓srcElems.eq_def, ↓dst1.eq_def, args0, List.zipIdx, List.map, lookup, St.ev, St.set, St.setO, reduceCtorEq, AV.plain, AV.plainL, AV.flat, AV.flatL, AV.cells, Nat.reduceEqDiff, ↓reduceIte, List.drop, List.take, List.length, Nat.reduceAdd, Nat.reduceLeDiff, Nat.reduceMul, E.done, rvsK, rvK, resAV, Int.reduceToNat, Int.reduceLE, Int.reduceLT, Int.reduceNeg, Int.reduceAdd, Int.reduceSub, Int.reduceMul, Nat.reduceLT, AV.isElem, AV.one, ↓buildCells.eq_1, ↓buildCells.eq_2, Nat.reduceBEq, eqCells]
        refine iteI (fun t2 => ?_) (fun t2 => ?_)
        · refine X_for (fun j : Nat => ⟨[(4, .fp [.str (tq a.1), .str (tq a.2)]), (5, .fp [.str (tq b.1), .str (tq b.2)]), (6, .fp [.str (tq c.1), .str (tq c.2)]), (7, .fp [.str (tq d.1), .str (tq d.2)]), (9, .ref 0 0), (10, .own 2 1 0 (l.length + 1) (l.length + 1)), (12, .ref 2 0), (13, .bool (agn (p :: l) x j)), (14, .int .i64 j), (27, .sl 2 [.agg [.str (tq a.1), .str (tq a.2)], .agg [.str (tq b.1), .str (tq b.2)], .agg [.str (tq c.1), .str (tq c.2)], .agg [.str (tq d.1), .str (tq d.2)]]), (28, .int .i64 4), (29, .int .i64 i)], [some [.str [], .str []], some (cells (p :: l)), some [.str (tq x.1), .str (tq x.2)]]⟩) (fun j => j ≤ l.length + 1) (fun j => l.length + 1 - j) 0 (Nat.zero_le _) ?_ ?_
          · exact weak_keep (by simp [lookup, agn_zero])
          intro j R' j1 hR'
          try dsimp only at hR' ⊢
          rcases Nat.lt_or_ge j (l.length + 1) with hj | hj
          · obtain ⟨q, hq⟩ : ∃ q, (p :: l)[j]? = some q := ⟨_, List.getElem?_eq_getElem (by simpa using hj)⟩
            have hcell := cells_at (p :: l) j q hq
            have hag := agn_succ (p :: l) x q j hq
            have hjl : 0 + j * 2 + 2 ≤ (cells (p :: l)).length := by rw [cl]; simp; omega
            cases ea : agn (p :: l) x j with
            | true =>
              rw [ea] at hag
              simp -implicitDefEqProofs (disch := omega) only [KF, KV0, KV1, KV2, KW, ↓bstep, ↓astep, ↓O1.eq_def, ↓onBool.eq_def, ↓onInt.eq_def, ↓onStr.eq_def, ↓onLo.eq_def, ↓binK.eq_def, ↓arith.eq_def, ↓strOp.eq_def, ↓srcElems.eq_def, ↓dst1.eq_def, args0, List.zipIdx, List.map, lookup, St.ev, St.set, St.setO, reduceCtorEq, AV.plain, AV.plainL, AV.flat, AV.flatL, AV.cells, Nat.reduceEqDiff, ↓reduceIte, List.drop, List.take, List.length, Nat.reduceAdd, Nat.reduceLeDiff, Nat.reduceMul, E.done, rvsK, rvK, resAV, Int.reduceToNat, Int.reduceLE, Int.reduceLT, Int.reduceNeg, Int.reduceAdd, Int.reduceSub, Int.reduceMul, Nat.reduceLT, AV.isElem, AV.one, ↓buildCells.eq_1, ↓buildCells.eq_2, Nat.reduceBEq, eqCells, hj, ea]
              exact hR' (j + 1) _ (by omega) (by omega) (weak_keep (by simp [lookup, hag, ea]))
            | false =>
              rw [ea] at hag
              simp -implicitDefEqProofs (disch := omega) only [KF, KV0, KV1, KV2, KW, ↓bstep, ↓astep, ↓O1.eq_def, ↓onBool.eq_def, ↓onInt.eq_def, ↓onStr.eq_def, ↓onLo.eq_def, ↓binK.eq_def, ↓arith.eq_def, ↓strOp.eq_def, ↓srcElems.eq_def, ↓dst1.eq_def, args0, List.zipIdx, List.map, lookup, St.ev, St.set, St.setO, reduceCtorEq, AV.plain, AV.plainL, AV.flat, AV.flatL, AV.cells, Nat.reduceEqDiff, ↓reduceIte, List.drop, List.take, List.length, Nat.reduceAdd, Nat.reduceLeDiff, Nat.reduceMul, E.done, rvsK, rvK, resAV, Int.reduceToNat, Int.reduceLE, Int.reduceLT, Int.reduceNeg, Int.reduceAdd, Int.reduceSub, Int.reduceMul, Nat.reduceLT, AV.isElem, AV.one, ↓buildCells.eq_1, ↓buildCells.eq_2, Nat.reduceBEq, eqCells, hj, ea, hcell, hjl, pt_eq']
              exact hR' (j + 1) _ (by omega) (by omega) (weak_keep (by simp [lookup, hag, ea]))
          · have ej : j = l.length + 1 := by omega
            subst ej
            have hc := agn_all (p :: l) x
            rw [List.length_cons] at hc
            cases ea : agn (p :: l) x (l.length + 1) with
            | true =>
              rw [ea] at hc
              simp -implicitDefEqProofs (disch := omega) only [KF, KV0, KV1, KV2, KW, ↓bstep, ↓astep, ↓O1.eq_def, ↓onBool.eq_def, ↓onInt.eq_def, ↓onStr.eq_def, ↓onLo.eq_def, ↓binK.eq_def, ↓arith.eq_def, ↓strOp.eq_def, ↓srcElems.eq_def, ↓dst1.eq_def, args0, List.zipIdx, List.map, lookup, St.ev, St.set, St.setO, reduceCtorEq, AV.plain, AV.plainL, AV.flat, AV.flatL, AV.cells, Nat.reduceEqDiff, ↓reduceIte, List.drop, List.take, List.length, Nat.reduceAdd, Nat.reduceLeDiff, Nat.reduceMul, E.done, rvsK, rvK, resAV, Int.reduceToNat, Int.reduceLE, Int.reduceLT, Int.reduceNeg, Int.reduceAdd, Int.reduceSub, Int.reduceMul, Nat.reduceLT, AV.isElem, AV.one, ↓buildCells.eq_1, ↓buildCells.eq_2, Nat.reduceBEq, eqCells, Nat.lt_irrefl, ea]
              refine hR (i + 1, p :: l) _ (st2 _ (by unfold addOn; rw [t1, t2, ← hc]; rfl)) (by dsimp only; omega) (weak_res1 1 (by omega) rfl rfl rfl cp (by simp [lookup, onAV, AV.ren, AV.idsLt]))
            | false =>
              rw [ea] at hc
              have e : List.take ((l.length + 1) * 2) (cells (p :: l)) ++ List.flatMap AV.cells [AV.agg [AV.str (tq x.1), AV.str (tq x.2)]] = cells (p :: (l ++ [x])) := by
                rw [show (l.length + 1) * 2 = (cells (p :: l)).length by rw [cl]; rfl, List.take_length, ← List.cons_append, cells_append]; rfl
              simp -implicitDefEqProofs (disch := omega) only [KF, KV0, KV1, KV2, KW, ↓bstep, ↓astep, ↓O1.eq_def, ↓onBool.eq_def, ↓onInt.eq_def, ↓onStr.eq_def, ↓onLo.eq_def, ↓binK.eq_def, ↓arith.eq_def, ↓strOp.eq_def, ↓srcElems.eq_def, ↓dst1.eq_def, args0, List.zipIdx, List.map, lookup, St.ev, St.set, St.setO, reduceCtorEq, AV.plain, AV.plainL, AV.flat, AV.flatL, AV.cells, Nat.reduceEqDiff, ↓reduceIte, List.drop, List.take, List.length, Nat.reduceAdd, Nat.reduceLeDiff, Nat.reduceMul, E.done, rvsK, rvK, resAV, Int.reduceToNat, Int.reduceLE, Int.reduceLT, Int.reduceNeg, Int.reduceAdd, Int.reduceSub, Int.reduceMul, Nat.reduceLT, AV.isElem, AV.one, ↓buildCells.eq_1, ↓buildCells.eq_2, Nat.reduceBEq, eqCells, Nat.lt_irrefl, ea]
              refine ⟨by rw [cl]; simp, by omega, by omega, ?_⟩
              rw [e]
              refine hR (i + 1, p :: (l ++ [x])) _ (st2 _ (by unfold addOn; rw [t1, t2, ← hc]; rfl)) (by dsimp only; omega) (weak_res1 3 (by omega) rfl rfl rfl (cells_plain _) (by simp [lookup, onAV, AV.ren, AV.idsLt]))
        · refine hR (i + 1, p :: l) _ (st2 _ (out (by simp [t1, t2]))) (by dsimp only; omega) (weak_res1 1 (by omega) rfl rfl rfl cp (by simp [lookup, onAV, AV.ren, AV.idsLt]))
      · refine hR (i + 1, p :: l) _ (st2 _ (out (by simp [t1]))) (by dsimp only; omega) (weak_res1 1 (by omega) rfl rfl rfl cp (by simp [lookup, onAV, AV.ren, AV.idsLt]))
  · have ei : i = 4 := by omega
    subst ei
    have hL : on = onL a b c d := hon
    rcases on with _ | ⟨p, l⟩
    · have em : meetL a b c d = if sg (ar c d a) * sg (ar c d b) ≥ 0 ∨ sg (ar a b c) * sg (ar a b d) ≥ 0 then (0, none)
          else (1, some (a.1 + ar c d a / (ar c d a - ar c d b) * (b.1 - a.1), a.2 + ar c d a / (ar c d a - ar c d b) * (b.2 - a.2))) := by
        unfold meetL; rw [← hL]
      simp -implicitDefEqProofs (disch := omega) only [KF, KV0, KV1, KV2, KW, ↓bstep, ↓astep, ↓O1.eq_def, ↓onBool.eq_def, ↓onInt.eq_def, ↓onStr.eq_def, ↓onLo.eq_def, ↓binK.eq_def, ↓arith.eq_def, ↓strOp.eq_def, ↓srcElems.eq_def, ↓dst1.eq_def, args0, List.zipIdx, List.map, lookup, St.ev, St.set, St.setO, reduceCtorEq, AV.plain, AV.plainL, AV.flat, AV.flatL, AV.cells, Nat.reduceEqDiff, ↓reduceIte, List.drop, List.take, List.length, Nat.reduceAdd, Nat.reduceLeDiff, Nat.reduceMul, E.done, rvsK, rvK, resAV, Int.reduceToNat, Int.reduceLE, Int.reduceLT, Int.reduceNeg, Int.reduceAdd, Int.reduceSub, Int.reduceMul, Nat.reduceLT, AV.isElem, AV.one, ↓buildCells.eq_1, ↓buildCells.eq_2, Nat.reduceBEq, eqCells, onAV, onBlk, Int.lt_irrefl]
      refine CL_pure (h20 _ _ _ pc pd pa) rfl ?_
      simp -implicitDefEqProofs (disch := omega) only [KF, KV0, KV1, KV2, KW, ↓bstep, ↓astep, ↓O1.eq_def, ↓onBool.eq_def, ↓onInt.eq_def, ↓onStr.eq_def, ↓onLo.eq_def, ↓binK.eq_def, ↓arith.eq_def, ↓strOp.eq_def, ↓srcElems.eq_def, ↓dst1.eq_def, args0, List.zipIdx, List.map, lookup, St.ev, St.set, St.setO, reduceCtorEq, AV.plain, AV.plainL, AV.flat, AV.flatL, AV.cells, Nat.reduceEqDiff, ↓reduceIte, List.drop, List.take, List.length, Nat.reduceAdd, Nat.reduceLeDiff, Nat.reduceMul, E.done, rvsK, rvK, resAV, Int.reduceToNat, Int.reduceLE, Int.reduceLT, Int.reduceNeg, Int.reduceAdd, Int.reduceSub, Int.reduceMul, Nat.reduceLT, AV.isElem, AV.one, ↓buildCells.eq_1, ↓buildCells.eq_2, Nat.reduceBEq, eqCells]
      refine CL_pure (h20 _ _ _ pc pd pb) rfl ?_
      simp -implicitDefEqProofs (disch := omega) only [KF, KV0, KV1, KV2, KW, ↓bstep, ↓astep, ↓O1.eq_def, ↓onBool.eq_def, ↓onInt.eq_def, ↓onStr.eq_def, ↓onLo.eq_def, ↓binK.eq_def, ↓arith.eq_def, ↓strOp.eq_def, ↓srcElems.eq_def, ↓dst1.eq_def, args0, List.zipIdx, List.map, lookup, St.ev, St.set, St.setO, reduceCtorEq, AV.plain, AV.plainL, AV.flat, AV.flatL, AV.cells, Nat.reduceEqDiff, ↓reduceIte, List.drop, List.take, List.length, Nat.reduceAdd, Nat.reduceLeDiff, Nat.reduceMul, E.done, rvsK, rvK, resAV, Int.reduceToNat, Int.reduceLE, Int.reduceLT, Int.reduceNeg, Int.reduceAdd, Int.reduceSub, Int.reduceMul, Nat.reduceLT, AV.isElem, AV.one, ↓buildCells.eq_1, ↓buildCells.eq_2, Nat.reduceBEq, eqCells]
      refine CL_pure (h20 _ _ _ pa pb pc) rfl ?_
      simp -implicitDefEqProofs (disch := omega) only [KF, KV0, KV1, KV2, KW, ↓bstep, ↓astep, ↓O1.eq_def, ↓onBool.eq_def, ↓onInt.eq_def, ↓onStr.eq_def, ↓onLo.eq_def, ↓binK.eq_def, ↓arith.eq_def, ↓strOp.eq_def, ↓srcElems.eq_def, ↓dst1.eq_def, args0, List.zipIdx, List.map, lookup, St.ev, St.set, St.setO, reduceCtorEq, AV.plain, AV.plainL, AV.flat, AV.flatL, AV.cells, Nat.reduceEqDiff, ↓reduceIte, List.drop, List.take, List.length, Nat.reduceAdd, Nat.reduceLeDiff, Nat.reduceMul, E.done, rvsK, rvK, resAV, Int.reduceToNat, Int.reduceLE, Int.reduceLT, Int.reduceNeg, Int.reduceAdd, Int.reduceSub, Int.reduceMul, Nat.reduceLT, AV.isElem, AV.one, ↓buildCells.eq_1, ↓buildCells.eq_2, Nat.reduceBEq, eqCells]
      refine CL_pure (s18' m _) rfl ?_
      simp -implicitDefEqProofs (disch := omega) only [KF, KV0, KV1, KV2, KW, ↓bstep, ↓astep, ↓O1.eq_def, ↓onBool.eq_def, ↓onInt.eq_def, ↓onStr.eq_def, ↓onLo.eq_def, ↓binK.eq_def, ↓arith.eq_def, ↓strOp.eq_def, ↓srcElems.eq_def, ↓dst1.eq_def, args0, List.zipIdx, List.map, lookup, St.ev, St.set, St.setO, reduceCtorEq, AV.plain, AV.plainL, AV.flat, AV.flatL, AV.cells, Nat.reduceEqDiff, ↓reduceIte, List.drop, List.take, List.length, Nat.reduceAdd, Nat.reduceLeDiff, Nat.reduceMul, E.done, rvsK, rvK, resAV, Int.reduceToNat, Int.reduceLE, Int.reduceLT, Int.reduceNeg, Int.reduceAdd, Int.reduceSub, Int.reduceMul, Nat.reduceLT, AV.isElem, AV.one, ↓buildCells.eq_1, ↓buildCells.eq_2, Nat.reduceBEq, eqCells]
      refine CL_pure (h20 _ _ _ pa pb pd) rfl ?_
      simp -implicitDefEqProofs (disch := omega) only [KF, KV0, KV1, KV2, KW, ↓bstep, ↓astep, ↓O1.eq_def, ↓onBool.eq_def, ↓onInt.eq_def, ↓onStr.eq_def, ↓onLo.eq_def, ↓binK.eq_def, ↓arith.eq_def, ↓strOp.eq_def, ↓srcElems.eq_def, ↓dst1.eq_def, args0, List.zipIdx, List.map, lookup, St.ev, St.set, St.setO, reduceCtorEq, AV.plain, AV.plainL, AV.flat, AV.flatL, AV.cells, Nat.reduceEqDiff, ↓reduceIte, List.drop, List.take, List.length, Nat.reduceAdd, Nat.reduceLeDiff, Nat.reduceMul, E.done, rvsK, rvK, resAV, Int.reduceToNat, Int.reduceLE, Int.reduceLT, Int.reduceNeg, Int.reduceAdd, Int.reduceSub, Int.reduceMul, Nat.reduceLT, AV.isElem, AV.one, ↓buildCells.eq_1, ↓buildCells.eq_2, Nat.reduceBEq, eqCells]
      refine CL_pure (s18' m _) rfl ?_
      simp -implicitDefEqProofs (disch := omega) only [KF, KV0, KV1, KV2, KW, ↓bstep, ↓astep, ↓O1.eq_def, ↓onBool.eq_def, ↓onInt.eq_def, ↓onStr.eq_def, ↓onLo.eq_def, ↓binK.eq_def, ↓arith.eq_def, ↓strOp.eq_def, ↓srcElems.eq_def, ↓dst1.eq_def, args0, List.zipIdx, List.map, lookup, St.ev, St.set, St.setO, reduceCtorEq, AV.plain, AV.plainL, AV.flat, AV.flatL, AV.cells, Nat.reduceEqDiff, ↓reduceIte, List.drop, List.take, List.length, Nat.reduceAdd, Nat.reduceLeDiff, Nat.reduceMul, E.done, rvsK, rvK, resAV, Int.reduceToNat, Int.reduceLE, Int.reduceLT, Int.reduceNeg, Int.reduceAdd, Int.reduceSub, Int.reduceMul, Nat.reduceLT, AV.isElem, AV.one, ↓buildCells.eq_1, ↓buildCells.eq_2, Nat.reduceBEq, eqCells]
      refine CL_pure (s18' m _) rfl ?_
      simp -implicitDefEqProofs (disch := omega) only [KF, KV0, KV1, KV2, KW, ↓bstep, ↓astep, ↓O1.eq_def, ↓onBool.eq_def, ↓onInt.eq_def, ↓onStr.eq_def, ↓onLo.eq_def, ↓binK.eq_def, ↓arith.eq_def, ↓strOp.eq_def, ↓srcElems.eq_def, ↓dst1.eq_def, args0, List.zipIdx, List.map, lookup, St.ev, St.set, St.setO, reduceCtorEq, AV.plain, AV.plainL, AV.flat, AV.flatL, AV.cells, Nat.reduceEqDiff, ↓reduceIte, List.drop, List.take, List.length, Nat.reduceAdd, Nat.reduceLeDiff, Nat.reduceMul, E.done, rvsK, rvK, resAV, Int.reduceToNat, Int.reduceLE, Int.reduceLT, Int.reduceNeg, Int.reduceAdd, Int.reduceSub, Int.reduceMul, Nat.reduceLT, AV.isElem, AV.one, ↓buildCells.eq_1, ↓buildCells.eq_2, Nat.reduceBEq, eqCells]
      refine CL_pure (s18' m _) rfl ?_
      by_cases c1 : 0 ≤ sg (ar c d a) * sg (ar c d b)
      · rw [if_pos (.inl c1)] at em
        simp -implicitDefEqProofs (disch := omega) only [KF, KV0, KV1, KV2, KW, ↓bstep, ↓astep, ↓O1.eq_def, ↓onBool.eq_def, ↓onInt.eq_def, ↓onStr.eq_def, ↓onLo.eq_def, ↓binK.eq_def, ↓arith.eq_def, ↓strOp.eq_def, ↓srcElems.eq_def, ↓dst1.eq_def, args0, List.zipIdx, List.map, lookup, St.ev, St.set, St.setO, reduceCtorEq, AV.plain, AV.plainL, AV.flat, AV.flatL, AV.cells, Nat.reduceEqDiff, ↓reduceIte, List.drop, List.take, List.length, Nat.reduceAdd, Nat.reduceLeDiff, Nat.reduceMul, E.done, rvsK, rvK, resAV, Int.reduceToNat, Int.reduceLE, Int.reduceLT, Int.reduceNeg, Int.reduceAdd, Int.reduceSub, Int.reduceMul, Nat.reduceLT, AV.isElem, AV.one, ↓buildCells.eq_1, ↓buildCells.eq_2, Nat.reduceBEq, eqCells, c1]
        rw [em]; exact shv rfl rfl
      by_cases c2 : 0 ≤ sg (ar a b c) * sg (ar a b d)
      · rw [if_pos (.inr c2)] at em
        simp -implicitDefEqProofs (disch := omega) only [KF, KV0, KV1, KV2, KW, ↓bstep, ↓astep, ↓O1.eq_def, ↓onBool.eq_def, ↓onInt.eq_def, ↓onStr.eq_def, ↓onLo.eq_def, ↓binK.eq_def, ↓arith.eq_def, ↓strOp.eq_def, ↓srcElems.eq_def, ↓dst1.eq_def, args0, List.zipIdx, List.map, lookup, St.ev, St.set, St.setO, reduceCtorEq, AV.plain, AV.plainL, AV.flat, AV.flatL, AV.cells, Nat.reduceEqDiff, ↓reduceIte, List.drop, List.take, List.length, Nat.reduceAdd, Nat.reduceLeDiff, Nat.reduceMul, E.done, rvsK, rvK, resAV, Int.reduceToNat, Int.reduceLE, Int.reduceLT, Int.reduceNeg, Int.reduceAdd, Int.reduceSub, Int.reduceMul, Nat.reduceLT, AV.isElem, AV.one, ↓buildCells.eq_1, ↓buildCells.eq_2, Nat.reduceBEq, eqCells, c1, c2]
        rw [em]; exact shv rfl rfl
      rw [if_neg (by rintro (h | h); exact c1 h; exact c2 h)] at em
      simp -implicitDefEqProofs (disch := omega) only [KF, KV0, KV1, KV2, KW, ↓bstep, ↓astep, ↓O1.eq_def, ↓onBool.eq_def, ↓onInt.eq_def, ↓onStr.eq_def, ↓onLo.eq_def, ↓binK.eq_def, ↓arith.eq_def, ↓strOp.eq_def, ↓srcElems.eq_def, ↓dst1.eq_def, args0, List.zipIdx, List.map, lookup, St.ev, St.set, St.setO, reduceCtorEq, AV.plain, AV.plainL, AV.flat, AV.flatL, AV.cells, Nat.reduceEqDiff, ↓reduceIte, List.drop, List.take, List.length, Nat.reduceAdd, Nat.reduceLeDiff, Nat.reduceMul, E.done, rvsK, rvK, resAV, Int.reduceToNat, Int.reduceLE, Int.reduceLT, Int.reduceNeg, Int.reduceAdd, Int.reduceSub, Int.reduceMul, Nat.reduceLT, AV.isElem, AV.one, ↓buildCells.eq_1, ↓buildCells.eq_2, Nat.reduceBEq, eqCells, c1, c2]
      have hne : ar c d a - ar c d b ≠ 0 := by
        intro h
        have h' : ar c d a = ar c d b := by grind
        rw [h', sg_mul, ← ge_iff_le, sg_ge] at c1
        apply c1
        rcases tri (ar c d b) with h | h | h
        · have := Rat.mul_pos (a := -ar c d b) (b := -ar c d b) (by grind) (by grind); grind
        · rw [h]; grind
        · have := Rat.mul_pos h h; grind
      have b1 := bd_ar pc pd pa
      have b2 := bd_sub b1 (bd_ar pc pd pb)
      have bk := bd_div b1 b2 hne
      refine CL_pure (s56 m _ _ (qk1 b1) (qk1 (bd_ar pc pd pb))) rfl ?_
      simp -implicitDefEqProofs (disch := omega) only [KF, KV0, KV1, KV2, KW, ↓bstep, ↓astep, ↓O1.eq_def, ↓onBool.eq_def, ↓onInt.eq_def, ↓onStr.eq_def, ↓onLo.eq_def, ↓binK.eq_def, ↓arith.eq_def, ↓strOp.eq_def, ↓srcElems.eq_def, ↓dst1.eq_def, args0, List.zipIdx, List.map, lookup, St.ev, St.set, St.setO, reduceCtorEq, AV.plain, AV.plainL, AV.flat, AV.flatL, AV.cells, Nat.reduceEqDiff, ↓reduceIte, List.drop, List.take, List.length, Nat.reduceAdd, Nat.reduceLeDiff, Nat.reduceMul, E.done, rvsK, rvK, resAV, Int.reduceToNat, Int.reduceLE, Int.reduceLT, Int.reduceNeg, Int.reduceAdd, Int.reduceSub, Int.reduceMul, Nat.reduceLT, AV.isElem, AV.one, ↓buildCells.eq_1, ↓buildCells.eq_2, Nat.reduceBEq, eqCells]
      refine CL_pure (s95 m _ _ (qk1 b1) (qk1 b2) hne) rfl ?_
      simp -implicitDefEqProofs (disch := omega) only [KF, KV0, KV1, KV2, KW, ↓bstep, ↓astep, ↓O1.eq_def, ↓onBool.eq_def, ↓onInt.eq_def, ↓onStr.eq_def, ↓onLo.eq_def, ↓binK.eq_def, ↓arith.eq_def, ↓strOp.eq_def, ↓srcElems.eq_def, ↓dst1.eq_def, args0, List.zipIdx, List.map, lookup, St.ev, St.set, St.setO, reduceCtorEq, AV.plain, AV.plainL, AV.flat, AV.flatL, AV.cells, Nat.reduceEqDiff, ↓reduceIte, List.drop, List.take, List.length, Nat.reduceAdd, Nat.reduceLeDiff, Nat.reduceMul, E.done, rvsK, rvK, resAV, Int.reduceToNat, Int.reduceLE, Int.reduceLT, Int.reduceNeg, Int.reduceAdd, Int.reduceSub, Int.reduceMul, Nat.reduceLT, AV.isElem, AV.one, ↓buildCells.eq_1, ↓buildCells.eq_2, Nat.reduceBEq, eqCells]
      refine CL_pure (s56 m _ _ (qk1 pb.1) (qk1 pa.1)) rfl ?_
      simp -implicitDefEqProofs (disch := omega) only [KF, KV0, KV1, KV2, KW, ↓bstep, ↓astep, ↓O1.eq_def, ↓onBool.eq_def, ↓onInt.eq_def, ↓onStr.eq_def, ↓onLo.eq_def, ↓binK.eq_def, ↓arith.eq_def, ↓strOp.eq_def, ↓srcElems.eq_def, ↓dst1.eq_def, args0, List.zipIdx, List.map, lookup, St.ev, St.set, St.setO, reduceCtorEq, AV.plain, AV.plainL, AV.flat, AV.flatL, AV.cells, Nat.reduceEqDiff, ↓reduceIte, List.drop, List.take, List.length, Nat.reduceAdd, Nat.reduceLeDiff, Nat.reduceMul, E.done, rvsK, rvK, resAV, Int.reduceToNat, Int.reduceLE, Int.reduceLT, Int.reduceNeg, Int.reduceAdd, Int.reduceSub, Int.reduceMul, Nat.reduceLT, AV.isElem, AV.one, ↓buildCells.eq_1, ↓buildCells.eq_2, Nat.reduceBEq, eqCells]
      refine CL_pure (s55 m _ _ (qk1 bk) (qk1 (bd_sub pb.1 pa.1))) rfl ?_
      simp -implicitDefEqProofs (disch := omega) only [KF, KV0, KV1, KV2, KW, ↓bstep, ↓astep, ↓O1.eq_def, ↓onBool.eq_def, ↓onInt.eq_def, ↓onStr.eq_def, ↓onLo.eq_def, ↓binK.eq_def, ↓arith.eq_def, ↓strOp.eq_def, ↓srcElems.eq_def, ↓dst1.eq_def, args0, List.zipIdx, List.map, lookup, St.ev, St.set, St.setO, reduceCtorEq, AV.plain, AV.plainL, AV.flat, AV.flatL, AV.cells, Nat.reduceEqDiff, ↓reduceIte, List.drop, List.take, List.length, Nat.reduceAdd, Nat.reduceLeDiff, Nat.reduceMul, E.done, rvsK, rvK, resAV, Int.reduceToNat, Int.reduceLE, Int.reduceLT, Int.reduceNeg, Int.reduceAdd, Int.reduceSub, Int.reduceMul, Nat.reduceLT, AV.isElem, AV.one, ↓buildCells.eq_1, ↓buildCells.eq_2, Nat.reduceBEq, eqCells]
      refine CL_pure (s29 m _ _ (qk1 pa.1) (qk1 (bd_mul bk (bd_sub pb.1 pa.1)))) rfl ?_
      simp -implicitDefEqProofs (disch := omega) only [KF, KV0, KV1, KV2, KW, ↓bstep, ↓astep, ↓O1.eq_def, ↓onBool.eq_def, ↓onInt.eq_def, ↓onStr.eq_def, ↓onLo.eq_def, ↓binK.eq_def, ↓arith.eq_def, ↓strOp.eq_def, ↓srcElems.eq_def, ↓dst1.eq_def, args0, List.zipIdx, List.map, lookup, St.ev, St.set, St.setO, reduceCtorEq, AV.plain, AV.plainL, AV.flat, AV.flatL, AV.cells, Nat.reduceEqDiff, ↓reduceIte, List.drop, List.take, List.length, Nat.reduceAdd, Nat.reduceLeDiff, Nat.reduceMul, E.done, rvsK, rvK, resAV, Int.reduceToNat, Int.reduceLE, Int.reduceLT, Int.reduceNeg, Int.reduceAdd, Int.reduceSub, Int.reduceMul, Nat.reduceLT, AV.isElem, AV.one, ↓buildCells.eq_1, ↓buildCells.eq_2, Nat.reduceBEq, eqCells]
      refine CL_pure (s56 m _ _ (qk1 pb.2) (qk1 pa.2)) rfl ?_
      simp -implicitDefEqProofs (disch := omega) only [KF, KV0, KV1, KV2, KW, ↓bstep, ↓astep, ↓O1.eq_def, ↓onBool.eq_def, ↓onInt.eq_def, ↓onStr.eq_def, ↓onLo.eq_def, ↓binK.eq_def, ↓arith.eq_def, ↓strOp.eq_def, ↓srcElems.eq_def, ↓dst1.eq_def, args0, List.zipIdx, List.map, lookup, St.ev, St.set, St.setO, reduceCtorEq, AV.plain, AV.plainL, AV.flat, AV.flatL, AV.cells, Nat.reduceEqDiff, ↓reduceIte, List.drop, List.take, List.length, Nat.reduceAdd, Nat.reduceLeDiff, Nat.reduceMul, E.done, rvsK, rvK, resAV, Int.reduceToNat, Int.reduceLE, Int.reduceLT, Int.reduceNeg, Int.reduceAdd, Int.reduceSub, Int.reduceMul, Nat.reduceLT, AV.isElem, AV.one, ↓buildCells.eq_1, ↓buildCells.eq_2, Nat.reduceBEq, eqCells]
      refine CL_pure (s55 m _ _ (qk1 bk) (qk1 (bd_sub pb.2 pa.2))) rfl ?_
      simp -implicitDefEqProofs (disch := omega) only [KF, KV0, KV1, KV2, KW, ↓bstep, ↓astep, ↓O1.eq_def, ↓onBool.eq_def, ↓onInt.eq_def, ↓onStr.eq_def, ↓onLo.eq_def, ↓binK.eq_def, ↓arith.eq_def, ↓strOp.eq_def, ↓srcElems.eq_def, ↓dst1.eq_def, args0, List.zipIdx, List.map, lookup, St.ev, St.set, St.setO, reduceCtorEq, AV.plain, AV.plainL, AV.flat, AV.flatL, AV.cells, Nat.reduceEqDiff, ↓reduceIte, List.drop, List.take, List.length, Nat.reduceAdd, Nat.reduceLeDiff, Nat.reduceMul, E.done, rvsK, rvK, resAV, Int.reduceToNat, Int.reduceLE, Int.reduceLT, Int.reduceNeg, Int.reduceAdd, Int.reduceSub, Int.reduceMul, Nat.reduceLT, AV.isElem, AV.one, ↓buildCells.eq_1, ↓buildCells.eq_2, Nat.reduceBEq, eqCells]
      refine CL_pure (s29 m _ _ (qk1 pa.2) (qk1 (bd_mul bk (bd_sub pb.2 pa.2)))) rfl ?_
      simp -implicitDefEqProofs (disch := omega) only [KF, KV0, KV1, KV2, KW, ↓bstep, ↓astep, ↓O1.eq_def, ↓onBool.eq_def, ↓onInt.eq_def, ↓onStr.eq_def, ↓onLo.eq_def, ↓binK.eq_def, ↓arith.eq_def, ↓strOp.eq_def, ↓srcElems.eq_def, ↓dst1.eq_def, args0, List.zipIdx, List.map, lookup, St.ev, St.set, St.setO, reduceCtorEq, AV.plain, AV.plainL, AV.flat, AV.flatL, AV.cells, Nat.reduceEqDiff, ↓reduceIte, List.drop, List.take, List.length, Nat.reduceAdd, Nat.reduceLeDiff, Nat.reduceMul, E.done, rvsK, rvK, resAV, Int.reduceToNat, Int.reduceLE, Int.reduceLT, Int.reduceNeg, Int.reduceAdd, Int.reduceSub, Int.reduceMul, Nat.reduceLT, AV.isElem, AV.one, ↓buildCells.eq_1, ↓buildCells.eq_2, Nat.reduceBEq, eqCells]
      rw [em]; exact shv rfl rfl
    · have em : meetL a b c d = (min (l.length + 1) 2, some p) := by unfold meetL; rw [← hL]
      have hp : (0 : Int) < ((l.length + 1 : Nat) : Int) := by omega
      have hp' : (0 : Nat) < l.length + 1 := by omega
      have h44 : ¬ (((4 : Nat) : Int) < 4) := by omega
      simp -implicitDefEqProofs (disch := omega) only [KF, KV0, KV1, KV2, KW, ↓bstep, ↓astep, ↓O1.eq_def, ↓onBool.eq_def, ↓onInt.eq_def, ↓onStr.eq_def, ↓onLo.eq_def, ↓binK.eq_def, ↓arith.eq_def, ↓strOp.eq_def, ↓srcElems.eq_def, ↓dst1.eq_def, args0, List.zipIdx, List.map, lookup, St.ev, St.set, St.setO, reduceCtorEq, AV.plain, AV.plainL, AV.flat, AV.flatL, AV.cells, Nat.reduceEqDiff, ↓reduceIte, List.drop, List.take, List.length, Nat.reduceAdd, Nat.reduceLeDiff, Nat.reduceMul, E.done, rvsK, rvK, resAV, Int.reduceToNat, Int.reduceLE, Int.reduceLT, Int.reduceNeg, Int.reduceAdd, Int.reduceSub, Int.reduceMul, Nat.reduceLT, AV.isElem, AV.one, ↓buildCells.eq_1, ↓buildCells.eq_2, Nat.reduceBEq, eqCells, onAV, onBlk, Int.lt_irrefl, cells_cons, hp, hp', h44]
      rw [em]
      refine shv ?_ rfl
      have : (if (2 : Int) < ((l.length + 1 : Nat) : Int) then 2 else ((l.length + 1 : Nat) : Int)) = ((min (l.length + 1) 2 : Nat) : Int) := by split <;> omega
      rw [this]; rfl
end Go.Proofs.YtkjnjdcbnelceaaGreatDoor.KA
end

section
/- Contracts: numbers and points are right, as the reference says it. -/
open Go Go.Proofs
set_option linter.unusedSimpArgs false
set_option linter.unusedVariables false
namespace Go.Proofs.YtkjnjdcbnelceaaGreatDoor.KA
open Num Geo

theorem s45' (m : Int) (a b c d : Pt) (pa : P9 a) (pb : P9 b) (pc : P9 c) (pd : P9 d) : SpecP (cx m) 45 [eP a, eP b, eP c, eP d] (eR (meetL a b c d)) := by
  obtain ⟨o, h, e⟩ := s45 m a b c d pa pb pc pd
  unfold eR; rw [e]; exact h
theorem itoa_head (n : Int) : ∃ b l, Lib.itoa n = b :: l ∧ ((b.toNat : Int) = 45 ↔ n < 0) ∧ (n < 0 → l = Lib.decDigits n.natAbs) := by
  by_cases h : n < 0
  · rw [itoa_neg h]; exact ⟨45, _, rfl, ⟨fun _ => h, fun _ => rfl⟩, fun _ => rfl⟩
  · rw [itoa_nonneg (by omega)]
    obtain ⟨b, l, e, h1, _⟩ := dec_not45 n.toNat
    rw [e]; exact ⟨b, _, rfl, ⟨fun h2 => absurd ((byte_is (c := 45)).1 h2) h1, fun h2 => absurd h2 h⟩, fun h2 => absurd h2 h⟩
theorem s140 (m : Int) (n : Int) : SpecP (cx m) 140 [.str (Lib.itoa n)] (.tuple [.bool (decide (n < 0)), .str (Lib.decDigits n.natAbs)]) := by
  refine specP_of (mixed m) (k140 m) (Nat.le_of_ble_eq_true rfl) (X_start ?_)
  unfold c140
  obtain ⟨b, l, e, h1, h2⟩ := itoa_head n
  rw [e]
  have hl : (0 : Int) < ((l.length + 1 : Nat) : Int) := by omega
  have hl' : 1 ≤ l.length + 1 := by omega
  by_cases hn : n < 0
  · have hb := h1.2 hn
    simp -implicitDefEqProofs (disch := omega) only [KF, KV0, KV1, KV2, KW, ↓bstep, ↓astep, ↓O1.eq_def, ↓onBool.eq_def, ↓onInt.eq_def, ↓onStr.eq_def, ↓onLo.eq_def, ↓binK.eq_def, ↓arith.eq_def, ↓strOp.eq_def, ↓srcElems.eq_def, ↓dst1.eq_def, args0, List.zipIdx, List.map, lookup, St.ev, St.set, St.setO, reduceCtorEq, AV.plain, AV.plainL, AV.flat, AV.flatL, AV.cells, Nat.reduceEqDiff, ↓reduceIte, List.drop, List.take, List.length, Nat.reduceAdd, Nat.reduceLeDiff, Nat.reduceMul, E.done, rvsK, rvK, resAV, Int.reduceToNat, Int.reduceLE, Int.reduceLT, Int.reduceNeg, Int.reduceAdd, Int.reduceSub, Int.reduceMul, Nat.reduceLT, AV.isElem, AV.one, ↓buildCells.eq_1, ↓buildCells.eq_2, Nat.reduceBEq, eqCells, hb, hl, hl']
    exact shv (by rw [← h2 hn]; simp [hn]) rfl
  · have hb : ¬ (b.toNat : Int) = 45 := fun h => hn (h1.1 h)
    simp -implicitDefEqProofs (disch := omega) only [KF, KV0, KV1, KV2, KW, ↓bstep, ↓astep, ↓O1.eq_def, ↓onBool.eq_def, ↓onInt.eq_def, ↓onStr.eq_def, ↓onLo.eq_def, ↓binK.eq_def, ↓arith.eq_def, ↓strOp.eq_def, ↓srcElems.eq_def, ↓dst1.eq_def, args0, List.zipIdx, List.map, lookup, St.ev, St.set, St.setO, reduceCtorEq, AV.plain, AV.plainL, AV.flat, AV.flatL, AV.cells, Nat.reduceEqDiff, ↓reduceIte, List.drop, List.take, List.length, Nat.reduceAdd, Nat.reduceLeDiff, Nat.reduceMul, E.done, rvsK, rvK, resAV, Int.reduceToNat, Int.reduceLE, Int.reduceLT, Int.reduceNeg, Int.reduceAdd, Int.reduceSub, Int.reduceMul, Nat.reduceLT, AV.isElem, AV.one, ↓buildCells.eq_1, ↓buildCells.eq_2, Nat.reduceBEq, eqCells, hb, hl]
    refine shv ?_ rfl
    rw [← e, itoa_nonneg (by omega), show n.toNat = n.natAbs by omega]; simp [hn]
/-- klipperef01.Canonical -/
theorem s141 (m : Int) (n : Int) (hl : (Lib.itoa n).length < 1000000) : SpecP (cx m) 141 [.str (Lib.itoa n)] (.bool true) := by
  refine specP_of (mixed m) (k141 m) (Nat.le_of_ble_eq_true rfl) (X_start ?_)
  unfold c141
  obtain ⟨c, h0, h48⟩ := dec_fst n.natAbs
  have hp := s140 m n
  have hdig := dec_idx n.natAbs
  have hpos := dec_pos n.natAbs
  have hlen : (Lib.decDigits n.natAbs).length < 1000000 := by
    by_cases h : n < 0
    · rw [itoa_neg h] at hl; simp at hl; omega
    · rw [itoa_nonneg (by omega), show n.toNat = n.natAbs by omega] at hl; exact hl
  have rest : n = 0 → ((Lib.decDigits n.natAbs).length = 1 ∧ ¬ n < 0) := by
    intro h; subst h; exact ⟨by rw [show (0 : Int).natAbs = 0 from rfl, dec_zero]; rfl, by omega⟩
  have hz : n.natAbs = 0 ↔ n = 0 := by omega
  rw [hz] at h48
  generalize hD : Lib.decDigits n.natAbs = D at *
  simp -implicitDefEqProofs (disch := omega) only [KF, KV0, KV1, KV2, KW, ↓bstep, ↓astep, ↓O1.eq_def, ↓onBool.eq_def, ↓onInt.eq_def, ↓onStr.eq_def, ↓onLo.eq_def, ↓binK.eq_def, ↓arith.eq_def, ↓strOp.eq_def, ↓srcElems.eq_def, ↓dst1.eq_def, args0, List.zipIdx, List.map, lookup, St.ev, St.set, St.setO, reduceCtorEq, AV.plain, AV.plainL, AV.flat, AV.flatL, AV.cells, Nat.reduceEqDiff, ↓reduceIte, List.drop, List.take, List.length, Nat.reduceAdd, Nat.reduceLeDiff, Nat.reduceMul, E.done, rvsK, rvK, resAV, Int.reduceToNat, Int.reduceLE, Int.reduceLT, Int.reduceNeg, Int.reduceAdd, Int.reduceSub, Int.reduceMul, Nat.reduceLT, AV.isElem, AV.one, ↓buildCells.eq_1, ↓buildCells.eq_2, Nat.reduceBEq, eqCells]
  refine CL_pure hp rfl ?_
  simp -implicitDefEqProofs (disch := omega) only [KF, KV0, KV1, KV2, KW, ↓bstep, ↓astep, ↓O1.eq_def, ↓onBool.eq_def, ↓onInt.eq_def, ↓onStr.eq_def, ↓onLo.eq_def, ↓binK.eq_def, ↓arith.eq_def, ↓strOp.eq_def, ↓srcElems.eq_def, ↓dst1.eq_def, args0, List.zipIdx, List.map, lookup, St.ev, St.set, St.setO, reduceCtorEq, AV.plain, AV.plainL, AV.flat, AV.flatL, AV.cells, Nat.reduceEqDiff, ↓reduceIte, List.drop, List.take, List.length, Nat.reduceAdd, Nat.reduceLeDiff, Nat.reduceMul, E.done, rvsK, rvK, resAV, Int.reduceToNat, Int.reduceLE, Int.reduceLT, Int.reduceNeg, Int.reduceAdd, Int.reduceSub, Int.reduceMul, Nat.reduceLT, AV.isElem, AV.one, ↓buildCells.eq_1, ↓buildCells.eq_2, Nat.reduceBEq, eqCells]
  refine X_for (fun j : Nat => ⟨[(3, .bool (decide (n < 0))), (4, .str D), (5, .int .i64 j)], []⟩) (fun j => j ≤ D.length) (fun j => D.length - j) 0 (Nat.zero_le _) ?_ ?_
  · exact weak_keep (by simp [lookup])
  intro j R j1 hR
  try dsimp only at hR ⊢
  rcases Nat.lt_or_ge j D.length with hj | hj
  · obtain ⟨x, hx, x1, x2⟩ := hdig j hj
    have x3 : ¬ (x.toNat : Int) < 48 := by omega
    have x4 : ¬ 57 < (x.toNat : Int) := by omega
    simp -implicitDefEqProofs (disch := omega) only [KF, KV0, KV1, KV2, KW, ↓bstep, ↓astep, ↓O1.eq_def, ↓onBool.eq_def, ↓onInt.eq_def, ↓onStr.eq_def, ↓onLo.eq_def, ↓binK.eq_def, ↓arith.eq_def, ↓strOp.eq_def, ↓srcElems.eq_def, ↓dst1.eq_def, args0, List.zipIdx, List.map, lookup, St.ev, St.set, St.setO, reduceCtorEq, AV.plain, AV.plainL, AV.flat, AV.flatL, AV.cells, Nat.reduceEqDiff, ↓reduceIte, List.drop, List.take, List.length, Nat.reduceAdd, Nat.reduceLeDiff, Nat.reduceMul, E.done, rvsK, rvK, resAV, Int.reduceToNat, Int.reduceLE, Int.reduceLT, Int.reduceNeg, Int.reduceAdd, Int.reduceSub, Int.reduceMul, Nat.reduceLT, AV.isElem, AV.one, ↓buildCells.eq_1, ↓buildCells.eq_2, Nat.reduceBEq, eqCells, hj, hx, x3, x4]
    exact hR (j + 1) _ (by omega) (by omega) (weak_keep (by simp [lookup]))
  · have hj' : ¬ j < D.length := by omega
    have hd0 : ¬ ((D.length : Int) = 0) := by omega
    by_cases hn : n = 0
    · obtain ⟨r1, r2⟩ := rest hn
      have r3 : ¬ (1 : Int) < (D.length : Int) := by omega
      have h48 := h48.2 hn
      simp -implicitDefEqProofs (disch := omega) only [KF, KV0, KV1, KV2, KW, ↓bstep, ↓astep, ↓O1.eq_def, ↓onBool.eq_def, ↓onInt.eq_def, ↓onStr.eq_def, ↓onLo.eq_def, ↓binK.eq_def, ↓arith.eq_def, ↓strOp.eq_def, ↓srcElems.eq_def, ↓dst1.eq_def, args0, List.zipIdx, List.map, lookup, St.ev, St.set, St.setO, reduceCtorEq, AV.plain, AV.plainL, AV.flat, AV.flatL, AV.cells, Nat.reduceEqDiff, ↓reduceIte, List.drop, List.take, List.length, Nat.reduceAdd, Nat.reduceLeDiff, Nat.reduceMul, E.done, rvsK, rvK, resAV, Int.reduceToNat, Int.reduceLE, Int.reduceLT, Int.reduceNeg, Int.reduceAdd, Int.reduceSub, Int.reduceMul, Nat.reduceLT, AV.isElem, AV.one, ↓buildCells.eq_1, ↓buildCells.eq_2, Nat.reduceBEq, eqCells, hj', hd0, h0, h48, r2, r3]
      exact shb rfl
    · have h48 : ¬ (c.toNat : Int) = 48 := fun h => hn (h48.1 h)
      simp -implicitDefEqProofs (disch := omega) only [KF, KV0, KV1, KV2, KW, ↓bstep, ↓astep, ↓O1.eq_def, ↓onBool.eq_def, ↓onInt.eq_def, ↓onStr.eq_def, ↓onLo.eq_def, ↓binK.eq_def, ↓arith.eq_def, ↓strOp.eq_def, ↓srcElems.eq_def, ↓dst1.eq_def, args0, List.zipIdx, List.map, lookup, St.ev, St.set, St.setO, reduceCtorEq, AV.plain, AV.plainL, AV.flat, AV.flatL, AV.cells, Nat.reduceEqDiff, ↓reduceIte, List.drop, List.take, List.length, Nat.reduceAdd, Nat.reduceLeDiff, Nat.reduceMul, E.done, rvsK, rvK, resAV, Int.reduceToNat, Int.reduceLE, Int.reduceLT, Int.reduceNeg, Int.reduceAdd, Int.reduceSub, Int.reduceMul, Nat.reduceLT, AV.isElem, AV.one, ↓buildCells.eq_1, ↓buildCells.eq_2, Nat.reduceBEq, eqCells, hj', hd0, h0, h48]
      exact shb rfl
theorem s103 (m : Int) (n : Int) (hl : (Lib.decDigits n.natAbs).length ≤ 200) : SpecP (cx m) 103 [.str (Lib.itoa n)] (.bool true) := by
  refine specP_of (mixed m) (k103 m) (Nat.le_of_ble_eq_true rfl) (X_start ?_)
  unfold c103
  have h2 : ((Lib.decDigits n.natAbs).length : Int) ≤ 200 := by omega
  have hli : (Lib.itoa n).length < 1000000 := by
    by_cases h : n < 0
    · rw [itoa_neg h]; simp; omega
    · rw [itoa_nonneg (by omega), show n.toNat = n.natAbs by omega]; omega
  simp -implicitDefEqProofs (disch := omega) only [KF, KV0, KV1, KV2, KW, ↓bstep, ↓astep, ↓O1.eq_def, ↓onBool.eq_def, ↓onInt.eq_def, ↓onStr.eq_def, ↓onLo.eq_def, ↓binK.eq_def, ↓arith.eq_def, ↓strOp.eq_def, ↓srcElems.eq_def, ↓dst1.eq_def, args0, List.zipIdx, List.map, lookup, St.ev, St.set, St.setO, reduceCtorEq, AV.plain, AV.plainL, AV.flat, AV.flatL, AV.cells, Nat.reduceEqDiff, ↓reduceIte, List.drop, List.take, List.length, Nat.reduceAdd, Nat.reduceLeDiff, Nat.reduceMul, E.done, rvsK, rvK, resAV, Int.reduceToNat, Int.reduceLE, Int.reduceLT, Int.reduceNeg, Int.reduceAdd, Int.reduceSub, Int.reduceMul, Nat.reduceLT, AV.isElem, AV.one, ↓buildCells.eq_1, ↓buildCells.eq_2, Nat.reduceBEq, eqCells]
  refine CL_pure (s140 m n) rfl ?_
  simp -implicitDefEqProofs (disch := omega) only [KF, KV0, KV1, KV2, KW, ↓bstep, ↓astep, ↓O1.eq_def, ↓onBool.eq_def, ↓onInt.eq_def, ↓onStr.eq_def, ↓onLo.eq_def, ↓binK.eq_def, ↓arith.eq_def, ↓strOp.eq_def, ↓srcElems.eq_def, ↓dst1.eq_def, args0, List.zipIdx, List.map, lookup, St.ev, St.set, St.setO, reduceCtorEq, AV.plain, AV.plainL, AV.flat, AV.flatL, AV.cells, Nat.reduceEqDiff, ↓reduceIte, List.drop, List.take, List.length, Nat.reduceAdd, Nat.reduceLeDiff, Nat.reduceMul, E.done, rvsK, rvK, resAV, Int.reduceToNat, Int.reduceLE, Int.reduceLT, Int.reduceNeg, Int.reduceAdd, Int.reduceSub, Int.reduceMul, Nat.reduceLT, AV.isElem, AV.one, ↓buildCells.eq_1, ↓buildCells.eq_2, Nat.reduceBEq, eqCells]
  refine CL_pure (s141 m n hli) rfl ?_
  simp -implicitDefEqProofs (disch := omega) only [KF, KV0, KV1, KV2, KW, ↓bstep, ↓astep, ↓O1.eq_def, ↓onBool.eq_def, ↓onInt.eq_def, ↓onStr.eq_def, ↓onLo.eq_def, ↓binK.eq_def, ↓arith.eq_def, ↓strOp.eq_def, ↓srcElems.eq_def, ↓dst1.eq_def, args0, List.zipIdx, List.map, lookup, St.ev, St.set, St.setO, reduceCtorEq, AV.plain, AV.plainL, AV.flat, AV.flatL, AV.cells, Nat.reduceEqDiff, ↓reduceIte, List.drop, List.take, List.length, Nat.reduceAdd, Nat.reduceLeDiff, Nat.reduceMul, E.done, rvsK, rvK, resAV, Int.reduceToNat, Int.reduceLE, Int.reduceLT, Int.reduceNeg, Int.reduceAdd, Int.reduceSub, Int.reduceMul, Nat.reduceLT, AV.isElem, AV.one, ↓buildCells.eq_1, ↓buildCells.eq_2, Nat.reduceBEq, eqCells, h2]
  exact shb rfl
theorem idx47 (m : Int) (n : Int) : SpecP (cx m) 104 [.str (Lib.itoa n), .int .u8 47] (.int .i64 (-1)) := by
  have := s104 m (Lib.itoa n) 47
  rw [show (47 : Int).toNat.toUInt8 = 47 from rfl, indexByte_none (itoa_no47 n)] at this
  exact this
theorem s102 (m : Int) (n : Int) : SpecP (cx m) 102 [.str (Lib.itoa n)] (.tuple [.str (Lib.itoa n), .str (Lib.itoa 1)]) := by
  refine specP_of (mixed m) (k102 m) (Nat.le_of_ble_eq_true rfl) (X_start ?_)
  unfold c102
  simp -implicitDefEqProofs (disch := omega) only [KF, KV0, KV1, KV2, KW, ↓bstep, ↓astep, ↓O1.eq_def, ↓onBool.eq_def, ↓onInt.eq_def, ↓onStr.eq_def, ↓onLo.eq_def, ↓binK.eq_def, ↓arith.eq_def, ↓strOp.eq_def, ↓srcElems.eq_def, ↓dst1.eq_def, args0, List.zipIdx, List.map, lookup, St.ev, St.set, St.setO, reduceCtorEq, AV.plain, AV.plainL, AV.flat, AV.flatL, AV.cells, Nat.reduceEqDiff, ↓reduceIte, List.drop, List.take, List.length, Nat.reduceAdd, Nat.reduceLeDiff, Nat.reduceMul, E.done, rvsK, rvK, resAV, Int.reduceToNat, Int.reduceLE, Int.reduceLT, Int.reduceNeg, Int.reduceAdd, Int.reduceSub, Int.reduceMul, Nat.reduceLT, AV.isElem, AV.one, ↓buildCells.eq_1, ↓buildCells.eq_2, Nat.reduceBEq, eqCells]
  refine CL_pure (idx47 m n) rfl ?_
  simp -implicitDefEqProofs (disch := omega) only [KF, KV0, KV1, KV2, KW, ↓bstep, ↓astep, ↓O1.eq_def, ↓onBool.eq_def, ↓onInt.eq_def, ↓onStr.eq_def, ↓onLo.eq_def, ↓binK.eq_def, ↓arith.eq_def, ↓strOp.eq_def, ↓srcElems.eq_def, ↓dst1.eq_def, args0, List.zipIdx, List.map, lookup, St.ev, St.set, St.setO, reduceCtorEq, AV.plain, AV.plainL, AV.flat, AV.flatL, AV.cells, Nat.reduceEqDiff, ↓reduceIte, List.drop, List.take, List.length, Nat.reduceAdd, Nat.reduceLeDiff, Nat.reduceMul, E.done, rvsK, rvK, resAV, Int.reduceToNat, Int.reduceLE, Int.reduceLT, Int.reduceNeg, Int.reduceAdd, Int.reduceSub, Int.reduceMul, Nat.reduceLT, AV.isElem, AV.one, ↓buildCells.eq_1, ↓buildCells.eq_2, Nat.reduceBEq, eqCells]
  exact shv (by rw [itoa_one]) rfl
/-- klipperef02.Right, of integers -/
theorem s54 (m : Int) (n : Int) (hl : (Lib.decDigits n.natAbs).length ≤ 200) : SpecP (cx m) 54 [.str (Lib.itoa n)] (.bool true) := by
  refine specP_of (mixed m) (k54 m) (Nat.le_of_ble_eq_true rfl) (X_start ?_)
  unfold c54
  simp -implicitDefEqProofs (disch := omega) only [KF, KV0, KV1, KV2, KW, ↓bstep, ↓astep, ↓O1.eq_def, ↓onBool.eq_def, ↓onInt.eq_def, ↓onStr.eq_def, ↓onLo.eq_def, ↓binK.eq_def, ↓arith.eq_def, ↓strOp.eq_def, ↓srcElems.eq_def, ↓dst1.eq_def, args0, List.zipIdx, List.map, lookup, St.ev, St.set, St.setO, reduceCtorEq, AV.plain, AV.plainL, AV.flat, AV.flatL, AV.cells, Nat.reduceEqDiff, ↓reduceIte, List.drop, List.take, List.length, Nat.reduceAdd, Nat.reduceLeDiff, Nat.reduceMul, E.done, rvsK, rvK, resAV, Int.reduceToNat, Int.reduceLE, Int.reduceLT, Int.reduceNeg, Int.reduceAdd, Int.reduceSub, Int.reduceMul, Nat.reduceLT, AV.isElem, AV.one, ↓buildCells.eq_1, ↓buildCells.eq_2, Nat.reduceBEq, eqCells]
  refine CL_pure (s102 m n) rfl ?_
  simp -implicitDefEqProofs (disch := omega) only [KF, KV0, KV1, KV2, KW, ↓bstep, ↓astep, ↓O1.eq_def, ↓onBool.eq_def, ↓onInt.eq_def, ↓onStr.eq_def, ↓onLo.eq_def, ↓binK.eq_def, ↓arith.eq_def, ↓strOp.eq_def, ↓srcElems.eq_def, ↓dst1.eq_def, args0, List.zipIdx, List.map, lookup, St.ev, St.set, St.setO, reduceCtorEq, AV.plain, AV.plainL, AV.flat, AV.flatL, AV.cells, Nat.reduceEqDiff, ↓reduceIte, List.drop, List.take, List.length, Nat.reduceAdd, Nat.reduceLeDiff, Nat.reduceMul, E.done, rvsK, rvK, resAV, Int.reduceToNat, Int.reduceLE, Int.reduceLT, Int.reduceNeg, Int.reduceAdd, Int.reduceSub, Int.reduceMul, Nat.reduceLT, AV.isElem, AV.one, ↓buildCells.eq_1, ↓buildCells.eq_2, Nat.reduceBEq, eqCells]
  refine CL_pure (s103 m n hl) rfl ?_
  simp -implicitDefEqProofs (disch := omega) only [KF, KV0, KV1, KV2, KW, ↓bstep, ↓astep, ↓O1.eq_def, ↓onBool.eq_def, ↓onInt.eq_def, ↓onStr.eq_def, ↓onLo.eq_def, ↓binK.eq_def, ↓arith.eq_def, ↓strOp.eq_def, ↓srcElems.eq_def, ↓dst1.eq_def, args0, List.zipIdx, List.map, lookup, St.ev, St.set, St.setO, reduceCtorEq, AV.plain, AV.plainL, AV.flat, AV.flatL, AV.cells, Nat.reduceEqDiff, ↓reduceIte, List.drop, List.take, List.length, Nat.reduceAdd, Nat.reduceLeDiff, Nat.reduceMul, E.done, rvsK, rvK, resAV, Int.reduceToNat, Int.reduceLE, Int.reduceLT, Int.reduceNeg, Int.reduceAdd, Int.reduceSub, Int.reduceMul, Nat.reduceLT, AV.isElem, AV.one, ↓buildCells.eq_1, ↓buildCells.eq_2, Nat.reduceBEq, eqCells]
  refine CL_pure (s103 m 1 (by rw [show (1 : Int).natAbs = 1 from rfl, dec_one]; decide)) rfl ?_
  simp -implicitDefEqProofs (disch := omega) only [KF, KV0, KV1, KV2, KW, ↓bstep, ↓astep, ↓O1.eq_def, ↓onBool.eq_def, ↓onInt.eq_def, ↓onStr.eq_def, ↓onLo.eq_def, ↓binK.eq_def, ↓arith.eq_def, ↓strOp.eq_def, ↓srcElems.eq_def, ↓dst1.eq_def, args0, List.zipIdx, List.map, lookup, St.ev, St.set, St.setO, reduceCtorEq, AV.plain, AV.plainL, AV.flat, AV.flatL, AV.cells, Nat.reduceEqDiff, ↓reduceIte, List.drop, List.take, List.length, Nat.reduceAdd, Nat.reduceLeDiff, Nat.reduceMul, E.done, rvsK, rvK, resAV, Int.reduceToNat, Int.reduceLE, Int.reduceLT, Int.reduceNeg, Int.reduceAdd, Int.reduceSub, Int.reduceMul, Nat.reduceLT, AV.isElem, AV.one, ↓buildCells.eq_1, ↓buildCells.eq_2, Nat.reduceBEq, eqCells]
  refine CL_pure (idx47 m n) rfl ?_
  simp -implicitDefEqProofs (disch := omega) only [KF, KV0, KV1, KV2, KW, ↓bstep, ↓astep, ↓O1.eq_def, ↓onBool.eq_def, ↓onInt.eq_def, ↓onStr.eq_def, ↓onLo.eq_def, ↓binK.eq_def, ↓arith.eq_def, ↓strOp.eq_def, ↓srcElems.eq_def, ↓dst1.eq_def, args0, List.zipIdx, List.map, lookup, St.ev, St.set, St.setO, reduceCtorEq, AV.plain, AV.plainL, AV.flat, AV.flatL, AV.cells, Nat.reduceEqDiff, ↓reduceIte, List.drop, List.take, List.length, Nat.reduceAdd, Nat.reduceLeDiff, Nat.reduceMul, E.done, rvsK, rvK, resAV, Int.reduceToNat, Int.reduceLE, Int.reduceLT, Int.reduceNeg, Int.reduceAdd, Int.reduceSub, Int.reduceMul, Nat.reduceLT, AV.isElem, AV.one, ↓buildCells.eq_1, ↓buildCells.eq_2, Nat.reduceBEq, eqCells]
  exact shb rfl
theorem s17 (m : Int) (q : Rat) (hq : bd 9 1 q) : SpecP (cx m) 17 [.str (tq q)] (.bool true) := by
  refine specP_of (mixed m) (k17 m) (Nat.le_of_ble_eq_true rfl) (X_start ?_)
  unfold c17
  have hd : q.den = 1 := by have := hq.2; have := den_pos q; omega
  have hl : (Lib.decDigits q.num.natAbs).length ≤ 200 := by
    rw [dec_length]; have := nDigits_le (k := 1) (u := q.num.natAbs) (by omega) (by have := hq.1; omega); omega
  rw [tq_whole hd]
  simp -implicitDefEqProofs (disch := omega) only [KF, KV0, KV1, KV2, KW, ↓bstep, ↓astep, ↓O1.eq_def, ↓onBool.eq_def, ↓onInt.eq_def, ↓onStr.eq_def, ↓onLo.eq_def, ↓binK.eq_def, ↓arith.eq_def, ↓strOp.eq_def, ↓srcElems.eq_def, ↓dst1.eq_def, args0, List.zipIdx, List.map, lookup, St.ev, St.set, St.setO, reduceCtorEq, AV.plain, AV.plainL, AV.flat, AV.flatL, AV.cells, Nat.reduceEqDiff, ↓reduceIte, List.drop, List.take, List.length, Nat.reduceAdd, Nat.reduceLeDiff, Nat.reduceMul, E.done, rvsK, rvK, resAV, Int.reduceToNat, Int.reduceLE, Int.reduceLT, Int.reduceNeg, Int.reduceAdd, Int.reduceSub, Int.reduceMul, Nat.reduceLT, AV.isElem, AV.one, ↓buildCells.eq_1, ↓buildCells.eq_2, Nat.reduceBEq, eqCells]
  refine CL_pure (s54 m q.num hl) rfl ?_
  simp -implicitDefEqProofs (disch := omega) only [KF, KV0, KV1, KV2, KW, ↓bstep, ↓astep, ↓O1.eq_def, ↓onBool.eq_def, ↓onInt.eq_def, ↓onStr.eq_def, ↓onLo.eq_def, ↓binK.eq_def, ↓arith.eq_def, ↓strOp.eq_def, ↓srcElems.eq_def, ↓dst1.eq_def, args0, List.zipIdx, List.map, lookup, St.ev, St.set, St.setO, reduceCtorEq, AV.plain, AV.plainL, AV.flat, AV.flatL, AV.cells, Nat.reduceEqDiff, ↓reduceIte, List.drop, List.take, List.length, Nat.reduceAdd, Nat.reduceLeDiff, Nat.reduceMul, E.done, rvsK, rvK, resAV, Int.reduceToNat, Int.reduceLE, Int.reduceLT, Int.reduceNeg, Int.reduceAdd, Int.reduceSub, Int.reduceMul, Nat.reduceLT, AV.isElem, AV.one, ↓buildCells.eq_1, ↓buildCells.eq_2, Nat.reduceBEq, eqCells]
  exact shb rfl
theorem s24 (m : Int) (p : Pt) (hp : P9 p) : SpecP (cx m) 24 [eP p] (.bool true) := by
  refine specP_of (mixed m) (k24 m) (Nat.le_of_ble_eq_true rfl) (X_start ?_)
  unfold c24
  simp -implicitDefEqProofs (disch := omega) only [KF, KV0, KV1, KV2, KW, ↓bstep, ↓astep, ↓O1.eq_def, ↓onBool.eq_def, ↓onInt.eq_def, ↓onStr.eq_def, ↓onLo.eq_def, ↓binK.eq_def, ↓arith.eq_def, ↓strOp.eq_def, ↓srcElems.eq_def, ↓dst1.eq_def, args0, List.zipIdx, List.map, lookup, St.ev, St.set, St.setO, reduceCtorEq, AV.plain, AV.plainL, AV.flat, AV.flatL, AV.cells, Nat.reduceEqDiff, ↓reduceIte, List.drop, List.take, List.length, Nat.reduceAdd, Nat.reduceLeDiff, Nat.reduceMul, E.done, rvsK, rvK, resAV, Int.reduceToNat, Int.reduceLE, Int.reduceLT, Int.reduceNeg, Int.reduceAdd, Int.reduceSub, Int.reduceMul, Nat.reduceLT, AV.isElem, AV.one, ↓buildCells.eq_1, ↓buildCells.eq_2, Nat.reduceBEq, eqCells, eP]
  refine CL_pure (s17 m p.1 hp.1) rfl ?_
  simp -implicitDefEqProofs (disch := omega) only [KF, KV0, KV1, KV2, KW, ↓bstep, ↓astep, ↓O1.eq_def, ↓onBool.eq_def, ↓onInt.eq_def, ↓onStr.eq_def, ↓onLo.eq_def, ↓binK.eq_def, ↓arith.eq_def, ↓strOp.eq_def, ↓srcElems.eq_def, ↓dst1.eq_def, args0, List.zipIdx, List.map, lookup, St.ev, St.set, St.setO, reduceCtorEq, AV.plain, AV.plainL, AV.flat, AV.flatL, AV.cells, Nat.reduceEqDiff, ↓reduceIte, List.drop, List.take, List.length, Nat.reduceAdd, Nat.reduceLeDiff, Nat.reduceMul, E.done, rvsK, rvK, resAV, Int.reduceToNat, Int.reduceLE, Int.reduceLT, Int.reduceNeg, Int.reduceAdd, Int.reduceSub, Int.reduceMul, Nat.reduceLT, AV.isElem, AV.one, ↓buildCells.eq_1, ↓buildCells.eq_2, Nat.reduceBEq, eqCells]
  refine CL_pure (s17 m p.2 hp.2) rfl ?_
  simp -implicitDefEqProofs (disch := omega) only [KF, KV0, KV1, KV2, KW, ↓bstep, ↓astep, ↓O1.eq_def, ↓onBool.eq_def, ↓onInt.eq_def, ↓onStr.eq_def, ↓onLo.eq_def, ↓binK.eq_def, ↓arith.eq_def, ↓strOp.eq_def, ↓srcElems.eq_def, ↓dst1.eq_def, args0, List.zipIdx, List.map, lookup, St.ev, St.set, St.setO, reduceCtorEq, AV.plain, AV.plainL, AV.flat, AV.flatL, AV.cells, Nat.reduceEqDiff, ↓reduceIte, List.drop, List.take, List.length, Nat.reduceAdd, Nat.reduceLeDiff, Nat.reduceMul, E.done, rvsK, rvK, resAV, Int.reduceToNat, Int.reduceLE, Int.reduceLT, Int.reduceNeg, Int.reduceAdd, Int.reduceSub, Int.reduceMul, Nat.reduceLT, AV.isElem, AV.one, ↓buildCells.eq_1, ↓buildCells.eq_2, Nat.reduceBEq, eqCells]
  exact shb rfl
end Go.Proofs.YtkjnjdcbnelceaaGreatDoor.KA
end

section
/- The small code of functions, as own tools print it; that it is the program's is checked by the kernel. -/
open Go Go.Proofs
set_option linter.unusedVariables false
namespace Go.Proofs.YtkjnjdcbnelceaaGreatDoor.KA
def c132 : C := (C.ops [⟨I.mv 8 (O.k (AV.bool false)), none, some 8⟩]).seq ((C.ops [⟨I.mv 13 (O.t 0), none, some 13⟩, ⟨I.len 14 (O.t 13), none, some 14⟩, ⟨I.mv 9 (O.t 14), none, some 9⟩]).seq ((C.ops [⟨I.mv 16 (O.t 0), none, some 16⟩, ⟨I.mv 17 (O.t 2), none, some 17⟩, ⟨I.idxa 18 2 none (O.t 16) (O.t 17), none, some 18⟩, ⟨I.loadf 19 true 2 (O.t 18), none, some 19⟩, ⟨I.mv 20 (O.t 0), none, some 20⟩, ⟨I.mv 21 (O.t 2), none, some 21⟩, ⟨I.bin 22 BinOp.add (O.t 21) (O.k (AV.int IntKind.i64 1)), none, some 22⟩, ⟨I.mv 23 (O.t 9), none, some 23⟩, ⟨I.bin 24 BinOp.rem (O.t 22) (O.t 23), none, some 24⟩, ⟨I.idxa 25 2 none (O.t 20) (O.t 24), none, some 25⟩, ⟨I.loadf 26 true 2 (O.t 25), none, some 26⟩, ⟨I.mv 27 (O.t 0), none, some 27⟩, ⟨I.mv 28 (O.t 3), none, some 28⟩, ⟨I.idxa 29 2 none (O.t 27) (O.t 28), none, some 29⟩, ⟨I.loadf 30 true 2 (O.t 29), none, some 30⟩, ⟨I.mv 31 (O.t 0), none, some 31⟩, ⟨I.mv 32 (O.t 3), none, some 32⟩, ⟨I.bin 33 BinOp.add (O.t 32) (O.k (AV.int IntKind.i64 1)), none, some 33⟩, ⟨I.mv 34 (O.t 9), none, some 34⟩, ⟨I.bin 35 BinOp.rem (O.t 33) (O.t 34), none, some 35⟩, ⟨I.idxa 36 2 none (O.t 31) (O.t 35), none, some 36⟩, ⟨I.loadf 37 true 2 (O.t 36), none, some 37⟩, ⟨I.call (some 38) (O.k (AV.fn 46 [])) [O.t 19, O.t 26, O.t 30, O.t 37] false, none, some 38⟩, ⟨I.mv 15 (O.t 38), none, some 15⟩, ⟨I.ext 39 (O.t 15) 0, none, some 39⟩, ⟨I.ext 40 (O.t 15) 1, none, some 40⟩, ⟨I.alloc 11 [AV.str [], AV.str []] true, none, some 11⟩, ⟨I.mv 10 (O.t 39), none, some 10⟩, ⟨I.store 2 (O.t 11) (O.t 40), none, none⟩]).seq ((C.ops [⟨I.mv 41 (O.t 3), none, some 41⟩, ⟨I.mv 42 (O.t 2), none, some 42⟩, ⟨I.bin 43 BinOp.add (O.t 42) (O.k (AV.int IntKind.i64 1)), none, some 43⟩, ⟨I.bin 44 BinOp.eql (O.t 41) (O.t 43), none, some 44⟩, ⟨I.mv 45 (O.t 44), none, some 45⟩, ⟨I.mv 46 (O.t 1), some (45, false), some 46⟩, ⟨I.mv 47 (O.t 9), some (45, false), some 47⟩, ⟨I.bin 48 BinOp.eql (O.t 46) (O.t 47), some (45, false), some 48⟩, ⟨I.mv 49 (O.t 48), some (45, false), some 49⟩, ⟨I.mv 50 (O.t 2), some (49, true), some 50⟩, ⟨I.bin 51 BinOp.eql (O.t 50) (O.k (AV.int IntKind.i64 0)), some (49, true), some 51⟩, ⟨I.pick 52 (O.t 49) (O.t 51) (O.k (AV.bool false)), some (45, false), some 52⟩, ⟨I.mv 53 (O.t 52), some (45, false), some 53⟩, ⟨I.mv 54 (O.t 3), some (53, true), some 54⟩, ⟨I.mv 55 (O.t 9), some (53, true), some 55⟩, ⟨I.bin 56 BinOp.sub (O.t 55) (O.k (AV.int IntKind.i64 1)), some (53, true), some 56⟩, ⟨I.bin 57 BinOp.eql (O.t 54) (O.t 56), some (53, true), some 57⟩, ⟨I.pick 58 (O.t 53) (O.t 57) (O.k (AV.bool false)), some (45, false), some 58⟩, ⟨I.pick 59 (O.t 45) (O.k (AV.bool true)) (O.t 58), none, some 59⟩, ⟨I.mv 12 (O.t 59), none, some 12⟩]).seq ((C.block 0 ((C.ops [⟨I.mv 61 (O.t 10), none, some 61⟩, ⟨I.bin 62 BinOp.eql (O.t 61) (O.k (AV.int IntKind.i64 0)), none, some 62⟩, ⟨I.mv 60 (O.t 62), none, some 60⟩]).seq (C.cond (O.t 60) ((C.ops [⟨I.mv 8 (O.k (AV.bool false)), none, some 8⟩]).seq C.ret) ((C.ops [⟨I.mv 64 (O.t 10), none, some 64⟩, ⟨I.bin 65 BinOp.eql (O.t 64) (O.k (AV.int IntKind.i64 2)), none, some 65⟩, ⟨I.mv 66 (O.t 65), none, some 66⟩, ⟨I.mv 67 (O.t 12), some (66, false), some 67⟩, ⟨I.not 68 (O.t 67), some (66, false), some 68⟩, ⟨I.pick 69 (O.t 66) (O.k (AV.bool true)) (O.t 68), none, some 69⟩, ⟨I.mv 63 (O.t 69), none, some 63⟩]).seq (C.cond (O.t 63) ((C.ops [⟨I.mv 8 (O.k (AV.bool true)), none, some 8⟩]).seq C.ret) ((C.ops [⟨I.mv 71 (O.t 3), none, some 71⟩, ⟨I.mv 72 (O.t 2), none, some 72⟩, ⟨I.bin 73 BinOp.add (O.t 72) (O.k (AV.int IntKind.i64 1)), none, some 73⟩, ⟨I.bin 74 BinOp.eql (O.t 71) (O.t 73), none, some 74⟩, ⟨I.mv 75 (O.t 74), none, some 75⟩, ⟨I.load 76 true 2 (O.t 11), some (75, true), some 76⟩, ⟨I.mv 77 (O.t 0), some (75, true), some 77⟩, ⟨I.mv 78 (O.t 3), some (75, true), some 78⟩, ⟨I.idxa 79 2 none (O.t 77) (O.t 78), some (75, true), some 79⟩, ⟨I.loadf 80 true 2 (O.t 79), some (75, true), some 80⟩, ⟨I.eqs 81 false [Leaf.str, Leaf.str] (O.t 76) (O.t 80), some (75, true), some 81⟩, ⟨I.pick 82 (O.t 75) (O.t 81) (O.k (AV.bool false)), none, some 82⟩, ⟨I.mv 70 (O.t 82), none, some 70⟩]).seq (C.cond (O.t 70) ((C.ops [⟨I.mv 8 (O.k (AV.bool false)), none, some 8⟩]).seq C.ret) C.skip))))))).seq ((C.ops [⟨I.load 83 true 2 (O.t 11), none, some 83⟩, ⟨I.mv 84 (O.t 0), none, some 84⟩, ⟨I.mv 85 (O.t 2), none, some 85⟩, ⟨I.idxa 86 2 none (O.t 84) (O.t 85), none, some 86⟩, ⟨I.loadf 87 true 2 (O.t 86), none, some 87⟩, ⟨I.eqs 88 true [Leaf.str, Leaf.str] (O.t 83) (O.t 87), none, some 88⟩, ⟨I.mv 89 (O.t 88), none, some 89⟩, ⟨I.mv 90 (O.t 3), some (89, false), some 90⟩, ⟨I.mv 91 (O.t 9), some (89, false), some 91⟩, ⟨I.bin 92 BinOp.sub (O.t 91) (O.k (AV.int IntKind.i64 1)), some (89, false), some 92⟩, ⟨I.bin 93 BinOp.neq (O.t 90) (O.t 92), some (89, false), some 93⟩, ⟨I.pick 94 (O.t 89) (O.k (AV.bool true)) (O.t 93), none, some 94⟩, ⟨I.mv 8 (O.t 94), none, some 8⟩]).seq C.ret)))))
theorem k132 (m : Int) : compF (cx m).P (cx m).gt (fun t => t == 11 || t == 76 || t == 83) 132 = some (c132, [RV.tmp 8], 95) := by kernel_rfl
def c80 : C := (C.ops [⟨I.mv 4 (O.k (AV.int IntKind.i64 0)), none, some 4⟩]).seq (((C.ops [⟨I.mv 7 (O.t 1), none, some 7⟩, ⟨I.mv 8 (O.k (AV.int IntKind.i64 0)), none, some 8⟩]).seq (C.block 0 ((C.ops [⟨I.bin 9 BinOp.lss (O.t 8) (O.t 7), none, some 9⟩]).seq ((C.cond (O.t 9) C.skip (C.exit 0)).seq ((C.block 1 ((C.ops [⟨I.mv 10 (O.t 8), none, some 10⟩, ⟨I.mv 5 (O.t 10), none, some 5⟩]).seq ((C.ops [⟨I.mv 11 (O.t 5), none, some 11⟩, ⟨I.bin 12 BinOp.add (O.t 11) (O.k (AV.int IntKind.i64 1)), none, some 12⟩, ⟨I.mv 6 (O.t 12), none, some 6⟩]).seq (C.block 2 (((C.ops [⟨I.mv 13 (O.t 6), none, some 13⟩, ⟨I.mv 14 (O.t 1), none, some 14⟩, ⟨I.bin 15 BinOp.lss (O.t 13) (O.t 14), none, some 15⟩]).seq (C.cond (O.t 15) C.skip (C.exit 2))).seq ((C.block 3 ((C.ops [⟨I.mv 18 (O.t 0), none, some 18⟩, ⟨I.mv 19 (O.t 1), none, some 19⟩, ⟨I.mv 20 (O.t 5), none, some 20⟩, ⟨I.mv 21 (O.t 6), none, some 21⟩, ⟨I.call (some 22) (O.k (AV.fn 132 [])) [O.t 18, O.t 19, O.t 20, O.t 21] false, none, some 22⟩]).seq (C.cond (O.t 22) ((C.ops [⟨I.mv 4 (O.k (AV.int IntKind.i64 26)), none, some 4⟩]).seq C.ret) C.skip))).seq (C.ops [⟨I.mv 16 (O.t 6), none, some 16⟩, ⟨I.bin 17 BinOp.add (O.t 16) (O.k (AV.int IntKind.i64 1)), none, some 17⟩, ⟨I.mv 6 (O.t 17), none, some 6⟩]))).loop)))).seq (C.ops [⟨I.bin 23 BinOp.add (O.t 8) (O.k (AV.int IntKind.i64 1)), none, some 23⟩, ⟨I.mv 8 (O.t 23), none, some 8⟩])))).loop)).seq ((C.ops [⟨I.mv 4 (O.k (AV.int IntKind.i64 0)), none, some 4⟩]).seq C.ret))
theorem k80 (m : Int) : compF (cx m).P (cx m).gt (fun _ => false) 80 = some (c80, [RV.tmp 4], 24) := by kernel_rfl
def c42 : C := (C.ops [⟨I.mv 2 (O.k (AV.int IntKind.i64 0)), none, some 2⟩]).seq ((C.block 0 ((C.ops [⟨I.mv 6 (O.t 0), none, some 6⟩, ⟨I.len 7 (O.t 6), none, some 7⟩, ⟨I.bin 8 BinOp.lss (O.t 7) (O.k (AV.int IntKind.i64 2)), none, some 8⟩, ⟨I.mv 5 (O.t 8), none, some 5⟩]).seq (C.cond (O.t 5) ((C.ops [⟨I.mv 2 (O.k (AV.int IntKind.i64 5)), none, some 2⟩]).seq C.ret) ((C.ops [⟨I.mv 10 (O.t 0), none, some 10⟩, ⟨I.len 11 (O.t 10), none, some 11⟩, ⟨I.bin 12 BinOp.gtr (O.t 11) (O.k (AV.int IntKind.i64 400)), none, some 12⟩, ⟨I.mv 9 (O.t 12), none, some 9⟩]).seq (C.cond (O.t 9) ((C.ops [⟨I.mv 2 (O.k (AV.int IntKind.i64 4)), none, some 2⟩]).seq C.ret) C.skip))))).seq (((C.ops [⟨I.mv 13 (O.t 0), none, some 13⟩, ⟨I.len 14 (O.t 13), none, some 14⟩, ⟨I.mv 15 (O.k (AV.int IntKind.i64 0)), none, some 15⟩]).seq (C.block 1 ((C.ops [⟨I.bin 16 BinOp.lss (O.t 15) (O.t 14), none, some 16⟩]).seq ((C.cond (O.t 16) C.skip (C.exit 1)).seq ((C.block 2 ((C.ops [⟨I.mv 17 (O.t 15), none, some 17⟩, ⟨I.idxa 18 2 none (O.t 13) (O.t 15), none, some 18⟩, ⟨I.loadf 19 true 2 (O.t 18), none, some 19⟩, ⟨I.alloc 4 [AV.str [], AV.str []] true, none, some 4⟩, ⟨I.mv 3 (O.t 17), none, some 3⟩, ⟨I.store 2 (O.t 4) (O.t 19), none, none⟩]).seq (C.block 3 ((C.ops [⟨I.load 21 true 2 (O.t 4), none, some 21⟩, ⟨I.call (some 22) (O.k (AV.fn 49 [])) [O.t 21] false, none, some 22⟩, ⟨I.bin 23 BinOp.neq (O.t 22) (O.k (AV.int IntKind.i64 0)), none, some 23⟩, ⟨I.mv 20 (O.t 23), none, some 20⟩]).seq (C.cond (O.t 20) ((C.ops [⟨I.mv 2 (O.k (AV.int IntKind.i64 2)), none, some 2⟩]).seq C.ret) ((C.ops [⟨I.mv 25 (O.t 3), none, some 25⟩, ⟨I.bin 26 BinOp.gtr (O.t 25) (O.k (AV.int IntKind.i64 0)), none, some 26⟩, ⟨I.mv 27 (O.t 26), none, some 27⟩, ⟨I.mv 28 (O.t 0), some (27, true), some 28⟩, ⟨I.mv 29 (O.t 3), some (27, true), some 29⟩, ⟨I.bin 30 BinOp.sub (O.t 29) (O.k (AV.int IntKind.i64 1)), some (27, true), some 30⟩, ⟨I.idxa 31 2 none (O.t 28) (O.t 30), some (27, true), some 31⟩, ⟨I.loadf 32 true 2 (O.t 31), some (27, true), some 32⟩, ⟨I.load 33 true 2 (O.t 4), some (27, true), some 33⟩, ⟨I.eqs 34 false [Leaf.str, Leaf.str] (O.t 32) (O.t 33), some (27, true), some 34⟩, ⟨I.pick 35 (O.t 27) (O.t 34) (O.k (AV.bool false)), none, some 35⟩, ⟨I.mv 24 (O.t 35), none, some 24⟩]).seq (C.cond (O.t 24) ((C.ops [⟨I.mv 2 (O.k (AV.int IntKind.i64 17)), none, some 2⟩]).seq C.ret) C.skip))))))).seq (C.ops [⟨I.bin 36 BinOp.add (O.t 15) (O.k (AV.int IntKind.i64 1)), none, some 36⟩, ⟨I.mv 15 (O.t 36), none, some 15⟩])))).loop)).seq ((C.ops [⟨I.mv 37 (O.t 0), none, some 37⟩, ⟨I.mv 38 (O.t 0), none, some 38⟩, ⟨I.len 39 (O.t 38), none, some 39⟩, ⟨I.bin 40 BinOp.sub (O.t 39) (O.k (AV.int IntKind.i64 1)), none, some 40⟩, ⟨I.call (some 41) (O.k (AV.fn 80 [])) [O.t 37, O.t 40] false, none, some 41⟩, ⟨I.mv 2 (O.t 41), none, some 2⟩]).seq C.ret)))
theorem k42 (m : Int) : compF (cx m).P (cx m).gt (fun t => t == 4 || t == 21 || t == 33) 42 = some (c42, [RV.tmp 2], 42) := by kernel_rfl
def c13 : C := (C.ops [⟨I.mv 4 (O.k (AV.int IntKind.i64 0)), none, some 4⟩]).seq ((C.ops [⟨I.mv 5 (O.k (AV.int IntKind.i64 2)), none, some 5⟩]).seq (((C.ops [⟨I.mv 13 (O.t 1), none, some 13⟩]).seq (C.cond (O.t 13) (C.ops [⟨I.mv 5 (O.k (AV.int IntKind.i64 3)), none, some 5⟩]) C.skip)).seq ((C.block 0 ((C.ops [⟨I.mv 15 (O.t 0), none, some 15⟩, ⟨I.len 16 (O.t 15), none, some 16⟩, ⟨I.mv 17 (O.t 5), none, some 17⟩, ⟨I.bin 18 BinOp.lss (O.t 16) (O.t 17), none, some 18⟩, ⟨I.mv 14 (O.t 18), none, some 14⟩]).seq (C.cond (O.t 14) ((C.ops [⟨I.mv 4 (O.k (AV.int IntKind.i64 5)), none, some 4⟩]).seq C.ret) ((C.ops [⟨I.mv 20 (O.t 0), none, some 20⟩, ⟨I.len 21 (O.t 20), none, some 21⟩, ⟨I.bin 22 BinOp.gtr (O.t 21) (O.k (AV.int IntKind.i64 400)), none, some 22⟩, ⟨I.mv 19 (O.t 22), none, some 19⟩]).seq (C.cond (O.t 19) ((C.ops [⟨I.mv 4 (O.k (AV.int IntKind.i64 4)), none, some 4⟩]).seq C.ret) C.skip))))).seq (((C.ops [⟨I.mv 6 (O.k (AV.int IntKind.i64 0)), none, some 6⟩]).seq (C.block 1 (((C.ops [⟨I.mv 23 (O.t 6), none, some 23⟩, ⟨I.mv 24 (O.t 0), none, some 24⟩, ⟨I.len 25 (O.t 24), none, some 25⟩, ⟨I.bin 26 BinOp.lss (O.t 23) (O.t 25), none, some 26⟩]).seq (C.cond (O.t 26) C.skip (C.exit 1))).seq ((C.block 2 (((C.ops [⟨I.mv 29 (O.t 0), none, some 29⟩, ⟨I.mv 30 (O.t 6), none, some 30⟩, ⟨I.idxa 31 2 none (O.t 29) (O.t 30), none, some 31⟩, ⟨I.loadf 32 true 2 (O.t 31), none, some 32⟩, ⟨I.call (some 33) (O.k (AV.fn 24 [])) [O.t 32] false, none, some 33⟩, ⟨I.not 34 (O.t 33), none, some 34⟩]).seq (C.cond (O.t 34) ((C.ops [⟨I.mv 4 (O.k (AV.int IntKind.i64 2)), none, some 4⟩]).seq C.ret) C.skip)).seq ((C.ops [⟨I.mv 35 (O.t 6), none, some 35⟩, ⟨I.bin 36 BinOp.gtr (O.t 35) (O.k (AV.int IntKind.i64 0)), none, some 36⟩, ⟨I.mv 37 (O.t 36), none, some 37⟩, ⟨I.mv 38 (O.t 0), some (37, true), some 38⟩, ⟨I.mv 39 (O.t 6), some (37, true), some 39⟩, ⟨I.idxa 40 2 none (O.t 38) (O.t 39), some (37, true), some 40⟩, ⟨I.loadf 41 true 2 (O.t 40), some (37, true), some 41⟩, ⟨I.mv 42 (O.t 0), some (37, true), some 42⟩, ⟨I.mv 43 (O.t 6), some (37, true), some 43⟩, ⟨I.bin 44 BinOp.sub (O.t 43) (O.k (AV.int IntKind.i64 1)), some (37, true), some 44⟩, ⟨I.idxa 45 2 none (O.t 42) (O.t 44), some (37, true), some 45⟩, ⟨I.loadf 46 true 2 (O.t 45), some (37, true), some 46⟩, ⟨I.eqs 47 false [Leaf.str, Leaf.str] (O.t 41) (O.t 46), some (37, true), some 47⟩, ⟨I.pick 48 (O.t 37) (O.t 47) (O.k (AV.bool false)), none, some 48⟩, ⟨I.mv 49 (O.t 48), none, some 49⟩, ⟨I.mv 50 (O.t 6), some (49, false), some 50⟩, ⟨I.bin 51 BinOp.eql (O.t 50) (O.k (AV.int IntKind.i64 0)), some (49, false), some 51⟩, ⟨I.mv 52 (O.t 51), some (49, false), some 52⟩, ⟨I.mv 53 (O.t 1), some (52, true), some 53⟩, ⟨I.pick 54 (O.t 52) (O.t 53) (O.k (AV.bool false)), some (49, false), some 54⟩, ⟨I.mv 55 (O.t 54), some (49, false), some 55⟩, ⟨I.mv 56 (O.t 0), some (55, true), some 56⟩, ⟨I.idxa 57 2 none (O.t 56) (O.k (AV.int IntKind.i64 0)), some (55, true), some 57⟩, ⟨I.loadf 58 true 2 (O.t 57), some (55, true), some 58⟩, ⟨I.mv 59 (O.t 0), some (55, true), some 59⟩, ⟨I.mv 60 (O.t 0), some (55, true), some 60⟩, ⟨I.len 61 (O.t 60), some (55, true), some 61⟩, ⟨I.bin 62 BinOp.sub (O.t 61) (O.k (AV.int IntKind.i64 1)), some (55, true), some 62⟩, ⟨I.idxa 63 2 none (O.t 59) (O.t 62), some (55, true), some 63⟩, ⟨I.loadf 64 true 2 (O.t 63), some (55, true), some 64⟩, ⟨I.eqs 65 false [Leaf.str, Leaf.str] (O.t 58) (O.t 64), some (55, true), some 65⟩, ⟨I.pick 66 (O.t 55) (O.t 65) (O.k (AV.bool false)), some (49, false), some 66⟩, ⟨I.pick 67 (O.t 49) (O.k (AV.bool true)) (O.t 66), none, some 67⟩]).seq (C.cond (O.t 67) ((C.ops [⟨I.mv 4 (O.k (AV.int IntKind.i64 17)), none, some 4⟩]).seq C.ret) C.skip)))).seq (C.ops [⟨I.mv 27 (O.t 6), none, some 27⟩, ⟨I.bin 28 BinOp.add (O.t 27) (O.k (AV.int IntKind.i64 1)), none, some 28⟩, ⟨I.mv 6 (O.t 28), none, some 6⟩]))).loop)).seq ((C.ops [⟨I.mv 68 (O.t 0), none, some 68⟩, ⟨I.len 69 (O.t 68), none, some 69⟩, ⟨I.bin 70 BinOp.sub (O.t 69) (O.k (AV.int IntKind.i64 1)), none, some 70⟩, ⟨I.mv 7 (O.t 70), none, some 7⟩]).seq (((C.ops [⟨I.mv 71 (O.t 1), none, some 71⟩]).seq (C.cond (O.t 71) (C.ops [⟨I.mv 72 (O.t 0), none, some 72⟩, ⟨I.len 73 (O.t 72), none, some 73⟩, ⟨I.mv 7 (O.t 73), none, some 7⟩]) C.skip)).seq (((C.ops [⟨I.mv 8 (O.k (AV.int IntKind.i64 0)), none, some 8⟩]).seq (C.block 3 (((C.ops [⟨I.mv 74 (O.t 8), none, some 74⟩, ⟨I.mv 75 (O.t 7), none, some 75⟩, ⟨I.bin 76 BinOp.lss (O.t 74) (O.t 75), none, some 76⟩]).seq (C.cond (O.t 76) C.skip (C.exit 3))).seq ((C.block 4 ((C.ops [⟨I.mv 79 (O.t 8), none, some 79⟩, ⟨I.bin 80 BinOp.add (O.t 79) (O.k (AV.int IntKind.i64 1)), none, some 80⟩, ⟨I.mv 9 (O.t 80), none, some 9⟩]).seq (C.block 5 (((C.ops [⟨I.mv 81 (O.t 9), none, some 81⟩, ⟨I.mv 82 (O.t 7), none, some 82⟩, ⟨I.bin 83 BinOp.lss (O.t 81) (O.t 82), none, some 83⟩]).seq (C.cond (O.t 83) C.skip (C.exit 5))).seq ((C.block 6 ((C.ops [⟨I.mv 87 (O.t 0), none, some 87⟩, ⟨I.mv 88 (O.t 8), none, some 88⟩, ⟨I.idxa 89 2 none (O.t 87) (O.t 88), none, some 89⟩, ⟨I.loadf 90 true 2 (O.t 89), none, some 90⟩, ⟨I.mv 91 (O.t 0), none, some 91⟩, ⟨I.mv 92 (O.t 8), none, some 92⟩, ⟨I.bin 93 BinOp.add (O.t 92) (O.k (AV.int IntKind.i64 1)), none, some 93⟩, ⟨I.idxa 94 2 none (O.t 91) (O.t 93), none, some 94⟩, ⟨I.loadf 95 true 2 (O.t 94), none, some 95⟩, ⟨I.mv 96 (O.t 0), none, some 96⟩, ⟨I.mv 97 (O.t 9), none, some 97⟩, ⟨I.idxa 98 2 none (O.t 96) (O.t 97), none, some 98⟩, ⟨I.loadf 99 true 2 (O.t 98), none, some 99⟩, ⟨I.mv 100 (O.t 0), none, some 100⟩, ⟨I.mv 101 (O.t 9), none, some 101⟩, ⟨I.bin 102 BinOp.add (O.t 101) (O.k (AV.int IntKind.i64 1)), none, some 102⟩, ⟨I.mv 103 (O.t 0), none, some 103⟩, ⟨I.len 104 (O.t 103), none, some 104⟩, ⟨I.bin 105 BinOp.rem (O.t 102) (O.t 104), none, some 105⟩, ⟨I.idxa 106 2 none (O.t 100) (O.t 105), none, some 106⟩, ⟨I.loadf 107 true 2 (O.t 106), none, some 107⟩, ⟨I.call (some 108) (O.k (AV.fn 45 [])) [O.t 90, O.t 95, O.t 99, O.t 107] false, none, some 108⟩, ⟨I.mv 86 (O.t 108), none, some 86⟩, ⟨I.ext 109 (O.t 86) 0, none, some 109⟩, ⟨I.ext 110 (O.t 86) 1, none, some 110⟩, ⟨I.alloc 11 [AV.str [], AV.str []] true, none, some 11⟩, ⟨I.mv 10 (O.t 109), none, some 10⟩, ⟨I.store 2 (O.t 11) (O.t 110), none, none⟩]).seq ((C.ops [⟨I.mv 12 (O.k (AV.int IntKind.i64 0)), none, some 12⟩]).seq (((C.ops [⟨I.mv 111 (O.t 9), none, some 111⟩, ⟨I.mv 112 (O.t 8), none, some 112⟩, ⟨I.bin 113 BinOp.add (O.t 112) (O.k (AV.int IntKind.i64 1)), none, some 113⟩, ⟨I.bin 114 BinOp.eql (O.t 111) (O.t 113), none, some 114⟩, ⟨I.mv 115 (O.t 114), none, some 115⟩, ⟨I.mv 116 (O.t 1), some (115, false), some 116⟩, ⟨I.mv 117 (O.t 116), some (115, false), some 117⟩, ⟨I.mv 118 (O.t 8), some (117, true), some 118⟩, ⟨I.bin 119 BinOp.eql (O.t 118) (O.k (AV.int IntKind.i64 0)), some (117, true), some 119⟩, ⟨I.pick 120 (O.t 117) (O.t 119) (O.k (AV.bool false)), some (115, false), some 120⟩, ⟨I.mv 121 (O.t 120), some (115, false), some 121⟩, ⟨I.mv 122 (O.t 9), some (121, true), some 122⟩, ⟨I.mv 123 (O.t 7), some (121, true), some 123⟩, ⟨I.bin 124 BinOp.sub (O.t 123) (O.k (AV.int IntKind.i64 1)), some (121, true), some 124⟩, ⟨I.bin 125 BinOp.eql (O.t 122) (O.t 124), some (121, true), some 125⟩, ⟨I.pick 126 (O.t 121) (O.t 125) (O.k (AV.bool false)), some (115, false), some 126⟩, ⟨I.pick 127 (O.t 115) (O.k (AV.bool true)) (O.t 126), none, some 127⟩]).seq (C.cond (O.t 127) (C.ops [⟨I.mv 12 (O.k (AV.int IntKind.i64 1)), none, some 12⟩]) C.skip)).seq ((C.ops [⟨I.mv 128 (O.t 10), none, some 128⟩, ⟨I.mv 129 (O.t 12), none, some 129⟩, ⟨I.bin 130 BinOp.gtr (O.t 128) (O.t 129), none, some 130⟩]).seq (C.cond (O.t 130) ((C.ops [⟨I.mv 4 (O.k (AV.int IntKind.i64 26)), none, some 4⟩]).seq C.ret) C.skip)))))).seq (C.ops [⟨I.mv 84 (O.t 9), none, some 84⟩, ⟨I.bin 85 BinOp.add (O.t 84) (O.k (AV.int IntKind.i64 1)), none, some 85⟩, ⟨I.mv 9 (O.t 85), none, some 9⟩]))).loop))).seq (C.ops [⟨I.mv 77 (O.t 8), none, some 77⟩, ⟨I.bin 78 BinOp.add (O.t 77) (O.k (AV.int IntKind.i64 1)), none, some 78⟩, ⟨I.mv 8 (O.t 78), none, some 8⟩]))).loop)).seq ((C.ops [⟨I.mv 4 (O.k (AV.int IntKind.i64 0)), none, some 4⟩]).seq C.ret))))))))
theorem k13 (m : Int) : compF (cx m).P (cx m).gt (fun t => t == 11) 13 = some (c13, [RV.tmp 4], 131) := by kernel_rfl
end Go.Proofs.YtkjnjdcbnelceaaGreatDoor.KA
end

section
/- Contracts: chains are checked. -/
open Go Go.Proofs
set_option linter.unusedSimpArgs false
set_option linter.unusedVariables false
set_option maxHeartbeats 1000000
set_option maxRecDepth 20000
namespace Go.Proofs.YtkjnjdcbnelceaaGreatDoor.KA
open Num Geo

def ePs (c : List Pt) : AV := .sl 2 (c.map fun p => .agg [.str (tq p.1), .str (tq p.2)])
theorem plainL_all : ∀ {l : List AV}, (∀ x ∈ l, x.plain = true) → AV.plainL l = true
  | [], _ => rfl
  | a :: l, h => by simp [AV.plainL, h a (by simp), plainL_all (l := l) fun x hx => h x (by simp [hx])]
theorem get_pt {c : List Pt} {j : Nat} (h : j < c.length) : (c.map fun p : Pt => AV.agg [.str (tq p.1), .str (tq p.2)])[j]? = some (.agg [.str (tq (at' c j).1), .str (tq (at' c j).2)]) := by
  simp [at', h]
def all9 (c : List Pt) : Prop := ∀ p ∈ c, P9 p
theorem all9.get {c : List Pt} (h : all9 c) {j : Nat} (hj : j < c.length) : P9 (at' c j) := by
  have : at' c j = c[j] := by simp [at', hj]
  rw [this]; exact h _ (List.getElem_mem hj)

/-- polyline.crossed -/
def nextP (n segs i k : Nat) : Bool := decide (k = i + 1) || (decide (segs = n) && (decide (i = 0) && decide (k = n - 1)))
def crossR (n : Nat) (ci ck : Pt) (segs i k : Nat) (r : Nat × Option Pt) : Bool :=
  if r.1 = 0 then false
  else if r.1 = 2 ∨ nextP n segs i k = false then true
  else if k = i + 1 ∧ r.2 = some ck then false
  else decide (r.2 ≠ some ci) || decide (k ≠ n - 1)
def crossedP (c : List Pt) (segs i k : Nat) : Bool :=
  crossR c.length (at' c i) (at' c k) segs i k (meetP (at' c i) (at' c ((i + 1) % c.length)) (at' c k) (at' c ((k + 1) % c.length)))
theorem s132 (m : Int) (c : List Pt) (segs i k : Nat) (h9 : all9 c) (hn : c.length < 1000000) (hi : i < c.length) (hk : k < c.length) :
    SpecP (cx m) 132 [ePs c, .int .i64 segs, .int .i64 i, .int .i64 k] (.bool (crossedP c segs i k)) := by
  refine specP_of (mixed m) (k132 m) (Nat.le_of_ble_eq_true rfl) (X_start ?_)
  unfold c132
  have hi1 : (i + 1) % c.length < c.length := Nat.mod_lt _ (by omega)
  have hk1 : (k + 1) % c.length < c.length := Nat.mod_lt _ (by omega)
  have e1 : ((i : Int) + 1).tmod (c.length : Int) = (((i + 1) % c.length : Nat) : Int) := (Int.ofNat_tmod (i + 1) c.length).symm
  have e2 : ((k : Int) + 1).tmod (c.length : Int) = (((k + 1) % c.length : Nat) : Int) := (Int.ofNat_tmod (k + 1) c.length).symm
  have x1 := get_pt hi
  have x2 := get_pt hi1
  have x3 := get_pt hk
  have x4 := get_pt hk1
  have hn0 : ¬ ((c.length : Int) = 0) := by omega
  have hm := s46 m _ _ _ _ (h9.get hi) (h9.get hi1) (h9.get hk) (h9.get hk1)
  have hs := meetP_some (at' c i) (at' c ((i + 1) % c.length)) (at' c k) (at' c ((k + 1) % c.length))
  have hw := meetP_how (at' c i) (at' c ((i + 1) % c.length)) (at' c k) (at' c ((k + 1) % c.length))
  unfold crossedP
  generalize meetP (at' c i) (at' c ((i + 1) % c.length)) (at' c k) (at' c ((k + 1) % c.length)) = r at *
  obtain ⟨h, o⟩ := r
  dsimp only at hs hw
  unfold eR eP at hm
  dsimp only at hm
  rcases hw with rfl | rfl | rfl
  · obtain ⟨u, v, he⟩ : ∃ u v, eO o = .agg [.str u, .str v] := by cases o <;> exact ⟨_, _, rfl⟩
    rw [he, show ((0 : Nat) : Int) = 0 from rfl] at hm
    simp -implicitDefEqProofs (disch := omega) only [KF, KV0, KV1, KV2, KW, ↓bstep, ↓astep, ↓O1.eq_def, ↓onBool.eq_def, ↓onInt.eq_def, ↓onStr.eq_def, ↓onLo.eq_def, ↓binK.eq_def, ↓arith.eq_def, ↓strOp.eq_def, ↓srcElems.eq_def, ↓dst1.eq_def, args0, List.zipIdx, List.map, lookup, St.ev, St.set, St.setO, reduceCtorEq, AV.plain, AV.plainL, AV.flat, AV.flatL, AV.cells, Nat.reduceEqDiff, ↓reduceIte, List.drop, List.take, List.length, Nat.reduceAdd, Nat.reduceLeDiff, Nat.reduceMul, E.done, rvsK, rvK, resAV, Int.reduceToNat, Int.reduceLE, Int.reduceLT, Int.reduceNeg, Int.reduceAdd, Int.reduceSub, Int.reduceMul, Nat.reduceLT, AV.isElem, AV.one, ↓buildCells.eq_1, ↓buildCells.eq_2, Nat.reduceBEq, eqCells, ePs, List.length_map, e1, e2, x1, x2, x3, x4, hn0]
    refine CL_pure hm rfl ?_
    simp -implicitDefEqProofs (disch := omega) only [KF, KV0, KV1, KV2, KW, ↓bstep, ↓astep, ↓O1.eq_def, ↓onBool.eq_def, ↓onInt.eq_def, ↓onStr.eq_def, ↓onLo.eq_def, ↓binK.eq_def, ↓arith.eq_def, ↓strOp.eq_def, ↓srcElems.eq_def, ↓dst1.eq_def, args0, List.zipIdx, List.map, lookup, St.ev, St.set, St.setO, reduceCtorEq, AV.plain, AV.plainL, AV.flat, AV.flatL, AV.cells, Nat.reduceEqDiff, ↓reduceIte, List.drop, List.take, List.length, Nat.reduceAdd, Nat.reduceLeDiff, Nat.reduceMul, E.done, rvsK, rvK, resAV, Int.reduceToNat, Int.reduceLE, Int.reduceLT, Int.reduceNeg, Int.reduceAdd, Int.reduceSub, Int.reduceMul, Nat.reduceLT, AV.isElem, AV.one, ↓buildCells.eq_1, ↓buildCells.eq_2, Nat.reduceBEq, eqCells, hn0, e1, e2]
    repeat' first | exact shb rfl | refine iteI (fun _ => ?_) (fun _ => ?_)
  · obtain ⟨p, rfl⟩ := hs rfl
    unfold eO eP at hm
    dsimp only at hm
    rw [show ((1 : Nat) : Int) = 1 from rfl] at hm
    have pe1 := pt_eq' p (at' c k)
    have pe2 := pt_eq' p (at' c i)
    simp -implicitDefEqProofs (disch := omega) only [KF, KV0, KV1, KV2, KW, ↓bstep, ↓astep, ↓O1.eq_def, ↓onBool.eq_def, ↓onInt.eq_def, ↓onStr.eq_def, ↓onLo.eq_def, ↓binK.eq_def, ↓arith.eq_def, ↓strOp.eq_def, ↓srcElems.eq_def, ↓dst1.eq_def, args0, List.zipIdx, List.map, lookup, St.ev, St.set, St.setO, reduceCtorEq, AV.plain, AV.plainL, AV.flat, AV.flatL, AV.cells, Nat.reduceEqDiff, ↓reduceIte, List.drop, List.take, List.length, Nat.reduceAdd, Nat.reduceLeDiff, Nat.reduceMul, E.done, rvsK, rvK, resAV, Int.reduceToNat, Int.reduceLE, Int.reduceLT, Int.reduceNeg, Int.reduceAdd, Int.reduceSub, Int.reduceMul, Nat.reduceLT, AV.isElem, AV.one, ↓buildCells.eq_1, ↓buildCells.eq_2, Nat.reduceBEq, eqCells, ePs, List.length_map, e1, e2, x1, x2, x3, x4, hn0]
    refine CL_pure hm rfl ?_
    have dk : decide (p = at' c k) = true ∨ decide (p = at' c k) = false := by cases decide (p = at' c k) <;> simp
    have di : decide (p = at' c i) = true ∨ decide (p = at' c i) = false := by cases decide (p = at' c i) <;> simp
    have hcr : crossR c.length (at' c i) (at' c k) segs i k (1, some p) = (if nextP c.length segs i k = false then true else if (decide (k = i + 1) && decide (p = at' c k)) = true then false else (!decide (p = at' c i) || !decide (k = c.length - 1))) := by
      simp [crossR]
    by_cases b4 : k = c.length - 1
    · have f4 := eq_true (show (k : Int) = (c.length : Int) - 1 by omega)
      have d4 : decide (k = c.length - 1) = true := by simp [b4]
      by_cases b1 : k = i + 1
      · have f1 := eq_true (show (k : Int) = (i : Int) + 1 by omega)
        have d1 : decide (k = i + 1) = true := by simp [b1]
        have n1 : nextP c.length segs i k = true := by unfold nextP; rw [d1]; rfl
        rcases dk with dk | dk
        · simp -implicitDefEqProofs (disch := omega) only [KF, KV0, KV1, KV2, KW, ↓bstep, ↓astep, ↓O1.eq_def, ↓onBool.eq_def, ↓onInt.eq_def, ↓onStr.eq_def, ↓onLo.eq_def, ↓binK.eq_def, ↓arith.eq_def, ↓strOp.eq_def, ↓srcElems.eq_def, ↓dst1.eq_def, args0, List.zipIdx, List.map, lookup, St.ev, St.set, St.setO, reduceCtorEq, AV.plain, AV.plainL, AV.flat, AV.flatL, AV.cells, Nat.reduceEqDiff, ↓reduceIte, List.drop, List.take, List.length, Nat.reduceAdd, Nat.reduceLeDiff, Nat.reduceMul, E.done, rvsK, rvK, resAV, Int.reduceToNat, Int.reduceLE, Int.reduceLT, Int.reduceNeg, Int.reduceAdd, Int.reduceSub, Int.reduceMul, Nat.reduceLT, AV.isElem, AV.one, ↓buildCells.eq_1, ↓buildCells.eq_2, Nat.reduceBEq, eqCells, hn0, e1, e2, x3, x1, pe1, pe2, f1, f4, dk]
          exact shb (by rw [hcr, n1, d1, dk]; rfl)
        · rcases di with di | di
          · simp -implicitDefEqProofs (disch := omega) only [KF, KV0, KV1, KV2, KW, ↓bstep, ↓astep, ↓O1.eq_def, ↓onBool.eq_def, ↓onInt.eq_def, ↓onStr.eq_def, ↓onLo.eq_def, ↓binK.eq_def, ↓arith.eq_def, ↓strOp.eq_def, ↓srcElems.eq_def, ↓dst1.eq_def, args0, List.zipIdx, List.map, lookup, St.ev, St.set, St.setO, reduceCtorEq, AV.plain, AV.plainL, AV.flat, AV.flatL, AV.cells, Nat.reduceEqDiff, ↓reduceIte, List.drop, List.take, List.length, Nat.reduceAdd, Nat.reduceLeDiff, Nat.reduceMul, E.done, rvsK, rvK, resAV, Int.reduceToNat, Int.reduceLE, Int.reduceLT, Int.reduceNeg, Int.reduceAdd, Int.reduceSub, Int.reduceMul, Nat.reduceLT, AV.isElem, AV.one, ↓buildCells.eq_1, ↓buildCells.eq_2, Nat.reduceBEq, eqCells, hn0, e1, e2, x3, x1, pe1, pe2, f1, f4, dk, di]
            exact shb (by rw [hcr, n1, d1, dk, di, d4]; rfl)
          · simp -implicitDefEqProofs (disch := omega) only [KF, KV0, KV1, KV2, KW, ↓bstep, ↓astep, ↓O1.eq_def, ↓onBool.eq_def, ↓onInt.eq_def, ↓onStr.eq_def, ↓onLo.eq_def, ↓binK.eq_def, ↓arith.eq_def, ↓strOp.eq_def, ↓srcElems.eq_def, ↓dst1.eq_def, args0, List.zipIdx, List.map, lookup, St.ev, St.set, St.setO, reduceCtorEq, AV.plain, AV.plainL, AV.flat, AV.flatL, AV.cells, Nat.reduceEqDiff, ↓reduceIte, List.drop, List.take, List.length, Nat.reduceAdd, Nat.reduceLeDiff, Nat.reduceMul, E.done, rvsK, rvK, resAV, Int.reduceToNat, Int.reduceLE, Int.reduceLT, Int.reduceNeg, Int.reduceAdd, Int.reduceSub, Int.reduceMul, Nat.reduceLT, AV.isElem, AV.one, ↓buildCells.eq_1, ↓buildCells.eq_2, Nat.reduceBEq, eqCells, hn0, e1, e2, x3, x1, pe1, pe2, f1, f4, dk, di]
            exact shb (by rw [hcr, n1, d1, dk, di, d4]; rfl)
      · have f1 := eq_false (show ¬ (k : Int) = (i : Int) + 1 by omega)
        have d1 : decide (k = i + 1) = false := by simp [b1]
        by_cases b2 : segs = c.length
        · have g1 := eq_true (show (segs : Int) = (c.length : Int) by omega)
          by_cases b3 : i = 0
          · have g2 := eq_true (show (i : Int) = 0 by omega)
            have n1 : nextP c.length segs i k = true := by unfold nextP; rw [d4]; simp [b2, b3]
            rcases di with di | di
            · simp -implicitDefEqProofs (disch := omega) only [KF, KV0, KV1, KV2, KW, ↓bstep, ↓astep, ↓O1.eq_def, ↓onBool.eq_def, ↓onInt.eq_def, ↓onStr.eq_def, ↓onLo.eq_def, ↓binK.eq_def, ↓arith.eq_def, ↓strOp.eq_def, ↓srcElems.eq_def, ↓dst1.eq_def, args0, List.zipIdx, List.map, lookup, St.ev, St.set, St.setO, reduceCtorEq, AV.plain, AV.plainL, AV.flat, AV.flatL, AV.cells, Nat.reduceEqDiff, ↓reduceIte, List.drop, List.take, List.length, Nat.reduceAdd, Nat.reduceLeDiff, Nat.reduceMul, E.done, rvsK, rvK, resAV, Int.reduceToNat, Int.reduceLE, Int.reduceLT, Int.reduceNeg, Int.reduceAdd, Int.reduceSub, Int.reduceMul, Nat.reduceLT, AV.isElem, AV.one, ↓buildCells.eq_1, ↓buildCells.eq_2, Nat.reduceBEq, eqCells, hn0, e1, e2, x3, x1, pe1, pe2, f1, f4, g1, g2, di]
              exact shb (by rw [hcr, n1, d1, di, d4]; rfl)
            · simp -implicitDefEqProofs (disch := omega) only [KF, KV0, KV1, KV2, KW, ↓bstep, ↓astep, ↓O1.eq_def, ↓onBool.eq_def, ↓onInt.eq_def, ↓onStr.eq_def, ↓onLo.eq_def, ↓binK.eq_def, ↓arith.eq_def, ↓strOp.eq_def, ↓srcElems.eq_def, ↓dst1.eq_def, args0, List.zipIdx, List.map, lookup, St.ev, St.set, St.setO, reduceCtorEq, AV.plain, AV.plainL, AV.flat, AV.flatL, AV.cells, Nat.reduceEqDiff, ↓reduceIte, List.drop, List.take, List.length, Nat.reduceAdd, Nat.reduceLeDiff, Nat.reduceMul, E.done, rvsK, rvK, resAV, Int.reduceToNat, Int.reduceLE, Int.reduceLT, Int.reduceNeg, Int.reduceAdd, Int.reduceSub, Int.reduceMul, Nat.reduceLT, AV.isElem, AV.one, ↓buildCells.eq_1, ↓buildCells.eq_2, Nat.reduceBEq, eqCells, hn0, e1, e2, x3, x1, pe1, pe2, f1, f4, g1, g2, di]
              exact shb (by rw [hcr, n1, d1, di, d4]; rfl)
          · have g2 := eq_false (show ¬ (i : Int) = 0 by omega)
            have n1 : nextP c.length segs i k = false := by unfold nextP; rw [d1]; simp [b3]
            simp -implicitDefEqProofs (disch := omega) only [KF, KV0, KV1, KV2, KW, ↓bstep, ↓astep, ↓O1.eq_def, ↓onBool.eq_def, ↓onInt.eq_def, ↓onStr.eq_def, ↓onLo.eq_def, ↓binK.eq_def, ↓arith.eq_def, ↓strOp.eq_def, ↓srcElems.eq_def, ↓dst1.eq_def, args0, List.zipIdx, List.map, lookup, St.ev, St.set, St.setO, reduceCtorEq, AV.plain, AV.plainL, AV.flat, AV.flatL, AV.cells, Nat.reduceEqDiff, ↓reduceIte, List.drop, List.take, List.length, Nat.reduceAdd, Nat.reduceLeDiff, Nat.reduceMul, E.done, rvsK, rvK, resAV, Int.reduceToNat, Int.reduceLE, Int.reduceLT, Int.reduceNeg, Int.reduceAdd, Int.reduceSub, Int.reduceMul, Nat.reduceLT, AV.isElem, AV.one, ↓buildCells.eq_1, ↓buildCells.eq_2, Nat.reduceBEq, eqCells, hn0, e1, e2, x3, x1, pe1, pe2, f1, f4, g1, g2]
            exact shb (by rw [hcr, n1]; rfl)
        · have g1 := eq_false (show ¬ (segs : Int) = (c.length : Int) by omega)
          have n1 : nextP c.length segs i k = false := by unfold nextP; rw [d1]; simp [b2]
          simp -implicitDefEqProofs (disch := omega) only [KF, KV0, KV1, KV2, KW, ↓bstep, ↓astep, ↓O1.eq_def, ↓onBool.eq_def, ↓onInt.eq_def, ↓onStr.eq_def, ↓onLo.eq_def, ↓binK.eq_def, ↓arith.eq_def, ↓strOp.eq_def, ↓srcElems.eq_def, ↓dst1.eq_def, args0, List.zipIdx, List.map, lookup, St.ev, St.set, St.setO, reduceCtorEq, AV.plain, AV.plainL, AV.flat, AV.flatL, AV.cells, Nat.reduceEqDiff, ↓reduceIte, List.drop, List.take, List.length, Nat.reduceAdd, Nat.reduceLeDiff, Nat.reduceMul, E.done, rvsK, rvK, resAV, Int.reduceToNat, Int.reduceLE, Int.reduceLT, Int.reduceNeg, Int.reduceAdd, Int.reduceSub, Int.reduceMul, Nat.reduceLT, AV.isElem, AV.one, ↓buildCells.eq_1, ↓buildCells.eq_2, Nat.reduceBEq, eqCells, hn0, e1, e2, x3, x1, pe1, pe2, f1, f4, g1]
          exact shb (by rw [hcr, n1]; rfl)
    · have f4 := eq_false (show ¬ (k : Int) = (c.length : Int) - 1 by omega)
      have d4 : decide (k = c.length - 1) = false := by simp [b4]
      by_cases b1 : k = i + 1
      · have f1 := eq_true (show (k : Int) = (i : Int) + 1 by omega)
        have d1 : decide (k = i + 1) = true := by simp [b1]
        have n1 : nextP c.length segs i k = true := by unfold nextP; rw [d1]; rfl
        rcases dk with dk | dk
        · simp -implicitDefEqProofs (disch := omega) only [KF, KV0, KV1, KV2, KW, ↓bstep, ↓astep, ↓O1.eq_def, ↓onBool.eq_def, ↓onInt.eq_def, ↓onStr.eq_def, ↓onLo.eq_def, ↓binK.eq_def, ↓arith.eq_def, ↓strOp.eq_def, ↓srcElems.eq_def, ↓dst1.eq_def, args0, List.zipIdx, List.map, lookup, St.ev, St.set, St.setO, reduceCtorEq, AV.plain, AV.plainL, AV.flat, AV.flatL, AV.cells, Nat.reduceEqDiff, ↓reduceIte, List.drop, List.take, List.length, Nat.reduceAdd, Nat.reduceLeDiff, Nat.reduceMul, E.done, rvsK, rvK, resAV, Int.reduceToNat, Int.reduceLE, Int.reduceLT, Int.reduceNeg, Int.reduceAdd, Int.reduceSub, Int.reduceMul, Nat.reduceLT, AV.isElem, AV.one, ↓buildCells.eq_1, ↓buildCells.eq_2, Nat.reduceBEq, eqCells, hn0, e1, e2, x3, x1, pe1, pe2, f1, f4, dk]
          exact shb (by rw [hcr, n1, d1, dk]; rfl)
        · rcases di with di | di
          · simp -implicitDefEqProofs (disch := omega) only [KF, KV0, KV1, KV2, KW, ↓bstep, ↓astep, ↓O1.eq_def, ↓onBool.eq_def, ↓onInt.eq_def, ↓onStr.eq_def, ↓onLo.eq_def, ↓binK.eq_def, ↓arith.eq_def, ↓strOp.eq_def, ↓srcElems.eq_def, ↓dst1.eq_def, args0, List.zipIdx, List.map, lookup, St.ev, St.set, St.setO, reduceCtorEq, AV.plain, AV.plainL, AV.flat, AV.flatL, AV.cells, Nat.reduceEqDiff, ↓reduceIte, List.drop, List.take, List.length, Nat.reduceAdd, Nat.reduceLeDiff, Nat.reduceMul, E.done, rvsK, rvK, resAV, Int.reduceToNat, Int.reduceLE, Int.reduceLT, Int.reduceNeg, Int.reduceAdd, Int.reduceSub, Int.reduceMul, Nat.reduceLT, AV.isElem, AV.one, ↓buildCells.eq_1, ↓buildCells.eq_2, Nat.reduceBEq, eqCells, hn0, e1, e2, x3, x1, pe1, pe2, f1, f4, dk, di]
            exact shb (by rw [hcr, n1, d1, dk, di, d4]; rfl)
          · simp -implicitDefEqProofs (disch := omega) only [KF, KV0, KV1, KV2, KW, ↓bstep, ↓astep, ↓O1.eq_def, ↓onBool.eq_def, ↓onInt.eq_def, ↓onStr.eq_def, ↓onLo.eq_def, ↓binK.eq_def, ↓arith.eq_def, ↓strOp.eq_def, ↓srcElems.eq_def, ↓dst1.eq_def, args0, List.zipIdx, List.map, lookup, St.ev, St.set, St.setO, reduceCtorEq, AV.plain, AV.plainL, AV.flat, AV.flatL, AV.cells, Nat.reduceEqDiff, ↓reduceIte, List.drop, List.take, List.length, Nat.reduceAdd, Nat.reduceLeDiff, Nat.reduceMul, E.done, rvsK, rvK, resAV, Int.reduceToNat, Int.reduceLE, Int.reduceLT, Int.reduceNeg, Int.reduceAdd, Int.reduceSub, Int.reduceMul, Nat.reduceLT, AV.isElem, AV.one, ↓buildCells.eq_1, ↓buildCells.eq_2, Nat.reduceBEq, eqCells, hn0, e1, e2, x3, x1, pe1, pe2, f1, f4, dk, di]
            exact shb (by rw [hcr, n1, d1, dk, di, d4]; rfl)
      · have f1 := eq_false (show ¬ (k : Int) = (i : Int) + 1 by omega)
        have d1 : decide (k = i + 1) = false := by simp [b1]
        by_cases b2 : segs = c.length
        · have g1 := eq_true (show (segs : Int) = (c.length : Int) by omega)
          by_cases b3 : i = 0
          · have g2 := eq_true (show (i : Int) = 0 by omega)
            have n1 : nextP c.length segs i k = false := by unfold nextP; rw [d1, d4]; simp
            simp -implicitDefEqProofs (disch := omega) only [KF, KV0, KV1, KV2, KW, ↓bstep, ↓astep, ↓O1.eq_def, ↓onBool.eq_def, ↓onInt.eq_def, ↓onStr.eq_def, ↓onLo.eq_def, ↓binK.eq_def, ↓arith.eq_def, ↓strOp.eq_def, ↓srcElems.eq_def, ↓dst1.eq_def, args0, List.zipIdx, List.map, lookup, St.ev, St.set, St.setO, reduceCtorEq, AV.plain, AV.plainL, AV.flat, AV.flatL, AV.cells, Nat.reduceEqDiff, ↓reduceIte, List.drop, List.take, List.length, Nat.reduceAdd, Nat.reduceLeDiff, Nat.reduceMul, E.done, rvsK, rvK, resAV, Int.reduceToNat, Int.reduceLE, Int.reduceLT, Int.reduceNeg, Int.reduceAdd, Int.reduceSub, Int.reduceMul, Nat.reduceLT, AV.isElem, AV.one, ↓buildCells.eq_1, ↓buildCells.eq_2, Nat.reduceBEq, eqCells, hn0, e1, e2, x3, x1, pe1, pe2, f1, f4, g1, g2]
            exact shb (by rw [hcr, n1]; rfl)
          · have g2 := eq_false (show ¬ (i : Int) = 0 by omega)
            have n1 : nextP c.length segs i k = false := by unfold nextP; rw [d1]; simp [b3]
            simp -implicitDefEqProofs (disch := omega) only [KF, KV0, KV1, KV2, KW, ↓bstep, ↓astep, ↓O1.eq_def, ↓onBool.eq_def, ↓onInt.eq_def, ↓onStr.eq_def, ↓onLo.eq_def, ↓binK.eq_def, ↓arith.eq_def, ↓strOp.eq_def, ↓srcElems.eq_def, ↓dst1.eq_def, args0, List.zipIdx, List.map, lookup, St.ev, St.set, St.setO, reduceCtorEq, AV.plain, AV.plainL, AV.flat, AV.flatL, AV.cells, Nat.reduceEqDiff, ↓reduceIte, List.drop, List.take, List.length, Nat.reduceAdd, Nat.reduceLeDiff, Nat.reduceMul, E.done, rvsK, rvK, resAV, Int.reduceToNat, Int.reduceLE, Int.reduceLT, Int.reduceNeg, Int.reduceAdd, Int.reduceSub, Int.reduceMul, Nat.reduceLT, AV.isElem, AV.one, ↓buildCells.eq_1, ↓buildCells.eq_2, Nat.reduceBEq, eqCells, hn0, e1, e2, x3, x1, pe1, pe2, f1, f4, g1, g2]
            exact shb (by rw [hcr, n1]; rfl)
        · have g1 := eq_false (show ¬ (segs : Int) = (c.length : Int) by omega)
          have n1 : nextP c.length segs i k = false := by unfold nextP; rw [d1]; simp [b2]
          simp -implicitDefEqProofs (disch := omega) only [KF, KV0, KV1, KV2, KW, ↓bstep, ↓astep, ↓O1.eq_def, ↓onBool.eq_def, ↓onInt.eq_def, ↓onStr.eq_def, ↓onLo.eq_def, ↓binK.eq_def, ↓arith.eq_def, ↓strOp.eq_def, ↓srcElems.eq_def, ↓dst1.eq_def, args0, List.zipIdx, List.map, lookup, St.ev, St.set, St.setO, reduceCtorEq, AV.plain, AV.plainL, AV.flat, AV.flatL, AV.cells, Nat.reduceEqDiff, ↓reduceIte, List.drop, List.take, List.length, Nat.reduceAdd, Nat.reduceLeDiff, Nat.reduceMul, E.done, rvsK, rvK, resAV, Int.reduceToNat, Int.reduceLE, Int.reduceLT, Int.reduceNeg, Int.reduceAdd, Int.reduceSub, Int.reduceMul, Nat.reduceLT, AV.isElem, AV.one, ↓buildCells.eq_1, ↓buildCells.eq_2, Nat.reduceBEq, eqCells, hn0, e1, e2, x3, x1, pe1, pe2, f1, f4, g1]
          exact shb (by rw [hcr, n1]; rfl)
  · obtain ⟨u, v, he⟩ : ∃ u v, eO o = .agg [.str u, .str v] := by cases o <;> exact ⟨_, _, rfl⟩
    rw [he, show ((2 : Nat) : Int) = 2 from rfl] at hm
    simp -implicitDefEqProofs (disch := omega) only [KF, KV0, KV1, KV2, KW, ↓bstep, ↓astep, ↓O1.eq_def, ↓onBool.eq_def, ↓onInt.eq_def, ↓onStr.eq_def, ↓onLo.eq_def, ↓binK.eq_def, ↓arith.eq_def, ↓strOp.eq_def, ↓srcElems.eq_def, ↓dst1.eq_def, args0, List.zipIdx, List.map, lookup, St.ev, St.set, St.setO, reduceCtorEq, AV.plain, AV.plainL, AV.flat, AV.flatL, AV.cells, Nat.reduceEqDiff, ↓reduceIte, List.drop, List.take, List.length, Nat.reduceAdd, Nat.reduceLeDiff, Nat.reduceMul, E.done, rvsK, rvK, resAV, Int.reduceToNat, Int.reduceLE, Int.reduceLT, Int.reduceNeg, Int.reduceAdd, Int.reduceSub, Int.reduceMul, Nat.reduceLT, AV.isElem, AV.one, ↓buildCells.eq_1, ↓buildCells.eq_2, Nat.reduceBEq, eqCells, ePs, List.length_map, e1, e2, x1, x2, x3, x4, hn0]
    refine CL_pure hm rfl ?_
    simp -implicitDefEqProofs (disch := omega) only [KF, KV0, KV1, KV2, KW, ↓bstep, ↓astep, ↓O1.eq_def, ↓onBool.eq_def, ↓onInt.eq_def, ↓onStr.eq_def, ↓onLo.eq_def, ↓binK.eq_def, ↓arith.eq_def, ↓strOp.eq_def, ↓srcElems.eq_def, ↓dst1.eq_def, args0, List.zipIdx, List.map, lookup, St.ev, St.set, St.setO, reduceCtorEq, AV.plain, AV.plainL, AV.flat, AV.flatL, AV.cells, Nat.reduceEqDiff, ↓reduceIte, List.drop, List.take, List.length, Nat.reduceAdd, Nat.reduceLeDiff, Nat.reduceMul, E.done, rvsK, rvK, resAV, Int.reduceToNat, Int.reduceLE, Int.reduceLT, Int.reduceNeg, Int.reduceAdd, Int.reduceSub, Int.reduceMul, Nat.reduceLT, AV.isElem, AV.one, ↓buildCells.eq_1, ↓buildCells.eq_2, Nat.reduceBEq, eqCells, hn0, e1, e2]
    repeat' first | exact shb (by simp [crossR]) | refine iteI (fun _ => ?_) (fun _ => ?_)

/-- polyline.simple -/
def simpleB (c : List Pt) (segs : Nat) : Prop := ∀ i k, i < k → k < segs → crossedP c segs i k = false
open Classical in
theorem s80 (m : Int) (c : List Pt) (segs : Nat) (h9 : all9 c) (hn : c.length < 1000000) (hs : segs ≤ c.length) :
    SpecP (cx m) 80 [ePs c, .int .i64 segs] (.int .i64 (if simpleB c segs then 0 else 26)) := by
  refine specP_of (mixed m) (k80 m) (Nat.le_of_ble_eq_true rfl) (X_start ?_)
  unfold c80
  simp -implicitDefEqProofs (disch := omega) only [KF, KV0, KV1, KV2, KW, ↓bstep, ↓astep, ↓O1.eq_def, ↓onBool.eq_def, ↓onInt.eq_def, ↓onStr.eq_def, ↓onLo.eq_def, ↓binK.eq_def, ↓arith.eq_def, ↓strOp.eq_def, ↓srcElems.eq_def, ↓dst1.eq_def, args0, List.zipIdx, List.map, lookup, St.ev, St.set, St.setO, reduceCtorEq, AV.plain, AV.plainL, AV.flat, AV.flatL, AV.cells, Nat.reduceEqDiff, ↓reduceIte, List.drop, List.take, List.length, Nat.reduceAdd, Nat.reduceLeDiff, Nat.reduceMul, E.done, rvsK, rvK, resAV, Int.reduceToNat, Int.reduceLE, Int.reduceLT, Int.reduceNeg, Int.reduceAdd, Int.reduceSub, Int.reduceMul, Nat.reduceLT, AV.isElem, AV.one, ↓buildCells.eq_1, ↓buildCells.eq_2, Nat.reduceBEq, eqCells]
  refine X_for (fun i : Nat => ⟨[(0, ePs c), (1, .int .i64 segs), (7, .int .i64 segs), (8, .int .i64 i)], []⟩) (fun i => i ≤ segs ∧ ∀ i' k, i' < i → i' < k → k < segs → crossedP c segs i' k = false) (fun i => segs - i) 0 ⟨Nat.zero_le _, fun i' k h => absurd h (Nat.not_lt_zero _)⟩ ?_ ?_
  · exact weak_keep (by simp [lookup])
  intro i R ⟨i1, i2⟩ hR
  try dsimp only at hR ⊢
  rcases Nat.lt_or_ge i segs with hi | hi
  · simp -implicitDefEqProofs (disch := omega) only [KF, KV0, KV1, KV2, KW, ↓bstep, ↓astep, ↓O1.eq_def, ↓onBool.eq_def, ↓onInt.eq_def, ↓onStr.eq_def, ↓onLo.eq_def, ↓binK.eq_def, ↓arith.eq_def, ↓strOp.eq_def, ↓srcElems.eq_def, ↓dst1.eq_def, args0, List.zipIdx, List.map, lookup, St.ev, St.set, St.setO, reduceCtorEq, AV.plain, AV.plainL, AV.flat, AV.flatL, AV.cells, Nat.reduceEqDiff, ↓reduceIte, List.drop, List.take, List.length, Nat.reduceAdd, Nat.reduceLeDiff, Nat.reduceMul, E.done, rvsK, rvK, resAV, Int.reduceToNat, Int.reduceLE, Int.reduceLT, Int.reduceNeg, Int.reduceAdd, Int.reduceSub, Int.reduceMul, Nat.reduceLT, AV.isElem, AV.one, ↓buildCells.eq_1, ↓buildCells.eq_2, Nat.reduceBEq, eqCells, hi]
    refine X_for (fun k : Nat => ⟨[(0, ePs c), (1, .int .i64 segs), (7, .int .i64 segs), (8, .int .i64 i), (5, .int .i64 i), (6, .int .i64 k)], []⟩) (fun k => i < k ∧ k ≤ segs ∧ ∀ k', i < k' → k' < k → crossedP c segs i k' = false) (fun k => segs - k) (i + 1) ⟨by omega, by omega, fun k' h1 h2 => by omega⟩ ?_ ?_
    · exact weak_keep (by simp [lookup])
    intro k R' ⟨k1, k2, k3⟩ hR'
    try dsimp only at hR' ⊢
    rcases Nat.lt_or_ge k segs with hk | hk
    · simp -implicitDefEqProofs (disch := omega) only [KF, KV0, KV1, KV2, KW, ↓bstep, ↓astep, ↓O1.eq_def, ↓onBool.eq_def, ↓onInt.eq_def, ↓onStr.eq_def, ↓onLo.eq_def, ↓binK.eq_def, ↓arith.eq_def, ↓strOp.eq_def, ↓srcElems.eq_def, ↓dst1.eq_def, args0, List.zipIdx, List.map, lookup, St.ev, St.set, St.setO, reduceCtorEq, AV.plain, AV.plainL, AV.flat, AV.flatL, AV.cells, Nat.reduceEqDiff, ↓reduceIte, List.drop, List.take, List.length, Nat.reduceAdd, Nat.reduceLeDiff, Nat.reduceMul, E.done, rvsK, rvK, resAV, Int.reduceToNat, Int.reduceLE, Int.reduceLT, Int.reduceNeg, Int.reduceAdd, Int.reduceSub, Int.reduceMul, Nat.reduceLT, AV.isElem, AV.one, ↓buildCells.eq_1, ↓buildCells.eq_2, Nat.reduceBEq, eqCells, hk]
      refine CL_pure (s132 m c segs i k h9 hn (by omega) (by omega)) rfl ?_
      cases hc : crossedP c segs i k with
      | true =>
        simp -implicitDefEqProofs (disch := omega) only [KF, KV0, KV1, KV2, KW, ↓bstep, ↓astep, ↓O1.eq_def, ↓onBool.eq_def, ↓onInt.eq_def, ↓onStr.eq_def, ↓onLo.eq_def, ↓binK.eq_def, ↓arith.eq_def, ↓strOp.eq_def, ↓srcElems.eq_def, ↓dst1.eq_def, args0, List.zipIdx, List.map, lookup, St.ev, St.set, St.setO, reduceCtorEq, AV.plain, AV.plainL, AV.flat, AV.flatL, AV.cells, Nat.reduceEqDiff, ↓reduceIte, List.drop, List.take, List.length, Nat.reduceAdd, Nat.reduceLeDiff, Nat.reduceMul, E.done, rvsK, rvK, resAV, Int.reduceToNat, Int.reduceLE, Int.reduceLT, Int.reduceNeg, Int.reduceAdd, Int.reduceSub, Int.reduceMul, Nat.reduceLT, AV.isElem, AV.one, ↓buildCells.eq_1, ↓buildCells.eq_2, Nat.reduceBEq, eqCells, hc]
        refine shi ?_
        rw [if_neg]
        intro hS
        have := hS i k k1 hk
        rw [hc] at this; cases this
      | false =>
        simp -implicitDefEqProofs (disch := omega) only [KF, KV0, KV1, KV2, KW, ↓bstep, ↓astep, ↓O1.eq_def, ↓onBool.eq_def, ↓onInt.eq_def, ↓onStr.eq_def, ↓onLo.eq_def, ↓binK.eq_def, ↓arith.eq_def, ↓strOp.eq_def, ↓srcElems.eq_def, ↓dst1.eq_def, args0, List.zipIdx, List.map, lookup, St.ev, St.set, St.setO, reduceCtorEq, AV.plain, AV.plainL, AV.flat, AV.flatL, AV.cells, Nat.reduceEqDiff, ↓reduceIte, List.drop, List.take, List.length, Nat.reduceAdd, Nat.reduceLeDiff, Nat.reduceMul, E.done, rvsK, rvK, resAV, Int.reduceToNat, Int.reduceLE, Int.reduceLT, Int.reduceNeg, Int.reduceAdd, Int.reduceSub, Int.reduceMul, Nat.reduceLT, AV.isElem, AV.one, ↓buildCells.eq_1, ↓buildCells.eq_2, Nat.reduceBEq, eqCells, hc]
        refine hR' (k + 1) _ ⟨by omega, by omega, fun k' h1 h2 => ?_⟩ (by omega) (weak_keep (by simp [lookup]))
        by_cases e : k' = k
        · rw [e]; exact hc
        · exact k3 k' h1 (by omega)
    · have hk' : ¬ k < segs := by omega
      simp -implicitDefEqProofs (disch := omega) only [KF, KV0, KV1, KV2, KW, ↓bstep, ↓astep, ↓O1.eq_def, ↓onBool.eq_def, ↓onInt.eq_def, ↓onStr.eq_def, ↓onLo.eq_def, ↓binK.eq_def, ↓arith.eq_def, ↓strOp.eq_def, ↓srcElems.eq_def, ↓dst1.eq_def, args0, List.zipIdx, List.map, lookup, St.ev, St.set, St.setO, reduceCtorEq, AV.plain, AV.plainL, AV.flat, AV.flatL, AV.cells, Nat.reduceEqDiff, ↓reduceIte, List.drop, List.take, List.length, Nat.reduceAdd, Nat.reduceLeDiff, Nat.reduceMul, E.done, rvsK, rvK, resAV, Int.reduceToNat, Int.reduceLE, Int.reduceLT, Int.reduceNeg, Int.reduceAdd, Int.reduceSub, Int.reduceMul, Nat.reduceLT, AV.isElem, AV.one, ↓buildCells.eq_1, ↓buildCells.eq_2, Nat.reduceBEq, eqCells, hk']
      refine hR (i + 1) _ ⟨by omega, fun i' k' h1 h2 h3 => ?_⟩ (by omega) (weak_keep (by simp [lookup]))
      by_cases e : i' = i
      · rw [e]; exact k3 k' (by omega) (by omega)
      · exact i2 i' k' (by omega) h2 h3
  · have hi' : ¬ i < segs := by omega
    simp -implicitDefEqProofs (disch := omega) only [KF, KV0, KV1, KV2, KW, ↓bstep, ↓astep, ↓O1.eq_def, ↓onBool.eq_def, ↓onInt.eq_def, ↓onStr.eq_def, ↓onLo.eq_def, ↓binK.eq_def, ↓arith.eq_def, ↓strOp.eq_def, ↓srcElems.eq_def, ↓dst1.eq_def, args0, List.zipIdx, List.map, lookup, St.ev, St.set, St.setO, reduceCtorEq, AV.plain, AV.plainL, AV.flat, AV.flatL, AV.cells, Nat.reduceEqDiff, ↓reduceIte, List.drop, List.take, List.length, Nat.reduceAdd, Nat.reduceLeDiff, Nat.reduceMul, E.done, rvsK, rvK, resAV, Int.reduceToNat, Int.reduceLE, Int.reduceLT, Int.reduceNeg, Int.reduceAdd, Int.reduceSub, Int.reduceMul, Nat.reduceLT, AV.isElem, AV.one, ↓buildCells.eq_1, ↓buildCells.eq_2, Nat.reduceBEq, eqCells, hi']
    refine shi ?_
    rw [if_pos]
    intro i' k h1 h2
    exact i2 i' k (by omega) h1 h2
end Go.Proofs.YtkjnjdcbnelceaaGreatDoor.KA
end

section
/- Contracts: chains are checked, whole. -/
open Go Go.Proofs
set_option linter.unusedSimpArgs false
set_option linter.unusedVariables false
set_option maxHeartbeats 1000000
set_option maxRecDepth 20000
namespace Go.Proofs.YtkjnjdcbnelceaaGreatDoor.KA
open Num Geo

/-- Two neighbours are the same. -/
def twin (c : List Pt) : Prop := ∃ i, i + 1 < c.length ∧ at' c i = at' c (i + 1)
open Classical in
noncomputable def checkP (c : List Pt) : Int := if twin c then 17 else if simpleB c (c.length - 1) then 0 else 26
theorem s42 (m : Int) (c : List Pt) (h9 : all9 c) (h2 : 2 ≤ c.length) (h400 : c.length ≤ 400) : SpecP (cx m) 42 [ePs c] (.int .i64 (checkP c)) := by
  refine specP_of (mixed m) (k42 m) (Nat.le_of_ble_eq_true rfl) (X_start ?_)
  unfold c42
  have a1 : ¬ (c.length : Int) < 2 := by omega
  have a2 : ¬ (400 : Int) < (c.length : Int) := by omega
  simp -implicitDefEqProofs (disch := omega) only [KF, KV0, KV1, KV2, KW, ↓bstep, ↓astep, ↓O1.eq_def, ↓onBool.eq_def, ↓onInt.eq_def, ↓onStr.eq_def, ↓onLo.eq_def, ↓binK.eq_def, ↓arith.eq_def, ↓strOp.eq_def, ↓srcElems.eq_def, ↓dst1.eq_def, args0, List.zipIdx, List.map, lookup, St.ev, St.set, St.setO, reduceCtorEq, AV.plain, AV.plainL, AV.flat, AV.flatL, AV.cells, Nat.reduceEqDiff, ↓reduceIte, List.drop, List.take, List.length, Nat.reduceAdd, Nat.reduceLeDiff, Nat.reduceMul, E.done, rvsK, rvK, resAV, Int.reduceToNat, Int.reduceLE, Int.reduceLT, Int.reduceNeg, Int.reduceAdd, Int.reduceSub, Int.reduceMul, Nat.reduceLT, AV.isElem, AV.one, ↓buildCells.eq_1, ↓buildCells.eq_2, Nat.reduceBEq, eqCells, ePs, List.length_map, a1, a2]
  refine X_for (fun i : Nat => ⟨[(0, ePs c), (13, ePs c), (14, .int .i64 c.length), (15, .int .i64 i)], []⟩) (fun i => i ≤ c.length ∧ ∀ j, j + 1 < i → at' c j ≠ at' c (j + 1)) (fun i => c.length - i) 0 ⟨Nat.zero_le _, fun j h => absurd h (Nat.not_lt_zero _)⟩ ?_ ?_
  · exact weak_keep (by simp [lookup, ePs])
  intro i R ⟨i1, i2⟩ hR
  try dsimp only at hR ⊢
  rcases Nat.lt_or_ge i c.length with hi | hi
  · have x1 := get_pt hi
    have cp := s49 m (at' c i) (h9.get hi).q.1 (h9.get hi).q.2
    unfold eP at cp
    simp -implicitDefEqProofs (disch := omega) only [KF, KV0, KV1, KV2, KW, ↓bstep, ↓astep, ↓O1.eq_def, ↓onBool.eq_def, ↓onInt.eq_def, ↓onStr.eq_def, ↓onLo.eq_def, ↓binK.eq_def, ↓arith.eq_def, ↓strOp.eq_def, ↓srcElems.eq_def, ↓dst1.eq_def, args0, List.zipIdx, List.map, lookup, St.ev, St.set, St.setO, reduceCtorEq, AV.plain, AV.plainL, AV.flat, AV.flatL, AV.cells, Nat.reduceEqDiff, ↓reduceIte, List.drop, List.take, List.length, Nat.reduceAdd, Nat.reduceLeDiff, Nat.reduceMul, E.done, rvsK, rvK, resAV, Int.reduceToNat, Int.reduceLE, Int.reduceLT, Int.reduceNeg, Int.reduceAdd, Int.reduceSub, Int.reduceMul, Nat.reduceLT, AV.isElem, AV.one, ↓buildCells.eq_1, ↓buildCells.eq_2, Nat.reduceBEq, eqCells, ePs, List.length_map, hi, x1]
    refine CL_pure cp rfl ?_
    rcases i with _ | i
    · simp -implicitDefEqProofs (disch := omega) only [KF, KV0, KV1, KV2, KW, ↓bstep, ↓astep, ↓O1.eq_def, ↓onBool.eq_def, ↓onInt.eq_def, ↓onStr.eq_def, ↓onLo.eq_def, ↓binK.eq_def, ↓arith.eq_def, ↓strOp.eq_def, ↓srcElems.eq_def, ↓dst1.eq_def, args0, List.zipIdx, List.map, lookup, St.ev, St.set, St.setO, reduceCtorEq, AV.plain, AV.plainL, AV.flat, AV.flatL, AV.cells, Nat.reduceEqDiff, ↓reduceIte, List.drop, List.take, List.length, Nat.reduceAdd, Nat.reduceLeDiff, Nat.reduceMul, E.done, rvsK, rvK, resAV, Int.reduceToNat, Int.reduceLE, Int.reduceLT, Int.reduceNeg, Int.reduceAdd, Int.reduceSub, Int.reduceMul, Nat.reduceLT, AV.isElem, AV.one, ↓buildCells.eq_1, ↓buildCells.eq_2, Nat.reduceBEq, eqCells, Int.lt_irrefl, show (((0 : Nat) : Int)) = 0 from rfl]
      refine hR 1 _ ⟨by omega, fun j h => by omega⟩ (by omega) (weak_none (by simp [lookup, ePs, AV.plain]))
    · have x2 := get_pt (show i < c.length by omega)
      have p1 : (0 : Int) < ((i + 1 : Nat) : Int) := by omega
      have p2 : (((i + 1 : Nat) : Int) - 1) = (i : Int) := by omega
      by_cases e : at' c i = at' c (i + 1)
      · have pe := pt_eq' (at' c i) (at' c (i + 1))
        rw [decide_eq_true e] at pe
        simp -implicitDefEqProofs (disch := omega) only [KF, KV0, KV1, KV2, KW, ↓bstep, ↓astep, ↓O1.eq_def, ↓onBool.eq_def, ↓onInt.eq_def, ↓onStr.eq_def, ↓onLo.eq_def, ↓binK.eq_def, ↓arith.eq_def, ↓strOp.eq_def, ↓srcElems.eq_def, ↓dst1.eq_def, args0, List.zipIdx, List.map, lookup, St.ev, St.set, St.setO, reduceCtorEq, AV.plain, AV.plainL, AV.flat, AV.flatL, AV.cells, Nat.reduceEqDiff, ↓reduceIte, List.drop, List.take, List.length, Nat.reduceAdd, Nat.reduceLeDiff, Nat.reduceMul, E.done, rvsK, rvK, resAV, Int.reduceToNat, Int.reduceLE, Int.reduceLT, Int.reduceNeg, Int.reduceAdd, Int.reduceSub, Int.reduceMul, Nat.reduceLT, AV.isElem, AV.one, ↓buildCells.eq_1, ↓buildCells.eq_2, Nat.reduceBEq, eqCells, p1, p2, x2, pe]
        refine shi ?_
        unfold checkP
        rw [if_pos ⟨i, hi, e⟩]
      · have pe := pt_eq' (at' c i) (at' c (i + 1))
        rw [decide_eq_false e] at pe
        simp -implicitDefEqProofs (disch := omega) only [KF, KV0, KV1, KV2, KW, ↓bstep, ↓astep, ↓O1.eq_def, ↓onBool.eq_def, ↓onInt.eq_def, ↓onStr.eq_def, ↓onLo.eq_def, ↓binK.eq_def, ↓arith.eq_def, ↓strOp.eq_def, ↓srcElems.eq_def, ↓dst1.eq_def, args0, List.zipIdx, List.map, lookup, St.ev, St.set, St.setO, reduceCtorEq, AV.plain, AV.plainL, AV.flat, AV.flatL, AV.cells, Nat.reduceEqDiff, ↓reduceIte, List.drop, List.take, List.length, Nat.reduceAdd, Nat.reduceLeDiff, Nat.reduceMul, E.done, rvsK, rvK, resAV, Int.reduceToNat, Int.reduceLE, Int.reduceLT, Int.reduceNeg, Int.reduceAdd, Int.reduceSub, Int.reduceMul, Nat.reduceLT, AV.isElem, AV.one, ↓buildCells.eq_1, ↓buildCells.eq_2, Nat.reduceBEq, eqCells, p1, p2, x2, pe]
        refine hR (i + 2) _ ⟨by omega, fun j h => ?_⟩ (by omega) (weak_none (by simp [lookup, ePs, AV.plain]; omega))
        by_cases ej : j = i
        · rw [ej]; exact e
        · exact i2 j (by omega)
  · have hi' : ¬ i < c.length := by omega
    have q1 : ((c.length : Int) - 1) = ((c.length - 1 : Nat) : Int) := by omega
    have sp := s80 m c (c.length - 1) h9 (by omega) (by omega)
    unfold ePs at sp
    simp -implicitDefEqProofs (disch := omega) only [KF, KV0, KV1, KV2, KW, ↓bstep, ↓astep, ↓O1.eq_def, ↓onBool.eq_def, ↓onInt.eq_def, ↓onStr.eq_def, ↓onLo.eq_def, ↓binK.eq_def, ↓arith.eq_def, ↓strOp.eq_def, ↓srcElems.eq_def, ↓dst1.eq_def, args0, List.zipIdx, List.map, lookup, St.ev, St.set, St.setO, reduceCtorEq, AV.plain, AV.plainL, AV.flat, AV.flatL, AV.cells, Nat.reduceEqDiff, ↓reduceIte, List.drop, List.take, List.length, Nat.reduceAdd, Nat.reduceLeDiff, Nat.reduceMul, E.done, rvsK, rvK, resAV, Int.reduceToNat, Int.reduceLE, Int.reduceLT, Int.reduceNeg, Int.reduceAdd, Int.reduceSub, Int.reduceMul, Nat.reduceLT, AV.isElem, AV.one, ↓buildCells.eq_1, ↓buildCells.eq_2, Nat.reduceBEq, eqCells, ePs, List.length_map, hi', q1]
    refine CL_pure sp rfl ?_
    simp -implicitDefEqProofs (disch := omega) only [KF, KV0, KV1, KV2, KW, ↓bstep, ↓astep, ↓O1.eq_def, ↓onBool.eq_def, ↓onInt.eq_def, ↓onStr.eq_def, ↓onLo.eq_def, ↓binK.eq_def, ↓arith.eq_def, ↓strOp.eq_def, ↓srcElems.eq_def, ↓dst1.eq_def, args0, List.zipIdx, List.map, lookup, St.ev, St.set, St.setO, reduceCtorEq, AV.plain, AV.plainL, AV.flat, AV.flatL, AV.cells, Nat.reduceEqDiff, ↓reduceIte, List.drop, List.take, List.length, Nat.reduceAdd, Nat.reduceLeDiff, Nat.reduceMul, E.done, rvsK, rvK, resAV, Int.reduceToNat, Int.reduceLE, Int.reduceLT, Int.reduceNeg, Int.reduceAdd, Int.reduceSub, Int.reduceMul, Nat.reduceLT, AV.isElem, AV.one, ↓buildCells.eq_1, ↓buildCells.eq_2, Nat.reduceBEq, eqCells]
    refine shi ?_
    have nt : ¬ twin c := by
      rintro ⟨j, j1, j2⟩
      exact i2 j (by omega) j2
    unfold checkP
    rw [if_neg nt]

open Classical in
/-- klippelaw11.check, of a chain -/
noncomputable def checkL (c : List Pt) : Int := if c.length < 2 then 5 else if twin c then 17 else if simpleL c then 0 else 26
theorem mL_how (a b c d : Pt) : (meetL a b c d).1 = 0 ∨ (meetL a b c d).1 = 1 ∨ (meetL a b c d).1 = 2 := by
  unfold meetL
  split
  · simp; omega
  · split <;> simp
theorem s13 (m : Int) (c : List Pt) (h9 : all9 c) (h400 : c.length ≤ 400) : SpecP (cx m) 13 [ePs c, .bool false] (.int .i64 (checkL c)) := by
  refine specP_of (mixed m) (k13 m) (Nat.le_of_ble_eq_true rfl) (X_start ?_)
  unfold c13
  have a2 : ¬ (400 : Int) < (c.length : Int) := by omega
  by_cases a0 : c.length < 2
  · have a1 : (c.length : Int) < 2 := by omega
    simp -implicitDefEqProofs (disch := omega) only [KF, KV0, KV1, KV2, KW, ↓bstep, ↓astep, ↓O1.eq_def, ↓onBool.eq_def, ↓onInt.eq_def, ↓onStr.eq_def, ↓onLo.eq_def, ↓binK.eq_def, ↓arith.eq_def, ↓strOp.eq_def, ↓srcElems.eq_def, ↓dst1.eq_def, args0, List.zipIdx, List.map, lookup, St.ev, St.set, St.setO, reduceCtorEq, AV.plain, AV.plainL, AV.flat, AV.flatL, AV.cells, Nat.reduceEqDiff, ↓reduceIte, List.drop, List.take, List.length, Nat.reduceAdd, Nat.reduceLeDiff, Nat.reduceMul, E.done, rvsK, rvK, resAV, Int.reduceToNat, Int.reduceLE, Int.reduceLT, Int.reduceNeg, Int.reduceAdd, Int.reduceSub, Int.reduceMul, Nat.reduceLT, AV.isElem, AV.one, ↓buildCells.eq_1, ↓buildCells.eq_2, Nat.reduceBEq, eqCells, ePs, List.length_map, a1, a2]
    exact shi (by unfold checkL; rw [if_pos a0])
  have a1 : ¬ (c.length : Int) < 2 := by omega
  simp -implicitDefEqProofs (disch := omega) only [KF, KV0, KV1, KV2, KW, ↓bstep, ↓astep, ↓O1.eq_def, ↓onBool.eq_def, ↓onInt.eq_def, ↓onStr.eq_def, ↓onLo.eq_def, ↓binK.eq_def, ↓arith.eq_def, ↓strOp.eq_def, ↓srcElems.eq_def, ↓dst1.eq_def, args0, List.zipIdx, List.map, lookup, St.ev, St.set, St.setO, reduceCtorEq, AV.plain, AV.plainL, AV.flat, AV.flatL, AV.cells, Nat.reduceEqDiff, ↓reduceIte, List.drop, List.take, List.length, Nat.reduceAdd, Nat.reduceLeDiff, Nat.reduceMul, E.done, rvsK, rvK, resAV, Int.reduceToNat, Int.reduceLE, Int.reduceLT, Int.reduceNeg, Int.reduceAdd, Int.reduceSub, Int.reduceMul, Nat.reduceLT, AV.isElem, AV.one, ↓buildCells.eq_1, ↓buildCells.eq_2, Nat.reduceBEq, eqCells, ePs, List.length_map, a1, a2]
  refine X_for (fun i : Nat => ⟨[(0, ePs c), (1, .bool false), (6, .int .i64 i)], []⟩) (fun i => i ≤ c.length ∧ ∀ j, j + 1 < i → at' c j ≠ at' c (j + 1)) (fun i => c.length - i) 0 ⟨Nat.zero_le _, fun j h => absurd h (Nat.not_lt_zero _)⟩ ?_ ?_
  · exact weak_keep (by simp [lookup, ePs])
  intro i R ⟨i1, i2⟩ hR
  try dsimp only at hR ⊢
  rcases Nat.lt_or_ge i c.length with hi | hi
  · have x1 := get_pt hi
    have cp := s24 m (at' c i) (h9.get hi)
    unfold eP at cp
    simp -implicitDefEqProofs (disch := omega) only [KF, KV0, KV1, KV2, KW, ↓bstep, ↓astep, ↓O1.eq_def, ↓onBool.eq_def, ↓onInt.eq_def, ↓onStr.eq_def, ↓onLo.eq_def, ↓binK.eq_def, ↓arith.eq_def, ↓strOp.eq_def, ↓srcElems.eq_def, ↓dst1.eq_def, args0, List.zipIdx, List.map, lookup, St.ev, St.set, St.setO, reduceCtorEq, AV.plain, AV.plainL, AV.flat, AV.flatL, AV.cells, Nat.reduceEqDiff, ↓reduceIte, List.drop, List.take, List.length, Nat.reduceAdd, Nat.reduceLeDiff, Nat.reduceMul, E.done, rvsK, rvK, resAV, Int.reduceToNat, Int.reduceLE, Int.reduceLT, Int.reduceNeg, Int.reduceAdd, Int.reduceSub, Int.reduceMul, Nat.reduceLT, AV.isElem, AV.one, ↓buildCells.eq_1, ↓buildCells.eq_2, Nat.reduceBEq, eqCells, ePs, List.length_map, hi, x1]
    refine CL_pure cp rfl ?_
    rcases i with _ | i
    · simp -implicitDefEqProofs (disch := omega) only [KF, KV0, KV1, KV2, KW, ↓bstep, ↓astep, ↓O1.eq_def, ↓onBool.eq_def, ↓onInt.eq_def, ↓onStr.eq_def, ↓onLo.eq_def, ↓binK.eq_def, ↓arith.eq_def, ↓strOp.eq_def, ↓srcElems.eq_def, ↓dst1.eq_def, args0, List.zipIdx, List.map, lookup, St.ev, St.set, St.setO, reduceCtorEq, AV.plain, AV.plainL, AV.flat, AV.flatL, AV.cells, Nat.reduceEqDiff, ↓reduceIte, List.drop, List.take, List.length, Nat.reduceAdd, Nat.reduceLeDiff, Nat.reduceMul, E.done, rvsK, rvK, resAV, Int.reduceToNat, Int.reduceLE, Int.reduceLT, Int.reduceNeg, Int.reduceAdd, Int.reduceSub, Int.reduceMul, Nat.reduceLT, AV.isElem, AV.one, ↓buildCells.eq_1, ↓buildCells.eq_2, Nat.reduceBEq, eqCells, Int.lt_irrefl, show (((0 : Nat) : Int)) = 0 from rfl]
      refine hR 1 _ ⟨by omega, fun j h => by omega⟩ (by omega) (weak_keep (by simp [lookup, ePs]))
    · have x2 := get_pt (show i < c.length by omega)
      have p1 : (0 : Int) < ((i + 1 : Nat) : Int) := by omega
      have p2 : (((i + 1 : Nat) : Int) - 1) = (i : Int) := by omega
      have p3 := eq_false (show ¬ ((i + 1 : Nat) : Int) = 0 by omega)
      by_cases e : at' c i = at' c (i + 1)
      · have pe := pt_eq' (at' c (i + 1)) (at' c i)
        rw [decide_eq_true e.symm] at pe
        simp -implicitDefEqProofs (disch := omega) only [KF, KV0, KV1, KV2, KW, ↓bstep, ↓astep, ↓O1.eq_def, ↓onBool.eq_def, ↓onInt.eq_def, ↓onStr.eq_def, ↓onLo.eq_def, ↓binK.eq_def, ↓arith.eq_def, ↓strOp.eq_def, ↓srcElems.eq_def, ↓dst1.eq_def, args0, List.zipIdx, List.map, lookup, St.ev, St.set, St.setO, reduceCtorEq, AV.plain, AV.plainL, AV.flat, AV.flatL, AV.cells, Nat.reduceEqDiff, ↓reduceIte, List.drop, List.take, List.length, Nat.reduceAdd, Nat.reduceLeDiff, Nat.reduceMul, E.done, rvsK, rvK, resAV, Int.reduceToNat, Int.reduceLE, Int.reduceLT, Int.reduceNeg, Int.reduceAdd, Int.reduceSub, Int.reduceMul, Nat.reduceLT, AV.isElem, AV.one, ↓buildCells.eq_1, ↓buildCells.eq_2, Nat.reduceBEq, eqCells, p1, p2, p3, x1, x2, pe]
        refine shi ?_
        unfold checkL
        rw [if_neg a0, if_pos ⟨i, hi, e⟩]
      · have pe := pt_eq' (at' c (i + 1)) (at' c i)
        rw [decide_eq_false (show ¬ at' c (i + 1) = at' c i from fun h => e h.symm)] at pe
        simp -implicitDefEqProofs (disch := omega) only [KF, KV0, KV1, KV2, KW, ↓bstep, ↓astep, ↓O1.eq_def, ↓onBool.eq_def, ↓onInt.eq_def, ↓onStr.eq_def, ↓onLo.eq_def, ↓binK.eq_def, ↓arith.eq_def, ↓strOp.eq_def, ↓srcElems.eq_def, ↓dst1.eq_def, args0, List.zipIdx, List.map, lookup, St.ev, St.set, St.setO, reduceCtorEq, AV.plain, AV.plainL, AV.flat, AV.flatL, AV.cells, Nat.reduceEqDiff, ↓reduceIte, List.drop, List.take, List.length, Nat.reduceAdd, Nat.reduceLeDiff, Nat.reduceMul, E.done, rvsK, rvK, resAV, Int.reduceToNat, Int.reduceLE, Int.reduceLT, Int.reduceNeg, Int.reduceAdd, Int.reduceSub, Int.reduceMul, Nat.reduceLT, AV.isElem, AV.one, ↓buildCells.eq_1, ↓buildCells.eq_2, Nat.reduceBEq, eqCells, p1, p2, p3, x1, x2, pe]
        refine hR (i + 2) _ ⟨by omega, fun j h => ?_⟩ (by omega) (weak_keep (by simp [lookup, ePs]; omega))
        by_cases ej : j = i
        · rw [ej]; exact e
        · exact i2 j (by omega)
  have hi' : ¬ i < c.length := by omega
  have nt : ¬ twin c := by
    rintro ⟨j, j1, j2⟩
    exact i2 j (by omega) j2
  have q1 : ((c.length : Int) - 1) = ((c.length - 1 : Nat) : Int) := by omega
  simp -implicitDefEqProofs (disch := omega) only [KF, KV0, KV1, KV2, KW, ↓bstep, ↓astep, ↓O1.eq_def, ↓onBool.eq_def, ↓onInt.eq_def, ↓onStr.eq_def, ↓onLo.eq_def, ↓binK.eq_def, ↓arith.eq_def, ↓strOp.eq_def, ↓srcElems.eq_def, ↓dst1.eq_def, args0, List.zipIdx, List.map, lookup, St.ev, St.set, St.setO, reduceCtorEq, AV.plain, AV.plainL, AV.flat, AV.flatL, AV.cells, Nat.reduceEqDiff, ↓reduceIte, List.drop, List.take, List.length, Nat.reduceAdd, Nat.reduceLeDiff, Nat.reduceMul, E.done, rvsK, rvK, resAV, Int.reduceToNat, Int.reduceLE, Int.reduceLT, Int.reduceNeg, Int.reduceAdd, Int.reduceSub, Int.reduceMul, Nat.reduceLT, AV.isElem, AV.one, ↓buildCells.eq_1, ↓buildCells.eq_2, Nat.reduceBEq, eqCells, ePs, List.length_map, hi', q1]
  refine X_for (fun i : Nat => ⟨[(0, ePs c), (1, .bool false), (7, .int .i64 (c.length - 1 : Nat)), (8, .int .i64 i)], []⟩) (fun i => i ≤ c.length - 1 ∧ ∀ i' k, i' < i → i' < k → k + 1 < c.length → ¬ badL c i' k) (fun i => c.length - 1 - i) 0 ⟨Nat.zero_le _, fun i' k h => absurd h (Nat.not_lt_zero _)⟩ ?_ ?_
  · exact weak_keep (by simp [lookup, ePs])
  intro i R' ⟨i1', i2'⟩ hR'
  try dsimp only at hR' ⊢
  rcases Nat.lt_or_ge i (c.length - 1) with hi2 | hi2
  · simp -implicitDefEqProofs (disch := omega) only [KF, KV0, KV1, KV2, KW, ↓bstep, ↓astep, ↓O1.eq_def, ↓onBool.eq_def, ↓onInt.eq_def, ↓onStr.eq_def, ↓onLo.eq_def, ↓binK.eq_def, ↓arith.eq_def, ↓strOp.eq_def, ↓srcElems.eq_def, ↓dst1.eq_def, args0, List.zipIdx, List.map, lookup, St.ev, St.set, St.setO, reduceCtorEq, AV.plain, AV.plainL, AV.flat, AV.flatL, AV.cells, Nat.reduceEqDiff, ↓reduceIte, List.drop, List.take, List.length, Nat.reduceAdd, Nat.reduceLeDiff, Nat.reduceMul, E.done, rvsK, rvK, resAV, Int.reduceToNat, Int.reduceLE, Int.reduceLT, Int.reduceNeg, Int.reduceAdd, Int.reduceSub, Int.reduceMul, Nat.reduceLT, AV.isElem, AV.one, ↓buildCells.eq_1, ↓buildCells.eq_2, Nat.reduceBEq, eqCells, hi2]
    refine X_for (fun k : Nat => ⟨[(0, ePs c), (1, .bool false), (7, .int .i64 (c.length - 1 : Nat)), (8, .int .i64 i), (9, .int .i64 k)], []⟩) (fun k => i < k ∧ k ≤ c.length - 1 ∧ ∀ k', i < k' → k' < k → ¬ badL c i k') (fun k => c.length - 1 - k) (i + 1) ⟨by omega, by omega, fun k' h1 h2 => by omega⟩ ?_ ?_
    · exact weak_keep (by simp [lookup])
    intro k R'' ⟨k1, k2, k3⟩ hR''
    try dsimp only at hR'' ⊢
    rcases Nat.lt_or_ge k (c.length - 1) with hk | hk
    · have x1 := get_pt (show i < c.length by omega)
      have x2 := get_pt (show i + 1 < c.length by omega)
      have x3 := get_pt (show k < c.length by omega)
      have x4 := get_pt (show k + 1 < c.length by omega)
      have e1 : ((i : Int) + 1) = ((i + 1 : Nat) : Int) := by omega
      have e2 : ((k : Int) + 1) = ((k + 1 : Nat) : Int) := by omega
      have e3 : (((k + 1 : Nat) : Int)).tmod (c.length : Int) = ((k + 1 : Nat) : Int) := by rw [← Int.ofNat_tmod, Nat.mod_eq_of_lt (by omega)]
      have hn0 : ¬ ((c.length : Int) = 0) := by omega
      have hm := s45' m _ _ _ _ (h9.get (show i < c.length by omega)) (h9.get (show i + 1 < c.length by omega)) (h9.get (show k < c.length by omega)) (h9.get (show k + 1 < c.length by omega))
      have hw := mL_how (at' c i) (at' c (i + 1)) (at' c k) (at' c (k + 1))
      have hb : badL c i k ↔ (meetL (at' c i) (at' c (i + 1)) (at' c k) (at' c (k + 1))).1 > if k = i + 1 then 1 else 0 := Iff.rfl
      generalize meetL (at' c i) (at' c (i + 1)) (at' c k) (at' c (k + 1)) = r at *
      obtain ⟨h, o⟩ := r
      obtain ⟨u, v, he⟩ : ∃ u v, eO o = .agg [.str u, .str v] := by cases o <;> exact ⟨_, _, rfl⟩
      unfold eR eP at hm
      dsimp only at hm hw hb
      rw [he] at hm
      simp -implicitDefEqProofs (disch := omega) only [KF, KV0, KV1, KV2, KW, ↓bstep, ↓astep, ↓O1.eq_def, ↓onBool.eq_def, ↓onInt.eq_def, ↓onStr.eq_def, ↓onLo.eq_def, ↓binK.eq_def, ↓arith.eq_def, ↓strOp.eq_def, ↓srcElems.eq_def, ↓dst1.eq_def, args0, List.zipIdx, List.map, lookup, St.ev, St.set, St.setO, reduceCtorEq, AV.plain, AV.plainL, AV.flat, AV.flatL, AV.cells, Nat.reduceEqDiff, ↓reduceIte, List.drop, List.take, List.length, Nat.reduceAdd, Nat.reduceLeDiff, Nat.reduceMul, E.done, rvsK, rvK, resAV, Int.reduceToNat, Int.reduceLE, Int.reduceLT, Int.reduceNeg, Int.reduceAdd, Int.reduceSub, Int.reduceMul, Nat.reduceLT, AV.isElem, AV.one, ↓buildCells.eq_1, ↓buildCells.eq_2, Nat.reduceBEq, eqCells, ePs, List.length_map, hk, e1, x1, x2, x3, e2, e3, x4, hn0]
      refine CL_pure hm rfl ?_
      by_cases b1 : k = i + 1
      · have f1 := eq_true (show ((k : Int) = ((i + 1 : Nat) : Int)) by omega)
        rw [if_pos b1] at hb
        simp -implicitDefEqProofs (disch := omega) only [KF, KV0, KV1, KV2, KW, ↓bstep, ↓astep, ↓O1.eq_def, ↓onBool.eq_def, ↓onInt.eq_def, ↓onStr.eq_def, ↓onLo.eq_def, ↓binK.eq_def, ↓arith.eq_def, ↓strOp.eq_def, ↓srcElems.eq_def, ↓dst1.eq_def, args0, List.zipIdx, List.map, lookup, St.ev, St.set, St.setO, reduceCtorEq, AV.plain, AV.plainL, AV.flat, AV.flatL, AV.cells, Nat.reduceEqDiff, ↓reduceIte, List.drop, List.take, List.length, Nat.reduceAdd, Nat.reduceLeDiff, Nat.reduceMul, E.done, rvsK, rvK, resAV, Int.reduceToNat, Int.reduceLE, Int.reduceLT, Int.reduceNeg, Int.reduceAdd, Int.reduceSub, Int.reduceMul, Nat.reduceLT, AV.isElem, AV.one, ↓buildCells.eq_1, ↓buildCells.eq_2, Nat.reduceBEq, eqCells, e1, e2, f1]
        refine iteI (fun h5 => ?_) (fun h5 => ?_)
        · refine shi ?_
          unfold checkL
          rw [if_neg a0, if_neg nt, if_neg]
          intro hS
          exact hS i k k1 (by omega) (hb.2 (by omega))
        · refine hR'' (k + 1) _ ⟨by omega, by omega, fun k' h1 h2 => ?_⟩ (by omega) (weak_none (by simp [lookup, ePs, AV.plain]))
          by_cases e : k' = k
          · rw [e]; intro hc; have := hb.1 hc; omega
          · exact k3 k' h1 (by omega)
      · have f1 := eq_false (show ¬ ((k : Int) = ((i + 1 : Nat) : Int)) by omega)
        rw [if_neg b1] at hb
        simp -implicitDefEqProofs (disch := omega) only [KF, KV0, KV1, KV2, KW, ↓bstep, ↓astep, ↓O1.eq_def, ↓onBool.eq_def, ↓onInt.eq_def, ↓onStr.eq_def, ↓onLo.eq_def, ↓binK.eq_def, ↓arith.eq_def, ↓strOp.eq_def, ↓srcElems.eq_def, ↓dst1.eq_def, args0, List.zipIdx, List.map, lookup, St.ev, St.set, St.setO, reduceCtorEq, AV.plain, AV.plainL, AV.flat, AV.flatL, AV.cells, Nat.reduceEqDiff, ↓reduceIte, List.drop, List.take, List.length, Nat.reduceAdd, Nat.reduceLeDiff, Nat.reduceMul, E.done, rvsK, rvK, resAV, Int.reduceToNat, Int.reduceLE, Int.reduceLT, Int.reduceNeg, Int.reduceAdd, Int.reduceSub, Int.reduceMul, Nat.reduceLT, AV.isElem, AV.one, ↓buildCells.eq_1, ↓buildCells.eq_2, Nat.reduceBEq, eqCells, e1, e2, f1]
        refine iteI (fun h5 => ?_) (fun h5 => ?_)
        · refine shi ?_
          unfold checkL
          rw [if_neg a0, if_neg nt, if_neg]
          intro hS
          exact hS i k k1 (by omega) (hb.2 (by omega))
        · refine hR'' (k + 1) _ ⟨by omega, by omega, fun k' h1 h2 => ?_⟩ (by omega) (weak_none (by simp [lookup, ePs, AV.plain]))
          by_cases e : k' = k
          · rw [e]; intro hc; have := hb.1 hc; omega
          · exact k3 k' h1 (by omega)
    · have hk' : ¬ k < c.length - 1 := by omega
      simp -implicitDefEqProofs (disch := omega) only [KF, KV0, KV1, KV2, KW, ↓bstep, ↓astep, ↓O1.eq_def, ↓onBool.eq_def, ↓onInt.eq_def, ↓onStr.eq_def, ↓onLo.eq_def, ↓binK.eq_def, ↓arith.eq_def, ↓strOp.eq_def, ↓srcElems.eq_def, ↓dst1.eq_def, args0, List.zipIdx, List.map, lookup, St.ev, St.set, St.setO, reduceCtorEq, AV.plain, AV.plainL, AV.flat, AV.flatL, AV.cells, Nat.reduceEqDiff, ↓reduceIte, List.drop, List.take, List.length, Nat.reduceAdd, Nat.reduceLeDiff, Nat.reduceMul, E.done, rvsK, rvK, resAV, Int.reduceToNat, Int.reduceLE, Int.reduceLT, Int.reduceNeg, Int.reduceAdd, Int.reduceSub, Int.reduceMul, Nat.reduceLT, AV.isElem, AV.one, ↓buildCells.eq_1, ↓buildCells.eq_2, Nat.reduceBEq, eqCells, hk']
      refine hR' (i + 1) _ ⟨by omega, fun i' k' h1 h2 h3 => ?_⟩ (by omega) (weak_keep (by simp [lookup]))
      by_cases e : i' = i
      · rw [e]; exact k3 k' (by omega) (by omega)
      · exact i2' i' k' (by omega) h2 h3
  · have hi2' : ¬ i < c.length - 1 := by omega
    simp -implicitDefEqProofs (disch := omega) only [KF, KV0, KV1, KV2, KW, ↓bstep, ↓astep, ↓O1.eq_def, ↓onBool.eq_def, ↓onInt.eq_def, ↓onStr.eq_def, ↓onLo.eq_def, ↓binK.eq_def, ↓arith.eq_def, ↓strOp.eq_def, ↓srcElems.eq_def, ↓dst1.eq_def, args0, List.zipIdx, List.map, lookup, St.ev, St.set, St.setO, reduceCtorEq, AV.plain, AV.plainL, AV.flat, AV.flatL, AV.cells, Nat.reduceEqDiff, ↓reduceIte, List.drop, List.take, List.length, Nat.reduceAdd, Nat.reduceLeDiff, Nat.reduceMul, E.done, rvsK, rvK, resAV, Int.reduceToNat, Int.reduceLE, Int.reduceLT, Int.reduceNeg, Int.reduceAdd, Int.reduceSub, Int.reduceMul, Nat.reduceLT, AV.isElem, AV.one, ↓buildCells.eq_1, ↓buildCells.eq_2, Nat.reduceBEq, eqCells, hi2']
    refine shi ?_
    unfold checkL
    rw [if_neg a0, if_neg nt, if_pos]
    intro i' k h1 h2
    exact i2' i' k (by omega) h1 h2
end Go.Proofs.YtkjnjdcbnelceaaGreatDoor.KA
end

section
/- The small code of functions, as own tools print it; that it is the program's is checked by the kernel. -/
open Go Go.Proofs
set_option linter.unusedVariables false
namespace Go.Proofs.YtkjnjdcbnelceaaGreatDoor.KA
def c15 : C := (C.ops [⟨I.mv 4 (O.k AV.nils), none, some 4⟩, ⟨I.mv 5 (O.k (AV.bool false)), none, some 5⟩]).seq ((C.ops [⟨I.mv 6 (O.k AV.nils), none, some 6⟩]).seq (((C.ops [⟨I.mv 7 (O.k (AV.int IntKind.i64 0)), none, some 7⟩]).seq (C.block 0 (((C.ops [⟨I.mv 11 (O.t 7), none, some 11⟩, ⟨I.bin 12 BinOp.add (O.t 11) (O.k (AV.int IntKind.i64 1)), none, some 12⟩, ⟨I.mv 13 (O.t 0), none, some 13⟩, ⟨I.len 14 (O.t 13), none, some 14⟩, ⟨I.bin 15 BinOp.lss (O.t 12) (O.t 14), none, some 15⟩]).seq (C.cond (O.t 15) C.skip (C.exit 0))).seq ((C.block 1 ((C.ops [⟨I.mv 8 (O.k (AV.int IntKind.i64 0)), none, some 8⟩]).seq (C.block 2 (((C.ops [⟨I.mv 18 (O.t 8), none, some 18⟩, ⟨I.bin 19 BinOp.add (O.t 18) (O.k (AV.int IntKind.i64 1)), none, some 19⟩, ⟨I.mv 20 (O.t 1), none, some 20⟩, ⟨I.len 21 (O.t 20), none, some 21⟩, ⟨I.bin 22 BinOp.lss (O.t 19) (O.t 21), none, some 22⟩]).seq (C.cond (O.t 22) C.skip (C.exit 2))).seq ((C.block 3 ((C.ops [⟨I.mv 26 (O.t 0), none, some 26⟩, ⟨I.mv 27 (O.t 7), none, some 27⟩, ⟨I.idxa 28 2 none (O.t 26) (O.t 27), none, some 28⟩, ⟨I.loadf 29 true 2 (O.t 28), none, some 29⟩, ⟨I.mv 30 (O.t 0), none, some 30⟩, ⟨I.mv 31 (O.t 7), none, some 31⟩, ⟨I.bin 32 BinOp.add (O.t 31) (O.k (AV.int IntKind.i64 1)), none, some 32⟩, ⟨I.idxa 33 2 none (O.t 30) (O.t 32), none, some 33⟩, ⟨I.loadf 34 true 2 (O.t 33), none, some 34⟩, ⟨I.mv 35 (O.t 1), none, some 35⟩, ⟨I.mv 36 (O.t 8), none, some 36⟩, ⟨I.idxa 37 2 none (O.t 35) (O.t 36), none, some 37⟩, ⟨I.loadf 38 true 2 (O.t 37), none, some 38⟩, ⟨I.mv 39 (O.t 1), none, some 39⟩, ⟨I.mv 40 (O.t 8), none, some 40⟩, ⟨I.bin 41 BinOp.add (O.t 40) (O.k (AV.int IntKind.i64 1)), none, some 41⟩, ⟨I.idxa 42 2 none (O.t 39) (O.t 41), none, some 42⟩, ⟨I.loadf 43 true 2 (O.t 42), none, some 43⟩, ⟨I.call (some 44) (O.k (AV.fn 45 [])) [O.t 29, O.t 34, O.t 38, O.t 43] false, none, some 44⟩, ⟨I.mv 25 (O.t 44), none, some 25⟩, ⟨I.ext 45 (O.t 25) 0, none, some 45⟩, ⟨I.ext 46 (O.t 25) 1, none, some 46⟩, ⟨I.alloc 10 [AV.str [], AV.str []] true, none, some 10⟩, ⟨I.mv 9 (O.t 45), none, some 9⟩, ⟨I.store 2 (O.t 10) (O.t 46), none, none⟩]).seq (((C.ops [⟨I.mv 47 (O.t 9), none, some 47⟩, ⟨I.bin 48 BinOp.gtr (O.t 47) (O.k (AV.int IntKind.i64 1)), none, some 48⟩]).seq (C.cond (O.t 48) ((C.ops [⟨I.mv 4 (O.k AV.nils), none, some 4⟩, ⟨I.mv 5 (O.k (AV.bool true)), none, some 5⟩]).seq C.ret) C.skip)).seq ((C.ops [⟨I.mv 49 (O.t 9), none, some 49⟩, ⟨I.bin 50 BinOp.eql (O.t 49) (O.k (AV.int IntKind.i64 1)), none, some 50⟩]).seq (C.cond (O.t 50) (C.ops [⟨I.mv 51 (O.t 6), none, some 51⟩, ⟨I.mv 52 (O.t 7), none, some 52⟩, ⟨I.mv 53 (O.t 8), none, some 53⟩, ⟨I.load 54 true 2 (O.t 10), none, some 54⟩, ⟨I.build 55 [AV.int IntKind.i64 0, AV.int IntKind.i64 0, AV.str [], AV.str []] [(0, 1, O.t 52), (1, 1, O.t 53), (2, 2, O.t 54)], none, some 55⟩, ⟨I.bsl 56 4 [O.t 55] false, none, some 56⟩, ⟨I.append 57 4 48 (O.t 51) (O.t 56) true, none, some 57⟩, ⟨I.mv 6 (O.t 57), none, some 6⟩]) C.skip))))).seq (C.ops [⟨I.mv 23 (O.t 8), none, some 23⟩, ⟨I.bin 24 BinOp.add (O.t 23) (O.k (AV.int IntKind.i64 1)), none, some 24⟩, ⟨I.mv 8 (O.t 24), none, some 8⟩]))).loop))).seq (C.ops [⟨I.mv 16 (O.t 7), none, some 16⟩, ⟨I.bin 17 BinOp.add (O.t 16) (O.k (AV.int IntKind.i64 1)), none, some 17⟩, ⟨I.mv 7 (O.t 17), none, some 7⟩]))).loop)).seq ((C.ops [⟨I.mv 58 (O.t 6), none, some 58⟩, ⟨I.mv 4 (O.t 58), none, some 4⟩, ⟨I.mv 5 (O.k (AV.bool false)), none, some 5⟩]).seq C.ret)))
theorem k15 (m : Int) : compF (cx m).P (cx m).gt (fun t => t == 10 || t == 54 || t == 57) 15 = some (c15, [RV.tmp 4, RV.tmp 5], 59) := by kernel_rfl
def c14 : C := (C.ops [⟨I.mv 4 (O.k AV.nils), none, some 4⟩, ⟨I.mv 5 (O.k (AV.int IntKind.i64 0)), none, some 5⟩]).seq (((C.ops [⟨I.mv 14 (O.t 0), none, some 14⟩, ⟨I.mv 15 (O.t 1), none, some 15⟩, ⟨I.build 16 [AV.nils, AV.nils] [(0, 1, O.t 14), (1, 1, O.t 15)], none, some 16⟩, ⟨I.mv 17 (O.k (AV.int IntKind.i64 0)), none, some 17⟩]).seq (C.block 0 ((C.ops [⟨I.bin 18 BinOp.lss (O.t 17) (O.k (AV.int IntKind.i64 2)), none, some 18⟩]).seq ((C.cond (O.t 18) C.skip (C.exit 0)).seq ((C.block 1 ((C.ops [⟨I.idxv 19 false 1 2 (O.t 16) (O.t 17), none, some 19⟩, ⟨I.mv 7 (O.t 19), none, some 7⟩]).seq ((C.ops [⟨I.mv 20 (O.t 7), none, some 20⟩, ⟨I.call (some 21) (O.k (AV.fn 42 [])) [O.t 20] false, none, some 21⟩, ⟨I.mv 8 (O.t 21), none, some 8⟩]).seq ((C.ops [⟨I.mv 22 (O.t 8), none, some 22⟩, ⟨I.bin 23 BinOp.neq (O.t 22) (O.k (AV.int IntKind.i64 0)), none, some 23⟩]).seq (C.cond (O.t 23) ((C.ops [⟨I.mv 24 (O.t 8), none, some 24⟩, ⟨I.mv 4 (O.k AV.nils), none, some 4⟩, ⟨I.mv 5 (O.t 24), none, some 5⟩]).seq C.ret) C.skip))))).seq (C.ops [⟨I.bin 25 BinOp.add (O.t 17) (O.k (AV.int IntKind.i64 1)), none, some 25⟩, ⟨I.mv 17 (O.t 25), none, some 17⟩])))).loop)).seq ((C.ops [⟨I.mv 9 (O.k AV.nils), none, some 9⟩]).seq (((C.ops [⟨I.mv 26 (O.t 0), none, some 26⟩, ⟨I.len 27 (O.t 26), none, some 27⟩, ⟨I.bin 28 BinOp.sub (O.t 27) (O.k (AV.int IntKind.i64 1)), none, some 28⟩, ⟨I.mv 29 (O.k (AV.int IntKind.i64 0)), none, some 29⟩]).seq (C.block 2 ((C.ops [⟨I.bin 30 BinOp.lss (O.t 29) (O.t 28), none, some 30⟩]).seq ((C.cond (O.t 30) C.skip (C.exit 2)).seq ((C.block 3 ((C.ops [⟨I.mv 31 (O.t 29), none, some 31⟩, ⟨I.mv 10 (O.t 31), none, some 10⟩]).seq ((C.ops [⟨I.mv 32 (O.t 1), none, some 32⟩, ⟨I.len 33 (O.t 32), none, some 33⟩, ⟨I.bin 34 BinOp.sub (O.t 33) (O.k (AV.int IntKind.i64 1)), none, some 34⟩, ⟨I.mv 35 (O.k (AV.int IntKind.i64 0)), none, some 35⟩]).seq (C.block 4 ((C.ops [⟨I.bin 36 BinOp.lss (O.t 35) (O.t 34), none, some 36⟩]).seq ((C.cond (O.t 36) C.skip (C.exit 4)).seq ((C.block 5 ((C.ops [⟨I.mv 37 (O.t 35), none, some 37⟩, ⟨I.mv 11 (O.t 37), none, some 11⟩]).seq ((C.ops [⟨I.mv 39 (O.t 0), none, some 39⟩, ⟨I.mv 40 (O.t 10), none, some 40⟩, ⟨I.idxa 41 2 none (O.t 39) (O.t 40), none, some 41⟩, ⟨I.loadf 42 true 2 (O.t 41), none, some 42⟩, ⟨I.mv 43 (O.t 0), none, some 43⟩, ⟨I.mv 44 (O.t 10), none, some 44⟩, ⟨I.bin 45 BinOp.add (O.t 44) (O.k (AV.int IntKind.i64 1)), none, some 45⟩, ⟨I.idxa 46 2 none (O.t 43) (O.t 45), none, some 46⟩, ⟨I.loadf 47 true 2 (O.t 46), none, some 47⟩, ⟨I.mv 48 (O.t 1), none, some 48⟩, ⟨I.mv 49 (O.t 11), none, some 49⟩, ⟨I.idxa 50 2 none (O.t 48) (O.t 49), none, some 50⟩, ⟨I.loadf 51 true 2 (O.t 50), none, some 51⟩, ⟨I.mv 52 (O.t 1), none, some 52⟩, ⟨I.mv 53 (O.t 11), none, some 53⟩, ⟨I.bin 54 BinOp.add (O.t 53) (O.k (AV.int IntKind.i64 1)), none, some 54⟩, ⟨I.idxa 55 2 none (O.t 52) (O.t 54), none, some 55⟩, ⟨I.loadf 56 true 2 (O.t 55), none, some 56⟩, ⟨I.call (some 57) (O.k (AV.fn 46 [])) [O.t 42, O.t 47, O.t 51, O.t 56] false, none, some 57⟩, ⟨I.mv 38 (O.t 57), none, some 38⟩, ⟨I.ext 58 (O.t 38) 0, none, some 58⟩, ⟨I.ext 59 (O.t 38) 1, none, some 59⟩, ⟨I.alloc 13 [AV.str [], AV.str []] true, none, some 13⟩, ⟨I.mv 12 (O.t 58), none, some 12⟩, ⟨I.store 2 (O.t 13) (O.t 59), none, none⟩]).seq ((C.ops [⟨I.mv 60 (O.t 12), none, some 60⟩]).seq (C.block 6 ((C.ops [⟨I.bin 62 BinOp.eql (O.t 60) (O.k (AV.int IntKind.i64 2)), none, some 62⟩, ⟨I.mv 61 (O.t 62), none, some 61⟩]).seq (C.cond (O.t 61) ((C.ops [⟨I.mv 4 (O.k AV.nils), none, some 4⟩, ⟨I.mv 5 (O.k (AV.int IntKind.i64 7)), none, some 5⟩]).seq C.ret) ((C.ops [⟨I.bin 64 BinOp.eql (O.t 60) (O.k (AV.int IntKind.i64 1)), none, some 64⟩, ⟨I.mv 63 (O.t 64), none, some 63⟩]).seq (C.cond (O.t 63) (C.ops [⟨I.mv 65 (O.t 9), none, some 65⟩, ⟨I.mv 66 (O.t 10), none, some 66⟩, ⟨I.mv 67 (O.t 11), none, some 67⟩, ⟨I.load 68 true 2 (O.t 13), none, some 68⟩, ⟨I.build 69 [AV.int IntKind.i64 0, AV.int IntKind.i64 0, AV.str [], AV.str []] [(0, 1, O.t 66), (1, 1, O.t 67), (2, 2, O.t 68)], none, some 69⟩, ⟨I.bsl 70 4 [O.t 69] false, none, some 70⟩, ⟨I.append 71 4 48 (O.t 65) (O.t 70) true, none, some 71⟩, ⟨I.mv 9 (O.t 71), none, some 9⟩]) C.skip))))))))).seq (C.ops [⟨I.bin 72 BinOp.add (O.t 35) (O.k (AV.int IntKind.i64 1)), none, some 72⟩, ⟨I.mv 35 (O.t 72), none, some 35⟩])))).loop)))).seq (C.ops [⟨I.bin 73 BinOp.add (O.t 29) (O.k (AV.int IntKind.i64 1)), none, some 73⟩, ⟨I.mv 29 (O.t 73), none, some 29⟩])))).loop)).seq (((C.ops [⟨I.mv 74 (O.t 9), none, some 74⟩, ⟨I.call (some 75) (O.k (AV.fn 47 [])) [O.t 74, O.k (AV.fn 48 [])] false, none, some 75⟩]).seq (C.cond (O.t 75) ((C.ops [⟨I.mv 4 (O.k AV.nils), none, some 4⟩, ⟨I.mv 5 (O.k (AV.int IntKind.i64 4)), none, some 5⟩]).seq C.ret) C.skip)).seq ((C.ops [⟨I.mv 76 (O.t 9), none, some 76⟩, ⟨I.mv 4 (O.t 76), none, some 4⟩, ⟨I.mv 5 (O.k (AV.int IntKind.i64 0)), none, some 5⟩]).seq C.ret)))))
theorem k14 (m : Int) : compF (cx m).P (cx m).gt (fun t => t == 13 || t == 68 || t == 71) 14 = some (c14, [RV.tmp 4, RV.tmp 5], 77) := by kernel_rfl
def c48 : C := (C.ops [⟨I.box 1 (O.t 0) false, none, some 1⟩, ⟨I.mv 2 (O.k (AV.bool false)), none, some 2⟩]).seq ((C.ops [⟨I.fld 3 2 (O.t 1), none, some 3⟩, ⟨I.loadf 4 true 2 (O.t 3), none, some 4⟩, ⟨I.call (some 5) (O.k (AV.fn 49 [])) [O.t 4] false, none, some 5⟩, ⟨I.bin 6 BinOp.neq (O.t 5) (O.k (AV.int IntKind.i64 0)), none, some 6⟩, ⟨I.mv 2 (O.t 6), none, some 2⟩]).seq C.ret)
theorem k48 (m : Int) : compF (cx m).P (cx m).gt (fun _ => false) 48 = some (c48, [RV.tmp 2], 7) := by kernel_rfl
def c98 : C := (C.ops [⟨I.mv 4 (O.k (AV.int IntKind.i64 0)), none, some 4⟩]).seq (((C.ops [⟨I.mv 6 (O.t 0), none, some 6⟩, ⟨I.len 7 (O.t 6), none, some 7⟩, ⟨I.mv 8 (O.k (AV.int IntKind.i64 0)), none, some 8⟩]).seq (C.block 0 ((C.ops [⟨I.bin 9 BinOp.lss (O.t 8) (O.t 7), none, some 9⟩]).seq ((C.cond (O.t 9) C.skip (C.exit 0)).seq ((C.block 1 ((C.ops [⟨I.mv 10 (O.t 8), none, some 10⟩, ⟨I.mv 5 (O.t 10), none, some 5⟩]).seq ((C.ops [⟨I.mv 11 (O.t 1), none, some 11⟩, ⟨I.mv 12 (O.t 0), none, some 12⟩, ⟨I.mv 13 (O.t 5), none, some 13⟩, ⟨I.idxa 14 4 none (O.t 12) (O.t 13), none, some 14⟩, ⟨I.loadf 15 true 4 (O.t 14), none, some 15⟩, ⟨I.call (some 16) (O.t 11) [O.t 15] false, none, some 16⟩]).seq (C.cond (O.t 16) ((C.ops [⟨I.mv 17 (O.t 5), none, some 17⟩, ⟨I.mv 4 (O.t 17), none, some 4⟩]).seq C.ret) C.skip)))).seq (C.ops [⟨I.bin 18 BinOp.add (O.t 8) (O.k (AV.int IntKind.i64 1)), none, some 18⟩, ⟨I.mv 8 (O.t 18), none, some 8⟩])))).loop)).seq ((C.ops [⟨I.mv 4 (O.k (AV.int IntKind.i64 (-1))), none, some 4⟩]).seq C.ret))
theorem k98 (m : Int) : compF (cx m).P (cx m).gt (fun _ => false) 98 = some (c98, [RV.tmp 4], 19) := by kernel_rfl
def c47 : C := (C.ops [⟨I.mv 4 (O.k (AV.bool false)), none, some 4⟩]).seq ((C.ops [⟨I.mv 5 (O.t 0), none, some 5⟩, ⟨I.mv 6 (O.t 1), none, some 6⟩, ⟨I.call (some 7) (O.k (AV.fn 98 [])) [O.t 5, O.t 6] false, none, some 7⟩, ⟨I.bin 8 BinOp.geq (O.t 7) (O.k (AV.int IntKind.i64 0)), none, some 8⟩, ⟨I.mv 4 (O.t 8), none, some 4⟩]).seq C.ret)
theorem k47 (m : Int) : compF (cx m).P (cx m).gt (fun _ => false) 47 = some (c47, [RV.tmp 4], 9) := by kernel_rfl
def c12 : C := (C.ops [⟨I.mv 4 (O.k AV.nils), none, some 4⟩]).seq ((C.ops [⟨I.mv 5 (O.k AV.nils), none, some 5⟩]).seq ((C.ops [⟨I.mv 6 (O.k (AV.int IntKind.i64 1)), none, some 6⟩]).seq (((C.ops [⟨I.mv 12 (O.t 1), none, some 12⟩]).seq (C.cond (O.t 12) (C.ops [⟨I.mv 6 (O.k (AV.int IntKind.i64 2)), none, some 6⟩]) C.skip)).seq (((C.ops [⟨I.mv 7 (O.k (AV.int IntKind.i64 0)), none, some 7⟩]).seq (C.block 0 (((C.ops [⟨I.mv 13 (O.t 7), none, some 13⟩, ⟨I.mv 14 (O.t 0), none, some 14⟩, ⟨I.len 15 (O.t 14), none, some 15⟩, ⟨I.bin 16 BinOp.lss (O.t 13) (O.t 15), none, some 16⟩, ⟨I.mv 17 (O.t 16), none, some 17⟩, ⟨I.mv 18 (O.t 7), some (17, true), some 18⟩, ⟨I.bin 19 BinOp.lss (O.t 18) (O.k (AV.int IntKind.i64 8)), some (17, true), some 19⟩, ⟨I.pick 20 (O.t 17) (O.t 19) (O.k (AV.bool false)), none, some 20⟩]).seq (C.cond (O.t 20) C.skip (C.exit 0))).seq ((C.block 1 ((C.ops [⟨I.mv 24 (O.t 0), none, some 24⟩, ⟨I.mv 25 (O.t 7), none, some 25⟩, ⟨I.idxa 26 2 none (O.t 24) (O.t 25), none, some 26⟩, ⟨I.idxa 27 1 (some 2) (O.t 26) (O.k (AV.int IntKind.i64 0)), none, some 27⟩, ⟨I.loadf 28 false 1 (O.t 27), none, some 28⟩, ⟨I.conv 29 IntKind.i64 (O.t 28), none, some 29⟩, ⟨I.bin 30 BinOp.rem (O.t 29) (O.k (AV.int IntKind.i64 10)), none, some 30⟩, ⟨I.mv 31 (O.t 6), none, some 31⟩, ⟨I.call (some 32) (O.k (AV.fn 44 [])) [O.t 30, O.t 31] false, none, some 32⟩, ⟨I.mv 23 (O.t 32), none, some 23⟩, ⟨I.ext 33 (O.t 23) 0, none, some 33⟩, ⟨I.ext 34 (O.t 23) 1, none, some 34⟩, ⟨I.mv 8 (O.t 33), none, some 8⟩, ⟨I.mv 9 (O.t 34), none, some 9⟩]).seq ((C.ops [⟨I.mv 36 (O.t 0), none, some 36⟩, ⟨I.mv 37 (O.t 7), none, some 37⟩, ⟨I.idxa 38 2 none (O.t 36) (O.t 37), none, some 38⟩, ⟨I.idxa 39 1 (some 2) (O.t 38) (O.k (AV.int IntKind.i64 1)), none, some 39⟩, ⟨I.loadf 40 false 1 (O.t 39), none, some 40⟩, ⟨I.conv 41 IntKind.i64 (O.t 40), none, some 41⟩, ⟨I.bin 42 BinOp.rem (O.t 41) (O.k (AV.int IntKind.i64 10)), none, some 42⟩, ⟨I.mv 43 (O.t 6), none, some 43⟩, ⟨I.call (some 44) (O.k (AV.fn 44 [])) [O.t 42, O.t 43] false, none, some 44⟩, ⟨I.mv 35 (O.t 44), none, some 35⟩, ⟨I.ext 45 (O.t 35) 0, none, some 45⟩, ⟨I.ext 46 (O.t 35) 1, none, some 46⟩, ⟨I.mv 10 (O.t 45), none, some 10⟩, ⟨I.mv 11 (O.t 46), none, some 11⟩]).seq (C.ops [⟨I.mv 47 (O.t 5), none, some 47⟩, ⟨I.mv 48 (O.t 8), none, some 48⟩, ⟨I.mv 49 (O.t 10), none, some 49⟩, ⟨I.build 50 [AV.str [], AV.str []] [(0, 1, O.t 48), (1, 1, O.t 49)], none, some 50⟩, ⟨I.bsl 51 2 [O.t 50] false, none, some 51⟩, ⟨I.append 52 2 32 (O.t 47) (O.t 51) true, none, some 52⟩, ⟨I.mv 5 (O.t 52), none, some 5⟩])))).seq (C.ops [⟨I.mv 21 (O.t 7), none, some 21⟩, ⟨I.bin 22 BinOp.add (O.t 21) (O.k (AV.int IntKind.i64 1)), none, some 22⟩, ⟨I.mv 7 (O.t 22), none, some 7⟩]))).loop)).seq ((C.ops [⟨I.mv 53 (O.t 5), none, some 53⟩, ⟨I.mv 4 (O.t 53), none, some 4⟩]).seq C.ret)))))
theorem k12 (m : Int) : compF (cx m).P (cx m).gt (fun t => t == 52) 12 = some (c12, [RV.tmp 4], 54) := by kernel_rfl
def c3 : C := (C.ops [⟨I.mv 4 (O.k (AV.bool false)), none, some 4⟩]).seq (((C.ops [⟨I.call (some 12) (O.k (AV.fn 11 [])) [] false, none, some 12⟩, ⟨I.not 13 (O.t 12), none, some 13⟩, ⟨I.mv 14 (O.t 13), none, some 14⟩, ⟨I.mv 15 (O.t 0), some (14, false), some 15⟩, ⟨I.len 16 (O.t 15), some (14, false), some 16⟩, ⟨I.bin 17 BinOp.gtr (O.t 16) (O.k (AV.int IntKind.i64 6)), some (14, false), some 17⟩, ⟨I.pick 18 (O.t 14) (O.k (AV.bool true)) (O.t 17), none, some 18⟩, ⟨I.mv 19 (O.t 18), none, some 19⟩, ⟨I.mv 20 (O.t 1), some (19, false), some 20⟩, ⟨I.len 21 (O.t 20), some (19, false), some 21⟩, ⟨I.bin 22 BinOp.gtr (O.t 21) (O.k (AV.int IntKind.i64 6)), some (19, false), some 22⟩, ⟨I.pick 23 (O.t 19) (O.k (AV.bool true)) (O.t 22), none, some 23⟩]).seq (C.cond (O.t 23) ((C.ops [⟨I.call (some 24) (O.k (AV.fn 11 [])) [] false, none, some 24⟩, ⟨I.mv 4 (O.t 24), none, some 4⟩]).seq C.ret) C.skip)).seq ((C.ops [⟨I.mv 25 (O.t 0), none, some 25⟩, ⟨I.call (some 26) (O.k (AV.fn 12 [])) [O.t 25, O.k (AV.bool false)] false, none, some 26⟩, ⟨I.mv 27 (O.t 1), none, some 27⟩, ⟨I.call (some 28) (O.k (AV.fn 12 [])) [O.t 27, O.k (AV.bool false)] false, none, some 28⟩, ⟨I.mv 5 (O.t 26), none, some 5⟩, ⟨I.mv 6 (O.t 28), none, some 6⟩]).seq (((C.ops [⟨I.mv 29 (O.t 5), none, some 29⟩, ⟨I.call (some 30) (O.k (AV.fn 13 [])) [O.t 29, O.k (AV.bool false)] false, none, some 30⟩, ⟨I.bin 31 BinOp.neq (O.t 30) (O.k (AV.int IntKind.i64 0)), none, some 31⟩, ⟨I.mv 32 (O.t 31), none, some 32⟩, ⟨I.mv 33 (O.t 6), some (32, false), some 33⟩, ⟨I.call (some 34) (O.k (AV.fn 13 [])) [O.t 33, O.k (AV.bool false)] false, some (32, false), some 34⟩, ⟨I.bin 35 BinOp.neq (O.t 34) (O.k (AV.int IntKind.i64 0)), some (32, false), some 35⟩, ⟨I.pick 36 (O.t 32) (O.k (AV.bool true)) (O.t 35), none, some 36⟩]).seq (C.cond (O.t 36) ((C.ops [⟨I.mv 4 (O.k (AV.bool true)), none, some 4⟩]).seq C.ret) C.skip)).seq ((C.ops [⟨I.mv 38 (O.t 5), none, some 38⟩, ⟨I.mv 39 (O.t 6), none, some 39⟩, ⟨I.call (some 40) (O.k (AV.fn 14 [])) [O.t 38, O.t 39] false, none, some 40⟩, ⟨I.mv 37 (O.t 40), none, some 37⟩, ⟨I.ext 41 (O.t 37) 0, none, some 41⟩, ⟨I.ext 42 (O.t 37) 1, none, some 42⟩, ⟨I.mv 7 (O.t 41), none, some 7⟩, ⟨I.mv 8 (O.t 42), none, some 8⟩]).seq ((C.ops [⟨I.mv 44 (O.t 5), none, some 44⟩, ⟨I.mv 45 (O.t 6), none, some 45⟩, ⟨I.call (some 46) (O.k (AV.fn 15 [])) [O.t 44, O.t 45] false, none, some 46⟩, ⟨I.mv 43 (O.t 46), none, some 43⟩, ⟨I.ext 47 (O.t 43) 0, none, some 47⟩, ⟨I.ext 48 (O.t 43) 1, none, some 48⟩, ⟨I.mv 9 (O.t 47), none, some 9⟩, ⟨I.mv 10 (O.t 48), none, some 10⟩]).seq (((C.ops [⟨I.mv 49 (O.t 10), none, some 49⟩]).seq (C.cond (O.t 49) ((C.ops [⟨I.mv 50 (O.t 7), none, some 50⟩, ⟨I.len 51 (O.t 50), none, some 51⟩, ⟨I.bin 52 BinOp.eql (O.t 51) (O.k (AV.int IntKind.i64 0)), none, some 52⟩, ⟨I.mv 53 (O.t 52), none, some 53⟩, ⟨I.mv 54 (O.t 8), some (53, true), some 54⟩, ⟨I.bin 55 BinOp.eql (O.t 54) (O.k (AV.int IntKind.i64 7)), some (53, true), some 55⟩, ⟨I.pick 56 (O.t 53) (O.t 55) (O.k (AV.bool false)), none, some 56⟩, ⟨I.mv 4 (O.t 56), none, some 4⟩]).seq C.ret) C.skip)).seq (((C.ops [⟨I.mv 57 (O.t 7), none, some 57⟩, ⟨I.len 58 (O.t 57), none, some 58⟩, ⟨I.mv 59 (O.t 9), none, some 59⟩, ⟨I.len 60 (O.t 59), none, some 60⟩, ⟨I.bin 61 BinOp.neq (O.t 58) (O.t 60), none, some 61⟩, ⟨I.mv 62 (O.t 61), none, some 62⟩, ⟨I.mv 63 (O.t 8), some (62, false), some 63⟩, ⟨I.bin 64 BinOp.neq (O.t 63) (O.k (AV.int IntKind.i64 0)), some (62, false), some 64⟩, ⟨I.pick 65 (O.t 62) (O.k (AV.bool true)) (O.t 64), none, some 65⟩]).seq (C.cond (O.t 65) ((C.ops [⟨I.mv 4 (O.k (AV.bool false)), none, some 4⟩]).seq C.ret) C.skip)).seq (((C.ops [⟨I.mv 11 (O.k (AV.int IntKind.i64 0)), none, some 11⟩]).seq (C.block 0 (((C.ops [⟨I.mv 66 (O.t 11), none, some 66⟩, ⟨I.mv 67 (O.t 7), none, some 67⟩, ⟨I.len 68 (O.t 67), none, some 68⟩, ⟨I.bin 69 BinOp.lss (O.t 66) (O.t 68), none, some 69⟩]).seq (C.cond (O.t 69) C.skip (C.exit 0))).seq ((C.block 1 ((C.ops [⟨I.mv 72 (O.t 7), none, some 72⟩, ⟨I.mv 73 (O.t 11), none, some 73⟩, ⟨I.idxa 74 4 none (O.t 72) (O.t 73), none, some 74⟩, ⟨I.loadf 75 true 4 (O.t 74), none, some 75⟩, ⟨I.mv 76 (O.t 9), none, some 76⟩, ⟨I.mv 77 (O.t 11), none, some 77⟩, ⟨I.idxa 78 4 none (O.t 76) (O.t 77), none, some 78⟩, ⟨I.loadf 79 true 4 (O.t 78), none, some 79⟩, ⟨I.eqs 80 true [Leaf.int IntKind.i64, Leaf.int IntKind.i64, Leaf.str, Leaf.str] (O.t 75) (O.t 79), none, some 80⟩]).seq (C.cond (O.t 80) ((C.ops [⟨I.mv 4 (O.k (AV.bool false)), none, some 4⟩]).seq C.ret) C.skip))).seq (C.ops [⟨I.mv 70 (O.t 11), none, some 70⟩, ⟨I.bin 71 BinOp.add (O.t 70) (O.k (AV.int IntKind.i64 1)), none, some 71⟩, ⟨I.mv 11 (O.t 71), none, some 11⟩]))).loop)).seq ((C.ops [⟨I.mv 4 (O.k (AV.bool true)), none, some 4⟩]).seq C.ret)))))))))
theorem k3 (m : Int) : compF (cx m).P (cx m).gt (fun _ => false) 3 = some (c3, [RV.tmp 4], 81) := by kernel_rfl
end Go.Proofs.YtkjnjdcbnelceaaGreatDoor.KA
end

section
/- Contracts: where two chains meet, the law's way. -/
open Go Go.Proofs
set_option linter.unusedSimpArgs false
set_option linter.unusedVariables false
set_option maxHeartbeats 1000000
set_option maxRecDepth 20000
namespace Go.Proofs.YtkjnjdcbnelceaaGreatDoor.KA
open Num Geo

abbrev Hit := Nat × Nat × Pt
def eX (x : Hit) : AV := .agg [.int .i64 x.1, .int .i64 x.2.1, .str (tq x.2.2.1), .str (tq x.2.2.2)]
def cells4 (l : List Hit) : List AV := l.flatMap fun x => [.int .i64 x.1, .int .i64 x.2.1, .str (tq x.2.2.1), .str (tq x.2.2.2)]
theorem cells4_append (l m : List Hit) : cells4 (l ++ m) = cells4 l ++ cells4 m := by unfold cells4; rw [List.flatMap_append]
theorem cells4_cons (x : Hit) (l : List Hit) : cells4 (x :: l) = .int .i64 x.1 :: .int .i64 x.2.1 :: .str (tq x.2.2.1) :: .str (tq x.2.2.2) :: cells4 l := rfl
theorem cells4_length (l : List Hit) : (cells4 l).length = l.length * 4 := by
  induction l with
  | nil => rfl
  | cons p l ih => rw [cells4_cons]; simp [ih]; omega
theorem cells4_plain (l : List Hit) : AV.plainL (cells4 l) = true := by
  induction l with
  | nil => rfl
  | cons p l ih => rw [cells4_cons]; simp [AV.plainL, AV.plain, ih]
theorem cells4_map (l : List Hit) : (l.map eX).flatMap AV.cells = cells4 l := by
  unfold cells4; rw [List.flatMap_map]; rfl
def outAV : List Hit → AV
  | [] => .nils
  | l => .own 4 0 0 l.length l.length
def outBlk : List Hit → AHeap
  | [] => []
  | l => [some (cells4 l)]
/-- The list, as it is handed on. -/
theorem out_shows (l : List Hit) : Shows (outBlk l) (outAV l) (.sl 4 (l.map eX)) := by
  cases l with
  | nil => exact .nil 4
  | cons x l =>
    refine .own 4 0 0 _ _ (cells4 (x :: l)) _ rfl (by rw [cells4_length]; omega) (by simp) (fun y hy => ?_) ?_
    · obtain ⟨z, _, rfl⟩ := List.mem_map.1 hy; rfl
    · rw [cells4_map, List.drop_zero, ← cells4_length, List.take_length]
      exact showsL_refl (cells4_plain _)

theorem meetL_some (a b c d : Pt) (h : (meetL a b c d).1 = 1) : ∃ p, (meetL a b c d).2 = some p := by
  unfold meetL at h ⊢
  split
  · exact ⟨_, rfl⟩
  · rename_i e
    rw [e] at h
    split
    · rename_i h2; simp only [if_pos h2] at h; cases h
    · exact ⟨_, rfl⟩
def overL (a b : List Pt) : Prop := ∃ i k, i + 1 < a.length ∧ k + 1 < b.length ∧ (mL a b i k).1 > 1
theorem hit_one {f : Nat → Nat → Nat × Option Pt} {i k : Nat} {p : Pt} (h : f i k = (1, some p)) : hit f i k = some (i, k, p) := by unfold hit; rw [h]; rfl
theorem hit_zero {f : Nat → Nat → Nat × Option Pt} {i k : Nat} {o : Option Pt} (h : f i k = (0, o)) : hit f i k = none := by unfold hit; rw [h]; rfl
theorem row_one {f : Nat → Nat → Nat × Option Pt} {i k : Nat} {p : Pt} (h : f i k = (1, some p)) : row f (k + 1) i = row f k i ++ [(i, k, p)] := by rw [row_succ, hit_one h]; rfl
theorem row_none {f : Nat → Nat → Nat × Option Pt} {i k : Nat} {o : Option Pt} (h : f i k = (0, o)) : row f (k + 1) i = row f k i := by rw [row_succ, hit_zero h]; simp
theorem row_len (f : Nat → Nat → Nat × Option Pt) (i : Nat) : ∀ k, (row f k i).length ≤ k
  | 0 => by simp [row_zero]
  | k + 1 => by
    have := row_len f i k
    rw [row_succ, List.length_append]
    cases hit f i k <;> simp <;> omega
theorem hits_len (f : Nat → Nat → Nat × Option Pt) (n : Nat) : ∀ i, (hits f i n).length ≤ i * n
  | 0 => by simp [hits_zero]
  | i + 1 => by
    have := hits_len f n i
    have h2 := row_len f i n
    rw [hits_succ, List.length_append, Nat.succ_mul]; omega

open Classical in
/-- klippelaw11.crossings -/
theorem s15 (m : Int) (a b : List Pt) (ha : all9 a) (hb : all9 b) (la : a.length ≤ 8) (lb : b.length ≤ 8) :
    SpecP (cx m) 15 [ePs a, ePs b] (if overL a b then .tuple [.sl 4 [], .bool true] else .tuple [.sl 4 ((hits (mL a b) (a.length - 1) (b.length - 1)).map eX), .bool false]) := by
  refine specP_of (mixed m) (k15 m) (Nat.le_of_ble_eq_true rfl) (X_start ?_)
  unfold c15
  simp -implicitDefEqProofs (disch := omega) only [KF, KV0, KV1, KV2, KW, ↓bstep, ↓astep, ↓O1.eq_def, ↓onBool.eq_def, ↓onInt.eq_def, ↓onStr.eq_def, ↓onLo.eq_def, ↓binK.eq_def, ↓arith.eq_def, ↓strOp.eq_def, ↓srcElems.eq_def, ↓dst1.eq_def, args0, List.zipIdx, List.map, lookup, St.ev, St.set, St.setO, reduceCtorEq, AV.plain, AV.plainL, AV.flat, AV.flatL, AV.cells, Nat.reduceEqDiff, ↓reduceIte, List.drop, List.take, List.length, Nat.reduceAdd, Nat.reduceLeDiff, Nat.reduceMul, E.done, rvsK, rvK, resAV, Int.reduceToNat, Int.reduceLE, Int.reduceLT, Int.reduceNeg, Int.reduceAdd, Int.reduceSub, Int.reduceMul, Nat.reduceLT, AV.isElem, AV.one, ↓buildCells.eq_1, ↓buildCells.eq_2, Nat.reduceBEq, eqCells, ePs, List.length_map]
  refine X_for (fun i : Nat => ⟨[(0, ePs a), (1, ePs b), (6, outAV (hits (mL a b) i (b.length - 1))), (7, .int .i64 i)], outBlk (hits (mL a b) i (b.length - 1))⟩)
    (fun i => (i = 0 ∨ i ≤ a.length - 1) ∧ ∀ i' k, i' < i → k + 1 < b.length → ¬ (mL a b i' k).1 > 1) (fun i => a.length - i) 0 ⟨.inl rfl, fun i' k h => absurd h (Nat.not_lt_zero _)⟩ ?_ ?_
  · exact weak_keep (by simp [lookup, ePs, hits_zero, outAV])
  intro i R ⟨i1, i2⟩ hR
  try dsimp only at hR ⊢
  have e1 : ((i : Int) + 1) = ((i + 1 : Nat) : Int) := by omega
  rcases Nat.lt_or_ge (i + 1) a.length with hi | hi
  · have bl := hits_len (mL a b) (b.length - 1) i
    have bm : i * (b.length - 1) ≤ 8 * 8 := Nat.mul_le_mul (by omega) (by omega)
    simp -implicitDefEqProofs (disch := omega) only [KF, KV0, KV1, KV2, KW, ↓bstep, ↓astep, ↓O1.eq_def, ↓onBool.eq_def, ↓onInt.eq_def, ↓onStr.eq_def, ↓onLo.eq_def, ↓binK.eq_def, ↓arith.eq_def, ↓strOp.eq_def, ↓srcElems.eq_def, ↓dst1.eq_def, args0, List.zipIdx, List.map, lookup, St.ev, St.set, St.setO, reduceCtorEq, AV.plain, AV.plainL, AV.flat, AV.flatL, AV.cells, Nat.reduceEqDiff, ↓reduceIte, List.drop, List.take, List.length, Nat.reduceAdd, Nat.reduceLeDiff, Nat.reduceMul, E.done, rvsK, rvK, resAV, Int.reduceToNat, Int.reduceLE, Int.reduceLT, Int.reduceNeg, Int.reduceAdd, Int.reduceSub, Int.reduceMul, Nat.reduceLT, AV.isElem, AV.one, ↓buildCells.eq_1, ↓buildCells.eq_2, Nat.reduceBEq, eqCells, ePs, List.length_map, e1, hi]
    refine X_for (fun k : Nat => ⟨[(0, ePs a), (1, ePs b), (6, outAV (hits (mL a b) i (b.length - 1) ++ row (mL a b) k i)), (7, .int .i64 i), (8, .int .i64 k)], outBlk (hits (mL a b) i (b.length - 1) ++ row (mL a b) k i)⟩)
      (fun k => (k = 0 ∨ k ≤ b.length - 1) ∧ ∀ k', k' < k → ¬ (mL a b i k').1 > 1) (fun k => b.length - k) 0 ⟨.inl rfl, fun k h => absurd h (Nat.not_lt_zero _)⟩ ?_ ?_
    · simp only [row_zero, List.append_nil]
      exact weak_keep (by simp [lookup, ePs])
    intro k R' ⟨k1, k2⟩ hR'
    try dsimp only at hR' ⊢
    have e2 : ((k : Int) + 1) = ((k + 1 : Nat) : Int) := by omega
    rcases Nat.lt_or_ge (k + 1) b.length with hk | hk
    · have x1 := get_pt (show i < a.length by omega)
      have x2 := get_pt (show i + 1 < a.length by omega)
      have x3 := get_pt (show k < b.length by omega)
      have x4 := get_pt (show k + 1 < b.length by omega)
      have hm := s45' m _ _ _ _ (ha.get (show i < a.length by omega)) (ha.get (show i + 1 < a.length by omega)) (hb.get (show k < b.length by omega)) (hb.get (show k + 1 < b.length by omega))
      have hw := mL_how (at' a i) (at' a (i + 1)) (at' b k) (at' b (k + 1))
      have hsm := meetL_some (at' a i) (at' a (i + 1)) (at' b k) (at' b (k + 1))
      have hov : ∀ x, mL a b i k = x → meetL (at' a i) (at' a (i + 1)) (at' b k) (at' b (k + 1)) = x := fun x h => h
      have rl := row_len (mL a b) i k
      generalize hr : meetL (at' a i) (at' a (i + 1)) (at' b k) (at' b (k + 1)) = r at *
      have hr' : mL a b i k = r := hr
      obtain ⟨h, o⟩ := r
      unfold eR eP at hm
      dsimp only at hm hw hsm
      generalize hl : hits (mL a b) i (b.length - 1) ++ row (mL a b) k i = L at *
      have hL : L.length ≤ 100 := by rw [← hl, List.length_append]; omega
      have okk : ¬ (mL a b i k).1 > 1 → ∀ k', k' < k + 1 → ¬ (mL a b i k').1 > 1 := fun h k' h2 => by
        by_cases e : k' = k
        · rw [e]; exact h
        · exact k2 k' (by omega)
      rcases L with _ | ⟨y, L⟩
      · rcases hw with rfl | rfl | rfl
        · skip
          obtain ⟨u, v, he⟩ : ∃ u v, eO o = .agg [.str u, .str v] := by cases o <;> exact ⟨_, _, rfl⟩
          rw [he, show ((0 : Nat) : Int) = 0 from rfl] at hm
          simp -implicitDefEqProofs (disch := omega) only [KF, KV0, KV1, KV2, KW, ↓bstep, ↓astep, ↓O1.eq_def, ↓onBool.eq_def, ↓onInt.eq_def, ↓onStr.eq_def, ↓onLo.eq_def, ↓binK.eq_def, ↓arith.eq_def, ↓strOp.eq_def, ↓srcElems.eq_def, ↓dst1.eq_def, args0, List.zipIdx, List.map, lookup, St.ev, St.set, St.setO, reduceCtorEq, AV.plain, AV.plainL, AV.flat, AV.flatL, AV.cells, Nat.reduceEqDiff, ↓reduceIte, List.drop, List.take, List.length, Nat.reduceAdd, Nat.reduceLeDiff, Nat.reduceMul, E.done, rvsK, rvK, resAV, Int.reduceToNat, Int.reduceLE, Int.reduceLT, Int.reduceNeg, Int.reduceAdd, Int.reduceSub, Int.reduceMul, Nat.reduceLT, AV.isElem, AV.one, ↓buildCells.eq_1, ↓buildCells.eq_2, Nat.reduceBEq, eqCells, ePs, List.length_map, e1, e2, hk, x1, x2, x3, x4, outAV, outBlk]
          refine CL_pure hm rfl ?_
          simp -implicitDefEqProofs (disch := omega) only [KF, KV0, KV1, KV2, KW, ↓bstep, ↓astep, ↓O1.eq_def, ↓onBool.eq_def, ↓onInt.eq_def, ↓onStr.eq_def, ↓onLo.eq_def, ↓binK.eq_def, ↓arith.eq_def, ↓strOp.eq_def, ↓srcElems.eq_def, ↓dst1.eq_def, args0, List.zipIdx, List.map, lookup, St.ev, St.set, St.setO, reduceCtorEq, AV.plain, AV.plainL, AV.flat, AV.flatL, AV.cells, Nat.reduceEqDiff, ↓reduceIte, List.drop, List.take, List.length, Nat.reduceAdd, Nat.reduceLeDiff, Nat.reduceMul, E.done, rvsK, rvK, resAV, Int.reduceToNat, Int.reduceLE, Int.reduceLT, Int.reduceNeg, Int.reduceAdd, Int.reduceSub, Int.reduceMul, Nat.reduceLT, AV.isElem, AV.one, ↓buildCells.eq_1, ↓buildCells.eq_2, Nat.reduceBEq, eqCells]
          have hL' : hits (mL a b) i (b.length - 1) ++ row (mL a b) (k + 1) i = [] := by rw [row_none hr', hl]
          refine hR' (k + 1) _ ⟨by omega, okk (by rw [hr']; dsimp only; omega)⟩ (by omega) ?_
          rw [hL']
          exact weak_none (by simp [lookup, outAV, AV.plain, ePs])
        · obtain ⟨p, rfl⟩ := hsm rfl
          unfold eO eP at hm
          rw [show ((1 : Nat) : Int) = 1 from rfl] at hm
          simp -implicitDefEqProofs (disch := omega) only [KF, KV0, KV1, KV2, KW, ↓bstep, ↓astep, ↓O1.eq_def, ↓onBool.eq_def, ↓onInt.eq_def, ↓onStr.eq_def, ↓onLo.eq_def, ↓binK.eq_def, ↓arith.eq_def, ↓strOp.eq_def, ↓srcElems.eq_def, ↓dst1.eq_def, args0, List.zipIdx, List.map, lookup, St.ev, St.set, St.setO, reduceCtorEq, AV.plain, AV.plainL, AV.flat, AV.flatL, AV.cells, Nat.reduceEqDiff, ↓reduceIte, List.drop, List.take, List.length, Nat.reduceAdd, Nat.reduceLeDiff, Nat.reduceMul, E.done, rvsK, rvK, resAV, Int.reduceToNat, Int.reduceLE, Int.reduceLT, Int.reduceNeg, Int.reduceAdd, Int.reduceSub, Int.reduceMul, Nat.reduceLT, AV.isElem, AV.one, ↓buildCells.eq_1, ↓buildCells.eq_2, Nat.reduceBEq, eqCells, ePs, List.length_map, e1, e2, hk, x1, x2, x3, x4, outAV, outBlk]
          refine CL_pure hm rfl ?_
          simp -implicitDefEqProofs (disch := omega) only [KF, KV0, KV1, KV2, KW, ↓bstep, ↓astep, ↓O1.eq_def, ↓onBool.eq_def, ↓onInt.eq_def, ↓onStr.eq_def, ↓onLo.eq_def, ↓binK.eq_def, ↓arith.eq_def, ↓strOp.eq_def, ↓srcElems.eq_def, ↓dst1.eq_def, args0, List.zipIdx, List.map, lookup, St.ev, St.set, St.setO, reduceCtorEq, AV.plain, AV.plainL, AV.flat, AV.flatL, AV.cells, Nat.reduceEqDiff, ↓reduceIte, List.drop, List.take, List.length, Nat.reduceAdd, Nat.reduceLeDiff, Nat.reduceMul, E.done, rvsK, rvK, resAV, Int.reduceToNat, Int.reduceLE, Int.reduceLT, Int.reduceNeg, Int.reduceAdd, Int.reduceSub, Int.reduceMul, Nat.reduceLT, AV.isElem, AV.one, ↓buildCells.eq_1, ↓buildCells.eq_2, Nat.reduceBEq, eqCells]
          have hL' : hits (mL a b) i (b.length - 1) ++ row (mL a b) (k + 1) i = [(i, k, p)] := by rw [row_one hr', ← List.append_assoc, hl]; rfl
          refine hR' (k + 1) _ ⟨by omega, okk (by rw [hr']; dsimp only; omega)⟩ (by omega) ?_
          rw [hL']
          exact weak_one 1 rfl (cells4_plain [(i, k, p)]) (by simp [lookup, outAV, AV.ren, AV.idsLt, ePs])
        · skip
          obtain ⟨u, v, he⟩ : ∃ u v, eO o = .agg [.str u, .str v] := by cases o <;> exact ⟨_, _, rfl⟩
          rw [he, show ((2 : Nat) : Int) = 2 from rfl] at hm
          simp -implicitDefEqProofs (disch := omega) only [KF, KV0, KV1, KV2, KW, ↓bstep, ↓astep, ↓O1.eq_def, ↓onBool.eq_def, ↓onInt.eq_def, ↓onStr.eq_def, ↓onLo.eq_def, ↓binK.eq_def, ↓arith.eq_def, ↓strOp.eq_def, ↓srcElems.eq_def, ↓dst1.eq_def, args0, List.zipIdx, List.map, lookup, St.ev, St.set, St.setO, reduceCtorEq, AV.plain, AV.plainL, AV.flat, AV.flatL, AV.cells, Nat.reduceEqDiff, ↓reduceIte, List.drop, List.take, List.length, Nat.reduceAdd, Nat.reduceLeDiff, Nat.reduceMul, E.done, rvsK, rvK, resAV, Int.reduceToNat, Int.reduceLE, Int.reduceLT, Int.reduceNeg, Int.reduceAdd, Int.reduceSub, Int.reduceMul, Nat.reduceLT, AV.isElem, AV.one, ↓buildCells.eq_1, ↓buildCells.eq_2, Nat.reduceBEq, eqCells, ePs, List.length_map, e1, e2, hk, x1, x2, x3, x4, outAV, outBlk]
          refine CL_pure hm rfl ?_
          simp -implicitDefEqProofs (disch := omega) only [KF, KV0, KV1, KV2, KW, ↓bstep, ↓astep, ↓O1.eq_def, ↓onBool.eq_def, ↓onInt.eq_def, ↓onStr.eq_def, ↓onLo.eq_def, ↓binK.eq_def, ↓arith.eq_def, ↓strOp.eq_def, ↓srcElems.eq_def, ↓dst1.eq_def, args0, List.zipIdx, List.map, lookup, St.ev, St.set, St.setO, reduceCtorEq, AV.plain, AV.plainL, AV.flat, AV.flatL, AV.cells, Nat.reduceEqDiff, ↓reduceIte, List.drop, List.take, List.length, Nat.reduceAdd, Nat.reduceLeDiff, Nat.reduceMul, E.done, rvsK, rvK, resAV, Int.reduceToNat, Int.reduceLE, Int.reduceLT, Int.reduceNeg, Int.reduceAdd, Int.reduceSub, Int.reduceMul, Nat.reduceLT, AV.isElem, AV.one, ↓buildCells.eq_1, ↓buildCells.eq_2, Nat.reduceBEq, eqCells]
          rw [if_pos ⟨i, k, hi, hk, by rw [hr']; dsimp only; omega⟩]
          exact .tuple _ _ (.cons _ _ _ _ (.nil 4) (.cons _ _ _ _ (.same _ rfl) .nil))
      · have cl := cells4_length (y :: L)
        rw [List.length_cons] at hL cl
        rcases hw with rfl | rfl | rfl
        · skip
          obtain ⟨u, v, he⟩ : ∃ u v, eO o = .agg [.str u, .str v] := by cases o <;> exact ⟨_, _, rfl⟩
          rw [he, show ((0 : Nat) : Int) = 0 from rfl] at hm
          simp -implicitDefEqProofs (disch := omega) only [KF, KV0, KV1, KV2, KW, ↓bstep, ↓astep, ↓O1.eq_def, ↓onBool.eq_def, ↓onInt.eq_def, ↓onStr.eq_def, ↓onLo.eq_def, ↓binK.eq_def, ↓arith.eq_def, ↓strOp.eq_def, ↓srcElems.eq_def, ↓dst1.eq_def, args0, List.zipIdx, List.map, lookup, St.ev, St.set, St.setO, reduceCtorEq, AV.plain, AV.plainL, AV.flat, AV.flatL, AV.cells, Nat.reduceEqDiff, ↓reduceIte, List.drop, List.take, List.length, Nat.reduceAdd, Nat.reduceLeDiff, Nat.reduceMul, E.done, rvsK, rvK, resAV, Int.reduceToNat, Int.reduceLE, Int.reduceLT, Int.reduceNeg, Int.reduceAdd, Int.reduceSub, Int.reduceMul, Nat.reduceLT, AV.isElem, AV.one, ↓buildCells.eq_1, ↓buildCells.eq_2, Nat.reduceBEq, eqCells, ePs, List.length_map, e1, e2, hk, x1, x2, x3, x4, outAV, outBlk]
          refine CL_pure hm rfl ?_
          simp -implicitDefEqProofs (disch := omega) only [KF, KV0, KV1, KV2, KW, ↓bstep, ↓astep, ↓O1.eq_def, ↓onBool.eq_def, ↓onInt.eq_def, ↓onStr.eq_def, ↓onLo.eq_def, ↓binK.eq_def, ↓arith.eq_def, ↓strOp.eq_def, ↓srcElems.eq_def, ↓dst1.eq_def, args0, List.zipIdx, List.map, lookup, St.ev, St.set, St.setO, reduceCtorEq, AV.plain, AV.plainL, AV.flat, AV.flatL, AV.cells, Nat.reduceEqDiff, ↓reduceIte, List.drop, List.take, List.length, Nat.reduceAdd, Nat.reduceLeDiff, Nat.reduceMul, E.done, rvsK, rvK, resAV, Int.reduceToNat, Int.reduceLE, Int.reduceLT, Int.reduceNeg, Int.reduceAdd, Int.reduceSub, Int.reduceMul, Nat.reduceLT, AV.isElem, AV.one, ↓buildCells.eq_1, ↓buildCells.eq_2, Nat.reduceBEq, eqCells]
          have hL' : hits (mL a b) i (b.length - 1) ++ row (mL a b) (k + 1) i = y :: L := by rw [row_none hr', hl]
          refine hR' (k + 1) _ ⟨by omega, okk (by rw [hr']; dsimp only; omega)⟩ (by omega) ?_
          rw [hL']
          exact weak_one 0 rfl (cells4_plain (y :: L)) (by simp [lookup, outAV, AV.ren, AV.idsLt, ePs])
        · obtain ⟨p, rfl⟩ := hsm rfl
          unfold eO eP at hm
          rw [show ((1 : Nat) : Int) = 1 from rfl] at hm
          simp -implicitDefEqProofs (disch := omega) only [KF, KV0, KV1, KV2, KW, ↓bstep, ↓astep, ↓O1.eq_def, ↓onBool.eq_def, ↓onInt.eq_def, ↓onStr.eq_def, ↓onLo.eq_def, ↓binK.eq_def, ↓arith.eq_def, ↓strOp.eq_def, ↓srcElems.eq_def, ↓dst1.eq_def, args0, List.zipIdx, List.map, lookup, St.ev, St.set, St.setO, reduceCtorEq, AV.plain, AV.plainL, AV.flat, AV.flatL, AV.cells, Nat.reduceEqDiff, ↓reduceIte, List.drop, List.take, List.length, Nat.reduceAdd, Nat.reduceLeDiff, Nat.reduceMul, E.done, rvsK, rvK, resAV, Int.reduceToNat, Int.reduceLE, Int.reduceLT, Int.reduceNeg, Int.reduceAdd, Int.reduceSub, Int.reduceMul, Nat.reduceLT, AV.isElem, AV.one, ↓buildCells.eq_1, ↓buildCells.eq_2, Nat.reduceBEq, eqCells, ePs, List.length_map, e1, e2, hk, x1, x2, x3, x4, outAV, outBlk]
          refine CL_pure hm rfl ?_
          simp -implicitDefEqProofs (disch := omega) only [KF, KV0, KV1, KV2, KW, ↓bstep, ↓astep, ↓O1.eq_def, ↓onBool.eq_def, ↓onInt.eq_def, ↓onStr.eq_def, ↓onLo.eq_def, ↓binK.eq_def, ↓arith.eq_def, ↓strOp.eq_def, ↓srcElems.eq_def, ↓dst1.eq_def, args0, List.zipIdx, List.map, lookup, St.ev, St.set, St.setO, reduceCtorEq, AV.plain, AV.plainL, AV.flat, AV.flatL, AV.cells, Nat.reduceEqDiff, ↓reduceIte, List.drop, List.take, List.length, Nat.reduceAdd, Nat.reduceLeDiff, Nat.reduceMul, E.done, rvsK, rvK, resAV, Int.reduceToNat, Int.reduceLE, Int.reduceLT, Int.reduceNeg, Int.reduceAdd, Int.reduceSub, Int.reduceMul, Nat.reduceLT, AV.isElem, AV.one, ↓buildCells.eq_1, ↓buildCells.eq_2, Nat.reduceBEq, eqCells]
          have hL' : hits (mL a b) i (b.length - 1) ++ row (mL a b) (k + 1) i = y :: (L ++ [(i, k, p)]) := by rw [row_one hr', ← List.append_assoc, hl]; rfl
          have e : List.take ((L.length + 1) * 4) (cells4 (y :: L)) ++ List.flatMap AV.cells [AV.agg [.int .i64 i, .int .i64 k, .str (tq p.1), .str (tq p.2)]] = cells4 (y :: (L ++ [(i, k, p)])) := by
            rw [← cl, List.take_length, ← List.cons_append, cells4_append]; rfl
          refine ⟨by rw [cl]; omega, by omega, by omega, ?_⟩
          rw [e]
          refine hR' (k + 1) _ ⟨by omega, okk (by rw [hr']; dsimp only; omega)⟩ (by omega) ?_
          rw [hL']
          exact weak_one 2 rfl (cells4_plain _) (by simp [lookup, outAV, AV.ren, AV.idsLt, ePs])
        · skip
          obtain ⟨u, v, he⟩ : ∃ u v, eO o = .agg [.str u, .str v] := by cases o <;> exact ⟨_, _, rfl⟩
          rw [he, show ((2 : Nat) : Int) = 2 from rfl] at hm
          simp -implicitDefEqProofs (disch := omega) only [KF, KV0, KV1, KV2, KW, ↓bstep, ↓astep, ↓O1.eq_def, ↓onBool.eq_def, ↓onInt.eq_def, ↓onStr.eq_def, ↓onLo.eq_def, ↓binK.eq_def, ↓arith.eq_def, ↓strOp.eq_def, ↓srcElems.eq_def, ↓dst1.eq_def, args0, List.zipIdx, List.map, lookup, St.ev, St.set, St.setO, reduceCtorEq, AV.plain, AV.plainL, AV.flat, AV.flatL, AV.cells, Nat.reduceEqDiff, ↓reduceIte, List.drop, List.take, List.length, Nat.reduceAdd, Nat.reduceLeDiff, Nat.reduceMul, E.done, rvsK, rvK, resAV, Int.reduceToNat, Int.reduceLE, Int.reduceLT, Int.reduceNeg, Int.reduceAdd, Int.reduceSub, Int.reduceMul, Nat.reduceLT, AV.isElem, AV.one, ↓buildCells.eq_1, ↓buildCells.eq_2, Nat.reduceBEq, eqCells, ePs, List.length_map, e1, e2, hk, x1, x2, x3, x4, outAV, outBlk]
          refine CL_pure hm rfl ?_
          simp -implicitDefEqProofs (disch := omega) only [KF, KV0, KV1, KV2, KW, ↓bstep, ↓astep, ↓O1.eq_def, ↓onBool.eq_def, ↓onInt.eq_def, ↓onStr.eq_def, ↓onLo.eq_def, ↓binK.eq_def, ↓arith.eq_def, ↓strOp.eq_def, ↓srcElems.eq_def, ↓dst1.eq_def, args0, List.zipIdx, List.map, lookup, St.ev, St.set, St.setO, reduceCtorEq, AV.plain, AV.plainL, AV.flat, AV.flatL, AV.cells, Nat.reduceEqDiff, ↓reduceIte, List.drop, List.take, List.length, Nat.reduceAdd, Nat.reduceLeDiff, Nat.reduceMul, E.done, rvsK, rvK, resAV, Int.reduceToNat, Int.reduceLE, Int.reduceLT, Int.reduceNeg, Int.reduceAdd, Int.reduceSub, Int.reduceMul, Nat.reduceLT, AV.isElem, AV.one, ↓buildCells.eq_1, ↓buildCells.eq_2, Nat.reduceBEq, eqCells]
          rw [if_pos ⟨i, k, hi, hk, by rw [hr']; dsimp only; omega⟩]
          exact .tuple _ _ (.cons _ _ _ _ (.nil 4) (.cons _ _ _ _ (.same _ rfl) .nil))
    · have ek : k = b.length - 1 := by omega
      have hk' : ¬ k + 1 < b.length := by omega
      simp -implicitDefEqProofs (disch := omega) only [KF, KV0, KV1, KV2, KW, ↓bstep, ↓astep, ↓O1.eq_def, ↓onBool.eq_def, ↓onInt.eq_def, ↓onStr.eq_def, ↓onLo.eq_def, ↓binK.eq_def, ↓arith.eq_def, ↓strOp.eq_def, ↓srcElems.eq_def, ↓dst1.eq_def, args0, List.zipIdx, List.map, lookup, St.ev, St.set, St.setO, reduceCtorEq, AV.plain, AV.plainL, AV.flat, AV.flatL, AV.cells, Nat.reduceEqDiff, ↓reduceIte, List.drop, List.take, List.length, Nat.reduceAdd, Nat.reduceLeDiff, Nat.reduceMul, E.done, rvsK, rvK, resAV, Int.reduceToNat, Int.reduceLE, Int.reduceLT, Int.reduceNeg, Int.reduceAdd, Int.reduceSub, Int.reduceMul, Nat.reduceLT, AV.isElem, AV.one, ↓buildCells.eq_1, ↓buildCells.eq_2, Nat.reduceBEq, eqCells, ePs, List.length_map, e2, hk']
      refine hR (i + 1) _ ⟨by omega, fun i' k' h1 h2 => ?_⟩ (by omega) ?_
      · by_cases e : i' = i
        · rw [e]; exact k2 k' (by omega)
        · exact i2 i' k' (by omega) h2
      · rw [hits_succ, ← ek]
        exact weak_keep (by simp [lookup, ePs])
  · have ei : i = a.length - 1 := by omega
    have hi' : ¬ i + 1 < a.length := by omega
    simp -implicitDefEqProofs (disch := omega) only [KF, KV0, KV1, KV2, KW, ↓bstep, ↓astep, ↓O1.eq_def, ↓onBool.eq_def, ↓onInt.eq_def, ↓onStr.eq_def, ↓onLo.eq_def, ↓binK.eq_def, ↓arith.eq_def, ↓strOp.eq_def, ↓srcElems.eq_def, ↓dst1.eq_def, args0, List.zipIdx, List.map, lookup, St.ev, St.set, St.setO, reduceCtorEq, AV.plain, AV.plainL, AV.flat, AV.flatL, AV.cells, Nat.reduceEqDiff, ↓reduceIte, List.drop, List.take, List.length, Nat.reduceAdd, Nat.reduceLeDiff, Nat.reduceMul, E.done, rvsK, rvK, resAV, Int.reduceToNat, Int.reduceLE, Int.reduceLT, Int.reduceNeg, Int.reduceAdd, Int.reduceSub, Int.reduceMul, Nat.reduceLT, AV.isElem, AV.one, ↓buildCells.eq_1, ↓buildCells.eq_2, Nat.reduceBEq, eqCells, ePs, List.length_map, e1, hi']
    have no : ¬ overL a b := by
      rintro ⟨i', k', h1, h2, h3⟩
      exact i2 i' k' (by omega) h2 h3
    rw [if_neg no, ← ei]
    exact .tuple _ _ (.cons _ _ _ _ (out_shows _) (.cons _ _ _ _ (.same _ rfl) .nil))
end Go.Proofs.YtkjnjdcbnelceaaGreatDoor.KA
end

section
/- Contracts: where two chains meet, the code's way; the law's points. -/
open Go Go.Proofs
set_option linter.unusedSimpArgs false
set_option linter.unusedVariables false
set_option maxHeartbeats 1000000
set_option maxRecDepth 20000
namespace Go.Proofs.YtkjnjdcbnelceaaGreatDoor.KA
open Num Geo

theorem colR_low {l h p : Pt} (e : (colR l h).2 = some p) : p = l := by
  unfold colR at e
  by_cases c1 : cp l h > 0
  · rw [if_pos c1] at e; cases e
  · rw [if_neg c1] at e
    by_cases c2 : cp l h = 0
    · rw [if_pos c2] at e; exact (Option.some.inj e).symm
    · rw [if_neg c2] at e; cases e
theorem meetP_qk {a b c d : Pt} (pa : P9 a) (pb : P9 b) (pc : P9 c) (pd : P9 d) {p : Pt} (h : (meetP a b c d).2 = some p) : PQ p := by
  unfold meetP at h
  split at h <;> rename_i h1
  · unfold colP at h
    have e := colR_low h
    rw [e]
    split
    · rcases lo_or c d with ⟨e, _⟩ | ⟨e, _⟩
      · rw [e]; exact pc.q
      · rw [e]; exact pd.q
    · rcases lo_or a b with ⟨e, _⟩ | ⟨e, _⟩
      · rw [e]; exact pa.q
      · rw [e]; exact pb.q
  · split at h <;> rename_i h2
    · cases h
    · simp only [Option.some.injEq] at h
      rw [← h]
      have hne : ar a b c - ar a b d ≠ 0 := by
        intro h
        have h' : ar a b c = ar a b d := by grind
        apply h2
        left
        rw [h', sg_mul, sg_gt]
        rw [h'] at h1
        rcases tri (ar a b d) with h | h | h
        · have := Rat.mul_pos (a := -ar a b d) (b := -ar a b d) (by grind) (by grind); grind
        · exact absurd ⟨by rw [h]; simp [sg], by rw [h]; simp [sg]⟩ h1
        · exact Rat.mul_pos h h
      have b1 := bd_ar pa pb pc
      have bk := bd_div b1 (bd_sub b1 (bd_ar pa pb pd)) hne
      exact ⟨qk1 (bd_add pc.1 (bd_mul bk (bd_sub pd.1 pc.1))), qk1 (bd_add pc.2 (bd_mul bk (bd_sub pd.2 pc.2)))⟩
theorem hits_mem {f : Nat → Nat → Nat × Option Pt} {l n : Nat} {x : Hit} (h : x ∈ hits f l n) : x.1 < l ∧ x.2.1 < n ∧ f x.1 x.2.1 = (1, some x.2.2) := by
  unfold hits row at h
  rw [List.mem_flatMap] at h
  obtain ⟨i, hi, h⟩ := h
  rw [List.mem_filterMap] at h
  obtain ⟨k, hk, h⟩ := h
  rw [List.mem_range] at hi hk
  unfold hit at h
  split at h
  · rename_i p e
    simp only [Option.some.injEq] at h
    subst h
    exact ⟨hi, hk, e⟩
  · cases h
theorem hits_qk {a b : List Pt} (ha : all9 a) (hb : all9 b) : ∀ x ∈ hits (mP a b) (a.length - 1) (b.length - 1), PQ x.2.2 := by
  intro x hx
  obtain ⟨h1, h2, h3⟩ := hits_mem hx
  exact meetP_qk (ha.get (by omega)) (ha.get (by omega)) (hb.get (by omega)) (hb.get (by omega)) (congrArg Prod.snd h3)

/-- Crossings' closure, slices.IndexFunc and slices.ContainsFunc at it -/
theorem s48 (m : Int) (x : Hit) (hx : PQ x.2.2) : SpecP (cx m) 48 [eX x] (.bool false) := by
  refine specP_of (mixed m) (k48 m) (Nat.le_of_ble_eq_true rfl) (X_start ?_)
  unfold c48
  have h := s49 m x.2.2 hx.1 hx.2
  unfold eP at h
  simp -implicitDefEqProofs (disch := omega) only [KF, KV0, KV1, KV2, KW, ↓bstep, ↓astep, ↓O1.eq_def, ↓onBool.eq_def, ↓onInt.eq_def, ↓onStr.eq_def, ↓onLo.eq_def, ↓binK.eq_def, ↓arith.eq_def, ↓strOp.eq_def, ↓srcElems.eq_def, ↓dst1.eq_def, args0, List.zipIdx, List.map, lookup, St.ev, St.set, St.setO, reduceCtorEq, AV.plain, AV.plainL, AV.flat, AV.flatL, AV.cells, Nat.reduceEqDiff, ↓reduceIte, List.drop, List.take, List.length, Nat.reduceAdd, Nat.reduceLeDiff, Nat.reduceMul, E.done, rvsK, rvK, resAV, Int.reduceToNat, Int.reduceLE, Int.reduceLT, Int.reduceNeg, Int.reduceAdd, Int.reduceSub, Int.reduceMul, Nat.reduceLT, AV.isElem, AV.one, ↓buildCells.eq_1, ↓buildCells.eq_2, Nat.reduceBEq, eqCells, eX]
  refine CL_pure h rfl ?_
  simp -implicitDefEqProofs (disch := omega) only [KF, KV0, KV1, KV2, KW, ↓bstep, ↓astep, ↓O1.eq_def, ↓onBool.eq_def, ↓onInt.eq_def, ↓onStr.eq_def, ↓onLo.eq_def, ↓binK.eq_def, ↓arith.eq_def, ↓strOp.eq_def, ↓srcElems.eq_def, ↓dst1.eq_def, args0, List.zipIdx, List.map, lookup, St.ev, St.set, St.setO, reduceCtorEq, AV.plain, AV.plainL, AV.flat, AV.flatL, AV.cells, Nat.reduceEqDiff, ↓reduceIte, List.drop, List.take, List.length, Nat.reduceAdd, Nat.reduceLeDiff, Nat.reduceMul, E.done, rvsK, rvK, resAV, Int.reduceToNat, Int.reduceLE, Int.reduceLT, Int.reduceNeg, Int.reduceAdd, Int.reduceSub, Int.reduceMul, Nat.reduceLT, AV.isElem, AV.one, ↓buildCells.eq_1, ↓buildCells.eq_2, Nat.reduceBEq, eqCells]
  exact shb rfl
theorem s98 (m : Int) (l : List Hit) (hl : ∀ x ∈ l, PQ x.2.2) (hn : l.length < 1000000) : SpecP (cx m) 98 [.sl 4 (l.map eX), .fn 48 []] (.int .i64 (-1)) := by
  refine specP_of (mixed m) (k98 m) (Nat.le_of_ble_eq_true rfl) (X_start ?_)
  unfold c98
  simp -implicitDefEqProofs (disch := omega) only [KF, KV0, KV1, KV2, KW, ↓bstep, ↓astep, ↓O1.eq_def, ↓onBool.eq_def, ↓onInt.eq_def, ↓onStr.eq_def, ↓onLo.eq_def, ↓binK.eq_def, ↓arith.eq_def, ↓strOp.eq_def, ↓srcElems.eq_def, ↓dst1.eq_def, args0, List.zipIdx, List.map, lookup, St.ev, St.set, St.setO, reduceCtorEq, AV.plain, AV.plainL, AV.flat, AV.flatL, AV.cells, Nat.reduceEqDiff, ↓reduceIte, List.drop, List.take, List.length, Nat.reduceAdd, Nat.reduceLeDiff, Nat.reduceMul, E.done, rvsK, rvK, resAV, Int.reduceToNat, Int.reduceLE, Int.reduceLT, Int.reduceNeg, Int.reduceAdd, Int.reduceSub, Int.reduceMul, Nat.reduceLT, AV.isElem, AV.one, ↓buildCells.eq_1, ↓buildCells.eq_2, Nat.reduceBEq, eqCells, List.length_map]
  refine X_for (fun i : Nat => ⟨[(0, .sl 4 (l.map eX)), (1, .fn 48 []), (7, .int .i64 l.length), (8, .int .i64 i)], []⟩) (fun i => i ≤ l.length) (fun i => l.length - i) 0 (Nat.zero_le _) ?_ ?_
  · exact weak_keep (by simp [lookup])
  intro i R i1 hR
  try dsimp only at hR ⊢
  rcases Nat.lt_or_ge i l.length with hi | hi
  · have x1 : (l.map eX)[i]? = some (eX l[i]) := by simp [hi]
    have h := s48 m l[i] (hl _ (List.getElem_mem hi))
    unfold eX at h
    simp -implicitDefEqProofs (disch := omega) only [KF, KV0, KV1, KV2, KW, ↓bstep, ↓astep, ↓O1.eq_def, ↓onBool.eq_def, ↓onInt.eq_def, ↓onStr.eq_def, ↓onLo.eq_def, ↓binK.eq_def, ↓arith.eq_def, ↓strOp.eq_def, ↓srcElems.eq_def, ↓dst1.eq_def, args0, List.zipIdx, List.map, lookup, St.ev, St.set, St.setO, reduceCtorEq, AV.plain, AV.plainL, AV.flat, AV.flatL, AV.cells, Nat.reduceEqDiff, ↓reduceIte, List.drop, List.take, List.length, Nat.reduceAdd, Nat.reduceLeDiff, Nat.reduceMul, E.done, rvsK, rvK, resAV, Int.reduceToNat, Int.reduceLE, Int.reduceLT, Int.reduceNeg, Int.reduceAdd, Int.reduceSub, Int.reduceMul, Nat.reduceLT, AV.isElem, AV.one, ↓buildCells.eq_1, ↓buildCells.eq_2, Nat.reduceBEq, eqCells, hi, x1, eX]
    refine CL_pure h rfl ?_
    simp -implicitDefEqProofs (disch := omega) only [KF, KV0, KV1, KV2, KW, ↓bstep, ↓astep, ↓O1.eq_def, ↓onBool.eq_def, ↓onInt.eq_def, ↓onStr.eq_def, ↓onLo.eq_def, ↓binK.eq_def, ↓arith.eq_def, ↓strOp.eq_def, ↓srcElems.eq_def, ↓dst1.eq_def, args0, List.zipIdx, List.map, lookup, St.ev, St.set, St.setO, reduceCtorEq, AV.plain, AV.plainL, AV.flat, AV.flatL, AV.cells, Nat.reduceEqDiff, ↓reduceIte, List.drop, List.take, List.length, Nat.reduceAdd, Nat.reduceLeDiff, Nat.reduceMul, E.done, rvsK, rvK, resAV, Int.reduceToNat, Int.reduceLE, Int.reduceLT, Int.reduceNeg, Int.reduceAdd, Int.reduceSub, Int.reduceMul, Nat.reduceLT, AV.isElem, AV.one, ↓buildCells.eq_1, ↓buildCells.eq_2, Nat.reduceBEq, eqCells]
    exact hR (i + 1) _ (by omega) (by omega) (weak_keep (by simp [lookup]))
  · have hi' : ¬ i < l.length := by omega
    simp -implicitDefEqProofs (disch := omega) only [KF, KV0, KV1, KV2, KW, ↓bstep, ↓astep, ↓O1.eq_def, ↓onBool.eq_def, ↓onInt.eq_def, ↓onStr.eq_def, ↓onLo.eq_def, ↓binK.eq_def, ↓arith.eq_def, ↓strOp.eq_def, ↓srcElems.eq_def, ↓dst1.eq_def, args0, List.zipIdx, List.map, lookup, St.ev, St.set, St.setO, reduceCtorEq, AV.plain, AV.plainL, AV.flat, AV.flatL, AV.cells, Nat.reduceEqDiff, ↓reduceIte, List.drop, List.take, List.length, Nat.reduceAdd, Nat.reduceLeDiff, Nat.reduceMul, E.done, rvsK, rvK, resAV, Int.reduceToNat, Int.reduceLE, Int.reduceLT, Int.reduceNeg, Int.reduceAdd, Int.reduceSub, Int.reduceMul, Nat.reduceLT, AV.isElem, AV.one, ↓buildCells.eq_1, ↓buildCells.eq_2, Nat.reduceBEq, eqCells, hi']
    exact shi rfl
theorem s47 (m : Int) (l : List Hit) (hl : ∀ x ∈ l, PQ x.2.2) (hn : l.length < 1000000) : SpecP (cx m) 47 [.sl 4 (l.map eX), .fn 48 []] (.bool false) := by
  refine specP_of (mixed m) (k47 m) (Nat.le_of_ble_eq_true rfl) (X_start ?_)
  unfold c47
  simp -implicitDefEqProofs (disch := omega) only [KF, KV0, KV1, KV2, KW, ↓bstep, ↓astep, ↓O1.eq_def, ↓onBool.eq_def, ↓onInt.eq_def, ↓onStr.eq_def, ↓onLo.eq_def, ↓binK.eq_def, ↓arith.eq_def, ↓strOp.eq_def, ↓srcElems.eq_def, ↓dst1.eq_def, args0, List.zipIdx, List.map, lookup, St.ev, St.set, St.setO, reduceCtorEq, AV.plain, AV.plainL, AV.flat, AV.flatL, AV.cells, Nat.reduceEqDiff, ↓reduceIte, List.drop, List.take, List.length, Nat.reduceAdd, Nat.reduceLeDiff, Nat.reduceMul, E.done, rvsK, rvK, resAV, Int.reduceToNat, Int.reduceLE, Int.reduceLT, Int.reduceNeg, Int.reduceAdd, Int.reduceSub, Int.reduceMul, Nat.reduceLT, AV.isElem, AV.one, ↓buildCells.eq_1, ↓buildCells.eq_2, Nat.reduceBEq, eqCells]
  refine CL_pure (s98 m l hl hn) (by
    have := plainL_all (l := l.map eX) (fun x hx => by obtain ⟨z, _, rfl⟩ := List.mem_map.1 hx; rfl)
    rfl) ?_
  simp -implicitDefEqProofs (disch := omega) only [KF, KV0, KV1, KV2, KW, ↓bstep, ↓astep, ↓O1.eq_def, ↓onBool.eq_def, ↓onInt.eq_def, ↓onStr.eq_def, ↓onLo.eq_def, ↓binK.eq_def, ↓arith.eq_def, ↓strOp.eq_def, ↓srcElems.eq_def, ↓dst1.eq_def, args0, List.zipIdx, List.map, lookup, St.ev, St.set, St.setO, reduceCtorEq, AV.plain, AV.plainL, AV.flat, AV.flatL, AV.cells, Nat.reduceEqDiff, ↓reduceIte, List.drop, List.take, List.length, Nat.reduceAdd, Nat.reduceLeDiff, Nat.reduceMul, E.done, rvsK, rvK, resAV, Int.reduceToNat, Int.reduceLE, Int.reduceLT, Int.reduceNeg, Int.reduceAdd, Int.reduceSub, Int.reduceMul, Nat.reduceLT, AV.isElem, AV.one, ↓buildCells.eq_1, ↓buildCells.eq_2, Nat.reduceBEq, eqCells]
  exact shb rfl
end Go.Proofs.YtkjnjdcbnelceaaGreatDoor.KA
end
