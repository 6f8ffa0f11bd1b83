/- Parts of the proof, in order: each part's head says what it holds. -/
import Derived.Test.YtkjnjdcbnelceaaGreatDoorR7
import Derived.Test.YtkjnjdcbnelceaaGreatDoorR4
import Derived.Test.YtkjnjdcbnelceaaGreatDoorR5
import Derived.Test.YtkjnjdcbnelceaaGreatDoorR6
import Derived.Test.YtkjnjdcbnelceaaGreatDoorR3
import Derived.HandedShaped
import Derived.ProofKit
import Derived.Lay
import Derived.Handy
import Derived.WideKeyArgs
import Derived.Lib.LaidTab
import Derived.Shelf.Vars
import Derived.OpenShut
import Derived.Test.YtkjnjdcbnelceaaGreatDoorRows

section
/- Contracts of the reference's integers: division and the greatest common divisor. -/
open Go Go.Proofs
set_option linter.unusedSimpArgs false
set_option linter.unusedVariables false
set_option maxHeartbeats 2000000
set_option maxRecDepth 20000
namespace Go.Proofs.YtkjnjdcbnelceaaGreatDoor.KA
open Num

theorem CL_pure' {c : Ctx} {k : Nat} {l : List GI} {fs : List F} {st : St} {Q : E → St → Prop} {d : Option Nat} {f : FuncId} {args az : List AV} {wr : Bool} {r : AV} (h : SpecP c f az r) (hs : ShowsL st.h args az) (hp : AV.plainL args = true) (hk : Y c k l fs (st.setO d r) Q) : CL c k d f args wr l fs st Q :=
  ⟨.inl ⟨az, r, hs, .inl hp, h, hk⟩⟩
theorem eI_zero : eI 0 = .sl 1 [] := by unfold eI; rw [pc_zero]; rfl
theorem pc_cons {r x : Nat} (hx : x < 10000) : tr (x :: pc 10000 r) = pc 10000 (r * 10000 + x) := by
  have hB : 2 ≤ 10000 := by omega
  rw [tr_pc hB (fun y hy => by rcases List.mem_cons.1 hy with h | h; omega; exact pc_lt hB r y h), val, val_pc hB]
  congr 1; omega
theorem n64s_cons (x : Nat) (l : List Nat) : n64s (x :: l) = .int .i64 (x : Int) :: n64s l := rfl
theorem n64s_flat (l : List Nat) : (n64s l).flatMap AV.cells = n64s l := z64s_flat _
theorem set_rep (j : Nat) (qs : List Nat) (v : Nat) : (n64s (List.replicate (j + 1) 0 ++ qs)).set j (.int .i64 (v : Int)) = n64s (List.replicate j 0 ++ v :: qs) := by
  unfold n64s
  rw [z64s_set, List.replicate_succ', List.append_assoc]
  congr 1
  rw [List.map_append, List.map_append, List.set_append_right _ _ (by simp)]
  simp
theorem div_step (Rk b x : Nat) (hb : 0 < b) : (Rk * 10000 + x) / b = (Rk / b) * 10000 + ((Rk % b) * 10000 + x) / b ∧ (Rk * 10000 + x) % b = ((Rk % b) * 10000 + x) % b := by
  have h := Nat.div_add_mod Rk b
  have e : Rk * 10000 + x = b * (Rk / b * 10000) + ((Rk % b) * 10000 + x) := by
    conv => lhs; rw [← h]
    rw [Nat.add_mul, Nat.mul_assoc, Nat.add_assoc]
  rw [e, Nat.mul_add_div hb, Nat.mul_add_mod]
  exact ⟨rfl, rfl⟩

/-- klipperef01.parts -/
theorem s196 (m : Int) (a b : Nat) (ha0 : a ≠ 0) (hb0 : b ≠ 0) (ha : dl a < 300000) (hb : dl b < 300000) : SpecP (cx m) 196 [eI a, eI b] (.tuple [eI (a / b), eI (a % b)]) := by
  refine specP_of (mixed m) (k196 m) (Nat.le_of_ble_eq_true rfl) (X_start ?_)
  unfold c196
  have hB : 2 ≤ 10000 := by omega
  have la := eI_len a (by omega)
  have lp := pc_lt hB a
  have vp := val_pc hB a
  have hn0 : pc 10000 a ≠ [] := fun e => ha0 ((pc_nil hB).1 e)
  have ea : eI a = .sl 1 (n64s (pc 10000 a)) := rfl
  rw [ea]
  generalize hP : pc 10000 a = P at *
  have hn1 := List.length_pos_iff.2 hn0
  refine WF @n64s_length ?_
  refine ⟨by omega, by omega, .inr trivial, ?_⟩
  refine X_for (fun x : Nat × List Nat => ⟨[(0, .sl 1 (n64s P)), (1, eI b), (6, .own 1 0 0 P.length P.length), (7, if x.1 = P.length then .nils else eI (val 10000 (P.drop x.1) % b)), (8, .int .i64 ((x.1 : Int) - 1))], [some (n64s (List.replicate x.1 0 ++ x.2))]⟩)
    (fun x => x.1 + x.2.length = P.length ∧ (∀ y ∈ x.2, y < 10000) ∧ val 10000 x.2 = val 10000 (P.drop x.1) / b) (fun x => x.1) (P.length, []) ⟨by simp, by simp, by simp [val]⟩ ?_ ?_
  · refine weak_same ?_ ?_
    · simp [lookup]
    · simp [flat1, n64s, z64s]
  rintro ⟨k, qs⟩ R ⟨h1, h2, h3⟩ hR
  try dsimp only at hR ⊢ h1 h2 h3
  cases k with
  | zero =>
    have c0 : ¬ (0 : Int) ≤ ((0 : Nat) : Int) - 1 := by omega
    have hPl : ¬ 0 = P.length := by omega
    refine WF (And.intro c0 hPl) ?_
    rw [Nat.zero_add] at h1
    refine CL_give [0] (s224 m qs (by omega)) (.cons _ _ _ _ (shows_z64 rfl (by simp [h1]) (by rw [n64s_length]; omega) ?_) .nil) ?_
    · rw [List.take_of_length_le (by rw [n64s_length]; omega)]; rfl
    refine WW ?_
    refine shv ?_ rfl
    rw [tr_pc hB h2, h3, List.drop_zero, vp]; rfl
  | succ j =>
    have c0 : ((j + 1 : Nat) : Int) - 1 = (j : Int) := by omega
    have hj : j < P.length := by omega
    have c1 := n64s_at (l := P) (k := j) (x := P[j]) (List.getElem?_eq_getElem hj)
    have c2 := lp _ (List.getElem_mem hj)
    have hdr : val 10000 (P.drop j) = val 10000 (P.drop (j + 1)) * 10000 + P[j] := by rw [List.drop_eq_getElem_cons hj, val]; omega
    have hds := div_step (val 10000 (P.drop (j + 1))) b P[j] (by omega)
    rw [← hdr] at hds
    have hr0 : j + 1 = P.length → val 10000 (P.drop (j + 1)) % b = 0 := fun h => by rw [List.drop_eq_nil_of_le (by omega)]; simp [val]
    have hrb : val 10000 (P.drop (j + 1)) % b < b := Nat.mod_lt _ (by omega)
    have hrl : dl (val 10000 (P.drop (j + 1)) % b : Nat) ≤ dl b := dl_mono (by omega)
    generalize val 10000 (P.drop (j + 1)) % b = r at *
    generalize P[j] = x at *
    have hcut := s224 m (x :: pc 10000 r) (by have := eI_len r (by omega); simp; omega)
    rw [pc_cons c2] at hcut
    have hMb : r * 10000 + x < (9999 + 1) * b := by
      have : (r + 1) * 10000 ≤ b * 10000 := Nat.mul_le_mul_right _ hrb
      omega
    have hRl : dl ((r * 10000 + x : Nat) : Int) < 400000 := by
      have h7 := dl_add ((r : Int) * 10000) (x : Int)
      have h8 := dl_mul (r : Int) 10000
      have h9 : dl (x : Int) ≤ 4 := dl_le (by omega) (by omega)
      have h10 : dl 10000 = 5 := by decide +kernel
      rw [Int.natCast_add, Int.natCast_mul]
      show dl ((r : Int) * 10000 + x) < 400000
      omega
    obtain ⟨M, hM⟩ : ∃ M, M = r * 10000 + x := ⟨_, rfl⟩
    rw [← hM] at hcut hMb hRl hds
    have ekl : ∀ u v : Option (List AV), killAll [1] [u, v] = [u, none] := fun _ _ => rfl
    have ekl3 : ∀ u v w : Option (List AV), killAll [2] [u, v, w] = [u, v, none] := fun _ _ _ => rfl
    by_cases hjn : j + 1 = P.length
    · have hr1 : pc 10000 r = [] := (pc_nil hB).2 (hr0 hjn)
      rw [hr1] at hcut
      have hjn' := eq_true hjn
      refine WF (And.intro c0 (And.intro hjn' (And.intro @n64s_length c1))) ?_
      refine CL_give [1] hcut (.cons _ _ _ _ (shows_z64 rfl rfl (Nat.le_refl _) rfl) .nil) ?_
      refine WF ekl ?_
      refine X_for (fun z : Nat × Nat => ⟨[(0, .sl 1 (n64s P)), (1, eI b), (6, .own 1 0 0 P.length P.length), (7, eI M), (8, .int .i64 (j : Int)), (9, .int .i64 (z.1 : Int)), (10, .int .i64 (z.2 : Int))], [some (n64s (List.replicate (j + 1) 0 ++ qs))]⟩)
        (fun z => z.1 ≤ z.2 ∧ z.2 ≤ 9999 ∧ z.1 * b ≤ M ∧ M < (z.2 + 1) * b) (fun z => z.2 - z.1) (0, 9999) ⟨Nat.zero_le _, Nat.le_refl _, by simp, hMb⟩ ?_ ?_
      · refine weak_row 0 rfl rfl (n64s_plain _) ?_
        simp [lookup, AV.ren, AV.idsLt, eI, plain_renL, n64s_plain, AV.renL]
      rintro ⟨lo, hi⟩ R' ⟨g1, g2, g3, g4⟩ hR'
      try dsimp only at hR' ⊢ g1 g2 g3 g4
      by_cases hlh : lo < hi
      · have hlh' := eq_true (show (lo : Int) < (hi : Int) by omega)
        have f1 : ((lo : Int) + (hi : Int) + 1).tdiv 2 = (((lo + hi + 1) / 2 : Nat) : Int) := by rw [Int.tdiv_eq_ediv_of_nonneg (by omega)]; omega
        obtain ⟨mi, hmi⟩ : ∃ mi, mi = (lo + hi + 1) / 2 := ⟨_, rfl⟩
        rw [← hmi] at f1
        have hjo := s198' m 0 b (mi : Int) (by omega) (by decide +kernel) (by omega) (.inr hb0) (by rw [Int.natCast_zero, Int.zero_add]; exact Int.mul_nonneg (by omega) (by omega))
        rw [Int.natCast_zero, Int.zero_add, show ((mi : Int) * (b : Int)).toNat = mi * b by rw [← Int.natCast_mul, Int.toNat_natCast], eI_zero] at hjo
        have hmb : dl ((mi * b : Nat) : Int) < 400000 := by
          have h7 := dl_mul (mi : Int) (b : Int)
          have h8 : dl (mi : Int) ≤ 5 := dl_le (by omega) (by omega)
          rw [Int.natCast_mul]; omega
        have hle := s222 m (M) (mi * b) (by have := eI_len _ hRl; omega) (by have := eI_len _ hmb; omega)
        refine WF (And.intro hlh' f1) ?_
        refine ⟨by decide, CL_pure' hjo (.cons _ _ _ _ (.nil 1) (.cons _ _ _ _ (.same _ rfl) (.cons _ _ _ _ (.same _ rfl) (.cons _ _ _ _ (.same _ rfl) .nil)))) rfl ?_⟩
        refine WW ?_
        refine CL_pure hle rfl ?_
        by_cases hd : M < mi * b
        · rw [decide_eq_true hd]
          refine WW ?_
          have hm1 : 0 < mi := by omega
          refine hR' (lo, mi - 1) _ ⟨by dsimp only; omega, by dsimp only; omega, g3, ?_⟩ (by dsimp only; omega) (weak_keep ?_)
          · dsimp only; rw [Nat.sub_add_cancel hm1]; exact hd
          · simp [lookup]; omega
        · rw [decide_eq_false hd]
          refine WW ?_
          refine hR' (mi, hi) _ ⟨by dsimp only; omega, g2, by dsimp only; omega, g4⟩ (by dsimp only; omega) (weak_keep ?_)
          simp [lookup]
      · have hlh' := eq_false (show ¬ (lo : Int) < (hi : Int) by omega)
        obtain rfl : lo = hi := by omega
        have hq : M / b = lo := Nat.div_eq_of_lt_le g3 g4
        have hmo : M - lo * b = M % b := by
          have := Nat.div_add_mod M b
          rw [hq, Nat.mul_comm] at this
          omega
        have hjo := s198' m M b (-(lo : Int)) (by omega) hRl (by omega) (.inr hb0) (by rw [Int.neg_mul, ← Int.natCast_mul]; omega)
        rw [show ((M : Int) + -(lo : Int) * (b : Int)).toNat = M % b by rw [Int.neg_mul, ← Int.natCast_mul]; omega] at hjo
        have hcl : (n64s (List.replicate (j + 1) 0 ++ qs)).length = P.length := by rw [n64s_length]; simp; omega
        have h0j : 0 + j * 1 = j := by omega
        rw [← Int.zero_sub (lo : Int)] at hjo
        refine WF (And.intro hlh' (And.intro hcl h0j)) ?_
        refine ⟨by omega, by omega, CL_pure hjo rfl ?_⟩
        refine WW ?_
        refine hR (j, lo :: qs) _ ⟨by simp; omega, ?_, ?_⟩ (by dsimp only; omega) (weak_same ?_ ?_)
        · intro z hz
          rcases List.mem_cons.1 hz with h | h
          · omega
          · exact h2 z h
        · dsimp only
          rw [val, h3, hds.1, hq]; omega
        · dsimp only
          rw [if_neg (by omega), hds.2]
          simp [lookup]
        · dsimp only
          rw [set_rep]
    · have hjn' := eq_false hjn
      have heI : eI r = .sl 1 (n64s (pc 10000 r)) := rfl
      by_cases hr : r = 0
      · have hr1 : eI r = .sl 1 [] := by rw [hr]; exact eI_zero
        have hr2 : pc 10000 r = [] := (pc_nil hB).2 hr
        rw [hr2] at hcut
        refine WF (And.intro c0 (And.intro hjn' (And.intro @n64s_length (And.intro c1 hr1)))) ?_
        refine CL_give [1] hcut (.cons _ _ _ _ (shows_z64 rfl rfl (Nat.le_refl _) rfl) .nil) ?_
        refine WF ekl ?_
        refine X_for (fun z : Nat × Nat => ⟨[(0, .sl 1 (n64s P)), (1, eI b), (6, .own 1 0 0 P.length P.length), (7, eI M), (8, .int .i64 (j : Int)), (9, .int .i64 (z.1 : Int)), (10, .int .i64 (z.2 : Int))], [some (n64s (List.replicate (j + 1) 0 ++ qs))]⟩)
          (fun z => z.1 ≤ z.2 ∧ z.2 ≤ 9999 ∧ z.1 * b ≤ M ∧ M < (z.2 + 1) * b) (fun z => z.2 - z.1) (0, 9999) ⟨Nat.zero_le _, Nat.le_refl _, by simp, hMb⟩ ?_ ?_
        · refine weak_row 0 rfl rfl (n64s_plain _) ?_
          simp [lookup, AV.ren, AV.idsLt, eI, plain_renL, n64s_plain, AV.renL]
        rintro ⟨lo, hi⟩ R' ⟨g1, g2, g3, g4⟩ hR'
        try dsimp only at hR' ⊢ g1 g2 g3 g4
        by_cases hlh : lo < hi
        · have hlh' := eq_true (show (lo : Int) < (hi : Int) by omega)
          have f1 : ((lo : Int) + (hi : Int) + 1).tdiv 2 = (((lo + hi + 1) / 2 : Nat) : Int) := by rw [Int.tdiv_eq_ediv_of_nonneg (by omega)]; omega
          obtain ⟨mi, hmi⟩ : ∃ mi, mi = (lo + hi + 1) / 2 := ⟨_, rfl⟩
          rw [← hmi] at f1
          have hjo := s198' m 0 b (mi : Int) (by omega) (by decide +kernel) (by omega) (.inr hb0) (by rw [Int.natCast_zero, Int.zero_add]; exact Int.mul_nonneg (by omega) (by omega))
          rw [Int.natCast_zero, Int.zero_add, show ((mi : Int) * (b : Int)).toNat = mi * b by rw [← Int.natCast_mul, Int.toNat_natCast], eI_zero] at hjo
          have hmb : dl ((mi * b : Nat) : Int) < 400000 := by
            have h7 := dl_mul (mi : Int) (b : Int)
            have h8 : dl (mi : Int) ≤ 5 := dl_le (by omega) (by omega)
            rw [Int.natCast_mul]; omega
          have hle := s222 m (M) (mi * b) (by have := eI_len _ hRl; omega) (by have := eI_len _ hmb; omega)
          refine WF (And.intro hlh' f1) ?_
          refine ⟨by decide, CL_pure' hjo (.cons _ _ _ _ (.nil 1) (.cons _ _ _ _ (.same _ rfl) (.cons _ _ _ _ (.same _ rfl) (.cons _ _ _ _ (.same _ rfl) .nil)))) rfl ?_⟩
          refine WW ?_
          refine CL_pure hle rfl ?_
          by_cases hd : M < mi * b
          · rw [decide_eq_true hd]
            refine WW ?_
            have hm1 : 0 < mi := by omega
            refine hR' (lo, mi - 1) _ ⟨by dsimp only; omega, by dsimp only; omega, g3, ?_⟩ (by dsimp only; omega) (weak_keep ?_)
            · dsimp only; rw [Nat.sub_add_cancel hm1]; exact hd
            · simp [lookup]; omega
          · rw [decide_eq_false hd]
            refine WW ?_
            refine hR' (mi, hi) _ ⟨by dsimp only; omega, g2, by dsimp only; omega, g4⟩ (by dsimp only; omega) (weak_keep ?_)
            simp [lookup]
        · have hlh' := eq_false (show ¬ (lo : Int) < (hi : Int) by omega)
          obtain rfl : lo = hi := by omega
          have hq : M / b = lo := Nat.div_eq_of_lt_le g3 g4
          have hmo : M - lo * b = M % b := by
            have := Nat.div_add_mod M b
            rw [hq, Nat.mul_comm] at this
            omega
          have hjo := s198' m M b (-(lo : Int)) (by omega) hRl (by omega) (.inr hb0) (by rw [Int.neg_mul, ← Int.natCast_mul]; omega)
          rw [show ((M : Int) + -(lo : Int) * (b : Int)).toNat = M % b by rw [Int.neg_mul, ← Int.natCast_mul]; omega] at hjo
          have hcl : (n64s (List.replicate (j + 1) 0 ++ qs)).length = P.length := by rw [n64s_length]; simp; omega
          have h0j : 0 + j * 1 = j := by omega
          rw [← Int.zero_sub (lo : Int)] at hjo
          refine WF (And.intro hlh' (And.intro hcl h0j)) ?_
          refine ⟨by omega, by omega, CL_pure hjo rfl ?_⟩
          refine WW ?_
          refine hR (j, lo :: qs) _ ⟨by simp; omega, ?_, ?_⟩ (by dsimp only; omega) (weak_same ?_ ?_)
          · intro z hz
            rcases List.mem_cons.1 hz with h | h
            · omega
            · exact h2 z h
          · dsimp only
            rw [val, h3, hds.1, hq]; omega
          · dsimp only
            rw [if_neg (by omega), hds.2]
            simp [lookup]
          · dsimp only
            rw [set_rep]
      · obtain ⟨y, ys, hy⟩ : ∃ y ys, pc 10000 r = y :: ys := by
          rcases hp : pc 10000 r with _ | ⟨y, ys⟩
          · exact absurd ((pc_nil hB).1 hp) hr
          · exact ⟨y, ys, rfl⟩
        have hyl := eI_len r (by omega)
        have hfl : List.flatMap AV.cells (AV.int .i64 (y : Int) :: n64s ys) = AV.int .i64 (y : Int) :: n64s ys := n64s_flat (y :: ys)
        rw [hy, List.length_cons] at hyl
        refine WF (And.intro c0 (And.intro hjn' (And.intro @n64s_length (And.intro c1 (And.intro heI (And.intro hy @n64s_cons)))))) ?_
        refine ⟨Nat.le_refl _, by omega, by omega, CL_give [2] hcut (.cons _ _ _ _ (shows_z64 rfl ?_ ?_ ?_) .nil) ?_⟩
        · rw [hy]; simp; omega
        · rw [hfl]; simp [AV.cells, n64s_length]; omega
        · rw [hfl, hy, List.take_of_length_le (by simp [AV.cells, n64s_length]; omega), show (max (1 + (ys.length + 1)) 1 - (1 + (ys.length + 1))) * 1 = 0 by omega]
          simp [AV.cells, n64s, z64s]
        refine WF ekl3 ?_
        refine X_for (fun z : Nat × Nat => ⟨[(0, .sl 1 (n64s P)), (1, eI b), (6, .own 1 0 0 P.length P.length), (7, eI M), (8, .int .i64 (j : Int)), (9, .int .i64 (z.1 : Int)), (10, .int .i64 (z.2 : Int))], [some (n64s (List.replicate (j + 1) 0 ++ qs))]⟩)
          (fun z => z.1 ≤ z.2 ∧ z.2 ≤ 9999 ∧ z.1 * b ≤ M ∧ M < (z.2 + 1) * b) (fun z => z.2 - z.1) (0, 9999) ⟨Nat.zero_le _, Nat.le_refl _, by simp, hMb⟩ ?_ ?_
        · refine weak_row 0 rfl rfl (n64s_plain _) ?_
          simp [lookup, AV.ren, AV.idsLt, eI, plain_renL, n64s_plain, AV.renL]
        rintro ⟨lo, hi⟩ R' ⟨g1, g2, g3, g4⟩ hR'
        try dsimp only at hR' ⊢ g1 g2 g3 g4
        by_cases hlh : lo < hi
        · have hlh' := eq_true (show (lo : Int) < (hi : Int) by omega)
          have f1 : ((lo : Int) + (hi : Int) + 1).tdiv 2 = (((lo + hi + 1) / 2 : Nat) : Int) := by rw [Int.tdiv_eq_ediv_of_nonneg (by omega)]; omega
          obtain ⟨mi, hmi⟩ : ∃ mi, mi = (lo + hi + 1) / 2 := ⟨_, rfl⟩
          rw [← hmi] at f1
          have hjo := s198' m 0 b (mi : Int) (by omega) (by decide +kernel) (by omega) (.inr hb0) (by rw [Int.natCast_zero, Int.zero_add]; exact Int.mul_nonneg (by omega) (by omega))
          rw [Int.natCast_zero, Int.zero_add, show ((mi : Int) * (b : Int)).toNat = mi * b by rw [← Int.natCast_mul, Int.toNat_natCast], eI_zero] at hjo
          have hmb : dl ((mi * b : Nat) : Int) < 400000 := by
            have h7 := dl_mul (mi : Int) (b : Int)
            have h8 : dl (mi : Int) ≤ 5 := dl_le (by omega) (by omega)
            rw [Int.natCast_mul]; omega
          have hle := s222 m (M) (mi * b) (by have := eI_len _ hRl; omega) (by have := eI_len _ hmb; omega)
          refine WF (And.intro hlh' f1) ?_
          refine ⟨by decide, CL_pure' hjo (.cons _ _ _ _ (.nil 1) (.cons _ _ _ _ (.same _ rfl) (.cons _ _ _ _ (.same _ rfl) (.cons _ _ _ _ (.same _ rfl) .nil)))) rfl ?_⟩
          refine WW ?_
          refine CL_pure hle rfl ?_
          by_cases hd : M < mi * b
          · rw [decide_eq_true hd]
            refine WW ?_
            have hm1 : 0 < mi := by omega
            refine hR' (lo, mi - 1) _ ⟨by dsimp only; omega, by dsimp only; omega, g3, ?_⟩ (by dsimp only; omega) (weak_keep ?_)
            · dsimp only; rw [Nat.sub_add_cancel hm1]; exact hd
            · simp [lookup]; omega
          · rw [decide_eq_false hd]
            refine WW ?_
            refine hR' (mi, hi) _ ⟨by dsimp only; omega, g2, by dsimp only; omega, g4⟩ (by dsimp only; omega) (weak_keep ?_)
            simp [lookup]
        · have hlh' := eq_false (show ¬ (lo : Int) < (hi : Int) by omega)
          obtain rfl : lo = hi := by omega
          have hq : M / b = lo := Nat.div_eq_of_lt_le g3 g4
          have hmo : M - lo * b = M % b := by
            have := Nat.div_add_mod M b
            rw [hq, Nat.mul_comm] at this
            omega
          have hjo := s198' m M b (-(lo : Int)) (by omega) hRl (by omega) (.inr hb0) (by rw [Int.neg_mul, ← Int.natCast_mul]; omega)
          rw [show ((M : Int) + -(lo : Int) * (b : Int)).toNat = M % b by rw [Int.neg_mul, ← Int.natCast_mul]; omega] at hjo
          have hcl : (n64s (List.replicate (j + 1) 0 ++ qs)).length = P.length := by rw [n64s_length]; simp; omega
          have h0j : 0 + j * 1 = j := by omega
          rw [← Int.zero_sub (lo : Int)] at hjo
          refine WF (And.intro hlh' (And.intro hcl h0j)) ?_
          refine ⟨by omega, by omega, CL_pure hjo rfl ?_⟩
          refine WW ?_
          refine hR (j, lo :: qs) _ ⟨by simp; omega, ?_, ?_⟩ (by dsimp only; omega) (weak_same ?_ ?_)
          · intro z hz
            rcases List.mem_cons.1 hz with h | h
            · omega
            · exact h2 z h
          · dsimp only
            rw [val, h3, hds.1, hq]; omega
          · dsimp only
            rw [if_neg (by omega), hds.2]
            simp [lookup]
          · dsimp only
            rw [set_rep]

/-- klipperef01.DivMod, of positive ones -/
theorem s146 (m : Int) (a b : Nat) (ha0 : a ≠ 0) (hb0 : b ≠ 0) (ha : dl a < 300000) (hb : dl b < 300000) : SpecP (cx m) 146 [.str (Lib.itoa a), .str (Lib.itoa b)] (.tuple [.str (Lib.itoa ((a / b : Nat) : Int)), .str (Lib.itoa ((a % b : Nat) : Int))]) := by
  refine specP_of (mixed m) (k146 m) (Nat.le_of_ble_eq_true rfl) (X_start ?_)
  unfold c146
  have qa := s194 m a (by omega)
  have qb := s194 m b (by omega)
  have la := dl_lt (a : Int)
  have lb := dl_lt (b : Int)
  have hdiv : a / b ≤ a := Nat.div_le_self _ _
  have hmod : a % b ≤ b := Nat.le_of_lt (Nat.mod_lt _ (by omega))
  have d1 := dl_mono hdiv
  have d2 := dl_mono hmod
  have na : ¬ (a : Int) < 0 := by omega
  have nb : ¬ (b : Int) < 0 := by omega
  have sa := s140 m a
  have sb := s140 m b
  rw [decide_eq_false na, Int.natAbs_natCast] at sa
  rw [decide_eq_false nb, Int.natAbs_natCast] at sb
  by_cases hq : dl a ≤ 17 ∧ dl b ≤ 17
  · obtain ⟨h1, h2⟩ := hq
    rw [if_pos h1] at qa
    rw [if_pos h2] at qb
    have l1 := Nat.pow_le_pow_right (show 0 < 10 by omega) h1
    have l2 := Nat.pow_le_pow_right (show 0 < 10 by omega) h2
    have e1 : (a : Int).tdiv (b : Int) = ((a / b : Nat) : Int) := by rw [Int.tdiv_eq_ediv_of_nonneg (by omega)]; exact (Int.natCast_ediv a b).symm
    have e2 : (a : Int).tmod (b : Int) = ((a % b : Nat) : Int) := by rw [Int.tmod_eq_emod_of_nonneg (by omega)]; exact (Int.natCast_emod a b).symm
    have e3 := eq_false (show ¬ (b : Int) = 0 by omega)
    have e4 := eq_false (show ¬ ((a % b : Nat) : Int) < 0 by omega)
    rw [Int.natAbs_natCast] at la lb
    refine WW ?_
    refine CL_pure qa rfl ?_
    refine WW ?_
    refine CL_pure qb rfl ?_
    have hq0 : (0 : Int) ≤ ((a / b : Nat) : Int) := Int.natCast_nonneg _
    have hr0 : (0 : Int) ≤ ((a % b : Nat) : Int) := Int.natCast_nonneg _
    have e5 : IntKind.i64.wrap ((a / b : Nat) : Int) = ((a / b : Nat) : Int) := wrapZ (by omega)
    refine WF (And.intro e1 (And.intro e2 (And.intro e3 (And.intro e4 e5)))) ?_
    refine CL_pure (s195 m ((a / b : Nat) : Int) (by omega) (by omega)) rfl ?_
    refine WW ?_
    refine CL_pure (s195 m ((a % b : Nat) : Int) (by omega) (by omega)) rfl ?_
    refine WW ?_
    exact shv rfl rfl
  · have qs : ∃ x y t u, (t && u) = false ∧ SpecP (cx m) 194 [.str (Lib.itoa a)] (.tuple [.int .i64 x, .bool t]) ∧ SpecP (cx m) 194 [.str (Lib.itoa b)] (.tuple [.int .i64 y, .bool u]) := by
      by_cases h1 : dl a ≤ 17
      · have h2 : ¬ dl b ≤ 17 := fun h => hq ⟨h1, h⟩
        rw [if_pos h1] at qa
        rw [if_neg h2] at qb
        exact ⟨_, _, _, _, rfl, qa, qb⟩
      · rw [if_neg h1] at qa
        by_cases h2 : dl b ≤ 17
        · rw [if_pos h2] at qb; exact ⟨_, _, _, _, rfl, qa, qb⟩
        · rw [if_neg h2] at qb; exact ⟨_, _, _, _, rfl, qa, qb⟩
    obtain ⟨x, y, t, u, htu, qa, qb⟩ := qs
    have ta := s197' m a (by omega)
    have tb := s197' m b (by omega)
    have hp := s196 m a b ha0 hb0 ha hb
    have m1 := s199 m false (a / b) (by omega)
    have m2 := s199 m false (a % b) (by omega)
    rw [if_neg (by decide)] at m1 m2
    rcases t with _ | _ <;> rcases u with _ | _ <;> try (exact absurd htu (by decide))
    all_goals
      refine WW ?_
      refine CL_pure qa rfl ?_
      refine WW ?_
      refine CL_pure qb rfl ?_
      refine WW ?_
      refine CL_pure sa rfl ?_
      refine WW ?_
      refine CL_pure sb rfl ?_
      refine WW ?_
      refine CL_pure ta rfl ?_
      refine WW ?_
      refine CL_pure tb rfl ?_
      refine WW ?_
      refine CL_pure hp rfl ?_
      refine WW ?_
      refine CL_pure m1 rfl ?_
      refine WW ?_
      refine CL_pure m2 rfl ?_
      refine WW ?_
      exact shv rfl rfl

/-- klipperef01.Gcd -/
theorem s106 (m : Int) (a b : Int) (h0 : a ≠ 0) (ha : dl a < 300000) (hb : dl b < 300000) : SpecP (cx m) 106 [.str (Lib.itoa a), .str (Lib.itoa b)] (.str (Lib.itoa ((Int.gcd a b : Nat) : Int))) := by
  refine specP_of (mixed m) (k106 m) (Nat.le_of_ble_eq_true rfl) (X_start ?_)
  unfold c106
  refine WW ?_
  refine CL_pure (s145 m a) rfl ?_
  refine WW ?_
  refine CL_pure (s145 m b) rfl ?_
  refine WW ?_
  refine X_for (fun x : Nat × Nat => ⟨[(0, .str (Lib.itoa (x.1 : Int))), (1, .str (Lib.itoa (x.2 : Int)))], []⟩) (fun x => x.1 ≠ 0 ∧ dl x.1 < 300000 ∧ dl x.2 < 300000 ∧ Nat.gcd x.1 x.2 = Int.gcd a b) (fun x => x.2) (a.natAbs, b.natAbs) ⟨by dsimp only; omega, by rw [dl_nat]; exact ha, by rw [dl_nat]; exact hb, rfl⟩ (weak_keep (by simp [lookup])) ?_
  rintro ⟨u, v⟩ R ⟨h1, h2, h3, h4⟩ hR
  try dsimp only at hR ⊢ h1 h2 h3 h4
  by_cases hv : v = 0
  · subst hv
    rw [Nat.gcd_zero_right] at h4
    have e0 : Lib.itoa ((0 : Nat) : Int) = [48] := itoa_zero
    refine WF e0 ?_
    exact shs (by rw [h4])
  · have e0 := eq_false (fun e => hv (by have := (itoa_eq0 (v : Int)).1 e; omega))
    have hd := s146 m u v h1 hv h2 h3
    refine WF e0 ?_
    refine CL_pure hd rfl ?_
    refine WW ?_
    refine hR (v, u % v) _ ⟨hv, h3, ?_, ?_⟩ (Nat.mod_lt _ (by omega)) (weak_keep (by simp [lookup]))
    · have := dl_mono (Nat.le_of_lt (Nat.mod_lt u (show v > 0 by omega)))
      dsimp only; omega
    · dsimp only
      rw [← h4, Nat.gcd_comm u v, Nat.gcd_rec v u, Nat.gcd_comm]
end Go.Proofs.YtkjnjdcbnelceaaGreatDoor.KA
end

section
/- Contracts: any text, as a number of the reference. -/
open Go Go.Proofs
set_option linter.unusedSimpArgs false
set_option linter.unusedVariables false
set_option maxHeartbeats 2000000
set_option maxRecDepth 20000
namespace Go.Proofs.YtkjnjdcbnelceaaGreatDoor.KA
open Num

/-- klipperef01.Split -/
theorem s140s (m : Int) (s : List UInt8) : SpecP (cx m) 140 [.str s] (.tuple [.bool (spl s).1, .str (spl s).2]) := by
  refine specP_of (mixed m) (k140 m) (Nat.le_of_ble_eq_true rfl) (X_start ?_)
  unfold c140
  rcases s with _ | ⟨b, l⟩
  · refine WW ?_
    exact shv rfl rfl
  · have hl : (0 : Int) < ((l.length + 1 : Nat) : Int) := by omega
    have hl' : 1 ≤ l.length + 1 := by omega
    by_cases hb : b = 45
    · subst hb
      have hb' : (((45 : UInt8).toNat : Nat) : Int) = 45 := rfl
      refine WF (And.intro hb' (And.intro hl hl')) ?_
      exact shv rfl rfl
    · have hb' : ¬ ((b.toNat : Nat) : Int) = 45 := fun e => hb ((byte_is (c := 45)).1 e)
      refine WF (And.intro hb' hl) ?_
      exact shv (by rw [show spl (b :: l) = (false, b :: l) from if_neg hb]) rfl

theorem not_dig {D : List UInt8} {j : Nat} {x : UInt8} (hx : D[j]? = some x) (h : ¬ (48 ≤ x.toNat ∧ x.toNat ≤ 57)) (mi : Bool) : ¬ canD mi D := fun hc => h (hc.2.1 x (List.mem_of_getElem? hx))

/-- klipperef01.Canonical -/
theorem s141s (m : Int) (s : List UInt8) (hl : s.length < 1000000) (r : Bool) (hr : r = true ↔ ∃ n, s = Lib.itoa n) : SpecP (cx m) 141 [.str s] (.bool r) := by
  refine specP_of (mixed m) (k141 m) (Nat.le_of_ble_eq_true rfl) (X_start ?_)
  unfold c141
  have hp := s140s m s
  have hlen := spl_len s
  rw [canI_iff] at hr
  generalize (spl s).1 = mi at *
  generalize (spl s).2 = D at *
  refine WW ?_
  refine CL_pure hp rfl ?_
  refine WW ?_
  refine X_for (fun j : Nat => ⟨[(3, .bool mi), (4, .str D), (5, .int .i64 j)], []⟩) (fun j => j ≤ D.length ∧ ∀ b ∈ D.take j, 48 ≤ b.toNat ∧ b.toNat ≤ 57) (fun j => D.length - j) 0 ⟨Nat.zero_le _, by simp⟩ ?_ ?_
  · exact weak_keep (by simp [lookup])
  intro j R ⟨j1, j2⟩ hR
  try dsimp only at hR ⊢
  rcases Nat.lt_or_ge j D.length with hj | hj
  · have hx : D[j]? = some D[j] := List.getElem?_eq_getElem hj
    have hj' := eq_true (show (j : Int) < (D.length : Int) by omega)
    have ht : D.take (j + 1) = D.take j ++ [D[j]] := by rw [List.take_add_one, hx]; rfl
    have hnd := fun h => not_dig hx h mi
    generalize D[j] = x at *
    by_cases x3 : (x.toNat : Int) < 48
    · have : r = false := by
        cases r
        · rfl
        · exact absurd (hr.1 rfl) (hnd (by omega))
      have x3' := eq_true x3
      refine WF (And.intro hj' (And.intro hx x3')) ?_
      exact shb this.symm
    · have x3' := eq_false x3
      by_cases x4 : 57 < (x.toNat : Int)
      · have : r = false := by
          cases r
          · rfl
          · exact absurd (hr.1 rfl) (hnd (by omega))
        have x4' := eq_true x4
        refine WF (And.intro hj' (And.intro hx (And.intro x3' x4'))) ?_
        exact shb this.symm
      · have x4' := eq_false x4
        refine WF (And.intro hj' (And.intro hx (And.intro x3' x4'))) ?_
        refine hR (j + 1) _ ⟨by omega, ?_⟩ (by omega) (weak_keep (by simp [lookup]))
        rw [ht]
        intro b hb
        rcases List.mem_append.1 hb with hb | hb
        · exact j2 b hb
        · simp at hb; subst hb; omega
  · have hj' := eq_false (show ¬ (j : Int) < (D.length : Int) by omega)
    rw [List.take_of_length_le hj] at j2
    rcases D with _ | ⟨c, D⟩
    · have : r = false := by
        cases r
        · rfl
        · exact absurd rfl (hr.1 rfl).1
      refine WF (And.intro hj' (And.intro @List.length_nil.{0} @Int.natCast_zero)) ?_
      exact shb this.symm
    · have hz := eq_false (show ¬ ((D.length + 1 : Nat) : Int) = 0 by omega)
      rw [List.length_cons] at hj'
      by_cases hc : c = 48
      · have hc' : ((c.toNat : Nat) : Int) = 48 := by rw [hc]; rfl
        cases mi with
        | true =>
          have : r = false := by
            cases r
            · rfl
            · exact absurd ⟨by rw [hc]; rfl, .inl rfl⟩ (hr.1 rfl).2.2
          refine WF (And.intro hj' (And.intro hz hc')) ?_
          exact shb this.symm
        | false =>
          by_cases h1 : 1 < D.length + 1
          · have h1' := eq_true (show (1 : Int) < ((D.length + 1 : Nat) : Int) by omega)
            have : r = false := by
              cases r
              · rfl
              · exact absurd ⟨by rw [hc]; rfl, .inr h1⟩ (hr.1 rfl).2.2
            refine WF (And.intro hj' (And.intro hz (And.intro hc' h1'))) ?_
            exact shb this.symm
          · have h1' := eq_false (show ¬ (1 : Int) < ((D.length + 1 : Nat) : Int) by omega)
            have : r = true := hr.2 ⟨by simp, j2, fun h => by rcases h.2 with h | h; cases h; exact h1 (by simpa using h)⟩
            refine WF (And.intro hj' (And.intro hz (And.intro hc' h1'))) ?_
            exact shb this.symm
      · have hc' := eq_false (show ¬ ((c.toNat : Nat) : Int) = 48 from fun e => hc ((byte_is (c := 48)).1 e))
        have : r = true := hr.2 ⟨by simp, j2, fun h => hc (by simpa using h.1)⟩
        refine WF (And.intro hj' (And.intro hz hc')) ?_
        exact shb this.symm

/-- klipperef01.Right, of short texts -/
theorem s103s (m : Int) (s : List UInt8) (hl : s.length ≤ 200) (r : Bool) (hr : r = true ↔ ∃ n, s = Lib.itoa n) : SpecP (cx m) 103 [.str s] (.bool r) := by
  refine specP_of (mixed m) (k103 m) (Nat.le_of_ble_eq_true rfl) (X_start ?_)
  unfold c103
  have hlen := spl_len s
  have h2 := eq_true (show ((spl s).2.length : Int) ≤ 200 by omega)
  refine WW ?_
  refine CL_pure (s140s m s) rfl ?_
  refine WW ?_
  refine CL_pure (s141s m s (by omega) r hr) rfl ?_
  cases r with
  | true =>
    refine WF h2 ?_
    exact shb rfl
  | false =>
    refine WF h2 ?_
    exact shb rfl
end Go.Proofs.YtkjnjdcbnelceaaGreatDoor.KA
end

section
/- Contracts: any short text, as a rational number of the reference, and of the program. -/
open Go Go.Proofs
set_option linter.unusedSimpArgs false
set_option linter.unusedVariables false
set_option maxHeartbeats 2000000
set_option maxRecDepth 20000
namespace Go.Proofs.YtkjnjdcbnelceaaGreatDoor.KA
open Num

theorem bool_of {r : Bool} {p : Prop} (hr : r = true ↔ p) (h : ¬ p) : r = false := by
  cases r
  · rfl
  · exact absurd (hr.1 rfl) h
/-- klipperef02.Parts -/
theorem s102w (m : Int) (x : List UInt8) (h : (47 : UInt8) ∉ x) : SpecP (cx m) 102 [.str x] (.tuple [.str x, .str [49]]) := by
  refine specP_of (mixed m) (k102 m) (Nat.le_of_ble_eq_true rfl) (X_start ?_)
  unfold c102
  have hi := s104 m x 47
  rw [show (47 : Int).toNat.toUInt8 = 47 from rfl, indexByte_none h] at hi
  refine WW ?_
  refine CL_pure hi rfl ?_
  refine WW ?_
  exact shv rfl rfl
theorem s102p (m : Int) (a b : List UInt8) (h : (47 : UInt8) ∉ a) (hl : a.length < 1000000) : SpecP (cx m) 102 [.str (a ++ 47 :: b)] (.tuple [.str a, .str b]) := by
  refine specP_of (mixed m) (k102 m) (Nat.le_of_ble_eq_true rfl) (X_start ?_)
  unfold c102
  have hi := s104 m (a ++ 47 :: b) 47
  rw [show (47 : Int).toNat.toUInt8 = 47 from rfl, indexByte_some h] at hi
  have e0 := eq_false (show ¬ (a.length : Int) < 0 by omega)
  have e1 : (a ++ 47 :: b).length = a.length + (b.length + 1) := by simp
  have e2 : (a ++ 47 :: b).take a.length = a := List.take_left
  have e3 : (a ++ 47 :: b).drop (a.length + 1) = b := by rw [List.drop_append]; simp
  generalize a ++ 47 :: b = x at *
  have e4 : (a.length : Int) + 1 = ((a.length + 1 : Nat) : Int) := by omega
  refine WW ?_
  refine CL_pure hi rfl ?_
  have e5 : List.drop (a.length + 1) (List.take (a.length + (b.length + 1)) x) = b := by rw [← e1, List.take_length]; exact e3
  refine WF (And.intro e0 (And.intro e1 (And.intro e2 (And.intro e3 (And.intro e4 e5))))) ?_
  exact ⟨by omega, by omega, shv rfl rfl⟩

theorem cmp1 (d : Int) : (0 < sgi (d - 1)) ↔ 1 < d := by
  unfold sgi
  split
  · omega
  · split <;> omega
theorem itoa_eq1 (n : Int) : (Lib.itoa n = [49]) ↔ n = 1 := by
  constructor
  · intro h; exact itoa_inj (h.trans itoa_one.symm)
  · rintro rfl; exact itoa_one

theorem cut_len {a b x : List UInt8} (e : x = a ++ 47 :: b) : a.length + b.length + 1 = x.length := by rw [e]; simp; omega
theorem itoa_dl {n : Int} {k : Nat} (h : (Lib.itoa n).length ≤ k) : dl n ≤ k := Nat.le_trans (dl_itoa n).2 h

/-- klipperef02.Right -/
theorem s54s (m : Int) (x : List UInt8) (hl : x.length ≤ 20) (r : Bool) (hr : r = true ↔ ∃ q, x = tq q) : SpecP (cx m) 54 [.str x] (.bool r) := by
  refine specP_of (mixed m) (k54 m) (Nat.le_of_ble_eq_true rfl) (X_start ?_)
  unfold c54
  have hi := s104 m x 47
  rw [show (47 : Int).toNat.toUInt8 = 47 from rfl] at hi
  have h1 := s103s m [49] (by decide) true ⟨fun _ => ⟨1, itoa_one.symm⟩, fun _ => rfl⟩
  rcases slash_split x with h | ⟨a, b, e, h⟩
  · rw [canQ_whole h] at hr
    rw [indexByte_none h] at hi
    have ha := s103s m x (by omega) r hr
    cases r with
    | false =>
      refine WW ?_
      refine CL_pure (s102w m x h) rfl ?_
      refine WW ?_
      refine CL_pure ha rfl ?_
      refine WW ?_
      exact shb rfl
    | true =>
      refine WW ?_
      refine CL_pure (s102w m x h) rfl ?_
      refine WW ?_
      refine CL_pure ha rfl ?_
      refine WW ?_
      refine CL_pure h1 rfl ?_
      refine WW ?_
      refine CL_pure hi rfl ?_
      refine WW ?_
      exact shb rfl
  · have hcl := cut_len e
    have hP := s102p m a b h (by omega)
    rw [← e] at hP
    rw [e, canQ_part h] at hr
    rw [e, indexByte_some h, ← e] at hi
    have e0 := eq_false (show ¬ (a.length : Int) < 0 by omega)
    by_cases ca : ∃ n, a = Lib.itoa n
    rotate_left
    · have ha := s103s m a (by omega) false ⟨fun h => (Bool.false_ne_true h).elim, fun h => absurd h ca⟩
      have : r = false := bool_of hr fun ⟨n, d, h1, _⟩ => ca ⟨n, h1⟩
      subst this
      refine WW ?_
      refine CL_pure hP rfl ?_
      refine WW ?_
      refine CL_pure ha rfl ?_
      refine WW ?_
      exact shb rfl
    have ha := s103s m a (by omega) true ⟨fun _ => ca, fun _ => rfl⟩
    by_cases cb : ∃ n, b = Lib.itoa n
    rotate_left
    · have hb := s103s m b (by omega) false ⟨fun h => (Bool.false_ne_true h).elim, fun h => absurd h cb⟩
      have : r = false := bool_of hr fun ⟨n, d, _, h1, _⟩ => cb ⟨d, h1⟩
      subst this
      refine WW ?_
      refine CL_pure hP rfl ?_
      refine WW ?_
      refine CL_pure ha rfl ?_
      refine WW ?_
      refine CL_pure hb rfl ?_
      refine WW ?_
      exact shb rfl
    have hb := s103s m b (by omega) true ⟨fun _ => cb, fun _ => rfl⟩
    obtain ⟨n, rfl⟩ := ca
    obtain ⟨d, rfl⟩ := cb
    have ln : dl n ≤ 20 := itoa_dl (by omega)
    have ld : dl d ≤ 20 := itoa_dl (by omega)
    have hc := s105 m d 1 (by omega) (by decide +kernel)
    rw [itoa_one] at hc
    by_cases d1 : 1 < d
    rotate_left
    · have : r = false := bool_of hr fun ⟨n', d', _, h2, h3, _⟩ => d1 (by rw [itoa_inj h2]; exact h3)
      subst this
      have c1 := eq_false (fun h => d1 ((cmp1 d).1 h))
      refine WW ?_
      refine CL_pure hP rfl ?_
      refine WW ?_
      refine CL_pure ha rfl ?_
      refine WW ?_
      refine CL_pure hb rfl ?_
      refine WW ?_
      refine CL_pure hi rfl ?_
      refine WF e0 ?_
      refine CL_pure hc rfl ?_
      refine WF c1 ?_
      exact shb rfl
    have c1 := eq_true ((cmp1 d).2 d1)
    by_cases n0 : n = 0
    · have : r = false := bool_of hr fun ⟨n', d', h1, h2, h3, h4⟩ => by
        rw [← itoa_inj h1, ← itoa_inj h2, n0] at h4
        simp at h4
        omega
      subst this
      have z := (itoa_eq0 n).2 n0
      refine WW ?_
      refine CL_pure hP rfl ?_
      refine WW ?_
      refine CL_pure ha rfl ?_
      refine WW ?_
      refine CL_pure hb rfl ?_
      refine WW ?_
      refine CL_pure hi rfl ?_
      refine WF e0 ?_
      refine CL_pure hc rfl ?_
      refine WF (And.intro c1 z) ?_
      exact shb rfl
    have z := eq_false (fun h => n0 ((itoa_eq0 n).1 h))
    have hg := s106 m n d n0 (by omega) (by omega)
    have hr' : r = decide (Lib.itoa ((Int.gcd n d : Nat) : Int) = [49]) := by
      rw [Bool.eq_iff_iff, hr, decide_eq_true_iff, itoa_eq1]
      constructor
      · rintro ⟨n', d', h1, h2, h3, h4⟩
        rw [← itoa_inj h1, ← itoa_inj h2] at h4
        omega
      · intro h; exact ⟨n, d, rfl, rfl, d1, by omega⟩
    refine WW ?_
    refine CL_pure hP rfl ?_
    refine WW ?_
    refine CL_pure ha rfl ?_
    refine WW ?_
    refine CL_pure hb rfl ?_
    refine WW ?_
    refine CL_pure hi rfl ?_
    refine WF e0 ?_
    refine CL_pure hc rfl ?_
    refine WF (And.intro c1 z) ?_
    refine CL_pure hg rfl ?_
    refine WW ?_
    exact shb hr'.symm

/-- klippelaw02.Right -/
theorem s17s (m : Int) (x : List UInt8) (hl : x.length ≤ 20) (r : Bool) (hr : r = true ↔ ∃ q, x = tq q) : SpecP (cx m) 17 [.str x] (.bool r) := by
  refine specP_of (mixed m) (k17 m) (Nat.le_of_ble_eq_true rfl) (X_start ?_)
  unfold c17
  refine WW ?_
  refine CL_pure (s54s m x hl r hr) rfl ?_
  refine WW ?_
  exact shb rfl
end Go.Proofs.YtkjnjdcbnelceaaGreatDoor.KA
end

section
/- Contracts: any short text is checked, as an integer and as a rational number. -/
open Go Go.Proofs
set_option linter.unusedSimpArgs false
set_option linter.unusedVariables false
set_option maxHeartbeats 2000000
set_option maxRecDepth 20000
namespace Go.Proofs.YtkjnjdcbnelceaaGreatDoor.KA
open Num

/-- integer.Check -/
theorem s100s (m : Int) (s : List UInt8) (hl : s.length ≤ 200) (r : Bool) (hr : r = true ↔ ∃ n, s = Lib.itoa n) : SpecP (cx m) 100 [.str s] (.int .i64 (if r = true then 0 else 2)) := by
  refine specP_of (mixed m) (k100 m) (Nat.le_of_ble_eq_true rfl) (X_start ?_)
  unfold c100
  have hp := s138 m s [45]
  rw [(spl_trim s).1, (spl_trim s).2] at hp
  have hlen := spl_len s
  rw [canI_iff] at hr
  generalize (spl s).1 = mi at *
  generalize (spl s).2 = D at *
  have hl2 := eq_false (show ¬ (200 : Int) < (D.length : Int) by omega)
  refine WW ?_
  refine CL_pure hp rfl ?_
  rcases D with _ | ⟨c, G⟩
  · have : r = false := bool_of hr fun h => h.1 rfl
    subst this
    refine WW ?_
    exact shi rfl
  have hz := eq_false (show ¬ (c :: G = []) by simp)
  by_cases bad : c = 48 ∧ (mi = true ∨ 1 < G.length + 1)
  · have : r = false := bool_of hr fun h => h.2.2 ⟨by rw [bad.1]; rfl, bad.2⟩
    subst this
    have hc' : ((c.toNat : Nat) : Int) = 48 := by rw [bad.1]; rfl
    rw [List.length_cons] at hl2
    by_cases h1 : 1 < G.length + 1
    · have h1' := eq_true (show (1 : Int) < ((G.length + 1 : Nat) : Int) by omega)
      refine WF (And.intro hl2 (And.intro hc' h1')) ?_
      exact shi rfl
    · have h1' := eq_false (show ¬ (1 : Int) < ((G.length + 1 : Nat) : Int) by omega)
      have hm : mi = true := bad.2.resolve_right h1
      subst hm
      refine WF (And.intro hl2 (And.intro hc' h1')) ?_
      exact shi rfl
  have nb : digs (c :: G) → r = true := fun hd => hr.2 ⟨by simp, hd, fun ⟨h1, h2⟩ => bad ⟨by simpa using h1, by simpa using h2⟩⟩
  have hnd : ∀ (j : Nat) (x : UInt8), (c :: G)[j]? = some x → ¬ (48 ≤ x.toNat ∧ x.toNat ≤ 57) → r = false := fun j x hx h => bool_of hr (not_dig hx h mi)
  have hGl : (c :: G).length = G.length + 1 := rfl
  rw [List.length_cons] at hl2
  by_cases hc : c = 48
  · have hc' : ((c.toNat : Nat) : Int) = 48 := by rw [hc]; rfl
    have h1 : ¬ 1 < G.length + 1 := fun h => bad ⟨hc, .inr h⟩
    have hm : mi = false := by
      cases mi
      · rfl
      · exact absurd ⟨hc, .inl rfl⟩ bad
    subst hm
    have h1' := eq_false (show ¬ (1 : Int) < ((G.length + 1 : Nat) : Int) by omega)
    refine WF (And.intro hl2 (And.intro hc' h1')) ?_
    refine X_for (fun j : Nat => ⟨[(3, .str (c :: G)), (32, .int .i64 (G.length + 1 : Nat)), (33, .int .i64 j)], []⟩) (fun j => j ≤ G.length + 1 ∧ digs ((c :: G).take j)) (fun j => G.length + 1 - j) 0 ⟨Nat.zero_le _, by simp [digs]⟩ (weak_keep (by simp [lookup])) ?_
    intro j R ⟨j1, j2⟩ hR
    try dsimp only at hR ⊢
    rcases Nat.lt_or_ge j (G.length + 1) with hj | hj
    · have hx : (c :: G)[j]? = some (c :: G)[j] := List.getElem?_eq_getElem hj
      have ht : (c :: G).take (j + 1) = (c :: G).take j ++ [(c :: G)[j]] := by rw [List.take_add_one, hx]; rfl
      have hnx := hnd j _ hx
      have hj' := eq_true (show (j : Int) < ((G.length + 1 : Nat) : Int) by omega)
      generalize (c :: G)[j] = x at *
      generalize (c :: G) = D at *
      by_cases x3 : (x.toNat : Int) < 48
      · have : r = false := hnx (by omega)
        subst this
        have x3' := eq_true x3
        refine WF (And.intro hj' (And.intro hx x3')) ?_
        exact shi rfl
      · have x3' := eq_false x3
        by_cases x4 : 57 < (x.toNat : Int)
        · have : r = false := hnx (by omega)
          subst this
          have x4' := eq_true x4
          refine WF (And.intro hj' (And.intro hx (And.intro x3' x4'))) ?_
          exact shi rfl
        · have x4' := eq_false x4
          refine WF (And.intro hj' (And.intro hx (And.intro x3' x4'))) ?_
          refine hR (j + 1) _ ⟨by omega, ?_⟩ (by omega) (weak_keep (by simp [lookup]))
          rw [ht]
          intro b hb
          rcases List.mem_append.1 hb with hb | hb
          · exact j2 b hb
          · simp at hb; subst hb; omega
    · have hj' := eq_false (show ¬ (j : Int) < ((G.length + 1 : Nat) : Int) by omega)
      rw [List.take_of_length_le (by rw [hGl]; omega)] at j2
      have := nb j2
      subst this
      refine WF hj' ?_
      exact shi rfl
  · have hc' := eq_false (show ¬ ((c.toNat : Nat) : Int) = 48 from fun e => hc ((byte_is (c := 48)).1 e))
    refine WF (And.intro hl2 hc') ?_
    refine X_for (fun j : Nat => ⟨[(3, .str (c :: G)), (32, .int .i64 (G.length + 1 : Nat)), (33, .int .i64 j)], []⟩) (fun j => j ≤ G.length + 1 ∧ digs ((c :: G).take j)) (fun j => G.length + 1 - j) 0 ⟨Nat.zero_le _, by simp [digs]⟩ (weak_keep (by simp [lookup])) ?_
    intro j R ⟨j1, j2⟩ hR
    try dsimp only at hR ⊢
    rcases Nat.lt_or_ge j (G.length + 1) with hj | hj
    · have hx : (c :: G)[j]? = some (c :: G)[j] := List.getElem?_eq_getElem hj
      have ht : (c :: G).take (j + 1) = (c :: G).take j ++ [(c :: G)[j]] := by rw [List.take_add_one, hx]; rfl
      have hnx := hnd j _ hx
      have hj' := eq_true (show (j : Int) < ((G.length + 1 : Nat) : Int) by omega)
      generalize (c :: G)[j] = x at *
      generalize (c :: G) = D at *
      by_cases x3 : (x.toNat : Int) < 48
      · have : r = false := hnx (by omega)
        subst this
        have x3' := eq_true x3
        refine WF (And.intro hj' (And.intro hx x3')) ?_
        exact shi rfl
      · have x3' := eq_false x3
        by_cases x4 : 57 < (x.toNat : Int)
        · have : r = false := hnx (by omega)
          subst this
          have x4' := eq_true x4
          refine WF (And.intro hj' (And.intro hx (And.intro x3' x4'))) ?_
          exact shi rfl
        · have x4' := eq_false x4
          refine WF (And.intro hj' (And.intro hx (And.intro x3' x4'))) ?_
          refine hR (j + 1) _ ⟨by omega, ?_⟩ (by omega) (weak_keep (by simp [lookup]))
          rw [ht]
          intro b hb
          rcases List.mem_append.1 hb with hb | hb
          · exact j2 b hb
          · simp at hb; subst hb; omega
    · have hj' := eq_false (show ¬ (j : Int) < ((G.length + 1 : Nat) : Int) by omega)
      rw [List.take_of_length_le (by rw [hGl]; omega)] at j2
      have := nb j2
      subst this
      refine WF hj' ?_
      exact shi rfl

/-- rational.Check -/
theorem s50s (m : Int) (x : List UInt8) (hl : x.length ≤ 20) (r : Bool) (hr : r = true ↔ ∃ q, x = tq q) : SpecP (cx m) 50 [.str x] (.int .i64 (if r = true then 0 else 2)) := by
  refine specP_of (mixed m) (k50 m) (Nat.le_of_ble_eq_true rfl) (X_start ?_)
  unfold c50
  have hc := s99 m x [47] (by omega)
  rcases slash_split x with h | ⟨a, b, e, h⟩
  · rw [canQ_whole h] at hr
    rw [cut_none h] at hc
    have ha := s100s m x (by omega) r hr
    cases r with
    | false =>
      rw [if_neg Bool.false_ne_true] at ha
      refine WW ?_
      refine CL_pure hc rfl ?_
      refine WW ?_
      refine CL_pure ha rfl ?_
      refine WW ?_
      exact shi rfl
    | true =>
      rw [if_pos rfl] at ha
      refine WW ?_
      refine CL_pure hc rfl ?_
      refine WW ?_
      refine CL_pure ha rfl ?_
      refine WW ?_
      exact shi rfl
  · have hcl := cut_len e
    rw [e, cut_some h, ← e] at hc
    rw [e, canQ_part h] at hr
    by_cases ca : ∃ n, a = Lib.itoa n
    rotate_left
    · have ha := s100s m a (by omega) false ⟨fun h => (Bool.false_ne_true h).elim, fun h => absurd h ca⟩
      rw [if_neg Bool.false_ne_true] at ha
      have : r = false := bool_of hr fun ⟨n, d, h1, _⟩ => ca ⟨n, h1⟩
      subst this
      refine WW ?_
      refine CL_pure hc rfl ?_
      refine WW ?_
      refine CL_pure ha rfl ?_
      refine WW ?_
      exact shi rfl
    have ha := s100s m a (by omega) true ⟨fun _ => ca, fun _ => rfl⟩
    rw [if_pos rfl] at ha
    by_cases cb : ∃ n, b = Lib.itoa n
    rotate_left
    · have hb := s100s m b (by omega) false ⟨fun h => (Bool.false_ne_true h).elim, fun h => absurd h cb⟩
      rw [if_neg Bool.false_ne_true] at hb
      have : r = false := bool_of hr fun ⟨n, d, _, h1, _⟩ => cb ⟨d, h1⟩
      subst this
      refine WW ?_
      refine CL_pure hc rfl ?_
      refine WW ?_
      refine CL_pure ha rfl ?_
      refine WW ?_
      refine CL_pure hb rfl ?_
      refine WW ?_
      exact shi rfl
    have hb := s100s m b (by omega) true ⟨fun _ => cb, fun _ => rfl⟩
    rw [if_pos rfl] at hb
    obtain ⟨n, rfl⟩ := ca
    obtain ⟨d, rfl⟩ := cb
    have h59 := s59 m d 1
    rw [itoa_one] at h59
    by_cases d1 : 1 < d
    rotate_left
    · have : r = false := bool_of hr fun ⟨n', d', _, h2, h3, _⟩ => d1 (by rw [itoa_inj h2]; exact h3)
      subst this
      have c1 := eq_true (show sgi (d - 1) ≤ 0 by have := mt (cmp1 d).1 d1; omega)
      refine WW ?_
      refine CL_pure hc rfl ?_
      refine WW ?_
      refine CL_pure ha rfl ?_
      refine WW ?_
      refine CL_pure hb rfl ?_
      refine WW ?_
      refine CL_pure h59 rfl ?_
      refine WF c1 ?_
      exact shi rfl
    have c1 := eq_false (show ¬ sgi (d - 1) ≤ 0 by have := (cmp1 d).2 d1; omega)
    by_cases n0 : n = 0
    · have : r = false := bool_of hr fun ⟨n', d', h1, h2, h3, h4⟩ => by
        rw [← itoa_inj h1, ← itoa_inj h2, n0] at h4
        simp at h4
        omega
      subst this
      have z := (itoa_eq0 n).2 n0
      refine WW ?_
      refine CL_pure hc rfl ?_
      refine WW ?_
      refine CL_pure ha rfl ?_
      refine WW ?_
      refine CL_pure hb rfl ?_
      refine WW ?_
      refine CL_pure h59 rfl ?_
      refine WF (And.intro c1 z) ?_
      exact shi rfl
    have z := eq_false (fun h => n0 ((itoa_eq0 n).1 h))
    have pa : 0 < (Lib.itoa n).length := List.length_pos_iff.2 (itoa_ne n)
    have pb : 0 < (Lib.itoa d).length := List.length_pos_iff.2 (itoa_ne d)
    have hg := s101 m n d (by omega) (by omega)
    have hr' : r = true ↔ (Lib.itoa ((Int.gcd n d : Nat) : Int) = [49]) := by
      rw [hr, itoa_eq1]
      constructor
      · rintro ⟨n', d', h1, h2, h3, h4⟩
        rw [← itoa_inj h1, ← itoa_inj h2] at h4
        omega
      · intro h; exact ⟨n, d, rfl, rfl, d1, by omega⟩
    by_cases hgg : Lib.itoa ((Int.gcd n d : Nat) : Int) = [49]
    · have : r = true := hr'.2 hgg
      subst this
      have hgg' := eq_true hgg
      refine WW ?_
      refine CL_pure hc rfl ?_
      refine WW ?_
      refine CL_pure ha rfl ?_
      refine WW ?_
      refine CL_pure hb rfl ?_
      refine WW ?_
      refine CL_pure h59 rfl ?_
      refine WF (And.intro c1 z) ?_
      refine CL_pure hg rfl ?_
      refine WF hgg' ?_
      exact shi rfl
    · have : r = false := bool_of hr' hgg
      subst this
      have hgg' := eq_false hgg
      refine WW ?_
      refine CL_pure hc rfl ?_
      refine WW ?_
      refine CL_pure ha rfl ?_
      refine WW ?_
      refine CL_pure hb rfl ?_
      refine WW ?_
      refine CL_pure h59 rfl ?_
      refine WF (And.intro c1 z) ?_
      refine CL_pure hg rfl ?_
      refine WF hgg' ?_
      exact shi rfl
end Go.Proofs.YtkjnjdcbnelceaaGreatDoor.KA
end

section
/- Contract: polyline.Simplify, of chains of small points, up to any short bound. -/
open Go Go.Proofs
set_option linter.unusedSimpArgs false
set_option linter.unusedVariables false
set_option maxHeartbeats 1000000
set_option maxRecDepth 20000
namespace Go.Proofs.YtkjnjdcbnelceaaGreatDoor.KA
open Num Geo

theorem qk_dq {q : Rat} (h : qk q) : dq 100000 q := by
  obtain ⟨h1, h2⟩ := qk_lt h
  have a := dl_le (n := q.num) (k := 9) (by omega) h1
  have b := dl_le (n := (q.den : Int)) (k := 9) (by omega) (by simpa using h2)
  exact ⟨by omega, by omega⟩
theorem dq20 {q : Rat} (h : (tq q).length ≤ 20) : dq 100000 q := by
  have h1 := (dl_itoa q.num).2
  have h2 := (dl_itoa (q.den : Int)).2
  rw [← den_itoa] at h2
  unfold tq at h
  split at h
  · rename_i hd
    exact ⟨by omega, by rw [hd]; decide +kernel⟩
  · rw [List.length_append, List.length_cons] at h
    exact ⟨by omega, by omega⟩
theorem pick_okg {L : List Pt} {most : Rat} (h9 : all9 L) (hm : dq 100000 most) : ∀ n, n + 1 < L.length → ((pickS L most n).1 = -1 ∨ ∃ j : Nat, (pickS L most n).1 = j ∧ 1 ≤ j ∧ j ≤ n) ∧ dq 100000 (pickS L most n).2
  | 0, _ => ⟨.inl rfl, hm⟩
  | n + 1, h => by
    obtain ⟨h1, h2⟩ := pick_okg h9 hm n (by omega)
    have b : dq 100000 (triS L (n + 1)) := by
      unfold triS
      exact qk_dq <| qk1 (bd_abs (bd_ar (h9.get (by omega)) (h9.get (by omega)) (h9.get (by omega))))
    have old : ((pickS L most n).1 = -1 ∨ ∃ j : Nat, (pickS L most n).1 = j ∧ 1 ≤ j ∧ j ≤ n + 1) ∧ dq 100000 (pickS L most n).2 := ⟨h1.elim .inl (fun ⟨j, a, b, c⟩ => .inr ⟨j, a, b, by omega⟩), h2⟩
    show ((stepS L (n + 1) (pickS L most n)).1 = -1 ∨ _) ∧ _
    simp only [pickS]
    unfold stepS
    split
    · exact old
    · split
      · exact ⟨.inr ⟨n + 1, rfl, by omega, by omega⟩, b⟩
      · exact old
/-- polyline.Simplify, of a chain, up to any right bound -/
theorem s16g (m : Int) (c : List Pt) (most : Rat) (h9 : all9 c) (h2 : 2 ≤ c.length) (h400 : c.length ≤ 400) (hc : checkP c = 0) (hl20 : (tq most).length ≤ 20) (h0 : 0 ≤ most) :
    SpecP (cx m) 16 [ePs c, .str (tq most)] (.tuple [ePs (simpS c.length c most), .int .i64 0]) := by
  refine specP_of (mixed m) (k16 m) (Nat.le_of_ble_eq_true rfl) (X_start ?_)
  unfold c16
  have sc := s42 m c h9 h2 h400
  have hm := dq20 hl20
  have h50 := s50s m (tq most) hl20 true ⟨fun _ => ⟨most, rfl⟩, fun _ => rfl⟩
  rw [if_pos rfl] at h50
  rw [hc] at sc
  have sgm : ¬ sg most < 0 := by have := sg_ge.2 h0; omega
  refine WW ?_
  refine CL_pure sc rfl ?_
  refine WW ?_
  refine CL_pure h50 rfl ?_
  refine WW ?_
  refine CL_pure (s18' m most) rfl ?_
  refine WF sgm ?_
  refine CL_new (g51 m c (by omega) (by omega)) rfl (cells_plain c) ?_
  simp -implicitDefEqProofs (disch := omega) only [KF, KR, KV0, KV1, KV2, KW, ↓bstep, ↓astep, ↓O1.eq_def, ↓onBool.eq_def, ↓onInt.eq_def, ↓onStr.eq_def, ↓onLo.eq_def, ↓binK.eq_def, ↓arith.eq_def, ↓strOp.eq_def, ↓srcElems.eq_def, ↓dst1.eq_def, args0, List.zipIdx, List.map, lookup, St.ev, St.set, St.setO, reduceCtorEq, AV.plain, AV.plainL, AV.flat, AV.flatL, AV.cells, Nat.reduceEqDiff, ↓reduceIte, List.drop, List.take, List.length, Nat.reduceAdd, Nat.reduceLeDiff, Nat.reduceMul, E.done, rvsK, rvK, resAV, Int.reduceToNat, Int.reduceLE, Int.reduceLT, Int.reduceNeg, Int.reduceAdd, Int.reduceSub, Int.reduceMul, Nat.reduceLT, AV.isElem, AV.one, ↓buildCells.eq_1, ↓buildCells.eq_2, Nat.reduceBEq, eqCells, AV.ren, List.length_nil, Nat.zero_add]
  refine X_for (fun x : List Pt × Nat × List AV => ⟨[(1, .str (tq most)), (7, .own 2 0 0 x.1.length x.2.1)], [some (cells x.1 ++ x.2.2)]⟩)
    (fun x => all9 x.1 ∧ 2 ≤ x.1.length ∧ x.1.length ≤ x.2.1 ∧ x.2.1 ≤ 400 ∧ x.2.2.length = (x.2.1 - x.1.length) * 2 ∧ AV.plainL x.2.2 = true ∧ simpS x.1.length x.1 most = simpS c.length c most) (fun x => x.1.length) (c, c.length, []) ⟨h9, h2, Nat.le_refl _, h400, by simp, rfl, rfl⟩ ?_ ?_
  · refine weak_keep' ?_ ?_
    · simp [lookup]
    · simp
  rintro ⟨L, q, J⟩ R ⟨l9, l2, lq, q4, lJ, pJ, hS⟩ hR
  try dsimp only at hR ⊢ l9 l2 lq q4 lJ pJ hS
  have cl := cells_length L
  have pl : AV.plainL (cells L ++ J) = true := plainL_all fun x hx => (List.mem_append.1 hx).elim (plainL_mem (cells_plain L) x) (plainL_mem pJ x)
  refine WW ?_
  refine X_for (fun n : Nat => ⟨[(1, .str (tq most)), (7, .own 2 0 0 L.length q), (8, .int .i64 (pickS L most n).1), (9, .str (tq (pickS L most n).2)), (10, .int .i64 (n + 1 : Nat))], [some (cells L ++ J)]⟩)
    (fun n => n + 2 ≤ L.length) (fun n => L.length - n) 0 (by omega) ?_ ?_
  · exact weak_keep (by simp [lookup, pickS])
  intro n R' n1 hR'
  try dsimp only at hR' ⊢
  have e1 : (((n + 1 : Nat) : Int) + 1) = ((n + 2 : Nat) : Int) := by omega
  have e0 : (((n + 1 : Nat) : Int) - 1) = (n : Int) := by omega
  rcases Nat.lt_or_ge (n + 2) L.length with hn | hn
  · have a0 := cells_atJ L J n _ (at_get (show n < L.length by omega))
    have a1 := cells_atJ L J (n + 1) _ (at_get (show n + 1 < L.length by omega))
    have a2 := cells_atJ L J (n + 2) _ (at_get hn)
    have b0 := eq_true (show 0 + n * 2 + 2 ≤ (cells L ++ J).length by rw [List.length_append, cl]; omega)
    have b1 := eq_true (show 0 + (n + 1) * 2 + 2 ≤ (cells L ++ J).length by rw [List.length_append, cl]; omega)
    have b2 := eq_true (show 0 + (n + 2) * 2 + 2 ≤ (cells L ++ J).length by rw [List.length_append, cl]; omega)
    have d0 := eq_true (show n < L.length by omega)
    have d1 := eq_true (show n + 1 < L.length by omega)
    have ha := s52 m _ _ _ (l9.get (show n < L.length by omega)) (l9.get (show n + 1 < L.length by omega)) (l9.get hn)
    unfold eP at ha
    obtain ⟨k1, k2⟩ := pick_okg l9 hm n (by omega)
    have h19 : SpecP (cx m) 19 [.str (tq (ar (at' L n) (at' L (n + 1)) (at' L (n + 2))))] (.str (tq (triS L (n + 1)))) := s19 m _
    have qt : qk (triS L (n + 1)) := by
      unfold triS
      exact qk1 (bd_abs (bd_ar (l9.get (by omega)) (l9.get (by omega)) (l9.get (by omega))))
    have pk : -1 ≤ (pickS L most n).1 ∧ (pickS L most n).1 ≤ 400 := by
      rcases k1 with h | ⟨j, h, h', h''⟩ <;> omega
    refine WF (And.intro e0 (And.intro e1 (And.intro hn (And.intro a0 (And.intro a1 (And.intro a2 (And.intro b0 (And.intro b1 (And.intro b2 (And.intro d0 d1)))))))))) ?_
    refine CL_pure ha rfl ?_
    refine WW ?_
    refine CL_pure h19 rfl ?_
    refine WW ?_
    refine CL_pure (s21g m _ _ (qk_dq qt) k2) rfl ?_
    by_cases sk : cm (triS L (n + 1)) (pickS L most n).2 > 0 ∨ (cm (triS L (n + 1)) (pickS L most n).2 = 0 ∧ (pickS L most n).1 ≥ 0)
    · have es : pickS L most (n + 1) = pickS L most n := by
        show stepS L (n + 1) (pickS L most n) = _
        unfold stepS; rw [if_pos sk]
      rcases sk with c1 | ⟨c2, c3⟩
      · have c1 := eq_true (show 0 < cm (triS L (n + 1)) (pickS L most n).2 from c1)
        refine WF c1 ?_
        refine hR' (n + 1) _ (by omega) (by omega) ?_
        rw [es]
        exact weak_keep (by simp [lookup])
      · have c1 := eq_false (show ¬ 0 < cm (triS L (n + 1)) (pickS L most n).2 by omega)
        have c2 := eq_true c2
        have c3 := eq_true (show 0 ≤ (pickS L most n).1 from c3)
        refine WF (And.intro c1 (And.intro c2 c3)) ?_
        refine hR' (n + 1) _ (by omega) (by omega) ?_
        rw [es]
        exact weak_keep (by simp [lookup])
    · have c1 := eq_false (show ¬ 0 < cm (triS L (n + 1)) (pickS L most n).2 from fun h => sk (.inl h))
      by_cases c2 : cm (triS L (n + 1)) (pickS L most n).2 = 0
      · have c3 := eq_false (show ¬ 0 ≤ (pickS L most n).1 from fun h => sk (.inr ⟨c2, h⟩))
        have c2' := eq_true c2
        refine WF (And.intro c1 (And.intro c2' c3)) ?_
        refine CL_hand 0 (h51 m L q J (by omega) (by omega)) rfl pl (cells_plain L) rfl ?_
        simp -implicitDefEqProofs (disch := omega) only [KF, KR, KV0, KV1, KV2, KW, ↓bstep, ↓astep, ↓O1.eq_def, ↓onBool.eq_def, ↓onInt.eq_def, ↓onStr.eq_def, ↓onLo.eq_def, ↓binK.eq_def, ↓arith.eq_def, ↓strOp.eq_def, ↓srcElems.eq_def, ↓dst1.eq_def, args0, List.zipIdx, List.map, lookup, St.ev, St.set, St.setO, reduceCtorEq, AV.plain, AV.plainL, AV.flat, AV.flatL, AV.cells, Nat.reduceEqDiff, ↓reduceIte, List.drop, List.take, List.length, Nat.reduceAdd, Nat.reduceLeDiff, Nat.reduceMul, E.done, rvsK, rvK, resAV, Int.reduceToNat, Int.reduceLE, Int.reduceLT, Int.reduceNeg, Int.reduceAdd, Int.reduceSub, Int.reduceMul, Nat.reduceLT, AV.isElem, AV.one, ↓buildCells.eq_1, ↓buildCells.eq_2, Nat.reduceBEq, eqCells, AV.ren, List.length_cons, List.length_nil, e1]
        refine CL_swap 1 (g53 m L (n + 1) (by omega) (by omega)) rfl (cells_plain L) (plainL_all fun x hx => (List.mem_append.1 hx).elim (plainL_mem (cells_plain _) x) (by simp; rintro (rfl | rfl) <;> rfl)) rfl ?_
        simp -implicitDefEqProofs (disch := omega) only [KF, KR, KV0, KV1, KV2, KW, ↓bstep, ↓astep, ↓O1.eq_def, ↓onBool.eq_def, ↓onInt.eq_def, ↓onStr.eq_def, ↓onLo.eq_def, ↓binK.eq_def, ↓arith.eq_def, ↓strOp.eq_def, ↓srcElems.eq_def, ↓dst1.eq_def, args0, List.zipIdx, List.map, lookup, St.ev, St.set, St.setO, reduceCtorEq, AV.plain, AV.plainL, AV.flat, AV.flatL, AV.cells, Nat.reduceEqDiff, ↓reduceIte, List.drop, List.take, List.length, Nat.reduceAdd, Nat.reduceLeDiff, Nat.reduceMul, E.done, rvsK, rvK, resAV, Int.reduceToNat, Int.reduceLE, Int.reduceLT, Int.reduceNeg, Int.reduceAdd, Int.reduceSub, Int.reduceMul, Nat.reduceLT, AV.isElem, AV.one, ↓buildCells.eq_1, ↓buildCells.eq_2, Nat.reduceBEq, eqCells, AV.ren, List.length_cons, List.length_nil]
        have hse := s42 m (L.eraseIdx (n + 1)) (l9.erase _) (by rw [List.length_eraseIdx_of_lt (by omega)]; omega) (by rw [List.length_eraseIdx_of_lt (by omega)]; omega)
        rw [checkD_eq] at hse
        refine CL_show hse (.cons _ _ _ _ (cells_shows (J := [.str [], .str []]) rfl (by rw [List.length_eraseIdx_of_lt (by omega)])) .nil) rfl ?_
        by_cases z : checkD (L.eraseIdx (n + 1)) = 0
        · refine WF z ?_
          refine hR' (n + 1) _ (by omega) (by omega) ?_
          have es : pickS L most (n + 1) = (((n + 1 : Nat) : Int), triS L (n + 1)) := by
            show stepS L (n + 1) (pickS L most n) = _
            unfold stepS; rw [if_neg sk, if_pos z]
          rw [es]
          exact weak_one 0 rfl pl (by simp [lookup, AV.ren, AV.idsLt])
        · refine WF z ?_
          refine hR' (n + 1) _ (by omega) (by omega) ?_
          have es : pickS L most (n + 1) = pickS L most n := by
            show stepS L (n + 1) (pickS L most n) = _
            unfold stepS; rw [if_neg sk, if_neg z]
          rw [es]
          exact weak_one 0 rfl pl (by simp [lookup, AV.ren, AV.idsLt])
      · have c2' := eq_false c2
        refine WF (And.intro c1 c2') ?_
        refine CL_hand 0 (h51 m L q J (by omega) (by omega)) rfl pl (cells_plain L) rfl ?_
        simp -implicitDefEqProofs (disch := omega) only [KF, KR, KV0, KV1, KV2, KW, ↓bstep, ↓astep, ↓O1.eq_def, ↓onBool.eq_def, ↓onInt.eq_def, ↓onStr.eq_def, ↓onLo.eq_def, ↓binK.eq_def, ↓arith.eq_def, ↓strOp.eq_def, ↓srcElems.eq_def, ↓dst1.eq_def, args0, List.zipIdx, List.map, lookup, St.ev, St.set, St.setO, reduceCtorEq, AV.plain, AV.plainL, AV.flat, AV.flatL, AV.cells, Nat.reduceEqDiff, ↓reduceIte, List.drop, List.take, List.length, Nat.reduceAdd, Nat.reduceLeDiff, Nat.reduceMul, E.done, rvsK, rvK, resAV, Int.reduceToNat, Int.reduceLE, Int.reduceLT, Int.reduceNeg, Int.reduceAdd, Int.reduceSub, Int.reduceMul, Nat.reduceLT, AV.isElem, AV.one, ↓buildCells.eq_1, ↓buildCells.eq_2, Nat.reduceBEq, eqCells, AV.ren, List.length_cons, List.length_nil, e1]
        refine CL_swap 1 (g53 m L (n + 1) (by omega) (by omega)) rfl (cells_plain L) (plainL_all fun x hx => (List.mem_append.1 hx).elim (plainL_mem (cells_plain _) x) (by simp; rintro (rfl | rfl) <;> rfl)) rfl ?_
        simp -implicitDefEqProofs (disch := omega) only [KF, KR, KV0, KV1, KV2, KW, ↓bstep, ↓astep, ↓O1.eq_def, ↓onBool.eq_def, ↓onInt.eq_def, ↓onStr.eq_def, ↓onLo.eq_def, ↓binK.eq_def, ↓arith.eq_def, ↓strOp.eq_def, ↓srcElems.eq_def, ↓dst1.eq_def, args0, List.zipIdx, List.map, lookup, St.ev, St.set, St.setO, reduceCtorEq, AV.plain, AV.plainL, AV.flat, AV.flatL, AV.cells, Nat.reduceEqDiff, ↓reduceIte, List.drop, List.take, List.length, Nat.reduceAdd, Nat.reduceLeDiff, Nat.reduceMul, E.done, rvsK, rvK, resAV, Int.reduceToNat, Int.reduceLE, Int.reduceLT, Int.reduceNeg, Int.reduceAdd, Int.reduceSub, Int.reduceMul, Nat.reduceLT, AV.isElem, AV.one, ↓buildCells.eq_1, ↓buildCells.eq_2, Nat.reduceBEq, eqCells, AV.ren, List.length_cons, List.length_nil]
        have hse := s42 m (L.eraseIdx (n + 1)) (l9.erase _) (by rw [List.length_eraseIdx_of_lt (by omega)]; omega) (by rw [List.length_eraseIdx_of_lt (by omega)]; omega)
        rw [checkD_eq] at hse
        refine CL_show hse (.cons _ _ _ _ (cells_shows (J := [.str [], .str []]) rfl (by rw [List.length_eraseIdx_of_lt (by omega)])) .nil) rfl ?_
        by_cases z : checkD (L.eraseIdx (n + 1)) = 0
        · refine WF z ?_
          refine hR' (n + 1) _ (by omega) (by omega) ?_
          have es : pickS L most (n + 1) = (((n + 1 : Nat) : Int), triS L (n + 1)) := by
            show stepS L (n + 1) (pickS L most n) = _
            unfold stepS; rw [if_neg sk, if_pos z]
          rw [es]
          exact weak_one 0 rfl pl (by simp [lookup, AV.ren, AV.idsLt])
        · refine WF z ?_
          refine hR' (n + 1) _ (by omega) (by omega) ?_
          have es : pickS L most (n + 1) = pickS L most n := by
            show stepS L (n + 1) (pickS L most n) = _
            unfold stepS; rw [if_neg sk, if_neg z]
          rw [es]
          exact weak_one 0 rfl pl (by simp [lookup, AV.ren, AV.idsLt])
  · have en : n = L.length - 2 := by omega
    have hn' : ¬ n + 2 < L.length := by omega
    obtain ⟨k1, k2⟩ := pick_okg l9 hm n (by omega)
    obtain ⟨f, hf⟩ : ∃ f, L.length = f + 1 := ⟨L.length - 1, by omega⟩
    by_cases neg : (pickS L most n).1 < 0
    · have hS' : L = simpS c.length c most := by
        rw [← hS, hf]
        unfold simpS nextS
        rw [← en, if_pos neg]
      refine WF (And.intro e1 (And.intro hn' neg)) ?_
      rw [← hS']
      exact .tuple _ _ (.cons _ _ _ _ (cells_shows (J := J) rfl rfl) (.cons _ _ _ _ (.same _ rfl) .nil))
    · rcases k1 with h | ⟨j, h, j1, j2⟩
      · omega
      · have ej : ((j : Int) + 1) = ((j + 1 : Nat) : Int) := by omega
        have neg' := eq_false (show ¬ (j : Int) < 0 by omega)
        refine WF (And.intro e1 (And.intro hn' (And.intro h (And.intro neg' ej)))) ?_
        have le := List.length_eraseIdx_of_lt (l := L) (i := j) (by omega)
        refine CL_swap 0 (h53 m L j q J (by omega) lq lJ (by omega)) rfl pl (plainL_all fun x hx => (List.mem_append.1 hx).elim (plainL_mem (cells_plain _) x) (by
          simp only [List.mem_append, List.mem_cons, List.mem_replicate, List.not_mem_nil, or_false]
          rintro ((rfl | rfl) | ⟨_, rfl⟩) <;> rfl)) rfl ?_
        simp -implicitDefEqProofs (disch := omega) only [KF, KR, KV0, KV1, KV2, KW, ↓bstep, ↓astep, ↓O1.eq_def, ↓onBool.eq_def, ↓onInt.eq_def, ↓onStr.eq_def, ↓onLo.eq_def, ↓binK.eq_def, ↓arith.eq_def, ↓strOp.eq_def, ↓srcElems.eq_def, ↓dst1.eq_def, args0, List.zipIdx, List.map, lookup, St.ev, St.set, St.setO, reduceCtorEq, AV.plain, AV.plainL, AV.flat, AV.flatL, AV.cells, Nat.reduceEqDiff, ↓reduceIte, List.drop, List.take, List.length, Nat.reduceAdd, Nat.reduceLeDiff, Nat.reduceMul, E.done, rvsK, rvK, resAV, Int.reduceToNat, Int.reduceLE, Int.reduceLT, Int.reduceNeg, Int.reduceAdd, Int.reduceSub, Int.reduceMul, Nat.reduceLT, AV.isElem, AV.one, ↓buildCells.eq_1, ↓buildCells.eq_2, Nat.reduceBEq, eqCells, AV.ren, List.length_cons, List.length_nil]
        refine hR (L.eraseIdx j, q, [.str [], .str []] ++ List.replicate ((q - L.length) * 2) AV.undef) _ ⟨l9.erase j, by dsimp only; rw [le]; omega, by dsimp only; rw [le]; omega, q4, by simp only [List.length_append, List.length_cons, List.length_nil, List.length_replicate]; rw [le]; omega, ?_, ?_⟩ (by dsimp only; rw [le]; omega) ?_
        · exact plainL_all fun x hx => by
            simp only [List.mem_append, List.mem_cons, List.mem_replicate, List.not_mem_nil, or_false] at hx
            rcases hx with (rfl | rfl) | ⟨_, rfl⟩ <;> rfl
        · dsimp only
          rw [← hS, le, hf]
          have : nextS L most = some (L.eraseIdx j) := by
            unfold nextS
            rw [← en, if_neg neg, h]; rfl
          show simpS (f + 1 - 1) _ most = simpS (f + 1) L most
          unfold simpS
          rw [this]
          cases f with
          | zero => omega
          | succ f => rfl
        · exact weak_one 1 rfl (plainL_all fun x hx => (List.mem_append.1 hx).elim (plainL_mem (cells_plain _) x) (by
            simp only [List.mem_append, List.mem_cons, List.mem_replicate, List.not_mem_nil, or_false]
            rintro ((rfl | rfl) | ⟨_, rfl⟩) <;> rfl)) (by simp [lookup, AV.ren, AV.idsLt, le])

/-- polyline.Simplify, where the bound is no number -/
theorem s16n (m : Int) (c : List Pt) (x : List UInt8) (h9 : all9 c) (h2 : 2 ≤ c.length) (h400 : c.length ≤ 400) (hc : checkP c = 0) (hl20 : x.length ≤ 20) (hx : ¬ ∃ q, x = tq q) :
    SpecP (cx m) 16 [ePs c, .str x] (.tuple [.sl 2 [], .int .i64 2]) := by
  refine specP_of (mixed m) (k16 m) (Nat.le_of_ble_eq_true rfl) (X_start ?_)
  unfold c16
  have sc := s42 m c h9 h2 h400
  have h50 := s50s m x hl20 false ⟨fun h => (Bool.false_ne_true h).elim, fun h => absurd h hx⟩
  rw [if_neg Bool.false_ne_true] at h50
  rw [hc] at sc
  refine WW ?_
  refine CL_pure sc rfl ?_
  refine WW ?_
  refine CL_pure h50 rfl ?_
  refine WW ?_
  exact .tuple _ _ (.cons _ _ _ _ (.nil 2) (.cons _ _ _ _ (.same _ rfl) .nil))
/-- polyline.Simplify, where the bound is negative -/
theorem s16m (m : Int) (c : List Pt) (q : Rat) (h9 : all9 c) (h2 : 2 ≤ c.length) (h400 : c.length ≤ 400) (hc : checkP c = 0) (hl20 : (tq q).length ≤ 20) (hq : q < 0) :
    SpecP (cx m) 16 [ePs c, .str (tq q)] (.tuple [.sl 2 [], .int .i64 3]) := by
  refine specP_of (mixed m) (k16 m) (Nat.le_of_ble_eq_true rfl) (X_start ?_)
  unfold c16
  have sc := s42 m c h9 h2 h400
  have h50 := s50s m (tq q) hl20 true ⟨fun _ => ⟨q, rfl⟩, fun _ => rfl⟩
  rw [if_pos rfl] at h50
  rw [hc] at sc
  have sgm := eq_true (show sg q < 0 by rcases Int.lt_or_le (sg q) 0 with h | h; exact h; have := sg_ge.1 h; grind)
  refine WW ?_
  refine CL_pure sc rfl ?_
  refine WW ?_
  refine CL_pure h50 rfl ?_
  refine WW ?_
  refine CL_pure (s18' m q) rfl ?_
  refine WF sgm ?_
  exact .tuple _ _ (.cons _ _ _ _ (.nil 2) (.cons _ _ _ _ (.same _ rfl) .nil))
end Go.Proofs.YtkjnjdcbnelceaaGreatDoor.KA
end

section
/- The law PolylineSimplifies: what it needs beside the walk; the shorter contracts. -/
open Go Go.Proofs
set_option linter.unusedSimpArgs false
set_option linter.unusedVariables false
set_option maxHeartbeats 1000000
set_option maxRecDepth 20000
namespace Go.Proofs.YtkjnjdcbnelceaaGreatDoor.KA
open Num Geo

theorem not_crossed {c : List Pt} {i k : Nat} (hik : i < k) (hk : k + 1 < c.length) (h : crossedP c (c.length - 1) i k = false) : (mP c c i k).1 = 0 ∨ (k = i + 1 ∧ (mP c c i k).1 ≠ 2) := by
  have e1 : (i + 1) % c.length = i + 1 := Nat.mod_eq_of_lt (by omega)
  have e2 : (k + 1) % c.length = k + 1 := Nat.mod_eq_of_lt hk
  have hn : nextP c.length (c.length - 1) i k = decide (k = i + 1) := by
    unfold nextP
    rw [decide_eq_false (show ¬ c.length - 1 = c.length by omega)]
    simp
  unfold crossedP at h
  rw [e1, e2] at h
  unfold mP
  generalize meetP (at' c i) (at' c (i + 1)) (at' c k) (at' c (k + 1)) = r at *
  unfold crossR at h
  rw [hn] at h
  by_cases h0 : r.1 = 0
  · exact .inl h0
  · rw [if_neg h0] at h
    by_cases h1 : k = i + 1
    · by_cases h2 : r.1 = 2
      · rw [if_pos (.inl h2)] at h; cases h
      · exact .inr ⟨h1, h2⟩
    · rw [if_pos (.inr (by simp [h1]))] at h; cases h
theorem checkL_of {c : List Pt} (h2 : 2 ≤ c.length) (h : checkP c = 0) : checkL c = 0 := by
  unfold checkP at h
  split at h
  · omega
  · rename_i ht
    split at h
    · rename_i hs
      have ha : apart c := fun i hi e => ht ⟨i, hi, e⟩
      unfold checkL
      rw [if_neg (by omega), if_neg ht, if_pos]
      intro i k hik hk hb
      obtain ⟨e1, _⟩ := meet_agree (ha i (by omega)) (ha k hk)
      change (mL c c i k).1 = (mP c c i k).1 at e1
      unfold badL at hb
      rw [e1] at hb
      have hc := not_crossed hik hk (hs i k hik (by omega))
      have hw := mP_how c c i k
      split at hb <;> omega
    · omega
theorem checkL_iff {c : List Pt} (h2 : 2 ≤ c.length) : checkL c = 0 ↔ checkD c = 0 := by
  rw [← checkD_eq]
  exact ⟨fun h => (checked h).2.2, checkL_of h2⟩

theorem cm_cases (a b : Rat) : (a < b ∧ cm a b = -1) ∨ (a = b ∧ cm a b = 0) ∨ (b < a ∧ cm a b = 1) := by
  unfold cm
  by_cases h : a = b
  · rw [if_pos h]; exact .inr (.inl ⟨h, rfl⟩)
  · rw [if_neg h]
    by_cases h2 : a < b
    · rw [if_pos h2]; exact .inl ⟨h2, rfl⟩
    · rw [if_neg h2]; exact .inr (.inr ⟨by grind, rfl⟩)

/-- What is picked is not above the bound. -/
theorem pick_le (L : List Pt) (most : Rat) : ∀ n, (pickS L most n).2 ≤ most
  | 0 => by show most ≤ most; grind
  | n + 1 => by
    have ih := pick_le L most n
    show (stepS L (n + 1) (pickS L most n)).2 ≤ most
    unfold stepS
    split
    · exact ih
    · rename_i h
      split
      · have hc := cm_cases (triS L (n + 1)) (pickS L most n).2
        show triS L (n + 1) ≤ most
        have h1 : ¬ cm (triS L (n + 1)) (pickS L most n).2 > 0 := fun hh => h (.inl hh)
        rcases hc with ⟨a, b⟩ | ⟨a, b⟩ | ⟨a, b⟩
        · grind
        · grind
        · omega
      · exact ih
theorem pick_first (L : List Pt) (most : Rat) : ∀ n, (pickS L most n).1 < 0 → (pickS L most n).2 = most
  | 0, _ => rfl
  | n + 1, h => by
    change (stepS L (n + 1) (pickS L most n)).1 < 0 at h
    show (stepS L (n + 1) (pickS L most n)).2 = most
    unfold stepS at h ⊢
    split
    · rename_i h1; rw [if_pos h1] at h; exact pick_first L most n h
    · rename_i h1; rw [if_neg h1] at h
      split
      · rename_i h2; rw [if_pos h2] at h; dsimp only at h; omega
      · rename_i h2; rw [if_neg h2] at h; exact pick_first L most n h
/-- A step of the law: it goes on where the code goes on. -/
theorem step_law (L : List Pt) (most : Rat) (n : Nat) : (cm (triS L (n + 1)) (pickS L most n).2 > 0 ∨ (cm (triS L (n + 1)) (pickS L most n).2 = 0 ∧ (pickS L most n).1 ≥ 0)) ↔
    (cm (triS L (n + 1)) most > 0 ∨ ((pickS L most n).1 ≥ 0 ∧ cm (triS L (n + 1)) (pickS L most n).2 ≥ 0)) := by
  have h1 := pick_le L most n
  have h2 := pick_first L most n
  have h3 := cm_cases (triS L (n + 1)) (pickS L most n).2
  have h4 := cm_cases (triS L (n + 1)) most
  generalize triS L (n + 1) = t at *
  generalize pickS L most n = p at *
  by_cases hp : p.1 < 0
  · rw [h2 hp]
    constructor
    · rintro (h | h)
      · exact .inl h
      · omega
    · rintro (h | h)
      · exact .inl h
      · omega
  · constructor
    · rintro (h | h)
      · exact .inr ⟨by omega, by omega⟩
      · exact .inr ⟨by omega, by omega⟩
    · rintro (h | h)
      · have hlt : p.2 < t := by
          rcases h4 with ⟨a, b⟩ | ⟨a, b⟩ | ⟨a, b⟩
          · omega
          · omega
          · grind
        rcases h3 with ⟨a, b⟩ | ⟨a, b⟩ | ⟨a, b⟩
        · grind
        · grind
        · exact .inl (by omega)
      · rcases h3 with ⟨a, b⟩ | ⟨a, b⟩ | ⟨a, b⟩
        · omega
        · exact .inr ⟨b, by omega⟩
        · exact .inl (by omega)

theorem next_len {L L' : List Pt} {most : Rat} (h9 : all9 L) (hm : dq 100000 most) (h : nextS L most = some L') (hD : True) : L'.length + 1 = L.length ∧ 3 ≤ L.length := by
  unfold nextS at h
  split at h
  · cases h
  · rename_i hp
    cases h
    by_cases h3 : 3 ≤ L.length
    · obtain ⟨k1, _⟩ := pick_okg h9 hm (L.length - 2) (by omega)
      rcases k1 with k | ⟨j, k, j1, j2⟩
      · omega
      · rw [k, Int.toNat_natCast, List.length_eraseIdx_of_lt (by omega)]
        exact ⟨by omega, h3⟩
    · rw [show L.length - 2 = 0 by omega] at hp
      exact absurd (show (pickS L most 0).1 < 0 by show (-1 : Int) < 0; omega) hp
theorem pick_check (L : List Pt) (most : Rat) : ∀ n, 0 ≤ (pickS L most n).1 → checkD (L.eraseIdx (pickS L most n).1.toNat) = 0
  | 0, h => by change (0 : Int) ≤ -1 at h; omega
  | n + 1, h => by
    change 0 ≤ (stepS L (n + 1) (pickS L most n)).1 at h
    show checkD (L.eraseIdx (stepS L (n + 1) (pickS L most n)).1.toNat) = 0
    unfold stepS at h ⊢
    split
    · rename_i h1; rw [if_pos h1] at h; exact pick_check L most n h
    · rename_i h1; rw [if_neg h1] at h
      split
      · rename_i h2; dsimp only; rw [Int.toNat_natCast]; exact h2
      · rename_i h2; rw [if_neg h2] at h; exact pick_check L most n h
theorem next_check {L L' : List Pt} {most : Rat} (h : nextS L most = some L') : checkD L' = 0 := by
  unfold nextS at h
  split at h
  · cases h
  · cases h; exact pick_check L most _ (by omega)
theorem next_all9 {L L' : List Pt} {most : Rat} (h9 : all9 L) (h : nextS L most = some L') : all9 L' := by
  unfold nextS at h
  split at h
  · cases h
  · cases h; exact h9.erase _
/-- What Simplify comes to: a chain, which does not change any more. -/
theorem simp_end {most : Rat} (hm : dq 100000 most) : ∀ (f : Nat) (L : List Pt), all9 L → 2 ≤ L.length → L.length ≤ f + 2 → checkD L = 0 →
    all9 (simpS f L most) ∧ 2 ≤ (simpS f L most).length ∧ (simpS f L most).length ≤ L.length ∧ checkD (simpS f L most) = 0 ∧ nextS (simpS f L most) most = none
  | 0, L, h9, h2, hf, hc => ⟨h9, h2, Nat.le_refl _, hc, by
      rcases h : nextS L most with _ | L'
      · exact h
      · have := next_len h9 hm h trivial; omega⟩
  | f + 1, L, h9, h2, hf, hc => by
    rcases h : nextS L most with _ | L'
    · have e : simpS (f + 1) L most = L := by show (match nextS L most with | none => L | some L' => simpS f L' most) = L; rw [h]
      rw [e]; exact ⟨h9, h2, Nat.le_refl _, hc, h⟩
    · have e : simpS (f + 1) L most = simpS f L' most := by show (match nextS L most with | none => L | some L' => simpS f L' most) = _; rw [h]
      have hl := next_len h9 hm h trivial
      have ih := simp_end hm f L' (next_all9 h9 h) (by omega) (by omega) (next_check h)
      rw [e]
      exact ⟨ih.1, ih.2.1, by omega, ih.2.2.2⟩
theorem simp_same {L : List Pt} {most : Rat} (h : nextS L most = none) : ∀ f, simpS f L most = L
  | 0 => rfl
  | f + 1 => by show (match nextS L most with | none => L | some L' => simpS f L' most) = L; rw [h]
end Go.Proofs.YtkjnjdcbnelceaaGreatDoor.KA
end

section
/- The small code of functions, as own tools print it; that it is the program's is checked by the kernel. -/
open Go Go.Proofs
set_option linter.unusedVariables false
namespace Go.Proofs.YtkjnjdcbnelceaaGreatDoor.KA
def c4 : C := (C.ops [⟨I.mv 4 (O.k (AV.bool false)), none, some 4⟩]).seq ((C.ops [⟨I.mv 14 (O.t 0), none, some 14⟩, ⟨I.call (some 15) (O.k (AV.fn 12 [])) [O.t 14, O.k (AV.bool false)] false, none, some 15⟩, ⟨I.mv 5 (O.t 15), none, some 5⟩]).seq (((C.ops [⟨I.call (some 16) (O.k (AV.fn 11 [])) [] false, none, some 16⟩, ⟨I.not 17 (O.t 16), none, some 17⟩, ⟨I.mv 18 (O.t 17), none, some 18⟩, ⟨I.mv 19 (O.t 0), some (18, false), some 19⟩, ⟨I.len 20 (O.t 19), some (18, false), some 20⟩, ⟨I.bin 21 BinOp.gtr (O.t 20) (O.k (AV.int IntKind.i64 8)), some (18, false), some 21⟩, ⟨I.pick 22 (O.t 18) (O.k (AV.bool true)) (O.t 21), none, some 22⟩, ⟨I.mv 23 (O.t 22), none, some 23⟩, ⟨I.mv 24 (O.t 1), some (23, false), some 24⟩, ⟨I.lens 25 (O.t 24), some (23, false), some 25⟩, ⟨I.bin 26 BinOp.gtr (O.t 25) (O.k (AV.int IntKind.i64 20)), some (23, false), some 26⟩, ⟨I.pick 27 (O.t 23) (O.k (AV.bool true)) (O.t 26), none, some 27⟩, ⟨I.mv 28 (O.t 27), none, some 28⟩, ⟨I.mv 29 (O.t 5), some (28, false), some 29⟩, ⟨I.call (some 30) (O.k (AV.fn 13 [])) [O.t 29, O.k (AV.bool false)] false, some (28, false), some 30⟩, ⟨I.bin 31 BinOp.neq (O.t 30) (O.k (AV.int IntKind.i64 0)), some (28, false), some 31⟩, ⟨I.pick 32 (O.t 28) (O.k (AV.bool true)) (O.t 31), none, some 32⟩]).seq (C.cond (O.t 32) ((C.ops [⟨I.call (some 33) (O.k (AV.fn 11 [])) [] false, none, some 33⟩, ⟨I.mv 4 (O.t 33), none, some 4⟩]).seq C.ret) C.skip)).seq ((C.ops [⟨I.mv 35 (O.t 5), none, some 35⟩, ⟨I.mv 36 (O.t 1), none, some 36⟩, ⟨I.call (some 37) (O.k (AV.fn 16 [])) [O.t 35, O.t 36] false, none, some 37⟩, ⟨I.mv 34 (O.t 37), none, some 34⟩, ⟨I.ext 38 (O.t 34) 0, none, some 38⟩, ⟨I.ext 39 (O.t 34) 1, none, some 39⟩, ⟨I.mv 6 (O.t 38), none, some 6⟩, ⟨I.mv 7 (O.t 39), none, some 7⟩]).seq (((C.ops [⟨I.mv 40 (O.t 1), none, some 40⟩, ⟨I.call (some 41) (O.k (AV.fn 17 [])) [O.t 40] false, none, some 41⟩, ⟨I.not 42 (O.t 41), none, some 42⟩]).seq (C.cond (O.t 42) ((C.ops [⟨I.mv 43 (O.t 6), none, some 43⟩, ⟨I.len 44 (O.t 43), none, some 44⟩, ⟨I.bin 45 BinOp.eql (O.t 44) (O.k (AV.int IntKind.i64 0)), none, some 45⟩, ⟨I.mv 46 (O.t 45), none, some 46⟩, ⟨I.mv 47 (O.t 7), some (46, true), some 47⟩, ⟨I.bin 48 BinOp.eql (O.t 47) (O.k (AV.int IntKind.i64 2)), some (46, true), some 48⟩, ⟨I.pick 49 (O.t 46) (O.t 48) (O.k (AV.bool false)), none, some 49⟩, ⟨I.mv 4 (O.t 49), none, some 4⟩]).seq C.ret) C.skip)).seq (((C.ops [⟨I.mv 50 (O.t 1), none, some 50⟩, ⟨I.call (some 51) (O.k (AV.fn 18 [])) [O.t 50] false, none, some 51⟩, ⟨I.bin 52 BinOp.lss (O.t 51) (O.k (AV.int IntKind.i64 0)), none, some 52⟩]).seq (C.cond (O.t 52) ((C.ops [⟨I.mv 53 (O.t 6), none, some 53⟩, ⟨I.len 54 (O.t 53), none, some 54⟩, ⟨I.bin 55 BinOp.eql (O.t 54) (O.k (AV.int IntKind.i64 0)), none, some 55⟩, ⟨I.mv 56 (O.t 55), none, some 56⟩, ⟨I.mv 57 (O.t 7), some (56, true), some 57⟩, ⟨I.bin 58 BinOp.eql (O.t 57) (O.k (AV.int IntKind.i64 3)), some (56, true), some 58⟩, ⟨I.pick 59 (O.t 56) (O.t 58) (O.k (AV.bool false)), none, some 59⟩, ⟨I.mv 4 (O.t 59), none, some 4⟩]).seq C.ret) C.skip)).seq ((C.block 0 (C.block 1 ((C.ops [⟨I.mv 8 (O.k (AV.int IntKind.i64 (-1))), none, some 8⟩]).seq ((C.ops [⟨I.mv 9 (O.k (AV.str [])), none, some 9⟩]).seq (((C.ops [⟨I.mv 10 (O.k (AV.int IntKind.i64 1)), none, some 10⟩]).seq (C.block 2 (((C.ops [⟨I.mv 60 (O.t 10), none, some 60⟩, ⟨I.bin 61 BinOp.add (O.t 60) (O.k (AV.int IntKind.i64 1)), none, some 61⟩, ⟨I.mv 62 (O.t 5), none, some 62⟩, ⟨I.len 63 (O.t 62), none, some 63⟩, ⟨I.bin 64 BinOp.lss (O.t 61) (O.t 63), none, some 64⟩]).seq (C.cond (O.t 64) C.skip (C.exit 2))).seq ((C.block 3 ((C.ops [⟨I.mv 67 (O.t 5), none, some 67⟩, ⟨I.mv 68 (O.t 10), none, some 68⟩, ⟨I.bin 69 BinOp.sub (O.t 68) (O.k (AV.int IntKind.i64 1)), none, some 69⟩, ⟨I.idxa 70 2 none (O.t 67) (O.t 69), none, some 70⟩, ⟨I.loadf 71 true 2 (O.t 70), none, some 71⟩, ⟨I.mv 72 (O.t 5), none, some 72⟩, ⟨I.mv 73 (O.t 10), none, some 73⟩, ⟨I.idxa 74 2 none (O.t 72) (O.t 73), none, some 74⟩, ⟨I.loadf 75 true 2 (O.t 74), none, some 75⟩, ⟨I.mv 76 (O.t 5), none, some 76⟩, ⟨I.mv 77 (O.t 10), none, some 77⟩, ⟨I.bin 78 BinOp.add (O.t 77) (O.k (AV.int IntKind.i64 1)), none, some 78⟩, ⟨I.idxa 79 2 none (O.t 76) (O.t 78), none, some 79⟩, ⟨I.loadf 80 true 2 (O.t 79), none, some 80⟩, ⟨I.call (some 81) (O.k (AV.fn 20 [])) [O.t 71, O.t 75, O.t 80] false, none, some 81⟩, ⟨I.call (some 82) (O.k (AV.fn 19 [])) [O.t 81] false, none, some 82⟩, ⟨I.mv 11 (O.t 82), none, some 11⟩]).seq (((C.ops [⟨I.mv 83 (O.t 11), none, some 83⟩, ⟨I.mv 84 (O.t 1), none, some 84⟩, ⟨I.call (some 85) (O.k (AV.fn 21 [])) [O.t 83, O.t 84] false, none, some 85⟩, ⟨I.bin 86 BinOp.gtr (O.t 85) (O.k (AV.int IntKind.i64 0)), none, some 86⟩, ⟨I.mv 87 (O.t 86), none, some 87⟩, ⟨I.mv 88 (O.t 8), some (87, false), some 88⟩, ⟨I.bin 89 BinOp.geq (O.t 88) (O.k (AV.int IntKind.i64 0)), some (87, false), some 89⟩, ⟨I.mv 90 (O.t 89), some (87, false), some 90⟩, ⟨I.mv 91 (O.t 11), some (90, true), some 91⟩, ⟨I.mv 92 (O.t 9), some (90, true), some 92⟩, ⟨I.call (some 93) (O.k (AV.fn 21 [])) [O.t 91, O.t 92] false, some (90, true), some 93⟩, ⟨I.bin 94 BinOp.geq (O.t 93) (O.k (AV.int IntKind.i64 0)), some (90, true), some 94⟩, ⟨I.pick 95 (O.t 90) (O.t 94) (O.k (AV.bool false)), some (87, false), some 95⟩, ⟨I.pick 96 (O.t 87) (O.k (AV.bool true)) (O.t 95), none, some 96⟩, ⟨I.mv 97 (O.t 96), none, some 97⟩, ⟨I.mv 98 (O.t 5), some (97, false), some 98⟩, ⟨I.mv 99 (O.t 10), some (97, false), some 99⟩, ⟨I.call (some 100) (O.k (AV.fn 22 [])) [O.t 98, O.t 99] false, some (97, false), some 100⟩, ⟨I.call (some 101) (O.k (AV.fn 13 [])) [O.t 100, O.k (AV.bool false)] false, some (97, false), some 101⟩, ⟨I.bin 102 BinOp.neq (O.t 101) (O.k (AV.int IntKind.i64 0)), some (97, false), some 102⟩, ⟨I.pick 103 (O.t 97) (O.k (AV.bool true)) (O.t 102), none, some 103⟩]).seq (C.cond (O.t 103) (C.exit 3) C.skip)).seq (C.ops [⟨I.mv 104 (O.t 10), none, some 104⟩, ⟨I.mv 105 (O.t 11), none, some 105⟩, ⟨I.mv 8 (O.t 104), none, some 8⟩, ⟨I.mv 9 (O.t 105), none, some 9⟩])))).seq (C.ops [⟨I.mv 65 (O.t 10), none, some 65⟩, ⟨I.bin 66 BinOp.add (O.t 65) (O.k (AV.int IntKind.i64 1)), none, some 66⟩, ⟨I.mv 10 (O.t 66), none, some 10⟩]))).loop)).seq (((C.ops [⟨I.mv 106 (O.t 8), none, some 106⟩, ⟨I.bin 107 BinOp.lss (O.t 106) (O.k (AV.int IntKind.i64 0)), none, some 107⟩]).seq (C.cond (O.t 107) (C.exit 0) C.skip)).seq (C.ops [⟨I.mv 108 (O.t 5), none, some 108⟩, ⟨I.mv 109 (O.t 8), none, some 109⟩, ⟨I.call (some 110) (O.k (AV.fn 22 [])) [O.t 108, O.t 109] false, none, some 110⟩, ⟨I.mv 5 (O.t 110), none, some 5⟩])))))).loop).seq ((C.ops [⟨I.mv 112 (O.t 6), none, some 112⟩, ⟨I.mv 113 (O.t 1), none, some 113⟩, ⟨I.call (some 114) (O.k (AV.fn 16 [])) [O.t 112, O.t 113] false, none, some 114⟩, ⟨I.mv 111 (O.t 114), none, some 111⟩, ⟨I.ext 115 (O.t 111) 0, none, some 115⟩, ⟨I.ext 116 (O.t 111) 1, none, some 116⟩, ⟨I.mv 12 (O.t 115), none, some 12⟩, ⟨I.mv 13 (O.t 116), none, some 13⟩]).seq ((C.ops [⟨I.mv 117 (O.t 6), none, some 117⟩, ⟨I.mv 118 (O.t 5), none, some 118⟩, ⟨I.call (some 119) (O.k (AV.fn 23 [])) [O.t 117, O.t 118] false, none, some 119⟩, ⟨I.mv 120 (O.t 119), none, some 120⟩, ⟨I.mv 121 (O.t 7), some (120, true), some 121⟩, ⟨I.bin 122 BinOp.eql (O.t 121) (O.k (AV.int IntKind.i64 0)), some (120, true), some 122⟩, ⟨I.pick 123 (O.t 120) (O.t 122) (O.k (AV.bool false)), none, some 123⟩, ⟨I.mv 124 (O.t 123), none, some 124⟩, ⟨I.mv 125 (O.t 12), some (124, true), some 125⟩, ⟨I.mv 126 (O.t 6), some (124, true), some 126⟩, ⟨I.call (some 127) (O.k (AV.fn 23 [])) [O.t 125, O.t 126] false, some (124, true), some 127⟩, ⟨I.pick 128 (O.t 124) (O.t 127) (O.k (AV.bool false)), none, some 128⟩, ⟨I.mv 129 (O.t 128), none, some 129⟩, ⟨I.mv 130 (O.t 13), some (129, true), some 130⟩, ⟨I.bin 131 BinOp.eql (O.t 130) (O.k (AV.int IntKind.i64 0)), some (129, true), some 131⟩, ⟨I.pick 132 (O.t 129) (O.t 131) (O.k (AV.bool false)), none, some 132⟩, ⟨I.mv 4 (O.t 132), none, some 4⟩]).seq C.ret))))))))
theorem k4 (m : Int) : compF (cx m).P (cx m).gt (fun _ => false) 4 = some (c4, [RV.tmp 4], 133) := by kernel_rfl
def c22 : C := (C.ops [⟨I.mv 4 (O.k AV.nils), none, some 4⟩]).seq ((C.ops [⟨I.bsl 5 2 [] false, none, some 5⟩, ⟨I.mv 6 (O.t 0), none, some 6⟩, ⟨I.mv 7 (O.t 1), none, some 7⟩, ⟨I.slc 8 2 (O.t 6) none (some (O.t 7)) none, none, some 8⟩, ⟨I.append 9 2 32 (O.t 5) (O.t 8) true, none, some 9⟩, ⟨I.mv 10 (O.t 0), none, some 10⟩, ⟨I.mv 11 (O.t 1), none, some 11⟩, ⟨I.bin 12 BinOp.add (O.t 11) (O.k (AV.int IntKind.i64 1)), none, some 12⟩, ⟨I.slc 13 2 (O.t 10) (some (O.t 12)) none none, none, some 13⟩, ⟨I.append 14 2 32 (O.t 9) (O.t 13) true, none, some 14⟩, ⟨I.mv 4 (O.t 14), none, some 4⟩]).seq C.ret)
theorem k22 (m : Int) : compF (cx m).P (cx m).gt (fun t => t == 9 || t == 14) 22 = some (c22, [RV.tmp 4], 15) := by kernel_rfl
def c23 : C := (C.ops [⟨I.mv 4 (O.k (AV.bool false)), none, some 4⟩]).seq (((C.ops [⟨I.mv 6 (O.t 0), none, some 6⟩, ⟨I.len 7 (O.t 6), none, some 7⟩, ⟨I.mv 8 (O.t 1), none, some 8⟩, ⟨I.len 9 (O.t 8), none, some 9⟩, ⟨I.bin 10 BinOp.neq (O.t 7) (O.t 9), none, some 10⟩]).seq (C.cond (O.t 10) ((C.ops [⟨I.mv 4 (O.k (AV.bool false)), none, some 4⟩]).seq C.ret) C.skip)).seq (((C.ops [⟨I.mv 5 (O.k (AV.int IntKind.i64 0)), none, some 5⟩]).seq (C.block 0 (((C.ops [⟨I.mv 11 (O.t 5), none, some 11⟩, ⟨I.mv 12 (O.t 0), none, some 12⟩, ⟨I.len 13 (O.t 12), none, some 13⟩, ⟨I.bin 14 BinOp.lss (O.t 11) (O.t 13), none, some 14⟩]).seq (C.cond (O.t 14) C.skip (C.exit 0))).seq ((C.block 1 ((C.ops [⟨I.mv 17 (O.t 0), none, some 17⟩, ⟨I.mv 18 (O.t 5), none, some 18⟩, ⟨I.idxa 19 2 none (O.t 17) (O.t 18), none, some 19⟩, ⟨I.loadf 20 true 2 (O.t 19), none, some 20⟩, ⟨I.mv 21 (O.t 1), none, some 21⟩, ⟨I.mv 22 (O.t 5), none, some 22⟩, ⟨I.idxa 23 2 none (O.t 21) (O.t 22), none, some 23⟩, ⟨I.loadf 24 true 2 (O.t 23), none, some 24⟩, ⟨I.eqs 25 true [Leaf.str, Leaf.str] (O.t 20) (O.t 24), none, some 25⟩]).seq (C.cond (O.t 25) ((C.ops [⟨I.mv 4 (O.k (AV.bool false)), none, some 4⟩]).seq C.ret) C.skip))).seq (C.ops [⟨I.mv 15 (O.t 5), none, some 15⟩, ⟨I.bin 16 BinOp.add (O.t 15) (O.k (AV.int IntKind.i64 1)), none, some 16⟩, ⟨I.mv 5 (O.t 16), none, some 5⟩]))).loop)).seq ((C.ops [⟨I.mv 4 (O.k (AV.bool true)), none, some 4⟩]).seq C.ret)))
theorem k23 (m : Int) : compF (cx m).P (cx m).gt (fun _ => false) 23 = some (c23, [RV.tmp 4], 26) := by kernel_rfl
end Go.Proofs.YtkjnjdcbnelceaaGreatDoor.KA
end

section
/- Contracts: what the law PolylineSimplifies calls. -/
open Go Go.Proofs
set_option linter.unusedSimpArgs false
set_option linter.unusedVariables false
set_option maxHeartbeats 1000000
set_option maxRecDepth 20000
namespace Go.Proofs.YtkjnjdcbnelceaaGreatDoor.KA
open Num Geo

/-- klippelaw11.Points -/
theorem s12g (m : Int) (l : List (Int × Int)) (h8 : in8 l) : SpecP (cx m) 12 [eI8 l, .bool false] (ePs (pts (l.take 8))) := by
  refine specP_of (mixed m) (k12 m) (Nat.le_of_ble_eq_true rfl) (X_start ?_)
  unfold c12
  refine WW ?_
  refine X_for (fun i : Nat => ⟨[(0, eI8 l), (5, ptAV (pts (l.take i))), (6, .int .i64 1), (7, .int .i64 i)], ptBlk (pts (l.take i))⟩) (fun i => i ≤ l.length ∧ i ≤ 8) (fun i => l.length - i) 0 ⟨Nat.zero_le _, Nat.zero_le _⟩ ?_ ?_
  · exact weak_keep (by simp [lookup, pts, ptAV])
  intro i R ⟨i1, i8⟩ hR
  try dsimp only at hR ⊢
  by_cases hi8 : i = 8
  · subst hi8
    have q8 : ¬ ((8 : Nat) : Int) < 8 := by omega
    by_cases hi : 8 < l.length
    · refine WF (And.intro @eI8.eq_1 (And.intro @List.length_map.{0,0} (And.intro hi q8))) ?_
      exact pt_shows _
    · refine WF (And.intro @eI8.eq_1 (And.intro @List.length_map.{0,0} (And.intro hi q8))) ?_
      exact pt_shows _
  rcases Nat.lt_or_ge i l.length with hi | hi
  · have x1 : (l.map fun p : Int × Int => AV.agg [.int .i8 p.1, .int .i8 p.2])[i]? = some (.agg [.int .i8 l[i].1, .int .i8 l[i].2]) := by simp [hi]
    obtain ⟨b1, b2⟩ := h8 _ (List.getElem_mem hi)
    have t1 := tmod10 l[i].1
    have t2 := tmod10 l[i].2
    have q8 : (i : Int) < 8 := by omega
    have hP : pts (l.take (i + 1)) = pts (l.take i) ++ [ptOf l[i]] := by
      unfold pts; rw [List.take_add_one, List.getElem?_eq_getElem hi, List.map_append]; rfl
    have hlen : (pts (l.take i)).length = i := by simp [pts]; omega
    generalize hL : pts (l.take i) = L at *
    rcases L with _ | ⟨y, L⟩
    · simp -implicitDefEqProofs (disch := omega) only [KF, KR, KV0, KV1, KV2, KW, ↓bstep, ↓astep, ↓O1.eq_def, ↓onBool.eq_def, ↓onInt.eq_def, ↓onStr.eq_def, ↓onLo.eq_def, ↓binK.eq_def, ↓arith.eq_def, ↓strOp.eq_def, ↓srcElems.eq_def, ↓dst1.eq_def, args0, List.zipIdx, List.map, lookup, St.ev, St.set, St.setO, reduceCtorEq, AV.plain, AV.plainL, AV.flat, AV.flatL, AV.cells, Nat.reduceEqDiff, ↓reduceIte, List.drop, List.take, List.length, Nat.reduceAdd, Nat.reduceLeDiff, Nat.reduceMul, E.done, rvsK, rvK, resAV, Int.reduceToNat, Int.reduceLE, Int.reduceLT, Int.reduceNeg, Int.reduceAdd, Int.reduceSub, Int.reduceMul, Nat.reduceLT, AV.isElem, AV.one, ↓buildCells.eq_1, ↓buildCells.eq_2, Nat.reduceBEq, eqCells, eI8, List.length_map, hi, q8, x1, ptAV, ptBlk]
      refine ⟨by omega, by omega, CL_pure (s44 m (l[i].1.tmod 10) (by omega)) rfl ?_⟩
      refine WF x1 ?_
      refine ⟨by omega, by omega, CL_pure (s44 m (l[i].2.tmod 10) (by omega)) rfl ?_⟩
      refine WW ?_
      refine hR (i + 1) _ ⟨by omega, by omega⟩ (by omega) ?_
      rw [hP]
      exact weak_one 0 rfl (cells_plain [ptOf l[i]]) (by simp [lookup, eI8, ptAV, AV.ren, AV.idsLt])
    · have cl := cells_length (y :: L)
      rw [List.length_cons] at hlen cl
      simp -implicitDefEqProofs (disch := omega) only [KF, KR, KV0, KV1, KV2, KW, ↓bstep, ↓astep, ↓O1.eq_def, ↓onBool.eq_def, ↓onInt.eq_def, ↓onStr.eq_def, ↓onLo.eq_def, ↓binK.eq_def, ↓arith.eq_def, ↓strOp.eq_def, ↓srcElems.eq_def, ↓dst1.eq_def, args0, List.zipIdx, List.map, lookup, St.ev, St.set, St.setO, reduceCtorEq, AV.plain, AV.plainL, AV.flat, AV.flatL, AV.cells, Nat.reduceEqDiff, ↓reduceIte, List.drop, List.take, List.length, Nat.reduceAdd, Nat.reduceLeDiff, Nat.reduceMul, E.done, rvsK, rvK, resAV, Int.reduceToNat, Int.reduceLE, Int.reduceLT, Int.reduceNeg, Int.reduceAdd, Int.reduceSub, Int.reduceMul, Nat.reduceLT, AV.isElem, AV.one, ↓buildCells.eq_1, ↓buildCells.eq_2, Nat.reduceBEq, eqCells, eI8, List.length_map, hi, q8, x1, ptAV, ptBlk]
      refine ⟨by omega, by omega, CL_pure (s44 m (l[i].1.tmod 10) (by omega)) rfl ?_⟩
      refine WF x1 ?_
      refine ⟨by omega, by omega, CL_pure (s44 m (l[i].2.tmod 10) (by omega)) rfl ?_⟩
      refine WW ?_
      have e : List.take ((L.length + 1) * 2) (cells (y :: L)) ++ List.flatMap AV.cells [AV.agg [.str (tq ((l[i].1.tmod 10 : Int) : Rat)), .str (tq ((l[i].2.tmod 10 : Int) : Rat))]] = cells (y :: (L ++ [ptOf l[i]])) := by
        rw [← cl, List.take_length, ← List.cons_append, cells_append]; rfl
      refine ⟨by rw [cl]; omega, by omega, by omega, ?_⟩
      rw [e]
      refine hR (i + 1) _ ⟨by omega, by omega⟩ (by omega) ?_
      rw [hP]
      exact weak_one 1 rfl (cells_plain (y :: (L ++ [ptOf l[i]]))) (by simp [lookup, eI8, ptAV, AV.ren, AV.idsLt])
  · have hi' : ¬ i < l.length := by omega
    refine WF (And.intro @eI8.eq_1 (And.intro @List.length_map.{0,0} hi')) ?_
    rw [List.take_of_length_le (show l.length ≤ i by omega), List.take_of_length_le (show l.length ≤ 8 by omega)]
    exact pt_shows _

/-- klippelaw11.without -/
theorem s22 (m : Int) (c : List Pt) (i : Nat) (h1 : 1 ≤ i) (hi : i + 1 < c.length) (hn : c.length < 1000000) : SpecP (cx m) 22 [ePs c, .int .i64 i] (ePs (c.eraseIdx i)) := by
  refine specP_of (mixed m) (k22 m) (Nat.le_of_ble_eq_true rfl) (X_start ?_)
  unfold c22
  have e1 : (i : Int) + 1 = ((i + 1 : Nat) : Int) := by omega
  have ha : (c.take i).length = i := by simp; omega
  have hb : (c.drop (i + 1)).length = c.length - (i + 1) := by simp
  have ee : c.eraseIdx i = c.take i ++ c.drop (i + 1) := List.eraseIdx_eq_take_drop_succ c i
  have ta : List.take i (List.map (fun p : Pt => AV.agg [AV.str (tq p.1), AV.str (tq p.2)]) c) = (c.take i).map fun p : Pt => AV.agg [AV.str (tq p.1), AV.str (tq p.2)] := List.map_take.symm
  have tb : List.drop (i + 1) (List.take c.length (List.map (fun p : Pt => AV.agg [AV.str (tq p.1), AV.str (tq p.2)]) c)) = (c.drop (i + 1)).map fun p : Pt => AV.agg [AV.str (tq p.1), AV.str (tq p.2)] := by
    rw [List.take_of_length_le (by simp), ← List.map_drop]
  generalize c.take i = A at *
  generalize c.drop (i + 1) = B at *
  rcases A with _ | ⟨x, A⟩
  · simp at ha; omega
  rcases B with _ | ⟨y, B⟩
  · simp at hb; omega
  rw [List.length_cons] at ha hb
  rw [List.map_cons] at ta tb
  have fx : List.flatMap AV.cells (AV.agg [AV.str (tq x.1), AV.str (tq x.2)] :: List.map (fun p : Pt => AV.agg [AV.str (tq p.1), AV.str (tq p.2)]) A) = cells (x :: A) := pt_map (x :: A)
  have fy : List.flatMap AV.cells (AV.agg [AV.str (tq y.1), AV.str (tq y.2)] :: List.map (fun p : Pt => AV.agg [AV.str (tq p.1), AV.str (tq p.2)]) B) = cells (y :: B) := pt_map (y :: B)
  have cx' := cells_length (x :: A)
  rw [List.length_cons] at cx'
  refine WF (And.intro @ePs.eq_1 (And.intro @List.length_map.{0,0} (And.intro e1 (And.intro ta tb)))) ?_
  refine ⟨by omega, by omega, by omega, by omega, by rw [fx]; omega, by omega, by omega, ?_⟩
  rw [fx, fy, List.take_of_length_le (by omega), ← List.append_assoc, ← cells_append, ee]
  refine cells_shows (c := x :: A ++ y :: B) rfl ?_
  simp; omega

/-- klippelaw11.Same -/
theorem s23 (m : Int) (c : List Pt) (hn : c.length < 1000000) : SpecP (cx m) 23 [ePs c, ePs c] (.bool true) := by
  refine specP_of (mixed m) (k23 m) (Nat.le_of_ble_eq_true rfl) (X_start ?_)
  unfold c23
  refine WF (And.intro @ePs.eq_1 @List.length_map.{0,0}) ?_
  refine X_for (fun i : Nat => ⟨[(0, ePs c), (1, ePs c), (5, .int .i64 i)], []⟩) (fun i => i ≤ c.length) (fun i => c.length - i) 0 (Nat.zero_le _) (weak_keep (by simp [lookup, ePs])) ?_
  intro i R i1 hR
  try dsimp only at hR i1 ⊢
  rcases Nat.lt_or_ge i c.length with hi | hi
  · have x1 := get_pt hi
    refine WF (And.intro @ePs.eq_1 (And.intro @List.length_map.{0,0} (And.intro hi (And.intro x1 @and_self)))) ?_
    exact hR (i + 1) _ (by omega) (by omega) (weak_keep (by simp [lookup, ePs]))
  · have hi' : ¬ i < c.length := by omega
    refine WF (And.intro @ePs.eq_1 (And.intro @List.length_map.{0,0} hi')) ?_
    exact shb rfl
end Go.Proofs.YtkjnjdcbnelceaaGreatDoor.KA
end

section
/- The law PolylineSimplifies, from what the known examples come to. -/
open Go Go.Proofs
set_option linter.unusedSimpArgs false
set_option linter.unusedVariables false
set_option maxHeartbeats 2000000
set_option maxRecDepth 20000
namespace Go.Proofs.YtkjnjdcbnelceaaGreatDoor.KA
open Num Geo

def leastT (p : Int × Rat) : List UInt8 := if p.1 < 0 then [] else tq p.2

theorem s4 (m : Int) (hK : SpecP (cx m) 11 [] (.bool true)) (l : List (Int × Int)) (h8 : in8 l) (most : List UInt8) : SpecP (cx m) 4 [eI8 l, .str most] (.bool true) := by
  refine specP_of (mixed m) (k4 m) (Nat.le_of_ble_eq_true rfl) (X_start ?_)
  unfold c4
  have hp := s12g m l h8
  have hl8 : (l.take 8).length ≤ 8 := by simp; omega
  have hc := s13 m (pts (l.take 8)) (pts9 _) (by simp [pts]; omega)
  have h9 := pts9 (l.take 8)
  have hcl : (pts (l.take 8)).length ≤ 8 := by simpa [pts] using hl8
  unfold eI8 at hp
  refine WF @eI8.eq_1 ?_
  refine CL_pure hp rfl ?_
  generalize pts (l.take 8) = c at *
  refine WW ?_
  refine CL_pure hK rfl ?_
  by_cases l8 : 8 < l.length
  · have l8' := eq_true (show (8 : Int) < (l.length : Int) by omega)
    refine WF (And.intro @eI8.eq_1 (And.intro @List.length_map.{0,0} l8')) ?_
    refine CL_pure hK rfl ?_
    refine WW ?_
    exact shb rfl
  have l8' := eq_false (show ¬ (8 : Int) < (l.length : Int) by omega)
  by_cases m20 : 20 < most.length
  · have m20' := eq_true (show (20 : Int) < (most.length : Int) by omega)
    refine WF (And.intro @eI8.eq_1 (And.intro @List.length_map.{0,0} (And.intro l8' m20'))) ?_
    refine CL_pure hK rfl ?_
    refine WW ?_
    exact shb rfl
  have m20' := eq_false (show ¬ (20 : Int) < (most.length : Int) by omega)
  refine WF (And.intro @eI8.eq_1 (And.intro @List.length_map.{0,0} (And.intro l8' m20'))) ?_
  refine CL_pure hc rfl ?_
  by_cases z : checkL c = 0
  rotate_left
  · have z' := eq_false z
    refine WF z' ?_
    refine CL_pure hK rfl ?_
    refine WW ?_
    exact shb rfl
  obtain ⟨c2, ca, cP⟩ := checked z
  have z' := eq_true z
  by_cases hq : ∃ q, most = tq q
  rotate_left
  · have h16 := s16n m c most h9 c2 (by omega) cP (by omega) hq
    have h17 := s17s m most (by omega) false ⟨fun h => (Bool.false_ne_true h).elim, fun h => absurd h hq⟩
    refine WF z' ?_
    refine CL_pure h16 rfl ?_
    refine WW ?_
    refine CL_pure h17 rfl ?_
    refine WW ?_
    exact shb rfl
  obtain ⟨q, rfl⟩ := hq
  have m20'' : (tq q).length ≤ 20 := by omega
  have h17 := s17s m (tq q) (by omega) true ⟨fun _ => ⟨q, rfl⟩, fun _ => rfl⟩
  by_cases q0 : q < 0
  · have h16 := s16m m c q h9 c2 (by omega) cP m20'' q0
    have sgm := eq_true (show sg q < 0 by rcases Int.lt_or_le (sg q) 0 with h | h; exact h; have := sg_ge.1 h; grind)
    refine WF z' ?_
    refine CL_pure h16 rfl ?_
    refine WW ?_
    refine CL_pure h17 rfl ?_
    refine WW ?_
    refine CL_pure (s18' m q) rfl ?_
    refine WF sgm ?_
    exact shb rfl
  have q1 : 0 ≤ q := by grind
  have h16 := s16g m c q h9 c2 (by omega) cP m20'' q1
  have sgm := eq_false (show ¬ sg q < 0 by have := sg_ge.2 q1; omega)
  have hm := dq20 m20''
  obtain ⟨s9, s2, sl, sD, sN⟩ := simp_end hm c.length c h9 c2 (by omega) (by rw [← checkD_eq]; exact cP)
  have again := s16g m (simpS c.length c q) q s9 s2 (by omega) (by rw [checkD_eq]; exact sD) m20'' q1
  rw [simp_same sN] at again
  generalize hS : simpS c.length c q = S at *
  have hsame := s23 m S (by omega)
  refine WF z' ?_
  refine CL_pure h16 rfl ?_
  refine WW ?_
  refine CL_pure h17 rfl ?_
  refine WW ?_
  refine CL_pure (s18' m q) rfl ?_
  refine WF sgm ?_
  refine X_for (fun L : List Pt => ⟨[(1, .str (tq q)), (5, ePs L), (6, ePs S), (7, .int .i64 0)], []⟩) (fun L => all9 L ∧ 2 ≤ L.length ∧ L.length ≤ 8 ∧ simpS L.length L q = S) (fun L => L.length) c ⟨h9, c2, hcl, hS⟩ (weak_keep (by simp [lookup])) ?_
  intro L R ⟨l9, l2, l88, lS⟩ hR
  try dsimp only at hR ⊢ l2 l88 lS
  refine WW ?_
  refine X_for (fun n : Nat => ⟨[(1, .str (tq q)), (5, ePs L), (6, ePs S), (7, .int .i64 0), (8, .int .i64 (pickS L q n).1), (9, .str (leastT (pickS L q n))), (10, .int .i64 (n + 1 : Nat))], []⟩)
    (fun n => n + 2 ≤ L.length) (fun n => L.length - n) 0 (by omega) ?_ ?_
  · exact weak_keep (by simp [lookup, pickS, leastT])
  intro n R' n1 hR'
  try dsimp only at hR' ⊢ n1
  have e1 : (((n + 1 : Nat) : Int) + 1) = ((n + 2 : Nat) : Int) := by omega
  have e0 : (((n + 1 : Nat) : Int) - 1) = (n : Int) := by omega
  obtain ⟨k1, k2⟩ := pick_okg l9 hm n (by omega)
  rcases Nat.lt_or_ge (n + 2) L.length with hn | hn
  · have x0 := get_pt (show n < L.length by omega)
    have x1 := get_pt (show n + 1 < L.length by omega)
    have x2 := get_pt hn
    have ha := s20 m _ _ _ (l9.get (show n < L.length by omega)) (l9.get (show n + 1 < L.length by omega)) (l9.get hn)
    unfold eP at ha
    have h19 : SpecP (cx m) 19 [.str (tq (ar (at' L n) (at' L (n + 1)) (at' L (n + 2))))] (.str (tq (triS L (n + 1)))) := s19 m _
    have qt : qk (triS L (n + 1)) := by
      unfold triS
      exact qk1 (bd_abs (bd_ar (l9.get (by omega)) (l9.get (by omega)) (l9.get (by omega))))
    have hstep := step_law L q n
    have es : pickS L q (n + 1) = stepS L (n + 1) (pickS L q n) := rfl
    have hnext : ∀ t, weak 0 t ⟨[(1, .str (tq q)), (5, ePs L), (6, ePs S), (7, .int .i64 0), (8, .int .i64 (pickS L q (n + 1)).1), (9, .str (leastT (pickS L q (n + 1)))), (10, .int .i64 (n + 1 + 1 : Nat))], []⟩ → R' t := fun t ht => hR' (n + 1) t (by omega) (by omega) ht
    unfold stepS at es
    have h22 := s22 m L (n + 1) (by omega) hn (by omega)
    have lel := List.length_eraseIdx_of_lt (l := L) (i := n + 1) (by omega)
    have le2 : 2 ≤ (L.eraseIdx (n + 1)).length := by omega
    have h13 := s13 m (L.eraseIdx (n + 1)) (l9.erase _) (by omega)
    have h21 := s21g m (triS L (n + 1)) q (qk_dq qt) hm
    have h21b := s21g m (triS L (n + 1)) (pickS L q n).2 (qk_dq qt) k2
    refine WF (And.intro @ePs.eq_1 (And.intro @List.length_map.{0,0} (And.intro e0 (And.intro e1 (And.intro hn (And.intro x0 (And.intro x1 x2))))))) ?_
    refine CL_pure ha rfl ?_
    refine WW ?_
    refine CL_pure h19 rfl ?_
    refine WW ?_
    refine CL_pure h21 rfl ?_
    by_cases c1 : 0 < cm (triS L (n + 1)) q
    · have c1' := eq_true c1
      rw [if_pos (hstep.2 (.inl c1))] at es
      refine WF c1' ?_
      refine hnext _ ?_
      rw [es]
      exact weak_keep (by simp [lookup, ePs])
    have c1' := eq_false c1
    by_cases b0 : (pickS L q n).1 < 0
    · have b0' := eq_false (show ¬ 0 ≤ (pickS L q n).1 by omega)
      have hno : ¬ (cm (triS L (n + 1)) (pickS L q n).2 > 0 ∨ (cm (triS L (n + 1)) (pickS L q n).2 = 0 ∧ (pickS L q n).1 ≥ 0)) := fun h => by
        rcases hstep.1 h with h | h
        · exact c1 h
        · omega
      refine WF (And.intro c1' b0') ?_
      refine CL_pure h22 rfl ?_
      refine WW ?_
      refine CL_pure h13 rfl ?_
      by_cases zz : checkL (L.eraseIdx (n + 1)) = 0
      · have zz' := eq_true zz
        rw [if_neg hno, if_pos ((checkL_iff le2).1 zz)] at es
        refine WF zz' ?_
        refine hnext _ ?_
        rw [es]
        refine weak_keep ?_
        have e5 : ¬ (n : Int) + 1 < 0 := by omega
        simp [lookup, leastT, e5, ePs]
      · have zz' := eq_false zz
        rw [if_neg hno, if_neg (fun h => zz ((checkL_iff le2).2 h))] at es
        refine WF zz' ?_
        refine hnext _ ?_
        rw [es]
        refine weak_keep ?_
        first | (simp [lookup, ePs]; done) | (simp [lookup, ePs, leastT, b0]; done)
    · have b0' := eq_true (show 0 ≤ (pickS L q n).1 by omega)
      have hlt : leastT (pickS L q n) = tq (pickS L q n).2 := if_neg b0
      by_cases c2 : 0 ≤ cm (triS L (n + 1)) (pickS L q n).2
      · have c2' := eq_true c2
        rw [if_pos (hstep.2 (.inr ⟨by omega, c2⟩))] at es
        refine WF (And.intro c1' (And.intro b0' hlt)) ?_
        refine CL_pure h21b rfl ?_
        refine WF c2' ?_
        refine hnext _ ?_
        rw [es]
        exact weak_keep (by simp [lookup, ePs, hlt])
      · have c2' := eq_false c2
        have hno : ¬ (cm (triS L (n + 1)) (pickS L q n).2 > 0 ∨ (cm (triS L (n + 1)) (pickS L q n).2 = 0 ∧ (pickS L q n).1 ≥ 0)) := fun h => by
          rcases hstep.1 h with h | h
          · exact c1 h
          · exact c2 h.2
        refine WF (And.intro c1' (And.intro b0' hlt)) ?_
        refine CL_pure h21b rfl ?_
        refine WF c2' ?_
        refine CL_pure h22 rfl ?_
        refine WW ?_
        refine CL_pure h13 rfl ?_
        by_cases zz : checkL (L.eraseIdx (n + 1)) = 0
        · have zz' := eq_true zz
          rw [if_neg hno, if_pos ((checkL_iff le2).1 zz)] at es
          refine WF zz' ?_
          refine hnext _ ?_
          rw [es]
          refine weak_keep ?_
          have e5 : ¬ (n : Int) + 1 < 0 := by omega
          simp [lookup, leastT, e5, ePs]
        · have zz' := eq_false zz
          rw [if_neg hno, if_neg (fun h => zz ((checkL_iff le2).2 h))] at es
          refine WF zz' ?_
          refine hnext _ ?_
          rw [es]
          refine weak_keep ?_
          first | (simp [lookup, ePs]; done) | (simp [lookup, ePs, leastT, b0]; done)
  · have en : n = L.length - 2 := by omega
    have hn' : ¬ n + 2 < L.length := by omega
    obtain ⟨f, hf⟩ : ∃ f, L.length = f + 1 := ⟨L.length - 1, by omega⟩
    by_cases b0 : (pickS L q n).1 < 0
    · have b0' := eq_true b0
      have hSL : S = L := by
        rw [← lS]
        exact simp_same (by unfold nextS; rw [← en, if_pos b0]) _
      subst hSL
      unfold ePs at again hsame
      refine WF (And.intro @ePs.eq_1 (And.intro @List.length_map.{0,0} (And.intro e1 (And.intro hn' b0')))) ?_
      refine CL_pure again rfl ?_
      refine WW ?_
      refine CL_pure hsame rfl ?_
      refine WW ?_
      refine CL_pure hsame rfl ?_
      refine WW ?_
      exact shb rfl
    · have b0' := eq_false b0
      rcases k1 with h | ⟨j, h, j1, j2⟩
      · omega
      have h22 := s22 m L j j1 (by omega) (by omega)
      have le := List.length_eraseIdx_of_lt (l := L) (i := j) (by omega)
      have hN : nextS L q = some (L.eraseIdx j) := by
        unfold nextS
        rw [← en, if_neg b0, h]; rfl
      have hS' : simpS (L.eraseIdx j).length (L.eraseIdx j) q = S := by
        rw [← lS, le, hf]
        show simpS (f + 1 - 1) _ q = (match nextS L q with | none => L | some L' => simpS f L' q)
        rw [hN]
        rfl
      rw [h] at b0'
      unfold ePs at h22
      refine WF (And.intro @ePs.eq_1 (And.intro @List.length_map.{0,0} (And.intro e1 (And.intro hn' (And.intro h b0'))))) ?_
      refine CL_pure h22 rfl ?_
      refine WW ?_
      exact hR (L.eraseIdx j) _ ⟨l9.erase j, by omega, by omega, hS'⟩ (by omega) (weak_keep (by simp [lookup, ePs]))
end Go.Proofs.YtkjnjdcbnelceaaGreatDoor.KA
end

section
/- From a row's condition to the walk's contracts, and back. -/
open Go Go.Proofs
open Go.ChangeShapes Go.WideShapes Go.ChangeAt Go.RowKit
set_option linter.unusedSimpArgs false
namespace Go.Proofs.YtkjnjdcbnelceaaGreatDoor.KA

theorem Pres.below {w w' : World} {fz fz' : Nat → Prop} (h : Pres w (fun _ => False) fz w' fz') : Below w.heap.size w w' :=
  ⟨h.os, h.tape, h.output, h.size, fun b hb => h.block b hb (fun x => x)⟩

section
variable {H : Type} {enc : TypeId × Value → H}
/-- The row's wrap, with what the row lists and the world's shape handed on. -/
theorem handed_both {a : Assume} {C : Checked} {os : Os} {f : FuncId} {fn : Func} {s : ChangeSpec} {conds : List PathCond} {apart fresh handsOn again : Bool} {X : World → Array Value → Prop}
    (hX : ∀ (w w' : World) (args : Array Value), w.heap = w'.heap → X w args → X w' args)
    (own : ownKnob C.prog.godebug = none) (started : os.Started) (noInit : C.prog.inits.idxOf? f = none) (hfn : C.prog.funcs[f]? = some fn)
    (witness : ∃ (w : World) (tape : Tape) (i : Input), w.os = os ∧ (w.forCall tape i).Shaped C.prog ∧ i.vars = [] ∧ Input.okWide C.prog (w.forCall tape i) .any w.heap.size f i ∧
      ((s.pre enc C.prog fn conds apart (w.forCall tape i).memory i.args ∧ X (w.forCall tape i).memory i.args) ∧ sizedMet enc C.prog fn (OpenSpec.ofChange s) apart (w.forCall tape i).memory i.args) ∧ a.holds C.prog (lone (Frame.enter C.prog f i.args .normal) [] (w.forCall tape i)))
    (contract : ∀ (W : World) (base : Nat) (args : Array Value) (ds gs : List (DataW H)) (before : List MemPlace),
      (∀ (j : Nat) t v, fn.params[j]? = some t → args[j]? = some v → Value.okWide C.prog W .any base t v) →
      DataW.Whole enc C.prog fn.params.toList s.vars apart W args.toList ds gs before →
      conds.all (PathCond.test C.prog ⟨fn.params.toList, ds, s.plain.varTypes C.prog, gs⟩) = true →
      (DataW.weightsEach C.prog (fn.params.toList ++ s.plain.varTypes C.prog) (ds ++ gs)).all (· ≤ reachBytes) = true → X W args → W.ShapedOpen C.prog →
      Calls C.prog f args W fun e W' => ∃ v, e = .returned v ∧ s.post enc C.prog fn apart fresh handsOn again W args v W') :
    ReturnsInHanded a C os f .any (fun w args => (s.pre enc C.prog fn conds apart w args ∧ X w args) ∧ sizedMet enc C.prog fn (OpenSpec.ofChange s) apart w args) (s.post enc C.prog fn apart fresh handsOn again) := by
  refine returnsInHanded_of_calls own started noInit witness ?_
  intro w tape i _ hsh _ hok hpre _
  obtain ⟨_, _, _, fn', hfn', _, _, _, _, hval⟩ := hok
  have e : fn' = fn := Option.some.inj (hfn'.symm.trans hfn)
  subst e
  obtain ⟨⟨⟨ds, gs, before, hw, hc⟩, hx⟩, hz⟩ := hpre
  have hw' := DataW.Whole.of_heap (w' := w.forCall tape i) (by rfl) hw
  refine (contract (w.forCall tape i) w.heap.size i.args ds gs before hval hw' hc (hz.weights hw) (hX _ _ _ (by rfl) hx) hsh).mono fun e W' ⟨v, he, hp⟩ => ?_
  subst he
  exact ChangeSpec.post_blind hp

theorem pair_at {x y : Int × Int → AV} : ∀ (l : List (Int × Int)) (k : Nat) (a : AV), (l.flatMap fun p => [x p, y p])[k]? = some a →
    ∃ i p, l[i]? = some p ∧ ((k = i * 2 ∧ a = x p) ∨ (k = i * 2 + 1 ∧ a = y p))
  | [], k, a, h => by simp at h
  | p :: l, 0, a, h => by
    simp only [List.flatMap_cons, List.cons_append, List.getElem?_cons_zero, Option.some.injEq] at h
    exact ⟨0, p, rfl, .inl ⟨rfl, h.symm⟩⟩
  | p :: l, 1, a, h => by
    simp only [List.flatMap_cons, List.cons_append, List.getElem?_cons_succ, List.getElem?_cons_zero, Option.some.injEq] at h
    exact ⟨0, p, rfl, .inr ⟨rfl, h.symm⟩⟩
  | p :: l, k + 2, a, h => by
    simp only [List.flatMap_cons, List.cons_append, List.getElem?_cons_succ, List.nil_append] at h
    obtain ⟨i, q, hq, hh⟩ := pair_at l k a h
    refine ⟨i + 1, q, by simpa using hq, ?_⟩
    rcases hh with ⟨h1, h2⟩ | ⟨h1, h2⟩
    · exact .inl ⟨by omega, h2⟩
    · exact .inr ⟨by omega, h2⟩

theorem plain_add (b off n : Nat) : (⟨b, off, none⟩ : Addr).add n = ⟨b, off + n, none⟩ := by
  unfold Addr.add; split <;> simp_all

/-- A slice of pairs of int8, read. -/
theorem open_pairs {P : Program} {W : World} {base0 : Nat} {t e u : TypeId} {v : Value} {d : DataW H} {p : List MemPlace}
    (ht : P.underlying t = some (.slice e)) (he : P.underlying e = some (.array 2 u)) (hu : P.underlying u = some (.int .i8)) (hc : P.cellsOf e = 2) (hcu : P.cellsOf u = 1)
    (hok : Value.okWide P W .any base0 t v) (h : DataW.Trod enc P W 0 (fun _ => true) true t v d p) :
    ∃ l : List (Int × Int), (∀ q ∈ l, (-128 ≤ q.1 ∧ q.1 ≤ 127) ∧ (-128 ≤ q.2 ∧ q.2 ≤ 127)) ∧ RF W (· < W.heap.size) (.sl 2 (l.map fun q => .agg [.int .i8 q.1, .int .i8 q.2])) v := by
  obtain ⟨fuel, hf⟩ := h
  obtain ⟨a, len, cap, rfl⟩ := okWide_slice ht hok
  rcases DataW.trod_slice ht hf with ⟨h1, _⟩ | ⟨a, len', cap', elems, rest, n, _, h1, _, _, hl, hm, hlen, hel, _, _⟩
  · simp only [Value.cells, List.cons.injEq, Value.slice.injEq, and_true] at h1
    obtain ⟨rfl, rfl, rfl⟩ := h1
    exact ⟨[], by simp, .slnil 2⟩
  simp only [Value.cells, List.cons.injEq, Value.slice.injEq, and_true] at h1
  obtain ⟨rfl, rfl, rfl⟩ := h1
  have hh : W.has P .any base0 a e cap := by
    unfold Value.okWide at hok
    simp only [ht] at hok
    unfold Cell.okWide at hok
    simp only [ht] at hok
    unfold Cell.ok at hok
    simp only [ht] at hok
    exact hok.2.2
  obtain ⟨_, hspot, row, cells, hshape, _⟩ := hh
  obtain ⟨b, off, spot⟩ := a
  obtain rfl : spot = none := hspot
  have hb : b < W.heap.size := by
    rcases Nat.lt_or_ge b W.heap.size with h' | h'
    · exact h'
    · simp [World.shape?, Array.getElem?_eq_none h'] at hshape
  have each : ∀ i, i < len → ∃ q : Int × Int, ((-128 ≤ q.1 ∧ q.1 ≤ 127) ∧ (-128 ≤ q.2 ∧ q.2 ≤ 127)) ∧ W.cell? ⟨b, off + i * 2, none⟩ = some (.int .i8 q.1) ∧ W.cell? ⟨b, off + (i * 2 + 1), none⟩ = some (.int .i8 q.2) := by
    intro i hi
    have h2 := hel i hi
    rw [List.getElem?_eq_getElem (by omega), hc, plain_add, Option.bind_eq_some_iff] at h2
    obtain ⟨cs, hcs, hy⟩ := h2
    obtain ⟨_, hcl, hcell⟩ := World.cells?_some hcs
    obtain ⟨xs, m, _, _, _, hxl, hx⟩ := DataW.trod_array he hy
    have c0 := hx 0 (by omega)
    have c1 := hx 1 (by omega)
    rw [List.getElem?_eq_getElem (by omega), hcu] at c0 c1
    obtain ⟨n0, e0, _, w0⟩ := DataW.trod_int hu c0
    obtain ⟨n1, e1, _, w1⟩ := DataW.trod_int hu c1
    match cs, hcl with
    | [v0, v1], _ =>
      simp only [Nat.zero_mul, Nat.one_mul, List.drop_zero, List.drop_succ_cons, List.take_succ_cons, List.take_zero, List.cons.injEq, and_true] at e0 e1
      have z0 := hcell 0 (by omega)
      have z1 := hcell 1 (by omega)
      rw [plain_add] at z0 z1
      refine ⟨(n0, n1), ⟨bounds_i8 w0, bounds_i8 w1⟩, ?_, ?_⟩
      · rw [show off + i * 2 + 0 = off + i * 2 by omega] at z0
        rw [z0]; simp [e0]
      · rw [show off + i * 2 + 1 = off + (i * 2 + 1) by omega] at z1
        rw [z1]; simp [e1]
  have pick : ∀ i, ∃ q : Int × Int, i < len → ((-128 ≤ q.1 ∧ q.1 ≤ 127) ∧ (-128 ≤ q.2 ∧ q.2 ≤ 127)) ∧ W.cell? ⟨b, off + i * 2, none⟩ = some (.int .i8 q.1) ∧ W.cell? ⟨b, off + (i * 2 + 1), none⟩ = some (.int .i8 q.2) := by
    intro i
    by_cases hi : i < len
    · obtain ⟨q, hq⟩ := each i hi
      exact ⟨q, fun _ => hq⟩
    · exact ⟨(0, 0), fun h => absurd h hi⟩
  refine ⟨(List.range len).map fun i => Classical.choose (pick i), ?_, ?_⟩
  · intro q hq
    obtain ⟨i, hi, rfl⟩ := List.mem_map.1 hq
    exact (Classical.choose_spec (pick i) (List.mem_range.1 hi)).1
  have main : ∀ k x, ((((List.range len).map fun i => Classical.choose (pick i)).map fun q => AV.agg [.int .i8 q.1, .int .i8 q.2]).flatMap AV.cells)[k]? = some x →
      ∃ n, x = .int .i8 n ∧ W.cell? ⟨b, off + k, none⟩ = some (.int .i8 n) := by
    intro k x hx
    rw [List.flatMap_map] at hx
    obtain ⟨i, q, hq, hh⟩ := pair_at (x := fun q => AV.int .i8 q.1) (y := fun q => AV.int .i8 q.2) _ _ _ hx
    simp only [List.getElem?_map, Option.map_eq_some_iff] at hq
    obtain ⟨j, hj, rfl⟩ := hq
    have hi : i < len := by
      rcases Nat.lt_or_ge i len with h' | h'
      · exact h'
      · rw [List.getElem?_eq_none (by simpa using h')] at hj; cases hj
    have hji : j = i := by
      rw [List.getElem?_range hi] at hj
      exact (Option.some.inj hj).symm
    subst hji
    have sp := Classical.choose_spec (pick j) hi
    rcases hh with ⟨rfl, rfl⟩ | ⟨rfl, rfl⟩
    · exact ⟨_, rfl, sp.2.1⟩
    · exact ⟨_, rfl, sp.2.2⟩
  have hlen' : (((List.range len).map fun i => Classical.choose (pick i)).map fun q => AV.agg [.int .i8 q.1, .int .i8 q.2]).length = len := by simp
  have hR := RF.sl (w := W) (fz := (· < W.heap.size)) 2 (((List.range len).map fun i => Classical.choose (pick i)).map fun q => AV.agg [.int .i8 q.1, .int .i8 q.2]) b off cap (fun k => (W.cell? ⟨b, off + k, none⟩).getD undef) hb (by rw [hlen']; exact hl)
    (by intro x hx; obtain ⟨q, _, rfl⟩ := List.mem_map.1 hx; rfl)
    (by intro k x hx; obtain ⟨n, rfl, e⟩ := main k x hx; simp only [e, Option.getD_some])
    (by intro k x hx; obtain ⟨n, rfl, e⟩ := main k x hx; simp only [e, Option.getD_some]; exact .int _ _)
  rw [hlen'] at hR
  exact hR

/-- A variable of one integer. -/
theorem glob_int {W : World} {g : Nat} {k : IntKind} {n : Int} (h : W.cell? ⟨g, 0, none⟩ = some (.int k n)) (hs : ∃ cs ty fr, W.heap[g]? = some (.cells cs ty fr) ∧ cs.size = 1) :
    RF W (· < W.heap.size) (.fp [.int k n]) (.pointer (some ⟨g, 0, none⟩)) ∧ g < W.heap.size ∧ ∃ arr ty fr, W.heap[g]? = some (.cells arr ty fr) ∧ arr.size = [AV.int k n].length := by
  obtain ⟨cs, ty, fr, hh, hz⟩ := hs
  have hg : g < W.heap.size := by
    rcases Nat.lt_or_ge g W.heap.size with h' | h'
    · exact h'
    · rw [Array.getElem?_eq_none h'] at hh; cases hh
  refine ⟨.fp _ g 0 (fun _ => .int k n) hg ?_ ?_, hg, cs, ty, fr, hh, hz⟩
  · intro j a hj
    match j, hj with
    | 0, hj => exact h
  · intro j a hj
    match j, hj with
    | 0, hj => simp at hj; subst hj; exact .int _ _

/-- A laid table of integers. -/
theorem glob_tab {P : Program} {W : World} {name : String} {g : Nat} {k : IntKind} {zs : List Int} (h : Lib.TabIs P W name k zs) (hg : P.globalNamed name = some g) :
    RF W (· < W.heap.size) (.fp (zs.map (AV.int k))) (.pointer (some ⟨g, 0, none⟩)) ∧ g < W.heap.size ∧ ∃ arr ty fr, W.heap[g]? = some (.cells arr ty fr) ∧ arr.size = (zs.map (AV.int k)).length := by
  have h0 := h
  unfold Lib.TabIs World.var? at h
  simp only [hg, Option.bind_some] at h
  obtain ⟨arr, ty, fr, hh, he⟩ : ∃ arr ty fr, W.heap[g]? = some (.cells arr ty fr) ∧ arr = (zs.map fun z => Value.int k z).toArray := by
    split at h
    · rename_i cs a b e; exact ⟨_, _, _, e, Option.some.inj h⟩
    · cases h
  have hlt : g < W.heap.size := by
    rcases Nat.lt_or_ge g W.heap.size with h' | h'
    · exact h'
    · rw [Array.getElem?_eq_none h'] at hh; cases hh
  refine ⟨.fp _ g 0 (fun j => .int k (zs.getD j 0)) hlt ?_ ?_, hlt, arr, ty, fr, hh, by simp [he]⟩
  · intro j a hj
    have hj' : j < zs.length := by
      rcases Nat.lt_or_ge j zs.length with h' | h'
      · exact h'
      · rw [List.getElem?_eq_none (by simpa using h')] at hj; cases hj
    rw [Nat.zero_add]
    exact Lib.TabIs.cell h0 hg j hj'
  · intro j a hj
    simp only [List.getElem?_map, Option.map_eq_some_iff] at hj
    obtain ⟨z, hz, rfl⟩ := hj
    have : zs.getD j 0 = z := by simp [List.getD, hz]
    rw [this]
    exact .int _ _

/-- The third variable of a list, a table. -/
theorem tabIs_third {P : Program} {W : World} {name : String} {k : IntKind} {zs : List Int} {x1 x2 : String × DataW Unit} {rest : List (String × DataW Unit)} {g : Nat} {t e : TypeId} {n : Nat}
    (hg : P.globalNamed name = some g) (hty : (P.globals[g]?).map (·.type) = some t) (ht : P.underlying t = some (.array n e)) (he : P.underlying e = some (.int k)) (hce : P.cellsOf e = 1) (hct : P.cellsOf t = n)
    (h : laidMet P (x1 :: x2 :: (name, Lib.tabData k zs) :: rest) W) : Lib.TabIs P W name k zs := by
  obtain ⟨ps, ⟨_, _, _, _, _, _, _, _, _, _, ⟨_, _, _, _, _, _, _, _, _, _, ⟨g', t', cs, fuel, p, q, hg', ht', hvar, hd, _, _⟩, _⟩, _⟩, _⟩ := h
  obtain rfl := Option.some.inj (hg.symm.trans hg')
  obtain rfl := Option.some.inj (hty.symm.trans ht')
  unfold Lib.TabIs
  rw [hvar, ← Lib.cells_of_tab ht he hce hct hd]

end
end Go.Proofs.YtkjnjdcbnelceaaGreatDoor.KA
end

section
/- The rows' frame at this seat: the world that fits, and what a row's condition gives a walk. -/
open Go Go.Proofs
open Go.ChangeShapes Go.WideShapes Go.ChangeAt Go.RowKit
set_option linter.unusedSimpArgs false
namespace Go.Proofs.YtkjnjdcbnelceaaGreatDoor.KA
theorem own : ownKnob Tryz.prog.godebug = none := by kernel_rfl
theorem laidOut : laidOutB Tryz.prog = true := by kernel_rfl
/-- What the rows list. -/
def laidL : List (String × DataW Unit) := [("math/bits.deBruijn32tab", Rows.laid_math_bits_deBruijn32tab), ("math/bits.deBruijn64tab", Rows.laid_math_bits_deBruijn64tab), ("internal/strconv.uint64pow10", Rows.laid_internal_strconv_uint64pow10), ("strconv.ErrRange", Rows.laid_strconv_ErrRange), ("strconv.ErrSyntax", Rows.laid_strconv_ErrSyntax)]
theorem laidL_plain : (laidL.filter fun x => x.2.handleName?.isSome) = [] := by kernel_rfl
theorem laid_of {W : World} (h : laidMetH Tryz.prog laidL W) : laidMet Tryz.prog laidL W := by
  unfold laidMetH at h
  rw [laidL_plain] at h
  exact h
theorem laid_to {W : World} (h : laidMet Tryz.prog laidL W) : laidMetH Tryz.prog laidL W := by
  unfold laidMetH
  rw [laidL_plain]
  exact h
theorem laid_world (os : Os) (args : Array Value) : laidMetH Tryz.prog laidL ((World.laidAll Tryz.prog os laidL).forCall (fun _ _ => 0) ⟨#[], args, []⟩).memory :=
  laid_to (laidMet_laidAll _ (by kernel_rfl) (by kernel_rfl))
theorem laid_shaped (os : Os) (args : Array Value) : ((World.laidAll Tryz.prog os laidL).forCall (fun _ _ => 0) ⟨#[], args, []⟩).Shaped Tryz.checked.prog :=
  World.shaped_of_ZipB (by kernel_rfl) (by kernel_rfl)
theorem p10_type : (Tryz.prog.globals[3]?).map (·.type) = some 272 := by kernel_rfl
theorem p10_cells : Tryz.prog.cellsOf 272 = 20 := by kernel_rfl
theorem u64_cells : Tryz.prog.cellsOf 178 = 1 := by kernel_rfl
theorem pair_cells : Tryz.prog.cellsOf 81 = 2 := by kernel_rfl
theorem i8_cells : Tryz.prog.cellsOf 80 = 1 := by kernel_rfl
theorem p10_laid {W : World} (h : laidMetH Tryz.prog laidL W) : Lib.TabIs Tryz.prog W "internal/strconv.uint64pow10" .u64 Lib.pow10Tab :=
  tabIs_third p10_at p10_type Tryz.underlying272 Tryz.underlying178 u64_cells p10_cells (laid_of h)
theorem max_shape : ((begin Tryz.prog (fun _ _ => 0) default).world.heap[0]?).bind Obj.row? = some (#[.int .i64 0], 3) := by kernel_rfl
theorem max_cell {W : World} (h : W.ShapedOpen Tryz.prog) : ∃ m, W.cell? ⟨0, 0, none⟩ = some (.int .i64 m) :=
  cell_of_shapedOpen_int h (of_decide_eq_true (by kernel_rfl)) max_shape rfl (by kernel_rfl) (by kernel_rfl) Tryz.underlying3
/-- The variables, at a row's first world. -/
theorem glob_of {W : World} (hL : laidMetH Tryz.prog laidL W) (hS : W.ShapedOpen Tryz.prog) : ∃ m, Glob (cx m).gt W (· < W.heap.size) := by
  obtain ⟨m, hm⟩ := max_cell hS
  obtain ⟨cs, hh, hz, _⟩ := hS.1 0 _ _ (of_decide_eq_true (by kernel_rfl)) max_shape
  refine ⟨m, fun p hp => ?_⟩
  rcases List.mem_cons.1 hp with rfl | hp
  · exact glob_int hm ⟨cs, _, _, hh, by simpa using hz⟩
  · obtain rfl := List.mem_singleton.1 hp
    exact glob_tab (p10_laid hL) p10_at
/-- A contract of a function of two arguments, at such a world. -/
theorem calls_of {W : World} (hL : laidMetH Tryz.prog laidL W) (hS : W.ShapedOpen Tryz.prog) {f : FuncId} {ls : List AV} {vs : Array Value} {b : Bool} (hc : ∀ m, SpecP (cx m) f ls (.bool b)) (hv : RFs W (· < W.heap.size) ls vs) :
    Calls Tryz.prog f vs W fun e W' => e = .returned (.bool b) ∧ Below W.heap.size W W' := by
  obtain ⟨m, hg⟩ := glob_of hL hS
  refine ((hc m).2 W (· < W.heap.size) vs (fun _ h => h) hg hv).mono fun e W' ⟨v, fz', he, hr, _, hp⟩ => ?_
  cases hr
  exact ⟨he, hp.below⟩
end Go.Proofs.YtkjnjdcbnelceaaGreatDoor.KA
end

section
/- The row of PolylineSimplifies. -/
open Go Go.Proofs
open Go.ChangeShapes Go.WideShapes Go.ChangeAt Go.RowKit
set_option linter.unusedSimpArgs false
namespace Go.Proofs.YtkjnjdcbnelceaaGreatDoor.KA
theorem RFs_pair {w : World} {fz : Nat → Prop} {a b : AV} {u v : Value} (h : RF w fz a u) (k : RF w fz b v) : RFs w fz [a, b] #[u, v] :=
  ⟨rfl, fun i x hx => by
    match i, hx with
    | 0, hx => simp at hx; subst hx; exact h
    | 1, hx => simp at hx; subst hx; exact k⟩
theorem read22s : Tryz.prog.readableRec 22 = true := by kernel_rfl
theorem row22s : 22 < Tryz.prog.types.size := of_decide_eq_true (by kernel_rfl)
theorem read33 : Tryz.prog.readableRec 33 = true := by kernel_rfl
theorem row33 : 33 < Tryz.prog.types.size := of_decide_eq_true (by kernel_rfl)
/-- klippelaw11.PolylineSimplifies, whole -/
theorem simplifies (m : Int) (l : List (Int × Int)) (hl : in8 l) (most : List UInt8) : SpecP (cx m) 4 [eI8 l, .str most] (.bool true) :=
  s4 m (s11 m) l hl most
set_option maxRecDepth 100000 in
theorem simplifies_lifted (os : Os) (started : os.Started) (H : Type) (enc : TypeId × Value → H) :
    ReturnsInHanded {} Tryz.checked os 4 .any (fun w args => (Rows.polylineSimplifiesSpec.pre enc Tryz.prog Tryz.f4 [] false w args ∧ laidMetH Tryz.prog laidL w) ∧ sizedMet enc Tryz.prog Tryz.f4 (OpenSpec.ofChange Rows.polylineSimplifiesSpec) false w args)
      (Rows.polylineSimplifiesSpec.post enc Tryz.prog Tryz.f4 false true false false) := by
  refine handed_both (C := Tryz.checked) (X := fun w _ => laidMetH Tryz.prog laidL w) (fun _ _ _ hh h => h.of_heap hh) own started (by kernel_rfl) Tryz.func4
    (ChangeSpec.witness_shaped (enc := enc) (C := Tryz.checked) (os := os) (X := fun w _ => laidMetH Tryz.prog laidL w) false (World.laidAll Tryz.prog os laidL) #[.slice none 0 0, .string ⟨#[]⟩] 8 (World.laidAll_os _ _ _)
      (laid_shaped os _) (by kernel_rfl) (by kernel_rfl) (by kernel_rfl) (laid_world os _)) ?_
  intro W base args ds gs before hval0 hW _ _ hL hS
  have hval : ∀ (j : Nat) t v, Tryz.f4.params[j]? = some t → args[j]? = some v → Value.okWide Tryz.prog W .any base t v := hval0
  have hW' := hW
  obtain ⟨p, q, hA0, hV, rfl, _, _⟩ := hW
  have hA : DataW.TrodAll enc Tryz.prog W 0 (fun _ => true) true Tryz.f4.params.toList args.toList ds p := hA0
  rw [Tryz.params4] at hA hval
  obtain ⟨v0, v1, d0, d1, p0, p1, rfl, rfl, rfl, h0, h1⟩ := trodAll_two hA
  obtain ⟨rfl, rfl⟩ := trodVars_none hV
  obtain ⟨l, hl, fl⟩ := open_pairs Tryz.underlying22 Tryz.underlying81 Tryz.underlying80 pair_cells i8_cells (hval 0 22 v0 rfl rfl) h0
  obtain ⟨⟨⟨most⟩⟩, rfl⟩ := okWide_string Tryz.underlying33 (hval 1 33 v1 rfl rfl)
  have hlt := hW'.lt
  refine (calls_of hL hS (fun m => simplifies m l hl most) (RFs_pair fl (.str most))).mono fun e W' ⟨he, hb⟩ => ?_
  subst he
  refine ⟨_, rfl, _, _, _, [], p0 ++ p1, [], hW', trodAll_mk1 (shut_bool Tryz.underlying4 _), trodAll_mk2 ?_ ?_, rfl, hb.frame _, fun h => by cases h⟩
  · exact Go.WideElems.Trod_stays laidOut read22s row22s h0 (fun x hx => hb.same (hlt x (by simp [hx]))) (fun x hx => decide_eq_true (hlt x (by simp [hx])))
  · exact Go.WideElems.Trod_stays laidOut read33 row33 h1 (fun x hx => hb.same (hlt x (by simp [hx]))) (fun x hx => decide_eq_true (hlt x (by simp [hx])))
theorem simplifies_row : Rows.PolylineSimplifiesSaid :=
  OpenClaim.holds_of_wide 4 Tryz.f4 rfl rfl rfl rfl rfl rfl rfl ⟨rfl, rfl, rfl, rfl, rfl⟩ rfl rfl rfl rfl rfl (by kernel_rfl) Tryz.func4 (by kernel_rfl)
    (of_decide_eq_true (by kernel_rfl)) (by unfold Func.isWrapper; first | (rw [if_pos (by decide +kernel)]; kernel_rfl) | (rw [if_neg (by decide +kernel)]; exact ⟨rfl, rfl⟩))
    (fun os started H enc _ => simplifies_lifted os started H enc)
end Go.Proofs.YtkjnjdcbnelceaaGreatDoor.KA
end
