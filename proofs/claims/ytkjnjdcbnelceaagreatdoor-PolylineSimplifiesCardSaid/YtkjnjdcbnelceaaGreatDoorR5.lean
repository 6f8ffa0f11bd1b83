/- Parts of the proof, in order: each part's head says what it holds. -/
import Derived.Test.YtkjnjdcbnelceaaGreatDoorR4

section
/- Contract of rational.quick: the parts of a number, if both are short. -/
open Go Go.Proofs
set_option linter.unusedSimpArgs false
set_option linter.unusedVariables false
namespace Go.Proofs.YtkjnjdcbnelceaaGreatDoor.KA
open Num

/-- The number that digits spell. -/
def dv (l : List UInt8) : Nat := l.foldl (fun a b => 10 * a + (b.toNat - 48)) 0
theorem dv_snoc (l : List UInt8) (b : UInt8) : dv (l ++ [b]) = 10 * dv l + (b.toNat - 48) := by unfold dv; rw [List.foldl_append]; rfl
theorem dv_dec (u : Nat) : dv (Lib.decDigits u) = u := by
  induction u using Nat.strongRecOn with
  | _ u ih =>
    by_cases h : u < 10
    · rw [dec_small h]; simp only [dv, List.foldl]; rw [byte_nat h]; omega
    · rw [dec_big h, dv_snoc, ih _ (by omega), byte_nat (by omega)]; omega
theorem dv_take {l : List UInt8} {j : Nat} {b : UInt8} (h : l[j]? = some b) : dv (l.take (j + 1)) = 10 * dv (l.take j) + (b.toNat - 48) := by
  rw [List.take_add_one, h]; exact dv_snoc _ _
theorem dv_lt : ∀ (n : Nat) {l : List UInt8}, l.length = n → (∀ b ∈ l, 48 ≤ b.toNat ∧ b.toNat ≤ 57) → dv l < 10 ^ n
  | 0, l, h, _ => by rw [List.length_eq_zero_iff.1 h]; simp [dv]
  | n + 1, l, h, hd => by
    obtain ⟨i, x, rfl⟩ : ∃ i x, l = i ++ [x] := ⟨l.dropLast, l.getLast (by intro e; subst e; simp at h), (List.dropLast_concat_getLast _).symm⟩
    have := dv_lt n (l := i) (by simpa using h) (fun x hx => hd x (by simp [hx]))
    have hb := hd x (by simp)
    rw [dv_snoc, Nat.pow_succ]; omega

def d1 (q : Rat) : List UInt8 := Lib.decDigits q.num.natAbs
def d2 (q : Rat) : List UInt8 := if q.den = 1 then [] else Lib.decDigits q.den
theorem tq_split (q : Rat) : tq q = (if q < 0 then [45] else []) ++ (d1 q ++ if q.den = 1 then [] else 47 :: d2 q) := by
  have e : Lib.itoa q.num = (if q < 0 then [45] else []) ++ d1 q := by
    unfold d1
    by_cases h : q < 0
    · rw [if_pos h, itoa_neg (num_neg.1 h)]; rfl
    · have : ¬ q.num < 0 := fun h2 => h (num_neg.2 h2)
      rw [if_neg h, itoa_nonneg (by omega), List.nil_append]; congr 1; omega
  unfold d2
  by_cases h : q.den = 1
  · rw [if_pos h, tq_whole h, e, List.append_nil]
  · rw [if_neg h, if_neg h, tq_part h, e, List.append_assoc]
/-- Both parts are short. -/
def qk (q : Rat) : Prop := (d1 q).length ≤ 9 ∧ (d2 q).length ≤ 9
instance (q : Rat) : Decidable (qk q) := by unfold qk; infer_instance

theorem s57 (m : Int) (q : Rat) (hl : (tq q).length < 1000000000) : SpecP (cx m) 57 [.str (tq q)] (if qk q then .tuple [.int .i64 q.num, .int .i64 q.den, .bool true] else .tuple [.int .i64 0, .int .i64 0, .bool false]) := by
  refine specP_of (mixed m) (k57 m) (Nat.le_of_ble_eq_true rfl) (X_start ?_)
  unfold c57
  obtain ⟨b, l, e, h1, _⟩ := tq_head q
  have hb : (b.toNat : Int) = 45 ↔ q < 0 := by rw [← h1]; exact byte_is (c := 45)
  have hs := tq_split q
  have hlen : 0 < (b :: l).length := by simp
  have hx : (tq q)[0]? = some b := by rw [e]; rfl
  generalize hS : tq q = S at *
  have hl0 : 0 < S.length := by rw [e]; simp
  have dg1 : ∀ b ∈ d1 q, 48 ≤ b.toNat ∧ b.toNat ≤ 57 := dec_digit _
  have dg2 : ∀ b ∈ d2 q, 48 ≤ b.toNat ∧ b.toNat ≤ 57 := by
    unfold d2; split
    · intro b hb; simp at hb
    · exact dec_digit _
  have key : ∀ (b0 : Nat) (mn : Bool), ((b0 = 1 ∧ mn = true ∧ q < 0) ∨ (b0 = 0 ∧ mn = false ∧ ¬ q < 0)) → S.length = b0 + ((d1 q).length + (if q.den = 1 then 0 else 1 + (d2 q).length)) ∧
      (∀ j, j < (d1 q).length → S[b0 + j]? = (d1 q)[j]?) ∧ (q.den ≠ 1 → S[b0 + (d1 q).length]? = some 47 ∧ ∀ j, j < (d2 q).length → S[b0 + (d1 q).length + 1 + j]? = (d2 q)[j]?) := by
    intro b0 mn hm
    have hp : ∃ p, p.length = b0 ∧ S = p ++ (d1 q ++ if q.den = 1 then [] else 47 :: d2 q) := by
      rcases hm with ⟨r1, r2, r3⟩ | ⟨r1, r2, r3⟩
      · rw [if_pos r3] at hs; exact ⟨_, by simp [r1], hs⟩
      · rw [if_neg r3] at hs; exact ⟨_, by simp [r1], hs⟩
    obtain ⟨p, hp, hS⟩ := hp
    refine ⟨?_, ?_, ?_⟩
    · rw [hS, List.length_append, List.length_append, hp]; split <;> simp <;> omega
    · intro j hj
      rw [hS, List.getElem?_append_right (by omega), List.getElem?_append_left (by omega)]; congr 1; omega
    · intro hd
      rw [if_neg hd] at hS
      constructor
      · rw [hS, List.getElem?_append_right (by omega), List.getElem?_append_right (by omega)]
        rw [show b0 + (d1 q).length - p.length - (d1 q).length = 0 by omega]; rfl
      · intro j hj
        rw [hS, List.getElem?_append_right (by omega), List.getElem?_append_right (by omega)]
        rw [show b0 + (d1 q).length + 1 + j - p.length - (d1 q).length = j + 1 by omega]; rfl
  have hl0' : (0 : Int) < (S.length : Int) := by omega
  clear e h1 hlen
  have v1 : ∀ j, dv ((d1 q).take j) < 10 ^ (((d1 q).take j).length) := fun j => dv_lt _ rfl (fun b hb => dg1 b (List.mem_of_mem_take hb))
  have v2 : ∀ j, dv ((d2 q).take j) < 10 ^ (((d2 q).take j).length) := fun j => dv_lt _ rfl (fun b hb => dg2 b (List.mem_of_mem_take hb))
  have n1 : dv (d1 q) = q.num.natAbs := dv_dec _
  by_cases hq : q < 0
  · have hqn := num_neg.1 hq
    obtain ⟨kl, kd, ke⟩ := key 1 true (.inl ⟨rfl, rfl, hq⟩)
    refine WF (And.intro hl0' (And.intro hx (And.intro hb hq))) ?_
    refine X_for (fun j : Nat => ⟨[(0, .str S), (2, .int .i64 (dv ((d1 q).take j))), (3, .int .i64 0), (5, .int .i64 (1 + j : Nat)), (6, .bool true), (7, .int .i64 1)], []⟩) (fun j => j ≤ (d1 q).length ∧ j ≤ 9) (fun j => (d1 q).length - j) 0 ⟨Nat.zero_le _, Nat.zero_le _⟩ ?_ ?_
    · exact weak_keep (by simp [lookup, dv])
    intro j R ⟨j1, j2⟩ hR
    try dsimp only at hR ⊢
    rcases Nat.lt_or_ge j (d1 q).length with hj | hj
    · have hc : S[1 + j]? = some (d1 q)[j] := by rw [kd j hj]; simp [hj]
      have hcd := dg1 _ (List.getElem_mem hj)
      have hlt : 1 + j < S.length := by split at kl <;> omega
      have hne : ¬ (((d1 q)[j].toNat : Int) = 47) := by omega
      have hv := v1 j
      rw [List.length_take, Nat.min_eq_left (by omega)] at hv
      by_cases h9 : j = 9
      · have h9' : ((1 + j : Nat) : Int) - 1 = 9 := by omega
        refine WF (And.intro hlt (And.intro hc (And.intro hne h9'))) ?_
        have hqk : ¬ qk q := fun h => by have := h.1; omega
        exact shv (by rw [if_neg hqk]) (by rw [if_neg hqk]; rfl)
      · have h9' : ¬ (((1 + j : Nat) : Int) - 1 = 9) := by omega
        have hp : 10 ^ j ≤ 10 ^ 9 := Nat.pow_le_pow_right (by omega) (by omega)
        refine WF (And.intro hlt (And.intro hc (And.intro hne h9'))) ?_
        refine hR (j + 1) _ ⟨by omega, by omega⟩ (by omega) (weak_keep ?_)
        have := dv_take (l := d1 q) (j := j) (b := (d1 q)[j]) (by simp [hj])
        simp [lookup]; omega
    · have ej : j = (d1 q).length := by omega
      subst ej
      have hv := v1 (d1 q).length
      rw [List.take_length] at hv ⊢
      have hp : 10 ^ (d1 q).length ≤ 10 ^ 9 := Nat.pow_le_pow_right (by omega) (by omega)
      by_cases hd : q.den = 1
      · rw [if_pos hd] at kl
        have kk : 1 + (d1 q).length = S.length := by omega
        have hqk : qk q := ⟨j2, by unfold d2; rw [if_pos hd]; simp⟩
        refine WF (And.intro kk @Nat.lt_irrefl) ?_
        rw [if_pos hqk]
        refine shv ?_ rfl
        rw [show (0 - (dv (d1 q) : Int)) = q.num by omega, hd]; rfl
      · rw [if_neg hd] at kl
        obtain ⟨ke1, ke2⟩ := ke hd
        have hlt : 1 + (d1 q).length < S.length := by omega
        have hne : ¬ (((1 + (d1 q).length : Nat) : Int) = (S.length : Int)) := by omega
        have h47 : (((47 : UInt8).toNat : Int) = 47) := rfl
        refine WF (And.intro hlt (And.intro ke1 (And.intro hne h47))) ?_
        rw [show (0 - (dv (d1 q) : Int)) = q.num by omega]
        refine X_for (fun j : Nat => ⟨[(0, .str S), (2, .int .i64 q.num), (3, .int .i64 (dv ((d2 q).take j))), (5, .int .i64 (1 + (d1 q).length + 1 + j : Nat)), (7, .int .i64 (1 + (d1 q).length + 1 : Nat))], []⟩) (fun j => j ≤ (d2 q).length ∧ j ≤ 9) (fun j => (d2 q).length - j) 0 ⟨Nat.zero_le _, Nat.zero_le _⟩ ?_ ?_
        · exact weak_keep (by simp [lookup, dv])
        intro j R' ⟨j3, j4⟩ hR'
        try dsimp only at hR' ⊢
        have hv2 := v2 j
        rw [List.length_take, Nat.min_eq_left (by omega)] at hv2
        have hp2 : 10 ^ j ≤ 10 ^ 9 := Nat.pow_le_pow_right (by omega) (by omega)
        rcases Nat.lt_or_ge j (d2 q).length with hj' | hj'
        · have hc : S[1 + (d1 q).length + 1 + j]? = some (d2 q)[j] := by rw [ke2 j hj']; simp [hj']
          have hcd := dg2 _ (List.getElem_mem hj')
          have hlt' : 1 + (d1 q).length + 1 + j < S.length := by omega
          by_cases h9 : j = 9
          · have h9' : ((1 + (d1 q).length + 1 + j : Nat) : Int) - ((1 + (d1 q).length + 1 : Nat) : Int) = 9 := by omega
            refine WF (And.intro hlt' (And.intro hc h9')) ?_
            have hqk : ¬ qk q := fun h => by have := h.2; omega
            exact shv (by rw [if_neg hqk]) (by rw [if_neg hqk]; rfl)
          · have h9' : ¬ (((1 + (d1 q).length + 1 + j : Nat) : Int) - ((1 + (d1 q).length + 1 : Nat) : Int) = 9) := by omega
            refine WF (And.intro hlt' (And.intro hc h9')) ?_
            refine hR' (j + 1) _ ⟨by omega, by omega⟩ (by omega) (weak_keep ?_)
            have := dv_take (l := d2 q) (j := j) (b := (d2 q)[j]) (by simp [hj'])
            simp [lookup]; omega
        · have ej : j = (d2 q).length := by omega
          subst ej
          have hlt' : ¬ 1 + (d1 q).length + 1 + (d2 q).length < S.length := by omega
          refine WF hlt' ?_
          have hqk : qk q := ⟨j2, j4⟩
          rw [if_pos hqk]
          refine shv ?_ rfl
          rw [show d2 q = Lib.decDigits q.den by unfold d2; rw [if_neg hd], dv_dec]
  · have hqn : ¬ q.num < 0 := fun h => hq (num_neg.2 h)
    obtain ⟨kl, kd, ke⟩ := key 0 false (.inr ⟨rfl, rfl, hq⟩)
    refine WF (And.intro hl0' (And.intro hx (And.intro hb hq))) ?_
    refine X_for (fun j : Nat => ⟨[(0, .str S), (2, .int .i64 (dv ((d1 q).take j))), (3, .int .i64 0), (5, .int .i64 (0 + j : Nat)), (6, .bool false), (7, .int .i64 0)], []⟩) (fun j => j ≤ (d1 q).length ∧ j ≤ 9) (fun j => (d1 q).length - j) 0 ⟨Nat.zero_le _, Nat.zero_le _⟩ ?_ ?_
    · exact weak_keep (by simp [lookup, dv])
    intro j R ⟨j1, j2⟩ hR
    try dsimp only at hR ⊢
    rcases Nat.lt_or_ge j (d1 q).length with hj | hj
    · have hc : S[0 + j]? = some (d1 q)[j] := by rw [kd j hj]; simp [hj]
      have hcd := dg1 _ (List.getElem_mem hj)
      have hlt : 0 + j < S.length := by split at kl <;> omega
      have hne : ¬ (((d1 q)[j].toNat : Int) = 47) := by omega
      have hv := v1 j
      rw [List.length_take, Nat.min_eq_left (by omega)] at hv
      by_cases h9 : j = 9
      · have h9' : ((0 + j : Nat) : Int) - 0 = 9 := by omega
        refine WF (And.intro hlt (And.intro hc (And.intro hne h9'))) ?_
        have hqk : ¬ qk q := fun h => by have := h.1; omega
        exact shv (by rw [if_neg hqk]) (by rw [if_neg hqk]; rfl)
      · have h9' : ¬ (((0 + j : Nat) : Int) - 0 = 9) := by omega
        have hp : 10 ^ j ≤ 10 ^ 9 := Nat.pow_le_pow_right (by omega) (by omega)
        refine WF (And.intro hlt (And.intro hc (And.intro hne h9'))) ?_
        refine hR (j + 1) _ ⟨by omega, by omega⟩ (by omega) (weak_keep ?_)
        have := dv_take (l := d1 q) (j := j) (b := (d1 q)[j]) (by simp [hj])
        simp [lookup]; omega
    · have ej : j = (d1 q).length := by omega
      subst ej
      have hv := v1 (d1 q).length
      rw [List.take_length] at hv ⊢
      have hp : 10 ^ (d1 q).length ≤ 10 ^ 9 := Nat.pow_le_pow_right (by omega) (by omega)
      by_cases hd : q.den = 1
      · rw [if_pos hd] at kl
        have kk : 0 + (d1 q).length = S.length := by omega
        have hqk : qk q := ⟨j2, by unfold d2; rw [if_pos hd]; simp⟩
        refine WF (And.intro kk @Nat.lt_irrefl) ?_
        rw [if_pos hqk]
        refine shv ?_ rfl
        rw [show ((dv (d1 q) : Nat) : Int) = q.num by omega, hd]; rfl
      · rw [if_neg hd] at kl
        obtain ⟨ke1, ke2⟩ := ke hd
        have hlt : 0 + (d1 q).length < S.length := by omega
        have hne : ¬ (((0 + (d1 q).length : Nat) : Int) = (S.length : Int)) := by omega
        have h47 : (((47 : UInt8).toNat : Int) = 47) := rfl
        refine WF (And.intro hlt (And.intro ke1 (And.intro hne h47))) ?_
        rw [show ((dv (d1 q) : Nat) : Int) = q.num by omega]
        refine X_for (fun j : Nat => ⟨[(0, .str S), (2, .int .i64 q.num), (3, .int .i64 (dv ((d2 q).take j))), (5, .int .i64 (0 + (d1 q).length + 1 + j : Nat)), (7, .int .i64 (0 + (d1 q).length + 1 : Nat))], []⟩) (fun j => j ≤ (d2 q).length ∧ j ≤ 9) (fun j => (d2 q).length - j) 0 ⟨Nat.zero_le _, Nat.zero_le _⟩ ?_ ?_
        · exact weak_keep (by simp [lookup, dv])
        intro j R' ⟨j3, j4⟩ hR'
        try dsimp only at hR' ⊢
        have hv2 := v2 j
        rw [List.length_take, Nat.min_eq_left (by omega)] at hv2
        have hp2 : 10 ^ j ≤ 10 ^ 9 := Nat.pow_le_pow_right (by omega) (by omega)
        rcases Nat.lt_or_ge j (d2 q).length with hj' | hj'
        · have hc : S[0 + (d1 q).length + 1 + j]? = some (d2 q)[j] := by rw [ke2 j hj']; simp [hj']
          have hcd := dg2 _ (List.getElem_mem hj')
          have hlt' : 0 + (d1 q).length + 1 + j < S.length := by omega
          by_cases h9 : j = 9
          · have h9' : ((0 + (d1 q).length + 1 + j : Nat) : Int) - ((0 + (d1 q).length + 1 : Nat) : Int) = 9 := by omega
            refine WF (And.intro hlt' (And.intro hc h9')) ?_
            have hqk : ¬ qk q := fun h => by have := h.2; omega
            exact shv (by rw [if_neg hqk]) (by rw [if_neg hqk]; rfl)
          · have h9' : ¬ (((0 + (d1 q).length + 1 + j : Nat) : Int) - ((0 + (d1 q).length + 1 : Nat) : Int) = 9) := by omega
            refine WF (And.intro hlt' (And.intro hc h9')) ?_
            refine hR' (j + 1) _ ⟨by omega, by omega⟩ (by omega) (weak_keep ?_)
            have := dv_take (l := d2 q) (j := j) (b := (d2 q)[j]) (by simp [hj'])
            simp [lookup]; omega
        · have ej : j = (d2 q).length := by omega
          subst ej
          have hlt' : ¬ 0 + (d1 q).length + 1 + (d2 q).length < S.length := by omega
          refine WF hlt' ?_
          have hqk : qk q := ⟨j2, j4⟩
          rw [if_pos hqk]
          refine shv ?_ rfl
          rw [show d2 q = Lib.decDigits q.den by unfold d2; rw [if_neg hd], dv_dec]
end Go.Proofs.YtkjnjdcbnelceaaGreatDoor.KA
end

section
/- Contracts of rational arithmetic, of numbers with short parts. -/
open Go Go.Proofs
set_option linter.unusedSimpArgs false
set_option linter.unusedVariables false
namespace Go.Proofs.YtkjnjdcbnelceaaGreatDoor.KA
open Num

theorem qk_of {q : Rat} (h1 : q.num.natAbs < 10 ^ 9) (h2 : q.den < 10 ^ 9) : qk q := by
  refine ⟨?_, ?_⟩
  · unfold d1; rw [dec_length]; exact nDigits_le (by omega) h1
  · unfold d2; split
    · simp
    · rw [dec_length]; exact nDigits_le (by omega) h2
theorem qk_lt {q : Rat} (h : qk q) : q.num.natAbs < 10 ^ 9 ∧ q.den < 10 ^ 9 := by
  obtain ⟨h1, h2⟩ := h
  unfold d1 at h1; unfold d2 at h2
  rw [dec_length] at h1
  refine ⟨lt_of_nDigits h1, ?_⟩
  split at h2
  · omega
  · rw [dec_length] at h2; exact lt_of_nDigits h2
theorem qk_len {q : Rat} (h : qk q) : (tq q).length ≤ 20 := by
  obtain ⟨h1, h2⟩ := h
  rw [tq_split, List.length_append, List.length_append]
  split <;> split <;> simp <;> omega
theorem qk_neg {q : Rat} (h : qk q) : qk (-q) := by
  obtain ⟨h1, h2⟩ := qk_lt h
  exact qk_of (by simpa using h1) (by simpa using h2)
theorem den_pos (q : Rat) : 0 < q.den := Nat.pos_of_ne_zero q.den_nz
theorem s57q (m : Int) (q : Rat) (h : qk q) : SpecP (cx m) 57 [.str (tq q)] (.tuple [.int .i64 q.num, .int .i64 q.den, .bool true]) := by
  have := s57 m q (by have := qk_len h; omega)
  rw [if_pos h] at this; exact this

/-- rational.Parts -/
theorem s58 (m : Int) (q : Rat) (hl : (tq q).length < 4294967281) : SpecP (cx m) 58 [.str (tq q)] (.tuple [.str (Lib.itoa q.num), .str (Lib.decDigits q.den)]) := by
  refine specP_of (mixed m) (k58 m) (Nat.le_of_ble_eq_true rfl) (X_start ?_)
  unfold c58
  have hc := s99 m (tq q) [47] hl
  have e : Lib.cut (tq q) [47] = if q.den = 1 then (Lib.itoa q.num, [], false) else (Lib.itoa q.num, Lib.decDigits q.den, true) := by
    by_cases h : q.den = 1
    · rw [if_pos h, tq_whole h, cut_none (itoa_no47 _)]
    · rw [if_neg h, tq_part h, cut_some (itoa_no47 _)]
  by_cases h : q.den = 1
  · rw [e, if_pos h] at hc
    refine WW ?_
    refine CL_pure hc rfl ?_
    refine WW ?_
    exact shv (by rw [h, dec_one]) rfl
  · rw [e, if_neg h] at hc
    refine WW ?_
    refine CL_pure hc rfl ?_
    refine WW ?_
    exact shv rfl rfl

theorem add_mk (a b : Rat) : mkRat (a.num * b.den + b.num * a.den) (a.den * b.den) = a + b := by
  rw [Rat.add_def, Rat.normalize_eq_mkRat]
theorem mul_mk (a b : Rat) : mkRat (a.num * b.num) (a.den * b.den) = a * b := by
  rw [Rat.mul_def, Rat.normalize_eq_mkRat]
theorem mul_lt {x y : Int} (hx : x.natAbs < 10 ^ 9) (hy : y.natAbs < 10 ^ 9) : (x * y).natAbs < 1000000000000000000 := by
  rw [Int.natAbs_mul]
  exact Nat.lt_of_lt_of_le (Nat.mul_lt_mul'' hx hy) (by decide)

/-- rational.Add -/
theorem s29 (m : Int) (a b : Rat) (ha : qk a) (hb : qk b) : SpecP (cx m) 29 [.str (tq a), .str (tq b)] (.str (tq (a + b))) := by
  refine specP_of (mixed m) (k29 m) (Nat.le_of_ble_eq_true rfl) (X_start ?_)
  unfold c29
  obtain ⟨a1, a2⟩ := qk_lt ha
  obtain ⟨b1, b2⟩ := qk_lt hb
  have m1 := mul_lt (x := a.num) (y := b.den) a1 (by simpa using b2)
  have m2 := mul_lt (x := b.num) (y := a.den) b1 (by simpa using a2)
  have m3 := mul_lt (x := a.den) (y := b.den) (by simpa using a2) (by simpa using b2)
  refine WF @tq_is0 ?_
  refine iteI (fun h => shs (by rw [h, Rat.zero_add])) (fun h => iteI (fun h' => shs (by rw [h', Rat.add_zero])) (fun h' => ?_))
  refine CL_pure (s57q m a ha) rfl ?_
  refine WW ?_
  refine CL_pure (s57q m b hb) rfl ?_
  refine WW ?_
  have := s63 m (a.num * b.den + b.num * a.den) (a.den * b.den) (Nat.mul_pos (den_pos a) (den_pos b)) (by omega) (by rw [Int.natAbs_mul, Int.natAbs_natCast, Int.natAbs_natCast] at m3; omega)
  rw [add_mk] at this
  refine CL_pure this rfl ?_
  refine WW ?_
  exact shs rfl
/-- rational.Sub -/
theorem s56 (m : Int) (a b : Rat) (ha : qk a) (hb : qk b) : SpecP (cx m) 56 [.str (tq a), .str (tq b)] (.str (tq (a - b))) := by
  refine specP_of (mixed m) (k56 m) (Nat.le_of_ble_eq_true rfl) (X_start ?_)
  unfold c56
  refine WW ?_
  refine CL_pure (s107 m b (by have := qk_len hb; omega)) rfl ?_
  refine WW ?_
  refine CL_pure (s29 m a (-b) ha (qk_neg hb)) rfl ?_
  refine WW ?_
  exact shs (by rw [Rat.sub_eq_add_neg])
/-- rational.Mul -/
theorem s55 (m : Int) (a b : Rat) (ha : qk a) (hb : qk b) : SpecP (cx m) 55 [.str (tq a), .str (tq b)] (.str (tq (a * b))) := by
  refine specP_of (mixed m) (k55 m) (Nat.le_of_ble_eq_true rfl) (X_start ?_)
  unfold c55
  obtain ⟨a1, a2⟩ := qk_lt ha
  obtain ⟨b1, b2⟩ := qk_lt hb
  have m1 := mul_lt (x := a.num) (y := b.num) a1 b1
  have m3 := mul_lt (x := a.den) (y := b.den) (by simpa using a2) (by simpa using b2)
  by_cases z1 : a = 0
  · refine WF (And.intro @tq_is0 z1) ?_
    exact shs (by rw [Rat.zero_mul, tq_zero])
  by_cases z2 : b = 0
  · refine WF (And.intro @tq_is0 (And.intro z1 z2)) ?_
    exact shs (by rw [Rat.mul_zero, tq_zero])
  by_cases z3 : a = 1
  · refine WF (And.intro @tq_is0 (And.intro @tq_is1 (And.intro z1 (And.intro z2 z3)))) ?_
    exact shs (by rw [Rat.one_mul])
  by_cases z4 : b = 1
  · refine WF (And.intro @tq_is0 (And.intro @tq_is1 (And.intro z1 (And.intro z2 (And.intro z3 z4))))) ?_
    exact shs (by rw [Rat.mul_one])
  refine WF (And.intro @tq_is0 (And.intro @tq_is1 (And.intro z1 (And.intro z2 (And.intro z3 z4))))) ?_
  refine CL_pure (s57q m a ha) rfl ?_
  refine WW ?_
  refine CL_pure (s57q m b hb) rfl ?_
  refine WW ?_
  have := s63 m (a.num * b.num) (a.den * b.den) (Nat.mul_pos (den_pos a) (den_pos b)) (by omega) (by rw [Int.natAbs_mul, Int.natAbs_natCast, Int.natAbs_natCast] at m3; omega)
  rw [mul_mk] at this
  refine CL_pure this rfl ?_
  refine WW ?_
  exact shs rfl
/-- rational.Compare -/
theorem s21 (m : Int) (a b : Rat) (ha : qk a) (hb : qk b) : SpecP (cx m) 21 [.str (tq a), .str (tq b)] (.int .i64 (Geo.cm a b)) := by
  refine specP_of (mixed m) (k21 m) (Nat.le_of_ble_eq_true rfl) (X_start ?_)
  unfold c21
  obtain ⟨a1, a2⟩ := qk_lt ha
  obtain ⟨b1, b2⟩ := qk_lt hb
  have m1 := mul_lt (x := a.num) (y := b.den) a1 (by simpa using b2)
  have m2 := mul_lt (x := b.num) (y := a.den) b1 (by simpa using a2)
  refine WF @tq_eq ?_
  refine iteI (fun h => shi (by simp [Geo.cm, h])) (fun h => ?_)
  refine CL_pure (s57q m a ha) rfl ?_
  refine WW ?_
  refine CL_pure (s57q m b hb) rfl ?_
  have l1 := Rat.lt_iff a b
  have l2 := Rat.lt_iff b a
  refine WW ?_
  refine iteI (fun h' => shi ?_) (fun h' => iteI (fun h2 => shi ?_) (fun h2 => absurd ?_ h))
  · simp [Geo.cm, h, l1.2 h']
  · have : ¬ a < b := fun h3 => h' (l1.1 h3)
    simp [Geo.cm, h, this]
  · have h3 : ¬ a < b := fun h3 => h' (l1.1 h3)
    have h4 : ¬ b < a := fun h3 => h2 (l2.1 h3)
    grind
/-- rational.Div -/
theorem s95 (m : Int) (a b : Rat) (ha : qk a) (hb : qk b) (h0 : b ≠ 0) : SpecP (cx m) 95 [.str (tq a), .str (tq b)] (.tuple [.str (tq (a / b)), .int .i64 0]) := by
  refine specP_of (mixed m) (k95 m) (Nat.le_of_ble_eq_true rfl) (X_start ?_)
  unfold c95
  obtain ⟨b1, b2⟩ := qk_lt hb
  have hn : b.num ≠ 0 := fun h => h0 (Rat.num_eq_zero.1 h)
  have i1 := Rat.num_inv b
  have i2 := Rat.den_inv b
  rw [if_neg hn] at i2
  have hi : qk b⁻¹ := by
    refine qk_of ?_ (by rw [i2]; exact b1)
    rw [i1, Int.natAbs_mul]
    rcases Int.lt_trichotomy b.num 0 with h | h | h
    · rw [Int.sign_eq_neg_one_of_neg h]; simpa using b2
    · exact absurd h hn
    · rw [Int.sign_eq_one_of_pos h]; simpa using b2
  have fin := s55 m a b⁻¹ ha hi
  rw [← Rat.div_def] at fin
  obtain ⟨c, l, e, h1, _⟩ := tq_head b
  have hx : (tq b)[0]? = some c := by rw [e]; rfl
  have hc : (c.toNat : Int) = 45 ↔ b < 0 := by rw [← h1]; exact byte_is (c := 45)
  have len := qk_len hb
  have ln := len_itoa (n := b.num) (k := 9) (by omega) b1
  have ld := len_itoa (n := (b.den : Int)) (k := 9) (by omega) (by simpa using b2)
  refine WF (And.intro @tq_is0 h0) ?_
  refine CL_pure (s58 m b (by omega)) rfl ?_
  refine WF (And.intro hx hc) ?_
  refine iteI (fun h => ?_) (fun h => ?_)
  · have hneg := num_neg.1 h
    refine CL_pure (s117 m b.num (by omega)) rfl ?_
    refine WW ?_
    have := s117 m (b.den : Int) (by omega)
    rw [itoa_nonneg (n := (b.den : Int)) (by omega)] at this
    refine CL_pure this rfl ?_
    refine WW ?_
    have j := s119 m (-(b.den : Int)) (b.num.natAbs) (by have := len_itoa (n := -(b.den : Int)) (k := 9) (by omega) (by simpa using b2); omega) (by rw [dec_length]; have := nDigits_le (k := 9) (by omega) b1; omega)
    rw [show (if b.num.natAbs = 1 then Lib.itoa (-(b.den : Int)) else Lib.itoa (-(b.den : Int)) ++ 47 :: Lib.decDigits b.num.natAbs) = tq b⁻¹ by
      unfold tq; rw [i2, i1, Int.sign_eq_neg_one_of_neg hneg, Int.neg_one_mul]] at j
    have e3 : Lib.itoa (-b.num) = Lib.decDigits b.num.natAbs := by rw [itoa_nonneg (n := -b.num) (by omega)]; congr 1; omega
    rw [e3]
    refine CL_pure j rfl ?_
    refine WW ?_
    refine CL_pure fin rfl ?_
    refine WW ?_
    exact shv rfl rfl
  · have hpos : 0 < b.num := by
      have : ¬ b.num < 0 := fun h2 => h (num_neg.2 h2)
      omega
    have j := s119 m (b.den : Int) (b.num.natAbs) (by omega) (by rw [dec_length]; have := nDigits_le (k := 9) (by omega) b1; omega)
    rw [show (if b.num.natAbs = 1 then Lib.itoa (b.den : Int) else Lib.itoa (b.den : Int) ++ 47 :: Lib.decDigits b.num.natAbs) = tq b⁻¹ by
      unfold tq; rw [i2, i1, Int.sign_eq_one_of_pos hpos, Int.one_mul]] at j
    rw [itoa_nonneg (n := (b.den : Int)) (by omega), Int.toNat_natCast] at j
    have e3 : Lib.itoa b.num = Lib.decDigits b.num.natAbs := by rw [itoa_nonneg (n := b.num) (by omega)]; congr 1; omega
    rw [e3]
    refine CL_pure j rfl ?_
    refine WW ?_
    refine CL_pure fin rfl ?_
    refine WW ?_
    exact shv rfl rfl
end Go.Proofs.YtkjnjdcbnelceaaGreatDoor.KA
end

section
/- The small code of functions, as own tools print it; that it is the program's is checked by the kernel. -/
open Go Go.Proofs
set_option linter.unusedVariables false
namespace Go.Proofs.YtkjnjdcbnelceaaGreatDoor.KA
def c84 : C := (C.ops [⟨I.mv 2 (O.k (AV.int IntKind.i64 0)), none, some 2⟩]).seq (((C.ops [⟨I.mv 6 (O.t 0), none, some 6⟩, ⟨I.len 7 (O.t 6), none, some 7⟩, ⟨I.mv 8 (O.k (AV.int IntKind.i64 0)), none, some 8⟩]).seq (C.block 0 ((C.ops [⟨I.bin 9 BinOp.lss (O.t 8) (O.t 7), none, some 9⟩]).seq ((C.cond (O.t 9) C.skip (C.exit 0)).seq ((C.block 1 ((C.ops [⟨I.idxa 10 1 none (O.t 6) (O.t 8), none, some 10⟩, ⟨I.loadf 11 false 1 (O.t 10), none, some 11⟩, ⟨I.mv 4 (O.t 11), none, some 4⟩]).seq ((C.ops [⟨I.mv 12 (O.t 4), none, some 12⟩, ⟨I.call (some 13) (O.k (AV.fn 50 [])) [O.t 12] false, none, some 13⟩, ⟨I.mv 5 (O.t 13), none, some 5⟩]).seq ((C.ops [⟨I.mv 14 (O.t 5), none, some 14⟩, ⟨I.bin 15 BinOp.neq (O.t 14) (O.k (AV.int IntKind.i64 0)), none, some 15⟩]).seq (C.cond (O.t 15) ((C.ops [⟨I.mv 16 (O.t 5), none, some 16⟩, ⟨I.mv 2 (O.t 16), none, some 2⟩]).seq C.ret) C.skip))))).seq (C.ops [⟨I.bin 17 BinOp.add (O.t 8) (O.k (AV.int IntKind.i64 1)), none, some 17⟩, ⟨I.mv 8 (O.t 17), none, some 8⟩])))).loop)).seq ((C.ops [⟨I.mv 2 (O.k (AV.int IntKind.i64 0)), none, some 2⟩]).seq C.ret))
theorem k84 (m : Int) : compF (cx m).P (cx m).gt (fun _ => false) 84 = some (c84, [RV.tmp 2], 18) := by kernel_rfl
def c49 : C := (C.ops [⟨I.box 1 (O.t 0) false, none, some 1⟩, ⟨I.mv 2 (O.k (AV.int IntKind.i64 0)), none, some 2⟩]).seq ((C.ops [⟨I.fld 3 0 (O.t 1), none, some 3⟩, ⟨I.loadf 4 false 1 (O.t 3), none, some 4⟩, ⟨I.fld 5 1 (O.t 1), none, some 5⟩, ⟨I.loadf 6 false 1 (O.t 5), none, some 6⟩, ⟨I.bsl 7 1 [O.t 4, O.t 6] false, none, some 7⟩, ⟨I.call (some 8) (O.k (AV.fn 84 [])) [O.t 7] false, none, some 8⟩, ⟨I.mv 2 (O.t 8), none, some 2⟩]).seq C.ret)
theorem k49 (m : Int) : compF (cx m).P (cx m).gt (fun _ => false) 49 = some (c49, [RV.tmp 2], 9) := by kernel_rfl
def c140 : C := (C.ops [⟨I.mv 2 (O.k (AV.bool false)), none, some 2⟩, ⟨I.mv 3 (O.k (AV.str [])), none, some 3⟩]).seq ((C.ops [⟨I.mv 5 (O.t 0), none, some 5⟩, ⟨I.mv 4 (O.t 5), none, some 4⟩]).seq (((C.ops [⟨I.mv 6 (O.t 4), none, some 6⟩, ⟨I.lens 7 (O.t 6), none, some 7⟩, ⟨I.bin 8 BinOp.gtr (O.t 7) (O.k (AV.int IntKind.i64 0)), none, some 8⟩, ⟨I.mv 9 (O.t 8), none, some 9⟩, ⟨I.mv 10 (O.t 4), some (9, true), some 10⟩, ⟨I.idx 11 (O.t 10) (O.k (AV.int IntKind.i64 0)), some (9, true), some 11⟩, ⟨I.bin 12 BinOp.eql (O.t 11) (O.k (AV.int IntKind.u8 45)), some (9, true), some 12⟩, ⟨I.pick 13 (O.t 9) (O.t 12) (O.k (AV.bool false)), none, some 13⟩]).seq (C.cond (O.t 13) ((C.ops [⟨I.mv 14 (O.t 4), none, some 14⟩, ⟨I.slcs 15 (O.t 14) (some (O.k (AV.int IntKind.i64 1))) none, none, some 15⟩, ⟨I.mv 2 (O.k (AV.bool true)), none, some 2⟩, ⟨I.mv 3 (O.t 15), none, some 3⟩]).seq C.ret) C.skip)).seq ((C.ops [⟨I.mv 16 (O.t 4), none, some 16⟩, ⟨I.mv 2 (O.k (AV.bool false)), none, some 2⟩, ⟨I.mv 3 (O.t 16), none, some 3⟩]).seq C.ret)))
theorem k140 (m : Int) : compF (cx m).P (cx m).gt (fun _ => false) 140 = some (c140, [RV.tmp 2, RV.tmp 3], 17) := by kernel_rfl
def c141 : C := (C.ops [⟨I.mv 2 (O.k (AV.bool false)), none, some 2⟩]).seq ((C.ops [⟨I.mv 7 (O.t 0), none, some 7⟩, ⟨I.call (some 8) (O.k (AV.fn 140 [])) [O.t 7] false, none, some 8⟩, ⟨I.mv 6 (O.t 8), none, some 6⟩, ⟨I.ext 9 (O.t 6) 0, none, some 9⟩, ⟨I.ext 10 (O.t 6) 1, none, some 10⟩, ⟨I.mv 3 (O.t 9), none, some 3⟩, ⟨I.mv 4 (O.t 10), none, some 4⟩]).seq (((C.ops [⟨I.mv 5 (O.k (AV.int IntKind.i64 0)), none, some 5⟩]).seq (C.block 0 (((C.ops [⟨I.mv 11 (O.t 5), none, some 11⟩, ⟨I.mv 12 (O.t 4), none, some 12⟩, ⟨I.lens 13 (O.t 12), none, some 13⟩, ⟨I.bin 14 BinOp.lss (O.t 11) (O.t 13), none, some 14⟩]).seq (C.cond (O.t 14) C.skip (C.exit 0))).seq ((C.block 1 ((C.ops [⟨I.mv 17 (O.t 4), none, some 17⟩, ⟨I.mv 18 (O.t 5), none, some 18⟩, ⟨I.idx 19 (O.t 17) (O.t 18), none, some 19⟩, ⟨I.bin 20 BinOp.lss (O.t 19) (O.k (AV.int IntKind.u8 48)), none, some 20⟩, ⟨I.mv 21 (O.t 20), none, some 21⟩, ⟨I.mv 22 (O.t 4), some (21, false), some 22⟩, ⟨I.mv 23 (O.t 5), some (21, false), some 23⟩, ⟨I.idx 24 (O.t 22) (O.t 23), some (21, false), some 24⟩, ⟨I.bin 25 BinOp.gtr (O.t 24) (O.k (AV.int IntKind.u8 57)), some (21, false), some 25⟩, ⟨I.pick 26 (O.t 21) (O.k (AV.bool true)) (O.t 25), none, some 26⟩]).seq (C.cond (O.t 26) ((C.ops [⟨I.mv 2 (O.k (AV.bool false)), none, some 2⟩]).seq C.ret) C.skip))).seq (C.ops [⟨I.mv 15 (O.t 5), none, some 15⟩, ⟨I.bin 16 BinOp.add (O.t 15) (O.k (AV.int IntKind.i64 1)), none, some 16⟩, ⟨I.mv 5 (O.t 16), none, some 5⟩]))).loop)).seq (((C.ops [⟨I.mv 27 (O.t 4), none, some 27⟩, ⟨I.lens 28 (O.t 27), none, some 28⟩, ⟨I.bin 29 BinOp.eql (O.t 28) (O.k (AV.int IntKind.i64 0)), none, some 29⟩, ⟨I.mv 30 (O.t 29), none, some 30⟩, ⟨I.mv 31 (O.t 4), some (30, false), some 31⟩, ⟨I.idx 32 (O.t 31) (O.k (AV.int IntKind.i64 0)), some (30, false), some 32⟩, ⟨I.bin 33 BinOp.eql (O.t 32) (O.k (AV.int IntKind.u8 48)), some (30, false), some 33⟩, ⟨I.mv 34 (O.t 33), some (30, false), some 34⟩, ⟨I.mv 35 (O.t 3), some (34, true), some 35⟩, ⟨I.mv 36 (O.t 35), some (34, true), some 36⟩, ⟨I.mv 37 (O.t 4), some (36, false), some 37⟩, ⟨I.lens 38 (O.t 37), some (36, false), some 38⟩, ⟨I.bin 39 BinOp.gtr (O.t 38) (O.k (AV.int IntKind.i64 1)), some (36, false), some 39⟩, ⟨I.pick 40 (O.t 36) (O.k (AV.bool true)) (O.t 39), some (34, true), some 40⟩, ⟨I.pick 41 (O.t 34) (O.t 40) (O.k (AV.bool false)), some (30, false), some 41⟩, ⟨I.pick 42 (O.t 30) (O.k (AV.bool true)) (O.t 41), none, some 42⟩]).seq (C.cond (O.t 42) ((C.ops [⟨I.mv 2 (O.k (AV.bool false)), none, some 2⟩]).seq C.ret) C.skip)).seq ((C.ops [⟨I.mv 2 (O.k (AV.bool true)), none, some 2⟩]).seq C.ret))))
theorem k141 (m : Int) : compF (cx m).P (cx m).gt (fun _ => false) 141 = some (c141, [RV.tmp 2], 43) := by kernel_rfl
def c103 : C := (C.ops [⟨I.mv 2 (O.k (AV.bool false)), none, some 2⟩]).seq ((C.ops [⟨I.mv 6 (O.t 0), none, some 6⟩, ⟨I.call (some 7) (O.k (AV.fn 140 [])) [O.t 6] false, none, some 7⟩, ⟨I.mv 5 (O.t 7), none, some 5⟩, ⟨I.ext 8 (O.t 5) 0, none, some 8⟩, ⟨I.ext 9 (O.t 5) 1, none, some 9⟩, ⟨I.mv 3 (O.t 8), none, some 3⟩, ⟨I.mv 4 (O.t 9), none, some 4⟩]).seq ((C.ops [⟨I.mv 10 (O.t 0), none, some 10⟩, ⟨I.call (some 11) (O.k (AV.fn 141 [])) [O.t 10] false, none, some 11⟩, ⟨I.mv 12 (O.t 11), none, some 12⟩, ⟨I.mv 13 (O.t 4), some (12, true), some 13⟩, ⟨I.lens 14 (O.t 13), some (12, true), some 14⟩, ⟨I.bin 15 BinOp.leq (O.t 14) (O.k (AV.int IntKind.i64 200)), some (12, true), some 15⟩, ⟨I.pick 16 (O.t 12) (O.t 15) (O.k (AV.bool false)), none, some 16⟩, ⟨I.mv 2 (O.t 16), none, some 2⟩]).seq C.ret))
theorem k103 (m : Int) : compF (cx m).P (cx m).gt (fun _ => false) 103 = some (c103, [RV.tmp 2], 17) := by kernel_rfl
def c102 : C := (C.ops [⟨I.mv 2 (O.k (AV.str [])), none, some 2⟩, ⟨I.mv 3 (O.k (AV.str [])), none, some 3⟩]).seq ((C.ops [⟨I.mv 5 (O.t 0), none, some 5⟩, ⟨I.call (some 6) (O.k (AV.fn 104 [])) [O.t 5, O.k (AV.int IntKind.u8 47)] false, none, some 6⟩, ⟨I.mv 4 (O.t 6), none, some 4⟩]).seq (((C.ops [⟨I.mv 7 (O.t 4), none, some 7⟩, ⟨I.bin 8 BinOp.lss (O.t 7) (O.k (AV.int IntKind.i64 0)), none, some 8⟩]).seq (C.cond (O.t 8) ((C.ops [⟨I.mv 9 (O.t 0), none, some 9⟩, ⟨I.mv 2 (O.t 9), none, some 2⟩, ⟨I.mv 3 (O.k (AV.str [49])), none, some 3⟩]).seq C.ret) C.skip)).seq ((C.ops [⟨I.mv 10 (O.t 0), none, some 10⟩, ⟨I.mv 11 (O.t 4), none, some 11⟩, ⟨I.slcs 12 (O.t 10) none (some (O.t 11)), none, some 12⟩, ⟨I.mv 13 (O.t 0), none, some 13⟩, ⟨I.mv 14 (O.t 4), none, some 14⟩, ⟨I.bin 15 BinOp.add (O.t 14) (O.k (AV.int IntKind.i64 1)), none, some 15⟩, ⟨I.slcs 16 (O.t 13) (some (O.t 15)) none, none, some 16⟩, ⟨I.mv 2 (O.t 12), none, some 2⟩, ⟨I.mv 3 (O.t 16), none, some 3⟩]).seq C.ret)))
theorem k102 (m : Int) : compF (cx m).P (cx m).gt (fun _ => false) 102 = some (c102, [RV.tmp 2, RV.tmp 3], 17) := by kernel_rfl
def c54 : C := (C.ops [⟨I.mv 2 (O.k (AV.bool false)), none, some 2⟩]).seq ((C.ops [⟨I.mv 6 (O.t 0), none, some 6⟩, ⟨I.call (some 7) (O.k (AV.fn 102 [])) [O.t 6] false, none, some 7⟩, ⟨I.mv 5 (O.t 7), none, some 5⟩, ⟨I.ext 8 (O.t 5) 0, none, some 8⟩, ⟨I.ext 9 (O.t 5) 1, none, some 9⟩, ⟨I.mv 3 (O.t 8), none, some 3⟩, ⟨I.mv 4 (O.t 9), none, some 4⟩]).seq (((C.ops [⟨I.mv 10 (O.t 3), none, some 10⟩, ⟨I.call (some 11) (O.k (AV.fn 103 [])) [O.t 10] false, none, some 11⟩, ⟨I.not 12 (O.t 11), none, some 12⟩, ⟨I.mv 13 (O.t 12), none, some 13⟩, ⟨I.mv 14 (O.t 4), some (13, false), some 14⟩, ⟨I.call (some 15) (O.k (AV.fn 103 [])) [O.t 14] false, some (13, false), some 15⟩, ⟨I.not 16 (O.t 15), some (13, false), some 16⟩, ⟨I.pick 17 (O.t 13) (O.k (AV.bool true)) (O.t 16), none, some 17⟩]).seq (C.cond (O.t 17) ((C.ops [⟨I.mv 2 (O.k (AV.bool false)), none, some 2⟩]).seq C.ret) C.skip)).seq (((C.ops [⟨I.mv 18 (O.t 0), none, some 18⟩, ⟨I.call (some 19) (O.k (AV.fn 104 [])) [O.t 18, O.k (AV.int IntKind.u8 47)] false, none, some 19⟩, ⟨I.bin 20 BinOp.lss (O.t 19) (O.k (AV.int IntKind.i64 0)), none, some 20⟩]).seq (C.cond (O.t 20) ((C.ops [⟨I.mv 2 (O.k (AV.bool true)), none, some 2⟩]).seq C.ret) C.skip)).seq ((C.ops [⟨I.mv 21 (O.t 4), none, some 21⟩, ⟨I.call (some 22) (O.k (AV.fn 105 [])) [O.t 21, O.k (AV.str [49])] false, none, some 22⟩, ⟨I.bin 23 BinOp.gtr (O.t 22) (O.k (AV.int IntKind.i64 0)), none, some 23⟩, ⟨I.mv 24 (O.t 23), none, some 24⟩, ⟨I.mv 25 (O.t 3), some (24, true), some 25⟩, ⟨I.bin 26 BinOp.neq (O.t 25) (O.k (AV.str [48])), some (24, true), some 26⟩, ⟨I.pick 27 (O.t 24) (O.t 26) (O.k (AV.bool false)), none, some 27⟩, ⟨I.mv 28 (O.t 27), none, some 28⟩, ⟨I.mv 29 (O.t 3), some (28, true), some 29⟩, ⟨I.mv 30 (O.t 4), some (28, true), some 30⟩, ⟨I.call (some 31) (O.k (AV.fn 106 [])) [O.t 29, O.t 30] false, some (28, true), some 31⟩, ⟨I.bin 32 BinOp.eql (O.t 31) (O.k (AV.str [49])), some (28, true), some 32⟩, ⟨I.pick 33 (O.t 28) (O.t 32) (O.k (AV.bool false)), none, some 33⟩, ⟨I.mv 2 (O.t 33), none, some 2⟩]).seq C.ret))))
theorem k54 (m : Int) : compF (cx m).P (cx m).gt (fun _ => false) 54 = some (c54, [RV.tmp 2], 34) := by kernel_rfl
def c17 : C := (C.ops [⟨I.mv 2 (O.k (AV.bool false)), none, some 2⟩]).seq ((C.ops [⟨I.mv 3 (O.t 0), none, some 3⟩, ⟨I.call (some 4) (O.k (AV.fn 54 [])) [O.t 3] false, none, some 4⟩, ⟨I.mv 2 (O.t 4), none, some 2⟩]).seq C.ret)
theorem k17 (m : Int) : compF (cx m).P (cx m).gt (fun _ => false) 17 = some (c17, [RV.tmp 2], 5) := by kernel_rfl
def c24 : C := (C.ops [⟨I.box 1 (O.t 0) false, none, some 1⟩, ⟨I.mv 2 (O.k (AV.bool false)), none, some 2⟩]).seq ((C.ops [⟨I.fld 3 0 (O.t 1), none, some 3⟩, ⟨I.loadf 4 false 1 (O.t 3), none, some 4⟩, ⟨I.call (some 5) (O.k (AV.fn 17 [])) [O.t 4] false, none, some 5⟩, ⟨I.mv 6 (O.t 5), none, some 6⟩, ⟨I.fld 7 1 (O.t 1), some (6, true), some 7⟩, ⟨I.loadf 8 false 1 (O.t 7), some (6, true), some 8⟩, ⟨I.call (some 9) (O.k (AV.fn 17 [])) [O.t 8] false, some (6, true), some 9⟩, ⟨I.pick 10 (O.t 6) (O.t 9) (O.k (AV.bool false)), none, some 10⟩, ⟨I.mv 2 (O.t 10), none, some 2⟩]).seq C.ret)
theorem k24 (m : Int) : compF (cx m).P (cx m).gt (fun _ => false) 24 = some (c24, [RV.tmp 2], 11) := by kernel_rfl
end Go.Proofs.YtkjnjdcbnelceaaGreatDoor.KA
end

section
/- Contracts: numbers and points are checked. -/
open Go Go.Proofs
set_option linter.unusedSimpArgs false
set_option linter.unusedVariables false
namespace Go.Proofs.YtkjnjdcbnelceaaGreatDoor.KA
open Num Geo

theorem dec_idx (u j : Nat) (h : j < (Lib.decDigits u).length) : ∃ c, (Lib.decDigits u)[j]? = some c ∧ 48 ≤ c.toNat ∧ c.toNat ≤ 57 :=
  ⟨(Lib.decDigits u)[j], by simp [h], dec_digit u _ (List.getElem_mem h)⟩
/-- The first digit is 0 of the number 0 alone. -/
theorem dec_fst (u : Nat) : ∃ c, (Lib.decDigits u)[0]? = some c ∧ ((c.toNat : Int) = 48 ↔ u = 0) := by
  by_cases h : u = 0
  · subst h; exact ⟨48, by rw [dec_zero]; rfl, by decide⟩
  · obtain ⟨b, l, e, h1, h2⟩ := dec_head u h
    refine ⟨b, by rw [e]; rfl, ?_⟩
    constructor
    · intro hh; omega
    · intro hh; exact absurd hh h

/-- integer.Check -/
theorem s100 (m : Int) (n : Int) (hl : (Lib.decDigits n.natAbs).length ≤ 200) : SpecP (cx m) 100 [.str (Lib.itoa n)] (.int .i64 0) := by
  refine specP_of (mixed m) (k100 m) (Nat.le_of_ble_eq_true rfl) (X_start ?_)
  unfold c100
  have hne := dec_ne n.natAbs
  obtain ⟨c, h0, h48⟩ := dec_fst n.natAbs
  have hp := s138 m (Lib.itoa n) [45]
  rw [itoa_trim, itoa_minus] at hp
  have hdig := dec_idx n.natAbs
  have hl2 : ¬ (200 : Int) < ((Lib.decDigits n.natAbs).length : Int) := by omega
  have rest : n = 0 → ((Lib.decDigits n.natAbs).length = 1 ∧ ¬ n < 0) := by
    intro h; subst h; exact ⟨by rw [show (0 : Int).natAbs = 0 from rfl, dec_zero]; rfl, by omega⟩
  have hz : n.natAbs = 0 ↔ n = 0 := by omega
  rw [hz] at h48
  generalize hD : Lib.decDigits n.natAbs = D at *
  refine WW ?_
  refine CL_pure hp rfl ?_
  have loop : ∀ fs : List F, ∀ st : St, True := fun _ _ => trivial
  by_cases hn : n = 0
  · obtain ⟨r1, r2⟩ := rest hn
    have r3 : ¬ (1 : Int) < (D.length : Int) := by omega
    have h48 := h48.2 hn
    refine WF (And.intro hne (And.intro hl2 (And.intro h0 (And.intro h48 (And.intro r3 r2))))) ?_
    refine X_for (fun j : Nat => ⟨[(3, .str D), (32, .int .i64 D.length), (33, .int .i64 j)], []⟩) (fun j => j ≤ D.length) (fun j => D.length - j) 0 (Nat.zero_le _) ?_ ?_
    · exact weak_keep (by simp [lookup])
    intro j R j1 hR
    try dsimp only at hR ⊢
    rcases Nat.lt_or_ge j D.length with hj | hj
    · obtain ⟨x, hx, x1, x2⟩ := hdig j hj
      have x3 : ¬ (x.toNat : Int) < 48 := by omega
      have x4 : ¬ 57 < (x.toNat : Int) := by omega
      refine WF (And.intro hj (And.intro hx (And.intro x3 x4))) ?_
      exact hR (j + 1) _ (by omega) (by omega) (weak_keep (by simp [lookup]))
    · have hj' : ¬ j < D.length := by omega
      refine WF hj' ?_
      exact shi rfl
  · have h48 : ¬ (c.toNat : Int) = 48 := fun h => hn (h48.1 h)
    refine WF (And.intro hne (And.intro hl2 (And.intro h0 h48))) ?_
    refine X_for (fun j : Nat => ⟨[(3, .str D), (32, .int .i64 D.length), (33, .int .i64 j)], []⟩) (fun j => j ≤ D.length) (fun j => D.length - j) 0 (Nat.zero_le _) ?_ ?_
    · exact weak_keep (by simp [lookup])
    intro j R j1 hR
    try dsimp only at hR ⊢
    rcases Nat.lt_or_ge j D.length with hj | hj
    · obtain ⟨x, hx, x1, x2⟩ := hdig j hj
      have x3 : ¬ (x.toNat : Int) < 48 := by omega
      have x4 : ¬ 57 < (x.toNat : Int) := by omega
      refine WF (And.intro hj (And.intro hx (And.intro x3 x4))) ?_
      exact hR (j + 1) _ (by omega) (by omega) (weak_keep (by simp [lookup]))
    · have hj' : ¬ j < D.length := by omega
      refine WF hj' ?_
      exact shi rfl

/-! The order of digits. -/
theorem cb_snoc : ∀ (l l' : List UInt8) (x y : UInt8), l.length = l'.length → Lib.compareBytes (l ++ [x]) (l' ++ [y]) = if Lib.compareBytes l l' = 0 then (if x < y then -1 else if y < x then 1 else 0) else Lib.compareBytes l l'
  | [], [], x, y, _ => by simp [Lib.compareBytes]
  | [], _ :: _, _, _, h => by simp at h
  | _ :: _, [], _, _, h => by simp at h
  | a :: l, b :: l', x, y, h => by
    simp only [List.cons_append, Lib.compareBytes]
    split
    · simp
    · split
      · simp
      · exact cb_snoc l l' x y (by simpa using h)
theorem cb_dec : ∀ (u v : Nat), Lib.nDigits u = Lib.nDigits v → Lib.compareBytes (Lib.decDigits u) (Lib.decDigits v) = if u < v then -1 else if v < u then 1 else 0 := by
  intro u
  induction u using Nat.strongRecOn with
  | _ u ih =>
    intro v h
    have hb : ∀ d e : Nat, d < 10 → e < 10 → (UInt8.ofNat (48 + d) < UInt8.ofNat (48 + e) ↔ d < e) := by
      intro d e hd he
      rw [UInt8.lt_iff_toNat_lt, byte_nat hd, byte_nat he]; omega
    by_cases hu : u < 10
    · have hv : v < 10 := by
        rw [Lib.nDigits_small hu] at h
        have := Lib.lt_pow_nDigits v
        rw [← h] at this; omega
      rw [dec_small hu, dec_small hv]
      simp only [Lib.compareBytes, hb u v hu hv, hb v u hv hu]
    · have hv : ¬ v < 10 := by
        intro hv
        rw [Lib.nDigits_small hv, Lib.nDigits_big hu] at h
        have := Lib.nDigits_pos (u / 10)
        omega
      rw [Lib.nDigits_big hu, Lib.nDigits_big hv] at h
      have ih' := ih (u / 10) (by omega) (v / 10) (by omega)
      rw [dec_big hu, dec_big hv, cb_snoc _ _ _ _ (by rw [dec_length, dec_length]; omega), ih']
      simp only [hb (u % 10) (v % 10) (by omega) (by omega), hb (v % 10) (u % 10) (by omega) (by omega)]
      (repeat' split) <;> omega
theorem nDigits_mono {u v : Nat} (h : Lib.nDigits u < Lib.nDigits v) : u < v := by
  have h1 := Lib.lt_pow_nDigits u
  rcases Nat.lt_or_ge u v with h2 | h2
  · exact h2
  · have : Lib.nDigits v ≤ Lib.nDigits u := nDigits_le (Lib.nDigits_pos u) (by omega)
    omega

/-- integer.Compare -/
theorem s59 (m : Int) (a b : Int) : SpecP (cx m) 59 [.str (Lib.itoa a), .str (Lib.itoa b)] (.int .i64 (sgi (a - b))) := by
  refine specP_of (mixed m) (k59 m) (Nat.le_of_ble_eq_true rfl) (X_start ?_)
  unfold c59
  have ta := s109 m (Lib.itoa a) [45]
  have tb := s109 m (Lib.itoa b) [45]
  rw [itoa_trim] at ta tb
  have sa : sgi a = 1 ∧ 0 < a ∨ sgi a = 0 ∧ a = 0 ∨ sgi a = -1 ∧ a < 0 := by unfold sgi; split <;> (try split) <;> omega
  have sb : sgi b = 1 ∧ 0 < b ∨ sgi b = 0 ∧ b = 0 ∨ sgi b = -1 ∧ b < 0 := by unfold sgi; split <;> (try split) <;> omega
  have sd : sgi (a - b) = if a = b then 0 else if a < b then -1 else 1 := by unfold sgi; split <;> split <;> (try split) <;> omega
  have cd := cb_dec a.natAbs b.natAbs
  have mo := @nDigits_mono a.natAbs b.natAbs
  have mo' := @nDigits_mono b.natAbs a.natAbs
  have la := dec_length a.natAbs
  have lb := dec_length b.natAbs
  refine WW ?_
  refine CL_pure (s108 m a) rfl ?_
  refine WW ?_
  refine CL_pure (s108 m b) rfl ?_
  refine WW ?_
  refine iteI (fun h => iteI (fun h' => shi ?_) (fun h' => shi ?_)) (fun h => ?_)
  · rw [sd]; split <;> (try split) <;> omega
  · rw [sd]; split <;> (try split) <;> omega
  have h := Classical.not_not.1 h
  refine CL_pure ta rfl ?_
  refine WW ?_
  refine CL_pure tb rfl ?_
  refine WW ?_
  refine iteI (fun h1 => iteI (fun h2 => shi ?_) (fun h2 => shi ?_)) (fun h1 => ?_)
  · rw [sd]; split <;> (try split) <;> omega
  · rw [sd]; split <;> (try split) <;> omega
  refine CL_pure (s110 m _ _) rfl ?_
  have h1 : Lib.nDigits a.natAbs = Lib.nDigits b.natAbs := by omega
  rw [cd h1]
  have e : sgi a * (if a.natAbs < b.natAbs then -1 else if b.natAbs < a.natAbs then 1 else 0) = sgi (a - b) := by
    rw [sd]
    rcases sa with ⟨s, h3⟩ | ⟨s, h3⟩ | ⟨s, h3⟩ <;> rw [s] <;> (repeat' split) <;> omega
  have hr : -1 ≤ sgi (a - b) ∧ sgi (a - b) ≤ 1 := by unfold sgi; split <;> (try split) <;> omega
  refine WF e ?_
  exact shi rfl
/-- Short numbers: what the checks want. -/
def sm (q : Rat) : Prop := q.num.natAbs < 10 ^ 9 ∧ q.den < 10 ^ 9
theorem sm_qk {q : Rat} (h : sm q) : qk q := qk_of h.1 h.2

/-- rational.Check -/
theorem s50 (m : Int) (q : Rat) (hq : qk q) : SpecP (cx m) 50 [.str (tq q)] (.int .i64 0) := by
  refine specP_of (mixed m) (k50 m) (Nat.le_of_ble_eq_true rfl) (X_start ?_)
  unfold c50
  obtain ⟨q1, q2⟩ := qk_lt hq
  have len := qk_len hq
  have hc := s99 m (tq q) [47] (by omega)
  have dn : (Lib.decDigits q.num.natAbs).length ≤ 9 := by rw [dec_length]; exact nDigits_le (by omega) q1
  have dd : (Lib.decDigits q.den).length ≤ 9 := by rw [dec_length]; exact nDigits_le (by omega) q2
  have n1 := s100 m q.num (by omega)
  by_cases h : q.den = 1
  · have e : Lib.cut (tq q) [47] = (Lib.itoa q.num, [], false) := by rw [tq_whole h, cut_none (itoa_no47 _)]
    rw [e] at hc
    refine WW ?_
    refine CL_pure hc rfl ?_
    refine WW ?_
    refine CL_pure n1 rfl ?_
    refine WW ?_
    exact shi rfl
  · have e : Lib.cut (tq q) [47] = (Lib.itoa q.num, Lib.decDigits q.den, true) := by rw [tq_part h, cut_some (itoa_no47 _)]
    rw [e] at hc
    have hden := den_pos q
    have ei : Lib.decDigits q.den = Lib.itoa (q.den : Int) := by rw [itoa_nonneg (n := (q.den : Int)) (by omega)]; simp
    have n2 := s100 m (q.den : Int) (by simpa using (show (Lib.decDigits q.den).length ≤ 200 by omega))
    have n3 := s59 m (q.den : Int) 1
    rw [itoa_one, show sgi ((q.den : Int) - 1) = 1 by unfold sgi; split <;> (try split) <;> omega] at n3
    have n4 := s101 m q.num (q.den : Int) (by have := len_itoa (n := q.num) (k := 9) (by omega) q1; omega) (by have := len_itoa (n := (q.den : Int)) (k := 9) (by omega) (by simpa using q2); omega)
    rw [show Int.gcd q.num (q.den : Int) = 1 by have := q.reduced; unfold Nat.Coprime at this; unfold Int.gcd; simpa using this, show (((1 : Nat) : Int)) = 1 from rfl, itoa_one] at n4
    rw [← ei] at n2 n3 n4
    have hz : ¬ q.num = 0 := by
      intro hz
      have := q.reduced
      rw [hz] at this
      unfold Nat.Coprime at this
      simp at this; exact h this
    refine WW ?_
    refine CL_pure hc rfl ?_
    refine WW ?_
    refine CL_pure n1 rfl ?_
    refine WW ?_
    refine CL_pure n2 rfl ?_
    refine WW ?_
    refine CL_pure n3 rfl ?_
    refine WF (And.intro @itoa_is0 hz) ?_
    refine CL_pure n4 rfl ?_
    refine WW ?_
    exact shi rfl

/-- rational.Of, of a fraction in lowest terms -/
theorem s64 (m : Int) (n : Int) (d : Nat) (hd : 0 < d) (hg : Int.gcd n d = 1) (h1 : n.natAbs < 10 ^ 17) (h2 : d < 10 ^ 17) :
    SpecP (cx m) 64 [.str (Lib.itoa n), .str (Lib.itoa d)] (.str (if d = 1 then Lib.itoa n else Lib.itoa n ++ 47 :: Lib.decDigits d)) := by
  refine specP_of (mixed m) (k64 m) (Nat.le_of_ble_eq_true rfl) (X_start ?_)
  unfold c64
  have l1 := len_itoa (n := n) (k := 17) (by omega) h1
  have l2 := len_itoa (n := (d : Int)) (k := 17) (by omega) (by simpa using h2)
  have g := s101 m n (d : Int) (by omega) (by omega)
  rw [hg, show (((1 : Nat) : Int)) = 1 from rfl, itoa_one] at g
  have s := s108 m (d : Int)
  rw [show sgi (d : Int) = 1 by unfold sgi; split <;> (try split) <;> omega] at s
  have ei : Lib.itoa (d : Int) = Lib.decDigits d := by rw [itoa_nonneg (n := (d : Int)) (by omega)]; simp
  refine WW ?_
  refine CL_pure s rfl ?_
  refine WW ?_
  refine CL_pure g rfl ?_
  refine WW ?_
  rw [ei] at l2 ⊢
  refine CL_pure (s119 m n d (by omega) (by omega)) rfl ?_
  refine WW ?_
  exact shs rfl
theorem s93 (m : Int) (n : Int) (d : Nat) (hd : 0 < d) (hg : Int.gcd n d = 1) (h1 : n.natAbs < 10 ^ 17) (h2 : d < 10 ^ 17) :
    SpecP (cx m) 93 [.str (Lib.itoa n), .str (Lib.itoa d)] (.tuple [.str (if d = 1 then Lib.itoa n else Lib.itoa n ++ 47 :: Lib.decDigits d), .int .i64 0]) := by
  refine specP_of (mixed m) (k93 m) (Nat.le_of_ble_eq_true rfl) (X_start ?_)
  unfold c93
  have s := s108 m (d : Int)
  rw [show sgi (d : Int) = 1 by unfold sgi; split <;> (try split) <;> omega] at s
  refine WW ?_
  refine CL_pure s rfl ?_
  refine WW ?_
  refine CL_pure (s64 m n d hd hg h1 h2) rfl ?_
  refine WW ?_
  exact shv rfl rfl
/-- rational.Of, of an integer -/
theorem s44 (m : Int) (n : Int) (h1 : n.natAbs < 10 ^ 17) : SpecP (cx m) 44 [.int .i64 n, .int .i64 1] (.tuple [.str (tq n), .int .i64 0]) := by
  refine specP_of (mixed m) (k44 m) (Nat.le_of_ble_eq_true rfl) (X_start ?_)
  unfold c44
  have s := s93 m n 1 (by omega) (by simp) h1 (by decide)
  rw [if_pos rfl] at s
  refine WW ?_
  refine CL_pure (s94 m n (by omega) (by omega)) rfl ?_
  refine WW ?_
  refine CL_pure (s94 m 1 (by omega) (by omega)) rfl ?_
  refine WW ?_
  refine CL_pure s rfl ?_
  refine WW ?_
  exact shv (by rw [tq_int]) rfl

/-- A point. -/
def eP (p : Pt) : AV := .agg [.str (tq p.1), .str (tq p.2)]
theorem eP_plain (p : Pt) : (eP p).plain = true := rfl
theorem eP_cells (p : Pt) : (eP p).cells = [.str (tq p.1), .str (tq p.2)] := rfl

/-- vector.CheckPoint -/
theorem s84 (m : Int) (l : List Rat) (h : ∀ q ∈ l, qk q) (hl : l.length < 1000000) : SpecP (cx m) 84 [.sl 1 (l.map fun q => .str (tq q))] (.int .i64 0) := by
  refine specP_of (mixed m) (k84 m) (Nat.le_of_ble_eq_true rfl) (X_start ?_)
  unfold c84
  refine WW ?_
  refine X_for (fun j : Nat => ⟨[(6, .sl 1 (l.map fun q => .str (tq q))), (7, .int .i64 l.length), (8, .int .i64 j)], []⟩) (fun j => j ≤ l.length) (fun j => l.length - j) 0 (Nat.zero_le _) ?_ ?_
  · exact weak_keep (by simp [lookup])
  intro j R j1 hR
  try dsimp only at hR ⊢
  rcases Nat.lt_or_ge j l.length with hj | hj
  · have hx : (l.map fun q => AV.str (tq q))[j]? = some (.str (tq l[j])) := by simp [hj]
    refine WF (And.intro hj hx) ?_
    refine CL_pure (s50 m _ (h _ (List.getElem_mem hj))) rfl ?_
    refine WW ?_
    exact hR (j + 1) _ (by omega) (by omega) (weak_keep (by simp [lookup]))
  · have hj' : ¬ j < l.length := by omega
    refine WF hj' ?_
    exact shi rfl
theorem s49 (m : Int) (p : Pt) (h1 : qk p.1) (h2 : qk p.2) : SpecP (cx m) 49 [eP p] (.int .i64 0) := by
  refine specP_of (mixed m) (k49 m) (Nat.le_of_ble_eq_true rfl) (X_start ?_)
  unfold c49
  refine WF @eP.eq_1 ?_
  refine CL_pure (s84 m [p.1, p.2] (by simp [h1, h2]) (by simp)) rfl ?_
  refine WW ?_
  exact shi rfl
end Go.Proofs.YtkjnjdcbnelceaaGreatDoor.KA
end

section
/- The small code of functions, as own tools print it; that it is the program's is checked by the kernel. -/
open Go Go.Proofs
set_option linter.unusedVariables false
namespace Go.Proofs.YtkjnjdcbnelceaaGreatDoor.KA
def c20 : C := (C.ops [⟨I.box 3 (O.t 0) false, none, some 3⟩, ⟨I.box 4 (O.t 1) false, none, some 4⟩, ⟨I.box 5 (O.t 2) false, none, some 5⟩, ⟨I.mv 6 (O.k (AV.str [])), none, some 6⟩]).seq ((C.ops [⟨I.fld 8 0 (O.t 4), none, some 8⟩, ⟨I.loadf 9 false 1 (O.t 8), none, some 9⟩, ⟨I.fld 10 0 (O.t 3), none, some 10⟩, ⟨I.loadf 11 false 1 (O.t 10), none, some 11⟩, ⟨I.call (some 12) (O.k (AV.fn 56 [])) [O.t 9, O.t 11] false, none, some 12⟩, ⟨I.fld 13 1 (O.t 5), none, some 13⟩, ⟨I.loadf 14 false 1 (O.t 13), none, some 14⟩, ⟨I.fld 15 1 (O.t 3), none, some 15⟩, ⟨I.loadf 16 false 1 (O.t 15), none, some 16⟩, ⟨I.call (some 17) (O.k (AV.fn 56 [])) [O.t 14, O.t 16] false, none, some 17⟩, ⟨I.call (some 18) (O.k (AV.fn 55 [])) [O.t 12, O.t 17] false, none, some 18⟩, ⟨I.mv 7 (O.t 18), none, some 7⟩]).seq ((C.ops [⟨I.mv 19 (O.t 7), none, some 19⟩, ⟨I.fld 20 1 (O.t 4), none, some 20⟩, ⟨I.loadf 21 false 1 (O.t 20), none, some 21⟩, ⟨I.fld 22 1 (O.t 3), none, some 22⟩, ⟨I.loadf 23 false 1 (O.t 22), none, some 23⟩, ⟨I.call (some 24) (O.k (AV.fn 56 [])) [O.t 21, O.t 23] false, none, some 24⟩, ⟨I.fld 25 0 (O.t 5), none, some 25⟩, ⟨I.loadf 26 false 1 (O.t 25), none, some 26⟩, ⟨I.fld 27 0 (O.t 3), none, some 27⟩, ⟨I.loadf 28 false 1 (O.t 27), none, some 28⟩, ⟨I.call (some 29) (O.k (AV.fn 56 [])) [O.t 26, O.t 28] false, none, some 29⟩, ⟨I.call (some 30) (O.k (AV.fn 55 [])) [O.t 24, O.t 29] false, none, some 30⟩, ⟨I.call (some 31) (O.k (AV.fn 56 [])) [O.t 19, O.t 30] false, none, some 31⟩, ⟨I.mv 6 (O.t 31), none, some 6⟩]).seq C.ret))
theorem k20 (m : Int) : compF (cx m).P (cx m).gt (fun _ => false) 20 = some (c20, [RV.tmp 6], 32) := by kernel_rfl
def c52 : C := (C.ops [⟨I.box 3 (O.t 0) false, none, some 3⟩, ⟨I.box 4 (O.t 1) false, none, some 4⟩, ⟨I.box 5 (O.t 2) false, none, some 5⟩, ⟨I.mv 6 (O.k (AV.str [])), none, some 6⟩]).seq ((C.ops [⟨I.fld 7 0 (O.t 4), none, some 7⟩, ⟨I.loadf 8 false 1 (O.t 7), none, some 8⟩, ⟨I.fld 9 0 (O.t 3), none, some 9⟩, ⟨I.loadf 10 false 1 (O.t 9), none, some 10⟩, ⟨I.call (some 11) (O.k (AV.fn 56 [])) [O.t 8, O.t 10] false, none, some 11⟩, ⟨I.fld 12 1 (O.t 5), none, some 12⟩, ⟨I.loadf 13 false 1 (O.t 12), none, some 13⟩, ⟨I.fld 14 1 (O.t 3), none, some 14⟩, ⟨I.loadf 15 false 1 (O.t 14), none, some 15⟩, ⟨I.call (some 16) (O.k (AV.fn 56 [])) [O.t 13, O.t 15] false, none, some 16⟩, ⟨I.call (some 17) (O.k (AV.fn 55 [])) [O.t 11, O.t 16] false, none, some 17⟩, ⟨I.fld 18 1 (O.t 4), none, some 18⟩, ⟨I.loadf 19 false 1 (O.t 18), none, some 19⟩, ⟨I.fld 20 1 (O.t 3), none, some 20⟩, ⟨I.loadf 21 false 1 (O.t 20), none, some 21⟩, ⟨I.call (some 22) (O.k (AV.fn 56 [])) [O.t 19, O.t 21] false, none, some 22⟩, ⟨I.fld 23 0 (O.t 5), none, some 23⟩, ⟨I.loadf 24 false 1 (O.t 23), none, some 24⟩, ⟨I.fld 25 0 (O.t 3), none, some 25⟩, ⟨I.loadf 26 false 1 (O.t 25), none, some 26⟩, ⟨I.call (some 27) (O.k (AV.fn 56 [])) [O.t 24, O.t 26] false, none, some 27⟩, ⟨I.call (some 28) (O.k (AV.fn 55 [])) [O.t 22, O.t 27] false, none, some 28⟩, ⟨I.call (some 29) (O.k (AV.fn 56 [])) [O.t 17, O.t 28] false, none, some 29⟩, ⟨I.mv 6 (O.t 29), none, some 6⟩]).seq C.ret)
theorem k52 (m : Int) : compF (cx m).P (cx m).gt (fun _ => false) 52 = some (c52, [RV.tmp 6], 30) := by kernel_rfl
def c32 : C := (C.ops [⟨I.box 2 (O.t 0) false, none, some 2⟩, ⟨I.box 3 (O.t 1) false, none, some 3⟩, ⟨I.mv 4 (O.k (AV.int IntKind.i64 0)), none, some 4⟩]).seq (((C.ops [⟨I.fld 6 0 (O.t 2), none, some 6⟩, ⟨I.loadf 7 false 1 (O.t 6), none, some 7⟩, ⟨I.fld 8 0 (O.t 3), none, some 8⟩, ⟨I.loadf 9 false 1 (O.t 8), none, some 9⟩, ⟨I.call (some 10) (O.k (AV.fn 21 [])) [O.t 7, O.t 9] false, none, some 10⟩, ⟨I.mv 5 (O.t 10), none, some 5⟩]).seq ((C.ops [⟨I.mv 11 (O.t 5), none, some 11⟩, ⟨I.bin 12 BinOp.neq (O.t 11) (O.k (AV.int IntKind.i64 0)), none, some 12⟩]).seq (C.cond (O.t 12) ((C.ops [⟨I.mv 13 (O.t 5), none, some 13⟩, ⟨I.mv 4 (O.t 13), none, some 4⟩]).seq C.ret) C.skip))).seq ((C.ops [⟨I.fld 14 1 (O.t 2), none, some 14⟩, ⟨I.loadf 15 false 1 (O.t 14), none, some 15⟩, ⟨I.fld 16 1 (O.t 3), none, some 16⟩, ⟨I.loadf 17 false 1 (O.t 16), none, some 17⟩, ⟨I.call (some 18) (O.k (AV.fn 21 [])) [O.t 15, O.t 17] false, none, some 18⟩, ⟨I.mv 4 (O.t 18), none, some 4⟩]).seq C.ret))
theorem k32 (m : Int) : compF (cx m).P (cx m).gt (fun _ => false) 32 = some (c32, [RV.tmp 4], 19) := by kernel_rfl
def c70 : C := (C.ops [⟨I.box 2 (O.t 0) false, none, some 2⟩, ⟨I.box 3 (O.t 1) false, none, some 3⟩, ⟨I.mv 4 (O.k (AV.int IntKind.i64 0)), none, some 4⟩]).seq (((C.ops [⟨I.fld 6 0 (O.t 2), none, some 6⟩, ⟨I.loadf 7 false 1 (O.t 6), none, some 7⟩, ⟨I.fld 8 0 (O.t 3), none, some 8⟩, ⟨I.loadf 9 false 1 (O.t 8), none, some 9⟩, ⟨I.call (some 10) (O.k (AV.fn 21 [])) [O.t 7, O.t 9] false, none, some 10⟩, ⟨I.mv 5 (O.t 10), none, some 5⟩]).seq ((C.ops [⟨I.mv 11 (O.t 5), none, some 11⟩, ⟨I.bin 12 BinOp.neq (O.t 11) (O.k (AV.int IntKind.i64 0)), none, some 12⟩]).seq (C.cond (O.t 12) ((C.ops [⟨I.mv 13 (O.t 5), none, some 13⟩, ⟨I.mv 4 (O.t 13), none, some 4⟩]).seq C.ret) C.skip))).seq ((C.ops [⟨I.fld 14 1 (O.t 2), none, some 14⟩, ⟨I.loadf 15 false 1 (O.t 14), none, some 15⟩, ⟨I.fld 16 1 (O.t 3), none, some 16⟩, ⟨I.loadf 17 false 1 (O.t 16), none, some 17⟩, ⟨I.call (some 18) (O.k (AV.fn 21 [])) [O.t 15, O.t 17] false, none, some 18⟩, ⟨I.mv 4 (O.t 18), none, some 4⟩]).seq C.ret))
theorem k70 (m : Int) : compF (cx m).P (cx m).gt (fun _ => false) 70 = some (c70, [RV.tmp 4], 19) := by kernel_rfl
def c25 : C := (C.ops [⟨I.box 3 (O.t 0) false, none, some 3⟩, ⟨I.box 4 (O.t 1) false, none, some 4⟩, ⟨I.box 5 (O.t 2) false, none, some 5⟩, ⟨I.mv 6 (O.k (AV.bool false)), none, some 6⟩]).seq ((C.ops [⟨I.loadf 9 true 2 (O.t 3), none, some 9⟩, ⟨I.loadf 10 true 2 (O.t 4), none, some 10⟩, ⟨I.alloc 7 [AV.str [], AV.str []] true, none, some 7⟩, ⟨I.alloc 8 [AV.str [], AV.str []] true, none, some 8⟩, ⟨I.store 2 (O.t 7) (O.t 9), none, none⟩, ⟨I.store 2 (O.t 8) (O.t 10), none, none⟩]).seq (((C.ops [⟨I.loadf 11 true 2 (O.t 3), none, some 11⟩, ⟨I.loadf 12 true 2 (O.t 4), none, some 12⟩, ⟨I.call (some 13) (O.k (AV.fn 32 [])) [O.t 11, O.t 12] false, none, some 13⟩, ⟨I.bin 14 BinOp.gtr (O.t 13) (O.k (AV.int IntKind.i64 0)), none, some 14⟩]).seq (C.cond (O.t 14) (C.ops [⟨I.loadf 15 true 2 (O.t 4), none, some 15⟩, ⟨I.loadf 16 true 2 (O.t 3), none, some 16⟩, ⟨I.store 2 (O.t 7) (O.t 15), none, none⟩, ⟨I.store 2 (O.t 8) (O.t 16), none, none⟩]) C.skip)).seq ((C.ops [⟨I.loadf 17 true 2 (O.t 3), none, some 17⟩, ⟨I.loadf 18 true 2 (O.t 4), none, some 18⟩, ⟨I.loadf 19 true 2 (O.t 5), none, some 19⟩, ⟨I.call (some 20) (O.k (AV.fn 20 [])) [O.t 17, O.t 18, O.t 19] false, none, some 20⟩, ⟨I.call (some 21) (O.k (AV.fn 18 [])) [O.t 20] false, none, some 21⟩, ⟨I.bin 22 BinOp.eql (O.t 21) (O.k (AV.int IntKind.i64 0)), none, some 22⟩, ⟨I.mv 23 (O.t 22), none, some 23⟩, ⟨I.load 24 true 2 (O.t 7), some (23, true), some 24⟩, ⟨I.loadf 25 true 2 (O.t 5), some (23, true), some 25⟩, ⟨I.call (some 26) (O.k (AV.fn 32 [])) [O.t 24, O.t 25] false, some (23, true), some 26⟩, ⟨I.bin 27 BinOp.leq (O.t 26) (O.k (AV.int IntKind.i64 0)), some (23, true), some 27⟩, ⟨I.pick 28 (O.t 23) (O.t 27) (O.k (AV.bool false)), none, some 28⟩, ⟨I.mv 29 (O.t 28), none, some 29⟩, ⟨I.loadf 30 true 2 (O.t 5), some (29, true), some 30⟩, ⟨I.load 31 true 2 (O.t 8), some (29, true), some 31⟩, ⟨I.call (some 32) (O.k (AV.fn 32 [])) [O.t 30, O.t 31] false, some (29, true), some 32⟩, ⟨I.bin 33 BinOp.leq (O.t 32) (O.k (AV.int IntKind.i64 0)), some (29, true), some 33⟩, ⟨I.pick 34 (O.t 29) (O.t 33) (O.k (AV.bool false)), none, some 34⟩, ⟨I.mv 6 (O.t 34), none, some 6⟩]).seq C.ret)))
theorem k25 (m : Int) : compF (cx m).P (cx m).gt (fun t => t == 7 || t == 8 || t == 24 || t == 31) 25 = some (c25, [RV.tmp 6], 35) := by kernel_rfl
def c96 : C := (C.ops [⟨I.box 4 (O.t 0) true, none, some 4⟩, ⟨I.box 5 (O.t 1) true, none, some 5⟩, ⟨I.box 6 (O.t 2) true, none, some 6⟩, ⟨I.box 7 (O.t 3) true, none, some 7⟩, ⟨I.mv 8 (O.k (AV.int IntKind.i64 0)), none, some 8⟩, ⟨I.alloc 9 [AV.str [], AV.str []] true, none, some 9⟩]).seq (((C.ops [⟨I.load 13 true 2 (O.t 4), none, some 13⟩, ⟨I.load 14 true 2 (O.t 5), none, some 14⟩, ⟨I.call (some 15) (O.k (AV.fn 70 [])) [O.t 13, O.t 14] false, none, some 15⟩, ⟨I.bin 16 BinOp.gtr (O.t 15) (O.k (AV.int IntKind.i64 0)), none, some 16⟩]).seq (C.cond (O.t 16) (C.ops [⟨I.load 17 true 2 (O.t 5), none, some 17⟩, ⟨I.load 18 true 2 (O.t 4), none, some 18⟩, ⟨I.store 2 (O.t 4) (O.t 17), none, none⟩, ⟨I.store 2 (O.t 5) (O.t 18), none, none⟩]) C.skip)).seq (((C.ops [⟨I.load 19 true 2 (O.t 6), none, some 19⟩, ⟨I.load 20 true 2 (O.t 7), none, some 20⟩, ⟨I.call (some 21) (O.k (AV.fn 70 [])) [O.t 19, O.t 20] false, none, some 21⟩, ⟨I.bin 22 BinOp.gtr (O.t 21) (O.k (AV.int IntKind.i64 0)), none, some 22⟩]).seq (C.cond (O.t 22) (C.ops [⟨I.load 23 true 2 (O.t 7), none, some 23⟩, ⟨I.load 24 true 2 (O.t 6), none, some 24⟩, ⟨I.store 2 (O.t 6) (O.t 23), none, none⟩, ⟨I.store 2 (O.t 7) (O.t 24), none, none⟩]) C.skip)).seq ((C.ops [⟨I.load 25 true 2 (O.t 4), none, some 25⟩, ⟨I.load 26 true 2 (O.t 5), none, some 26⟩, ⟨I.alloc 10 [AV.str [], AV.str []] true, none, some 10⟩, ⟨I.alloc 11 [AV.str [], AV.str []] true, none, some 11⟩, ⟨I.store 2 (O.t 10) (O.t 25), none, none⟩, ⟨I.store 2 (O.t 11) (O.t 26), none, none⟩]).seq (((C.ops [⟨I.load 27 true 2 (O.t 6), none, some 27⟩, ⟨I.load 28 true 2 (O.t 10), none, some 28⟩, ⟨I.call (some 29) (O.k (AV.fn 70 [])) [O.t 27, O.t 28] false, none, some 29⟩, ⟨I.bin 30 BinOp.gtr (O.t 29) (O.k (AV.int IntKind.i64 0)), none, some 30⟩]).seq (C.cond (O.t 30) (C.ops [⟨I.load 31 true 2 (O.t 6), none, some 31⟩, ⟨I.store 2 (O.t 10) (O.t 31), none, none⟩]) C.skip)).seq (((C.ops [⟨I.load 32 true 2 (O.t 7), none, some 32⟩, ⟨I.load 33 true 2 (O.t 11), none, some 33⟩, ⟨I.call (some 34) (O.k (AV.fn 70 [])) [O.t 32, O.t 33] false, none, some 34⟩, ⟨I.bin 35 BinOp.lss (O.t 34) (O.k (AV.int IntKind.i64 0)), none, some 35⟩]).seq (C.cond (O.t 35) (C.ops [⟨I.load 36 true 2 (O.t 7), none, some 36⟩, ⟨I.store 2 (O.t 11) (O.t 36), none, none⟩]) C.skip)).seq (((C.ops [⟨I.load 37 true 2 (O.t 10), none, some 37⟩, ⟨I.load 38 true 2 (O.t 11), none, some 38⟩, ⟨I.call (some 39) (O.k (AV.fn 70 [])) [O.t 37, O.t 38] false, none, some 39⟩, ⟨I.mv 12 (O.t 39), none, some 12⟩]).seq (C.block 0 ((C.ops [⟨I.mv 41 (O.t 12), none, some 41⟩, ⟨I.bin 42 BinOp.gtr (O.t 41) (O.k (AV.int IntKind.i64 0)), none, some 42⟩, ⟨I.mv 40 (O.t 42), none, some 40⟩]).seq (C.cond (O.t 40) ((C.ops [⟨I.build 43 [AV.str [], AV.str []] [], none, some 43⟩, ⟨I.mv 8 (O.k (AV.int IntKind.i64 0)), none, some 8⟩, ⟨I.store 2 (O.t 9) (O.t 43), none, none⟩]).seq C.ret) ((C.ops [⟨I.mv 45 (O.t 12), none, some 45⟩, ⟨I.bin 46 BinOp.eql (O.t 45) (O.k (AV.int IntKind.i64 0)), none, some 46⟩, ⟨I.mv 44 (O.t 46), none, some 44⟩]).seq (C.cond (O.t 44) ((C.ops [⟨I.load 47 true 2 (O.t 10), none, some 47⟩, ⟨I.mv 8 (O.k (AV.int IntKind.i64 1)), none, some 8⟩, ⟨I.store 2 (O.t 9) (O.t 47), none, none⟩]).seq C.ret) C.skip)))))).seq ((C.ops [⟨I.build 48 [AV.str [], AV.str []] [], none, some 48⟩, ⟨I.mv 8 (O.k (AV.int IntKind.i64 2)), none, some 8⟩, ⟨I.store 2 (O.t 9) (O.t 48), none, none⟩]).seq C.ret)))))))
theorem k96 (m : Int) : compF (cx m).P (cx m).gt (fun t => t == 4 || t == 5 || t == 6 || t == 7 || t == 9 || t == 10 || t == 11 || t == 13 || t == 14 || t == 17 || t == 18 || t == 19 || t == 20 || t == 23 || t == 24 || t == 25 || t == 26 || t == 27 || t == 28 || t == 31 || t == 32 || t == 33 || t == 36 || t == 37 || t == 38 || t == 47) 96 = some (c96, [RV.tmp 8, RV.cell 9 true 2], 49) := by kernel_rfl
def c46 : C := (C.ops [⟨I.box 4 (O.t 0) false, none, some 4⟩, ⟨I.box 5 (O.t 1) false, none, some 5⟩, ⟨I.box 6 (O.t 2) false, none, some 6⟩, ⟨I.box 7 (O.t 3) false, none, some 7⟩, ⟨I.mv 8 (O.k (AV.int IntKind.i64 0)), none, some 8⟩, ⟨I.alloc 9 [AV.str [], AV.str []] true, none, some 9⟩]).seq ((C.ops [⟨I.loadf 19 true 2 (O.t 4), none, some 19⟩, ⟨I.loadf 20 true 2 (O.t 5), none, some 20⟩, ⟨I.loadf 21 true 2 (O.t 6), none, some 21⟩, ⟨I.call (some 22) (O.k (AV.fn 62 [])) [O.t 19, O.t 20, O.t 21] false, none, some 22⟩, ⟨I.loadf 23 true 2 (O.t 4), none, some 23⟩, ⟨I.loadf 24 true 2 (O.t 5), none, some 24⟩, ⟨I.loadf 25 true 2 (O.t 7), none, some 25⟩, ⟨I.call (some 26) (O.k (AV.fn 62 [])) [O.t 23, O.t 24, O.t 25] false, none, some 26⟩, ⟨I.loadf 27 true 2 (O.t 6), none, some 27⟩, ⟨I.loadf 28 true 2 (O.t 7), none, some 28⟩, ⟨I.loadf 29 true 2 (O.t 4), none, some 29⟩, ⟨I.call (some 30) (O.k (AV.fn 62 [])) [O.t 27, O.t 28, O.t 29] false, none, some 30⟩, ⟨I.loadf 31 true 2 (O.t 6), none, some 31⟩, ⟨I.loadf 32 true 2 (O.t 7), none, some 32⟩, ⟨I.loadf 33 true 2 (O.t 5), none, some 33⟩, ⟨I.call (some 34) (O.k (AV.fn 62 [])) [O.t 31, O.t 32, O.t 33] false, none, some 34⟩, ⟨I.mv 10 (O.t 22), none, some 10⟩, ⟨I.mv 11 (O.t 26), none, some 11⟩, ⟨I.mv 12 (O.t 30), none, some 12⟩, ⟨I.mv 13 (O.t 34), none, some 13⟩]).seq (((C.ops [⟨I.mv 35 (O.t 10), none, some 35⟩, ⟨I.bin 36 BinOp.eql (O.t 35) (O.k (AV.int IntKind.i64 0)), none, some 36⟩, ⟨I.mv 37 (O.t 36), none, some 37⟩, ⟨I.mv 38 (O.t 11), some (37, true), some 38⟩, ⟨I.bin 39 BinOp.eql (O.t 38) (O.k (AV.int IntKind.i64 0)), some (37, true), some 39⟩, ⟨I.pick 40 (O.t 37) (O.t 39) (O.k (AV.bool false)), none, some 40⟩]).seq (C.cond (O.t 40) ((C.ops [⟨I.loadf 41 true 2 (O.t 4), none, some 41⟩, ⟨I.loadf 42 true 2 (O.t 5), none, some 42⟩, ⟨I.loadf 43 true 2 (O.t 6), none, some 43⟩, ⟨I.loadf 44 true 2 (O.t 7), none, some 44⟩, ⟨I.call (some 45) (O.k (AV.fn 96 [])) [O.t 41, O.t 42, O.t 43, O.t 44] false, none, some 45⟩, ⟨I.ext 46 (O.t 45) 0, none, some 46⟩, ⟨I.ext 47 (O.t 45) 1, none, some 47⟩, ⟨I.mv 8 (O.t 46), none, some 8⟩, ⟨I.store 2 (O.t 9) (O.t 47), none, none⟩]).seq C.ret) C.skip)).seq (((C.ops [⟨I.mv 48 (O.t 10), none, some 48⟩, ⟨I.mv 49 (O.t 11), none, some 49⟩, ⟨I.bin 50 BinOp.mul (O.t 48) (O.t 49), none, some 50⟩, ⟨I.bin 51 BinOp.gtr (O.t 50) (O.k (AV.int IntKind.i64 0)), none, some 51⟩, ⟨I.mv 52 (O.t 51), none, some 52⟩, ⟨I.mv 53 (O.t 12), some (52, false), some 53⟩, ⟨I.mv 54 (O.t 13), some (52, false), some 54⟩, ⟨I.bin 55 BinOp.mul (O.t 53) (O.t 54), some (52, false), some 55⟩, ⟨I.bin 56 BinOp.gtr (O.t 55) (O.k (AV.int IntKind.i64 0)), some (52, false), some 56⟩, ⟨I.pick 57 (O.t 52) (O.k (AV.bool true)) (O.t 56), none, some 57⟩]).seq (C.cond (O.t 57) ((C.ops [⟨I.build 58 [AV.str [], AV.str []] [], none, some 58⟩, ⟨I.mv 8 (O.k (AV.int IntKind.i64 0)), none, some 8⟩, ⟨I.store 2 (O.t 9) (O.t 58), none, none⟩]).seq C.ret) C.skip)).seq ((C.ops [⟨I.loadf 59 true 2 (O.t 4), none, some 59⟩, ⟨I.loadf 60 true 2 (O.t 5), none, some 60⟩, ⟨I.loadf 61 true 2 (O.t 6), none, some 61⟩, ⟨I.call (some 62) (O.k (AV.fn 52 [])) [O.t 59, O.t 60, O.t 61] false, none, some 62⟩, ⟨I.loadf 63 true 2 (O.t 4), none, some 63⟩, ⟨I.loadf 64 true 2 (O.t 5), none, some 64⟩, ⟨I.loadf 65 true 2 (O.t 7), none, some 65⟩, ⟨I.call (some 66) (O.k (AV.fn 52 [])) [O.t 63, O.t 64, O.t 65] false, none, some 66⟩, ⟨I.mv 14 (O.t 62), none, some 14⟩, ⟨I.mv 15 (O.t 66), none, some 15⟩]).seq ((C.ops [⟨I.mv 68 (O.t 14), none, some 68⟩, ⟨I.mv 69 (O.t 14), none, some 69⟩, ⟨I.mv 70 (O.t 15), none, some 70⟩, ⟨I.call (some 71) (O.k (AV.fn 56 [])) [O.t 69, O.t 70] false, none, some 71⟩, ⟨I.call (some 72) (O.k (AV.fn 95 [])) [O.t 68, O.t 71] false, none, some 72⟩, ⟨I.mv 67 (O.t 72), none, some 67⟩, ⟨I.ext 73 (O.t 67) 0, none, some 73⟩, ⟨I.ext 74 (O.t 67) 1, none, some 74⟩, ⟨I.alloc 16 [AV.str []] true, none, some 16⟩, ⟨I.store 1 (O.t 16) (O.t 73), none, none⟩, ⟨I.mv 17 (O.t 74), none, some 17⟩]).seq ((C.ops [⟨I.mkfn 75 97 [O.t 16], none, some 75⟩, ⟨I.mv 18 (O.t 75), none, some 18⟩]).seq ((C.ops [⟨I.mv 76 (O.t 18), none, some 76⟩, ⟨I.fld 77 0 (O.t 6), none, some 77⟩, ⟨I.loadf 78 false 1 (O.t 77), none, some 78⟩, ⟨I.fld 79 0 (O.t 7), none, some 79⟩, ⟨I.loadf 80 false 1 (O.t 79), none, some 80⟩, ⟨I.call (some 81) (O.t 76) [O.t 78, O.t 80] false, none, some 81⟩, ⟨I.mv 82 (O.t 18), none, some 82⟩, ⟨I.fld 83 1 (O.t 6), none, some 83⟩, ⟨I.loadf 84 false 1 (O.t 83), none, some 84⟩, ⟨I.fld 85 1 (O.t 7), none, some 85⟩, ⟨I.loadf 86 false 1 (O.t 85), none, some 86⟩, ⟨I.call (some 87) (O.t 82) [O.t 84, O.t 86] false, none, some 87⟩, ⟨I.build 88 [AV.str [], AV.str []] [(0, 1, O.t 81), (1, 1, O.t 87)], none, some 88⟩, ⟨I.mv 8 (O.k (AV.int IntKind.i64 1)), none, some 8⟩, ⟨I.store 2 (O.t 9) (O.t 88), none, none⟩]).seq C.ret)))))))
theorem k46 (m : Int) : compF (cx m).P (cx m).gt (fun t => t == 9 || t == 16) 46 = some (c46, [RV.tmp 8, RV.cell 9 true 2], 89) := by kernel_rfl
def c45 : C := (C.ops [⟨I.box 4 (O.t 0) false, none, some 4⟩, ⟨I.box 5 (O.t 1) false, none, some 5⟩, ⟨I.box 6 (O.t 2) false, none, some 6⟩, ⟨I.box 7 (O.t 3) false, none, some 7⟩, ⟨I.mv 8 (O.k (AV.int IntKind.i64 0)), none, some 8⟩, ⟨I.alloc 9 [AV.str [], AV.str []] true, none, some 9⟩]).seq ((C.ops [⟨I.mv 10 (O.k AV.nils), none, some 10⟩]).seq (((C.ops [⟨I.loadf 23 true 2 (O.t 4), none, some 23⟩, ⟨I.loadf 24 true 2 (O.t 5), none, some 24⟩, ⟨I.loadf 25 true 2 (O.t 6), none, some 25⟩, ⟨I.loadf 26 true 2 (O.t 7), none, some 26⟩, ⟨I.bsl 27 2 [O.t 23, O.t 24, O.t 25, O.t 26] false, none, some 27⟩, ⟨I.len 28 (O.t 27), none, some 28⟩, ⟨I.mv 29 (O.k (AV.int IntKind.i64 0)), none, some 29⟩]).seq (C.block 0 ((C.ops [⟨I.bin 30 BinOp.lss (O.t 29) (O.t 28), none, some 30⟩]).seq ((C.cond (O.t 30) C.skip (C.exit 0)).seq ((C.block 1 ((C.ops [⟨I.idxa 31 2 none (O.t 27) (O.t 29), none, some 31⟩, ⟨I.loadf 32 true 2 (O.t 31), none, some 32⟩, ⟨I.alloc 12 [AV.str [], AV.str []] true, none, some 12⟩, ⟨I.store 2 (O.t 12) (O.t 32), none, none⟩]).seq ((C.ops [⟨I.loadf 33 true 2 (O.t 4), none, some 33⟩, ⟨I.loadf 34 true 2 (O.t 5), none, some 34⟩, ⟨I.load 35 true 2 (O.t 12), none, some 35⟩, ⟨I.call (some 36) (O.k (AV.fn 25 [])) [O.t 33, O.t 34, O.t 35] false, none, some 36⟩, ⟨I.mv 37 (O.t 36), none, some 37⟩, ⟨I.loadf 38 true 2 (O.t 6), some (37, true), some 38⟩, ⟨I.loadf 39 true 2 (O.t 7), some (37, true), some 39⟩, ⟨I.load 40 true 2 (O.t 12), some (37, true), some 40⟩, ⟨I.call (some 41) (O.k (AV.fn 25 [])) [O.t 38, O.t 39, O.t 40] false, some (37, true), some 41⟩, ⟨I.pick 42 (O.t 37) (O.t 41) (O.k (AV.bool false)), none, some 42⟩]).seq (C.cond (O.t 42) ((C.ops [⟨I.mv 13 (O.k (AV.bool false)), none, some 13⟩]).seq (((C.ops [⟨I.mv 14 (O.k (AV.int IntKind.i64 0)), none, some 14⟩]).seq (C.block 2 (((C.ops [⟨I.mv 43 (O.t 14), none, some 43⟩, ⟨I.mv 44 (O.t 10), none, some 44⟩, ⟨I.len 45 (O.t 44), none, some 45⟩, ⟨I.bin 46 BinOp.lss (O.t 43) (O.t 45), none, some 46⟩]).seq (C.cond (O.t 46) C.skip (C.exit 2))).seq ((C.block 3 (C.ops [⟨I.mv 49 (O.t 13), none, some 49⟩, ⟨I.mv 50 (O.t 49), none, some 50⟩, ⟨I.mv 51 (O.t 10), some (50, false), some 51⟩, ⟨I.mv 52 (O.t 14), some (50, false), some 52⟩, ⟨I.idxa 53 2 none (O.t 51) (O.t 52), some (50, false), some 53⟩, ⟨I.load 54 true 2 (O.t 53), some (50, false), some 54⟩, ⟨I.load 55 true 2 (O.t 12), some (50, false), some 55⟩, ⟨I.eqs 56 false [Leaf.str, Leaf.str] (O.t 54) (O.t 55), some (50, false), some 56⟩, ⟨I.pick 57 (O.t 50) (O.k (AV.bool true)) (O.t 56), none, some 57⟩, ⟨I.mv 13 (O.t 57), none, some 13⟩])).seq (C.ops [⟨I.mv 47 (O.t 14), none, some 47⟩, ⟨I.bin 48 BinOp.add (O.t 47) (O.k (AV.int IntKind.i64 1)), none, some 48⟩, ⟨I.mv 14 (O.t 48), none, some 14⟩]))).loop)).seq ((C.ops [⟨I.mv 58 (O.t 13), none, some 58⟩, ⟨I.not 59 (O.t 58), none, some 59⟩]).seq (C.cond (O.t 59) (C.ops [⟨I.mv 60 (O.t 10), none, some 60⟩, ⟨I.load 61 true 2 (O.t 12), none, some 61⟩, ⟨I.bsl 62 2 [O.t 61] false, none, some 62⟩, ⟨I.append 63 2 32 (O.t 60) (O.t 62) true, none, some 63⟩, ⟨I.mv 10 (O.t 63), none, some 10⟩]) C.skip)))) C.skip)))).seq (C.ops [⟨I.bin 64 BinOp.add (O.t 29) (O.k (AV.int IntKind.i64 1)), none, some 64⟩, ⟨I.mv 29 (O.t 64), none, some 29⟩])))).loop)).seq (((C.ops [⟨I.mv 65 (O.t 10), none, some 65⟩, ⟨I.len 66 (O.t 65), none, some 66⟩, ⟨I.bin 67 BinOp.gtr (O.t 66) (O.k (AV.int IntKind.i64 0)), none, some 67⟩]).seq (C.cond (O.t 67) ((C.ops [⟨I.mv 68 (O.t 10), none, some 68⟩, ⟨I.len 69 (O.t 68), none, some 69⟩, ⟨I.min 70 (O.t 69) (O.k (AV.int IntKind.i64 2)), none, some 70⟩, ⟨I.mv 71 (O.t 10), none, some 71⟩, ⟨I.idxa 72 2 none (O.t 71) (O.k (AV.int IntKind.i64 0)), none, some 72⟩, ⟨I.load 73 true 2 (O.t 72), none, some 73⟩, ⟨I.mv 8 (O.t 70), none, some 8⟩, ⟨I.store 2 (O.t 9) (O.t 73), none, none⟩]).seq C.ret) C.skip)).seq ((C.ops [⟨I.loadf 74 true 2 (O.t 6), none, some 74⟩, ⟨I.loadf 75 true 2 (O.t 7), none, some 75⟩, ⟨I.loadf 76 true 2 (O.t 4), none, some 76⟩, ⟨I.call (some 77) (O.k (AV.fn 20 [])) [O.t 74, O.t 75, O.t 76] false, none, some 77⟩, ⟨I.loadf 78 true 2 (O.t 6), none, some 78⟩, ⟨I.loadf 79 true 2 (O.t 7), none, some 79⟩, ⟨I.loadf 80 true 2 (O.t 5), none, some 80⟩, ⟨I.call (some 81) (O.k (AV.fn 20 [])) [O.t 78, O.t 79, O.t 80] false, none, some 81⟩, ⟨I.mv 15 (O.t 77), none, some 15⟩, ⟨I.mv 16 (O.t 81), none, some 16⟩]).seq ((C.ops [⟨I.loadf 82 true 2 (O.t 4), none, some 82⟩, ⟨I.loadf 83 true 2 (O.t 5), none, some 83⟩, ⟨I.loadf 84 true 2 (O.t 6), none, some 84⟩, ⟨I.call (some 85) (O.k (AV.fn 20 [])) [O.t 82, O.t 83, O.t 84] false, none, some 85⟩, ⟨I.call (some 86) (O.k (AV.fn 18 [])) [O.t 85] false, none, some 86⟩, ⟨I.loadf 87 true 2 (O.t 4), none, some 87⟩, ⟨I.loadf 88 true 2 (O.t 5), none, some 88⟩, ⟨I.loadf 89 true 2 (O.t 7), none, some 89⟩, ⟨I.call (some 90) (O.k (AV.fn 20 [])) [O.t 87, O.t 88, O.t 89] false, none, some 90⟩, ⟨I.call (some 91) (O.k (AV.fn 18 [])) [O.t 90] false, none, some 91⟩, ⟨I.mv 17 (O.t 86), none, some 17⟩, ⟨I.mv 18 (O.t 91), none, some 18⟩]).seq (((C.ops [⟨I.mv 92 (O.t 15), none, some 92⟩, ⟨I.call (some 93) (O.k (AV.fn 18 [])) [O.t 92] false, none, some 93⟩, ⟨I.mv 94 (O.t 16), none, some 94⟩, ⟨I.call (some 95) (O.k (AV.fn 18 [])) [O.t 94] false, none, some 95⟩, ⟨I.bin 96 BinOp.mul (O.t 93) (O.t 95), none, some 96⟩, ⟨I.bin 97 BinOp.geq (O.t 96) (O.k (AV.int IntKind.i64 0)), none, some 97⟩, ⟨I.mv 98 (O.t 97), none, some 98⟩, ⟨I.mv 99 (O.t 17), some (98, false), some 99⟩, ⟨I.mv 100 (O.t 18), some (98, false), some 100⟩, ⟨I.bin 101 BinOp.mul (O.t 99) (O.t 100), some (98, false), some 101⟩, ⟨I.bin 102 BinOp.geq (O.t 101) (O.k (AV.int IntKind.i64 0)), some (98, false), some 102⟩, ⟨I.pick 103 (O.t 98) (O.k (AV.bool true)) (O.t 102), none, some 103⟩]).seq (C.cond (O.t 103) ((C.ops [⟨I.build 104 [AV.str [], AV.str []] [], none, some 104⟩, ⟨I.mv 8 (O.k (AV.int IntKind.i64 0)), none, some 8⟩, ⟨I.store 2 (O.t 9) (O.t 104), none, none⟩]).seq C.ret) C.skip)).seq ((C.ops [⟨I.mv 106 (O.t 15), none, some 106⟩, ⟨I.mv 107 (O.t 15), none, some 107⟩, ⟨I.mv 108 (O.t 16), none, some 108⟩, ⟨I.call (some 109) (O.k (AV.fn 56 [])) [O.t 107, O.t 108] false, none, some 109⟩, ⟨I.call (some 110) (O.k (AV.fn 95 [])) [O.t 106, O.t 109] false, none, some 110⟩, ⟨I.mv 105 (O.t 110), none, some 105⟩, ⟨I.ext 111 (O.t 105) 0, none, some 111⟩, ⟨I.ext 112 (O.t 105) 1, none, some 112⟩, ⟨I.mv 19 (O.t 111), none, some 19⟩, ⟨I.mv 20 (O.t 112), none, some 20⟩]).seq ((C.ops [⟨I.fld 113 0 (O.t 4), none, some 113⟩, ⟨I.loadf 114 false 1 (O.t 113), none, some 114⟩, ⟨I.mv 115 (O.t 19), none, some 115⟩, ⟨I.fld 116 0 (O.t 5), none, some 116⟩, ⟨I.loadf 117 false 1 (O.t 116), none, some 117⟩, ⟨I.fld 118 0 (O.t 4), none, some 118⟩, ⟨I.loadf 119 false 1 (O.t 118), none, some 119⟩, ⟨I.call (some 120) (O.k (AV.fn 56 [])) [O.t 117, O.t 119] false, none, some 120⟩, ⟨I.call (some 121) (O.k (AV.fn 55 [])) [O.t 115, O.t 120] false, none, some 121⟩, ⟨I.call (some 122) (O.k (AV.fn 29 [])) [O.t 114, O.t 121] false, none, some 122⟩, ⟨I.mv 21 (O.t 122), none, some 21⟩]).seq ((C.ops [⟨I.fld 123 1 (O.t 4), none, some 123⟩, ⟨I.loadf 124 false 1 (O.t 123), none, some 124⟩, ⟨I.mv 125 (O.t 19), none, some 125⟩, ⟨I.fld 126 1 (O.t 5), none, some 126⟩, ⟨I.loadf 127 false 1 (O.t 126), none, some 127⟩, ⟨I.fld 128 1 (O.t 4), none, some 128⟩, ⟨I.loadf 129 false 1 (O.t 128), none, some 129⟩, ⟨I.call (some 130) (O.k (AV.fn 56 [])) [O.t 127, O.t 129] false, none, some 130⟩, ⟨I.call (some 131) (O.k (AV.fn 55 [])) [O.t 125, O.t 130] false, none, some 131⟩, ⟨I.call (some 132) (O.k (AV.fn 29 [])) [O.t 124, O.t 131] false, none, some 132⟩, ⟨I.mv 22 (O.t 132), none, some 22⟩]).seq ((C.ops [⟨I.mv 133 (O.t 21), none, some 133⟩, ⟨I.mv 134 (O.t 22), none, some 134⟩, ⟨I.build 135 [AV.str [], AV.str []] [(0, 1, O.t 133), (1, 1, O.t 134)], none, some 135⟩, ⟨I.mv 8 (O.k (AV.int IntKind.i64 1)), none, some 8⟩, ⟨I.store 2 (O.t 9) (O.t 135), none, none⟩]).seq C.ret))))))))))
theorem k45 (m : Int) : compF (cx m).P (cx m).gt (fun t => t == 9 || t == 12 || t == 35 || t == 40 || t == 54 || t == 55 || t == 61 || t == 63 || t == 73) 45 = some (c45, [RV.tmp 8, RV.cell 9 true 2], 136) := by kernel_rfl
end Go.Proofs.YtkjnjdcbnelceaaGreatDoor.KA
end

section
/- Contracts: areas, the order of points, and how two segments meet. -/
open Go Go.Proofs
set_option linter.unusedSimpArgs false
set_option linter.unusedVariables false
namespace Go.Proofs.YtkjnjdcbnelceaaGreatDoor.KA
open Num Geo

/-- Bounds of a number's parts. -/
def bd (N D : Nat) (q : Rat) : Prop := q.num.natAbs ≤ N ∧ q.den ≤ D
theorem bd_qk {N D : Nat} {q : Rat} (h : bd N D q) (h1 : N < 10 ^ 9) (h2 : D < 10 ^ 9) : qk q := qk_of (by have := h.1; omega) (by have := h.2; omega)
theorem bd_mk (n : Int) (d : Nat) (hd : 0 < d) : (mkRat n d).num.natAbs ≤ n.natAbs ∧ (mkRat n d).den ≤ d := by
  obtain ⟨p1, p2⟩ := mk_parts n d hd
  constructor
  · rw [p1, Int.natAbs_tdiv]; exact Nat.div_le_self _ _
  · have : ((d : Int).tdiv (Int.gcd n d)).natAbs ≤ d := by rw [Int.natAbs_tdiv]; exact Nat.div_le_self _ _
    omega
theorem bd_add {N D N' D' : Nat} {a b : Rat} (ha : bd N D a) (hb : bd N' D' b) : bd (N * D' + N' * D) (D * D') (a + b) := by
  obtain ⟨h1, h2⟩ := bd_mk (a.num * b.den + b.num * a.den) (a.den * b.den) (Nat.mul_pos (den_pos a) (den_pos b))
  rw [add_mk] at h1 h2
  refine ⟨Nat.le_trans h1 (Nat.le_trans (Int.natAbs_add_le _ _) ?_), Nat.le_trans h2 (Nat.mul_le_mul ha.2 hb.2)⟩
  rw [Int.natAbs_mul, Int.natAbs_mul, Int.natAbs_natCast, Int.natAbs_natCast]
  exact Nat.add_le_add (Nat.mul_le_mul ha.1 hb.2) (Nat.mul_le_mul hb.1 ha.2)
theorem bd_neg {N D : Nat} {a : Rat} (ha : bd N D a) : bd N D (-a) := ⟨by simpa using ha.1, by simpa using ha.2⟩
theorem bd_sub {N D N' D' : Nat} {a b : Rat} (ha : bd N D a) (hb : bd N' D' b) : bd (N * D' + N' * D) (D * D') (a - b) := by
  rw [Rat.sub_eq_add_neg]; exact bd_add ha (bd_neg hb)
theorem bd_mul {N D N' D' : Nat} {a b : Rat} (ha : bd N D a) (hb : bd N' D' b) : bd (N * N') (D * D') (a * b) := by
  obtain ⟨h1, h2⟩ := bd_mk (a.num * b.num) (a.den * b.den) (Nat.mul_pos (den_pos a) (den_pos b))
  rw [mul_mk] at h1 h2
  refine ⟨Nat.le_trans h1 ?_, Nat.le_trans h2 (Nat.mul_le_mul ha.2 hb.2)⟩
  rw [Int.natAbs_mul]; exact Nat.mul_le_mul ha.1 hb.1
theorem bd_inv {N D : Nat} {a : Rat} (ha : bd N D a) (h0 : a ≠ 0) : bd D N a⁻¹ := by
  have hn : a.num ≠ 0 := fun h => h0 (Rat.num_eq_zero.1 h)
  have i1 := Rat.num_inv a
  have i2 := Rat.den_inv a
  rw [if_neg hn] at i2
  refine ⟨?_, by rw [i2]; exact ha.1⟩
  rw [i1, Int.natAbs_mul]
  rcases Int.lt_trichotomy a.num 0 with h | h | h
  · rw [Int.sign_eq_neg_one_of_neg h]; simpa using ha.2
  · exact absurd h hn
  · rw [Int.sign_eq_one_of_pos h]; simpa using ha.2
theorem bd_div {N D N' D' : Nat} {a b : Rat} (ha : bd N D a) (hb : bd N' D' b) (h0 : b ≠ 0) : bd (N * D') (D * N') (a / b) := by
  rw [Rat.div_def]; exact bd_mul ha (bd_inv hb h0)
theorem bd_le {N D N' D' : Nat} {a : Rat} (h : bd N D a) (h1 : N ≤ N') (h2 : D ≤ D') : bd N' D' a := ⟨Nat.le_trans h.1 h1, Nat.le_trans h.2 h2⟩

/-- A point of small integers. -/
def P9 (p : Pt) : Prop := bd 9 1 p.1 ∧ bd 9 1 p.2
def PQ (p : Pt) : Prop := qk p.1 ∧ qk p.2
theorem P9.q {p : Pt} (h : P9 p) : PQ p := ⟨bd_qk h.1 (by omega) (by omega), bd_qk h.2 (by omega) (by omega)⟩
theorem bd_ar {p q r : Pt} (hp : P9 p) (hq : P9 q) (hr : P9 r) : bd 648 1 (ar p q r) :=
  bd_sub (bd_mul (bd_sub hq.1 hp.1) (bd_sub hr.2 hp.2)) (bd_mul (bd_sub hq.2 hp.2) (bd_sub hr.1 hp.1))
theorem qk1 {N D : Nat} {q : Rat} (h : bd N D q) (h1 : N < 1000000000 := by decide) (h2 : D < 1000000000 := by decide) : qk q := bd_qk h h1 h2

theorem s20 (m : Int) (p q r : Pt) (hp : P9 p) (hq : P9 q) (hr : P9 r) : SpecP (cx m) 20 [eP p, eP q, eP r] (.str (tq (ar p q r))) := by
  refine specP_of (mixed m) (k20 m) (Nat.le_of_ble_eq_true rfl) (X_start ?_)
  unfold c20
  refine WF @eP.eq_1 ?_
  refine CL_pure (s56 m _ _ hq.q.1 hp.q.1) rfl ?_
  refine WW ?_
  refine CL_pure (s56 m _ _ hr.q.2 hp.q.2) rfl ?_
  refine WW ?_
  refine CL_pure (s55 m _ _ (qk1 (bd_sub hq.1 hp.1)) (qk1 (bd_sub hr.2 hp.2))) rfl ?_
  refine WW ?_
  refine CL_pure (s56 m _ _ hq.q.2 hp.q.2) rfl ?_
  refine WW ?_
  refine CL_pure (s56 m _ _ hr.q.1 hp.q.1) rfl ?_
  refine WW ?_
  refine CL_pure (s55 m _ _ (qk1 (bd_sub hq.2 hp.2)) (qk1 (bd_sub hr.1 hp.1))) rfl ?_
  refine WW ?_
  refine CL_pure (s56 m _ _ (qk1 (bd_mul (bd_sub hq.1 hp.1) (bd_sub hr.2 hp.2))) (qk1 (bd_mul (bd_sub hq.2 hp.2) (bd_sub hr.1 hp.1)))) rfl ?_
  refine WW ?_
  exact shs rfl
theorem s52 (m : Int) (p q r : Pt) (hp : P9 p) (hq : P9 q) (hr : P9 r) : SpecP (cx m) 52 [eP p, eP q, eP r] (.str (tq (ar p q r))) := by
  refine specP_of (mixed m) (k52 m) (Nat.le_of_ble_eq_true rfl) (X_start ?_)
  unfold c52
  refine WF @eP.eq_1 ?_
  refine CL_pure (s56 m _ _ hq.q.1 hp.q.1) rfl ?_
  refine WW ?_
  refine CL_pure (s56 m _ _ hr.q.2 hp.q.2) rfl ?_
  refine WW ?_
  refine CL_pure (s55 m _ _ (qk1 (bd_sub hq.1 hp.1)) (qk1 (bd_sub hr.2 hp.2))) rfl ?_
  refine WW ?_
  refine CL_pure (s56 m _ _ hq.q.2 hp.q.2) rfl ?_
  refine WW ?_
  refine CL_pure (s56 m _ _ hr.q.1 hp.q.1) rfl ?_
  refine WW ?_
  refine CL_pure (s55 m _ _ (qk1 (bd_sub hq.2 hp.2)) (qk1 (bd_sub hr.1 hp.1))) rfl ?_
  refine WW ?_
  refine CL_pure (s56 m _ _ (qk1 (bd_mul (bd_sub hq.1 hp.1) (bd_sub hr.2 hp.2))) (qk1 (bd_mul (bd_sub hq.2 hp.2) (bd_sub hr.1 hp.1)))) rfl ?_
  refine WW ?_
  exact shs rfl
theorem s18' (m : Int) (q : Rat) : SpecP (cx m) 18 [.str (tq q)] (.int .i64 (sg q)) := s18 m q
theorem s62 (m : Int) (p q r : Pt) (hp : P9 p) (hq : P9 q) (hr : P9 r) : SpecP (cx m) 62 [eP p, eP q, eP r] (.int .i64 (sg (ar p q r))) := by
  refine specP_of (mixed m) (k62 m) (Nat.le_of_ble_eq_true rfl) (X_start ?_)
  unfold c62
  have h := s52 m p q r hp hq hr
  unfold eP at h
  refine WF @eP.eq_1 ?_
  refine CL_pure h rfl ?_
  refine WW ?_
  refine CL_pure (s18' m _) rfl ?_
  refine WW ?_
  exact shi rfl
theorem s32 (m : Int) (p q : Pt) (hp : PQ p) (hq : PQ q) : SpecP (cx m) 32 [eP p, eP q] (.int .i64 (cp p q)) := by
  refine specP_of (mixed m) (k32 m) (Nat.le_of_ble_eq_true rfl) (X_start ?_)
  unfold c32
  refine WF @eP.eq_1 ?_
  refine CL_pure (s21 m _ _ hp.1 hq.1) rfl ?_
  refine WW ?_
  refine iteI (fun h => shi (by unfold cp; rw [if_pos h])) (fun h => ?_)
  refine CL_pure (s21 m _ _ hp.2 hq.2) rfl ?_
  refine WW ?_
  exact shi (by unfold cp; rw [if_neg h])
theorem s70 (m : Int) (p q : Pt) (hp : PQ p) (hq : PQ q) : SpecP (cx m) 70 [eP p, eP q] (.int .i64 (cp p q)) := by
  refine specP_of (mixed m) (k70 m) (Nat.le_of_ble_eq_true rfl) (X_start ?_)
  unfold c70
  refine WF @eP.eq_1 ?_
  refine CL_pure (s21 m _ _ hp.1 hq.1) rfl ?_
  refine WW ?_
  refine iteI (fun h => shi (by unfold cp; rw [if_pos h])) (fun h => ?_)
  refine CL_pure (s21 m _ _ hp.2 hq.2) rfl ?_
  refine WW ?_
  exact shi (by unfold cp; rw [if_neg h])

/-- klippelaw11.between -/
theorem s25 (m : Int) (a b p : Pt) (ha : P9 a) (hb : P9 b) (hp : P9 p) : SpecP (cx m) 25 [eP a, eP b, eP p] (.bool (btw a b p)) := by
  refine specP_of (mixed m) (k25 m) (Nat.le_of_ble_eq_true rfl) (X_start ?_)
  unfold c25
  have h32 := fun p q (hp : PQ p) (hq : PQ q) => s32 m p q hp hq
  have h20 := s20 m a b p ha hb hp
  unfold eP at h32 h20
  have c1 := h32 a b ha.q hb.q
  have key : btw a b p = (decide (sg (ar a b p) = 0) && (decide (cp (lo a b) p ≤ 0) && decide (cp p (hi a b) ≤ 0))) := rfl
  refine WF @eP.eq_1 ?_
  refine CL_pure c1 rfl ?_
  refine WW ?_
  refine iteI (fun h => ?_) (fun h => ?_)
  · have e1 : lo a b = b := by unfold lo; rw [if_pos h]
    have e2 : hi a b = a := by unfold hi; rw [if_pos h]
    rw [e1, e2] at key
    refine CL_pure h20 rfl ?_
    refine WW ?_
    refine CL_pure (s18' m _) rfl ?_
    refine WW ?_
    refine iteI (fun h1 => ?_) (fun h1 => shb (by rw [key]; simp [h1]))
    refine CL_pure (h32 b p hb.q hp.q) rfl ?_
    refine WW ?_
    refine iteI (fun h2 => ?_) (fun h2 => shb (by rw [key]; simp [h1]; omega))
    refine CL_pure (h32 p a hp.q ha.q) rfl ?_
    refine WW ?_
    exact shb (by rw [key]; simp [h1, h2])
  · have e1 : lo a b = a := by unfold lo; rw [if_neg h]
    have e2 : hi a b = b := by unfold hi; rw [if_neg h]
    rw [e1, e2] at key
    refine CL_pure h20 rfl ?_
    refine WW ?_
    refine CL_pure (s18' m _) rfl ?_
    refine WW ?_
    refine iteI (fun h1 => ?_) (fun h1 => shb (by rw [key]; simp [h1]))
    refine CL_pure (h32 a p ha.q hp.q) rfl ?_
    refine WW ?_
    refine iteI (fun h2 => ?_) (fun h2 => shb (by rw [key]; simp [h1]; omega))
    refine CL_pure (h32 p b hp.q hb.q) rfl ?_
    refine WW ?_
    exact shb (by rw [key]; simp [h1, h2])
end Go.Proofs.YtkjnjdcbnelceaaGreatDoor.KA
end

section
/- Contracts: how two segments meet. -/
open Go Go.Proofs
set_option linter.unusedSimpArgs false
set_option linter.unusedVariables false
set_option maxHeartbeats 1000000
namespace Go.Proofs.YtkjnjdcbnelceaaGreatDoor.KA
open Num Geo

/-- A place, or none. -/
def eO : Option Pt → AV
  | some p => eP p
  | none => .agg [.str [], .str []]
def eR (r : Nat × Option Pt) : AV := .tuple [.int .i64 r.1, eO r.2]
theorem eO_plain (o : Option Pt) : (eO o).plain = true := by cases o <;> rfl
theorem eR_plain (r : Nat × Option Pt) : (eR r).plain = true := by unfold eR; simp [AV.plain, AV.plainL, eO_plain]

/-- polyline.collinear -/
theorem s96 (m : Int) (a b c d : Pt) (pa : PQ a) (pb : PQ b) (pc : PQ c) (pd : PQ d) : SpecP (cx m) 96 [eP a, eP b, eP c, eP d] (eR (colP a b c d)) := by
  refine specP_of (mixed m) (k96 m) (Nat.le_of_ble_eq_true rfl) (X_start ?_)
  unfold c96
  have h70 := fun p q (hp : PQ p) (hq : PQ q) => s70 m p q hp hq
  unfold eP at h70
  refine WF @eP.eq_1 ?_
  refine CL_pure (h70 _ _ (by assumption) (by assumption)) rfl ?_
  refine WW ?_
  refine iteI (fun h1 => ?_) (fun h1 => ?_)
  all_goals
    refine CL_pure (h70 _ _ (by assumption) (by assumption)) rfl ?_
    refine WW ?_
    refine iteI (fun h2 => ?_) (fun h2 => ?_)
  all_goals
    refine CL_pure (h70 _ _ (by assumption) (by assumption)) rfl ?_
    refine WW ?_
    refine iteI (fun h3 => ?_) (fun h3 => ?_)
  all_goals
    refine CL_pure (h70 _ _ (by assumption) (by assumption)) rfl ?_
    refine WW ?_
    refine iteI (fun h4 => ?_) (fun h4 => ?_)
  all_goals
    refine CL_pure (h70 _ _ (by assumption) (by assumption)) rfl ?_
    refine WW ?_
    refine iteI (fun h5 => ?_) (fun h5 => ?_)
    · first
      | contradiction
      | (refine shv ?_ (eR_plain _); simp [eR, eO, colP, colR, lo, hi, *])
    · refine iteI (fun h6 => ?_) (fun h6 => ?_)
      · refine shv ?_ (eR_plain _)
        simp [eR, eO, eP, colP, colR, lo, hi, *]
      · refine shv ?_ (eR_plain _)
        simp [eR, eO, colP, colR, lo, hi, *]

/-- What k (y - x) + x comes to, in polyline.meet -/
theorem s97' (m : Int) (x y k : Rat) (hx : bd 9 1 x) (hy : bd 9 1 y) (hk : bd 648 1296 k) : SpecP (cx m) 97 [.str (tq x), .str (tq y), .fp [.str (tq k)]] (.str (tq (x + k * (y - x)))) := by
  refine specP_of (mixed m) (k97 m) (Nat.le_of_ble_eq_true rfl) (X_start ?_)
  unfold c97
  refine WW ?_
  refine CL_pure (s56 m _ _ (qk1 hy) (qk1 hx)) rfl ?_
  refine WW ?_
  refine CL_pure (s55 m _ _ (qk1 hk) (qk1 (bd_sub hy hx))) rfl ?_
  refine WW ?_
  refine CL_pure (s29 m _ _ (qk1 hx) (qk1 (bd_mul hk (bd_sub hy hx)))) rfl ?_
  refine WW ?_
  exact shs rfl

theorem sg_abs (q : Rat) : -1 ≤ sg q ∧ sg q ≤ 1 := by unfold sg; split <;> (try split) <;> omega
theorem sg_prod (p q : Rat) : -1 ≤ sg p * sg q ∧ sg p * sg q ≤ 1 := by rw [sg_mul]; exact sg_abs _

/-- polyline.meet -/
theorem s46 (m : Int) (a b c d : Pt) (pa : P9 a) (pb : P9 b) (pc : P9 c) (pd : P9 d) : SpecP (cx m) 46 [eP a, eP b, eP c, eP d] (eR (meetP a b c d)) := by
  refine specP_of (mixed m) (k46 m) (Nat.le_of_ble_eq_true rfl) (X_start ?_)
  unfold c46
  have h62 := fun p q r (hp : P9 p) (hq : P9 q) (hr : P9 r) => s62 m p q r hp hq hr
  have h52 := fun p q r (hp : P9 p) (hq : P9 q) (hr : P9 r) => s52 m p q r hp hq hr
  have h96 := s96 m a b c d pa.q pb.q pc.q pd.q
  unfold eP at h62 h52 h96
  have g1 := sg_prod (ar a b c) (ar a b d)
  have g2 := sg_prod (ar c d a) (ar c d b)
  refine WF @eP.eq_1 ?_
  refine CL_pure (h62 _ _ _ pa pb pc) rfl ?_
  refine WW ?_
  refine CL_pure (h62 _ _ _ pa pb pd) rfl ?_
  refine WW ?_
  refine CL_pure (h62 _ _ _ pc pd pa) rfl ?_
  refine WW ?_
  refine CL_pure (h62 _ _ _ pc pd pb) rfl ?_
  by_cases e : sg (ar a b c) = 0 ∧ sg (ar a b d) = 0
  · have em : meetP a b c d = colP a b c d := by unfold meetP; rw [if_pos e]
    obtain ⟨e1, e2⟩ := e
    obtain ⟨x, y, he⟩ : ∃ x y, eO (colP a b c d).2 = .agg [.str x, .str y] := by cases (colP a b c d).2 <;> exact ⟨_, _, rfl⟩
    unfold eR at h96
    rw [he] at h96
    refine WF (And.intro e1 e2) ?_
    refine CL_pure h96 rfl ?_
    refine WW ?_
    refine shv ?_ (eR_plain _)
    rw [em]; unfold eR; rw [he]
  · by_cases e1 : sg (ar a b c) = 0
    · have e2 : ¬ sg (ar a b d) = 0 := fun h => e ⟨e1, h⟩
      by_cases c1 : 0 < sg (ar a b c) * sg (ar a b d)
      · rw [e1, Int.zero_mul] at c1; omega
      by_cases c2 : 0 < sg (ar c d a) * sg (ar c d b)
      · simp -implicitDefEqProofs (disch := omega) only [KF, KR, KV0, KV1, KV2, KW, ↓bstep, ↓astep, ↓O1.eq_def, ↓onBool.eq_def, ↓onInt.eq_def, ↓onStr.eq_def, ↓onLo.eq_def, ↓binK.eq_def, ↓arith.eq_def, ↓strOp.eq_def, ↓srcElems.eq_def, ↓dst1.eq_def, args0, List.zipIdx, List.map, lookup, St.ev, St.set, St.setO, reduceCtorEq, AV.plain, AV.plainL, AV.flat, AV.flatL, AV.cells, Nat.reduceEqDiff, ↓reduceIte, List.drop, List.take, List.length, Nat.reduceAdd, Nat.reduceLeDiff, Nat.reduceMul, E.done, rvsK, rvK, resAV, Int.reduceToNat, Int.reduceLE, Int.reduceLT, Int.reduceNeg, Int.reduceAdd, Int.reduceSub, Int.reduceMul, Nat.reduceLT, AV.isElem, AV.one, ↓buildCells.eq_1, ↓buildCells.eq_2, Nat.reduceBEq, eqCells, c2, e1, e2, Int.zero_mul, Int.lt_irrefl]
        refine shv ?_ (eR_plain _)
        have : meetP a b c d = (0, none) := by unfold meetP; rw [if_neg e, if_pos (.inr c2)]
        rw [this]; rfl
      simp -implicitDefEqProofs (disch := omega) only [KF, KR, KV0, KV1, KV2, KW, ↓bstep, ↓astep, ↓O1.eq_def, ↓onBool.eq_def, ↓onInt.eq_def, ↓onStr.eq_def, ↓onLo.eq_def, ↓binK.eq_def, ↓arith.eq_def, ↓strOp.eq_def, ↓srcElems.eq_def, ↓dst1.eq_def, args0, List.zipIdx, List.map, lookup, St.ev, St.set, St.setO, reduceCtorEq, AV.plain, AV.plainL, AV.flat, AV.flatL, AV.cells, Nat.reduceEqDiff, ↓reduceIte, List.drop, List.take, List.length, Nat.reduceAdd, Nat.reduceLeDiff, Nat.reduceMul, E.done, rvsK, rvK, resAV, Int.reduceToNat, Int.reduceLE, Int.reduceLT, Int.reduceNeg, Int.reduceAdd, Int.reduceSub, Int.reduceMul, Nat.reduceLT, AV.isElem, AV.one, ↓buildCells.eq_1, ↓buildCells.eq_2, Nat.reduceBEq, eqCells, c2, e1, e2, Int.zero_mul, Int.lt_irrefl]
      refine CL_pure (h52 _ _ _ pa pb pc) rfl ?_
      refine WW ?_
      refine CL_pure (h52 _ _ _ pa pb pd) rfl ?_
      refine WW ?_
      have hne : ar a b c - ar a b d ≠ 0 := by
        intro h
        have h' : ar a b c = ar a b d := by grind
        rw [h', sg_mul, ← gt_iff_lt, sg_gt] at c1
        rw [h'] at e
        apply e
        have : ar a b d = 0 := by
          rcases tri (ar a b d) with h | h | h
          · exact absurd (by have := Rat.mul_pos (a := -ar a b d) (b := -ar a b d) (by grind) (by grind); grind) c1
          · exact h
          · exact absurd (Rat.mul_pos h h) c1
        rw [this]; simp [sg]
      have b1 := bd_ar pa pb pc
      have b2 := bd_sub b1 (bd_ar pa pb pd)
      have bk := bd_div b1 b2 hne
      have fin : meetP a b c d = (1, some (c.1 + ar a b c / (ar a b c - ar a b d) * (d.1 - c.1), c.2 + ar a b c / (ar a b c - ar a b d) * (d.2 - c.2))) := by
        unfold meetP; rw [if_neg e, if_neg (by rintro (h | h); exact c1 h; exact c2 h)]
      refine CL_pure (s56 m _ _ (qk1 b1) (qk1 (bd_ar pa pb pd))) rfl ?_
      refine WW ?_
      refine CL_pure (s95 m _ _ (qk1 b1) (qk1 b2) hne) rfl ?_
      refine WW ?_
      refine CL_show (s97' m c.1 d.1 (ar a b c / (ar a b c - ar a b d)) pc.1 pd.1 bk) (.cons _ _ _ _ (.same _ rfl) (.cons _ _ _ _ (.same _ rfl) (.cons _ _ _ _ (.ref 1 0 _ _ 1 rfl (.cons _ _ _ _ (.same _ rfl) .nil)) .nil))) rfl ?_
      refine WW ?_
      refine CL_show (s97' m c.2 d.2 (ar a b c / (ar a b c - ar a b d)) pc.2 pd.2 bk) (.cons _ _ _ _ (.same _ rfl) (.cons _ _ _ _ (.same _ rfl) (.cons _ _ _ _ (.ref 1 0 _ _ 1 rfl (.cons _ _ _ _ (.same _ rfl) .nil)) .nil))) rfl ?_
      refine WW ?_
      refine shv ?_ (eR_plain _)
      rw [fin]; rfl
    · skip
      by_cases c1 : 0 < sg (ar a b c) * sg (ar a b d)
      · refine WF (And.intro c1 e1) ?_
        refine shv ?_ (eR_plain _)
        have : meetP a b c d = (0, none) := by unfold meetP; rw [if_neg e, if_pos (.inl c1)]
        rw [this]; rfl
      by_cases c2 : 0 < sg (ar c d a) * sg (ar c d b)
      · refine WF (And.intro c1 (And.intro c2 e1)) ?_
        refine shv ?_ (eR_plain _)
        have : meetP a b c d = (0, none) := by unfold meetP; rw [if_neg e, if_pos (.inr c2)]
        rw [this]; rfl
      refine WF (And.intro c1 (And.intro c2 e1)) ?_
      refine CL_pure (h52 _ _ _ pa pb pc) rfl ?_
      refine WW ?_
      refine CL_pure (h52 _ _ _ pa pb pd) rfl ?_
      refine WW ?_
      have hne : ar a b c - ar a b d ≠ 0 := by
        intro h
        have h' : ar a b c = ar a b d := by grind
        rw [h', sg_mul, ← gt_iff_lt, sg_gt] at c1
        rw [h'] at e
        apply e
        have : ar a b d = 0 := by
          rcases tri (ar a b d) with h | h | h
          · exact absurd (by have := Rat.mul_pos (a := -ar a b d) (b := -ar a b d) (by grind) (by grind); grind) c1
          · exact h
          · exact absurd (Rat.mul_pos h h) c1
        rw [this]; simp [sg]
      have b1 := bd_ar pa pb pc
      have b2 := bd_sub b1 (bd_ar pa pb pd)
      have bk := bd_div b1 b2 hne
      have fin : meetP a b c d = (1, some (c.1 + ar a b c / (ar a b c - ar a b d) * (d.1 - c.1), c.2 + ar a b c / (ar a b c - ar a b d) * (d.2 - c.2))) := by
        unfold meetP; rw [if_neg e, if_neg (by rintro (h | h); exact c1 h; exact c2 h)]
      refine CL_pure (s56 m _ _ (qk1 b1) (qk1 (bd_ar pa pb pd))) rfl ?_
      refine WW ?_
      refine CL_pure (s95 m _ _ (qk1 b1) (qk1 b2) hne) rfl ?_
      refine WW ?_
      refine CL_show (s97' m c.1 d.1 (ar a b c / (ar a b c - ar a b d)) pc.1 pd.1 bk) (.cons _ _ _ _ (.same _ rfl) (.cons _ _ _ _ (.same _ rfl) (.cons _ _ _ _ (.ref 1 0 _ _ 1 rfl (.cons _ _ _ _ (.same _ rfl) .nil)) .nil))) rfl ?_
      refine WW ?_
      refine CL_show (s97' m c.2 d.2 (ar a b c / (ar a b c - ar a b d)) pc.2 pd.2 bk) (.cons _ _ _ _ (.same _ rfl) (.cons _ _ _ _ (.same _ rfl) (.cons _ _ _ _ (.ref 1 0 _ _ 1 rfl (.cons _ _ _ _ (.same _ rfl) .nil)) .nil))) rfl ?_
      refine WW ?_
      refine shv ?_ (eR_plain _)
      rw [fin]; rfl
end Go.Proofs.YtkjnjdcbnelceaaGreatDoor.KA
end

section
/- Contracts: how two segments meet, the law's way. -/
open Go Go.Proofs
set_option linter.unusedSimpArgs false
set_option linter.unusedVariables false
set_option maxHeartbeats 1000000
namespace Go.Proofs.YtkjnjdcbnelceaaGreatDoor.KA
open Num Geo

def cells (l : List Pt) : List AV := l.flatMap fun p => [.str (tq p.1), .str (tq p.2)]
theorem cells_nil : cells [] = [] := rfl
theorem cells_cons (p : Pt) (l : List Pt) : cells (p :: l) = .str (tq p.1) :: .str (tq p.2) :: cells l := rfl
theorem cells_append (l m : List Pt) : cells (l ++ m) = cells l ++ cells m := by unfold cells; rw [List.flatMap_append]
theorem cells_length (l : List Pt) : (cells l).length = l.length * 2 := by
  induction l with
  | nil => rfl
  | cons p l ih => rw [cells_cons]; simp [ih]; omega
theorem cells_plain (l : List Pt) : AV.plainL (cells l) = true := by
  induction l with
  | nil => rfl
  | cons p l ih => rw [cells_cons]; simp [AV.plainL, AV.plain, ih]
theorem cells_at (l : List Pt) (j : Nat) (p : Pt) (h : l[j]? = some p) : ((cells l).drop (0 + j * 2)).take 2 = [.str (tq p.1), .str (tq p.2)] := by
  induction l generalizing j with
  | nil => simp at h
  | cons q l ih =>
    cases j with
    | zero => simp at h; subst h; rfl
    | succ j =>
      rw [cells_cons, show 0 + (j + 1) * 2 = (0 + j * 2) + 1 + 1 by omega, List.drop_succ_cons, List.drop_succ_cons]
      exact ih j (by simpa using h)
theorem pt_eq (p q : Pt) : (decide (tq p.1 = tq q.1) && (decide (tq p.2 = tq q.2) && true)) = decide (p = q) := by
  rw [Bool.and_true, Bool.eq_iff_iff]
  simp only [Bool.and_eq_true, decide_eq_true_eq, tq_eq]
  exact ⟨fun h => Prod.ext h.1 h.2, fun h => by rw [h]; exact ⟨rfl, rfl⟩⟩

theorem pt_eq' (p q : Pt) : (decide (tq p.1 = tq q.1) && decide (tq p.2 = tq q.2)) = decide (p = q) := by
  rw [← pt_eq, Bool.and_true]
/-- Is it among the first j? -/
def agn (l : List Pt) (x : Pt) (j : Nat) : Bool := (l.take j).contains x
theorem agn_zero (l : List Pt) (x : Pt) : agn l x 0 = false := by simp [agn]
theorem agn_succ (l : List Pt) (x q : Pt) (j : Nat) (h : l[j]? = some q) : agn l x (j + 1) = (agn l x j || decide (q = x)) := by
  unfold agn
  rw [List.take_add_one, h, Bool.eq_iff_iff]
  simp only [List.contains_eq_mem, Option.toList_some, List.mem_append, List.mem_singleton, decide_eq_true_eq, Bool.or_eq_true]
  constructor
  · rintro (h | h)
    · exact .inl h
    · exact .inr h.symm
  · rintro (h | h)
    · exact .inl h
    · exact .inr h.symm
theorem agn_all (l : List Pt) (x : Pt) : agn l x l.length = l.contains x := by simp [agn]
theorem weak_res0 {st : St} {s : List (Nat × AV)} {c0 : List AV} (h0 : st.h[0]? = some (some c0)) (p0 : AV.plainL c0 = true)
    (h : ∀ p ∈ s, lookup st.s p.1 = p.2.ren (fun i => [0].getD i 0) ∧ p.2.idsLt 1 = true) : weak 0 st ⟨s, [c0].map some⟩ :=
  weak_pick [0] [c0] rfl (by simp) (fun i cs hc => by
    rcases i with _ | i
    · simp at hc; subst hc; exact ⟨h0, p0⟩
    · simp at hc) h
theorem weak_res1 {st : St} {s : List (Nat × AV)} {c0 c1 : List AV} (j : Nat) (hj : j ≠ 0) (h0 : st.h[0]? = some (some c0)) (p0 : AV.plainL c0 = true) (h1 : st.h[j]? = some (some c1)) (p1 : AV.plainL c1 = true)
    (h : ∀ p ∈ s, lookup st.s p.1 = p.2.ren (fun i => [0, j].getD i 0) ∧ p.2.idsLt 2 = true) : weak 0 st ⟨s, [c0, c1].map some⟩ :=
  weak_pick [0, j] [c0, c1] rfl (by simp; omega) (fun i cs hc => by
    rcases i with _ | _ | i
    · simp at hc; subst hc; exact ⟨h0, p0⟩
    · simp at hc; subst hc; exact ⟨h1, p1⟩
    · simp at hc) h

theorem addOn_len (a b c d x : Pt) (on : List Pt) : (addOn a b c d on x).length ≤ on.length + 1 := by
  unfold addOn; split
  · split
    · omega
    · simp
  · omega
theorem fold_len (a b c d : Pt) : ∀ (l on : List Pt), (l.foldl (addOn a b c d) on).length ≤ on.length + l.length
  | [], on => by simp
  | x :: l, on => by
    have h1 := fold_len a b c d l (addOn a b c d on x)
    have h2 := addOn_len a b c d x on
    simp only [List.foldl, List.length_cons]; omega

def onAV : List Pt → AV
  | [] => .nils
  | l => .own 2 1 0 l.length l.length
def onBlk : List Pt → List (List AV)
  | [] => []
  | l => [cells l]
theorem onAV_cons (p : Pt) (l : List Pt) : onAV (p :: l) = .own 2 1 0 (l.length + 1) (l.length + 1) := rfl
theorem onBlk_cons (p : Pt) (l : List Pt) : onBlk (p :: l) = [cells (p :: l)] := rfl

/-- klippelaw11.meet -/
theorem s45 (m : Int) (a b c d : Pt) (pa : P9 a) (pb : P9 b) (pc : P9 c) (pd : P9 d) : ∃ o, SpecP (cx m) 45 [eP a, eP b, eP c, eP d] (.tuple [.int .i64 (meetL a b c d).1, eO o]) ∧ (meetL a b c d).2 = o := by
  refine ⟨_, ?_, rfl⟩
  refine specP_of (mixed m) (k45 m) (Nat.le_of_ble_eq_true rfl) (X_start ?_)
  unfold c45
  have h25 := fun p q r (hp : P9 p) (hq : P9 q) (hr : P9 r) => s25 m p q r hp hq hr
  have h20 := fun p q r (hp : P9 p) (hq : P9 q) (hr : P9 r) => s20 m p q r hp hq hr
  unfold eP at h25 h20
  have g1 := sg_prod (ar a b c) (ar a b d)
  have g2 := sg_prod (ar c d a) (ar c d b)
  refine WF @eP.eq_1 ?_
  refine X_for (fun x : Nat × List Pt => ⟨[(4, .fp [.str (tq a.1), .str (tq a.2)]), (5, .fp [.str (tq b.1), .str (tq b.2)]), (6, .fp [.str (tq c.1), .str (tq c.2)]), (7, .fp [.str (tq d.1), .str (tq d.2)]), (9, .ref 0 0), (10, onAV x.2),
      (27, .sl 2 [.agg [.str (tq a.1), .str (tq a.2)], .agg [.str (tq b.1), .str (tq b.2)], .agg [.str (tq c.1), .str (tq c.2)], .agg [.str (tq d.1), .str (tq d.2)]]), (28, .int .i64 4), (29, .int .i64 x.1)], ([.str [], .str []] :: onBlk x.2).map some⟩)
    (fun x => x.1 ≤ 4 ∧ x.2 = ([a, b, c, d].take x.1).foldl (addOn a b c d) []) (fun x => 4 - x.1) (0, []) ⟨by omega, rfl⟩ ?_ ?_
  · exact weak_keep (by simp [lookup, onAV])
  rintro ⟨i, on⟩ R ⟨i1, hon⟩ hR
  try dsimp only at hR ⊢ i1 hon
  rcases Nat.lt_or_ge i 4 with hi | hi
  · have hi' : (i : Int) < 4 := by omega
    obtain ⟨x, hx, px, hxs⟩ : ∃ x, ([AV.agg [.str (tq a.1), .str (tq a.2)], .agg [.str (tq b.1), .str (tq b.2)], .agg [.str (tq c.1), .str (tq c.2)], .agg [.str (tq d.1), .str (tq d.2)]])[i]? = some (.agg [.str (tq x.1), .str (tq x.2)]) ∧ P9 x ∧ [a, b, c, d].take (i + 1) = [a, b, c, d].take i ++ [x] := by
      rcases i with _ | _ | _ | _ | i
      · exact ⟨a, rfl, pa, rfl⟩
      · exact ⟨b, rfl, pb, rfl⟩
      · exact ⟨c, rfl, pc, rfl⟩
      · exact ⟨d, rfl, pd, rfl⟩
      · omega
    have step : ([a, b, c, d].take (i + 1)).foldl (addOn a b c d) [] = addOn a b c d on x := by rw [hxs, List.foldl_append, ← hon]; rfl
    have st2 : ∀ on', addOn a b c d on x = on' → i + 1 ≤ 4 ∧ on' = ([a, b, c, d].take (i + 1)).foldl (addOn a b c d) [] := fun on' h => ⟨by omega, by rw [step, h]⟩
    rcases on with _ | ⟨p, l⟩
    · have out : (btw a b x && btw c d x) = false → addOn a b c d [] x = [] := fun h => by unfold addOn; rw [h]; rfl
      simp -implicitDefEqProofs (disch := omega) only [KF, KR, KV0, KV1, KV2, KW, ↓bstep, ↓astep, ↓O1.eq_def, ↓onBool.eq_def, ↓onInt.eq_def, ↓onStr.eq_def, ↓onLo.eq_def, ↓binK.eq_def, ↓arith.eq_def, ↓strOp.eq_def, ↓srcElems.eq_def, ↓dst1.eq_def, args0, List.zipIdx, List.map, lookup, St.ev, St.set, St.setO, reduceCtorEq, AV.plain, AV.plainL, AV.flat, AV.flatL, AV.cells, Nat.reduceEqDiff, ↓reduceIte, List.drop, List.take, List.length, Nat.reduceAdd, Nat.reduceLeDiff, Nat.reduceMul, E.done, rvsK, rvK, resAV, Int.reduceToNat, Int.reduceLE, Int.reduceLT, Int.reduceNeg, Int.reduceAdd, Int.reduceSub, Int.reduceMul, Nat.reduceLT, AV.isElem, AV.one, ↓buildCells.eq_1, ↓buildCells.eq_2, Nat.reduceBEq, eqCells, hi', hx, onAV, onBlk]
      refine CL_pure (h25 _ _ _ pa pb px) rfl ?_
      refine WW ?_
      refine iteI (fun t1 => ?_) (fun t1 => ?_)
      · refine CL_pure (h25 _ _ _ pc pd px) rfl ?_
        refine WW ?_
        refine iteI (fun t2 => ?_) (fun t2 => ?_)
        · refine X_for (fun _ : Unit => ⟨[(4, .fp [.str (tq a.1), .str (tq a.2)]), (5, .fp [.str (tq b.1), .str (tq b.2)]), (6, .fp [.str (tq c.1), .str (tq c.2)]), (7, .fp [.str (tq d.1), .str (tq d.2)]), (9, .ref 0 0), (10, AV.nils), (12, .ref 1 0), (13, .bool false), (14, .int .i64 0), (27, .sl 2 [.agg [.str (tq a.1), .str (tq a.2)], .agg [.str (tq b.1), .str (tq b.2)], .agg [.str (tq c.1), .str (tq c.2)], .agg [.str (tq d.1), .str (tq d.2)]]), (28, .int .i64 4), (29, .int .i64 i)], [some [.str [], .str []], some [.str (tq x.1), .str (tq x.2)]]⟩) (fun _ => True) (fun _ => 0) () trivial ?_ ?_
          · exact weak_keep (by simp [lookup])
          intro _ R' _ hR'
          refine WF @Int.lt_irrefl ?_
          refine hR (i + 1, [x]) _ (st2 _ (by unfold addOn; rw [t1, t2]; rfl)) (by dsimp only; omega) (weak_res1 2 (by omega) rfl rfl rfl rfl (by simp [lookup, onAV, AV.ren, AV.idsLt]))
        · refine hR (i + 1, []) _ (st2 _ (out (by simp [t1, t2]))) (by dsimp only; omega) (weak_res0 rfl rfl (by simp [lookup, onAV, AV.ren, AV.idsLt]))
      · refine hR (i + 1, []) _ (st2 _ (out (by simp [t1]))) (by dsimp only; omega) (weak_res0 rfl rfl (by simp [lookup, onAV, AV.ren, AV.idsLt]))
    · have out : (btw a b x && btw c d x) = false → addOn a b c d (p :: l) x = p :: l := fun h => by unfold addOn; rw [h]; rfl
      have hlen := fold_len a b c d ([a, b, c, d].take i) []
      rw [← hon, List.length_take] at hlen
      simp only [List.length_cons, List.length_nil] at hlen
      have cl := cells_length (p :: l)
      have cp := cells_plain (p :: l)
      simp -implicitDefEqProofs (disch := omega) only [KF, KR, KV0, KV1, KV2, KW, ↓bstep, ↓astep, ↓O1.eq_def, ↓onBool.eq_def, ↓onInt.eq_def, ↓onStr.eq_def, ↓onLo.eq_def, ↓binK.eq_def, ↓arith.eq_def, ↓strOp.eq_def, ↓srcElems.eq_def, ↓dst1.eq_def, args0, List.zipIdx, List.map, lookup, St.ev, St.set, St.setO, reduceCtorEq, AV.plain, AV.plainL, AV.flat, AV.flatL, AV.cells, Nat.reduceEqDiff, ↓reduceIte, List.drop, List.take, List.length, Nat.reduceAdd, Nat.reduceLeDiff, Nat.reduceMul, E.done, rvsK, rvK, resAV, Int.reduceToNat, Int.reduceLE, Int.reduceLT, Int.reduceNeg, Int.reduceAdd, Int.reduceSub, Int.reduceMul, Nat.reduceLT, AV.isElem, AV.one, ↓buildCells.eq_1, ↓buildCells.eq_2, Nat.reduceBEq, eqCells, hi', hx, onAV, onBlk]
      refine CL_pure (h25 _ _ _ pa pb px) rfl ?_
      refine WW ?_
      refine iteI (fun t1 => ?_) (fun t1 => ?_)
      · refine CL_pure (h25 _ _ _ pc pd px) rfl ?_
        refine WW ?_
        refine iteI (fun t2 => ?_) (fun t2 => ?_)
        · refine X_for (fun j : Nat => ⟨[(4, .fp [.str (tq a.1), .str (tq a.2)]), (5, .fp [.str (tq b.1), .str (tq b.2)]), (6, .fp [.str (tq c.1), .str (tq c.2)]), (7, .fp [.str (tq d.1), .str (tq d.2)]), (9, .ref 0 0), (10, .own 2 1 0 (l.length + 1) (l.length + 1)), (12, .ref 2 0), (13, .bool (agn (p :: l) x j)), (14, .int .i64 j), (27, .sl 2 [.agg [.str (tq a.1), .str (tq a.2)], .agg [.str (tq b.1), .str (tq b.2)], .agg [.str (tq c.1), .str (tq c.2)], .agg [.str (tq d.1), .str (tq d.2)]]), (28, .int .i64 4), (29, .int .i64 i)], [some [.str [], .str []], some (cells (p :: l)), some [.str (tq x.1), .str (tq x.2)]]⟩) (fun j => j ≤ l.length + 1) (fun j => l.length + 1 - j) 0 (Nat.zero_le _) ?_ ?_
          · exact weak_keep (by simp [lookup, agn_zero])
          intro j R' j1 hR'
          try dsimp only at hR' ⊢
          rcases Nat.lt_or_ge j (l.length + 1) with hj | hj
          · obtain ⟨q, hq⟩ : ∃ q, (p :: l)[j]? = some q := ⟨_, List.getElem?_eq_getElem (by simpa using hj)⟩
            have hcell := cells_at (p :: l) j q hq
            have hag := agn_succ (p :: l) x q j hq
            have hjl : 0 + j * 2 + 2 ≤ (cells (p :: l)).length := by rw [cl]; simp; omega
            cases ea : agn (p :: l) x j with
            | true =>
              rw [ea] at hag
              refine WF (And.intro hj ea) ?_
              exact hR' (j + 1) _ (by omega) (by omega) (weak_keep (by simp [lookup, hag, ea]))
            | false =>
              rw [ea] at hag
              refine WF (And.intro hj (And.intro ea (And.intro hcell (And.intro hjl @pt_eq')))) ?_
              exact hR' (j + 1) _ (by omega) (by omega) (weak_keep (by simp [lookup, hag, ea]))
          · have ej : j = l.length + 1 := by omega
            subst ej
            have hc := agn_all (p :: l) x
            rw [List.length_cons] at hc
            cases ea : agn (p :: l) x (l.length + 1) with
            | true =>
              rw [ea] at hc
              refine WF (And.intro @Nat.lt_irrefl ea) ?_
              refine hR (i + 1, p :: l) _ (st2 _ (by unfold addOn; rw [t1, t2, ← hc]; rfl)) (by dsimp only; omega) (weak_res1 1 (by omega) rfl rfl rfl cp (by simp [lookup, onAV, AV.ren, AV.idsLt]))
            | false =>
              rw [ea] at hc
              have e : List.take ((l.length + 1) * 2) (cells (p :: l)) ++ List.flatMap AV.cells [AV.agg [AV.str (tq x.1), AV.str (tq x.2)]] = cells (p :: (l ++ [x])) := by
                rw [show (l.length + 1) * 2 = (cells (p :: l)).length by rw [cl]; rfl, List.take_length, ← List.cons_append, cells_append]; rfl
              refine WF (And.intro @Nat.lt_irrefl ea) ?_
              refine ⟨by rw [cl]; simp, by omega, by omega, ?_⟩
              rw [e]
              refine hR (i + 1, p :: (l ++ [x])) _ (st2 _ (by unfold addOn; rw [t1, t2, ← hc]; rfl)) (by dsimp only; omega) (weak_res1 3 (by omega) rfl rfl rfl (cells_plain _) (by simp [lookup, onAV, AV.ren, AV.idsLt]))
        · refine hR (i + 1, p :: l) _ (st2 _ (out (by simp [t1, t2]))) (by dsimp only; omega) (weak_res1 1 (by omega) rfl rfl rfl cp (by simp [lookup, onAV, AV.ren, AV.idsLt]))
      · refine hR (i + 1, p :: l) _ (st2 _ (out (by simp [t1]))) (by dsimp only; omega) (weak_res1 1 (by omega) rfl rfl rfl cp (by simp [lookup, onAV, AV.ren, AV.idsLt]))
  · have ei : i = 4 := by omega
    subst ei
    have hL : on = onL a b c d := hon
    rcases on with _ | ⟨p, l⟩
    · have em : meetL a b c d = if sg (ar c d a) * sg (ar c d b) ≥ 0 ∨ sg (ar a b c) * sg (ar a b d) ≥ 0 then (0, none)
          else (1, some (a.1 + ar c d a / (ar c d a - ar c d b) * (b.1 - a.1), a.2 + ar c d a / (ar c d a - ar c d b) * (b.2 - a.2))) := by
        unfold meetL; rw [← hL]
      simp -implicitDefEqProofs (disch := omega) only [KF, KR, KV0, KV1, KV2, KW, ↓bstep, ↓astep, ↓O1.eq_def, ↓onBool.eq_def, ↓onInt.eq_def, ↓onStr.eq_def, ↓onLo.eq_def, ↓binK.eq_def, ↓arith.eq_def, ↓strOp.eq_def, ↓srcElems.eq_def, ↓dst1.eq_def, args0, List.zipIdx, List.map, lookup, St.ev, St.set, St.setO, reduceCtorEq, AV.plain, AV.plainL, AV.flat, AV.flatL, AV.cells, Nat.reduceEqDiff, ↓reduceIte, List.drop, List.take, List.length, Nat.reduceAdd, Nat.reduceLeDiff, Nat.reduceMul, E.done, rvsK, rvK, resAV, Int.reduceToNat, Int.reduceLE, Int.reduceLT, Int.reduceNeg, Int.reduceAdd, Int.reduceSub, Int.reduceMul, Nat.reduceLT, AV.isElem, AV.one, ↓buildCells.eq_1, ↓buildCells.eq_2, Nat.reduceBEq, eqCells, onAV, onBlk, Int.lt_irrefl]
      refine CL_pure (h20 _ _ _ pc pd pa) rfl ?_
      refine WW ?_
      refine CL_pure (h20 _ _ _ pc pd pb) rfl ?_
      refine WW ?_
      refine CL_pure (h20 _ _ _ pa pb pc) rfl ?_
      refine WW ?_
      refine CL_pure (s18' m _) rfl ?_
      refine WW ?_
      refine CL_pure (h20 _ _ _ pa pb pd) rfl ?_
      refine WW ?_
      refine CL_pure (s18' m _) rfl ?_
      refine WW ?_
      refine CL_pure (s18' m _) rfl ?_
      refine WW ?_
      refine CL_pure (s18' m _) rfl ?_
      by_cases c1 : 0 ≤ sg (ar c d a) * sg (ar c d b)
      · rw [if_pos (.inl c1)] at em
        refine WF c1 ?_
        rw [em]; exact shv rfl rfl
      by_cases c2 : 0 ≤ sg (ar a b c) * sg (ar a b d)
      · rw [if_pos (.inr c2)] at em
        refine WF (And.intro c1 c2) ?_
        rw [em]; exact shv rfl rfl
      rw [if_neg (by rintro (h | h); exact c1 h; exact c2 h)] at em
      refine WF (And.intro c1 c2) ?_
      have hne : ar c d a - ar c d b ≠ 0 := by
        intro h
        have h' : ar c d a = ar c d b := by grind
        rw [h', sg_mul, ← ge_iff_le, sg_ge] at c1
        apply c1
        rcases tri (ar c d b) with h | h | h
        · have := Rat.mul_pos (a := -ar c d b) (b := -ar c d b) (by grind) (by grind); grind
        · rw [h]; grind
        · have := Rat.mul_pos h h; grind
      have b1 := bd_ar pc pd pa
      have b2 := bd_sub b1 (bd_ar pc pd pb)
      have bk := bd_div b1 b2 hne
      refine CL_pure (s56 m _ _ (qk1 b1) (qk1 (bd_ar pc pd pb))) rfl ?_
      refine WW ?_
      refine CL_pure (s95 m _ _ (qk1 b1) (qk1 b2) hne) rfl ?_
      refine WW ?_
      refine CL_pure (s56 m _ _ (qk1 pb.1) (qk1 pa.1)) rfl ?_
      refine WW ?_
      refine CL_pure (s55 m _ _ (qk1 bk) (qk1 (bd_sub pb.1 pa.1))) rfl ?_
      refine WW ?_
      refine CL_pure (s29 m _ _ (qk1 pa.1) (qk1 (bd_mul bk (bd_sub pb.1 pa.1)))) rfl ?_
      refine WW ?_
      refine CL_pure (s56 m _ _ (qk1 pb.2) (qk1 pa.2)) rfl ?_
      refine WW ?_
      refine CL_pure (s55 m _ _ (qk1 bk) (qk1 (bd_sub pb.2 pa.2))) rfl ?_
      refine WW ?_
      refine CL_pure (s29 m _ _ (qk1 pa.2) (qk1 (bd_mul bk (bd_sub pb.2 pa.2)))) rfl ?_
      refine WW ?_
      rw [em]; exact shv rfl rfl
    · have em : meetL a b c d = (min (l.length + 1) 2, some p) := by unfold meetL; rw [← hL]
      have hp : (0 : Int) < ((l.length + 1 : Nat) : Int) := by omega
      have hp' : (0 : Nat) < l.length + 1 := by omega
      have h44 : ¬ (((4 : Nat) : Int) < 4) := by omega
      simp -implicitDefEqProofs (disch := omega) only [KF, KR, KV0, KV1, KV2, KW, ↓bstep, ↓astep, ↓O1.eq_def, ↓onBool.eq_def, ↓onInt.eq_def, ↓onStr.eq_def, ↓onLo.eq_def, ↓binK.eq_def, ↓arith.eq_def, ↓strOp.eq_def, ↓srcElems.eq_def, ↓dst1.eq_def, args0, List.zipIdx, List.map, lookup, St.ev, St.set, St.setO, reduceCtorEq, AV.plain, AV.plainL, AV.flat, AV.flatL, AV.cells, Nat.reduceEqDiff, ↓reduceIte, List.drop, List.take, List.length, Nat.reduceAdd, Nat.reduceLeDiff, Nat.reduceMul, E.done, rvsK, rvK, resAV, Int.reduceToNat, Int.reduceLE, Int.reduceLT, Int.reduceNeg, Int.reduceAdd, Int.reduceSub, Int.reduceMul, Nat.reduceLT, AV.isElem, AV.one, ↓buildCells.eq_1, ↓buildCells.eq_2, Nat.reduceBEq, eqCells, onAV, onBlk, Int.lt_irrefl, cells_cons, hp, hp', h44]
      rw [em]
      refine shv ?_ rfl
      have : (if (2 : Int) < ((l.length + 1 : Nat) : Int) then 2 else ((l.length + 1 : Nat) : Int)) = ((min (l.length + 1) 2 : Nat) : Int) := by split <;> omega
      rw [this]; rfl
end Go.Proofs.YtkjnjdcbnelceaaGreatDoor.KA
end

section
/- Contracts: numbers and points are right, as the reference says it. -/
open Go Go.Proofs
set_option linter.unusedSimpArgs false
set_option linter.unusedVariables false
namespace Go.Proofs.YtkjnjdcbnelceaaGreatDoor.KA
open Num Geo

theorem s45' (m : Int) (a b c d : Pt) (pa : P9 a) (pb : P9 b) (pc : P9 c) (pd : P9 d) : SpecP (cx m) 45 [eP a, eP b, eP c, eP d] (eR (meetL a b c d)) := by
  obtain ⟨o, h, e⟩ := s45 m a b c d pa pb pc pd
  unfold eR; rw [e]; exact h
theorem itoa_head (n : Int) : ∃ b l, Lib.itoa n = b :: l ∧ ((b.toNat : Int) = 45 ↔ n < 0) ∧ (n < 0 → l = Lib.decDigits n.natAbs) := by
  by_cases h : n < 0
  · rw [itoa_neg h]; exact ⟨45, _, rfl, ⟨fun _ => h, fun _ => rfl⟩, fun _ => rfl⟩
  · rw [itoa_nonneg (by omega)]
    obtain ⟨b, l, e, h1, _⟩ := dec_not45 n.toNat
    rw [e]; exact ⟨b, _, rfl, ⟨fun h2 => absurd ((byte_is (c := 45)).1 h2) h1, fun h2 => absurd h2 h⟩, fun h2 => absurd h2 h⟩
theorem s140 (m : Int) (n : Int) : SpecP (cx m) 140 [.str (Lib.itoa n)] (.tuple [.bool (decide (n < 0)), .str (Lib.decDigits n.natAbs)]) := by
  refine specP_of (mixed m) (k140 m) (Nat.le_of_ble_eq_true rfl) (X_start ?_)
  unfold c140
  obtain ⟨b, l, e, h1, h2⟩ := itoa_head n
  rw [e]
  have hl : (0 : Int) < ((l.length + 1 : Nat) : Int) := by omega
  have hl' : 1 ≤ l.length + 1 := by omega
  by_cases hn : n < 0
  · have hb := h1.2 hn
    refine WF (And.intro hb (And.intro hl hl')) ?_
    exact shv (by rw [← h2 hn]; simp [hn]) rfl
  · have hb : ¬ (b.toNat : Int) = 45 := fun h => hn (h1.1 h)
    refine WF (And.intro hb hl) ?_
    refine shv ?_ rfl
    rw [← e, itoa_nonneg (by omega), show n.toNat = n.natAbs by omega]; simp [hn]
/-- klipperef01.Canonical -/
theorem s141 (m : Int) (n : Int) (hl : (Lib.itoa n).length < 1000000) : SpecP (cx m) 141 [.str (Lib.itoa n)] (.bool true) := by
  refine specP_of (mixed m) (k141 m) (Nat.le_of_ble_eq_true rfl) (X_start ?_)
  unfold c141
  obtain ⟨c, h0, h48⟩ := dec_fst n.natAbs
  have hp := s140 m n
  have hdig := dec_idx n.natAbs
  have hpos := dec_pos n.natAbs
  have hlen : (Lib.decDigits n.natAbs).length < 1000000 := by
    by_cases h : n < 0
    · rw [itoa_neg h] at hl; simp at hl; omega
    · rw [itoa_nonneg (by omega), show n.toNat = n.natAbs by omega] at hl; exact hl
  have rest : n = 0 → ((Lib.decDigits n.natAbs).length = 1 ∧ ¬ n < 0) := by
    intro h; subst h; exact ⟨by rw [show (0 : Int).natAbs = 0 from rfl, dec_zero]; rfl, by omega⟩
  have hz : n.natAbs = 0 ↔ n = 0 := by omega
  rw [hz] at h48
  generalize hD : Lib.decDigits n.natAbs = D at *
  refine WW ?_
  refine CL_pure hp rfl ?_
  refine WW ?_
  refine X_for (fun j : Nat => ⟨[(3, .bool (decide (n < 0))), (4, .str D), (5, .int .i64 j)], []⟩) (fun j => j ≤ D.length) (fun j => D.length - j) 0 (Nat.zero_le _) ?_ ?_
  · exact weak_keep (by simp [lookup])
  intro j R j1 hR
  try dsimp only at hR ⊢
  rcases Nat.lt_or_ge j D.length with hj | hj
  · obtain ⟨x, hx, x1, x2⟩ := hdig j hj
    have x3 : ¬ (x.toNat : Int) < 48 := by omega
    have x4 : ¬ 57 < (x.toNat : Int) := by omega
    refine WF (And.intro hj (And.intro hx (And.intro x3 x4))) ?_
    exact hR (j + 1) _ (by omega) (by omega) (weak_keep (by simp [lookup]))
  · have hj' : ¬ j < D.length := by omega
    have hd0 : ¬ ((D.length : Int) = 0) := by omega
    by_cases hn : n = 0
    · obtain ⟨r1, r2⟩ := rest hn
      have r3 : ¬ (1 : Int) < (D.length : Int) := by omega
      have h48 := h48.2 hn
      refine WF (And.intro hj' (And.intro hd0 (And.intro h0 (And.intro h48 (And.intro r2 r3))))) ?_
      exact shb rfl
    · have h48 : ¬ (c.toNat : Int) = 48 := fun h => hn (h48.1 h)
      refine WF (And.intro hj' (And.intro hd0 (And.intro h0 h48))) ?_
      exact shb rfl
theorem s103 (m : Int) (n : Int) (hl : (Lib.decDigits n.natAbs).length ≤ 200) : SpecP (cx m) 103 [.str (Lib.itoa n)] (.bool true) := by
  refine specP_of (mixed m) (k103 m) (Nat.le_of_ble_eq_true rfl) (X_start ?_)
  unfold c103
  have h2 : ((Lib.decDigits n.natAbs).length : Int) ≤ 200 := by omega
  have hli : (Lib.itoa n).length < 1000000 := by
    by_cases h : n < 0
    · rw [itoa_neg h]; simp; omega
    · rw [itoa_nonneg (by omega), show n.toNat = n.natAbs by omega]; omega
  refine WW ?_
  refine CL_pure (s140 m n) rfl ?_
  refine WW ?_
  refine CL_pure (s141 m n hli) rfl ?_
  refine WF h2 ?_
  exact shb rfl
theorem idx47 (m : Int) (n : Int) : SpecP (cx m) 104 [.str (Lib.itoa n), .int .u8 47] (.int .i64 (-1)) := by
  have := s104 m (Lib.itoa n) 47
  rw [show (47 : Int).toNat.toUInt8 = 47 from rfl, indexByte_none (itoa_no47 n)] at this
  exact this
theorem s102 (m : Int) (n : Int) : SpecP (cx m) 102 [.str (Lib.itoa n)] (.tuple [.str (Lib.itoa n), .str (Lib.itoa 1)]) := by
  refine specP_of (mixed m) (k102 m) (Nat.le_of_ble_eq_true rfl) (X_start ?_)
  unfold c102
  refine WW ?_
  refine CL_pure (idx47 m n) rfl ?_
  refine WW ?_
  exact shv (by rw [itoa_one]) rfl
/-- klipperef02.Right, of integers -/
theorem s54 (m : Int) (n : Int) (hl : (Lib.decDigits n.natAbs).length ≤ 200) : SpecP (cx m) 54 [.str (Lib.itoa n)] (.bool true) := by
  refine specP_of (mixed m) (k54 m) (Nat.le_of_ble_eq_true rfl) (X_start ?_)
  unfold c54
  refine WW ?_
  refine CL_pure (s102 m n) rfl ?_
  refine WW ?_
  refine CL_pure (s103 m n hl) rfl ?_
  refine WW ?_
  refine CL_pure (s103 m 1 (by rw [show (1 : Int).natAbs = 1 from rfl, dec_one]; decide)) rfl ?_
  refine WW ?_
  refine CL_pure (idx47 m n) rfl ?_
  refine WW ?_
  exact shb rfl
theorem s17 (m : Int) (q : Rat) (hq : bd 9 1 q) : SpecP (cx m) 17 [.str (tq q)] (.bool true) := by
  refine specP_of (mixed m) (k17 m) (Nat.le_of_ble_eq_true rfl) (X_start ?_)
  unfold c17
  have hd : q.den = 1 := by have := hq.2; have := den_pos q; omega
  have hl : (Lib.decDigits q.num.natAbs).length ≤ 200 := by
    rw [dec_length]; have := nDigits_le (k := 1) (u := q.num.natAbs) (by omega) (by have := hq.1; omega); omega
  rw [tq_whole hd]
  refine WW ?_
  refine CL_pure (s54 m q.num hl) rfl ?_
  refine WW ?_
  exact shb rfl
theorem s24 (m : Int) (p : Pt) (hp : P9 p) : SpecP (cx m) 24 [eP p] (.bool true) := by
  refine specP_of (mixed m) (k24 m) (Nat.le_of_ble_eq_true rfl) (X_start ?_)
  unfold c24
  refine WF @eP.eq_1 ?_
  refine CL_pure (s17 m p.1 hp.1) rfl ?_
  refine WW ?_
  refine CL_pure (s17 m p.2 hp.2) rfl ?_
  refine WW ?_
  exact shb rfl
end Go.Proofs.YtkjnjdcbnelceaaGreatDoor.KA
end

section
/- The small code of functions, as own tools print it; that it is the program's is checked by the kernel. -/
open Go Go.Proofs
set_option linter.unusedVariables false
namespace Go.Proofs.YtkjnjdcbnelceaaGreatDoor.KA
def c132 : C := (C.ops [⟨I.mv 8 (O.k (AV.bool false)), none, some 8⟩]).seq ((C.ops [⟨I.mv 13 (O.t 0), none, some 13⟩, ⟨I.len 14 (O.t 13), none, some 14⟩, ⟨I.mv 9 (O.t 14), none, some 9⟩]).seq ((C.ops [⟨I.mv 16 (O.t 0), none, some 16⟩, ⟨I.mv 17 (O.t 2), none, some 17⟩, ⟨I.idxa 18 2 none (O.t 16) (O.t 17), none, some 18⟩, ⟨I.loadf 19 true 2 (O.t 18), none, some 19⟩, ⟨I.mv 20 (O.t 0), none, some 20⟩, ⟨I.mv 21 (O.t 2), none, some 21⟩, ⟨I.bin 22 BinOp.add (O.t 21) (O.k (AV.int IntKind.i64 1)), none, some 22⟩, ⟨I.mv 23 (O.t 9), none, some 23⟩, ⟨I.bin 24 BinOp.rem (O.t 22) (O.t 23), none, some 24⟩, ⟨I.idxa 25 2 none (O.t 20) (O.t 24), none, some 25⟩, ⟨I.loadf 26 true 2 (O.t 25), none, some 26⟩, ⟨I.mv 27 (O.t 0), none, some 27⟩, ⟨I.mv 28 (O.t 3), none, some 28⟩, ⟨I.idxa 29 2 none (O.t 27) (O.t 28), none, some 29⟩, ⟨I.loadf 30 true 2 (O.t 29), none, some 30⟩, ⟨I.mv 31 (O.t 0), none, some 31⟩, ⟨I.mv 32 (O.t 3), none, some 32⟩, ⟨I.bin 33 BinOp.add (O.t 32) (O.k (AV.int IntKind.i64 1)), none, some 33⟩, ⟨I.mv 34 (O.t 9), none, some 34⟩, ⟨I.bin 35 BinOp.rem (O.t 33) (O.t 34), none, some 35⟩, ⟨I.idxa 36 2 none (O.t 31) (O.t 35), none, some 36⟩, ⟨I.loadf 37 true 2 (O.t 36), none, some 37⟩, ⟨I.call (some 38) (O.k (AV.fn 46 [])) [O.t 19, O.t 26, O.t 30, O.t 37] false, none, some 38⟩, ⟨I.mv 15 (O.t 38), none, some 15⟩, ⟨I.ext 39 (O.t 15) 0, none, some 39⟩, ⟨I.ext 40 (O.t 15) 1, none, some 40⟩, ⟨I.alloc 11 [AV.str [], AV.str []] true, none, some 11⟩, ⟨I.mv 10 (O.t 39), none, some 10⟩, ⟨I.store 2 (O.t 11) (O.t 40), none, none⟩]).seq ((C.ops [⟨I.mv 41 (O.t 3), none, some 41⟩, ⟨I.mv 42 (O.t 2), none, some 42⟩, ⟨I.bin 43 BinOp.add (O.t 42) (O.k (AV.int IntKind.i64 1)), none, some 43⟩, ⟨I.bin 44 BinOp.eql (O.t 41) (O.t 43), none, some 44⟩, ⟨I.mv 45 (O.t 44), none, some 45⟩, ⟨I.mv 46 (O.t 1), some (45, false), some 46⟩, ⟨I.mv 47 (O.t 9), some (45, false), some 47⟩, ⟨I.bin 48 BinOp.eql (O.t 46) (O.t 47), some (45, false), some 48⟩, ⟨I.mv 49 (O.t 48), some (45, false), some 49⟩, ⟨I.mv 50 (O.t 2), some (49, true), some 50⟩, ⟨I.bin 51 BinOp.eql (O.t 50) (O.k (AV.int IntKind.i64 0)), some (49, true), some 51⟩, ⟨I.pick 52 (O.t 49) (O.t 51) (O.k (AV.bool false)), some (45, false), some 52⟩, ⟨I.mv 53 (O.t 52), some (45, false), some 53⟩, ⟨I.mv 54 (O.t 3), some (53, true), some 54⟩, ⟨I.mv 55 (O.t 9), some (53, true), some 55⟩, ⟨I.bin 56 BinOp.sub (O.t 55) (O.k (AV.int IntKind.i64 1)), some (53, true), some 56⟩, ⟨I.bin 57 BinOp.eql (O.t 54) (O.t 56), some (53, true), some 57⟩, ⟨I.pick 58 (O.t 53) (O.t 57) (O.k (AV.bool false)), some (45, false), some 58⟩, ⟨I.pick 59 (O.t 45) (O.k (AV.bool true)) (O.t 58), none, some 59⟩, ⟨I.mv 12 (O.t 59), none, some 12⟩]).seq ((C.block 0 ((C.ops [⟨I.mv 61 (O.t 10), none, some 61⟩, ⟨I.bin 62 BinOp.eql (O.t 61) (O.k (AV.int IntKind.i64 0)), none, some 62⟩, ⟨I.mv 60 (O.t 62), none, some 60⟩]).seq (C.cond (O.t 60) ((C.ops [⟨I.mv 8 (O.k (AV.bool false)), none, some 8⟩]).seq C.ret) ((C.ops [⟨I.mv 64 (O.t 10), none, some 64⟩, ⟨I.bin 65 BinOp.eql (O.t 64) (O.k (AV.int IntKind.i64 2)), none, some 65⟩, ⟨I.mv 66 (O.t 65), none, some 66⟩, ⟨I.mv 67 (O.t 12), some (66, false), some 67⟩, ⟨I.not 68 (O.t 67), some (66, false), some 68⟩, ⟨I.pick 69 (O.t 66) (O.k (AV.bool true)) (O.t 68), none, some 69⟩, ⟨I.mv 63 (O.t 69), none, some 63⟩]).seq (C.cond (O.t 63) ((C.ops [⟨I.mv 8 (O.k (AV.bool true)), none, some 8⟩]).seq C.ret) ((C.ops [⟨I.mv 71 (O.t 3), none, some 71⟩, ⟨I.mv 72 (O.t 2), none, some 72⟩, ⟨I.bin 73 BinOp.add (O.t 72) (O.k (AV.int IntKind.i64 1)), none, some 73⟩, ⟨I.bin 74 BinOp.eql (O.t 71) (O.t 73), none, some 74⟩, ⟨I.mv 75 (O.t 74), none, some 75⟩, ⟨I.load 76 true 2 (O.t 11), some (75, true), some 76⟩, ⟨I.mv 77 (O.t 0), some (75, true), some 77⟩, ⟨I.mv 78 (O.t 3), some (75, true), some 78⟩, ⟨I.idxa 79 2 none (O.t 77) (O.t 78), some (75, true), some 79⟩, ⟨I.loadf 80 true 2 (O.t 79), some (75, true), some 80⟩, ⟨I.eqs 81 false [Leaf.str, Leaf.str] (O.t 76) (O.t 80), some (75, true), some 81⟩, ⟨I.pick 82 (O.t 75) (O.t 81) (O.k (AV.bool false)), none, some 82⟩, ⟨I.mv 70 (O.t 82), none, some 70⟩]).seq (C.cond (O.t 70) ((C.ops [⟨I.mv 8 (O.k (AV.bool false)), none, some 8⟩]).seq C.ret) C.skip))))))).seq ((C.ops [⟨I.load 83 true 2 (O.t 11), none, some 83⟩, ⟨I.mv 84 (O.t 0), none, some 84⟩, ⟨I.mv 85 (O.t 2), none, some 85⟩, ⟨I.idxa 86 2 none (O.t 84) (O.t 85), none, some 86⟩, ⟨I.loadf 87 true 2 (O.t 86), none, some 87⟩, ⟨I.eqs 88 true [Leaf.str, Leaf.str] (O.t 83) (O.t 87), none, some 88⟩, ⟨I.mv 89 (O.t 88), none, some 89⟩, ⟨I.mv 90 (O.t 3), some (89, false), some 90⟩, ⟨I.mv 91 (O.t 9), some (89, false), some 91⟩, ⟨I.bin 92 BinOp.sub (O.t 91) (O.k (AV.int IntKind.i64 1)), some (89, false), some 92⟩, ⟨I.bin 93 BinOp.neq (O.t 90) (O.t 92), some (89, false), some 93⟩, ⟨I.pick 94 (O.t 89) (O.k (AV.bool true)) (O.t 93), none, some 94⟩, ⟨I.mv 8 (O.t 94), none, some 8⟩]).seq C.ret)))))
theorem k132 (m : Int) : compF (cx m).P (cx m).gt (fun t => t == 11 || t == 76 || t == 83) 132 = some (c132, [RV.tmp 8], 95) := by kernel_rfl
def c80 : C := (C.ops [⟨I.mv 4 (O.k (AV.int IntKind.i64 0)), none, some 4⟩]).seq (((C.ops [⟨I.mv 7 (O.t 1), none, some 7⟩, ⟨I.mv 8 (O.k (AV.int IntKind.i64 0)), none, some 8⟩]).seq (C.block 0 ((C.ops [⟨I.bin 9 BinOp.lss (O.t 8) (O.t 7), none, some 9⟩]).seq ((C.cond (O.t 9) C.skip (C.exit 0)).seq ((C.block 1 ((C.ops [⟨I.mv 10 (O.t 8), none, some 10⟩, ⟨I.mv 5 (O.t 10), none, some 5⟩]).seq ((C.ops [⟨I.mv 11 (O.t 5), none, some 11⟩, ⟨I.bin 12 BinOp.add (O.t 11) (O.k (AV.int IntKind.i64 1)), none, some 12⟩, ⟨I.mv 6 (O.t 12), none, some 6⟩]).seq (C.block 2 (((C.ops [⟨I.mv 13 (O.t 6), none, some 13⟩, ⟨I.mv 14 (O.t 1), none, some 14⟩, ⟨I.bin 15 BinOp.lss (O.t 13) (O.t 14), none, some 15⟩]).seq (C.cond (O.t 15) C.skip (C.exit 2))).seq ((C.block 3 ((C.ops [⟨I.mv 18 (O.t 0), none, some 18⟩, ⟨I.mv 19 (O.t 1), none, some 19⟩, ⟨I.mv 20 (O.t 5), none, some 20⟩, ⟨I.mv 21 (O.t 6), none, some 21⟩, ⟨I.call (some 22) (O.k (AV.fn 132 [])) [O.t 18, O.t 19, O.t 20, O.t 21] false, none, some 22⟩]).seq (C.cond (O.t 22) ((C.ops [⟨I.mv 4 (O.k (AV.int IntKind.i64 26)), none, some 4⟩]).seq C.ret) C.skip))).seq (C.ops [⟨I.mv 16 (O.t 6), none, some 16⟩, ⟨I.bin 17 BinOp.add (O.t 16) (O.k (AV.int IntKind.i64 1)), none, some 17⟩, ⟨I.mv 6 (O.t 17), none, some 6⟩]))).loop)))).seq (C.ops [⟨I.bin 23 BinOp.add (O.t 8) (O.k (AV.int IntKind.i64 1)), none, some 23⟩, ⟨I.mv 8 (O.t 23), none, some 8⟩])))).loop)).seq ((C.ops [⟨I.mv 4 (O.k (AV.int IntKind.i64 0)), none, some 4⟩]).seq C.ret))
theorem k80 (m : Int) : compF (cx m).P (cx m).gt (fun _ => false) 80 = some (c80, [RV.tmp 4], 24) := by kernel_rfl
def c42 : C := (C.ops [⟨I.mv 2 (O.k (AV.int IntKind.i64 0)), none, some 2⟩]).seq ((C.block 0 ((C.ops [⟨I.mv 6 (O.t 0), none, some 6⟩, ⟨I.len 7 (O.t 6), none, some 7⟩, ⟨I.bin 8 BinOp.lss (O.t 7) (O.k (AV.int IntKind.i64 2)), none, some 8⟩, ⟨I.mv 5 (O.t 8), none, some 5⟩]).seq (C.cond (O.t 5) ((C.ops [⟨I.mv 2 (O.k (AV.int IntKind.i64 5)), none, some 2⟩]).seq C.ret) ((C.ops [⟨I.mv 10 (O.t 0), none, some 10⟩, ⟨I.len 11 (O.t 10), none, some 11⟩, ⟨I.bin 12 BinOp.gtr (O.t 11) (O.k (AV.int IntKind.i64 400)), none, some 12⟩, ⟨I.mv 9 (O.t 12), none, some 9⟩]).seq (C.cond (O.t 9) ((C.ops [⟨I.mv 2 (O.k (AV.int IntKind.i64 4)), none, some 2⟩]).seq C.ret) C.skip))))).seq (((C.ops [⟨I.mv 13 (O.t 0), none, some 13⟩, ⟨I.len 14 (O.t 13), none, some 14⟩, ⟨I.mv 15 (O.k (AV.int IntKind.i64 0)), none, some 15⟩]).seq (C.block 1 ((C.ops [⟨I.bin 16 BinOp.lss (O.t 15) (O.t 14), none, some 16⟩]).seq ((C.cond (O.t 16) C.skip (C.exit 1)).seq ((C.block 2 ((C.ops [⟨I.mv 17 (O.t 15), none, some 17⟩, ⟨I.idxa 18 2 none (O.t 13) (O.t 15), none, some 18⟩, ⟨I.loadf 19 true 2 (O.t 18), none, some 19⟩, ⟨I.alloc 4 [AV.str [], AV.str []] true, none, some 4⟩, ⟨I.mv 3 (O.t 17), none, some 3⟩, ⟨I.store 2 (O.t 4) (O.t 19), none, none⟩]).seq (C.block 3 ((C.ops [⟨I.load 21 true 2 (O.t 4), none, some 21⟩, ⟨I.call (some 22) (O.k (AV.fn 49 [])) [O.t 21] false, none, some 22⟩, ⟨I.bin 23 BinOp.neq (O.t 22) (O.k (AV.int IntKind.i64 0)), none, some 23⟩, ⟨I.mv 20 (O.t 23), none, some 20⟩]).seq (C.cond (O.t 20) ((C.ops [⟨I.mv 2 (O.k (AV.int IntKind.i64 2)), none, some 2⟩]).seq C.ret) ((C.ops [⟨I.mv 25 (O.t 3), none, some 25⟩, ⟨I.bin 26 BinOp.gtr (O.t 25) (O.k (AV.int IntKind.i64 0)), none, some 26⟩, ⟨I.mv 27 (O.t 26), none, some 27⟩, ⟨I.mv 28 (O.t 0), some (27, true), some 28⟩, ⟨I.mv 29 (O.t 3), some (27, true), some 29⟩, ⟨I.bin 30 BinOp.sub (O.t 29) (O.k (AV.int IntKind.i64 1)), some (27, true), some 30⟩, ⟨I.idxa 31 2 none (O.t 28) (O.t 30), some (27, true), some 31⟩, ⟨I.loadf 32 true 2 (O.t 31), some (27, true), some 32⟩, ⟨I.load 33 true 2 (O.t 4), some (27, true), some 33⟩, ⟨I.eqs 34 false [Leaf.str, Leaf.str] (O.t 32) (O.t 33), some (27, true), some 34⟩, ⟨I.pick 35 (O.t 27) (O.t 34) (O.k (AV.bool false)), none, some 35⟩, ⟨I.mv 24 (O.t 35), none, some 24⟩]).seq (C.cond (O.t 24) ((C.ops [⟨I.mv 2 (O.k (AV.int IntKind.i64 17)), none, some 2⟩]).seq C.ret) C.skip))))))).seq (C.ops [⟨I.bin 36 BinOp.add (O.t 15) (O.k (AV.int IntKind.i64 1)), none, some 36⟩, ⟨I.mv 15 (O.t 36), none, some 15⟩])))).loop)).seq ((C.ops [⟨I.mv 37 (O.t 0), none, some 37⟩, ⟨I.mv 38 (O.t 0), none, some 38⟩, ⟨I.len 39 (O.t 38), none, some 39⟩, ⟨I.bin 40 BinOp.sub (O.t 39) (O.k (AV.int IntKind.i64 1)), none, some 40⟩, ⟨I.call (some 41) (O.k (AV.fn 80 [])) [O.t 37, O.t 40] false, none, some 41⟩, ⟨I.mv 2 (O.t 41), none, some 2⟩]).seq C.ret)))
theorem k42 (m : Int) : compF (cx m).P (cx m).gt (fun t => t == 4 || t == 21 || t == 33) 42 = some (c42, [RV.tmp 2], 42) := by kernel_rfl
def c13 : C := (C.ops [⟨I.mv 4 (O.k (AV.int IntKind.i64 0)), none, some 4⟩]).seq ((C.ops [⟨I.mv 5 (O.k (AV.int IntKind.i64 2)), none, some 5⟩]).seq (((C.ops [⟨I.mv 13 (O.t 1), none, some 13⟩]).seq (C.cond (O.t 13) (C.ops [⟨I.mv 5 (O.k (AV.int IntKind.i64 3)), none, some 5⟩]) C.skip)).seq ((C.block 0 ((C.ops [⟨I.mv 15 (O.t 0), none, some 15⟩, ⟨I.len 16 (O.t 15), none, some 16⟩, ⟨I.mv 17 (O.t 5), none, some 17⟩, ⟨I.bin 18 BinOp.lss (O.t 16) (O.t 17), none, some 18⟩, ⟨I.mv 14 (O.t 18), none, some 14⟩]).seq (C.cond (O.t 14) ((C.ops [⟨I.mv 4 (O.k (AV.int IntKind.i64 5)), none, some 4⟩]).seq C.ret) ((C.ops [⟨I.mv 20 (O.t 0), none, some 20⟩, ⟨I.len 21 (O.t 20), none, some 21⟩, ⟨I.bin 22 BinOp.gtr (O.t 21) (O.k (AV.int IntKind.i64 400)), none, some 22⟩, ⟨I.mv 19 (O.t 22), none, some 19⟩]).seq (C.cond (O.t 19) ((C.ops [⟨I.mv 4 (O.k (AV.int IntKind.i64 4)), none, some 4⟩]).seq C.ret) C.skip))))).seq (((C.ops [⟨I.mv 6 (O.k (AV.int IntKind.i64 0)), none, some 6⟩]).seq (C.block 1 (((C.ops [⟨I.mv 23 (O.t 6), none, some 23⟩, ⟨I.mv 24 (O.t 0), none, some 24⟩, ⟨I.len 25 (O.t 24), none, some 25⟩, ⟨I.bin 26 BinOp.lss (O.t 23) (O.t 25), none, some 26⟩]).seq (C.cond (O.t 26) C.skip (C.exit 1))).seq ((C.block 2 (((C.ops [⟨I.mv 29 (O.t 0), none, some 29⟩, ⟨I.mv 30 (O.t 6), none, some 30⟩, ⟨I.idxa 31 2 none (O.t 29) (O.t 30), none, some 31⟩, ⟨I.loadf 32 true 2 (O.t 31), none, some 32⟩, ⟨I.call (some 33) (O.k (AV.fn 24 [])) [O.t 32] false, none, some 33⟩, ⟨I.not 34 (O.t 33), none, some 34⟩]).seq (C.cond (O.t 34) ((C.ops [⟨I.mv 4 (O.k (AV.int IntKind.i64 2)), none, some 4⟩]).seq C.ret) C.skip)).seq ((C.ops [⟨I.mv 35 (O.t 6), none, some 35⟩, ⟨I.bin 36 BinOp.gtr (O.t 35) (O.k (AV.int IntKind.i64 0)), none, some 36⟩, ⟨I.mv 37 (O.t 36), none, some 37⟩, ⟨I.mv 38 (O.t 0), some (37, true), some 38⟩, ⟨I.mv 39 (O.t 6), some (37, true), some 39⟩, ⟨I.idxa 40 2 none (O.t 38) (O.t 39), some (37, true), some 40⟩, ⟨I.loadf 41 true 2 (O.t 40), some (37, true), some 41⟩, ⟨I.mv 42 (O.t 0), some (37, true), some 42⟩, ⟨I.mv 43 (O.t 6), some (37, true), some 43⟩, ⟨I.bin 44 BinOp.sub (O.t 43) (O.k (AV.int IntKind.i64 1)), some (37, true), some 44⟩, ⟨I.idxa 45 2 none (O.t 42) (O.t 44), some (37, true), some 45⟩, ⟨I.loadf 46 true 2 (O.t 45), some (37, true), some 46⟩, ⟨I.eqs 47 false [Leaf.str, Leaf.str] (O.t 41) (O.t 46), some (37, true), some 47⟩, ⟨I.pick 48 (O.t 37) (O.t 47) (O.k (AV.bool false)), none, some 48⟩, ⟨I.mv 49 (O.t 48), none, some 49⟩, ⟨I.mv 50 (O.t 6), some (49, false), some 50⟩, ⟨I.bin 51 BinOp.eql (O.t 50) (O.k (AV.int IntKind.i64 0)), some (49, false), some 51⟩, ⟨I.mv 52 (O.t 51), some (49, false), some 52⟩, ⟨I.mv 53 (O.t 1), some (52, true), some 53⟩, ⟨I.pick 54 (O.t 52) (O.t 53) (O.k (AV.bool false)), some (49, false), some 54⟩, ⟨I.mv 55 (O.t 54), some (49, false), some 55⟩, ⟨I.mv 56 (O.t 0), some (55, true), some 56⟩, ⟨I.idxa 57 2 none (O.t 56) (O.k (AV.int IntKind.i64 0)), some (55, true), some 57⟩, ⟨I.loadf 58 true 2 (O.t 57), some (55, true), some 58⟩, ⟨I.mv 59 (O.t 0), some (55, true), some 59⟩, ⟨I.mv 60 (O.t 0), some (55, true), some 60⟩, ⟨I.len 61 (O.t 60), some (55, true), some 61⟩, ⟨I.bin 62 BinOp.sub (O.t 61) (O.k (AV.int IntKind.i64 1)), some (55, true), some 62⟩, ⟨I.idxa 63 2 none (O.t 59) (O.t 62), some (55, true), some 63⟩, ⟨I.loadf 64 true 2 (O.t 63), some (55, true), some 64⟩, ⟨I.eqs 65 false [Leaf.str, Leaf.str] (O.t 58) (O.t 64), some (55, true), some 65⟩, ⟨I.pick 66 (O.t 55) (O.t 65) (O.k (AV.bool false)), some (49, false), some 66⟩, ⟨I.pick 67 (O.t 49) (O.k (AV.bool true)) (O.t 66), none, some 67⟩]).seq (C.cond (O.t 67) ((C.ops [⟨I.mv 4 (O.k (AV.int IntKind.i64 17)), none, some 4⟩]).seq C.ret) C.skip)))).seq (C.ops [⟨I.mv 27 (O.t 6), none, some 27⟩, ⟨I.bin 28 BinOp.add (O.t 27) (O.k (AV.int IntKind.i64 1)), none, some 28⟩, ⟨I.mv 6 (O.t 28), none, some 6⟩]))).loop)).seq ((C.ops [⟨I.mv 68 (O.t 0), none, some 68⟩, ⟨I.len 69 (O.t 68), none, some 69⟩, ⟨I.bin 70 BinOp.sub (O.t 69) (O.k (AV.int IntKind.i64 1)), none, some 70⟩, ⟨I.mv 7 (O.t 70), none, some 7⟩]).seq (((C.ops [⟨I.mv 71 (O.t 1), none, some 71⟩]).seq (C.cond (O.t 71) (C.ops [⟨I.mv 72 (O.t 0), none, some 72⟩, ⟨I.len 73 (O.t 72), none, some 73⟩, ⟨I.mv 7 (O.t 73), none, some 7⟩]) C.skip)).seq (((C.ops [⟨I.mv 8 (O.k (AV.int IntKind.i64 0)), none, some 8⟩]).seq (C.block 3 (((C.ops [⟨I.mv 74 (O.t 8), none, some 74⟩, ⟨I.mv 75 (O.t 7), none, some 75⟩, ⟨I.bin 76 BinOp.lss (O.t 74) (O.t 75), none, some 76⟩]).seq (C.cond (O.t 76) C.skip (C.exit 3))).seq ((C.block 4 ((C.ops [⟨I.mv 79 (O.t 8), none, some 79⟩, ⟨I.bin 80 BinOp.add (O.t 79) (O.k (AV.int IntKind.i64 1)), none, some 80⟩, ⟨I.mv 9 (O.t 80), none, some 9⟩]).seq (C.block 5 (((C.ops [⟨I.mv 81 (O.t 9), none, some 81⟩, ⟨I.mv 82 (O.t 7), none, some 82⟩, ⟨I.bin 83 BinOp.lss (O.t 81) (O.t 82), none, some 83⟩]).seq (C.cond (O.t 83) C.skip (C.exit 5))).seq ((C.block 6 ((C.ops [⟨I.mv 87 (O.t 0), none, some 87⟩, ⟨I.mv 88 (O.t 8), none, some 88⟩, ⟨I.idxa 89 2 none (O.t 87) (O.t 88), none, some 89⟩, ⟨I.loadf 90 true 2 (O.t 89), none, some 90⟩, ⟨I.mv 91 (O.t 0), none, some 91⟩, ⟨I.mv 92 (O.t 8), none, some 92⟩, ⟨I.bin 93 BinOp.add (O.t 92) (O.k (AV.int IntKind.i64 1)), none, some 93⟩, ⟨I.idxa 94 2 none (O.t 91) (O.t 93), none, some 94⟩, ⟨I.loadf 95 true 2 (O.t 94), none, some 95⟩, ⟨I.mv 96 (O.t 0), none, some 96⟩, ⟨I.mv 97 (O.t 9), none, some 97⟩, ⟨I.idxa 98 2 none (O.t 96) (O.t 97), none, some 98⟩, ⟨I.loadf 99 true 2 (O.t 98), none, some 99⟩, ⟨I.mv 100 (O.t 0), none, some 100⟩, ⟨I.mv 101 (O.t 9), none, some 101⟩, ⟨I.bin 102 BinOp.add (O.t 101) (O.k (AV.int IntKind.i64 1)), none, some 102⟩, ⟨I.mv 103 (O.t 0), none, some 103⟩, ⟨I.len 104 (O.t 103), none, some 104⟩, ⟨I.bin 105 BinOp.rem (O.t 102) (O.t 104), none, some 105⟩, ⟨I.idxa 106 2 none (O.t 100) (O.t 105), none, some 106⟩, ⟨I.loadf 107 true 2 (O.t 106), none, some 107⟩, ⟨I.call (some 108) (O.k (AV.fn 45 [])) [O.t 90, O.t 95, O.t 99, O.t 107] false, none, some 108⟩, ⟨I.mv 86 (O.t 108), none, some 86⟩, ⟨I.ext 109 (O.t 86) 0, none, some 109⟩, ⟨I.ext 110 (O.t 86) 1, none, some 110⟩, ⟨I.alloc 11 [AV.str [], AV.str []] true, none, some 11⟩, ⟨I.mv 10 (O.t 109), none, some 10⟩, ⟨I.store 2 (O.t 11) (O.t 110), none, none⟩]).seq ((C.ops [⟨I.mv 12 (O.k (AV.int IntKind.i64 0)), none, some 12⟩]).seq (((C.ops [⟨I.mv 111 (O.t 9), none, some 111⟩, ⟨I.mv 112 (O.t 8), none, some 112⟩, ⟨I.bin 113 BinOp.add (O.t 112) (O.k (AV.int IntKind.i64 1)), none, some 113⟩, ⟨I.bin 114 BinOp.eql (O.t 111) (O.t 113), none, some 114⟩, ⟨I.mv 115 (O.t 114), none, some 115⟩, ⟨I.mv 116 (O.t 1), some (115, false), some 116⟩, ⟨I.mv 117 (O.t 116), some (115, false), some 117⟩, ⟨I.mv 118 (O.t 8), some (117, true), some 118⟩, ⟨I.bin 119 BinOp.eql (O.t 118) (O.k (AV.int IntKind.i64 0)), some (117, true), some 119⟩, ⟨I.pick 120 (O.t 117) (O.t 119) (O.k (AV.bool false)), some (115, false), some 120⟩, ⟨I.mv 121 (O.t 120), some (115, false), some 121⟩, ⟨I.mv 122 (O.t 9), some (121, true), some 122⟩, ⟨I.mv 123 (O.t 7), some (121, true), some 123⟩, ⟨I.bin 124 BinOp.sub (O.t 123) (O.k (AV.int IntKind.i64 1)), some (121, true), some 124⟩, ⟨I.bin 125 BinOp.eql (O.t 122) (O.t 124), some (121, true), some 125⟩, ⟨I.pick 126 (O.t 121) (O.t 125) (O.k (AV.bool false)), some (115, false), some 126⟩, ⟨I.pick 127 (O.t 115) (O.k (AV.bool true)) (O.t 126), none, some 127⟩]).seq (C.cond (O.t 127) (C.ops [⟨I.mv 12 (O.k (AV.int IntKind.i64 1)), none, some 12⟩]) C.skip)).seq ((C.ops [⟨I.mv 128 (O.t 10), none, some 128⟩, ⟨I.mv 129 (O.t 12), none, some 129⟩, ⟨I.bin 130 BinOp.gtr (O.t 128) (O.t 129), none, some 130⟩]).seq (C.cond (O.t 130) ((C.ops [⟨I.mv 4 (O.k (AV.int IntKind.i64 26)), none, some 4⟩]).seq C.ret) C.skip)))))).seq (C.ops [⟨I.mv 84 (O.t 9), none, some 84⟩, ⟨I.bin 85 BinOp.add (O.t 84) (O.k (AV.int IntKind.i64 1)), none, some 85⟩, ⟨I.mv 9 (O.t 85), none, some 9⟩]))).loop))).seq (C.ops [⟨I.mv 77 (O.t 8), none, some 77⟩, ⟨I.bin 78 BinOp.add (O.t 77) (O.k (AV.int IntKind.i64 1)), none, some 78⟩, ⟨I.mv 8 (O.t 78), none, some 8⟩]))).loop)).seq ((C.ops [⟨I.mv 4 (O.k (AV.int IntKind.i64 0)), none, some 4⟩]).seq C.ret))))))))
theorem k13 (m : Int) : compF (cx m).P (cx m).gt (fun t => t == 11) 13 = some (c13, [RV.tmp 4], 131) := by kernel_rfl
end Go.Proofs.YtkjnjdcbnelceaaGreatDoor.KA
end

section
/- Contracts: chains are checked. -/
open Go Go.Proofs
set_option linter.unusedSimpArgs false
set_option linter.unusedVariables false
set_option maxHeartbeats 1000000
set_option maxRecDepth 20000
namespace Go.Proofs.YtkjnjdcbnelceaaGreatDoor.KA
open Num Geo

def ePs (c : List Pt) : AV := .sl 2 (c.map fun p => .agg [.str (tq p.1), .str (tq p.2)])
theorem plainL_all : ∀ {l : List AV}, (∀ x ∈ l, x.plain = true) → AV.plainL l = true
  | [], _ => rfl
  | a :: l, h => by simp [AV.plainL, h a (by simp), plainL_all (l := l) fun x hx => h x (by simp [hx])]
theorem get_pt {c : List Pt} {j : Nat} (h : j < c.length) : (c.map fun p : Pt => AV.agg [.str (tq p.1), .str (tq p.2)])[j]? = some (.agg [.str (tq (at' c j).1), .str (tq (at' c j).2)]) := by
  simp [at', h]
def all9 (c : List Pt) : Prop := ∀ p ∈ c, P9 p
theorem all9.get {c : List Pt} (h : all9 c) {j : Nat} (hj : j < c.length) : P9 (at' c j) := by
  have : at' c j = c[j] := by simp [at', hj]
  rw [this]; exact h _ (List.getElem_mem hj)

/-- polyline.crossed -/
def nextP (n segs i k : Nat) : Bool := decide (k = i + 1) || (decide (segs = n) && (decide (i = 0) && decide (k = n - 1)))
def crossR (n : Nat) (ci ck : Pt) (segs i k : Nat) (r : Nat × Option Pt) : Bool :=
  if r.1 = 0 then false
  else if r.1 = 2 ∨ nextP n segs i k = false then true
  else if k = i + 1 ∧ r.2 = some ck then false
  else decide (r.2 ≠ some ci) || decide (k ≠ n - 1)
def crossedP (c : List Pt) (segs i k : Nat) : Bool :=
  crossR c.length (at' c i) (at' c k) segs i k (meetP (at' c i) (at' c ((i + 1) % c.length)) (at' c k) (at' c ((k + 1) % c.length)))
theorem s132 (m : Int) (c : List Pt) (segs i k : Nat) (h9 : all9 c) (hn : c.length < 1000000) (hi : i < c.length) (hk : k < c.length) :
    SpecP (cx m) 132 [ePs c, .int .i64 segs, .int .i64 i, .int .i64 k] (.bool (crossedP c segs i k)) := by
  refine specP_of (mixed m) (k132 m) (Nat.le_of_ble_eq_true rfl) (X_start ?_)
  unfold c132
  have hi1 : (i + 1) % c.length < c.length := Nat.mod_lt _ (by omega)
  have hk1 : (k + 1) % c.length < c.length := Nat.mod_lt _ (by omega)
  have e1 : ((i : Int) + 1).tmod (c.length : Int) = (((i + 1) % c.length : Nat) : Int) := (Int.ofNat_tmod (i + 1) c.length).symm
  have e2 : ((k : Int) + 1).tmod (c.length : Int) = (((k + 1) % c.length : Nat) : Int) := (Int.ofNat_tmod (k + 1) c.length).symm
  have x1 := get_pt hi
  have x2 := get_pt hi1
  have x3 := get_pt hk
  have x4 := get_pt hk1
  have hn0 : ¬ ((c.length : Int) = 0) := by omega
  have hm := s46 m _ _ _ _ (h9.get hi) (h9.get hi1) (h9.get hk) (h9.get hk1)
  have hs := meetP_some (at' c i) (at' c ((i + 1) % c.length)) (at' c k) (at' c ((k + 1) % c.length))
  have hw := meetP_how (at' c i) (at' c ((i + 1) % c.length)) (at' c k) (at' c ((k + 1) % c.length))
  unfold crossedP
  generalize meetP (at' c i) (at' c ((i + 1) % c.length)) (at' c k) (at' c ((k + 1) % c.length)) = r at *
  obtain ⟨h, o⟩ := r
  dsimp only at hs hw
  unfold eR eP at hm
  dsimp only at hm
  rcases hw with rfl | rfl | rfl
  · obtain ⟨u, v, he⟩ : ∃ u v, eO o = .agg [.str u, .str v] := by cases o <;> exact ⟨_, _, rfl⟩
    rw [he, show ((0 : Nat) : Int) = 0 from rfl] at hm
    refine WF (And.intro @ePs.eq_1 (And.intro @List.length_map.{0,0} (And.intro e1 (And.intro e2 (And.intro x1 (And.intro x2 (And.intro x3 (And.intro x4 hn0)))))))) ?_
    refine CL_pure hm rfl ?_
    refine WF (And.intro hn0 (And.intro e1 e2)) ?_
    repeat' first | exact shb rfl | refine iteI (fun _ => ?_) (fun _ => ?_)
  · obtain ⟨p, rfl⟩ := hs rfl
    unfold eO eP at hm
    dsimp only at hm
    rw [show ((1 : Nat) : Int) = 1 from rfl] at hm
    have pe1 := pt_eq' p (at' c k)
    have pe2 := pt_eq' p (at' c i)
    refine WF (And.intro @ePs.eq_1 (And.intro @List.length_map.{0,0} (And.intro e1 (And.intro e2 (And.intro x1 (And.intro x2 (And.intro x3 (And.intro x4 hn0)))))))) ?_
    refine CL_pure hm rfl ?_
    have dk : decide (p = at' c k) = true ∨ decide (p = at' c k) = false := by cases decide (p = at' c k) <;> simp
    have di : decide (p = at' c i) = true ∨ decide (p = at' c i) = false := by cases decide (p = at' c i) <;> simp
    have hcr : crossR c.length (at' c i) (at' c k) segs i k (1, some p) = (if nextP c.length segs i k = false then true else if (decide (k = i + 1) && decide (p = at' c k)) = true then false else (!decide (p = at' c i) || !decide (k = c.length - 1))) := by
      simp [crossR]
    by_cases b4 : k = c.length - 1
    · have f4 := eq_true (show (k : Int) = (c.length : Int) - 1 by omega)
      have d4 : decide (k = c.length - 1) = true := by simp [b4]
      by_cases b1 : k = i + 1
      · have f1 := eq_true (show (k : Int) = (i : Int) + 1 by omega)
        have d1 : decide (k = i + 1) = true := by simp [b1]
        have n1 : nextP c.length segs i k = true := by unfold nextP; rw [d1]; rfl
        rcases dk with dk | dk
        · refine WF (And.intro hn0 (And.intro e1 (And.intro e2 (And.intro x3 (And.intro x1 (And.intro pe1 (And.intro pe2 (And.intro f1 (And.intro f4 dk))))))))) ?_
          exact shb (by rw [hcr, n1, d1, dk]; rfl)
        · rcases di with di | di
          · refine WF (And.intro hn0 (And.intro e1 (And.intro e2 (And.intro x3 (And.intro x1 (And.intro pe1 (And.intro pe2 (And.intro f1 (And.intro f4 (And.intro dk di)))))))))) ?_
            exact shb (by rw [hcr, n1, d1, dk, di, d4]; rfl)
          · refine WF (And.intro hn0 (And.intro e1 (And.intro e2 (And.intro x3 (And.intro x1 (And.intro pe1 (And.intro pe2 (And.intro f1 (And.intro f4 (And.intro dk di)))))))))) ?_
            exact shb (by rw [hcr, n1, d1, dk, di, d4]; rfl)
      · have f1 := eq_false (show ¬ (k : Int) = (i : Int) + 1 by omega)
        have d1 : decide (k = i + 1) = false := by simp [b1]
        by_cases b2 : segs = c.length
        · have g1 := eq_true (show (segs : Int) = (c.length : Int) by omega)
          by_cases b3 : i = 0
          · have g2 := eq_true (show (i : Int) = 0 by omega)
            have n1 : nextP c.length segs i k = true := by unfold nextP; rw [d4]; simp [b2, b3]
            rcases di with di | di
            · refine WF (And.intro hn0 (And.intro e1 (And.intro e2 (And.intro x3 (And.intro x1 (And.intro pe1 (And.intro pe2 (And.intro f1 (And.intro f4 (And.intro g1 (And.intro g2 di))))))))))) ?_
              exact shb (by rw [hcr, n1, d1, di, d4]; rfl)
            · refine WF (And.intro hn0 (And.intro e1 (And.intro e2 (And.intro x3 (And.intro x1 (And.intro pe1 (And.intro pe2 (And.intro f1 (And.intro f4 (And.intro g1 (And.intro g2 di))))))))))) ?_
              exact shb (by rw [hcr, n1, d1, di, d4]; rfl)
          · have g2 := eq_false (show ¬ (i : Int) = 0 by omega)
            have n1 : nextP c.length segs i k = false := by unfold nextP; rw [d1]; simp [b3]
            refine WF (And.intro hn0 (And.intro e1 (And.intro e2 (And.intro x3 (And.intro x1 (And.intro pe1 (And.intro pe2 (And.intro f1 (And.intro f4 (And.intro g1 g2)))))))))) ?_
            exact shb (by rw [hcr, n1]; rfl)
        · have g1 := eq_false (show ¬ (segs : Int) = (c.length : Int) by omega)
          have n1 : nextP c.length segs i k = false := by unfold nextP; rw [d1]; simp [b2]
          refine WF (And.intro hn0 (And.intro e1 (And.intro e2 (And.intro x3 (And.intro x1 (And.intro pe1 (And.intro pe2 (And.intro f1 (And.intro f4 g1))))))))) ?_
          exact shb (by rw [hcr, n1]; rfl)
    · have f4 := eq_false (show ¬ (k : Int) = (c.length : Int) - 1 by omega)
      have d4 : decide (k = c.length - 1) = false := by simp [b4]
      by_cases b1 : k = i + 1
      · have f1 := eq_true (show (k : Int) = (i : Int) + 1 by omega)
        have d1 : decide (k = i + 1) = true := by simp [b1]
        have n1 : nextP c.length segs i k = true := by unfold nextP; rw [d1]; rfl
        rcases dk with dk | dk
        · refine WF (And.intro hn0 (And.intro e1 (And.intro e2 (And.intro x3 (And.intro x1 (And.intro pe1 (And.intro pe2 (And.intro f1 (And.intro f4 dk))))))))) ?_
          exact shb (by rw [hcr, n1, d1, dk]; rfl)
        · rcases di with di | di
          · refine WF (And.intro hn0 (And.intro e1 (And.intro e2 (And.intro x3 (And.intro x1 (And.intro pe1 (And.intro pe2 (And.intro f1 (And.intro f4 (And.intro dk di)))))))))) ?_
            exact shb (by rw [hcr, n1, d1, dk, di, d4]; rfl)
          · refine WF (And.intro hn0 (And.intro e1 (And.intro e2 (And.intro x3 (And.intro x1 (And.intro pe1 (And.intro pe2 (And.intro f1 (And.intro f4 (And.intro dk di)))))))))) ?_
            exact shb (by rw [hcr, n1, d1, dk, di, d4]; rfl)
      · have f1 := eq_false (show ¬ (k : Int) = (i : Int) + 1 by omega)
        have d1 : decide (k = i + 1) = false := by simp [b1]
        by_cases b2 : segs = c.length
        · have g1 := eq_true (show (segs : Int) = (c.length : Int) by omega)
          by_cases b3 : i = 0
          · have g2 := eq_true (show (i : Int) = 0 by omega)
            have n1 : nextP c.length segs i k = false := by unfold nextP; rw [d1, d4]; simp
            refine WF (And.intro hn0 (And.intro e1 (And.intro e2 (And.intro x3 (And.intro x1 (And.intro pe1 (And.intro pe2 (And.intro f1 (And.intro f4 (And.intro g1 g2)))))))))) ?_
            exact shb (by rw [hcr, n1]; rfl)
          · have g2 := eq_false (show ¬ (i : Int) = 0 by omega)
            have n1 : nextP c.length segs i k = false := by unfold nextP; rw [d1]; simp [b3]
            refine WF (And.intro hn0 (And.intro e1 (And.intro e2 (And.intro x3 (And.intro x1 (And.intro pe1 (And.intro pe2 (And.intro f1 (And.intro f4 (And.intro g1 g2)))))))))) ?_
            exact shb (by rw [hcr, n1]; rfl)
        · have g1 := eq_false (show ¬ (segs : Int) = (c.length : Int) by omega)
          have n1 : nextP c.length segs i k = false := by unfold nextP; rw [d1]; simp [b2]
          refine WF (And.intro hn0 (And.intro e1 (And.intro e2 (And.intro x3 (And.intro x1 (And.intro pe1 (And.intro pe2 (And.intro f1 (And.intro f4 g1))))))))) ?_
          exact shb (by rw [hcr, n1]; rfl)
  · obtain ⟨u, v, he⟩ : ∃ u v, eO o = .agg [.str u, .str v] := by cases o <;> exact ⟨_, _, rfl⟩
    rw [he, show ((2 : Nat) : Int) = 2 from rfl] at hm
    refine WF (And.intro @ePs.eq_1 (And.intro @List.length_map.{0,0} (And.intro e1 (And.intro e2 (And.intro x1 (And.intro x2 (And.intro x3 (And.intro x4 hn0)))))))) ?_
    refine CL_pure hm rfl ?_
    refine WF (And.intro hn0 (And.intro e1 e2)) ?_
    repeat' first | exact shb (by simp [crossR]) | refine iteI (fun _ => ?_) (fun _ => ?_)

/-- polyline.simple -/
def simpleB (c : List Pt) (segs : Nat) : Prop := ∀ i k, i < k → k < segs → crossedP c segs i k = false
open Classical in
theorem s80 (m : Int) (c : List Pt) (segs : Nat) (h9 : all9 c) (hn : c.length < 1000000) (hs : segs ≤ c.length) :
    SpecP (cx m) 80 [ePs c, .int .i64 segs] (.int .i64 (if simpleB c segs then 0 else 26)) := by
  refine specP_of (mixed m) (k80 m) (Nat.le_of_ble_eq_true rfl) (X_start ?_)
  unfold c80
  refine WW ?_
  refine X_for (fun i : Nat => ⟨[(0, ePs c), (1, .int .i64 segs), (7, .int .i64 segs), (8, .int .i64 i)], []⟩) (fun i => i ≤ segs ∧ ∀ i' k, i' < i → i' < k → k < segs → crossedP c segs i' k = false) (fun i => segs - i) 0 ⟨Nat.zero_le _, fun i' k h => absurd h (Nat.not_lt_zero _)⟩ ?_ ?_
  · exact weak_keep (by simp [lookup])
  intro i R ⟨i1, i2⟩ hR
  try dsimp only at hR ⊢
  rcases Nat.lt_or_ge i segs with hi | hi
  · refine WF hi ?_
    refine X_for (fun k : Nat => ⟨[(0, ePs c), (1, .int .i64 segs), (7, .int .i64 segs), (8, .int .i64 i), (5, .int .i64 i), (6, .int .i64 k)], []⟩) (fun k => i < k ∧ k ≤ segs ∧ ∀ k', i < k' → k' < k → crossedP c segs i k' = false) (fun k => segs - k) (i + 1) ⟨by omega, by omega, fun k' h1 h2 => by omega⟩ ?_ ?_
    · exact weak_keep (by simp [lookup])
    intro k R' ⟨k1, k2, k3⟩ hR'
    try dsimp only at hR' ⊢
    rcases Nat.lt_or_ge k segs with hk | hk
    · refine WF hk ?_
      refine CL_pure (s132 m c segs i k h9 hn (by omega) (by omega)) rfl ?_
      cases hc : crossedP c segs i k with
      | true =>
        refine WF hc ?_
        refine shi ?_
        rw [if_neg]
        intro hS
        have := hS i k k1 hk
        rw [hc] at this; cases this
      | false =>
        refine WF hc ?_
        refine hR' (k + 1) _ ⟨by omega, by omega, fun k' h1 h2 => ?_⟩ (by omega) (weak_keep (by simp [lookup]))
        by_cases e : k' = k
        · rw [e]; exact hc
        · exact k3 k' h1 (by omega)
    · have hk' : ¬ k < segs := by omega
      refine WF hk' ?_
      refine hR (i + 1) _ ⟨by omega, fun i' k' h1 h2 h3 => ?_⟩ (by omega) (weak_keep (by simp [lookup]))
      by_cases e : i' = i
      · rw [e]; exact k3 k' (by omega) (by omega)
      · exact i2 i' k' (by omega) h2 h3
  · have hi' : ¬ i < segs := by omega
    refine WF hi' ?_
    refine shi ?_
    rw [if_pos]
    intro i' k h1 h2
    exact i2 i' k (by omega) h1 h2
end Go.Proofs.YtkjnjdcbnelceaaGreatDoor.KA
end

section
/- Contracts: chains are checked, whole. -/
open Go Go.Proofs
set_option linter.unusedSimpArgs false
set_option linter.unusedVariables false
set_option maxHeartbeats 1000000
set_option maxRecDepth 20000
namespace Go.Proofs.YtkjnjdcbnelceaaGreatDoor.KA
open Num Geo

/-- Two neighbours are the same. -/
def twin (c : List Pt) : Prop := ∃ i, i + 1 < c.length ∧ at' c i = at' c (i + 1)
open Classical in
noncomputable def checkP (c : List Pt) : Int := if twin c then 17 else if simpleB c (c.length - 1) then 0 else 26
theorem s42 (m : Int) (c : List Pt) (h9 : all9 c) (h2 : 2 ≤ c.length) (h400 : c.length ≤ 400) : SpecP (cx m) 42 [ePs c] (.int .i64 (checkP c)) := by
  refine specP_of (mixed m) (k42 m) (Nat.le_of_ble_eq_true rfl) (X_start ?_)
  unfold c42
  have a1 : ¬ (c.length : Int) < 2 := by omega
  have a2 : ¬ (400 : Int) < (c.length : Int) := by omega
  refine WF (And.intro @ePs.eq_1 (And.intro @List.length_map.{0,0} (And.intro a1 a2))) ?_
  refine X_for (fun i : Nat => ⟨[(0, ePs c), (13, ePs c), (14, .int .i64 c.length), (15, .int .i64 i)], []⟩) (fun i => i ≤ c.length ∧ ∀ j, j + 1 < i → at' c j ≠ at' c (j + 1)) (fun i => c.length - i) 0 ⟨Nat.zero_le _, fun j h => absurd h (Nat.not_lt_zero _)⟩ ?_ ?_
  · exact weak_keep (by simp [lookup, ePs])
  intro i R ⟨i1, i2⟩ hR
  try dsimp only at hR ⊢
  rcases Nat.lt_or_ge i c.length with hi | hi
  · have x1 := get_pt hi
    have cp := s49 m (at' c i) (h9.get hi).q.1 (h9.get hi).q.2
    unfold eP at cp
    refine WF (And.intro @ePs.eq_1 (And.intro @List.length_map.{0,0} (And.intro hi x1))) ?_
    refine CL_pure cp rfl ?_
    rcases i with _ | i
    · refine WF (And.intro @Int.lt_irrefl ((show (((0 : Nat) : Int)) = 0 from rfl))) ?_
      refine hR 1 _ ⟨by omega, fun j h => by omega⟩ (by omega) (weak_none (by simp [lookup, ePs, AV.plain]))
    · have x2 := get_pt (show i < c.length by omega)
      have p1 : (0 : Int) < ((i + 1 : Nat) : Int) := by omega
      have p2 : (((i + 1 : Nat) : Int) - 1) = (i : Int) := by omega
      by_cases e : at' c i = at' c (i + 1)
      · have pe := pt_eq' (at' c i) (at' c (i + 1))
        rw [decide_eq_true e] at pe
        refine WF (And.intro p1 (And.intro p2 (And.intro x2 pe))) ?_
        refine shi ?_
        unfold checkP
        rw [if_pos ⟨i, hi, e⟩]
      · have pe := pt_eq' (at' c i) (at' c (i + 1))
        rw [decide_eq_false e] at pe
        refine WF (And.intro p1 (And.intro p2 (And.intro x2 pe))) ?_
        refine hR (i + 2) _ ⟨by omega, fun j h => ?_⟩ (by omega) (weak_none (by simp [lookup, ePs, AV.plain]; omega))
        by_cases ej : j = i
        · rw [ej]; exact e
        · exact i2 j (by omega)
  · have hi' : ¬ i < c.length := by omega
    have q1 : ((c.length : Int) - 1) = ((c.length - 1 : Nat) : Int) := by omega
    have sp := s80 m c (c.length - 1) h9 (by omega) (by omega)
    unfold ePs at sp
    refine WF (And.intro @ePs.eq_1 (And.intro @List.length_map.{0,0} (And.intro hi' q1))) ?_
    refine CL_pure sp rfl ?_
    refine WW ?_
    refine shi ?_
    have nt : ¬ twin c := by
      rintro ⟨j, j1, j2⟩
      exact i2 j (by omega) j2
    unfold checkP
    rw [if_neg nt]

open Classical in
/-- klippelaw11.check, of a chain -/
noncomputable def checkL (c : List Pt) : Int := if c.length < 2 then 5 else if twin c then 17 else if simpleL c then 0 else 26
theorem mL_how (a b c d : Pt) : (meetL a b c d).1 = 0 ∨ (meetL a b c d).1 = 1 ∨ (meetL a b c d).1 = 2 := by
  unfold meetL
  split
  · simp; omega
  · split <;> simp
theorem s13 (m : Int) (c : List Pt) (h9 : all9 c) (h400 : c.length ≤ 400) : SpecP (cx m) 13 [ePs c, .bool false] (.int .i64 (checkL c)) := by
  refine specP_of (mixed m) (k13 m) (Nat.le_of_ble_eq_true rfl) (X_start ?_)
  unfold c13
  have a2 : ¬ (400 : Int) < (c.length : Int) := by omega
  by_cases a0 : c.length < 2
  · have a1 : (c.length : Int) < 2 := by omega
    refine WF (And.intro @ePs.eq_1 (And.intro @List.length_map.{0,0} (And.intro a1 a2))) ?_
    exact shi (by unfold checkL; rw [if_pos a0])
  have a1 : ¬ (c.length : Int) < 2 := by omega
  refine WF (And.intro @ePs.eq_1 (And.intro @List.length_map.{0,0} (And.intro a1 a2))) ?_
  refine X_for (fun i : Nat => ⟨[(0, ePs c), (1, .bool false), (6, .int .i64 i)], []⟩) (fun i => i ≤ c.length ∧ ∀ j, j + 1 < i → at' c j ≠ at' c (j + 1)) (fun i => c.length - i) 0 ⟨Nat.zero_le _, fun j h => absurd h (Nat.not_lt_zero _)⟩ ?_ ?_
  · exact weak_keep (by simp [lookup, ePs])
  intro i R ⟨i1, i2⟩ hR
  try dsimp only at hR ⊢
  rcases Nat.lt_or_ge i c.length with hi | hi
  · have x1 := get_pt hi
    have cp := s24 m (at' c i) (h9.get hi)
    unfold eP at cp
    refine WF (And.intro @ePs.eq_1 (And.intro @List.length_map.{0,0} (And.intro hi x1))) ?_
    refine CL_pure cp rfl ?_
    rcases i with _ | i
    · refine WF (And.intro @Int.lt_irrefl ((show (((0 : Nat) : Int)) = 0 from rfl))) ?_
      refine hR 1 _ ⟨by omega, fun j h => by omega⟩ (by omega) (weak_keep (by simp [lookup, ePs]))
    · have x2 := get_pt (show i < c.length by omega)
      have p1 : (0 : Int) < ((i + 1 : Nat) : Int) := by omega
      have p2 : (((i + 1 : Nat) : Int) - 1) = (i : Int) := by omega
      have p3 := eq_false (show ¬ ((i + 1 : Nat) : Int) = 0 by omega)
      by_cases e : at' c i = at' c (i + 1)
      · have pe := pt_eq' (at' c (i + 1)) (at' c i)
        rw [decide_eq_true e.symm] at pe
        refine WF (And.intro p1 (And.intro p2 (And.intro p3 (And.intro x1 (And.intro x2 pe))))) ?_
        refine shi ?_
        unfold checkL
        rw [if_neg a0, if_pos ⟨i, hi, e⟩]
      · have pe := pt_eq' (at' c (i + 1)) (at' c i)
        rw [decide_eq_false (show ¬ at' c (i + 1) = at' c i from fun h => e h.symm)] at pe
        refine WF (And.intro p1 (And.intro p2 (And.intro p3 (And.intro x1 (And.intro x2 pe))))) ?_
        refine hR (i + 2) _ ⟨by omega, fun j h => ?_⟩ (by omega) (weak_keep (by simp [lookup, ePs]; omega))
        by_cases ej : j = i
        · rw [ej]; exact e
        · exact i2 j (by omega)
  have hi' : ¬ i < c.length := by omega
  have nt : ¬ twin c := by
    rintro ⟨j, j1, j2⟩
    exact i2 j (by omega) j2
  have q1 : ((c.length : Int) - 1) = ((c.length - 1 : Nat) : Int) := by omega
  refine WF (And.intro @ePs.eq_1 (And.intro @List.length_map.{0,0} (And.intro hi' q1))) ?_
  refine X_for (fun i : Nat => ⟨[(0, ePs c), (1, .bool false), (7, .int .i64 (c.length - 1 : Nat)), (8, .int .i64 i)], []⟩) (fun i => i ≤ c.length - 1 ∧ ∀ i' k, i' < i → i' < k → k + 1 < c.length → ¬ badL c i' k) (fun i => c.length - 1 - i) 0 ⟨Nat.zero_le _, fun i' k h => absurd h (Nat.not_lt_zero _)⟩ ?_ ?_
  · exact weak_keep (by simp [lookup, ePs])
  intro i R' ⟨i1', i2'⟩ hR'
  try dsimp only at hR' ⊢
  rcases Nat.lt_or_ge i (c.length - 1) with hi2 | hi2
  · refine WF hi2 ?_
    refine X_for (fun k : Nat => ⟨[(0, ePs c), (1, .bool false), (7, .int .i64 (c.length - 1 : Nat)), (8, .int .i64 i), (9, .int .i64 k)], []⟩) (fun k => i < k ∧ k ≤ c.length - 1 ∧ ∀ k', i < k' → k' < k → ¬ badL c i k') (fun k => c.length - 1 - k) (i + 1) ⟨by omega, by omega, fun k' h1 h2 => by omega⟩ ?_ ?_
    · exact weak_keep (by simp [lookup])
    intro k R'' ⟨k1, k2, k3⟩ hR''
    try dsimp only at hR'' ⊢
    rcases Nat.lt_or_ge k (c.length - 1) with hk | hk
    · have x1 := get_pt (show i < c.length by omega)
      have x2 := get_pt (show i + 1 < c.length by omega)
      have x3 := get_pt (show k < c.length by omega)
      have x4 := get_pt (show k + 1 < c.length by omega)
      have e1 : ((i : Int) + 1) = ((i + 1 : Nat) : Int) := by omega
      have e2 : ((k : Int) + 1) = ((k + 1 : Nat) : Int) := by omega
      have e3 : (((k + 1 : Nat) : Int)).tmod (c.length : Int) = ((k + 1 : Nat) : Int) := by rw [← Int.ofNat_tmod, Nat.mod_eq_of_lt (by omega)]
      have hn0 : ¬ ((c.length : Int) = 0) := by omega
      have hm := s45' m _ _ _ _ (h9.get (show i < c.length by omega)) (h9.get (show i + 1 < c.length by omega)) (h9.get (show k < c.length by omega)) (h9.get (show k + 1 < c.length by omega))
      have hw := mL_how (at' c i) (at' c (i + 1)) (at' c k) (at' c (k + 1))
      have hb : badL c i k ↔ (meetL (at' c i) (at' c (i + 1)) (at' c k) (at' c (k + 1))).1 > if k = i + 1 then 1 else 0 := Iff.rfl
      generalize meetL (at' c i) (at' c (i + 1)) (at' c k) (at' c (k + 1)) = r at *
      obtain ⟨h, o⟩ := r
      obtain ⟨u, v, he⟩ : ∃ u v, eO o = .agg [.str u, .str v] := by cases o <;> exact ⟨_, _, rfl⟩
      unfold eR eP at hm
      dsimp only at hm hw hb
      rw [he] at hm
      refine WF (And.intro @ePs.eq_1 (And.intro @List.length_map.{0,0} (And.intro hk (And.intro e1 (And.intro x1 (And.intro x2 (And.intro x3 (And.intro e2 (And.intro e3 (And.intro x4 hn0)))))))))) ?_
      refine CL_pure hm rfl ?_
      by_cases b1 : k = i + 1
      · have f1 := eq_true (show ((k : Int) = ((i + 1 : Nat) : Int)) by omega)
        rw [if_pos b1] at hb
        refine WF (And.intro e1 (And.intro e2 f1)) ?_
        refine iteI (fun h5 => ?_) (fun h5 => ?_)
        · refine shi ?_
          unfold checkL
          rw [if_neg a0, if_neg nt, if_neg]
          intro hS
          exact hS i k k1 (by omega) (hb.2 (by omega))
        · refine hR'' (k + 1) _ ⟨by omega, by omega, fun k' h1 h2 => ?_⟩ (by omega) (weak_none (by simp [lookup, ePs, AV.plain]))
          by_cases e : k' = k
          · rw [e]; intro hc; have := hb.1 hc; omega
          · exact k3 k' h1 (by omega)
      · have f1 := eq_false (show ¬ ((k : Int) = ((i + 1 : Nat) : Int)) by omega)
        rw [if_neg b1] at hb
        refine WF (And.intro e1 (And.intro e2 f1)) ?_
        refine iteI (fun h5 => ?_) (fun h5 => ?_)
        · refine shi ?_
          unfold checkL
          rw [if_neg a0, if_neg nt, if_neg]
          intro hS
          exact hS i k k1 (by omega) (hb.2 (by omega))
        · refine hR'' (k + 1) _ ⟨by omega, by omega, fun k' h1 h2 => ?_⟩ (by omega) (weak_none (by simp [lookup, ePs, AV.plain]))
          by_cases e : k' = k
          · rw [e]; intro hc; have := hb.1 hc; omega
          · exact k3 k' h1 (by omega)
    · have hk' : ¬ k < c.length - 1 := by omega
      refine WF hk' ?_
      refine hR' (i + 1) _ ⟨by omega, fun i' k' h1 h2 h3 => ?_⟩ (by omega) (weak_keep (by simp [lookup]))
      by_cases e : i' = i
      · rw [e]; exact k3 k' (by omega) (by omega)
      · exact i2' i' k' (by omega) h2 h3
  · have hi2' : ¬ i < c.length - 1 := by omega
    refine WF hi2' ?_
    refine shi ?_
    unfold checkL
    rw [if_neg a0, if_neg nt, if_pos]
    intro i' k h1 h2
    exact i2' i' k (by omega) h1 h2
end Go.Proofs.YtkjnjdcbnelceaaGreatDoor.KA
end

section
/- The small code of functions, as own tools print it; that it is the program's is checked by the kernel. -/
open Go Go.Proofs
set_option linter.unusedVariables false
namespace Go.Proofs.YtkjnjdcbnelceaaGreatDoor.KA
def c15 : C := (C.ops [⟨I.mv 4 (O.k AV.nils), none, some 4⟩, ⟨I.mv 5 (O.k (AV.bool false)), none, some 5⟩]).seq ((C.ops [⟨I.mv 6 (O.k AV.nils), none, some 6⟩]).seq (((C.ops [⟨I.mv 7 (O.k (AV.int IntKind.i64 0)), none, some 7⟩]).seq (C.block 0 (((C.ops [⟨I.mv 11 (O.t 7), none, some 11⟩, ⟨I.bin 12 BinOp.add (O.t 11) (O.k (AV.int IntKind.i64 1)), none, some 12⟩, ⟨I.mv 13 (O.t 0), none, some 13⟩, ⟨I.len 14 (O.t 13), none, some 14⟩, ⟨I.bin 15 BinOp.lss (O.t 12) (O.t 14), none, some 15⟩]).seq (C.cond (O.t 15) C.skip (C.exit 0))).seq ((C.block 1 ((C.ops [⟨I.mv 8 (O.k (AV.int IntKind.i64 0)), none, some 8⟩]).seq (C.block 2 (((C.ops [⟨I.mv 18 (O.t 8), none, some 18⟩, ⟨I.bin 19 BinOp.add (O.t 18) (O.k (AV.int IntKind.i64 1)), none, some 19⟩, ⟨I.mv 20 (O.t 1), none, some 20⟩, ⟨I.len 21 (O.t 20), none, some 21⟩, ⟨I.bin 22 BinOp.lss (O.t 19) (O.t 21), none, some 22⟩]).seq (C.cond (O.t 22) C.skip (C.exit 2))).seq ((C.block 3 ((C.ops [⟨I.mv 26 (O.t 0), none, some 26⟩, ⟨I.mv 27 (O.t 7), none, some 27⟩, ⟨I.idxa 28 2 none (O.t 26) (O.t 27), none, some 28⟩, ⟨I.loadf 29 true 2 (O.t 28), none, some 29⟩, ⟨I.mv 30 (O.t 0), none, some 30⟩, ⟨I.mv 31 (O.t 7), none, some 31⟩, ⟨I.bin 32 BinOp.add (O.t 31) (O.k (AV.int IntKind.i64 1)), none, some 32⟩, ⟨I.idxa 33 2 none (O.t 30) (O.t 32), none, some 33⟩, ⟨I.loadf 34 true 2 (O.t 33), none, some 34⟩, ⟨I.mv 35 (O.t 1), none, some 35⟩, ⟨I.mv 36 (O.t 8), none, some 36⟩, ⟨I.idxa 37 2 none (O.t 35) (O.t 36), none, some 37⟩, ⟨I.loadf 38 true 2 (O.t 37), none, some 38⟩, ⟨I.mv 39 (O.t 1), none, some 39⟩, ⟨I.mv 40 (O.t 8), none, some 40⟩, ⟨I.bin 41 BinOp.add (O.t 40) (O.k (AV.int IntKind.i64 1)), none, some 41⟩, ⟨I.idxa 42 2 none (O.t 39) (O.t 41), none, some 42⟩, ⟨I.loadf 43 true 2 (O.t 42), none, some 43⟩, ⟨I.call (some 44) (O.k (AV.fn 45 [])) [O.t 29, O.t 34, O.t 38, O.t 43] false, none, some 44⟩, ⟨I.mv 25 (O.t 44), none, some 25⟩, ⟨I.ext 45 (O.t 25) 0, none, some 45⟩, ⟨I.ext 46 (O.t 25) 1, none, some 46⟩, ⟨I.alloc 10 [AV.str [], AV.str []] true, none, some 10⟩, ⟨I.mv 9 (O.t 45), none, some 9⟩, ⟨I.store 2 (O.t 10) (O.t 46), none, none⟩]).seq (((C.ops [⟨I.mv 47 (O.t 9), none, some 47⟩, ⟨I.bin 48 BinOp.gtr (O.t 47) (O.k (AV.int IntKind.i64 1)), none, some 48⟩]).seq (C.cond (O.t 48) ((C.ops [⟨I.mv 4 (O.k AV.nils), none, some 4⟩, ⟨I.mv 5 (O.k (AV.bool true)), none, some 5⟩]).seq C.ret) C.skip)).seq ((C.ops [⟨I.mv 49 (O.t 9), none, some 49⟩, ⟨I.bin 50 BinOp.eql (O.t 49) (O.k (AV.int IntKind.i64 1)), none, some 50⟩]).seq (C.cond (O.t 50) (C.ops [⟨I.mv 51 (O.t 6), none, some 51⟩, ⟨I.mv 52 (O.t 7), none, some 52⟩, ⟨I.mv 53 (O.t 8), none, some 53⟩, ⟨I.load 54 true 2 (O.t 10), none, some 54⟩, ⟨I.build 55 [AV.int IntKind.i64 0, AV.int IntKind.i64 0, AV.str [], AV.str []] [(0, 1, O.t 52), (1, 1, O.t 53), (2, 2, O.t 54)], none, some 55⟩, ⟨I.bsl 56 4 [O.t 55] false, none, some 56⟩, ⟨I.append 57 4 48 (O.t 51) (O.t 56) true, none, some 57⟩, ⟨I.mv 6 (O.t 57), none, some 6⟩]) C.skip))))).seq (C.ops [⟨I.mv 23 (O.t 8), none, some 23⟩, ⟨I.bin 24 BinOp.add (O.t 23) (O.k (AV.int IntKind.i64 1)), none, some 24⟩, ⟨I.mv 8 (O.t 24), none, some 8⟩]))).loop))).seq (C.ops [⟨I.mv 16 (O.t 7), none, some 16⟩, ⟨I.bin 17 BinOp.add (O.t 16) (O.k (AV.int IntKind.i64 1)), none, some 17⟩, ⟨I.mv 7 (O.t 17), none, some 7⟩]))).loop)).seq ((C.ops [⟨I.mv 58 (O.t 6), none, some 58⟩, ⟨I.mv 4 (O.t 58), none, some 4⟩, ⟨I.mv 5 (O.k (AV.bool false)), none, some 5⟩]).seq C.ret)))
theorem k15 (m : Int) : compF (cx m).P (cx m).gt (fun t => t == 10 || t == 54 || t == 57) 15 = some (c15, [RV.tmp 4, RV.tmp 5], 59) := by kernel_rfl
def c14 : C := (C.ops [⟨I.mv 4 (O.k AV.nils), none, some 4⟩, ⟨I.mv 5 (O.k (AV.int IntKind.i64 0)), none, some 5⟩]).seq (((C.ops [⟨I.mv 14 (O.t 0), none, some 14⟩, ⟨I.mv 15 (O.t 1), none, some 15⟩, ⟨I.build 16 [AV.nils, AV.nils] [(0, 1, O.t 14), (1, 1, O.t 15)], none, some 16⟩, ⟨I.mv 17 (O.k (AV.int IntKind.i64 0)), none, some 17⟩]).seq (C.block 0 ((C.ops [⟨I.bin 18 BinOp.lss (O.t 17) (O.k (AV.int IntKind.i64 2)), none, some 18⟩]).seq ((C.cond (O.t 18) C.skip (C.exit 0)).seq ((C.block 1 ((C.ops [⟨I.idxv 19 false 1 2 (O.t 16) (O.t 17), none, some 19⟩, ⟨I.mv 7 (O.t 19), none, some 7⟩]).seq ((C.ops [⟨I.mv 20 (O.t 7), none, some 20⟩, ⟨I.call (some 21) (O.k (AV.fn 42 [])) [O.t 20] false, none, some 21⟩, ⟨I.mv 8 (O.t 21), none, some 8⟩]).seq ((C.ops [⟨I.mv 22 (O.t 8), none, some 22⟩, ⟨I.bin 23 BinOp.neq (O.t 22) (O.k (AV.int IntKind.i64 0)), none, some 23⟩]).seq (C.cond (O.t 23) ((C.ops [⟨I.mv 24 (O.t 8), none, some 24⟩, ⟨I.mv 4 (O.k AV.nils), none, some 4⟩, ⟨I.mv 5 (O.t 24), none, some 5⟩]).seq C.ret) C.skip))))).seq (C.ops [⟨I.bin 25 BinOp.add (O.t 17) (O.k (AV.int IntKind.i64 1)), none, some 25⟩, ⟨I.mv 17 (O.t 25), none, some 17⟩])))).loop)).seq ((C.ops [⟨I.mv 9 (O.k AV.nils), none, some 9⟩]).seq (((C.ops [⟨I.mv 26 (O.t 0), none, some 26⟩, ⟨I.len 27 (O.t 26), none, some 27⟩, ⟨I.bin 28 BinOp.sub (O.t 27) (O.k (AV.int IntKind.i64 1)), none, some 28⟩, ⟨I.mv 29 (O.k (AV.int IntKind.i64 0)), none, some 29⟩]).seq (C.block 2 ((C.ops [⟨I.bin 30 BinOp.lss (O.t 29) (O.t 28), none, some 30⟩]).seq ((C.cond (O.t 30) C.skip (C.exit 2)).seq ((C.block 3 ((C.ops [⟨I.mv 31 (O.t 29), none, some 31⟩, ⟨I.mv 10 (O.t 31), none, some 10⟩]).seq ((C.ops [⟨I.mv 32 (O.t 1), none, some 32⟩, ⟨I.len 33 (O.t 32), none, some 33⟩, ⟨I.bin 34 BinOp.sub (O.t 33) (O.k (AV.int IntKind.i64 1)), none, some 34⟩, ⟨I.mv 35 (O.k (AV.int IntKind.i64 0)), none, some 35⟩]).seq (C.block 4 ((C.ops [⟨I.bin 36 BinOp.lss (O.t 35) (O.t 34), none, some 36⟩]).seq ((C.cond (O.t 36) C.skip (C.exit 4)).seq ((C.block 5 ((C.ops [⟨I.mv 37 (O.t 35), none, some 37⟩, ⟨I.mv 11 (O.t 37), none, some 11⟩]).seq ((C.ops [⟨I.mv 39 (O.t 0), none, some 39⟩, ⟨I.mv 40 (O.t 10), none, some 40⟩, ⟨I.idxa 41 2 none (O.t 39) (O.t 40), none, some 41⟩, ⟨I.loadf 42 true 2 (O.t 41), none, some 42⟩, ⟨I.mv 43 (O.t 0), none, some 43⟩, ⟨I.mv 44 (O.t 10), none, some 44⟩, ⟨I.bin 45 BinOp.add (O.t 44) (O.k (AV.int IntKind.i64 1)), none, some 45⟩, ⟨I.idxa 46 2 none (O.t 43) (O.t 45), none, some 46⟩, ⟨I.loadf 47 true 2 (O.t 46), none, some 47⟩, ⟨I.mv 48 (O.t 1), none, some 48⟩, ⟨I.mv 49 (O.t 11), none, some 49⟩, ⟨I.idxa 50 2 none (O.t 48) (O.t 49), none, some 50⟩, ⟨I.loadf 51 true 2 (O.t 50), none, some 51⟩, ⟨I.mv 52 (O.t 1), none, some 52⟩, ⟨I.mv 53 (O.t 11), none, some 53⟩, ⟨I.bin 54 BinOp.add (O.t 53) (O.k (AV.int IntKind.i64 1)), none, some 54⟩, ⟨I.idxa 55 2 none (O.t 52) (O.t 54), none, some 55⟩, ⟨I.loadf 56 true 2 (O.t 55), none, some 56⟩, ⟨I.call (some 57) (O.k (AV.fn 46 [])) [O.t 42, O.t 47, O.t 51, O.t 56] false, none, some 57⟩, ⟨I.mv 38 (O.t 57), none, some 38⟩, ⟨I.ext 58 (O.t 38) 0, none, some 58⟩, ⟨I.ext 59 (O.t 38) 1, none, some 59⟩, ⟨I.alloc 13 [AV.str [], AV.str []] true, none, some 13⟩, ⟨I.mv 12 (O.t 58), none, some 12⟩, ⟨I.store 2 (O.t 13) (O.t 59), none, none⟩]).seq ((C.ops [⟨I.mv 60 (O.t 12), none, some 60⟩]).seq (C.block 6 ((C.ops [⟨I.bin 62 BinOp.eql (O.t 60) (O.k (AV.int IntKind.i64 2)), none, some 62⟩, ⟨I.mv 61 (O.t 62), none, some 61⟩]).seq (C.cond (O.t 61) ((C.ops [⟨I.mv 4 (O.k AV.nils), none, some 4⟩, ⟨I.mv 5 (O.k (AV.int IntKind.i64 7)), none, some 5⟩]).seq C.ret) ((C.ops [⟨I.bin 64 BinOp.eql (O.t 60) (O.k (AV.int IntKind.i64 1)), none, some 64⟩, ⟨I.mv 63 (O.t 64), none, some 63⟩]).seq (C.cond (O.t 63) (C.ops [⟨I.mv 65 (O.t 9), none, some 65⟩, ⟨I.mv 66 (O.t 10), none, some 66⟩, ⟨I.mv 67 (O.t 11), none, some 67⟩, ⟨I.load 68 true 2 (O.t 13), none, some 68⟩, ⟨I.build 69 [AV.int IntKind.i64 0, AV.int IntKind.i64 0, AV.str [], AV.str []] [(0, 1, O.t 66), (1, 1, O.t 67), (2, 2, O.t 68)], none, some 69⟩, ⟨I.bsl 70 4 [O.t 69] false, none, some 70⟩, ⟨I.append 71 4 48 (O.t 65) (O.t 70) true, none, some 71⟩, ⟨I.mv 9 (O.t 71), none, some 9⟩]) C.skip))))))))).seq (C.ops [⟨I.bin 72 BinOp.add (O.t 35) (O.k (AV.int IntKind.i64 1)), none, some 72⟩, ⟨I.mv 35 (O.t 72), none, some 35⟩])))).loop)))).seq (C.ops [⟨I.bin 73 BinOp.add (O.t 29) (O.k (AV.int IntKind.i64 1)), none, some 73⟩, ⟨I.mv 29 (O.t 73), none, some 29⟩])))).loop)).seq (((C.ops [⟨I.mv 74 (O.t 9), none, some 74⟩, ⟨I.call (some 75) (O.k (AV.fn 47 [])) [O.t 74, O.k (AV.fn 48 [])] false, none, some 75⟩]).seq (C.cond (O.t 75) ((C.ops [⟨I.mv 4 (O.k AV.nils), none, some 4⟩, ⟨I.mv 5 (O.k (AV.int IntKind.i64 4)), none, some 5⟩]).seq C.ret) C.skip)).seq ((C.ops [⟨I.mv 76 (O.t 9), none, some 76⟩, ⟨I.mv 4 (O.t 76), none, some 4⟩, ⟨I.mv 5 (O.k (AV.int IntKind.i64 0)), none, some 5⟩]).seq C.ret)))))
theorem k14 (m : Int) : compF (cx m).P (cx m).gt (fun t => t == 13 || t == 68 || t == 71) 14 = some (c14, [RV.tmp 4, RV.tmp 5], 77) := by kernel_rfl
def c48 : C := (C.ops [⟨I.box 1 (O.t 0) false, none, some 1⟩, ⟨I.mv 2 (O.k (AV.bool false)), none, some 2⟩]).seq ((C.ops [⟨I.fld 3 2 (O.t 1), none, some 3⟩, ⟨I.loadf 4 true 2 (O.t 3), none, some 4⟩, ⟨I.call (some 5) (O.k (AV.fn 49 [])) [O.t 4] false, none, some 5⟩, ⟨I.bin 6 BinOp.neq (O.t 5) (O.k (AV.int IntKind.i64 0)), none, some 6⟩, ⟨I.mv 2 (O.t 6), none, some 2⟩]).seq C.ret)
theorem k48 (m : Int) : compF (cx m).P (cx m).gt (fun _ => false) 48 = some (c48, [RV.tmp 2], 7) := by kernel_rfl
def c98 : C := (C.ops [⟨I.mv 4 (O.k (AV.int IntKind.i64 0)), none, some 4⟩]).seq (((C.ops [⟨I.mv 6 (O.t 0), none, some 6⟩, ⟨I.len 7 (O.t 6), none, some 7⟩, ⟨I.mv 8 (O.k (AV.int IntKind.i64 0)), none, some 8⟩]).seq (C.block 0 ((C.ops [⟨I.bin 9 BinOp.lss (O.t 8) (O.t 7), none, some 9⟩]).seq ((C.cond (O.t 9) C.skip (C.exit 0)).seq ((C.block 1 ((C.ops [⟨I.mv 10 (O.t 8), none, some 10⟩, ⟨I.mv 5 (O.t 10), none, some 5⟩]).seq ((C.ops [⟨I.mv 11 (O.t 1), none, some 11⟩, ⟨I.mv 12 (O.t 0), none, some 12⟩, ⟨I.mv 13 (O.t 5), none, some 13⟩, ⟨I.idxa 14 4 none (O.t 12) (O.t 13), none, some 14⟩, ⟨I.loadf 15 true 4 (O.t 14), none, some 15⟩, ⟨I.call (some 16) (O.t 11) [O.t 15] false, none, some 16⟩]).seq (C.cond (O.t 16) ((C.ops [⟨I.mv 17 (O.t 5), none, some 17⟩, ⟨I.mv 4 (O.t 17), none, some 4⟩]).seq C.ret) C.skip)))).seq (C.ops [⟨I.bin 18 BinOp.add (O.t 8) (O.k (AV.int IntKind.i64 1)), none, some 18⟩, ⟨I.mv 8 (O.t 18), none, some 8⟩])))).loop)).seq ((C.ops [⟨I.mv 4 (O.k (AV.int IntKind.i64 (-1))), none, some 4⟩]).seq C.ret))
theorem k98 (m : Int) : compF (cx m).P (cx m).gt (fun _ => false) 98 = some (c98, [RV.tmp 4], 19) := by kernel_rfl
def c47 : C := (C.ops [⟨I.mv 4 (O.k (AV.bool false)), none, some 4⟩]).seq ((C.ops [⟨I.mv 5 (O.t 0), none, some 5⟩, ⟨I.mv 6 (O.t 1), none, some 6⟩, ⟨I.call (some 7) (O.k (AV.fn 98 [])) [O.t 5, O.t 6] false, none, some 7⟩, ⟨I.bin 8 BinOp.geq (O.t 7) (O.k (AV.int IntKind.i64 0)), none, some 8⟩, ⟨I.mv 4 (O.t 8), none, some 4⟩]).seq C.ret)
theorem k47 (m : Int) : compF (cx m).P (cx m).gt (fun _ => false) 47 = some (c47, [RV.tmp 4], 9) := by kernel_rfl
def c12 : C := (C.ops [⟨I.mv 4 (O.k AV.nils), none, some 4⟩]).seq ((C.ops [⟨I.mv 5 (O.k AV.nils), none, some 5⟩]).seq ((C.ops [⟨I.mv 6 (O.k (AV.int IntKind.i64 1)), none, some 6⟩]).seq (((C.ops [⟨I.mv 12 (O.t 1), none, some 12⟩]).seq (C.cond (O.t 12) (C.ops [⟨I.mv 6 (O.k (AV.int IntKind.i64 2)), none, some 6⟩]) C.skip)).seq (((C.ops [⟨I.mv 7 (O.k (AV.int IntKind.i64 0)), none, some 7⟩]).seq (C.block 0 (((C.ops [⟨I.mv 13 (O.t 7), none, some 13⟩, ⟨I.mv 14 (O.t 0), none, some 14⟩, ⟨I.len 15 (O.t 14), none, some 15⟩, ⟨I.bin 16 BinOp.lss (O.t 13) (O.t 15), none, some 16⟩, ⟨I.mv 17 (O.t 16), none, some 17⟩, ⟨I.mv 18 (O.t 7), some (17, true), some 18⟩, ⟨I.bin 19 BinOp.lss (O.t 18) (O.k (AV.int IntKind.i64 8)), some (17, true), some 19⟩, ⟨I.pick 20 (O.t 17) (O.t 19) (O.k (AV.bool false)), none, some 20⟩]).seq (C.cond (O.t 20) C.skip (C.exit 0))).seq ((C.block 1 ((C.ops [⟨I.mv 24 (O.t 0), none, some 24⟩, ⟨I.mv 25 (O.t 7), none, some 25⟩, ⟨I.idxa 26 2 none (O.t 24) (O.t 25), none, some 26⟩, ⟨I.idxa 27 1 (some 2) (O.t 26) (O.k (AV.int IntKind.i64 0)), none, some 27⟩, ⟨I.loadf 28 false 1 (O.t 27), none, some 28⟩, ⟨I.conv 29 IntKind.i64 (O.t 28), none, some 29⟩, ⟨I.bin 30 BinOp.rem (O.t 29) (O.k (AV.int IntKind.i64 10)), none, some 30⟩, ⟨I.mv 31 (O.t 6), none, some 31⟩, ⟨I.call (some 32) (O.k (AV.fn 44 [])) [O.t 30, O.t 31] false, none, some 32⟩, ⟨I.mv 23 (O.t 32), none, some 23⟩, ⟨I.ext 33 (O.t 23) 0, none, some 33⟩, ⟨I.ext 34 (O.t 23) 1, none, some 34⟩, ⟨I.mv 8 (O.t 33), none, some 8⟩, ⟨I.mv 9 (O.t 34), none, some 9⟩]).seq ((C.ops [⟨I.mv 36 (O.t 0), none, some 36⟩, ⟨I.mv 37 (O.t 7), none, some 37⟩, ⟨I.idxa 38 2 none (O.t 36) (O.t 37), none, some 38⟩, ⟨I.idxa 39 1 (some 2) (O.t 38) (O.k (AV.int IntKind.i64 1)), none, some 39⟩, ⟨I.loadf 40 false 1 (O.t 39), none, some 40⟩, ⟨I.conv 41 IntKind.i64 (O.t 40), none, some 41⟩, ⟨I.bin 42 BinOp.rem (O.t 41) (O.k (AV.int IntKind.i64 10)), none, some 42⟩, ⟨I.mv 43 (O.t 6), none, some 43⟩, ⟨I.call (some 44) (O.k (AV.fn 44 [])) [O.t 42, O.t 43] false, none, some 44⟩, ⟨I.mv 35 (O.t 44), none, some 35⟩, ⟨I.ext 45 (O.t 35) 0, none, some 45⟩, ⟨I.ext 46 (O.t 35) 1, none, some 46⟩, ⟨I.mv 10 (O.t 45), none, some 10⟩, ⟨I.mv 11 (O.t 46), none, some 11⟩]).seq (C.ops [⟨I.mv 47 (O.t 5), none, some 47⟩, ⟨I.mv 48 (O.t 8), none, some 48⟩, ⟨I.mv 49 (O.t 10), none, some 49⟩, ⟨I.build 50 [AV.str [], AV.str []] [(0, 1, O.t 48), (1, 1, O.t 49)], none, some 50⟩, ⟨I.bsl 51 2 [O.t 50] false, none, some 51⟩, ⟨I.append 52 2 32 (O.t 47) (O.t 51) true, none, some 52⟩, ⟨I.mv 5 (O.t 52), none, some 5⟩])))).seq (C.ops [⟨I.mv 21 (O.t 7), none, some 21⟩, ⟨I.bin 22 BinOp.add (O.t 21) (O.k (AV.int IntKind.i64 1)), none, some 22⟩, ⟨I.mv 7 (O.t 22), none, some 7⟩]))).loop)).seq ((C.ops [⟨I.mv 53 (O.t 5), none, some 53⟩, ⟨I.mv 4 (O.t 53), none, some 4⟩]).seq C.ret)))))
theorem k12 (m : Int) : compF (cx m).P (cx m).gt (fun t => t == 52) 12 = some (c12, [RV.tmp 4], 54) := by kernel_rfl
def c3 : C := (C.ops [⟨I.mv 4 (O.k (AV.bool false)), none, some 4⟩]).seq (((C.ops [⟨I.call (some 12) (O.k (AV.fn 11 [])) [] false, none, some 12⟩, ⟨I.not 13 (O.t 12), none, some 13⟩, ⟨I.mv 14 (O.t 13), none, some 14⟩, ⟨I.mv 15 (O.t 0), some (14, false), some 15⟩, ⟨I.len 16 (O.t 15), some (14, false), some 16⟩, ⟨I.bin 17 BinOp.gtr (O.t 16) (O.k (AV.int IntKind.i64 6)), some (14, false), some 17⟩, ⟨I.pick 18 (O.t 14) (O.k (AV.bool true)) (O.t 17), none, some 18⟩, ⟨I.mv 19 (O.t 18), none, some 19⟩, ⟨I.mv 20 (O.t 1), some (19, false), some 20⟩, ⟨I.len 21 (O.t 20), some (19, false), some 21⟩, ⟨I.bin 22 BinOp.gtr (O.t 21) (O.k (AV.int IntKind.i64 6)), some (19, false), some 22⟩, ⟨I.pick 23 (O.t 19) (O.k (AV.bool true)) (O.t 22), none, some 23⟩]).seq (C.cond (O.t 23) ((C.ops [⟨I.call (some 24) (O.k (AV.fn 11 [])) [] false, none, some 24⟩, ⟨I.mv 4 (O.t 24), none, some 4⟩]).seq C.ret) C.skip)).seq ((C.ops [⟨I.mv 25 (O.t 0), none, some 25⟩, ⟨I.call (some 26) (O.k (AV.fn 12 [])) [O.t 25, O.k (AV.bool false)] false, none, some 26⟩, ⟨I.mv 27 (O.t 1), none, some 27⟩, ⟨I.call (some 28) (O.k (AV.fn 12 [])) [O.t 27, O.k (AV.bool false)] false, none, some 28⟩, ⟨I.mv 5 (O.t 26), none, some 5⟩, ⟨I.mv 6 (O.t 28), none, some 6⟩]).seq (((C.ops [⟨I.mv 29 (O.t 5), none, some 29⟩, ⟨I.call (some 30) (O.k (AV.fn 13 [])) [O.t 29, O.k (AV.bool false)] false, none, some 30⟩, ⟨I.bin 31 BinOp.neq (O.t 30) (O.k (AV.int IntKind.i64 0)), none, some 31⟩, ⟨I.mv 32 (O.t 31), none, some 32⟩, ⟨I.mv 33 (O.t 6), some (32, false), some 33⟩, ⟨I.call (some 34) (O.k (AV.fn 13 [])) [O.t 33, O.k (AV.bool false)] false, some (32, false), some 34⟩, ⟨I.bin 35 BinOp.neq (O.t 34) (O.k (AV.int IntKind.i64 0)), some (32, false), some 35⟩, ⟨I.pick 36 (O.t 32) (O.k (AV.bool true)) (O.t 35), none, some 36⟩]).seq (C.cond (O.t 36) ((C.ops [⟨I.mv 4 (O.k (AV.bool true)), none, some 4⟩]).seq C.ret) C.skip)).seq ((C.ops [⟨I.mv 38 (O.t 5), none, some 38⟩, ⟨I.mv 39 (O.t 6), none, some 39⟩, ⟨I.call (some 40) (O.k (AV.fn 14 [])) [O.t 38, O.t 39] false, none, some 40⟩, ⟨I.mv 37 (O.t 40), none, some 37⟩, ⟨I.ext 41 (O.t 37) 0, none, some 41⟩, ⟨I.ext 42 (O.t 37) 1, none, some 42⟩, ⟨I.mv 7 (O.t 41), none, some 7⟩, ⟨I.mv 8 (O.t 42), none, some 8⟩]).seq ((C.ops [⟨I.mv 44 (O.t 5), none, some 44⟩, ⟨I.mv 45 (O.t 6), none, some 45⟩, ⟨I.call (some 46) (O.k (AV.fn 15 [])) [O.t 44, O.t 45] false, none, some 46⟩, ⟨I.mv 43 (O.t 46), none, some 43⟩, ⟨I.ext 47 (O.t 43) 0, none, some 47⟩, ⟨I.ext 48 (O.t 43) 1, none, some 48⟩, ⟨I.mv 9 (O.t 47), none, some 9⟩, ⟨I.mv 10 (O.t 48), none, some 10⟩]).seq (((C.ops [⟨I.mv 49 (O.t 10), none, some 49⟩]).seq (C.cond (O.t 49) ((C.ops [⟨I.mv 50 (O.t 7), none, some 50⟩, ⟨I.len 51 (O.t 50), none, some 51⟩, ⟨I.bin 52 BinOp.eql (O.t 51) (O.k (AV.int IntKind.i64 0)), none, some 52⟩, ⟨I.mv 53 (O.t 52), none, some 53⟩, ⟨I.mv 54 (O.t 8), some (53, true), some 54⟩, ⟨I.bin 55 BinOp.eql (O.t 54) (O.k (AV.int IntKind.i64 7)), some (53, true), some 55⟩, ⟨I.pick 56 (O.t 53) (O.t 55) (O.k (AV.bool false)), none, some 56⟩, ⟨I.mv 4 (O.t 56), none, some 4⟩]).seq C.ret) C.skip)).seq (((C.ops [⟨I.mv 57 (O.t 7), none, some 57⟩, ⟨I.len 58 (O.t 57), none, some 58⟩, ⟨I.mv 59 (O.t 9), none, some 59⟩, ⟨I.len 60 (O.t 59), none, some 60⟩, ⟨I.bin 61 BinOp.neq (O.t 58) (O.t 60), none, some 61⟩, ⟨I.mv 62 (O.t 61), none, some 62⟩, ⟨I.mv 63 (O.t 8), some (62, false), some 63⟩, ⟨I.bin 64 BinOp.neq (O.t 63) (O.k (AV.int IntKind.i64 0)), some (62, false), some 64⟩, ⟨I.pick 65 (O.t 62) (O.k (AV.bool true)) (O.t 64), none, some 65⟩]).seq (C.cond (O.t 65) ((C.ops [⟨I.mv 4 (O.k (AV.bool false)), none, some 4⟩]).seq C.ret) C.skip)).seq (((C.ops [⟨I.mv 11 (O.k (AV.int IntKind.i64 0)), none, some 11⟩]).seq (C.block 0 (((C.ops [⟨I.mv 66 (O.t 11), none, some 66⟩, ⟨I.mv 67 (O.t 7), none, some 67⟩, ⟨I.len 68 (O.t 67), none, some 68⟩, ⟨I.bin 69 BinOp.lss (O.t 66) (O.t 68), none, some 69⟩]).seq (C.cond (O.t 69) C.skip (C.exit 0))).seq ((C.block 1 ((C.ops [⟨I.mv 72 (O.t 7), none, some 72⟩, ⟨I.mv 73 (O.t 11), none, some 73⟩, ⟨I.idxa 74 4 none (O.t 72) (O.t 73), none, some 74⟩, ⟨I.loadf 75 true 4 (O.t 74), none, some 75⟩, ⟨I.mv 76 (O.t 9), none, some 76⟩, ⟨I.mv 77 (O.t 11), none, some 77⟩, ⟨I.idxa 78 4 none (O.t 76) (O.t 77), none, some 78⟩, ⟨I.loadf 79 true 4 (O.t 78), none, some 79⟩, ⟨I.eqs 80 true [Leaf.int IntKind.i64, Leaf.int IntKind.i64, Leaf.str, Leaf.str] (O.t 75) (O.t 79), none, some 80⟩]).seq (C.cond (O.t 80) ((C.ops [⟨I.mv 4 (O.k (AV.bool false)), none, some 4⟩]).seq C.ret) C.skip))).seq (C.ops [⟨I.mv 70 (O.t 11), none, some 70⟩, ⟨I.bin 71 BinOp.add (O.t 70) (O.k (AV.int IntKind.i64 1)), none, some 71⟩, ⟨I.mv 11 (O.t 71), none, some 11⟩]))).loop)).seq ((C.ops [⟨I.mv 4 (O.k (AV.bool true)), none, some 4⟩]).seq C.ret)))))))))
theorem k3 (m : Int) : compF (cx m).P (cx m).gt (fun _ => false) 3 = some (c3, [RV.tmp 4], 81) := by kernel_rfl
end Go.Proofs.YtkjnjdcbnelceaaGreatDoor.KA
end

section
/- Contracts: where two chains meet, the law's way. -/
open Go Go.Proofs
set_option linter.unusedSimpArgs false
set_option linter.unusedVariables false
set_option maxHeartbeats 1000000
set_option maxRecDepth 20000
namespace Go.Proofs.YtkjnjdcbnelceaaGreatDoor.KA
open Num Geo

abbrev Hit := Nat × Nat × Pt
def eX (x : Hit) : AV := .agg [.int .i64 x.1, .int .i64 x.2.1, .str (tq x.2.2.1), .str (tq x.2.2.2)]
def cells4 (l : List Hit) : List AV := l.flatMap fun x => [.int .i64 x.1, .int .i64 x.2.1, .str (tq x.2.2.1), .str (tq x.2.2.2)]
theorem cells4_append (l m : List Hit) : cells4 (l ++ m) = cells4 l ++ cells4 m := by unfold cells4; rw [List.flatMap_append]
theorem cells4_cons (x : Hit) (l : List Hit) : cells4 (x :: l) = .int .i64 x.1 :: .int .i64 x.2.1 :: .str (tq x.2.2.1) :: .str (tq x.2.2.2) :: cells4 l := rfl
theorem cells4_length (l : List Hit) : (cells4 l).length = l.length * 4 := by
  induction l with
  | nil => rfl
  | cons p l ih => rw [cells4_cons]; simp [ih]; omega
theorem cells4_plain (l : List Hit) : AV.plainL (cells4 l) = true := by
  induction l with
  | nil => rfl
  | cons p l ih => rw [cells4_cons]; simp [AV.plainL, AV.plain, ih]
theorem cells4_map (l : List Hit) : (l.map eX).flatMap AV.cells = cells4 l := by
  unfold cells4; rw [List.flatMap_map]; rfl
def outAV : List Hit → AV
  | [] => .nils
  | l => .own 4 0 0 l.length l.length
def outBlk : List Hit → AHeap
  | [] => []
  | l => [some (cells4 l)]
/-- The list, as it is handed on. -/
theorem out_shows (l : List Hit) : Shows (outBlk l) (outAV l) (.sl 4 (l.map eX)) := by
  cases l with
  | nil => exact .nil 4
  | cons x l =>
    refine .own 4 0 0 _ _ (cells4 (x :: l)) _ rfl (by rw [cells4_length]; omega) (by simp) (fun y hy => ?_) ?_
    · obtain ⟨z, _, rfl⟩ := List.mem_map.1 hy; rfl
    · rw [cells4_map, List.drop_zero, ← cells4_length, List.take_length]
      exact showsL_refl (cells4_plain _)

theorem meetL_some (a b c d : Pt) (h : (meetL a b c d).1 = 1) : ∃ p, (meetL a b c d).2 = some p := by
  unfold meetL at h ⊢
  split
  · exact ⟨_, rfl⟩
  · rename_i e
    rw [e] at h
    split
    · rename_i h2; simp only [if_pos h2] at h; cases h
    · exact ⟨_, rfl⟩
def overL (a b : List Pt) : Prop := ∃ i k, i + 1 < a.length ∧ k + 1 < b.length ∧ (mL a b i k).1 > 1
theorem hit_one {f : Nat → Nat → Nat × Option Pt} {i k : Nat} {p : Pt} (h : f i k = (1, some p)) : hit f i k = some (i, k, p) := by unfold hit; rw [h]; rfl
theorem hit_zero {f : Nat → Nat → Nat × Option Pt} {i k : Nat} {o : Option Pt} (h : f i k = (0, o)) : hit f i k = none := by unfold hit; rw [h]; rfl
theorem row_one {f : Nat → Nat → Nat × Option Pt} {i k : Nat} {p : Pt} (h : f i k = (1, some p)) : row f (k + 1) i = row f k i ++ [(i, k, p)] := by rw [row_succ, hit_one h]; rfl
theorem row_none {f : Nat → Nat → Nat × Option Pt} {i k : Nat} {o : Option Pt} (h : f i k = (0, o)) : row f (k + 1) i = row f k i := by rw [row_succ, hit_zero h]; simp
theorem row_len (f : Nat → Nat → Nat × Option Pt) (i : Nat) : ∀ k, (row f k i).length ≤ k
  | 0 => by simp [row_zero]
  | k + 1 => by
    have := row_len f i k
    rw [row_succ, List.length_append]
    cases hit f i k <;> simp <;> omega
theorem hits_len (f : Nat → Nat → Nat × Option Pt) (n : Nat) : ∀ i, (hits f i n).length ≤ i * n
  | 0 => by simp [hits_zero]
  | i + 1 => by
    have := hits_len f n i
    have h2 := row_len f i n
    rw [hits_succ, List.length_append, Nat.succ_mul]; omega

open Classical in
/-- klippelaw11.crossings -/
theorem s15 (m : Int) (a b : List Pt) (ha : all9 a) (hb : all9 b) (la : a.length ≤ 8) (lb : b.length ≤ 8) :
    SpecP (cx m) 15 [ePs a, ePs b] (if overL a b then .tuple [.sl 4 [], .bool true] else .tuple [.sl 4 ((hits (mL a b) (a.length - 1) (b.length - 1)).map eX), .bool false]) := by
  refine specP_of (mixed m) (k15 m) (Nat.le_of_ble_eq_true rfl) (X_start ?_)
  unfold c15
  refine WF (And.intro @ePs.eq_1 @List.length_map.{0,0}) ?_
  refine X_for (fun i : Nat => ⟨[(0, ePs a), (1, ePs b), (6, outAV (hits (mL a b) i (b.length - 1))), (7, .int .i64 i)], outBlk (hits (mL a b) i (b.length - 1))⟩)
    (fun i => (i = 0 ∨ i ≤ a.length - 1) ∧ ∀ i' k, i' < i → k + 1 < b.length → ¬ (mL a b i' k).1 > 1) (fun i => a.length - i) 0 ⟨.inl rfl, fun i' k h => absurd h (Nat.not_lt_zero _)⟩ ?_ ?_
  · exact weak_keep (by simp [lookup, ePs, hits_zero, outAV])
  intro i R ⟨i1, i2⟩ hR
  try dsimp only at hR ⊢
  have e1 : ((i : Int) + 1) = ((i + 1 : Nat) : Int) := by omega
  rcases Nat.lt_or_ge (i + 1) a.length with hi | hi
  · have bl := hits_len (mL a b) (b.length - 1) i
    have bm : i * (b.length - 1) ≤ 8 * 8 := Nat.mul_le_mul (by omega) (by omega)
    refine WF (And.intro @ePs.eq_1 (And.intro @List.length_map.{0,0} (And.intro e1 hi))) ?_
    refine X_for (fun k : Nat => ⟨[(0, ePs a), (1, ePs b), (6, outAV (hits (mL a b) i (b.length - 1) ++ row (mL a b) k i)), (7, .int .i64 i), (8, .int .i64 k)], outBlk (hits (mL a b) i (b.length - 1) ++ row (mL a b) k i)⟩)
      (fun k => (k = 0 ∨ k ≤ b.length - 1) ∧ ∀ k', k' < k → ¬ (mL a b i k').1 > 1) (fun k => b.length - k) 0 ⟨.inl rfl, fun k h => absurd h (Nat.not_lt_zero _)⟩ ?_ ?_
    · simp only [row_zero, List.append_nil]
      exact weak_keep (by simp [lookup, ePs])
    intro k R' ⟨k1, k2⟩ hR'
    try dsimp only at hR' ⊢
    have e2 : ((k : Int) + 1) = ((k + 1 : Nat) : Int) := by omega
    rcases Nat.lt_or_ge (k + 1) b.length with hk | hk
    · have x1 := get_pt (show i < a.length by omega)
      have x2 := get_pt (show i + 1 < a.length by omega)
      have x3 := get_pt (show k < b.length by omega)
      have x4 := get_pt (show k + 1 < b.length by omega)
      have hm := s45' m _ _ _ _ (ha.get (show i < a.length by omega)) (ha.get (show i + 1 < a.length by omega)) (hb.get (show k < b.length by omega)) (hb.get (show k + 1 < b.length by omega))
      have hw := mL_how (at' a i) (at' a (i + 1)) (at' b k) (at' b (k + 1))
      have hsm := meetL_some (at' a i) (at' a (i + 1)) (at' b k) (at' b (k + 1))
      have hov : ∀ x, mL a b i k = x → meetL (at' a i) (at' a (i + 1)) (at' b k) (at' b (k + 1)) = x := fun x h => h
      have rl := row_len (mL a b) i k
      generalize hr : meetL (at' a i) (at' a (i + 1)) (at' b k) (at' b (k + 1)) = r at *
      have hr' : mL a b i k = r := hr
      obtain ⟨h, o⟩ := r
      unfold eR eP at hm
      dsimp only at hm hw hsm
      generalize hl : hits (mL a b) i (b.length - 1) ++ row (mL a b) k i = L at *
      have hL : L.length ≤ 100 := by rw [← hl, List.length_append]; omega
      have okk : ¬ (mL a b i k).1 > 1 → ∀ k', k' < k + 1 → ¬ (mL a b i k').1 > 1 := fun h k' h2 => by
        by_cases e : k' = k
        · rw [e]; exact h
        · exact k2 k' (by omega)
      rcases L with _ | ⟨y, L⟩
      · rcases hw with rfl | rfl | rfl
        · skip
          obtain ⟨u, v, he⟩ : ∃ u v, eO o = .agg [.str u, .str v] := by cases o <;> exact ⟨_, _, rfl⟩
          rw [he, show ((0 : Nat) : Int) = 0 from rfl] at hm
          simp -implicitDefEqProofs (disch := omega) only [KF, KR, KV0, KV1, KV2, KW, ↓bstep, ↓astep, ↓O1.eq_def, ↓onBool.eq_def, ↓onInt.eq_def, ↓onStr.eq_def, ↓onLo.eq_def, ↓binK.eq_def, ↓arith.eq_def, ↓strOp.eq_def, ↓srcElems.eq_def, ↓dst1.eq_def, args0, List.zipIdx, List.map, lookup, St.ev, St.set, St.setO, reduceCtorEq, AV.plain, AV.plainL, AV.flat, AV.flatL, AV.cells, Nat.reduceEqDiff, ↓reduceIte, List.drop, List.take, List.length, Nat.reduceAdd, Nat.reduceLeDiff, Nat.reduceMul, E.done, rvsK, rvK, resAV, Int.reduceToNat, Int.reduceLE, Int.reduceLT, Int.reduceNeg, Int.reduceAdd, Int.reduceSub, Int.reduceMul, Nat.reduceLT, AV.isElem, AV.one, ↓buildCells.eq_1, ↓buildCells.eq_2, Nat.reduceBEq, eqCells, ePs, List.length_map, e1, e2, hk, x1, x2, x3, x4, outAV, outBlk]
          refine CL_pure hm rfl ?_
          refine WW ?_
          have hL' : hits (mL a b) i (b.length - 1) ++ row (mL a b) (k + 1) i = [] := by rw [row_none hr', hl]
          refine hR' (k + 1) _ ⟨by omega, okk (by rw [hr']; dsimp only; omega)⟩ (by omega) ?_
          rw [hL']
          exact weak_none (by simp [lookup, outAV, AV.plain, ePs])
        · obtain ⟨p, rfl⟩ := hsm rfl
          unfold eO eP at hm
          rw [show ((1 : Nat) : Int) = 1 from rfl] at hm
          simp -implicitDefEqProofs (disch := omega) only [KF, KR, KV0, KV1, KV2, KW, ↓bstep, ↓astep, ↓O1.eq_def, ↓onBool.eq_def, ↓onInt.eq_def, ↓onStr.eq_def, ↓onLo.eq_def, ↓binK.eq_def, ↓arith.eq_def, ↓strOp.eq_def, ↓srcElems.eq_def, ↓dst1.eq_def, args0, List.zipIdx, List.map, lookup, St.ev, St.set, St.setO, reduceCtorEq, AV.plain, AV.plainL, AV.flat, AV.flatL, AV.cells, Nat.reduceEqDiff, ↓reduceIte, List.drop, List.take, List.length, Nat.reduceAdd, Nat.reduceLeDiff, Nat.reduceMul, E.done, rvsK, rvK, resAV, Int.reduceToNat, Int.reduceLE, Int.reduceLT, Int.reduceNeg, Int.reduceAdd, Int.reduceSub, Int.reduceMul, Nat.reduceLT, AV.isElem, AV.one, ↓buildCells.eq_1, ↓buildCells.eq_2, Nat.reduceBEq, eqCells, ePs, List.length_map, e1, e2, hk, x1, x2, x3, x4, outAV, outBlk]
          refine CL_pure hm rfl ?_
          refine WW ?_
          have hL' : hits (mL a b) i (b.length - 1) ++ row (mL a b) (k + 1) i = [(i, k, p)] := by rw [row_one hr', ← List.append_assoc, hl]; rfl
          refine hR' (k + 1) _ ⟨by omega, okk (by rw [hr']; dsimp only; omega)⟩ (by omega) ?_
          rw [hL']
          exact weak_one 1 rfl (cells4_plain [(i, k, p)]) (by simp [lookup, outAV, AV.ren, AV.idsLt, ePs])
        · skip
          obtain ⟨u, v, he⟩ : ∃ u v, eO o = .agg [.str u, .str v] := by cases o <;> exact ⟨_, _, rfl⟩
          rw [he, show ((2 : Nat) : Int) = 2 from rfl] at hm
          simp -implicitDefEqProofs (disch := omega) only [KF, KR, KV0, KV1, KV2, KW, ↓bstep, ↓astep, ↓O1.eq_def, ↓onBool.eq_def, ↓onInt.eq_def, ↓onStr.eq_def, ↓onLo.eq_def, ↓binK.eq_def, ↓arith.eq_def, ↓strOp.eq_def, ↓srcElems.eq_def, ↓dst1.eq_def, args0, List.zipIdx, List.map, lookup, St.ev, St.set, St.setO, reduceCtorEq, AV.plain, AV.plainL, AV.flat, AV.flatL, AV.cells, Nat.reduceEqDiff, ↓reduceIte, List.drop, List.take, List.length, Nat.reduceAdd, Nat.reduceLeDiff, Nat.reduceMul, E.done, rvsK, rvK, resAV, Int.reduceToNat, Int.reduceLE, Int.reduceLT, Int.reduceNeg, Int.reduceAdd, Int.reduceSub, Int.reduceMul, Nat.reduceLT, AV.isElem, AV.one, ↓buildCells.eq_1, ↓buildCells.eq_2, Nat.reduceBEq, eqCells, ePs, List.length_map, e1, e2, hk, x1, x2, x3, x4, outAV, outBlk]
          refine CL_pure hm rfl ?_
          refine WW ?_
          rw [if_pos ⟨i, k, hi, hk, by rw [hr']; dsimp only; omega⟩]
          exact .tuple _ _ (.cons _ _ _ _ (.nil 4) (.cons _ _ _ _ (.same _ rfl) .nil))
      · have cl := cells4_length (y :: L)
        rw [List.length_cons] at hL cl
        rcases hw with rfl | rfl | rfl
        · skip
          obtain ⟨u, v, he⟩ : ∃ u v, eO o = .agg [.str u, .str v] := by cases o <;> exact ⟨_, _, rfl⟩
          rw [he, show ((0 : Nat) : Int) = 0 from rfl] at hm
          simp -implicitDefEqProofs (disch := omega) only [KF, KR, KV0, KV1, KV2, KW, ↓bstep, ↓astep, ↓O1.eq_def, ↓onBool.eq_def, ↓onInt.eq_def, ↓onStr.eq_def, ↓onLo.eq_def, ↓binK.eq_def, ↓arith.eq_def, ↓strOp.eq_def, ↓srcElems.eq_def, ↓dst1.eq_def, args0, List.zipIdx, List.map, lookup, St.ev, St.set, St.setO, reduceCtorEq, AV.plain, AV.plainL, AV.flat, AV.flatL, AV.cells, Nat.reduceEqDiff, ↓reduceIte, List.drop, List.take, List.length, Nat.reduceAdd, Nat.reduceLeDiff, Nat.reduceMul, E.done, rvsK, rvK, resAV, Int.reduceToNat, Int.reduceLE, Int.reduceLT, Int.reduceNeg, Int.reduceAdd, Int.reduceSub, Int.reduceMul, Nat.reduceLT, AV.isElem, AV.one, ↓buildCells.eq_1, ↓buildCells.eq_2, Nat.reduceBEq, eqCells, ePs, List.length_map, e1, e2, hk, x1, x2, x3, x4, outAV, outBlk]
          refine CL_pure hm rfl ?_
          refine WW ?_
          have hL' : hits (mL a b) i (b.length - 1) ++ row (mL a b) (k + 1) i = y :: L := by rw [row_none hr', hl]
          refine hR' (k + 1) _ ⟨by omega, okk (by rw [hr']; dsimp only; omega)⟩ (by omega) ?_
          rw [hL']
          exact weak_one 0 rfl (cells4_plain (y :: L)) (by simp [lookup, outAV, AV.ren, AV.idsLt, ePs])
        · obtain ⟨p, rfl⟩ := hsm rfl
          unfold eO eP at hm
          rw [show ((1 : Nat) : Int) = 1 from rfl] at hm
          simp -implicitDefEqProofs (disch := omega) only [KF, KR, KV0, KV1, KV2, KW, ↓bstep, ↓astep, ↓O1.eq_def, ↓onBool.eq_def, ↓onInt.eq_def, ↓onStr.eq_def, ↓onLo.eq_def, ↓binK.eq_def, ↓arith.eq_def, ↓strOp.eq_def, ↓srcElems.eq_def, ↓dst1.eq_def, args0, List.zipIdx, List.map, lookup, St.ev, St.set, St.setO, reduceCtorEq, AV.plain, AV.plainL, AV.flat, AV.flatL, AV.cells, Nat.reduceEqDiff, ↓reduceIte, List.drop, List.take, List.length, Nat.reduceAdd, Nat.reduceLeDiff, Nat.reduceMul, E.done, rvsK, rvK, resAV, Int.reduceToNat, Int.reduceLE, Int.reduceLT, Int.reduceNeg, Int.reduceAdd, Int.reduceSub, Int.reduceMul, Nat.reduceLT, AV.isElem, AV.one, ↓buildCells.eq_1, ↓buildCells.eq_2, Nat.reduceBEq, eqCells, ePs, List.length_map, e1, e2, hk, x1, x2, x3, x4, outAV, outBlk]
          refine CL_pure hm rfl ?_
          refine WW ?_
          have hL' : hits (mL a b) i (b.length - 1) ++ row (mL a b) (k + 1) i = y :: (L ++ [(i, k, p)]) := by rw [row_one hr', ← List.append_assoc, hl]; rfl
          have e : List.take ((L.length + 1) * 4) (cells4 (y :: L)) ++ List.flatMap AV.cells [AV.agg [.int .i64 i, .int .i64 k, .str (tq p.1), .str (tq p.2)]] = cells4 (y :: (L ++ [(i, k, p)])) := by
            rw [← cl, List.take_length, ← List.cons_append, cells4_append]; rfl
          refine ⟨by rw [cl]; omega, by omega, by omega, ?_⟩
          rw [e]
          refine hR' (k + 1) _ ⟨by omega, okk (by rw [hr']; dsimp only; omega)⟩ (by omega) ?_
          rw [hL']
          exact weak_one 2 rfl (cells4_plain _) (by simp [lookup, outAV, AV.ren, AV.idsLt, ePs])
        · skip
          obtain ⟨u, v, he⟩ : ∃ u v, eO o = .agg [.str u, .str v] := by cases o <;> exact ⟨_, _, rfl⟩
          rw [he, show ((2 : Nat) : Int) = 2 from rfl] at hm
          simp -implicitDefEqProofs (disch := omega) only [KF, KR, KV0, KV1, KV2, KW, ↓bstep, ↓astep, ↓O1.eq_def, ↓onBool.eq_def, ↓onInt.eq_def, ↓onStr.eq_def, ↓onLo.eq_def, ↓binK.eq_def, ↓arith.eq_def, ↓strOp.eq_def, ↓srcElems.eq_def, ↓dst1.eq_def, args0, List.zipIdx, List.map, lookup, St.ev, St.set, St.setO, reduceCtorEq, AV.plain, AV.plainL, AV.flat, AV.flatL, AV.cells, Nat.reduceEqDiff, ↓reduceIte, List.drop, List.take, List.length, Nat.reduceAdd, Nat.reduceLeDiff, Nat.reduceMul, E.done, rvsK, rvK, resAV, Int.reduceToNat, Int.reduceLE, Int.reduceLT, Int.reduceNeg, Int.reduceAdd, Int.reduceSub, Int.reduceMul, Nat.reduceLT, AV.isElem, AV.one, ↓buildCells.eq_1, ↓buildCells.eq_2, Nat.reduceBEq, eqCells, ePs, List.length_map, e1, e2, hk, x1, x2, x3, x4, outAV, outBlk]
          refine CL_pure hm rfl ?_
          refine WW ?_
          rw [if_pos ⟨i, k, hi, hk, by rw [hr']; dsimp only; omega⟩]
          exact .tuple _ _ (.cons _ _ _ _ (.nil 4) (.cons _ _ _ _ (.same _ rfl) .nil))
    · have ek : k = b.length - 1 := by omega
      have hk' : ¬ k + 1 < b.length := by omega
      refine WF (And.intro @ePs.eq_1 (And.intro @List.length_map.{0,0} (And.intro e2 hk'))) ?_
      refine hR (i + 1) _ ⟨by omega, fun i' k' h1 h2 => ?_⟩ (by omega) ?_
      · by_cases e : i' = i
        · rw [e]; exact k2 k' (by omega)
        · exact i2 i' k' (by omega) h2
      · rw [hits_succ, ← ek]
        exact weak_keep (by simp [lookup, ePs])
  · have ei : i = a.length - 1 := by omega
    have hi' : ¬ i + 1 < a.length := by omega
    refine WF (And.intro @ePs.eq_1 (And.intro @List.length_map.{0,0} (And.intro e1 hi'))) ?_
    have no : ¬ overL a b := by
      rintro ⟨i', k', h1, h2, h3⟩
      exact i2 i' k' (by omega) h2 h3
    rw [if_neg no, ← ei]
    exact .tuple _ _ (.cons _ _ _ _ (out_shows _) (.cons _ _ _ _ (.same _ rfl) .nil))
end Go.Proofs.YtkjnjdcbnelceaaGreatDoor.KA
end
