/- Parts of the proof, in order: each part's head says what it holds. -/
import Derived.Test.YtkjnjdcbnelceaaGreatDoorR6
import Derived.Test.YtkjnjdcbnelceaaGreatDoorR4
import Derived.Test.YtkjnjdcbnelceaaGreatDoorR5

section
/- Contracts: magnitudes in pieces of nine digits: trim, order. -/
open Go Go.Proofs
set_option linter.unusedSimpArgs false
set_option linter.unusedVariables false
set_option maxHeartbeats 1000000
set_option maxRecDepth 20000
namespace Go.Proofs.YtkjnjdcbnelceaaGreatDoor.KA
open Num

theorem wrapU {n : Int} (h : 0 ≤ n ∧ n ≤ 18446744073709551615) : IntKind.u64.wrap n = n := by rw [IntKind.wrap_u64]; omega
theorem u64s_nil : u64s [] = [] := rfl
theorem u64s_append (l m : List Nat) : u64s (l ++ m) = u64s l ++ u64s m := by simp [u64s]
theorem u64s_take (l : List Nat) (k : Nat) : (u64s l).take k = u64s (l.take k) := by simp [u64s, List.map_take]
theorem u64s_drop (l : List Nat) (k : Nat) : (u64s l).drop k = u64s (l.drop k) := by simp [u64s, List.map_drop]
theorem u64s_at {l : List Nat} {k x : Nat} (h : l[k]? = some x) : (u64s l)[k]? = some (.int .u64 (x : Int)) := by simp [u64s, h]
/-- integer.trim -/
theorem s152 (m : Int) (l : List Nat) (hl : l.length < 1000000000) : SpecP (cx m) 152 [.sl 1 (u64s l)] (.sl 1 (u64s (tr l))) := by
  refine specP_of (mixed m) (k152 m) (Nat.le_of_ble_eq_true rfl) (X_start ?_)
  unfold c152
  refine WW ?_
  refine X_for (fun p : List Nat => ⟨[(0, .sl 1 (u64s p))], []⟩) (fun p => tr p = tr l ∧ p.length < 1000000000) (fun p => p.length) l ⟨rfl, hl⟩ (weak_keep (by simp [lookup])) ?_
  intro p R ⟨h1, h2⟩ hR
  try dsimp only at hR ⊢
  rcases List.eq_nil_or_concat p with rfl | ⟨q, x, rfl⟩
  · refine WF @u64s_nil ?_
    exact shv (by rw [← h1]; rfl) rfl
  · rw [List.concat_eq_append] at *
    have h2' : q.length + 1 < 1000000000 := by simpa using h2
    have e0 : (u64s (q ++ [x])).length = q.length + 1 := by simp [u64s]
    have e1 : ((q.length + 1 : Nat) : Int) - 1 = (q.length : Int) := by omega
    have e2 : (u64s (q ++ [x]))[q.length]? = some (.int .u64 (x : Int)) := u64s_at (by simp)
    have e3 : (0 : Int) < ((q.length + 1 : Nat) : Int) := by omega
    have e4 : (u64s (q ++ [x])).take q.length = u64s q := by rw [u64s_take]; simp
    by_cases hx : x = 0
    · subst hx
      rw [tr_snoc0] at h1
      refine WF (And.intro e0 (And.intro e1 (And.intro e2 (And.intro e3 (And.intro e4 @Int.natCast_zero))))) ?_
      exact ⟨by omega, hR q _ ⟨h1, by omega⟩ (by simp) (weak_keep (by simp [lookup]))⟩
    · have hx' := eq_false (show ¬ (x : Int) = 0 by omega)
      rw [tr_snoc hx] at h1
      refine WF (And.intro e0 (And.intro e1 (And.intro e2 (And.intro e3 hx')))) ?_
      exact shv (by rw [h1]) rfl

/-- integer.order -/
def ordv (a b : Nat) : Int := if a < b then -1 else if a = b then 0 else 1
theorem pc_ne_len {B a b : Nat} (hB : 2 ≤ B) (h : (pc B a).length ≠ (pc B b).length) : (pc B a).length < (pc B b).length ↔ a < b := by
  constructor
  · exact pc_length_mono hB
  · intro hl
    rcases Nat.lt_or_ge (pc B a).length (pc B b).length with h1 | h1
    · exact h1
    · have := pc_length_mono hB (u := b) (v := a) (by omega)
      omega
theorem s121 (m : Int) (a b : Nat) (ha : (pc 1000000000 a).length < 1000000000) (hb : (pc 1000000000 b).length < 1000000000) :
    SpecP (cx m) 121 [.sl 1 (u64s (pc 1000000000 a)), .sl 1 (u64s (pc 1000000000 b))] (.int .i64 (ordv a b)) := by
  refine specP_of (mixed m) (k121 m) (Nat.le_of_ble_eq_true rfl) (X_start ?_)
  unfold c121
  have hB : 2 ≤ 1000000000 := by omega
  have va := val_pc hB a
  have vb := val_pc hB b
  have la := pc_lt hB a
  have lb := pc_lt hB b
  have hne := pc_ne_len hB (a := a) (b := b)
  generalize hA : pc 1000000000 a = A at *
  generalize hBb : pc 1000000000 b = Bl at *
  refine WF @u64s_length ?_
  refine iteI (fun h => ?_) (fun h => ?_)
  · have h' : A.length ≠ Bl.length := by omega
    refine iteI (fun h2 => shi ?_) (fun h2 => shi ?_)
    · unfold ordv; rw [if_pos ((hne h').1 (by omega))]
    · have := (hne h').2
      unfold ordv; rw [if_neg (fun h3 => by have := this h3; omega), if_neg (fun h3 => by subst h3; rw [hA] at hBb; exact h' (by rw [hBb]))]
  have hl : A.length = Bl.length := by omega
  refine X_for (fun k : Nat => ⟨[(0, .sl 1 (u64s A)), (1, .sl 1 (u64s Bl)), (5, .int .i64 ((k : Int) - 1))], []⟩) (fun k => k ≤ A.length ∧ A.drop k = Bl.drop k) (fun k => k) A.length ⟨Nat.le_refl _, by rw [List.drop_length, hl, List.drop_length]⟩ (weak_keep (by simp [lookup])) ?_
  intro k R ⟨h1, h2⟩ hR
  try dsimp only at hR ⊢
  cases k with
  | zero =>
    have e0 : ¬ (0 : Int) ≤ ((0 : Nat) : Int) - 1 := by omega
    refine WF e0 ?_
    rw [List.drop_zero, List.drop_zero] at h2
    refine shi ?_
    have : a = b := by rw [← va, ← vb, h2]
    unfold ordv; rw [if_neg (by omega), if_pos this]
  | succ k =>
    have e0 : (((k + 1 : Nat) : Int) - 1) = (k : Int) := by omega
    have e1 := u64s_at (l := A) (k := k) (x := A[k]) (by simp [show k < A.length by omega])
    have e2 := u64s_at (l := Bl) (k := k) (x := Bl[k]) (by simp [show k < Bl.length by omega])
    refine WF (And.intro e0 (And.intro e1 e2)) ?_
    have hd : A.drop k = A[k] :: A.drop (k + 1) := List.drop_eq_getElem_cons (by omega)
    have hd' : Bl.drop k = Bl[k] :: Bl.drop (k + 1) := List.drop_eq_getElem_cons (by omega)
    have o1 : A[k] < Bl[k] → a < b := fun h => by rw [← va, ← vb]; exact val_order hB la lb (i := k) (by simp [show k < A.length by omega]) (by simp [show k < Bl.length by omega]) h2 h
    have o2 : Bl[k] < A[k] → b < a := fun h => by rw [← va, ← vb]; exact val_order hB lb la (i := k) (by simp [show k < Bl.length by omega]) (by simp [show k < A.length by omega]) h2.symm h
    refine iteI (fun h => iteI (fun h3 => shi ?_) (fun h3 => shi ?_)) (fun h => ?_)
    · unfold ordv; rw [if_pos (o1 h3)]
    · have := o2 (by omega)
      unfold ordv; rw [if_neg (by omega), if_neg (by omega)]
    · exact hR k _ ⟨by omega, by rw [hd, hd', h2, show A[k] = Bl[k] by omega]⟩ (by omega) (weak_keep (by simp [lookup]))

/-- A magnitude. -/
def eM (n : Nat) : AV := .sl 1 (u64s (pc 1000000000 n))
def pl (n : Nat) : Nat := (pc 1000000000 n).length

/-- The sum of pieces, with what is carried over. -/
theorem val_snoc (B : Nat) (l : List Nat) (x : Nat) : val B (l ++ [x]) = val B l + B ^ l.length * x := by rw [val_append]; simp [val]
theorem val_take_getD (B : Nat) (l : List Nat) (i : Nat) : val B (l.take (i + 1)) = val B (l.take i) + B ^ i * (l[i]?.getD 0) := by
  rcases Nat.lt_or_ge i l.length with h | h
  · rw [val_take_succ B (x := l[i]) (by simp [h])]; simp [h]
  · rw [List.take_of_length_le (by omega), List.take_of_length_le h]; simp [List.getElem?_eq_none h]

theorem plainL_of : ∀ {l : List AV}, (∀ x ∈ l, x.plain = true) → AV.plainL l = true
  | [], _ => rfl
  | a :: l, h => by simp only [AV.plainL, Bool.and_eq_true]; exact ⟨h a (by simp), plainL_of (fun x hx => h x (by simp [hx]))⟩
theorem u64s_plain (l : List Nat) : AV.plainL (u64s l) = true := plainL_of (by simp only [u64s, List.mem_map]; rintro x ⟨n, _, rfl⟩; rfl)
theorem plainL_app {l m : List AV} (hl : AV.plainL l = true) (hm : AV.plainL m = true) : AV.plainL (l ++ m) = true := plainL_of fun x hx => (List.mem_append.1 hx).elim (plainL_mem hl x) (plainL_mem hm x)
theorem flat1 (n : Nat) (x : AV) : (List.replicate n [x]).flatten = List.replicate n x := by
  induction n with
  | zero => rfl
  | succ n ih => rw [List.replicate_succ, List.flatten_cons, ih]; rfl
theorem tdivN {n : Nat} : (n : Int).tdiv 1000000000 = ((n / 1000000000 : Nat) : Int) := by rw [Int.tdiv_eq_ediv_of_nonneg (by omega)]; omega
theorem tmodN {n : Nat} : (n : Int).tmod 1000000000 = ((n % 1000000000 : Nat) : Int) := by rw [Int.tmod_eq_emod_of_nonneg (by omega)]; omega

theorem weak_same {k : Nat} {st : St} {s : List (Nat × AV)} {h' : AHeap} (h : ∀ p ∈ s, lookup st.s p.1 = p.2) (e : h' = st.h) : weak k st ⟨s, h'⟩ := .inl ⟨h, e⟩
theorem weak_row {st : St} {s : List (Nat × AV)} {cells cells' : List AV} (j : Nat) (hj : st.h[j]? = some (some cells')) (e : cells' = cells) (hp : AV.plainL cells = true)
    (h : ∀ p ∈ s, lookup st.s p.1 = p.2.ren (fun _ => j) ∧ p.2.idsLt 1 = true) : weak 0 st ⟨s, [some cells]⟩ := by
  subst e; exact weak_one j hj hp h
theorem carry_step (B V P c x y T1 T2 : Nat) (h : V + P * c = T1 + T2) : V + P * ((c + x + y) % B) + P * B * ((c + x + y) / B) = (T1 + P * x) + (T2 + P * y) := by
  have h1 := Nat.mod_add_div (c + x + y) B
  have h2 : P * ((c + x + y) % B) + P * B * ((c + x + y) / B) = P * (c + x + y) := by
    rw [Nat.mul_assoc, ← Nat.mul_add, h1]
  rw [Nat.add_assoc, h2, Nat.mul_add, Nat.mul_add]
  omega

theorem shows_u64 {h : AHeap} {id len cap : Nat} {cs : List AV} {l : List Nat} (hh : h[id]? = some (some cs)) (hl : l.length = len) (hle : len ≤ cs.length) (e : cs.take len = u64s l) : Shows h (.own 1 id 0 len cap) (.sl 1 (u64s l)) := by
  refine .own 1 id 0 len cap cs (u64s l) hh (by omega) (by rw [u64s_length]; exact hl) (fun x hx => ?_) ?_
  · obtain ⟨n, _, rfl⟩ := List.mem_map.1 hx; rfl
  · rw [u64s_flat, List.drop_zero, Nat.mul_one, e]; exact showsL_refl (u64s_plain l)

/-- integer.plus -/
theorem s120 (m : Int) (a b : Nat) (ha : pl a < 1000000) (hb : pl b < 1000000) : SpecP (cx m) 120 [eM a, eM b] (eM (a + b)) := by
  refine specP_of (mixed m) (k120 m) (Nat.le_of_ble_eq_true rfl) (X_start ?_)
  unfold c120
  have hB : 2 ≤ 1000000000 := by omega
  unfold eM pl at *
  have va := val_pc hB a
  have vb := val_pc hB b
  have la := pc_lt hB a
  have lb := pc_lt hB b
  refine WF @u64s_length ?_
  refine iteI (fun h => ?_) (fun h => ?_)
  · have hv : val 1000000000 (pc 1000000000 b) + val 1000000000 (pc 1000000000 a) = a + b := by omega
    generalize pc 1000000000 b = A at *
    generalize pc 1000000000 a = Bl at *
    have hlen : Bl.length ≤ A.length := by omega
    have hA6 : A.length < 1000000 := by omega
    have lA := lb
    have lB := la
    clear va vb la lb h ha hb
    refine ⟨by omega, by omega, by omega, .inr trivial, ?_⟩
    have e00 : ((A.length : Int) + 1).toNat = A.length + 1 := by omega
    refine WF e00 ?_
    refine X_for (fun x : Nat × List Nat × Nat × List AV => ⟨[(1, .sl 1 (u64s Bl)), (5, .own 1 0 0 x.1 (A.length + 1)), (6, .int .u64 (x.2.2.1 : Int)), (20, .sl 1 (u64s A)), (21, .int .i64 A.length), (22, .int .i64 x.1)], [some (u64s x.2.1 ++ x.2.2.2)]⟩)
      (fun x => x.1 ≤ A.length ∧ x.2.1.length = x.1 ∧ (∀ y ∈ x.2.1, y < 1000000000) ∧ x.2.2.1 ≤ 1 ∧ val 1000000000 x.2.1 + 1000000000 ^ x.1 * x.2.2.1 = val 1000000000 (A.take x.1) + val 1000000000 (Bl.take x.1) ∧ x.2.2.2.length = A.length + 1 - x.1 ∧ AV.plainL x.2.2.2 = true)
      (fun x => A.length - x.1) (0, [], 0, List.replicate (A.length + 1) (.int .u64 0)) ⟨Nat.zero_le _, rfl, by simp, by simp, by simp [val], by simp, plainL_of (by intro x hx; rw [List.eq_of_mem_replicate hx]; rfl)⟩ ?_ ?_
    · refine weak_same ?_ ?_
      · simp [lookup]
      · simp [flat1, u64s]
    rintro ⟨i, out, c, J⟩ R ⟨h1, h2, h3, h4, h5, h6, h7⟩ hR
    try dsimp only at hR ⊢ h1 h2 h3 h4 h5 h6 h7
    have eo : ((u64s out ++ J).drop 0).take (i * 1) = u64s out := by rw [List.drop_zero, Nat.mul_one, ← h2, ← u64s_length out, List.take_left]
    have el : 0 + i * 1 ≤ (u64s out ++ J).length := by rw [List.length_append, u64s_length]; omega
    have em : max (i + 1) (A.length + 1) = A.length + 1 := by omega
    have ea := val_take_getD 1000000000 A i
    have eb := val_take_getD 1000000000 Bl i
    rcases Nat.lt_or_ge i A.length with hi | hi
    · have hx := u64s_at (l := A) (k := i) (x := A[i]?.getD 0) (by simp [hi])
      have hxl : A[i]?.getD 0 < 1000000000 := by simpa [hi] using lA _ (List.getElem_mem hi)
      have hyl : Bl[i]?.getD 0 < 1000000000 := by
        rcases Nat.lt_or_ge i Bl.length with hj | hj
        · simpa [hj] using lB _ (List.getElem_mem hj)
        · simp [List.getElem?_eq_none hj]
      have hy := fun hj : i < Bl.length => u64s_at (l := Bl) (k := i) (x := Bl[i]?.getD 0) (by simp [hj])
      have hy0 : ¬ i < Bl.length → Bl[i]?.getD 0 = 0 := fun hj => by simp [List.getElem?_eq_none (Nat.le_of_not_lt hj)]
      generalize A[i]?.getD 0 = x at *
      generalize Bl[i]?.getD 0 = y at *
      have es : (c : Int) + (x : Int) = ((c + x : Nat) : Int) := by omega
      have es2 : ((c + x : Nat) : Int) + (y : Int) = ((c + x + y : Nat) : Int) := by omega
      have cs := carry_step 1000000000 _ _ _ x y _ _ h5
      have nx : ∀ t, weak 0 t ⟨[(1, .sl 1 (u64s Bl)), (5, .own 1 0 0 (i + 1) (A.length + 1)), (6, .int .u64 (((c + x + y) / 1000000000 : Nat) : Int)), (20, .sl 1 (u64s A)), (21, .int .i64 A.length), (22, .int .i64 ((i + 1 : Nat) : Int))],
          [some (u64s (out ++ [(c + x + y) % 1000000000]) ++ List.replicate (A.length + 1 - (i + 1)) .undef)]⟩ → R t := fun t ht =>
        hR (i + 1, out ++ [(c + x + y) % 1000000000], (c + x + y) / 1000000000, List.replicate (A.length + 1 - (i + 1)) .undef) t ⟨by omega, by simp [h2], by
          intro z hz
          rcases List.mem_append.1 hz with hz | hz
          · exact h3 z hz
          · simp at hz; subst hz; omega, by dsimp only; omega, by
            dsimp only
            rw [val_snoc, h2, Nat.pow_succ, cs, ea, eb], by simp, plainL_of (by intro x hx; rw [List.eq_of_mem_replicate hx]; rfl)⟩ (by dsimp only; omega) ht
      by_cases hj : i < Bl.length
      · have hy := hy hj
        refine WF (And.intro hi (And.intro hx (And.intro es (And.intro @wrapU (And.intro hj (And.intro hy (And.intro es2 (And.intro @u64s_length (And.intro @tmodN (And.intro @tdivN (And.intro eo (And.intro el em)))))))))))) ?_
        refine ⟨by omega, by omega, by omega, by omega, nx _ (weak_row 1 rfl ?_ (plainL_app (u64s_plain _) (plainL_of (by intro x hx; rw [List.eq_of_mem_replicate hx]; rfl))) ?_)⟩
        · rw [u64s_append, List.append_assoc]
          rw [List.drop_zero] at eo
          rw [eo]
          simp [u64s, AV.cells]
        · simp [lookup, AV.ren, AV.idsLt]
      · have hy0 := hy0 hj
        subst hy0
        refine WF (And.intro hi (And.intro hx (And.intro es (And.intro @wrapU (And.intro hj (And.intro @u64s_length (And.intro @tmodN (And.intro @tdivN (And.intro eo (And.intro el em)))))))))) ?_
        refine ⟨by omega, by omega, by omega, by omega, nx _ (weak_row 1 rfl ?_ (plainL_app (u64s_plain _) (plainL_of (by intro x hx; rw [List.eq_of_mem_replicate hx]; rfl))) ?_)⟩
        · rw [u64s_append, List.append_assoc]
          rw [List.drop_zero] at eo
          rw [eo]
          simp [u64s, AV.cells]
        · simp [lookup, AV.ren, AV.idsLt]
    · obtain rfl : i = A.length := by omega
      refine WF (And.intro @Nat.lt_irrefl (And.intro eo (And.intro el em))) ?_
      have lo : ∀ y ∈ out ++ [c], y < 1000000000 := by
        intro z hz
        rcases List.mem_append.1 hz with hz | hz
        · exact h3 z hz
        · simp at hz; omega
      refine ⟨by omega, by omega, CL_give [1] (s152 m (out ++ [c]) (by simp; omega)) (.cons _ _ _ _ (shows_u64 rfl (by simp [h2]) ?_ ?_) .nil) ?_⟩
      · simp [u64s, AV.cells]; omega
      · rw [List.drop_zero] at eo
        rw [eo, List.take_of_length_le (by simp [u64s, AV.cells, h2]), u64s_append]; rfl
      refine WW ?_
      refine shv ?_ rfl
      rw [pc_eq hB lo]
      rw [val_snoc, h2, h5, List.take_length, List.take_of_length_le hlen, hv]
  · have hv : val 1000000000 (pc 1000000000 a) + val 1000000000 (pc 1000000000 b) = a + b := by omega
    generalize pc 1000000000 a = A at *
    generalize pc 1000000000 b = Bl at *
    have hlen : Bl.length ≤ A.length := by omega
    have hA6 : A.length < 1000000 := by omega
    have lA := la
    have lB := lb
    clear va vb la lb h ha hb
    refine ⟨by omega, by omega, by omega, .inr trivial, ?_⟩
    have e00 : ((A.length : Int) + 1).toNat = A.length + 1 := by omega
    refine WF e00 ?_
    refine X_for (fun x : Nat × List Nat × Nat × List AV => ⟨[(1, .sl 1 (u64s Bl)), (5, .own 1 0 0 x.1 (A.length + 1)), (6, .int .u64 (x.2.2.1 : Int)), (20, .sl 1 (u64s A)), (21, .int .i64 A.length), (22, .int .i64 x.1)], [some (u64s x.2.1 ++ x.2.2.2)]⟩)
      (fun x => x.1 ≤ A.length ∧ x.2.1.length = x.1 ∧ (∀ y ∈ x.2.1, y < 1000000000) ∧ x.2.2.1 ≤ 1 ∧ val 1000000000 x.2.1 + 1000000000 ^ x.1 * x.2.2.1 = val 1000000000 (A.take x.1) + val 1000000000 (Bl.take x.1) ∧ x.2.2.2.length = A.length + 1 - x.1 ∧ AV.plainL x.2.2.2 = true)
      (fun x => A.length - x.1) (0, [], 0, List.replicate (A.length + 1) (.int .u64 0)) ⟨Nat.zero_le _, rfl, by simp, by simp, by simp [val], by simp, plainL_of (by intro x hx; rw [List.eq_of_mem_replicate hx]; rfl)⟩ ?_ ?_
    · refine weak_same ?_ ?_
      · simp [lookup]
      · simp [flat1, u64s]
    rintro ⟨i, out, c, J⟩ R ⟨h1, h2, h3, h4, h5, h6, h7⟩ hR
    try dsimp only at hR ⊢ h1 h2 h3 h4 h5 h6 h7
    have eo : ((u64s out ++ J).drop 0).take (i * 1) = u64s out := by rw [List.drop_zero, Nat.mul_one, ← h2, ← u64s_length out, List.take_left]
    have el : 0 + i * 1 ≤ (u64s out ++ J).length := by rw [List.length_append, u64s_length]; omega
    have em : max (i + 1) (A.length + 1) = A.length + 1 := by omega
    have ea := val_take_getD 1000000000 A i
    have eb := val_take_getD 1000000000 Bl i
    rcases Nat.lt_or_ge i A.length with hi | hi
    · have hx := u64s_at (l := A) (k := i) (x := A[i]?.getD 0) (by simp [hi])
      have hxl : A[i]?.getD 0 < 1000000000 := by simpa [hi] using lA _ (List.getElem_mem hi)
      have hyl : Bl[i]?.getD 0 < 1000000000 := by
        rcases Nat.lt_or_ge i Bl.length with hj | hj
        · simpa [hj] using lB _ (List.getElem_mem hj)
        · simp [List.getElem?_eq_none hj]
      have hy := fun hj : i < Bl.length => u64s_at (l := Bl) (k := i) (x := Bl[i]?.getD 0) (by simp [hj])
      have hy0 : ¬ i < Bl.length → Bl[i]?.getD 0 = 0 := fun hj => by simp [List.getElem?_eq_none (Nat.le_of_not_lt hj)]
      generalize A[i]?.getD 0 = x at *
      generalize Bl[i]?.getD 0 = y at *
      have es : (c : Int) + (x : Int) = ((c + x : Nat) : Int) := by omega
      have es2 : ((c + x : Nat) : Int) + (y : Int) = ((c + x + y : Nat) : Int) := by omega
      have cs := carry_step 1000000000 _ _ _ x y _ _ h5
      have nx : ∀ t, weak 0 t ⟨[(1, .sl 1 (u64s Bl)), (5, .own 1 0 0 (i + 1) (A.length + 1)), (6, .int .u64 (((c + x + y) / 1000000000 : Nat) : Int)), (20, .sl 1 (u64s A)), (21, .int .i64 A.length), (22, .int .i64 ((i + 1 : Nat) : Int))],
          [some (u64s (out ++ [(c + x + y) % 1000000000]) ++ List.replicate (A.length + 1 - (i + 1)) .undef)]⟩ → R t := fun t ht =>
        hR (i + 1, out ++ [(c + x + y) % 1000000000], (c + x + y) / 1000000000, List.replicate (A.length + 1 - (i + 1)) .undef) t ⟨by omega, by simp [h2], by
          intro z hz
          rcases List.mem_append.1 hz with hz | hz
          · exact h3 z hz
          · simp at hz; subst hz; omega, by dsimp only; omega, by
            dsimp only
            rw [val_snoc, h2, Nat.pow_succ, cs, ea, eb], by simp, plainL_of (by intro x hx; rw [List.eq_of_mem_replicate hx]; rfl)⟩ (by dsimp only; omega) ht
      by_cases hj : i < Bl.length
      · have hy := hy hj
        refine WF (And.intro hi (And.intro hx (And.intro es (And.intro @wrapU (And.intro hj (And.intro hy (And.intro es2 (And.intro @u64s_length (And.intro @tmodN (And.intro @tdivN (And.intro eo (And.intro el em)))))))))))) ?_
        refine ⟨by omega, by omega, by omega, by omega, nx _ (weak_row 1 rfl ?_ (plainL_app (u64s_plain _) (plainL_of (by intro x hx; rw [List.eq_of_mem_replicate hx]; rfl))) ?_)⟩
        · rw [u64s_append, List.append_assoc]
          rw [List.drop_zero] at eo
          rw [eo]
          simp [u64s, AV.cells]
        · simp [lookup, AV.ren, AV.idsLt]
      · have hy0 := hy0 hj
        subst hy0
        refine WF (And.intro hi (And.intro hx (And.intro es (And.intro @wrapU (And.intro hj (And.intro @u64s_length (And.intro @tmodN (And.intro @tdivN (And.intro eo (And.intro el em)))))))))) ?_
        refine ⟨by omega, by omega, by omega, by omega, nx _ (weak_row 1 rfl ?_ (plainL_app (u64s_plain _) (plainL_of (by intro x hx; rw [List.eq_of_mem_replicate hx]; rfl))) ?_)⟩
        · rw [u64s_append, List.append_assoc]
          rw [List.drop_zero] at eo
          rw [eo]
          simp [u64s, AV.cells]
        · simp [lookup, AV.ren, AV.idsLt]
    · obtain rfl : i = A.length := by omega
      refine WF (And.intro @Nat.lt_irrefl (And.intro eo (And.intro el em))) ?_
      have lo : ∀ y ∈ out ++ [c], y < 1000000000 := by
        intro z hz
        rcases List.mem_append.1 hz with hz | hz
        · exact h3 z hz
        · simp at hz; omega
      refine ⟨by omega, by omega, CL_give [1] (s152 m (out ++ [c]) (by simp; omega)) (.cons _ _ _ _ (shows_u64 rfl (by simp [h2]) ?_ ?_) .nil) ?_⟩
      · simp [u64s, AV.cells]; omega
      · rw [List.drop_zero] at eo
        rw [eo, List.take_of_length_le (by simp [u64s, AV.cells, h2]), u64s_append]; rfl
      refine WW ?_
      refine shv ?_ rfl
      rw [pc_eq hB lo]
      rw [val_snoc, h2, h5, List.take_length, List.take_of_length_le hlen, hv]
end Go.Proofs.YtkjnjdcbnelceaaGreatDoor.KA
end

section
/- Contract: integer.minus. -/
open Go Go.Proofs
set_option linter.unusedSimpArgs false
set_option linter.unusedVariables false
set_option maxHeartbeats 1000000
set_option maxRecDepth 20000
namespace Go.Proofs.YtkjnjdcbnelceaaGreatDoor.KA
open Num

theorem borrow_step (B V P br x y T1 T2 d br' : Nat) (h : V + T2 = T1 + P * br) (hd : d + y + br = x + B * br') : (V + P * d) + (T2 + P * y) = (T1 + P * x) + P * B * br' := by
  have h2 : P * d + P * y + P * br = P * x + P * B * br' := by
    rw [Nat.mul_assoc, ← Nat.mul_add, ← Nat.mul_add, ← Nat.mul_add, hd]
  omega

/-- integer.minus -/
theorem s122 (m : Int) (a b : Nat) (ha : pl a < 1000000) (hab : b ≤ a) : SpecP (cx m) 122 [eM a, eM b] (eM (a - b)) := by
  refine specP_of (mixed m) (k122 m) (Nat.le_of_ble_eq_true rfl) (X_start ?_)
  unfold c122
  have hB : 2 ≤ 1000000000 := by omega
  unfold eM pl at *
  have va := val_pc hB a
  have vb := val_pc hB b
  have lA := pc_lt hB a
  have lB := pc_lt hB b
  have hlen : (pc 1000000000 b).length ≤ (pc 1000000000 a).length := by
    rcases Nat.lt_or_ge (pc 1000000000 a).length (pc 1000000000 b).length with h | h
    · have := pc_length_mono hB h; omega
    · exact h
  generalize pc 1000000000 a = A at *
  generalize pc 1000000000 b = Bl at *
  refine WF @u64s_length ?_
  refine ⟨by omega, by omega, .inr trivial, ?_⟩
  refine X_for (fun x : Nat × List Nat × Nat × List AV => ⟨[(1, .sl 1 (u64s Bl)), (5, .own 1 0 0 x.1 A.length), (6, .int .u64 (x.2.2.1 : Int)), (13, .sl 1 (u64s A)), (14, .int .i64 A.length), (15, .int .i64 x.1)], [some (u64s x.2.1 ++ x.2.2.2)]⟩)
    (fun x => x.1 ≤ A.length ∧ x.2.1.length = x.1 ∧ (∀ y ∈ x.2.1, y < 1000000000) ∧ x.2.2.1 ≤ 1 ∧ val 1000000000 x.2.1 + val 1000000000 (Bl.take x.1) = val 1000000000 (A.take x.1) + 1000000000 ^ x.1 * x.2.2.1 ∧ x.2.2.2.length = A.length - x.1 ∧ AV.plainL x.2.2.2 = true)
    (fun x => A.length - x.1) (0, [], 0, List.replicate A.length (.int .u64 0)) ⟨Nat.zero_le _, rfl, by simp, by simp, by simp [val], by simp, plainL_of (by intro x hx; rw [List.eq_of_mem_replicate hx]; rfl)⟩ ?_ ?_
  · refine weak_same ?_ ?_
    · simp [lookup]
    · simp [flat1, u64s]
  rintro ⟨i, out, c, J⟩ R ⟨h1, h2, h3, h4, h5, h6, h7⟩ hR
  try dsimp only at hR ⊢ h1 h2 h3 h4 h5 h6 h7
  have eo : ((u64s out ++ J).drop 0).take (i * 1) = u64s out := by rw [List.drop_zero, Nat.mul_one, ← h2, ← u64s_length out, List.take_left]
  have el : 0 + i * 1 ≤ (u64s out ++ J).length := by rw [List.length_append, u64s_length]; omega
  have ea := val_take_getD 1000000000 A i
  have eb := val_take_getD 1000000000 Bl i
  rcases Nat.lt_or_ge i A.length with hi | hi
  · have em : max (i + 1) A.length = A.length := by omega
    have hx := u64s_at (l := A) (k := i) (x := A[i]?.getD 0) (by simp [hi])
    have hxl : A[i]?.getD 0 < 1000000000 := by simpa [hi] using lA _ (List.getElem_mem hi)
    have hyl : Bl[i]?.getD 0 < 1000000000 := by
      rcases Nat.lt_or_ge i Bl.length with hj | hj
      · simpa [hj] using lB _ (List.getElem_mem hj)
      · simp [List.getElem?_eq_none hj]
    have hy := fun hj : i < Bl.length => u64s_at (l := Bl) (k := i) (x := Bl[i]?.getD 0) (by simp [hj])
    have hy0 : ¬ i < Bl.length → Bl[i]?.getD 0 = 0 := fun hj => by simp [List.getElem?_eq_none (Nat.le_of_not_lt hj)]
    generalize A[i]?.getD 0 = x at *
    generalize Bl[i]?.getD 0 = y at *
    have es : (c : Int) + (y : Int) = ((c + y : Nat) : Int) := by omega
    have ex : (x : Int) + 1000000000 = ((x + 1000000000 : Nat) : Int) := by omega
    have nx : ∀ (d br : Nat) t, d + y + c = x + 1000000000 * br → d < 1000000000 → br ≤ 1 → weak 0 t ⟨[(1, .sl 1 (u64s Bl)), (5, .own 1 0 0 (i + 1) A.length), (6, .int .u64 (br : Int)), (13, .sl 1 (u64s A)), (14, .int .i64 A.length), (15, .int .i64 ((i + 1 : Nat) : Int))],
        [some (u64s (out ++ [d]) ++ List.replicate (A.length - (i + 1)) .undef)]⟩ → R t := fun d br t hd hd9 hbr ht =>
      hR (i + 1, out ++ [d], br, List.replicate (A.length - (i + 1)) .undef) t ⟨by omega, by simp [h2], by
        intro z hz
        rcases List.mem_append.1 hz with hz | hz
        · exact h3 z hz
        · simp at hz; subst hz; exact hd9, by dsimp only; omega, by
          dsimp only
          rw [val_snoc, h2, Nat.pow_succ, ea, eb]
          exact borrow_step _ _ _ _ _ _ _ _ _ _ h5 hd, by simp, plainL_of (by intro x hx; rw [List.eq_of_mem_replicate hx]; rfl)⟩ (by dsimp only; omega) ht
    have ecell : ∀ d : Nat, (List.take (i * 1) (u64s out ++ J) ++ (List.flatMap AV.cells [AV.int IntKind.u64 (d : Int)] ++ List.replicate ((A.length - (i + 1)) * 1) AV.undef)) = u64s (out ++ [d]) ++ List.replicate (A.length - (i + 1)) .undef := fun d => by
      rw [List.drop_zero] at eo
      rw [eo, u64s_append, List.append_assoc]
      simp [u64s, AV.cells]
    have ep : ∀ d : Nat, AV.plainL (u64s (out ++ [d]) ++ List.replicate (A.length - (i + 1)) .undef) = true := fun d => plainL_app (u64s_plain _) (plainL_of (by intro x hx; rw [List.eq_of_mem_replicate hx]; rfl))
    by_cases hj : i < Bl.length
    · have hy := hy hj
      by_cases hlt : x < c + y
      · have e1 : ((x + 1000000000 : Nat) : Int) - ((c + y : Nat) : Int) = ((x + 1000000000 - (c + y) : Nat) : Int) := by omega
        refine WF (And.intro hi (And.intro hx (And.intro es (And.intro @wrapU (And.intro hj (And.intro hy (And.intro hlt (And.intro ex (And.intro e1 (And.intro @u64s_length (And.intro eo (And.intro el em)))))))))))) ?_
        refine ⟨by omega, by omega, nx (x + 1000000000 - (c + y)) 1 _ (by omega) (by omega) (by omega) (weak_row 1 rfl (ecell _) (ep _) ?_)⟩
        simp [lookup, AV.ren, AV.idsLt]
      · have e1 : (x : Int) - ((c + y : Nat) : Int) = ((x - (c + y) : Nat) : Int) := by omega
        refine WF (And.intro hi (And.intro hx (And.intro es (And.intro @wrapU (And.intro hj (And.intro hy (And.intro hlt (And.intro e1 (And.intro @u64s_length (And.intro eo (And.intro el em))))))))))) ?_
        refine ⟨by omega, by omega, nx (x - (c + y)) 0 _ (by omega) (by omega) (by omega) (weak_row 1 rfl (ecell _) (ep _) ?_)⟩
        simp [lookup, AV.ren, AV.idsLt]
    · have hy0 := hy0 hj
      subst hy0
      by_cases hlt : x < c
      · have e1 : ((x + 1000000000 : Nat) : Int) - (c : Int) = ((x + 1000000000 - c : Nat) : Int) := by omega
        refine WF (And.intro hi (And.intro hx (And.intro es (And.intro @wrapU (And.intro hj (And.intro hlt (And.intro ex (And.intro e1 (And.intro @u64s_length (And.intro eo (And.intro el em))))))))))) ?_
        refine ⟨by omega, by omega, nx (x + 1000000000 - c) 1 _ (by omega) (by omega) (by omega) (weak_row 1 rfl (ecell _) (ep _) ?_)⟩
        simp [lookup, AV.ren, AV.idsLt]
      · have e1 : (x : Int) - (c : Int) = ((x - c : Nat) : Int) := by omega
        refine WF (And.intro hi (And.intro hx (And.intro es (And.intro @wrapU (And.intro hj (And.intro hlt (And.intro e1 (And.intro @u64s_length (And.intro eo (And.intro el em)))))))))) ?_
        refine ⟨by omega, by omega, nx (x - c) 0 _ (by omega) (by omega) (by omega) (weak_row 1 rfl (ecell _) (ep _) ?_)⟩
        simp [lookup, AV.ren, AV.idsLt]
  · obtain rfl : i = A.length := by omega
    rw [List.take_length, va, List.take_of_length_le hlen, vb] at h5
    have hvl := val_lt (show 0 < 1000000000 by omega) h3
    rw [h2] at hvl
    have hc : c = 0 := by
      rcases Nat.lt_or_ge c 1 with h | h
      · omega
      · obtain rfl : c = 1 := by omega
        rw [Nat.mul_one] at h5; omega
    subst hc
    refine WF @Nat.lt_irrefl ?_
    refine CL_give [0] (s152 m out (by omega)) (.cons _ _ _ _ (shows_u64 rfl h2 ?_ ?_) .nil) ?_
    · rw [List.length_append, u64s_length]; omega
    · rw [List.drop_zero, Nat.mul_one] at eo; exact eo
    refine WW ?_
    refine shv ?_ rfl
    rw [pc_eq hB h3 (n := a - b) (by rw [Nat.mul_zero] at h5; omega)]
end Go.Proofs.YtkjnjdcbnelceaaGreatDoor.KA
end

section
/- Contract: integer.times. -/
open Go Go.Proofs
set_option linter.unusedSimpArgs false
set_option linter.unusedVariables false
set_option maxHeartbeats 2000000
set_option maxRecDepth 20000
namespace Go.Proofs.YtkjnjdcbnelceaaGreatDoor.KA
open Num

theorem u64s_set (l : List Nat) (j x : Nat) : (u64s l).set j (.int .u64 (x : Int)) = u64s (l.set j x) := by simp [u64s, List.map_set]
theorem val_set (B : Nat) : ∀ (l : List Nat) (j x o : Nat), l[j]? = some o → val B (l.set j x) + B ^ j * o = val B l + B ^ j * x
  | [], j, x, o, h => by simp at h
  | y :: l, 0, x, o, h => by simp at h; subst h; simp [val]; omega
  | y :: l, j + 1, x, o, h => by
    have ih := val_set B l j x o (by simpa using h)
    rw [List.set_cons_succ, val, val, Nat.pow_succ]
    have e : B * (val B (l.set j x) + B ^ j * o) = B * (val B l + B ^ j * x) := by rw [ih]
    rw [Nat.mul_add, Nat.mul_add] at e
    rw [show B ^ j * B * o = B * (B ^ j * o) by rw [← Nat.mul_assoc, Nat.mul_comm B], show B ^ j * B * x = B * (B ^ j * x) by rw [← Nat.mul_assoc, Nat.mul_comm B]]
    omega
theorem mem_set {l : List Nat} {j x b : Nat} (h : ∀ y ∈ l, y < b) (hx : x < b) : ∀ y ∈ l.set j x, y < b := fun y hy => by
  rcases List.mem_or_eq_of_mem_set hy with h1 | h1
  · exact h y h1
  · subst h1; exact hx
/-- One place of a product. -/
theorem times_step (B P V V0 c o s x y T : Nat) (V' : Nat) (hs : s = c + (o + x * y)) (h : V + P * c = V0 + T) (hv : V' + P * o = V + P * (s % B)) :
    V' + P * B * (s / B) = V0 + (T + P * (x * y)) := by
  have h1 := Nat.mod_add_div s B
  have h2 : P * (s % B) + P * B * (s / B) = P * s := by rw [Nat.mul_assoc, ← Nat.mul_add, h1]
  have h3 : P * s = P * c + (P * o + P * (x * y)) := by rw [hs, Nat.mul_add, Nat.mul_add]
  omega

/-- integer.times -/
theorem s113 (m : Int) (a b : Nat) (ha : pl a < 1000000) (hb : pl b < 1000000) : SpecP (cx m) 113 [eM a, eM b] (eM (a * b)) := by
  refine specP_of (mixed m) (k113 m) (Nat.le_of_ble_eq_true rfl) (X_start ?_)
  unfold c113
  have hB : 2 ≤ 1000000000 := by omega
  unfold eM pl at *
  have va := val_pc hB a
  have vb := val_pc hB b
  have lA := pc_lt hB a
  have lB := pc_lt hB b
  generalize pc 1000000000 a = A at *
  generalize pc 1000000000 b = Bl at *
  have eN : (A.length : Int) + (Bl.length : Int) + 1 = ((A.length + Bl.length + 1 : Nat) : Int) := by omega
  refine WF (And.intro @u64s_length eN) ?_
  refine ⟨by omega, by omega, .inr trivial, ?_⟩
  obtain ⟨N, hN⟩ : ∃ N, N = A.length + Bl.length + 1 := ⟨_, rfl⟩
  rw [← hN]
  refine X_for (fun x : Nat × List Nat => ⟨[(1, .sl 1 (u64s Bl)), (5, .own 1 0 0 N N), (19, .sl 1 (u64s A)), (20, .int .i64 A.length), (21, .int .i64 x.1)], [some (u64s x.2)]⟩)
    (fun x => x.1 ≤ A.length ∧ x.2.length = N ∧ (∀ y ∈ x.2, y < 1000000000) ∧ val 1000000000 x.2 = val 1000000000 (A.take x.1) * b ∧ ∀ j, x.1 + Bl.length ≤ j → j < N → x.2[j]? = some 0)
    (fun x => A.length - x.1) (0, List.replicate N 0) ⟨Nat.zero_le _, by simp, by intro y hy; rw [List.eq_of_mem_replicate hy]; omega, by
      dsimp only; rw [val_zero (by intro y hy; exact List.eq_of_mem_replicate hy)]; simp [val], fun j _ hj => by simp [List.getElem?_replicate, hj]⟩ ?_ ?_
  · refine weak_same ?_ ?_
    · simp [lookup]
    · simp [flat1, u64s]
  rintro ⟨i, O⟩ R ⟨h1, h2, h3, h4, h5⟩ hR
  try dsimp only at hR ⊢ h1 h2 h3 h4 h5
  have ea := val_take_getD 1000000000 A i
  rcases Nat.lt_or_ge i A.length with hi | hi
  · have hx := u64s_at (l := A) (k := i) (x := A[i]?.getD 0) (by simp [hi])
    have hxl : A[i]?.getD 0 < 1000000000 := by simpa [hi] using lA _ (List.getElem_mem hi)
    generalize A[i]?.getD 0 = x at *
    refine WF (And.intro hi (And.intro hx @u64s_length)) ?_
    refine X_for (fun z : Nat × List Nat × Nat => ⟨[(1, .sl 1 (u64s Bl)), (5, .own 1 0 0 N N), (6, .int .i64 i), (7, .int .u64 (x : Int)), (8, .int .u64 (z.2.2 : Int)), (19, .sl 1 (u64s A)), (20, .int .i64 A.length), (21, .int .i64 i), (26, .sl 1 (u64s Bl)), (27, .int .i64 Bl.length), (28, .int .i64 z.1)], [some (u64s z.2.1)]⟩)
      (fun z => z.1 ≤ Bl.length ∧ z.2.1.length = N ∧ (∀ y ∈ z.2.1, y < 1000000000) ∧ z.2.2 < 1000000000 ∧ val 1000000000 z.2.1 + 1000000000 ^ (i + z.1) * z.2.2 = val 1000000000 O + 1000000000 ^ i * (x * val 1000000000 (Bl.take z.1)) ∧ ∀ j, i + Bl.length ≤ j → j < N → z.2.1[j]? = some 0)
      (fun z => Bl.length - z.1) (0, O, 0) ⟨Nat.zero_le _, h2, h3, by simp, by simp [val], h5⟩ ?_ ?_
    · exact weak_same (by simp [lookup]) rfl
    rintro ⟨k, Q, c⟩ R' ⟨g1, g2, g3, g4, g5, g6⟩ hR'
    try dsimp only at hR' ⊢ g1 g2 g3 g4 g5 g6
    have eb := val_take_getD 1000000000 Bl k
    rcases Nat.lt_or_ge k Bl.length with hk | hk
    · have hy := u64s_at (l := Bl) (k := k) (x := Bl[k]?.getD 0) (by simp [hk])
      have hyl : Bl[k]?.getD 0 < 1000000000 := by simpa [hk] using lB _ (List.getElem_mem hk)
      generalize Bl[k]?.getD 0 = y at *
      have hlt : i + k < Q.length := by omega
      have ho := u64s_at (l := Q) (k := i + k) (x := Q[i + k]) (by simp [hlt])
      have hol : Q[i + k] < 1000000000 := g3 _ (List.getElem_mem hlt)
      have vs := fun v => val_set 1000000000 Q (i + k) v Q[i + k] (by simp [hlt])
      generalize Q[i + k] = o at *
      obtain ⟨p, hp⟩ : ∃ p, p = x * y := ⟨_, rfl⟩
      have hpl : p ≤ 999999999 * 999999999 := by rw [hp]; exact Nat.mul_le_mul (by omega) (by omega)
      have e1 : (i : Int) + (k : Int) = ((i + k : Nat) : Int) := by omega
      have e2 : (x : Int) * (y : Int) = (p : Int) := by rw [hp]; simp
      have e3 : (o : Int) + (p : Int) = ((o + p : Nat) : Int) := by omega
      obtain ⟨s, hs⟩ : ∃ s, s = c + (o + p) := ⟨_, rfl⟩
      have e4 : (c : Int) + ((o + p : Nat) : Int) = (s : Int) := by omega
      have hsl : s < 1000000000 * 1000000000 := by omega
      have e5 : 0 + (i + k) * 1 = i + k := by omega
      have lN := eq_true (show i + k < N by omega)
      have lQ := eq_true (show i + k + 1 ≤ Q.length by omega)
      refine WF (And.intro hk (And.intro hy (And.intro e1 (And.intro e2 (And.intro e3 (And.intro e4 (And.intro e5 (And.intro lN (And.intro lQ (And.intro ho (And.intro @wrapU (And.intro @u64s_length (And.intro @tmodN (And.intro @tdivN @u64s_set)))))))))))))) ?_
      refine ⟨by omega, by omega, ?_⟩
      refine hR' (k + 1, Q.set (i + k) (s % 1000000000), s / 1000000000) _ ⟨by omega, by simp [g2], mem_set g3 (by omega), by dsimp only; omega, ?_, fun j hj hjN => ?_⟩ (by dsimp only; omega) (weak_same (by simp [lookup]) rfl)
      · dsimp only
        rw [eb, Nat.mul_add, Nat.mul_add, show i + (k + 1) = i + k + 1 by omega, Nat.pow_succ]
        have := times_step 1000000000 (1000000000 ^ (i + k)) _ _ c o s x y _ _ (by rw [hs, hp]) g5 (vs (s % 1000000000))
        rw [this, Nat.pow_add, Nat.mul_assoc]
        rw [show 1000000000 ^ k * (x * y) = x * (1000000000 ^ k * y) by rw [← Nat.mul_assoc, Nat.mul_comm (1000000000 ^ k), Nat.mul_assoc]]
      · dsimp only
        rw [List.getElem?_set_ne (by omega)]
        exact g6 j hj hjN
    · obtain rfl : k = Bl.length := by omega
      rw [List.take_length, vb] at g5
      have z0 := g6 (i + Bl.length) (by omega) (by omega)
      have vs := fun v => val_set 1000000000 Q (i + Bl.length) v 0 z0
      have e1 : (i : Int) + (Bl.length : Int) = ((i + Bl.length : Nat) : Int) := by omega
      refine WF (And.intro @Nat.lt_irrefl (And.intro @u64s_length e1)) ?_
      refine X_for (fun z : Nat × List Nat × Nat => ⟨[(1, .sl 1 (u64s Bl)), (5, .own 1 0 0 N N), (8, .int .u64 (z.2.2 : Int)), (11, .int .i64 z.1), (19, .sl 1 (u64s A)), (20, .int .i64 A.length), (21, .int .i64 i)], [some (u64s z.2.1)]⟩)
        (fun z => (z = (i + Bl.length, Q, c)) ∨ (z = (i + Bl.length + 1, Q.set (i + Bl.length) c, 0))) (fun z => z.2.2) (i + Bl.length, Q, c) (.inl rfl) (weak_same (by simp [lookup]) rfl) ?_
      rintro z R2 hz hR2
      have fin : ∀ (O' : List Nat) t, O'.length = N → (∀ y ∈ O', y < 1000000000) → val 1000000000 O' = val 1000000000 O + 1000000000 ^ i * (x * b) → (∀ j, i + Bl.length + 1 ≤ j → j < N → O'[j]? = some 0) →
          weak 0 t ⟨[(1, .sl 1 (u64s Bl)), (5, .own 1 0 0 N N), (19, .sl 1 (u64s A)), (20, .int .i64 A.length), (21, .int .i64 ((i + 1 : Nat) : Int))], [some (u64s O')]⟩ → R t := fun O' t k1 k2 k3 k4 k5 =>
        hR (i + 1, O') t ⟨by omega, k1, k2, by dsimp only; rw [k3, ea, h4, Nat.add_mul, Nat.mul_assoc], fun j hj hjN => k4 j (by dsimp only at hj; omega) hjN⟩ (by dsimp only; omega) k5
      rcases hz with rfl | rfl
      · try dsimp only at hR2 ⊢
        by_cases hc : c = 0
        · subst hc
          refine WF (And.intro @Int.natCast_zero @Int.lt_irrefl) ?_
          exact fin Q _ g2 g3 (by rw [Nat.mul_zero] at g5; exact g5) (fun j hj hjN => g6 j (by omega) hjN) (weak_same (by simp [lookup]) rfl)
        · have hc' := eq_true (show (0 : Int) < (c : Int) by omega)
          have ho := u64s_at z0
          have e2 : (c : Int) + ((0 : Nat) : Int) = (c : Int) := by omega
          have e5 : 0 + (i + Bl.length) * 1 = i + Bl.length := by omega
          have lN := eq_true (show i + Bl.length < N by omega)
          have lQ := eq_true (show i + Bl.length + 1 ≤ Q.length by omega)
          have ec : c % 1000000000 = c := Nat.mod_eq_of_lt g4
          have ed : c / 1000000000 = 0 := Nat.div_eq_of_lt g4
          refine WF (And.intro hc' (And.intro ho (And.intro e2 (And.intro e5 (And.intro lN (And.intro lQ (And.intro @wrapU (And.intro @u64s_length (And.intro @tmodN (And.intro @tdivN (And.intro @u64s_set (And.intro ec ed)))))))))))) ?_
          exact ⟨by omega, by omega, hR2 (i + Bl.length + 1, Q.set (i + Bl.length) c, 0) _ (.inr rfl) (by dsimp only; omega) (weak_same (by simp [lookup]) rfl)⟩
      · try dsimp only at hR2 ⊢
        refine WF (And.intro @Int.natCast_zero @Int.lt_irrefl) ?_
        refine fin _ _ (by simp [g2]) (mem_set g3 g4) ?_ (fun j hj hjN => ?_) (weak_same (by simp [lookup]) rfl)
        · have := vs c
          rw [Nat.mul_zero] at this
          omega
        · rw [List.getElem?_set_ne (by omega)]
          exact g6 j (by omega) hjN
  · obtain rfl : i = A.length := by omega
    rw [List.take_length, va] at h4
    refine WF @Nat.lt_irrefl ?_
    refine CL_give [0] (s152 m O (by omega)) (.cons _ _ _ _ (shows_u64 rfl h2 ?_ ?_) .nil) ?_
    · rw [u64s_length]; omega
    · rw [List.take_of_length_le (by rw [u64s_length]; omega)]
    refine WW ?_
    refine shv ?_ rfl
    rw [pc_eq hB h3 h4]

/-- integer.small -/
theorem s190 (m : Int) (a d : Nat) (ha : pl a < 1000000) (hd : d < 1000000000) : SpecP (cx m) 190 [eM a, .int .u64 (d : Int)] (eM (a * d)) := by
  refine specP_of (mixed m) (k190 m) (Nat.le_of_ble_eq_true rfl) (X_start ?_)
  unfold c190
  have e : tr [d] = pc 1000000000 d := pc_eq (by omega) (by simp; omega) (by simp [val])
  have h1 := s152 m [d] (by simp)
  rw [e] at h1
  have hp : pl d ≤ 1 := pc_length_le (by omega) (by omega)
  have h2 := s113 m a d ha (by omega)
  unfold eM at h2 ⊢
  refine WW ?_
  refine CL_pure h1 rfl ?_
  refine WW ?_
  refine CL_pure h2 rfl ?_
  refine WW ?_
  exact shv rfl rfl
end Go.Proofs.YtkjnjdcbnelceaaGreatDoor.KA
end

section
/- The small code of functions, as own tools print it; that it is the program's is checked by the kernel. -/
open Go Go.Proofs
set_option linter.unusedVariables false
namespace Go.Proofs.YtkjnjdcbnelceaaGreatDoor.KA
def c114 : C := (C.ops [⟨I.box 1 (O.t 0) false, none, some 1⟩, ⟨I.mv 2 (O.k (AV.str [])), none, some 2⟩]).seq (((C.ops [⟨I.fld 7 1 (O.t 1), none, some 7⟩, ⟨I.loadf 8 false 1 (O.t 7), none, some 8⟩, ⟨I.len 9 (O.t 8), none, some 9⟩, ⟨I.bin 10 BinOp.eql (O.t 9) (O.k (AV.int IntKind.i64 0)), none, some 10⟩]).seq (C.cond (O.t 10) ((C.ops [⟨I.mv 2 (O.k (AV.str [48])), none, some 2⟩]).seq C.ret) C.skip)).seq ((C.ops [⟨I.alloc 3 [AV.nilp, AV.nils] false, none, some 3⟩]).seq (((C.ops [⟨I.fld 11 0 (O.t 1), none, some 11⟩, ⟨I.loadf 12 false 1 (O.t 11), none, some 12⟩]).seq (C.cond (O.t 12) (C.ops [⟨I.call (some 13) (O.k (AV.fn 153 [])) [O.t 3, O.k (AV.int IntKind.u8 45)] false, none, some 13⟩]) C.skip)).seq (((C.ops [⟨I.fld 14 1 (O.t 1), none, some 14⟩, ⟨I.loadf 15 false 1 (O.t 14), none, some 15⟩, ⟨I.call (some 16) (O.k (AV.fn 154 [])) [O.t 15] false, none, some 16⟩]).seq (C.block 0 (C.range (O.t 16) [17, 18] ((C.ops [⟨I.mv 4 (O.t 17), none, some 4⟩]).seq (C.ops [⟨I.mv 5 (O.t 18), none, some 5⟩])) (C.block 1 ((C.ops [⟨I.mv 19 (O.t 5), none, some 19⟩, ⟨I.call (some 20) (O.k (AV.fn 155 [])) [O.t 19, O.k (AV.int IntKind.i64 10)] false, none, some 20⟩, ⟨I.mv 6 (O.t 20), none, some 6⟩]).seq (((C.ops [⟨I.mv 21 (O.t 4), none, some 21⟩, ⟨I.fld 22 1 (O.t 1), none, some 22⟩, ⟨I.loadf 23 false 1 (O.t 22), none, some 23⟩, ⟨I.len 24 (O.t 23), none, some 24⟩, ⟨I.bin 25 BinOp.sub (O.t 24) (O.k (AV.int IntKind.i64 1)), none, some 25⟩, ⟨I.bin 26 BinOp.lss (O.t 21) (O.t 25), none, some 26⟩]).seq (C.cond (O.t 26) (C.ops [⟨I.mv 27 (O.t 6), none, some 27⟩, ⟨I.lens 28 (O.t 27), none, some 28⟩, ⟨I.slcs 29 (O.k (AV.str [48, 48, 48, 48, 48, 48, 48, 48, 48])) (some (O.t 28)) none, none, some 29⟩, ⟨I.call (some 30) (O.k (AV.fn 156 [])) [O.t 3, O.t 29] false, none, some 30⟩]) C.skip)).seq (C.ops [⟨I.mv 31 (O.t 6), none, some 31⟩, ⟨I.call (some 32) (O.k (AV.fn 156 [])) [O.t 3, O.t 31] false, none, some 32⟩]))))))).seq ((C.ops [⟨I.call (some 33) (O.k (AV.fn 157 [])) [O.t 3] false, none, some 33⟩, ⟨I.mv 2 (O.t 33), none, some 2⟩]).seq C.ret)))))
theorem k114 (m : Int) : compF (cx m).P (cx m).gt (fun _ => false) 114 = some (c114, [RV.tmp 2], 34) := by kernel_rfl
def c60 : C := (C.ops [⟨I.mv 4 (O.k (AV.str [])), none, some 4⟩]).seq (((C.ops [⟨I.mv 12 (O.t 0), none, some 12⟩, ⟨I.call (some 13) (O.k (AV.fn 111 [])) [O.t 12, O.k (AV.int IntKind.i64 9)] false, none, some 13⟩, ⟨I.mv 11 (O.t 13), none, some 11⟩, ⟨I.ext 14 (O.t 11) 0, none, some 14⟩, ⟨I.ext 15 (O.t 11) 1, none, some 15⟩, ⟨I.mv 5 (O.t 14), none, some 5⟩, ⟨I.mv 6 (O.t 15), none, some 6⟩]).seq ((C.ops [⟨I.mv 16 (O.t 6), none, some 16⟩]).seq (C.cond (O.t 16) ((C.ops [⟨I.mv 18 (O.t 1), none, some 18⟩, ⟨I.call (some 19) (O.k (AV.fn 111 [])) [O.t 18, O.k (AV.int IntKind.i64 9)] false, none, some 19⟩, ⟨I.mv 17 (O.t 19), none, some 17⟩, ⟨I.ext 20 (O.t 17) 0, none, some 20⟩, ⟨I.ext 21 (O.t 17) 1, none, some 21⟩, ⟨I.mv 7 (O.t 20), none, some 7⟩, ⟨I.mv 8 (O.t 21), none, some 8⟩]).seq ((C.ops [⟨I.mv 22 (O.t 8), none, some 22⟩]).seq (C.cond (O.t 22) ((C.ops [⟨I.mv 23 (O.t 5), none, some 23⟩, ⟨I.mv 24 (O.t 7), none, some 24⟩, ⟨I.bin 25 BinOp.mul (O.t 23) (O.t 24), none, some 25⟩, ⟨I.call (some 26) (O.k (AV.fn 94 [])) [O.t 25] false, none, some 26⟩, ⟨I.mv 4 (O.t 26), none, some 4⟩]).seq C.ret) C.skip))) C.skip))).seq ((C.ops [⟨I.mv 27 (O.t 0), none, some 27⟩, ⟨I.call (some 28) (O.k (AV.fn 112 [])) [O.t 27] false, none, some 28⟩, ⟨I.mv 29 (O.t 1), none, some 29⟩, ⟨I.call (some 30) (O.k (AV.fn 112 [])) [O.t 29] false, none, some 30⟩, ⟨I.alloc 9 [AV.bool false, AV.nils] true, none, some 9⟩, ⟨I.alloc 10 [AV.bool false, AV.nils] true, none, some 10⟩, ⟨I.store 2 (O.t 9) (O.t 28), none, none⟩, ⟨I.store 2 (O.t 10) (O.t 30), none, none⟩]).seq ((C.ops [⟨I.fld 31 0 (O.t 9), none, some 31⟩, ⟨I.load 32 false 1 (O.t 31), none, some 32⟩, ⟨I.fld 33 0 (O.t 10), none, some 33⟩, ⟨I.load 34 false 1 (O.t 33), none, some 34⟩, ⟨I.eqb 35 true (O.t 32) (O.t 34), none, some 35⟩, ⟨I.fld 36 1 (O.t 9), none, some 36⟩, ⟨I.load 37 false 1 (O.t 36), none, some 37⟩, ⟨I.fld 38 1 (O.t 10), none, some 38⟩, ⟨I.load 39 false 1 (O.t 38), none, some 39⟩, ⟨I.call (some 40) (O.k (AV.fn 113 [])) [O.t 37, O.t 39] false, none, some 40⟩, ⟨I.build 41 [AV.bool false, AV.nils] [(0, 1, O.t 35), (1, 1, O.t 40)], none, some 41⟩, ⟨I.call (some 42) (O.k (AV.fn 114 [])) [O.t 41] false, none, some 42⟩, ⟨I.mv 4 (O.t 42), none, some 4⟩]).seq C.ret)))
theorem k60 (m : Int) : compF (cx m).P (cx m).gt (fun t => t == 9 || t == 10 || t == 32 || t == 34 || t == 37 || t == 39) 60 = some (c60, [RV.tmp 4], 43) := by kernel_rfl
def c65 : C := (C.ops [⟨I.mv 4 (O.k (AV.str [])), none, some 4⟩]).seq (((C.ops [⟨I.mv 12 (O.t 0), none, some 12⟩, ⟨I.call (some 13) (O.k (AV.fn 111 [])) [O.t 12, O.k (AV.int IntKind.i64 18)] false, none, some 13⟩, ⟨I.mv 11 (O.t 13), none, some 11⟩, ⟨I.ext 14 (O.t 11) 0, none, some 14⟩, ⟨I.ext 15 (O.t 11) 1, none, some 15⟩, ⟨I.mv 5 (O.t 14), none, some 5⟩, ⟨I.mv 6 (O.t 15), none, some 6⟩]).seq ((C.ops [⟨I.mv 16 (O.t 6), none, some 16⟩]).seq (C.cond (O.t 16) ((C.ops [⟨I.mv 18 (O.t 1), none, some 18⟩, ⟨I.call (some 19) (O.k (AV.fn 111 [])) [O.t 18, O.k (AV.int IntKind.i64 18)] false, none, some 19⟩, ⟨I.mv 17 (O.t 19), none, some 17⟩, ⟨I.ext 20 (O.t 17) 0, none, some 20⟩, ⟨I.ext 21 (O.t 17) 1, none, some 21⟩, ⟨I.mv 7 (O.t 20), none, some 7⟩, ⟨I.mv 8 (O.t 21), none, some 8⟩]).seq ((C.ops [⟨I.mv 22 (O.t 8), none, some 22⟩]).seq (C.cond (O.t 22) ((C.ops [⟨I.mv 23 (O.t 5), none, some 23⟩, ⟨I.mv 24 (O.t 7), none, some 24⟩, ⟨I.bin 25 BinOp.add (O.t 23) (O.t 24), none, some 25⟩, ⟨I.call (some 26) (O.k (AV.fn 94 [])) [O.t 25] false, none, some 26⟩, ⟨I.mv 4 (O.t 26), none, some 4⟩]).seq C.ret) C.skip))) C.skip))).seq ((C.ops [⟨I.mv 27 (O.t 0), none, some 27⟩, ⟨I.call (some 28) (O.k (AV.fn 112 [])) [O.t 27] false, none, some 28⟩, ⟨I.mv 29 (O.t 1), none, some 29⟩, ⟨I.call (some 30) (O.k (AV.fn 112 [])) [O.t 29] false, none, some 30⟩, ⟨I.alloc 9 [AV.bool false, AV.nils] true, none, some 9⟩, ⟨I.alloc 10 [AV.bool false, AV.nils] true, none, some 10⟩, ⟨I.store 2 (O.t 9) (O.t 28), none, none⟩, ⟨I.store 2 (O.t 10) (O.t 30), none, none⟩]).seq (((C.ops [⟨I.fld 31 0 (O.t 9), none, some 31⟩, ⟨I.load 32 false 1 (O.t 31), none, some 32⟩, ⟨I.fld 33 0 (O.t 10), none, some 33⟩, ⟨I.load 34 false 1 (O.t 33), none, some 34⟩, ⟨I.eqb 35 false (O.t 32) (O.t 34), none, some 35⟩]).seq (C.cond (O.t 35) ((C.ops [⟨I.fld 36 0 (O.t 9), none, some 36⟩, ⟨I.load 37 false 1 (O.t 36), none, some 37⟩, ⟨I.fld 38 1 (O.t 9), none, some 38⟩, ⟨I.load 39 false 1 (O.t 38), none, some 39⟩, ⟨I.fld 40 1 (O.t 10), none, some 40⟩, ⟨I.load 41 false 1 (O.t 40), none, some 41⟩, ⟨I.call (some 42) (O.k (AV.fn 120 [])) [O.t 39, O.t 41] false, none, some 42⟩, ⟨I.build 43 [AV.bool false, AV.nils] [(0, 1, O.t 37), (1, 1, O.t 42)], none, some 43⟩, ⟨I.call (some 44) (O.k (AV.fn 114 [])) [O.t 43] false, none, some 44⟩, ⟨I.mv 4 (O.t 44), none, some 4⟩]).seq C.ret) C.skip)).seq (((C.ops [⟨I.fld 45 1 (O.t 9), none, some 45⟩, ⟨I.load 46 false 1 (O.t 45), none, some 46⟩, ⟨I.fld 47 1 (O.t 10), none, some 47⟩, ⟨I.load 48 false 1 (O.t 47), none, some 48⟩, ⟨I.call (some 49) (O.k (AV.fn 121 [])) [O.t 46, O.t 48] false, none, some 49⟩, ⟨I.bin 50 BinOp.lss (O.t 49) (O.k (AV.int IntKind.i64 0)), none, some 50⟩]).seq (C.cond (O.t 50) (C.ops [⟨I.load 51 true 2 (O.t 10), none, some 51⟩, ⟨I.load 52 true 2 (O.t 9), none, some 52⟩, ⟨I.store 2 (O.t 9) (O.t 51), none, none⟩, ⟨I.store 2 (O.t 10) (O.t 52), none, none⟩]) C.skip)).seq ((C.ops [⟨I.fld 53 0 (O.t 9), none, some 53⟩, ⟨I.load 54 false 1 (O.t 53), none, some 54⟩, ⟨I.fld 55 1 (O.t 9), none, some 55⟩, ⟨I.load 56 false 1 (O.t 55), none, some 56⟩, ⟨I.fld 57 1 (O.t 10), none, some 57⟩, ⟨I.load 58 false 1 (O.t 57), none, some 58⟩, ⟨I.call (some 59) (O.k (AV.fn 122 [])) [O.t 56, O.t 58] false, none, some 59⟩, ⟨I.build 60 [AV.bool false, AV.nils] [(0, 1, O.t 54), (1, 1, O.t 59)], none, some 60⟩, ⟨I.call (some 61) (O.k (AV.fn 114 [])) [O.t 60] false, none, some 61⟩, ⟨I.mv 4 (O.t 61), none, some 4⟩]).seq C.ret)))))
theorem k65 (m : Int) : compF (cx m).P (cx m).gt (fun t => t == 9 || t == 10 || t == 32 || t == 34 || t == 37 || t == 39 || t == 41 || t == 46 || t == 48 || t == 51 || t == 52 || t == 54 || t == 56 || t == 58) 65 = some (c65, [RV.tmp 4], 62) := by kernel_rfl
end Go.Proofs.YtkjnjdcbnelceaaGreatDoor.KA
end

section
/- Contracts: an integer is taken apart into pieces of nine digits, and put together. -/
open Go Go.Proofs
set_option linter.unusedSimpArgs false
set_option linter.unusedVariables false
set_option maxHeartbeats 2000000
set_option maxRecDepth 20000
namespace Go.Proofs.YtkjnjdcbnelceaaGreatDoor.KA
open Num

theorem parse_ok (M : Nat) : ∀ (l : List UInt8) (a : Nat), (∀ b ∈ l, 48 ≤ b.toNat ∧ b.toNat ≤ 57) → l.foldl (fun a b => 10 * a + (b.toNat - 48)) a ≤ M → M ≤ 18446744073709551615 → Lib.parseUintM M a l = .ok (l.foldl (fun a b => 10 * a + (b.toNat - 48)) a)
  | [], a, _, _, _ => rfl
  | b :: l, a, h, hM, hM2 => by
    have hb := h b (by simp)
    simp only [List.foldl_cons] at hM ⊢
    have mono : ∀ (l : List UInt8) (x : Nat), x ≤ l.foldl (fun a b => 10 * a + (b.toNat - 48)) x := by
      intro l
      induction l with
      | nil => intro x; exact Nat.le_refl _
      | cons c l ih => intro x; exact Nat.le_trans (by omega) (ih (10 * x + (c.toNat - 48)))
    have := mono l (10 * a + (b.toNat - 48))
    unfold Lib.parseUintM
    rw [if_pos hb, if_neg (by omega), if_neg (by omega), Nat.mul_comm a 10]
    exact parse_ok M l _ (fun x hx => h x (by simp [hx])) hM hM2
/-- strconv.ParseUint, of few digits -/
theorem s151 (m : Int) (s : List UInt8) (h0 : s ≠ []) (hd : ∀ b ∈ s, 48 ≤ b.toNat ∧ b.toNat ≤ 57) (hl : s.length ≤ 19) : SpecP (cx m) 151 [.str s, .int .i64 10, .int .i64 64] (.tuple [.int .u64 (dval s : Int), .nili]) :=
  specP_keeps ⟨Tryz.f151, _, by kernel_rfl, rfl, by kernel_rfl⟩ fun w fz vs hf hg ha => by
    obtain ⟨h1, h2⟩ := ha
    have e : vs = #[.string ⟨⟨s⟩⟩, .int .i64 10, .int .i64 64] := by
      have a0 := h2 0 _ rfl
      have a1 := h2 1 _ rfl
      have a2 := h2 2 _ rfl
      obtain ⟨l⟩ := vs
      match l, h1 with
      | [x, y, z], _ =>
        simp only [Array.getD_eq_getD_getElem?, List.getElem?_toArray, List.getElem?_cons_zero, List.getElem?_cons_succ, Option.getD_some] at a0 a1 a2
        rw [a0.str_eq, a1.int_eq, a2.int_eq]
    subst e
    have hlt : dval s < 10 ^ 19 := Nat.lt_of_lt_of_le (dval_lt hd) (Nat.pow_le_pow_right (by omega) hl)
    have hp : Lib.parseUintB 64 s = .ok (dval s) := by
      unfold Lib.parseUintB
      rw [if_neg h0]
      exact parse_ok _ s 0 hd (by show dval s ≤ _; omega) (by omega)
    refine (Tryz.strconv_ParseUint_10_at64_ok ⟨⟨s⟩⟩ (by show s.length ≤ _; omega) (dval s) hp w).mono ?_
    rintro e w' ⟨rfl, rfl | rfl⟩
    all_goals
      refine ⟨_, rfl, .tuple _ _ rfl (fun i x hx => by
        match i, hx with
        | 0, hx => cases hx; exact .int _ _
        | 1, hx => cases hx; exact .nili
        | n + 2, hx => simp at hx), ?_⟩
    · exact .refl _
    · exact keeps_bytes _ _ _

def eN (n : Int) : AV := .agg [.bool (decide (n < 0)), eM n.natAbs]

/-- integer.open -/
theorem s112 (m : Int) (n : Int) (hl : (Lib.decDigits n.natAbs).length < 1000000) : SpecP (cx m) 112 [.str (Lib.itoa n)] (eN n) := by
  refine specP_of (mixed m) (k112 m) (Nat.le_of_ble_eq_true rfl) (X_start ?_)
  unfold c112
  have hp := s138 m (Lib.itoa n) [45]
  rw [itoa_trim, itoa_minus] at hp
  have hdig := dec_digit n.natAbs
  have hval := dval_dec n.natAbs
  generalize hD : Lib.decDigits n.natAbs = D at *
  have e1 : (D.length : Int).tdiv 9 = ((D.length / 9 : Nat) : Int) := by rw [Int.tdiv_eq_ediv_of_nonneg (by omega)]; omega
  have e2 : ((D.length / 9 : Nat) : Int) + 1 = ((D.length / 9 + 1 : Nat) : Int) := by omega
  refine WW ?_
  refine CL_pure hp rfl ?_
  refine WF (And.intro e1 e2) ?_
  refine ⟨by omega, by omega, by omega, .inr trivial, ?_⟩
  obtain ⟨C, hC⟩ : ∃ C, C = D.length / 9 + 1 := ⟨_, rfl⟩
  rw [← hC]
  refine X_for (fun x : List UInt8 × List Nat × List AV => ⟨[(2, .ref 0 0), (3, .str x.1), (4, .bool (decide (n < 0))), (5, .own 1 1 0 x.2.1.length C)], [some [.bool false, .nils], some (u64s x.2.1 ++ x.2.2)]⟩)
    (fun x => (∀ b ∈ x.1, 48 ≤ b.toNat ∧ b.toNat ≤ 57) ∧ x.1.length < 1000000 ∧ x.2.1.length + (x.1.length + 8) / 9 ≤ C ∧ (∀ y ∈ x.2.1, y < 1000000000) ∧ dval D = dval x.1 * 1000000000 ^ x.2.1.length + val 1000000000 x.2.1 ∧ x.2.2.length = C - x.2.1.length ∧ AV.plainL x.2.2 = true)
    (fun x => x.1.length) (D, [], List.replicate C (.int .u64 0)) ⟨hdig, hl, by simp; omega, by simp, by simp [val], by simp, plainL_of (by intro x hx; rw [List.eq_of_mem_replicate hx]; rfl)⟩ ?_ ?_
  · refine weak_same ?_ ?_
    · simp [lookup]
    · simp [flat1, u64s]
  rintro ⟨S, P, J⟩ R ⟨h1, h2, h3, h4, h5, h6, h7⟩ hR
  try dsimp only at hR ⊢ h1 h2 h3 h4 h5 h6 h7
  have eo : ((u64s P ++ J).drop 0).take (P.length * 1) = u64s P := by rw [List.drop_zero, Nat.mul_one, ← u64s_length P, List.take_left]
  have el : 0 + P.length * 1 ≤ (u64s P ++ J).length := by rw [List.length_append, u64s_length]; omega
  by_cases hS : S = []
  · subst hS
    have h5' : dval D = val 1000000000 P := by rw [h5]; simp [dval]
    refine WF (And.intro @Int.natCast_zero @Int.lt_irrefl) ?_
    refine CL_give [1] (s152 m P (by omega)) (.cons _ _ _ _ (shows_u64 rfl rfl (by omega) ?_) .nil) ?_
    · rw [List.drop_zero, Nat.mul_one] at eo; exact eo
    have ekl : ∀ x y : Option (List AV), killAll [1] [x, y] = [x, none] := fun _ _ => rfl
    refine WF ekl ?_
    refine shv ?_ rfl
    have : tr P = pc 1000000000 n.natAbs := pc_eq (by omega) h4 (by omega)
    rw [this]; rfl
  · have hS0 : 0 < S.length := List.length_pos_iff.2 hS
    have hS0' := eq_true (show (0 : Int) < (S.length : Int) by omega)
    have em : (if (S.length : Int) - 9 < 0 then 0 else (S.length : Int) - 9) = ((S.length - 9 : Nat) : Int) := by split <;> omega
    have ek := eq_true (show S.length - 9 ≤ S.length by omega)
    have hc1 : S.drop (S.length - 9) ≠ [] := by
      intro e; have := congrArg List.length e; simp at this; omega
    have hcl : (S.drop (S.length - 9)).length ≤ 9 := by simp; omega
    have hcd : ∀ b ∈ S.drop (S.length - 9), 48 ≤ b.toNat ∧ b.toNat ≤ 57 := fun b hb => h1 b (List.mem_of_mem_drop hb)
    have hpu := s151 m (S.drop (S.length - 9)) hc1 hcd (by omega)
    have hcv : dval (S.drop (S.length - 9)) < 1000000000 := Nat.lt_of_lt_of_le (dval_lt hcd) (by
      have := Nat.pow_le_pow_right (show 0 < 10 by omega) hcl
      simpa using this)
    have hsp : dval S = dval (S.take (S.length - 9)) * 1000000000 + dval (S.drop (S.length - 9)) := by
      conv => lhs; rw [← List.take_append_drop (S.length - 9) S, dval_append]
      rcases Nat.lt_or_ge S.length 9 with h9 | h9
      · have : S.length - 9 = 0 := by omega
        rw [this]; simp [dval]
      · have : (S.drop (S.length - 9)).length = 9 := by simp; omega
        rw [this]
    have hd' : ∀ b ∈ S.take (S.length - 9), 48 ≤ b.toNat ∧ b.toNat ≤ 57 := fun b hb => h1 b (List.mem_of_mem_take hb)
    have hl' : (S.take (S.length - 9)).length = S.length - 9 := by simp
    generalize hCh : S.drop (S.length - 9) = ch at *
    generalize hS' : S.take (S.length - 9) = S' at *
    have emx : max (P.length + 1) C = C := by omega
    refine WF (And.intro hS0' (And.intro em (And.intro ek hCh))) ?_
    refine CL_pure hpu rfl ?_
    refine WF (And.intro eo (And.intro el (And.intro emx (And.intro hS' ek)))) ?_
    have ecell : (List.take (P.length * 1) (u64s P ++ J) ++ (List.flatMap AV.cells [AV.int IntKind.u64 (dval ch : Int)] ++ List.replicate ((C - (P.length + 1)) * 1) AV.undef)) = u64s (P ++ [dval ch]) ++ List.replicate (C - (P.length + 1)) .undef := by
      rw [List.drop_zero] at eo
      rw [eo, u64s_append, List.append_assoc]
      simp [u64s, AV.cells]
    have ep : AV.plainL (u64s (P ++ [dval ch]) ++ List.replicate (C - (P.length + 1)) .undef) = true := plainL_app (u64s_plain _) (plainL_of (by intro x hx; rw [List.eq_of_mem_replicate hx]; rfl))
    rw [ecell]
    refine ⟨by omega, by omega, hR (S', P ++ [dval ch], List.replicate (C - (P.length + 1)) .undef) _ ⟨hd', by dsimp only; omega, by simp; omega, ?_, ?_, by simp, plainL_of (by intro x hx; rw [List.eq_of_mem_replicate hx]; rfl)⟩ (by dsimp only; omega) ?_⟩
    · intro z hz
      rcases List.mem_append.1 hz with hz | hz
      · exact h4 z hz
      · simp at hz; subst hz; exact hcv
    · dsimp only
      rw [h5, hsp, val_snoc, List.length_append, List.length_singleton, Nat.pow_succ, Nat.add_mul]
      have e1 : dval S' * 1000000000 * 1000000000 ^ P.length = dval S' * (1000000000 ^ P.length * 1000000000) := by rw [Nat.mul_assoc, Nat.mul_comm 1000000000]
      have e2 : dval ch * 1000000000 ^ P.length = 1000000000 ^ P.length * dval ch := Nat.mul_comm _ _
      omega
    · refine weak_pick [0, 2] [[.bool false, .nils], u64s (P ++ [dval ch]) ++ List.replicate (C - (P.length + 1)) .undef] rfl (by decide) (fun i cs hi => ?_) ?_
      · match i, hi with
        | 0, hi => cases hi; exact ⟨rfl, rfl⟩
        | 1, hi => cases hi; exact ⟨rfl, ep⟩
        | n + 2, hi => simp at hi
      · simp [lookup, AV.ren, AV.idsLt]

theorem zipIdx_succ {α : Type} (l : List α) : ∀ k, l.zipIdx (k + 1) = (l.zipIdx k).map fun p => (p.1, p.2 + 1) := by
  induction l with
  | nil => intro k; rfl
  | cons a l ih => intro k; rw [List.zipIdx_cons, List.zipIdx_cons, List.map_cons, ih (k + 1)]
theorem bkP_cons (x : Nat) (l : List Nat) : bkP (x :: l) = ((bkP l).map fun p => (p.1 + 1, p.2)) ++ [(0, x)] := by
  unfold bkP
  rw [List.zipIdx_cons, List.map_cons, List.reverse_cons, zipIdx_succ, List.map_map, ← List.map_reverse, ← List.map_reverse, List.map_map]
  rfl
theorem wrt_cons (x : Nat) (l : List Nat) : wrt (l.length + 1) (bkP (x :: l)) = wrt l.length (bkP l) ++ wr1 (l.length + 1) (0, x) := by
  rw [bkP_cons, wrt_snoc]
  congr 1
  unfold wrt
  rw [List.flatMap_map]
  congr 1
  funext p
  unfold wr1
  simp only
  by_cases h : p.1 + 1 < l.length
  · rw [if_pos (by omega), if_pos h]
  · rw [if_neg (by omega), if_neg h]
theorem wrt_dec : ∀ (l : List Nat), (∀ x ∈ l, x < 1000000000) → l ≠ [] → l.getLast? ≠ some 0 → wrt l.length (bkP l) = Lib.decDigits (val 1000000000 l)
  | [], _, h, _ => absurd rfl h
  | [x], h, _, _ => by
    have hx := h x (by simp)
    have e0 := wrt_cons x []
    rw [show ([] : List Nat).length + 1 = [x].length from rfl] at e0
    rw [e0]
    simp [wrt, bkP, wr1, val, Nat.mod_eq_of_lt hx]
  | x :: y :: l, h, _, h0 => by
    have hx := h x (by simp)
    have ih := wrt_dec (y :: l) (fun z hz => h z (by simp [hz])) (by simp) (by rw [List.getLast?_cons_cons] at h0; exact h0)
    have hv : val 1000000000 (y :: l) ≠ 0 := by
      intro e
      have := pc_val (B := 1000000000) (by omega) (l := y :: l) (fun z hz => h z (by simp [hz])) (by rw [List.getLast?_cons_cons] at h0; exact h0)
      rw [e, pc_zero] at this; cases this
    rw [List.length_cons, wrt_cons x (y :: l), ih]
    have e : wr1 ((y :: l).length + 1) (0, x) = pk 9 x := by
      unfold wr1
      rw [if_pos (by simp), Nat.mod_eq_of_lt hx, pk_pad 9 x (by omega) (by omega)]; rfl
    rw [e, ← dec_pk _ hv 9 x (by omega)]
    congr 1
    have ev : val 1000000000 (x :: y :: l) = x + 1000000000 * val 1000000000 (y :: l) := rfl
    omega
theorem agg2 {w : World} {fz : Nat → Prop} {a b : AV} {v : Value} (h : RF w fz (.agg [a, b]) v) : ∃ x y, v = .agg #[x, y] ∧ RF w fz a x ∧ RF w fz b y := by
  cases h with
  | agg _ vs hl h =>
    obtain ⟨x, y, rfl, h1, h2⟩ := RFs.two ⟨hl, h⟩
    exact ⟨x, y, rfl, h1, h2⟩

/-- integer.number.close -/
theorem s114 (m : Int) (n : Int) (hl : pl n.natAbs < 1000000) (mi : Bool) (hmi : n ≠ 0 → mi = decide (n < 0)) : SpecP (cx m) 114 [.agg [.bool mi, eM n.natAbs]] (.str (Lib.itoa n)) := by
  unfold eM pl at *
  have hB : 2 ≤ 1000000000 := by omega
  by_cases h0 : n = 0
  · subst h0
    rw [show (0 : Int).natAbs = 0 from rfl, pc_zero]
    refine specP_of (mixed m) (k114 m) (Nat.le_of_ble_eq_true rfl) (X_start ?_)
    unfold c114
    refine WF @u64s_nil ?_
    exact shs itoa_zero.symm
  · have hmi := hmi h0
    subst hmi
    refine specP_keeps ⟨Tryz.f114, _, by kernel_rfl, rfl, by kernel_rfl⟩ fun w fz vs hf hg ha => ?_
    obtain ⟨v, rfl, hv⟩ := ha.one
    obtain ⟨x, y, rfl, hx, hy⟩ := agg2 hv
    obtain rfl : x = .bool (decide (n < 0)) := by cases hx; rfl
    have hne : pc 1000000000 n.natAbs ≠ [] := fun e => h0 (by have := (pc_nil hB).1 e; omega)
    obtain ⟨z, hz1, hz2⟩ := pc_last hB n.natAbs (by omega)
    have htx := wrt_dec (pc 1000000000 n.natAbs) (pc_lt hB _) hne (by rw [hz1]; simpa using hz2)
    rw [val_pc hB] at htx
    have hlt := pc_lt hB n.natAbs
    generalize pc 1000000000 n.natAbs = ns at *
    obtain ⟨b, off, cap, rfl, hb, hcap, hc⟩ : ∃ b off cap, y = .slice (some ⟨b, off, none⟩) ns.length cap ∧ fz b ∧ ns.length ≤ cap ∧ ∀ j (hj : j < ns.length), w.cell? ⟨b, off + j, none⟩ = some (.int .u64 (ns[j] : Int)) := by
      have hl' := u64s_length ns
      generalize hxs : u64s ns = xs at hy hl'
      cases hy with
      | slnil => exact absurd (List.eq_nil_of_length_eq_zero (by simpa using hl'.symm)) hne
      | sl _ _ b off cap g hb hc hs hg' hr' =>
        refine ⟨b, off, cap, by rw [hl'], hb, by rw [← hl']; exact hc, fun j hj => ?_⟩
        have hget : (xs.flatMap AV.cells)[j]? = some (.int .u64 (ns[j] : Int)) := by rw [← hxs, u64s_flat, u64s_get _ _ hj]
        rw [hg' j _ hget, (hr' j _ hget).int_eq]
    have htab : ∀ W, RowKit.Below w.heap.size w W → Lib.TabIs Tryz.prog W "internal/strconv.uint64pow10" .u64 Lib.pow10Tab := fun W hW => tab10 (m := m) (hg.mono (fun b hb => hW.block b (hf b hb)) (fun _ h => h))
    refine (close_in m (decide (n < 0)) ns hlt hne (by omega) b off cap w hcap (hf b hb) hc htab).mono ?_
    rintro e w' ⟨rfl, hbl⟩
    refine ⟨_, rfl, ?_, ⟨hbl.os, hbl.tape, hbl.output, hbl.size, fun k hk => hbl.block k hk⟩⟩
    rw [htx]
    have : (if decide (n < 0) = true then [45] else []) ++ Lib.decDigits n.natAbs = Lib.itoa n := by
      by_cases hn : n < 0
      · rw [itoa_neg hn]; simp [hn]
      · rw [itoa_nonneg (by omega)]
        simp only [hn, decide_false, Bool.false_eq_true, if_false, List.nil_append]
        congr 1; omega
    rw [this]
    exact .str _
end Go.Proofs.YtkjnjdcbnelceaaGreatDoor.KA
end

section
/- Contracts: products and sums of integers; the order of rational numbers. -/
open Go Go.Proofs
set_option linter.unusedSimpArgs false
set_option linter.unusedVariables false
set_option maxHeartbeats 2000000
set_option maxRecDepth 20000
namespace Go.Proofs.YtkjnjdcbnelceaaGreatDoor.KA
open Num

/-- How many digits an integer has. -/
def dl (n : Int) : Nat := (Lib.decDigits n.natAbs).length
theorem pl_le (n : Nat) : pl n ≤ (Lib.decDigits n).length := by
  rw [dec_length]
  refine pc_length_le (by omega) (Nat.lt_of_lt_of_le (lt_of_nDigits (Nat.le_refl _)) ?_)
  exact Nat.pow_le_pow_left (by omega) _
theorem dl_itoa (n : Int) : (Lib.itoa n).length ≤ dl n + 1 ∧ dl n ≤ (Lib.itoa n).length := by
  unfold dl
  by_cases h : n < 0
  · rw [itoa_neg h, List.length_cons]; omega
  · rw [itoa_nonneg (by omega), show n.toNat = n.natAbs by omega]; omega
theorem dl_lt (n : Int) : n.natAbs < 10 ^ dl n := by unfold dl; rw [dec_length]; exact lt_of_nDigits (Nat.le_refl _)
theorem dl_le {n : Int} {k : Nat} (hk : 0 < k) (h : n.natAbs < 10 ^ k) : dl n ≤ k := by unfold dl; rw [dec_length]; exact nDigits_le hk h
theorem dl_pos (n : Int) : 0 < dl n := dec_pos _
theorem dl_mul (a b : Int) : dl (a * b) ≤ dl a + dl b := by
  refine dl_le (by have := dl_pos a; omega) ?_
  rw [Int.natAbs_mul, Nat.pow_add]
  exact Nat.mul_lt_mul_of_lt_of_le (dl_lt a) (Nat.le_of_lt (dl_lt b)) (Nat.pow_pos (by omega))
theorem dl_add (a b : Int) : dl (a + b) ≤ max (dl a) (dl b) + 1 := by
  refine dl_le (by omega) ?_
  have h1 := dl_lt a
  have h2 := dl_lt b
  have h3 := Nat.pow_le_pow_right (show 0 < 10 by omega) (Nat.le_max_left (dl a) (dl b))
  have h4 := Nat.pow_le_pow_right (show 0 < 10 by omega) (Nat.le_max_right (dl a) (dl b))
  rw [Nat.pow_succ]
  omega
theorem plN (n : Int) : pl n.natAbs ≤ dl n := pl_le _

/-- integer.Mul -/
theorem s60g (m : Int) (a b : Int) (ha : dl a < 400000) (hb : dl b < 400000) : SpecP (cx m) 60 [.str (Lib.itoa a), .str (Lib.itoa b)] (.str (Lib.itoa (a * b))) := by
  refine specP_of (mixed m) (k60 m) (Nat.le_of_ble_eq_true rfl) (X_start ?_)
  unfold c60
  have qa := s111 m a 9 (by omega)
  have qb := s111 m b 9 (by omega)
  have pa := plN a
  have pb := plN b
  have pab := plN (a * b)
  have dab := dl_mul a b
  have oa := s112 m a (by unfold dl at ha; omega)
  have ob := s112 m b (by unfold dl at hb; omega)
  have ht := s113 m a.natAbs b.natAbs (by omega) (by omega)
  rw [← Int.natAbs_mul] at ht
  have hc := s114 m (a * b) (by omega) (!decide (decide (a < 0) = decide (b < 0))) (by
    intro h0
    have h1 : a ≠ 0 := fun e => h0 (by rw [e]; simp)
    have h2 : b ≠ 0 := fun e => h0 (by rw [e]; simp)
    rcases Int.lt_or_gt_of_ne h1 with h1 | h1 <;> rcases Int.lt_or_gt_of_ne h2 with h2 | h2
    · have := Int.mul_pos_of_neg_of_neg h1 h2
      simp [h1, h2]; omega
    · have := Int.mul_neg_of_neg_of_pos h1 h2
      simp [h1, h2, this, Int.not_lt.2 (Int.le_of_lt h2)]
    · have := Int.mul_neg_of_pos_of_neg h1 h2
      simp [h1, h2, this, Int.not_lt.2 (Int.le_of_lt h1)]
    · have := Int.mul_pos h1 h2
      simp [Int.not_lt.2 (Int.le_of_lt h1), Int.not_lt.2 (Int.le_of_lt h2)]; omega)
  by_cases h1 : (Lib.itoa a).length ≤ 9
  · rw [if_pos h1] at qa
    by_cases h2 : (Lib.itoa b).length ≤ 9
    · rw [if_pos h2] at qb
      have l1 := itoa_len h1
      have l2 := itoa_len h2
      have hm : (a * b).natAbs < 10 ^ 18 := by
        rw [Int.natAbs_mul]
        exact Nat.lt_of_lt_of_le (Nat.mul_lt_mul_of_lt_of_le l1 (Nat.le_of_lt l2) (by omega)) (by omega)
      refine WW ?_
      refine CL_pure qa rfl ?_
      refine WW ?_
      refine CL_pure qb rfl ?_
      refine WW ?_
      refine CL_pure (s94 m (a * b) (by omega) (by omega)) rfl ?_
      refine WW ?_
      exact shs rfl
    · rw [if_neg h2] at qb
      refine WW ?_
      refine CL_pure qa rfl ?_
      refine WW ?_
      refine CL_pure qb rfl ?_
      refine WW ?_
      refine CL_pure oa rfl ?_
      refine WW ?_
      refine CL_pure ob rfl ?_
      refine WF (And.intro @eN.eq_1 @eM.eq_1) ?_
      refine CL_pure ht rfl ?_
      refine WF @eM.eq_1 ?_
      refine CL_pure hc rfl ?_
      refine WW ?_
      exact shs rfl
  · rw [if_neg h1] at qa
    refine WW ?_
    refine CL_pure qa rfl ?_
    refine WW ?_
    refine CL_pure oa rfl ?_
    refine WW ?_
    refine CL_pure ob rfl ?_
    refine WF (And.intro @eN.eq_1 @eM.eq_1) ?_
    refine CL_pure ht rfl ?_
    refine WF @eM.eq_1 ?_
    refine CL_pure hc rfl ?_
    refine WW ?_
    exact shs rfl

/-- integer.Add -/
theorem s65g (m : Int) (a b : Int) (ha : dl a < 400000) (hb : dl b < 400000) : SpecP (cx m) 65 [.str (Lib.itoa a), .str (Lib.itoa b)] (.str (Lib.itoa (a + b))) := by
  refine specP_of (mixed m) (k65 m) (Nat.le_of_ble_eq_true rfl) (X_start ?_)
  unfold c65
  have qa := s111 m a 18 (by omega)
  have qb := s111 m b 18 (by omega)
  have pa := plN a
  have pb := plN b
  have pab := plN (a + b)
  have dab := dl_add a b
  have oa := s112 m a (by unfold dl at ha; omega)
  have ob := s112 m b (by unfold dl at hb; omega)
  have hp := s120 m a.natAbs b.natAbs (by omega) (by omega)
  have ho := s121 m a.natAbs b.natAbs (by unfold pl at pa; omega) (by unfold pl at pb; omega)
  have slow : ∀ mi, (a + b ≠ 0 → mi = decide (a + b < 0)) → SpecP (cx m) 114 [.agg [.bool mi, eM (a + b).natAbs]] (.str (Lib.itoa (a + b))) := fun mi h => s114 m (a + b) (by omega) mi h
  by_cases h1 : (Lib.itoa a).length ≤ 18 ∧ (Lib.itoa b).length ≤ 18
  · obtain ⟨h1, h2⟩ := h1
    rw [if_pos h1] at qa
    rw [if_pos h2] at qb
    have l1 := itoa_len h1
    have l2 := itoa_len h2
    refine WW ?_
    refine CL_pure qa rfl ?_
    refine WW ?_
    refine CL_pure qb rfl ?_
    refine WW ?_
    refine CL_pure (s94 m (a + b) (by omega) (by omega)) rfl ?_
    refine WW ?_
    exact shs rfl
  · have hS : ∀ (P : Prop), P → P := fun _ h => h
    by_cases h3 : (Lib.itoa a).length ≤ 18
    · have h4 : ¬ (Lib.itoa b).length ≤ 18 := fun h => h1 ⟨h3, h⟩
      rw [if_pos h3] at qa
      rw [if_neg h4] at qb
      refine WW ?_
      refine CL_pure qa rfl ?_
      refine WW ?_
      refine CL_pure qb rfl ?_
      refine WW ?_
      refine CL_pure oa rfl ?_
      refine WW ?_
      refine CL_pure ob rfl ?_
      by_cases hs : decide (a < 0) = decide (b < 0)
      · have hs' := eq_true hs
        have hc := slow (decide (a < 0)) (by intro h0; by_cases h5 : a < 0 <;> by_cases h6 : b < 0 <;> simp [h5, h6] at hs ⊢ <;> omega)
        have en : (a + b).natAbs = a.natAbs + b.natAbs := by by_cases h5 : a < 0 <;> by_cases h6 : b < 0 <;> simp [h5, h6] at hs <;> omega
        rw [en] at hc
        refine WF (And.intro @eN.eq_1 (And.intro @eM.eq_1 hs')) ?_
        refine CL_pure hp rfl ?_
        refine WF @eM.eq_1 ?_
        refine CL_pure hc rfl ?_
        refine WW ?_
        exact shs rfl
      · have hs' := eq_false hs
        by_cases hlt : a.natAbs < b.natAbs
        · have ov : ordv a.natAbs b.natAbs < 0 := by unfold ordv; rw [if_pos hlt]; omega
          have hm := s122 m b.natAbs a.natAbs (by omega) (by omega)
          have hc := slow (decide (b < 0)) (by intro h0; by_cases h5 : a < 0 <;> by_cases h6 : b < 0 <;> simp [h5, h6] at hs ⊢ <;> omega)
          have en : (a + b).natAbs = b.natAbs - a.natAbs := by by_cases h5 : a < 0 <;> by_cases h6 : b < 0 <;> simp [h5, h6] at hs <;> omega
          rw [en] at hc
          refine WF (And.intro @eN.eq_1 (And.intro @eM.eq_1 hs')) ?_
          refine CL_pure ho rfl ?_
          refine WF (And.intro ov @eM.eq_1) ?_
          refine CL_pure hm rfl ?_
          refine WF @eM.eq_1 ?_
          refine CL_pure hc rfl ?_
          refine WW ?_
          exact shs rfl
        · have ov : ¬ ordv a.natAbs b.natAbs < 0 := by unfold ordv; rw [if_neg hlt]; split <;> omega
          have hm := s122 m a.natAbs b.natAbs (by omega) (by omega)
          have hc := slow (decide (a < 0)) (by intro h0; by_cases h5 : a < 0 <;> by_cases h6 : b < 0 <;> simp [h5, h6] at hs ⊢ <;> omega)
          have en : (a + b).natAbs = a.natAbs - b.natAbs := by by_cases h5 : a < 0 <;> by_cases h6 : b < 0 <;> simp [h5, h6] at hs <;> omega
          rw [en] at hc
          refine WF (And.intro @eN.eq_1 (And.intro @eM.eq_1 hs')) ?_
          refine CL_pure ho rfl ?_
          refine WF (And.intro ov @eM.eq_1) ?_
          refine CL_pure hm rfl ?_
          refine WF @eM.eq_1 ?_
          refine CL_pure hc rfl ?_
          refine WW ?_
          exact shs rfl
    · rw [if_neg h3] at qa
      refine WW ?_
      refine CL_pure qa rfl ?_
      refine WW ?_
      refine CL_pure oa rfl ?_
      refine WW ?_
      refine CL_pure ob rfl ?_
      by_cases hs : decide (a < 0) = decide (b < 0)
      · have hs' := eq_true hs
        have hc := slow (decide (a < 0)) (by intro h0; by_cases h5 : a < 0 <;> by_cases h6 : b < 0 <;> simp [h5, h6] at hs ⊢ <;> omega)
        have en : (a + b).natAbs = a.natAbs + b.natAbs := by by_cases h5 : a < 0 <;> by_cases h6 : b < 0 <;> simp [h5, h6] at hs <;> omega
        rw [en] at hc
        refine WF (And.intro @eN.eq_1 (And.intro @eM.eq_1 hs')) ?_
        refine CL_pure hp rfl ?_
        refine WF @eM.eq_1 ?_
        refine CL_pure hc rfl ?_
        refine WW ?_
        exact shs rfl
      · have hs' := eq_false hs
        by_cases hlt : a.natAbs < b.natAbs
        · have ov : ordv a.natAbs b.natAbs < 0 := by unfold ordv; rw [if_pos hlt]; omega
          have hm := s122 m b.natAbs a.natAbs (by omega) (by omega)
          have hc := slow (decide (b < 0)) (by intro h0; by_cases h5 : a < 0 <;> by_cases h6 : b < 0 <;> simp [h5, h6] at hs ⊢ <;> omega)
          have en : (a + b).natAbs = b.natAbs - a.natAbs := by by_cases h5 : a < 0 <;> by_cases h6 : b < 0 <;> simp [h5, h6] at hs <;> omega
          rw [en] at hc
          refine WF (And.intro @eN.eq_1 (And.intro @eM.eq_1 hs')) ?_
          refine CL_pure ho rfl ?_
          refine WF (And.intro ov @eM.eq_1) ?_
          refine CL_pure hm rfl ?_
          refine WF @eM.eq_1 ?_
          refine CL_pure hc rfl ?_
          refine WW ?_
          exact shs rfl
        · have ov : ¬ ordv a.natAbs b.natAbs < 0 := by unfold ordv; rw [if_neg hlt]; split <;> omega
          have hm := s122 m a.natAbs b.natAbs (by omega) (by omega)
          have hc := slow (decide (a < 0)) (by intro h0; by_cases h5 : a < 0 <;> by_cases h6 : b < 0 <;> simp [h5, h6] at hs ⊢ <;> omega)
          have en : (a + b).natAbs = a.natAbs - b.natAbs := by by_cases h5 : a < 0 <;> by_cases h6 : b < 0 <;> simp [h5, h6] at hs <;> omega
          rw [en] at hc
          refine WF (And.intro @eN.eq_1 (And.intro @eM.eq_1 hs')) ?_
          refine CL_pure ho rfl ?_
          refine WF (And.intro ov @eM.eq_1) ?_
          refine CL_pure hm rfl ?_
          refine WF @eM.eq_1 ?_
          refine CL_pure hc rfl ?_
          refine WW ?_
          exact shs rfl
end Go.Proofs.YtkjnjdcbnelceaaGreatDoor.KA
end

section
/- Contract: rational.Compare, of numbers of any size. -/
open Go Go.Proofs
set_option linter.unusedSimpArgs false
set_option linter.unusedVariables false
set_option maxHeartbeats 2000000
set_option maxRecDepth 20000
namespace Go.Proofs.YtkjnjdcbnelceaaGreatDoor.KA
open Num

/-- Both parts have at most k digits. -/
def dq (k : Nat) (q : Rat) : Prop := dl q.num ≤ k ∧ dl (q.den : Int) ≤ k
theorem den_itoa (q : Rat) : Lib.decDigits q.den = Lib.itoa (q.den : Int) := by rw [itoa_nonneg (n := (q.den : Int)) (by omega)]; simp
theorem dq_len {k : Nat} {q : Rat} (h : dq k q) : (tq q).length ≤ 2 * k + 2 := by
  obtain ⟨h1, h2⟩ := h
  have := (dl_itoa q.num).1
  unfold tq
  split
  · omega
  · rw [List.length_append, List.length_cons]
    unfold dl at h2
    simp only [Int.natAbs_natCast] at h2
    omega
theorem cm_sgi (a b : Rat) : sgi (a.num * b.den - b.num * a.den) = Geo.cm a b := by
  have l1 := Rat.lt_iff a b
  have l2 := Rat.lt_iff b a
  unfold sgi Geo.cm
  by_cases h : a = b
  · subst h; simp
  · rcases (show a < b ∨ b < a by grind) with h1 | h1
    · have := l1.1 h1
      rw [if_neg h, if_pos h1, if_neg (by omega), if_pos (by omega)]
    · have h3 := l2.1 h1
      have h4 : ¬ a < b := fun h5 => by have := l1.1 h5; omega
      rw [if_neg h, if_neg h4, if_neg (by omega), if_neg (by omega)]

/-- rational.Compare -/
theorem s21g (m : Int) (a b : Rat) (ha : dq 100000 a) (hb : dq 100000 b) : SpecP (cx m) 21 [.str (tq a), .str (tq b)] (.int .i64 (Geo.cm a b)) := by
  by_cases hq : qk a ∧ qk b
  · exact s21 m a b hq.1 hq.2
  refine specP_of (mixed m) (k21 m) (Nat.le_of_ble_eq_true rfl) (X_start ?_)
  unfold c21
  have la := dq_len ha
  have lb := dq_len hb
  have qa := s57 m a (by omega)
  have qb := s57 m b (by omega)
  have pa := s58 m a (by omega)
  have pb := s58 m b (by omega)
  rw [den_itoa] at pa pb
  obtain ⟨a1, a2⟩ := ha
  obtain ⟨b1, b2⟩ := hb
  have m1 := s60g m a.num b.den (by omega) (by omega)
  have m2 := s60g m b.num a.den (by omega) (by omega)
  have hc := s59 m (a.num * b.den) (b.num * a.den)
  rw [cm_sgi] at hc
  refine WF @tq_eq ?_
  refine iteI (fun h => shi (by simp [Geo.cm, h])) (fun h => ?_)
  refine CL_pure qa rfl ?_
  by_cases h1 : qk a
  · have h2 : ¬ qk b := fun h2 => hq ⟨h1, h2⟩
    rw [if_pos h1]
    refine WW ?_
    refine CL_pure qb rfl ?_
    rw [if_neg h2]
    refine WW ?_
    refine CL_pure pa rfl ?_
    refine WW ?_
    refine CL_pure pb rfl ?_
    refine WW ?_
    refine CL_pure m1 rfl ?_
    refine WW ?_
    refine CL_pure m2 rfl ?_
    refine WW ?_
    refine CL_pure hc rfl ?_
    refine WW ?_
    exact shi rfl
  · rw [if_neg h1]
    refine WW ?_
    refine CL_pure pa rfl ?_
    refine WW ?_
    refine CL_pure pb rfl ?_
    refine WW ?_
    refine CL_pure m1 rfl ?_
    refine WW ?_
    refine CL_pure m2 rfl ?_
    refine WW ?_
    refine CL_pure hc rfl ?_
    refine WW ?_
    exact shi rfl
end Go.Proofs.YtkjnjdcbnelceaaGreatDoor.KA
end

section
/- The small code of functions, as own tools print it; that it is the program's is checked by the kernel. -/
open Go Go.Proofs
set_option linter.unusedVariables false
namespace Go.Proofs.YtkjnjdcbnelceaaGreatDoor.KA
def c105 : C := (C.ops [⟨I.mv 4 (O.k (AV.int IntKind.i64 0)), none, some 4⟩]).seq ((C.ops [⟨I.mv 5 (O.t 0), none, some 5⟩, ⟨I.mv 6 (O.t 1), none, some 6⟩, ⟨I.call (some 7) (O.k (AV.fn 144 [])) [O.t 5, O.t 6] false, none, some 7⟩, ⟨I.call (some 8) (O.k (AV.fn 143 [])) [O.t 7] false, none, some 8⟩, ⟨I.mv 4 (O.t 8), none, some 4⟩]).seq C.ret)
theorem k105 (m : Int) : compF (cx m).P (cx m).gt (fun _ => false) 105 = some (c105, [RV.tmp 4], 9) := by kernel_rfl
def c106 : C := (C.ops [⟨I.mv 4 (O.k (AV.str [])), none, some 4⟩]).seq ((C.ops [⟨I.mv 7 (O.t 0), none, some 7⟩, ⟨I.call (some 8) (O.k (AV.fn 145 [])) [O.t 7] false, none, some 8⟩, ⟨I.mv 9 (O.t 1), none, some 9⟩, ⟨I.call (some 10) (O.k (AV.fn 145 [])) [O.t 9] false, none, some 10⟩, ⟨I.mv 0 (O.t 8), none, some 0⟩, ⟨I.mv 1 (O.t 10), none, some 1⟩]).seq ((C.block 0 (((C.ops [⟨I.mv 11 (O.t 1), none, some 11⟩, ⟨I.bin 12 BinOp.neq (O.t 11) (O.k (AV.str [48])), none, some 12⟩]).seq (C.cond (O.t 12) C.skip (C.exit 0))).seq (C.block 1 ((C.ops [⟨I.mv 14 (O.t 0), none, some 14⟩, ⟨I.mv 15 (O.t 1), none, some 15⟩, ⟨I.call (some 16) (O.k (AV.fn 146 [])) [O.t 14, O.t 15] false, none, some 16⟩, ⟨I.mv 13 (O.t 16), none, some 13⟩, ⟨I.ext 17 (O.t 13) 0, none, some 17⟩, ⟨I.ext 18 (O.t 13) 1, none, some 18⟩, ⟨I.mv 5 (O.t 17), none, some 5⟩, ⟨I.mv 6 (O.t 18), none, some 6⟩]).seq (C.ops [⟨I.mv 19 (O.t 1), none, some 19⟩, ⟨I.mv 20 (O.t 6), none, some 20⟩, ⟨I.mv 0 (O.t 19), none, some 0⟩, ⟨I.mv 1 (O.t 20), none, some 1⟩])))).loop).seq ((C.ops [⟨I.mv 21 (O.t 0), none, some 21⟩, ⟨I.mv 4 (O.t 21), none, some 4⟩]).seq C.ret)))
theorem k106 (m : Int) : compF (cx m).P (cx m).gt (fun _ => false) 106 = some (c106, [RV.tmp 4], 22) := by kernel_rfl
def c143 : C := (C.ops [⟨I.mv 2 (O.k (AV.int IntKind.i64 0)), none, some 2⟩]).seq ((C.ops [⟨I.mv 6 (O.t 0), none, some 6⟩, ⟨I.call (some 7) (O.k (AV.fn 140 [])) [O.t 6] false, none, some 7⟩, ⟨I.mv 5 (O.t 7), none, some 5⟩, ⟨I.ext 8 (O.t 5) 0, none, some 8⟩, ⟨I.ext 9 (O.t 5) 1, none, some 9⟩, ⟨I.mv 3 (O.t 8), none, some 3⟩, ⟨I.mv 4 (O.t 9), none, some 4⟩]).seq (((C.ops [⟨I.mv 10 (O.t 3), none, some 10⟩]).seq (C.cond (O.t 10) ((C.ops [⟨I.mv 2 (O.k (AV.int IntKind.i64 (-1))), none, some 2⟩]).seq C.ret) C.skip)).seq (((C.ops [⟨I.mv 11 (O.t 0), none, some 11⟩, ⟨I.bin 12 BinOp.eql (O.t 11) (O.k (AV.str [48])), none, some 12⟩]).seq (C.cond (O.t 12) ((C.ops [⟨I.mv 2 (O.k (AV.int IntKind.i64 0)), none, some 2⟩]).seq C.ret) C.skip)).seq ((C.ops [⟨I.mv 2 (O.k (AV.int IntKind.i64 1)), none, some 2⟩]).seq C.ret))))
theorem k143 (m : Int) : compF (cx m).P (cx m).gt (fun _ => false) 143 = some (c143, [RV.tmp 2], 13) := by kernel_rfl
def c144 : C := (C.ops [⟨I.mv 4 (O.k (AV.str [])), none, some 4⟩]).seq ((C.ops [⟨I.mv 5 (O.t 0), none, some 5⟩, ⟨I.mv 6 (O.t 1), none, some 6⟩, ⟨I.call (some 7) (O.k (AV.fn 193 [])) [O.t 6] false, none, some 7⟩, ⟨I.call (some 8) (O.k (AV.fn 192 [])) [O.t 5, O.t 7] false, none, some 8⟩, ⟨I.mv 4 (O.t 8), none, some 4⟩]).seq C.ret)
theorem k144 (m : Int) : compF (cx m).P (cx m).gt (fun _ => false) 144 = some (c144, [RV.tmp 4], 9) := by kernel_rfl
def c145 : C := (C.ops [⟨I.mv 2 (O.k (AV.str [])), none, some 2⟩]).seq ((C.ops [⟨I.mv 6 (O.t 0), none, some 6⟩, ⟨I.call (some 7) (O.k (AV.fn 140 [])) [O.t 6] false, none, some 7⟩, ⟨I.mv 5 (O.t 7), none, some 5⟩, ⟨I.ext 8 (O.t 5) 0, none, some 8⟩, ⟨I.ext 9 (O.t 5) 1, none, some 9⟩, ⟨I.mv 3 (O.t 8), none, some 3⟩, ⟨I.mv 4 (O.t 9), none, some 4⟩]).seq ((C.ops [⟨I.mv 10 (O.t 4), none, some 10⟩, ⟨I.mv 2 (O.t 10), none, some 2⟩]).seq C.ret))
theorem k145 (m : Int) : compF (cx m).P (cx m).gt (fun _ => false) 145 = some (c145, [RV.tmp 2], 11) := by kernel_rfl
def c146 : C := (C.ops [⟨I.mv 4 (O.k (AV.str [])), none, some 4⟩, ⟨I.mv 5 (O.k (AV.str [])), none, some 5⟩]).seq ((C.ops [⟨I.mv 19 (O.t 0), none, some 19⟩, ⟨I.call (some 20) (O.k (AV.fn 194 [])) [O.t 19] false, none, some 20⟩, ⟨I.mv 18 (O.t 20), none, some 18⟩, ⟨I.ext 21 (O.t 18) 0, none, some 21⟩, ⟨I.ext 22 (O.t 18) 1, none, some 22⟩, ⟨I.mv 6 (O.t 21), none, some 6⟩, ⟨I.mv 7 (O.t 22), none, some 7⟩]).seq ((C.ops [⟨I.mv 24 (O.t 1), none, some 24⟩, ⟨I.call (some 25) (O.k (AV.fn 194 [])) [O.t 24] false, none, some 25⟩, ⟨I.mv 23 (O.t 25), none, some 23⟩, ⟨I.ext 26 (O.t 23) 0, none, some 26⟩, ⟨I.ext 27 (O.t 23) 1, none, some 27⟩, ⟨I.mv 8 (O.t 26), none, some 8⟩, ⟨I.mv 9 (O.t 27), none, some 9⟩]).seq (((C.ops [⟨I.mv 28 (O.t 7), none, some 28⟩, ⟨I.mv 29 (O.t 28), none, some 29⟩, ⟨I.mv 30 (O.t 9), some (29, true), some 30⟩, ⟨I.pick 31 (O.t 29) (O.t 30) (O.k (AV.bool false)), none, some 31⟩]).seq (C.cond (O.t 31) ((C.ops [⟨I.mv 32 (O.t 6), none, some 32⟩, ⟨I.mv 33 (O.t 8), none, some 33⟩, ⟨I.bin 34 BinOp.quo (O.t 32) (O.t 33), none, some 34⟩, ⟨I.mv 35 (O.t 6), none, some 35⟩, ⟨I.mv 36 (O.t 8), none, some 36⟩, ⟨I.bin 37 BinOp.rem (O.t 35) (O.t 36), none, some 37⟩, ⟨I.mv 10 (O.t 34), none, some 10⟩, ⟨I.mv 11 (O.t 37), none, some 11⟩]).seq (((C.ops [⟨I.mv 38 (O.t 11), none, some 38⟩, ⟨I.bin 39 BinOp.lss (O.t 38) (O.k (AV.int IntKind.i64 0)), none, some 39⟩]).seq (C.cond (O.t 39) ((C.ops [⟨I.mv 40 (O.t 11), none, some 40⟩, ⟨I.mv 41 (O.t 8), none, some 41⟩, ⟨I.mv 42 (O.t 8), none, some 42⟩, ⟨I.neg 43 (O.t 42), none, some 43⟩, ⟨I.max 44 (O.t 41) (O.t 43), none, some 44⟩, ⟨I.bin 45 BinOp.add (O.t 40) (O.t 44), none, some 45⟩, ⟨I.mv 11 (O.t 45), none, some 11⟩]).seq (C.ops [⟨I.mv 46 (O.t 6), none, some 46⟩, ⟨I.mv 47 (O.t 11), none, some 47⟩, ⟨I.bin 48 BinOp.sub (O.t 46) (O.t 47), none, some 48⟩, ⟨I.mv 49 (O.t 8), none, some 49⟩, ⟨I.bin 50 BinOp.quo (O.t 48) (O.t 49), none, some 50⟩, ⟨I.mv 10 (O.t 50), none, some 10⟩])) C.skip)).seq ((C.ops [⟨I.mv 51 (O.t 10), none, some 51⟩, ⟨I.call (some 52) (O.k (AV.fn 195 [])) [O.t 51] false, none, some 52⟩, ⟨I.mv 53 (O.t 11), none, some 53⟩, ⟨I.call (some 54) (O.k (AV.fn 195 [])) [O.t 53] false, none, some 54⟩, ⟨I.mv 4 (O.t 52), none, some 4⟩, ⟨I.mv 5 (O.t 54), none, some 5⟩]).seq C.ret))) C.skip)).seq ((C.ops [⟨I.mv 56 (O.t 0), none, some 56⟩, ⟨I.call (some 57) (O.k (AV.fn 140 [])) [O.t 56] false, none, some 57⟩, ⟨I.mv 55 (O.t 57), none, some 55⟩, ⟨I.ext 58 (O.t 55) 0, none, some 58⟩, ⟨I.ext 59 (O.t 55) 1, none, some 59⟩, ⟨I.mv 12 (O.t 58), none, some 12⟩, ⟨I.mv 13 (O.t 59), none, some 13⟩]).seq ((C.ops [⟨I.mv 61 (O.t 1), none, some 61⟩, ⟨I.call (some 62) (O.k (AV.fn 140 [])) [O.t 61] false, none, some 62⟩, ⟨I.mv 60 (O.t 62), none, some 60⟩, ⟨I.ext 63 (O.t 60) 0, none, some 63⟩, ⟨I.ext 64 (O.t 60) 1, none, some 64⟩, ⟨I.mv 14 (O.t 63), none, some 14⟩, ⟨I.mv 15 (O.t 64), none, some 15⟩]).seq ((C.ops [⟨I.mv 66 (O.t 13), none, some 66⟩, ⟨I.call (some 67) (O.k (AV.fn 197 [])) [O.t 66] false, none, some 67⟩, ⟨I.mv 68 (O.t 15), none, some 68⟩, ⟨I.call (some 69) (O.k (AV.fn 197 [])) [O.t 68] false, none, some 69⟩, ⟨I.call (some 70) (O.k (AV.fn 196 [])) [O.t 67, O.t 69] false, none, some 70⟩, ⟨I.mv 65 (O.t 70), none, some 65⟩, ⟨I.ext 71 (O.t 65) 0, none, some 71⟩, ⟨I.ext 72 (O.t 65) 1, none, some 72⟩, ⟨I.mv 16 (O.t 71), none, some 16⟩, ⟨I.mv 17 (O.t 72), none, some 17⟩]).seq (((C.ops [⟨I.mv 73 (O.t 12), none, some 73⟩, ⟨I.mv 74 (O.t 73), none, some 74⟩, ⟨I.mv 75 (O.t 17), some (74, true), some 75⟩, ⟨I.len 76 (O.t 75), some (74, true), some 76⟩, ⟨I.bin 77 BinOp.gtr (O.t 76) (O.k (AV.int IntKind.i64 0)), some (74, true), some 77⟩, ⟨I.pick 78 (O.t 74) (O.t 77) (O.k (AV.bool false)), none, some 78⟩]).seq (C.cond (O.t 78) (C.ops [⟨I.mv 79 (O.t 16), none, some 79⟩, ⟨I.bsl 80 1 [O.k (AV.int IntKind.i64 1)] false, none, some 80⟩, ⟨I.call (some 81) (O.k (AV.fn 198 [])) [O.t 79, O.t 80, O.k (AV.int IntKind.i64 1), O.k (AV.int IntKind.i64 0)] false, none, some 81⟩, ⟨I.mv 82 (O.t 15), none, some 82⟩, ⟨I.call (some 83) (O.k (AV.fn 197 [])) [O.t 82] false, none, some 83⟩, ⟨I.mv 84 (O.t 17), none, some 84⟩, ⟨I.call (some 85) (O.k (AV.fn 198 [])) [O.t 83, O.t 84, O.k (AV.int IntKind.i64 (-1)), O.k (AV.int IntKind.i64 0)] false, none, some 85⟩, ⟨I.mv 16 (O.t 81), none, some 16⟩, ⟨I.mv 17 (O.t 85), none, some 17⟩]) C.skip)).seq ((C.ops [⟨I.mv 86 (O.t 12), none, some 86⟩, ⟨I.mv 87 (O.t 14), none, some 87⟩, ⟨I.eqb 88 true (O.t 86) (O.t 87), none, some 88⟩, ⟨I.mv 89 (O.t 16), none, some 89⟩, ⟨I.call (some 90) (O.k (AV.fn 199 [])) [O.t 88, O.t 89] false, none, some 90⟩, ⟨I.mv 91 (O.t 17), none, some 91⟩, ⟨I.call (some 92) (O.k (AV.fn 199 [])) [O.k (AV.bool false), O.t 91] false, none, some 92⟩, ⟨I.mv 4 (O.t 90), none, some 4⟩, ⟨I.mv 5 (O.t 92), none, some 5⟩]).seq C.ret))))))))
theorem k146 (m : Int) : compF (cx m).P (cx m).gt (fun _ => false) 146 = some (c146, [RV.tmp 4, RV.tmp 5], 93) := by kernel_rfl
def c192 : C := (C.ops [⟨I.mv 4 (O.k (AV.str [])), none, some 4⟩]).seq ((C.ops [⟨I.mv 16 (O.t 0), none, some 16⟩, ⟨I.call (some 17) (O.k (AV.fn 194 [])) [O.t 16] false, none, some 17⟩, ⟨I.mv 15 (O.t 17), none, some 15⟩, ⟨I.ext 18 (O.t 15) 0, none, some 18⟩, ⟨I.ext 19 (O.t 15) 1, none, some 19⟩, ⟨I.mv 5 (O.t 18), none, some 5⟩, ⟨I.mv 6 (O.t 19), none, some 6⟩]).seq ((C.ops [⟨I.mv 21 (O.t 1), none, some 21⟩, ⟨I.call (some 22) (O.k (AV.fn 194 [])) [O.t 21] false, none, some 22⟩, ⟨I.mv 20 (O.t 22), none, some 20⟩, ⟨I.ext 23 (O.t 20) 0, none, some 23⟩, ⟨I.ext 24 (O.t 20) 1, none, some 24⟩, ⟨I.mv 7 (O.t 23), none, some 7⟩, ⟨I.mv 8 (O.t 24), none, some 8⟩]).seq (((C.ops [⟨I.mv 25 (O.t 6), none, some 25⟩, ⟨I.mv 26 (O.t 25), none, some 26⟩, ⟨I.mv 27 (O.t 8), some (26, true), some 27⟩, ⟨I.pick 28 (O.t 26) (O.t 27) (O.k (AV.bool false)), none, some 28⟩]).seq (C.cond (O.t 28) ((C.ops [⟨I.mv 29 (O.t 5), none, some 29⟩, ⟨I.mv 30 (O.t 7), none, some 30⟩, ⟨I.bin 31 BinOp.add (O.t 29) (O.t 30), none, some 31⟩, ⟨I.call (some 32) (O.k (AV.fn 195 [])) [O.t 31] false, none, some 32⟩, ⟨I.mv 4 (O.t 32), none, some 4⟩]).seq C.ret) C.skip)).seq ((C.ops [⟨I.mv 34 (O.t 0), none, some 34⟩, ⟨I.call (some 35) (O.k (AV.fn 140 [])) [O.t 34] false, none, some 35⟩, ⟨I.mv 33 (O.t 35), none, some 33⟩, ⟨I.ext 36 (O.t 33) 0, none, some 36⟩, ⟨I.ext 37 (O.t 33) 1, none, some 37⟩, ⟨I.mv 9 (O.t 36), none, some 9⟩, ⟨I.mv 10 (O.t 37), none, some 10⟩]).seq ((C.ops [⟨I.mv 39 (O.t 1), none, some 39⟩, ⟨I.call (some 40) (O.k (AV.fn 140 [])) [O.t 39] false, none, some 40⟩, ⟨I.mv 38 (O.t 40), none, some 38⟩, ⟨I.ext 41 (O.t 38) 0, none, some 41⟩, ⟨I.ext 42 (O.t 38) 1, none, some 42⟩, ⟨I.mv 11 (O.t 41), none, some 11⟩, ⟨I.mv 12 (O.t 42), none, some 12⟩]).seq ((C.ops [⟨I.mv 43 (O.t 10), none, some 43⟩, ⟨I.call (some 44) (O.k (AV.fn 197 [])) [O.t 43] false, none, some 44⟩, ⟨I.mv 45 (O.t 12), none, some 45⟩, ⟨I.call (some 46) (O.k (AV.fn 197 [])) [O.t 45] false, none, some 46⟩, ⟨I.mv 13 (O.t 44), none, some 13⟩, ⟨I.mv 14 (O.t 46), none, some 14⟩]).seq ((C.block 0 ((C.ops [⟨I.mv 48 (O.t 9), none, some 48⟩, ⟨I.mv 49 (O.t 11), none, some 49⟩, ⟨I.eqb 50 false (O.t 48) (O.t 49), none, some 50⟩, ⟨I.mv 47 (O.t 50), none, some 47⟩]).seq (C.cond (O.t 47) ((C.ops [⟨I.mv 51 (O.t 9), none, some 51⟩, ⟨I.mv 52 (O.t 13), none, some 52⟩, ⟨I.mv 53 (O.t 14), none, some 53⟩, ⟨I.call (some 54) (O.k (AV.fn 198 [])) [O.t 52, O.t 53, O.k (AV.int IntKind.i64 1), O.k (AV.int IntKind.i64 0)] false, none, some 54⟩, ⟨I.call (some 55) (O.k (AV.fn 199 [])) [O.t 51, O.t 54] false, none, some 55⟩, ⟨I.mv 4 (O.t 55), none, some 4⟩]).seq C.ret) ((C.ops [⟨I.mv 57 (O.t 13), none, some 57⟩, ⟨I.mv 58 (O.t 14), none, some 58⟩, ⟨I.call (some 59) (O.k (AV.fn 222 [])) [O.t 57, O.t 58] false, none, some 59⟩, ⟨I.mv 56 (O.t 59), none, some 56⟩]).seq (C.cond (O.t 56) ((C.ops [⟨I.mv 60 (O.t 11), none, some 60⟩, ⟨I.mv 61 (O.t 14), none, some 61⟩, ⟨I.mv 62 (O.t 13), none, some 62⟩, ⟨I.call (some 63) (O.k (AV.fn 198 [])) [O.t 61, O.t 62, O.k (AV.int IntKind.i64 (-1)), O.k (AV.int IntKind.i64 0)] false, none, some 63⟩, ⟨I.call (some 64) (O.k (AV.fn 199 [])) [O.t 60, O.t 63] false, none, some 64⟩, ⟨I.mv 4 (O.t 64), none, some 4⟩]).seq C.ret) C.skip))))).seq ((C.ops [⟨I.mv 65 (O.t 9), none, some 65⟩, ⟨I.mv 66 (O.t 13), none, some 66⟩, ⟨I.mv 67 (O.t 14), none, some 67⟩, ⟨I.call (some 68) (O.k (AV.fn 198 [])) [O.t 66, O.t 67, O.k (AV.int IntKind.i64 (-1)), O.k (AV.int IntKind.i64 0)] false, none, some 68⟩, ⟨I.call (some 69) (O.k (AV.fn 199 [])) [O.t 65, O.t 68] false, none, some 69⟩, ⟨I.mv 4 (O.t 69), none, some 4⟩]).seq C.ret))))))))
theorem k192 (m : Int) : compF (cx m).P (cx m).gt (fun _ => false) 192 = some (c192, [RV.tmp 4], 70) := by kernel_rfl
def c193 : C := (C.ops [⟨I.mv 2 (O.k (AV.str [])), none, some 2⟩]).seq ((C.ops [⟨I.mv 6 (O.t 0), none, some 6⟩, ⟨I.call (some 7) (O.k (AV.fn 140 [])) [O.t 6] false, none, some 7⟩, ⟨I.mv 5 (O.t 7), none, some 5⟩, ⟨I.ext 8 (O.t 5) 0, none, some 8⟩, ⟨I.ext 9 (O.t 5) 1, none, some 9⟩, ⟨I.mv 3 (O.t 8), none, some 3⟩, ⟨I.mv 4 (O.t 9), none, some 4⟩]).seq (((C.ops [⟨I.mv 10 (O.t 3), none, some 10⟩, ⟨I.mv 11 (O.t 10), none, some 11⟩, ⟨I.mv 12 (O.t 0), some (11, false), some 12⟩, ⟨I.bin 13 BinOp.eql (O.t 12) (O.k (AV.str [48])), some (11, false), some 13⟩, ⟨I.pick 14 (O.t 11) (O.k (AV.bool true)) (O.t 13), none, some 14⟩]).seq (C.cond (O.t 14) ((C.ops [⟨I.mv 15 (O.t 4), none, some 15⟩, ⟨I.mv 2 (O.t 15), none, some 2⟩]).seq C.ret) C.skip)).seq ((C.ops [⟨I.mv 16 (O.t 4), none, some 16⟩, ⟨I.bin 17 BinOp.add (O.k (AV.str [45])) (O.t 16), none, some 17⟩, ⟨I.mv 2 (O.t 17), none, some 2⟩]).seq C.ret)))
theorem k193 (m : Int) : compF (cx m).P (cx m).gt (fun _ => false) 193 = some (c193, [RV.tmp 2], 18) := by kernel_rfl
def c194 : C := (C.ops [⟨I.mv 2 (O.k (AV.int IntKind.i64 0)), none, some 2⟩, ⟨I.mv 3 (O.k (AV.bool false)), none, some 3⟩]).seq ((C.ops [⟨I.mv 7 (O.t 0), none, some 7⟩, ⟨I.call (some 8) (O.k (AV.fn 140 [])) [O.t 7] false, none, some 8⟩, ⟨I.mv 6 (O.t 8), none, some 6⟩, ⟨I.ext 9 (O.t 6) 0, none, some 9⟩, ⟨I.ext 10 (O.t 6) 1, none, some 10⟩, ⟨I.mv 4 (O.t 9), none, some 4⟩, ⟨I.mv 5 (O.t 10), none, some 5⟩]).seq (((C.ops [⟨I.mv 11 (O.t 5), none, some 11⟩, ⟨I.lens 12 (O.t 11), none, some 12⟩, ⟨I.bin 13 BinOp.gtr (O.t 12) (O.k (AV.int IntKind.i64 17)), none, some 13⟩]).seq (C.cond (O.t 13) ((C.ops [⟨I.mv 2 (O.k (AV.int IntKind.i64 0)), none, some 2⟩, ⟨I.mv 3 (O.k (AV.bool false)), none, some 3⟩]).seq C.ret) C.skip)).seq ((C.ops [⟨I.mv 14 (O.t 0), none, some 14⟩, ⟨I.call (some 15) (O.k (AV.fn 223 [])) [O.t 14] false, none, some 15⟩, ⟨I.ext 16 (O.t 15) 0, none, some 16⟩, ⟨I.ext 17 (O.t 15) 1, none, some 17⟩, ⟨I.mv 2 (O.t 16), none, some 2⟩, ⟨I.mv 3 (O.t 17), none, some 3⟩]).seq C.ret)))
theorem k194 (m : Int) : compF (cx m).P (cx m).gt (fun _ => false) 194 = some (c194, [RV.tmp 2, RV.tmp 3], 18) := by kernel_rfl
def c195 : C := (C.ops [⟨I.mv 2 (O.k (AV.str [])), none, some 2⟩]).seq ((C.ops [⟨I.mv 3 (O.t 0), none, some 3⟩, ⟨I.call (some 4) (O.k (AV.fn 116 [])) [O.t 3] false, none, some 4⟩, ⟨I.mv 2 (O.t 4), none, some 2⟩]).seq C.ret)
theorem k195 (m : Int) : compF (cx m).P (cx m).gt (fun _ => false) 195 = some (c195, [RV.tmp 2], 5) := by kernel_rfl
def c196 : C := (C.ops [⟨I.mv 4 (O.k AV.nils), none, some 4⟩, ⟨I.mv 5 (O.k AV.nils), none, some 5⟩]).seq ((C.ops [⟨I.mv 12 (O.t 0), none, some 12⟩, ⟨I.len 13 (O.t 12), none, some 13⟩, ⟨I.mksl 14 1 8 [AV.int IntKind.i64 0] (O.t 13) (O.t 13), none, some 14⟩, ⟨I.mv 6 (O.t 14), none, some 6⟩]).seq ((C.ops [⟨I.mv 7 (O.k AV.nils), none, some 7⟩]).seq (((C.ops [⟨I.mv 15 (O.t 0), none, some 15⟩, ⟨I.len 16 (O.t 15), none, some 16⟩, ⟨I.bin 17 BinOp.sub (O.t 16) (O.k (AV.int IntKind.i64 1)), none, some 17⟩, ⟨I.mv 8 (O.t 17), none, some 8⟩]).seq (C.block 0 (((C.ops [⟨I.mv 18 (O.t 8), none, some 18⟩, ⟨I.bin 19 BinOp.geq (O.t 18) (O.k (AV.int IntKind.i64 0)), none, some 19⟩]).seq (C.cond (O.t 19) C.skip (C.exit 0))).seq ((C.block 1 ((C.ops [⟨I.mv 22 (O.t 0), none, some 22⟩, ⟨I.mv 23 (O.t 8), none, some 23⟩, ⟨I.idxa 24 1 none (O.t 22) (O.t 23), none, some 24⟩, ⟨I.loadf 25 false 1 (O.t 24), none, some 25⟩, ⟨I.bsl 26 1 [O.t 25] true, none, some 26⟩, ⟨I.mv 27 (O.t 7), none, some 27⟩, ⟨I.append 28 1 8 (O.t 26) (O.t 27) true, none, some 28⟩, ⟨I.call (some 29) (O.k (AV.fn 224 [])) [O.t 28] true, none, some 29⟩, ⟨I.mv 7 (O.t 29), none, some 7⟩]).seq ((C.ops [⟨I.mv 9 (O.k (AV.int IntKind.i64 0)), none, some 9⟩, ⟨I.mv 10 (O.k (AV.int IntKind.i64 9999)), none, some 10⟩]).seq ((C.block 2 (((C.ops [⟨I.mv 30 (O.t 9), none, some 30⟩, ⟨I.mv 31 (O.t 10), none, some 31⟩, ⟨I.bin 32 BinOp.lss (O.t 30) (O.t 31), none, some 32⟩]).seq (C.cond (O.t 32) C.skip (C.exit 2))).seq (C.block 3 ((C.ops [⟨I.mv 33 (O.t 9), none, some 33⟩, ⟨I.mv 34 (O.t 10), none, some 34⟩, ⟨I.bin 35 BinOp.add (O.t 33) (O.t 34), none, some 35⟩, ⟨I.bin 36 BinOp.add (O.t 35) (O.k (AV.int IntKind.i64 1)), none, some 36⟩, ⟨I.bin 37 BinOp.quo (O.t 36) (O.k (AV.int IntKind.i64 2)), none, some 37⟩, ⟨I.mv 11 (O.t 37), none, some 11⟩]).seq ((C.ops [⟨I.mv 38 (O.t 7), none, some 38⟩, ⟨I.mv 39 (O.t 1), none, some 39⟩, ⟨I.mv 40 (O.t 11), none, some 40⟩, ⟨I.call (some 41) (O.k (AV.fn 198 [])) [O.k AV.nils, O.t 39, O.t 40, O.k (AV.int IntKind.i64 0)] false, none, some 41⟩, ⟨I.call (some 42) (O.k (AV.fn 222 [])) [O.t 38, O.t 41] false, none, some 42⟩]).seq (C.cond (O.t 42) (C.ops [⟨I.mv 43 (O.t 11), none, some 43⟩, ⟨I.bin 44 BinOp.sub (O.t 43) (O.k (AV.int IntKind.i64 1)), none, some 44⟩, ⟨I.mv 10 (O.t 44), none, some 10⟩]) (C.ops [⟨I.mv 45 (O.t 11), none, some 45⟩, ⟨I.mv 9 (O.t 45), none, some 9⟩])))))).loop).seq ((C.ops [⟨I.mv 46 (O.t 6), none, some 46⟩, ⟨I.mv 47 (O.t 8), none, some 47⟩, ⟨I.mv 48 (O.t 9), none, some 48⟩, ⟨I.idxa 49 1 none (O.t 46) (O.t 47), none, some 49⟩, ⟨I.store 1 (O.t 49) (O.t 48), none, none⟩]).seq (C.ops [⟨I.mv 50 (O.t 7), none, some 50⟩, ⟨I.mv 51 (O.t 1), none, some 51⟩, ⟨I.mv 52 (O.t 9), none, some 52⟩, ⟨I.neg 53 (O.t 52), none, some 53⟩, ⟨I.call (some 54) (O.k (AV.fn 198 [])) [O.t 50, O.t 51, O.t 53, O.k (AV.int IntKind.i64 0)] false, none, some 54⟩, ⟨I.mv 7 (O.t 54), none, some 7⟩])))))).seq (C.ops [⟨I.mv 20 (O.t 8), none, some 20⟩, ⟨I.bin 21 BinOp.sub (O.t 20) (O.k (AV.int IntKind.i64 1)), none, some 21⟩, ⟨I.mv 8 (O.t 21), none, some 8⟩]))).loop)).seq ((C.ops [⟨I.mv 55 (O.t 6), none, some 55⟩, ⟨I.call (some 56) (O.k (AV.fn 224 [])) [O.t 55] true, none, some 56⟩, ⟨I.mv 57 (O.t 7), none, some 57⟩, ⟨I.mv 4 (O.t 56), none, some 4⟩, ⟨I.mv 5 (O.t 57), none, some 5⟩]).seq C.ret))))
theorem k196 (m : Int) : compF (cx m).P (cx m).gt (fun t => t == 26 || t == 28 || t == 29 || t == 56) 196 = some (c196, [RV.tmp 4, RV.tmp 5], 58) := by kernel_rfl
def c197 : C := (C.ops [⟨I.mv 2 (O.k AV.nils), none, some 2⟩]).seq ((C.ops [⟨I.mv 3 (O.k AV.nils), none, some 3⟩]).seq (((C.ops [⟨I.mv 7 (O.t 0), none, some 7⟩, ⟨I.lens 8 (O.t 7), none, some 8⟩, ⟨I.mv 4 (O.t 8), none, some 4⟩]).seq (C.block 0 (((C.ops [⟨I.mv 9 (O.t 4), none, some 9⟩, ⟨I.bin 10 BinOp.gtr (O.t 9) (O.k (AV.int IntKind.i64 0)), none, some 10⟩]).seq (C.cond (O.t 10) C.skip (C.exit 0))).seq ((C.block 1 ((C.ops [⟨I.mv 5 (O.k (AV.int IntKind.i64 0)), none, some 5⟩]).seq (((C.ops [⟨I.mv 13 (O.t 4), none, some 13⟩, ⟨I.bin 14 BinOp.sub (O.t 13) (O.k (AV.int IntKind.i64 4)), none, some 14⟩, ⟨I.max 15 (O.k (AV.int IntKind.i64 0)) (O.t 14), none, some 15⟩, ⟨I.mv 6 (O.t 15), none, some 6⟩]).seq (C.block 2 (((C.ops [⟨I.mv 16 (O.t 6), none, some 16⟩, ⟨I.mv 17 (O.t 4), none, some 17⟩, ⟨I.bin 18 BinOp.lss (O.t 16) (O.t 17), none, some 18⟩]).seq (C.cond (O.t 18) C.skip (C.exit 2))).seq ((C.block 3 (C.ops [⟨I.mv 21 (O.t 5), none, some 21⟩, ⟨I.bin 22 BinOp.mul (O.k (AV.int IntKind.i64 10)) (O.t 21), none, some 22⟩, ⟨I.mv 23 (O.t 0), none, some 23⟩, ⟨I.mv 24 (O.t 6), none, some 24⟩, ⟨I.idx 25 (O.t 23) (O.t 24), none, some 25⟩, ⟨I.conv 26 IntKind.i64 (O.t 25), none, some 26⟩, ⟨I.bin 27 BinOp.add (O.t 22) (O.t 26), none, some 27⟩, ⟨I.bin 28 BinOp.sub (O.t 27) (O.k (AV.int IntKind.i64 48)), none, some 28⟩, ⟨I.mv 5 (O.t 28), none, some 5⟩])).seq (C.ops [⟨I.mv 19 (O.t 6), none, some 19⟩, ⟨I.bin 20 BinOp.add (O.t 19) (O.k (AV.int IntKind.i64 1)), none, some 20⟩, ⟨I.mv 6 (O.t 20), none, some 6⟩]))).loop)).seq (C.ops [⟨I.mv 29 (O.t 3), none, some 29⟩, ⟨I.mv 30 (O.t 5), none, some 30⟩, ⟨I.bsl 31 1 [O.t 30] false, none, some 31⟩, ⟨I.append 32 1 8 (O.t 29) (O.t 31) true, none, some 32⟩, ⟨I.mv 3 (O.t 32), none, some 3⟩])))).seq (C.ops [⟨I.mv 11 (O.t 4), none, some 11⟩, ⟨I.bin 12 BinOp.sub (O.t 11) (O.k (AV.int IntKind.i64 4)), none, some 12⟩, ⟨I.mv 4 (O.t 12), none, some 4⟩]))).loop)).seq ((C.ops [⟨I.mv 33 (O.t 3), none, some 33⟩, ⟨I.call (some 34) (O.k (AV.fn 224 [])) [O.t 33] true, none, some 34⟩, ⟨I.mv 2 (O.t 34), none, some 2⟩]).seq C.ret)))
theorem k197 (m : Int) : compF (cx m).P (cx m).gt (fun t => t == 32 || t == 34) 197 = some (c197, [RV.tmp 2], 35) := by kernel_rfl
def c198 : C := (C.ops [⟨I.mv 8 (O.k AV.nils), none, some 8⟩]).seq ((C.ops [⟨I.bsl 11 1 [] false, none, some 11⟩, ⟨I.mv 12 (O.t 0), none, some 12⟩, ⟨I.append 13 1 8 (O.t 11) (O.t 12) true, none, some 13⟩, ⟨I.mv 9 (O.t 13), none, some 9⟩]).seq (((C.ops [⟨I.mv 10 (O.k (AV.int IntKind.i64 0)), none, some 10⟩]).seq (C.block 0 (((C.ops [⟨I.mv 14 (O.t 10), none, some 14⟩, ⟨I.mv 15 (O.t 1), none, some 15⟩, ⟨I.len 16 (O.t 15), none, some 16⟩, ⟨I.bin 17 BinOp.lss (O.t 14) (O.t 16), none, some 17⟩]).seq (C.cond (O.t 17) C.skip (C.exit 0))).seq ((C.block 1 ((C.block 2 (((C.ops [⟨I.mv 20 (O.t 9), none, some 20⟩, ⟨I.len 21 (O.t 20), none, some 21⟩, ⟨I.mv 22 (O.t 10), none, some 22⟩, ⟨I.mv 23 (O.t 3), none, some 23⟩, ⟨I.bin 24 BinOp.add (O.t 22) (O.t 23), none, some 24⟩, ⟨I.bin 25 BinOp.leq (O.t 21) (O.t 24), none, some 25⟩]).seq (C.cond (O.t 25) C.skip (C.exit 2))).seq (C.block 3 (C.ops [⟨I.mv 26 (O.t 9), none, some 26⟩, ⟨I.bsl 27 1 [O.k (AV.int IntKind.i64 0)] false, none, some 27⟩, ⟨I.append 28 1 8 (O.t 26) (O.t 27) true, none, some 28⟩, ⟨I.mv 9 (O.t 28), none, some 9⟩]))).loop).seq (C.ops [⟨I.mv 29 (O.t 9), none, some 29⟩, ⟨I.mv 30 (O.t 10), none, some 30⟩, ⟨I.mv 31 (O.t 3), none, some 31⟩, ⟨I.bin 32 BinOp.add (O.t 30) (O.t 31), none, some 32⟩, ⟨I.idxa 33 1 none (O.t 29) (O.t 32), none, some 33⟩, ⟨I.load 34 false 1 (O.t 33), none, some 34⟩, ⟨I.mv 35 (O.t 2), none, some 35⟩, ⟨I.mv 36 (O.t 1), none, some 36⟩, ⟨I.mv 37 (O.t 10), none, some 37⟩, ⟨I.idxa 38 1 none (O.t 36) (O.t 37), none, some 38⟩, ⟨I.loadf 39 false 1 (O.t 38), none, some 39⟩, ⟨I.bin 40 BinOp.mul (O.t 35) (O.t 39), none, some 40⟩, ⟨I.bin 41 BinOp.add (O.t 34) (O.t 40), none, some 41⟩, ⟨I.idxa 42 1 none (O.t 29) (O.t 32), none, some 42⟩, ⟨I.store 1 (O.t 42) (O.t 41), none, none⟩]))).seq (C.ops [⟨I.mv 18 (O.t 10), none, some 18⟩, ⟨I.bin 19 BinOp.add (O.t 18) (O.k (AV.int IntKind.i64 1)), none, some 19⟩, ⟨I.mv 10 (O.t 19), none, some 10⟩]))).loop)).seq ((C.ops [⟨I.mv 43 (O.t 9), none, some 43⟩, ⟨I.call (some 44) (O.k (AV.fn 225 [])) [O.t 43] true, none, some 44⟩, ⟨I.mv 8 (O.t 44), none, some 8⟩]).seq C.ret)))
theorem k198 (m : Int) : compF (cx m).P (cx m).gt (fun t => t == 13 || t == 28 || t == 34 || t == 44) 198 = some (c198, [RV.tmp 8], 45) := by kernel_rfl
def c199 : C := (C.ops [⟨I.mv 4 (O.k (AV.str [])), none, some 4⟩]).seq ((C.ops [⟨I.mv 5 (O.t 1), none, some 5⟩, ⟨I.call (some 6) (O.k (AV.fn 224 [])) [O.t 5] false, none, some 6⟩, ⟨I.mv 1 (O.t 6), none, some 1⟩]).seq (((C.ops [⟨I.mv 7 (O.t 0), none, some 7⟩, ⟨I.mv 8 (O.t 7), none, some 8⟩, ⟨I.mv 9 (O.t 1), some (8, true), some 9⟩, ⟨I.len 10 (O.t 9), some (8, true), some 10⟩, ⟨I.bin 11 BinOp.gtr (O.t 10) (O.k (AV.int IntKind.i64 0)), some (8, true), some 11⟩, ⟨I.pick 12 (O.t 8) (O.t 11) (O.k (AV.bool false)), none, some 12⟩]).seq (C.cond (O.t 12) ((C.ops [⟨I.mv 13 (O.t 1), none, some 13⟩, ⟨I.call (some 14) (O.k (AV.fn 226 [])) [O.t 13] false, none, some 14⟩, ⟨I.bin 15 BinOp.add (O.k (AV.str [45])) (O.t 14), none, some 15⟩, ⟨I.mv 4 (O.t 15), none, some 4⟩]).seq C.ret) C.skip)).seq ((C.ops [⟨I.mv 16 (O.t 1), none, some 16⟩, ⟨I.call (some 17) (O.k (AV.fn 226 [])) [O.t 16] false, none, some 17⟩, ⟨I.mv 4 (O.t 17), none, some 4⟩]).seq C.ret)))
theorem k199 (m : Int) : compF (cx m).P (cx m).gt (fun _ => false) 199 = some (c199, [RV.tmp 4], 18) := by kernel_rfl
def c222 : C := (C.ops [⟨I.mv 4 (O.k (AV.bool false)), none, some 4⟩]).seq (((C.ops [⟨I.mv 6 (O.t 0), none, some 6⟩, ⟨I.len 7 (O.t 6), none, some 7⟩, ⟨I.mv 8 (O.t 1), none, some 8⟩, ⟨I.len 9 (O.t 8), none, some 9⟩, ⟨I.bin 10 BinOp.neq (O.t 7) (O.t 9), none, some 10⟩]).seq (C.cond (O.t 10) ((C.ops [⟨I.mv 11 (O.t 0), none, some 11⟩, ⟨I.len 12 (O.t 11), none, some 12⟩, ⟨I.mv 13 (O.t 1), none, some 13⟩, ⟨I.len 14 (O.t 13), none, some 14⟩, ⟨I.bin 15 BinOp.lss (O.t 12) (O.t 14), none, some 15⟩, ⟨I.mv 4 (O.t 15), none, some 4⟩]).seq C.ret) C.skip)).seq (((C.ops [⟨I.mv 16 (O.t 0), none, some 16⟩, ⟨I.len 17 (O.t 16), none, some 17⟩, ⟨I.bin 18 BinOp.sub (O.t 17) (O.k (AV.int IntKind.i64 1)), none, some 18⟩, ⟨I.mv 5 (O.t 18), none, some 5⟩]).seq (C.block 0 (((C.ops [⟨I.mv 19 (O.t 5), none, some 19⟩, ⟨I.bin 20 BinOp.geq (O.t 19) (O.k (AV.int IntKind.i64 0)), none, some 20⟩]).seq (C.cond (O.t 20) C.skip (C.exit 0))).seq ((C.block 1 ((C.ops [⟨I.mv 23 (O.t 0), none, some 23⟩, ⟨I.mv 24 (O.t 5), none, some 24⟩, ⟨I.idxa 25 1 none (O.t 23) (O.t 24), none, some 25⟩, ⟨I.loadf 26 false 1 (O.t 25), none, some 26⟩, ⟨I.mv 27 (O.t 1), none, some 27⟩, ⟨I.mv 28 (O.t 5), none, some 28⟩, ⟨I.idxa 29 1 none (O.t 27) (O.t 28), none, some 29⟩, ⟨I.loadf 30 false 1 (O.t 29), none, some 30⟩, ⟨I.bin 31 BinOp.neq (O.t 26) (O.t 30), none, some 31⟩]).seq (C.cond (O.t 31) ((C.ops [⟨I.mv 32 (O.t 0), none, some 32⟩, ⟨I.mv 33 (O.t 5), none, some 33⟩, ⟨I.idxa 34 1 none (O.t 32) (O.t 33), none, some 34⟩, ⟨I.loadf 35 false 1 (O.t 34), none, some 35⟩, ⟨I.mv 36 (O.t 1), none, some 36⟩, ⟨I.mv 37 (O.t 5), none, some 37⟩, ⟨I.idxa 38 1 none (O.t 36) (O.t 37), none, some 38⟩, ⟨I.loadf 39 false 1 (O.t 38), none, some 39⟩, ⟨I.bin 40 BinOp.lss (O.t 35) (O.t 39), none, some 40⟩, ⟨I.mv 4 (O.t 40), none, some 4⟩]).seq C.ret) C.skip))).seq (C.ops [⟨I.mv 21 (O.t 5), none, some 21⟩, ⟨I.bin 22 BinOp.sub (O.t 21) (O.k (AV.int IntKind.i64 1)), none, some 22⟩, ⟨I.mv 5 (O.t 22), none, some 5⟩]))).loop)).seq ((C.ops [⟨I.mv 4 (O.k (AV.bool false)), none, some 4⟩]).seq C.ret)))
theorem k222 (m : Int) : compF (cx m).P (cx m).gt (fun _ => false) 222 = some (c222, [RV.tmp 4], 41) := by kernel_rfl
def c223 : C := (C.ops [⟨I.mv 2 (O.k (AV.int IntKind.i64 0)), none, some 2⟩, ⟨I.mv 3 (O.k (AV.bool false)), none, some 3⟩]).seq ((C.ops [⟨I.mv 10 (O.t 0), none, some 10⟩, ⟨I.call (some 11) (O.k (AV.fn 140 [])) [O.t 10] false, none, some 11⟩, ⟨I.mv 9 (O.t 11), none, some 9⟩, ⟨I.ext 12 (O.t 9) 0, none, some 12⟩, ⟨I.ext 13 (O.t 9) 1, none, some 13⟩, ⟨I.mv 4 (O.t 12), none, some 4⟩, ⟨I.mv 5 (O.t 13), none, some 5⟩]).seq (((C.ops [⟨I.mv 14 (O.t 5), none, some 14⟩, ⟨I.lens 15 (O.t 14), none, some 15⟩, ⟨I.bin 16 BinOp.gtr (O.t 15) (O.k (AV.int IntKind.i64 19)), none, some 16⟩]).seq (C.cond (O.t 16) ((C.ops [⟨I.mv 2 (O.k (AV.int IntKind.i64 0)), none, some 2⟩, ⟨I.mv 3 (O.k (AV.bool false)), none, some 3⟩]).seq C.ret) C.skip)).seq ((C.ops [⟨I.mv 6 (O.k (AV.int IntKind.i64 0)), none, some 6⟩]).seq (((C.ops [⟨I.mv 7 (O.k (AV.int IntKind.i64 0)), none, some 7⟩]).seq (C.block 0 (((C.ops [⟨I.mv 17 (O.t 7), none, some 17⟩, ⟨I.mv 18 (O.t 5), none, some 18⟩, ⟨I.lens 19 (O.t 18), none, some 19⟩, ⟨I.bin 20 BinOp.lss (O.t 17) (O.t 19), none, some 20⟩]).seq (C.cond (O.t 20) C.skip (C.exit 0))).seq ((C.block 1 ((C.ops [⟨I.mv 23 (O.t 5), none, some 23⟩, ⟨I.mv 24 (O.t 7), none, some 24⟩, ⟨I.idx 25 (O.t 23) (O.t 24), none, some 25⟩, ⟨I.conv 26 IntKind.i64 (O.t 25), none, some 26⟩, ⟨I.bin 27 BinOp.sub (O.t 26) (O.k (AV.int IntKind.i64 48)), none, some 27⟩, ⟨I.mv 8 (O.t 27), none, some 8⟩]).seq (((C.ops [⟨I.mv 28 (O.t 6), none, some 28⟩, ⟨I.mv 29 (O.t 8), none, some 29⟩, ⟨I.bin 30 BinOp.add (O.k (AV.int IntKind.i64 (-9223372036854775808))) (O.t 29), none, some 30⟩, ⟨I.bin 31 BinOp.quo (O.t 30) (O.k (AV.int IntKind.i64 10)), none, some 31⟩, ⟨I.bin 32 BinOp.lss (O.t 28) (O.t 31), none, some 32⟩]).seq (C.cond (O.t 32) ((C.ops [⟨I.mv 2 (O.k (AV.int IntKind.i64 0)), none, some 2⟩, ⟨I.mv 3 (O.k (AV.bool false)), none, some 3⟩]).seq C.ret) C.skip)).seq (C.ops [⟨I.mv 33 (O.t 6), none, some 33⟩, ⟨I.bin 34 BinOp.mul (O.k (AV.int IntKind.i64 10)) (O.t 33), none, some 34⟩, ⟨I.mv 35 (O.t 8), none, some 35⟩, ⟨I.bin 36 BinOp.sub (O.t 34) (O.t 35), none, some 36⟩, ⟨I.mv 6 (O.t 36), none, some 6⟩])))).seq (C.ops [⟨I.mv 21 (O.t 7), none, some 21⟩, ⟨I.bin 22 BinOp.add (O.t 21) (O.k (AV.int IntKind.i64 1)), none, some 22⟩, ⟨I.mv 7 (O.t 22), none, some 7⟩]))).loop)).seq ((C.block 2 ((C.ops [⟨I.mv 38 (O.t 4), none, some 38⟩, ⟨I.mv 37 (O.t 38), none, some 37⟩]).seq (C.cond (O.t 37) ((C.ops [⟨I.mv 39 (O.t 6), none, some 39⟩, ⟨I.mv 2 (O.t 39), none, some 2⟩, ⟨I.mv 3 (O.k (AV.bool true)), none, some 3⟩]).seq C.ret) ((C.ops [⟨I.mv 41 (O.t 6), none, some 41⟩, ⟨I.bin 42 BinOp.eql (O.t 41) (O.k (AV.int IntKind.i64 (-9223372036854775808))), none, some 42⟩, ⟨I.mv 40 (O.t 42), none, some 40⟩]).seq (C.cond (O.t 40) ((C.ops [⟨I.mv 2 (O.k (AV.int IntKind.i64 0)), none, some 2⟩, ⟨I.mv 3 (O.k (AV.bool false)), none, some 3⟩]).seq C.ret) C.skip))))).seq ((C.ops [⟨I.mv 43 (O.t 6), none, some 43⟩, ⟨I.neg 44 (O.t 43), none, some 44⟩, ⟨I.mv 2 (O.t 44), none, some 2⟩, ⟨I.mv 3 (O.k (AV.bool true)), none, some 3⟩]).seq C.ret))))))
theorem k223 (m : Int) : compF (cx m).P (cx m).gt (fun _ => false) 223 = some (c223, [RV.tmp 2, RV.tmp 3], 45) := by kernel_rfl
def c224 : C := (C.ops [⟨I.mv 2 (O.k AV.nils), none, some 2⟩]).seq ((C.block 0 (((C.ops [⟨I.mv 3 (O.t 0), none, some 3⟩, ⟨I.len 4 (O.t 3), none, some 4⟩, ⟨I.bin 5 BinOp.gtr (O.t 4) (O.k (AV.int IntKind.i64 0)), none, some 5⟩, ⟨I.mv 6 (O.t 5), none, some 6⟩, ⟨I.mv 7 (O.t 0), some (6, true), some 7⟩, ⟨I.mv 8 (O.t 0), some (6, true), some 8⟩, ⟨I.len 9 (O.t 8), some (6, true), some 9⟩, ⟨I.bin 10 BinOp.sub (O.t 9) (O.k (AV.int IntKind.i64 1)), some (6, true), some 10⟩, ⟨I.idxa 11 1 none (O.t 7) (O.t 10), some (6, true), some 11⟩, ⟨I.loadf 12 false 1 (O.t 11), some (6, true), some 12⟩, ⟨I.bin 13 BinOp.eql (O.t 12) (O.k (AV.int IntKind.i64 0)), some (6, true), some 13⟩, ⟨I.pick 14 (O.t 6) (O.t 13) (O.k (AV.bool false)), none, some 14⟩]).seq (C.cond (O.t 14) C.skip (C.exit 0))).seq (C.block 1 (C.ops [⟨I.mv 15 (O.t 0), none, some 15⟩, ⟨I.mv 16 (O.t 0), none, some 16⟩, ⟨I.len 17 (O.t 16), none, some 17⟩, ⟨I.bin 18 BinOp.sub (O.t 17) (O.k (AV.int IntKind.i64 1)), none, some 18⟩, ⟨I.slc 19 1 (O.t 15) none (some (O.t 18)) none, none, some 19⟩, ⟨I.mv 0 (O.t 19), none, some 0⟩]))).loop).seq ((C.ops [⟨I.mv 20 (O.t 0), none, some 20⟩, ⟨I.mv 2 (O.t 20), none, some 2⟩]).seq C.ret))
theorem k224 (m : Int) : compF (cx m).P (cx m).gt (fun _ => false) 224 = some (c224, [RV.tmp 2], 21) := by kernel_rfl
def c225 : C := (C.ops [⟨I.mv 2 (O.k AV.nils), none, some 2⟩]).seq ((C.ops [⟨I.mv 3 (O.k AV.nils), none, some 3⟩]).seq ((C.ops [⟨I.mv 4 (O.k (AV.int IntKind.i64 0)), none, some 4⟩]).seq (((C.ops [⟨I.mv 5 (O.k (AV.int IntKind.i64 0)), none, some 5⟩]).seq (C.block 0 (((C.ops [⟨I.mv 7 (O.t 5), none, some 7⟩, ⟨I.mv 8 (O.t 0), none, some 8⟩, ⟨I.len 9 (O.t 8), none, some 9⟩, ⟨I.bin 10 BinOp.lss (O.t 7) (O.t 9), none, some 10⟩, ⟨I.mv 11 (O.t 10), none, some 11⟩, ⟨I.mv 12 (O.t 4), some (11, false), some 12⟩, ⟨I.bin 13 BinOp.neq (O.t 12) (O.k (AV.int IntKind.i64 0)), some (11, false), some 13⟩, ⟨I.pick 14 (O.t 11) (O.k (AV.bool true)) (O.t 13), none, some 14⟩]).seq (C.cond (O.t 14) C.skip (C.exit 0))).seq ((C.block 1 (((C.ops [⟨I.mv 17 (O.t 5), none, some 17⟩, ⟨I.mv 18 (O.t 0), none, some 18⟩, ⟨I.len 19 (O.t 18), none, some 19⟩, ⟨I.bin 20 BinOp.lss (O.t 17) (O.t 19), none, some 20⟩]).seq (C.cond (O.t 20) (C.ops [⟨I.mv 21 (O.t 4), none, some 21⟩, ⟨I.mv 22 (O.t 0), none, some 22⟩, ⟨I.mv 23 (O.t 5), none, some 23⟩, ⟨I.idxa 24 1 none (O.t 22) (O.t 23), none, some 24⟩, ⟨I.loadf 25 false 1 (O.t 24), none, some 25⟩, ⟨I.bin 26 BinOp.add (O.t 21) (O.t 25), none, some 26⟩, ⟨I.mv 4 (O.t 26), none, some 4⟩]) C.skip)).seq ((C.ops [⟨I.mv 27 (O.t 4), none, some 27⟩, ⟨I.bin 28 BinOp.rem (O.t 27) (O.k (AV.int IntKind.i64 10000)), none, some 28⟩, ⟨I.mv 6 (O.t 28), none, some 6⟩]).seq (((C.ops [⟨I.mv 29 (O.t 6), none, some 29⟩, ⟨I.bin 30 BinOp.lss (O.t 29) (O.k (AV.int IntKind.i64 0)), none, some 30⟩]).seq (C.cond (O.t 30) (C.ops [⟨I.mv 31 (O.t 6), none, some 31⟩, ⟨I.bin 32 BinOp.add (O.t 31) (O.k (AV.int IntKind.i64 10000)), none, some 32⟩, ⟨I.mv 6 (O.t 32), none, some 6⟩]) C.skip)).seq ((C.ops [⟨I.mv 33 (O.t 3), none, some 33⟩, ⟨I.mv 34 (O.t 6), none, some 34⟩, ⟨I.bsl 35 1 [O.t 34] false, none, some 35⟩, ⟨I.append 36 1 8 (O.t 33) (O.t 35) true, none, some 36⟩, ⟨I.mv 3 (O.t 36), none, some 3⟩]).seq (C.ops [⟨I.mv 37 (O.t 4), none, some 37⟩, ⟨I.mv 38 (O.t 6), none, some 38⟩, ⟨I.bin 39 BinOp.sub (O.t 37) (O.t 38), none, some 39⟩, ⟨I.bin 40 BinOp.quo (O.t 39) (O.k (AV.int IntKind.i64 10000)), none, some 40⟩, ⟨I.mv 4 (O.t 40), none, some 4⟩])))))).seq (C.ops [⟨I.mv 15 (O.t 5), none, some 15⟩, ⟨I.bin 16 BinOp.add (O.t 15) (O.k (AV.int IntKind.i64 1)), none, some 16⟩, ⟨I.mv 5 (O.t 16), none, some 5⟩]))).loop)).seq ((C.ops [⟨I.mv 41 (O.t 3), none, some 41⟩, ⟨I.call (some 42) (O.k (AV.fn 224 [])) [O.t 41] true, none, some 42⟩, ⟨I.mv 2 (O.t 42), none, some 2⟩]).seq C.ret))))
theorem k225 (m : Int) : compF (cx m).P (cx m).gt (fun t => t == 36 || t == 42) 225 = some (c225, [RV.tmp 2], 43) := by kernel_rfl
def c226 : C := (C.ops [⟨I.mv 2 (O.k (AV.str [])), none, some 2⟩]).seq (((C.ops [⟨I.mv 6 (O.t 0), none, some 6⟩, ⟨I.len 7 (O.t 6), none, some 7⟩, ⟨I.bin 8 BinOp.eql (O.t 7) (O.k (AV.int IntKind.i64 0)), none, some 8⟩]).seq (C.cond (O.t 8) ((C.ops [⟨I.mv 2 (O.k (AV.str [48])), none, some 2⟩]).seq C.ret) C.skip)).seq ((C.ops [⟨I.mv 9 (O.t 0), none, some 9⟩, ⟨I.mv 10 (O.t 0), none, some 10⟩, ⟨I.len 11 (O.t 10), none, some 11⟩, ⟨I.bin 12 BinOp.sub (O.t 11) (O.k (AV.int IntKind.i64 1)), none, some 12⟩, ⟨I.idxa 13 1 none (O.t 9) (O.t 12), none, some 13⟩, ⟨I.loadf 14 false 1 (O.t 13), none, some 14⟩, ⟨I.call (some 15) (O.k (AV.fn 116 [])) [O.t 14] false, none, some 15⟩, ⟨I.mv 3 (O.t 15), none, some 3⟩]).seq (((C.ops [⟨I.mv 16 (O.t 0), none, some 16⟩, ⟨I.len 17 (O.t 16), none, some 17⟩, ⟨I.bin 18 BinOp.sub (O.t 17) (O.k (AV.int IntKind.i64 2)), none, some 18⟩, ⟨I.mv 4 (O.t 18), none, some 4⟩]).seq (C.block 0 (((C.ops [⟨I.mv 19 (O.t 4), none, some 19⟩, ⟨I.bin 20 BinOp.geq (O.t 19) (O.k (AV.int IntKind.i64 0)), none, some 20⟩]).seq (C.cond (O.t 20) C.skip (C.exit 0))).seq ((C.block 1 ((C.ops [⟨I.mv 23 (O.t 0), none, some 23⟩, ⟨I.mv 24 (O.t 4), none, some 24⟩, ⟨I.idxa 25 1 none (O.t 23) (O.t 24), none, some 25⟩, ⟨I.loadf 26 false 1 (O.t 25), none, some 26⟩, ⟨I.bin 27 BinOp.add (O.k (AV.int IntKind.i64 10000)) (O.t 26), none, some 27⟩, ⟨I.call (some 28) (O.k (AV.fn 116 [])) [O.t 27] false, none, some 28⟩, ⟨I.mv 5 (O.t 28), none, some 5⟩]).seq (C.ops [⟨I.mv 29 (O.t 3), none, some 29⟩, ⟨I.mv 30 (O.t 5), none, some 30⟩, ⟨I.slcs 31 (O.t 30) (some (O.k (AV.int IntKind.i64 1))) none, none, some 31⟩, ⟨I.bin 32 BinOp.add (O.t 29) (O.t 31), none, some 32⟩, ⟨I.mv 3 (O.t 32), none, some 3⟩]))).seq (C.ops [⟨I.mv 21 (O.t 4), none, some 21⟩, ⟨I.bin 22 BinOp.sub (O.t 21) (O.k (AV.int IntKind.i64 1)), none, some 22⟩, ⟨I.mv 4 (O.t 22), none, some 4⟩]))).loop)).seq ((C.ops [⟨I.mv 33 (O.t 3), none, some 33⟩, ⟨I.mv 2 (O.t 33), none, some 2⟩]).seq C.ret))))
theorem k226 (m : Int) : compF (cx m).P (cx m).gt (fun _ => false) 226 = some (c226, [RV.tmp 2], 34) := by kernel_rfl
end Go.Proofs.YtkjnjdcbnelceaaGreatDoor.KA
end

section
/- Contracts of the reference's integers: pieces of four digits: cut, less, carry. -/
open Go Go.Proofs
set_option linter.unusedSimpArgs false
set_option linter.unusedVariables false
set_option maxHeartbeats 2000000
set_option maxRecDepth 20000
namespace Go.Proofs.YtkjnjdcbnelceaaGreatDoor.KA
open Num

def z64s (l : List Int) : List AV := l.map fun n => AV.int .i64 n
def n64s (l : List Nat) : List AV := z64s (l.map fun n : Nat => (n : Int))
/-- A magnitude in pieces of four digits. -/
def eI (n : Nat) : AV := .sl 1 (n64s (pc 10000 n))
theorem z64s_length (l : List Int) : (z64s l).length = l.length := by simp [z64s]
theorem n64s_length (l : List Nat) : (n64s l).length = l.length := by simp [n64s, z64s]
theorem z64s_at {l : List Int} {k : Nat} {x : Int} (h : l[k]? = some x) : (z64s l)[k]? = some (.int .i64 x) := by simp [z64s, h]
theorem n64s_at {l : List Nat} {k x : Nat} (h : l[k]? = some x) : (n64s l)[k]? = some (.int .i64 (x : Int)) := by simp [n64s, z64s, h]
theorem n64s_nil : n64s [] = [] := rfl
theorem z64s_append (l m : List Int) : z64s (l ++ m) = z64s l ++ z64s m := by simp [z64s]
theorem n64s_append (l m : List Nat) : n64s (l ++ m) = n64s l ++ n64s m := by simp [n64s, z64s]
theorem n64s_take (l : List Nat) (k : Nat) : (n64s l).take k = n64s (l.take k) := by simp [n64s, z64s, List.map_take]
theorem z64s_plain (l : List Int) : AV.plainL (z64s l) = true := plainL_of (by simp only [z64s, List.mem_map]; rintro x ⟨n, _, rfl⟩; rfl)
theorem n64s_plain (l : List Nat) : AV.plainL (n64s l) = true := z64s_plain _
theorem z64s_flat (l : List Int) : (z64s l).flatMap AV.cells = z64s l := by
  induction l with
  | nil => rfl
  | cons n l ih => simp only [z64s, List.map_cons, List.flatMap_cons] at ih ⊢; rw [ih]; rfl
theorem z64s_set (l : List Int) (j : Nat) (x : Int) : (z64s l).set j (.int .i64 x) = z64s (l.set j x) := by simp [z64s, List.map_set]
theorem shows_z64 {h : AHeap} {id len cap : Nat} {cs : List AV} {l : List Int} (hh : h[id]? = some (some cs)) (hl : l.length = len) (hle : len ≤ cs.length) (e : cs.take len = z64s l) : Shows h (.own 1 id 0 len cap) (.sl 1 (z64s l)) := by
  refine .own 1 id 0 len cap cs (z64s l) hh (by omega) (by rw [z64s_length]; exact hl) (fun x hx => ?_) ?_
  · obtain ⟨n, _, rfl⟩ := List.mem_map.1 hx; rfl
  · rw [z64s_flat, List.drop_zero, Nat.mul_one, e]; exact showsL_refl (z64s_plain l)
theorem wrapZ {n : Int} (h : -9223372036854775808 ≤ n ∧ n ≤ 9223372036854775807) : IntKind.i64.wrap n = n := wrap64 h

/-- klipperef01.cut -/
theorem s224 (m : Int) (l : List Nat) (hl : l.length < 1000000000) : SpecP (cx m) 224 [.sl 1 (n64s l)] (.sl 1 (n64s (tr l))) := by
  refine specP_of (mixed m) (k224 m) (Nat.le_of_ble_eq_true rfl) (X_start ?_)
  unfold c224
  refine WW ?_
  refine X_for (fun p : List Nat => ⟨[(0, .sl 1 (n64s p))], []⟩) (fun p => tr p = tr l ∧ p.length < 1000000000) (fun p => p.length) l ⟨rfl, hl⟩ (weak_keep (by simp [lookup])) ?_
  intro p R ⟨h1, h2⟩ hR
  try dsimp only at hR ⊢
  rcases List.eq_nil_or_concat p with rfl | ⟨q, x, rfl⟩
  · refine WF @n64s_nil ?_
    exact shv (by rw [← h1]; rfl) rfl
  · rw [List.concat_eq_append] at *
    have h2' : q.length + 1 < 1000000000 := by simpa using h2
    have e0 : (n64s (q ++ [x])).length = q.length + 1 := by simp [n64s, z64s]
    have e1 : ((q.length + 1 : Nat) : Int) - 1 = (q.length : Int) := by omega
    have e2 : (n64s (q ++ [x]))[q.length]? = some (.int .i64 (x : Int)) := n64s_at (by simp)
    have e3 : (0 : Int) < ((q.length + 1 : Nat) : Int) := by omega
    have e4 : (n64s (q ++ [x])).take q.length = n64s q := by rw [n64s_take]; simp
    by_cases hx : x = 0
    · subst hx
      rw [tr_snoc0] at h1
      refine WF (And.intro e0 (And.intro e1 (And.intro e2 (And.intro e3 (And.intro e4 @Int.natCast_zero))))) ?_
      exact ⟨by omega, hR q _ ⟨h1, by omega⟩ (by simp) (weak_keep (by simp [lookup]))⟩
    · have hx' := eq_false (show ¬ (x : Int) = 0 by omega)
      rw [tr_snoc hx] at h1
      refine WF (And.intro e0 (And.intro e1 (And.intro e2 (And.intro e3 hx')))) ?_
      exact shv (by rw [h1]) rfl

/-- klipperef01.less -/
theorem s222 (m : Int) (a b : Nat) (ha : (pc 10000 a).length < 1000000000) (hb : (pc 10000 b).length < 1000000000) :
    SpecP (cx m) 222 [eI a, eI b] (.bool (decide (a < b))) := by
  refine specP_of (mixed m) (k222 m) (Nat.le_of_ble_eq_true rfl) (X_start ?_)
  unfold c222 eI
  have hB : 2 ≤ 10000 := by omega
  have va := val_pc hB a
  have vb := val_pc hB b
  have la := pc_lt hB a
  have lb := pc_lt hB b
  have hne := pc_ne_len hB (a := a) (b := b)
  generalize hA : pc 10000 a = A at *
  generalize hBb : pc 10000 b = Bl at *
  refine WF @n64s_length ?_
  refine iteI (fun h => shb ?_) (fun h => ?_)
  · have h' : A.length ≠ Bl.length := by omega
    have := hne h'
    simp [this]
  have hl : A.length = Bl.length := by omega
  refine X_for (fun k : Nat => ⟨[(0, .sl 1 (n64s A)), (1, .sl 1 (n64s Bl)), (5, .int .i64 ((k : Int) - 1))], []⟩) (fun k => k ≤ A.length ∧ A.drop k = Bl.drop k) (fun k => k) A.length ⟨Nat.le_refl _, by rw [List.drop_length, hl, List.drop_length]⟩ (weak_keep (by simp [lookup])) ?_
  intro k R ⟨h1, h2⟩ hR
  try dsimp only at hR ⊢
  cases k with
  | zero =>
    have e0 : ¬ (0 : Int) ≤ ((0 : Nat) : Int) - 1 := by omega
    refine WF e0 ?_
    rw [List.drop_zero, List.drop_zero] at h2
    refine shb ?_
    have : a = b := by rw [← va, ← vb, h2]
    simp [this]
  | succ k =>
    have e0 : (((k + 1 : Nat) : Int) - 1) = (k : Int) := by omega
    have e1 := n64s_at (l := A) (k := k) (x := A[k]) (by simp [show k < A.length by omega])
    have e2 := n64s_at (l := Bl) (k := k) (x := Bl[k]) (by simp [show k < Bl.length by omega])
    refine WF (And.intro e0 (And.intro e1 e2)) ?_
    have hd : A.drop k = A[k] :: A.drop (k + 1) := List.drop_eq_getElem_cons (by omega)
    have hd' : Bl.drop k = Bl[k] :: Bl.drop (k + 1) := List.drop_eq_getElem_cons (by omega)
    have o1 : A[k] < Bl[k] → a < b := fun h => by rw [← va, ← vb]; exact val_order hB la lb (i := k) (by simp [show k < A.length by omega]) (by simp [show k < Bl.length by omega]) h2 h
    have o2 : Bl[k] < A[k] → b < a := fun h => by rw [← va, ← vb]; exact val_order hB lb la (i := k) (by simp [show k < Bl.length by omega]) (by simp [show k < A.length by omega]) h2.symm h
    refine iteI (fun h => shb ?_) (fun h => ?_)
    · rcases Nat.lt_or_ge A[k] Bl[k] with h3 | h3
      · simp [h3, o1 h3]
      · have := o2 (by omega)
        simp [show ¬ A[k] < Bl[k] by omega, show ¬ a < b by omega]
    · exact hR k _ ⟨by omega, by rw [hd, hd', h2, show A[k] = Bl[k] by omega]⟩ (by omega) (weak_keep (by simp [lookup]))

/-- The number that signed pieces spell. -/
def ival : List Int → Int
  | [] => 0
  | x :: l => x + 10000 * ival l
theorem ival_nat : ∀ l : List Nat, ival (l.map fun n : Nat => (n : Int)) = (val 10000 l : Int)
  | [] => rfl
  | x :: l => by rw [List.map_cons, ival, ival_nat l, val]; simp
theorem ival_drop (l : List Int) (i : Nat) : ival (l.drop i) = (l[i]?.getD 0) + 10000 * ival (l.drop (i + 1)) := by
  rcases Nat.lt_or_ge i l.length with h | h
  · rw [List.drop_eq_getElem_cons h, ival]; simp [h]
  · rw [List.drop_eq_nil_of_le h, List.drop_eq_nil_of_le (by omega)]; simp [List.getElem?_eq_none h, ival]
end Go.Proofs.YtkjnjdcbnelceaaGreatDoor.KA
end

section
/- Contracts of the reference's integers: carry and joined. -/
open Go Go.Proofs
set_option linter.unusedSimpArgs false
set_option linter.unusedVariables false
set_option maxHeartbeats 2000000
set_option maxRecDepth 20000
namespace Go.Proofs.YtkjnjdcbnelceaaGreatDoor.KA
open Num

/-- A list of ints that grows by appends from nothing. -/
def zAV (e0 : AV) : List Int → AV
  | [] => e0
  | l => .own 1 0 0 l.length l.length
def zBlk : List Int → AHeap
  | [] => []
  | l => [some (z64s l)]
theorem zAV_shows {e0 : AV} (l : List Int) (he : e0 = .nils ∨ l ≠ []) : Shows (keepOnly [0] (zBlk l)) (zAV e0 l) (.sl 1 (z64s l)) := by
  cases l with
  | nil =>
    rcases he with rfl | he
    · exact .nil 1
    · exact absurd rfl he
  | cons x l => exact shows_z64 rfl (by simp) (by simp [z64s]) (by rw [← z64s_length, List.take_length])
theorem n64s_z (l : List Nat) : n64s l = z64s (l.map fun n : Nat => (n : Int)) := rfl

theorem tmod_4 (x : Int) : x.tmod 10000 = if 0 ≤ x ∨ x % 10000 = 0 then x % 10000 else x % 10000 - 10000 := by
  rw [Int.tmod_eq_emod]
  by_cases h : 0 ≤ x
  · simp [h]
  · by_cases h2 : x % 10000 = 0
    · have : (10000 : Int) ∣ x := Int.dvd_of_emod_eq_zero h2
      simp [h, h2, this]
    · have : ¬ (10000 : Int) ∣ x := fun hd => h2 (Int.emod_eq_zero_of_dvd hd)
      simp [h, h2, this]
theorem tdiv_4 (x : Int) : (x - x % 10000).tdiv 10000 = x / 10000 := by
  have h : (10000 : Int) ∣ x - x % 10000 := ⟨x / 10000, by omega⟩
  rw [Int.tdiv_eq_ediv_of_dvd h]; omega

theorem carry_num (P v x D r q I : Int) (h : I = v + P * (x + 10000 * D)) (hx : x = r + 10000 * q) : I = (v + P * r) + P * 10000 * (q + D) := by
  subst hx; subst h
  grind

def small (b : Nat) (l : List Int) : Prop := ∀ x ∈ l, x.natAbs ≤ b
theorem small_at {b : Nat} {l : List Int} (h : small b l) (i : Nat) : (l[i]?.getD 0).natAbs ≤ b := by
  rcases Nat.lt_or_ge i l.length with hi | hi
  · simpa [hi] using h _ (List.getElem_mem hi)
  · simp [List.getElem?_eq_none hi]

/-- klipperef01.carry -/
theorem s225 (m : Int) (l : List Int) (hn : l.length < 1000000) (hb : small 100000000000 l) (h0 : 0 ≤ ival l) : SpecP (cx m) 225 [.sl 1 (z64s l)] (eI (ival l).toNat) := by
  refine specP_of (mixed m) (k225 m) (Nat.le_of_ble_eq_true rfl) (X_start ?_)
  unfold c225
  refine WW ?_
  refine X_for (fun x : Nat × List Nat × Int => ⟨[(0, .sl 1 (z64s l)), (3, zAV .nils (x.2.1.map fun n : Nat => (n : Int))), (4, .int .i64 x.2.2), (5, .int .i64 x.1)], zBlk (x.2.1.map fun n : Nat => (n : Int))⟩)
    (fun x => x.2.1.length = x.1 ∧ (∀ y ∈ x.2.1, y < 10000) ∧ x.2.2.natAbs ≤ 100000000 ∧ (x.1 ≤ l.length ∨ x.1 + x.2.2.natAbs ≤ l.length + 100000000) ∧ ival l = val 10000 x.2.1 + 10000 ^ x.1 * (x.2.2 + ival (l.drop x.1)))
    (fun x => (l.length - x.1) * 1000000000 + x.2.2.natAbs) (0, [], 0) ⟨rfl, by simp, by simp, .inl (Nat.zero_le _), by simp [val]⟩ (weak_keep (by simp [lookup, zAV])) ?_
  rintro ⟨i, out, v⟩ R ⟨h1, h2, h3, h4, h5⟩ hR
  try dsimp only at hR ⊢ h1 h2 h3 h4 h5
  have hbi := small_at hb i
  have ed := ival_drop l i
  have hx := fun hj : i < l.length => z64s_at (l := l) (k := i) (x := l[i]?.getD 0) (by simp [hj])
  have hx0 : l.length ≤ i → l[i]?.getD 0 = 0 := fun h => by simp [List.getElem?_eq_none h]
  have hd0 : l.length ≤ i → ival (l.drop i) = 0 := fun h => by rw [List.drop_eq_nil_of_le h]; rfl
  generalize l[i]?.getD 0 = x at *
  have vl := val_lt (B := 10000) (by omega) h2
  rw [h1] at vl
  have hpos : l.length ≤ i → 0 ≤ v := fun h => by
    rw [hd0 h, Int.add_zero] at h5
    rcases Int.lt_or_le v 0 with hv | hv
    · have : (10000 : Int) ^ i * v ≤ 10000 ^ i * (-1) := Int.mul_le_mul_of_nonneg_left (by omega) (Int.le_of_lt (Int.pow_pos (by omega)))
      have c : ((10000 ^ i : Nat) : Int) = (10000 : Int) ^ i := by simp
      omega
    · exact hv
  have nx : ∀ (w : Int) t, (i < l.length ∧ w = v + x ∨ l.length ≤ i ∧ w = v ∧ v ≠ 0) → weak 0 t ⟨[(0, .sl 1 (z64s l)), (3, zAV .nils ((out ++ [(w % 10000).toNat]).map fun n : Nat => (n : Int))), (4, .int .i64 (w / 10000)), (5, .int .i64 ((i + 1 : Nat) : Int))], zBlk ((out ++ [(w % 10000).toNat]).map fun n : Nat => (n : Int))⟩ → R t := by
    intro w t hw ht
    have hw' : w = v + x ∧ (i < l.length ∨ v ≠ 0 ∧ l.length ≤ i) := by
      rcases hw with ⟨a, b⟩ | ⟨a, b, c⟩
      · exact ⟨b, .inl a⟩
      · exact ⟨by rw [hx0 a]; omega, .inr ⟨c, a⟩⟩
    obtain ⟨e, hw'⟩ := hw'
    refine hR (i + 1, out ++ [(w % 10000).toNat], w / 10000) t ⟨by simp [h1], ?_, ?_, ?_, ?_⟩ ?_ ht
    · intro y hy
      rcases List.mem_append.1 hy with hy | hy
      · exact h2 y hy
      · simp at hy; omega
    · dsimp only; omega
    · dsimp only
      rcases hw' with h | ⟨h, h'⟩
      · omega
      · have := hpos h'
        have := hx0 h'
        omega
    · dsimp only
      rw [val_snoc, h1, Int.natCast_add, Int.natCast_mul, show ((10000 ^ i : Nat) : Int) = (10000 : Int) ^ i by simp, show (((w % 10000).toNat : Nat) : Int) = w % 10000 by omega, Int.pow_succ]
      rw [ed] at h5
      exact carry_num _ _ (v + x) _ (w % 10000) (w / 10000) _ (by rw [h5]; congr 2; omega) (by omega)
    · dsimp only
      rcases hw' with h | ⟨h, h'⟩
      · omega
      · have := hpos h'
        have := hx0 h'
        omega
  rcases Nat.lt_or_ge i l.length with hi | hi
  · have hx := hx hi
    generalize hw : v + x = w at *
    have w1 : 0 ≤ w % 10000 ∧ w % 10000 < 10000 := by omega
    have w2 : ((w % 10000).toNat : Int) = w % 10000 := by omega
    have w3 := tmod_4 w
    have w4 := tdiv_4 w
    have f2 : IntKind.i64.wrap (w - w % 10000) = w - w % 10000 := wrapZ (by omega)
    have f3 : IntKind.i64.wrap (w / 10000) = w / 10000 := wrapZ (by omega)
    have hpl : ∀ L : List Int, AV.plainL (z64s L) = true := z64s_plain
    by_cases hm : w.tmod 10000 < 0
    · have w5 : w.tmod 10000 + 10000 = w % 10000 := by split at w3 <;> omega
      have f1 : IntKind.i64.wrap (w % 10000) = w % 10000 := wrapZ (by omega)
      rcases out with _ | ⟨y, out⟩
      · simp -implicitDefEqProofs (disch := omega) only [KF, KR, KV0, KV1, KV2, KW, ↓bstep, ↓astep, ↓O1.eq_def, ↓onBool.eq_def, ↓onInt.eq_def, ↓onStr.eq_def, ↓onLo.eq_def, ↓binK.eq_def, ↓arith.eq_def, ↓strOp.eq_def, ↓srcElems.eq_def, ↓dst1.eq_def, args0, List.zipIdx, List.map, lookup, St.ev, St.set, St.setO, reduceCtorEq, AV.plain, AV.plainL, AV.flat, AV.flatL, AV.cells, Nat.reduceEqDiff, ↓reduceIte, List.drop, List.take, List.length, Nat.reduceAdd, Nat.reduceLeDiff, Nat.reduceMul, E.done, rvsK, rvK, resAV, Int.reduceToNat, Int.reduceLE, Int.reduceLT, Int.reduceNeg, Int.reduceAdd, Int.reduceSub, Int.reduceMul, Nat.reduceLT, AV.isElem, AV.one, ↓buildCells.eq_1, ↓buildCells.eq_2, Nat.reduceBEq, eqCells, hi, z64s_length, hx, hw, eq_true hm, w5, f1, f2, w4, f3, List.map_nil, zAV, zBlk]
        refine ⟨by omega, by omega, nx w _ (.inl ⟨hi, rfl⟩) ?_⟩
        exact weak_row 0 rfl (congrArg (fun z : Int => [AV.int IntKind.i64 z]) w2.symm) (hpl _) (by simp [lookup, zAV, AV.ren, AV.idsLt])
      · have f4 : (List.map (fun n : Nat => (n : Int)) out).length + 1 = i := by simpa using h1
        have f5 : (z64s ((y : Int) :: List.map (fun n : Nat => (n : Int)) out)).length = (List.map (fun n : Nat => (n : Int)) out).length + 1 := by simp [z64s]
        simp -implicitDefEqProofs (disch := omega) only [KF, KR, KV0, KV1, KV2, KW, ↓bstep, ↓astep, ↓O1.eq_def, ↓onBool.eq_def, ↓onInt.eq_def, ↓onStr.eq_def, ↓onLo.eq_def, ↓binK.eq_def, ↓arith.eq_def, ↓strOp.eq_def, ↓srcElems.eq_def, ↓dst1.eq_def, args0, List.zipIdx, List.map, lookup, St.ev, St.set, St.setO, reduceCtorEq, AV.plain, AV.plainL, AV.flat, AV.flatL, AV.cells, Nat.reduceEqDiff, ↓reduceIte, List.drop, List.take, List.length, Nat.reduceAdd, Nat.reduceLeDiff, Nat.reduceMul, E.done, rvsK, rvK, resAV, Int.reduceToNat, Int.reduceLE, Int.reduceLT, Int.reduceNeg, Int.reduceAdd, Int.reduceSub, Int.reduceMul, Nat.reduceLT, AV.isElem, AV.one, ↓buildCells.eq_1, ↓buildCells.eq_2, Nat.reduceBEq, eqCells, hi, z64s_length, hx, hw, eq_true hm, w5, f1, f2, w4, f3, List.map_cons, zAV, zBlk]
        refine ⟨by omega, by omega, by omega, by omega, by omega, nx w _ (.inl ⟨hi, rfl⟩) ?_⟩
        refine weak_row 1 rfl ?_ (hpl _) ?_
        · rw [Nat.mul_one, ← f5, List.take_length, List.map_append, z64s_append]
          exact congrArg (fun z : Int => z64s (((y :: out) : List Nat).map fun n : Nat => (n : Int)) ++ [AV.int IntKind.i64 z]) w2.symm
        · simp [lookup, zAV, AV.ren, AV.idsLt, ← f4]
    · have w5 : w.tmod 10000 = w % 10000 := by split at w3 <;> omega
      have w6 : (w % 10000 < 0) = False := eq_false (by omega)
      rcases out with _ | ⟨y, out⟩
      · simp -implicitDefEqProofs (disch := omega) only [KF, KR, KV0, KV1, KV2, KW, ↓bstep, ↓astep, ↓O1.eq_def, ↓onBool.eq_def, ↓onInt.eq_def, ↓onStr.eq_def, ↓onLo.eq_def, ↓binK.eq_def, ↓arith.eq_def, ↓strOp.eq_def, ↓srcElems.eq_def, ↓dst1.eq_def, args0, List.zipIdx, List.map, lookup, St.ev, St.set, St.setO, reduceCtorEq, AV.plain, AV.plainL, AV.flat, AV.flatL, AV.cells, Nat.reduceEqDiff, ↓reduceIte, List.drop, List.take, List.length, Nat.reduceAdd, Nat.reduceLeDiff, Nat.reduceMul, E.done, rvsK, rvK, resAV, Int.reduceToNat, Int.reduceLE, Int.reduceLT, Int.reduceNeg, Int.reduceAdd, Int.reduceSub, Int.reduceMul, Nat.reduceLT, AV.isElem, AV.one, ↓buildCells.eq_1, ↓buildCells.eq_2, Nat.reduceBEq, eqCells, hi, z64s_length, hx, hw, eq_false hm, w5, w6, f2, w4, f3, List.map_nil, zAV, zBlk]
        refine ⟨by omega, by omega, nx w _ (.inl ⟨hi, rfl⟩) ?_⟩
        exact weak_row 0 rfl (congrArg (fun z : Int => [AV.int IntKind.i64 z]) w2.symm) (hpl _) (by simp [lookup, zAV, AV.ren, AV.idsLt])
      · have f4 : (List.map (fun n : Nat => (n : Int)) out).length + 1 = i := by simpa using h1
        have f5 : (z64s ((y : Int) :: List.map (fun n : Nat => (n : Int)) out)).length = (List.map (fun n : Nat => (n : Int)) out).length + 1 := by simp [z64s]
        simp -implicitDefEqProofs (disch := omega) only [KF, KR, KV0, KV1, KV2, KW, ↓bstep, ↓astep, ↓O1.eq_def, ↓onBool.eq_def, ↓onInt.eq_def, ↓onStr.eq_def, ↓onLo.eq_def, ↓binK.eq_def, ↓arith.eq_def, ↓strOp.eq_def, ↓srcElems.eq_def, ↓dst1.eq_def, args0, List.zipIdx, List.map, lookup, St.ev, St.set, St.setO, reduceCtorEq, AV.plain, AV.plainL, AV.flat, AV.flatL, AV.cells, Nat.reduceEqDiff, ↓reduceIte, List.drop, List.take, List.length, Nat.reduceAdd, Nat.reduceLeDiff, Nat.reduceMul, E.done, rvsK, rvK, resAV, Int.reduceToNat, Int.reduceLE, Int.reduceLT, Int.reduceNeg, Int.reduceAdd, Int.reduceSub, Int.reduceMul, Nat.reduceLT, AV.isElem, AV.one, ↓buildCells.eq_1, ↓buildCells.eq_2, Nat.reduceBEq, eqCells, hi, z64s_length, hx, hw, eq_false hm, w5, w6, f2, w4, f3, List.map_cons, zAV, zBlk]
        refine ⟨by omega, by omega, by omega, by omega, by omega, nx w _ (.inl ⟨hi, rfl⟩) ?_⟩
        refine weak_row 1 rfl ?_ (hpl _) ?_
        · rw [Nat.mul_one, ← f5, List.take_length, List.map_append, z64s_append]
          exact congrArg (fun z : Int => z64s (((y :: out) : List Nat).map fun n : Nat => (n : Int)) ++ [AV.int IntKind.i64 z]) w2.symm
        · simp [lookup, zAV, AV.ren, AV.idsLt, ← f4]
  · by_cases hv : v = 0
    · have hi' : ¬ i < l.length := by omega
      have hv' := eq_true hv
      have e0 : (ival l).toNat = val 10000 out := by rw [h5, hd0 hi, hv]; simp
      refine WF (And.intro hi' (And.intro @z64s_length hv')) ?_
      refine CL_give [0] (s224 m out (by omega)) (.cons _ _ _ _ (zAV_shows _ (.inl rfl)) .nil) ?_
      refine WW ?_
      refine shv ?_ rfl
      rw [e0, tr_pc (by omega) h2]; rfl
    · have hi' : ¬ i < l.length := by omega
      have hv' := eq_false hv
      generalize hw : v = w at *
      have w1 : 0 ≤ w % 10000 ∧ w % 10000 < 10000 := by omega
      have w2 : ((w % 10000).toNat : Int) = w % 10000 := by omega
      have w3 := tmod_4 w
      have w4 := tdiv_4 w
      have f2 : IntKind.i64.wrap (w - w % 10000) = w - w % 10000 := wrapZ (by omega)
      have f3 : IntKind.i64.wrap (w / 10000) = w / 10000 := wrapZ (by omega)
      have hpl : ∀ L : List Int, AV.plainL (z64s L) = true := z64s_plain
      by_cases hm : w.tmod 10000 < 0
      · have w5 : w.tmod 10000 + 10000 = w % 10000 := by split at w3 <;> omega
        have f1 : IntKind.i64.wrap (w % 10000) = w % 10000 := wrapZ (by omega)
        rcases out with _ | ⟨y, out⟩
        · simp -implicitDefEqProofs (disch := omega) only [KF, KR, KV0, KV1, KV2, KW, ↓bstep, ↓astep, ↓O1.eq_def, ↓onBool.eq_def, ↓onInt.eq_def, ↓onStr.eq_def, ↓onLo.eq_def, ↓binK.eq_def, ↓arith.eq_def, ↓strOp.eq_def, ↓srcElems.eq_def, ↓dst1.eq_def, args0, List.zipIdx, List.map, lookup, St.ev, St.set, St.setO, reduceCtorEq, AV.plain, AV.plainL, AV.flat, AV.flatL, AV.cells, Nat.reduceEqDiff, ↓reduceIte, List.drop, List.take, List.length, Nat.reduceAdd, Nat.reduceLeDiff, Nat.reduceMul, E.done, rvsK, rvK, resAV, Int.reduceToNat, Int.reduceLE, Int.reduceLT, Int.reduceNeg, Int.reduceAdd, Int.reduceSub, Int.reduceMul, Nat.reduceLT, AV.isElem, AV.one, ↓buildCells.eq_1, ↓buildCells.eq_2, Nat.reduceBEq, eqCells, hi', z64s_length, hv', eq_true hm, w5, f1, f2, w4, f3, List.map_nil, zAV, zBlk]
          refine ⟨by omega, by omega, nx w _ (.inr ⟨hi, rfl, hv⟩) ?_⟩
          exact weak_row 0 rfl (congrArg (fun z : Int => [AV.int IntKind.i64 z]) w2.symm) (hpl _) (by simp [lookup, zAV, AV.ren, AV.idsLt])
        · have f4 : (List.map (fun n : Nat => (n : Int)) out).length + 1 = i := by simpa using h1
          have f5 : (z64s ((y : Int) :: List.map (fun n : Nat => (n : Int)) out)).length = (List.map (fun n : Nat => (n : Int)) out).length + 1 := by simp [z64s]
          simp -implicitDefEqProofs (disch := omega) only [KF, KR, KV0, KV1, KV2, KW, ↓bstep, ↓astep, ↓O1.eq_def, ↓onBool.eq_def, ↓onInt.eq_def, ↓onStr.eq_def, ↓onLo.eq_def, ↓binK.eq_def, ↓arith.eq_def, ↓strOp.eq_def, ↓srcElems.eq_def, ↓dst1.eq_def, args0, List.zipIdx, List.map, lookup, St.ev, St.set, St.setO, reduceCtorEq, AV.plain, AV.plainL, AV.flat, AV.flatL, AV.cells, Nat.reduceEqDiff, ↓reduceIte, List.drop, List.take, List.length, Nat.reduceAdd, Nat.reduceLeDiff, Nat.reduceMul, E.done, rvsK, rvK, resAV, Int.reduceToNat, Int.reduceLE, Int.reduceLT, Int.reduceNeg, Int.reduceAdd, Int.reduceSub, Int.reduceMul, Nat.reduceLT, AV.isElem, AV.one, ↓buildCells.eq_1, ↓buildCells.eq_2, Nat.reduceBEq, eqCells, hi', z64s_length, hv', eq_true hm, w5, f1, f2, w4, f3, List.map_cons, zAV, zBlk]
          refine ⟨by omega, by omega, by omega, by omega, by omega, nx w _ (.inr ⟨hi, rfl, hv⟩) ?_⟩
          refine weak_row 1 rfl ?_ (hpl _) ?_
          · rw [Nat.mul_one, ← f5, List.take_length, List.map_append, z64s_append]
            exact congrArg (fun z : Int => z64s (((y :: out) : List Nat).map fun n : Nat => (n : Int)) ++ [AV.int IntKind.i64 z]) w2.symm
          · simp [lookup, zAV, AV.ren, AV.idsLt, ← f4]
      · have w5 : w.tmod 10000 = w % 10000 := by split at w3 <;> omega
        have w6 : (w % 10000 < 0) = False := eq_false (by omega)
        rcases out with _ | ⟨y, out⟩
        · simp -implicitDefEqProofs (disch := omega) only [KF, KR, KV0, KV1, KV2, KW, ↓bstep, ↓astep, ↓O1.eq_def, ↓onBool.eq_def, ↓onInt.eq_def, ↓onStr.eq_def, ↓onLo.eq_def, ↓binK.eq_def, ↓arith.eq_def, ↓strOp.eq_def, ↓srcElems.eq_def, ↓dst1.eq_def, args0, List.zipIdx, List.map, lookup, St.ev, St.set, St.setO, reduceCtorEq, AV.plain, AV.plainL, AV.flat, AV.flatL, AV.cells, Nat.reduceEqDiff, ↓reduceIte, List.drop, List.take, List.length, Nat.reduceAdd, Nat.reduceLeDiff, Nat.reduceMul, E.done, rvsK, rvK, resAV, Int.reduceToNat, Int.reduceLE, Int.reduceLT, Int.reduceNeg, Int.reduceAdd, Int.reduceSub, Int.reduceMul, Nat.reduceLT, AV.isElem, AV.one, ↓buildCells.eq_1, ↓buildCells.eq_2, Nat.reduceBEq, eqCells, hi', z64s_length, hv', eq_false hm, w5, w6, f2, w4, f3, List.map_nil, zAV, zBlk]
          refine ⟨by omega, by omega, nx w _ (.inr ⟨hi, rfl, hv⟩) ?_⟩
          exact weak_row 0 rfl (congrArg (fun z : Int => [AV.int IntKind.i64 z]) w2.symm) (hpl _) (by simp [lookup, zAV, AV.ren, AV.idsLt])
        · have f4 : (List.map (fun n : Nat => (n : Int)) out).length + 1 = i := by simpa using h1
          have f5 : (z64s ((y : Int) :: List.map (fun n : Nat => (n : Int)) out)).length = (List.map (fun n : Nat => (n : Int)) out).length + 1 := by simp [z64s]
          simp -implicitDefEqProofs (disch := omega) only [KF, KR, KV0, KV1, KV2, KW, ↓bstep, ↓astep, ↓O1.eq_def, ↓onBool.eq_def, ↓onInt.eq_def, ↓onStr.eq_def, ↓onLo.eq_def, ↓binK.eq_def, ↓arith.eq_def, ↓strOp.eq_def, ↓srcElems.eq_def, ↓dst1.eq_def, args0, List.zipIdx, List.map, lookup, St.ev, St.set, St.setO, reduceCtorEq, AV.plain, AV.plainL, AV.flat, AV.flatL, AV.cells, Nat.reduceEqDiff, ↓reduceIte, List.drop, List.take, List.length, Nat.reduceAdd, Nat.reduceLeDiff, Nat.reduceMul, E.done, rvsK, rvK, resAV, Int.reduceToNat, Int.reduceLE, Int.reduceLT, Int.reduceNeg, Int.reduceAdd, Int.reduceSub, Int.reduceMul, Nat.reduceLT, AV.isElem, AV.one, ↓buildCells.eq_1, ↓buildCells.eq_2, Nat.reduceBEq, eqCells, hi', z64s_length, hv', eq_false hm, w5, w6, f2, w4, f3, List.map_cons, zAV, zBlk]
          refine ⟨by omega, by omega, by omega, by omega, by omega, nx w _ (.inr ⟨hi, rfl, hv⟩) ?_⟩
          refine weak_row 1 rfl ?_ (hpl _) ?_
          · rw [Nat.mul_one, ← f5, List.take_length, List.map_append, z64s_append]
            exact congrArg (fun z : Int => z64s (((y :: out) : List Nat).map fun n : Nat => (n : Int)) ++ [AV.int IntKind.i64 z]) w2.symm
          · simp [lookup, zAV, AV.ren, AV.idsLt, ← f4]
end Go.Proofs.YtkjnjdcbnelceaaGreatDoor.KA
end

section
/- Contracts of the reference's integers: joined. -/
open Go Go.Proofs
set_option linter.unusedSimpArgs false
set_option linter.unusedVariables false
set_option maxHeartbeats 2000000
set_option maxRecDepth 20000
namespace Go.Proofs.YtkjnjdcbnelceaaGreatDoor.KA
open Num

theorem ival_set : ∀ (l : List Int) (i : Nat) (y : Int), i < l.length → ival (l.set i y) = ival l + 10000 ^ i * (y - (l[i]?.getD 0))
  | [], i, y, h => by simp at h
  | x :: l, 0, y, h => by simp [ival]; omega
  | x :: l, i + 1, y, h => by
    have := ival_set l i y (by simpa using h)
    simp only [List.set_cons_succ, ival, this, List.getElem?_cons_succ]
    grind
theorem ival_snoc0 : ∀ (l : List Int), ival (l ++ [0]) = ival l
  | [] => rfl
  | x :: l => by rw [List.cons_append, ival, ival, ival_snoc0 l]
theorem get_snoc0 (l : List Int) (j : Nat) : (l ++ [0])[j]?.getD 0 = l[j]?.getD 0 := by
  rcases Nat.lt_trichotomy j l.length with h | h | h
  · rw [List.getElem?_append_left h]
  · subst h; simp
  · rw [List.getElem?_eq_none (by simp; omega), List.getElem?_eq_none (by omega)]

/-- klipperef01.joined, from the first place on -/
theorem s198 (m : Int) (p q : List Nat) (k : Int) (hk : k.natAbs ≤ 10000) (hp : p.length < 400000) (hq : q.length < 400000) (lp : ∀ x ∈ p, x < 10000) (lq : ∀ x ∈ q, x < 10000) (hne : p ≠ [] ∨ q ≠ [])
    (h0 : 0 ≤ (val 10000 p : Int) + k * val 10000 q) : SpecP (cx m) 198 [.sl 1 (n64s p), .sl 1 (n64s q), .int .i64 k, .int .i64 0] (eI ((val 10000 p : Int) + k * val 10000 q).toNat) := by
  refine specP_of (mixed m) (k198 m) (Nat.le_of_ble_eq_true rfl) (X_start ?_)
  unfold c198
  have hs0 : small 10000 (p.map fun n : Nat => (n : Int)) := fun x hx => by
    obtain ⟨y, hy, rfl⟩ := List.mem_map.1 hx
    have := lp y hy
    omega
  generalize hP : p.map (fun n : Nat => (n : Int)) = P at *
  have hPl : P.length = p.length := by rw [← hP, List.length_map]
  have hPv : ival P = val 10000 p := by rw [← hP, ival_nat]
  have hPn : n64s p = z64s P := by rw [n64s_z, hP]
  have hne' : P ≠ [] ∨ q ≠ [] := hne.imp (fun h e => h (by rw [← hP] at e; simpa using e)) id
  rw [hPn]
  rcases hPP : P with _ | ⟨y, ys⟩
  · rw [show z64s [] = [] from rfl]
    refine WW ?_
    refine X_for (fun x : Nat × List Int => ⟨[(1, .sl 1 (n64s q)), (2, .int .i64 k), (3, .int .i64 0), (9, zAV .emp x.2), (10, .int .i64 x.1)], zBlk x.2⟩)
      (fun x => x.1 ≤ q.length ∧ x.2.length = max P.length x.1 ∧ (∀ j, x.1 ≤ j → x.2[j]?.getD 0 = P[j]?.getD 0) ∧ small 1000000000 x.2 ∧ ival x.2 = ival P + k * val 10000 (q.take x.1))
      (fun x => q.length - x.1) (0, P) ⟨Nat.zero_le _, by simp, by simp, fun x hx => by have := hs0 x hx; omega, by simp [val]⟩ (by rw [hPP]; exact weak_keep (by simp [lookup, zAV])) ?_
    rintro ⟨i, o⟩ R ⟨h1, h2, h3, h4, h5⟩ hR
    try dsimp only at hR ⊢ h1 h2 h3 h4 h5
    rcases Nat.lt_or_ge i q.length with hi | hi
    · have hx := n64s_at (l := q) (k := i) (x := q[i]?.getD 0) (by simp [hi])
      have lx : q[i]?.getD 0 < 10000 := by simpa [hi] using lq _ (List.getElem_mem hi)
      have ev := val_take_getD 10000 q i
      generalize q[i]?.getD 0 = x at *
      refine WF (And.intro hi (And.intro @n64s_length hx)) ?_
      refine X_for (fun o' : List Int => ⟨[(1, .sl 1 (n64s q)), (2, .int .i64 k), (3, .int .i64 0), (9, zAV .emp o'), (10, .int .i64 i)], zBlk o'⟩)
        (fun o' : List Int => i ≤ o'.length ∧ o'.length ≤ max P.length (i + 1) ∧ o.length ≤ o'.length ∧ (∀ j : Nat, o'[j]?.getD 0 = o[j]?.getD 0) ∧ small 1000000000 o' ∧ ival o' = ival o)
        (fun o' : List Int => i + 1 - o'.length) o ⟨by omega, by omega, Nat.le_refl _, fun j => rfl, h4, rfl⟩ (weak_keep (by simp [lookup])) ?_
      rintro o' R' ⟨g1, g2, g3, g4, g5, g6⟩ hR'
      try dsimp only at hR' ⊢ g1 g2 g3 g4 g5 g6
      have gn : small 1000000000 (o' ++ [0]) := fun x hx => by
        rcases List.mem_append.1 hx with hx | hx
        · exact g5 x hx
        · simp at hx; subst hx; decide
      have nx : ∀ t, o'.length ≤ i → weak 0 t ⟨[(1, .sl 1 (n64s q)), (2, .int .i64 k), (3, .int .i64 0), (9, zAV .emp (o' ++ [0])), (10, .int .i64 i)], zBlk (o' ++ [0])⟩ → R' t := fun t hle ht =>
        hR' (o' ++ [0]) t ⟨by simp; omega, by simp; omega, by simp; omega, fun j => by rw [get_snoc0, g4], gn, by rw [ival_snoc0, g6]⟩ (by simp; omega) ht
      rcases o' with _ | ⟨z, zs⟩
      · have c0 : (0 : Int) ≤ (i : Int) := by omega
        simp -implicitDefEqProofs (disch := omega) only [KF, KR, KV0, KV1, KV2, KW, ↓bstep, ↓astep, ↓O1.eq_def, ↓onBool.eq_def, ↓onInt.eq_def, ↓onStr.eq_def, ↓onLo.eq_def, ↓binK.eq_def, ↓arith.eq_def, ↓strOp.eq_def, ↓srcElems.eq_def, ↓dst1.eq_def, args0, List.zipIdx, List.map, lookup, St.ev, St.set, St.setO, reduceCtorEq, AV.plain, AV.plainL, AV.flat, AV.flatL, AV.cells, Nat.reduceEqDiff, ↓reduceIte, List.drop, List.take, List.length, Nat.reduceAdd, Nat.reduceLeDiff, Nat.reduceMul, E.done, rvsK, rvK, resAV, Int.reduceToNat, Int.reduceLE, Int.reduceLT, Int.reduceNeg, Int.reduceAdd, Int.reduceSub, Int.reduceMul, Nat.reduceLT, AV.isElem, AV.one, ↓buildCells.eq_1, ↓buildCells.eq_2, Nat.reduceBEq, eqCells, zAV, zBlk, c0]
        exact nx _ (by simp) (weak_row 0 rfl rfl (z64s_plain [0]) (by simp [lookup, zAV, AV.ren, AV.idsLt]))
      · have zl := z64s_length (z :: zs)
        rw [List.length_cons] at g1 g2 g3 zl nx
        have i0 : (i : Int) + 0 = i := Int.add_zero _
        by_cases hle : zs.length + 1 ≤ i
        · have c0 : ((zs.length + 1 : Nat) : Int) ≤ (i : Int) := by omega
          simp -implicitDefEqProofs (disch := omega) only [KF, KR, KV0, KV1, KV2, KW, ↓bstep, ↓astep, ↓O1.eq_def, ↓onBool.eq_def, ↓onInt.eq_def, ↓onStr.eq_def, ↓onLo.eq_def, ↓binK.eq_def, ↓arith.eq_def, ↓strOp.eq_def, ↓srcElems.eq_def, ↓dst1.eq_def, args0, List.zipIdx, List.map, lookup, St.ev, St.set, St.setO, reduceCtorEq, AV.plain, AV.plainL, AV.flat, AV.flatL, AV.cells, Nat.reduceEqDiff, ↓reduceIte, List.drop, List.take, List.length, Nat.reduceAdd, Nat.reduceLeDiff, Nat.reduceMul, E.done, rvsK, rvK, resAV, Int.reduceToNat, Int.reduceLE, Int.reduceLT, Int.reduceNeg, Int.reduceAdd, Int.reduceSub, Int.reduceMul, Nat.reduceLT, AV.isElem, AV.one, ↓buildCells.eq_1, ↓buildCells.eq_2, Nat.reduceBEq, eqCells, zAV, zBlk, i0, c0, zl]
          refine ⟨by omega, by omega, by omega, nx _ hle (weak_row 1 rfl ?_ (z64s_plain _) ?_)⟩
          · rw [Nat.mul_one, ← zl, List.take_length, z64s_append]; rfl
          · simp [lookup, zAV, AV.ren, AV.idsLt]
        · have c0 : ¬ ((zs.length + 1 : Nat) : Int) ≤ (i : Int) := by omega
          have hgl : (z :: zs).length = zs.length + 1 := rfl
          have e1 : (z64s (z :: zs))[i]? = some (.int .i64 ((z :: zs)[i]?.getD 0)) := z64s_at (by rw [List.getElem?_eq_getElem (by omega)]; rfl)
          have e2 := small_at hs0 i
          rw [← h3 i (Nat.le_refl _), ← g4 i] at e2
          have gs := ival_set (z :: zs) i
          have lset : ∀ w, ((z :: zs).set i w).length = zs.length + 1 := fun w => by rw [List.length_set]; rfl
          have gset : ∀ w, ∃ z' zs', (z :: zs).set i w = z' :: zs' ∧ zs'.length = zs.length := fun w => by
            have := lset w
            rcases hL : (z :: zs).set i w with _ | ⟨z', zs'⟩
            · rw [hL] at this; simp at this
            · rw [hL] at this; exact ⟨z', zs', rfl, by simpa using this⟩
          have gss := fun w => z64s_set (z :: zs) i w
          have gj : ∀ w j, i + 1 ≤ j → ((z :: zs).set i w)[j]?.getD 0 = P[j]?.getD 0 := fun w j hj => by
            rw [List.getElem?_set_ne (by omega), g4, h3 j (by omega)]
          have gm : ∀ w, w.natAbs ≤ 1000000000 → small 1000000000 ((z :: zs).set i w) := fun w hw x hx => by
            rcases List.mem_or_eq_of_mem_set hx with h | h
            · exact g5 x h
            · rw [h]; exact hw
          generalize (z :: zs)[i]?.getD 0 = e at *
          have ek : (k * (x : Int)).natAbs ≤ 10000 * 10000 := by
            rw [Int.natAbs_mul]; exact Nat.mul_le_mul hk (by omega)
          have wk : IntKind.i64.wrap (k * (x : Int)) = k * (x : Int) := wrapZ (by omega)
          have wk2 : IntKind.i64.wrap (e + k * (x : Int)) = e + k * (x : Int) := wrapZ (by omega)
          have iz : 0 + i * 1 = i := by omega
          simp -implicitDefEqProofs (disch := omega) only [KF, KR, KV0, KV1, KV2, KW, ↓bstep, ↓astep, ↓O1.eq_def, ↓onBool.eq_def, ↓onInt.eq_def, ↓onStr.eq_def, ↓onLo.eq_def, ↓binK.eq_def, ↓arith.eq_def, ↓strOp.eq_def, ↓srcElems.eq_def, ↓dst1.eq_def, args0, List.zipIdx, List.map, lookup, St.ev, St.set, St.setO, reduceCtorEq, AV.plain, AV.plainL, AV.flat, AV.flatL, AV.cells, Nat.reduceEqDiff, ↓reduceIte, List.drop, List.take, List.length, Nat.reduceAdd, Nat.reduceLeDiff, Nat.reduceMul, E.done, rvsK, rvK, resAV, Int.reduceToNat, Int.reduceLE, Int.reduceLT, Int.reduceNeg, Int.reduceAdd, Int.reduceSub, Int.reduceMul, Nat.reduceLT, AV.isElem, AV.one, ↓buildCells.eq_1, ↓buildCells.eq_2, Nat.reduceBEq, eqCells, zAV, zBlk, i0, c0, zl, iz, e1, hx, wk, wk2]
          refine ⟨by omega, by omega, by omega, ?_⟩
          obtain ⟨z', zs', hz1, hz2⟩ := gset (e + k * (x : Int))
          refine hR (i + 1, (z :: zs).set i (e + k * (x : Int))) _ ⟨by omega, ?_, gj _, gm _ (by omega), ?_⟩ (by omega) ?_
          · rw [lset]; omega
          · dsimp only
            rw [gs _ (by omega), g6, h5, ev]
            simp only [Int.natCast_add, Int.natCast_mul, Int.natCast_pow]
            grind
          · dsimp only
            rw [gss, hz1]
            refine weak_same ?_ rfl
            simp [lookup, zAV, hz2]
    · have hi' : ¬ i < q.length := by omega
      have ho : o ≠ [] := fun e => by
        rw [e, List.length_nil] at h2
        rcases hne' with h | h
        · have := List.length_pos_iff.2 h; omega
        · have := List.length_pos_iff.2 h; omega
      rw [List.take_of_length_le (by omega), hPv] at h5
      refine WF (And.intro hi' @n64s_length) ?_
      have hc := s225 m o (by omega) (fun x hx => by have := h4 x hx; omega) (by rw [h5]; exact h0)
      rw [h5] at hc
      refine CL_give [0] hc (.cons _ _ _ _ (zAV_shows _ (.inr ho)) .nil) ?_
      refine WW ?_
      exact shv rfl rfl
  · rw [show z64s (y :: ys) = .int .i64 y :: z64s ys from rfl]
    have hyl := z64s_length ys
    have hPl' : ys.length + 1 = p.length := by rw [← hPl, hPP]; rfl
    refine WF hyl ?_
    refine ⟨by omega, by omega, ?_⟩
    refine X_for (fun x : Nat × List Int => ⟨[(1, .sl 1 (n64s q)), (2, .int .i64 k), (3, .int .i64 0), (9, zAV .emp x.2), (10, .int .i64 x.1)], zBlk x.2⟩)
      (fun x => x.1 ≤ q.length ∧ x.2.length = max P.length x.1 ∧ (∀ j, x.1 ≤ j → x.2[j]?.getD 0 = P[j]?.getD 0) ∧ small 1000000000 x.2 ∧ ival x.2 = ival P + k * val 10000 (q.take x.1))
      (fun x => q.length - x.1) (0, P) ⟨Nat.zero_le _, by simp, by simp, fun x hx => by have := hs0 x hx; omega, by simp [val]⟩ (by rw [hPP]; exact weak_same (by simp [lookup, zAV]) (congrArg (fun z => [some (AV.int IntKind.i64 y :: z)]) (z64s_flat ys).symm)) ?_
    rintro ⟨i, o⟩ R ⟨h1, h2, h3, h4, h5⟩ hR
    try dsimp only at hR ⊢ h1 h2 h3 h4 h5
    rcases Nat.lt_or_ge i q.length with hi | hi
    · have hx := n64s_at (l := q) (k := i) (x := q[i]?.getD 0) (by simp [hi])
      have lx : q[i]?.getD 0 < 10000 := by simpa [hi] using lq _ (List.getElem_mem hi)
      have ev := val_take_getD 10000 q i
      generalize q[i]?.getD 0 = x at *
      refine WF (And.intro hi (And.intro @n64s_length hx)) ?_
      refine X_for (fun o' : List Int => ⟨[(1, .sl 1 (n64s q)), (2, .int .i64 k), (3, .int .i64 0), (9, zAV .emp o'), (10, .int .i64 i)], zBlk o'⟩)
        (fun o' : List Int => i ≤ o'.length ∧ o'.length ≤ max P.length (i + 1) ∧ o.length ≤ o'.length ∧ (∀ j : Nat, o'[j]?.getD 0 = o[j]?.getD 0) ∧ small 1000000000 o' ∧ ival o' = ival o)
        (fun o' : List Int => i + 1 - o'.length) o ⟨by omega, by omega, Nat.le_refl _, fun j => rfl, h4, rfl⟩ (weak_keep (by simp [lookup])) ?_
      rintro o' R' ⟨g1, g2, g3, g4, g5, g6⟩ hR'
      try dsimp only at hR' ⊢ g1 g2 g3 g4 g5 g6
      have gn : small 1000000000 (o' ++ [0]) := fun x hx => by
        rcases List.mem_append.1 hx with hx | hx
        · exact g5 x hx
        · simp at hx; subst hx; decide
      have nx : ∀ t, o'.length ≤ i → weak 0 t ⟨[(1, .sl 1 (n64s q)), (2, .int .i64 k), (3, .int .i64 0), (9, zAV .emp (o' ++ [0])), (10, .int .i64 i)], zBlk (o' ++ [0])⟩ → R' t := fun t hle ht =>
        hR' (o' ++ [0]) t ⟨by simp; omega, by simp; omega, by simp; omega, fun j => by rw [get_snoc0, g4], gn, by rw [ival_snoc0, g6]⟩ (by simp; omega) ht
      rcases o' with _ | ⟨z, zs⟩
      · have c0 : (0 : Int) ≤ (i : Int) := by omega
        simp -implicitDefEqProofs (disch := omega) only [KF, KR, KV0, KV1, KV2, KW, ↓bstep, ↓astep, ↓O1.eq_def, ↓onBool.eq_def, ↓onInt.eq_def, ↓onStr.eq_def, ↓onLo.eq_def, ↓binK.eq_def, ↓arith.eq_def, ↓strOp.eq_def, ↓srcElems.eq_def, ↓dst1.eq_def, args0, List.zipIdx, List.map, lookup, St.ev, St.set, St.setO, reduceCtorEq, AV.plain, AV.plainL, AV.flat, AV.flatL, AV.cells, Nat.reduceEqDiff, ↓reduceIte, List.drop, List.take, List.length, Nat.reduceAdd, Nat.reduceLeDiff, Nat.reduceMul, E.done, rvsK, rvK, resAV, Int.reduceToNat, Int.reduceLE, Int.reduceLT, Int.reduceNeg, Int.reduceAdd, Int.reduceSub, Int.reduceMul, Nat.reduceLT, AV.isElem, AV.one, ↓buildCells.eq_1, ↓buildCells.eq_2, Nat.reduceBEq, eqCells, zAV, zBlk, c0]
        exact nx _ (by simp) (weak_row 0 rfl rfl (z64s_plain [0]) (by simp [lookup, zAV, AV.ren, AV.idsLt]))
      · have zl := z64s_length (z :: zs)
        rw [List.length_cons] at g1 g2 g3 zl nx
        have i0 : (i : Int) + 0 = i := Int.add_zero _
        by_cases hle : zs.length + 1 ≤ i
        · have c0 : ((zs.length + 1 : Nat) : Int) ≤ (i : Int) := by omega
          simp -implicitDefEqProofs (disch := omega) only [KF, KR, KV0, KV1, KV2, KW, ↓bstep, ↓astep, ↓O1.eq_def, ↓onBool.eq_def, ↓onInt.eq_def, ↓onStr.eq_def, ↓onLo.eq_def, ↓binK.eq_def, ↓arith.eq_def, ↓strOp.eq_def, ↓srcElems.eq_def, ↓dst1.eq_def, args0, List.zipIdx, List.map, lookup, St.ev, St.set, St.setO, reduceCtorEq, AV.plain, AV.plainL, AV.flat, AV.flatL, AV.cells, Nat.reduceEqDiff, ↓reduceIte, List.drop, List.take, List.length, Nat.reduceAdd, Nat.reduceLeDiff, Nat.reduceMul, E.done, rvsK, rvK, resAV, Int.reduceToNat, Int.reduceLE, Int.reduceLT, Int.reduceNeg, Int.reduceAdd, Int.reduceSub, Int.reduceMul, Nat.reduceLT, AV.isElem, AV.one, ↓buildCells.eq_1, ↓buildCells.eq_2, Nat.reduceBEq, eqCells, zAV, zBlk, i0, c0, zl]
          refine ⟨by omega, by omega, by omega, nx _ hle (weak_row 1 rfl ?_ (z64s_plain _) ?_)⟩
          · rw [Nat.mul_one, ← zl, List.take_length, z64s_append]; rfl
          · simp [lookup, zAV, AV.ren, AV.idsLt]
        · have c0 : ¬ ((zs.length + 1 : Nat) : Int) ≤ (i : Int) := by omega
          have hgl : (z :: zs).length = zs.length + 1 := rfl
          have e1 : (z64s (z :: zs))[i]? = some (.int .i64 ((z :: zs)[i]?.getD 0)) := z64s_at (by rw [List.getElem?_eq_getElem (by omega)]; rfl)
          have e2 := small_at hs0 i
          rw [← h3 i (Nat.le_refl _), ← g4 i] at e2
          have gs := ival_set (z :: zs) i
          have lset : ∀ w, ((z :: zs).set i w).length = zs.length + 1 := fun w => by rw [List.length_set]; rfl
          have gset : ∀ w, ∃ z' zs', (z :: zs).set i w = z' :: zs' ∧ zs'.length = zs.length := fun w => by
            have := lset w
            rcases hL : (z :: zs).set i w with _ | ⟨z', zs'⟩
            · rw [hL] at this; simp at this
            · rw [hL] at this; exact ⟨z', zs', rfl, by simpa using this⟩
          have gss := fun w => z64s_set (z :: zs) i w
          have gj : ∀ w j, i + 1 ≤ j → ((z :: zs).set i w)[j]?.getD 0 = P[j]?.getD 0 := fun w j hj => by
            rw [List.getElem?_set_ne (by omega), g4, h3 j (by omega)]
          have gm : ∀ w, w.natAbs ≤ 1000000000 → small 1000000000 ((z :: zs).set i w) := fun w hw x hx => by
            rcases List.mem_or_eq_of_mem_set hx with h | h
            · exact g5 x h
            · rw [h]; exact hw
          generalize (z :: zs)[i]?.getD 0 = e at *
          have ek : (k * (x : Int)).natAbs ≤ 10000 * 10000 := by
            rw [Int.natAbs_mul]; exact Nat.mul_le_mul hk (by omega)
          have wk : IntKind.i64.wrap (k * (x : Int)) = k * (x : Int) := wrapZ (by omega)
          have wk2 : IntKind.i64.wrap (e + k * (x : Int)) = e + k * (x : Int) := wrapZ (by omega)
          have iz : 0 + i * 1 = i := by omega
          simp -implicitDefEqProofs (disch := omega) only [KF, KR, KV0, KV1, KV2, KW, ↓bstep, ↓astep, ↓O1.eq_def, ↓onBool.eq_def, ↓onInt.eq_def, ↓onStr.eq_def, ↓onLo.eq_def, ↓binK.eq_def, ↓arith.eq_def, ↓strOp.eq_def, ↓srcElems.eq_def, ↓dst1.eq_def, args0, List.zipIdx, List.map, lookup, St.ev, St.set, St.setO, reduceCtorEq, AV.plain, AV.plainL, AV.flat, AV.flatL, AV.cells, Nat.reduceEqDiff, ↓reduceIte, List.drop, List.take, List.length, Nat.reduceAdd, Nat.reduceLeDiff, Nat.reduceMul, E.done, rvsK, rvK, resAV, Int.reduceToNat, Int.reduceLE, Int.reduceLT, Int.reduceNeg, Int.reduceAdd, Int.reduceSub, Int.reduceMul, Nat.reduceLT, AV.isElem, AV.one, ↓buildCells.eq_1, ↓buildCells.eq_2, Nat.reduceBEq, eqCells, zAV, zBlk, i0, c0, zl, iz, e1, hx, wk, wk2]
          refine ⟨by omega, by omega, by omega, ?_⟩
          obtain ⟨z', zs', hz1, hz2⟩ := gset (e + k * (x : Int))
          refine hR (i + 1, (z :: zs).set i (e + k * (x : Int))) _ ⟨by omega, ?_, gj _, gm _ (by omega), ?_⟩ (by omega) ?_
          · rw [lset]; omega
          · dsimp only
            rw [gs _ (by omega), g6, h5, ev]
            simp only [Int.natCast_add, Int.natCast_mul, Int.natCast_pow]
            grind
          · dsimp only
            rw [gss, hz1]
            refine weak_same ?_ rfl
            simp [lookup, zAV, hz2]
    · have hi' : ¬ i < q.length := by omega
      have ho : o ≠ [] := fun e => by
        rw [e, List.length_nil] at h2
        rcases hne' with h | h
        · have := List.length_pos_iff.2 h; omega
        · have := List.length_pos_iff.2 h; omega
      rw [List.take_of_length_le (by omega), hPv] at h5
      refine WF (And.intro hi' @n64s_length) ?_
      have hc := s225 m o (by omega) (fun x hx => by have := h4 x hx; omega) (by rw [h5]; exact h0)
      rw [h5] at hc
      refine CL_give [0] hc (.cons _ _ _ _ (zAV_shows _ (.inr ho)) .nil) ?_
      refine WW ?_
      exact shv rfl rfl
end Go.Proofs.YtkjnjdcbnelceaaGreatDoor.KA
end

section
/- Contracts of the reference's integers: digits to pieces, and back. -/
open Go Go.Proofs
set_option linter.unusedSimpArgs false
set_option linter.unusedVariables false
set_option maxHeartbeats 2000000
set_option maxRecDepth 20000
namespace Go.Proofs.YtkjnjdcbnelceaaGreatDoor.KA
open Num

theorem dval_nil : dval [] = 0 := rfl
/-- klipperef01.take -/
theorem s197 (m : Int) (D : List UInt8) (hD : ∀ b ∈ D, 48 ≤ b.toNat ∧ b.toNat ≤ 57) (hl : D.length < 1000000) : SpecP (cx m) 197 [.str D] (eI (dval D)) := by
  refine specP_of (mixed m) (k197 m) (Nat.le_of_ble_eq_true rfl) (X_start ?_)
  unfold c197
  refine WW ?_
  refine X_for (fun x : Int × List Nat => ⟨[(0, .str D), (3, zAV .nils (x.2.map fun n : Nat => (n : Int))), (4, .int .i64 x.1)], zBlk (x.2.map fun n : Nat => (n : Int))⟩)
    (fun x => -4 < x.1 ∧ x.1 ≤ D.length ∧ (∀ y ∈ x.2, y < 10000) ∧ (x.2.length : Int) * 4 + x.1 = D.length ∧ dval D = dval (D.take x.1.toNat) * 10000 ^ x.2.length + val 10000 x.2)
    (fun x => (x.1 + 4).toNat) (D.length, []) ⟨by dsimp only; omega, Int.le_refl _, by simp, by simp, by simp [val]⟩ (weak_keep (by simp [lookup, zAV])) ?_
  rintro ⟨v, out⟩ R ⟨h1, h2, h3, h4, h5⟩ hR
  try dsimp only at hR ⊢ h1 h2 h3 h4 h5
  by_cases hv : 0 < v
  · have hv' := eq_true hv
    obtain ⟨e, rfl⟩ : ∃ e : Nat, v = e := ⟨v.toNat, by omega⟩
    have em : (if 0 < (e : Int) - 4 then (e : Int) - 4 else 0) = ((e - 4 : Nat) : Int) := by split <;> omega
    rw [Int.toNat_natCast] at *
    have hdig : ∀ i a, ∀ b ∈ (D.take i).drop a, 48 ≤ b.toNat ∧ b.toNat ≤ 57 := fun i a b hb => hD b (List.mem_of_mem_take (List.mem_of_mem_drop hb))
    obtain ⟨a, ha⟩ : ∃ a, a = e - 4 := ⟨_, rfl⟩
    rw [← ha] at em
    have hbd : ∀ i, i ≤ e → dval ((D.take i).drop a) < 10000 := fun i hi => by
      have h7 := dval_lt (hdig i a)
      have h8 : ((D.take i).drop a).length ≤ 4 := by simp; omega
      have h9 := Nat.pow_le_pow_right (show 0 < 10 by omega) h8
      omega
    refine WF (And.intro hv' em) ?_
    refine X_for (fun i : Nat => ⟨[(0, .str D), (3, zAV .nils (out.map fun n : Nat => (n : Int))), (4, .int .i64 e), (5, .int .i64 (dval ((D.take i).drop a) : Nat)), (6, .int .i64 i)], zBlk (out.map fun n : Nat => (n : Int))⟩)
      (fun i => a ≤ i ∧ i ≤ e) (fun i => e - i) a ⟨Nat.le_refl _, by omega⟩ ?_ ?_
    · refine weak_keep ?_
      simp only [List.mem_cons, List.not_mem_nil, or_false, forall_eq_or_imp, forall_eq]
      refine ⟨rfl, rfl, rfl, ?_, rfl⟩
      rw [List.drop_eq_nil_of_le (by simp; omega)]
      rfl
    intro i R' ⟨g1, g2⟩ hR'
    try dsimp only at hR' ⊢
    rcases Nat.lt_or_ge i e with hi | hi
    · have hi' := eq_true (show (i : Int) < (e : Int) by omega)
      have hid : i < D.length := by omega
      have eb : D[i]? = some D[i] := List.getElem?_eq_getElem hid
      have hb := hD _ (List.getElem_mem hid)
      have es : (D.take (i + 1)).drop a = (D.take i).drop a ++ [D[i]] := by
        rw [List.take_add_one, eb, List.drop_append_of_le_length (by simp; omega)]; rfl
      have hn := hbd i (by omega)
      have hs := dval_snoc ((D.take i).drop a) D[i]
      rw [← es] at hs
      generalize dval ((D.take i).drop a) = n at *
      generalize hbb : D[i] = b at *
      have f1 : IntKind.i64.wrap (b.toNat : Int) = (b.toNat : Int) := wrapZ (by omega)
      have f2 : IntKind.i64.wrap (10 * (n : Int)) = 10 * (n : Int) := wrapZ (by omega)
      have f3 : IntKind.i64.wrap (10 * (n : Int) + (b.toNat : Int)) = 10 * (n : Int) + (b.toNat : Int) := wrapZ (by omega)
      have f4 : IntKind.i64.wrap (10 * (n : Int) + (b.toNat : Int) - 48) = ((10 * n + (b.toNat - 48) : Nat) : Int) := by rw [wrapZ (by omega)]; omega
      refine WF (And.intro hi' (And.intro eb (And.intro f1 (And.intro f2 (And.intro f3 f4))))) ?_
      refine hR' (i + 1) _ ⟨by omega, by omega⟩ (by omega) (weak_keep ?_)
      rw [hs]
      simp [lookup]
    · have hi' := eq_false (show ¬ (i : Int) < (e : Int) by omega)
      have hie : i = e := by omega
      subst hie
      have hn := hbd i (Nat.le_refl _)
      have hsp : dval (D.take i) = dval (D.take a) * 10 ^ (i - a) + dval ((D.take i).drop a) := by
        conv => lhs; rw [← List.take_append_drop a (D.take i), dval_append]
        rw [List.take_take, Nat.min_eq_left g1, List.length_drop, List.length_take, Nat.min_eq_left (by omega)]
      generalize hN : dval ((D.take i).drop a) = n at *
      have nx : ∀ t, weak 0 t ⟨[(0, .str D), (3, zAV .nils ((out ++ [n]).map fun n : Nat => (n : Int))), (4, .int .i64 ((i : Int) - 4))], zBlk ((out ++ [n]).map fun n : Nat => (n : Int))⟩ → R t := fun t ht => by
        refine hR ((i : Int) - 4, out ++ [n]) t ⟨by dsimp only; omega, by dsimp only; omega, ?_, by simp; omega, ?_⟩ (by dsimp only; omega) ht
        · intro y hy
          rcases List.mem_append.1 hy with hy | hy
          · exact h3 y hy
          · simp at hy; omega
        · dsimp only
          rw [show ((i : Int) - 4).toNat = a by omega, h5, hsp, val_snoc, List.length_append, List.length_singleton, Nat.pow_succ]
          rcases Nat.lt_or_ge i 4 with h4' | h4'
          · have : a = 0 := by omega
            subst this
            rw [List.take_zero, dval_nil]
            generalize 10000 ^ out.length = Z
            grind
          · rw [show i - a = 4 by omega]
            generalize 10000 ^ out.length = Z
            grind
      rcases out with _ | ⟨y, out⟩
      · simp -implicitDefEqProofs (disch := omega) only [KF, KR, KV0, KV1, KV2, KW, ↓bstep, ↓astep, ↓O1.eq_def, ↓onBool.eq_def, ↓onInt.eq_def, ↓onStr.eq_def, ↓onLo.eq_def, ↓binK.eq_def, ↓arith.eq_def, ↓strOp.eq_def, ↓srcElems.eq_def, ↓dst1.eq_def, args0, List.zipIdx, List.map, lookup, St.ev, St.set, St.setO, reduceCtorEq, AV.plain, AV.plainL, AV.flat, AV.flatL, AV.cells, Nat.reduceEqDiff, ↓reduceIte, List.drop, List.take, List.length, Nat.reduceAdd, Nat.reduceLeDiff, Nat.reduceMul, E.done, rvsK, rvK, resAV, Int.reduceToNat, Int.reduceLE, Int.reduceLT, Int.reduceNeg, Int.reduceAdd, Int.reduceSub, Int.reduceMul, Nat.reduceLT, AV.isElem, AV.one, ↓buildCells.eq_1, ↓buildCells.eq_2, Nat.reduceBEq, eqCells, hi', List.map_nil, zAV, zBlk]
        exact nx _ (weak_row 0 rfl rfl (z64s_plain _) (by simp [lookup, zAV, AV.ren, AV.idsLt]))
      · have f5 : (z64s ((y : Int) :: List.map (fun n : Nat => (n : Int)) out)).length = (List.map (fun n : Nat => (n : Int)) out).length + 1 := by simp [z64s]
        have f6 : (List.map (fun n : Nat => (n : Int)) out).length = out.length := List.length_map _
        rw [List.length_cons] at h4
        simp -implicitDefEqProofs (disch := omega) only [KF, KR, KV0, KV1, KV2, KW, ↓bstep, ↓astep, ↓O1.eq_def, ↓onBool.eq_def, ↓onInt.eq_def, ↓onStr.eq_def, ↓onLo.eq_def, ↓binK.eq_def, ↓arith.eq_def, ↓strOp.eq_def, ↓srcElems.eq_def, ↓dst1.eq_def, args0, List.zipIdx, List.map, lookup, St.ev, St.set, St.setO, reduceCtorEq, AV.plain, AV.plainL, AV.flat, AV.flatL, AV.cells, Nat.reduceEqDiff, ↓reduceIte, List.drop, List.take, List.length, Nat.reduceAdd, Nat.reduceLeDiff, Nat.reduceMul, E.done, rvsK, rvK, resAV, Int.reduceToNat, Int.reduceLE, Int.reduceLT, Int.reduceNeg, Int.reduceAdd, Int.reduceSub, Int.reduceMul, Nat.reduceLT, AV.isElem, AV.one, ↓buildCells.eq_1, ↓buildCells.eq_2, Nat.reduceBEq, eqCells, hi', List.map_cons, zAV, zBlk]
        refine ⟨by omega, by omega, by omega, nx _ (weak_row 1 rfl ?_ (z64s_plain _) ?_)⟩
        · rw [Nat.mul_one, ← f5, List.take_length, List.map_append, z64s_append]; rfl
        · simp [lookup, zAV, AV.ren, AV.idsLt]
  · have hv' := eq_false hv
    have e0 : v.toNat = 0 := by omega
    rw [e0, List.take_zero, dval_nil, Nat.zero_mul, Nat.zero_add] at h5
    refine WF hv' ?_
    refine CL_give [0] (s224 m out (by omega)) (.cons _ _ _ _ (zAV_shows _ (.inl rfl)) .nil) ?_
    refine WW ?_
    refine shv ?_ rfl
    rw [h5, tr_pc (by omega) h3]; rfl

def pl4 (n : Nat) : Nat := (pc 10000 n).length
theorem pl4_le (n : Nat) : pl4 n ≤ dl n := by
  have h := dl_lt (n : Int)
  rw [Int.natAbs_natCast] at h
  refine pc_length_le (by omega) (Nat.lt_of_lt_of_le h ?_)
  exact Nat.pow_le_pow_left (by omega) _
theorem dl_mono {a b : Nat} (h : a ≤ b) : dl a ≤ dl b := by
  have := dl_lt (b : Int)
  exact dl_le (dl_pos _) (by simp at this ⊢; omega)

/-- klipperef01.give -/
theorem s226 (m : Int) (u : Nat) (hl : dl u < 1000000) : SpecP (cx m) 226 [eI u] (.str (Lib.decDigits u)) := by
  refine specP_of (mixed m) (k226 m) (Nat.le_of_ble_eq_true rfl) (X_start ?_)
  unfold c226 eI
  by_cases h0 : u = 0
  · subst h0
    rw [pc_zero, dec_zero]
    refine WF @n64s_nil ?_
    exact shs rfl
  · have hB : 2 ≤ 10000 := by omega
    obtain ⟨x, hx, hx0⟩ := pc_last hB u h0
    have lp := pc_lt hB u
    have vp := val_pc hB u
    generalize hP : pc 10000 u = P at *
    rcases List.eq_nil_or_concat P with rfl | ⟨q, y, rfl⟩
    · simp at hx
    rw [List.concat_eq_append] at *
    obtain rfl : y = x := by simpa using hx
    generalize hPP : q ++ [y] = P at *
    have hPl : P.length = q.length + 1 := by rw [← hPP]; simp
    have hPy : P[q.length]? = some y := by rw [← hPP]; simp
    have hPd : P.drop q.length = [y] := by rw [← hPP]; simp
    have hyl : y < 10000 := lp y (by rw [← hPP]; simp)
    have e1 : ((q.length + 1 : Nat) : Int) - 1 = (q.length : Int) := by omega
    have e2 : ((q.length + 1 : Nat) : Int) - 2 = (q.length : Int) - 1 := by omega
    have e3 := n64s_at hPy
    have e4 : ¬ ((q.length + 1 : Nat) : Int) = 0 := by omega
    have hq0 : q.length ≤ 1000000 := by
      have h1 := pl4_le u
      unfold pl4 at h1
      rw [hP] at h1
      omega
    have hc := s116 m (y : Int) (by omega) (by omega)
    rw [itoa_nonneg (by omega), Int.toNat_natCast] at hc
    refine WF (And.intro @n64s_length (And.intro hPl (And.intro e4 (And.intro e1 e3)))) ?_
    refine CL_pure hc rfl ?_
    refine WF (And.intro @n64s_length (And.intro hPl e2)) ?_
    refine X_for (fun k : Nat => ⟨[(0, .sl 1 (n64s P)), (3, .str (Lib.decDigits (val 10000 (P.drop k)))), (4, .int .i64 ((k : Int) - 1))], []⟩) (fun k => k ≤ q.length) (fun k => k) q.length (Nat.le_refl _) ?_ ?_
    · refine weak_keep ?_
      rw [hPd]
      simp [lookup, val]
    intro k R hk hR
    try dsimp only at hR hk ⊢
    cases k with
    | zero =>
      have c0 : ¬ (0 : Int) ≤ ((0 : Nat) : Int) - 1 := by omega
      refine WF c0 ?_
      exact shs (by rw [vp])
    | succ j =>
      have c0 : ((j + 1 : Nat) : Int) - 1 = (j : Int) := by omega
      have hj : j < P.length := by omega
      have c1 := n64s_at (l := P) (k := j) (x := P[j]) (List.getElem?_eq_getElem hj)
      have c2 := lp _ (List.getElem_mem hj)
      have hdr : val 10000 (P.drop j) = val 10000 (P.drop (j + 1)) * 10000 + P[j] := by rw [List.drop_eq_getElem_cons hj, val]; omega
      have hnz : val 10000 (P.drop (j + 1)) ≠ 0 := by
        have h1 : P.drop q.length = (P.drop (j + 1)).drop (q.length - (j + 1)) := by rw [List.drop_drop]; congr 1; omega
        have h2 := val_take_drop 10000 (P.drop (j + 1)) (q.length - (j + 1)) (by simp; omega)
        rw [← h1, hPd] at h2
        have h3 : 0 < 10000 ^ (q.length - (j + 1)) * y := Nat.mul_pos (Nat.pow_pos (by omega)) (by omega)
        simp only [val, Nat.mul_zero, Nat.add_zero] at h2
        omega
      have hdd := dec_pk _ hnz 4 P[j] (by omega)
      have hd1 := dec_pk 1 (by omega) 4 P[j] (by omega)
      rw [dec_one, show 1 * 10 ^ 4 + P[j] = 10000 + P[j] by omega] at hd1
      generalize P[j] = z at *
      have f1 : IntKind.i64.wrap (10000 + (z : Int)) = ((10000 + z : Nat) : Int) := by rw [wrapZ (by omega)]; omega
      have hc := s116 m ((10000 + z : Nat) : Int) (by omega) (by omega)
      rw [itoa_nonneg (by omega), Int.toNat_natCast, hd1] at hc
      rw [show (10 : Nat) ^ 4 = 10000 by rfl, ← hdr] at hdd
      refine WF (And.intro @n64s_length (And.intro c0 (And.intro c1 f1))) ?_
      refine CL_pure hc rfl ?_
      have hdrp : List.drop 1 ([49] ++ pk 4 z) = pk 4 z := rfl
      have hlp : ([49] ++ pk 4 z).length = 5 := by rw [List.length_append, pk_length]; rfl
      have hlen : (Lib.decDigits (val 10000 (List.drop (j + 1) P))).length < 1000000 := by
        have h1 := val_take_drop 10000 P (j + 1) (by omega)
        have h2 : 1 * val 10000 (P.drop (j + 1)) ≤ 10000 ^ (j + 1) * val 10000 (P.drop (j + 1)) := Nat.mul_le_mul_right _ (Nat.pow_pos (by omega))
        have h3 := dl_mono (a := val 10000 (P.drop (j + 1))) (b := u) (by omega)
        unfold dl at h3 hl
        rw [Int.natAbs_natCast] at h3 hl
        rw [Int.natAbs_natCast] at h3
        omega
      refine WW ?_
      refine ⟨by rw [pk_length]; omega, hR j _ (by omega) (by omega) (weak_keep ?_)⟩
      rw [hdd]
      simp [lookup]
end Go.Proofs.YtkjnjdcbnelceaaGreatDoor.KA
end

section
/- Contracts of the reference's integers: signs, small ones, sums. -/
open Go Go.Proofs
set_option linter.unusedSimpArgs false
set_option linter.unusedVariables false
set_option maxHeartbeats 2000000
set_option maxRecDepth 20000
namespace Go.Proofs.YtkjnjdcbnelceaaGreatDoor.KA
open Num

theorem tr_pc' (u : Nat) : tr (pc 10000 u) = pc 10000 u := by rw [tr_pc (by omega) (pc_lt (by omega) u), val_pc (by omega)]
/-- klipperef01.made -/
theorem s199 (m : Int) (mi : Bool) (u : Nat) (hl : dl u < 1000000) : SpecP (cx m) 199 [.bool mi, eI u] (.str (Lib.itoa (if mi = true then -(u : Int) else u))) := by
  refine specP_of (mixed m) (k199 m) (Nat.le_of_ble_eq_true rfl) (X_start ?_)
  unfold c199
  have hp := pl4_le u
  have hc := s224 m (pc 10000 u) (by unfold pl4 at hp; omega)
  rw [tr_pc'] at hc
  have hg := s226 m u hl
  have hnil := pc_nil (n := u) (show 2 ≤ 10000 by omega)
  unfold eI at hg ⊢
  have hpos : (0 : Int) < ((pc 10000 u).length : Int) ↔ u ≠ 0 := by
    constructor
    · intro h e; rw [hnil.2 e] at h; simp at h
    · intro h; have := List.length_pos_iff.2 (fun e => h (hnil.1 e)); omega
  refine WW ?_
  refine CL_pure hc rfl ?_
  cases mi with
  | true =>
    by_cases h0 : u = 0
    · have hpos' := eq_false (fun h => hpos.1 h h0)
      refine WF (And.intro @n64s_length hpos') ?_
      refine CL_pure hg rfl ?_
      refine WW ?_
      exact shs (by subst h0; rw [dec_zero]; exact itoa_zero.symm)
    · have hpos' := eq_true (hpos.2 h0)
      refine WF (And.intro @n64s_length hpos') ?_
      refine CL_pure hg rfl ?_
      refine WW ?_
      have hlen : (Lib.decDigits u).length < 1000000 := by unfold dl at hl; simpa using hl
      refine ⟨by omega, shs ?_⟩
      rw [itoa_neg (by omega), Int.natAbs_neg, Int.natAbs_natCast]
  | false =>
    refine WF @n64s_length ?_
    refine CL_pure hg rfl ?_
    refine WW ?_
    exact shs (by rw [itoa_nonneg (by omega), Int.toNat_natCast])

/-- klipperef01.Small -/
theorem s223 (m : Int) (n : Int) (hl : dl n ≤ 17) : SpecP (cx m) 223 [.str (Lib.itoa n)] (.tuple [.int .i64 n, .bool true]) := by
  refine specP_of (mixed m) (k223 m) (Nat.le_of_ble_eq_true rfl) (X_start ?_)
  unfold c223
  have hdig := dec_digit n.natAbs
  have hv := dval_dec n.natAbs
  have hs := s140 m n
  unfold dl at hl
  generalize hD : Lib.decDigits n.natAbs = D at *
  refine WW ?_
  refine CL_pure hs rfl ?_
  have c19 : ¬ (19 : Int) < (D.length : Int) := by omega
  have hbd : ∀ i, i ≤ D.length → dval (D.take i) < 100000000000000000 := fun i hi => by
    have h7 := dval_lt (l := D.take i) (fun b hb => hdig b (List.mem_of_mem_take hb))
    have h8 : (D.take i).length ≤ 17 := by simp; omega
    have h9 := Nat.pow_le_pow_right (show 0 < 10 by omega) h8
    omega
  refine WF c19 ?_
  refine X_for (fun i : Nat => ⟨[(4, .bool (decide (n < 0))), (5, .str D), (6, .int .i64 (-(dval (D.take i) : Nat))), (7, .int .i64 i)], []⟩) (fun i => i ≤ D.length) (fun i => D.length - i) 0 (Nat.zero_le _) (weak_keep (by simp [lookup, dval_nil])) ?_
  intro i R hi hR
  try dsimp only at hR hi ⊢
  have hb1 := hbd i hi
  rcases Nat.lt_or_ge i D.length with hj | hj
  · have hj' := eq_true (show (i : Int) < (D.length : Int) by omega)
    have eb : D[i]? = some D[i] := List.getElem?_eq_getElem hj
    have hb := hdig _ (List.getElem_mem hj)
    have hb2 := hbd (i + 1) (by omega)
    have es : D.take (i + 1) = D.take i ++ [D[i]] := by rw [List.take_add_one, eb]; rfl
    have hs := dval_snoc (D.take i) D[i]
    rw [← es] at hs
    generalize dval (D.take i) = x at *
    generalize hbb : D[i] = b at *
    have f1 : IntKind.i64.wrap (b.toNat : Int) = (b.toNat : Int) := wrapZ (by omega)
    have f2 : IntKind.i64.wrap ((b.toNat : Int) - 48) = (b.toNat : Int) - 48 := wrapZ (by omega)
    have f3 : IntKind.i64.wrap (-9223372036854775808 + ((b.toNat : Int) - 48)) = -9223372036854775808 + ((b.toNat : Int) - 48) := wrapZ (by omega)
    have f4 : (-9223372036854775808 + ((b.toNat : Int) - 48)).tdiv 10 = -((9223372036854775808 - ((b.toNat : Int) - 48)) / 10) := by
      rw [show -9223372036854775808 + ((b.toNat : Int) - 48) = -(9223372036854775808 - ((b.toNat : Int) - 48)) by omega, Int.neg_tdiv, Int.tdiv_eq_ediv_of_nonneg (by omega)]
    have f5 : IntKind.i64.wrap (-((9223372036854775808 - ((b.toNat : Int) - 48)) / 10)) = -((9223372036854775808 - ((b.toNat : Int) - 48)) / 10) := wrapZ (by omega)
    have f6 := eq_false (show ¬ -(x : Int) < -((9223372036854775808 - ((b.toNat : Int) - 48)) / 10) by omega)
    have f7 : IntKind.i64.wrap (10 * -(x : Int)) = 10 * -(x : Int) := wrapZ (by omega)
    have f8 : IntKind.i64.wrap (10 * -(x : Int) - ((b.toNat : Int) - 48)) = -((10 * x + (b.toNat - 48) : Nat) : Int) := by rw [wrapZ (by omega)]; omega
    refine WF (And.intro hj' (And.intro eb (And.intro f1 (And.intro f2 (And.intro f3 (And.intro f4 (And.intro f5 (And.intro f6 (And.intro f7 f8))))))))) ?_
    refine ⟨by decide, hR (i + 1) _ (by omega) (by omega) (weak_keep ?_)⟩
    rw [hs]
    simp [lookup]
  · have hj' := eq_false (show ¬ (i : Int) < (D.length : Int) by omega)
    have hil : D.take i = D := List.take_of_length_le hj
    rw [hil, hv] at hb1
    by_cases hn : n < 0
    · have hn' := eq_true hn
      refine WF (And.intro hj' (And.intro hn' (And.intro hil hv))) ?_
      refine shv ?_ rfl
      rw [show -(n.natAbs : Int) = n by omega]
    · have hn' := eq_false hn
      have g1 := eq_false (show ¬ -(n.natAbs : Int) = -9223372036854775808 by omega)
      refine WF (And.intro hj' (And.intro hn' (And.intro hil (And.intro hv g1)))) ?_
      refine shv ?_ rfl
      rw [show (0 : Int) - -(n.natAbs : Int) = n by omega]

/-- klipperef01.brief -/
theorem s194 (m : Int) (n : Int) (hl : dl n < 1000000) : SpecP (cx m) 194 [.str (Lib.itoa n)] (if dl n ≤ 17 then .tuple [.int .i64 n, .bool true] else .tuple [.int .i64 0, .bool false]) := by
  refine specP_of (mixed m) (k194 m) (Nat.le_of_ble_eq_true rfl) (X_start ?_)
  unfold c194
  have hs := s140 m n
  have hd : ((Lib.decDigits n.natAbs).length : Int) = (dl n : Int) := rfl
  refine WW ?_
  refine CL_pure hs rfl ?_
  by_cases h : dl n ≤ 17
  · have h' := eq_false (show ¬ (17 : Int) < (dl n : Int) by omega)
    refine WF (And.intro hd h') ?_
    refine CL_pure (s223 m n h) rfl ?_
    refine WW ?_
    rw [if_pos h]
    exact shv rfl rfl
  · have h' := eq_true (show (17 : Int) < (dl n : Int) by omega)
    refine WF (And.intro hd h') ?_
    rw [if_neg h]
    exact shv rfl rfl

/-- klipperef01.Of -/
theorem s195 (m : Int) (n : Int) (h0 : -9223372036854775808 ≤ n) (h1 : n ≤ 9223372036854775807) : SpecP (cx m) 195 [.int .i64 n] (.str (Lib.itoa n)) := by
  refine specP_of (mixed m) (k195 m) (Nat.le_of_ble_eq_true rfl) (X_start ?_)
  unfold c195
  refine WW ?_
  refine CL_pure (s116 m n h0 h1) rfl ?_
  refine WW ?_
  exact shs rfl

theorem itoa_eq0 (n : Int) : (Lib.itoa n = [48]) ↔ n = 0 := by
  constructor
  · intro h; exact itoa_inj (h.trans itoa_zero.symm)
  · rintro rfl; exact itoa_zero

/-- klipperef01.Neg -/
theorem s193 (m : Int) (n : Int) (hl : dl n < 1000000) : SpecP (cx m) 193 [.str (Lib.itoa n)] (.str (Lib.itoa (-n))) := by
  refine specP_of (mixed m) (k193 m) (Nat.le_of_ble_eq_true rfl) (X_start ?_)
  unfold c193
  have hs := s140 m n
  refine WW ?_
  refine CL_pure hs rfl ?_
  rcases Int.lt_trichotomy n 0 with h | h | h
  · have h' := eq_true h
    refine WF h' ?_
    exact shs (by rw [itoa_nonneg (by omega)]; congr 1; omega)
  · subst h
    refine WF (And.intro @itoa_zero @Int.lt_irrefl) ?_
    exact shs (by decide +kernel)
  · have h' := eq_false (show ¬ n < 0 by omega)
    have h0 := eq_false (fun e => absurd ((itoa_eq0 n).1 e) (by omega))
    have hlen : (Lib.decDigits n.natAbs).length < 1000000 := hl
    refine WF (And.intro h' h0) ?_
    refine ⟨by omega, shs ?_⟩
    rw [itoa_neg (by omega), Int.natAbs_neg]

/-- klipperef01.Abs -/
theorem s145 (m : Int) (n : Int) : SpecP (cx m) 145 [.str (Lib.itoa n)] (.str (Lib.itoa (n.natAbs : Int))) := by
  refine specP_of (mixed m) (k145 m) (Nat.le_of_ble_eq_true rfl) (X_start ?_)
  unfold c145
  refine WW ?_
  refine CL_pure (s140 m n) rfl ?_
  refine WW ?_
  exact shs (by rw [itoa_nonneg (by omega), Int.toNat_natCast])

/-- klipperef01.Sign -/
theorem s143 (m : Int) (n : Int) : SpecP (cx m) 143 [.str (Lib.itoa n)] (.int .i64 (sgi n)) := by
  refine specP_of (mixed m) (k143 m) (Nat.le_of_ble_eq_true rfl) (X_start ?_)
  unfold c143
  refine WW ?_
  refine CL_pure (s140 m n) rfl ?_
  rcases Int.lt_trichotomy n 0 with h | h | h
  · have h' := eq_true h
    refine WF h' ?_
    exact shi (by unfold sgi; simp [h]; omega)
  · subst h
    refine WF (And.intro @itoa_zero @Int.lt_irrefl) ?_
    exact shi rfl
  · have h' := eq_false (show ¬ n < 0 by omega)
    have h0 := eq_false (fun e => absurd ((itoa_eq0 n).1 e) (by omega))
    refine WF (And.intro h' h0) ?_
    exact shi (by unfold sgi; simp [show ¬ n < 0 by omega, show n ≠ 0 by omega])

theorem eI_len (u : Nat) (h : dl u < 400000) : (pc 10000 u).length < 400000 := by have := pl4_le u; unfold pl4 at this; omega
/-- joined, of magnitudes -/
theorem s198' (m : Int) (a b : Nat) (k : Int) (hk : k.natAbs ≤ 10000) (ha : dl a < 400000) (hb : dl b < 400000) (hne : a ≠ 0 ∨ b ≠ 0) (h0 : 0 ≤ (a : Int) + k * b) :
    SpecP (cx m) 198 [eI a, eI b, .int .i64 k, .int .i64 0] (eI ((a : Int) + k * b).toNat) := by
  have hB : 2 ≤ 10000 := by omega
  have h := s198 m (pc 10000 a) (pc 10000 b) k hk (eI_len a ha) (eI_len b hb) (pc_lt hB a) (pc_lt hB b) (hne.imp (fun h e => h ((pc_nil hB).1 e)) (fun h e => h ((pc_nil hB).1 e)))
  rw [val_pc hB, val_pc hB] at h
  exact h h0
theorem s197' (m : Int) (u : Nat) (h : dl u < 400000) : SpecP (cx m) 197 [.str (Lib.decDigits u)] (eI u) := by
  have := s197 m (Lib.decDigits u) (dec_digit u) (by unfold dl at h; simp at h; omega)
  rw [dval_dec] at this
  exact this
theorem dl_nat (n : Int) : dl (n.natAbs : Int) = dl n := by unfold dl; rw [Int.natAbs_natCast]

/-- klipperef01.Add -/
theorem s192 (m : Int) (a b : Int) (ha : dl a < 300000) (hb : dl b < 300000) : SpecP (cx m) 192 [.str (Lib.itoa a), .str (Lib.itoa b)] (.str (Lib.itoa (a + b))) := by
  refine specP_of (mixed m) (k192 m) (Nat.le_of_ble_eq_true rfl) (X_start ?_)
  unfold c192
  have qa := s194 m a (by omega)
  have qb := s194 m b (by omega)
  have la := dl_lt a
  have lb := dl_lt b
  have dab := dl_add a b
  have ta := s197' m a.natAbs (by rw [dl_nat]; omega)
  have tb := s197' m b.natAbs (by rw [dl_nat]; omega)
  have da : dl (a.natAbs : Int) < 400000 := by rw [dl_nat]; omega
  have db : dl (b.natAbs : Int) < 400000 := by rw [dl_nat]; omega
  have hless := s222 m a.natAbs b.natAbs (by have := eI_len _ da; omega) (by have := eI_len _ db; omega)
  have big : ∀ n : Int, ¬ dl n ≤ 17 → n.natAbs ≠ 0 := fun n h e => h (by rw [show n = 0 by omega]; decide +kernel)
  have md : ∀ (mi : Bool) (u : Nat), u ≤ (a + b).natAbs → (if mi = true then -(u : Int) else (u : Int)) = a + b → SpecP (cx m) 199 [.bool mi, eI u] (.str (Lib.itoa (a + b))) := fun mi u hu he => by
    have := s199 m mi u (by have := dl_mono hu; rw [dl_nat] at this; omega)
    rwa [he] at this
  have slow : ¬ (dl a ≤ 17 ∧ dl b ≤ 17) → a.natAbs ≠ 0 ∨ b.natAbs ≠ 0 := fun h => by
    rcases Nat.lt_or_ge 17 (dl a) with h1 | h1
    · exact .inl (big a (by omega))
    · exact .inr (big b (by omega))
  by_cases hq : dl a ≤ 17 ∧ dl b ≤ 17
  · obtain ⟨h1, h2⟩ := hq
    rw [if_pos h1] at qa
    rw [if_pos h2] at qb
    have l1 := Nat.pow_le_pow_right (show 0 < 10 by omega) h1
    have l2 := Nat.pow_le_pow_right (show 0 < 10 by omega) h2
    refine WW ?_
    refine CL_pure qa rfl ?_
    refine WW ?_
    refine CL_pure qb rfl ?_
    refine WW ?_
    refine CL_pure (s195 m (a + b) (by omega) (by omega)) rfl ?_
    refine WW ?_
    exact shs rfl
  · have hne := slow hq
    have qs : ∃ x y t u, (t && u) = false ∧ SpecP (cx m) 194 [.str (Lib.itoa a)] (.tuple [.int .i64 x, .bool t]) ∧ SpecP (cx m) 194 [.str (Lib.itoa b)] (.tuple [.int .i64 y, .bool u]) := by
      by_cases h1 : dl a ≤ 17
      · have h2 : ¬ dl b ≤ 17 := fun h => hq ⟨h1, h⟩
        rw [if_pos h1] at qa
        rw [if_neg h2] at qb
        exact ⟨_, _, _, _, rfl, qa, qb⟩
      · rw [if_neg h1] at qa
        by_cases h2 : dl b ≤ 17
        · rw [if_pos h2] at qb; exact ⟨_, _, _, _, rfl, qa, qb⟩
        · rw [if_neg h2] at qb; exact ⟨_, _, _, _, rfl, qa, qb⟩
    obtain ⟨x, y, t, u, htu, qa, qb⟩ := qs
    by_cases hs : decide (a < 0) = decide (b < 0)
    · have hs' := eq_true hs
      have en : (a + b).natAbs = a.natAbs + b.natAbs := by by_cases h5 : a < 0 <;> by_cases h6 : b < 0 <;> simp [h5, h6] at hs <;> omega
      have hj := s198' m a.natAbs b.natAbs 1 (by decide) da db hne (by omega)
      have hm := md (decide (a < 0)) (a + b).natAbs (Nat.le_refl _) (by by_cases h5 : a < 0 <;> by_cases h6 : b < 0 <;> simp [h5, h6] at hs ⊢ <;> omega)
      rw [show (((a.natAbs : Nat) : Int) + 1 * ((b.natAbs : Nat) : Int)).toNat = (a + b).natAbs by omega] at hj
      rcases t with _ | _ <;> rcases u with _ | _ <;> try (exact absurd htu (by decide))
      all_goals
        refine WW ?_
        refine CL_pure qa rfl ?_
        refine WW ?_
        refine CL_pure qb rfl ?_
        refine WW ?_
        refine CL_pure (s140 m a) rfl ?_
        refine WW ?_
        refine CL_pure (s140 m b) rfl ?_
        refine WW ?_
        refine CL_pure ta rfl ?_
        refine WW ?_
        refine CL_pure tb rfl ?_
        refine WF hs' ?_
        refine CL_pure hj rfl ?_
        refine WW ?_
        refine CL_pure hm rfl ?_
        refine WW ?_
        exact shs rfl
    · have hs' := eq_false hs
      by_cases hlt : a.natAbs < b.natAbs
      · have hj := s198' m b.natAbs a.natAbs (-1) (by decide) db da hne.symm (by omega)
        have en : (((b.natAbs : Nat) : Int) + (-1) * ((a.natAbs : Nat) : Int)).toNat = (a + b).natAbs := by by_cases h5 : a < 0 <;> by_cases h6 : b < 0 <;> simp [h5, h6] at hs <;> omega
        have hm := md (decide (b < 0)) (a + b).natAbs (Nat.le_refl _) (by by_cases h5 : a < 0 <;> by_cases h6 : b < 0 <;> simp [h5, h6] at hs ⊢ <;> omega)
        rw [en] at hj
        rw [decide_eq_true hlt] at hless
        rcases t with _ | _ <;> rcases u with _ | _ <;> try (exact absurd htu (by decide))
        all_goals
          refine WW ?_
          refine CL_pure qa rfl ?_
          refine WW ?_
          refine CL_pure qb rfl ?_
          refine WW ?_
          refine CL_pure (s140 m a) rfl ?_
          refine WW ?_
          refine CL_pure (s140 m b) rfl ?_
          refine WW ?_
          refine CL_pure ta rfl ?_
          refine WW ?_
          refine CL_pure tb rfl ?_
          refine WF hs' ?_
          refine CL_pure hless rfl ?_
          refine WW ?_
          refine CL_pure hj rfl ?_
          refine WW ?_
          refine CL_pure hm rfl ?_
          refine WW ?_
          exact shs rfl
      · have hj := s198' m a.natAbs b.natAbs (-1) (by decide) da db hne (by omega)
        have en : (((a.natAbs : Nat) : Int) + (-1) * ((b.natAbs : Nat) : Int)).toNat = (a + b).natAbs := by by_cases h5 : a < 0 <;> by_cases h6 : b < 0 <;> simp [h5, h6] at hs <;> omega
        rw [decide_eq_false hlt] at hless
        have hm := s199 m (decide (a < 0)) (a + b).natAbs (by rw [dl_nat]; omega)
        have em : (if decide (a < 0) = true then -(((a + b).natAbs : Nat) : Int) else (((a + b).natAbs : Nat) : Int)) = a + b := by by_cases h5 : a < 0 <;> by_cases h6 : b < 0 <;> simp [h5, h6] at hs ⊢ <;> omega
        rw [en] at hj
        rw [em] at hm
        rcases t with _ | _ <;> rcases u with _ | _ <;> try (exact absurd htu (by decide))
        all_goals
          refine WW ?_
          refine CL_pure qa rfl ?_
          refine WW ?_
          refine CL_pure qb rfl ?_
          refine WW ?_
          refine CL_pure (s140 m a) rfl ?_
          refine WW ?_
          refine CL_pure (s140 m b) rfl ?_
          refine WW ?_
          refine CL_pure ta rfl ?_
          refine WW ?_
          refine CL_pure tb rfl ?_
          refine WF hs' ?_
          refine CL_pure hless rfl ?_
          refine WW ?_
          refine CL_pure hj rfl ?_
          refine WW ?_
          refine CL_pure hm rfl ?_
          refine WW ?_
          exact shs rfl

/-- klipperef01.Sub -/
theorem s144 (m : Int) (a b : Int) (ha : dl a < 300000) (hb : dl b < 300000) : SpecP (cx m) 144 [.str (Lib.itoa a), .str (Lib.itoa b)] (.str (Lib.itoa (a - b))) := by
  refine specP_of (mixed m) (k144 m) (Nat.le_of_ble_eq_true rfl) (X_start ?_)
  unfold c144
  have e : dl (-b) = dl b := by unfold dl; rw [Int.natAbs_neg]
  refine WW ?_
  refine CL_pure (s193 m b (by omega)) rfl ?_
  refine WW ?_
  refine CL_pure (s192 m a (-b) ha (by omega)) rfl ?_
  refine WW ?_
  exact shs rfl
/-- klipperef01.Compare -/
theorem s105 (m : Int) (a b : Int) (ha : dl a < 300000) (hb : dl b < 300000) : SpecP (cx m) 105 [.str (Lib.itoa a), .str (Lib.itoa b)] (.int .i64 (sgi (a - b))) := by
  refine specP_of (mixed m) (k105 m) (Nat.le_of_ble_eq_true rfl) (X_start ?_)
  unfold c105
  refine WW ?_
  refine CL_pure (s144 m a b ha hb) rfl ?_
  refine WW ?_
  refine CL_pure (s143 m (a - b)) rfl ?_
  refine WW ?_
  exact shi rfl
end Go.Proofs.YtkjnjdcbnelceaaGreatDoor.KA
end
