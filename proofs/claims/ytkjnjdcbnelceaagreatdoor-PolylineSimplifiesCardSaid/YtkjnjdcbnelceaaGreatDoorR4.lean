/- Parts of the proof, in order: each part's head says what it holds. -/
import Derived.Test.YtkjnjdcbnelceaaGreatDoorR3
import Derived.Test.YtkjnjdcbnelceaaGreatDoorR1
import Derived.Lib.ItoaNum
import Derived.Lib.Atoi
import Derived.Lib.IndexMore
import Derived.Lib.Strings
import Derived.Test.YtkjnjdcbnelceaaGreatDoorProg
import Derived.Shelf.Small.Bits
import Derived.Shelf.Small.Strs
import Derived.Shelf.Strconv.Atoi
import Derived.Shelf.Strconv.Itoa0
import Derived.Shelf.Strconv.Itoa1
import Derived.Shelf.LaysM
import Derived.Shelf.Strconv.Itoa2
import Derived.Shelf.Strconv.Itoa3
import Derived.Shelf.Strings.Search1
import Derived.Shelf.Strings.Search2
import Derived.Shelf.Strings.Cut
import Derived.Shelf.Strings.Shaped
import Derived.Lib.ItoaLen

section
/- The two ways to say how two segments of the plane meet agree. No program in sight. -/
set_option linter.unusedVariables false
set_option linter.unusedSimpArgs false
namespace Go.Proofs.YtkjnjdcbnelceaaGreatDoor.Geo

theorem mul_ne {p q : Rat} (h : p * q ≠ 0) : p ≠ 0 ∧ q ≠ 0 := by
  constructor
  · intro e; apply h; rw [e, Rat.zero_mul]
  · intro e; apply h; rw [e, Rat.mul_zero]
theorem pos_ne {p q : Rat} (h : 0 < p * q) : p ≠ 0 ∧ q ≠ 0 := mul_ne (by grind)
theorem neg_ne {p q : Rat} (h : p * q < 0) : p ≠ 0 ∧ q ≠ 0 := mul_ne (by grind)
theorem zero_or {p q : Rat} (h : p * q ≤ 0) (k : ¬ p * q < 0) : p = 0 ∨ q = 0 := by
  have e : p * q = 0 := by grind
  by_cases hp : p = 0
  · exact .inl hp
  · right; grind
theorem addOn_mem {a b c d x y : Pt} {on : List Pt} : y ∈ addOn a b c d on x ↔ y ∈ on ∨ (y = x ∧ btw a b x = true ∧ btw c d x = true) := by
  unfold addOn
  split <;> rename_i h
  · rw [Bool.and_eq_true] at h
    split <;> rename_i h1
    · have : x ∈ on := by simpa using h1
      constructor
      · exact .inl
      · rintro (h2 | ⟨rfl, _⟩)
        · exact h2
        · exact this
    · simp only [List.mem_append, List.mem_singleton]
      constructor
      · rintro (h2 | h2)
        · exact .inl h2
        · exact .inr ⟨h2, h⟩
      · rintro (h2 | h2)
        · exact .inl h2
        · exact .inr h2.1
  · rw [Bool.and_eq_true] at h
    constructor
    · exact .inl
    · rintro (h2 | h2)
      · exact h2
      · exact absurd h2.2 h
theorem addOn_nodup {a b c d x : Pt} {on : List Pt} (hn : on.Nodup) : (addOn a b c d on x).Nodup := by
  unfold addOn
  split
  · split <;> rename_i h1
    · exact hn
    · have : x ∉ on := by simpa using h1
      rw [List.nodup_append]
      refine ⟨hn, by simp, ?_⟩
      intro y hy z hz e
      simp only [List.mem_singleton] at hz
      subst hz; subst e; exact this hy
  · exact hn
theorem onL_mem {a b c d y : Pt} : y ∈ onL a b c d ↔ (y = a ∨ y = b ∨ y = c ∨ y = d) ∧ btw a b y = true ∧ btw c d y = true := by
  unfold onL
  simp only [List.foldl, addOn_mem, List.not_mem_nil, false_or]
  constructor
  · rintro (((⟨rfl, h⟩ | ⟨rfl, h⟩) | ⟨rfl, h⟩) | ⟨rfl, h⟩) <;> exact ⟨by simp, h⟩
  · rintro ⟨(rfl | rfl | rfl | rfl), h⟩
    · exact .inl (.inl (.inl ⟨rfl, h⟩))
    · exact .inl (.inl (.inr ⟨rfl, h⟩))
    · exact .inl (.inr ⟨rfl, h⟩)
    · exact .inr ⟨rfl, h⟩
theorem onL_nodup (a b c d : Pt) : (onL a b c d).Nodup := by
  unfold onL
  exact addOn_nodup (addOn_nodup (addOn_nodup (addOn_nodup List.nodup_nil)))

theorem meetL_nil {a b c d : Pt} (h : ∀ y, (y = a ∨ y = b ∨ y = c ∨ y = d) → btw a b y = true → btw c d y = true → False)
    (hs : 0 ≤ ar c d a * ar c d b ∨ 0 ≤ ar a b c * ar a b d) : meetL a b c d = (0, none) := by
  have e : onL a b c d = [] := by
    rw [List.eq_nil_iff_forall_not_mem]
    intro y hy
    rw [onL_mem] at hy
    exact h y hy.1 hy.2.1 hy.2.2
  unfold meetL
  rw [e]
  simp only [sg_mul]
  rw [if_pos (by simpa only [sg_ge] using hs)]
theorem meetL_one {a b c d z : Pt} (hz : z = a ∨ z = b ∨ z = c ∨ z = d) (h1 : btw a b z = true) (h2 : btw c d z = true)
    (hu : ∀ y, (y = a ∨ y = b ∨ y = c ∨ y = d) → btw a b y = true → btw c d y = true → y = z) : meetL a b c d = (1, some z) := by
  have hm : z ∈ onL a b c d := onL_mem.2 ⟨hz, h1, h2⟩
  have hn := onL_nodup a b c d
  have hall : ∀ y ∈ onL a b c d, y = z := fun y hy => by rw [onL_mem] at hy; exact hu y hy.1 hy.2.1 hy.2.2
  unfold meetL
  cases e : onL a b c d with
  | nil => rw [e] at hm; simp at hm
  | cons x l =>
    rw [e] at hn hall
    have hx : x = z := hall x (by simp)
    cases l with
    | nil => simp [hx]
    | cons y l =>
      have hy : y = z := hall y (by simp)
      subst hx; subst hy; simp at hn
theorem meetL_two {a b c d y z : Pt} (hy : y = a ∨ y = b ∨ y = c ∨ y = d) (y1 : btw a b y = true) (y2 : btw c d y = true)
    (hz : z = a ∨ z = b ∨ z = c ∨ z = d) (h1 : btw a b z = true) (h2 : btw c d z = true) (hne : y ≠ z) : (meetL a b c d).1 = 2 := by
  have hm : z ∈ onL a b c d := onL_mem.2 ⟨hz, h1, h2⟩
  have hm' : y ∈ onL a b c d := onL_mem.2 ⟨hy, y1, y2⟩
  unfold meetL
  cases e : onL a b c d with
  | nil => rw [e] at hm; simp at hm
  | cons x l =>
    cases l with
    | nil => rw [e] at hm hm'; simp at hm hm'; exact absurd (hm'.trans hm.symm) hne
    | cons w l => simp

theorem ar_diff (a b c d : Pt) : ar c d a - ar c d b = ar a b d - ar a b c := by unfold ar; grind

/-- Two proper lines, not the same: the place of the one, and of the other. -/
theorem cross_place (a b c d : Pt) (h : ar a b c ≠ ar a b d) :
    c.1 + ar a b c / (ar a b c - ar a b d) * (d.1 - c.1) = a.1 + ar c d a / (ar c d a - ar c d b) * (b.1 - a.1) ∧
    c.2 + ar a b c / (ar a b c - ar a b d) * (d.2 - c.2) = a.2 + ar c d a / (ar c d a - ar c d b) * (b.2 - a.2) := by
  have e := ar_diff a b c d
  have hD : ar a b c - ar a b d ≠ 0 := by grind
  have hE : ar c d a - ar c d b ≠ 0 := by grind
  obtain ⟨s, hs⟩ : ∃ s, s = ar a b c / (ar a b c - ar a b d) := ⟨_, rfl⟩
  obtain ⟨t, ht⟩ : ∃ t, t = ar c d a / (ar c d a - ar c d b) := ⟨_, rfl⟩
  have hs' : s * (ar a b c - ar a b d) = ar a b c := by grind
  have ht' : t * (ar a b c - ar a b d) = - ar c d a := by grind
  rw [← hs, ← ht]
  have cancel : ∀ x : Rat, x * (ar a b c - ar a b d) = 0 → x = 0 := by grind
  constructor
  · have := cancel (c.1 + s * (d.1 - c.1) - (a.1 + t * (b.1 - a.1))) (by
      have i : (c.1 - a.1) * (ar a b c - ar a b d) + ar a b c * (d.1 - c.1) + ar c d a * (b.1 - a.1) = 0 := by unfold ar; grind
      grind)
    grind
  · have := cancel (c.2 + s * (d.2 - c.2) - (a.2 + t * (b.2 - a.2))) (by
      have i : (c.2 - a.2) * (ar a b c - ar a b d) + ar a b c * (d.2 - c.2) + ar c d a * (b.2 - a.2) = 0 := by unfold ar; grind
      grind)
    grind

theorem share_on {p q : Rat} (h : p * q ≤ 0) (hne : p ≠ q) : 0 ≤ p / (p - q) ∧ p / (p - q) ≤ 1 := by
  have hs : p / (p - q) * (p - q) = p := by grind
  obtain ⟨s, e⟩ : ∃ s, s = p / (p - q) := ⟨_, rfl⟩
  rw [← e] at hs ⊢
  rcases tri p with hp | hp | hp
  · have hq : 0 ≤ q := by
      rcases tri q with h1 | h1 | h1
      · have := Rat.mul_pos (a := -p) (b := -q) (by grind) (by grind); grind
      · grind
      · grind
    obtain ⟨s', a, b, c⟩ := share (x := -p) (y := q - p) (by grind) (by grind) (by grind)
    have : s' = s := by grind
    subst this; exact ⟨a, b⟩
  · have : s = 0 := by grind
    subst this; constructor <;> grind
  · have hq : q ≤ 0 := by
      rcases tri q with h1 | h1 | h1
      · grind
      · grind
      · have := Rat.mul_pos (a := p) (b := q) (by grind) (by grind); grind
    obtain ⟨s', a, b, c⟩ := share (x := p) (y := p - q) (by grind) (by grind) (by grind)
    have : s' = s := by grind
    subst this; exact ⟨a, b⟩

theorem ar_share {a b c d p : Pt} {s : Rat} (hx : p.1 = c.1 + s * (d.1 - c.1)) (hy : p.2 = c.2 + s * (d.2 - c.2)) : ar a b p = (1 - s) * ar a b c + s * ar a b d := by
  unfold ar; grind

/-- On one side of a line nothing of a segment is on the line. -/
theorem one_side {p q s : Rat} (h : 0 < p * q) (s0 : 0 ≤ s) (s1 : s ≤ 1) : (1 - s) * p + s * q ≠ 0 := by
  obtain ⟨np, nq⟩ := pos_ne h
  rcases tri p with hp | hp | hp
  · have hq : q < 0 := by
      rcases tri q with h1 | h1 | h1
      · exact h1
      · grind
      · have := Rat.mul_pos (a := -p) (b := q) (by grind) h1; grind
    intro e
    have w1 := mul_nonneg (a := 1 - s) (b := -p) (by grind) (by grind)
    have w2 := mul_nonneg (a := s) (b := -q) (by grind) (by grind)
    by_cases z : s = 0
    · subst z; grind
    · have := Rat.mul_pos (a := s) (b := -q) (by grind) (by grind); grind
  · grind
  · have hq : 0 < q := by
      rcases tri q with h1 | h1 | h1
      · have := Rat.mul_pos (a := p) (b := -q) (by grind) (by grind); grind
      · grind
      · exact h1
    intro e
    have w1 := mul_nonneg (a := 1 - s) (b := p) (by grind) (by grind)
    have w2 := mul_nonneg (a := s) (b := q) (by grind) (by grind)
    by_cases z : s = 0
    · subst z; grind
    · have := Rat.mul_pos (a := s) (b := q) (by grind) (by grind); grind

theorem meet_cross {a b c d : Pt} (hab : a ≠ b) (hcd : c ≠ d) (hn : ¬ (ar a b c = 0 ∧ ar a b d = 0)) :
    meetL a b c d = if 0 < ar a b c * ar a b d ∨ 0 < ar c d a * ar c d b then (0, none) else
      (1, some (c.1 + ar a b c / (ar a b c - ar a b d) * (d.1 - c.1), c.2 + ar a b c / (ar a b c - ar a b d) * (d.2 - c.2))) := by
  split <;> rename_i hc
  · apply meetL_nil
    · intro y hy h1 h2
      obtain ⟨s, s0, s1, sx, sy⟩ := btw_share hab h1
      obtain ⟨t, t0, t1, tx, ty⟩ := btw_share hcd h2
      have z1 := (btw_iff.1 h1).1
      have z2 := (btw_iff.1 h2).1
      rw [ar_share tx ty] at z1
      rw [ar_share sx sy] at z2
      rcases hc with hc | hc
      · exact one_side hc t0 t1 z1
      · exact one_side hc s0 s1 z2
    · rcases hc with hc | hc
      · right; grind
      · left; grind
  · have h1 : ar a b c * ar a b d ≤ 0 := by grind
    have h2 : ar c d a * ar c d b ≤ 0 := by grind
    have hne : ar a b c ≠ ar a b d := by
      intro e; rw [← e] at h1 hn
      apply hn
      have : ar a b c = 0 := by
        rcases tri (ar a b c) with h | h | h
        · have := Rat.mul_pos (a := -ar a b c) (b := -ar a b c) (by grind) (by grind); grind
        · exact h
        · have := Rat.mul_pos h h; grind
      exact ⟨this, this⟩
    have hne' : ar c d a ≠ ar c d b := by have := ar_diff a b c d; grind
    obtain ⟨t0, t1⟩ := share_on h1 hne
    obtain ⟨s0, s1⟩ := share_on h2 hne'
    obtain ⟨ex, ey⟩ := cross_place a b c d hne
    obtain ⟨t, ht⟩ : ∃ t, t = ar a b c / (ar a b c - ar a b d) := ⟨_, rfl⟩
    obtain ⟨s, hs⟩ : ∃ s, s = ar c d a / (ar c d a - ar c d b) := ⟨_, rfl⟩
    have bz1 := btw_of (a := a) (b := b) (p := (c.1 + t * (d.1 - c.1), c.2 + t * (d.2 - c.2))) s (by grind) (by grind) (by simp only; rw [ht, hs]; exact ex) (by simp only; rw [ht, hs]; exact ey)
    have bz2 := btw_of (a := c) (b := d) (p := (c.1 + t * (d.1 - c.1), c.2 + t * (d.2 - c.2))) t (by grind) (by grind) rfl rfl
    rw [← ht]
    -- the only common place
    have uniq : ∀ y, btw a b y = true → btw c d y = true → y = (c.1 + t * (d.1 - c.1), c.2 + t * (d.2 - c.2)) := by
      intro y y1 y2
      obtain ⟨u, u0, u1, ux, uy⟩ := btw_share hcd y2
      have z1 := (btw_iff.1 y1).1
      rw [ar_share ux uy] at z1
      have : u = t := by grind
      subst this
      exact Prod.ext ux uy
    by_cases hp : ar a b c * ar a b d < 0 ∧ ar c d a * ar c d b < 0
    · have e : onL a b c d = [] := by
        rw [List.eq_nil_iff_forall_not_mem]
        intro y hy
        rw [onL_mem] at hy
        obtain ⟨hy, y1, y2⟩ := hy
        have z1 := (btw_iff.1 y1).1
        have z2 := (btw_iff.1 y2).1
        obtain ⟨n1, n2⟩ := neg_ne hp.1
        obtain ⟨n3, n4⟩ := neg_ne hp.2
        rcases hy with e | e | e | e <;> rw [e] at z1 z2
        · exact n3 z2
        · exact n4 z2
        · exact n1 z1
        · exact n2 z1
      unfold meetL
      rw [e]
      simp only [sg_mul]
      rw [if_neg (by simp only [sg_ge]; grind)]
      simp only [Prod.mk.injEq, Option.some.injEq, true_and]
      rw [ht]
      exact ⟨ex.symm, ey.symm⟩
    · have hz : ar a b c = 0 ∨ ar a b d = 0 ∨ ar c d a = 0 ∨ ar c d b = 0 := by
        by_cases h3 : ar a b c * ar a b d < 0
        · have h4 : ¬ ar c d a * ar c d b < 0 := fun h4 => hp ⟨h3, h4⟩
          rcases zero_or h2 h4 with e | e
          · exact .inr (.inr (.inl e))
          · exact .inr (.inr (.inr e))
        · rcases zero_or h1 h3 with e | e
          · exact .inl e
          · exact .inr (.inl e)
      have on : ∀ y : Pt, ar a b y = 0 → ar c d y = 0 → y = (c.1 + t * (d.1 - c.1), c.2 + t * (d.2 - c.2)) := by
        intro y y1 y2
        have zz := (btw_iff.1 bz1).1
        have tt : t * (ar a b c - ar a b d) = ar a b c := by grind
        have cancel : ∀ x : Rat, x * (ar a b c - ar a b d) = 0 → x = 0 := by grind
        apply Prod.ext
        · have := cancel (y.1 - (c.1 + t * (d.1 - c.1))) (by
            have i : (y.1 - c.1) * (ar a b c - ar a b d) - ar a b c * (d.1 - c.1) = - (ar a b y) * (d.1 - c.1) + (ar c d y) * (b.1 - a.1) := by unfold ar; grind
            grind)
          simp only; grind
        · have := cancel (y.2 - (c.2 + t * (d.2 - c.2))) (by
            have i : (y.2 - c.2) * (ar a b c - ar a b d) - ar a b c * (d.2 - c.2) = - (ar a b y) * (d.2 - c.2) + (ar c d y) * (b.2 - a.2) := by unfold ar; grind
            grind)
          simp only; grind
      have self : ∀ u v : Pt, ar u v u = 0 ∧ ar u v v = 0 := by intro u v; unfold ar; grind
      refine meetL_one ?_ bz1 bz2 (fun y _ y1 y2 => uniq y y1 y2)
      rcases hz with h | h | h | h
      · right; right; left; exact (on c h (self c d).1).symm
      · right; right; right; exact (on d h (self c d).2).symm
      · left; exact (on a (self a b).1 h).symm
      · right; left; exact (on b (self a b).2 h).symm

theorem meet_line {a b c d : Pt} (hab : a ≠ b) (hcd : c ≠ d) (h1 : ar a b c = 0) (h2 : ar a b d = 0) :
    (meetL a b c d).1 = (colP a b c d).1 ∧ ((colP a b c d).1 = 1 → (meetL a b c d).2 = (colP a b c d).2) := by
  have h3 : ar c d a = 0 ∧ ar c d b = 0 := by
    by_cases hx : a.1 = b.1
    · have hy : b.2 - a.2 ≠ 0 := fun e => hab (Prod.ext hx (by grind))
      unfold ar at h1 h2 ⊢
      have cancel : ∀ x : Rat, (b.2 - a.2) * x = 0 → x = 0 := by grind
      have e1 := cancel (c.1 - a.1) (by grind)
      have e2 := cancel (d.1 - a.1) (by grind)
      constructor <;> grind
    · have hy : b.1 - a.1 ≠ 0 := by grind
      unfold ar at h1 h2 ⊢
      have cancel : ∀ x : Rat, (b.1 - a.1) * x = 0 → x = 0 := by grind
      constructor <;> apply cancel <;> grind
  have all : ∀ y, (y = a ∨ y = b ∨ y = c ∨ y = d) → ar a b y = 0 ∧ ar c d y = 0 := by
    have self : ∀ u v : Pt, ar u v u = 0 ∧ ar u v v = 0 := by intro u v; unfold ar; grind
    rintro y (rfl | rfl | rfl | rfl)
    · exact ⟨(self _ _).1, h3.1⟩
    · exact ⟨(self _ _).2, h3.2⟩
    · exact ⟨h1, (self _ _).1⟩
    · exact ⟨h2, (self _ _).2⟩
  -- low and high
  obtain ⟨low, hlow⟩ : ∃ l, l = if cp (lo c d) (lo a b) > 0 then lo c d else lo a b := ⟨_, rfl⟩
  obtain ⟨high, hhigh⟩ : ∃ l, l = if cp (hi c d) (hi a b) < 0 then hi c d else hi a b := ⟨_, rfl⟩
  have low1 : le (lo a b) low ∧ le (lo c d) low ∧ (low = lo a b ∨ low = lo c d) := by
    rw [hlow]; split <;> rename_i h
    · rw [cp_gt] at h; exact ⟨(le_total _ _).elim (fun k => absurd k h) id, le_refl _, .inr rfl⟩
    · rw [cp_gt, Classical.not_not] at h; exact ⟨le_refl _, h, .inl rfl⟩
  have high1 : le high (hi a b) ∧ le high (hi c d) ∧ (high = hi a b ∨ high = hi c d) := by
    rw [hhigh]; split <;> rename_i h
    · rw [cp_lt] at h; exact ⟨(le_total _ _).elim (fun k => k) (fun k => absurd k h), le_refl _, .inr rfl⟩
    · rw [cp_lt, Classical.not_not] at h; exact ⟨le_refl _, h, .inl rfl⟩
  have lowend : low = a ∨ low = b ∨ low = c ∨ low = d := by
    rcases low1.2.2 with e | e <;> rw [e]
    · rcases lo_or a b with ⟨e, _⟩ | ⟨e, _⟩ <;> rw [e] <;> simp
    · rcases lo_or c d with ⟨e, _⟩ | ⟨e, _⟩ <;> rw [e] <;> simp
  have highend : high = a ∨ high = b ∨ high = c ∨ high = d := by
    rcases high1.2.2 with e | e <;> rw [e]
    · rcases lo_or a b with ⟨_, e⟩ | ⟨_, e⟩ <;> rw [e] <;> simp
    · rcases lo_or c d with ⟨_, e⟩ | ⟨_, e⟩ <;> rw [e] <;> simp
  have on : ∀ y, (y = a ∨ y = b ∨ y = c ∨ y = d) → le low y → le y high → btw a b y = true ∧ btw c d y = true := fun y hy l1 l2 =>
    ⟨btw_iff.2 ⟨(all y hy).1, le_trans low1.1 l1, le_trans l2 high1.1⟩, btw_iff.2 ⟨(all y hy).2, le_trans low1.2.1 l1, le_trans l2 high1.2.1⟩⟩
  have off : ∀ y, btw a b y = true → btw c d y = true → le low y ∧ le y high := fun y y1 y2 => by
    rw [btw_iff] at y1 y2
    constructor
    · rcases low1.2.2 with e | e <;> rw [e]
      · exact y1.2.1
      · exact y2.2.1
    · rcases high1.2.2 with e | e <;> rw [e]
      · exact y1.2.2
      · exact y2.2.2
  unfold colP
  rw [← hlow, ← hhigh]
  unfold colR
  by_cases c1 : cp low high > 0
  · rw [if_pos c1]
    have : meetL a b c d = (0, none) := meetL_nil (fun y hy y1 y2 => by
      obtain ⟨l1, l2⟩ := off y y1 y2
      exact (cp_gt.1 c1) (le_trans l1 l2)) (.inl (by rw [h3.1]; grind))
    rw [this]; simp
  · rw [if_neg c1]
    by_cases c2 : cp low high = 0
    · rw [if_pos c2]
      have e := cp_zero.1 c2
      obtain ⟨b1, b2⟩ := on low lowend (le_refl _) (e ▸ le_refl _)
      have : meetL a b c d = (1, some low) := meetL_one lowend b1 b2 (fun y hy y1 y2 => by
        obtain ⟨l1, l2⟩ := off y y1 y2
        exact le_antisymm (e ▸ l2) l1)
      rw [this]; simp
    · rw [if_neg c2]
      have l : le low high := by rw [cp_gt, Classical.not_not] at c1; exact c1
      obtain ⟨b1, b2⟩ := on low lowend (le_refl _) l
      obtain ⟨b3, b4⟩ := on high highend l (le_refl _)
      refine ⟨meetL_two lowend b1 b2 highend b3 b4 (fun e => c2 (cp_zero.2 e)), ?_⟩
      simp

/-- How two segments meet: both ways agree. -/
theorem meet_agree {a b c d : Pt} (hab : a ≠ b) (hcd : c ≠ d) :
    (meetL a b c d).1 = (meetP a b c d).1 ∧ ((meetP a b c d).1 = 1 → (meetL a b c d).2 = (meetP a b c d).2) := by
  unfold meetP
  simp only [sg_mul, sg_zero, sg_gt]
  split <;> rename_i h
  · exact meet_line hab hcd h.1 h.2
  · rw [meet_cross hab hcd h]
    exact ⟨rfl, fun _ => rfl⟩

/-- Neighbours that have one place alone in common: it is the end that they share. -/
theorem meet_next {a b d : Pt} (hab : a ≠ b) (hbd : b ≠ d) (h : (meetP a b b d).1 = 1) : (meetP a b b d).2 = some b := by
  obtain ⟨e1, e2⟩ := meet_agree hab hbd
  rw [← e2 h]
  have hb : b ∈ onL a b b d := by
    have self : ∀ u v : Pt, ar u v u = 0 ∧ ar u v v = 0 := by intro u v; unfold ar; grind
    exact onL_mem.2 ⟨by simp, btw_iff.2 ⟨(self a b).2, (lo_le a b).2, (le_hi a b).2⟩, btw_iff.2 ⟨(self b d).1, (lo_le b d).1, (le_hi b d).1⟩⟩
  have h1 : (meetL a b b d).1 = 1 := e1.trans h
  unfold meetL at h1 ⊢
  cases e : onL a b b d with
  | nil => rw [e] at hb; simp at hb
  | cons x l =>
    rw [e] at hb h1
    cases l with
    | nil => simp at hb ⊢; exact hb.symm
    | cons y l => simp at h1

end Go.Proofs.YtkjnjdcbnelceaaGreatDoor.Geo
end

section
/- Chains of points: the law's way to check them and to let two of them meet agrees with the code's. No program in sight. -/
set_option linter.unusedVariables false
set_option linter.unusedSimpArgs false
namespace Go.Proofs.YtkjnjdcbnelceaaGreatDoor.Geo

def at' (c : List Pt) (i : Nat) : Pt := c.getD i (0, 0)

/-- No two neighbours are the same. -/
def apart (c : List Pt) : Prop := ∀ i, i + 1 < c.length → at' c i ≠ at' c (i + 1)
def mL (a b : List Pt) (i k : Nat) : Nat × Option Pt := meetL (at' a i) (at' a (i + 1)) (at' b k) (at' b (k + 1))
def mP (a b : List Pt) (i k : Nat) : Nat × Option Pt := meetP (at' a i) (at' a (i + 1)) (at' b k) (at' b (k + 1))
/-- Two segments of one chain have more in common than they may: the law's way, the code's way. -/
def badL (c : List Pt) (i k : Nat) : Prop := (mL c c i k).1 > if k = i + 1 then 1 else 0
def badP (c : List Pt) (i k : Nat) : Prop :=
  (mP c c i k).1 ≠ 0 ∧ ((mP c c i k).1 = 2 ∨ k ≠ i + 1 ∨ ((mP c c i k).2 ≠ some (at' c k) ∧ ((mP c c i k).2 ≠ some (at' c i) ∨ k ≠ c.length - 1)))
def simpleL (c : List Pt) : Prop := ∀ i k, i < k → k + 1 < c.length → ¬ badL c i k
def simpleP (c : List Pt) : Prop := ∀ i k, i < k → k + 1 < c.length → ¬ badP c i k

theorem colR_how (l h : Pt) : (colR l h).1 = 0 ∨ (colR l h).1 = 1 ∨ (colR l h).1 = 2 := by
  unfold colR
  split
  · simp
  · split <;> simp
theorem colR_some (l h : Pt) (e : (colR l h).1 = 1) : ∃ p, (colR l h).2 = some p := by
  unfold colR at e ⊢
  split
  · rename_i h1; rw [if_pos h1] at e; simp at e
  · rename_i h1; rw [if_neg h1] at e
    split
    · exact ⟨_, rfl⟩
    · rename_i h2; rw [if_neg h2] at e; simp at e
theorem meetP_how (a b c d : Pt) : (meetP a b c d).1 = 0 ∨ (meetP a b c d).1 = 1 ∨ (meetP a b c d).1 = 2 := by
  unfold meetP colP
  split
  · exact colR_how _ _
  · split <;> simp
theorem meetP_some (a b c d : Pt) (h : (meetP a b c d).1 = 1) : ∃ p, (meetP a b c d).2 = some p := by
  unfold meetP colP at h ⊢
  split
  · rename_i h1; rw [if_pos h1] at h; exact colR_some _ _ h
  · rename_i h1; rw [if_neg h1] at h
    split
    · rename_i h2; rw [if_pos h2] at h; simp at h
    · exact ⟨_, rfl⟩
theorem mP_how (a b : List Pt) (i k : Nat) : (mP a b i k).1 = 0 ∨ (mP a b i k).1 = 1 ∨ (mP a b i k).1 = 2 := meetP_how _ _ _ _
theorem mP_some (a b : List Pt) (i k : Nat) (h : (mP a b i k).1 = 1) : ∃ p, (mP a b i k).2 = some p := meetP_some _ _ _ _ h

theorem simple_agree {c : List Pt} (ha : apart c) (h : simpleL c) : simpleP c := by
  intro i k hik hk hb
  obtain ⟨e1, e2⟩ := meet_agree (ha i (by omega)) (ha k hk)
  have hl := h i k hik hk
  unfold badL at hl
  obtain ⟨b0, b1⟩ := hb
  change (mL c c i k).1 = (mP c c i k).1 at e1
  rw [e1] at hl
  split at hl <;> rename_i hn
  · subst hn
    have h1 : (mP c c i (i + 1)).1 = 1 := by omega
    have := meet_next (ha i (by omega)) (ha (i + 1) hk) h1
    rcases b1 with b | b | b
    · omega
    · exact b rfl
    · exact b.1 this
  · omega

/-- Where two chains meet. -/
def hit (m : Nat → Nat → Nat × Option Pt) (i k : Nat) : Option (Nat × Nat × Pt) := match m i k with | (1, some p) => some (i, k, p) | _ => none
def row (m : Nat → Nat → Nat × Option Pt) (n i : Nat) : List (Nat × Nat × Pt) := (List.range n).filterMap (hit m i)
def hits (m : Nat → Nat → Nat × Option Pt) (l n : Nat) : List (Nat × Nat × Pt) := (List.range l).flatMap (row m n)
theorem row_succ (m : Nat → Nat → Nat × Option Pt) (n i : Nat) : row m (n + 1) i = row m n i ++ (hit m i n).toList := by
  unfold row; rw [List.range_succ, List.filterMap_append]; congr 1
theorem hits_succ (m : Nat → Nat → Nat × Option Pt) (l n : Nat) : hits m (l + 1) n = hits m l n ++ row m n l := by
  unfold hits; rw [List.range_succ, List.flatMap_append]; simp
theorem row_zero (m : Nat → Nat → Nat × Option Pt) (i : Nat) : row m 0 i = [] := rfl
theorem hits_zero (m : Nat → Nat → Nat × Option Pt) (n : Nat) : hits m 0 n = [] := rfl

theorem hits_congr {m m' : Nat → Nat → Nat × Option Pt} {l n : Nat} (h : ∀ i k, i < l → k < n → hit m i k = hit m' i k) : hits m l n = hits m' l n := by
  have key : ∀ i n', i < l → n' ≤ n → row m n' i = row m' n' i := by
    intro i n' hi
    induction n' with
    | zero => intro _; rfl
    | succ n' ih => intro hn; rw [row_succ, row_succ, ih (by omega), h i n' hi (by omega)]
  have key2 : ∀ l', l' ≤ l → hits m l' n = hits m' l' n := by
    intro l'
    induction l' with
    | zero => intro _; rfl
    | succ l' ih => intro hl; rw [hits_succ, hits_succ, ih (by omega), key l' n (by omega) (Nat.le_refl _)]
  exact key2 l (Nat.le_refl _)

theorem hits_agree {a b : List Pt} (ha : apart a) (hb : apart b) : hits (mL a b) (a.length - 1) (b.length - 1) = hits (mP a b) (a.length - 1) (b.length - 1) := by
  apply hits_congr
  intro i k hi hk
  obtain ⟨e1, e2⟩ := meet_agree (ha i (by omega)) (hb k (by omega))
  unfold hit
  change (mL a b i k).1 = (mP a b i k).1 at e1
  change (mP a b i k).1 = 1 → (mL a b i k).2 = (mP a b i k).2 at e2
  generalize mL a b i k = x at *
  generalize mP a b i k = y at *
  obtain ⟨x1, x2⟩ := x
  obtain ⟨y1, y2⟩ := y
  simp only at e1 e2
  subst e1
  by_cases h : x1 = 1
  · rw [e2 h]
  · split
    · rename_i h2; simp only [Prod.mk.injEq] at h2; exact absurd h2.1 h
    · split
      · rename_i h2; simp only [Prod.mk.injEq] at h2; exact absurd h2.1 h
      · rfl
theorem over_agree {a b : List Pt} (ha : apart a) (hb : apart b) {i k : Nat} (hi : i + 1 < a.length) (hk : k + 1 < b.length) : (mL a b i k).1 = (mP a b i k).1 :=
  (meet_agree (ha i hi) (hb k hk)).1

end Go.Proofs.YtkjnjdcbnelceaaGreatDoor.Geo
end

section
/- Integers and rationals as decimal text: what the text of a number looks like, and how it is read back. No program in sight. -/
set_option linter.unusedVariables false
set_option linter.unusedSimpArgs false
namespace Go.Proofs.YtkjnjdcbnelceaaGreatDoor.Num
open Go

theorem dec_small {u : Nat} (h : u < 10) : Lib.decDigits u = [UInt8.ofNat (48 + u)] := by rw [Lib.decDigits, dif_pos h]
theorem dec_big {u : Nat} (h : ¬ u < 10) : Lib.decDigits u = Lib.decDigits (u / 10) ++ [UInt8.ofNat (48 + u % 10)] := by rw [Lib.decDigits, dif_neg h]
theorem byte_nat {d : Nat} (h : d < 10) : (UInt8.ofNat (48 + d)).toNat = 48 + d := by simp; omega
theorem dec_digit (u : Nat) : ∀ b ∈ Lib.decDigits u, 48 ≤ b.toNat ∧ b.toNat ≤ 57 := by
  induction u using Nat.strongRecOn with
  | _ u ih =>
    by_cases h : u < 10
    · rw [dec_small h]; intro b hb; rw [List.mem_singleton] at hb; subst hb; rw [byte_nat h]; omega
    · rw [dec_big h]; intro b hb
      rcases List.mem_append.1 hb with hb | hb
      · exact ih _ (by omega) b hb
      · rw [List.mem_singleton] at hb; subst hb; rw [byte_nat (by omega)]; omega
theorem dec_ne (u : Nat) : Lib.decDigits u ≠ [] := by
  by_cases h : u < 10
  · rw [dec_small h]; simp
  · rw [dec_big h]; simp
theorem dec_length (u : Nat) : (Lib.decDigits u).length = Lib.nDigits u := Lib.decDigits_length u
theorem dec_pos (u : Nat) : 0 < (Lib.decDigits u).length := List.length_pos_iff.2 (dec_ne u)
/-- The first digit: not 0, but of the number 0. -/
theorem dec_head (u : Nat) (hu : u ≠ 0) : ∃ b l, Lib.decDigits u = b :: l ∧ 49 ≤ b.toNat ∧ b.toNat ≤ 57 := by
  induction u using Nat.strongRecOn with
  | _ u ih =>
    by_cases h : u < 10
    · exact ⟨_, _, dec_small h, by rw [byte_nat h]; omega, by rw [byte_nat h]; omega⟩
    · obtain ⟨b, l, e, h1, h2⟩ := ih (u / 10) (by omega) (by omega)
      exact ⟨b, _, by rw [dec_big h, e]; rfl, h1, h2⟩
theorem dec_zero : Lib.decDigits 0 = [48] := by rw [dec_small (by omega)]; rfl
theorem dec_one : Lib.decDigits 1 = [49] := by rw [dec_small (by omega)]; rfl

theorem digitVal_byte {b : UInt8} (h : 48 ≤ b.toNat ∧ b.toNat ≤ 57) : Lib.digitVal b = some (b.toNat - 48) := by unfold Lib.digitVal; rw [if_pos h]

theorem decFrom_append (l m : List UInt8) (a x : Nat) (h : Lib.decFrom a l = some x) : Lib.decFrom a (l ++ m) = Lib.decFrom x m := by
  induction l generalizing a with
  | nil => simp only [Lib.decFrom, Option.some.injEq] at h; subst h; rfl
  | cons b l ih =>
    simp only [List.cons_append, Lib.decFrom] at h ⊢
    cases hd : Lib.digitVal b with
    | none => simp [hd] at h
    | some d => simp only [hd] at h ⊢; exact ih _ h
theorem decFrom_dec (u : Nat) : Lib.decFrom 0 (Lib.decDigits u) = some u := by
  induction u using Nat.strongRecOn with
  | _ u ih =>
    by_cases h : u < 10
    · rw [dec_small h]; simp only [Lib.decFrom]; rw [digitVal_byte (by rw [byte_nat h]; omega), byte_nat h]; simp
    · rw [dec_big h, decFrom_append _ _ _ _ (ih _ (by omega))]
      simp only [Lib.decFrom]; rw [digitVal_byte (by rw [byte_nat (by omega)]; omega), byte_nat (by omega)]; simp; omega
theorem decNat_dec (u : Nat) : Lib.decNat (Lib.decDigits u) = some u := by
  unfold Lib.decNat
  rw [if_neg (by simp [dec_ne]), decFrom_dec]
theorem dec_inj {u v : Nat} (h : Lib.decDigits u = Lib.decDigits v) : u = v := by
  have := decFrom_dec u
  rw [h, decFrom_dec v] at this
  exact (Option.some.inj this).symm

theorem itoa_nonneg {n : Int} (h : 0 ≤ n) : Lib.itoa n = Lib.decDigits n.toNat := by unfold Lib.itoa; rw [if_neg (by omega)]
theorem itoa_neg {n : Int} (h : n < 0) : Lib.itoa n = 45 :: Lib.decDigits n.natAbs := by unfold Lib.itoa; rw [if_pos h]
theorem itoa_zero : Lib.itoa 0 = [48] := by rw [itoa_nonneg (by omega)]; exact dec_zero
theorem itoa_one : Lib.itoa 1 = [49] := by rw [itoa_nonneg (by omega)]; exact dec_one
theorem dec_not45 (u : Nat) : ∃ b l, Lib.decDigits u = b :: l ∧ b ≠ 45 ∧ b ≠ 43 := by
  cases e : Lib.decDigits u with
  | nil => exact absurd e (dec_ne u)
  | cons b l =>
    have := dec_digit u b (by rw [e]; simp)
    refine ⟨b, l, rfl, ?_, ?_⟩ <;> intro h <;> subst h <;> simp at this
theorem atoi_itoa (n : Int) : Lib.atoi (Lib.itoa n) = some n := by
  by_cases h : n < 0
  · rw [itoa_neg h]; unfold Lib.atoi
    simp only [beq_self_eq_true, if_true, decNat_dec, Option.map_some]
    congr 1; omega
  · rw [itoa_nonneg (by omega)]
    obtain ⟨b, l, e, h1, h2⟩ := dec_not45 n.toNat
    have hd := decNat_dec n.toNat
    rw [e] at hd ⊢
    unfold Lib.atoi
    simp only [beq_iff_eq, h1, h2, if_false, hd, Option.map_some]
    congr 1; omega
theorem itoa_inj {m n : Int} (h : Lib.itoa m = Lib.itoa n) : m = n := by
  have := atoi_itoa m
  rw [h, atoi_itoa n] at this
  exact (Option.some.inj this).symm
theorem itoa_ne (n : Int) : Lib.itoa n ≠ [] := by
  intro e; have := atoi_itoa n; rw [e] at this; cases this
theorem itoa_bytes (n : Int) : ∀ b ∈ Lib.itoa n, b = 45 ∨ (48 ≤ b.toNat ∧ b.toNat ≤ 57) := by
  intro b hb
  by_cases h : n < 0
  · rw [itoa_neg h] at hb
    rcases List.mem_cons.1 hb with hb | hb
    · exact .inl hb
    · exact .inr (dec_digit _ b hb)
  · rw [itoa_nonneg (by omega)] at hb
    exact .inr (dec_digit _ b hb)
theorem itoa_no47 (n : Int) : (47 : UInt8) ∉ Lib.itoa n := by
  intro h; rcases itoa_bytes n _ h with h | h
  · cases h
  · simp at h
theorem dec_no47 (n : Nat) : (47 : UInt8) ∉ Lib.decDigits n := by
  intro h; have := dec_digit n _ h; simp at this
theorem nDigits_le {k u : Nat} (hk : 0 < k) (h : u < 10 ^ k) : Lib.nDigits u ≤ k := by
  by_cases h0 : u = 0
  · subst h0; rw [Lib.nDigits_small (by omega)]; omega
  · rcases Nat.lt_or_ge k (Lib.nDigits u) with h1 | h1
    · exfalso
      have key : ∀ u : Nat, u ≠ 0 → 10 ^ (Lib.nDigits u - 1) ≤ u := by
        intro u
        induction u using Nat.strongRecOn with
        | _ u ih =>
          intro hu
          by_cases h : u < 10
          · rw [Lib.nDigits_small h]; simp; omega
          · rw [Lib.nDigits_big h]
            have := ih (u / 10) (by omega) (by omega)
            have hp := Lib.nDigits_pos (u / 10)
            have e : Lib.nDigits (u / 10) + 1 - 1 = (Lib.nDigits (u / 10) - 1) + 1 := by omega
            rw [e, Nat.pow_succ]; omega
      have := key u h0
      have h2 : 10 ^ k ≤ 10 ^ (Lib.nDigits u - 1) := Nat.pow_le_pow_right (by omega) (by omega)
      omega
    · exact h1
theorem lt_of_nDigits {k u : Nat} (h : Lib.nDigits u ≤ k) : u < 10 ^ k :=
  Nat.lt_of_lt_of_le (Lib.lt_pow_nDigits u) (Nat.pow_le_pow_right (by omega) h)

/-- The text of a rational number, and of a point. -/
def tq (q : Rat) : List UInt8 := if q.den = 1 then Lib.itoa q.num else Lib.itoa q.num ++ 47 :: Lib.decDigits q.den
theorem tq_whole {q : Rat} (h : q.den = 1) : tq q = Lib.itoa q.num := by unfold tq; rw [if_pos h]
theorem tq_part {q : Rat} (h : q.den ≠ 1) : tq q = Lib.itoa q.num ++ 47 :: Lib.decDigits q.den := by unfold tq; rw [if_neg h]
theorem tq_int (n : Int) : tq n = Lib.itoa n := by rw [tq_whole (by simp)]; simp
theorem tq_zero : tq 0 = [48] := by rw [show (0 : Rat) = ((0 : Int) : Rat) from rfl, tq_int, itoa_zero]
theorem tq_one : tq 1 = [49] := by rw [show (1 : Rat) = ((1 : Int) : Rat) from rfl, tq_int, itoa_one]

theorem split47 {l m l' m' : List UInt8} (h : (47 : UInt8) ∉ l) (h' : (47 : UInt8) ∉ l') (e : l ++ 47 :: m = l' ++ 47 :: m') : l = l' ∧ m = m' := by
  induction l generalizing l' with
  | nil =>
    cases l' with
    | nil => simpa using e
    | cons b l' =>
      simp only [List.nil_append, List.cons_append, List.cons.injEq] at e
      exact absurd (by rw [← e.1]; simp) h'
  | cons a l ih =>
    cases l' with
    | nil =>
      simp only [List.nil_append, List.cons_append, List.cons.injEq] at e
      exact absurd (by rw [e.1]; simp) h
    | cons b l' =>
      simp only [List.cons_append, List.cons.injEq] at e
      obtain ⟨h1, h2⟩ := ih (fun hh => h (by simp [hh])) (fun hh => h' (by simp [hh])) e.2
      exact ⟨by rw [e.1, h1], h2⟩
theorem tq_inj {p q : Rat} (h : tq p = tq q) : p = q := by
  by_cases hp : p.den = 1 <;> by_cases hq : q.den = 1
  · rw [tq_whole hp, tq_whole hq] at h
    exact Rat.ext (itoa_inj h) (by omega)
  · rw [tq_whole hp, tq_part hq] at h
    exact absurd (by rw [h]; simp) (itoa_no47 p.num)
  · rw [tq_part hp, tq_whole hq] at h
    exact absurd (by rw [← h]; simp) (itoa_no47 q.num)
  · rw [tq_part hp, tq_part hq] at h
    obtain ⟨h1, h2⟩ := split47 (itoa_no47 _) (itoa_no47 _) h
    exact Rat.ext (itoa_inj h1) (dec_inj h2)
theorem tq_eq {p q : Rat} : tq p = tq q ↔ p = q := ⟨tq_inj, fun h => by rw [h]⟩
theorem tq_ne (q : Rat) : tq q ≠ [] := by
  by_cases h : q.den = 1
  · rw [tq_whole h]; exact itoa_ne _
  · rw [tq_part h]; simp

/-- How a search for one byte ends. -/
theorem isPrefix1 (c b : UInt8) (l : List UInt8) : ([c] : List UInt8).isPrefixOf (b :: l) = (c == b) := by simp [List.isPrefixOf]
theorem index_none {l : List UInt8} {c : UInt8} (h : c ∉ l) : Lib.index l [c] = -1 := by
  induction l with
  | nil => rfl
  | cons b l ih =>
    simp only [List.mem_cons, not_or] at h
    unfold Lib.index
    rw [isPrefix1, if_neg (by simpa using h.1), ih h.2]; rfl
theorem index_some {l m : List UInt8} {c : UInt8} (h : c ∉ l) : Lib.index (l ++ c :: m) [c] = l.length := by
  induction l with
  | nil => simp [Lib.index]
  | cons b l ih =>
    simp only [List.mem_cons, not_or] at h
    rw [List.cons_append]
    unfold Lib.index
    rw [isPrefix1, if_neg (by simpa using h.1), ih h.2, if_neg (by simp <;> omega)]
    simp
theorem cut_none {l : List UInt8} (h : (47 : UInt8) ∉ l) : Lib.cut l [47] = (l, [], false) := by unfold Lib.cut; rw [index_none h]; rfl
theorem cut_some {l m : List UInt8} (h : (47 : UInt8) ∉ l) : Lib.cut (l ++ 47 :: m) [47] = (l, m, true) := by
  unfold Lib.cut; rw [index_some h, if_pos (by omega)]
  simp
theorem indexByte_none {l : List UInt8} {c : UInt8} (h : c ∉ l) : Lib.indexByte l c = -1 := by
  induction l with
  | nil => rfl
  | cons b l ih =>
    simp only [List.mem_cons, not_or] at h
    unfold Lib.indexByte
    rw [if_neg (by simpa using fun e : b = c => h.1 e.symm), ih h.2]; rfl
theorem indexByte_some {l m : List UInt8} {c : UInt8} (h : c ∉ l) : Lib.indexByte (l ++ c :: m) c = l.length := by
  induction l with
  | nil => simp [Lib.indexByte]
  | cons b l ih =>
    simp only [List.mem_cons, not_or] at h
    rw [List.cons_append]
    unfold Lib.indexByte
    rw [if_neg (by simpa using fun e : b = c => h.1 e.symm), ih h.2, if_neg (by simp <;> omega)]
    simp

end Go.Proofs.YtkjnjdcbnelceaaGreatDoor.Num
end

section
/- Numbers in pieces of a base, the least piece first. No program in sight. -/
set_option linter.unusedVariables false
set_option linter.unusedSimpArgs false
namespace Go.Proofs.YtkjnjdcbnelceaaGreatDoor.Num
open Go

/-- The number that pieces spell. -/
def val (B : Nat) : List Nat → Nat
  | [] => 0
  | x :: l => x + B * val B l
/-- The pieces of a number. -/
def pc (B n : Nat) : List Nat := if h : n = 0 ∨ B < 2 then [] else n % B :: pc B (n / B)
termination_by n
decreasing_by
  have h' := not_or.1 h
  exact Nat.div_lt_self (by omega) (by omega)
theorem pc_zero (B : Nat) : pc B 0 = [] := by rw [pc, dif_pos (.inl rfl)]
theorem pc_step {B n : Nat} (hB : 2 ≤ B) (hn : n ≠ 0) : pc B n = n % B :: pc B (n / B) := by rw [pc, dif_neg (by omega)]
theorem val_pc {B : Nat} (hB : 2 ≤ B) (n : Nat) : val B (pc B n) = n := by
  induction n using Nat.strongRecOn with
  | _ n ih =>
    by_cases h : n = 0
    · subst h; rw [pc_zero]; rfl
    · rw [pc_step hB h, val, ih _ (Nat.div_lt_self (by omega) (by omega))]
      exact Nat.mod_add_div n B
theorem pc_lt {B : Nat} (hB : 2 ≤ B) (n : Nat) : ∀ x ∈ pc B n, x < B := by
  induction n using Nat.strongRecOn with
  | _ n ih =>
    by_cases h : n = 0
    · subst h; rw [pc_zero]; simp
    · rw [pc_step hB h]
      intro x hx
      rcases List.mem_cons.1 hx with rfl | hx
      · exact Nat.mod_lt _ (by omega)
      · exact ih _ (Nat.div_lt_self (by omega) (by omega)) x hx
theorem pc_nil {B n : Nat} (hB : 2 ≤ B) : pc B n = [] ↔ n = 0 := by
  constructor
  · intro h; have := val_pc hB n; rw [h] at this; exact this.symm
  · rintro rfl; exact pc_zero B
theorem pc_last {B : Nat} (hB : 2 ≤ B) (n : Nat) (hn : n ≠ 0) : ∃ x, (pc B n).getLast? = some x ∧ x ≠ 0 := by
  induction n using Nat.strongRecOn with
  | _ n ih =>
    rw [pc_step hB hn]
    by_cases h : n / B = 0
    · have : n < B := by rcases Nat.div_eq_zero_iff.1 h with h | h <;> omega
      rw [h, pc_zero, Nat.mod_eq_of_lt this]
      exact ⟨n, by simp, hn⟩
    · obtain ⟨x, hx, h0⟩ := ih _ (Nat.div_lt_self (by omega) (by omega)) h
      refine ⟨x, ?_, h0⟩
      rw [List.getLast?_cons, hx]; rfl
theorem val_append (B : Nat) (l m : List Nat) : val B (l ++ m) = val B l + B ^ l.length * val B m := by
  induction l with
  | nil => simp [val]
  | cons x l ih => rw [List.cons_append, val, val, ih, List.length_cons, Nat.pow_succ]; grind
theorem val_lt {B : Nat} (hB : 0 < B) : ∀ {l : List Nat}, (∀ x ∈ l, x < B) → val B l < B ^ l.length
  | [], _ => by simp [val]
  | x :: l, h => by
    have h1 := val_lt hB (l := l) (fun y hy => h y (by simp [hy]))
    have h2 := h x (by simp)
    rw [val, List.length_cons, Nat.pow_succ]
    have : B * (val B l + 1) ≤ B * B ^ l.length := Nat.mul_le_mul_left _ h1
    grind
theorem val_zero {B : Nat} {l : List Nat} (h : ∀ x ∈ l, x = 0) : val B l = 0 := by
  induction l with
  | nil => rfl
  | cons x l ih => rw [val, h x (by simp), ih (fun y hy => h y (by simp [hy]))]; simp
theorem val_take_drop (B : Nat) (l : List Nat) (i : Nat) (hi : i ≤ l.length) : val B l = val B (l.take i) + B ^ i * val B (l.drop i) := by
  conv => lhs; rw [← List.take_append_drop i l]
  rw [val_append, List.length_take, Nat.min_eq_left hi]
theorem val_take_succ (B : Nat) {l : List Nat} {i x : Nat} (h : l[i]? = some x) : val B (l.take (i + 1)) = val B (l.take i) + B ^ i * x := by
  have hi := (List.getElem?_eq_some_iff.1 h).1
  rw [List.take_add_one, h]
  simp only [Option.toList_some]
  rw [val_append, List.length_take, Nat.min_eq_left (by omega)]
  simp [val]
/-- Pieces in their range, the last of which is not 0, are those of their number. -/
theorem pc_val {B : Nat} (hB : 2 ≤ B) : ∀ {l : List Nat}, (∀ x ∈ l, x < B) → l.getLast? ≠ some 0 → pc B (val B l) = l
  | [], _, _ => pc_zero B
  | x :: l, h, h0 => by
    have hx := h x (by simp)
    have ih := pc_val hB (l := l) (fun y hy => h y (by simp [hy]))
    have e1 : (x + B * val B l) % B = x := by rw [Nat.add_mul_mod_self_left, Nat.mod_eq_of_lt hx]
    have e2 : (x + B * val B l) / B = val B l := by rw [Nat.add_mul_div_left _ _ (by omega), Nat.div_eq_of_lt hx, Nat.zero_add]
    cases l with
    | nil =>
      have : x ≠ 0 := fun e => h0 (by simp [e])
      rw [val, pc_step hB (by simp [val]; exact this), e1, e2]
      simp [val, pc_zero]
    | cons y l =>
      have ih := ih (by rw [List.getLast?_cons_cons] at h0; exact h0)
      have hv : val B (y :: l) ≠ 0 := by
        intro e
        rw [e, pc_zero] at ih; cases ih
      have hne : x + B * val B (y :: l) ≠ 0 := by
        have : 0 < B * val B (y :: l) := Nat.mul_pos (by omega) (by omega)
        omega
      rw [val, pc_step hB hne, e1, e2, ih]
/-- Without zeros at the end. -/
def tr : List Nat → List Nat
  | [] => []
  | x :: l => match tr l with
    | [] => if x = 0 then [] else [x]
    | y :: m => x :: y :: m
theorem tr_snoc0 : ∀ (l : List Nat), tr (l ++ [0]) = tr l
  | [] => rfl
  | x :: l => by rw [List.cons_append, tr, tr_snoc0 l, tr]
theorem tr_snoc {y : Nat} (hy : y ≠ 0) : ∀ (l : List Nat), tr (l ++ [y]) = l ++ [y]
  | [] => by simp [tr, hy]
  | x :: l => by
    rw [List.cons_append, tr, tr_snoc hy l]
    cases l <;> rfl
theorem tr_last : ∀ {l : List Nat}, l.getLast? ≠ some 0 → tr l = l := by
  intro l h
  rcases List.eq_nil_or_concat l with rfl | ⟨i, x, rfl⟩
  · rfl
  · rw [List.concat_eq_append] at h ⊢
    refine tr_snoc ?_ i
    intro e; subst e; simp at h
theorem last_tr : ∀ (l : List Nat), (tr l).getLast? ≠ some 0
  | [] => by simp [tr]
  | x :: l => by
    have ih := last_tr l
    rw [tr]
    split
    · split
      · simp
      · simp; assumption
    · rename_i y m h
      rw [h] at ih
      rw [List.getLast?_cons_cons]; exact ih
theorem val_tr (B : Nat) : ∀ (l : List Nat), val B (tr l) = val B l
  | [] => rfl
  | x :: l => by
    have ih := val_tr B l
    rw [tr]
    split
    · rename_i h
      rw [h] at ih
      rw [val, ← ih]
      split
      · rename_i h; subst h; simp [val]
      · simp [val]
    · rename_i y m h
      rw [h] at ih
      rw [val, ih, val]
theorem mem_tr {x : Nat} : ∀ {l : List Nat}, x ∈ tr l → x ∈ l
  | [], h => by simp [tr] at h
  | y :: l, h => by
    rw [tr] at h
    split at h
    · split at h
      · simp at h
      · simp at h; simp [h]
    · rename_i z m e
      rcases List.mem_cons.1 h with h | h
      · simp [h]
      · rw [← e] at h; exact List.mem_cons_of_mem _ (mem_tr h)
theorem tr_pc {B : Nat} (hB : 2 ≤ B) {l : List Nat} (h : ∀ x ∈ l, x < B) : tr l = pc B (val B l) := by
  have := pc_val hB (l := tr l) (fun x hx => h x (mem_tr hx)) (last_tr l)
  rw [val_tr] at this; exact this.symm
theorem pc_eq {B n : Nat} (hB : 2 ≤ B) {l : List Nat} (h : ∀ x ∈ l, x < B) (hv : val B l = n) : tr l = pc B n := by rw [tr_pc hB h, hv]
theorem val_inj {B : Nat} (hB : 2 ≤ B) {l m : List Nat} (hl : ∀ x ∈ l, x < B) (hm : ∀ x ∈ m, x < B) (e : l.length = m.length) (h : val B l = val B m) : l = m := by
  induction l generalizing m with
  | nil => cases m with
    | nil => rfl
    | cons => simp at e
  | cons x l ih =>
    cases m with
    | nil => simp at e
    | cons y m =>
      rw [val, val] at h
      have hx := hl x (by simp); have hy := hm y (by simp)
      have e1 : x = y := by
        have : (x + B * val B l) % B = (y + B * val B m) % B := by rw [h]
        rwa [Nat.add_mul_mod_self_left, Nat.add_mul_mod_self_left, Nat.mod_eq_of_lt hx, Nat.mod_eq_of_lt hy] at this
      subst e1
      have e2 : val B l = val B m := Nat.eq_of_mul_eq_mul_left (show 0 < B by omega) (by omega)
      rw [ih (fun z hz => hl z (by simp [hz])) (fun z hz => hm z (by simp [hz])) (by simpa using e) e2]
theorem pc_length_le {B n k : Nat} (hB : 2 ≤ B) (h : n < B ^ k) : (pc B n).length ≤ k := by
  induction k generalizing n with
  | zero => have : n = 0 := by simpa using h
            subst this; rw [pc_zero]; simp
  | succ k ih =>
    by_cases h0 : n = 0
    · subst h0; rw [pc_zero]; simp
    · rw [pc_step hB h0, List.length_cons]
      have : n / B < B ^ k := by rw [Nat.div_lt_iff_lt_mul (by omega)]; rw [Nat.pow_succ] at h; exact h
      have := ih this
      omega
theorem pc_length_lt {B n k : Nat} (hB : 2 ≤ B) (h : (pc B n).length ≤ k) : n < B ^ k := by
  have h1 := val_lt (show 0 < B by omega) (pc_lt hB n)
  rw [val_pc hB] at h1
  exact Nat.lt_of_lt_of_le h1 (Nat.pow_le_pow_right (by omega) h)
theorem pc_length_mono {B u v : Nat} (hB : 2 ≤ B) (h : (pc B u).length < (pc B v).length) : u < v := by
  rcases Nat.lt_or_ge u v with h1 | h1
  · exact h1
  · have h2 := pc_length_lt (k := (pc B u).length) hB (Nat.le_refl _)
    have := pc_length_le (n := v) hB (Nat.lt_of_le_of_lt h1 h2)
    omega
/-- The order of pieces of one length: the greatest place at which they differ decides. -/
theorem val_order {B : Nat} (hB : 2 ≤ B) {l m : List Nat} (hl : ∀ x ∈ l, x < B) (hm : ∀ x ∈ m, x < B) {i x y : Nat} (hx : l[i]? = some x) (hy : m[i]? = some y) (hd : l.drop (i + 1) = m.drop (i + 1)) (h : x < y) : val B l < val B m := by
  have il := (List.getElem?_eq_some_iff.1 hx).1
  have im := (List.getElem?_eq_some_iff.1 hy).1
  have e1 := val_take_drop B l (i + 1) (by omega)
  have e2 := val_take_drop B m (i + 1) (by omega)
  rw [hd, val_take_succ B hx] at e1
  rw [val_take_succ B hy] at e2
  have h3 := val_lt (show 0 < B by omega) (l := l.take i) (fun z hz => hl z (List.mem_of_mem_take hz))
  rw [List.length_take, Nat.min_eq_left (by omega)] at h3
  have h4 : B ^ i * (x + 1) ≤ B ^ i * y := Nat.mul_le_mul_left _ h
  grind
end Go.Proofs.YtkjnjdcbnelceaaGreatDoor.Num
end

section
/- Decimal text in pieces: what is written piece by piece is the number. No program in sight. -/
set_option linter.unusedVariables false
set_option linter.unusedSimpArgs false
namespace Go.Proofs.YtkjnjdcbnelceaaGreatDoor.Num
open Go

/-- k digits of a number, with zeros ahead. -/
def pk : Nat → Nat → List UInt8
  | 0, _ => []
  | k + 1, x => pk k (x / 10) ++ [UInt8.ofNat (48 + x % 10)]
theorem pk_zero : ∀ k, pk k 0 = List.replicate k 48
  | 0 => rfl
  | k + 1 => by rw [pk, Nat.zero_div, pk_zero k, List.replicate_succ']; rfl
theorem pk_length : ∀ k x, (pk k x).length = k
  | 0, _ => rfl
  | k + 1, x => by rw [pk, List.length_append, pk_length k]; rfl
theorem dec_pk (m : Nat) (hm : m ≠ 0) : ∀ k x, x < 10 ^ k → Lib.decDigits (m * 10 ^ k + x) = Lib.decDigits m ++ pk k x
  | 0, x, h => by
    have : x = 0 := by simpa using h
    subst this; simp [pk]
  | k + 1, x, h => by
    rw [Nat.pow_succ] at h
    have hp : 0 < 10 ^ k := Nat.pow_pos (by omega)
    have e1 : (m * 10 ^ (k + 1) + x) / 10 = m * 10 ^ k + x / 10 := by
      rw [Nat.pow_succ, ← Nat.mul_assoc, Nat.mul_comm (m * 10 ^ k) 10, Nat.mul_add_div (by omega)]
    have e2 : (m * 10 ^ (k + 1) + x) % 10 = x % 10 := by
      rw [Nat.pow_succ, ← Nat.mul_assoc, Nat.mul_comm (m * 10 ^ k) 10, Nat.mul_add_mod]
    have hb : ¬ m * 10 ^ (k + 1) + x < 10 := by
      have : 1 * 10 ≤ m * 10 ^ (k + 1) := Nat.mul_le_mul (by omega) (by rw [Nat.pow_succ]; omega)
      omega
    rw [dec_big hb, e1, e2, dec_pk m hm k (x / 10) (by omega), pk, List.append_assoc]
theorem pk_pad : ∀ k x, x < 10 ^ k → 0 < k → pk k x = List.replicate (k - (Lib.decDigits x).length) 48 ++ Lib.decDigits x
  | 0, _, _, h => absurd h (Nat.lt_irrefl 0)
  | k + 1, x, h, _ => by
    by_cases hx : x < 10
    · rw [dec_small hx, pk, Nat.div_eq_of_lt hx, pk_zero, Nat.mod_eq_of_lt hx]; simp
    · have hk : 0 < k := by
        rcases Nat.eq_zero_or_pos k with rfl | h1
        · simp at h; omega
        · exact h1
      rw [Nat.pow_succ] at h
      rw [pk, pk_pad k (x / 10) (by omega) hk, dec_big hx, List.length_append, List.append_assoc]
      simp
theorem snoc_ind {P : List UInt8 → Prop} (h0 : P []) (hs : ∀ l b, P l → P (l ++ [b])) (l : List UInt8) : P l := by
  generalize hn : l.length = n
  induction n generalizing l with
  | zero => rw [List.length_eq_zero_iff.1 hn]; exact h0
  | succ n ih =>
    rcases List.eq_nil_or_concat l with rfl | ⟨q, x, rfl⟩
    · exact h0
    · rw [List.concat_eq_append] at *
      exact hs q x (ih q (by simpa using hn))
/-- The number that digits spell, joined. -/
def dval (l : List UInt8) : Nat := l.foldl (fun a b => 10 * a + (b.toNat - 48)) 0
theorem dval_snoc (l : List UInt8) (b : UInt8) : dval (l ++ [b]) = 10 * dval l + (b.toNat - 48) := by unfold dval; rw [List.foldl_append]; rfl
theorem dval_dec (u : Nat) : dval (Lib.decDigits u) = u := by
  induction u using Nat.strongRecOn with
  | _ u ih =>
    by_cases h : u < 10
    · rw [dec_small h]; simp only [dval, List.foldl]; rw [byte_nat h]; omega
    · rw [dec_big h, dval_snoc, ih _ (by omega), byte_nat (by omega)]; omega
theorem dval_append (l m : List UInt8) : dval (l ++ m) = dval l * 10 ^ m.length + dval m := by
  refine snoc_ind (P := fun m => dval (l ++ m) = dval l * 10 ^ m.length + dval m) (by simp [dval]) (fun m b ih => ?_) m
  rw [← List.append_assoc, dval_snoc, ih, dval_snoc, List.length_append, List.length_singleton, Nat.pow_succ]; grind
theorem dval_lt {l : List UInt8} (h : ∀ b ∈ l, 48 ≤ b.toNat ∧ b.toNat ≤ 57) : dval l < 10 ^ l.length := by
  revert h
  refine snoc_ind (P := fun l => (∀ b ∈ l, 48 ≤ b.toNat ∧ b.toNat ≤ 57) → dval l < 10 ^ l.length) (by simp [dval]) (fun l b ih h => ?_) l
  have := ih (fun x hx => h x (by simp [hx]))
  have hb := h b (by simp)
  rw [dval_snoc, List.length_append, List.length_singleton, Nat.pow_succ]; omega
theorem decFrom_dval : ∀ (l : List UInt8) (a : Nat), (∀ b ∈ l, 48 ≤ b.toNat ∧ b.toNat ≤ 57) → Lib.decFrom a l = some (l.foldl (fun a b => 10 * a + (b.toNat - 48)) a)
  | [], a, _ => rfl
  | b :: l, a, h => by
    simp only [Lib.decFrom, digitVal_byte (h b (by simp)), List.foldl_cons]
    rw [decFrom_dval l _ (fun x hx => h x (by simp [hx]))]
    congr 2; omega
end Go.Proofs.YtkjnjdcbnelceaaGreatDoor.Num
end

section
/- Canonical texts of integers and of fractions. Nothing here concerns a given program. -/
namespace Go.Proofs.YtkjnjdcbnelceaaGreatDoor.KA
open Go Go.Proofs Num

/-- A text without its minus sign. -/
def spl : List UInt8 → Bool × List UInt8
  | [] => (false, [])
  | b :: l => if b = 45 then (true, l) else (false, b :: l)
def digs (D : List UInt8) : Prop := ∀ b ∈ D, 48 ≤ b.toNat ∧ b.toNat ≤ 57
def canD (mi : Bool) (D : List UInt8) : Prop := D ≠ [] ∧ digs D ∧ ¬ (D[0]? = some 48 ∧ (mi = true ∨ 1 < D.length))

theorem dec_dval (D : List UInt8) (h0 : D ≠ []) (hd : digs D) (hh : D[0]? = some 48 → D.length = 1) : D = Lib.decDigits (dval D) := by
  induction D using snoc_ind with
  | h0 => exact absurd rfl h0
  | hs l b ih =>
    have hb := hd b (by simp)
    have hbb : UInt8.ofNat (48 + (b.toNat - 48)) = b := by
      rw [show 48 + (b.toNat - 48) = b.toNat by omega]; exact UInt8.ofNat_toNat
    rcases l with _ | ⟨c, l⟩
    · rw [List.nil_append, show dval [b] = b.toNat - 48 by simp [dval], dec_small (by omega), hbb]
    · have hl : (c :: l) = Lib.decDigits (dval (c :: l)) := by
        refine ih (by simp) (fun x hx => hd x (List.mem_append_left _ hx)) fun h => ?_
        have := hh (by simpa using h)
        simp at this
      have hnz : dval (c :: l) ≠ 0 := fun e => by
        rw [e, dec_zero] at hl
        have := hh (by rw [List.cons_append]; simp at hl ⊢; exact hl.1)
        simp at this
      rw [dval_snoc, dec_big (by omega), show (10 * dval (c :: l) + (b.toNat - 48)) / 10 = dval (c :: l) by omega, show (10 * dval (c :: l) + (b.toNat - 48)) % 10 = b.toNat - 48 by omega, hbb, ← hl]
theorem canD_dec (mi : Bool) (u : Nat) (h : mi = true → u ≠ 0) : canD mi (Lib.decDigits u) := by
  refine ⟨dec_ne u, dec_digit u, fun ⟨h1, h2⟩ => ?_⟩
  by_cases hu : u = 0
  · subst hu
    rw [dec_zero] at h2
    rcases h2 with h2 | h2
    · exact h h2 rfl
    · simp at h2
  · obtain ⟨b, l, e, h3, _⟩ := dec_head u hu
    rw [e] at h1
    simp at h1
    subst h1
    simp at h3
theorem canD_eq {mi : Bool} {D : List UInt8} (h : canD mi D) : D = Lib.decDigits (dval D) :=
  dec_dval D h.1 h.2.1 fun h0 => by
    have := List.length_pos_iff.2 h.1
    rcases Nat.lt_or_ge 1 D.length with h1 | h1
    · exact absurd ⟨h0, .inr h1⟩ h.2.2
    · omega
theorem canI_iff (s : List UInt8) : (∃ n, s = Lib.itoa n) ↔ canD (spl s).1 (spl s).2 := by
  constructor
  · rintro ⟨n, rfl⟩
    by_cases h : n < 0
    · rw [itoa_neg h]
      show canD true _
      exact canD_dec _ _ (fun _ => by omega)
    · rw [itoa_nonneg (by omega)]
      obtain ⟨b, l, e, h1, _⟩ := dec_not45 n.toNat
      have : spl (Lib.decDigits n.toNat) = (false, Lib.decDigits n.toNat) := by rw [e]; exact if_neg h1
      rw [this]
      exact canD_dec _ _ (fun h => by cases h)
  · intro h
    have e := canD_eq h
    cases s with
    | nil => exact absurd rfl h.1
    | cons b l =>
      by_cases hb : b = 45
      · subst hb
        have es : spl (45 :: l) = (true, l) := rfl
        rw [es] at h e
        have hnz : dval l ≠ 0 := fun e0 => by
          dsimp only at e
          rw [e0, dec_zero] at e
          exact h.2.2 ⟨by rw [e]; rfl, .inl rfl⟩
        refine ⟨-(dval l : Int), ?_⟩
        rw [itoa_neg (by omega), Int.natAbs_neg, Int.natAbs_natCast]
        dsimp only at e
        rw [← e]
      · have es : spl (b :: l) = (false, b :: l) := if_neg hb
        rw [es] at e
        exact ⟨(dval (b :: l) : Nat), by rw [itoa_nonneg (by omega), Int.toNat_natCast]; exact e⟩
theorem spl_trim (s : List UInt8) : Lib.trimPrefix s [45] = (spl s).2 ∧ Lib.hasPrefix s [45] = (spl s).1 := by
  cases s with
  | nil => exact ⟨rfl, rfl⟩
  | cons b l =>
    by_cases hb : b = 45
    · subst hb
      exact ⟨by simp [Lib.trimPrefix, Lib.hasPrefix, spl], by simp [Lib.hasPrefix, spl]⟩
    · have h1 : Lib.hasPrefix (b :: l) [45] = false := by unfold Lib.hasPrefix; rw [isPrefix1]; simp; exact fun e => hb e.symm
      refine ⟨?_, ?_⟩
      · unfold Lib.trimPrefix; rw [h1]; simp [spl, hb]
      · rw [h1]; simp [spl, hb]
theorem spl_len (s : List UInt8) : (spl s).2.length ≤ s.length := by
  cases s with
  | nil => exact Nat.le_refl _
  | cons b l =>
    by_cases hb : b = 45
    · rw [show spl (b :: l) = (true, l) from if_pos hb]; simp
    · rw [show spl (b :: l) = (false, b :: l) from if_neg hb]; exact Nat.le_refl _

/-- The first slash. -/
theorem slash_split : ∀ x : List UInt8, ((47 : UInt8) ∉ x) ∨ ∃ a b, x = a ++ 47 :: b ∧ (47 : UInt8) ∉ a
  | [] => .inl (by simp)
  | c :: x => by
    by_cases hc : c = 47
    · exact .inr ⟨[], x, by rw [hc]; rfl, by simp⟩
    · rcases slash_split x with h | ⟨a, b, e, h⟩
      · exact .inl (by simp; exact ⟨fun e => hc e.symm, h⟩)
      · exact .inr ⟨c :: a, b, by rw [e]; rfl, by simp; exact ⟨fun e => hc e.symm, h⟩⟩
theorem canQ_whole {x : List UInt8} (h : (47 : UInt8) ∉ x) : (∃ q : Rat, x = tq q) ↔ ∃ n, x = Lib.itoa n := by
  constructor
  · rintro ⟨q, rfl⟩
    by_cases hd : q.den = 1
    · exact ⟨q.num, tq_whole hd⟩
    · rw [tq_part hd] at h; simp at h
  · rintro ⟨n, rfl⟩
    exact ⟨(n : Rat), (tq_int n).symm⟩
theorem canQ_part {a b : List UInt8} (h : (47 : UInt8) ∉ a) : (∃ q : Rat, a ++ 47 :: b = tq q) ↔ ∃ n d : Int, a = Lib.itoa n ∧ b = Lib.itoa d ∧ 1 < d ∧ Int.gcd n d = 1 := by
  constructor
  · rintro ⟨q, e⟩
    by_cases hd : q.den = 1
    · rw [tq_whole hd] at e
      exact absurd (by rw [← e]; simp) (itoa_no47 q.num)
    · rw [tq_part hd] at e
      obtain ⟨e1, e2⟩ := split47 h (itoa_no47 _) e
      have hp := q.den_pos
      refine ⟨q.num, q.den, e1, by rw [e2, itoa_nonneg (by omega)]; simp, by omega, ?_⟩
      have := q.reduced
      unfold Nat.Coprime at this
      unfold Int.gcd; simpa using this
  · rintro ⟨n, d, rfl, rfl, hd, hg⟩
    refine ⟨⟨n, d.toNat, by omega, ?_⟩, ?_⟩
    · unfold Nat.Coprime
      unfold Int.gcd at hg
      rwa [show d.toNat = d.natAbs by omega]
    · rw [tq_part (by show d.toNat ≠ 1; omega)]
      show Lib.itoa n ++ 47 :: Lib.itoa d = Lib.itoa n ++ 47 :: Lib.decDigits d.toNat
      rw [itoa_nonneg (n := d) (by omega)]
end Go.Proofs.YtkjnjdcbnelceaaGreatDoor.KA
end

section
/- The program, and what of its variables is known. -/
open Go Go.Proofs
set_option linter.unusedSimpArgs false
namespace Go.Proofs.YtkjnjdcbnelceaaGreatDoor.KA
noncomputable def cx (m : Int) : Ctx := ⟨Tryz.prog, [(0, [.int .i64 m]), (3, Lib.pow10Tab.map (AV.int .u64))]⟩
theorem mixed (m : Int) : (cx m).P.follows .mixedOrders = true := by kernel_rfl
theorem p10_at : Tryz.prog.globalNamed "internal/strconv.uint64pow10" = some 3 := by kernel_rfl
end Go.Proofs.YtkjnjdcbnelceaaGreatDoor.KA
end

section
/- The small code of functions, as own tools print it; that it is the program's is checked by the kernel. -/
open Go Go.Proofs
set_option linter.unusedVariables false
namespace Go.Proofs.YtkjnjdcbnelceaaGreatDoor.KA
def c200 : C := (C.ops [⟨I.mv 4 (O.k (AV.bool false)), none, some 4⟩]).seq ((C.ops [⟨I.mv 5 (O.t 0), none, some 5⟩, ⟨I.lens 6 (O.t 5), none, some 6⟩, ⟨I.mv 7 (O.t 1), none, some 7⟩, ⟨I.lens 8 (O.t 7), none, some 8⟩, ⟨I.bin 9 BinOp.geq (O.t 6) (O.t 8), none, some 9⟩, ⟨I.mv 10 (O.t 9), none, some 10⟩, ⟨I.mv 11 (O.t 0), some (10, true), some 11⟩, ⟨I.mv 12 (O.t 1), some (10, true), some 12⟩, ⟨I.lens 13 (O.t 12), some (10, true), some 13⟩, ⟨I.slcs 14 (O.t 11) none (some (O.t 13)), some (10, true), some 14⟩, ⟨I.mv 15 (O.t 1), some (10, true), some 15⟩, ⟨I.bin 16 BinOp.eql (O.t 14) (O.t 15), some (10, true), some 16⟩, ⟨I.pick 17 (O.t 10) (O.t 16) (O.k (AV.bool false)), none, some 17⟩, ⟨I.mv 4 (O.t 17), none, some 4⟩]).seq C.ret)
theorem k200 (m : Int) : compF (cx m).P (cx m).gt (fun _ => false) 200 = some (c200, [RV.tmp 4], 18) := by kernel_rfl
def c147 : C := (C.ops [⟨I.mv 4 (O.k (AV.bool false)), none, some 4⟩]).seq ((C.ops [⟨I.mv 5 (O.t 0), none, some 5⟩, ⟨I.mv 6 (O.t 1), none, some 6⟩, ⟨I.call (some 7) (O.k (AV.fn 200 [])) [O.t 5, O.t 6] false, none, some 7⟩, ⟨I.mv 4 (O.t 7), none, some 4⟩]).seq C.ret)
theorem k147 (m : Int) : compF (cx m).P (cx m).gt (fun _ => false) 147 = some (c147, [RV.tmp 4], 8) := by kernel_rfl
def c189 : C := (C.ops [⟨I.mv 4 (O.k (AV.str [])), none, some 4⟩, ⟨I.mv 5 (O.k (AV.bool false)), none, some 5⟩]).seq (((C.ops [⟨I.mv 6 (O.t 0), none, some 6⟩, ⟨I.mv 7 (O.t 1), none, some 7⟩, ⟨I.call (some 8) (O.k (AV.fn 200 [])) [O.t 6, O.t 7] false, none, some 8⟩, ⟨I.not 9 (O.t 8), none, some 9⟩]).seq (C.cond (O.t 9) ((C.ops [⟨I.mv 10 (O.t 0), none, some 10⟩, ⟨I.mv 4 (O.t 10), none, some 4⟩, ⟨I.mv 5 (O.k (AV.bool false)), none, some 5⟩]).seq C.ret) C.skip)).seq ((C.ops [⟨I.mv 11 (O.t 0), none, some 11⟩, ⟨I.mv 12 (O.t 1), none, some 12⟩, ⟨I.lens 13 (O.t 12), none, some 13⟩, ⟨I.slcs 14 (O.t 11) (some (O.t 13)) none, none, some 14⟩, ⟨I.mv 4 (O.t 14), none, some 4⟩, ⟨I.mv 5 (O.k (AV.bool true)), none, some 5⟩]).seq C.ret))
theorem k189 (m : Int) : compF (cx m).P (cx m).gt (fun _ => false) 189 = some (c189, [RV.tmp 4, RV.tmp 5], 15) := by kernel_rfl
def c138 : C := (C.ops [⟨I.mv 4 (O.k (AV.str [])), none, some 4⟩, ⟨I.mv 5 (O.k (AV.bool false)), none, some 5⟩]).seq ((C.ops [⟨I.mv 6 (O.t 0), none, some 6⟩, ⟨I.mv 7 (O.t 1), none, some 7⟩, ⟨I.call (some 8) (O.k (AV.fn 189 [])) [O.t 6, O.t 7] false, none, some 8⟩, ⟨I.ext 9 (O.t 8) 0, none, some 9⟩, ⟨I.ext 10 (O.t 8) 1, none, some 10⟩, ⟨I.mv 4 (O.t 9), none, some 4⟩, ⟨I.mv 5 (O.t 10), none, some 5⟩]).seq C.ret)
theorem k138 (m : Int) : compF (cx m).P (cx m).gt (fun _ => false) 138 = some (c138, [RV.tmp 4, RV.tmp 5], 11) := by kernel_rfl
def c148 : C := (C.ops [⟨I.mv 4 (O.k (AV.str [])), none, some 4⟩]).seq (((C.ops [⟨I.mv 5 (O.t 0), none, some 5⟩, ⟨I.mv 6 (O.t 1), none, some 6⟩, ⟨I.call (some 7) (O.k (AV.fn 200 [])) [O.t 5, O.t 6] false, none, some 7⟩]).seq (C.cond (O.t 7) ((C.ops [⟨I.mv 8 (O.t 0), none, some 8⟩, ⟨I.mv 9 (O.t 1), none, some 9⟩, ⟨I.lens 10 (O.t 9), none, some 10⟩, ⟨I.slcs 11 (O.t 8) (some (O.t 10)) none, none, some 11⟩, ⟨I.mv 4 (O.t 11), none, some 4⟩]).seq C.ret) C.skip)).seq ((C.ops [⟨I.mv 12 (O.t 0), none, some 12⟩, ⟨I.mv 4 (O.t 12), none, some 4⟩]).seq C.ret))
theorem k148 (m : Int) : compF (cx m).P (cx m).gt (fun _ => false) 148 = some (c148, [RV.tmp 4], 13) := by kernel_rfl
def c109 : C := (C.ops [⟨I.mv 4 (O.k (AV.str [])), none, some 4⟩]).seq ((C.ops [⟨I.mv 5 (O.t 0), none, some 5⟩, ⟨I.mv 6 (O.t 1), none, some 6⟩, ⟨I.call (some 7) (O.k (AV.fn 148 [])) [O.t 5, O.t 6] false, none, some 7⟩, ⟨I.mv 4 (O.t 7), none, some 4⟩]).seq C.ret)
theorem k109 (m : Int) : compF (cx m).P (cx m).gt (fun _ => false) 109 = some (c109, [RV.tmp 4], 8) := by kernel_rfl
def c108 : C := (C.ops [⟨I.mv 2 (O.k (AV.int IntKind.i64 0)), none, some 2⟩]).seq ((C.block 0 ((C.ops [⟨I.mv 4 (O.t 0), none, some 4⟩, ⟨I.bin 5 BinOp.eql (O.t 4) (O.k (AV.str [48])), none, some 5⟩, ⟨I.mv 3 (O.t 5), none, some 3⟩]).seq (C.cond (O.t 3) ((C.ops [⟨I.mv 2 (O.k (AV.int IntKind.i64 0)), none, some 2⟩]).seq C.ret) ((C.ops [⟨I.mv 7 (O.t 0), none, some 7⟩, ⟨I.call (some 8) (O.k (AV.fn 147 [])) [O.t 7, O.k (AV.str [45])] false, none, some 8⟩, ⟨I.mv 6 (O.t 8), none, some 6⟩]).seq (C.cond (O.t 6) ((C.ops [⟨I.mv 2 (O.k (AV.int IntKind.i64 (-1))), none, some 2⟩]).seq C.ret) C.skip))))).seq ((C.ops [⟨I.mv 2 (O.k (AV.int IntKind.i64 1)), none, some 2⟩]).seq C.ret))
theorem k108 (m : Int) : compF (cx m).P (cx m).gt (fun _ => false) 108 = some (c108, [RV.tmp 2], 9) := by kernel_rfl
def c117 : C := (C.ops [⟨I.mv 2 (O.k (AV.str [])), none, some 2⟩]).seq (((C.ops [⟨I.mv 3 (O.t 0), none, some 3⟩, ⟨I.call (some 4) (O.k (AV.fn 108 [])) [O.t 3] false, none, some 4⟩]).seq (C.block 0 ((C.ops [⟨I.bin 6 BinOp.eql (O.t 4) (O.k (AV.int IntKind.i64 1)), none, some 6⟩, ⟨I.mv 5 (O.t 6), none, some 5⟩]).seq (C.cond (O.t 5) ((C.ops [⟨I.mv 7 (O.t 0), none, some 7⟩, ⟨I.bin 8 BinOp.add (O.k (AV.str [45])) (O.t 7), none, some 8⟩, ⟨I.mv 2 (O.t 8), none, some 2⟩]).seq C.ret) ((C.ops [⟨I.bin 10 BinOp.eql (O.t 4) (O.k (AV.int IntKind.i64 (-1))), none, some 10⟩, ⟨I.mv 9 (O.t 10), none, some 9⟩]).seq (C.cond (O.t 9) ((C.ops [⟨I.mv 11 (O.t 0), none, some 11⟩, ⟨I.slcs 12 (O.t 11) (some (O.k (AV.int IntKind.i64 1))) none, none, some 12⟩, ⟨I.mv 2 (O.t 12), none, some 2⟩]).seq C.ret) C.skip)))))).seq ((C.ops [⟨I.mv 13 (O.t 0), none, some 13⟩, ⟨I.mv 2 (O.t 13), none, some 2⟩]).seq C.ret))
theorem k117 (m : Int) : compF (cx m).P (cx m).gt (fun _ => false) 117 = some (c117, [RV.tmp 2], 14) := by kernel_rfl
def c119 : C := (C.ops [⟨I.mv 4 (O.k (AV.str [])), none, some 4⟩]).seq (((C.ops [⟨I.mv 5 (O.t 1), none, some 5⟩, ⟨I.bin 6 BinOp.eql (O.t 5) (O.k (AV.str [49])), none, some 6⟩]).seq (C.cond (O.t 6) ((C.ops [⟨I.mv 7 (O.t 0), none, some 7⟩, ⟨I.mv 4 (O.t 7), none, some 4⟩]).seq C.ret) C.skip)).seq ((C.ops [⟨I.mv 8 (O.t 0), none, some 8⟩, ⟨I.bin 9 BinOp.add (O.t 8) (O.k (AV.str [47])), none, some 9⟩, ⟨I.mv 10 (O.t 1), none, some 10⟩, ⟨I.bin 11 BinOp.add (O.t 9) (O.t 10), none, some 11⟩, ⟨I.mv 4 (O.t 11), none, some 4⟩]).seq C.ret))
theorem k119 (m : Int) : compF (cx m).P (cx m).gt (fun _ => false) 119 = some (c119, [RV.tmp 4], 12) := by kernel_rfl
def c94 : C := (C.ops [⟨I.mv 2 (O.k (AV.str [])), none, some 2⟩]).seq ((C.ops [⟨I.mv 3 (O.t 0), none, some 3⟩, ⟨I.call (some 4) (O.k (AV.fn 116 [])) [O.t 3] false, none, some 4⟩, ⟨I.mv 2 (O.t 4), none, some 2⟩]).seq C.ret)
theorem k94 (m : Int) : compF (cx m).P (cx m).gt (fun _ => false) 94 = some (c94, [RV.tmp 2], 5) := by kernel_rfl
def c107 : C := (C.ops [⟨I.mv 2 (O.k (AV.str [])), none, some 2⟩]).seq (((C.ops [⟨I.mv 3 (O.t 0), none, some 3⟩, ⟨I.bin 4 BinOp.eql (O.t 3) (O.k (AV.str [48])), none, some 4⟩]).seq (C.cond (O.t 4) ((C.ops [⟨I.mv 5 (O.t 0), none, some 5⟩, ⟨I.mv 2 (O.t 5), none, some 2⟩]).seq C.ret) C.skip)).seq (((C.ops [⟨I.mv 6 (O.t 0), none, some 6⟩, ⟨I.idx 7 (O.t 6) (O.k (AV.int IntKind.i64 0)), none, some 7⟩, ⟨I.bin 8 BinOp.eql (O.t 7) (O.k (AV.int IntKind.u8 45)), none, some 8⟩]).seq (C.cond (O.t 8) ((C.ops [⟨I.mv 9 (O.t 0), none, some 9⟩, ⟨I.slcs 10 (O.t 9) (some (O.k (AV.int IntKind.i64 1))) none, none, some 10⟩, ⟨I.mv 2 (O.t 10), none, some 2⟩]).seq C.ret) C.skip)).seq ((C.ops [⟨I.mv 11 (O.t 0), none, some 11⟩, ⟨I.bin 12 BinOp.add (O.k (AV.str [45])) (O.t 11), none, some 12⟩, ⟨I.mv 2 (O.t 12), none, some 2⟩]).seq C.ret)))
theorem k107 (m : Int) : compF (cx m).P (cx m).gt (fun _ => false) 107 = some (c107, [RV.tmp 2], 13) := by kernel_rfl
def c18 : C := (C.ops [⟨I.mv 2 (O.k (AV.int IntKind.i64 0)), none, some 2⟩]).seq ((C.block 0 ((C.ops [⟨I.mv 4 (O.t 0), none, some 4⟩, ⟨I.bin 5 BinOp.eql (O.t 4) (O.k (AV.str [48])), none, some 5⟩, ⟨I.mv 3 (O.t 5), none, some 3⟩]).seq (C.cond (O.t 3) ((C.ops [⟨I.mv 2 (O.k (AV.int IntKind.i64 0)), none, some 2⟩]).seq C.ret) ((C.ops [⟨I.mv 7 (O.t 0), none, some 7⟩, ⟨I.lens 8 (O.t 7), none, some 8⟩, ⟨I.bin 9 BinOp.gtr (O.t 8) (O.k (AV.int IntKind.i64 0)), none, some 9⟩, ⟨I.mv 10 (O.t 9), none, some 10⟩, ⟨I.mv 11 (O.t 0), some (10, true), some 11⟩, ⟨I.idx 12 (O.t 11) (O.k (AV.int IntKind.i64 0)), some (10, true), some 12⟩, ⟨I.bin 13 BinOp.eql (O.t 12) (O.k (AV.int IntKind.u8 45)), some (10, true), some 13⟩, ⟨I.pick 14 (O.t 10) (O.t 13) (O.k (AV.bool false)), none, some 14⟩, ⟨I.mv 6 (O.t 14), none, some 6⟩]).seq (C.cond (O.t 6) ((C.ops [⟨I.mv 2 (O.k (AV.int IntKind.i64 (-1))), none, some 2⟩]).seq C.ret) C.skip))))).seq ((C.ops [⟨I.mv 2 (O.k (AV.int IntKind.i64 1)), none, some 2⟩]).seq C.ret))
theorem k18 (m : Int) : compF (cx m).P (cx m).gt (fun _ => false) 18 = some (c18, [RV.tmp 2], 15) := by kernel_rfl
def c19 : C := (C.ops [⟨I.mv 2 (O.k (AV.str [])), none, some 2⟩]).seq (((C.ops [⟨I.mv 3 (O.t 0), none, some 3⟩, ⟨I.idx 4 (O.t 3) (O.k (AV.int IntKind.i64 0)), none, some 4⟩, ⟨I.bin 5 BinOp.eql (O.t 4) (O.k (AV.int IntKind.u8 45)), none, some 5⟩]).seq (C.cond (O.t 5) ((C.ops [⟨I.mv 6 (O.t 0), none, some 6⟩, ⟨I.slcs 7 (O.t 6) (some (O.k (AV.int IntKind.i64 1))) none, none, some 7⟩, ⟨I.mv 2 (O.t 7), none, some 2⟩]).seq C.ret) C.skip)).seq ((C.ops [⟨I.mv 8 (O.t 0), none, some 8⟩, ⟨I.mv 2 (O.t 8), none, some 2⟩]).seq C.ret))
theorem k19 (m : Int) : compF (cx m).P (cx m).gt (fun _ => false) 19 = some (c19, [RV.tmp 2], 9) := by kernel_rfl
def c62 : C := (C.ops [⟨I.box 3 (O.t 0) false, none, some 3⟩, ⟨I.box 4 (O.t 1) false, none, some 4⟩, ⟨I.box 5 (O.t 2) false, none, some 5⟩, ⟨I.mv 6 (O.k (AV.int IntKind.i64 0)), none, some 6⟩]).seq ((C.ops [⟨I.loadf 7 true 2 (O.t 3), none, some 7⟩, ⟨I.loadf 8 true 2 (O.t 4), none, some 8⟩, ⟨I.loadf 9 true 2 (O.t 5), none, some 9⟩, ⟨I.call (some 10) (O.k (AV.fn 52 [])) [O.t 7, O.t 8, O.t 9] false, none, some 10⟩, ⟨I.call (some 11) (O.k (AV.fn 18 [])) [O.t 10] false, none, some 11⟩, ⟨I.mv 6 (O.t 11), none, some 6⟩]).seq C.ret)
theorem k62 (m : Int) : compF (cx m).P (cx m).gt (fun _ => false) 62 = some (c62, [RV.tmp 6], 12) := by kernel_rfl
def c97 : C := (C.ops [⟨I.mv 5 (O.k (AV.str [])), none, some 5⟩]).seq ((C.ops [⟨I.mv 6 (O.t 0), none, some 6⟩, ⟨I.loadf 7 false 1 (O.t 2), none, some 7⟩, ⟨I.mv 8 (O.t 1), none, some 8⟩, ⟨I.mv 9 (O.t 0), none, some 9⟩, ⟨I.call (some 10) (O.k (AV.fn 56 [])) [O.t 8, O.t 9] false, none, some 10⟩, ⟨I.call (some 11) (O.k (AV.fn 55 [])) [O.t 7, O.t 10] false, none, some 11⟩, ⟨I.call (some 12) (O.k (AV.fn 29 [])) [O.t 6, O.t 11] false, none, some 12⟩, ⟨I.mv 5 (O.t 12), none, some 5⟩]).seq C.ret)
theorem k97 (m : Int) : compF (cx m).P (cx m).gt (fun _ => false) 97 = some (c97, [RV.tmp 5], 13) := by kernel_rfl
def c93 : C := (C.ops [⟨I.mv 4 (O.k (AV.str [])), none, some 4⟩, ⟨I.mv 5 (O.k (AV.int IntKind.i64 0)), none, some 5⟩]).seq (((C.ops [⟨I.mv 6 (O.t 1), none, some 6⟩, ⟨I.call (some 7) (O.k (AV.fn 108 [])) [O.t 6] false, none, some 7⟩, ⟨I.bin 8 BinOp.eql (O.t 7) (O.k (AV.int IntKind.i64 0)), none, some 8⟩]).seq (C.cond (O.t 8) ((C.ops [⟨I.mv 4 (O.k (AV.str [])), none, some 4⟩, ⟨I.mv 5 (O.k (AV.int IntKind.i64 17)), none, some 5⟩]).seq C.ret) C.skip)).seq ((C.ops [⟨I.mv 9 (O.t 0), none, some 9⟩, ⟨I.mv 10 (O.t 1), none, some 10⟩, ⟨I.call (some 11) (O.k (AV.fn 64 [])) [O.t 9, O.t 10] false, none, some 11⟩, ⟨I.mv 4 (O.t 11), none, some 4⟩, ⟨I.mv 5 (O.k (AV.int IntKind.i64 0)), none, some 5⟩]).seq C.ret))
theorem k93 (m : Int) : compF (cx m).P (cx m).gt (fun _ => false) 93 = some (c93, [RV.tmp 4, RV.tmp 5], 12) := by kernel_rfl
end Go.Proofs.YtkjnjdcbnelceaaGreatDoor.KA
end

section
/- Contracts of small functions on text. -/
open Go Go.Proofs
set_option linter.unusedSimpArgs false
set_option linter.unusedVariables false
namespace Go.Proofs.YtkjnjdcbnelceaaGreatDoor.KA
open Num

theorem shv {h : AHeap} {a b : AV} (e : a = b) (hp : b.plain = true) : Shows h a b := e ▸ .same _ (e ▸ hp)
theorem shb {h : AHeap} {a b : Bool} (e : a = b) : Shows h (.bool a) (.bool b) := e ▸ .same _ rfl
theorem shs {h : AHeap} {a b : List UInt8} (e : a = b) : Shows h (.str a) (.str b) := e ▸ .same _ rfl
theorem shi {h : AHeap} {k : IntKind} {a b : Int} (e : a = b) : Shows h (.int k a) (.int k b) := e ▸ .same _ rfl
theorem prefix_take (a b : List UInt8) : Lib.hasPrefix a b = (decide (b.length ≤ a.length) && decide (a.take b.length = b)) := by
  unfold Lib.hasPrefix
  rw [Bool.eq_iff_iff]
  simp only [List.isPrefixOf_iff_prefix, Bool.and_eq_true, decide_eq_true_eq]
  constructor
  · intro h; exact ⟨h.length_le, (List.prefix_iff_eq_take.1 h).symm⟩
  · rintro ⟨_, h⟩; exact List.prefix_iff_eq_take.2 h.symm

theorem byte_is {b c : UInt8} : (b.toNat : Int) = (c.toNat : Int) ↔ b = c := by
  constructor
  · intro h; exact UInt8.toNat_inj.1 (by omega)
  · rintro rfl; rfl
theorem s200 (m : Int) (a b : List UInt8) : SpecP (cx m) 200 [.str a, .str b] (.bool (Lib.hasPrefix a b)) := by
  refine specP_of (mixed m) (k200 m) (Nat.le_of_ble_eq_true rfl) (X_start ?_)
  unfold c200
  refine WW ?_
  refine iteI (fun h => ⟨by omega, shb ?_⟩) (fun h => shb ?_)
  · rw [prefix_take, decide_eq_true (show b.length ≤ a.length by omega), Bool.true_and]
  · rw [prefix_take, decide_eq_false (show ¬ b.length ≤ a.length by omega), Bool.false_and]
theorem s147 (m : Int) (a b : List UInt8) : SpecP (cx m) 147 [.str a, .str b] (.bool (Lib.hasPrefix a b)) := by
  refine specP_of (mixed m) (k147 m) (Nat.le_of_ble_eq_true rfl) (X_start ?_)
  unfold c147
  refine WW ?_
  refine CL_pure (s200 m _ _) rfl ?_
  refine WW ?_
  exact shb rfl
theorem s189 (m : Int) (a b : List UInt8) : SpecP (cx m) 189 [.str a, .str b] (.tuple [.str (Lib.trimPrefix a b), .bool (Lib.hasPrefix a b)]) := by
  refine specP_of (mixed m) (k189 m) (Nat.le_of_ble_eq_true rfl) (X_start ?_)
  unfold c189
  refine WW ?_
  refine CL_pure (s200 m _ _) rfl ?_
  refine WW ?_
  refine iteI (fun h => ?_) (fun h => ?_)
  · have h : Lib.hasPrefix a b = false := by simpa using h
    exact shv (by simp [Lib.trimPrefix, h]) rfl
  · have h : Lib.hasPrefix a b = true := by simpa using h
    refine ⟨?_, shv (by simp [Lib.trimPrefix, h]) rfl⟩
    rw [prefix_take] at h; simp at h; exact h.1
theorem s138 (m : Int) (a b : List UInt8) : SpecP (cx m) 138 [.str a, .str b] (.tuple [.str (Lib.trimPrefix a b), .bool (Lib.hasPrefix a b)]) := by
  refine specP_of (mixed m) (k138 m) (Nat.le_of_ble_eq_true rfl) (X_start ?_)
  unfold c138
  refine WW ?_
  refine CL_pure (s189 m _ _) rfl ?_
  refine WW ?_
  exact shv rfl rfl
theorem s148 (m : Int) (a b : List UInt8) : SpecP (cx m) 148 [.str a, .str b] (.str (Lib.trimPrefix a b)) := by
  refine specP_of (mixed m) (k148 m) (Nat.le_of_ble_eq_true rfl) (X_start ?_)
  unfold c148
  refine WW ?_
  refine CL_pure (s200 m _ _) rfl ?_
  refine WW ?_
  refine iteI (fun h => ?_) (fun h => ?_)
  · refine ⟨?_, shs (by simp [Lib.trimPrefix, h])⟩
    rw [prefix_take] at h; simp at h; exact h.1
  · exact shs (by simp [Lib.trimPrefix, h])
theorem s109 (m : Int) (a b : List UInt8) : SpecP (cx m) 109 [.str a, .str b] (.str (Lib.trimPrefix a b)) := by
  refine specP_of (mixed m) (k109 m) (Nat.le_of_ble_eq_true rfl) (X_start ?_)
  unfold c109
  refine WW ?_
  refine CL_pure (s148 m _ _) rfl ?_
  refine WW ?_
  exact shs rfl

/-- The sign of an integer. -/
def sgi (n : Int) : Int := if n = 0 then 0 else if n < 0 then -1 else 1
theorem itoa_is0 (n : Int) : Lib.itoa n = [48] ↔ n = 0 := by rw [← itoa_zero]; exact ⟨itoa_inj, fun h => by rw [h]⟩
theorem itoa_is1 (n : Int) : Lib.itoa n = [49] ↔ n = 1 := by rw [← itoa_one]; exact ⟨itoa_inj, fun h => by rw [h]⟩
theorem dec_hd (u : Nat) : (Lib.decDigits u).head? ≠ some 45 := by
  obtain ⟨b, l, e, h1, _⟩ := dec_not45 u
  rw [e]; simpa using h1
theorem itoa_minus (n : Int) : Lib.hasPrefix (Lib.itoa n) [45] = decide (n < 0) := by
  by_cases h : n < 0
  · rw [itoa_neg h]; simp [Lib.hasPrefix, List.isPrefixOf, h]
  · rw [itoa_nonneg (by omega)]
    obtain ⟨b, l, e, h1, _⟩ := dec_not45 n.toNat
    rw [e]; simp [Lib.hasPrefix, List.isPrefixOf, h]; exact fun e => h1 e.symm
theorem itoa_trim (n : Int) : Lib.trimPrefix (Lib.itoa n) [45] = Lib.decDigits n.natAbs := by
  unfold Lib.trimPrefix
  rw [itoa_minus]
  by_cases h : n < 0
  · rw [if_pos (decide_eq_true h), itoa_neg h]; rfl
  · rw [if_neg (by simpa using h), itoa_nonneg (by omega)]; congr 1; omega

theorem s108 (m : Int) (n : Int) : SpecP (cx m) 108 [.str (Lib.itoa n)] (.int .i64 (sgi n)) := by
  refine specP_of (mixed m) (k108 m) (Nat.le_of_ble_eq_true rfl) (X_start ?_)
  unfold c108
  refine WF @itoa_is0 ?_
  refine iteI (fun h => shi (by simp [sgi, h])) (fun h => ?_)
  refine CL_pure (s147 m _ _) rfl ?_
  refine WF @itoa_minus ?_
  refine iteI (fun h' => shi (by simp [sgi, h, h'])) (fun h' => shi (by simp [sgi, h, h']))
theorem s117 (m : Int) (n : Int) (hl : (Lib.itoa n).length < 1000000000) : SpecP (cx m) 117 [.str (Lib.itoa n)] (.str (Lib.itoa (-n))) := by
  refine specP_of (mixed m) (k117 m) (Nat.le_of_ble_eq_true rfl) (X_start ?_)
  unfold c117
  refine WW ?_
  refine CL_pure (s108 m _) rfl ?_
  refine WW ?_
  have e0 : sgi n = 1 ↔ 0 < n := by
    unfold sgi; split
    · omega
    · split <;> omega
  have e1 : sgi n = -1 ↔ n < 0 := by
    unfold sgi; split
    · omega
    · split <;> omega
  refine iteI (fun h => ⟨by (try simp) <;> omega, shs ?_⟩) (fun h => iteI (fun h' => ⟨?_, shs ?_⟩) (fun h' => shs ?_))
  · have := e0.1 h
    rw [itoa_neg (n := -n) (by omega), itoa_nonneg (n := n) (by omega)]; (try simp only [List.singleton_append]); congr 2; omega
  · exact List.length_pos_iff.2 (itoa_ne n)
  · have := e1.1 h'
    rw [itoa_neg (n := n) (by omega), itoa_nonneg (n := -n) (by omega)]; simp only [List.drop_succ_cons, List.drop_zero]; congr 1; omega
  · have h0 : ¬ 0 < n := fun h2 => h (e0.2 h2)
    have h1 : ¬ n < 0 := fun h2 => h' (e1.2 h2)
    have : n = 0 := by omega
    subst this; rfl
theorem s119 (m : Int) (n : Int) (d : Nat) (h1 : (Lib.itoa n).length < 1000000000) (h2 : (Lib.decDigits d).length < 1000000000) :
    SpecP (cx m) 119 [.str (Lib.itoa n), .str (Lib.decDigits d)] (.str (if d = 1 then Lib.itoa n else Lib.itoa n ++ 47 :: Lib.decDigits d)) := by
  refine specP_of (mixed m) (k119 m) (Nat.le_of_ble_eq_true rfl) (X_start ?_)
  unfold c119
  refine WW ?_
  have e : Lib.decDigits d = [49] ↔ d = 1 := by rw [← dec_one]; exact ⟨dec_inj, fun h => by rw [h]⟩
  refine iteI (fun h => shs (by rw [if_pos (e.1 h)])) (fun h => ⟨by (try simp) <;> omega, by (try simp) <;> omega, shs (by rw [if_neg (fun h' => h (e.2 h'))]; simp)⟩)
theorem tq_is0 (q : Rat) : tq q = [48] ↔ q = 0 := by rw [← tq_zero]; exact tq_eq
theorem tq_is1 (q : Rat) : tq q = [49] ↔ q = 1 := by rw [← tq_one]; exact tq_eq
theorem num_neg {q : Rat} : q < 0 ↔ q.num < 0 := by rw [← Rat.not_le, ← Rat.num_nonneg]; omega
theorem tq_head (q : Rat) : ∃ b l, tq q = b :: l ∧ (b = 45 ↔ q < 0) ∧ (q < 0 → l = tq (-q)) := by
  have hd : ∀ t, ∃ b l, Lib.itoa q.num ++ t = b :: l ∧ (b = 45 ↔ q < 0) ∧ (q < 0 → l = Lib.decDigits q.num.natAbs ++ t) := by
    intro t
    have hq : q < 0 ↔ q.num < 0 := num_neg
    by_cases h : q.num < 0
    · rw [itoa_neg h]; exact ⟨45, _, rfl, by simp [hq.2 h], fun _ => rfl⟩
    · rw [itoa_nonneg (by omega)]
      obtain ⟨b, l, e, h1, _⟩ := dec_not45 q.num.toNat
      rw [e]; exact ⟨b, _, rfl, ⟨fun h2 => absurd h2 h1, fun h2 => absurd (hq.1 h2) h⟩, fun h2 => absurd (hq.1 h2) h⟩
  have hm : q < 0 → Lib.itoa (-q).num = Lib.decDigits q.num.natAbs := by
    intro h
    have hq : q.num < 0 := num_neg.1 h
    rw [show (-q).num = -q.num from rfl, itoa_nonneg (by omega)]; congr 1; omega
  by_cases h1 : q.den = 1
  · obtain ⟨b, l, e1, e2, e3⟩ := hd []
    rw [List.append_nil] at e1
    refine ⟨b, l, by rw [tq_whole h1, e1], e2, fun hq => ?_⟩
    rw [e3 hq, tq_whole (by simpa using h1), hm hq, List.append_nil]
  · obtain ⟨b, l, e1, e2, e3⟩ := hd (47 :: Lib.decDigits q.den)
    refine ⟨b, l, by rw [tq_part h1, e1], e2, fun hq => ?_⟩
    rw [e3 hq, tq_part (by simpa using h1), hm hq]; rfl
/-- The sign of a rational number. -/
def sgq (q : Rat) : Int := if q = 0 then 0 else if q < 0 then -1 else 1
theorem s18 (m : Int) (q : Rat) : SpecP (cx m) 18 [.str (tq q)] (.int .i64 (sgq q)) := by
  refine specP_of (mixed m) (k18 m) (Nat.le_of_ble_eq_true rfl) (X_start ?_)
  unfold c18
  obtain ⟨b, l, e, h1, _⟩ := tq_head q
  have h0 : b :: l = [48] ↔ q = 0 := by rw [← e]; exact tq_is0 q
  have hb : (b.toNat : Int) = 45 ↔ q < 0 := by rw [← h1]; exact byte_is (c := 45)
  rw [e]
  refine WF (And.intro h0 hb) ?_
  refine iteI (fun h => shi (by simp [sgq, h])) (fun h => iteI (fun _ => iteI (fun h2 => shi (by simp [sgq, h, h2])) (fun h2 => shi (by simp [sgq, h, h2]))) (fun h2 => absurd h2 (by (try simp) <;> omega)))
theorem s19 (m : Int) (q : Rat) : SpecP (cx m) 19 [.str (tq q)] (.str (tq (if q < 0 then -q else q))) := by
  refine specP_of (mixed m) (k19 m) (Nat.le_of_ble_eq_true rfl) (X_start ?_)
  unfold c19
  obtain ⟨b, l, e, h1, h2⟩ := tq_head q
  have hb : (b.toNat : Int) = 45 ↔ q < 0 := by rw [← h1]; exact byte_is (c := 45)
  rw [e]
  refine WF hb ?_
  refine iteI (fun h => shs (by rw [if_pos h, ← h2 h])) (fun h => shs (by rw [if_neg h, e]))
theorem s107 (m : Int) (q : Rat) (hl : (tq q).length < 1000000000) : SpecP (cx m) 107 [.str (tq q)] (.str (tq (-q))) := by
  refine specP_of (mixed m) (k107 m) (Nat.le_of_ble_eq_true rfl) (X_start ?_)
  unfold c107
  obtain ⟨b, l, e, h1, h2⟩ := tq_head q
  have h0 : b :: l = [48] ↔ q = 0 := by rw [← e]; exact tq_is0 q
  have hb : (b.toNat : Int) = 45 ↔ q < 0 := by rw [← h1]; exact byte_is (c := 45)
  rw [e]
  refine WF (And.intro h0 hb) ?_
  refine iteI (fun h => shs (by rw [← e, h]; rfl)) (fun h => iteI (fun h3 => shs (h2 h3)) (fun h3 => ⟨?_, shs ?_⟩))
  · rw [e] at hl; simp at hl ⊢; omega
  · rw [← e]
    have h4 : -q < 0 := by grind
    obtain ⟨b', l', e', h1', h2'⟩ := tq_head (-q)
    rw [e', h1'.2 h4, h2' h4, Rat.neg_neg]
theorem s97 : True := trivial
end Go.Proofs.YtkjnjdcbnelceaaGreatDoor.KA
end

section
/- The small code of functions, as own tools print it; that it is the program's is checked by the kernel. -/
open Go Go.Proofs
set_option linter.unusedVariables false
namespace Go.Proofs.YtkjnjdcbnelceaaGreatDoor.KA
def c111 : C := (C.ops [⟨I.mv 4 (O.k (AV.int IntKind.i64 0)), none, some 4⟩, ⟨I.mv 5 (O.k (AV.bool false)), none, some 5⟩]).seq (((C.ops [⟨I.mv 8 (O.t 0), none, some 8⟩, ⟨I.lens 9 (O.t 8), none, some 9⟩, ⟨I.mv 10 (O.t 1), none, some 10⟩, ⟨I.bin 11 BinOp.gtr (O.t 9) (O.t 10), none, some 11⟩]).seq (C.cond (O.t 11) ((C.ops [⟨I.mv 4 (O.k (AV.int IntKind.i64 0)), none, some 4⟩, ⟨I.mv 5 (O.k (AV.bool false)), none, some 5⟩]).seq C.ret) C.skip)).seq ((C.ops [⟨I.mv 13 (O.t 0), none, some 13⟩, ⟨I.call (some 14) (O.k (AV.fn 150 [])) [O.t 13] false, none, some 14⟩, ⟨I.mv 12 (O.t 14), none, some 12⟩, ⟨I.ext 15 (O.t 12) 0, none, some 15⟩, ⟨I.ext 16 (O.t 12) 1, none, some 16⟩, ⟨I.mv 6 (O.t 15), none, some 6⟩, ⟨I.mv 7 (O.t 16), none, some 7⟩]).seq ((C.ops [⟨I.mv 17 (O.t 6), none, some 17⟩, ⟨I.mv 18 (O.t 7), none, some 18⟩, ⟨I.eqn 19 false 2 (O.t 18), none, some 19⟩, ⟨I.mv 4 (O.t 17), none, some 4⟩, ⟨I.mv 5 (O.t 19), none, some 5⟩]).seq C.ret)))
theorem k111 (m : Int) : compF (cx m).P (cx m).gt (fun _ => false) 111 = some (c111, [RV.tmp 4, RV.tmp 5], 20) := by kernel_rfl
def c101 : C := (C.ops [⟨I.mv 4 (O.k (AV.str [])), none, some 4⟩]).seq (((C.ops [⟨I.mv 14 (O.t 0), none, some 14⟩, ⟨I.call (some 15) (O.k (AV.fn 111 [])) [O.t 14, O.k (AV.int IntKind.i64 18)] false, none, some 15⟩, ⟨I.mv 13 (O.t 15), none, some 13⟩, ⟨I.ext 16 (O.t 13) 0, none, some 16⟩, ⟨I.ext 17 (O.t 13) 1, none, some 17⟩, ⟨I.mv 5 (O.t 16), none, some 5⟩, ⟨I.mv 6 (O.t 17), none, some 6⟩]).seq ((C.ops [⟨I.mv 18 (O.t 6), none, some 18⟩]).seq (C.cond (O.t 18) ((C.ops [⟨I.mv 20 (O.t 1), none, some 20⟩, ⟨I.call (some 21) (O.k (AV.fn 111 [])) [O.t 20, O.k (AV.int IntKind.i64 18)] false, none, some 21⟩, ⟨I.mv 19 (O.t 21), none, some 19⟩, ⟨I.ext 22 (O.t 19) 0, none, some 22⟩, ⟨I.ext 23 (O.t 19) 1, none, some 23⟩, ⟨I.mv 7 (O.t 22), none, some 7⟩, ⟨I.mv 8 (O.t 23), none, some 8⟩]).seq ((C.ops [⟨I.mv 24 (O.t 8), none, some 24⟩]).seq (C.cond (O.t 24) ((C.block 0 (((C.ops [⟨I.mv 25 (O.t 7), none, some 25⟩, ⟨I.bin 26 BinOp.neq (O.t 25) (O.k (AV.int IntKind.i64 0)), none, some 26⟩]).seq (C.cond (O.t 26) C.skip (C.exit 0))).seq (C.block 1 (C.ops [⟨I.mv 27 (O.t 7), none, some 27⟩, ⟨I.mv 28 (O.t 5), none, some 28⟩, ⟨I.mv 29 (O.t 7), none, some 29⟩, ⟨I.bin 30 BinOp.rem (O.t 28) (O.t 29), none, some 30⟩, ⟨I.mv 5 (O.t 27), none, some 5⟩, ⟨I.mv 7 (O.t 30), none, some 7⟩]))).loop).seq ((C.ops [⟨I.mv 31 (O.t 5), none, some 31⟩, ⟨I.mv 32 (O.t 5), none, some 32⟩, ⟨I.neg 33 (O.t 32), none, some 33⟩, ⟨I.max 34 (O.t 31) (O.t 33), none, some 34⟩, ⟨I.call (some 35) (O.k (AV.fn 94 [])) [O.t 34] false, none, some 35⟩, ⟨I.mv 4 (O.t 35), none, some 4⟩]).seq C.ret)) C.skip))) C.skip))).seq ((C.ops [⟨I.mv 36 (O.t 0), none, some 36⟩, ⟨I.call (some 37) (O.k (AV.fn 112 [])) [O.t 36] false, none, some 37⟩, ⟨I.fldv 38 false 1 1 (O.t 37), none, some 38⟩, ⟨I.mv 39 (O.t 1), none, some 39⟩, ⟨I.call (some 40) (O.k (AV.fn 112 [])) [O.t 39] false, none, some 40⟩, ⟨I.fldv 41 false 1 1 (O.t 40), none, some 41⟩, ⟨I.mv 9 (O.t 38), none, some 9⟩, ⟨I.mv 10 (O.t 41), none, some 10⟩]).seq ((C.block 2 (((C.ops [⟨I.mv 42 (O.t 10), none, some 42⟩, ⟨I.len 43 (O.t 42), none, some 43⟩, ⟨I.bin 44 BinOp.gtr (O.t 43) (O.k (AV.int IntKind.i64 0)), none, some 44⟩]).seq (C.cond (O.t 44) C.skip (C.exit 2))).seq (C.block 3 ((C.ops [⟨I.mv 46 (O.t 9), none, some 46⟩, ⟨I.mv 47 (O.t 10), none, some 47⟩, ⟨I.call (some 48) (O.k (AV.fn 139 [])) [O.t 46, O.t 47] false, none, some 48⟩, ⟨I.mv 45 (O.t 48), none, some 45⟩, ⟨I.ext 49 (O.t 45) 0, none, some 49⟩, ⟨I.ext 50 (O.t 45) 1, none, some 50⟩, ⟨I.mv 11 (O.t 49), none, some 11⟩, ⟨I.mv 12 (O.t 50), none, some 12⟩]).seq (C.ops [⟨I.mv 51 (O.t 10), none, some 51⟩, ⟨I.mv 52 (O.t 12), none, some 52⟩, ⟨I.mv 9 (O.t 51), none, some 9⟩, ⟨I.mv 10 (O.t 52), none, some 10⟩])))).loop).seq ((C.ops [⟨I.mv 53 (O.t 9), none, some 53⟩, ⟨I.build 54 [AV.bool false, AV.nils] [(0, 1, O.k (AV.bool false)), (1, 1, O.t 53)], none, some 54⟩, ⟨I.call (some 55) (O.k (AV.fn 114 [])) [O.t 54] false, none, some 55⟩, ⟨I.mv 4 (O.t 55), none, some 4⟩]).seq C.ret))))
theorem k101 (m : Int) : compF (cx m).P (cx m).gt (fun _ => false) 101 = some (c101, [RV.tmp 4], 56) := by kernel_rfl
def c63 : C := (C.ops [⟨I.mv 4 (O.k (AV.str [])), none, some 4⟩]).seq ((C.ops [⟨I.mv 7 (O.t 0), none, some 7⟩, ⟨I.mv 8 (O.t 1), none, some 8⟩, ⟨I.mv 5 (O.t 7), none, some 5⟩, ⟨I.mv 6 (O.t 8), none, some 6⟩]).seq ((C.block 0 (((C.ops [⟨I.mv 9 (O.t 6), none, some 9⟩, ⟨I.bin 10 BinOp.neq (O.t 9) (O.k (AV.int IntKind.i64 0)), none, some 10⟩]).seq (C.cond (O.t 10) C.skip (C.exit 0))).seq (C.block 1 (C.ops [⟨I.mv 11 (O.t 6), none, some 11⟩, ⟨I.mv 12 (O.t 5), none, some 12⟩, ⟨I.mv 13 (O.t 6), none, some 13⟩, ⟨I.bin 14 BinOp.rem (O.t 12) (O.t 13), none, some 14⟩, ⟨I.mv 5 (O.t 11), none, some 5⟩, ⟨I.mv 6 (O.t 14), none, some 6⟩]))).loop).seq (((C.ops [⟨I.mv 15 (O.t 5), none, some 15⟩, ⟨I.bin 16 BinOp.lss (O.t 15) (O.k (AV.int IntKind.i64 0)), none, some 16⟩]).seq (C.cond (O.t 16) (C.ops [⟨I.mv 17 (O.t 5), none, some 17⟩, ⟨I.neg 18 (O.t 17), none, some 18⟩, ⟨I.mv 5 (O.t 18), none, some 5⟩]) C.skip)).seq ((C.ops [⟨I.mv 19 (O.t 0), none, some 19⟩, ⟨I.mv 20 (O.t 5), none, some 20⟩, ⟨I.bin 21 BinOp.quo (O.t 19) (O.t 20), none, some 21⟩, ⟨I.mv 22 (O.t 1), none, some 22⟩, ⟨I.mv 23 (O.t 5), none, some 23⟩, ⟨I.bin 24 BinOp.quo (O.t 22) (O.t 23), none, some 24⟩, ⟨I.mv 0 (O.t 21), none, some 0⟩, ⟨I.mv 1 (O.t 24), none, some 1⟩]).seq (((C.ops [⟨I.mv 25 (O.t 1), none, some 25⟩, ⟨I.bin 26 BinOp.eql (O.t 25) (O.k (AV.int IntKind.i64 1)), none, some 26⟩]).seq (C.cond (O.t 26) ((C.ops [⟨I.mv 27 (O.t 0), none, some 27⟩, ⟨I.call (some 28) (O.k (AV.fn 116 [])) [O.t 27] false, none, some 28⟩, ⟨I.mv 4 (O.t 28), none, some 4⟩]).seq C.ret) C.skip)).seq ((C.ops [⟨I.mv 29 (O.t 0), none, some 29⟩, ⟨I.call (some 30) (O.k (AV.fn 116 [])) [O.t 29] false, none, some 30⟩, ⟨I.bin 31 BinOp.add (O.t 30) (O.k (AV.str [47])), none, some 31⟩, ⟨I.mv 32 (O.t 1), none, some 32⟩, ⟨I.call (some 33) (O.k (AV.fn 116 [])) [O.t 32] false, none, some 33⟩, ⟨I.bin 34 BinOp.add (O.t 31) (O.t 33), none, some 34⟩, ⟨I.mv 4 (O.t 34), none, some 4⟩]).seq C.ret))))))
theorem k63 (m : Int) : compF (cx m).P (cx m).gt (fun _ => false) 63 = some (c63, [RV.tmp 4], 35) := by kernel_rfl
def c57 : C := (C.ops [⟨I.mv 2 (O.k (AV.int IntKind.i64 0)), none, some 2⟩, ⟨I.mv 3 (O.k (AV.int IntKind.i64 0)), none, some 3⟩, ⟨I.mv 4 (O.k (AV.bool false)), none, some 4⟩]).seq ((C.ops [⟨I.mv 5 (O.k (AV.int IntKind.i64 0)), none, some 5⟩, ⟨I.mv 6 (O.k (AV.bool false)), none, some 6⟩]).seq (((C.ops [⟨I.mv 8 (O.t 0), none, some 8⟩, ⟨I.lens 9 (O.t 8), none, some 9⟩, ⟨I.bin 10 BinOp.gtr (O.t 9) (O.k (AV.int IntKind.i64 0)), none, some 10⟩, ⟨I.mv 11 (O.t 10), none, some 11⟩, ⟨I.mv 12 (O.t 0), some (11, true), some 12⟩, ⟨I.idx 13 (O.t 12) (O.k (AV.int IntKind.i64 0)), some (11, true), some 13⟩, ⟨I.bin 14 BinOp.eql (O.t 13) (O.k (AV.int IntKind.u8 45)), some (11, true), some 14⟩, ⟨I.pick 15 (O.t 11) (O.t 14) (O.k (AV.bool false)), none, some 15⟩]).seq (C.cond (O.t 15) (C.ops [⟨I.mv 5 (O.k (AV.int IntKind.i64 1)), none, some 5⟩, ⟨I.mv 6 (O.k (AV.bool true)), none, some 6⟩]) C.skip)).seq ((C.ops [⟨I.mv 16 (O.t 5), none, some 16⟩, ⟨I.mv 7 (O.t 16), none, some 7⟩]).seq ((C.block 0 (((C.ops [⟨I.mv 17 (O.t 5), none, some 17⟩, ⟨I.mv 18 (O.t 0), none, some 18⟩, ⟨I.lens 19 (O.t 18), none, some 19⟩, ⟨I.bin 20 BinOp.lss (O.t 17) (O.t 19), none, some 20⟩, ⟨I.mv 21 (O.t 20), none, some 21⟩, ⟨I.mv 22 (O.t 0), some (21, true), some 22⟩, ⟨I.mv 23 (O.t 5), some (21, true), some 23⟩, ⟨I.idx 24 (O.t 22) (O.t 23), some (21, true), some 24⟩, ⟨I.bin 25 BinOp.neq (O.t 24) (O.k (AV.int IntKind.u8 47)), some (21, true), some 25⟩, ⟨I.pick 26 (O.t 21) (O.t 25) (O.k (AV.bool false)), none, some 26⟩]).seq (C.cond (O.t 26) C.skip (C.exit 0))).seq ((C.block 1 (((C.ops [⟨I.mv 29 (O.t 5), none, some 29⟩, ⟨I.mv 30 (O.t 7), none, some 30⟩, ⟨I.bin 31 BinOp.sub (O.t 29) (O.t 30), none, some 31⟩, ⟨I.bin 32 BinOp.eql (O.t 31) (O.k (AV.int IntKind.i64 9)), none, some 32⟩]).seq (C.cond (O.t 32) ((C.ops [⟨I.mv 2 (O.k (AV.int IntKind.i64 0)), none, some 2⟩, ⟨I.mv 3 (O.k (AV.int IntKind.i64 0)), none, some 3⟩, ⟨I.mv 4 (O.k (AV.bool false)), none, some 4⟩]).seq C.ret) C.skip)).seq (C.ops [⟨I.mv 33 (O.t 2), none, some 33⟩, ⟨I.bin 34 BinOp.mul (O.k (AV.int IntKind.i64 10)) (O.t 33), none, some 34⟩, ⟨I.mv 35 (O.t 0), none, some 35⟩, ⟨I.mv 36 (O.t 5), none, some 36⟩, ⟨I.idx 37 (O.t 35) (O.t 36), none, some 37⟩, ⟨I.bin 38 BinOp.sub (O.t 37) (O.k (AV.int IntKind.u8 48)), none, some 38⟩, ⟨I.conv 39 IntKind.i64 (O.t 38), none, some 39⟩, ⟨I.bin 40 BinOp.add (O.t 34) (O.t 39), none, some 40⟩, ⟨I.mv 2 (O.t 40), none, some 2⟩]))).seq (C.ops [⟨I.mv 27 (O.t 5), none, some 27⟩, ⟨I.bin 28 BinOp.add (O.t 27) (O.k (AV.int IntKind.i64 1)), none, some 28⟩, ⟨I.mv 5 (O.t 28), none, some 5⟩]))).loop).seq (((C.ops [⟨I.mv 41 (O.t 6), none, some 41⟩]).seq (C.cond (O.t 41) (C.ops [⟨I.mv 42 (O.t 2), none, some 42⟩, ⟨I.neg 43 (O.t 42), none, some 43⟩, ⟨I.mv 2 (O.t 43), none, some 2⟩]) C.skip)).seq (((C.ops [⟨I.mv 44 (O.t 5), none, some 44⟩, ⟨I.mv 45 (O.t 0), none, some 45⟩, ⟨I.lens 46 (O.t 45), none, some 46⟩, ⟨I.bin 47 BinOp.eql (O.t 44) (O.t 46), none, some 47⟩]).seq (C.cond (O.t 47) ((C.ops [⟨I.mv 48 (O.t 2), none, some 48⟩, ⟨I.mv 2 (O.t 48), none, some 2⟩, ⟨I.mv 3 (O.k (AV.int IntKind.i64 1)), none, some 3⟩, ⟨I.mv 4 (O.k (AV.bool true)), none, some 4⟩]).seq C.ret) C.skip)).seq ((C.ops [⟨I.mv 49 (O.t 5), none, some 49⟩, ⟨I.bin 50 BinOp.add (O.t 49) (O.k (AV.int IntKind.i64 1)), none, some 50⟩, ⟨I.mv 7 (O.t 50), none, some 7⟩]).seq (((C.ops [⟨I.mv 51 (O.t 5), none, some 51⟩, ⟨I.bin 52 BinOp.add (O.t 51) (O.k (AV.int IntKind.i64 1)), none, some 52⟩, ⟨I.mv 5 (O.t 52), none, some 5⟩]).seq (C.block 2 (((C.ops [⟨I.mv 53 (O.t 5), none, some 53⟩, ⟨I.mv 54 (O.t 0), none, some 54⟩, ⟨I.lens 55 (O.t 54), none, some 55⟩, ⟨I.bin 56 BinOp.lss (O.t 53) (O.t 55), none, some 56⟩]).seq (C.cond (O.t 56) C.skip (C.exit 2))).seq ((C.block 3 (((C.ops [⟨I.mv 59 (O.t 5), none, some 59⟩, ⟨I.mv 60 (O.t 7), none, some 60⟩, ⟨I.bin 61 BinOp.sub (O.t 59) (O.t 60), none, some 61⟩, ⟨I.bin 62 BinOp.eql (O.t 61) (O.k (AV.int IntKind.i64 9)), none, some 62⟩]).seq (C.cond (O.t 62) ((C.ops [⟨I.mv 2 (O.k (AV.int IntKind.i64 0)), none, some 2⟩, ⟨I.mv 3 (O.k (AV.int IntKind.i64 0)), none, some 3⟩, ⟨I.mv 4 (O.k (AV.bool false)), none, some 4⟩]).seq C.ret) C.skip)).seq (C.ops [⟨I.mv 63 (O.t 3), none, some 63⟩, ⟨I.bin 64 BinOp.mul (O.k (AV.int IntKind.i64 10)) (O.t 63), none, some 64⟩, ⟨I.mv 65 (O.t 0), none, some 65⟩, ⟨I.mv 66 (O.t 5), none, some 66⟩, ⟨I.idx 67 (O.t 65) (O.t 66), none, some 67⟩, ⟨I.bin 68 BinOp.sub (O.t 67) (O.k (AV.int IntKind.u8 48)), none, some 68⟩, ⟨I.conv 69 IntKind.i64 (O.t 68), none, some 69⟩, ⟨I.bin 70 BinOp.add (O.t 64) (O.t 69), none, some 70⟩, ⟨I.mv 3 (O.t 70), none, some 3⟩]))).seq (C.ops [⟨I.mv 57 (O.t 5), none, some 57⟩, ⟨I.bin 58 BinOp.add (O.t 57) (O.k (AV.int IntKind.i64 1)), none, some 58⟩, ⟨I.mv 5 (O.t 58), none, some 5⟩]))).loop)).seq ((C.ops [⟨I.mv 71 (O.t 2), none, some 71⟩, ⟨I.mv 72 (O.t 3), none, some 72⟩, ⟨I.mv 2 (O.t 71), none, some 2⟩, ⟨I.mv 3 (O.t 72), none, some 3⟩, ⟨I.mv 4 (O.k (AV.bool true)), none, some 4⟩]).seq C.ret)))))))))
theorem k57 (m : Int) : compF (cx m).P (cx m).gt (fun _ => false) 57 = some (c57, [RV.tmp 2, RV.tmp 3, RV.tmp 4], 73) := by kernel_rfl
def c58 : C := (C.ops [⟨I.mv 2 (O.k (AV.str [])), none, some 2⟩, ⟨I.mv 3 (O.k (AV.str [])), none, some 3⟩]).seq ((C.ops [⟨I.mv 8 (O.t 0), none, some 8⟩, ⟨I.call (some 9) (O.k (AV.fn 99 [])) [O.t 8, O.k (AV.str [47])] false, none, some 9⟩, ⟨I.mv 7 (O.t 9), none, some 7⟩, ⟨I.ext 10 (O.t 7) 0, none, some 10⟩, ⟨I.ext 11 (O.t 7) 1, none, some 11⟩, ⟨I.ext 12 (O.t 7) 2, none, some 12⟩, ⟨I.mv 4 (O.t 10), none, some 4⟩, ⟨I.mv 5 (O.t 11), none, some 5⟩, ⟨I.mv 6 (O.t 12), none, some 6⟩]).seq (((C.ops [⟨I.mv 13 (O.t 6), none, some 13⟩, ⟨I.not 14 (O.t 13), none, some 14⟩]).seq (C.cond (O.t 14) ((C.ops [⟨I.mv 15 (O.t 4), none, some 15⟩, ⟨I.mv 2 (O.t 15), none, some 2⟩, ⟨I.mv 3 (O.k (AV.str [49])), none, some 3⟩]).seq C.ret) C.skip)).seq ((C.ops [⟨I.mv 16 (O.t 4), none, some 16⟩, ⟨I.mv 17 (O.t 5), none, some 17⟩, ⟨I.mv 2 (O.t 16), none, some 2⟩, ⟨I.mv 3 (O.t 17), none, some 3⟩]).seq C.ret)))
theorem k58 (m : Int) : compF (cx m).P (cx m).gt (fun _ => false) 58 = some (c58, [RV.tmp 2, RV.tmp 3], 18) := by kernel_rfl
def c29 : C := (C.ops [⟨I.mv 4 (O.k (AV.str [])), none, some 4⟩]).seq (((C.ops [⟨I.mv 15 (O.t 0), none, some 15⟩, ⟨I.bin 16 BinOp.eql (O.t 15) (O.k (AV.str [48])), none, some 16⟩]).seq (C.cond (O.t 16) ((C.ops [⟨I.mv 17 (O.t 1), none, some 17⟩, ⟨I.mv 4 (O.t 17), none, some 4⟩]).seq C.ret) C.skip)).seq (((C.ops [⟨I.mv 18 (O.t 1), none, some 18⟩, ⟨I.bin 19 BinOp.eql (O.t 18) (O.k (AV.str [48])), none, some 19⟩]).seq (C.cond (O.t 19) ((C.ops [⟨I.mv 20 (O.t 0), none, some 20⟩, ⟨I.mv 4 (O.t 20), none, some 4⟩]).seq C.ret) C.skip)).seq (((C.ops [⟨I.mv 22 (O.t 0), none, some 22⟩, ⟨I.call (some 23) (O.k (AV.fn 57 [])) [O.t 22] false, none, some 23⟩, ⟨I.mv 21 (O.t 23), none, some 21⟩, ⟨I.ext 24 (O.t 21) 0, none, some 24⟩, ⟨I.ext 25 (O.t 21) 1, none, some 25⟩, ⟨I.ext 26 (O.t 21) 2, none, some 26⟩, ⟨I.mv 5 (O.t 24), none, some 5⟩, ⟨I.mv 6 (O.t 25), none, some 6⟩, ⟨I.mv 7 (O.t 26), none, some 7⟩]).seq ((C.ops [⟨I.mv 27 (O.t 7), none, some 27⟩]).seq (C.cond (O.t 27) ((C.ops [⟨I.mv 29 (O.t 1), none, some 29⟩, ⟨I.call (some 30) (O.k (AV.fn 57 [])) [O.t 29] false, none, some 30⟩, ⟨I.mv 28 (O.t 30), none, some 28⟩, ⟨I.ext 31 (O.t 28) 0, none, some 31⟩, ⟨I.ext 32 (O.t 28) 1, none, some 32⟩, ⟨I.ext 33 (O.t 28) 2, none, some 33⟩, ⟨I.mv 8 (O.t 31), none, some 8⟩, ⟨I.mv 9 (O.t 32), none, some 9⟩, ⟨I.mv 10 (O.t 33), none, some 10⟩]).seq ((C.ops [⟨I.mv 34 (O.t 10), none, some 34⟩]).seq (C.cond (O.t 34) ((C.ops [⟨I.mv 35 (O.t 5), none, some 35⟩, ⟨I.mv 36 (O.t 9), none, some 36⟩, ⟨I.bin 37 BinOp.mul (O.t 35) (O.t 36), none, some 37⟩, ⟨I.mv 38 (O.t 8), none, some 38⟩, ⟨I.mv 39 (O.t 6), none, some 39⟩, ⟨I.bin 40 BinOp.mul (O.t 38) (O.t 39), none, some 40⟩, ⟨I.bin 41 BinOp.add (O.t 37) (O.t 40), none, some 41⟩, ⟨I.mv 42 (O.t 6), none, some 42⟩, ⟨I.mv 43 (O.t 9), none, some 43⟩, ⟨I.bin 44 BinOp.mul (O.t 42) (O.t 43), none, some 44⟩, ⟨I.call (some 45) (O.k (AV.fn 63 [])) [O.t 41, O.t 44] false, none, some 45⟩, ⟨I.mv 4 (O.t 45), none, some 4⟩]).seq C.ret) C.skip))) C.skip))).seq ((C.ops [⟨I.mv 47 (O.t 0), none, some 47⟩, ⟨I.call (some 48) (O.k (AV.fn 58 [])) [O.t 47] false, none, some 48⟩, ⟨I.mv 46 (O.t 48), none, some 46⟩, ⟨I.ext 49 (O.t 46) 0, none, some 49⟩, ⟨I.ext 50 (O.t 46) 1, none, some 50⟩, ⟨I.mv 11 (O.t 49), none, some 11⟩, ⟨I.mv 12 (O.t 50), none, some 12⟩]).seq ((C.ops [⟨I.mv 52 (O.t 1), none, some 52⟩, ⟨I.call (some 53) (O.k (AV.fn 58 [])) [O.t 52] false, none, some 53⟩, ⟨I.mv 51 (O.t 53), none, some 51⟩, ⟨I.ext 54 (O.t 51) 0, none, some 54⟩, ⟨I.ext 55 (O.t 51) 1, none, some 55⟩, ⟨I.mv 13 (O.t 54), none, some 13⟩, ⟨I.mv 14 (O.t 55), none, some 14⟩]).seq ((C.ops [⟨I.mv 56 (O.t 11), none, some 56⟩, ⟨I.mv 57 (O.t 14), none, some 57⟩, ⟨I.call (some 58) (O.k (AV.fn 60 [])) [O.t 56, O.t 57] false, none, some 58⟩, ⟨I.mv 59 (O.t 13), none, some 59⟩, ⟨I.mv 60 (O.t 12), none, some 60⟩, ⟨I.call (some 61) (O.k (AV.fn 60 [])) [O.t 59, O.t 60] false, none, some 61⟩, ⟨I.call (some 62) (O.k (AV.fn 65 [])) [O.t 58, O.t 61] false, none, some 62⟩, ⟨I.mv 63 (O.t 12), none, some 63⟩, ⟨I.mv 64 (O.t 14), none, some 64⟩, ⟨I.call (some 65) (O.k (AV.fn 60 [])) [O.t 63, O.t 64] false, none, some 65⟩, ⟨I.call (some 66) (O.k (AV.fn 64 [])) [O.t 62, O.t 65] false, none, some 66⟩, ⟨I.mv 4 (O.t 66), none, some 4⟩]).seq C.ret))))))
theorem k29 (m : Int) : compF (cx m).P (cx m).gt (fun _ => false) 29 = some (c29, [RV.tmp 4], 67) := by kernel_rfl
def c56 : C := (C.ops [⟨I.mv 4 (O.k (AV.str [])), none, some 4⟩]).seq ((C.ops [⟨I.mv 5 (O.t 0), none, some 5⟩, ⟨I.mv 6 (O.t 1), none, some 6⟩, ⟨I.call (some 7) (O.k (AV.fn 107 [])) [O.t 6] false, none, some 7⟩, ⟨I.call (some 8) (O.k (AV.fn 29 [])) [O.t 5, O.t 7] false, none, some 8⟩, ⟨I.mv 4 (O.t 8), none, some 4⟩]).seq C.ret)
theorem k56 (m : Int) : compF (cx m).P (cx m).gt (fun _ => false) 56 = some (c56, [RV.tmp 4], 9) := by kernel_rfl
def c55 : C := (C.ops [⟨I.mv 4 (O.k (AV.str [])), none, some 4⟩]).seq ((C.block 0 (((C.ops [⟨I.mv 16 (O.t 0), none, some 16⟩, ⟨I.bin 17 BinOp.eql (O.t 16) (O.k (AV.str [48])), none, some 17⟩, ⟨I.mv 15 (O.t 17), none, some 15⟩]).seq (C.cond (O.t 15) C.skip (C.ops [⟨I.mv 18 (O.t 1), none, some 18⟩, ⟨I.bin 19 BinOp.eql (O.t 18) (O.k (AV.str [48])), none, some 19⟩, ⟨I.mv 15 (O.t 19), none, some 15⟩]))).seq (C.cond (O.t 15) ((C.ops [⟨I.mv 4 (O.k (AV.str [48])), none, some 4⟩]).seq C.ret) ((C.ops [⟨I.mv 21 (O.t 0), none, some 21⟩, ⟨I.bin 22 BinOp.eql (O.t 21) (O.k (AV.str [49])), none, some 22⟩, ⟨I.mv 20 (O.t 22), none, some 20⟩]).seq (C.cond (O.t 20) ((C.ops [⟨I.mv 23 (O.t 1), none, some 23⟩, ⟨I.mv 4 (O.t 23), none, some 4⟩]).seq C.ret) ((C.ops [⟨I.mv 25 (O.t 1), none, some 25⟩, ⟨I.bin 26 BinOp.eql (O.t 25) (O.k (AV.str [49])), none, some 26⟩, ⟨I.mv 24 (O.t 26), none, some 24⟩]).seq (C.cond (O.t 24) ((C.ops [⟨I.mv 27 (O.t 0), none, some 27⟩, ⟨I.mv 4 (O.t 27), none, some 4⟩]).seq C.ret) C.skip))))))).seq (((C.ops [⟨I.mv 29 (O.t 0), none, some 29⟩, ⟨I.call (some 30) (O.k (AV.fn 57 [])) [O.t 29] false, none, some 30⟩, ⟨I.mv 28 (O.t 30), none, some 28⟩, ⟨I.ext 31 (O.t 28) 0, none, some 31⟩, ⟨I.ext 32 (O.t 28) 1, none, some 32⟩, ⟨I.ext 33 (O.t 28) 2, none, some 33⟩, ⟨I.mv 5 (O.t 31), none, some 5⟩, ⟨I.mv 6 (O.t 32), none, some 6⟩, ⟨I.mv 7 (O.t 33), none, some 7⟩]).seq ((C.ops [⟨I.mv 34 (O.t 7), none, some 34⟩]).seq (C.cond (O.t 34) ((C.ops [⟨I.mv 36 (O.t 1), none, some 36⟩, ⟨I.call (some 37) (O.k (AV.fn 57 [])) [O.t 36] false, none, some 37⟩, ⟨I.mv 35 (O.t 37), none, some 35⟩, ⟨I.ext 38 (O.t 35) 0, none, some 38⟩, ⟨I.ext 39 (O.t 35) 1, none, some 39⟩, ⟨I.ext 40 (O.t 35) 2, none, some 40⟩, ⟨I.mv 8 (O.t 38), none, some 8⟩, ⟨I.mv 9 (O.t 39), none, some 9⟩, ⟨I.mv 10 (O.t 40), none, some 10⟩]).seq ((C.ops [⟨I.mv 41 (O.t 10), none, some 41⟩]).seq (C.cond (O.t 41) ((C.ops [⟨I.mv 42 (O.t 5), none, some 42⟩, ⟨I.mv 43 (O.t 8), none, some 43⟩, ⟨I.bin 44 BinOp.mul (O.t 42) (O.t 43), none, some 44⟩, ⟨I.mv 45 (O.t 6), none, some 45⟩, ⟨I.mv 46 (O.t 9), none, some 46⟩, ⟨I.bin 47 BinOp.mul (O.t 45) (O.t 46), none, some 47⟩, ⟨I.call (some 48) (O.k (AV.fn 63 [])) [O.t 44, O.t 47] false, none, some 48⟩, ⟨I.mv 4 (O.t 48), none, some 4⟩]).seq C.ret) C.skip))) C.skip))).seq ((C.ops [⟨I.mv 50 (O.t 0), none, some 50⟩, ⟨I.call (some 51) (O.k (AV.fn 58 [])) [O.t 50] false, none, some 51⟩, ⟨I.mv 49 (O.t 51), none, some 49⟩, ⟨I.ext 52 (O.t 49) 0, none, some 52⟩, ⟨I.ext 53 (O.t 49) 1, none, some 53⟩, ⟨I.mv 11 (O.t 52), none, some 11⟩, ⟨I.mv 12 (O.t 53), none, some 12⟩]).seq ((C.ops [⟨I.mv 55 (O.t 1), none, some 55⟩, ⟨I.call (some 56) (O.k (AV.fn 58 [])) [O.t 55] false, none, some 56⟩, ⟨I.mv 54 (O.t 56), none, some 54⟩, ⟨I.ext 57 (O.t 54) 0, none, some 57⟩, ⟨I.ext 58 (O.t 54) 1, none, some 58⟩, ⟨I.mv 13 (O.t 57), none, some 13⟩, ⟨I.mv 14 (O.t 58), none, some 14⟩]).seq ((C.ops [⟨I.mv 59 (O.t 11), none, some 59⟩, ⟨I.mv 60 (O.t 13), none, some 60⟩, ⟨I.call (some 61) (O.k (AV.fn 60 [])) [O.t 59, O.t 60] false, none, some 61⟩, ⟨I.mv 62 (O.t 12), none, some 62⟩, ⟨I.mv 63 (O.t 14), none, some 63⟩, ⟨I.call (some 64) (O.k (AV.fn 60 [])) [O.t 62, O.t 63] false, none, some 64⟩, ⟨I.call (some 65) (O.k (AV.fn 64 [])) [O.t 61, O.t 64] false, none, some 65⟩, ⟨I.mv 4 (O.t 65), none, some 4⟩]).seq C.ret)))))
theorem k55 (m : Int) : compF (cx m).P (cx m).gt (fun _ => false) 55 = some (c55, [RV.tmp 4], 66) := by kernel_rfl
def c95 : C := (C.ops [⟨I.mv 4 (O.k (AV.str [])), none, some 4⟩, ⟨I.mv 5 (O.k (AV.int IntKind.i64 0)), none, some 5⟩]).seq (((C.ops [⟨I.mv 8 (O.t 1), none, some 8⟩, ⟨I.bin 9 BinOp.eql (O.t 8) (O.k (AV.str [48])), none, some 9⟩]).seq (C.cond (O.t 9) ((C.ops [⟨I.mv 4 (O.k (AV.str [])), none, some 4⟩, ⟨I.mv 5 (O.k (AV.int IntKind.i64 17)), none, some 5⟩]).seq C.ret) C.skip)).seq ((C.ops [⟨I.mv 11 (O.t 1), none, some 11⟩, ⟨I.call (some 12) (O.k (AV.fn 58 [])) [O.t 11] false, none, some 12⟩, ⟨I.mv 10 (O.t 12), none, some 10⟩, ⟨I.ext 13 (O.t 10) 0, none, some 13⟩, ⟨I.ext 14 (O.t 10) 1, none, some 14⟩, ⟨I.mv 6 (O.t 13), none, some 6⟩, ⟨I.mv 7 (O.t 14), none, some 7⟩]).seq (((C.ops [⟨I.mv 15 (O.t 1), none, some 15⟩, ⟨I.idx 16 (O.t 15) (O.k (AV.int IntKind.i64 0)), none, some 16⟩, ⟨I.bin 17 BinOp.eql (O.t 16) (O.k (AV.int IntKind.u8 45)), none, some 17⟩]).seq (C.cond (O.t 17) (C.ops [⟨I.mv 18 (O.t 6), none, some 18⟩, ⟨I.call (some 19) (O.k (AV.fn 117 [])) [O.t 18] false, none, some 19⟩, ⟨I.mv 20 (O.t 7), none, some 20⟩, ⟨I.call (some 21) (O.k (AV.fn 117 [])) [O.t 20] false, none, some 21⟩, ⟨I.mv 6 (O.t 19), none, some 6⟩, ⟨I.mv 7 (O.t 21), none, some 7⟩]) C.skip)).seq ((C.ops [⟨I.mv 22 (O.t 0), none, some 22⟩, ⟨I.mv 23 (O.t 7), none, some 23⟩, ⟨I.mv 24 (O.t 6), none, some 24⟩, ⟨I.call (some 25) (O.k (AV.fn 119 [])) [O.t 23, O.t 24] false, none, some 25⟩, ⟨I.call (some 26) (O.k (AV.fn 55 [])) [O.t 22, O.t 25] false, none, some 26⟩, ⟨I.mv 4 (O.t 26), none, some 4⟩, ⟨I.mv 5 (O.k (AV.int IntKind.i64 0)), none, some 5⟩]).seq C.ret))))
theorem k95 (m : Int) : compF (cx m).P (cx m).gt (fun _ => false) 95 = some (c95, [RV.tmp 4, RV.tmp 5], 27) := by kernel_rfl
def c21 : C := (C.ops [⟨I.mv 4 (O.k (AV.int IntKind.i64 0)), none, some 4⟩]).seq (((C.ops [⟨I.mv 17 (O.t 0), none, some 17⟩, ⟨I.mv 18 (O.t 1), none, some 18⟩, ⟨I.bin 19 BinOp.eql (O.t 17) (O.t 18), none, some 19⟩]).seq (C.cond (O.t 19) ((C.ops [⟨I.mv 4 (O.k (AV.int IntKind.i64 0)), none, some 4⟩]).seq C.ret) C.skip)).seq (((C.ops [⟨I.mv 21 (O.t 0), none, some 21⟩, ⟨I.call (some 22) (O.k (AV.fn 57 [])) [O.t 21] false, none, some 22⟩, ⟨I.mv 20 (O.t 22), none, some 20⟩, ⟨I.ext 23 (O.t 20) 0, none, some 23⟩, ⟨I.ext 24 (O.t 20) 1, none, some 24⟩, ⟨I.ext 25 (O.t 20) 2, none, some 25⟩, ⟨I.mv 5 (O.t 23), none, some 5⟩, ⟨I.mv 6 (O.t 24), none, some 6⟩, ⟨I.mv 7 (O.t 25), none, some 7⟩]).seq ((C.ops [⟨I.mv 26 (O.t 7), none, some 26⟩]).seq (C.cond (O.t 26) ((C.ops [⟨I.mv 28 (O.t 1), none, some 28⟩, ⟨I.call (some 29) (O.k (AV.fn 57 [])) [O.t 28] false, none, some 29⟩, ⟨I.mv 27 (O.t 29), none, some 27⟩, ⟨I.ext 30 (O.t 27) 0, none, some 30⟩, ⟨I.ext 31 (O.t 27) 1, none, some 31⟩, ⟨I.ext 32 (O.t 27) 2, none, some 32⟩, ⟨I.mv 8 (O.t 30), none, some 8⟩, ⟨I.mv 9 (O.t 31), none, some 9⟩, ⟨I.mv 10 (O.t 32), none, some 10⟩]).seq ((C.ops [⟨I.mv 33 (O.t 10), none, some 33⟩]).seq (C.cond (O.t 33) (((C.ops [⟨I.mv 34 (O.t 5), none, some 34⟩, ⟨I.mv 35 (O.t 9), none, some 35⟩, ⟨I.bin 36 BinOp.mul (O.t 34) (O.t 35), none, some 36⟩, ⟨I.mv 37 (O.t 8), none, some 37⟩, ⟨I.mv 38 (O.t 6), none, some 38⟩, ⟨I.bin 39 BinOp.mul (O.t 37) (O.t 38), none, some 39⟩, ⟨I.mv 11 (O.t 36), none, some 11⟩, ⟨I.mv 12 (O.t 39), none, some 12⟩]).seq (C.block 0 ((C.ops [⟨I.mv 41 (O.t 11), none, some 41⟩, ⟨I.mv 42 (O.t 12), none, some 42⟩, ⟨I.bin 43 BinOp.lss (O.t 41) (O.t 42), none, some 43⟩, ⟨I.mv 40 (O.t 43), none, some 40⟩]).seq (C.cond (O.t 40) ((C.ops [⟨I.mv 4 (O.k (AV.int IntKind.i64 (-1))), none, some 4⟩]).seq C.ret) ((C.ops [⟨I.mv 45 (O.t 11), none, some 45⟩, ⟨I.mv 46 (O.t 12), none, some 46⟩, ⟨I.bin 47 BinOp.gtr (O.t 45) (O.t 46), none, some 47⟩, ⟨I.mv 44 (O.t 47), none, some 44⟩]).seq (C.cond (O.t 44) ((C.ops [⟨I.mv 4 (O.k (AV.int IntKind.i64 1)), none, some 4⟩]).seq C.ret) C.skip)))))).seq ((C.ops [⟨I.mv 4 (O.k (AV.int IntKind.i64 0)), none, some 4⟩]).seq C.ret)) C.skip))) C.skip))).seq ((C.ops [⟨I.mv 49 (O.t 0), none, some 49⟩, ⟨I.call (some 50) (O.k (AV.fn 58 [])) [O.t 49] false, none, some 50⟩, ⟨I.mv 48 (O.t 50), none, some 48⟩, ⟨I.ext 51 (O.t 48) 0, none, some 51⟩, ⟨I.ext 52 (O.t 48) 1, none, some 52⟩, ⟨I.mv 13 (O.t 51), none, some 13⟩, ⟨I.mv 14 (O.t 52), none, some 14⟩]).seq ((C.ops [⟨I.mv 54 (O.t 1), none, some 54⟩, ⟨I.call (some 55) (O.k (AV.fn 58 [])) [O.t 54] false, none, some 55⟩, ⟨I.mv 53 (O.t 55), none, some 53⟩, ⟨I.ext 56 (O.t 53) 0, none, some 56⟩, ⟨I.ext 57 (O.t 53) 1, none, some 57⟩, ⟨I.mv 15 (O.t 56), none, some 15⟩, ⟨I.mv 16 (O.t 57), none, some 16⟩]).seq ((C.ops [⟨I.mv 58 (O.t 13), none, some 58⟩, ⟨I.mv 59 (O.t 16), none, some 59⟩, ⟨I.call (some 60) (O.k (AV.fn 60 [])) [O.t 58, O.t 59] false, none, some 60⟩, ⟨I.mv 61 (O.t 15), none, some 61⟩, ⟨I.mv 62 (O.t 14), none, some 62⟩, ⟨I.call (some 63) (O.k (AV.fn 60 [])) [O.t 61, O.t 62] false, none, some 63⟩, ⟨I.call (some 64) (O.k (AV.fn 59 [])) [O.t 60, O.t 63] false, none, some 64⟩, ⟨I.mv 4 (O.t 64), none, some 4⟩]).seq C.ret)))))
theorem k21 (m : Int) : compF (cx m).P (cx m).gt (fun _ => false) 21 = some (c21, [RV.tmp 4], 65) := by kernel_rfl
def c44 : C := (C.ops [⟨I.mv 4 (O.k (AV.str [])), none, some 4⟩, ⟨I.mv 5 (O.k (AV.int IntKind.i64 0)), none, some 5⟩]).seq ((C.ops [⟨I.mv 6 (O.t 0), none, some 6⟩, ⟨I.call (some 7) (O.k (AV.fn 94 [])) [O.t 6] false, none, some 7⟩, ⟨I.mv 8 (O.t 1), none, some 8⟩, ⟨I.call (some 9) (O.k (AV.fn 94 [])) [O.t 8] false, none, some 9⟩, ⟨I.call (some 10) (O.k (AV.fn 93 [])) [O.t 7, O.t 9] false, none, some 10⟩, ⟨I.ext 11 (O.t 10) 0, none, some 11⟩, ⟨I.ext 12 (O.t 10) 1, none, some 12⟩, ⟨I.mv 4 (O.t 11), none, some 4⟩, ⟨I.mv 5 (O.t 12), none, some 5⟩]).seq C.ret)
theorem k44 (m : Int) : compF (cx m).P (cx m).gt (fun _ => false) 44 = some (c44, [RV.tmp 4, RV.tmp 5], 13) := by kernel_rfl
def c64 : C := (C.ops [⟨I.mv 4 (O.k (AV.str [])), none, some 4⟩]).seq (((C.ops [⟨I.mv 6 (O.t 1), none, some 6⟩, ⟨I.call (some 7) (O.k (AV.fn 108 [])) [O.t 6] false, none, some 7⟩, ⟨I.bin 8 BinOp.lss (O.t 7) (O.k (AV.int IntKind.i64 0)), none, some 8⟩]).seq (C.cond (O.t 8) (C.ops [⟨I.mv 9 (O.t 0), none, some 9⟩, ⟨I.call (some 10) (O.k (AV.fn 117 [])) [O.t 9] false, none, some 10⟩, ⟨I.mv 11 (O.t 1), none, some 11⟩, ⟨I.call (some 12) (O.k (AV.fn 117 [])) [O.t 11] false, none, some 12⟩, ⟨I.mv 0 (O.t 10), none, some 0⟩, ⟨I.mv 1 (O.t 12), none, some 1⟩]) C.skip)).seq (((C.ops [⟨I.mv 13 (O.t 0), none, some 13⟩, ⟨I.mv 14 (O.t 1), none, some 14⟩, ⟨I.call (some 15) (O.k (AV.fn 101 [])) [O.t 13, O.t 14] false, none, some 15⟩, ⟨I.mv 5 (O.t 15), none, some 5⟩]).seq ((C.ops [⟨I.mv 16 (O.t 5), none, some 16⟩, ⟨I.bin 17 BinOp.neq (O.t 16) (O.k (AV.str [49])), none, some 17⟩]).seq (C.cond (O.t 17) ((C.ops [⟨I.mv 19 (O.t 0), none, some 19⟩, ⟨I.mv 20 (O.t 5), none, some 20⟩, ⟨I.call (some 21) (O.k (AV.fn 118 [])) [O.t 19, O.t 20] false, none, some 21⟩, ⟨I.mv 18 (O.t 21), none, some 18⟩, ⟨I.ext 22 (O.t 18) 0, none, some 22⟩, ⟨I.ext 23 (O.t 18) 1, none, some 23⟩, ⟨I.ext 24 (O.t 18) 2, none, some 24⟩, ⟨I.mv 0 (O.t 22), none, some 0⟩]).seq (C.ops [⟨I.mv 26 (O.t 1), none, some 26⟩, ⟨I.mv 27 (O.t 5), none, some 27⟩, ⟨I.call (some 28) (O.k (AV.fn 118 [])) [O.t 26, O.t 27] false, none, some 28⟩, ⟨I.mv 25 (O.t 28), none, some 25⟩, ⟨I.ext 29 (O.t 25) 0, none, some 29⟩, ⟨I.ext 30 (O.t 25) 1, none, some 30⟩, ⟨I.ext 31 (O.t 25) 2, none, some 31⟩, ⟨I.mv 1 (O.t 29), none, some 1⟩])) C.skip))).seq ((C.ops [⟨I.mv 32 (O.t 0), none, some 32⟩, ⟨I.mv 33 (O.t 1), none, some 33⟩, ⟨I.call (some 34) (O.k (AV.fn 119 [])) [O.t 32, O.t 33] false, none, some 34⟩, ⟨I.mv 4 (O.t 34), none, some 4⟩]).seq C.ret)))
theorem k64 (m : Int) : compF (cx m).P (cx m).gt (fun _ => false) 64 = some (c64, [RV.tmp 4], 35) := by kernel_rfl
def c100 : C := (C.ops [⟨I.mv 2 (O.k (AV.int IntKind.i64 0)), none, some 2⟩]).seq ((C.ops [⟨I.mv 7 (O.t 0), none, some 7⟩, ⟨I.call (some 8) (O.k (AV.fn 138 [])) [O.t 7, O.k (AV.str [45])] false, none, some 8⟩, ⟨I.mv 6 (O.t 8), none, some 6⟩, ⟨I.ext 9 (O.t 6) 0, none, some 9⟩, ⟨I.ext 10 (O.t 6) 1, none, some 10⟩, ⟨I.mv 3 (O.t 9), none, some 3⟩, ⟨I.mv 4 (O.t 10), none, some 4⟩]).seq (((C.ops [⟨I.mv 11 (O.t 3), none, some 11⟩, ⟨I.bin 12 BinOp.eql (O.t 11) (O.k (AV.str [])), none, some 12⟩, ⟨I.mv 13 (O.t 12), none, some 13⟩, ⟨I.mv 14 (O.t 3), some (13, false), some 14⟩, ⟨I.lens 15 (O.t 14), some (13, false), some 15⟩, ⟨I.bin 16 BinOp.gtr (O.t 15) (O.k (AV.int IntKind.i64 200)), some (13, false), some 16⟩, ⟨I.pick 17 (O.t 13) (O.k (AV.bool true)) (O.t 16), none, some 17⟩, ⟨I.mv 18 (O.t 17), none, some 18⟩, ⟨I.mv 19 (O.t 3), some (18, false), some 19⟩, ⟨I.idx 20 (O.t 19) (O.k (AV.int IntKind.i64 0)), some (18, false), some 20⟩, ⟨I.bin 21 BinOp.eql (O.t 20) (O.k (AV.int IntKind.u8 48)), some (18, false), some 21⟩, ⟨I.mv 22 (O.t 21), some (18, false), some 22⟩, ⟨I.mv 23 (O.t 3), some (22, true), some 23⟩, ⟨I.lens 24 (O.t 23), some (22, true), some 24⟩, ⟨I.bin 25 BinOp.gtr (O.t 24) (O.k (AV.int IntKind.i64 1)), some (22, true), some 25⟩, ⟨I.mv 26 (O.t 25), some (22, true), some 26⟩, ⟨I.mv 27 (O.t 4), some (26, false), some 27⟩, ⟨I.pick 28 (O.t 26) (O.k (AV.bool true)) (O.t 27), some (22, true), some 28⟩, ⟨I.pick 29 (O.t 22) (O.t 28) (O.k (AV.bool false)), some (18, false), some 29⟩, ⟨I.pick 30 (O.t 18) (O.k (AV.bool true)) (O.t 29), none, some 30⟩]).seq (C.cond (O.t 30) ((C.ops [⟨I.mv 2 (O.k (AV.int IntKind.i64 2)), none, some 2⟩]).seq C.ret) C.skip)).seq (((C.ops [⟨I.mv 31 (O.t 3), none, some 31⟩, ⟨I.lens 32 (O.t 31), none, some 32⟩, ⟨I.mv 33 (O.k (AV.int IntKind.i64 0)), none, some 33⟩]).seq (C.block 0 ((C.ops [⟨I.bin 34 BinOp.lss (O.t 33) (O.t 32), none, some 34⟩]).seq ((C.cond (O.t 34) C.skip (C.exit 0)).seq ((C.block 1 ((C.ops [⟨I.mv 35 (O.t 33), none, some 35⟩, ⟨I.mv 5 (O.t 35), none, some 5⟩]).seq ((C.ops [⟨I.mv 36 (O.t 3), none, some 36⟩, ⟨I.mv 37 (O.t 5), none, some 37⟩, ⟨I.idx 38 (O.t 36) (O.t 37), none, some 38⟩, ⟨I.bin 39 BinOp.lss (O.t 38) (O.k (AV.int IntKind.u8 48)), none, some 39⟩, ⟨I.mv 40 (O.t 39), none, some 40⟩, ⟨I.mv 41 (O.t 3), some (40, false), some 41⟩, ⟨I.mv 42 (O.t 5), some (40, false), some 42⟩, ⟨I.idx 43 (O.t 41) (O.t 42), some (40, false), some 43⟩, ⟨I.bin 44 BinOp.gtr (O.t 43) (O.k (AV.int IntKind.u8 57)), some (40, false), some 44⟩, ⟨I.pick 45 (O.t 40) (O.k (AV.bool true)) (O.t 44), none, some 45⟩]).seq (C.cond (O.t 45) ((C.ops [⟨I.mv 2 (O.k (AV.int IntKind.i64 2)), none, some 2⟩]).seq C.ret) C.skip)))).seq (C.ops [⟨I.bin 46 BinOp.add (O.t 33) (O.k (AV.int IntKind.i64 1)), none, some 46⟩, ⟨I.mv 33 (O.t 46), none, some 33⟩])))).loop)).seq ((C.ops [⟨I.mv 2 (O.k (AV.int IntKind.i64 0)), none, some 2⟩]).seq C.ret))))
theorem k100 (m : Int) : compF (cx m).P (cx m).gt (fun _ => false) 100 = some (c100, [RV.tmp 2], 47) := by kernel_rfl
def c59 : C := (C.ops [⟨I.mv 4 (O.k (AV.int IntKind.i64 0)), none, some 4⟩]).seq ((C.ops [⟨I.mv 9 (O.t 0), none, some 9⟩, ⟨I.call (some 10) (O.k (AV.fn 108 [])) [O.t 9] false, none, some 10⟩, ⟨I.mv 11 (O.t 1), none, some 11⟩, ⟨I.call (some 12) (O.k (AV.fn 108 [])) [O.t 11] false, none, some 12⟩, ⟨I.mv 5 (O.t 10), none, some 5⟩, ⟨I.mv 6 (O.t 12), none, some 6⟩]).seq (((C.ops [⟨I.mv 13 (O.t 5), none, some 13⟩, ⟨I.mv 14 (O.t 6), none, some 14⟩, ⟨I.bin 15 BinOp.neq (O.t 13) (O.t 14), none, some 15⟩]).seq (C.cond (O.t 15) (((C.ops [⟨I.mv 16 (O.t 5), none, some 16⟩, ⟨I.mv 17 (O.t 6), none, some 17⟩, ⟨I.bin 18 BinOp.lss (O.t 16) (O.t 17), none, some 18⟩]).seq (C.cond (O.t 18) ((C.ops [⟨I.mv 4 (O.k (AV.int IntKind.i64 (-1))), none, some 4⟩]).seq C.ret) C.skip)).seq ((C.ops [⟨I.mv 4 (O.k (AV.int IntKind.i64 1)), none, some 4⟩]).seq C.ret)) C.skip)).seq ((C.ops [⟨I.mv 19 (O.t 0), none, some 19⟩, ⟨I.call (some 20) (O.k (AV.fn 109 [])) [O.t 19, O.k (AV.str [45])] false, none, some 20⟩, ⟨I.mv 21 (O.t 1), none, some 21⟩, ⟨I.call (some 22) (O.k (AV.fn 109 [])) [O.t 21, O.k (AV.str [45])] false, none, some 22⟩, ⟨I.mv 7 (O.t 20), none, some 7⟩, ⟨I.mv 8 (O.t 22), none, some 8⟩]).seq (((C.ops [⟨I.mv 23 (O.t 7), none, some 23⟩, ⟨I.lens 24 (O.t 23), none, some 24⟩, ⟨I.mv 25 (O.t 8), none, some 25⟩, ⟨I.lens 26 (O.t 25), none, some 26⟩, ⟨I.bin 27 BinOp.neq (O.t 24) (O.t 26), none, some 27⟩]).seq (C.cond (O.t 27) (((C.ops [⟨I.mv 28 (O.t 7), none, some 28⟩, ⟨I.lens 29 (O.t 28), none, some 29⟩, ⟨I.mv 30 (O.t 8), none, some 30⟩, ⟨I.lens 31 (O.t 30), none, some 31⟩, ⟨I.bin 32 BinOp.lss (O.t 29) (O.t 31), none, some 32⟩]).seq (C.cond (O.t 32) ((C.ops [⟨I.mv 33 (O.t 5), none, some 33⟩, ⟨I.neg 34 (O.t 33), none, some 34⟩, ⟨I.mv 4 (O.t 34), none, some 4⟩]).seq C.ret) C.skip)).seq ((C.ops [⟨I.mv 35 (O.t 5), none, some 35⟩, ⟨I.mv 4 (O.t 35), none, some 4⟩]).seq C.ret)) C.skip)).seq ((C.ops [⟨I.mv 36 (O.t 5), none, some 36⟩, ⟨I.mv 37 (O.t 7), none, some 37⟩, ⟨I.mv 38 (O.t 8), none, some 38⟩, ⟨I.call (some 39) (O.k (AV.fn 110 [])) [O.t 37, O.t 38] false, none, some 39⟩, ⟨I.bin 40 BinOp.mul (O.t 36) (O.t 39), none, some 40⟩, ⟨I.mv 4 (O.t 40), none, some 4⟩]).seq C.ret)))))
theorem k59 (m : Int) : compF (cx m).P (cx m).gt (fun _ => false) 59 = some (c59, [RV.tmp 4], 41) := by kernel_rfl
def c50 : C := (C.ops [⟨I.mv 2 (O.k (AV.int IntKind.i64 0)), none, some 2⟩]).seq ((C.ops [⟨I.mv 9 (O.t 0), none, some 9⟩, ⟨I.call (some 10) (O.k (AV.fn 99 [])) [O.t 9, O.k (AV.str [47])] false, none, some 10⟩, ⟨I.mv 8 (O.t 10), none, some 8⟩, ⟨I.ext 11 (O.t 8) 0, none, some 11⟩, ⟨I.ext 12 (O.t 8) 1, none, some 12⟩, ⟨I.ext 13 (O.t 8) 2, none, some 13⟩, ⟨I.mv 3 (O.t 11), none, some 3⟩, ⟨I.mv 4 (O.t 12), none, some 4⟩, ⟨I.mv 5 (O.t 13), none, some 5⟩]).seq (((C.ops [⟨I.mv 14 (O.t 3), none, some 14⟩, ⟨I.call (some 15) (O.k (AV.fn 100 [])) [O.t 14] false, none, some 15⟩, ⟨I.bin 16 BinOp.neq (O.t 15) (O.k (AV.int IntKind.i64 0)), none, some 16⟩]).seq (C.cond (O.t 16) ((C.ops [⟨I.mv 2 (O.k (AV.int IntKind.i64 2)), none, some 2⟩]).seq C.ret) C.skip)).seq (((C.ops [⟨I.mv 17 (O.t 5), none, some 17⟩, ⟨I.not 18 (O.t 17), none, some 18⟩]).seq (C.cond (O.t 18) ((C.ops [⟨I.mv 2 (O.k (AV.int IntKind.i64 0)), none, some 2⟩]).seq C.ret) C.skip)).seq ((C.ops [⟨I.mv 19 (O.t 3), none, some 19⟩, ⟨I.mv 20 (O.t 4), none, some 20⟩, ⟨I.mv 6 (O.t 19), none, some 6⟩, ⟨I.mv 7 (O.t 20), none, some 7⟩]).seq (((C.ops [⟨I.mv 21 (O.t 7), none, some 21⟩, ⟨I.call (some 22) (O.k (AV.fn 100 [])) [O.t 21] false, none, some 22⟩, ⟨I.bin 23 BinOp.neq (O.t 22) (O.k (AV.int IntKind.i64 0)), none, some 23⟩, ⟨I.mv 24 (O.t 23), none, some 24⟩, ⟨I.mv 25 (O.t 7), some (24, false), some 25⟩, ⟨I.call (some 26) (O.k (AV.fn 59 [])) [O.t 25, O.k (AV.str [49])] false, some (24, false), some 26⟩, ⟨I.bin 27 BinOp.leq (O.t 26) (O.k (AV.int IntKind.i64 0)), some (24, false), some 27⟩, ⟨I.pick 28 (O.t 24) (O.k (AV.bool true)) (O.t 27), none, some 28⟩, ⟨I.mv 29 (O.t 28), none, some 29⟩, ⟨I.mv 30 (O.t 6), some (29, false), some 30⟩, ⟨I.bin 31 BinOp.eql (O.t 30) (O.k (AV.str [48])), some (29, false), some 31⟩, ⟨I.pick 32 (O.t 29) (O.k (AV.bool true)) (O.t 31), none, some 32⟩, ⟨I.mv 33 (O.t 32), none, some 33⟩, ⟨I.mv 34 (O.t 6), some (33, false), some 34⟩, ⟨I.mv 35 (O.t 7), some (33, false), some 35⟩, ⟨I.call (some 36) (O.k (AV.fn 101 [])) [O.t 34, O.t 35] false, some (33, false), some 36⟩, ⟨I.bin 37 BinOp.neq (O.t 36) (O.k (AV.str [49])), some (33, false), some 37⟩, ⟨I.pick 38 (O.t 33) (O.k (AV.bool true)) (O.t 37), none, some 38⟩]).seq (C.cond (O.t 38) ((C.ops [⟨I.mv 2 (O.k (AV.int IntKind.i64 2)), none, some 2⟩]).seq C.ret) C.skip)).seq ((C.ops [⟨I.mv 2 (O.k (AV.int IntKind.i64 0)), none, some 2⟩]).seq C.ret))))))
theorem k50 (m : Int) : compF (cx m).P (cx m).gt (fun _ => false) 50 = some (c50, [RV.tmp 2], 39) := by kernel_rfl
end Go.Proofs.YtkjnjdcbnelceaaGreatDoor.KA
end

section
/-
  DERIVED: THE SHELF's CONTRACTS AT THIS DUMP, IN PLAIN WORDS (tools/lay-plain.mjs out of 'TryzShelf.lean', which tools/lay-shelf.mjs wrote): THE SAME DECLARATIONS UNDER THE SAME NAMES: 'import', 'namespace', 'open', 'def', 'theorem' AND NOTHING ELSE: no command of the shelf's: FOR A HAND-IN. Each laying: the table of numbers ('.._ren') and one theorem, a field a fact of the dump's own or the kernel's comparison; each contract: ONE APPLICATION.
-/
namespace Go.Proofs
open Go.Shelf
def Tryz.lays128_ren : Go.Shelf.Ren := ⟨fun | 128 => 167 | n => n, fun | 51 => 200 | 3 => 3 | 4 => 4 | 46 => 156 | 5 => 5 | 9 => 9 | n => n, fun | n => n⟩
theorem Tryz.lays128 : Go.Proofs.Lays.n128 Tryz.prog Tryz.lays128_ren := {
  mixed := by kernel_rfl
  f128 := Tryz.func167.trans (congrArg some (by kernel_rfl))
  t3 := Tryz.underlying3
  a3 := Tryz.isAgg3
  z3 := Tryz.sizeOf3
  v3 := Tryz.zeroValue3
  t4 := Tryz.underlying4
  a4 := Tryz.isAgg4
  z4 := Tryz.sizeOf4
  v4 := Tryz.zeroValue4
  t5 := Tryz.underlying5
  a5 := Tryz.isAgg5
  z5 := Tryz.sizeOf5
  v5 := Tryz.zeroValue5
  t9 := Tryz.underlying9
  a9 := Tryz.isAgg9
  z9 := Tryz.sizeOf9
  v9 := Tryz.zeroValue9
  t46 := Tryz.underlying156
  a46 := Tryz.isAgg156
  z46 := Tryz.sizeOf156
  v46 := Tryz.zeroValue156
  t51 := Tryz.underlying200
  a51 := Tryz.isAgg200
  z51 := Tryz.sizeOf200
  v51 := Tryz.zeroValue200 }
/-- bits.Len32: "Len32 returns the minimum number of bits required to represent x; the result is 0 for x == 0.": IT RETURNS 'Lib.bitLen x'; the world is as it was. ('h0', 'h1': x is a uint32.) (LAID: no walk: one application.) -/
theorem Tryz.bits_Len32 (x : Int) (w : World) (h0 : 0 ≤ x) (h1 : x ≤ 4294967295) :
    Calls Tryz.prog 167 #[.int .u32 x] w fun e w' => e = .returned (.int .i64 (Lib.bitLen x.toNat)) ∧ w' = w := Any.bits_Len32 Tryz.lays128 x w h0 h1
def Tryz.lays125_ren : Go.Shelf.Ren := ⟨fun | 125 => 125 | 128 => 167 | 129 => 168 | n => n, fun | 46 => 156 | 3 => 3 | 51 => 200 | 53 => 178 | 4 => 4 | 5 => 5 | 9 => 9 | n => n, fun | n => n⟩
theorem Tryz.lays125 : Go.Proofs.Lays.n125 Tryz.prog Tryz.lays125_ren := {
  mixed := by kernel_rfl
  f125 := Tryz.func125.trans (congrArg some (by kernel_rfl))
  f128 := Tryz.func167.trans (congrArg some (by kernel_rfl))
  f129 := Tryz.func168.trans (congrArg some (by kernel_rfl))
  t3 := Tryz.underlying3
  a3 := Tryz.isAgg3
  z3 := Tryz.sizeOf3
  v3 := Tryz.zeroValue3
  t4 := Tryz.underlying4
  a4 := Tryz.isAgg4
  z4 := Tryz.sizeOf4
  v4 := Tryz.zeroValue4
  t5 := Tryz.underlying5
  a5 := Tryz.isAgg5
  z5 := Tryz.sizeOf5
  v5 := Tryz.zeroValue5
  t9 := Tryz.underlying9
  a9 := Tryz.isAgg9
  z9 := Tryz.sizeOf9
  v9 := Tryz.zeroValue9
  t46 := Tryz.underlying156
  a46 := Tryz.isAgg156
  z46 := Tryz.sizeOf156
  v46 := Tryz.zeroValue156
  t51 := Tryz.underlying200
  a51 := Tryz.isAgg200
  z51 := Tryz.sizeOf200
  v51 := Tryz.zeroValue200
  t53 := Tryz.underlying178
  a53 := Tryz.isAgg178
  z53 := Tryz.sizeOf178
  v53 := Tryz.zeroValue178 }
/-- bits.Len: "Len returns the minimum number of bits required to represent x; the result is 0 for x == 0.": IT RETURNS 'Lib.bitLen x'; the world is as it was. (A uint has 64 bits in the model.) ITS CALLEE bits.Len64 IS MET BY ITS OWN CONTRACT OFF THE SHELF (lay that first). (LAID: no walk: one application.) -/
theorem Tryz.bits_Len (x : Int) (w : World) (h0 : 0 ≤ x) (h1 : x ≤ 18446744073709551615) :
    Calls Tryz.prog 125 #[.int .u64 x] w fun e w' => e = .returned (.int .i64 (Lib.bitLen x.toNat)) ∧ w' = w := Any.bits_Len Tryz.lays125 x w h0 h1
def Tryz.lays213_ren : Go.Shelf.Ren := ⟨fun | 213 => 149 | 265 => 201 | n => n, fun | 9 => 9 | 3 => 3 | n => n, fun | n => n⟩
theorem Tryz.lays213 : Go.Proofs.Lays.n213 Tryz.prog Tryz.lays213_ren := {
  mixed := by kernel_rfl
  f213 := Tryz.func149.trans (congrArg some (by kernel_rfl))
  f265 := Tryz.func201.trans (congrArg some (by kernel_rfl))
  t3 := Tryz.underlying3
  a3 := Tryz.isAgg3
  z3 := Tryz.sizeOf3
  v3 := Tryz.zeroValue3
  t9 := Tryz.underlying9
  a9 := Tryz.isAgg9
  z9 := Tryz.sizeOf9
  v9 := Tryz.zeroValue9 }
open Go.RowKit in
/-- internal/bytealg.CompareString (what strings.Compare calls): IT RETURNS 'Lib.compareBytes a b'; the world is as it was. (LAID: no walk: one application.) -/
theorem Tryz.bytealg_CompareString (a b : ByteArray) (w : World) :
    Calls Tryz.prog 149 #[.string a, .string b] w fun e w' => e = .returned (.int .i64 (Lib.compareBytes a.data.toList b.data.toList)) ∧ w' = w := Any.bytealg_CompareString Tryz.lays213 a b w
def Tryz.lays106_ren : Go.Shelf.Ren := ⟨fun | 106 => 110 | 213 => 149 | 265 => 201 | n => n, fun | 9 => 9 | 3 => 3 | n => n, fun | n => n⟩
theorem Tryz.lays106 : Go.Proofs.Lays.n106 Tryz.prog Tryz.lays106_ren := {
  mixed := by kernel_rfl
  f106 := Tryz.func110.trans (congrArg some (by kernel_rfl))
  f213 := Tryz.func149.trans (congrArg some (by kernel_rfl))
  f265 := Tryz.func201.trans (congrArg some (by kernel_rfl))
  t3 := Tryz.underlying3
  a3 := Tryz.isAgg3
  z3 := Tryz.sizeOf3
  v3 := Tryz.zeroValue3
  t9 := Tryz.underlying9
  a9 := Tryz.isAgg9
  z9 := Tryz.sizeOf9
  v9 := Tryz.zeroValue9 }
open Go.RowKit in
/-- strings.Compare: "Compare returns an integer comparing two strings lexicographically. The result will be 0 if a == b, -1 if a < b, and +1 if a > b.": IT RETURNS 'Lib.compareBytes a b'; the world is as it was. (LAID: no walk: one application.) -/
theorem Tryz.strings_Compare (a b : ByteArray) (w : World) :
    Calls Tryz.prog 110 #[.string a, .string b] w fun e w' => e = .returned (.int .i64 (Lib.compareBytes a.data.toList b.data.toList)) ∧ w' = w := Any.strings_Compare Tryz.lays106 a b w
def Tryz.lays137_ren : Go.Shelf.Ren := ⟨fun | 137 => 104 | 217 => 142 | 266 => 191 | n => n, fun | 9 => 9 | 5 => 5 | 3 => 3 | n => n, fun | n => n⟩
theorem Tryz.lays137 : Go.Proofs.Lays.n137 Tryz.prog Tryz.lays137_ren := {
  mixed := by kernel_rfl
  f137 := Tryz.func104.trans (congrArg some (by kernel_rfl))
  f217 := Tryz.func142.trans (congrArg some (by kernel_rfl))
  f266 := Tryz.func191.trans (congrArg some (by kernel_rfl))
  t3 := Tryz.underlying3
  a3 := Tryz.isAgg3
  z3 := Tryz.sizeOf3
  v3 := Tryz.zeroValue3
  t5 := Tryz.underlying5
  a5 := Tryz.isAgg5
  z5 := Tryz.sizeOf5
  v5 := Tryz.zeroValue5
  t9 := Tryz.underlying9
  a9 := Tryz.isAgg9
  z9 := Tryz.sizeOf9
  v9 := Tryz.zeroValue9 }
open Go.RowKit in
/-- strings.IndexByte: "IndexByte returns the index of the first instance of c in s, or -1 if c is not present in s.": IT RETURNS 'Lib.indexByte s c'; the world is as it was. (LAID: no walk: one application.) -/
theorem Tryz.strings_IndexByte (s : ByteArray) (c : Int) (w : World) :
    Calls Tryz.prog 104 #[.string s, .int .u8 c] w fun e w' => e = .returned (.int .i64 (Lib.indexByte s.data.toList c.toNat.toUInt8)) ∧ w' = w := Any.strings_IndexByte Tryz.lays137 s c w
def Tryz.lays244_ren : Go.Shelf.Ren := ⟨fun | 244 => 202 | 247 => 227 | 287 => 204 | 321 => 232 | 322 => 233 | n => n, fun | 9 => 9 | 3 => 3 | 75 => 175 | 4 => 4 | 5 => 5 | 167 => 242 | 37 => 183 | 0 => 0 | 85 => 243 | 2 => 2 | 53 => 178 | 175 => 179 | 46 => 156 | 21 => 21 | 80 => 191 | n => n, fun | n => n⟩
theorem Tryz.lays244 : Go.Proofs.Lays.n244 Tryz.prog Tryz.lays244_ren := {
  mixed := by kernel_rfl
  f244 := Tryz.func202.trans (congrArg some (by kernel_rfl))
  f247 := Tryz.func227.trans (congrArg some (by kernel_rfl))
  f287 := Tryz.func204.trans (congrArg some (by kernel_rfl))
  f321 := Tryz.func232.trans (congrArg some (by kernel_rfl))
  f322 := Tryz.func233.trans (congrArg some (by kernel_rfl))
  t0 := Tryz.underlying0
  a0 := Tryz.isAgg0
  z0 := Tryz.sizeOf0
  v0 := Tryz.zeroValue0
  t2 := Tryz.underlying2
  a2 := Tryz.isAgg2
  z2 := Tryz.sizeOf2
  v2 := Tryz.zeroValue2
  t3 := Tryz.underlying3
  a3 := Tryz.isAgg3
  z3 := Tryz.sizeOf3
  v3 := Tryz.zeroValue3
  t4 := Tryz.underlying4
  a4 := Tryz.isAgg4
  z4 := Tryz.sizeOf4
  v4 := Tryz.zeroValue4
  t5 := Tryz.underlying5
  a5 := Tryz.isAgg5
  z5 := Tryz.sizeOf5
  v5 := Tryz.zeroValue5
  t9 := Tryz.underlying9
  a9 := Tryz.isAgg9
  z9 := Tryz.sizeOf9
  v9 := Tryz.zeroValue9
  t21 := Tryz.underlying21
  a21 := Tryz.isAgg21
  z21 := Tryz.sizeOf21
  v21 := Tryz.zeroValue21
  t37 := Tryz.underlying183
  a37 := Tryz.isAgg183
  z37 := Tryz.sizeOf183
  v37 := Tryz.zeroValue183
  t46 := Tryz.underlying156
  a46 := Tryz.isAgg156
  z46 := Tryz.sizeOf156
  v46 := Tryz.zeroValue156
  t53 := Tryz.underlying178
  a53 := Tryz.isAgg178
  z53 := Tryz.sizeOf178
  v53 := Tryz.zeroValue178
  t75 := Tryz.underlying175
  a75 := Tryz.isAgg175
  z75 := Tryz.sizeOf175
  v75 := Tryz.zeroValue175
  t85 := Tryz.underlying243
  a85 := Tryz.isAgg243
  z85 := Tryz.sizeOf243
  v85 := Tryz.zeroValue243
  t167 := Tryz.underlying242
  a167 := Tryz.isAgg242
  z167 := Tryz.sizeOf242
  v167 := Tryz.zeroValue242
  t175 := Tryz.underlying179
  a175 := Tryz.isAgg179
  z175 := Tryz.sizeOf179
  v175 := Tryz.zeroValue179 }
open Go.RowKit in
/-- internal/strconv.Atoi, at a decimal numeral of at most 18 bytes: ITS VALUE, AND NO ERROR. The world behind the call: the one new row that '[]byte(s)' lays. (LAID: no walk: one application.) -/
theorem Tryz.internal_strconv_Atoi (s : ByteArray) (n : Int) (hl : s.size ≤ 18) (h : Lib.atoi s.data.toList = some n) (w : World) :
    Calls Tryz.prog 202 #[.string s] w fun e w' => e = .returned (.tuple #[.int .i64 n, .nilIface]) ∧ ∃ t, w' = Lib.bytesWorld w 5 t := Any.internal_strconv_Atoi Tryz.lays244 s n hl h w
def Tryz.lays172_ren : Go.Shelf.Ren := ⟨fun | 172 => 150 | 244 => 202 | 245 => 203 | 247 => 227 | 279 => 228 | 280 => 229 | 281 => 230 | 282 => 231 | 287 => 204 | 316 => 250 | 171 => 116 | 205 => 251 | 321 => 232 | 322 => 233 | 243 => 158 | 246 => 208 | 283 => 235 | 284 => 236 | 285 => 237 | 286 => 238 | 129 => 168 | 317 => 252 | 318 => 253 | 319 => 254 | 320 => 255 | 337 => 259 | 338 => 260 | n => n, fun | 9 => 9 | 3 => 3 | 75 => 175 | 76 => 176 | 4 => 4 | 5 => 5 | 167 => 242 | 37 => 183 | 0 => 0 | 85 => 243 | 2 => 2 | 168 => 245 | 53 => 178 | 175 => 179 | 46 => 156 | 210 => 269 | 127 => 226 | 145 => 279 | 143 => 277 | 21 => 21 | 171 => 252 | 173 => 254 | 212 => 272 | 51 => 200 | 20 => 20 | 213 => 273 | 232 => 281 | 233 => 282 | 80 => 191 | n => n, fun | 15 => 1 | 16 => 2 | 17 => 3 | 18 => 4 | 19 => 5 | n => n⟩
theorem Tryz.lays172 : Go.Proofs.Lays.n172 Tryz.prog Tryz.lays172_ren := {
  mixed := by kernel_rfl
  f129 := Tryz.func168.trans (congrArg some (by kernel_rfl))
  f171 := Tryz.func116.trans (congrArg some (by kernel_rfl))
  f172 := Tryz.func150.trans (congrArg some (by kernel_rfl))
  f205 := Tryz.func251.trans (congrArg some (by kernel_rfl))
  f243 := Tryz.func158.trans (congrArg some (by kernel_rfl))
  f244 := Tryz.func202.trans (congrArg some (by kernel_rfl))
  f245 := Tryz.func203.trans (congrArg some (by kernel_rfl))
  f246 := Tryz.func208.trans (congrArg some (by kernel_rfl))
  f247 := Tryz.func227.trans (congrArg some (by kernel_rfl))
  f279 := Tryz.func228.trans (congrArg some (by kernel_rfl))
  f280 := Tryz.func229.trans (congrArg some (by kernel_rfl))
  f281 := Tryz.func230.trans (congrArg some (by kernel_rfl))
  f282 := Tryz.func231.trans (congrArg some (by kernel_rfl))
  f283 := Tryz.func235.trans (congrArg some (by kernel_rfl))
  f284 := Tryz.func236.trans (congrArg some (by kernel_rfl))
  f285 := Tryz.func237.trans (congrArg some (by kernel_rfl))
  f286 := Tryz.func238.trans (congrArg some (by kernel_rfl))
  f287 := Tryz.func204.trans (congrArg some (by kernel_rfl))
  f316 := Tryz.func250.trans (congrArg some (by kernel_rfl))
  f317 := Tryz.func252.trans (congrArg some (by kernel_rfl))
  f318 := Tryz.func253.trans (congrArg some (by kernel_rfl))
  f319 := Tryz.func254.trans (congrArg some (by kernel_rfl))
  f320 := Tryz.func255.trans (congrArg some (by kernel_rfl))
  f321 := Tryz.func232.trans (congrArg some (by kernel_rfl))
  f322 := Tryz.func233.trans (congrArg some (by kernel_rfl))
  f337 := Tryz.func259.trans (congrArg some (by kernel_rfl))
  f338 := Tryz.func260.trans (congrArg some (by kernel_rfl))
  t0 := Tryz.underlying0
  a0 := Tryz.isAgg0
  z0 := Tryz.sizeOf0
  v0 := Tryz.zeroValue0
  t2 := Tryz.underlying2
  a2 := Tryz.isAgg2
  z2 := Tryz.sizeOf2
  v2 := Tryz.zeroValue2
  t3 := Tryz.underlying3
  a3 := Tryz.isAgg3
  z3 := Tryz.sizeOf3
  v3 := Tryz.zeroValue3
  t4 := Tryz.underlying4
  a4 := Tryz.isAgg4
  z4 := Tryz.sizeOf4
  v4 := Tryz.zeroValue4
  t5 := Tryz.underlying5
  a5 := Tryz.isAgg5
  z5 := Tryz.sizeOf5
  v5 := Tryz.zeroValue5
  t9 := Tryz.underlying9
  a9 := Tryz.isAgg9
  z9 := Tryz.sizeOf9
  v9 := Tryz.zeroValue9
  t20 := Tryz.underlying20
  a20 := Tryz.isAgg20
  z20 := Tryz.sizeOf20
  v20 := Tryz.zeroValue20
  t21 := Tryz.underlying21
  a21 := Tryz.isAgg21
  z21 := Tryz.sizeOf21
  v21 := Tryz.zeroValue21
  t37 := Tryz.underlying183
  a37 := Tryz.isAgg183
  z37 := Tryz.sizeOf183
  v37 := Tryz.zeroValue183
  t46 := Tryz.underlying156
  a46 := Tryz.isAgg156
  z46 := Tryz.sizeOf156
  v46 := Tryz.zeroValue156
  t51 := Tryz.underlying200
  a51 := Tryz.isAgg200
  z51 := Tryz.sizeOf200
  v51 := Tryz.zeroValue200
  t53 := Tryz.underlying178
  a53 := Tryz.isAgg178
  z53 := Tryz.sizeOf178
  v53 := Tryz.zeroValue178
  t75 := Tryz.underlying175
  a75 := Tryz.isAgg175
  z75 := Tryz.sizeOf175
  v75 := Tryz.zeroValue175
  t76 := Tryz.underlying176
  a76 := Tryz.isAgg176
  z76 := Tryz.sizeOf176
  v76 := Tryz.zeroValue176
  t85 := Tryz.underlying243
  a85 := Tryz.isAgg243
  z85 := Tryz.sizeOf243
  v85 := Tryz.zeroValue243
  t127 := Tryz.underlying226
  a127 := Tryz.isAgg226
  z127 := Tryz.sizeOf226
  v127 := Tryz.zeroValue226
  t143 := Tryz.underlying277
  a143 := Tryz.isAgg277
  z143 := Tryz.sizeOf277
  v143 := Tryz.zeroValue277
  t145 := Tryz.underlying279
  a145 := Tryz.isAgg279
  z145 := Tryz.sizeOf279
  v145 := Tryz.zeroValue279
  t167 := Tryz.underlying242
  a167 := Tryz.isAgg242
  z167 := Tryz.sizeOf242
  v167 := Tryz.zeroValue242
  t168 := Tryz.underlying245
  a168 := Tryz.isAgg245
  z168 := Tryz.sizeOf245
  v168 := Tryz.zeroValue245
  t171 := Tryz.underlying252
  a171 := Tryz.isAgg252
  z171 := Tryz.sizeOf252
  v171 := Tryz.zeroValue252
  t173 := Tryz.underlying254
  a173 := Tryz.isAgg254
  z173 := Tryz.sizeOf254
  v173 := Tryz.zeroValue254
  t175 := Tryz.underlying179
  a175 := Tryz.isAgg179
  z175 := Tryz.sizeOf179
  v175 := Tryz.zeroValue179
  t210 := Tryz.underlying269
  a210 := Tryz.isAgg269
  z210 := Tryz.sizeOf269
  v210 := Tryz.zeroValue269
  t212 := Tryz.underlying272
  a212 := Tryz.isAgg272
  z212 := Tryz.sizeOf272
  v212 := Tryz.zeroValue272
  t213 := Tryz.underlying273
  a213 := Tryz.isAgg273
  z213 := Tryz.sizeOf273
  t232 := Tryz.underlying281
  a232 := Tryz.isAgg281
  z232 := Tryz.sizeOf281
  v232 := Tryz.zeroValue281
  t233 := Tryz.underlying282
  a233 := Tryz.isAgg282
  z233 := Tryz.sizeOf282
  v233 := Tryz.zeroValue282
  g15 := by kernel_rfl
  g16 := by kernel_rfl
  g17 := by kernel_rfl
  g18 := by kernel_rfl
  g19 := by kernel_rfl }
open Go.RowKit in
/-- strconv.Atoi: "Atoi is equivalent to ParseInt(s, 10, 0), converted to type int.": AT A DECIMAL NUMERAL OF AT MOST 18 BYTES: its value, and a nil error. The world behind the call: the one new row that the library's '[]byte(s)' lays. (LAID: no walk: one application.) -/
theorem Tryz.strconv_Atoi (s : ByteArray) (n : Int) (hl : s.size ≤ 18) (h : Lib.atoi s.data.toList = some n) (w : World) :
    Calls Tryz.prog 150 #[.string s] w fun e w' => e = .returned (.tuple #[.int .i64 n, .nilIface]) ∧ ∃ t, w' = Lib.bytesWorld w 5 t := Any.strconv_Atoi Tryz.lays172 s n hl h w
def Tryz.lays129_ren : Go.Shelf.Ren := ⟨fun | 129 => 168 | n => n, fun | 53 => 178 | 3 => 3 | 4 => 4 | 46 => 156 | 5 => 5 | 9 => 9 | n => n, fun | n => n⟩
theorem Tryz.lays129 : Go.Proofs.Lays.n129 Tryz.prog Tryz.lays129_ren := {
  mixed := by kernel_rfl
  f129 := Tryz.func168.trans (congrArg some (by kernel_rfl))
  t3 := Tryz.underlying3
  a3 := Tryz.isAgg3
  z3 := Tryz.sizeOf3
  v3 := Tryz.zeroValue3
  t4 := Tryz.underlying4
  a4 := Tryz.isAgg4
  z4 := Tryz.sizeOf4
  v4 := Tryz.zeroValue4
  t5 := Tryz.underlying5
  a5 := Tryz.isAgg5
  z5 := Tryz.sizeOf5
  v5 := Tryz.zeroValue5
  t9 := Tryz.underlying9
  a9 := Tryz.isAgg9
  z9 := Tryz.sizeOf9
  v9 := Tryz.zeroValue9
  t46 := Tryz.underlying156
  a46 := Tryz.isAgg156
  z46 := Tryz.sizeOf156
  v46 := Tryz.zeroValue156
  t53 := Tryz.underlying178
  a53 := Tryz.isAgg178
  z53 := Tryz.sizeOf178
  v53 := Tryz.zeroValue178 }
/-- bits.Len64: "Len64 returns the minimum number of bits required to represent x; the result is 0 for x == 0.": IT RETURNS 'Lib.bitLen x'; the world is as it was. ('h0', 'h1': x is a uint64.) (LAID: no walk: one application.) -/
theorem Tryz.bits_Len64 (x : Int) (w : World) (h0 : 0 ≤ x) (h1 : x ≤ 18446744073709551615) :
    Calls Tryz.prog 168 #[.int .u64 x] w fun e w' => e = .returned (.int .i64 (Lib.bitLen x.toNat)) ∧ w' = w := Any.bits_Len64 Tryz.lays129 x w h0 h1
def Tryz.lays317_ren : Go.Shelf.Ren := ⟨fun | 317 => 252 | n => n, fun | 3 => 3 | 46 => 156 | n => n, fun | n => n⟩
theorem Tryz.lays317 : Go.Proofs.Lays.n317 Tryz.prog Tryz.lays317_ren := {
  mixed := by kernel_rfl
  f317 := Tryz.func252.trans (congrArg some (by kernel_rfl))
  t3 := Tryz.underlying3
  a3 := Tryz.isAgg3
  z3 := Tryz.sizeOf3
  v3 := Tryz.zeroValue3
  t46 := Tryz.underlying156
  a46 := Tryz.isAgg156
  z46 := Tryz.sizeOf156
  v46 := Tryz.zeroValue156 }
open Go.Lib in
/-- internal/strconv.log10Pow2: "log10Pow2(x) returns ⌊log₁₀ 2**x⌋ = ⌊x * log₁₀ 2⌋.": '(x * 78913) >> 18', at an x up to 64 (a length in bits). The world is as it was. (LAID: no walk: one application.) -/
theorem Tryz.internal_strconv_log10Pow2 (x : Nat) (h : x ≤ 64) (w : World) :
    Calls Tryz.prog 252 #[.int .i64 x] w fun e w' => e = .returned (.int .i64 (Lib.l10 x)) ∧ w' = w := Any.internal_strconv_log10Pow2 Tryz.lays317 x h w
def Tryz.lays318_ren : Go.Shelf.Ren := ⟨fun | 318 => 253 | n => n, fun | 3 => 3 | 4 => 4 | n => n, fun | n => n⟩
theorem Tryz.lays318 : Go.Proofs.Lays.n318 Tryz.prog Tryz.lays318_ren := {
  mixed := by kernel_rfl
  f318 := Tryz.func253.trans (congrArg some (by kernel_rfl))
  t3 := Tryz.underlying3
  a3 := Tryz.isAgg3
  z3 := Tryz.sizeOf3
  v3 := Tryz.zeroValue3
  t4 := Tryz.underlying4
  a4 := Tryz.isAgg4
  z4 := Tryz.sizeOf4
  v4 := Tryz.zeroValue4 }
open Go.Lib in
/-- internal/strconv.bool2: "bool2 converts b to an integer: 1 for true, 0 for false." The world is as it was. (LAID: no walk: one application.) -/
theorem Tryz.internal_strconv_bool2_int (b : Bool) (w : World) :
    Calls Tryz.prog 253 #[.bool b] w fun e w' => e = .returned (.int .i64 (if b then 1 else 0)) ∧ w' = w := Any.internal_strconv_bool2_int Tryz.lays318 b w
def Tryz.lays283_ren : Go.Shelf.Ren := ⟨fun | 283 => 235 | n => n, fun | 3 => 3 | 9 => 9 | 4 => 4 | n => n, fun | n => n⟩
theorem Tryz.lays283 : Go.Proofs.Lays.n283 Tryz.prog Tryz.lays283_ren := {
  mixed := by kernel_rfl
  f283 := Tryz.func235.trans (congrArg some (by kernel_rfl))
  t3 := Tryz.underlying3
  a3 := Tryz.isAgg3
  z3 := Tryz.sizeOf3
  v3 := Tryz.zeroValue3
  t4 := Tryz.underlying4
  a4 := Tryz.isAgg4
  z4 := Tryz.sizeOf4
  v4 := Tryz.zeroValue4
  t9 := Tryz.underlying9
  a9 := Tryz.isAgg9
  z9 := Tryz.sizeOf9
  v9 := Tryz.zeroValue9 }
open Go.Lib in
/-- internal/strconv.small: "small returns the string for an i with 0 <= i < nSmalls.": i's decimal numeral. The world is as it was. (LAID: no walk: one application.) -/
theorem Tryz.internal_strconv_small (i : Nat) (h : i < 100) (w : World) :
    Calls Tryz.prog 235 #[.int .i64 i] w fun e w' => e = .returned (.string ⟨(Lib.decDigits i).toArray⟩) ∧ w' = w := Any.internal_strconv_small Tryz.lays283 i h w
def Tryz.laysM284_ren : Go.Shelf.Ren := ⟨fun | 284 => 236 | 129 => 168 | 317 => 252 | 318 => 253 | n => n, fun | 53 => 178 | 3 => 3 | 212 => 272 | 0 => 0 | 4 => 4 | 46 => 156 | 5 => 5 | 9 => 9 | n => n, fun | 17 => 3 | n => n⟩
theorem Tryz.laysM284 : Go.Proofs.LaysM.n284 Tryz.prog Tryz.laysM284_ren := {
  mixed := by kernel_rfl
  f129 := Tryz.func168.trans (congrArg some (by kernel_rfl))
  f284 := Tryz.func236.trans (congrArg some (by kernel_rfl))
  f317 := Tryz.func252.trans (congrArg some (by kernel_rfl))
  f318 := Tryz.func253.trans (congrArg some (by kernel_rfl))
  t0 := Tryz.underlying0
  a0 := Tryz.isAgg0
  z0 := Tryz.sizeOf0
  v0 := Tryz.zeroValue0
  t3 := Tryz.underlying3
  a3 := Tryz.isAgg3
  z3 := Tryz.sizeOf3
  v3 := Tryz.zeroValue3
  t4 := Tryz.underlying4
  a4 := Tryz.isAgg4
  z4 := Tryz.sizeOf4
  v4 := Tryz.zeroValue4
  t5 := Tryz.underlying5
  a5 := Tryz.isAgg5
  z5 := Tryz.sizeOf5
  v5 := Tryz.zeroValue5
  t9 := Tryz.underlying9
  a9 := Tryz.isAgg9
  z9 := Tryz.sizeOf9
  v9 := Tryz.zeroValue9
  t46 := Tryz.underlying156
  a46 := Tryz.isAgg156
  z46 := Tryz.sizeOf156
  v46 := Tryz.zeroValue156
  t53 := Tryz.underlying178
  a53 := Tryz.isAgg178
  z53 := Tryz.sizeOf178
  v53 := Tryz.zeroValue178
  t212 := Tryz.underlying272
  a212 := Tryz.isAgg272
  z212 := Tryz.sizeOf272
  v212 := Tryz.zeroValue272
  g17 := by kernel_rfl
  i0 := by kernel_rfl
  i3 := by kernel_rfl
  i4 := by kernel_rfl
  i5 := by kernel_rfl
  i9 := by kernel_rfl
  i46 := by kernel_rfl
  i53 := by kernel_rfl
  i212 := by kernel_rfl
  m17 := by kernel_rfl }
open Go.Lib in
/-- internal/strconv.numDigits, at a d that is not 0: THE NUMBER OF d's DECIMAL DIGITS. The world is as it was. (LAID: no walk: one application.) -/
theorem Tryz.internal_strconv_numDigits (u : Nat) (h1 : 1 ≤ u) (h2 : u < 18446744073709551616) (w : World) (htab : Lib.TabIs Tryz.prog w "internal/strconv.uint64pow10" .u64 Lib.pow10Tab) :
    Calls Tryz.prog 236 #[.int .u64 u] w fun e w' => e = .returned (.int .i64 (Lib.nDigits u)) ∧ w' = w := Any.internal_strconv_numDigits Tryz.laysM284 u h1 h2 w htab
def Tryz.lays285_ren : Go.Shelf.Ren := ⟨fun | 285 => 237 | n => n, fun | 37 => 183 | 53 => 178 | 3 => 3 | 4 => 4 | 51 => 200 | 9 => 9 | 5 => 5 | 0 => 0 | n => n, fun | n => n⟩
theorem Tryz.lays285 : Go.Proofs.Lays.n285 Tryz.prog Tryz.lays285_ren := {
  mixed := by kernel_rfl
  f285 := Tryz.func237.trans (congrArg some (by kernel_rfl))
  t0 := Tryz.underlying0
  a0 := Tryz.isAgg0
  z0 := Tryz.sizeOf0
  v0 := Tryz.zeroValue0
  t3 := Tryz.underlying3
  a3 := Tryz.isAgg3
  z3 := Tryz.sizeOf3
  v3 := Tryz.zeroValue3
  t4 := Tryz.underlying4
  a4 := Tryz.isAgg4
  z4 := Tryz.sizeOf4
  v4 := Tryz.zeroValue4
  t5 := Tryz.underlying5
  a5 := Tryz.isAgg5
  z5 := Tryz.sizeOf5
  v5 := Tryz.zeroValue5
  t9 := Tryz.underlying9
  a9 := Tryz.isAgg9
  z9 := Tryz.sizeOf9
  v9 := Tryz.zeroValue9
  t37 := Tryz.underlying183
  a37 := Tryz.isAgg183
  z37 := Tryz.sizeOf183
  v37 := Tryz.zeroValue183
  t51 := Tryz.underlying200
  a51 := Tryz.isAgg200
  z51 := Tryz.sizeOf200
  v51 := Tryz.zeroValue200
  t53 := Tryz.underlying178
  a53 := Tryz.isAgg178
  z53 := Tryz.sizeOf178
  v53 := Tryz.zeroValue178 }
open Go.RowKit Go.Sort Go.Lib in
/-- internal/strconv.formatBase10: "formatBase10 formats the decimal representation of u into a. The caller is responsible for ensuring that a is big enough to hold u. If a is too big, leading zeros will be filled in as needed.": THE ROW HOLDS u's DIGITS ('FmtInv .. 0 ..': every place t holds 'dg u (len - 1 - t)'); all else is as it was but for the count of draws. (LAID: no walk: one application.) -/
theorem Tryz.internal_strconv_formatBase10 (blk off cap : Nat) (u : Nat) (d : Array UInt8) (w : World) (hH : Holds (fun (b : UInt8) => Value.int .u8 (b.toNat : Int)) w blk off d) (hu : u < 10 ^ d.size) (hu64 : u < 18446744073709551616) (hsz : d.size < 4611686018427387904) :
    Calls Tryz.prog 237 #[.slice (some ⟨blk, off, none⟩) d.size cap, .int .u64 u] w fun e w' =>
      e = .returned (.tuple #[]) ∧ ∃ (n v' : Nat) (dk : Array UInt8), w' = (putRow (fun (b : UInt8) => Value.int .u8 (b.toNat : Int)) w blk off dk).drewN n ∧ FmtInv d.size u 0 v' dk := Any.internal_strconv_formatBase10 Tryz.lays285 blk off cap u d w hH hu hu64 hsz
def Tryz.laysM246_ren : Go.Shelf.Ren := ⟨fun | 246 => 208 | 283 => 235 | 284 => 236 | 285 => 237 | 286 => 238 | 129 => 168 | 317 => 252 | 318 => 253 | 319 => 254 | 320 => 255 | 337 => 259 | 338 => 260 | n => n, fun | 2 => 2 | 3 => 3 | 9 => 9 | 4 => 4 | 171 => 252 | 0 => 0 | 53 => 178 | 37 => 183 | 5 => 5 | 173 => 254 | 212 => 272 | 51 => 200 | 20 => 20 | 213 => 273 | 46 => 156 | 232 => 281 | 233 => 282 | n => n, fun | 17 => 3 | 18 => 4 | 19 => 5 | n => n⟩
theorem Tryz.laysM246 : Go.Proofs.LaysM.n246 Tryz.prog Tryz.laysM246_ren := {
  mixed := by kernel_rfl
  f129 := Tryz.func168.trans (congrArg some (by kernel_rfl))
  f246 := Tryz.func208.trans (congrArg some (by kernel_rfl))
  f283 := Tryz.func235.trans (congrArg some (by kernel_rfl))
  f284 := Tryz.func236.trans (congrArg some (by kernel_rfl))
  f285 := Tryz.func237.trans (congrArg some (by kernel_rfl))
  f286 := Tryz.func238.trans (congrArg some (by kernel_rfl))
  f317 := Tryz.func252.trans (congrArg some (by kernel_rfl))
  f318 := Tryz.func253.trans (congrArg some (by kernel_rfl))
  f319 := Tryz.func254.trans (congrArg some (by kernel_rfl))
  f320 := Tryz.func255.trans (congrArg some (by kernel_rfl))
  f337 := Tryz.func259.trans (congrArg some (by kernel_rfl))
  f338 := Tryz.func260.trans (congrArg some (by kernel_rfl))
  t0 := Tryz.underlying0
  a0 := Tryz.isAgg0
  z0 := Tryz.sizeOf0
  v0 := Tryz.zeroValue0
  t2 := Tryz.underlying2
  a2 := Tryz.isAgg2
  z2 := Tryz.sizeOf2
  v2 := Tryz.zeroValue2
  t3 := Tryz.underlying3
  a3 := Tryz.isAgg3
  z3 := Tryz.sizeOf3
  v3 := Tryz.zeroValue3
  t4 := Tryz.underlying4
  a4 := Tryz.isAgg4
  z4 := Tryz.sizeOf4
  v4 := Tryz.zeroValue4
  t5 := Tryz.underlying5
  a5 := Tryz.isAgg5
  z5 := Tryz.sizeOf5
  v5 := Tryz.zeroValue5
  t9 := Tryz.underlying9
  a9 := Tryz.isAgg9
  z9 := Tryz.sizeOf9
  v9 := Tryz.zeroValue9
  t20 := Tryz.underlying20
  a20 := Tryz.isAgg20
  z20 := Tryz.sizeOf20
  v20 := Tryz.zeroValue20
  t37 := Tryz.underlying183
  a37 := Tryz.isAgg183
  z37 := Tryz.sizeOf183
  v37 := Tryz.zeroValue183
  t46 := Tryz.underlying156
  a46 := Tryz.isAgg156
  z46 := Tryz.sizeOf156
  v46 := Tryz.zeroValue156
  t51 := Tryz.underlying200
  a51 := Tryz.isAgg200
  z51 := Tryz.sizeOf200
  v51 := Tryz.zeroValue200
  t53 := Tryz.underlying178
  a53 := Tryz.isAgg178
  z53 := Tryz.sizeOf178
  v53 := Tryz.zeroValue178
  t171 := Tryz.underlying252
  a171 := Tryz.isAgg252
  z171 := Tryz.sizeOf252
  v171 := Tryz.zeroValue252
  t173 := Tryz.underlying254
  a173 := Tryz.isAgg254
  z173 := Tryz.sizeOf254
  v173 := Tryz.zeroValue254
  t212 := Tryz.underlying272
  a212 := Tryz.isAgg272
  z212 := Tryz.sizeOf272
  v212 := Tryz.zeroValue272
  t213 := Tryz.underlying273
  a213 := Tryz.isAgg273
  z213 := Tryz.sizeOf273
  t232 := Tryz.underlying281
  a232 := Tryz.isAgg281
  z232 := Tryz.sizeOf281
  v232 := Tryz.zeroValue281
  t233 := Tryz.underlying282
  a233 := Tryz.isAgg282
  z233 := Tryz.sizeOf282
  v233 := Tryz.zeroValue282
  g17 := by kernel_rfl
  g18 := by kernel_rfl
  g19 := by kernel_rfl
  i0 := by kernel_rfl
  i2 := by kernel_rfl
  i3 := by kernel_rfl
  i4 := by kernel_rfl
  i5 := by kernel_rfl
  i9 := by kernel_rfl
  i20 := by kernel_rfl
  i37 := by kernel_rfl
  i46 := by kernel_rfl
  i51 := by kernel_rfl
  i53 := by kernel_rfl
  i171 := by kernel_rfl
  i173 := by kernel_rfl
  i212 := by kernel_rfl
  i232 := by kernel_rfl
  i233 := by kernel_rfl
  m17 := by kernel_rfl
  m18 := by kernel_rfl
  m19 := by kernel_rfl }
open Go.RowKit Go.Sort Go.Lib in
/-- internal/strconv.FormatInt: "FormatInt returns the string representation of i in the given base": AT BASE 10: i's decimal numeral, for every int64. The world behind the call: the world before it, new blocks behind the heap, draws. (LAID: no walk: one application.) -/
theorem Tryz.internal_strconv_FormatInt_10 (n : Int) (h0 : -9223372036854775808 ≤ n) (h1 : n ≤ 9223372036854775807) (w : World) (htab : Lib.TabIs Tryz.prog w "internal/strconv.uint64pow10" .u64 Lib.pow10Tab) :
    Calls Tryz.prog 208 #[.int .i64 n, .int .i64 10] w fun e w' => e = .returned (.string ⟨(Lib.itoa n).toArray⟩) ∧ ∃ k os, w' = grow (w.drewN k) os := Any.internal_strconv_FormatInt_10 Tryz.laysM246 n h0 h1 w htab
def Tryz.lays246_ren : Go.Shelf.Ren := ⟨fun | 246 => 208 | 283 => 235 | 284 => 236 | 285 => 237 | 286 => 238 | 129 => 168 | 317 => 252 | 318 => 253 | 319 => 254 | 320 => 255 | 337 => 259 | 338 => 260 | n => n, fun | 2 => 2 | 3 => 3 | 9 => 9 | 4 => 4 | 171 => 252 | 0 => 0 | 53 => 178 | 37 => 183 | 5 => 5 | 173 => 254 | 212 => 272 | 51 => 200 | 20 => 20 | 213 => 273 | 46 => 156 | 232 => 281 | 233 => 282 | n => n, fun | 17 => 3 | 18 => 4 | 19 => 5 | n => n⟩
theorem Tryz.lays246 : Go.Proofs.Lays.n246 Tryz.prog Tryz.lays246_ren := {
  mixed := by kernel_rfl
  f129 := Tryz.func168.trans (congrArg some (by kernel_rfl))
  f246 := Tryz.func208.trans (congrArg some (by kernel_rfl))
  f283 := Tryz.func235.trans (congrArg some (by kernel_rfl))
  f284 := Tryz.func236.trans (congrArg some (by kernel_rfl))
  f285 := Tryz.func237.trans (congrArg some (by kernel_rfl))
  f286 := Tryz.func238.trans (congrArg some (by kernel_rfl))
  f317 := Tryz.func252.trans (congrArg some (by kernel_rfl))
  f318 := Tryz.func253.trans (congrArg some (by kernel_rfl))
  f319 := Tryz.func254.trans (congrArg some (by kernel_rfl))
  f320 := Tryz.func255.trans (congrArg some (by kernel_rfl))
  f337 := Tryz.func259.trans (congrArg some (by kernel_rfl))
  f338 := Tryz.func260.trans (congrArg some (by kernel_rfl))
  t0 := Tryz.underlying0
  a0 := Tryz.isAgg0
  z0 := Tryz.sizeOf0
  v0 := Tryz.zeroValue0
  t2 := Tryz.underlying2
  a2 := Tryz.isAgg2
  z2 := Tryz.sizeOf2
  v2 := Tryz.zeroValue2
  t3 := Tryz.underlying3
  a3 := Tryz.isAgg3
  z3 := Tryz.sizeOf3
  v3 := Tryz.zeroValue3
  t4 := Tryz.underlying4
  a4 := Tryz.isAgg4
  z4 := Tryz.sizeOf4
  v4 := Tryz.zeroValue4
  t5 := Tryz.underlying5
  a5 := Tryz.isAgg5
  z5 := Tryz.sizeOf5
  v5 := Tryz.zeroValue5
  t9 := Tryz.underlying9
  a9 := Tryz.isAgg9
  z9 := Tryz.sizeOf9
  v9 := Tryz.zeroValue9
  t20 := Tryz.underlying20
  a20 := Tryz.isAgg20
  z20 := Tryz.sizeOf20
  v20 := Tryz.zeroValue20
  t37 := Tryz.underlying183
  a37 := Tryz.isAgg183
  z37 := Tryz.sizeOf183
  v37 := Tryz.zeroValue183
  t46 := Tryz.underlying156
  a46 := Tryz.isAgg156
  z46 := Tryz.sizeOf156
  v46 := Tryz.zeroValue156
  t51 := Tryz.underlying200
  a51 := Tryz.isAgg200
  z51 := Tryz.sizeOf200
  v51 := Tryz.zeroValue200
  t53 := Tryz.underlying178
  a53 := Tryz.isAgg178
  z53 := Tryz.sizeOf178
  v53 := Tryz.zeroValue178
  t171 := Tryz.underlying252
  a171 := Tryz.isAgg252
  z171 := Tryz.sizeOf252
  v171 := Tryz.zeroValue252
  t173 := Tryz.underlying254
  a173 := Tryz.isAgg254
  z173 := Tryz.sizeOf254
  v173 := Tryz.zeroValue254
  t212 := Tryz.underlying272
  a212 := Tryz.isAgg272
  z212 := Tryz.sizeOf272
  v212 := Tryz.zeroValue272
  t213 := Tryz.underlying273
  a213 := Tryz.isAgg273
  z213 := Tryz.sizeOf273
  t232 := Tryz.underlying281
  a232 := Tryz.isAgg281
  z232 := Tryz.sizeOf281
  v232 := Tryz.zeroValue281
  t233 := Tryz.underlying282
  a233 := Tryz.isAgg282
  z233 := Tryz.sizeOf282
  v233 := Tryz.zeroValue282
  g17 := by kernel_rfl
  g18 := by kernel_rfl
  g19 := by kernel_rfl }
open Go.RowKit Go.Sort Go.Lib in
/-- THE ROAD WITHOUT THE TABLE: 0 <= i < 100: two constants are read, nothing is laid: no premise on the world, and the world is as it was. (LAID: no walk: one application.) -/
theorem Tryz.internal_strconv_FormatInt_10_small (i : Nat) (hi : i < 100) (w : World) :
    Calls Tryz.prog 208 #[.int .i64 i, .int .i64 10] w fun e w' => e = .returned (.string ⟨(Lib.decDigits i).toArray⟩) ∧ w' = w := Any.internal_strconv_FormatInt_10_small Tryz.lays246 i hi w
def Tryz.laysM243_ren : Go.Shelf.Ren := ⟨fun | 243 => 158 | 246 => 208 | 283 => 235 | 284 => 236 | 285 => 237 | 286 => 238 | 129 => 168 | 317 => 252 | 318 => 253 | 319 => 254 | 320 => 255 | 337 => 259 | 338 => 260 | n => n, fun | 3 => 3 | 9 => 9 | 2 => 2 | 4 => 4 | 171 => 252 | 0 => 0 | 53 => 178 | 37 => 183 | 5 => 5 | 173 => 254 | 212 => 272 | 51 => 200 | 20 => 20 | 213 => 273 | 46 => 156 | 232 => 281 | 233 => 282 | n => n, fun | 17 => 3 | 18 => 4 | 19 => 5 | n => n⟩
theorem Tryz.laysM243 : Go.Proofs.LaysM.n243 Tryz.prog Tryz.laysM243_ren := {
  mixed := by kernel_rfl
  f129 := Tryz.func168.trans (congrArg some (by kernel_rfl))
  f243 := Tryz.func158.trans (congrArg some (by kernel_rfl))
  f246 := Tryz.func208.trans (congrArg some (by kernel_rfl))
  f283 := Tryz.func235.trans (congrArg some (by kernel_rfl))
  f284 := Tryz.func236.trans (congrArg some (by kernel_rfl))
  f285 := Tryz.func237.trans (congrArg some (by kernel_rfl))
  f286 := Tryz.func238.trans (congrArg some (by kernel_rfl))
  f317 := Tryz.func252.trans (congrArg some (by kernel_rfl))
  f318 := Tryz.func253.trans (congrArg some (by kernel_rfl))
  f319 := Tryz.func254.trans (congrArg some (by kernel_rfl))
  f320 := Tryz.func255.trans (congrArg some (by kernel_rfl))
  f337 := Tryz.func259.trans (congrArg some (by kernel_rfl))
  f338 := Tryz.func260.trans (congrArg some (by kernel_rfl))
  t0 := Tryz.underlying0
  a0 := Tryz.isAgg0
  z0 := Tryz.sizeOf0
  v0 := Tryz.zeroValue0
  t2 := Tryz.underlying2
  a2 := Tryz.isAgg2
  z2 := Tryz.sizeOf2
  v2 := Tryz.zeroValue2
  t3 := Tryz.underlying3
  a3 := Tryz.isAgg3
  z3 := Tryz.sizeOf3
  v3 := Tryz.zeroValue3
  t4 := Tryz.underlying4
  a4 := Tryz.isAgg4
  z4 := Tryz.sizeOf4
  v4 := Tryz.zeroValue4
  t5 := Tryz.underlying5
  a5 := Tryz.isAgg5
  z5 := Tryz.sizeOf5
  v5 := Tryz.zeroValue5
  t9 := Tryz.underlying9
  a9 := Tryz.isAgg9
  z9 := Tryz.sizeOf9
  v9 := Tryz.zeroValue9
  t20 := Tryz.underlying20
  a20 := Tryz.isAgg20
  z20 := Tryz.sizeOf20
  v20 := Tryz.zeroValue20
  t37 := Tryz.underlying183
  a37 := Tryz.isAgg183
  z37 := Tryz.sizeOf183
  v37 := Tryz.zeroValue183
  t46 := Tryz.underlying156
  a46 := Tryz.isAgg156
  z46 := Tryz.sizeOf156
  v46 := Tryz.zeroValue156
  t51 := Tryz.underlying200
  a51 := Tryz.isAgg200
  z51 := Tryz.sizeOf200
  v51 := Tryz.zeroValue200
  t53 := Tryz.underlying178
  a53 := Tryz.isAgg178
  z53 := Tryz.sizeOf178
  v53 := Tryz.zeroValue178
  t171 := Tryz.underlying252
  a171 := Tryz.isAgg252
  z171 := Tryz.sizeOf252
  v171 := Tryz.zeroValue252
  t173 := Tryz.underlying254
  a173 := Tryz.isAgg254
  z173 := Tryz.sizeOf254
  v173 := Tryz.zeroValue254
  t212 := Tryz.underlying272
  a212 := Tryz.isAgg272
  z212 := Tryz.sizeOf272
  v212 := Tryz.zeroValue272
  t213 := Tryz.underlying273
  a213 := Tryz.isAgg273
  z213 := Tryz.sizeOf273
  t232 := Tryz.underlying281
  a232 := Tryz.isAgg281
  z232 := Tryz.sizeOf281
  v232 := Tryz.zeroValue281
  t233 := Tryz.underlying282
  a233 := Tryz.isAgg282
  z233 := Tryz.sizeOf282
  v233 := Tryz.zeroValue282
  g17 := by kernel_rfl
  g18 := by kernel_rfl
  g19 := by kernel_rfl
  i0 := by kernel_rfl
  i2 := by kernel_rfl
  i3 := by kernel_rfl
  i4 := by kernel_rfl
  i5 := by kernel_rfl
  i9 := by kernel_rfl
  i20 := by kernel_rfl
  i37 := by kernel_rfl
  i46 := by kernel_rfl
  i51 := by kernel_rfl
  i53 := by kernel_rfl
  i171 := by kernel_rfl
  i173 := by kernel_rfl
  i212 := by kernel_rfl
  i232 := by kernel_rfl
  i233 := by kernel_rfl
  m17 := by kernel_rfl
  m18 := by kernel_rfl
  m19 := by kernel_rfl }
open Go.RowKit Go.Sort Go.Lib in
/-- internal/strconv.Itoa: "Itoa is equivalent to FormatInt(int64(i), 10).": i's decimal numeral, for every int. (LAID: no walk: one application.) -/
theorem Tryz.internal_strconv_Itoa (n : Int) (h0 : -9223372036854775808 ≤ n) (h1 : n ≤ 9223372036854775807) (w : World) (htab : Lib.TabIs Tryz.prog w "internal/strconv.uint64pow10" .u64 Lib.pow10Tab) :
    Calls Tryz.prog 158 #[.int .i64 n] w fun e w' => e = .returned (.string ⟨(Lib.itoa n).toArray⟩) ∧ ∃ k os, w' = grow (w.drewN k) os := Any.internal_strconv_Itoa Tryz.laysM243 n h0 h1 w htab
def Tryz.lays243_ren : Go.Shelf.Ren := ⟨fun | 243 => 158 | 246 => 208 | 283 => 235 | 284 => 236 | 285 => 237 | 286 => 238 | 129 => 168 | 317 => 252 | 318 => 253 | 319 => 254 | 320 => 255 | 337 => 259 | 338 => 260 | n => n, fun | 3 => 3 | 9 => 9 | 2 => 2 | 4 => 4 | 171 => 252 | 0 => 0 | 53 => 178 | 37 => 183 | 5 => 5 | 173 => 254 | 212 => 272 | 51 => 200 | 20 => 20 | 213 => 273 | 46 => 156 | 232 => 281 | 233 => 282 | n => n, fun | 17 => 3 | 18 => 4 | 19 => 5 | n => n⟩
theorem Tryz.lays243 : Go.Proofs.Lays.n243 Tryz.prog Tryz.lays243_ren := {
  mixed := by kernel_rfl
  f129 := Tryz.func168.trans (congrArg some (by kernel_rfl))
  f243 := Tryz.func158.trans (congrArg some (by kernel_rfl))
  f246 := Tryz.func208.trans (congrArg some (by kernel_rfl))
  f283 := Tryz.func235.trans (congrArg some (by kernel_rfl))
  f284 := Tryz.func236.trans (congrArg some (by kernel_rfl))
  f285 := Tryz.func237.trans (congrArg some (by kernel_rfl))
  f286 := Tryz.func238.trans (congrArg some (by kernel_rfl))
  f317 := Tryz.func252.trans (congrArg some (by kernel_rfl))
  f318 := Tryz.func253.trans (congrArg some (by kernel_rfl))
  f319 := Tryz.func254.trans (congrArg some (by kernel_rfl))
  f320 := Tryz.func255.trans (congrArg some (by kernel_rfl))
  f337 := Tryz.func259.trans (congrArg some (by kernel_rfl))
  f338 := Tryz.func260.trans (congrArg some (by kernel_rfl))
  t0 := Tryz.underlying0
  a0 := Tryz.isAgg0
  z0 := Tryz.sizeOf0
  v0 := Tryz.zeroValue0
  t2 := Tryz.underlying2
  a2 := Tryz.isAgg2
  z2 := Tryz.sizeOf2
  v2 := Tryz.zeroValue2
  t3 := Tryz.underlying3
  a3 := Tryz.isAgg3
  z3 := Tryz.sizeOf3
  v3 := Tryz.zeroValue3
  t4 := Tryz.underlying4
  a4 := Tryz.isAgg4
  z4 := Tryz.sizeOf4
  v4 := Tryz.zeroValue4
  t5 := Tryz.underlying5
  a5 := Tryz.isAgg5
  z5 := Tryz.sizeOf5
  v5 := Tryz.zeroValue5
  t9 := Tryz.underlying9
  a9 := Tryz.isAgg9
  z9 := Tryz.sizeOf9
  v9 := Tryz.zeroValue9
  t20 := Tryz.underlying20
  a20 := Tryz.isAgg20
  z20 := Tryz.sizeOf20
  v20 := Tryz.zeroValue20
  t37 := Tryz.underlying183
  a37 := Tryz.isAgg183
  z37 := Tryz.sizeOf183
  v37 := Tryz.zeroValue183
  t46 := Tryz.underlying156
  a46 := Tryz.isAgg156
  z46 := Tryz.sizeOf156
  v46 := Tryz.zeroValue156
  t51 := Tryz.underlying200
  a51 := Tryz.isAgg200
  z51 := Tryz.sizeOf200
  v51 := Tryz.zeroValue200
  t53 := Tryz.underlying178
  a53 := Tryz.isAgg178
  z53 := Tryz.sizeOf178
  v53 := Tryz.zeroValue178
  t171 := Tryz.underlying252
  a171 := Tryz.isAgg252
  z171 := Tryz.sizeOf252
  v171 := Tryz.zeroValue252
  t173 := Tryz.underlying254
  a173 := Tryz.isAgg254
  z173 := Tryz.sizeOf254
  v173 := Tryz.zeroValue254
  t212 := Tryz.underlying272
  a212 := Tryz.isAgg272
  z212 := Tryz.sizeOf272
  v212 := Tryz.zeroValue272
  t213 := Tryz.underlying273
  a213 := Tryz.isAgg273
  z213 := Tryz.sizeOf273
  t232 := Tryz.underlying281
  a232 := Tryz.isAgg281
  z232 := Tryz.sizeOf281
  v232 := Tryz.zeroValue281
  t233 := Tryz.underlying282
  a233 := Tryz.isAgg282
  z233 := Tryz.sizeOf282
  v233 := Tryz.zeroValue282
  g17 := by kernel_rfl
  g18 := by kernel_rfl
  g19 := by kernel_rfl }
open Go.RowKit Go.Sort Go.Lib in
/-- THE ROAD WITHOUT THE TABLE: 0 <= i < 100. (LAID: no walk: one application.) -/
theorem Tryz.internal_strconv_Itoa_small (i : Nat) (hi : i < 100) (w : World) :
    Calls Tryz.prog 158 #[.int .i64 i] w fun e w' => e = .returned (.string ⟨(Lib.decDigits i).toArray⟩) ∧ w' = w := Any.internal_strconv_Itoa_small Tryz.lays243 i hi w
def Tryz.laysM171_ren : Go.Shelf.Ren := ⟨fun | 171 => 116 | 243 => 158 | 246 => 208 | 283 => 235 | 284 => 236 | 285 => 237 | 286 => 238 | 129 => 168 | 317 => 252 | 318 => 253 | 319 => 254 | 320 => 255 | 337 => 259 | 338 => 260 | n => n, fun | 3 => 3 | 9 => 9 | 2 => 2 | 4 => 4 | 171 => 252 | 0 => 0 | 53 => 178 | 37 => 183 | 5 => 5 | 173 => 254 | 212 => 272 | 51 => 200 | 20 => 20 | 213 => 273 | 46 => 156 | 232 => 281 | 233 => 282 | n => n, fun | 17 => 3 | 18 => 4 | 19 => 5 | n => n⟩
theorem Tryz.laysM171 : Go.Proofs.LaysM.n171 Tryz.prog Tryz.laysM171_ren := {
  mixed := by kernel_rfl
  f129 := Tryz.func168.trans (congrArg some (by kernel_rfl))
  f171 := Tryz.func116.trans (congrArg some (by kernel_rfl))
  f243 := Tryz.func158.trans (congrArg some (by kernel_rfl))
  f246 := Tryz.func208.trans (congrArg some (by kernel_rfl))
  f283 := Tryz.func235.trans (congrArg some (by kernel_rfl))
  f284 := Tryz.func236.trans (congrArg some (by kernel_rfl))
  f285 := Tryz.func237.trans (congrArg some (by kernel_rfl))
  f286 := Tryz.func238.trans (congrArg some (by kernel_rfl))
  f317 := Tryz.func252.trans (congrArg some (by kernel_rfl))
  f318 := Tryz.func253.trans (congrArg some (by kernel_rfl))
  f319 := Tryz.func254.trans (congrArg some (by kernel_rfl))
  f320 := Tryz.func255.trans (congrArg some (by kernel_rfl))
  f337 := Tryz.func259.trans (congrArg some (by kernel_rfl))
  f338 := Tryz.func260.trans (congrArg some (by kernel_rfl))
  t0 := Tryz.underlying0
  a0 := Tryz.isAgg0
  z0 := Tryz.sizeOf0
  v0 := Tryz.zeroValue0
  t2 := Tryz.underlying2
  a2 := Tryz.isAgg2
  z2 := Tryz.sizeOf2
  v2 := Tryz.zeroValue2
  t3 := Tryz.underlying3
  a3 := Tryz.isAgg3
  z3 := Tryz.sizeOf3
  v3 := Tryz.zeroValue3
  t4 := Tryz.underlying4
  a4 := Tryz.isAgg4
  z4 := Tryz.sizeOf4
  v4 := Tryz.zeroValue4
  t5 := Tryz.underlying5
  a5 := Tryz.isAgg5
  z5 := Tryz.sizeOf5
  v5 := Tryz.zeroValue5
  t9 := Tryz.underlying9
  a9 := Tryz.isAgg9
  z9 := Tryz.sizeOf9
  v9 := Tryz.zeroValue9
  t20 := Tryz.underlying20
  a20 := Tryz.isAgg20
  z20 := Tryz.sizeOf20
  v20 := Tryz.zeroValue20
  t37 := Tryz.underlying183
  a37 := Tryz.isAgg183
  z37 := Tryz.sizeOf183
  v37 := Tryz.zeroValue183
  t46 := Tryz.underlying156
  a46 := Tryz.isAgg156
  z46 := Tryz.sizeOf156
  v46 := Tryz.zeroValue156
  t51 := Tryz.underlying200
  a51 := Tryz.isAgg200
  z51 := Tryz.sizeOf200
  v51 := Tryz.zeroValue200
  t53 := Tryz.underlying178
  a53 := Tryz.isAgg178
  z53 := Tryz.sizeOf178
  v53 := Tryz.zeroValue178
  t171 := Tryz.underlying252
  a171 := Tryz.isAgg252
  z171 := Tryz.sizeOf252
  v171 := Tryz.zeroValue252
  t173 := Tryz.underlying254
  a173 := Tryz.isAgg254
  z173 := Tryz.sizeOf254
  v173 := Tryz.zeroValue254
  t212 := Tryz.underlying272
  a212 := Tryz.isAgg272
  z212 := Tryz.sizeOf272
  v212 := Tryz.zeroValue272
  t213 := Tryz.underlying273
  a213 := Tryz.isAgg273
  z213 := Tryz.sizeOf273
  t232 := Tryz.underlying281
  a232 := Tryz.isAgg281
  z232 := Tryz.sizeOf281
  v232 := Tryz.zeroValue281
  t233 := Tryz.underlying282
  a233 := Tryz.isAgg282
  z233 := Tryz.sizeOf282
  v233 := Tryz.zeroValue282
  g17 := by kernel_rfl
  g18 := by kernel_rfl
  g19 := by kernel_rfl
  i0 := by kernel_rfl
  i2 := by kernel_rfl
  i3 := by kernel_rfl
  i4 := by kernel_rfl
  i5 := by kernel_rfl
  i9 := by kernel_rfl
  i20 := by kernel_rfl
  i37 := by kernel_rfl
  i46 := by kernel_rfl
  i51 := by kernel_rfl
  i53 := by kernel_rfl
  i171 := by kernel_rfl
  i173 := by kernel_rfl
  i212 := by kernel_rfl
  i232 := by kernel_rfl
  i233 := by kernel_rfl
  m17 := by kernel_rfl
  m18 := by kernel_rfl
  m19 := by kernel_rfl }
open Go.RowKit Go.Sort Go.Lib in
/-- strconv.Itoa: "Itoa is equivalent to FormatInt(int64(i), 10).": i's DECIMAL NUMERAL ('Lib.itoa': a '-' where i is negative, then the digits), FOR EVERY int. The world behind the call: the world before it, new blocks behind the heap (the library's 'var a [24]byte'), draws. (LAID: no walk: one application.) -/
theorem Tryz.strconv_Itoa (n : Int) (h0 : -9223372036854775808 ≤ n) (h1 : n ≤ 9223372036854775807) (w : World) (htab : Lib.TabIs Tryz.prog w "internal/strconv.uint64pow10" .u64 Lib.pow10Tab) :
    Calls Tryz.prog 116 #[.int .i64 n] w fun e w' => e = .returned (.string ⟨(Lib.itoa n).toArray⟩) ∧ ∃ k os, w' = grow (w.drewN k) os := Any.strconv_Itoa Tryz.laysM171 n h0 h1 w htab
def Tryz.lays171_ren : Go.Shelf.Ren := ⟨fun | 171 => 116 | 243 => 158 | 246 => 208 | 283 => 235 | 284 => 236 | 285 => 237 | 286 => 238 | 129 => 168 | 317 => 252 | 318 => 253 | 319 => 254 | 320 => 255 | 337 => 259 | 338 => 260 | n => n, fun | 3 => 3 | 9 => 9 | 2 => 2 | 4 => 4 | 171 => 252 | 0 => 0 | 53 => 178 | 37 => 183 | 5 => 5 | 173 => 254 | 212 => 272 | 51 => 200 | 20 => 20 | 213 => 273 | 46 => 156 | 232 => 281 | 233 => 282 | n => n, fun | 17 => 3 | 18 => 4 | 19 => 5 | n => n⟩
theorem Tryz.lays171 : Go.Proofs.Lays.n171 Tryz.prog Tryz.lays171_ren := {
  mixed := by kernel_rfl
  f129 := Tryz.func168.trans (congrArg some (by kernel_rfl))
  f171 := Tryz.func116.trans (congrArg some (by kernel_rfl))
  f243 := Tryz.func158.trans (congrArg some (by kernel_rfl))
  f246 := Tryz.func208.trans (congrArg some (by kernel_rfl))
  f283 := Tryz.func235.trans (congrArg some (by kernel_rfl))
  f284 := Tryz.func236.trans (congrArg some (by kernel_rfl))
  f285 := Tryz.func237.trans (congrArg some (by kernel_rfl))
  f286 := Tryz.func238.trans (congrArg some (by kernel_rfl))
  f317 := Tryz.func252.trans (congrArg some (by kernel_rfl))
  f318 := Tryz.func253.trans (congrArg some (by kernel_rfl))
  f319 := Tryz.func254.trans (congrArg some (by kernel_rfl))
  f320 := Tryz.func255.trans (congrArg some (by kernel_rfl))
  f337 := Tryz.func259.trans (congrArg some (by kernel_rfl))
  f338 := Tryz.func260.trans (congrArg some (by kernel_rfl))
  t0 := Tryz.underlying0
  a0 := Tryz.isAgg0
  z0 := Tryz.sizeOf0
  v0 := Tryz.zeroValue0
  t2 := Tryz.underlying2
  a2 := Tryz.isAgg2
  z2 := Tryz.sizeOf2
  v2 := Tryz.zeroValue2
  t3 := Tryz.underlying3
  a3 := Tryz.isAgg3
  z3 := Tryz.sizeOf3
  v3 := Tryz.zeroValue3
  t4 := Tryz.underlying4
  a4 := Tryz.isAgg4
  z4 := Tryz.sizeOf4
  v4 := Tryz.zeroValue4
  t5 := Tryz.underlying5
  a5 := Tryz.isAgg5
  z5 := Tryz.sizeOf5
  v5 := Tryz.zeroValue5
  t9 := Tryz.underlying9
  a9 := Tryz.isAgg9
  z9 := Tryz.sizeOf9
  v9 := Tryz.zeroValue9
  t20 := Tryz.underlying20
  a20 := Tryz.isAgg20
  z20 := Tryz.sizeOf20
  v20 := Tryz.zeroValue20
  t37 := Tryz.underlying183
  a37 := Tryz.isAgg183
  z37 := Tryz.sizeOf183
  v37 := Tryz.zeroValue183
  t46 := Tryz.underlying156
  a46 := Tryz.isAgg156
  z46 := Tryz.sizeOf156
  v46 := Tryz.zeroValue156
  t51 := Tryz.underlying200
  a51 := Tryz.isAgg200
  z51 := Tryz.sizeOf200
  v51 := Tryz.zeroValue200
  t53 := Tryz.underlying178
  a53 := Tryz.isAgg178
  z53 := Tryz.sizeOf178
  v53 := Tryz.zeroValue178
  t171 := Tryz.underlying252
  a171 := Tryz.isAgg252
  z171 := Tryz.sizeOf252
  v171 := Tryz.zeroValue252
  t173 := Tryz.underlying254
  a173 := Tryz.isAgg254
  z173 := Tryz.sizeOf254
  v173 := Tryz.zeroValue254
  t212 := Tryz.underlying272
  a212 := Tryz.isAgg272
  z212 := Tryz.sizeOf272
  v212 := Tryz.zeroValue272
  t213 := Tryz.underlying273
  a213 := Tryz.isAgg273
  z213 := Tryz.sizeOf273
  t232 := Tryz.underlying281
  a232 := Tryz.isAgg281
  z232 := Tryz.sizeOf281
  v232 := Tryz.zeroValue281
  t233 := Tryz.underlying282
  a233 := Tryz.isAgg282
  z233 := Tryz.sizeOf282
  v233 := Tryz.zeroValue282
  g17 := by kernel_rfl
  g18 := by kernel_rfl
  g19 := by kernel_rfl }
open Go.RowKit Go.Sort Go.Lib in
/-- THE ROAD WITHOUT THE TABLE: 0 <= i < 100: NO PREMISE ON THE WORLD, AND THE WORLD IS AS IT WAS: a row that keeps its argument in that range need list no table ('laid = []'). (LAID: no walk: one application.) -/
theorem Tryz.strconv_Itoa_small (i : Nat) (hi : i < 100) (w : World) :
    Calls Tryz.prog 116 #[.int .i64 i] w fun e w' => e = .returned (.string ⟨(Lib.decDigits i).toArray⟩) ∧ w' = w := Any.strconv_Itoa_small Tryz.lays171 i hi w
def Tryz.lays217_ren : Go.Shelf.Ren := ⟨fun | 217 => 142 | 266 => 191 | n => n, fun | 9 => 9 | 5 => 5 | 3 => 3 | n => n, fun | n => n⟩
theorem Tryz.lays217 : Go.Proofs.Lays.n217 Tryz.prog Tryz.lays217_ren := {
  mixed := by kernel_rfl
  f217 := Tryz.func142.trans (congrArg some (by kernel_rfl))
  f266 := Tryz.func191.trans (congrArg some (by kernel_rfl))
  t3 := Tryz.underlying3
  a3 := Tryz.isAgg3
  z3 := Tryz.sizeOf3
  v3 := Tryz.zeroValue3
  t5 := Tryz.underlying5
  a5 := Tryz.isAgg5
  z5 := Tryz.sizeOf5
  v5 := Tryz.zeroValue5
  t9 := Tryz.underlying9
  a9 := Tryz.isAgg9
  z9 := Tryz.sizeOf9
  v9 := Tryz.zeroValue9 }
open Go.RowKit Go.Lib in
/-- internal/stringslite.IndexByte (what strings.IndexByte calls): IT RETURNS 'Lib.indexByte s c'; the world is as it was. (LAID: no walk: one application.) -/
theorem Tryz.stringslite_IndexByte (s : ByteArray) (c : Int) (w : World) :
    Calls Tryz.prog 142 #[.string s, .int .u8 c] w fun e w' => e = .returned (.int .i64 (Lib.indexByte s.data.toList c.toNat.toUInt8)) ∧ w' = w := Any.stringslite_IndexByte Tryz.lays217 s c w
def Tryz.lays224_ren : Go.Shelf.Ren := ⟨fun | 224 => 220 | n => n, fun | 3 => 3 | n => n, fun | n => n⟩
theorem Tryz.lays224 : Go.Proofs.Lays.n224 Tryz.prog Tryz.lays224_ren := {
  mixed := by kernel_rfl
  f224 := Tryz.func220.trans (congrArg some (by kernel_rfl))
  t3 := Tryz.underlying3
  a3 := Tryz.isAgg3
  z3 := Tryz.sizeOf3
  v3 := Tryz.zeroValue3 }
open Go.RowKit Go.Lib in
/-- internal/bytealg.Cutover: "Cutover reports the number of failures of IndexByte we should tolerate before switching over to Index. n is the number of bytes processed so far.": on amd64: (n + 16) / 8. (LAID: no walk: one application.) -/
theorem Tryz.bytealg_Cutover (n : Int) (h0 : 0 ≤ n) (h1 : n < 4611686018427387904) (w : World) :
    Calls Tryz.prog 220 #[.int .i64 n] w fun e w' => e = .returned (.int .i64 ((n + 16) / 8)) ∧ w' = w := Any.bytealg_Cutover Tryz.lays224 n h0 h1 w
def Tryz.lays314_ren : Go.Shelf.Ren := ⟨fun | 314 => 249 | n => n, fun | 9 => 9 | 51 => 200 | 3 => 3 | 4 => 4 | 5 => 5 | 46 => 156 | n => n, fun | n => n⟩
theorem Tryz.lays314 : Go.Proofs.Lays.n314 Tryz.prog Tryz.lays314_ren := {
  mixed := by kernel_rfl
  f314 := Tryz.func249.trans (congrArg some (by kernel_rfl))
  t3 := Tryz.underlying3
  a3 := Tryz.isAgg3
  z3 := Tryz.sizeOf3
  v3 := Tryz.zeroValue3
  t4 := Tryz.underlying4
  a4 := Tryz.isAgg4
  z4 := Tryz.sizeOf4
  v4 := Tryz.zeroValue4
  t5 := Tryz.underlying5
  a5 := Tryz.isAgg5
  z5 := Tryz.sizeOf5
  v5 := Tryz.zeroValue5
  t9 := Tryz.underlying9
  a9 := Tryz.isAgg9
  z9 := Tryz.sizeOf9
  v9 := Tryz.zeroValue9
  t46 := Tryz.underlying156
  a46 := Tryz.isAgg156
  z46 := Tryz.sizeOf156
  v46 := Tryz.zeroValue156
  t51 := Tryz.underlying200
  a51 := Tryz.isAgg200
  z51 := Tryz.sizeOf200
  v51 := Tryz.zeroValue200 }
open Go.RowKit Go.Lib in
/-- hashStr: "returns the hash and the appropriate multiplicative factor for use in Rabin-Karp algorithm": THE HASH OF ALL OF sep, AND 16777619 ^ len(sep), both in uint32. (LAID: no walk: one application.) -/
theorem Tryz.bytealg_hashStr (sep : ByteArray) (hs : sep.size < 4294967281) (w : World) :
    Calls Tryz.prog 249 #[.string sep] w fun e w' => e = .returned (.tuple #[.int .u32 (RK.H sep.data.toList % 4294967296), .int .u32 (16777619 ^ sep.size % 4294967296)]) ∧ w' = w := Any.bytealg_hashStr Tryz.lays314 sep hs w
def Tryz.lays267_ren : Go.Shelf.Ren := ⟨fun | 267 => 221 | 314 => 249 | n => n, fun | 9 => 9 | 3 => 3 | 146 => 265 | 51 => 200 | 4 => 4 | 5 => 5 | 46 => 156 | n => n, fun | n => n⟩
theorem Tryz.lays267 : Go.Proofs.Lays.n267 Tryz.prog Tryz.lays267_ren := {
  mixed := by kernel_rfl
  f267 := Tryz.func221.trans (congrArg some (by kernel_rfl))
  f314 := Tryz.func249.trans (congrArg some (by kernel_rfl))
  t3 := Tryz.underlying3
  a3 := Tryz.isAgg3
  z3 := Tryz.sizeOf3
  v3 := Tryz.zeroValue3
  t4 := Tryz.underlying4
  a4 := Tryz.isAgg4
  z4 := Tryz.sizeOf4
  v4 := Tryz.zeroValue4
  t5 := Tryz.underlying5
  a5 := Tryz.isAgg5
  z5 := Tryz.sizeOf5
  v5 := Tryz.zeroValue5
  t9 := Tryz.underlying9
  a9 := Tryz.isAgg9
  z9 := Tryz.sizeOf9
  v9 := Tryz.zeroValue9
  t46 := Tryz.underlying156
  a46 := Tryz.isAgg156
  z46 := Tryz.sizeOf156
  v46 := Tryz.zeroValue156
  t51 := Tryz.underlying200
  a51 := Tryz.isAgg200
  z51 := Tryz.sizeOf200
  v51 := Tryz.zeroValue200
  t146 := Tryz.underlying265
  a146 := Tryz.isAgg265
  z146 := Tryz.sizeOf265
  v146 := Tryz.zeroValue265 }
open Go.RowKit Go.Lib in
theorem Tryz.bytealg_IndexRabinKarp (s sep : ByteArray) (h1 : 1 ≤ sep.size) (h2 : sep.size ≤ s.size) (hs : s.size < 4294967281) (w : World) :
    Calls Tryz.prog 221 #[.string s, .string sep] w fun e w' => e = .returned (.int .i64 (Lib.index s.data.toList sep.data.toList)) ∧ w' = w := Any.bytealg_IndexRabinKarp Tryz.lays267 s sep h1 h2 hs w
def Tryz.lays219_ren : Go.Shelf.Ren := ⟨fun | 219 => 188 | 217 => 142 | 225 => 219 | 224 => 220 | 267 => 221 | 266 => 191 | 314 => 249 | n => n, fun | 9 => 9 | 3 => 3 | 4 => 4 | 5 => 5 | 46 => 156 | 146 => 265 | 51 => 200 | n => n, fun | 1 => 0 | n => n⟩
theorem Tryz.lays219 : Go.Proofs.Lays.n219 Tryz.prog Tryz.lays219_ren := {
  mixed := by kernel_rfl
  f217 := Tryz.func142.trans (congrArg some (by kernel_rfl))
  f219 := Tryz.func188.trans (congrArg some (by kernel_rfl))
  f224 := Tryz.func220.trans (congrArg some (by kernel_rfl))
  f225 := Tryz.func219.trans (congrArg some (by kernel_rfl))
  f266 := Tryz.func191.trans (congrArg some (by kernel_rfl))
  f267 := Tryz.func221.trans (congrArg some (by kernel_rfl))
  f314 := Tryz.func249.trans (congrArg some (by kernel_rfl))
  t3 := Tryz.underlying3
  a3 := Tryz.isAgg3
  z3 := Tryz.sizeOf3
  v3 := Tryz.zeroValue3
  t4 := Tryz.underlying4
  a4 := Tryz.isAgg4
  z4 := Tryz.sizeOf4
  v4 := Tryz.zeroValue4
  t5 := Tryz.underlying5
  a5 := Tryz.isAgg5
  z5 := Tryz.sizeOf5
  v5 := Tryz.zeroValue5
  t9 := Tryz.underlying9
  a9 := Tryz.isAgg9
  z9 := Tryz.sizeOf9
  v9 := Tryz.zeroValue9
  t46 := Tryz.underlying156
  a46 := Tryz.isAgg156
  z46 := Tryz.sizeOf156
  v46 := Tryz.zeroValue156
  t51 := Tryz.underlying200
  a51 := Tryz.isAgg200
  z51 := Tryz.sizeOf200
  v51 := Tryz.zeroValue200
  t146 := Tryz.underlying265
  a146 := Tryz.isAgg265
  z146 := Tryz.sizeOf265
  v146 := Tryz.zeroValue265
  g1 := by kernel_rfl }
open Go.RowKit Go.Lib in
/-- internal/stringslite.Index (what strings.Index calls) AT A substr OF ONE BYTE c: IT RETURNS 'Lib.indexByte s c'; the world is as it was. (LAID: no walk: one application.) -/
theorem Tryz.stringslite_Index_one (s : ByteArray) (c : UInt8) (w : World) :
    Calls Tryz.prog 188 #[.string s, .string ⟨#[c]⟩] w fun e w' => e = .returned (.int .i64 (Lib.indexByte s.data.toList c)) ∧ w' = w := Any.stringslite_Index_one Tryz.lays219 s c w
open Go.RowKit Go.Lib in
/-- internal/stringslite.Index (what strings.Index calls) AT A substr OF WHATEVER LENGTH: IT RETURNS 'Lib.index s substr'; the world is as it was. 'm': what internal/bytealg.MaxLen holds: whatever. (LAID: no walk: one application.) -/
theorem Tryz.stringslite_Index (s sub : ByteArray) (m : Int) (w : World) (hs : s.size < 4294967281) (hm : w.cell? ⟨0, 0, none⟩ = some (.int .i64 m)) :
    Calls Tryz.prog 188 #[.string s, .string sub] w fun e w' => e = .returned (.int .i64 (Lib.index s.data.toList sub.data.toList)) ∧ w' = w := Any.stringslite_Index Tryz.lays219 s sub m w hs hm
def Tryz.lays220_ren : Go.Shelf.Ren := ⟨fun | 220 => 137 | 219 => 188 | 217 => 142 | 225 => 219 | 224 => 220 | 267 => 221 | 266 => 191 | 314 => 249 | n => n, fun | 9 => 9 | 4 => 4 | 3 => 3 | 5 => 5 | 46 => 156 | 146 => 265 | 51 => 200 | n => n, fun | 1 => 0 | n => n⟩
theorem Tryz.lays220 : Go.Proofs.Lays.n220 Tryz.prog Tryz.lays220_ren := {
  mixed := by kernel_rfl
  f217 := Tryz.func142.trans (congrArg some (by kernel_rfl))
  f219 := Tryz.func188.trans (congrArg some (by kernel_rfl))
  f220 := Tryz.func137.trans (congrArg some (by kernel_rfl))
  f224 := Tryz.func220.trans (congrArg some (by kernel_rfl))
  f225 := Tryz.func219.trans (congrArg some (by kernel_rfl))
  f266 := Tryz.func191.trans (congrArg some (by kernel_rfl))
  f267 := Tryz.func221.trans (congrArg some (by kernel_rfl))
  f314 := Tryz.func249.trans (congrArg some (by kernel_rfl))
  t3 := Tryz.underlying3
  a3 := Tryz.isAgg3
  z3 := Tryz.sizeOf3
  v3 := Tryz.zeroValue3
  t4 := Tryz.underlying4
  a4 := Tryz.isAgg4
  z4 := Tryz.sizeOf4
  v4 := Tryz.zeroValue4
  t5 := Tryz.underlying5
  a5 := Tryz.isAgg5
  z5 := Tryz.sizeOf5
  v5 := Tryz.zeroValue5
  t9 := Tryz.underlying9
  a9 := Tryz.isAgg9
  z9 := Tryz.sizeOf9
  v9 := Tryz.zeroValue9
  t46 := Tryz.underlying156
  a46 := Tryz.isAgg156
  z46 := Tryz.sizeOf156
  v46 := Tryz.zeroValue156
  t51 := Tryz.underlying200
  a51 := Tryz.isAgg200
  z51 := Tryz.sizeOf200
  v51 := Tryz.zeroValue200
  t146 := Tryz.underlying265
  a146 := Tryz.isAgg265
  z146 := Tryz.sizeOf265
  v146 := Tryz.zeroValue265
  g1 := by kernel_rfl }
open Go.RowKit Go.Lib in
/-- internal/stringslite.Cut (what strings.Cut calls): IT RETURNS 'Lib.cut s sep'; the world is as it was but for the count of draws. (LAID: no walk: one application.) -/
theorem Tryz.stringslite_Cut (s sep : ByteArray) (m : Int) (w : World) (hs : s.size < 4294967281) (hm : w.cell? ⟨0, 0, none⟩ = some (.int .i64 m)) :
    Calls Tryz.prog 137 #[.string s, .string sep] w fun e w' => e = .returned (.tuple #[.string ⟨(Lib.cut s.data.toList sep.data.toList).1.toArray⟩, .string ⟨(Lib.cut s.data.toList sep.data.toList).2.1.toArray⟩, .bool (Lib.cut s.data.toList sep.data.toList).2.2]) ∧ ∃ n, w' = w.drewN n := Any.stringslite_Cut Tryz.lays220 s sep m w hs hm
def Tryz.lays145_ren : Go.Shelf.Ren := ⟨fun | 145 => 99 | 220 => 137 | 219 => 188 | 217 => 142 | 225 => 219 | 224 => 220 | 267 => 221 | 266 => 191 | 314 => 249 | n => n, fun | 9 => 9 | 4 => 4 | 59 => 133 | 3 => 3 | 5 => 5 | 46 => 156 | 146 => 265 | 51 => 200 | n => n, fun | 1 => 0 | n => n⟩
theorem Tryz.lays145 : Go.Proofs.Lays.n145 Tryz.prog Tryz.lays145_ren := {
  mixed := by kernel_rfl
  f145 := Tryz.func99.trans (congrArg some (by kernel_rfl))
  f217 := Tryz.func142.trans (congrArg some (by kernel_rfl))
  f219 := Tryz.func188.trans (congrArg some (by kernel_rfl))
  f220 := Tryz.func137.trans (congrArg some (by kernel_rfl))
  f224 := Tryz.func220.trans (congrArg some (by kernel_rfl))
  f225 := Tryz.func219.trans (congrArg some (by kernel_rfl))
  f266 := Tryz.func191.trans (congrArg some (by kernel_rfl))
  f267 := Tryz.func221.trans (congrArg some (by kernel_rfl))
  f314 := Tryz.func249.trans (congrArg some (by kernel_rfl))
  t3 := Tryz.underlying3
  a3 := Tryz.isAgg3
  z3 := Tryz.sizeOf3
  v3 := Tryz.zeroValue3
  t4 := Tryz.underlying4
  a4 := Tryz.isAgg4
  z4 := Tryz.sizeOf4
  v4 := Tryz.zeroValue4
  t5 := Tryz.underlying5
  a5 := Tryz.isAgg5
  z5 := Tryz.sizeOf5
  v5 := Tryz.zeroValue5
  t9 := Tryz.underlying9
  a9 := Tryz.isAgg9
  z9 := Tryz.sizeOf9
  v9 := Tryz.zeroValue9
  t46 := Tryz.underlying156
  a46 := Tryz.isAgg156
  z46 := Tryz.sizeOf156
  v46 := Tryz.zeroValue156
  t51 := Tryz.underlying200
  a51 := Tryz.isAgg200
  z51 := Tryz.sizeOf200
  v51 := Tryz.zeroValue200
  t59 := Tryz.underlying133
  a59 := Tryz.isAgg133
  z59 := Tryz.sizeOf133
  v59 := Tryz.zeroValue133
  t146 := Tryz.underlying265
  a146 := Tryz.isAgg265
  z146 := Tryz.sizeOf265
  v146 := Tryz.zeroValue265
  g1 := by kernel_rfl }
open Go.RowKit Go.Lib in
/-- strings.Cut: "Cut slices s around the first instance of sep, returning the text before and after sep. The found result reports whether sep appears in s. If sep does not appear in s, cut returns s, "", false.": IT RETURNS 'Lib.cut s sep'; the world is as it was but for the count of draws. (LAID: no walk: one application.) -/
theorem Tryz.strings_Cut (s sep : ByteArray) (m : Int) (w : World) (hs : s.size < 4294967281) (hm : w.cell? ⟨0, 0, none⟩ = some (.int .i64 m)) :
    Calls Tryz.prog 99 #[.string s, .string sep] w fun e w' => e = .returned (.tuple #[.string ⟨(Lib.cut s.data.toList sep.data.toList).1.toArray⟩, .string ⟨(Lib.cut s.data.toList sep.data.toList).2.1.toArray⟩, .bool (Lib.cut s.data.toList sep.data.toList).2.2]) ∧ ∃ n, w' = w.drewN n := Any.strings_Cut Tryz.lays145 s sep m w hs hm
def Tryz.laysM219_ren : Go.Shelf.Ren := ⟨fun | 219 => 188 | 217 => 142 | 225 => 219 | 224 => 220 | 267 => 221 | 266 => 191 | 314 => 249 | n => n, fun | 9 => 9 | 3 => 3 | 4 => 4 | 5 => 5 | 46 => 156 | 146 => 265 | 51 => 200 | n => n, fun | 1 => 0 | n => n⟩
theorem Tryz.laysM219 : Go.Proofs.LaysM.n219 Tryz.prog Tryz.laysM219_ren := {
  mixed := by kernel_rfl
  f217 := Tryz.func142.trans (congrArg some (by kernel_rfl))
  f219 := Tryz.func188.trans (congrArg some (by kernel_rfl))
  f224 := Tryz.func220.trans (congrArg some (by kernel_rfl))
  f225 := Tryz.func219.trans (congrArg some (by kernel_rfl))
  f266 := Tryz.func191.trans (congrArg some (by kernel_rfl))
  f267 := Tryz.func221.trans (congrArg some (by kernel_rfl))
  f314 := Tryz.func249.trans (congrArg some (by kernel_rfl))
  t3 := Tryz.underlying3
  a3 := Tryz.isAgg3
  z3 := Tryz.sizeOf3
  v3 := Tryz.zeroValue3
  t4 := Tryz.underlying4
  a4 := Tryz.isAgg4
  z4 := Tryz.sizeOf4
  v4 := Tryz.zeroValue4
  t5 := Tryz.underlying5
  a5 := Tryz.isAgg5
  z5 := Tryz.sizeOf5
  v5 := Tryz.zeroValue5
  t9 := Tryz.underlying9
  a9 := Tryz.isAgg9
  z9 := Tryz.sizeOf9
  v9 := Tryz.zeroValue9
  t46 := Tryz.underlying156
  a46 := Tryz.isAgg156
  z46 := Tryz.sizeOf156
  v46 := Tryz.zeroValue156
  t51 := Tryz.underlying200
  a51 := Tryz.isAgg200
  z51 := Tryz.sizeOf200
  v51 := Tryz.zeroValue200
  t146 := Tryz.underlying265
  a146 := Tryz.isAgg265
  z146 := Tryz.sizeOf265
  v146 := Tryz.zeroValue265
  g1 := by kernel_rfl
  i3 := by kernel_rfl
  i4 := by kernel_rfl
  i5 := by kernel_rfl
  i9 := by kernel_rfl
  i46 := by kernel_rfl
  i51 := by kernel_rfl
  i146 := by kernel_rfl
  m1 := by kernel_rfl
  s1_3 := fun w h => Go.Proofs.cell_of_shapedOpen_int (zero := #[.int .i64 0]) (t := 3) h (of_decide_eq_true (by kernel_rfl)) (by kernel_rfl) rfl (by kernel_rfl) (by kernel_rfl) Tryz.underlying3 }
open Go.RowKit Go.Lib in
theorem Tryz.stringslite_Index_shaped (s sub : ByteArray) (w : World) (h : w.ShapedOpen Tryz.prog) (hs : s.size < 4294967281) :
    Calls Tryz.prog 188 #[.string s, .string sub] w fun e w' => e = .returned (.int .i64 (Lib.index s.data.toList sub.data.toList)) ∧ w' = w := Any.stringslite_Index_shaped Tryz.laysM219 s sub w h hs
def Tryz.laysM220_ren : Go.Shelf.Ren := ⟨fun | 220 => 137 | 219 => 188 | 217 => 142 | 225 => 219 | 224 => 220 | 267 => 221 | 266 => 191 | 314 => 249 | n => n, fun | 9 => 9 | 4 => 4 | 3 => 3 | 5 => 5 | 46 => 156 | 146 => 265 | 51 => 200 | n => n, fun | 1 => 0 | n => n⟩
theorem Tryz.laysM220 : Go.Proofs.LaysM.n220 Tryz.prog Tryz.laysM220_ren := {
  mixed := by kernel_rfl
  f217 := Tryz.func142.trans (congrArg some (by kernel_rfl))
  f219 := Tryz.func188.trans (congrArg some (by kernel_rfl))
  f220 := Tryz.func137.trans (congrArg some (by kernel_rfl))
  f224 := Tryz.func220.trans (congrArg some (by kernel_rfl))
  f225 := Tryz.func219.trans (congrArg some (by kernel_rfl))
  f266 := Tryz.func191.trans (congrArg some (by kernel_rfl))
  f267 := Tryz.func221.trans (congrArg some (by kernel_rfl))
  f314 := Tryz.func249.trans (congrArg some (by kernel_rfl))
  t3 := Tryz.underlying3
  a3 := Tryz.isAgg3
  z3 := Tryz.sizeOf3
  v3 := Tryz.zeroValue3
  t4 := Tryz.underlying4
  a4 := Tryz.isAgg4
  z4 := Tryz.sizeOf4
  v4 := Tryz.zeroValue4
  t5 := Tryz.underlying5
  a5 := Tryz.isAgg5
  z5 := Tryz.sizeOf5
  v5 := Tryz.zeroValue5
  t9 := Tryz.underlying9
  a9 := Tryz.isAgg9
  z9 := Tryz.sizeOf9
  v9 := Tryz.zeroValue9
  t46 := Tryz.underlying156
  a46 := Tryz.isAgg156
  z46 := Tryz.sizeOf156
  v46 := Tryz.zeroValue156
  t51 := Tryz.underlying200
  a51 := Tryz.isAgg200
  z51 := Tryz.sizeOf200
  v51 := Tryz.zeroValue200
  t146 := Tryz.underlying265
  a146 := Tryz.isAgg265
  z146 := Tryz.sizeOf265
  v146 := Tryz.zeroValue265
  g1 := by kernel_rfl
  i3 := by kernel_rfl
  i4 := by kernel_rfl
  i5 := by kernel_rfl
  i9 := by kernel_rfl
  i46 := by kernel_rfl
  i51 := by kernel_rfl
  i146 := by kernel_rfl
  m1 := by kernel_rfl
  s1_3 := fun w h => Go.Proofs.cell_of_shapedOpen_int (zero := #[.int .i64 0]) (t := 3) h (of_decide_eq_true (by kernel_rfl)) (by kernel_rfl) rfl (by kernel_rfl) (by kernel_rfl) Tryz.underlying3 }
open Go.RowKit Go.Lib in
theorem Tryz.stringslite_Cut_shaped (s sep : ByteArray) (w : World) (h : w.ShapedOpen Tryz.prog) (hs : s.size < 4294967281) :
    Calls Tryz.prog 137 #[.string s, .string sep] w fun e w' => e = .returned (.tuple #[.string ⟨(Lib.cut s.data.toList sep.data.toList).1.toArray⟩, .string ⟨(Lib.cut s.data.toList sep.data.toList).2.1.toArray⟩, .bool (Lib.cut s.data.toList sep.data.toList).2.2]) ∧ ∃ n, w' = w.drewN n := Any.stringslite_Cut_shaped Tryz.laysM220 s sep w h hs
def Tryz.laysM145_ren : Go.Shelf.Ren := ⟨fun | 145 => 99 | 220 => 137 | 219 => 188 | 217 => 142 | 225 => 219 | 224 => 220 | 267 => 221 | 266 => 191 | 314 => 249 | n => n, fun | 9 => 9 | 4 => 4 | 59 => 133 | 3 => 3 | 5 => 5 | 46 => 156 | 146 => 265 | 51 => 200 | n => n, fun | 1 => 0 | n => n⟩
theorem Tryz.laysM145 : Go.Proofs.LaysM.n145 Tryz.prog Tryz.laysM145_ren := {
  mixed := by kernel_rfl
  f145 := Tryz.func99.trans (congrArg some (by kernel_rfl))
  f217 := Tryz.func142.trans (congrArg some (by kernel_rfl))
  f219 := Tryz.func188.trans (congrArg some (by kernel_rfl))
  f220 := Tryz.func137.trans (congrArg some (by kernel_rfl))
  f224 := Tryz.func220.trans (congrArg some (by kernel_rfl))
  f225 := Tryz.func219.trans (congrArg some (by kernel_rfl))
  f266 := Tryz.func191.trans (congrArg some (by kernel_rfl))
  f267 := Tryz.func221.trans (congrArg some (by kernel_rfl))
  f314 := Tryz.func249.trans (congrArg some (by kernel_rfl))
  t3 := Tryz.underlying3
  a3 := Tryz.isAgg3
  z3 := Tryz.sizeOf3
  v3 := Tryz.zeroValue3
  t4 := Tryz.underlying4
  a4 := Tryz.isAgg4
  z4 := Tryz.sizeOf4
  v4 := Tryz.zeroValue4
  t5 := Tryz.underlying5
  a5 := Tryz.isAgg5
  z5 := Tryz.sizeOf5
  v5 := Tryz.zeroValue5
  t9 := Tryz.underlying9
  a9 := Tryz.isAgg9
  z9 := Tryz.sizeOf9
  v9 := Tryz.zeroValue9
  t46 := Tryz.underlying156
  a46 := Tryz.isAgg156
  z46 := Tryz.sizeOf156
  v46 := Tryz.zeroValue156
  t51 := Tryz.underlying200
  a51 := Tryz.isAgg200
  z51 := Tryz.sizeOf200
  v51 := Tryz.zeroValue200
  t59 := Tryz.underlying133
  a59 := Tryz.isAgg133
  z59 := Tryz.sizeOf133
  v59 := Tryz.zeroValue133
  t146 := Tryz.underlying265
  a146 := Tryz.isAgg265
  z146 := Tryz.sizeOf265
  v146 := Tryz.zeroValue265
  g1 := by kernel_rfl
  i3 := by kernel_rfl
  i4 := by kernel_rfl
  i5 := by kernel_rfl
  i9 := by kernel_rfl
  i46 := by kernel_rfl
  i51 := by kernel_rfl
  i59 := by kernel_rfl
  i146 := by kernel_rfl
  m1 := by kernel_rfl
  s1_3 := fun w h => Go.Proofs.cell_of_shapedOpen_int (zero := #[.int .i64 0]) (t := 3) h (of_decide_eq_true (by kernel_rfl)) (by kernel_rfl) rfl (by kernel_rfl) (by kernel_rfl) Tryz.underlying3 }
open Go.RowKit Go.Lib in
theorem Tryz.strings_Cut_shaped (s sep : ByteArray) (w : World) (h : w.ShapedOpen Tryz.prog) (hs : s.size < 4294967281) :
    Calls Tryz.prog 99 #[.string s, .string sep] w fun e w' => e = .returned (.tuple #[.string ⟨(Lib.cut s.data.toList sep.data.toList).1.toArray⟩, .string ⟨(Lib.cut s.data.toList sep.data.toList).2.1.toArray⟩, .bool (Lib.cut s.data.toList sep.data.toList).2.2]) ∧ ∃ n, w' = w.drewN n := Any.strings_Cut_shaped Tryz.laysM145 s sep w h hs
end Go.Proofs
end

section
/- Contracts of the library's leaves. -/
open Go Go.Proofs
set_option linter.unusedSimpArgs false
set_option linter.unusedVariables false
namespace Go.Proofs.YtkjnjdcbnelceaaGreatDoor.KA
open Num

theorem keeps_bytes (w : World) (a : TypeId) (t : ByteArray) : Keeps w (Lib.bytesWorld w a t) := by
  exact ⟨rfl, rfl, rfl, by rw [Lib.bytesWorld_size]; omega, fun k hk => Lib.bytesWorld_at_old w a t k hk⟩

theorem s110 (m : Int) (a b : List UInt8) : SpecP (cx m) 110 [.str a, .str b] (.int .i64 (Lib.compareBytes a b)) :=
  specP_keeps ⟨Tryz.f110, _, by kernel_rfl, rfl, by kernel_rfl⟩ fun w fz vs hf hg ha => by
    obtain ⟨v, u, rfl, h1, h2⟩ := ha.two
    rw [h1.str_eq, h2.str_eq]
    refine (Tryz.strings_Compare _ _ w).mono ?_
    rintro e w' ⟨rfl, rfl⟩
    exact ⟨_, rfl, .int _ _, .refl _⟩
theorem s104 (m : Int) (a : List UInt8) (c : Int) : SpecP (cx m) 104 [.str a, .int .u8 c] (.int .i64 (Lib.indexByte a c.toNat.toUInt8)) :=
  specP_keeps ⟨Tryz.f104, _, by kernel_rfl, rfl, by kernel_rfl⟩ fun w fz vs hf hg ha => by
    obtain ⟨v, u, rfl, h1, h2⟩ := ha.two
    rw [h1.str_eq, h2.int_eq]
    refine (Tryz.strings_IndexByte _ _ w).mono ?_
    rintro e w' ⟨rfl, rfl⟩
    exact ⟨_, rfl, .int _ _, .refl _⟩
theorem s99 (m : Int) (a b : List UInt8) (hl : a.length < 4294967281) : SpecP (cx m) 99 [.str a, .str b] (.tuple [.str (Lib.cut a b).1, .str (Lib.cut a b).2.1, .bool (Lib.cut a b).2.2]) :=
  specP_keeps ⟨Tryz.f99, _, by kernel_rfl, rfl, by kernel_rfl⟩ fun w fz vs hf hg ha => by
    obtain ⟨v, u, rfl, h1, h2⟩ := ha.two
    rw [h1.str_eq, h2.str_eq]
    have hm : w.cell? ⟨0, 0, none⟩ = some (.int .i64 m) := by
      have := (hg _ (List.mem_cons_self)).1
      cases this with
      | fp _ _ _ g _ hg hr =>
        have e2 := hg 0 _ rfl
        have e3 := hr 0 _ rfl
        rw [e3.int_eq] at e2
        simpa using e2
    refine (Tryz.strings_Cut ⟨⟨a⟩⟩ ⟨⟨b⟩⟩ m w hl hm).mono ?_
    rintro e w' ⟨rfl, n, rfl⟩
    exact ⟨_, rfl, .tuple _ _ rfl (fun i x hx => by
      match i, hx with
      | 0, hx => cases hx; exact .str _
      | 1, hx => cases hx; exact .str _
      | 2, hx => cases hx; exact .bool _
      | n + 3, hx => simp at hx), .drewN _ _⟩
theorem tab10 {m : Int} {w : World} {fz : Nat → Prop} (hg : Glob (cx m).gt w fz) : Lib.TabIs Tryz.prog w "internal/strconv.uint64pow10" .u64 Lib.pow10Tab :=
  hg.tab (b := 3) (List.mem_cons_of_mem _ (List.mem_singleton.2 rfl)) p10_at
theorem s116 (m : Int) (n : Int) (h0 : -9223372036854775808 ≤ n) (h1 : n ≤ 9223372036854775807) : SpecP (cx m) 116 [.int .i64 n] (.str (Lib.itoa n)) :=
  specP_keeps ⟨Tryz.f116, _, by kernel_rfl, rfl, by kernel_rfl⟩ fun w fz vs hf hg ha => by
    obtain ⟨v, rfl, h⟩ := ha.one
    rw [h.int_eq]
    refine (Tryz.strconv_Itoa n h0 h1 w (tab10 hg)).mono ?_
    rintro e w' ⟨rfl, k, os, rfl⟩
    exact ⟨_, rfl, .str _, .growDrew _ _ _⟩
theorem s150 (m : Int) (s : List UInt8) (n : Int) (hl : s.length ≤ 18) (h : Lib.atoi s = some n) : SpecP (cx m) 150 [.str s] (.tuple [.int .i64 n, .nili]) :=
  specP_keeps ⟨Tryz.f150, _, by kernel_rfl, rfl, by kernel_rfl⟩ fun w fz vs hf hg ha => by
    obtain ⟨v, rfl, h1⟩ := ha.one
    rw [h1.str_eq]
    refine (Tryz.strconv_Atoi ⟨⟨s⟩⟩ n hl h w).mono ?_
    rintro e w' ⟨rfl, t, rfl⟩
    exact ⟨_, rfl, .tuple _ _ rfl (fun i x hx => by
      match i, hx with
      | 0, hx => cases hx; exact .int _ _
      | 1, hx => cases hx; exact .nili
      | n + 2, hx => simp at hx), keeps_bytes _ _ _⟩

/-- integer.Of -/
theorem s94 (m : Int) (n : Int) (h0 : -9223372036854775808 ≤ n) (h1 : n ≤ 9223372036854775807) : SpecP (cx m) 94 [.int .i64 n] (.str (Lib.itoa n)) := by
  refine specP_of (mixed m) (k94 m) (Nat.le_of_ble_eq_true rfl) (X_start ?_)
  unfold c94
  refine WW ?_
  refine CL_pure (s116 m n h0 h1) rfl ?_
  refine WW ?_
  exact shs rfl
/-- integer.quick -/
theorem s111 (m : Int) (n : Int) (k : Nat) (hk : k ≤ 18) : SpecP (cx m) 111 [.str (Lib.itoa n), .int .i64 k] (if (Lib.itoa n).length ≤ k then .tuple [.int .i64 n, .bool true] else .tuple [.int .i64 0, .bool false]) := by
  refine specP_of (mixed m) (k111 m) (Nat.le_of_ble_eq_true rfl) (X_start ?_)
  unfold c111
  refine WW ?_
  refine iteI (fun h => shv (by rw [if_neg (by omega)]) (by rw [if_neg (by omega)]; rfl)) (fun h => ?_)
  refine CL_pure (s150 m _ n (by omega) (atoi_itoa n)) rfl ?_
  simp -implicitDefEqProofs (disch := omega) only [KF, KR, KV0, KV1, KV2, KW, ↓bstep, ↓astep, ↓O1.eq_def, ↓onBool.eq_def, ↓onInt.eq_def, ↓onStr.eq_def, ↓onLo.eq_def, ↓binK.eq_def, ↓arith.eq_def, ↓strOp.eq_def, ↓srcElems.eq_def, ↓dst1.eq_def, args0, List.zipIdx, List.map, lookup, St.ev, St.set, St.setO, reduceCtorEq, AV.plain, AV.plainL, AV.flat, AV.flatL, AV.cells, Nat.reduceEqDiff, ↓reduceIte, List.drop, List.take, List.length, Nat.reduceAdd, Nat.reduceLeDiff, Nat.reduceMul, E.done, rvsK, rvK, resAV, Int.reduceToNat, Int.reduceLE, Int.reduceLT, Int.reduceNeg, Int.reduceAdd, Int.reduceSub, Int.reduceMul, Nat.reduceLT, AV.isElem, AV.one, ↓buildCells.eq_1, ↓buildCells.eq_2, Nat.reduceBEq, eqCells, onNil]
  exact shv (by rw [if_pos (by omega)]) (by rw [if_pos (by omega)]; rfl)
end Go.Proofs.YtkjnjdcbnelceaaGreatDoor.KA
end

section
/- Contracts: greatest common divisors of short numbers; the text of a fraction of short numbers. -/
open Go Go.Proofs
set_option linter.unusedSimpArgs false
set_option linter.unusedVariables false
namespace Go.Proofs.YtkjnjdcbnelceaaGreatDoor.KA
open Num

theorem itoa_len {n : Int} {k : Nat} (h : (Lib.itoa n).length ≤ k) : n.natAbs < 10 ^ k := by
  by_cases hn : n < 0
  · rw [itoa_neg hn, List.length_cons, dec_length] at h
    exact lt_of_nDigits (by omega)
  · rw [itoa_nonneg (by omega), dec_length] at h
    have := lt_of_nDigits h
    omega
theorem len_itoa {n : Int} {k : Nat} (hk : 0 < k) (h : n.natAbs < 10 ^ k) : (Lib.itoa n).length ≤ k + 1 := by
  by_cases hn : n < 0
  · rw [itoa_neg hn, List.length_cons, dec_length]
    have := nDigits_le hk h
    omega
  · rw [itoa_nonneg (by omega), dec_length]
    have := nDigits_le (u := n.toNat) hk (by omega)
    omega
theorem gcd_step {x y : Int} : Int.gcd y (x.tmod y) = Int.gcd x y := by
  unfold Int.gcd
  rw [Int.natAbs_tmod, Nat.gcd_comm y.natAbs, ← Nat.gcd_rec, Nat.gcd_comm]
theorem tmod_lt {x y : Int} (h : y ≠ 0) : (x.tmod y).natAbs < y.natAbs := by
  rw [Int.natAbs_tmod]; exact Nat.mod_lt _ (by omega)

/-- integer.Gcd, of short numbers -/
theorem s101 (m : Int) (a b : Int) (ha : (Lib.itoa a).length ≤ 18) (hb : (Lib.itoa b).length ≤ 18) :
    SpecP (cx m) 101 [.str (Lib.itoa a), .str (Lib.itoa b)] (.str (Lib.itoa (Int.gcd a b))) := by
  refine specP_of (mixed m) (k101 m) (Nat.le_of_ble_eq_true rfl) (X_start ?_)
  unfold c101
  have qa := s111 m a 18 (Nat.le_refl _)
  have qb := s111 m b 18 (Nat.le_refl _)
  rw [if_pos ha] at qa
  rw [if_pos hb] at qb
  have la := itoa_len ha
  have lb := itoa_len hb
  refine WW ?_
  refine CL_pure qa rfl ?_
  refine WW ?_
  refine CL_pure qb rfl ?_
  refine WW ?_
  refine X_for (fun p : Int × Int => ⟨[(5, .int .i64 p.1), (7, .int .i64 p.2)], []⟩) (fun p => Int.gcd p.1 p.2 = Int.gcd a b ∧ p.1.natAbs < 10 ^ 18 ∧ p.2.natAbs < 10 ^ 18) (fun p => p.2.natAbs) (a, b) ⟨rfl, la, lb⟩ (weak_keep (by simp [lookup])) ?_
  rintro ⟨x, y⟩ R ⟨hg, hx, hy⟩ hR
  dsimp only at hg hx hy hR ⊢
  refine WW ?_
  refine iteI (fun h => ⟨h, hR (y, x.tmod y) _ ⟨gcd_step.trans hg, hy, Nat.lt_trans (tmod_lt h) hy⟩ (tmod_lt h) (weak_keep (by simp [lookup]))⟩) (fun h => ?_)
  have h := Classical.not_not.1 h
  subst h
  have e : (if x < 0 - x then 0 - x else x) = (Int.gcd a b : Int) := by rw [← hg, Int.gcd_zero_right]; split <;> omega
  rw [e]
  have : Int.gcd a b < 10 ^ 18 := by rw [← hg, Int.gcd_zero_right]; exact hx
  refine CL_pure (s94 m _ (by omega) (by omega)) rfl ?_
  refine WW ?_
  exact shs rfl

theorem mk_parts (n : Int) (d : Nat) (hd : 0 < d) : (mkRat n d).num = n.tdiv (Int.gcd n d) ∧ ((mkRat n d).den : Int) = (d : Int).tdiv (Int.gcd n d) := by
  have hg : 0 < Int.gcd n d := Int.gcd_pos_of_ne_zero_right n (by omega)
  unfold mkRat
  rw [dif_neg (by omega), Rat.normalize_eq]
  dsimp only
  have e : n.natAbs.gcd d = Int.gcd n d := by unfold Int.gcd; simp
  rw [e]
  constructor
  · rw [Int.tdiv_eq_ediv_of_dvd (Int.gcd_dvd_left n d)]
  · rw [Int.tdiv_eq_ediv_of_dvd (Int.gcd_dvd_right n d)]; rfl

/-- rational.small -/
theorem s63 (m : Int) (n : Int) (d : Nat) (hd : 0 < d) (h1 : n.natAbs < 4000000000000000000) (h2 : d < 4000000000000000000) :
    SpecP (cx m) 63 [.int .i64 n, .int .i64 d] (.str (tq (mkRat n d))) := by
  refine specP_of (mixed m) (k63 m) (Nat.le_of_ble_eq_true rfl) (X_start ?_)
  unfold c63
  refine WW ?_
  refine X_for (fun p : Int × Int => ⟨[(0, .int .i64 n), (1, .int .i64 d), (5, .int .i64 p.1), (6, .int .i64 p.2)], []⟩) (fun p => Int.gcd p.1 p.2 = Int.gcd n d ∧ p.1.natAbs < 4000000000000000000 ∧ p.2.natAbs < 4000000000000000000) (fun p => p.2.natAbs) (n, d) ⟨rfl, h1, by simpa using h2⟩ (weak_keep (by simp [lookup])) ?_
  rintro ⟨x, y⟩ R ⟨hg, hx, hy⟩ hR
  dsimp only at hg hx hy hR ⊢
  obtain ⟨p1, p2⟩ := mk_parts n d hd
  have hgp : 0 < Int.gcd n d := Int.gcd_pos_of_ne_zero_right n (by omega)
  have b1 : (n.tdiv (Int.gcd n d)).natAbs ≤ n.natAbs := by rw [Int.natAbs_tdiv]; exact Nat.div_le_self _ _
  have b2 : (mkRat n d).den ≤ d := by
    have : ((d : Int).tdiv (Int.gcd n d)).natAbs ≤ d := by rw [Int.natAbs_tdiv]; exact Nat.div_le_self _ _
    omega
  refine WW ?_
  refine iteI (fun h => ⟨h, hR (y, x.tmod y) _ ⟨gcd_step.trans hg, hy, Nat.lt_trans (tmod_lt h) hy⟩ (tmod_lt h) (weak_keep (by simp [lookup]))⟩) (fun h => ?_)
  have h := Classical.not_not.1 h
  subst h
  rw [Int.gcd_zero_right] at hg
  have l1 := Lib.itoa_length_le (mkRat n d).num (by omega) (by omega)
  have l2 := Lib.itoa_length_le (mkRat n d).den (by omega) (by omega)
  refine iteI (fun hn => ?_) (fun hn => ?_)
  all_goals
    first
    | rw [show (0 - x : Int) = (Int.gcd n d : Int) by omega]
    | rw [show (x : Int) = (Int.gcd n d : Int) by omega]
    rw [← p1, ← p2, wrap64 (n := (mkRat n d).num) (by omega), wrap64 (n := ((mkRat n d).den : Int)) (by omega)]
    refine ⟨by omega, by omega, iteI (fun h => ?_) (fun h => ?_)⟩
    · refine CL_pure (s116 m _ (by omega) (by omega)) rfl ?_
      refine WW ?_
      exact shs (by rw [tq_whole (by omega)])
    · refine CL_pure (s116 m _ (by omega) (by omega)) rfl ?_
      refine WW ?_
      refine ⟨by (try simp) <;> omega, ?_⟩
      refine CL_pure (s116 m _ (by omega) (by omega)) rfl ?_
      refine WW ?_
      refine ⟨by (try simp) <;> omega, shs ?_⟩
      rw [tq_part (by omega), itoa_nonneg (n := ((mkRat n d).den : Int)) (by omega)]; simp
end Go.Proofs.YtkjnjdcbnelceaaGreatDoor.KA
end
