/- Parts of the proof, in order: each part's head says what it holds. -/
import Derived.Test.YtkjnjdcbnelceaaGreatDoorR2
import Derived.Sort.Grow
import Derived.Deep.Draws
import Derived.Lib.ConvBytes
import Derived.Lib.LaidTab
import Derived.OrdersIn
import Derived.RangeFuncIn
import Derived.RangeFuncLeaves
import Derived.RangeFuncRecord
import Derived.Below
import Derived.Laws.BitsLemmas

section
/- Soundness of a region whose order is open, the theorem. Nothing here concerns a given program. -/
set_option linter.unusedVariables false
set_option linter.unusedSimpArgs false
set_option linter.unnecessarySimpa false
namespace Go.Proofs.YtkjnjdcbnelceaaGreatDoor.KA
open Go

theorem nodup_bound : ∀ (n : Nat) (l : List Nat), l.Nodup → (∀ x ∈ l, x < n) → l.length ≤ n
  | 0, l, _, h => by
    cases l with
    | nil => simp
    | cons x l => exact absurd (h x (by simp)) (by omega)
  | n + 1, l, hn, h => by
    by_cases hm : n ∈ l
    · have h1 := nodup_bound n (l.erase n) (hn.erase n) (fun x hx => by
        have h2 := h x (List.mem_of_mem_erase hx)
        have h3 : x ≠ n := fun e => by subst e; exact absurd hx (List.Nodup.not_mem_erase hn)
        omega)
      rw [List.length_erase_of_mem hm] at h1
      omega
    · have := nodup_bound n l hn (fun x hx => by
        have h2 := h x hx
        have h3 : x ≠ n := fun e => hm (e ▸ hx)
        omega)
      omega

section
variable {c : Ctx} {B : Base} {n N : Nat} {a : Act} {w : World} {rho : Gh} {fz : Nat → Prop} {mu : Nat → Bool}

/-- What a traced region is. -/
structure Traced (c : Ctx) (mu : Nat → Bool) (N : Nat) (ops : Array Oper) (gs : List GI) (s : Nat → St) : Prop where
  comp : opGs c.P c.gt mu N ops ops.toList = some gs
  ok : drawOk ops gs = true
  tr : ∀ (k : Nat) (g : GI), gs[k]? = some g → Tr c g (s k) (s (k + 1))

theorem opG_dst {P : Program} {gt : List (Nat × List AV)} {ops : Array Oper} {o : Oper} {g : GI} (h : opG P gt mu N ops o = some g) : g.dst = o.dst ∧ dstI g.i = o.dst ∧ (∀ d, o.dst = some d → d < N) ∧ opJ P gt mu o = some g.i ∧
    ((g.g = none ∧ o.guard = none) ∨ ∃ j t want, o.guard = some (j, want) ∧ (ops[j]?).bind (·.dst) = some t ∧ g.g = some (t, want)) := by
  unfold opG at h
  split at h
  · cases h
  rename_i i hi
  split at h
  case isFalse => cases h
  rename_i hcond
  have hdn : ∀ d, o.dst = some d → d < N := fun d hd => by have := hcond.2; rw [hd] at this; simpa [dstOk] using this
  split at h
  · rename_i hg
    cases h
    exact ⟨rfl, hcond.1, hdn, hi, .inl ⟨rfl, hg⟩⟩
  · rename_i j want hg
    split at h
    · rename_i t ht
      cases h
      exact ⟨rfl, hcond.1, hdn, hi, .inr ⟨j, t, want, hg, ht, rfl⟩⟩
    · cases h

variable {ops : Array Oper} {gs : List GI} {s : Nat → St}

theorem Traced.get (h : Traced c mu N ops gs s) {k : Nat} (hk : k < ops.size) : ∃ o g, ops[k]? = some o ∧ gs[k]? = some g ∧ opG c.P c.gt mu N ops o = some g := by
  obtain ⟨g, h1, h2⟩ := (opGs_get h.comp).2 k ops[k] (by simp)
  exact ⟨ops[k], g, by simp, h1, h2⟩

theorem Traced.len (h : Traced c mu N ops gs s) : gs.length = ops.size := by
  have := (opGs_get h.comp).1
  simpa using this.symm

theorem Traced.back (h : Traced c mu N ops gs s) {j : Nat} {o : Oper} (ho : ops[j]? = some o) : ∀ e ∈ o.after, Region.binds .any e = true → e.on < j := by
  have h1 := h.ok
  unfold drawOk at h1
  simp only [Bool.and_eq_true, List.all_eq_true, List.mem_range] at h1
  have h2 := (h1.1 j (Array.getElem?_eq_some_iff.1 ho).1).1
  rw [ho] at h2
  intro e he hb
  have h3 := (List.all_eq_true.1 h2) e (Array.mem_toList_iff.2 he)
  simpa [hb] using h3

theorem Traced.noFork (h : Traced c mu N ops gs s) {j : Nat} {g : GI} (hg : gs[j]? = some g) : isFork g.i = false := by
  have h1 := h.ok
  unfold drawOk at h1
  simp only [Bool.and_eq_true, List.all_eq_true, List.mem_range] at h1
  have hj : j < ops.size := by rw [← h.len]; exact (List.getElem?_eq_some_iff.1 hg).1
  have h2 := (h1.1 j hj).2
  rw [hg] at h2
  simpa using h2

theorem Traced.order (h : Traced c mu N ops gs s) {i j : Nat} {x y : GI} (hij : i < j) (hx : gs[i]? = some x) (hy : gs[j]? = some y) (hc : conf ops gs i j x y = true) : i ∈ (befs ops).getD j [] := by
  have h1 := h.ok
  unfold drawOk at h1
  simp only [Bool.and_eq_true, List.all_eq_true, List.mem_range] at h1
  have hj : j < ops.size := by rw [← h.len]; exact (List.getElem?_eq_some_iff.1 hy).1
  have h2 := h1.2 j hj i hij
  rw [hx, hy] at h2
  simp only [hc, Bool.not_true, Bool.false_or, List.contains_iff_mem] at h2
  exact h2

/-- The slots of the text's order. -/
theorem text_slots (h : Traced c mu N ops gs s) (t : Nat) : ∀ m, m ≤ ops.size → lookup (s m).s t = vfold s gs (fun _ => true) t m
  | 0, _ => rfl
  | m + 1, hm => by
    obtain ⟨o, g, ho, hg, hc⟩ := h.get (k := m) (by omega)
    obtain ⟨e1, e2, e3, e4, e5⟩ := opG_dst hc
    have ih := text_slots h t m (by omega)
    simp only [vfold]
    by_cases hw : (gs[m]?).bind (·.dst) = some t
    · rw [if_pos ⟨trivial, hw⟩]
    · rw [if_neg (fun hc => hw hc.2), ← ih]
      rw [hg] at hw
      simp only [Option.bind_some] at hw
      rcases h.tr m g hg with ⟨x', ha, hgd, hs⟩ | ⟨x', ha, t', want, hgd, hl, hy⟩
      · have hu := astep_upd hs
        rw [e2, ← e1] at hu
        cases hd : g.dst with
        | none => rw [hd] at hu; rw [hu]; exact ha.1 t
        | some d =>
          rw [hd] at hu
          obtain ⟨r, hr⟩ := hu
          rw [hr]
          show (if t = d then r else lookup x'.s t) = _
          rw [if_neg (fun e => hw (by rw [hd, e])), ha.1 t]
      · rw [hy]
        cases hd : g.dst with
        | none => exact ha.1 t
        | some d =>
          show (if t = d then _ else lookup x'.s t) = _
          rw [if_neg (fun e => hw (by rw [hd, e])), ha.1 t]

theorem tagA_get (h : Traced c mu N ops gs s) {k : Nat} (hA : tagA ops gs k = true) : simpleW gs = true ∧ ∃ o g, ops[k]? = some o ∧ gs[k]? = some g ∧ isA o g = true ∧ isW g.i = true ∧ g.g = none ∧ k < ops.size := by
  unfold tagA at hA
  simp only [Bool.and_eq_true] at hA
  obtain ⟨h1, h2⟩ := hA
  split at h1
  · rename_i o g ho hg
    have h3 := h1
    unfold isA at h3
    simp only [Bool.and_eq_true, Option.isNone_iff_eq_none] at h3
    obtain ⟨h4, h5⟩ := h3
    refine ⟨h2, o, g, ho, hg, h1, ?_, h4, (Array.getElem?_eq_some_iff.1 ho).1⟩
    split at h5
    · rename_i e; rw [e]; exact h5
    · rename_i e; rw [e]; exact h5
    · cases h5
  · cases h1

theorem tagA_step (h : Traced c mu N ops gs s) {k : Nat} (hA : tagA ops gs k = true) : ∃ cs, (s (k + 1)).h = (s k).h ++ [some cs] := by
  obtain ⟨h1, o, g, ho, hg, h2, h3, h4, h5⟩ := tagA_get h hA
  rcases h.tr k g hg with ⟨x', ha, hgd, hs⟩ | ⟨x', ha, t', want, hgd, hl, hy⟩
  · unfold isA at h2
    simp only [Bool.and_eq_true] at h2
    have h6 := h2.2
    split at h6
    · rename_i d z m _ e
      subst h6
      rw [e] at hs
      simp only [astep] at hs
      rw [← hs, ← ha.2]; exact ⟨_, rfl⟩
    · rename_i d z m _ e
      subst h6
      rw [e] at hs
      simp only [astep] at hs
      rw [← hs, ← ha.2]; exact ⟨_, rfl⟩
    · cases h6
  · rw [h4] at hgd; cases hgd

theorem len_step (h : Traced c mu N ops gs s) (hw : simpleW gs = true) {k : Nat} (hk : k < ops.size) : (s k).h.length ≤ (s (k + 1)).h.length := by
  obtain ⟨o, g, ho, hg, hc⟩ := h.get hk
  rcases h.tr k g hg with ⟨x', ha, hgd, hs⟩ | ⟨x', ha, t', want, hgd, hl, hy⟩
  · have h1 := List.all_eq_true.1 hw g (List.mem_of_getElem? hg)
    cases hW : isW g.i with
    | false => rw [nonW_heap hW hs, ha.2]; exact Nat.le_refl _
    | true =>
      rw [hW] at h1
      simp only [Bool.not_true, Bool.false_or] at h1
      generalize g.i = i at *
      cases i with
      | store sz x y =>
        simp only [astep] at hs
        split at hs
        · obtain ⟨_, _, _, _, h2⟩ := hs
          rw [← h2, ← ha.2]; simp
        · exact hs.elim
      | alloc d z m =>
        cases m with
        | false => cases hW
        | true => simp only [astep] at hs; rw [← hs, ← ha.2]; simp
      | box d x m =>
        cases m with
        | false => cases hW
        | true => simp only [astep] at hs; rw [← hs, ← ha.2]; simp
      | _ => cases h1
  · rw [hy, ← ha.2]
    cases g.dst <;> exact Nat.le_refl _

theorem len_mono (h : Traced c mu N ops gs s) (hw : simpleW gs = true) (i : Nat) : ∀ m, i ≤ m → m ≤ ops.size → (s i).h.length ≤ (s m).h.length
  | 0, hi, _ => by
    have : i = 0 := by omega
    subst this; exact Nat.le_refl _
  | m + 1, hi, hm => by
    by_cases e : i = m + 1
    · subst e; exact Nat.le_refl _
    · exact Nat.le_trans (len_mono h hw i m (by omega) (by omega)) (len_step h hw (by omega))

theorem text_heap (h : Traced c mu N ops gs s) : ∀ m, m ≤ ops.size → (s m).h = hfold s gs (tagA ops gs) (fun _ => true) m
  | 0, _ => rfl
  | m + 1, hm => by
    obtain ⟨o, g, ho, hg, hc⟩ := h.get (k := m) (by omega)
    have ih := text_heap h m (by omega)
    simp only [hfold]
    by_cases hw : ((gs[m]?).map fun g => isW g.i) = some true
    · rw [if_pos ⟨trivial, hw⟩]
      split
      · rename_i hA
        obtain ⟨cs, e⟩ := tagA_step h hA
        rw [← ih, e]
        have : (((s m).h ++ [some cs]).getD (s m).h.length none) = some cs := by simp
        rw [this, hset_end]
      · rfl
    · rw [if_neg (fun hc => hw hc.2), ← ih]
      rw [hg] at hw
      simp only [Option.map_some, Option.some.injEq, Bool.not_eq_true] at hw
      rcases h.tr m g hg with ⟨x', ha, hgd, hs⟩ | ⟨x', ha, t', want, hgd, hl, hy⟩
      · rw [nonW_heap hw hs, ha.2]
      · rw [hy]
        cases g.dst <;> exact ha.2

/-- A new block at a number that nothing has. -/
theorem alloc_at {h : AHeap} (hh : HR w rho fz h) (hf : FzOk w fz) {id0 : Nat} (hn : rho id0 = none) (arr : Array Value) (ty : TypeId) (cs : List AV) (hle : cs.length ≤ arr.size) (hcs : ∀ j x, cs[j]? = some x → RT w rho fz x (arr.getD j undef)) :
    HR (w.alloc (.cells arr ty)) (rhoNew rho id0 (w.heap.size, 0)) fz (hset h id0 (some cs)) ∧ (∀ b, Owned (rhoNew rho id0 (w.heap.size, 0)) (hset h id0 (some cs)) b → Owned rho h b ∨ w.heap.size ≤ b) := by
  have hro : ∀ id q, rho id = some q → rhoNew rho id0 (w.heap.size, 0) id = some q := by
    intro id q hq
    unfold rhoNew
    rw [if_neg (fun e => by rw [e, hn] at hq; cases hq)]
    exact hq
  have hne : ∀ id q, id ≠ id0 → rhoNew rho id0 (w.heap.size, 0) id = some q → rho id = some q := by
    intro id q hid hq
    unfold rhoNew at hq
    rwa [if_neg hid] at hq
  refine ⟨⟨fun id hid => ?_, fun id ds hid => ?_, fun id id' ds ds' b o o' hd hd' hr hr' => ?_⟩, fun b hb => ?_⟩
  · rw [hset_length] at hid
    unfold rhoNew
    rw [if_neg (by omega)]
    exact hh.dom id (by omega)
  · rcases hset_some hid with ⟨e, e2⟩ | ⟨e, hold⟩
    · subst e
      cases e2
      refine ⟨w.heap.size, 0, arr, ty, by simp [rhoNew], fun hc => by have := hf _ hc; omega, heap_alloc_new w _, by omega, fun j x hj => ?_⟩
      rw [Nat.zero_add]
      exact (hcs j x hj).alloc hf (fun _ hx => hx) _ hro
    · obtain ⟨b, o', arr', ty', g1, g2, g3, g4, g5⟩ := hh.cell id ds hold
      have hlt' := (Array.getElem?_eq_some_iff.1 g3).1
      exact ⟨b, o', arr', ty', hro id _ g1, g2, by rw [heap_alloc_old w _ b hlt']; exact g3, g4, fun j x hj => (g5 j x hj).alloc hf (fun _ hx => hx) _ hro⟩
  · rcases hset_some hd with ⟨e, _⟩ | ⟨e, hold⟩ <;> rcases hset_some hd' with ⟨e', _⟩ | ⟨e', hold'⟩
    · omega
    · have h1 := hne id' _ e' hr'
      have h2 := (Owned.lt hh ⟨id', ds', o', hold', h1⟩).1
      subst e
      simp [rhoNew] at hr
      omega
    · have h1 := hne id _ e hr
      have h2 := (Owned.lt hh ⟨id, ds, o, hold, h1⟩).1
      subst e'
      simp [rhoNew] at hr'
      omega
    · exact hh.inj id id' ds ds' b o o' hold hold' (hne id _ e hr) (hne id' _ e' hr')
  · obtain ⟨id, ds, o, hid, hr⟩ := hb
    rcases hset_some hid with ⟨e, _⟩ | ⟨e, hold⟩
    · subst e
      simp [rhoNew] at hr
      exact .inr (by omega)
    · exact .inl ⟨id, ds, o, hold, hne id _ e hr⟩

/-- What a new block's operation does. -/
theorem isA_run {o : Oper} {g : GI} {x y : St} (hc : opJ c.P c.gt mu o = some g.i) (hA : isA o g = true) (hs : astep c g.i x (fun z => z = y)) (hgl : Glob c.gt w fz) (hrd : ∀ z ∈ rdI g.i, Rd a w rho fz x z) :
    ∃ (arr : Array Value) (ty : TypeId) (cs : List AV) (d : Nat), o.dst = some d ∧ y.s = (d, .ref x.h.length 0) :: x.s ∧ y.h = x.h ++ [some cs] ∧ cs.length ≤ arr.size ∧ (∀ j u, cs[j]? = some u → RT w rho fz u (arr.getD j undef)) ∧
      (execOp a.eval o).run c.P w = .ok (.value (.pointer (some ⟨w.heap.size, 0, none⟩))) (w.alloc (.cells arr ty)) := by
  unfold isA at hA
  simp only [Bool.and_eq_true] at hA
  have h6 := hA.2
  split at h6
  · rename_i e d z m ho hi
    subst h6
    rw [hi] at hs hc
    simp only [astep] at hs
    cases hd : o.dst with
    | none => simp [opJ, opI, ho, hd] at hc
    | some d' =>
      simp only [opJ, opI, ho, hd, Option.some.injEq] at hc
      cases hz : zeroAV c.P e with
      | none => rw [hz] at hc; simp at hc
      | some z' =>
        rw [hz] at hc
        simp only [Option.map_some, Option.getD_some, Option.some.injEq] at hc
        split at hc
        · cases hc
        simp only [I.alloc.injEq] at hc
        obtain ⟨rfl, rfl, hm⟩ := hc
        obtain ⟨i, v, hi', hv, hsz, hcz, hpl⟩ := zeroAV_sound hz
        subst hs
        refine ⟨v.cells, e, z', d', rfl, rfl, rfl, by omega, fun j u hj => .of _ _ (hcz w fz j u hj), ?_⟩
        simp [execOp, ho, Instr.alloc, newVar, newRow, zeroValue, typeInfo, hi', hv]
  · rename_i e u d z m ho hi
    subst h6
    have hrd' := hrd
    rw [hi] at hs hc hrd'
    simp only [astep] at hs
    cases hd : o.dst with
    | none => simp [opJ, opI, ho, hd] at hc
    | some d' =>
      simp only [opJ, opI, ho, hd, Option.some.injEq] at hc
      cases hz : opO c.gt u with
      | none => rw [hz] at hc; simp at hc
      | some z' =>
        rw [hz] at hc
        simp at hc
        obtain ⟨rfl, rfl, hm⟩ := hc
        have h1 := opO_sound (a := a) hz hgl (hrd' _ (by simp [rdI]))
        obtain ⟨h2, h3⟩ := h1.cells
        subst hs
        refine ⟨(a.eval u).cells, e, _, d', rfl, rfl, rfl, ?_, h2, ?_⟩
        · by_cases hu : x.ev z' = .undef
          · simp [hu, AV.cells]
          · rw [h3 hu]; exact Nat.le_refl _
        · simp [execOp, ho, Instr.box, newVar, newRow]
  · cases h6

/-- Which have come up. -/
structure Done (ops : Array Oper) (listed : Array Bool) (D : Nat → Bool) (dl : List Nat) : Prop where
  eq : ∀ k, D k = listed.getD k false
  sz : listed.size = ops.size
  nd : dl.Nodup
  lt : ∀ k ∈ dl, k < ops.size
  mem : ∀ k, D k = true ↔ k ∈ dl
  cl : ∀ (j : Nat) (o : Oper), ops[j]? = some o → D j = true → ∀ e ∈ o.after, Region.binds .any e = true → D e.on = true

theorem Done.all (hT : Traced c mu N ops gs s) {listed : Array Bool} {D : Nat → Bool} {dl : List Nat} (h : Done ops listed D dl) (hr : Region.ready .any ops listed = []) : ∀ k, k < ops.size → D k = true := by
  intro k
  induction k using Nat.strongRecOn with
  | _ k ih =>
    intro hk
    by_cases hd : D k = true
    · exact hd
    · exfalso
      have hm : k ∈ Region.ready .any ops listed := by
        rw [mem_ready]
        refine ⟨?_, ops[k], by simp, fun e he hb => ?_⟩
        · have := h.eq k
          have hlt : k < listed.size := by rw [h.sz]; exact hk
          simp [hlt] at this ⊢
          rw [← this]; simpa using hd
        · have hlt := hT.back (j := k) (o := ops[k]) (by simp) e he hb
          have := ih e.on hlt (by omega)
          rw [← h.eq]; exact this
      rw [hr] at hm
      cases hm

theorem Done.step {listed : Array Bool} {D : Nat → Bool} {dl : List Nat} (h : Done ops listed D dl) {i : Nat} (hi : i ∈ Region.ready .any ops listed) : Done ops (listed.setIfInBounds i true) (fun k => if k = i then true else D k) (i :: dl) ∧ D i = false ∧ i < ops.size ∧ ∀ (o : Oper), ops[i]? = some o → ∀ e ∈ o.after, Region.binds .any e = true → D e.on = true := by
  obtain ⟨h1, o, ho, h2⟩ := mem_ready.1 hi
  have hlt : i < ops.size := (Array.getElem?_eq_some_iff.1 ho).1
  have hll : i < listed.size := by rw [h.sz]; exact hlt
  have hDi : D i = false := by
    rw [h.eq i]
    rw [Array.getD_eq_getD_getElem?, Array.getElem?_eq_getElem hll] at h1 ⊢
    exact h1
  have hpre : ∀ (o : Oper), ops[i]? = some o → ∀ e ∈ o.after, Region.binds .any e = true → D e.on = true := fun o' ho' e he hb => by
    rw [ho] at ho'
    cases ho'
    rw [h.eq]; exact h2 e he hb
  refine ⟨⟨fun k => ?_, by simp [h.sz], List.nodup_cons.2 ⟨fun hc => (by rw [(h.mem i).2 hc] at hDi; cases hDi), h.nd⟩, fun k hk => ?_, fun k => ?_, fun j o' ho' hj e he hb => ?_⟩, hDi, hlt, hpre⟩
  · by_cases e : k = i
    · subst e
      simp [hll]
    · rw [if_neg e, h.eq k]
      simp [Array.getElem?_setIfInBounds_ne (Ne.symm e)]
  · rcases List.mem_cons.1 hk with rfl | hk
    · exact hlt
    · exact h.lt k hk
  · by_cases e : k = i
    · subst e; simp
    · simp [e, h.mem k]
  · by_cases e' : j = i
    · subst e'
      have := hpre o' ho' e he hb
      simp [this]
    · simp only [e', if_false] at hj
      have := h.cl j o' ho' hj e he hb
      simp [this]

theorem conf_rd {x y : GI} {i j d : Nat} (hd : x.dst = some d) (hr : d ∈ rdSlots y) : conf ops gs i j x y = true := by
  unfold conf confS
  simp [hd, hr]
theorem conf_rd' {x y : GI} {i j d : Nat} (hd : y.dst = some d) (hr : d ∈ rdSlots x) : conf ops gs i j x y = true := by
  unfold conf confS
  simp [hd, hr]
theorem conf_ww {x y : GI} {i j d : Nat} (hx : x.dst = some d) (hy : y.dst = some d) : conf ops gs i j x y = true := by
  unfold conf confS
  simp [hx, hy]
theorem isW_isH {i : I} (h : isW i = true) : isH i = true := by
  cases i <;> first | exact h | rfl
theorem W_reader {g : GI} (h : isW g.i = true) : reader g = false := by
  unfold reader
  split
  · rename_i e; rw [e] at h; cases h
  · rename_i e; rw [e] at h; simp only [isW] at h; rw [h]; rfl
  · rfl
theorem reader_W {g : GI} (h : reader g = true) : isW g.i = false := by
  cases e : isW g.i with
  | false => rfl
  | true => rw [W_reader e] at h; cases h
theorem eLoad_reader {g : GI} (h : eLoad gs g = true) : reader g = true := by
  unfold eLoad at h
  split at h
  · rename_i e; unfold reader; rw [e]
  · cases h
theorem nonreader_eLoad {g : GI} (h : reader g = false) : eLoad gs g = false := by
  cases e : eLoad gs g with
  | false => rfl
  | true => rw [eLoad_reader e] at h; cases h
theorem conf_wh {x y : GI} {i j : Nat} (hA : tagA ops gs i = false ∨ tagA ops gs j = false) (hx : isW x.i = true) (hy : isH y.i = true) (h1 : tagA ops gs i = false ∨ reader y = false) (h2 : aStore ops gs i = false ∨ eLoad gs y = false) : conf ops gs i j x y = true := by
  unfold conf confH apartH
  rw [W_reader hx, nonreader_eLoad (W_reader hx)]
  rcases hA with h | h <;> rcases h1 with h1 | h1 <;> rcases h2 with h2 | h2 <;> simp [hx, hy, h, h1, h2]
theorem conf_hw {x y : GI} {i j : Nat} (hA : tagA ops gs i = false ∨ tagA ops gs j = false) (hx : isH x.i = true) (hy : isW y.i = true) (h1 : reader x = false ∨ tagA ops gs j = false) (h2 : eLoad gs x = false ∨ aStore ops gs j = false) : conf ops gs i j x y = true := by
  unfold conf confH apartH
  rw [W_reader hy, nonreader_eLoad (W_reader hy)]
  rcases hA with h | h <;> rcases h1 with h1 | h1 <;> rcases h2 with h2 | h2 <;> simp [hx, hy, h, h1, h2]
theorem conf_wW {x y : GI} {i j : Nat} (hA : tagA ops gs i = false ∨ tagA ops gs j = false) (hx : isW x.i = true) (hy : isW y.i = true) : conf ops gs i j x y = true :=
  conf_wh hA hx (isW_isH hy) (.inr (W_reader hy)) (.inr (nonreader_eLoad (W_reader hy)))

/-! What looks at the heap, over another one. -/
theorem load_move {d : Nat} {ag : Bool} {sz : Nat} {x : O} {S : List (Nat × AV)} {h1 h2 : AHeap} {y : St} (hs : astep c (.load d ag sz x) ⟨S, h1⟩ (fun z => z = y))
    (hm : ∀ id off cs, St.ev ⟨S, h1⟩ x = .ref id off → h1[id]? = some (some cs) → h2[id]? = some (some cs)) : ∃ z, astep c (.load d ag sz x) ⟨S, h2⟩ (fun q => q = z) ∧ z.s = y.s ∧ z.h = h2 := by
  simp only [astep] at hs ⊢
  rw [ev_move S h1 h2]
  cases e : St.ev ⟨S, h1⟩ x with
  | fp cs =>
    rw [e] at hs
    simp only at hs ⊢
    cases ag with
    | true => simp only [if_true] at hs ⊢; exact ⟨_, ⟨hs.1, rfl⟩, by rw [← hs.2]; rfl, rfl⟩
    | false =>
      simp only [Bool.false_eq_true, if_false] at hs ⊢
      obtain ⟨v, h3, h4⟩ := hs
      exact ⟨_, ⟨v, h3, rfl⟩, by rw [← h4]; rfl, rfl⟩
  | ref id off =>
    rw [e] at hs
    simp only at hs ⊢
    obtain ⟨cs, h3, h4⟩ := hs
    have h5 := hm id off cs e h3
    cases ag with
    | true => simp only [if_true] at h4 ⊢; exact ⟨_, ⟨cs, h5, h4.1, rfl⟩, by rw [← h4.2]; rfl, rfl⟩
    | false =>
      simp only [Bool.false_eq_true, if_false] at h4 ⊢
      obtain ⟨v, h6, h7⟩ := h4
      exact ⟨_, ⟨cs, h5, v, h6, rfl⟩, by rw [← h7]; rfl, rfl⟩
  | _ => rw [e] at hs; exact hs.elim

theorem RT.agg_get {cs : List AV} {v : Value} (h : RT w rho fz (.agg cs) v) : ∀ x ∈ cs, ∃ u, RT w rho fz x u := by
  intro x hx
  obtain ⟨i, hi⟩ := List.getElem?_of_mem hx
  cases h with
  | of _ _ h => cases h with | agg _ vs hl h => exact ⟨_, .of _ _ (h i x hi)⟩
  | agg _ vs hl h => exact ⟨_, h i x hi⟩
theorem RT.tuple_get {cs : List AV} {v : Value} (h : RT w rho fz (.tuple cs) v) : ∀ x ∈ cs, ∃ u, RT w rho fz x u := by
  intro x hx
  obtain ⟨i, hi⟩ := List.getElem?_of_mem hx
  cases h with
  | of _ _ h => cases h with | tuple _ vs hl h => exact ⟨_, .of _ _ (h i x hi)⟩
  | tuple _ vs hl h => exact ⟨_, h i x hi⟩
theorem RT.fn_get {f : FuncId} {cs : List AV} {v : Value} (h : RT w rho fz (.fn f cs) v) : ∀ x ∈ cs, ∃ u, RT w rho fz x u := by
  intro x hx
  obtain ⟨i, hi⟩ := List.getElem?_of_mem hx
  cases h with
  | of _ _ h => cases h with | fn _ _ vs hl h => exact ⟨_, .of _ _ (h i x hi)⟩
  | fn _ _ vs hl h => exact ⟨_, h i x hi⟩
theorem RT.own_rho {sz id off len cap : Nat} {v : Value} (h : RT w rho fz (.own sz id off len cap) v) : rho id ≠ none := by
  cases h with
  | of _ _ h => cases h
  | own _ _ _ _ _ b o cap' e n hr => rw [hr]; simp
theorem RT.ref_rho {id off : Nat} {v : Value} (h : RT w rho fz (.ref id off) v) : rho id ≠ none := by
  cases h with
  | of _ _ h => cases h
  | ref _ _ b o hr => rw [hr]; simp
theorem HR.mem {h : AHeap} (hh : HR w rho fz h) {id : Nat} {cs : List AV} (hi : h[id]? = some (some cs)) : ∀ x ∈ cs, ∃ u, RT w rho fz x u := by
  intro x hx
  obtain ⟨i, hx⟩ := List.getElem?_of_mem hx
  obtain ⟨b, o, arr, ty, _, _, _, _, h2⟩ := hh.cell id cs hi
  exact ⟨_, h2 i x hx⟩

theorem plainL_mem : ∀ {l : List AV}, AV.plainL l = true → ∀ x ∈ l, x.plain = true
  | [], _, x, hx => by simp at hx
  | a :: l, h, x, hx => by
    simp only [AV.plainL, Bool.and_eq_true] at h
    rcases List.mem_cons.1 hx with rfl | hx
    · exact h.1
    · exact plainL_mem h.2 x hx
/-- It stands in the world, or holds no number of a block. -/
def Stands (w : World) (rho : Gh) (fz : Nat → Prop) (x : AV) : Prop := (∃ u, RT w rho fz x u) ∨ x.plain = true
mutual
theorem shows_move {h1 h2 : AHeap} (hh : HR w rho fz h2) (hm : ∀ id cs, h1[id]? = some (some cs) → rho id ≠ none → h2[id]? = some (some cs)) : ∀ {x y : AV}, Shows h1 x y → Stands w rho fz x → Shows h2 x y
  | _, _, .same x hp, _ => .same x hp
  | _, _, .nil sz, _ => .nil sz
  | _, _, .own sz id off len cap cs xs hi hle hl hs hx, hu => by
    rcases hu with ⟨u, hu⟩ | hu
    · have h3 := hm id cs hi hu.own_rho
      exact .own sz id off len cap cs xs h3 hle hl hs (showsL_move hh hm hx fun z hz => .inl (hh.mem h3 z (List.mem_of_mem_drop (List.mem_of_mem_take hz))))
    · simp [AV.plain] at hu
  | _, _, .ref id off cs ds n hi hd, hu => by
    rcases hu with ⟨u, hu⟩ | hu
    · have h3 := hm id cs hi hu.ref_rho
      exact .ref id off cs ds n h3 (showsL_move hh hm hd fun z hz => .inl (hh.mem h3 z (List.mem_of_mem_drop (List.mem_of_mem_take hz))))
    · simp [AV.plain] at hu
  | _, _, .agg cs ds hc, hu => .agg cs ds (showsL_move hh hm hc fun x hx => hu.elim (fun ⟨u, hu⟩ => .inl (hu.agg_get x hx)) (fun hp => .inr (plainL_mem (by simpa [AV.plain] using hp) x hx)))
  | _, _, .tuple cs ds hc, hu => .tuple cs ds (showsL_move hh hm hc fun x hx => hu.elim (fun ⟨u, hu⟩ => .inl (hu.tuple_get x hx)) (fun hp => .inr (plainL_mem (by simpa [AV.plain] using hp) x hx)))
  | _, _, .fn f cs ds hc, hu => .fn f cs ds (showsL_move hh hm hc fun x hx => hu.elim (fun ⟨u, hu⟩ => .inl (hu.fn_get x hx)) (fun hp => .inr (plainL_mem (by simpa [AV.plain] using hp) x hx)))
theorem showsL_move {h1 h2 : AHeap} (hh : HR w rho fz h2) (hm : ∀ id cs, h1[id]? = some (some cs) → rho id ≠ none → h2[id]? = some (some cs)) : ∀ {l m : List AV}, ShowsL h1 l m → (∀ x ∈ l, Stands w rho fz x) → ShowsL h2 l m
  | _, _, .nil, _ => .nil
  | _, _, .cons a b l m ha hl, hu => .cons a b l m (shows_move hh hm ha (hu a (by simp))) (showsL_move hh hm hl fun x hx => hu x (by simp [hx]))
end

theorem call_move {d : Option Nat} {f : O} {args : List O} {S : List (Nat × AV)} {h1 h2 : AHeap} {y : St} (hs : astep c (.call d f args false) ⟨S, h1⟩ (fun z => z = y)) (hh : HR w rho fz h2)
    (hm : ∀ id cs, h1[id]? = some (some cs) → rho id ≠ none → h2[id]? = some (some cs)) (hu : ∀ x ∈ f :: args, Stands w rho fz (St.ev ⟨S, h1⟩ x)) :
    ∃ z, astep c (.call d f args false) ⟨S, h2⟩ (fun q => q = z) ∧ z.s = y.s ∧ z.h = h2 := by
  simp only [astep] at hs ⊢
  rw [ev_move S h1 h2]
  cases e : St.ev ⟨S, h1⟩ f with
  | fn g caps =>
    rw [e] at hs
    simp only [callK] at hs ⊢
    rcases hs with ⟨as, r, h3, h4, h5, h6⟩ | ⟨h3, _⟩ | ⟨h3, _⟩
    · refine ⟨_, .inl ⟨as, r, showsL_move hh hm h3 (fun x hx => ?_), h4, h5, rfl⟩, ?_, ?_⟩
      · rcases List.mem_append.1 hx with hx | hx
        · obtain ⟨z, hz, rfl⟩ := List.mem_map.1 hx
          exact hu z (by simp [hz])
        · rcases hu f (by simp) with ⟨u, hu⟩ | hu
          · rw [e] at hu
            exact .inl (hu.fn_get x hx)
          · rw [e] at hu
            exact .inr (plainL_mem (by simpa [AV.plain] using hu) x hx)
      · rw [← h6]; cases d <;> rfl
      · cases d <;> rfl
    · cases h3
    · cases h3
  | _ => rw [e] at hs; exact hs.elim

/-! What a drawn order's heap has of the text's. -/
theorem text_nonW (h : Traced c mu N ops gs s) {m : Nat} {g : GI} (hg : gs[m]? = some g) (hw : isW g.i = false) : (s (m + 1)).h = (s m).h := by
  rcases h.tr m g hg with ⟨x', ha, hgd, hs⟩ | ⟨x', ha, t', want, hgd, hl, hy⟩
  · rw [nonW_heap hw hs, ha.2]
  · rw [hy]
    cases g.dst <;> exact ha.2

theorem hfold_M (h : Traced c mu N ops gs s) {D : Nat → Bool} {i : Nat}
    (hD : ∀ k g, k < ops.size → gs[k]? = some g → isW g.i = true → tagA ops gs k = false → (D k = true ↔ k < i)) : ∀ m, m ≤ ops.size → ∀ (id : Nat) (cs : List AV), (s (min m i)).h[id]? = some (some cs) →
      (∀ k, k < min m i → tagA ops gs k = true → D k = false → (s k).h.length ≠ id) → (hfold s gs (tagA ops gs) D m)[id]? = some (some cs)
  | 0, _, id, cs, hc, _ => by simpa [hfold] using hc
  | m + 1, hm, id, cs, hc, hk => by
    obtain ⟨o, g, ho, hg, _⟩ := h.get (k := m) (by omega)
    have ih := hfold_M h hD m (by omega) id cs
    simp only [hfold]
    rw [hg]
    simp only [Option.map_some, Option.some.injEq]
    cases hW : isW g.i with
    | false =>
      rw [if_neg (by simp)]
      refine ih ?_ (fun k h1 => hk k (by omega))
      by_cases e : m < i
      · rw [Nat.min_eq_left (by omega), text_nonW h hg hW] at hc
        rw [Nat.min_eq_left (by omega)]; exact hc
      · rw [Nat.min_eq_right (by omega)] at hc ⊢; exact hc
    | true =>
      cases hA : tagA ops gs m with
      | false =>
        have hd := hD m g (by omega) hg hW hA
        by_cases e : m < i
        · rw [if_pos ⟨hd.2 e, rfl⟩, if_neg (by simp)]
          rw [Nat.min_eq_left (by omega)] at hc; exact hc
        · rw [if_neg (fun h1 => e (hd.1 h1.1))]
          refine ih ?_ (fun k h1 => hk k (by omega))
          rw [Nat.min_eq_right (by omega)] at hc ⊢; exact hc
      | true =>
        obtain ⟨c0, e0⟩ := tagA_step h hA
        obtain ⟨hsw, _⟩ := tagA_get h hA
        by_cases hd : D m = true
        · rw [if_pos ⟨hd, rfl⟩, if_pos rfl, hset_get]
          have e1 : ((s (m + 1)).h.getD (s m).h.length none) = some c0 := by rw [e0]; simp
          rw [e1]
          by_cases e : m < i
          · rw [Nat.min_eq_left (by omega), e0] at hc
            by_cases e2 : id = (s m).h.length
            · subst e2
              rw [if_pos rfl]; simpa using hc
            · rw [if_neg e2]
              have hlt : id < (s m).h.length := by
                rcases Nat.lt_or_ge id (s m).h.length with h3 | h3
                · exact h3
                · rw [List.getElem?_append_right h3, List.getElem?_eq_none (by simp; omega)] at hc; cases hc
              rw [List.getElem?_append_left hlt] at hc
              have := ih (by rw [Nat.min_eq_left (by omega)]; exact hc) (fun k h1 => hk k (by omega))
              rw [if_pos (List.getElem?_eq_some_iff.1 this).1]; exact this
          · rw [Nat.min_eq_right (by omega)] at hc
            have hlt := (List.getElem?_eq_some_iff.1 hc).1
            have hle := len_mono h hsw i m (by omega) (by omega)
            rw [if_neg (by omega)]
            have := ih (by rw [Nat.min_eq_right (by omega)]; exact hc) (fun k h1 => hk k (by omega))
            rw [if_pos (List.getElem?_eq_some_iff.1 this).1]; exact this
        · rw [if_neg (fun h1 => hd h1.1)]
          by_cases e : m < i
          · rw [Nat.min_eq_left (by omega), e0] at hc
            have hne := hk m (by omega) hA (by simpa using hd)
            have hlt : id < (s m).h.length := by
              rcases Nat.lt_or_ge id (s m).h.length with h3 | h3
              · exact h3
              · rw [List.getElem?_append_right h3, List.getElem?_eq_none (by simp; omega)] at hc; cases hc
            rw [List.getElem?_append_left hlt] at hc
            exact ih (by rw [Nat.min_eq_left (by omega)]; exact hc) (fun k h1 => hk k (by omega))
          · rw [Nat.min_eq_right (by omega)] at hc
            exact ih (by rw [Nat.min_eq_right (by omega)]; exact hc) (fun k h1 => hk k (by omega))

theorem tagA_slot (h : Traced c mu N ops gs s) {k : Nat} (hA : tagA ops gs k = true) {t : Nat} (ht : (gs[k]?).bind (·.dst) = some t) : lookup (s (k + 1)).s t = .ref (s k).h.length 0 := by
  obtain ⟨h1, o, g, ho, hg, h2, h3, h4, h5⟩ := tagA_get h hA
  obtain ⟨o', g', ho', hg', hc⟩ := h.get (k := k) h5
  rw [hg] at hg'
  cases hg'
  obtain ⟨e1, e2, _⟩ := opG_dst hc
  rw [hg] at ht
  simp only [Option.bind_some] at ht
  have hdi : dstI g.i = some t := by rw [e2, ← e1, ht]
  rcases h.tr k g hg with ⟨x', ha, hgd, hs⟩ | ⟨x', ha, t', want, hgd, hl, hy⟩
  · unfold isA at h2
    simp only [Bool.and_eq_true] at h2
    have h6 := h2.2
    split at h6
    · rename_i d z m _ e
      subst h6
      rw [e] at hs hdi
      simp only [astep] at hs
      simp only [dstI, Option.some.injEq] at hdi
      subst hdi
      rw [← hs, ← ha.2]
      show (if _ = _ then _ else _) = _
      rw [if_pos rfl]
    · rename_i d z m _ e
      subst h6
      rw [e] at hs hdi
      simp only [astep] at hs
      simp only [dstI, Option.some.injEq] at hdi
      subst hdi
      rw [← hs, ← ha.2]
      show (if _ = _ then _ else _) = _
      rw [if_pos rfl]
    · cases h6
  · rw [h4] at hgd; cases hgd

theorem aSlot (h : Traced c mu N ops gs s) {t : Nat} (hall : ∀ k, k < ops.size → (gs[k]?).bind (·.dst) = some t → tagA ops gs k = true) : ∀ j, j ≤ ops.size → (∃ k, k < j ∧ (gs[k]?).bind (·.dst) = some t) → ∃ id, lookup (s j).s t = .ref id 0 ∧ (s 0).h.length ≤ id
  | 0, _, ⟨k, hk, _⟩ => by omega
  | j + 1, hj, ⟨k, hk, hd⟩ => by
    by_cases e : (gs[j]?).bind (·.dst) = some t
    · have hA := hall j (by omega) e
      exact ⟨_, tagA_slot h hA e, len_mono h (tagA_get h hA).1 0 j (by omega) (by omega)⟩
    · obtain ⟨id, h1, h2⟩ := aSlot h hall j (by omega) ⟨k, by
        rcases Nat.lt_or_ge k j with h3 | h3
        · exact h3
        · have : k = j := by omega
          subst this; exact absurd hd e, hd⟩
      refine ⟨id, ?_, h2⟩
      rw [text_slots h t (j + 1) hj]
      simp only [vfold]
      rw [if_neg (fun hc => e hc.2), ← text_slots h t j (by omega)]
      exact h1

theorem aStore_get {k : Nat} (ha : aStore ops gs k = true) : simpleW gs = true ∧ ∃ g sz t x, gs[k]? = some g ∧ g.i = .store sz (.t t) x ∧ (∃ j, j < k ∧ (gs[j]?).bind (·.dst) = some t) ∧ ∀ j, j < gs.length → (gs[j]?).bind (·.dst) = some t → tagA ops gs j = true := by
  unfold aStore at ha
  simp only [Bool.and_eq_true] at ha
  obtain ⟨h1, h2⟩ := ha
  refine ⟨h1, ?_⟩
  split at h2
  · rename_i g hg
    split at h2
    · rename_i sz t x e
      simp only [Bool.and_eq_true] at h2
      obtain ⟨h3, h4⟩ := h2
      obtain ⟨j, hj, h5⟩ := List.any_eq_true.1 h3
      simp only [Bool.and_eq_true, beq_iff_eq] at h5
      refine ⟨g, sz, t, x, hg, e, ⟨j, List.mem_range.1 hj, h5.2⟩, fun j hj hd => ?_⟩
      have := List.all_eq_true.1 h4 j (List.mem_range.2 hj)
      simp only [Bool.or_eq_true, bne_iff_ne] at this
      rcases this with h6 | h6
      · exact absurd hd h6
      · exact h6
    · cases h2
  · cases h2

theorem aStore_step (h : Traced c mu N ops gs s) {k : Nat} (hk : k < ops.size) (ha : aStore ops gs k = true) {id : Nat} (hid : id < (s 0).h.length) : (s (k + 1)).h[id]? = (s k).h[id]? := by
  obtain ⟨_, g, sz, t, x, hg, e, hex, hall⟩ := aStore_get ha
  obtain ⟨id', hl, hge⟩ := aSlot h (fun j hj => hall j (by rw [h.len]; exact hj)) k (by omega) hex
  rcases h.tr k g hg with ⟨x', hal, hgd, hs⟩ | ⟨x', hal, t', want, hgd, hl', hy⟩
  · rw [e] at hs
    simp only [astep] at hs
    have he : x'.ev (.t t) = .ref id' 0 := by show lookup x'.s t = _; rw [hal.1 t, hl]
    rw [he] at hs
    simp only at hs
    obtain ⟨cs, _, _, _, h2⟩ := hs
    rw [← h2, ← hal.2]
    exact List.getElem?_set_ne (by omega)
  · rw [hy, ← hal.2]
    cases g.dst <;> rfl

theorem calm_step (h : Traced c mu N ops gs s) {k : Nat} (hk : k < ops.size) {g : GI} (hg : gs[k]? = some g) (hc : isW g.i = false ∨ tagA ops gs k = true ∨ aStore ops gs k = true) {id : Nat} (hid : id < (s 0).h.length) : (s (k + 1)).h[id]? = (s k).h[id]? := by
  rcases hc with hc | hc | hc
  · rw [text_nonW h hg hc]
  · obtain ⟨c0, e0⟩ := tagA_step h hc
    have := len_mono h (tagA_get h hc).1 0 k (by omega) (by omega)
    rw [e0, List.getElem?_append_left (by omega)]
  · exact aStore_step h hk hc hid
theorem calm (h : Traced c mu N ops gs s) {i : Nat} {id : Nat} (hid : id < (s 0).h.length) : ∀ m, i ≤ m → m ≤ ops.size → (∀ k g, i ≤ k → k < m → gs[k]? = some g → isW g.i = false ∨ tagA ops gs k = true ∨ aStore ops gs k = true) → (s m).h[id]? = (s i).h[id]?
  | 0, hi, _, _ => by have : i = 0 := by omega
                      subst this; rfl
  | m + 1, hi, hm, hc => by
    by_cases e : i = m + 1
    · subst e; rfl
    · obtain ⟨o, g, ho, hg, _⟩ := h.get (k := m) (by omega)
      rw [calm_step h (by omega) hg (hc m g (by omega) (by omega) hg) hid]
      exact calm h hid m (by omega) (by omega) (fun k g h1 h2 => hc k g h1 (by omega))

theorem hfold_C (h : Traced c mu N ops gs s) (hsw : simpleW gs = true) {D : Nat → Bool} {i : Nat}
    (hD : ∀ k g, k < ops.size → gs[k]? = some g → isW g.i = true → tagA ops gs k = false → aStore ops gs k = false → (D k = true ↔ k < i))
    (hord : ∀ j k g, j < ops.size → k < j → gs[k]? = some g → aStore ops gs j = true → tagA ops gs j = false → isW g.i = true → tagA ops gs k = false → D j = true → D k = true) {id : Nat} (hid : id < (s 0).h.length) (hi : i ≤ ops.size) :
    ∀ m, m ≤ ops.size → id < (hfold s gs (tagA ops gs) D m).length ∧ (hfold s gs (tagA ops gs) D m)[id]? = (s (min m i)).h[id]?
  | 0, _ => ⟨by simpa [hfold] using hid, by simp [hfold]⟩
  | m + 1, hm => by
    obtain ⟨o, g, ho, hg, _⟩ := h.get (k := m) (by omega)
    obtain ⟨il, ih⟩ := hfold_C h hsw hD hord hid hi m (by omega)
    -- the text's heap has the block at every time
    have step : isW g.i = false ∨ tagA ops gs m = true ∨ aStore ops gs m = true → (s (min (m + 1) i)).h[id]? = (s (min m i)).h[id]? := by
      intro hc
      by_cases e : m < i
      · rw [Nat.min_eq_left (by omega), Nat.min_eq_left (by omega)]; exact calm_step h (by omega) hg hc hid
      · rw [Nat.min_eq_right (by omega), Nat.min_eq_right (by omega)]
    simp only [hfold]
    rw [hg]
    simp only [Option.map_some, Option.some.injEq]
    cases hW : isW g.i with
    | false => rw [if_neg (by simp)]; exact ⟨il, ih.trans (step (.inl hW)).symm⟩
    | true =>
      cases hA : tagA ops gs m with
      | true =>
        by_cases hd : D m = true
        · rw [if_pos ⟨hd, rfl⟩, if_pos rfl]
          have hle := len_mono h (tagA_get h hA).1 0 m (by omega) (by omega)
          refine ⟨by rw [hset_length]; omega, ?_⟩
          rw [hset_get, if_neg (by omega), if_pos il, ih, step (.inr (.inl hA))]
        · rw [if_neg (fun h1 => hd h1.1)]; exact ⟨il, ih.trans (step (.inr (.inl hA))).symm⟩
      | false =>
        have inlen : ∀ {x : Option (Option (List AV))} {l : AHeap}, l[id]? = x → x ≠ none → id < l.length := by
          intro x l h1 h2
          rcases Nat.lt_or_ge id l.length with h3 | h3
          · exact h3
          · rw [List.getElem?_eq_none h3] at h1; exact absurd h1.symm h2
        have some' : (hfold s gs (tagA ops gs) D m)[id]? ≠ none := by rw [List.getElem?_eq_getElem il]; simp
        cases hS : aStore ops gs m with
        | true =>
          by_cases hd : D m = true
          · rw [if_pos ⟨hd, rfl⟩, if_neg (by simp)]
            have key : (s (m + 1)).h[id]? = (s (min (m + 1) i)).h[id]? := by
              by_cases e : m < i
              · rw [Nat.min_eq_left (by omega)]
              · rw [Nat.min_eq_right (by omega)]
                refine calm h hid (m + 1) (by omega) hm (fun k g' h1 h2 hg' => ?_)
                cases hW' : isW g'.i with
                | false => exact .inl rfl
                | true =>
                  cases hA' : tagA ops gs k with
                  | true => exact .inr (.inl rfl)
                  | false =>
                    cases hS' : aStore ops gs k with
                    | true => exact .inr (.inr rfl)
                    | false =>
                      have hkm : k < m := by
                        rcases Nat.lt_or_ge k m with h3 | h3
                        · exact h3
                        · have : k = m := by omega
                          subst this; rw [hS] at hS'; cases hS'
                      have h4 := hord m k g' (by omega) hkm hg' hS hA hW' hA' hd
                      have := (hD k g' (by omega) hg' hW' hA' hS').1 h4
                      omega
            refine ⟨inlen key ?_, key⟩
            rw [step (.inr (.inr hS)), ← ih]; exact some'
          · rw [if_neg (fun h1 => hd h1.1)]; exact ⟨il, ih.trans (step (.inr (.inr hS))).symm⟩
        | false =>
          have hd := hD m g (by omega) hg hW hA hS
          by_cases e : m < i
          · rw [if_pos ⟨hd.2 e, rfl⟩, if_neg (by simp)]
            have hlen : id < (s (m + 1)).h.length := Nat.lt_of_lt_of_le hid (len_mono h hsw 0 (m + 1) (by omega) hm)
            exact ⟨hlen, by rw [Nat.min_eq_left (by omega)]⟩
          · rw [if_neg (fun h1 => e (hd.1 h1.1))]
            rw [Nat.min_eq_right (by omega)] at ih ⊢
            exact ⟨il, ih⟩

theorem any_sound (hT : Traced c mu N ops gs s) (hB0 : B.h.length ≤ (s 0).h.length) (hS0 : ∀ t id off, lookup (s 0).s t = .ref id off → id < (s 0).h.length) {Q : Exit → Act → World → Prop} (hQ : ∀ a w rho fz, Rel c B N (s ops.size) a w rho fz → Q .normal a w) :
    ∀ (fuel : Nat) (listed : Array Bool) (D : Nat → Bool) (dl : List Nat) (a : Act) (w : World) (rho : Gh) (fz : Nat → Prop), Done ops listed D dl → dl.length + fuel = ops.size → (∀ k, tagA ops gs k = true → D k = false → rho (s k).h.length = none) →
      RelF c B N (fun t => vfold s gs D t ops.size) (hfold s gs (tagA ops gs) D ops.size) a w rho fz → wpAny c.P .any ops Q fuel listed a w := by
  have fin : ∀ (listed : Array Bool) (D : Nat → Bool) (dl : List Nat) (a : Act) (w : World) (rho : Gh) (fz : Nat → Prop), (∀ k, k < ops.size → D k = true) →
      RelF c B N (fun t => vfold s gs D t ops.size) (hfold s gs (tagA ops gs) D ops.size) a w rho fz → Q .normal a w := by
    intro listed D dl a w rho fz hall hr
    refine hQ a w rho fz (hr.toRel (fun t => ?_) ?_)
    · rw [text_slots hT t ops.size (Nat.le_refl _)]
      exact vfold_congr _ (fun k hk _ => (hall k hk).symm)
    · rw [text_heap hT ops.size (Nat.le_refl _)]
      exact hfold_congr _ (fun k hk _ => (hall k hk).symm)
  intro fuel
  induction fuel with
  | zero =>
    intro listed D dl a w rho fz hD hlen hpend hr
    have hall : ∀ k, k < ops.size → D k = true := by
      intro k hk
      by_cases hd : D k = true
      · exact hd
      · exfalso
        have := nodup_bound ops.size (k :: dl) (List.nodup_cons.2 ⟨fun hc => hd ((hD.mem k).2 hc), hD.nd⟩) (fun x hx => by
          rcases List.mem_cons.1 hx with rfl | hx
          · exact hk
          · exact hD.lt x hx)
        simp at this
        omega
    refine ⟨?_, fin listed D dl a w rho fz hall hr⟩
    apply List.eq_nil_iff_forall_not_mem.2
    intro i hi
    obtain ⟨_, hDi, hlt, _⟩ := hD.step hi
    rw [hall i hlt] at hDi
    cases hDi
  | succ fuel ih =>
    intro listed D dl a w rho fz hD hlen hpend hr
    refine ⟨fun hn => fin listed D dl a w rho fz (hD.all hT hn) hr, fun i hi => ?_⟩
    obtain ⟨hD', hDi, hlt, hpre⟩ := hD.step hi
    obtain ⟨o, g, ho, hg, hc⟩ := hT.get hlt
    obtain ⟨e1, e2, e3, e4, e5⟩ := opG_dst hc
    have hclosed : ∀ (j k : Nat), k ∈ (befs ops).getD j [] → D j = true → D k = true := fun j k hk hj =>
      befs_closed (listed := D) hD.cl j k hk (fun o' ho' e he hb => hD.cl j o' ho' hj e he hb)
    have hbef : ∀ k, k ∈ (befs ops).getD i [] → D k = true := fun k hk => befs_closed (listed := D) hD.cl i k hk (fun o' ho' e he hb => hpre o' ho' e he hb)
    -- who must stand before i has come up; who must stand behind it has not
    have hbefore : ∀ (k : Nat) (x : GI), k < ops.size → gs[k]? = some x → (k < i → conf ops gs k i x g = true) → (i < k → conf ops gs i k g x = true) → k ≠ i → (D k = true ↔ k < i) := by
      intro k x hk hx h1 h2 hne
      constructor
      · intro hd
        rcases Nat.lt_or_gt_of_ne hne with h3 | h3
        · exact h3
        · have := hclosed k i (hT.order h3 hg hx (h2 h3)) hd
          rw [hDi] at this; cases this
      · intro h3
        exact hbef k (hT.order h3 hx hg (h1 h3))
    have getx : ∀ k, k < ops.size → ∃ x, gs[k]? = some x := fun k hk => ⟨gs[k]'(by rw [hT.len]; exact hk), List.getElem?_eq_getElem _⟩
    -- (A) the slots that i looks at
    have hA : ∀ t ∈ rdSlots g, vfold s gs D t ops.size = lookup (s i).s t := by
      intro t ht
      rw [text_slots hT t i (by omega)]
      refine vfold_upto ops.size (by omega) (fun k hk hw => ?_)
      obtain ⟨x, hx⟩ := getx k hk
      rw [hx] at hw
      simp only [Option.bind_some] at hw
      by_cases hne : k = i
      · subst hne
        simp [hDi]
      · exact hbefore k x hk hx (fun _ => conf_rd hw ht) (fun _ => conf_rd' hw ht) hne
    -- (B) the heap that i looks at
    have hB : tagA ops gs i = false → isH g.i = true → reader g = false → hfold s gs (tagA ops gs) D ops.size = (s i).h := by
      intro hnA hH hnr
      rw [text_heap hT i (by omega)]
      refine hfold_upto ops.size (by omega) (fun k hk hw => ?_)
      obtain ⟨x, hx⟩ := getx k hk
      rw [hx] at hw
      simp only [Option.map_some, Option.some.injEq] at hw
      by_cases hne : k = i
      · subst hne
        simp [hDi]
      · exact hbefore k x hk hx (fun _ => conf_wh (.inr hnA) hw hH (.inr hnr) (.inr (nonreader_eLoad hnr))) (fun _ => conf_hw (.inl hnA) hH hw (.inl hnr) (.inl (nonreader_eLoad hnr))) hne
    -- behind i
    have hD1 : (fun k => if k = i then true else D k) i = true := by simp
    have hlastv : ∀ d, g.dst = some d → vfold s gs (fun k => if k = i then true else D k) d ops.size = lookup (s (i + 1)).s d := by
      intro d hd
      refine vfold_last hD1 (by rw [hg]; exact hd) ops.size hlt (fun k hk hik hw => ?_)
      obtain ⟨x, hx⟩ := getx k hk
      rw [hx] at hw
      simp only [Option.bind_some] at hw
      have := hbefore k x hk hx (fun h3 => by omega) (fun _ => conf_ww hd hw) (by omega)
      simp only [show ¬ k = i by omega, if_false]
      cases hdk : D k with
      | false => rfl
      | true => have := this.1 hdk; omega
    have hothv : ∀ t, g.dst ≠ some t → vfold s gs (fun k => if k = i then true else D k) t ops.size = vfold s gs D t ops.size := by
      intro t hne
      refine vfold_congr _ (fun k hk hw => ?_)
      by_cases e : k = i
      · subst e; rw [hg] at hw; exact absurd hw hne
      · simp [e]
    have hlasth : tagA ops gs i = false → isW g.i = true → hfold s gs (tagA ops gs) (fun k => if k = i then true else D k) ops.size = (s (i + 1)).h := by
      intro hnA hW
      refine hfold_last hnA hD1 (by rw [hg]; simp [hW]) ops.size hlt (fun k hk hik hw => ?_)
      obtain ⟨x, hx⟩ := getx k hk
      rw [hx] at hw
      simp only [Option.map_some, Option.some.injEq] at hw
      have := hbefore k x hk hx (fun h3 => by omega) (fun _ => conf_wW (.inl hnA) hW hw) (by omega)
      simp only [show ¬ k = i by omega, if_false]
      cases hdk : D k with
      | false => rfl
      | true => have := this.1 hdk; omega
    have hothh : isW g.i = false → hfold s gs (tagA ops gs) (fun k => if k = i then true else D k) ops.size = hfold s gs (tagA ops gs) D ops.size := by
      intro hW
      refine hfold_congr _ (fun k hk hw => ?_)
      by_cases e : k = i
      · subst e; rw [hg] at hw; simp [hW] at hw
      · simp [e]
    have hlen' : (i :: dl).length + fuel = ops.size := by simp; omega
    -- what follows, given what came of i
    have next0 : ∀ (r : AV) (v : Value) (w' : World) (rho' : Gh) (fz' : Nat → Prop) (h' : AHeap), (∀ d, g.dst = some d → lookup (s (i + 1)).s d = r) → h' = hfold s gs (tagA ops gs) (fun k => if k = i then true else D k) ops.size →
        (∀ id p, rho id = some p → rho' id = some p) → HR w' rho' fz' h' → FzOk w' fz' → Pres w (Owned rho (hfold s gs (tagA ops gs) D ops.size)) fz w' fz' → (∀ id, id < B.h.length → rho' id = rho id) → B.h.length ≤ h'.length →
        (∀ b, Owned rho' h' b → Owned rho (hfold s gs (tagA ops gs) D ops.size) b ∨ w.heap.size ≤ b) → (∀ k, tagA ops gs k = true → D k = false → k ≠ i → rho' (s k).h.length = none) → RT w' rho' fz' r v →
        wpAny c.P .any ops Q fuel (listed.setIfInBounds i true) (a.put o.dst v) w' := by
      intro r v w' rho' fz' h' hsl hh hro hHR hok hpres hsame hlen0 hown hpd hrt
      refine ih _ _ _ _ w' rho' fz' hD' hlen' (fun k hk hdk => ?_) ?_
      · by_cases e : k = i
        · subst e; simp at hdk
        · exact hpd k hk (by simpa [e] using hdk) e
      have hfw : ∀ b, fz b → w'.heap[b]? = w.heap[b]? := fun b hb => hpres.block b (hr.ok b hb) (fun hc => (Owned.lt hr.hr hc).2 hb)
      subst hh
      refine ⟨fun t => ?_, by rw [size_put]; exact hr.sz, by rw [defers_put]; exact hr.df.pres hr.hr hpres, hHR, hok, hr.gl.mono hfw hpres.keep, hr.pres.trans hpres hr.own, fun id hid => ?_, hlen0, fun b hb => ?_⟩
      · have hold := (hr.sl t).mono hfw hpres.keep hpres.shape hro
        cases hd : o.dst with
        | none =>
          rw [hothv t (by rw [e1, hd]; simp)]
          exact hold
        | some d =>
          rw [tmps_put a d v (by rw [hr.sz]; exact e3 d hd) t]
          by_cases e : t = d
          · subst e
            rw [if_pos rfl, hlastv t (by rw [e1]; exact hd), hsl t (by rw [e1]; exact hd)]
            exact hrt
          · rw [if_neg e, hothv t (by rw [e1, hd]; simpa using Ne.symm e)]
            exact hold
      · rw [hsame id hid]; exact hr.same id hid
      · rcases hown b hb with h5 | h5
        · exact hr.own b h5
        · exact .inr (Nat.le_trans hr.pres.size h5)
    have next : tagA ops gs i = false → ∀ (r : AV) (v : Value) (w' : World) (rho' : Gh) (fz' : Nat → Prop) (h' : AHeap), (∀ d, g.dst = some d → lookup (s (i + 1)).s d = r) → h' = hfold s gs (tagA ops gs) (fun k => if k = i then true else D k) ops.size →
        Good w rho fz (hfold s gs (tagA ops gs) D ops.size) w' rho' fz' h' → RT w' rho' fz' r v → wpAny c.P .any ops Q fuel (listed.setIfInBounds i true) (a.put o.dst v) w' := by
      intro hnA r v w' rho' fz' h' hsl hh hgood hrt
      refine next0 r v w' rho' fz' h' hsl hh (fun id p hp => ?_) hgood.hr hgood.ok hgood.pres (fun id hid => hgood.same id (Nat.lt_of_lt_of_le hid hr.len)) (Nat.le_trans hr.len hgood.len) hgood.own (fun k hk hdk hne => ?_) hrt
      · rw [hgood.same id (by
          rcases Nat.lt_or_ge id (hfold s gs (tagA ops gs) D ops.size).length with h5 | h5
          · exact h5
          · rw [hr.hr.dom id h5] at hp; cases hp)]
        exact hp
      · rcases Nat.lt_or_ge (s k).h.length (hfold s gs (tagA ops gs) D ops.size).length with h5 | h5
        · rw [hgood.same _ h5]; exact hpend k hk hdk
        · refine hgood.hr.dom _ ?_
          rw [hh]
          obtain ⟨hsw, ok, gk, hok, hgk, _, hWk, _, hkl⟩ := tagA_get hT hk
          cases hW : isW g.i with
          | false => rw [hothh hW]; exact h5
          | true =>
            rw [hlasth hnA hW]
            have := hbefore k gk hkl hgk (fun _ => conf_wW (.inr hnA) hWk hW) (fun _ => conf_wW (.inl hnA) hW hWk) hne
            have hki : ¬ k < i := fun h6 => by rw [this.2 h6] at hdk; cases hdk
            exact len_mono hT hsw (i + 1) k (by omega) (by omega)
    have hguardslot : ∀ t want, g.g = some (t, want) → t ∈ rdSlots g := fun t want hgg => by simp [rdSlots, hgg]
    have hslot : ∀ t want x, g.g = some (t, want) → lookup (s i).s t = x → RT w rho fz x (a.tmps.getD t undef) := fun t want x hgg hx => by
      have := hr.sl t
      simp only [hA t (hguardslot t want hgg)] at this
      rwa [hx] at this
    unfold wpOp
    rw [ho]
    simp only
    rcases hT.tr i g hg with ⟨x', ha, hgd, hs⟩ | ⟨x', ha, t, want, hgd, hl, hy⟩
    · -- carried out
      have hw : Region.wanted o (yielded ops a.tmps) = true := by
        rcases e5 with ⟨e6, e7⟩ | ⟨j, t, want, e6, e7, e8⟩
        · unfold Region.wanted; rw [e7]
        · rcases hgd with hgd | ⟨t', want', hgd, hlk⟩
          · rw [hgd] at e8; cases e8
          · rw [hgd] at e8
            cases e8
            rw [guard_bool e6 e7 (hslot t want _ hgd hlk).bool]
            simp
      rw [hw, if_pos rfl]
      refine .inl ?_
      have hup := astep_upd hs
      cases hAi : tagA ops gs i with
      | true =>
        obtain ⟨hsw, o2, g2, ho2, hg2, hiA, hWi, hgi, _⟩ := tagA_get hT hAi
        rw [ho] at ho2
        rw [hg] at hg2
        cases ho2
        cases hg2
        obtain ⟨arr, ty, cs, d, hd, hys, hyh, hle, hcs, hrun⟩ := isA_run (a := a) (w := w) (rho := rho) (fz := fz) e4 hiA hs hr.gl (fun y hy t ht => by
          have hin : t ∈ rdSlots g := List.mem_append_left _ (List.mem_flatMap.2 ⟨y, hy, ht⟩)
          have := hr.sl t
          simp only [hA t hin] at this
          show RT w rho fz (lookup x'.s t) _
          rw [ha.1 t]
          exact this)
        have hnone := hpend i hAi hDi
        have hidi : ∀ k, tagA ops gs k = true → k ≠ i → (s k).h.length ≠ (s i).h.length := by
          intro k hk hne
          have hkl := (tagA_get hT hk).2.choose_spec.choose_spec.2.2.2.2.2
          rcases Nat.lt_or_gt_of_ne hne with h6 | h6
          · obtain ⟨cs', e⟩ := tagA_step hT hk
            have h7 := len_mono hT hsw (k + 1) i (by omega) (by omega)
            rw [e] at h7
            simp at h7
            omega
          · obtain ⟨cs', e⟩ := tagA_step hT hAi
            have h7 := len_mono hT hsw (i + 1) k (by omega) (by omega)
            rw [e] at h7
            simp at h7
            omega
        obtain ⟨hHR, hown⟩ := alloc_at hr.hr hr.ok hnone arr ty cs hle hcs
        have hBi : B.h.length ≤ (s i).h.length := Nat.le_trans hB0 (len_mono hT hsw 0 i (by omega) (by omega))
        unfold Oper.wp
        rw [hrun]
        refine next0 (.ref (s i).h.length 0) _ _ _ fz _ (fun d' hd' => ?_) ?_ (fun id p hp => ?_) hHR (fun b hb => by have := hr.ok b hb; simp; omega) (pres_alloc w _ fz _ _ (fun _ hx => hx) (fun b hb => .inl hb)) (fun id hid => ?_) ?_ hown (fun k hk hdk hne => ?_) ?_
        · rw [e1, hd] at hd'
          cases hd'
          rw [hys]
          show (if d = d then _ else _) = _
          rw [if_pos rfl, ha.2]
        · rw [hfold_put hAi hDi (by rw [hg]; simp [hWi]) ops.size hlt (fun k hk hik hdk hw => ?_), hyh, ha.2]
          · simp
          · obtain ⟨x, hx⟩ := getx k hk
            rw [hx] at hw
            simp only [Option.map_some, Option.some.injEq] at hw
            have hAk : tagA ops gs k = true := by
              cases hAk : tagA ops gs k with
              | true => rfl
              | false =>
                have := hbefore k x hk hx (fun h3 => by omega) (fun _ => conf_wW (.inr hAk) hWi hw) (by omega)
                have := this.1 hdk
                omega
            exact ⟨hAk, hidi k hAk (by omega)⟩
        · unfold rhoNew
          rw [if_neg (fun e => by rw [e, hnone] at hp; cases hp)]
          exact hp
        · unfold rhoNew
          rw [if_neg (by omega)]
        · rw [hset_length]
          have := hr.len
          omega
        · unfold rhoNew
          rw [if_neg (hidi k hk hne)]
          exact hpend k hk hdk
        · simpa using RT.ref (w := w.alloc (.cells arr ty)) (rho := rhoNew rho (s i).h.length (w.heap.size, 0)) (fz := fz) (s i).h.length 0 w.heap.size 0 (by simp [rhoNew])
      | false =>
      -- the step over the heap at hand
      obtain ⟨z, hz, hzs, hzh⟩ : ∃ z : St, astep c g.i ⟨x'.s, hfold s gs (tagA ops gs) D ops.size⟩ (fun q => q = z) ∧ z.s = (s (i + 1)).s ∧ z.h = hfold s gs (tagA ops gs) (fun k => if k = i then true else D k) ops.size := by
        by_cases hR : reader g = true
        · -- it looks at the heap alone
          have hW := reader_W hR
          have hord : ∀ k x, k < ops.size → gs[k]? = some x → isW x.i = true → tagA ops gs k = false → (aStore ops gs k = false ∨ eLoad gs g = false) → (D k = true ↔ k < i) := by
            intro k x hk hx hWx hAk hS
            have hne : k ≠ i := fun e => by subst e; rw [hg] at hx; cases hx; rw [hW] at hWx; cases hWx
            have hH : isH g.i = true := by
              unfold reader at hR
              split at hR
              · rename_i e; rw [e]; rfl
              · rename_i e; rw [e]; rfl
              · cases hR
            exact hbefore k x hk hx (fun _ => conf_wh (.inr hAi) hWx hH (.inl hAk) hS) (fun _ => conf_hw (.inl hAi) hH hWx (.inr hAk) hS.symm) hne
          have hzz : ∀ z : St, z.s = (s (i + 1)).s → z.h = hfold s gs (tagA ops gs) D ops.size → z.s = (s (i + 1)).s ∧ z.h = hfold s gs (tagA ops gs) (fun k => if k = i then true else D k) ops.size :=
            fun z h1 h2 => ⟨h1, by rw [h2, hothh hW]⟩
          have hM : eLoad gs g = false → ∀ id cs, (s i).h[id]? = some (some cs) → rho id ≠ none → (hfold s gs (tagA ops gs) D ops.size)[id]? = some (some cs) := by
            intro hE id cs hc hn
            refine hfold_M hT (fun k x hk hx hWx hAk => hord k x hk hx hWx hAk (.inr hE)) ops.size (Nat.le_refl _) id cs (by rw [Nat.min_eq_right (by omega)]; exact hc) (fun k hk hAk hdk e => ?_)
            rw [← e] at hn
            exact hn (hpend k hAk hdk)
          have hRT : ∀ t, O.t t ∈ rdI g.i → RT w rho fz (lookup x'.s t) (a.tmps.getD t undef) := by
            intro t hy
            have hin : t ∈ rdSlots g := List.mem_append_left _ (List.mem_flatMap.2 ⟨_, hy, by simp [rdO]⟩)
            have := hr.sl t
            simp only [hA t hin] at this
            rw [ha.1 t]
            exact this
          have hgi := hR
          unfold reader at hgi
          split at hgi
          · rename_i d ag sz t egi
            rw [egi] at hs hRT ⊢
            have hx : x' = ⟨x'.s, x'.h⟩ := rfl
            rw [hx] at hs
            have side : ∀ id off cs, St.ev ⟨x'.s, x'.h⟩ (.t t) = .ref id off → x'.h[id]? = some (some cs) → (hfold s gs (tagA ops gs) D ops.size)[id]? = some (some cs) := by
              intro id off cs hid hc
              have hrt := hRT t (by simp [rdI])
              have hid' : lookup x'.s t = .ref id off := hid
              rw [hid'] at hrt
              have hn := hrt.ref_rho
              rw [ha.2] at hc
              cases hE : eLoad gs g with
              | false => exact hM hE id cs hc hn
              | true =>
                by_cases hsw : simpleW gs = true
                · have hid0 : id < (s 0).h.length := by
                    refine hS0 t id off ?_
                    have hnd : ∀ k : Nat, (gs[k]?).bind (fun x : GI => x.dst) ≠ some t := by
                      intro k hk
                      unfold eLoad at hE
                      rw [egi] at hE
                      simp only at hE
                      cases hgk : gs[k]? with
                      | none => rw [hgk] at hk; cases hk
                      | some x =>
                        rw [hgk] at hk
                        have := List.all_eq_true.1 hE x (List.mem_of_getElem? hgk)
                        simp only [bne_iff_ne] at this
                        exact this hk
                    have : ∀ m, vfold s gs (fun _ => true) t m = lookup (s 0).s t := by
                      intro m
                      induction m with
                      | zero => rfl
                      | succ m ih => simp only [vfold]; rw [if_neg (fun hc => hnd m hc.2), ih]
                    rw [← this i, ← text_slots hT t i (by omega), ← ha.1 t]
                    exact hid'
                  have := (hfold_C hT hsw (D := D) (i := i) (fun k x hk hx hWx hAk hSk => hord k x hk hx hWx hAk (.inl hSk)) (fun j k x hj hkj hx hSj hAj hWx hAk hDj => ?_) hid0 (by omega) ops.size (Nat.le_refl _)).2
                  · rw [Nat.min_eq_right (by omega)] at this
                    rw [this]; exact hc
                  · obtain ⟨y, hy⟩ := getx j hj
                    obtain ⟨_, g', sz', t', x', hg', eg', _, _⟩ := aStore_get hSj
                    rw [hy] at hg'
                    cases hg'
                    have hWy : isW y.i = true := by rw [eg']; rfl
                    exact hclosed j k (hT.order hkj hx hy (conf_wW (.inl hAk) hWx hWy)) hDj
                · have hnS : ∀ k, aStore ops gs k = false := by
                    intro k
                    cases h5 : aStore ops gs k with
                    | false => rfl
                    | true => exact absurd (aStore_get h5).1 hsw
                  refine hfold_M hT (fun k x hk hx hWx hAk => hord k x hk hx hWx hAk (.inl (hnS k))) ops.size (Nat.le_refl _) id cs (by rw [Nat.min_eq_right (by omega)]; exact hc) (fun k hk hAk hdk e => ?_)
                  rw [← e] at hn
                  exact hn (hpend k hAk hdk)
            obtain ⟨z, z1, z2, z3⟩ := load_move (h2 := hfold s gs (tagA ops gs) D ops.size) hs side
            exact ⟨z, z1, hzz z z2 z3⟩
          · rename_i d f args wr egi
            simp only [Bool.and_eq_true, Bool.not_eq_true'] at hgi
            obtain ⟨hwr, hpl⟩ := hgi
            subst hwr
            have hE : eLoad gs g = false := by unfold eLoad; rw [egi]
            rw [egi] at hs hRT ⊢
            have hx : x' = ⟨x'.s, x'.h⟩ := rfl
            rw [hx] at hs
            have side : ∀ y ∈ f :: args, Stands w rho fz (St.ev ⟨x'.s, x'.h⟩ y) := by
              intro y hy
              cases y with
              | t t => exact .inl ⟨_, hRT t (by simpa [rdI] using hy)⟩
              | k b =>
                have h5 := List.all_eq_true.1 hpl _ hy
                simp only [plainO] at h5
                exact .inr h5
            obtain ⟨z, z1, z2, z3⟩ := call_move (h2 := hfold s gs (tagA ops gs) D ops.size) hs hr.hr (fun id cs hc hn => hM hE id cs (by rw [← ha.2]; exact hc) hn) side
            exact ⟨z, z1, hzz z z2 z3⟩
          · cases hgi
        by_cases hH : isH g.i = true
        · have hR : reader g = false := by simpa using hR
          have hx : (⟨x'.s, hfold s gs (tagA ops gs) D ops.size⟩ : St) = x' := by rw [hB hAi hH hR, ← ha.2]
          rw [hx]
          refine ⟨_, hs, rfl, ?_⟩
          cases hW : isW g.i with
          | true => exact (hlasth hAi hW).symm
          | false => rw [nonW_heap hW hs, ha.2, hothh hW, hB hAi hH hR]
        · have hH' : isH g.i = false := by simpa using hH
          have hW : isW g.i = false := by
            cases hW : isW g.i with
            | false => rfl
            | true => rw [isW_isH hW] at hH'; cases hH'
          obtain ⟨z, hz1, hz2⟩ := astep_ex (hT.noFork hg) (nonH_move (h2 := hfold s gs (tagA ops gs) D ops.size) hH' (K := fun q => q = s (i + 1)) hs)
          refine ⟨z, hz1, ?_, ?_⟩
          · have := congrArg St.s hz2; exact this
          · rw [nonW_heap hW hz1, hothh hW]
      refine stepJ_sound e4 hz ⟨hr.hr, hr.ok, hr.gl⟩ (fun y hy t ht => ?_) _ Q (fun r h' v w' rho' fz' hk hgood hrt => ?_)
      · have hin : t ∈ rdSlots g := List.mem_append_left _ (List.mem_flatMap.2 ⟨y, hy, ht⟩)
        have := hr.sl t
        simp only [hA t hin] at this
        show RT w rho fz (lookup x'.s t) _
        rw [ha.1 t]
        exact this
      · have hk1 := congrArg St.s hk
        have hk2 := congrArg St.h hk
        refine next hAi r v w' rho' fz' h' (fun d hd => ?_) (by rw [← hzh, ← hk2]; rfl) hgood hrt
        rw [← hzs, ← hk1]
        simp only [upd, e2, ← e1, hd]
        show (if d = d then r else _) = r
        rw [if_pos rfl]
    · -- passed over
      have hw : Region.wanted o (yielded ops a.tmps) = false := by
        rcases e5 with ⟨e6, e7⟩ | ⟨j, t', want', e6, e7, e8⟩
        · rw [e6] at hgd; cases hgd
        · rw [hgd] at e8
          cases e8
          rcases hl with hl | hl
          · rw [guard_bool e6 e7 (hslot t want _ hgd hl).bool]
            cases want <;> rfl
          · obtain ⟨vs, hv, hvl, _⟩ := (hslot t want _ hgd hl).tuple'
            have hv0 : vs = #[] := Array.eq_empty_of_size_eq_zero hvl
            rw [hv0] at hv
            exact guard_skip e6 e7 hv
      rw [hw]
      simp only [Bool.false_eq_true, if_false]
      have hAi : tagA ops gs i = false := by
        cases hAi : tagA ops gs i with
        | false => rfl
        | true =>
          obtain ⟨_, o2, g2, _, hg2, _, _, hgi, _⟩ := tagA_get hT hAi
          rw [hg] at hg2
          cases hg2
          rw [hgi] at hgd
          cases hgd
      have hhf : hfold s gs (tagA ops gs) (fun k => if k = i then true else D k) ops.size = hfold s gs (tagA ops gs) D ops.size := by
        cases hW : isW g.i with
        | false => exact hothh hW
        | true =>
          rw [hlasth hAi hW, hB hAi (isW_isH hW) (W_reader hW), hy, ← ha.2]
          cases g.dst <;> rfl
      refine next hAi (.tuple []) undef w rho fz _ (fun d hd => ?_) rfl (by rw [hhf]; exact Good.refl hr.hr hr.ok) (.of _ _ (.tuple [] #[] rfl (fun i a hi => by simp at hi)))
      rw [hy, hd]
      show (if d = d then _ else _) = _
      rw [if_pos rfl]

end
end Go.Proofs.YtkjnjdcbnelceaaGreatDoor.KA
end

section
/- Soundness of 'awp', and how a function's contract follows from it. Nothing here concerns a given program. -/
set_option linter.unusedVariables false
set_option linter.unusedSimpArgs false
set_option linter.unnecessarySimpa false
namespace Go.Proofs.YtkjnjdcbnelceaaGreatDoor.KA
open Go

def noDefer (ops : Array Oper) : Bool := ops.toList.all fun o => match o.op with | .defer _ => false | _ => true

theorem noDefer_get {ops : Array Oper} (h : noDefer ops = true) {i : Nat} {o : Oper} (ho : ops[i]? = some o) : ∀ c, o.op ≠ .defer c := by
  intro c e
  have h1 := List.all_eq_true.1 h o (Array.mem_toList_iff.2 (Array.mem_of_getElem? ho))
  rw [e] at h1
  cases h1

/-- No range over a function within. -/
def noRange : Code → Bool
  | .seq a b => noRange a && noRange b
  | .cond _ a b => noRange a && noRange b
  | .block _ a => noRange a
  | .loop a => noRange a
  | .rangeFunc .. => false
  | _ => true

def comp (P : Program) (gt : List (Nat × List AV)) (mu : Nat → Bool) (n : Nat) : Code → Option C
  | .skip => some .skip
  | .region _ ops draw => match opGs P gt mu n ops ops.toList with
    | some gs => if (draw = true ∧ drawOk ops gs = false) ∨ noDefer ops = false then none else some (.ops gs)
    | none => none
  | .seq a b => match comp P gt mu n a, comp P gt mu n b with
    | some x, some y => some (.seq x y)
    | _, _ => none
  | .cond q a b => match opO gt q, comp P gt mu n a, comp P gt mu n b with
    | some o, some x, some y => some (.cond o x y)
    | _, _, _ => none
  | .block id a => (comp P gt mu n a).map (.block id)
  | .loop a => (comp P gt mu n a).map .loop
  | .rangeFunc g ps a b => match opO gt g, comp P gt mu n a, comp P gt mu n b with
    | some o, some x, some y => if ((ps.toList.all fun p => decide (p < n)) && (noRange a && noRange b)) = true then some (.range o ps.toList x y) else none
    | _, _, _ => none
  | .exit id => some (.exit id)
  | .ret => some .ret
  | _ => none

def toExit : E → Exit
  | .normal => .normal
  | .exit id => .exit id
  | .ret => .ret

section
variable {c : Ctx} {B : Base} {n : Nat} {a : Act} {w : World} {rho : Gh} {fz : Nat → Prop} {mu : Nat → Bool}

theorem idsLtL_get {m : Nat} {cs : List AV} {i : Nat} {a : AV} (h : AV.idsLtL m cs = true) (hi : cs[i]? = some a) : a.idsLt m = true := by
  induction cs generalizing i with
  | nil => simp at hi
  | cons b l ih =>
    simp [AV.idsLtL] at h
    cases i with
    | zero => simp at hi; subst hi; exact h.1
    | succ i => simp at hi; exact ih h.2 hi

theorem RT.idsLt {m : Nat} {r2 : Gh} (he : ∀ id, id < m → r2 id = rho id) {x : AV} {v : Value} (h : RT w rho fz x v) (hx : x.idsLt m = true) : RT w r2 fz x v := by
  induction h with
  | of x v h => exact .of _ _ h
  | agg cs vs hl _ ih => exact .agg cs vs hl (fun i a hi => ih i a hi (idsLtL_get (by simpa [AV.idsLt] using hx) hi))
  | tuple cs vs hl _ ih => exact .tuple cs vs hl (fun i a hi => ih i a hi (idsLtL_get (by simpa [AV.idsLt] using hx) hi))
  | fn f cs vs hl _ ih => exact .fn f cs vs hl (fun i a hi => ih i a hi (idsLtL_get (by simpa [AV.idsLt] using hx) hi))
  | iface t x v _ ih => exact .iface t x v (ih (by simpa [AV.idsLt] using hx))
  | own sz id off len cap b p cap' e n hr hc hl hsh hn => exact .own sz id off len cap b p cap' e n (by rw [he id (by simpa [AV.idsLt] using hx)]; exact hr) hc hl hsh hn
  | ref id off b p hr => exact .ref id off b p (by rw [he id (by simpa [AV.idsLt] using hx)]; exact hr)
  | tref T n id b hr hsh => exact .tref T n id b (by rw [he id (by simpa [AV.idsLt] using hx)]; exact hr) hsh

theorem lookup_mem : ∀ (l : List (Nat × AV)) (t : Nat), lookup l t = .undef ∨ (t, lookup l t) ∈ l
  | [], t => .inl rfl
  | (k, v) :: l, t => by
    simp only [lookup]
    split
    · rename_i e; subst e; exact .inr (by simp)
    · rcases lookup_mem l t with h | h
      · exact .inl h
      · exact .inr (by simp [h])

theorem weak_rel {st st' : St} (hw : weak B.h.length st st') (hr : Rel c B n st a w rho fz) : ∃ rho', Rel c B n st' a w rho' fz := by
  rcases hw with ⟨h1, h2⟩ | ⟨f, hk, hfix, h1, h2, h3, h4⟩
  · refine ⟨rho, fun t => ?_, hr.sz, hr.df, ⟨by rw [h2]; exact hr.pre.hr, hr.pre.ok, hr.pre.gl⟩, hr.pres, hr.same, by rw [h2]; exact hr.len, fun b hb => by rw [h2] at hb; exact hr.own b hb⟩
    rcases lookup_mem st'.s t with h | h
    · rw [h]; exact .of _ _ (.undef _)
    · have e := h1 _ h
      simp only at e
      rw [← e]; exact hr.sl t
  · obtain ⟨rho', hrho⟩ : ∃ rho' : Gh, rho' = fun id => if id < st'.h.length then rho (f id) else none := ⟨_, rfl⟩
    have hlt : ∀ id, id < st'.h.length → rho' id = rho (f id) := fun id hid => by subst hrho; simp [hid]
    have conv : ∀ {x : AV} {v : Value}, x.idsLt st'.h.length = true → RT w rho fz (x.ren f) v → RT w rho' fz x v := fun hx h => RT.idsLt (rho := fun id => rho (f id)) hlt h.ren hx
    have live : ∀ (id : Nat) (cs : List AV), st'.h[id]? = some (some cs) → id < st'.h.length := fun id cs hid => (List.getElem?_eq_some_iff.1 hid).1
    refine ⟨rho', fun t => ?_, hr.sz, hr.df, ⟨⟨fun id hid => by subst hrho; simp; omega, fun id cs hid => ?_, fun id id' cs cs' b p p' hd hd' e1 e2 => ?_⟩, hr.pre.ok, hr.pre.gl⟩, hr.pres, fun id hid => ?_, hk, fun b hb => ?_⟩
    · rcases lookup_mem st'.s t with h | h
      · rw [h]; exact .of _ _ (.undef _)
      · obtain ⟨g1, g2⟩ := h1 _ h
        refine conv g2 ?_
        rw [← g1]; exact hr.sl t
    · obtain ⟨g1, g2⟩ := h4 id cs hid
      obtain ⟨b, p, arr, ty, k1, k2, k3, k4, k5⟩ := hr.pre.hr.cell _ _ g1
      exact ⟨b, p, arr, ty, by rw [hlt id (live id cs hid)]; exact k1, k2, k3, by rw [renL_length] at k4; exact k4, fun j x hj => conv (idsLtL_get g2 hj) (k5 j _ (renL_get cs j x hj))⟩
    · rw [hlt id (live id cs hd)] at e1
      rw [hlt id' (live id' cs' hd')] at e2
      exact h3 id id' (live id cs hd) (live id' cs' hd') (hr.pre.hr.inj _ _ _ _ b p p' (h4 id cs hd).1 (h4 id' cs' hd').1 e1 e2)
    · rw [hlt id (Nat.lt_of_lt_of_le hid hk), hfix id hid]; exact hr.same id hid
    · obtain ⟨id, cs, p, hid, e1⟩ := hb
      rw [hlt id (live id cs hid)] at e1
      exact hr.own b ⟨f id, _, p, (h4 id cs hid).1, e1⟩

theorem Rel.drew {st : St} (hr : Rel c B n st a w rho fz) : Rel c B n st a w.drew rho fz := by
  refine ⟨fun t => (hr.sl t).drew, hr.sz, Marks.mono (w := w) (w' := w.drew) (fz := fz) (fz' := fz) (fun D h1 h2 => ⟨h1, h2⟩) hr.df, ⟨⟨hr.pre.hr.dom, fun id cs hid => ?_, hr.pre.hr.inj⟩, hr.pre.ok, fun p hp => ⟨(hr.pre.gl p hp).1.drew, (hr.pre.gl p hp).2⟩⟩, ⟨hr.pres.os, hr.pres.tape, hr.pres.output, hr.pres.size, hr.pres.block, hr.pres.shape, hr.pres.keep, hr.pres.fresh⟩, hr.same, hr.len, hr.own⟩
  obtain ⟨b, p, arr, ty, k1, k2, k3, k4, k5⟩ := hr.pre.hr.cell id cs hid
  exact ⟨b, p, arr, ty, k1, k2, k3, k4, fun j x hj => (k5 j x hj).drew⟩

theorem least {R : Nat → Prop} {m : Nat} (h : R m) : ∃ k, R k ∧ ∀ j, j < k → ¬ R j := by
  induction m using Nat.strongRecOn with
  | _ m ih =>
    by_cases hj : ∃ j, j < m ∧ R j
    · obtain ⟨j, h1, h2⟩ := hj
      exact ih j h1 h2
    · exact ⟨m, h, fun j h1 h2 => hj ⟨j, h1, h2⟩⟩

theorem Rel.refs {st : St} (h : Rel c B n st a w rho fz) : ∀ t id off, lookup st.s t = .ref id off → id < st.h.length := by
  intro t id off e
  have h1 := h.sl t
  rw [e] at h1
  rcases Nat.lt_or_ge id st.h.length with h2 | h2
  · exact h2
  · exact absurd (h.pre.hr.dom id h2) h1.ref_rho

end
end Go.Proofs.YtkjnjdcbnelceaaGreatDoor.KA
end

section
/- How a function's contract follows from 'awp' of its text. Nothing here concerns a given program. -/
set_option linter.unusedVariables false
set_option linter.unusedSimpArgs false
set_option linter.unnecessarySimpa false
namespace Go.Proofs.YtkjnjdcbnelceaaGreatDoor.KA
open Go

def cRV (P : Program) : ResultVar → Option RV
  | .tmp t => some (.tmp t)
  | .cell a t => match aggT P t, sizeT P t with
    | some ag, some sz => some (.cell a ag sz)
    | _, _ => none

def cRVs (P : Program) : List ResultVar → Option (List RV)
  | [] => some []
  | r :: l => match cRV P r, cRVs P l with
    | some a, some m => some (a :: m)
    | _, _ => none

/-- A function's text in the small code, its result variables, and how many slots it has. -/
def compF (P : Program) (gt : List (Nat × List AV)) (mu : Nat → Bool) (f : FuncId) : Option (C × List RV × Nat) :=
  match P.funcs[f]? with
  | some fn => match fn.body with
    | some code =>
      if (fn.name == "runtime.NumGoroutine") = false then
        match comp P gt mu fn.ntmps code, cRVs P fn.results.toList with
        | some cc, some rvs => some (cc, rvs, fn.ntmps)
        | _, _ => none
      else none
    | none => none
  | none => none

def loadK (h : AHeap) (z : AV) (ag : Bool) (sz : Nat) (K : AV → Prop) : Prop :=
  match z with
  | .fp cs => if ag then sz ≤ cs.length ∧ K (.agg (cs.take sz)) else ∃ v, cs[0]? = some v ∧ K v
  | .ref id off => ∃ cs, h[id]? = some (some cs) ∧ (if ag then off + sz ≤ cs.length ∧ K (.agg ((cs.drop off).take sz)) else ∃ v, cs[off]? = some v ∧ K v)
  | _ => False

def runRV (tmps : Array Value) : ResultVar → Sem Value
  | .tmp t => pure (tmps.getD t undef)
  | .cell d t => do loadVar t (← asAddr (tmps.getD d undef))

theorem results_eq (fn : Func) (tmps : Array Value) : results fn tmps = (do
    let vs ← fn.results.mapM (runRV tmps)
    pure (if h : vs.size = 1 then vs[0]'(by omega) else .tuple vs)) := by
  have : (runRV tmps) = (fun q : ResultVar => match q with
    | .tmp t => pure (tmps.getD t undef)
    | .cell a t => do loadVar t (← asAddr (tmps.getD a undef))) := by
    funext q; cases q <;> rfl
  rw [this]
  rfl

section
variable {c : Ctx} {B : Base} {n : Nat} {a : Act} {w : World} {rho : Gh} {fz : Nat → Prop} {mu : Nat → Bool} {st : St}

theorem load_sound {t : TypeId} {ag : Bool} {sz : Nat} {z : AV} {v : Value} (hag : aggT c.P t = some ag) (hsz : sizeT c.P t = some sz) (hh : HR w rho fz st.h) (h1 : RT w rho fz z v) {K : AV → Prop}
    (h : loadK st.h z ag sz K) : ∃ x u, K x ∧ RT w rho fz x u ∧ (do loadVar t (← asAddr v) : Sem Value).run c.P w = .ok u w := by
  have hcells : ∀ (b p : Nat) (g : Nat → Value) (cs : List AV), (∀ k z, cs[k]? = some z → w.cell? ⟨b, p + k, none⟩ = some (g k)) → v = .pointer (some ⟨b, p, none⟩) → ag = true → sz ≤ cs.length →
      (do loadVar t (← asAddr v) : Sem Value).run c.P w = .ok (.agg ((List.range sz).map g).toArray) w := by
    intro b p g cs hg hv hag' hle
    subst hag'
    have hl := run_loadCells (P := c.P) w ⟨b, p, none⟩ sz g (fun j hj => by rw [Addr.add_lit]; exact hg j cs[j] (List.getElem?_eq_getElem (by omega)))
    simp [asAddr, hv, loadVar, run_isAgg hag, run_sizeOf hsz, hl]
  have hcell : ∀ (b p : Nat) (u : Value), w.cell? ⟨b, p, none⟩ = some u → v = .pointer (some ⟨b, p, none⟩) → ag = false → (do loadVar t (← asAddr v) : Sem Value).run c.P w = .ok u w := by
    intro b p u hu hv hag'
    subst hag'
    simp [asAddr, hv, loadVar, run_isAgg hag, hu, Result.andThen]
  unfold loadK at h
  cases z with
  | fp cs =>
    have h2 := h1.fp
    cases h2 with
    | fp _ b p g hb hg hgr =>
      cases ag with
      | true =>
        simp only [if_true] at h
        obtain ⟨hle, hk⟩ := h
        refine ⟨_, _, hk, .of _ _ (.agg _ _ (by simp; omega) (fun j z hj => ?_)), hcells b p g cs hg rfl rfl hle⟩
        rw [List.getElem?_take] at hj
        split at hj
        · rename_i hlt
          simpa [hlt] using hgr j z hj
        · cases hj
      | false =>
        simp only [Bool.false_eq_true, if_false] at h
        obtain ⟨u, hu, hk⟩ := h
        have := hg 0 u hu
        simp at this
        exact ⟨_, _, hk, .of _ _ (hgr 0 u hu), hcell b p (g 0) this rfl rfl⟩
  | ref id off =>
    simp only at h
    obtain ⟨cs, hcs, h⟩ := h
    obtain ⟨b, p, hr, hv⟩ := h1.ref'
    obtain ⟨b', p', arr, ty, g1, g2, g3, g4, g5⟩ := hh.cell id cs hcs
    rw [hr] at g1
    cases g1
    have hcl : ∀ (k : Nat) (z : AV), cs[off + k]? = some z → w.cell? ⟨b, p + off + k, none⟩ = some (arr.getD (p + (off + k)) undef) := fun k z hk => by
      have : off + k < cs.length := (List.getElem?_eq_some_iff.1 hk).1
      rw [cell_of_row w b _ arr ty _ g3, Nat.add_assoc]
      simp [show p + (off + k) < arr.size by omega]
    cases ag with
    | true =>
      simp only [if_true] at h
      obtain ⟨hle, hk⟩ := h
      refine ⟨_, _, hk, .agg _ (((List.range sz).map (fun k => arr.getD (p + (off + k)) undef)).toArray) (by simp; omega) (fun j z hj => ?_), hcells b (p + off) (fun k => arr.getD (p + (off + k)) undef) (cs.drop off) (fun k z hk => hcl k z (by simpa using hk)) hv rfl (by simp; omega)⟩
      rw [List.getElem?_take] at hj
      split at hj
      · rename_i hlt
        have := g5 (off + j) z (by simpa using hj)
        simpa [hlt] using this
      · cases hj
    | false =>
      simp only [Bool.false_eq_true, if_false] at h
      obtain ⟨u, hu, hk⟩ := h
      have := hcl 0 u (by simpa using hu)
      exact ⟨_, _, hk, g5 off u hu, hcell b (p + off) _ (by simpa using this) hv rfl⟩
  | _ => exact h.elim

theorem rv_sound {q : ResultVar} {v : RV} (hq : cRV c.P q = some v) (hr : Rel c B n st a w rho fz) {K : AV → Prop} (hk : rvK st v K) :
    ∃ x u, K x ∧ RT w rho fz x u ∧ (runRV a.tmps q).run c.P w = .ok u w := by
  cases q with
  | tmp t => cases hq; exact ⟨_, _, hk, hr.sl t, by simp [runRV]⟩
  | cell d t =>
    simp only [cRV] at hq
    split at hq
    · rename_i ag sz h1 h2
      cases hq
      exact load_sound h1 h2 hr.pre.hr (hr.sl d) (K := K) hk
    · cases hq

theorem rvs_sound (hr : Rel c B n st a w rho fz) : ∀ {qs : List ResultVar} {vs : List RV}, cRVs c.P qs = some vs → ∀ {K : List AV → Prop}, rvsK st vs K →
    ∃ (xs : List AV) (us : List Value), K xs ∧ us.length = xs.length ∧ (∀ (i : Nat) (x : AV), xs[i]? = some x → RT w rho fz x (us.getD i undef)) ∧
      (qs.mapM (runRV a.tmps)).run c.P w = .ok us w
  | [], vs, hq, K, hk => by cases hq; exact ⟨[], [], hk, rfl, fun i x hx => by simp at hx, by simp⟩
  | q :: qs, vs, hq, K, hk => by
    simp only [cRVs] at hq
    split at hq
    · rename_i v m h1 h2
      cases hq
      simp only [rvsK] at hk
      obtain ⟨x, u, k1, k2, k3⟩ := rv_sound h1 hr hk
      obtain ⟨xs, us, g1, g2, g3, g4⟩ := rvs_sound hr h2 k1
      refine ⟨x :: xs, u :: us, g1, by simp [g2], fun i y hy => ?_, ?_⟩
      · cases i with
        | zero => simp at hy; subst hy; simpa using k2
        | succ i => simpa using g3 i y (by simpa using hy)
      · simp only [List.mapM_cons, Sem.run_bind, k3, Result.andThen_ok, g4, Sem.run_pure]
    · cases hq

theorem results_sound {fn : Func} {rvs : List RV} (hq : cRVs c.P fn.results.toList = some rvs) (hr : Rel c B n st a w rho fz) {K : List AV → Prop} (hk : rvsK st rvs K) :
    ∃ xs u, K xs ∧ RT w rho fz (resAV xs) u ∧ (results fn a.tmps).run c.P w = .ok u w := by
  obtain ⟨xs, us, g1, g2, g3, g4⟩ := rvs_sound hr hq hk
  have hrun : (results fn a.tmps).run c.P w = .ok (if h : us.toArray.size = 1 then us.toArray[0]'(by omega) else .tuple us.toArray) w := by
    rw [results_eq, Array.mapM_eq_mapM_toList]
    simp only [Sem.run_bind, Sem.run_map, g4, Result.andThen_ok, Sem.run_pure]
  refine ⟨xs, _, g1, ?_, hrun⟩
  by_cases h1 : us.length = 1
  · obtain ⟨u, hu⟩ : ∃ u, us = [u] := List.length_eq_one_iff.1 h1
    subst hu
    obtain ⟨x, hx⟩ : ∃ x, xs = [x] := List.length_eq_one_iff.1 (by simpa using g2.symm)
    subst hx
    simpa [resAV] using g3 0 x rfl
  · rw [dif_neg (by simpa using h1)]
    have e : resAV xs = .tuple xs := by
      match xs, g2 with
      | [], _ => rfl
      | [x], g2 => exact absurd g2 h1
      | _ :: _ :: _, _ => rfl
    rw [e]
    exact .tuple _ _ (by simpa using g2) (fun i x hx => by simpa using g3 i x hx)

theorem compF_some {P : Program} {gt : List (Nat × List AV)} {f : FuncId} {cc : C} {rvs : List RV} {n : Nat} (h : compF P gt mu f = some (cc, rvs, n)) :
    ∃ fn code, P.funcs[f]? = some fn ∧ fn.body = some code ∧ (fn.name == "runtime.NumGoroutine") = false ∧ comp P gt mu n code = some cc ∧ cRVs P fn.results.toList = some rvs ∧ fn.ntmps = n := by
  unfold compF at h
  split at h
  · rename_i fn h1
    split at h
    · rename_i code h2
      split at h
      · rename_i h3
        split at h
        · rename_i cc' rvs' h4 h5
          simp only [Option.some.injEq, Prod.mk.injEq] at h
          obtain ⟨rfl, rfl, rfl⟩ := h
          exact ⟨fn, code, h1, h2, h3, h4, h5, rfl⟩
        · cases h
      · cases h
    · cases h
  · cases h

theorem lookup_zip : ∀ (l : List AV) (k t : Nat), lookup ((l.zipIdx k).map fun p => (p.2, p.1)) t = if k ≤ t then (l[t - k]?).getD .undef else .undef
  | [], k, t => by simp [lookup]
  | a :: l, k, t => by
    simp only [List.zipIdx_cons, List.map_cons, lookup]
    by_cases e : t = k
    · subst e; simp
    · rw [if_neg e, lookup_zip l (k + 1) t]
      by_cases h : k + 1 ≤ t
      · rw [if_pos h, if_pos (by omega), show t - k = (t - (k + 1)) + 1 by omega, List.getElem?_cons_succ]
      · rw [if_neg h, if_neg (by omega)]

theorem rel_start {args : List AV} {h : AHeap} {vs : Array Value} (hn : args.length ≤ n) (hf : FzOk w fz) (hg : Glob c.gt w fz) (hh : HR w rho fz h) (ha : RTs w rho fz args vs) :
    Rel c ⟨w, rho, h, fz⟩ n ⟨args0 args, h⟩ { tmps := vs ++ Array.replicate (n - vs.size) undef, defers := [] } w rho fz := by
  obtain ⟨h1, h2⟩ := ha
  refine ⟨fun t => ?_, by simp; omega, trivial, ⟨hh, hf, hg⟩, Pres.refl _ _ _, fun _ _ => rfl, Nat.le_refl _, fun b hb => .inl hb⟩
  have e : lookup (args0 args) t = (args[t]?).getD .undef := by
    have := lookup_zip args 0 t
    simpa [args0] using this
  show RT w rho fz (lookup (args0 args) t) _
  rw [e]
  cases ht : args[t]? with
  | none => exact .of _ _ (.undef _)
  | some x =>
    have hlt : t < args.length := (List.getElem?_eq_some_iff.1 ht).1
    have := h2 t x ht
    have e2 : (vs ++ Array.replicate (n - vs.size) undef).getD t undef = vs.getD t undef := by
      simp only [Array.getD_eq_getD_getElem?]
      rw [Array.getElem?_append_left (by omega)]
    show RT w rho fz x ((vs ++ Array.replicate (n - vs.size) undef).getD t undef)
    rw [e2]
    exact this

end
end Go.Proofs.YtkjnjdcbnelceaaGreatDoor.KA
end

section
/- 'awp' with what is still to come kept as data, so that it is unfolded one operation at a time. Nothing here concerns a given program. -/
set_option linter.unusedVariables false
set_option linter.unusedSimpArgs false
namespace Go.Proofs.YtkjnjdcbnelceaaGreatDoor.KA
open Go

inductive F where
  | seq (b : C)
  | block (id : Nat)

def kont (c : Ctx) (k : Nat) : List F → (E → St → Prop) → E → St → Prop
  | [], Q => Q
  | .seq b :: fs, Q => fun e st => match e with | .normal => awp c k b st (kont c k fs Q) | e => kont c k fs Q e st
  | .block id :: fs, Q => fun e st => match e with | .exit i => if i = id then kont c k fs Q .normal st else kont c k fs Q (.exit i) st | e => kont c k fs Q e st

/-- Code, and what is to come behind it. -/
structure X (c : Ctx) (k : Nat) (a : C) (fs : List F) (st : St) (Q : E → St → Prop) : Prop where
  out : awp c k a st (kont c k fs Q)
/-- Operations, and what is to come behind them. -/
structure Y (c : Ctx) (k : Nat) (l : List GI) (fs : List F) (st : St) (Q : E → St → Prop) : Prop where
  out : aops c l st (kont c k fs Q .normal)
/-- An ending, and what is to come. -/
structure Z (c : Ctx) (k : Nat) (e : E) (fs : List F) (st : St) (Q : E → St → Prop) : Prop where
  out : kont c k fs Q e st
/-- One operation's step, then the rest. -/
structure Y1 (c : Ctx) (k : Nat) (i : I) (l : List GI) (fs : List F) (st : St) (Q : E → St → Prop) : Prop where
  out : astep c i st fun st' => Y c k l fs st' Q
/-- A call, then the rest. -/
structure CL (c : Ctx) (k : Nat) (d : Option Nat) (f : FuncId) (args : List AV) (wr : Bool) (l : List GI) (fs : List F) (st : St) (Q : E → St → Prop) : Prop where
  out : callK c st d f args wr fun st' => Y c k l fs st' Q
theorem X_def {c : Ctx} {k : Nat} {a : C} {fs : List F} {st : St} {Q : E → St → Prop} : X c k a fs st Q = awp c k a st (kont c k fs Q) := propext ⟨fun h => h.out, fun h => ⟨h⟩⟩
theorem Y_def {c : Ctx} {k : Nat} {l : List GI} {fs : List F} {st : St} {Q : E → St → Prop} : Y c k l fs st Q = aops c l st (kont c k fs Q .normal) := propext ⟨fun h => h.out, fun h => ⟨h⟩⟩
theorem Z_def {c : Ctx} {k : Nat} {e : E} {fs : List F} {st : St} {Q : E → St → Prop} : Z c k e fs st Q = kont c k fs Q e st := propext ⟨fun h => h.out, fun h => ⟨h⟩⟩
theorem Y1_def {c : Ctx} {k : Nat} {i : I} {l : List GI} {fs : List F} {st : St} {Q : E → St → Prop} : Y1 c k i l fs st Q = astep c i st fun st' => Y c k l fs st' Q := propext ⟨fun h => h.out, fun h => ⟨h⟩⟩
theorem CL_def {c : Ctx} {k : Nat} {d : Option Nat} {f : FuncId} {args : List AV} {wr : Bool} {l : List GI} {fs : List F} {st : St} {Q : E → St → Prop} : CL c k d f args wr l fs st Q = callK c st d f args wr fun st' => Y c k l fs st' Q := propext ⟨fun h => h.out, fun h => ⟨h⟩⟩

theorem X_start {c : Ctx} {k : Nat} {a : C} {st : St} {Q : E → St → Prop} (h : X c k a [] st Q) : awp c k a st Q := h.out

section
variable {c : Ctx} {k : Nat} {fs : List F} {st : St} {Q : E → St → Prop} {l : List GI}

theorem X_skip : X c k .skip fs st Q = Z c k .normal fs st Q := by simp only [X_def, Y_def, Z_def, Y1_def, CL_def] <;> rfl
theorem X_ops : X c k (.ops l) fs st Q = Y c k l fs st Q := by simp only [X_def, Y_def, Z_def, Y1_def, CL_def] <;> rfl
theorem X_seq {a b : C} : X c k (.seq a b) fs st Q = X c k a (.seq b :: fs) st Q := by simp only [X_def, Y_def, Z_def, Y1_def, CL_def] <;> rfl
theorem X_block {id : Nat} {a : C} : X c k (.block id a) fs st Q = X c k a (.block id :: fs) st Q := by simp only [X_def, Y_def, Z_def, Y1_def, CL_def] <;> rfl
theorem X_exit {id : Nat} : X c k (.exit id) fs st Q = Z c k (.exit id) fs st Q := by simp only [X_def, Y_def, Z_def, Y1_def, CL_def] <;> rfl
theorem X_ret : X c k .ret fs st Q = Z c k .ret fs st Q := by simp only [X_def, Y_def, Z_def, Y1_def, CL_def] <;> rfl
theorem X_cond {q : O} {a b : C} : X c k (.cond q a b) fs st Q = onBool (st.ev q) fun t => (t = true → X c k a fs st Q) ∧ (t = false → X c k b fs st Q) := by simp only [X_def, Y_def, Z_def, Y1_def, CL_def] <;> rfl
theorem Z_nil {e : E} : Z c k e [] st Q = Q e st := by simp only [X_def, Y_def, Z_def, Y1_def, CL_def] <;> rfl
theorem Z_seq {b : C} : Z c k .normal (.seq b :: fs) st Q = X c k b fs st Q := by simp only [X_def, Y_def, Z_def, Y1_def, CL_def] <;> rfl
theorem Z_seq_exit {b : C} {i : Nat} : Z c k (.exit i) (.seq b :: fs) st Q = Z c k (.exit i) fs st Q := by simp only [X_def, Y_def, Z_def, Y1_def, CL_def] <;> rfl
theorem Z_seq_ret {b : C} : Z c k .ret (.seq b :: fs) st Q = Z c k .ret fs st Q := by simp only [X_def, Y_def, Z_def, Y1_def, CL_def] <;> rfl
theorem Z_block {id : Nat} : Z c k .normal (.block id :: fs) st Q = Z c k .normal fs st Q := by simp only [X_def, Y_def, Z_def, Y1_def, CL_def] <;> rfl
theorem Z_block_exit {id i : Nat} : Z c k (.exit i) (.block id :: fs) st Q = if i = id then Z c k .normal fs st Q else Z c k (.exit i) fs st Q := by simp only [X_def, Y_def, Z_def, Y1_def, CL_def] <;> rfl
theorem Z_block_ret {id : Nat} : Z c k .ret (.block id :: fs) st Q = Z c k .ret fs st Q := by simp only [X_def, Y_def, Z_def, Y1_def, CL_def] <;> rfl
theorem Y_nil : Y c k [] fs st Q = Z c k .normal fs st Q := by simp only [X_def, Y_def, Z_def, Y1_def, CL_def] <;> rfl
theorem Y_cons {i : I} {d : Option Nat} : Y c k (⟨i, none, d⟩ :: l) fs st Q = Y1 c k i l fs st Q := by simp only [X_def, Y_def, Z_def, Y1_def, CL_def] <;> rfl
theorem Y1_call {d : Option Nat} {as : List O} {wr : Bool} {g : FuncId} {caps : List AV} : Y1 c k (.call d (.k (.fn g caps)) as wr) l fs st Q = CL c k d g (as.map st.ev ++ caps) wr l fs st Q := by simp only [X_def, Y_def, Z_def, Y1_def, CL_def] <;> rfl
def CF (c : Ctx) (k : Nat) (d : Option Nat) (f : AV) (args : List AV) (wr : Bool) (l : List GI) (fs : List F) (st : St) (Q : E → St → Prop) : Prop := match f with | .fn g caps => CL c k d g (args ++ caps) wr l fs st Q | _ => False
theorem Y1_callt {d : Option Nat} {t : Nat} {as : List O} {wr : Bool} : Y1 c k (.call d (.t t) as wr) l fs st Q = CF c k d (lookup st.s t) (as.map st.ev) wr l fs st Q := by
  rw [Y1_def]
  show (match lookup st.s t with | .fn g caps => callK c st d g (as.map st.ev ++ caps) wr (fun st' => Y c k l fs st' Q) | _ => False) = _
  unfold CF
  cases lookup st.s t <;> simp only [CL_def]
theorem CF_fn {d : Option Nat} {g : FuncId} {caps args : List AV} {wr : Bool} : CF c k d (.fn g caps) args wr l fs st Q = CL c k d g (args ++ caps) wr l fs st Q := rfl
theorem Y1_mv {d : Nat} {x : O} : Y1 c k (.mv d x) l fs st Q = Y c k l fs (st.set d (st.ev x)) Q := by simp only [X_def, Y_def, Z_def, Y1_def, CL_def] <;> rfl
theorem Y1_pick {d : Nat} {q : O} {a : O} {b : O} : Y1 c k (.pick d q a b) l fs st Q = astep c (.pick d q a b) st fun st' => Y c k l fs st' Q := by simp only [X_def, Y_def, Z_def, Y1_def, CL_def] <;> rfl
theorem Y1_box {d : Nat} {x : O} {m : Bool} : Y1 c k (.box d x m) l fs st Q = astep c (.box d x m) st fun st' => Y c k l fs st' Q := by simp only [X_def, Y_def, Z_def, Y1_def, CL_def] <;> rfl
theorem Y1_alloc {d : Nat} {z : List AV} {m : Bool} : Y1 c k (.alloc d z m) l fs st Q = astep c (.alloc d z m) st fun st' => Y c k l fs st' Q := by simp only [X_def, Y_def, Z_def, Y1_def, CL_def] <;> rfl
theorem Y1_build {d : Nat} {z : List AV} {ps : List (Nat × Nat × O)} : Y1 c k (.build d z ps) l fs st Q = astep c (.build d z ps) st fun st' => Y c k l fs st' Q := by simp only [X_def, Y_def, Z_def, Y1_def, CL_def] <;> rfl
theorem Y1_bsl {d : Nat} {sz : Nat} {xs : List O} {m : Bool} : Y1 c k (.bsl d sz xs m) l fs st Q = astep c (.bsl d sz xs m) st fun st' => Y c k l fs st' Q := by simp only [X_def, Y_def, Z_def, Y1_def, CL_def] <;> rfl
theorem Y1_mksl {d : Nat} {sz : Nat} {bt : Nat} {z : List AV} {n : O} {q : O} : Y1 c k (.mksl d sz bt z n q) l fs st Q = astep c (.mksl d sz bt z n q) st fun st' => Y c k l fs st' Q := by simp only [X_def, Y_def, Z_def, Y1_def, CL_def] <;> rfl
theorem Y1_load {d : Nat} {ag : Bool} {sz : Nat} {a : O} : Y1 c k (.load d ag sz a) l fs st Q = astep c (.load d ag sz a) st fun st' => Y c k l fs st' Q := by simp only [X_def, Y_def, Z_def, Y1_def, CL_def] <;> rfl
theorem Y1_loadf {d : Nat} {ag : Bool} {sz : Nat} {a : O} : Y1 c k (.loadf d ag sz a) l fs st Q = astep c (.loadf d ag sz a) st fun st' => Y c k l fs st' Q := by simp only [X_def, Y_def, Z_def, Y1_def, CL_def] <;> rfl
theorem Y1_idxv {d : Nat} {ag : Bool} {sz : Nat} {n : Nat} {x : O} {i : O} : Y1 c k (.idxv d ag sz n x i) l fs st Q = astep c (.idxv d ag sz n x i) st fun st' => Y c k l fs st' Q := by simp only [X_def, Y_def, Z_def, Y1_def, CL_def] <;> rfl
theorem Y1_store {sz : Nat} {a : O} {x : O} : Y1 c k (.store sz a x) l fs st Q = astep c (.store sz a x) st fun st' => Y c k l fs st' Q := by simp only [X_def, Y_def, Z_def, Y1_def, CL_def] <;> rfl
theorem Y1_bin {d : Nat} {op : BinOp} {x : O} {y : O} : Y1 c k (.bin d op x y) l fs st Q = astep c (.bin d op x y) st fun st' => Y c k l fs st' Q := by simp only [X_def, Y_def, Z_def, Y1_def, CL_def] <;> rfl
theorem Y1_eqb {d : Nat} {ng : Bool} {x : O} {y : O} : Y1 c k (.eqb d ng x y) l fs st Q = astep c (.eqb d ng x y) st fun st' => Y c k l fs st' Q := by simp only [X_def, Y_def, Z_def, Y1_def, CL_def] <;> rfl
theorem Y1_eqs {d : Nat} {ng : Bool} {ls : List Leaf} {x : O} {y : O} : Y1 c k (.eqs d ng ls x y) l fs st Q = astep c (.eqs d ng ls x y) st fun st' => Y c k l fs st' Q := by simp only [X_def, Y_def, Z_def, Y1_def, CL_def] <;> rfl
theorem Y1_eqn {d : Nat} {ng : Bool} {kd : Nat} {x : O} : Y1 c k (.eqn d ng kd x) l fs st Q = astep c (.eqn d ng kd x) st fun st' => Y c k l fs st' Q := by simp only [X_def, Y_def, Z_def, Y1_def, CL_def] <;> rfl
theorem Y1_not {d : Nat} {x : O} : Y1 c k (.not d x) l fs st Q = astep c (.not d x) st fun st' => Y c k l fs st' Q := by simp only [X_def, Y_def, Z_def, Y1_def, CL_def] <;> rfl
theorem Y1_neg {d : Nat} {x : O} : Y1 c k (.neg d x) l fs st Q = astep c (.neg d x) st fun st' => Y c k l fs st' Q := by simp only [X_def, Y_def, Z_def, Y1_def, CL_def] <;> rfl
theorem Y1_conv {d : Nat} {ki : IntKind} {x : O} : Y1 c k (.conv d ki x) l fs st Q = astep c (.conv d ki x) st fun st' => Y c k l fs st' Q := by simp only [X_def, Y_def, Z_def, Y1_def, CL_def] <;> rfl
theorem Y1_cvs {d : Nat} {x : O} : Y1 c k (.cvs d x) l fs st Q = astep c (.cvs d x) st fun st' => Y c k l fs st' Q := by simp only [X_def, Y_def, Z_def, Y1_def, CL_def] <;> rfl
theorem Y1_fld {d : Nat} {off : Nat} {x : O} : Y1 c k (.fld d off x) l fs st Q = astep c (.fld d off x) st fun st' => Y c k l fs st' Q := by simp only [X_def, Y_def, Z_def, Y1_def, CL_def] <;> rfl
theorem Y1_fldv {d : Nat} {ag : Bool} {off : Nat} {sz : Nat} {x : O} : Y1 c k (.fldv d ag off sz x) l fs st Q = astep c (.fldv d ag off sz x) st fun st' => Y c k l fs st' Q := by simp only [X_def, Y_def, Z_def, Y1_def, CL_def] <;> rfl
theorem Y1_idxa {d : Nat} {sz : Nat} {n : Option Nat} {x : O} {i : O} : Y1 c k (.idxa d sz n x i) l fs st Q = astep c (.idxa d sz n x i) st fun st' => Y c k l fs st' Q := by simp only [X_def, Y_def, Z_def, Y1_def, CL_def] <;> rfl
theorem Y1_idx {d : Nat} {x : O} {i : O} : Y1 c k (.idx d x i) l fs st Q = astep c (.idx d x i) st fun st' => Y c k l fs st' Q := by simp only [X_def, Y_def, Z_def, Y1_def, CL_def] <;> rfl
theorem Y1_slc {d : Nat} {sz : Nat} {x : O} {lo : Option O} {hi : Option O} {mx : Option O} : Y1 c k (.slc d sz x lo hi mx) l fs st Q = astep c (.slc d sz x lo hi mx) st fun st' => Y c k l fs st' Q := by simp only [X_def, Y_def, Z_def, Y1_def, CL_def] <;> rfl
theorem Y1_slcs {d : Nat} {x : O} {lo : Option O} {hi : Option O} : Y1 c k (.slcs d x lo hi) l fs st Q = astep c (.slcs d x lo hi) st fun st' => Y c k l fs st' Q := by simp only [X_def, Y_def, Z_def, Y1_def, CL_def] <;> rfl
theorem Y1_slca {d : Nat} {sz : Nat} {n : Nat} {x : O} {lo : Option O} {hi : Option O} : Y1 c k (.slca d sz n x lo hi) l fs st Q = astep c (.slca d sz n x lo hi) st fun st' => Y c k l fs st' Q := by simp only [X_def, Y_def, Z_def, Y1_def, CL_def] <;> rfl
theorem Y1_len {d : Nat} {x : O} : Y1 c k (.len d x) l fs st Q = astep c (.len d x) st fun st' => Y c k l fs st' Q := by simp only [X_def, Y_def, Z_def, Y1_def, CL_def] <;> rfl
theorem Y1_lens {d : Nat} {x : O} : Y1 c k (.lens d x) l fs st Q = astep c (.lens d x) st fun st' => Y c k l fs st' Q := by simp only [X_def, Y_def, Z_def, Y1_def, CL_def] <;> rfl
theorem Y1_append {d : Nat} {sz : Nat} {bt : Nat} {s : O} {x : O} {m : Bool} : Y1 c k (.append d sz bt s x m) l fs st Q = astep c (.append d sz bt s x m) st fun st' => Y c k l fs st' Q := by simp only [X_def, Y_def, Z_def, Y1_def, CL_def] <;> rfl
theorem Y1_max {d : Nat} {x : O} {y : O} : Y1 c k (.max d x y) l fs st Q = astep c (.max d x y) st fun st' => Y c k l fs st' Q := by simp only [X_def, Y_def, Z_def, Y1_def, CL_def] <;> rfl
theorem Y1_min {d : Nat} {x : O} {y : O} : Y1 c k (.min d x y) l fs st Q = astep c (.min d x y) st fun st' => Y c k l fs st' Q := by simp only [X_def, Y_def, Z_def, Y1_def, CL_def] <;> rfl
theorem Y1_clear {sz : Nat} {z : List AV} {x : O} : Y1 c k (.clear sz z x) l fs st Q = astep c (.clear sz z x) st fun st' => Y c k l fs st' Q := by simp only [X_def, Y_def, Z_def, Y1_def, CL_def] <;> rfl
theorem Y1_ext {d : Nat} {x : O} {i : Nat} : Y1 c k (.ext d x i) l fs st Q = astep c (.ext d x i) st fun st' => Y c k l fs st' Q := by simp only [X_def, Y_def, Z_def, Y1_def, CL_def] <;> rfl
theorem Y1_mkfn {d : Nat} {f : FuncId} {caps : List O} : Y1 c k (.mkfn d f caps) l fs st Q = astep c (.mkfn d f caps) st fun st' => Y c k l fs st' Q := by simp only [X_def, Y_def, Z_def, Y1_def, CL_def] <;> rfl
theorem Y1_iface {d : Nat} {t : TypeId} {x : O} : Y1 c k (.iface d t x) l fs st Q = astep c (.iface d t x) st fun st' => Y c k l fs st' Q := by simp only [X_def, Y_def, Z_def, Y1_def, CL_def] <;> rfl
theorem Y1_nilchk {d : Nat} {x : O} : Y1 c k (.nilchk d x) l fs st Q = astep c (.nilchk d x) st fun st' => Y c k l fs st' Q := by simp only [X_def, Y_def, Z_def, Y1_def, CL_def] <;> rfl

theorem showsL_refl {h : AHeap} : ∀ {l : List AV}, AV.plainL l = true → ShowsL h l l
  | [], _ => .nil
  | a :: l, hp => by
    simp only [AV.plainL, Bool.and_eq_true] at hp
    exact .cons _ _ _ _ (.same _ hp.1) (showsL_refl hp.2)

/-- A call that shares nothing: the arguments hold no number of a block. -/
theorem CL_pure {d : Option Nat} {f : FuncId} {args : List AV} {wr : Bool} {r : AV} (h : SpecP c f args r) (hp : AV.plainL args = true) (hk : Y c k l fs (st.setO d r) Q) : CL c k d f args wr l fs st Q :=
  ⟨.inl ⟨args, r, showsL_refl hp, .inl hp, h, hk⟩⟩
/-- A call whose arguments are shown: the result holds no place. -/
theorem CL_show {d : Option Nat} {f : FuncId} {args as : List AV} {wr : Bool} {r : AV} (h : SpecP c f as r) (hs : ShowsL st.h args as) (hp : r.flat = true) (hk : Y c k l fs (st.setO d r) Q) : CL c k d f args wr l fs st Q :=
  ⟨.inl ⟨as, r, hs, .inr hp, h, hk⟩⟩
/-- A call at which owned arguments are given up. -/
theorem CL_give {d : Option Nat} {f : FuncId} {args as : List AV} {r : AV} (fr : List Nat) (h : SpecP c f as r) (hs : ShowsL (keepOnly fr st.h) args as) (hk : Y c k l fs (({ st with h := killAll fr st.h } : St).setO d r) Q) : CL c k d f args true l fs st Q :=
  ⟨.inr (.inl ⟨rfl, fr, as, r, hs, h, hk⟩)⟩

/-- What a loop's body may end in: 'R' where the next round begins, or what is to come behind the loop. -/
def LQ (c : Ctx) (k : Nat) (R : St → Prop) (fs : List F) (Q : E → St → Prop) : E → St → Prop
  | .normal => R
  | e => fun t => Z c k e fs t Q
theorem LQ_normal {R : St → Prop} : LQ c k R fs Q .normal st = R st := rfl
theorem LQ_exit {R : St → Prop} {i : Nat} : LQ c k R fs Q (.exit i) st = Z c k (.exit i) fs st Q := rfl
theorem LQ_ret {R : St → Prop} : LQ c k R fs Q .ret st = Z c k .ret fs st Q := rfl

/-- A loop: 'I n' holds at the head, at most n more rounds begin behind it. -/
theorem X_loop {a : C} (I : Nat → St → Prop) (n : Nat) (hI : I n st) (hb : ∀ (m : Nat) (s : St) (R : St → Prop), I m s → (∀ j t, m = j + 1 → I j t → R t) → ∃ s', weak k s s' ∧ X c k a [] s' (LQ c k R fs Q)) : X c k (.loop a) fs st Q := by
  have tr : ∀ {s' : St} {Q1 Q2 : E → St → Prop}, Q1 = Q2 → awp c k a s' Q1 → awp c k a s' Q2 := fun e h => e ▸ h
  have key : ∀ (m : Nat) (s : St), I m s → rounds k (awp c k a) (m + 1) s (kont c k fs Q) := by
    intro m
    induction m with
    | zero =>
      intro s hs
      obtain ⟨s', hw, hx⟩ := hb 0 s (fun _ => False) hs (fun j t h => by omega)
      refine ⟨s', hw, ?_⟩
      exact tr (funext fun e => funext fun t => by cases e <;> first | rfl | exact Z_def) hx.out
    | succ m ih =>
      intro s hs
      obtain ⟨s', hw, hx⟩ := hb (m + 1) s (fun t => rounds k (awp c k a) (m + 1) t (kont c k fs Q)) hs (fun j t h => by
        have : j = m := by omega
        subst this; exact ih t)
      refine ⟨s', hw, ?_⟩
      exact tr (funext fun e => funext fun t => by cases e <;> first | rfl | exact Z_def) hx.out
  exact ⟨⟨n + 1, key n st hI⟩⟩

end
end Go.Proofs.YtkjnjdcbnelceaaGreatDoor.KA
end

section
/- Contracts of the library's functions, as the kit's shelf states them, turned into contracts of this walk. Nothing here concerns a given program. -/
set_option linter.unusedVariables false
set_option linter.unusedSimpArgs false
namespace Go.Proofs.YtkjnjdcbnelceaaGreatDoor.KA
open Go

/-- All that lay lies as it lay. -/
structure Keeps (w w' : World) : Prop where
  os : w'.os = w.os
  tape : w'.tape = w.tape
  output : w'.output = w.output
  size : w.heap.size ≤ w'.heap.size
  block : ∀ b, b < w.heap.size → w'.heap[b]? = w.heap[b]?

theorem Keeps.refl (w : World) : Keeps w w := ⟨rfl, rfl, rfl, Nat.le_refl _, fun _ _ => rfl⟩
theorem Keeps.drewN (w : World) (n : Nat) : Keeps w (w.drewN n) := ⟨rfl, rfl, rfl, Nat.le_refl _, fun _ _ => rfl⟩
theorem Keeps.grow (w : World) (os : Array Obj) : Keeps w (Sort.grow w os) :=
  ⟨rfl, rfl, rfl, by simp [Sort.grow], fun b hb => by simp only [Sort.grow]; rw [Array.getElem?_append_left hb]⟩
theorem Keeps.trans {a b d : World} (h : Keeps a b) (k : Keeps b d) : Keeps a d :=
  ⟨k.os.trans h.os, k.tape.trans h.tape, k.output.trans h.output, Nat.le_trans h.size k.size, fun q hq => (k.block q (Nat.lt_of_lt_of_le hq h.size)).trans (h.block q hq)⟩
theorem Keeps.growDrew (w : World) (n : Nat) (os : Array Obj) : Keeps w (Sort.grow (w.drewN n) os) := (Keeps.drewN w n).trans (Keeps.grow _ _)

theorem Keeps.pres {w w' : World} (h : Keeps w w') (fz : Nat → Prop) : Pres w (fun _ => False) fz w' fz := by
  refine ⟨h.os, h.tape, h.output, h.size, fun b hb _ => h.block b hb, fun b s hs => ?_, fun _ hb => hb, fun _ hb => .inl hb⟩
  have hlt : b < w.heap.size := by
    unfold World.shape? at hs
    cases hg : w.heap[b]? with
    | none => rw [hg] at hs; cases hs
    | some o => exact (Array.getElem?_eq_some_iff.1 hg).1
  unfold World.shape? at hs ⊢
  rw [h.block b hlt]
  exact hs

/-- A function that lays new blocks at most, and returns what holds no place. -/
theorem specP_keeps {c : Ctx} {f : FuncId} {args : List AV} {r : AV} (hb : HasBody c.P f)
    (h : ∀ (w : World) (fz : Nat → Prop) (vs : Array Value), FzOk w fz → Glob c.gt w fz → RFs w fz args vs → Calls c.P f vs w fun e w' => ∃ v, e = .returned v ∧ RF w' fz r v ∧ Keeps w w') : SpecP c f args r := by
  refine ⟨hb, fun w fz vs hf hg ha => (h w fz vs hf hg ha).mono ?_⟩
  rintro e w' ⟨v, rfl, hr, hk⟩
  exact ⟨v, fz, rfl, hr, fun b hbb => Nat.lt_of_lt_of_le (hf b hbb) hk.size, hk.pres fz⟩

theorem RFs.one {w : World} {fz : Nat → Prop} {a : AV} {vs : Array Value} (h : RFs w fz [a] vs) : ∃ v, vs = #[v] ∧ RF w fz a v := by
  obtain ⟨h1, h2⟩ := h
  obtain ⟨v, hv⟩ : ∃ v, vs.toList = [v] := List.length_eq_one_iff.1 (by simpa using h1)
  have e : vs = #[v] := Array.ext' (by simpa using hv)
  subst e
  exact ⟨v, rfl, h2 0 a rfl⟩

theorem RFs.two {w : World} {fz : Nat → Prop} {a b : AV} {vs : Array Value} (h : RFs w fz [a, b] vs) : ∃ v u, vs = #[v, u] ∧ RF w fz a v ∧ RF w fz b u := by
  obtain ⟨h1, h2⟩ := h
  obtain ⟨v, u, hv⟩ : ∃ v u, vs.toList = [v, u] := by
    match hl : vs.toList, (by simpa using h1 : vs.toList.length = 2) with
    | [v, u], _ => exact ⟨v, u, rfl⟩
  have e : vs = #[v, u] := Array.ext' (by simpa using hv)
  subst e
  exact ⟨v, u, rfl, h2 0 a rfl, h2 1 b rfl⟩

theorem RF.str_eq {w : World} {fz : Nat → Prop} {s : List UInt8} {v : Value} (h : RF w fz (.str s) v) : v = .string ⟨⟨s⟩⟩ := by cases h; rfl
theorem RF.int_eq {w : World} {fz : Nat → Prop} {k : IntKind} {n : Int} {v : Value} (h : RF w fz (.int k n) v) : v = .int k n := by cases h; rfl

/-- A laid table, as the library's contracts ask for it. -/
theorem Glob.tab {gt : List (Nat × List AV)} {w : World} {fz : Nat → Prop} {P : Program} (h : Glob gt w fz) {b : Nat} {k : IntKind} {zs : List Int} (hb : (b, zs.map (AV.int k)) ∈ gt) {name : String} (hn : P.globalNamed name = some b) : Lib.TabIs P w name k zs := by
  obtain ⟨h1, h2, arr, ty, fr, h3, h4⟩ := h _ hb
  cases h1 with
  | fp _ _ _ g _ hg hr =>
    unfold Lib.TabIs World.var?
    simp only [hn, h3, Option.bind_some, Option.some.injEq]
    have hsz : arr.size = zs.length := by simpa using h4
    refine Array.ext (by simp [hsz]) (fun i hi hi' => ?_)
    have hz : i < zs.length := by omega
    have e1 : (zs.map (AV.int k))[i]? = some (.int k zs[i]) := by simp [hz]
    have e2 := hg i _ e1
    have e3 := hr i _ e1
    rw [Nat.zero_add, cell_of_row w b _ arr ty fr h3] at e2
    rw [Array.getElem?_eq_getElem hi] at e2
    rw [← Option.some.inj e2] at e3
    have e4 := e3.int_eq
    simpa using e4

end Go.Proofs.YtkjnjdcbnelceaaGreatDoor.KA
end

section
/- From the walk to the kit's fenced walk at the fence that lets everything in, in whatever round: the way to a range over a function. Nothing here concerns a given program. -/
set_option linter.unusedVariables false
set_option linter.unusedSimpArgs false
namespace Go.Proofs.YtkjnjdcbnelceaaGreatDoor.KA
open Go

theorem callsIn_wideR {r : Option Nat} {n : Nat} {P : Program} {f : FuncId} {args : Array Value} {w : World} {R : Ending → World → Prop} (h : Calls P f args w R) : CallsIn (wideR r) n P f args w R := by
  have := (callsIn_wide (n := n)).2 h
  exact this

theorem callsIn_wideR' {r : Option Nat} {n : Nat} {P : Program} {f : FuncId} {args : Array Value} {w : World} {R : Ending → World → Prop} (h : CallsIn (wideR r) n P f args w R) : Calls P f args w R :=
  (callsIn_wide (n := n)).1 h

theorem rowsIn_wideR {r : Option Nat} {n : Nat} {P : Program} {row : String} {args : Array Value} {w : World} {R : Value → World → Prop} (h : Rows P row args w R) : RowsIn (wideR r) n P row args w R :=
  fun c cs _ => let ⟨v, w', q, s⟩ := h c cs; ⟨v, w', q, stepsIn_wide.2 s⟩

theorem op_in {P : Program} {o : Oper} {r : Option Nat} {n : Nat} {a : Act} {w : World} {K : Act → World → Prop} {Q : Exit → Act → World → Prop} (hd : ∀ c, o.op ≠ .defer c) (h : o.wp P a w K Q) : o.wpIn (wideR r) n P a w K Q := by
  unfold Oper.wp at h
  refine ⟨fun f _ => trivial, ?_⟩
  rw [Oper.semAt_eq _ _ _ hd]
  generalize (execOp a.eval o).run P w = q at *
  cases q with
  | ok x w' =>
    cases x <;> first
      | exact h
      | (refine ⟨fun hh => (by cases hh), callsIn_wideR ?_⟩; exact h)
      | (refine ⟨fun hh => (by cases hh), rowsIn_wideR ?_⟩; exact h)
      | exact h.elim
  | halt x w' => cases x <;> first | exact h | exact h.elim

section
variable {P : Program} {r : Option Nat} {n : Nat} {Q : Exit → Act → World → Prop} {ops : Array Oper}

theorem wpOp_in (hl : ¬ LetsOut Q) (hd : noDefer ops = true) {i : Nat} {K : Act → World → Prop} {a : Act} {w : World} (h : wpOp P ops Q i K a w) : wpOpIn (wideR r) n P ops Q i K a w := by
  unfold wpOp at h
  unfold wpOpIn
  cases ho : ops[i]? with
  | none => rw [ho] at h; exact h
  | some o =>
    rw [ho] at h
    simp only at h ⊢
    split
    · rename_i hw
      rw [if_pos hw] at h
      exact op_in (noDefer_get hd ho) (h.resolve_right (fun hh => hl hh.2))
    · rename_i hw
      rw [if_neg hw] at h
      exact ⟨fun f _ => trivial, h⟩

theorem wpOpIn_mono' {F : Fence} {i : Nat} {K K' : Act → World → Prop} {a : Act} {w : World} (hk : ∀ a w, K a w → K' a w) (h : wpOpIn F n P ops Q i K a w) : wpOpIn F n P ops Q i K' a w := by
  unfold wpOpIn at h ⊢
  split at h
  · exact hk _ _ h
  · split at h
    · rename_i hw
      simp only [hw, if_true]
      exact Oper.wpIn_mono hk h
    · rename_i hw
      simp only [hw]
      exact ⟨h.1, hk _ _ h.2⟩

theorem wpOps_in (hl : ¬ LetsOut Q) (hd : noDefer ops = true) : ∀ (l : List Nat) (a : Act) (w : World), wpOps P ops Q l a w → wpOpsIn (wideR r) n P ops Q l a w
  | [], a, w, h => h
  | i :: l, a, w, h => by
    rw [wpOpsIn_cons]
    rw [wpOps_cons] at h
    exact wpOpIn_mono' (fun a w => wpOps_in hl hd l a w) (wpOp_in hl hd h)

theorem wpAny_in (hl : ¬ LetsOut Q) (hd : noDefer ops = true) {md : Region.Mode} : ∀ (fuel : Nat) (listed : Array Bool) (a : Act) (w : World), wpAny P md ops Q fuel listed a w → wpAnyIn (wideR r) n P md ops Q fuel listed a w
  | 0, listed, a, w, h => h
  | fuel + 1, listed, a, w, h => ⟨h.1, fun i hi => wpOpIn_mono' (fun a w => wpAny_in hl hd fuel _ a w) (wpOp_in hl hd (h.2 i hi))⟩

end
end Go.Proofs.YtkjnjdcbnelceaaGreatDoor.KA
end

section
/- Soundness of 'awp' in the fenced walk, in whatever round. Nothing here concerns a given program. -/
set_option linter.unusedVariables false
set_option linter.unusedSimpArgs false
set_option linter.unnecessarySimpa false
namespace Go.Proofs.YtkjnjdcbnelceaaGreatDoor.KA
open Go

section
variable {c : Ctx} {B : Base} {n : Nat} {a : Act} {w : World} {rho : Gh} {fz : Nat → Prop} {mu : Nat → Bool}

theorem loopIn_sound {P : Program} {r : Option Nat} {N : Nat} {code : Code} {Q : Exit → Act → World → Prop} {R : Nat → Act → World → Prop} (h0 : ∀ a w, ¬ R 0 a w) (hs : ∀ m a w, R (m + 1) a w → code.wpIn (wideR r) N P (Exit.then (R m) Q) a w) {m : Nat} {a : Act} {w : World} (h : R m a w) : (Code.loop code).wpIn (wideR r) N P Q a w := by
  have hex : ∀ a w, (∃ m, R m a w) → ∃ k, R k a w ∧ ∀ j, j < k → ¬ R j a w := fun a w ⟨m, hm⟩ => least hm
  refine wpIn_loop (fun a w => ∃ m, R m a w) (fun a w => @Classical.epsilon Nat ⟨0⟩ fun k => R k a w ∧ ∀ j, j < k → ¬ R j a w) ⟨m, h⟩ (fun a w hI => ?_)
  have hk := Classical.epsilon_spec (hex a w hI)
  generalize hkk : (@Classical.epsilon Nat _ fun k => R k a w ∧ ∀ j, j < k → ¬ R j a w) = k at hk
  obtain ⟨hk1, hk2⟩ := hk
  have hkk' : (@Classical.epsilon Nat ⟨0⟩ fun k => R k a w ∧ ∀ j, j < k → ¬ R j a w) = k := hkk
  cases k with
  | zero => exact absurd hk1 (h0 a w)
  | succ k =>
    refine wpIn_mono (hs k a w hk1) (fun e a' w' he => ?_)
    cases e with
    | normal =>
      have he : R k a' w' := he
      refine ⟨⟨k, he⟩, ?_⟩
      have hk' := Classical.epsilon_spec (hex a' w' ⟨k, he⟩)
      have hle : ¬ (k < @Classical.epsilon Nat ⟨0⟩ fun k => R k a' w' ∧ ∀ j, j < k → ¬ R j a' w') := fun hlt => hk'.2 k hlt he
      omega
    | _ => exact he

theorem Rel.good {st : St} {W : World} {r0 : Gh} {h0 : AHeap} {f0 : Nat → Prop} (hr : Rel c ⟨W, r0, h0, f0⟩ n st a w rho fz) : Good W r0 f0 h0 w rho fz st.h :=
  ⟨hr.pre.hr, hr.pre.ok, hr.pres, hr.same, hr.len, hr.own⟩

theorem Good.trans {w0 w1 w2 : World} {r0 r1 r2 : Gh} {f0 f1 f2 : Nat → Prop} {h0 h1 h2 : AHeap} (g1 : Good w0 r0 f0 h0 w1 r1 f1 h1) (g2 : Good w1 r1 f1 h1 w2 r2 f2 h2) : Good w0 r0 f0 h0 w2 r2 f2 h2 :=
  ⟨g2.hr, g2.ok, g1.pres.trans g2.pres g1.own, fun id hid => (g2.same id (Nat.lt_of_lt_of_le hid g1.len)).trans (g1.same id hid), Nat.le_trans g1.len g2.len,
    fun b hb => (g2.own b hb).elim (g1.own b) (fun h => .inr (Nat.le_trans g1.pres.size h))⟩

section loopblock
variable {l : Nat} {q0 : Loop} {h : AHeap}

theorem HR.not_owned (hh : HR w rho fz h) (hl : w.heap[l]? = some (.loop q0)) : ¬ Owned rho h l := by
  rintro ⟨id, cs, o, hid, hr⟩
  obtain ⟨b, p, arr, ty, g1, g2, g3, g4, g5⟩ := hh.cell id cs hid
  rw [hr] at g1; cases g1; rw [hl] at g3; cases g3

theorem shape_putO (q1 : Loop) (hl : w.heap[l]? = some (.loop q0)) : ∀ b s, w.shape? b = some s → (w.putObj l (.loop q1)).shape? b = some s := by
  intro b s hs
  by_cases e : b = l
  · subst e; unfold World.shape? at hs; rw [hl] at hs; cases hs
  · unfold World.shape? at hs ⊢; rw [World.putObj_heap_other e]; exact hs

theorem RT.putO (q1 : Loop) (hl : w.heap[l]? = some (.loop q0)) (hf : ¬ fz l) {x : AV} {v : Value} (h : RT w rho fz x v) : RT (w.putObj l (.loop q1)) rho fz x v :=
  h.mono (fun b hb => World.putObj_heap_other (fun e => hf (by rw [← e]; exact hb))) (fun _ h => h) (shape_putO q1 hl) (fun _ _ h => h)

theorem HR.putO (q1 : Loop) (hl : w.heap[l]? = some (.loop q0)) (hf : ¬ fz l) (hh : HR w rho fz h) : HR (w.putObj l (.loop q1)) rho fz h := by
  refine ⟨hh.dom, fun id cs hid => ?_, hh.inj⟩
  obtain ⟨b, p, arr, ty, k1, k2, k3, k4, k5⟩ := hh.cell id cs hid
  refine ⟨b, p, arr, ty, k1, k2, ?_, k4, fun j x hj => (k5 j x hj).putO q1 hl hf⟩
  rw [World.putObj_heap_other (fun e => by rw [e, hl] at k3; cases k3)]
  exact k3

/-- The record of a loop may turn. -/
theorem Rel.putO {st : St} (q1 : Loop) (hl : w.heap[l]? = some (.loop q0)) (hf : ¬ fz l) (hB : B.w.heap.size ≤ l) (hr : Rel c B n st a w rho fz) : Rel c B n st a (w.putObj l (.loop q1)) rho fz := by
  refine ⟨fun t => (hr.sl t).putO q1 hl hf, hr.sz, Marks.mono (fun D h1 h2 => ⟨?_, h2⟩) hr.df, ⟨hr.pre.hr.putO q1 hl hf, fun b hb => by simpa using hr.pre.ok b hb, hr.pre.gl.mono (fun b hb => World.putObj_heap_other (fun e => hf (by rw [← e]; exact hb))) (fun _ h => h)⟩, ?_, hr.same, hr.len, hr.own⟩
  · rw [World.putObj_heap_other (fun e => by rw [e, hl] at h1; cases h1)]; exact h1
  · have hp := hr.pres
    refine ⟨hp.os, hp.tape, hp.output, by simpa using hp.size, fun b hb hno => ?_, fun b s hs => shape_putO q1 hl b s (hp.shape b s hs), hp.keep, hp.fresh⟩
    rw [World.putObj_heap_other (by omega)]
    exact hp.block b hb hno

theorem Good.putO {w' : World} {rho' : Gh} {fz' : Nat → Prop} {h' : AHeap} (q1 : Loop) (hl : w.heap[l]? = some (.loop q0)) (hf : ¬ fz l) (hh : HR w rho fz h) (hg : Good w rho fz h w' rho' fz' h') :
    Good (w.putObj l (.loop q1)) rho fz h (w'.putObj l (.loop q1)) rho' fz' h' ∧ w'.heap[l]? = some (.loop q0) ∧ ¬ fz' l := by
  have hlt : l < w.heap.size := (Array.getElem?_eq_some_iff.1 hl).1
  have hno := hh.not_owned hl
  have hl' : w'.heap[l]? = some (.loop q0) := (hg.pres.block l hlt hno).trans hl
  have hf' : ¬ fz' l := fun hc => by
    rcases hg.pres.fresh l hc with h1 | h1 | h1
    · exact hf h1
    · exact hno h1
    · omega
  have hp := hg.pres
  refine ⟨⟨hg.hr.putO q1 hl' hf', fun b hb => by simpa using hg.ok b hb, ⟨hp.os, hp.tape, hp.output, by simpa using hp.size, fun b hb hno' => ?_, fun b s hs => ?_, hp.keep, fun b hb => ?_⟩, hg.same, hg.len, fun b hb => ?_⟩, hl', hf'⟩
  · by_cases e : b = l
    · subst e
      rw [World.putObj_heap_same hlt, World.putObj_heap_same (Array.getElem?_eq_some_iff.1 hl').1]
    · rw [World.putObj_heap_other e, World.putObj_heap_other e]
      exact hp.block b (by simpa using hb) hno'
  · by_cases e : b = l
    · subst e
      unfold World.shape? at hs
      rw [World.putObj_heap_same hlt] at hs
      cases hs
    · refine shape_putO q1 hl' b s (hp.shape b s ?_)
      unfold World.shape? at hs ⊢
      rw [World.putObj_heap_other e] at hs
      exact hs
  · simpa using hp.fresh b hb
  · simpa using hg.own b hb

theorem putObj_twice (o o' : Obj) : (w.putObj l o).putObj l o' = w.putObj l o' := by simp [World.putObj]
theorem putObj_back {o : Obj} (hl : w.heap[l]? = some o) : w.putObj l o = w := by
  have hlt : l < w.heap.size := (Array.getElem?_eq_some_iff.1 hl).1
  have : w.heap.setIfInBounds l o = w.heap := by
    apply Array.ext_getElem?
    intro i
    by_cases e : i = l
    · subst e; rw [Array.getElem?_setIfInBounds_self_of_lt hlt, hl]
    · rw [Array.getElem?_setIfInBounds_ne (Ne.symm e)]
  simp only [World.putObj, this]

/-- A block that is nobody's. -/
theorem good_alloc_other (hh : HR w rho fz h) (hf : FzOk w fz) (o : Obj) : Good w rho fz h (w.alloc o) rho fz h := by
  have hk : ∀ b, b < w.heap.size → (w.alloc o).heap[b]? = w.heap[b]? := fun b hb => RowKit.Below.heap_alloc _ _ _ hb
  have hs : ∀ b s, w.shape? b = some s → (w.alloc o).shape? b = some s := by
    intro b s hs
    have hb : b < w.heap.size := by
      unfold World.shape? at hs
      cases hb : w.heap[b]? with
      | none => rw [hb] at hs; cases hs
      | some o' => exact (Array.getElem?_eq_some_iff.1 hb).1
    unfold World.shape? at hs ⊢
    rw [hk b hb]; exact hs
  refine ⟨⟨hh.dom, fun id cs hid => ?_, hh.inj⟩, fun b hb => by simpa using Nat.lt_succ_of_lt (hf b hb), ⟨rfl, rfl, rfl, by simp, fun b hb _ => hk b hb, hs, fun _ h => h, fun b hb => .inl hb⟩, fun _ _ => rfl, Nat.le_refl _, fun b hb => .inl hb⟩
  obtain ⟨b, p, arr, ty, k1, k2, k3, k4, k5⟩ := hh.cell id cs hid
  exact ⟨b, p, arr, ty, k1, k2, by rw [hk b (Array.getElem?_eq_some_iff.1 k3).1]; exact k3, k4, fun j x hj => (k5 j x hj).mono (fun b hb => hk b (hf b hb)) (fun _ h => h) hs (fun _ _ h => h)⟩
end loopblock

theorem callsIn_any {N M : Nat} {P : Program} {f : FuncId} {args : Array Value} {w : World} {R : Ending → World → Prop} (h : CallsIn (wideR none) N P f args w R) : CallsIn (wideR none) M P f args w R :=
  callsIn_wideR (callsIn_wideR' h)

/-- Several slots are written. -/
theorem Rel.putAll : ∀ (ps : List Nat) (xs : List AV) (us : List Value), (∀ p ∈ ps, p < n) → xs.length = us.length → (∀ (i : Nat) (x : AV), xs[i]? = some x → RT w rho fz x (us.getD i undef)) →
    ∀ {st : St} {tm : Array Value} {ds : List Deferred}, Rel c B n st { tmps := tm, defers := ds } w rho fz → Rel c B n (putAll ps xs st) { tmps := (ps.zip us).foldl (fun t p => t.setIfInBounds p.1 p.2) tm, defers := ds } w rho fz
  | [], xs, us, _, _, _, st, tm, ds, hr => by simpa [KA.putAll] using hr
  | p :: ps, [], us, _, hl, _, st, tm, ds, hr => by
    have : us = [] := List.eq_nil_of_length_eq_zero hl.symm
    subst this
    simpa [KA.putAll] using hr
  | p :: ps, x :: xs, [], _, hl, _, st, tm, ds, hr => by simp at hl
  | p :: ps, x :: xs, u :: us, hp, hl, hx, st, tm, ds, hr => by
    have h1 := Rel.put hr (some p) (fun y hy => by cases hy; exact hp p (by simp)) (r := x) (v := u) (by simpa using hx 0 x rfl)
    have h2 := Rel.putAll ps xs us (fun y hy => hp y (by simp [hy])) (by simpa using hl) (fun i y hy => by simpa using hx (i + 1) y (by simpa using hy)) (st := st.set p x) (tm := tm.setIfInBounds p u) (ds := ds) h1
    simpa [KA.putAll] using h2

def jumpOf : E → Option Code
  | .normal => none
  | .exit id => some (.exit id)
  | .ret => some .ret

theorem range_sound {N : Nat} {g : Operand} {ps : Array Tmp} {ca cb : Code} {xa xb : C} {og : O} (hog : opO c.gt g = some og) (hps : ∀ p ∈ ps.toList, p < n)
    (iha : ∀ (l : Nat) (B : Base) (st : St) (Qa : E → St → Prop), awp c B.h.length xa st Qa → ∀ (Q : Exit → Act → World → Prop), (∀ a w, ¬ Q .outgrown a w) → (∀ e st' a' w' rho' fz', Qa e st' → Rel c B n st' a' w' rho' fz' → Q (toExit e) a' w') →
      ∀ (a : Act) (w : World) (rho : Gh) (fz : Nat → Prop), Rel c B n st a w rho fz → ca.wpIn (wideR (some l)) 0 c.P Q a w)
    (ihb : ∀ (l : Nat) (B : Base) (st : St) (Qa : E → St → Prop), awp c B.h.length xb st Qa → ∀ (Q : Exit → Act → World → Prop), (∀ a w, ¬ Q .outgrown a w) → (∀ e st' a' w' rho' fz', Qa e st' → Rel c B n st' a' w' rho' fz' → Q (toExit e) a' w') →
      ∀ (a : Act) (w : World) (rho : Gh) (fz : Nat → Prop), Rel c B n st a w rho fz → cb.wpIn (wideR (some l)) 0 c.P Q a w)
    {st : St} {Qa : E → St → Prop} (h : awp c B.h.length (.range og ps.toList xa xb) st Qa) {Q : Exit → Act → World → Prop} (hQ : ∀ e st' a' w' rho' fz', Qa e st' → Rel c B n st' a' w' rho' fz' → Q (toExit e) a' w')
    (hr : Rel c B n st a w rho fz) : (Code.rangeFunc g ps ca cb).wpIn (wideR none) N c.P Q a w := by
  simp only [awp] at h
  obtain ⟨f, caps, items, hg, hpl, ⟨⟨fn0, c0, hb1, hb2, hb3⟩, hit⟩, hlen, hk⟩ := h
  have hv := opO_sound (a := a) hog hr.pre.gl (fun t _ => hr.sl t)
  rw [hg] at hv
  have hv := hv.plain (by simpa [AV.plain] using hpl)
  obtain ⟨vs, hev, hvs⟩ : ∃ vs, a.eval g = .func (.func f) #[] vs ∧ RFs w fz caps vs := by
    generalize a.eval g = u at hv
    cases hv with
    | fn _ _ vs hl hx => exact ⟨vs, rfl, hl, hx⟩
  have hBw : B.w.heap.size ≤ w.heap.size := hr.pres.size
  refine wpIn_rangeFunc ?_
  intro fn hfn
  show ∃ l mark w₁ d w₁' f args w₂, (Instr.enterLoop fn a.tmps ps ca cb none).run c.P w = _ ∧ _
  obtain ⟨q, hq⟩ : ∃ q : LoopState → Option Code → Loop, q = fun st pe => { state := st, pending := pe, fn, tmps := a.tmps, params := ps, assign := ca, body := cb, defers := w.heap.size } := ⟨_, rfl⟩
  obtain ⟨W1, hW1⟩ : ∃ W1, (w.alloc (.deferred (some []))).alloc (.loop (q .ready none)) = W1 := ⟨_, rfl⟩
  obtain ⟨D, hD⟩ : ∃ D : Deferred, D = { target := .collected w.heap.size, args := #[] } := ⟨_, rfl⟩
  have g1 : Good w rho fz st.h W1 rho fz st.h := by
    rw [← hW1]
    have e1 := good_alloc_other hr.pre.hr hr.pre.ok (.deferred (some []))
    exact e1.trans (good_alloc_other e1.hr e1.ok _)
  have hL1 : W1.heap[w.heap.size + 1]? = some (.loop (q .ready none)) := by
    rw [← hW1]; have := World.alloc_heap_new (w.alloc (.deferred (some []))) (.loop (q .ready none)); rwa [World.size_alloc] at this
  have hK1 : W1.heap[w.heap.size]? = some (.deferred (some [])) := by
    rw [← hW1]; exact (RowKit.Below.heap_alloc _ _ _ (by simp)).trans (World.alloc_heap_new w _)
  have hr1 : Rel c B n st { tmps := a.tmps, defers := D :: a.defers } W1 rho fz := by
    have h1 := hr.step g1
    refine ⟨h1.sl, h1.sz, ⟨⟨w.heap.size, hD, hK1, hBw, fun hc => absurd (hr.pre.ok _ hc) (Nat.lt_irrefl _), fun e he hc => ?_⟩, h1.df⟩, h1.pre, h1.pres, h1.same, h1.len, h1.own⟩
    -- the elder marks' blocks were there before
    have : ∀ (l : List Deferred), Marks w fz B.w.heap.size l → e ∈ l → e ≠ D := by
      intro l
      induction l with
      | nil => intro _ h; cases h
      | cons d l ih =>
        rintro ⟨⟨D', k1, k2, _⟩, k6⟩ he
        rcases List.mem_cons.1 he with rfl | he
        · rw [k1, hD]
          intro hc
          simp only [Deferred.mk.injEq, Target.collected.injEq] at hc
          have := (Array.getElem?_eq_some_iff.1 k2).1
          omega
        · exact ih k6 he
    exact this _ hr.df he hc
  have hf1 : ¬ fz (w.heap.size + 1) := fun hc => by have := hr.pre.ok _ hc; omega
  have hfw1 : ∀ b, fz b → W1.heap[b]? = w.heap[b]? := fun b hb => by
    rw [← hW1]
    have := hr.pre.ok b hb
    rw [RowKit.Below.heap_alloc _ _ _ (by simp; omega), RowKit.Below.heap_alloc _ _ _ this]
  obtain ⟨l, hl⟩ : ∃ l, l = w.heap.size + 1 := ⟨_, rfl⟩
  rw [← hl] at hL1 hf1
  have hlB : B.w.heap.size ≤ l := by omega
  obtain ⟨J, hJ⟩ : ∃ J : Nat → World → (Nat → Prop) → Prop, J = fun i W fz => ∃ st' rho', Rel c B n st' { tmps := a.tmps, defers := D :: a.defers } W rho' fz ∧
      rangeK B.h.length ps.toList (fun k => awp c k xa) (fun k => awp c k xb) (items.drop i) st' Qa ∧ W.heap[l]? = some (.loop (q .ready none)) ∧ ¬ fz l := ⟨_, rfl⟩
  obtain ⟨X, hX⟩ : ∃ X : World → Prop, X = fun W => ∃ e j st' rho' fz', jumpOf e = some j ∧ Qa e st' ∧ Rel c B n st' { tmps := a.tmps, defers := D :: a.defers } W rho' fz' ∧ W.heap[l]? = some (.loop (q .done (some j))) ∧ ¬ fz' l := ⟨_, rfl⟩
  have hcall := hit l W1 fz vs J X ⟨hvs.1, fun i x hi => (hvs.2 i x hi).mono hfw1 (fun _ h => h)⟩ (by rw [hJ]; exact ⟨st, rho, hr1, hk, hL1, hf1⟩)
    (fun i W fz h => by rw [hJ] at h; obtain ⟨st', rho', h1, _⟩ := h; exact h1.pre.ok) (fun i W fz h => by rw [hJ] at h ⊢; obtain ⟨st', rho', h1, h2, h3, h4⟩ := h; exact ⟨st', rho', h1.drew, h2, h3, h4⟩)
    (fun W h => by rw [hX] at h ⊢; obtain ⟨e, j, st', rho', fz', h1, h2, h3, h4, h5⟩ := h; exact ⟨e, j, st', rho', fz', h1, h2, h3.drew, h4, h5⟩) ?_
  · refine ⟨l, [D], W1, { target := .fn (.func f) vs, args := #[.func (.yield l) #[] #[]] }, W1, f, #[.func (.yield l) #[] #[]] ++ vs, W1, ?_, ?_, ?_, ?_, (fun hc => nomatch hc), callsIn_any (hcall.mono ?_)⟩
    · rw [← hW1, hq, hl, hD]; exact run_enterLoop_outer _ _ _ _ _
    · simp only [resolve, hev]
      simp [go_sem]
    · intro f' hf'; trivial
    · have hb3' : ¬ fn0.name = "runtime.NumGoroutine" := by simpa using hb3
      simp [invoke, go_sem, callFunc, hb1, hb3', hb2]
    · rintro e W2 ⟨⟨v, rfl⟩, (⟨fz', hj⟩ | hx)⟩
      · rw [hJ] at hj
        obtain ⟨st', rho', h1, h2, h3, h4⟩ := hj
        rw [List.drop_length] at h2
        simp only [rangeK] at h2
        obtain ⟨st1, hw, h2⟩ := h2
        obtain ⟨rho1, hr2⟩ := weak_rel hw h1
        refine ⟨none, _, by have := run_endLoop (P := c.P) h3 (by rw [hq]; simp); rw [this, hq], ?_⟩
        exact hQ .normal st1 _ _ rho1 fz' h2 (hr2.putO _ h3 h4 hlB)
      · rw [hX] at hx
        obtain ⟨e, j, st', rho', fz', h1, h2, h3, h4, h5⟩ := hx
        refine ⟨some j, W2.putObj l (.loop { q .done (some j) with state := .exhausted }), by have := run_endLoop (P := c.P) h4 (by rw [hq]; simp); rw [this, hq], ?_⟩
        have hq2 := hQ e st' _ _ rho' fz' h2 (h3.putO { q .done (some j) with state := .exhausted } h4 h5 hlB)
        cases e with
        | normal => cases h1
        | exit id => cases h1; exact wpIn_exit hq2
        | ret => cases h1; exact wpIn_ret hq2
  · -- one round
    intro i x W fz1 us hi hj hus
    rw [hJ] at hj
    obtain ⟨st0, rho0, h1, h2, h3, h4⟩ := hj
    have hlt : i < items.length := (List.getElem?_eq_some_iff.1 hi).1
    rw [List.drop_eq_getElem_cons hlt, (List.getElem?_eq_some_iff.1 hi).2] at h2
    simp only [rangeK] at h2
    obtain ⟨st1, hw, hA⟩ := h2
    obtain ⟨rho1, hr2⟩ := weak_rel hw h1
    have hxl := hlen x (List.mem_of_getElem? hi)
    have hsz : us.size = (q .ready none).params.size := by rw [hus.1, hxl, hq]; simp
    have hy := run_yield (P := c.P) (args := us) h3 hsz
    refine ⟨_, _, _, _, hy, ?_⟩
    have hlW : l < W.heap.size := (Array.getElem?_eq_some_iff.1 h3).1
    -- a round begins
    have hst : Rel c ⟨W, rho1, st1.h, fz1⟩ n (putAll ps.toList x st1) { tmps := ((q .ready none).params.zip us).foldl (fun tmps (t, a) => tmps.setIfInBounds t a) (q .ready none).tmps, defers := [] } W rho1 fz1 := by
      have e0 : Rel c ⟨W, rho1, st1.h, fz1⟩ n st1 { tmps := a.tmps, defers := [] } W rho1 fz1 := ⟨hr2.sl, hr2.sz, trivial, hr2.pre, Pres.refl _ _ _, fun _ _ => rfl, Nat.le_refl _, fun b hb => .inl hb⟩
      have e1 := Rel.putAll ps.toList x us.toList hps (by simpa using hus.1.symm) (fun i y hy => by have := hus.2 i y hy; simpa [Array.getD_eq_getD_getElem?, List.getD_eq_getElem?_getD] using RT.of _ _ this) e0
      have e2 : ((q .ready none).params.zip us).foldl (fun tmps (t, a) => tmps.setIfInBounds t a) (q .ready none).tmps = (ps.toList.zip us.toList).foldl (fun t p => t.setIfInBounds p.1 p.2) a.tmps := by
        rw [← Array.foldl_toList, Array.toList_zip, hq]
      rw [e2]
      exact e1
    have hfin : ∀ {st3 : St} {a3 : Act} {w3 : World} {rho3 : Gh} {fz3 : Nat → Prop}, Rel c ⟨W.putObj l (.loop (q .busy none)), rho1, st1.h, fz1⟩ n st3 a3 w3 rho3 fz3 →
        w3.heap[l]? = some (.loop (q .busy none)) ∧ Rel c B n ⟨st1.s, st3.h⟩ { tmps := a.tmps, defers := D :: a.defers } (w3.putObj l (.loop (q .ready none))) rho3 fz3 ∧ ¬ fz3 l ∧ (∀ b, fz1 b → fz3 b) ∧
          (∀ b, fz1 b → (w3.putObj l (.loop (q .ready none))).heap[b]? = W.heap[b]?) := by
      intro st3 a3 w3 rho3 fz3 hB
      have hl2 : (W.putObj l (.loop (q .busy none))).heap[l]? = some (.loop (q .busy none)) := World.putObj_heap_same hlW
      obtain ⟨t2, t3, t4⟩ := Good.putO (q .ready none) hl2 h4 (hr2.pre.hr.putO _ h3 h4) hB.good
      rw [putObj_twice, putObj_back h3] at t2
      refine ⟨t3, hr2.step t2, t4, t2.pres.keep, fun b hb => t2.pres.block b (hr2.pre.ok b hb) (fun hc => (Owned.lt hr2.pre.hr hc).2 hb)⟩
    refine roundIn_of_wpIn (F := wideR none) (f := (q .ready none).fn) trivial ?_
    have eca : (q .ready none).assign = ca := by rw [hq]
    have ecb : (q .ready none).body = cb := by rw [hq]
    rw [eca, ecb]
    refine iha l ⟨W, rho1, st1.h, fz1⟩ _ _ hA _ (fun a w hq => by exact hq) (fun e st2 a2 w1 rho2 fz2 he hr3 => ?_) _ _ _ _ hst
    cases e with
    | exit id => exact he.elim
    | ret => exact he.elim
    | normal =>
      simp only at he
      obtain ⟨p1, p2, p3⟩ := Good.putO (q .busy none) h3 h4 hr2.pre.hr hr3.good
      refine ⟨w1.putObj l (.loop (q .busy none)), ?_, ?_⟩
      · have := run_beginRound (P := c.P) p2 (by rw [hq])
        rw [this, hq]
      have hr4 : Rel c ⟨W.putObj l (.loop (q .busy none)), rho1, st1.h, fz1⟩ n st2 a2 (w1.putObj l (.loop (q .busy none))) rho2 fz2 :=
        ⟨fun t => (hr3.sl t).putO _ p2 p3, hr3.sz, Marks.mono (fun D h1 h2 => ⟨by rw [World.putObj_heap_other (fun e => by rw [e, p2] at h1; cases h1)]; exact h1, h2⟩) (by simpa using hr3.df),
          ⟨hr3.pre.hr.putO _ p2 p3, fun b hb => by simpa using hr3.pre.ok b hb, hr3.pre.gl.mono (fun b hb => World.putObj_heap_other (fun e => p3 (by rw [← e]; exact hb))) (fun _ h => h)⟩, p1.pres, p1.same, p1.len, p1.own⟩
      refine ihb l ⟨W.putObj l (.loop (q .busy none)), rho1, st1.h, fz1⟩ _ _ he _ (fun a w hq => by exact hq) (fun e st3 a3 w3 rho3 fz3 he3 hr5 => ?_) _ _ _ _ hr4
      obtain ⟨k1, k2, k3, k4, k5⟩ := hfin hr5
      cases e with
      | normal =>
        refine ⟨_, _, run_endRound none k1, .inl ⟨rfl, fz3, ?_, k4, ?_⟩⟩
        · rw [hJ]
          have : ({ q .busy none with state := if (none : Option Code).isNone then .ready else .done, pending := none } : Loop) = q .ready none := by rw [hq]; rfl
          rw [this]
          exact ⟨_, rho3, k2, he3, World.putObj_heap_same (Array.getElem?_eq_some_iff.1 k1).1, k3⟩
        · have : ({ q .busy none with state := if (none : Option Code).isNone then .ready else .done, pending := none } : Loop) = q .ready none := by rw [hq]; rfl
          rw [this]
          exact k5
      | exit id =>
        refine ⟨_, _, run_endRound (some (.exit id)) k1, .inr ⟨rfl, ?_⟩⟩
        rw [hX]
        have : ({ q .busy none with state := if (some (Code.exit id)).isNone then .ready else .done, pending := some (.exit id) } : Loop) = q .done (some (.exit id)) := by rw [hq]; rfl
        rw [this]
        have k6 := k2.putO (q .done (some (.exit id))) (World.putObj_heap_same (Array.getElem?_eq_some_iff.1 k1).1) k3 hlB
        rw [putObj_twice] at k6
        exact ⟨.exit id, .exit id, _, rho3, fz3, rfl, he3, k6, World.putObj_heap_same (Array.getElem?_eq_some_iff.1 k1).1, k3⟩
      | ret =>
        refine ⟨_, _, run_endRound (some .ret) k1, .inr ⟨rfl, ?_⟩⟩
        rw [hX]
        have : ({ q .busy none with state := if (some Code.ret).isNone then .ready else .done, pending := some .ret } : Loop) = q .done (some .ret) := by rw [hq]; rfl
        rw [this]
        have k6 := k2.putO (q .done (some .ret)) (World.putObj_heap_same (Array.getElem?_eq_some_iff.1 k1).1) k3 hlB
        rw [putObj_twice] at k6
        exact ⟨.ret, .ret, _, rho3, fz3, rfl, he3, k6, World.putObj_heap_same (Array.getElem?_eq_some_iff.1 k1).1, k3⟩

theorem awpIn_sound (hm : c.P.follows .mixedOrders = true) : ∀ (code : Code) (cc : C), comp c.P c.gt mu n code = some cc → ∀ (r : Option Nat) (N : Nat) (B : Base), (r = none ∨ noRange code = true) → ∀ (st : St) (Qa : E → St → Prop), awp c B.h.length cc st Qa →
    ∀ (Q : Exit → Act → World → Prop), (∀ a w, ¬ Q .outgrown a w) → (∀ e st' a' w' rho' fz', Qa e st' → Rel c B n st' a' w' rho' fz' → Q (toExit e) a' w') →
    ∀ (a : Act) (w : World) (rho : Gh) (fz : Nat → Prop), Rel c B n st a w rho fz → code.wpIn (wideR r) N c.P Q a w := by
  intro code
  induction code with
  | skip => intro cc hc r N B hrr st Qa h Q hl hQ a w rho fz hr; cases hc; exact wpIn_skip (hQ .normal st a w rho fz h hr)
  | region id ops draw =>
    intro cc hc r N B hrr st Qa h Q hl hQ a w rho fz hr
    simp only [comp] at hc
    split at hc
    · rename_i gs hgs
      split at hc
      · cases hc
      · rename_i hdr
        cases hc
        simp only [awp] at h
        have hlo : ¬ LetsOut Q := fun ⟨a, w, hq⟩ => hl a w hq
        have hnd : noDefer ops = true := by
          cases hd : noDefer ops with
          | true => rfl
          | false => exact absurd (.inr hd) hdr
        cases draw with
        | false =>
          refine wpIn_region (wpOps_in hlo hnd _ _ _ ?_)
          rw [List.range_eq_range']
          exact seq_sound hgs (fun st' a' w' rho' fz' hk hr' => hQ .normal st' a' w' rho' fz' hk hr') ops.size 0 (by omega) st a w rho fz h hr
        | true =>
          have hok : drawOk ops gs = true := by
            cases hd : drawOk ops gs with
            | true => rfl
            | false => exact absurd (.inl ⟨rfl, hd⟩) hdr
          refine wpIn_region_any hm (wpAny_in hlo hnd _ _ _ _ ?_)
          have hnf : ∀ g ∈ gs, isFork g.i = false := by
            intro g hg
            obtain ⟨j, hj⟩ := List.getElem?_of_mem hg
            have h1 := hok
            unfold drawOk at h1
            simp only [Bool.and_eq_true, List.all_eq_true, List.mem_range] at h1
            have hl := (opGs_get hgs).1
            have hj' : j < ops.size := by have := (List.getElem?_eq_some_iff.1 hj).1; simp at hl; omega
            have h2 := (h1.1 j hj').2
            rw [hj] at h2
            simpa using h2
          obtain ⟨s, s0, s1, s2⟩ := trace gs st hnf h
          have hT : Traced c mu n ops gs s := ⟨hgs, hok, s2⟩
          rw [hT.len] at s1
          refine any_sound hT (by rw [s0]; exact hr.len) (by rw [s0]; exact hr.refs) (fun a' w' rho' fz' hr' => hQ .normal _ a' w' rho' fz' s1 hr') ops.size _ (fun _ => false) [] a w.drew rho fz ⟨fun k => ?_, by simp, by simp, fun k hk => (by cases hk), fun k => by simp, fun j o _ hj => by cases hj⟩ (by simp) (fun k hk _ => ?_) ?_
          · rw [Array.getD_eq_getD_getElem?, Array.getElem?_replicate]
            split <;> rfl
          · obtain ⟨hsw, _, _, _, _, _, _, _, hkl⟩ := tagA_get hT hk
            refine hr.pre.hr.dom _ ?_
            rw [← s0]
            exact len_mono hT hsw 0 k (by omega) (by omega)
          · have hv : ∀ m t, vfold s gs (fun _ => false) t m = lookup st.s t := by
              intro m t
              induction m with
              | zero => simp only [vfold]; rw [s0]
              | succ m ih => simp only [vfold]; rw [if_neg (fun hc => by cases hc.1)]; exact ih
            have hh : ∀ m, hfold s gs (tagA ops gs) (fun _ => false) m = st.h := by
              intro m
              induction m with
              | zero => simp only [hfold]; rw [s0]
              | succ m ih => simp only [hfold]; rw [if_neg (fun hc => by cases hc.1)]; exact ih
            have := (hr.drew).toF
            rw [hh]
            have e : (fun t => vfold s gs (fun _ => false) t ops.size) = lookup st.s := funext (hv ops.size)
            rw [e]
            exact this
    · cases hc
  | seq x y ihx ihy =>
    intro cc hc r N B hrr st Qa h Q hl hQ a w rho fz hr
    simp only [comp] at hc
    split at hc
    · rename_i cx cy hx hy
      cases hc
      simp only [awp] at h
      refine wpIn_seq (ihx cx hx r N B (hrr.imp (fun z => z) fun e => by simp only [noRange, Bool.and_eq_true] at e; exact e.1) st _ h _ (fun a w hq => by exact hl a w hq) (fun e st' a' w' rho' fz' he hr' => ?_) a w rho fz hr)
      cases e with
      | normal => exact ihy cy hy r N B (hrr.imp (fun z => z) fun e => by simp only [noRange, Bool.and_eq_true] at e; exact e.2) st' Qa he Q hl hQ a' w' rho' fz' hr'
      | exit id => exact hQ (.exit id) st' a' w' rho' fz' he hr'
      | ret => exact hQ .ret st' a' w' rho' fz' he hr'
    · cases hc
  | cond q x y ihx ihy =>
    intro cc hc r N B hrr st Qa h Q hl hQ a w rho fz hr
    simp only [comp] at hc
    split at hc
    · rename_i o cx cy ho hx hy
      cases hc
      simp only [awp, onBool] at h
      split at h
      · rename_i t ht
        have hv := opO_sound (a := a) ho hr.pre.gl (fun t _ => hr.sl t)
        rw [ht] at hv
        exact wpIn_cond_split hv.bool (fun e => ihx cx hx r N B (hrr.imp (fun z => z) fun e => by simp only [noRange, Bool.and_eq_true] at e; exact e.1) st Qa (h.1 e) Q hl hQ a w rho fz hr) (fun e => ihy cy hy r N B (hrr.imp (fun z => z) fun e => by simp only [noRange, Bool.and_eq_true] at e; exact e.2) st Qa (h.2 e) Q hl hQ a w rho fz hr)
      · exact h.elim
    · cases hc
  | block id x ih =>
    intro cc hc r N B hrr st Qa h Q hl hQ a w rho fz hr
    simp only [comp] at hc
    cases hx : comp c.P c.gt mu n x with
    | none => rw [hx] at hc; cases hc
    | some cx =>
      rw [hx] at hc
      cases hc
      simp only [awp] at h
      refine wpIn_block (ih cx hx r N B (hrr.imp (fun z => z) fun e => e) st _ h _ (fun a w hq => by exact hl a w hq) (fun e st' a' w' rho' fz' he hr' => ?_) a w rho fz hr)
      cases e with
      | normal => exact hQ .normal st' a' w' rho' fz' he hr'
      | exit i =>
        simp only at he
        show Exit.inBlock id Q (.exit i) a' w'
        simp only [Exit.inBlock]
        by_cases e : i = id
        · rw [if_pos e] at he ⊢; exact hQ .normal st' a' w' rho' fz' he hr'
        · rw [if_neg e] at he ⊢; exact hQ (.exit i) st' a' w' rho' fz' he hr'
      | ret => exact hQ .ret st' a' w' rho' fz' he hr'
  | loop x ih =>
    intro cc hc r N B hrr st Qa h Q hl hQ a w rho fz hr
    simp only [comp] at hc
    cases hx : comp c.P c.gt mu n x with
    | none => rw [hx] at hc; cases hc
    | some cx =>
      rw [hx] at hc
      cases hc
      simp only [awp] at h
      obtain ⟨m, h⟩ := h
      refine loopIn_sound (R := fun m a w => ∃ st rho fz, rounds B.h.length (awp c B.h.length cx) m st Qa ∧ Rel c B n st a w rho fz) (fun a w ⟨_, _, _, h, _⟩ => h) (fun m a w hR => ?_) ⟨st, rho, fz, h, hr⟩
      obtain ⟨st1, rho1, fz1, h1, hr1⟩ := hR
      simp only [rounds] at h1
      obtain ⟨st2, hw, h2⟩ := h1
      obtain ⟨rho2, hr2⟩ := weak_rel hw hr1
      refine ih cx hx r N B (hrr.imp (fun z => z) fun e => e) st2 _ h2 _ (fun a w hq => by exact hl a w hq) (fun e st' a' w' rho' fz' he hr' => ?_) a w rho2 fz1 hr2
      cases e with
      | normal => exact ⟨st', rho', fz', he, hr'⟩
      | exit id => exact hQ (.exit id) st' a' w' rho' fz' he hr'
      | ret => exact hQ .ret st' a' w' rho' fz' he hr'
  | rangeFunc g ps x y ihx ihy =>
    intro cc hc r N B hrr st Qa h Q hl hQ a w rho fz hr
    obtain rfl : r = none := hrr.resolve_right (fun e => by simp [noRange] at e)
    simp only [comp] at hc
    split at hc
    · rename_i o cx cy ho hx hy
      split at hc
      · rename_i hcond
        cases hc
        simp only [Bool.and_eq_true, List.all_eq_true, decide_eq_true_eq] at hcond
        exact range_sound ho hcond.1 (fun l B => ihx cx hx (some l) 0 B (.inr hcond.2.1)) (fun l B => ihy cy hy (some l) 0 B (.inr hcond.2.2)) h hQ hr
      · cases hc
    · cases hc
  | exit id => intro cc hc r N B hrr st Qa h Q hl hQ a w rho fz hr; cases hc; exact wpIn_exit (hQ (.exit id) st a w rho fz h hr)
  | ret => intro cc hc r N B hrr st Qa h Q hl hQ a w rho fz hr; cases hc; exact wpIn_ret (hQ .ret st a w rho fz h hr)
  | _ => intro cc hc; cases hc

end
end Go.Proofs.YtkjnjdcbnelceaaGreatDoor.KA
end

section
/- How a function's contract follows from 'awp' of its text. Nothing here concerns a given program. -/
set_option linter.unusedVariables false
set_option linter.unusedSimpArgs false
set_option linter.unnecessarySimpa false
namespace Go.Proofs.YtkjnjdcbnelceaaGreatDoor.KA
open Go

section
variable {c : Ctx} {B : Base} {n : Nat} {a : Act} {w : World} {rho : Gh} {fz : Nat → Prop} {mu : Nat → Bool} {st : St}

/-- The first mark is taken: its block is shut. -/
theorem Rel.shut {tm : Array Value} {d : Deferred} {ds : List Deferred} (hr : Rel c B n st { tmps := tm, defers := d :: ds } w rho fz) :
    ∃ D, d.target = .collected D ∧ w.heap[D]? = some (.deferred (some [])) ∧ Rel c B n st { tmps := tm, defers := ds } (w.putObj D (.deferred none)) rho fz := by
  obtain ⟨⟨D, h1, h2, h3, h4, h5⟩, h6⟩ := hr.df
  have hlt : D < w.heap.size := (Array.getElem?_eq_some_iff.1 h2).1
  have hoth : ∀ b, b ≠ D → (w.putObj D (.deferred none)).heap[b]? = w.heap[b]? := fun b hb => World.putObj_heap_other hb
  have hfw : ∀ b, fz b → (w.putObj D (.deferred none)).heap[b]? = w.heap[b]? := fun b hb => hoth b (fun e => h4 (e ▸ hb))
  have hsh : ∀ b s, w.shape? b = some s → (w.putObj D (.deferred none)).shape? b = some s := by
    intro b s hs
    by_cases e : b = D
    · subst e; unfold World.shape? at hs; rw [h2] at hs; cases hs
    · unfold World.shape? at hs ⊢; rw [hoth b e]; exact hs
  have mono : ∀ {x : AV} {v : Value}, RT w rho fz x v → RT (w.putObj D (.deferred none)) rho fz x v := fun h => h.mono hfw (fun _ h => h) hsh (fun _ _ h => h)
  refine ⟨D, by rw [h1], h2, fun t => mono (hr.sl t), hr.sz, ?_, ⟨⟨hr.pre.hr.dom, fun id cs hid => ?_, hr.pre.hr.inj⟩, fun b hb => by simpa using hr.pre.ok b hb, hr.pre.gl.mono hfw (fun _ h => h)⟩, ?_, hr.same, hr.len, hr.own⟩
  · have key : ∀ (l : List Deferred), (∀ e ∈ l, e ≠ d) → Marks w fz B.w.heap.size l → Marks (w.putObj D (.deferred none)) fz B.w.heap.size l := by
      intro l
      induction l with
      | nil => intro _ h; exact h
      | cons e l ih =>
        rintro hne ⟨⟨D', g1, g2, g3, g4, g5⟩, g6⟩
        refine ⟨⟨D', g1, ?_, g3, g4, g5⟩, ih (fun x hx => hne x (by simp [hx])) g6⟩
        rw [hoth D' (fun e' => hne e (by simp) (by rw [g1, h1, e']))]
        exact g2
    exact key ds h5 h6
  · obtain ⟨b, p, arr, ty, k1, k2, k3, k4, k5⟩ := hr.pre.hr.cell id cs hid
    refine ⟨b, p, arr, ty, k1, k2, ?_, k4, fun j x hj => mono (k5 j x hj)⟩
    rw [hoth b (fun e => by rw [e, h2] at k3; cases k3)]
    exact k3
  · have hp := hr.pres
    refine ⟨hp.os, hp.tape, hp.output, by simpa using hp.size, fun b hb hno => ?_, fun b s hs => hsh b s (hp.shape b s hs), hp.keep, hp.fresh⟩
    rw [hoth b (by omega)]
    exact hp.block b hb hno

/-- Leaving with marks. -/
theorem leaves_marks {F : Fence} {N : Nat} {fn : Func} {tm : Array Value} {R : Ending → World → Prop} (hR : ∀ w, Rel c B n st { tmps := tm, defers := [] } w rho fz → ∃ v, (results fn tm).run c.P w = .ok v w ∧ R (.returned v) w) :
    ∀ (ds : List Deferred) (w : World), Rel c B n st { tmps := tm, defers := ds } w rho fz → LeavesInM F N c.P fn tm R ds .returning w
  | [], w, hr => hR w hr
  | d :: ds, w, hr => by
    obtain ⟨D, h1, h2, h3⟩ := hr.shut
    exact ⟨by simp, .inl ⟨D, _, h1, run_takeDeferred h2, leaves_marks hR ds _ h3⟩⟩

/-- A function that shares nothing: from its text in the small code. -/
theorem specP_of (hm : c.P.follows .mixedOrders = true) {f : FuncId} {cc : C} {rvs : List RV} (hc : compF c.P c.gt mu f = some (cc, rvs, n)) {args : List AV} {r : AV} (hn : args.length ≤ n)
    (h : awp c 0 cc ⟨args0 args, []⟩ fun e st => e.done = true ∧ rvsK st rvs fun l => Shows st.h (resAV l) r) : SpecP c f args r := by
  obtain ⟨fn, code, h1, h2, h3, h4, h5, rfl⟩ := compF_some hc
  refine ⟨⟨fn, code, h1, h2, h3⟩, fun w fz vs hf hg ha => ?_⟩
  refine callsIn_wideR' (r := none) (n := 0) (callsIn_of_wp_marks h1 h2 trivial ?_)
  have hh : HR w (fun _ => none) fz [] := ⟨fun _ _ => rfl, fun id cs hid => by simp at hid, fun id id' cs cs' b o o' hid => by simp at hid⟩
  have hst := rel_start (c := c) (n := fn.ntmps) (h := []) (rho := fun _ => none) (args := args) (vs := vs) hn hf hg hh ⟨ha.1, fun i x hx => .of _ _ (ha.2 i x hx)⟩
  refine awpIn_sound hm code cc h4 none 0 ⟨w, fun _ => none, [], fz⟩ (.inl rfl) _ _ h _ (fun a w hq => by obtain ⟨v, fz', e, _⟩ := hq; cases e) (fun e st' a' w' rho' fz' he hr' => ?_) _ _ _ _ hst
  obtain ⟨hd, hk⟩ := he
  have key : LeavesInM (wideR none) 0 c.P fn a'.tmps (fun e w' => ∃ v fz', e = .returned v ∧ RF w' fz' r v ∧ FzOk w' fz' ∧ Pres w (fun _ => False) fz w' fz') a'.defers .returning w' := by
    refine leaves_marks (B := ⟨w, fun _ => none, [], fz⟩) (rho := rho') (fz := fz') (st := st') (n := fn.ntmps) (fun w' hr' => ?_) a'.defers w' hr'
    obtain ⟨xs, u, k1, k2, k3⟩ := results_sound h5 hr' hk
    refine ⟨u, k3, u, _, rfl, shows_sound hr'.pre.hr k1 k2, ?_, ?_⟩
    · rintro b (hb | hb)
      · exact hr'.pre.ok b hb
      · exact (hb.lt hr'.pre.hr).1
    · have hp := hr'.pres
      have no : ∀ b, ¬ Owned (fun _ => none) [] b := fun b ⟨id, cs, o, h, _⟩ => by simp at h
      refine ⟨hp.os, hp.tape, hp.output, hp.size, fun b hb _ => hp.block b hb (no b), hp.shape, fun b hb => .inl (hp.keep b hb), fun b hb => ?_⟩
      rcases hb with hb | hb
      · rcases hp.fresh b hb with h | h | h
        · exact .inl h
        · exact absurd h (no b)
        · exact .inr (.inr h)
      · rcases hr'.own b hb with h | h
        · exact absurd h (no b)
        · exact .inr (.inr h)
  cases e with
  | normal => exact key
  | ret => exact key
  | exit id => cases hd

theorem specG_of (hm : c.P.follows .mixedOrders = true) {f : FuncId} {cc : C} {rvs : List RV} (hc : compF c.P c.gt mu f = some (cc, rvs, n)) {args : List AV} {h h' : AHeap} {r : AV} (hn : args.length ≤ n) (hl : h.length ≤ h'.length)
    (hw : awp c h.length cc ⟨args0 args, h⟩ fun e st => e.done = true ∧ rvsK st rvs fun l => weak h.length ⟨[(0, resAV l)], st.h⟩ ⟨[(0, r)], h'⟩) : SpecG c f args h r h' := by
  obtain ⟨fn, code, h1, h2, h3, h4, h5, rfl⟩ := compF_some hc
  refine ⟨⟨fn, code, h1, h2, h3⟩, hl, fun w rho fz vs hf hg hh ha => ?_⟩
  refine callsIn_wideR' (r := none) (n := 0) (callsIn_of_wp_marks h1 h2 trivial ?_)
  have hst := rel_start (c := c) (n := fn.ntmps) hn hf hg hh ha
  refine awpIn_sound hm code cc h4 none 0 ⟨w, rho, h, fz⟩ (.inl rfl) _ _ hw _ (fun a w hq => by obtain ⟨v, _, _, e, _⟩ := hq; cases e) (fun e st' a' w' rho' fz' he hr' => ?_) _ _ _ _ hst
  obtain ⟨hd, hk⟩ := he
  have key : LeavesInM (wideR none) 0 c.P fn a'.tmps (fun e w' => ∃ v rho' fz', e = .returned v ∧ RT w' rho' fz' r v ∧ FzOk w' fz' ∧ HR w' rho' fz' h' ∧ Pres w (Owned rho h) fz w' fz' ∧
      (∀ id, id < h.length → rho' id = rho id) ∧ (∀ b, Owned rho' h' b → Owned rho h b ∨ w.heap.size ≤ b)) a'.defers .returning w' := by
    refine leaves_marks (B := ⟨w, rho, h, fz⟩) (rho := rho') (fz := fz') (st := st') (n := fn.ntmps) (fun w' hr' => ?_) a'.defers w' hr'
    obtain ⟨xs, u, k1, k2, k3⟩ := results_sound h5 hr' hk
    refine ⟨u, k3, ?_⟩
    have hr1 : Rel c ⟨w, rho, h, fz⟩ 1 ⟨[(0, resAV xs)], st'.h⟩ { tmps := #[u], defers := [] } w' rho' fz' := by
      refine ⟨fun t => ?_, rfl, trivial, ⟨hr'.pre.hr, hr'.pre.ok, hr'.pre.gl⟩, hr'.pres, hr'.same, hr'.len, hr'.own⟩
      cases t with
      | zero => exact k2
      | succ t => exact .of _ _ (.undef _)
    obtain ⟨rho'', hr2⟩ := weak_rel (B := ⟨w, rho, h, fz⟩) k1 hr1
    exact ⟨u, rho'', fz', rfl, hr2.sl 0, hr2.pre.ok, hr2.pre.hr, hr2.pres, hr2.same, hr2.own⟩
  cases e with
  | normal => exact key
  | ret => exact key
  | exit id => cases hd

end
end Go.Proofs.YtkjnjdcbnelceaaGreatDoor.KA
end

section
/- The walking frame's rules in one; numbers of 64 bits; a loop's rounds one by one. Nothing here concerns a given program. -/
set_option linter.unusedVariables false
set_option linter.unusedSimpArgs false
namespace Go.Proofs.YtkjnjdcbnelceaaGreatDoor.KA
open Go

theorem wrap64 {n : Int} (h : -9223372036854775808 ≤ n ∧ n ≤ 9223372036854775807) : IntKind.i64.wrap n = n := by
  rw [IntKind.wrap_i64]; omega
theorem wrap8 {n : Int} (h : 0 ≤ n ∧ n ≤ 255) : IntKind.u8.wrap n = n := by
  have : IntKind.u8.wrap n = n % 256 := by
    unfold IntKind.wrap
    rfl
  omega

theorem onBool_b (b : Bool) (K : Bool → Prop) : onBool (.bool b) K = K b := rfl
theorem onInt_i (k : IntKind) (n : Int) (K : IntKind → Int → Prop) : onInt (.int k n) K = K k n := rfl
theorem onStr_s (s : List UInt8) (K : List UInt8 → Prop) : onStr (.str s) K = K s := rfl
theorem onLo_n (d : Nat) (K : Nat → Prop) : onLo none d K = K d := rfl
theorem onLo_s (k : IntKind) (n : Int) (d : Nat) (K : Nat → Prop) : onLo (some (.int k n)) d K = (0 ≤ n ∧ K n.toNat) := rfl

section
variable {c : Ctx} {k : Nat} {fs : List F} {st : St} {Q : E → St → Prop} {l : List GI}
/-- One round of a loop, the others to come. -/
def RN (c : Ctx) (k : Nat) (a : C) (n : Nat) (fs : List F) (st : St) (Q : E → St → Prop) : Prop := rounds k (awp c k a) n st (kont c k fs Q)
theorem X_rounds {a : C} (n : Nat) (h : RN c k a n fs st Q) : X c k (.loop a) fs st Q := ⟨⟨n, h⟩⟩
theorem RN_step {a : C} {n : Nat} (st' : St) (hw : weak k st st') (h : X c k a [] st' (LQ c k (fun t => RN c k a n fs t Q) fs Q)) : RN c k a (n + 1) fs st Q := by
  refine ⟨st', hw, ?_⟩
  have tr : ∀ {s' : St} {Q1 Q2 : E → St → Prop}, Q1 = Q2 → awp c k a s' Q1 → awp c k a s' Q2 := fun e h => e ▸ h
  exact tr (funext fun e => funext fun t => by cases e <;> first | rfl | exact Z_def) h.out
/-- A guarded word. -/
def YG (c : Ctx) (k : Nat) (i : I) (l : List GI) (fs : List F) (d : Option Nat) (t : Nat) (w : Bool) (st : St) (Q : E → St → Prop) : AV → Prop
  | .bool b => (b = w → Y1 c k i l fs (st.set t (.bool w)) Q) ∧ (b = !w → Y c k l fs ((st.set t (.bool !w)).setO d (.tuple [])) Q)
  | .tuple [] => Y c k l fs (st.setO d (.tuple [])) Q
  | _ => False
theorem KWg : (∀ (c : Ctx) (k : Nat) (l : List GI) (fs : List F) (st : St) (Q : E → St → Prop) (i : I) (d : Option Nat) (t : Nat) (w : Bool), Y c k (⟨i, some (t, w), d⟩ :: l) fs st Q = YG c k i l fs d t w st Q (lookup st.s t)) ∧
    (∀ (c : Ctx) (k : Nat) (l : List GI) (fs : List F) (st : St) (Q : E → St → Prop) (i : I) (d : Option Nat) (t : Nat) (w b : Bool), YG c k i l fs d t w st Q (.bool b) = ((b = w → Y1 c k i l fs (st.set t (.bool w)) Q) ∧ (b = !w → Y c k l fs ((st.set t (.bool !w)).setO d (.tuple [])) Q))) ∧
    (∀ (c : Ctx) (k : Nat) (l : List GI) (fs : List F) (st : St) (Q : E → St → Prop) (i : I) (d : Option Nat) (t : Nat) (w : Bool), YG c k i l fs d t w st Q (.tuple []) = Y c k l fs (st.setO d (.tuple [])) Q) := by
  refine ⟨fun c k l fs st Q i d t w => ?_, fun _ _ _ _ _ _ _ _ _ _ _ => rfl, fun _ _ _ _ _ _ _ _ _ _ => rfl⟩
  rw [Y_def]
  unfold YG
  simp only [aops, Y_def, Y1_def]
  split <;> rename_i h
  · simp only [h]
  · simp only [h]
  · rename_i h2
    split
    · rename_i b hb; exact absurd hb (h2 b)
    · rename_i hb; exact absurd hb h
    · rfl
/-- A loop whose heads are told by data: 'V x' is what is known at the head, 'ms' falls from round to round. -/
theorem X_for {α : Type} {a : C} (V : α → St) (ok : α → Prop) (ms : α → Nat) (x0 : α) (h0 : ok x0) (hw : weak k st (V x0))
    (hb : ∀ (x : α) (R : St → Prop), ok x → (∀ y t, ok y → ms y < ms x → weak k t (V y) → R t) → X c k a [] (V x) (LQ c k R fs Q)) : X c k (.loop a) fs st Q := by
  refine X_loop (fun n s => ∃ x, ok x ∧ ms x ≤ n ∧ weak k s (V x)) (ms x0) ⟨x0, h0, Nat.le_refl _, hw⟩ ?_
  rintro m s R ⟨x, hx, hm, hs⟩ hR
  refine ⟨V x, hs, hb x R hx fun y t hy hlt ht => ?_⟩
  cases m with
  | zero => omega
  | succ j => exact hR j t rfl ⟨y, hy, by omega, ht⟩
/-- What a round of a range over a function may end in: a round does not turn the slots 's'. -/
def RQ (c : Ctx) (k : Nat) (R : St → Prop) (fs : List F) (Q : E → St → Prop) (s : List (Nat × AV)) : E → St → Prop
  | .normal => fun t => R ⟨s, t.h⟩
  | e => fun t => Z c k e fs ⟨s, t.h⟩ Q
/-- Behind the assignment of a round. -/
def AQ (c : Ctx) (k : Nat) (b : C) (Q : E → St → Prop) : E → St → Prop
  | .normal => fun t => X c k b [] t Q
  | _ => fun _ => False
theorem KR : (∀ (c : Ctx) (k : Nat) (R : St → Prop) (fs : List F) (Q : E → St → Prop) (s : List (Nat × AV)) (t : St), RQ c k R fs Q s .normal t = R ⟨s, t.h⟩) ∧
    (∀ (c : Ctx) (k : Nat) (R : St → Prop) (fs : List F) (Q : E → St → Prop) (s : List (Nat × AV)) (i : Nat) (t : St), RQ c k R fs Q s (.exit i) t = Z c k (.exit i) fs ⟨s, t.h⟩ Q) ∧
    (∀ (c : Ctx) (k : Nat) (R : St → Prop) (fs : List F) (Q : E → St → Prop) (s : List (Nat × AV)) (t : St), RQ c k R fs Q s .ret t = Z c k .ret fs ⟨s, t.h⟩ Q) ∧
    (∀ (c : Ctx) (k : Nat) (b : C) (Q : E → St → Prop) (t : St), AQ c k b Q .normal t = X c k b [] t Q) :=
  ⟨fun _ _ _ _ _ _ _ => rfl, fun _ _ _ _ _ _ _ _ => rfl, fun _ _ _ _ _ _ _ => rfl, fun _ _ _ _ _ => rfl⟩
/-- A range over a function: 'V i' is what is known before round i. -/
theorem X_range {g : O} {ps : List Nat} {a b : C} {f : FuncId} {caps : List AV} {items : List (List AV)} (V : Nat → St) (hg : st.ev g = .fn f caps) (hp : AV.plainL caps = true) (hi : IterP c f caps items) (hl : ∀ x ∈ items, x.length = ps.length)
    (h0 : weak k st (V 0))
    (hb : ∀ (i : Nat) (x : List AV) (R : St → Prop), items[i]? = some x → (∀ t, weak k t (V (i + 1)) → R t) → X c (V i).h.length a [] (putAll ps x (V i)) (AQ c (V i).h.length b (RQ c k R fs Q (V i).s)))
    (hd : Z c k .normal fs (V items.length) Q) : X c k (.range g ps a b) fs st Q := by
  have tr : ∀ {k : Nat} {a : C} {s' : St} {Q1 Q2 : E → St → Prop}, Q1 = Q2 → awp c k a s' Q1 → awp c k a s' Q2 := fun e h => e ▸ h
  have key : ∀ (xs : List (List AV)) (i : Nat) (s : St), i ≤ items.length → items.drop i = xs → weak k s (V i) → rangeK k ps (fun k => awp c k a) (fun k => awp c k b) xs s (kont c k fs Q) := by
    intro xs
    induction xs with
    | nil =>
      intro i s hle hx hw
      have : items.length ≤ i := List.drop_eq_nil_iff.1 hx
      have : i = items.length := by omega
      subst this
      exact ⟨_, hw, hd.out⟩
    | cons x xs ih =>
      intro i s hle hx hw
      have hlt : i < items.length := by
        rcases Nat.lt_or_ge i items.length with h | h
        · exact h
        · rw [List.drop_eq_nil_of_le h] at hx; cases hx
      rw [List.drop_eq_getElem_cons hlt] at hx
      obtain ⟨hx1, hx2⟩ := List.cons.inj hx
      have h := hb i x (fun t => rangeK k ps (fun k => awp c k a) (fun k => awp c k b) xs t (kont c k fs Q)) (by rw [← hx1]; simp [hlt]) (fun t ht => ih (i + 1) t (by omega) hx2 ht)
      refine ⟨V i, hw, tr ?_ h.out⟩
      funext e st2
      cases e with
      | normal =>
        refine propext ⟨fun h => tr ?_ h.out, fun h => ⟨tr ?_ h⟩⟩
        all_goals
          funext e st3
          cases e <;> first | rfl | exact Z_def | exact Z_def.symm
      | exit i => rfl
      | ret => rfl
  exact ⟨⟨f, caps, items, hg, hp, hi, hl, key _ 0 _ (Nat.zero_le _) rfl h0⟩⟩
end

theorem weak_refl (k : Nat) (st : St) (hl : ∀ p ∈ st.s, lookup st.s p.1 = p.2) : weak k st st := .inl ⟨hl, rfl⟩
/-- What need not be known any more is forgotten; the heap stays as it is. -/
theorem plain_renL {f : Nat → Nat} : ∀ {l : List AV}, AV.plainL l = true → AV.renL f l = l ∧ ∀ n, AV.idsLtL n l = true := by
  have key : ∀ (m : Nat), (∀ a : AV, SizeOf.sizeOf a < m → a.plain = true → a.ren f = a ∧ ∀ n, a.idsLt n = true) ∧ (∀ l : List AV, SizeOf.sizeOf l < m → AV.plainL l = true → AV.renL f l = l ∧ ∀ n, AV.idsLtL n l = true) := by
    intro m
    induction m with
    | zero => exact ⟨fun a h => absurd h (Nat.not_lt_zero _), fun l h => absurd h (Nat.not_lt_zero _)⟩
    | succ m ih =>
      constructor
      · intro a hs hp
        cases a with
        | agg cs =>
          obtain ⟨e1, e2⟩ := ih.2 cs (by simp at hs; omega) (by simpa [AV.plain] using hp)
          exact ⟨by simp [AV.ren, e1], fun n => by simp [AV.idsLt, e2]⟩
        | tuple cs =>
          obtain ⟨e1, e2⟩ := ih.2 cs (by simp at hs; omega) (by simpa [AV.plain] using hp)
          exact ⟨by simp [AV.ren, e1], fun n => by simp [AV.idsLt, e2]⟩
        | fn g cs =>
          obtain ⟨e1, e2⟩ := ih.2 cs (by simp at hs; omega) (by simpa [AV.plain] using hp)
          exact ⟨by simp [AV.ren, e1], fun n => by simp [AV.idsLt, e2]⟩
        | iface t v =>
          obtain ⟨e1, e2⟩ := ih.1 v (by simp at hs; omega) (by simpa [AV.plain] using hp)
          exact ⟨by simp [AV.ren, e1], fun n => by simp [AV.idsLt, e2]⟩
        | own => simp [AV.plain] at hp
        | ref => simp [AV.plain] at hp
        | tref => simp [AV.plain] at hp
        | _ => exact ⟨by simp [AV.ren], fun n => by simp [AV.idsLt]⟩
      · intro l hs hp
        cases l with
        | nil => exact ⟨by simp [AV.renL], fun n => by simp [AV.idsLtL]⟩
        | cons a l =>
          simp only [AV.plainL, Bool.and_eq_true] at hp
          obtain ⟨e1, e2⟩ := ih.1 a (by simp at hs; omega) hp.1
          obtain ⟨e3, e4⟩ := ih.2 l (by simp at hs; omega) hp.2
          exact ⟨by simp [AV.renL, e1, e3], fun n => by simp [AV.idsLtL, e2, e4]⟩
  intro l hp
  exact (key (SizeOf.sizeOf l + 1)).2 l (Nat.lt_succ_self _) hp
theorem plain_ren {f : Nat → Nat} {a : AV} (hp : a.plain = true) : a.ren f = a ∧ ∀ n, a.idsLt n = true := by
  obtain ⟨e1, e2⟩ := plain_renL (f := f) (l := [a]) (by simp [AV.plainL, hp])
  exact ⟨by simpa [AV.renL] using e1, fun n => by simpa [AV.idsLtL] using e2 n⟩
/-- Of the heap one block is kept; it gets the number 0. -/
theorem weak_one {st : St} {s : List (Nat × AV)} {cells : List AV} (j : Nat) (hj : st.h[j]? = some (some cells)) (hp : AV.plainL cells = true)
    (h : ∀ p ∈ s, lookup st.s p.1 = p.2.ren (fun _ => j) ∧ p.2.idsLt 1 = true) : weak 0 st ⟨s, [some cells]⟩ := by
  refine .inr ⟨fun _ => j, Nat.zero_le _, fun id h => absurd h (Nat.not_lt_zero _), h, fun id _ => ?_, fun id id' h1 h2 _ => ?_, fun id cs hc => ?_⟩
  · exact (List.getElem?_eq_some_iff.1 hj).1
  · simp at h1 h2; omega
  · cases id with
    | zero =>
      simp only [List.getElem?_cons_zero, Option.some.injEq] at hc
      subst hc
      obtain ⟨e1, e2⟩ := plain_renL (f := fun _ => j) hp
      exact ⟨by rw [e1]; exact hj, e2 _⟩
    | succ id => simp at hc
/-- Of the heap nothing is kept. -/
theorem weak_none {st : St} {s : List (Nat × AV)} (hp : ∀ p ∈ s, lookup st.s p.1 = p.2 ∧ p.2.plain = true) : weak 0 st ⟨s, []⟩ := by
  refine .inr ⟨fun i => i, Nat.zero_le _, fun id h => absurd h (Nat.not_lt_zero _), fun p hpm => ?_, fun id h => ?_, fun id id' h1 h2 _ => ?_, fun id cs hc => ?_⟩
  · obtain ⟨e1, e2⟩ := hp p hpm
    obtain ⟨e3, e4⟩ := plain_ren (f := fun i => i) e2
    exact ⟨by rw [e3]; exact e1, e4 _⟩
  · simp at h
  · simp at h1
  · simp at hc
theorem weak_keep {k : Nat} {st : St} {s : List (Nat × AV)} (h : ∀ p ∈ s, lookup st.s p.1 = p.2) : weak k st ⟨s, st.h⟩ := .inl ⟨h, rfl⟩
end Go.Proofs.YtkjnjdcbnelceaaGreatDoor.KA
end

section
/- The walk's rules again, in a form in which simp never goes on behind what is not yet known: matches and 'if' in place of '∃' and implications. Nothing here concerns a given program. -/
set_option linter.unusedVariables false
set_option linter.unusedSimpArgs false
namespace Go.Proofs.YtkjnjdcbnelceaaGreatDoor.KA
open Go

def O1 {α : Type} (o : Option α) (K : α → Prop) : Prop := match o with | some a => K a | none => False
theorem ex_o1 {α : Type} (o : Option α) (K : α → Prop) : (∃ a, o = some a ∧ K a) = O1 o K := by cases o <;> simp [O1]
theorem ex_o2 {α : Type} (o : Option (Option α)) (K : α → Prop) : (∃ a, o = some (some a) ∧ K a) = O1 o fun p => O1 p K := by
  rcases o with _ | _ | a <;> simp [O1]
theorem imp_ite (t : Bool) (A B : Prop) : ((t = true → A) ∧ (t = false → B)) = (if t = true then A else B) := by cases t <;> simp
/-- Of the heap some blocks are kept; they get the numbers 0, 1, .. -/
theorem weak_pick {st : St} {s : List (Nat × AV)} (js : List Nat) (css : List (List AV)) (hl : js.length = css.length) (hn : js.Nodup)
    (hj : ∀ (i : Nat) (cs : List AV), css[i]? = some cs → st.h[js.getD i 0]? = some (some cs) ∧ AV.plainL cs = true)
    (h : ∀ p ∈ s, lookup st.s p.1 = p.2.ren (fun i => js.getD i 0) ∧ p.2.idsLt css.length = true) : weak 0 st ⟨s, css.map some⟩ := by
  have get : ∀ id, id < css.length → ∃ cs, css[id]? = some cs := fun id hid => ⟨_, List.getElem?_eq_getElem hid⟩
  refine .inr ⟨fun i => js.getD i 0, Nat.zero_le _, fun id h => absurd h (Nat.not_lt_zero _), fun p hp => ?_, fun id hid => ?_, fun id id' h1 h2 he => ?_, fun id cs hc => ?_⟩
  · simpa using h p hp
  · obtain ⟨cs, e⟩ := get id (by simpa using hid)
    exact (List.getElem?_eq_some_iff.1 (hj id cs e).1).1
  · have h1' : id < js.length := by simp at h1; omega
    have h2' : id' < js.length := by simp at h2; omega
    simp only [List.getD_eq_getElem?_getD, List.getElem?_eq_getElem h1', List.getElem?_eq_getElem h2', Option.getD_some] at he
    exact (List.getElem_inj hn).1 he
  · rw [List.getElem?_map] at hc
    cases e : css[id]? with
    | none => rw [e] at hc; simp at hc
    | some cs' =>
      rw [e] at hc
      simp only [Option.map_some, Option.some.injEq] at hc
      subst hc
      obtain ⟨h1, h2⟩ := hj id cs' e
      obtain ⟨e1, e2⟩ := plain_renL (f := fun i => js.getD i 0) h2
      exact ⟨by rw [e1]; exact h1, e2 _⟩
theorem mx_succ (n : Nat) : max (n + 1) n = n + 1 := by omega
theorem mx_zero (n : Nat) : max n 0 = n := by omega
theorem splice_one (cells : List AV) (off : Nat) (v : AV) : splice cells off [v] = cells.set off v := rfl
theorem splice_two (cells : List AV) (off : Nat) (v u : AV) (l : List AV) : splice cells off (v :: u :: l) = cells.take off ++ (v :: u :: l ++ cells.drop (off + (v :: u :: l).length)) := rfl
theorem iteI {p A B : Prop} [Decidable p] (h1 : p → A) (h2 : ¬ p → B) : if p then A else B := by
  split
  · rename_i h; exact h1 h
  · rename_i h; exact h2 h

/-- The present cells of an append's target, and the heap without it. -/
def dst1 (h : AHeap) (sz : Nat) (s : AV) (K : Nat → Nat → List AV → AHeap → Prop) : Prop :=
  match s with
  | .nils => K 0 0 [] h
  | .emp => K 0 0 [] h
  | .own sz' id off len cap => sz' = sz ∧ O1 h[id]? fun o => O1 o fun cs => off + len * sz ≤ cs.length ∧ K len cap ((cs.drop off).take (len * sz)) (h.set id none)
  | _ => False
theorem dst1_eq (h : AHeap) (sz : Nat) (s : AV) (K : Nat → Nat → List AV → AHeap → Prop) : dstCells h sz s K = dst1 h sz s K := by
  cases s <;> first | rfl | (simp only [dstCells, dst1, ex_o2])

def bstep (c : Ctx) (i : I) (st : St) (K : St → Prop) : Prop :=
  match i with
  | .pick d q a b => onBool (st.ev q) fun t => if t = true then K (st.set d (st.ev a)) else K (st.set d (st.ev b))
  | .build d z ps => O1 (buildCells z (ps.map fun p => (p.1, p.2.1, st.ev p.2.2))) fun cs => K (st.set d (.agg cs))
  | .load d ag sz a => match st.ev a with
    | .fp cs => if ag then sz ≤ cs.length ∧ K (st.set d (.agg (cs.take sz))) else O1 cs[0]? fun v => K (st.set d v)
    | .ref id off => O1 st.h[id]? fun o => O1 o fun cs => (if ag then off + sz ≤ cs.length ∧ K (st.set d (.agg ((cs.drop off).take sz))) else O1 cs[off]? fun v => K (st.set d v))
    | _ => False
  | .loadf d ag sz a => match st.ev a with
    | .fp cs => if ag then sz ≤ cs.length ∧ K (st.set d (.agg (cs.take sz))) else O1 cs[0]? fun v => K (st.set d v)
    | _ => False
  | .idxv d ag sz n x i => onInt (st.ev i) fun _ j => 0 ≤ j ∧ j < n ∧ match st.ev x with
    | .agg cs => if ag then j.toNat * sz + sz ≤ cs.length ∧ K (st.set d (.agg ((cs.drop (j.toNat * sz)).take sz))) else O1 cs[j.toNat * sz]? fun v => K (st.set d v)
    | _ => False
  | .store sz a x => match st.ev a with
    | .ref id off => O1 st.h[id]? fun o => O1 o fun cs => (st.ev x).isElem sz = true ∧ off + sz ≤ cs.length ∧ K { st with h := st.h.set id (some (splice cs off (st.ev x).cells)) }
    | _ => False
  | .eqs d neg ls x y => match st.ev x, st.ev y with
    | .agg cs, .agg ds => O1 (eqCells ls cs ds) fun r => K (st.set d (.bool (if neg then !r else r)))
    | _, _ => False
  | .fldv d ag off sz x => match st.ev x with
    | .agg cs => if ag then off + sz ≤ cs.length ∧ K (st.set d (.agg ((cs.drop off).take sz))) else O1 cs[off]? fun v => K (st.set d v)
    | _ => False
  | .idxa d sz none x i => onInt (st.ev i) fun _ n => match st.ev x with
    | .sl sz' xs => sz' = sz ∧ 0 ≤ n ∧ O1 xs[n.toNat]? fun e => K (st.set d (.fp e.cells))
    | .own sz' id off len _ => sz' = sz ∧ 0 ≤ n ∧ n < len ∧ K (st.set d (.ref id (off + n.toNat * sz)))
    | _ => False
  | .idx d x i => onStr (st.ev x) fun s => onInt (st.ev i) fun _ n => 0 ≤ n ∧ O1 s[n.toNat]? fun b => K (st.set d (.int .u8 b.toNat))
  | .ext d x i => match st.ev x with
    | .tuple vs => O1 vs[i]? fun v => K (st.set d v)
    | _ => False
  | .append d sz bytes s x m => srcElems st.h sz (st.ev x) fun xs => match xs with
    | [] => (match st.ev s with
        | .nils => K (st.set d .nils)
        | .emp => K (st.set d .emp)
        | .own sz' id off len cap => m = true ∧ K (st.set d (.own sz' id off len cap))
        | _ => False)
    | y :: ys => dst1 st.h sz (st.ev s) fun n q old h1 => (n + (y :: ys).length) * bytes ≤ 1099511627776 ∧ n + (y :: ys).length ≤ 1099511627776 ∧
        (if m then K ⟨(d, .own sz st.h.length 0 (n + (y :: ys).length) (max (n + (y :: ys).length) q)) :: st.s, h1 ++ [some (old ++ ((y :: ys).flatMap AV.cells ++ List.replicate ((max (n + (y :: ys).length) q - (n + (y :: ys).length)) * sz) AV.undef))]⟩
         else ∃ zs, old = zs.flatMap AV.cells ∧ (∀ y ∈ zs, y.isElem sz = true) ∧ zs.length = n ∧ AV.plainL zs = true ∧ AV.plainL (y :: ys) = true ∧ K ⟨(d, .sl sz (zs ++ (y :: ys))) :: st.s, h1⟩)
  | i => astep c i st K

theorem src_congr {h : AHeap} {sz : Nat} {x : AV} {K K' : List AV → Prop} (e : ∀ xs, K xs = K' xs) : srcElems h sz x K = srcElems h sz x K' := by
  rw [show K = K' from funext e]
theorem bstep_eq (c : Ctx) (i : I) (st : St) (K : St → Prop) : astep c i st K = bstep c i st K := by
  cases i with
  | pick d q a b => simp only [astep, bstep, imp_ite]
  | build d z ps => simp only [astep, bstep, ex_o1]
  | load d ag sz a => simp only [astep, bstep, ex_o1, ex_o2]; rfl
  | loadf d ag sz a => simp only [astep, bstep, ex_o1, ex_o2]; rfl
  | idxv d ag sz n x i => simp only [astep, bstep, ex_o1, ex_o2]; rfl
  | store sz a x => simp only [astep, bstep, ex_o1, ex_o2]; rfl
  | eqs d neg ls x y => simp only [astep, bstep, ex_o1, ex_o2]; rfl
  | fldv d ag off sz x => simp only [astep, bstep, ex_o1, ex_o2]; rfl
  | idxa d sz n x i =>
    cases n with
    | none => simp only [astep, bstep, ex_o1, ex_o2]; rfl
    | some n => rfl
  | idx d x i => simp only [astep, bstep, ex_o1, ex_o2]
  | ext d x i => simp only [astep, bstep, ex_o1, ex_o2]; rfl
  | append d sz bytes s x m =>
    simp only [astep, bstep]
    refine src_congr fun xs => ?_
    cases xs with
    | nil =>
      simp only [forall_const, ne_eq, not_true_eq_false, false_implies, and_true]; rfl
    | cons y ys => simp only [dst1_eq, reduceCtorEq, false_implies, true_and, ne_eq, not_false_eq_true, forall_const]
  | _ => rfl

/-- A condition, and the two ways behind it. -/
theorem X_cond' {c : Ctx} {k : Nat} {fs : List F} {st : St} {Q : E → St → Prop} {q : O} {a b : C} :
    X c k (.cond q a b) fs st Q = (match st.ev q with | .bool t => if t = true then X c k a fs st Q else X c k b fs st Q | _ => False) := by
  rw [X_cond]
  unfold onBool
  simp only [imp_ite]
  rfl
theorem Y_g' {c : Ctx} {k : Nat} {l : List GI} {fs : List F} {st : St} {Q : E → St → Prop} {i : I} {d : Option Nat} {t : Nat} {w : Bool} :
    Y c k (⟨i, some (t, w), d⟩ :: l) fs st Q = (match lookup st.s t with
      | .bool b => if b = w then Y1 c k i l fs (st.set t (.bool w)) Q else Y c k l fs ((st.set t (.bool !w)).setO d (.tuple [])) Q
      | .tuple [] => Y c k l fs (st.setO d (.tuple [])) Q
      | _ => False) := by
  rw [KWg.1]
  generalize lookup st.s t = v
  cases v with
  | bool b =>
    rw [KWg.2.1]
    cases b <;> cases w <;> simp
  | tuple vs => cases vs <;> rfl
  | _ => rfl
theorem Y1_b {c : Ctx} {k : Nat} {l : List GI} {fs : List F} {st : St} {Q : E → St → Prop} {i : I} : Y1 c k i l fs st Q = bstep c i st fun st' => Y c k l fs st' Q := by
  rw [Y1_def]; exact bstep_eq _ _ _ _
theorem KV0 : (∀ (c : Ctx) (k : Nat) (l : List GI) (fs : List F) (st : St) (Q : E → St → Prop) (d : Nat) (q : O) (a : O) (b : O), Y1 c k (.pick d q a b) l fs st Q = bstep c (.pick d q a b) st fun st' => Y c k l fs st' Q) ∧
    (∀ (c : Ctx) (k : Nat) (l : List GI) (fs : List F) (st : St) (Q : E → St → Prop) (d : Nat) (x : O) (m : Bool), Y1 c k (.box d x m) l fs st Q = bstep c (.box d x m) st fun st' => Y c k l fs st' Q) ∧
    (∀ (c : Ctx) (k : Nat) (l : List GI) (fs : List F) (st : St) (Q : E → St → Prop) (d : Nat) (z : List AV) (m : Bool), Y1 c k (.alloc d z m) l fs st Q = bstep c (.alloc d z m) st fun st' => Y c k l fs st' Q) ∧
    (∀ (c : Ctx) (k : Nat) (l : List GI) (fs : List F) (st : St) (Q : E → St → Prop) (d : Nat) (z : List AV) (ps : List (Nat × Nat × O)), Y1 c k (.build d z ps) l fs st Q = bstep c (.build d z ps) st fun st' => Y c k l fs st' Q) ∧
    (∀ (c : Ctx) (k : Nat) (l : List GI) (fs : List F) (st : St) (Q : E → St → Prop) (d : Nat) (sz : Nat) (xs : List O) (m : Bool), Y1 c k (.bsl d sz xs m) l fs st Q = bstep c (.bsl d sz xs m) st fun st' => Y c k l fs st' Q) ∧
    (∀ (c : Ctx) (k : Nat) (l : List GI) (fs : List F) (st : St) (Q : E → St → Prop) (d : Nat) (sz : Nat) (bt : Nat) (z : List AV) (n : O) (q : O), Y1 c k (.mksl d sz bt z n q) l fs st Q = bstep c (.mksl d sz bt z n q) st fun st' => Y c k l fs st' Q) ∧
    (∀ (c : Ctx) (k : Nat) (l : List GI) (fs : List F) (st : St) (Q : E → St → Prop) (d : Nat) (ag : Bool) (sz : Nat) (a : O), Y1 c k (.load d ag sz a) l fs st Q = bstep c (.load d ag sz a) st fun st' => Y c k l fs st' Q) ∧
    (∀ (c : Ctx) (k : Nat) (l : List GI) (fs : List F) (st : St) (Q : E → St → Prop) (d : Nat) (ag : Bool) (sz : Nat) (a : O), Y1 c k (.loadf d ag sz a) l fs st Q = bstep c (.loadf d ag sz a) st fun st' => Y c k l fs st' Q) ∧
    (∀ (c : Ctx) (k : Nat) (l : List GI) (fs : List F) (st : St) (Q : E → St → Prop) (d : Nat) (ag : Bool) (sz : Nat) (n : Nat) (x : O) (i : O), Y1 c k (.idxv d ag sz n x i) l fs st Q = bstep c (.idxv d ag sz n x i) st fun st' => Y c k l fs st' Q) ∧
    (∀ (c : Ctx) (k : Nat) (l : List GI) (fs : List F) (st : St) (Q : E → St → Prop) (sz : Nat) (a : O) (x : O), Y1 c k (.store sz a x) l fs st Q = bstep c (.store sz a x) st fun st' => Y c k l fs st' Q) ∧
    (∀ (c : Ctx) (k : Nat) (l : List GI) (fs : List F) (st : St) (Q : E → St → Prop) (d : Nat) (op : BinOp) (x : O) (y : O), Y1 c k (.bin d op x y) l fs st Q = bstep c (.bin d op x y) st fun st' => Y c k l fs st' Q) ∧
    (∀ (c : Ctx) (k : Nat) (l : List GI) (fs : List F) (st : St) (Q : E → St → Prop) (d : Nat) (ng : Bool) (x : O) (y : O), Y1 c k (.eqb d ng x y) l fs st Q = bstep c (.eqb d ng x y) st fun st' => Y c k l fs st' Q) := by
  repeat' apply And.intro
  all_goals (intros; exact Y1_b)
theorem KV1 : (∀ (c : Ctx) (k : Nat) (l : List GI) (fs : List F) (st : St) (Q : E → St → Prop) (d : Nat) (ng : Bool) (ls : List Leaf) (x : O) (y : O), Y1 c k (.eqs d ng ls x y) l fs st Q = bstep c (.eqs d ng ls x y) st fun st' => Y c k l fs st' Q) ∧
    (∀ (c : Ctx) (k : Nat) (l : List GI) (fs : List F) (st : St) (Q : E → St → Prop) (d : Nat) (ng : Bool) (kd : Nat) (x : O), Y1 c k (.eqn d ng kd x) l fs st Q = bstep c (.eqn d ng kd x) st fun st' => Y c k l fs st' Q) ∧
    (∀ (c : Ctx) (k : Nat) (l : List GI) (fs : List F) (st : St) (Q : E → St → Prop) (d : Nat) (x : O), Y1 c k (.not d x) l fs st Q = bstep c (.not d x) st fun st' => Y c k l fs st' Q) ∧
    (∀ (c : Ctx) (k : Nat) (l : List GI) (fs : List F) (st : St) (Q : E → St → Prop) (d : Nat) (x : O), Y1 c k (.neg d x) l fs st Q = bstep c (.neg d x) st fun st' => Y c k l fs st' Q) ∧
    (∀ (c : Ctx) (k : Nat) (l : List GI) (fs : List F) (st : St) (Q : E → St → Prop) (d : Nat) (ki : IntKind) (x : O), Y1 c k (.conv d ki x) l fs st Q = bstep c (.conv d ki x) st fun st' => Y c k l fs st' Q) ∧
    (∀ (c : Ctx) (k : Nat) (l : List GI) (fs : List F) (st : St) (Q : E → St → Prop) (d : Nat) (x : O), Y1 c k (.cvs d x) l fs st Q = bstep c (.cvs d x) st fun st' => Y c k l fs st' Q) ∧
    (∀ (c : Ctx) (k : Nat) (l : List GI) (fs : List F) (st : St) (Q : E → St → Prop) (d : Nat) (off : Nat) (x : O), Y1 c k (.fld d off x) l fs st Q = bstep c (.fld d off x) st fun st' => Y c k l fs st' Q) ∧
    (∀ (c : Ctx) (k : Nat) (l : List GI) (fs : List F) (st : St) (Q : E → St → Prop) (d : Nat) (ag : Bool) (off : Nat) (sz : Nat) (x : O), Y1 c k (.fldv d ag off sz x) l fs st Q = bstep c (.fldv d ag off sz x) st fun st' => Y c k l fs st' Q) ∧
    (∀ (c : Ctx) (k : Nat) (l : List GI) (fs : List F) (st : St) (Q : E → St → Prop) (d : Nat) (sz : Nat) (n : Option Nat) (x : O) (i : O), Y1 c k (.idxa d sz n x i) l fs st Q = bstep c (.idxa d sz n x i) st fun st' => Y c k l fs st' Q) ∧
    (∀ (c : Ctx) (k : Nat) (l : List GI) (fs : List F) (st : St) (Q : E → St → Prop) (d : Nat) (x : O) (i : O), Y1 c k (.idx d x i) l fs st Q = bstep c (.idx d x i) st fun st' => Y c k l fs st' Q) ∧
    (∀ (c : Ctx) (k : Nat) (l : List GI) (fs : List F) (st : St) (Q : E → St → Prop) (d : Nat) (sz : Nat) (x : O) (lo : Option O) (hi : Option O) (mx : Option O), Y1 c k (.slc d sz x lo hi mx) l fs st Q = bstep c (.slc d sz x lo hi mx) st fun st' => Y c k l fs st' Q) ∧
    (∀ (c : Ctx) (k : Nat) (l : List GI) (fs : List F) (st : St) (Q : E → St → Prop) (d : Nat) (x : O) (lo : Option O) (hi : Option O), Y1 c k (.slcs d x lo hi) l fs st Q = bstep c (.slcs d x lo hi) st fun st' => Y c k l fs st' Q) := by
  repeat' apply And.intro
  all_goals (intros; exact Y1_b)
theorem KV2 : (∀ (c : Ctx) (k : Nat) (l : List GI) (fs : List F) (st : St) (Q : E → St → Prop) (d : Nat) (sz : Nat) (n : Nat) (x : O) (lo : Option O) (hi : Option O), Y1 c k (.slca d sz n x lo hi) l fs st Q = bstep c (.slca d sz n x lo hi) st fun st' => Y c k l fs st' Q) ∧
    (∀ (c : Ctx) (k : Nat) (l : List GI) (fs : List F) (st : St) (Q : E → St → Prop) (d : Nat) (x : O), Y1 c k (.len d x) l fs st Q = bstep c (.len d x) st fun st' => Y c k l fs st' Q) ∧
    (∀ (c : Ctx) (k : Nat) (l : List GI) (fs : List F) (st : St) (Q : E → St → Prop) (d : Nat) (x : O), Y1 c k (.lens d x) l fs st Q = bstep c (.lens d x) st fun st' => Y c k l fs st' Q) ∧
    (∀ (c : Ctx) (k : Nat) (l : List GI) (fs : List F) (st : St) (Q : E → St → Prop) (d : Nat) (sz : Nat) (bt : Nat) (s : O) (x : O) (m : Bool), Y1 c k (.append d sz bt s x m) l fs st Q = bstep c (.append d sz bt s x m) st fun st' => Y c k l fs st' Q) ∧
    (∀ (c : Ctx) (k : Nat) (l : List GI) (fs : List F) (st : St) (Q : E → St → Prop) (d : Nat) (x : O) (y : O), Y1 c k (.max d x y) l fs st Q = bstep c (.max d x y) st fun st' => Y c k l fs st' Q) ∧
    (∀ (c : Ctx) (k : Nat) (l : List GI) (fs : List F) (st : St) (Q : E → St → Prop) (d : Nat) (x : O) (y : O), Y1 c k (.min d x y) l fs st Q = bstep c (.min d x y) st fun st' => Y c k l fs st' Q) ∧
    (∀ (c : Ctx) (k : Nat) (l : List GI) (fs : List F) (st : St) (Q : E → St → Prop) (sz : Nat) (z : List AV) (x : O), Y1 c k (.clear sz z x) l fs st Q = bstep c (.clear sz z x) st fun st' => Y c k l fs st' Q) ∧
    (∀ (c : Ctx) (k : Nat) (l : List GI) (fs : List F) (st : St) (Q : E → St → Prop) (d : Nat) (x : O) (i : Nat), Y1 c k (.ext d x i) l fs st Q = bstep c (.ext d x i) st fun st' => Y c k l fs st' Q) ∧
    (∀ (c : Ctx) (k : Nat) (l : List GI) (fs : List F) (st : St) (Q : E → St → Prop) (d : Nat) (f : FuncId) (caps : List O), Y1 c k (.mkfn d f caps) l fs st Q = bstep c (.mkfn d f caps) st fun st' => Y c k l fs st' Q) ∧
    (∀ (c : Ctx) (k : Nat) (l : List GI) (fs : List F) (st : St) (Q : E → St → Prop) (d : Nat) (t : TypeId) (x : O), Y1 c k (.iface d t x) l fs st Q = bstep c (.iface d t x) st fun st' => Y c k l fs st' Q) ∧
    (∀ (c : Ctx) (k : Nat) (l : List GI) (fs : List F) (st : St) (Q : E → St → Prop) (d : Nat) (T : Nat) (z : List AV), Y1 c k (.allocT d T z) l fs st Q = bstep c (.allocT d T z) st fun st' => Y c k l fs st' Q) ∧
    (∀ (c : Ctx) (k : Nat) (l : List GI) (fs : List F) (st : St) (Q : E → St → Prop) (d : Nat) (x : O), Y1 c k (.cap d x) l fs st Q = bstep c (.cap d x) st fun st' => Y c k l fs st' Q) ∧
    (∀ (c : Ctx) (k : Nat) (l : List GI) (fs : List F) (st : St) (Q : E → St → Prop) (d : Nat) (x : O), Y1 c k (.nilchk d x) l fs st Q = bstep c (.nilchk d x) st fun st' => Y c k l fs st' Q) := by
  repeat' apply And.intro
  all_goals (intros; exact Y1_b)
theorem KF : (∀ (c : Ctx) (k : Nat) (fs : List F) (st : St) (Q : E → St → Prop), X c k .skip fs st Q = Z c k .normal fs st Q) ∧
    (∀ (c : Ctx) (k : Nat) (fs : List F) (st : St) (Q : E → St → Prop) (l : List GI), X c k (.ops l) fs st Q = Y c k l fs st Q) ∧
    (∀ (c : Ctx) (k : Nat) (fs : List F) (st : St) (Q : E → St → Prop) (a b : C), X c k (.seq a b) fs st Q = X c k a (.seq b :: fs) st Q) ∧
    (∀ (c : Ctx) (k : Nat) (fs : List F) (st : St) (Q : E → St → Prop) (id : Nat) (a : C), X c k (.block id a) fs st Q = X c k a (.block id :: fs) st Q) ∧
    (∀ (c : Ctx) (k : Nat) (fs : List F) (st : St) (Q : E → St → Prop) (id : Nat), X c k (.exit id) fs st Q = Z c k (.exit id) fs st Q) ∧
    (∀ (c : Ctx) (k : Nat) (fs : List F) (st : St) (Q : E → St → Prop), X c k .ret fs st Q = Z c k .ret fs st Q) ∧
    (∀ (c : Ctx) (k : Nat) (st : St) (Q : E → St → Prop) (e : E), Z c k e [] st Q = Q e st) ∧
    (∀ (c : Ctx) (k : Nat) (fs : List F) (st : St) (Q : E → St → Prop) (b : C), Z c k .normal (.seq b :: fs) st Q = X c k b fs st Q) ∧
    (∀ (c : Ctx) (k : Nat) (fs : List F) (st : St) (Q : E → St → Prop) (b : C) (i : Nat), Z c k (.exit i) (.seq b :: fs) st Q = Z c k (.exit i) fs st Q) ∧
    (∀ (c : Ctx) (k : Nat) (fs : List F) (st : St) (Q : E → St → Prop) (b : C), Z c k .ret (.seq b :: fs) st Q = Z c k .ret fs st Q) ∧
    (∀ (c : Ctx) (k : Nat) (fs : List F) (st : St) (Q : E → St → Prop) (id : Nat), Z c k .normal (.block id :: fs) st Q = Z c k .normal fs st Q) ∧
    (∀ (c : Ctx) (k : Nat) (fs : List F) (st : St) (Q : E → St → Prop) (id i : Nat), Z c k (.exit i) (.block id :: fs) st Q = if i = id then Z c k .normal fs st Q else Z c k (.exit i) fs st Q) ∧
    (∀ (c : Ctx) (k : Nat) (fs : List F) (st : St) (Q : E → St → Prop) (id : Nat), Z c k .ret (.block id :: fs) st Q = Z c k .ret fs st Q) ∧
    (∀ (c : Ctx) (k : Nat) (fs : List F) (st : St) (Q : E → St → Prop), Y c k [] fs st Q = Z c k .normal fs st Q) ∧
    (∀ (c : Ctx) (k : Nat) (fs : List F) (st : St) (Q : E → St → Prop) (l : List GI) (i : I) (d : Option Nat), Y c k (⟨i, none, d⟩ :: l) fs st Q = Y1 c k i l fs st Q) ∧
    (∀ (c : Ctx) (k : Nat) (fs : List F) (st : St) (Q : E → St → Prop) (l : List GI) (d : Option Nat) (as : List O) (wr : Bool) (g : FuncId) (caps : List AV), Y1 c k (.call d (.k (.fn g caps)) as wr) l fs st Q = CL c k d g (as.map st.ev ++ caps) wr l fs st Q) ∧
    (∀ (c : Ctx) (k : Nat) (fs : List F) (st : St) (Q : E → St → Prop) (l : List GI) (d : Option Nat) (t : Nat) (as : List O) (wr : Bool), Y1 c k (.call d (.t t) as wr) l fs st Q = CF c k d (lookup st.s t) (as.map st.ev) wr l fs st Q) ∧
    (∀ (c : Ctx) (k : Nat) (fs : List F) (st : St) (Q : E → St → Prop) (l : List GI) (d : Option Nat) (g : FuncId) (caps args : List AV) (wr : Bool), CF c k d (.fn g caps) args wr l fs st Q = CL c k d g (args ++ caps) wr l fs st Q) ∧
    (∀ (c : Ctx) (k : Nat) (fs : List F) (st : St) (Q : E → St → Prop) (l : List GI) (d : Nat) (x : O), Y1 c k (.mv d x) l fs st Q = Y c k l fs (st.set d (st.ev x)) Q) := by
  repeat' apply And.intro
  all_goals (intros; first | rfl | (simp only [X_def, Y_def, Z_def, Y1_def, CL_def] <;> rfl) | exact Y1_callt)
/-- The walk's plain rules, as one. -/
theorem KW : (((((((type_of% @X_cond') ∧ (type_of% @Y_g')) ∧ ((type_of% @LQ_normal) ∧ (type_of% @LQ_exit))) ∧ (((type_of% @LQ_ret) ∧ (type_of% @wrap64)) ∧ ((type_of% @wrap8) ∧ (type_of% @splice_one)))) ∧ ((((type_of% @splice_two) ∧ (type_of% @mx_succ)) ∧ ((type_of% @mx_zero) ∧ (type_of% @AV.str.injEq))) ∧ (((type_of% @List.nil_append.{0}) ∧ (type_of% @List.append_nil.{0})) ∧ ((type_of% @List.cons_append.{0}) ∧ (type_of% @List.set_cons_zero.{0}))))) ∧ (((((type_of% @List.set_cons_succ.{0}) ∧ (type_of% @List.getElem?_cons_zero.{0})) ∧ ((type_of% @List.getElem?_cons_succ.{0}) ∧ (type_of% @List.take_length.{0}))) ∧ (((type_of% @List.drop_zero.{0}) ∧ (type_of% @List.all_cons.{0})) ∧ ((type_of% @List.all_nil.{0}) ∧ (type_of% @List.replicate_zero.{0})))) ∧ ((((type_of% @Bool.and_true) ∧ (type_of% @Bool.true_and)) ∧ ((type_of% @true_and) ∧ (type_of% @and_true))) ∧ (((type_of% @false_and) ∧ (type_of% @and_false)) ∧ ((type_of% @Option.some.injEq.{0}) ∧ ((type_of% @exists_eq_left'.{1}) ∧ (type_of% @exists_eq_left.{1}))))))) ∧ ((((((type_of% @Bool.false_eq_true) ∧ (type_of% @Bool.true_eq_false)) ∧ ((type_of% @Bool.not_true) ∧ (type_of% @Bool.not_false))) ∧ (((type_of% @Bool.or_true) ∧ (type_of% @Bool.not_eq_true')) ∧ ((type_of% @Bool.not_eq_false') ∧ (type_of% @decide_eq_true_eq)))) ∧ ((((type_of% @decide_eq_false_iff_not) ∧ (type_of% @decide_true)) ∧ ((type_of% @decide_false) ∧ (type_of% @not_true_eq_false))) ∧ (((type_of% @not_false_eq_true) ∧ (type_of% @ne_eq.{1})) ∧ ((type_of% @Classical.not_not) ∧ ((type_of% @forall_const.{1}) ∧ (type_of% @false_implies)))))) ∧ (((((type_of% @true_implies) ∧ (type_of% @Option.map_none.{0,0})) ∧ ((type_of% @Option.map_some.{0,0}) ∧ (type_of% @Option.isNone_none.{0}))) ∧ (((type_of% @beq_self_eq_true.{0}) ∧ (type_of% @Int.toNat_natCast)) ∧ ((type_of% @Int.natCast_nonneg) ∧ (type_of% @Nat.zero_le)))) ∧ ((((type_of% @Nat.le_refl) ∧ (type_of% @Int.le_refl)) ∧ ((type_of% @ge_iff_le.{0}) ∧ (type_of% @gt_iff_lt.{0}))) ∧ (((type_of% @Int.ofNat_le) ∧ (type_of% @Int.ofNat_lt)) ∧ ((type_of% @Nat.zero_lt_succ) ∧ ((type_of% @Nat.sub_self) ∧ (type_of% @Nat.zero_mul)))))))) :=
  ⟨⟨⟨⟨⟨⟨@X_cond', @Y_g'⟩, ⟨@LQ_normal, @LQ_exit⟩⟩, ⟨⟨@LQ_ret, @wrap64⟩, ⟨@wrap8, @splice_one⟩⟩⟩, ⟨⟨⟨@splice_two, @mx_succ⟩, ⟨@mx_zero, @AV.str.injEq⟩⟩, ⟨⟨@List.nil_append.{0}, @List.append_nil.{0}⟩, ⟨@List.cons_append.{0}, @List.set_cons_zero.{0}⟩⟩⟩⟩, ⟨⟨⟨⟨@List.set_cons_succ.{0}, @List.getElem?_cons_zero.{0}⟩, ⟨@List.getElem?_cons_succ.{0}, @List.take_length.{0}⟩⟩, ⟨⟨@List.drop_zero.{0}, @List.all_cons.{0}⟩, ⟨@List.all_nil.{0}, @List.replicate_zero.{0}⟩⟩⟩, ⟨⟨⟨@Bool.and_true, @Bool.true_and⟩, ⟨@true_and, @and_true⟩⟩, ⟨⟨@false_and, @and_false⟩, ⟨@Option.some.injEq.{0}, ⟨@exists_eq_left'.{1}, @exists_eq_left.{1}⟩⟩⟩⟩⟩⟩, ⟨⟨⟨⟨⟨@Bool.false_eq_true, @Bool.true_eq_false⟩, ⟨@Bool.not_true, @Bool.not_false⟩⟩, ⟨⟨@Bool.or_true, @Bool.not_eq_true'⟩, ⟨@Bool.not_eq_false', @decide_eq_true_eq⟩⟩⟩, ⟨⟨⟨@decide_eq_false_iff_not, @decide_true⟩, ⟨@decide_false, @not_true_eq_false⟩⟩, ⟨⟨@not_false_eq_true, @ne_eq.{1}⟩, ⟨@Classical.not_not, ⟨@forall_const.{1}, @false_implies⟩⟩⟩⟩⟩, ⟨⟨⟨⟨@true_implies, @Option.map_none.{0,0}⟩, ⟨@Option.map_some.{0,0}, @Option.isNone_none.{0}⟩⟩, ⟨⟨@beq_self_eq_true.{0}, @Int.toNat_natCast⟩, ⟨@Int.natCast_nonneg, @Nat.zero_le⟩⟩⟩, ⟨⟨⟨@Nat.le_refl, @Int.le_refl⟩, ⟨@ge_iff_le.{0}, @gt_iff_lt.{0}⟩⟩, ⟨⟨@Int.ofNat_le, @Int.ofNat_lt⟩, ⟨@Nat.zero_lt_succ, ⟨@Nat.sub_self, @Nat.zero_mul⟩⟩⟩⟩⟩⟩⟩
end Go.Proofs.YtkjnjdcbnelceaaGreatDoor.KA
end

section
/- The walk's call, as a rule. Nothing here concerns a given program. -/
namespace Go.Proofs.YtkjnjdcbnelceaaGreatDoor.KA
open Go
/-- A walk as far as it goes by the plain rules. -/
theorem WW {A B : Prop} (h : B) (e : A = B := by simp -implicitDefEqProofs (disch := omega) only [KF, KR, KV0, KV1, KV2, KW, ↓bstep, ↓astep, ↓O1.eq_def, ↓onBool.eq_def, ↓onInt.eq_def, ↓onStr.eq_def, ↓onLo.eq_def, ↓binK.eq_def, ↓arith.eq_def, ↓strOp.eq_def, ↓srcElems.eq_def, ↓dst1.eq_def, args0, List.zipIdx, List.map, lookup, St.ev, St.set, St.setO, reduceCtorEq, AV.plain, AV.plainL, AV.flat, AV.flatL, AV.cells, Nat.reduceEqDiff, ↓reduceIte, List.drop, List.take, List.length, Nat.reduceAdd, Nat.reduceLeDiff, Nat.reduceMul, E.done, rvsK, rvK, resAV, Int.reduceToNat, Int.reduceLE, Int.reduceLT, Int.reduceNeg, Int.reduceAdd, Int.reduceSub, Int.reduceMul, Nat.reduceLT, AV.isElem, AV.one, ↓buildCells.eq_1, ↓buildCells.eq_2, Nat.reduceBEq, eqCells]; exact rfl) : A := e.mpr h
/-- The same, with a fact (or several, joined by 'and'). -/
theorem WF {A B P : Prop} (p : P) (h : B) (e : P → A = B := by intro p; simp -implicitDefEqProofs (disch := omega) only [KF, KR, KV0, KV1, KV2, KW, ↓bstep, ↓astep, ↓O1.eq_def, ↓onBool.eq_def, ↓onInt.eq_def, ↓onStr.eq_def, ↓onLo.eq_def, ↓binK.eq_def, ↓arith.eq_def, ↓strOp.eq_def, ↓srcElems.eq_def, ↓dst1.eq_def, args0, List.zipIdx, List.map, lookup, St.ev, St.set, St.setO, reduceCtorEq, AV.plain, AV.plainL, AV.flat, AV.flatL, AV.cells, Nat.reduceEqDiff, ↓reduceIte, List.drop, List.take, List.length, Nat.reduceAdd, Nat.reduceLeDiff, Nat.reduceMul, E.done, rvsK, rvK, resAV, Int.reduceToNat, Int.reduceLE, Int.reduceLT, Int.reduceNeg, Int.reduceAdd, Int.reduceSub, Int.reduceMul, Nat.reduceLT, AV.isElem, AV.one, ↓buildCells.eq_1, ↓buildCells.eq_2, Nat.reduceBEq, eqCells, p]; exact rfl) : A := (e p).mpr h
end Go.Proofs.YtkjnjdcbnelceaaGreatDoor.KA
end

section
/- Segments of the plane with rational ends: how two of them meet, said in two ways that agree. No program in sight. -/
set_option linter.unusedVariables false
set_option linter.unusedSimpArgs false
namespace Go.Proofs.YtkjnjdcbnelceaaGreatDoor.Geo

abbrev Pt := Rat × Rat

def ar (a b c : Pt) : Rat := (b.1 - a.1) * (c.2 - a.2) - (b.2 - a.2) * (c.1 - a.1)
def sg (q : Rat) : Int := if q = 0 then 0 else if q < 0 then -1 else 1
def cm (a b : Rat) : Int := if a = b then 0 else if a < b then -1 else 1
def cp (a b : Pt) : Int := if cm a.1 b.1 ≠ 0 then cm a.1 b.1 else cm a.2 b.2
def lo (a b : Pt) : Pt := if cp a b > 0 then b else a
def hi (a b : Pt) : Pt := if cp a b > 0 then a else b
def btw (a b p : Pt) : Bool := decide (sg (ar a b p) = 0) && (decide (cp (lo a b) p ≤ 0) && decide (cp p (hi a b) ≤ 0))

/-- The law's way. -/
def addOn (a b c d : Pt) (on : List Pt) (x : Pt) : List Pt := if btw a b x && btw c d x then (if on.contains x then on else on ++ [x]) else on
def onL (a b c d : Pt) : List Pt := [a, b, c, d].foldl (addOn a b c d) []
def meetL (a b c d : Pt) : Nat × Option Pt :=
  match onL a b c d with
  | x :: l => (min (l.length + 1) 2, some x)
  | [] =>
    if sg (ar c d a) * sg (ar c d b) ≥ 0 ∨ sg (ar a b c) * sg (ar a b d) ≥ 0 then (0, none)
    else
      let k := ar c d a / (ar c d a - ar c d b)
      (1, some (a.1 + k * (b.1 - a.1), a.2 + k * (b.2 - a.2)))

/-- The code's way. -/
def colR (low high : Pt) : Nat × Option Pt := if cp low high > 0 then (0, none) else if cp low high = 0 then (1, some low) else (2, none)
def colP (a b c d : Pt) : Nat × Option Pt :=
  colR (if cp (lo c d) (lo a b) > 0 then lo c d else lo a b) (if cp (hi c d) (hi a b) < 0 then hi c d else hi a b)
def meetP (a b c d : Pt) : Nat × Option Pt :=
  if sg (ar a b c) = 0 ∧ sg (ar a b d) = 0 then colP a b c d
  else if sg (ar a b c) * sg (ar a b d) > 0 ∨ sg (ar c d a) * sg (ar c d b) > 0 then (0, none)
  else
    let k := ar a b c / (ar a b c - ar a b d)
    (1, some (c.1 + k * (d.1 - c.1), c.2 + k * (d.2 - c.2)))

theorem sg_zero {q : Rat} : sg q = 0 ↔ q = 0 := by
  unfold sg; split <;> rename_i h
  · simp [h]
  · split <;> simp [h]
theorem sg_pos {q : Rat} (h : 0 < q) : sg q = 1 := by
  unfold sg
  have h1 : ¬ q = 0 := by grind
  have h2 : ¬ q < 0 := by grind
  simp [h1, h2]
theorem sg_neg {q : Rat} (h : q < 0) : sg q = -1 := by
  unfold sg
  have h1 : ¬ q = 0 := by grind
  simp [h1, h]
theorem tri (p : Rat) : p < 0 ∨ p = 0 ∨ 0 < p := by grind
theorem share {x y : Rat} (h : 0 < y) (h0 : 0 ≤ x) (h1 : x ≤ y) : ∃ s : Rat, 0 ≤ s ∧ s ≤ 1 ∧ s * y = x := by
  have e : x / y * y = x := by grind
  refine ⟨x / y, ?_, ?_, e⟩
  · rcases tri (x / y) with h2 | h2 | h2
    · have := Rat.mul_pos (a := -(x / y)) (b := y) (by grind) h; grind
    · grind
    · grind
  · rcases tri (x / y - 1) with h2 | h2 | h2
    · grind
    · grind
    · have := Rat.mul_pos (a := x / y - 1) (b := y) h2 h; grind
theorem sg_mul (p q : Rat) : sg p * sg q = sg (p * q) := by
  have e0 : sg 0 = 0 := by simp [sg]
  rcases tri p with hp | hp | hp <;> rcases tri q with hq | hq | hq
  · have : 0 < p * q := by have := Rat.mul_pos (a := -p) (b := -q) (by grind) (by grind); grind
    rw [sg_neg hp, sg_neg hq, sg_pos this]; rfl
  · subst hq; simp [e0]
  · have : p * q < 0 := by have := Rat.mul_pos (a := -p) (b := q) (by grind) (by grind); grind
    rw [sg_neg hp, sg_pos hq, sg_neg this]; rfl
  · subst hp; simp [e0]
  · subst hp; simp [e0]
  · subst hp; simp [e0]
  · have : p * q < 0 := by have := Rat.mul_pos (a := p) (b := -q) (by grind) (by grind); grind
    rw [sg_pos hp, sg_neg hq, sg_neg this]; rfl
  · subst hq; simp [e0]
  · have : 0 < p * q := Rat.mul_pos hp hq
    rw [sg_pos hp, sg_pos hq, sg_pos this]; rfl
theorem sg_gt {q : Rat} : sg q > 0 ↔ 0 < q := by
  unfold sg; split <;> rename_i h
  · subst h; simp
  · split <;> rename_i h1 <;> constructor <;> intro h2 <;> grind
theorem sg_ge {q : Rat} : sg q ≥ 0 ↔ 0 ≤ q := by
  unfold sg; split <;> rename_i h
  · subst h; simp
  · split <;> rename_i h1 <;> constructor <;> intro h2 <;> grind

/-- The order of points. -/
def le (a b : Pt) : Prop := a.1 < b.1 ∨ (a.1 = b.1 ∧ a.2 ≤ b.2)
theorem cm_zero {a b : Rat} : cm a b = 0 ↔ a = b := by
  unfold cm; split <;> rename_i h
  · simp [h]
  · split <;> simp [h]
theorem cm_le {a b : Rat} : cm a b ≤ 0 ↔ a ≤ b := by
  unfold cm; split <;> rename_i h
  · subst h; simp
  · split <;> rename_i h1 <;> constructor <;> intro h2 <;> grind
theorem cp_le {a b : Pt} : cp a b ≤ 0 ↔ le a b := by
  unfold cp le
  split <;> rename_i h
  · rw [cm_le]; rw [Ne, cm_zero] at h; constructor <;> intro h1 <;> grind
  · rw [cm_le]; simp only [Ne, Decidable.not_not, cm_zero] at h; constructor <;> intro h1 <;> grind
theorem cp_zero {a b : Pt} : cp a b = 0 ↔ a = b := by
  unfold cp
  split <;> rename_i h
  · constructor
    · intro h1; exact absurd h1 h
    · intro h1; subst h1; exact absurd (cm_zero.2 rfl) h
  · simp only [Ne, Decidable.not_not, cm_zero] at h
    rw [cm_zero]; exact ⟨fun h1 => Prod.ext h h1, fun h1 => by rw [h1]⟩
theorem le_refl (a : Pt) : le a a := by unfold le; grind
theorem le_total (a b : Pt) : le a b ∨ le b a := by unfold le; grind
theorem le_trans {a b c : Pt} (h : le a b) (k : le b c) : le a c := by unfold le at *; grind
theorem le_antisymm {a b : Pt} (h : le a b) (k : le b a) : a = b := by
  unfold le at *; apply Prod.ext <;> grind
theorem cp_gt {a b : Pt} : cp a b > 0 ↔ ¬ le a b := by rw [← cp_le]; omega
theorem cp_lt {a b : Pt} : cp a b < 0 ↔ ¬ le b a := by
  constructor
  · intro h k
    have h1 : le a b := cp_le.1 (by omega)
    have := cp_zero.2 (le_antisymm h1 k)
    omega
  · intro h
    have h1 : le a b := (le_total a b).elim id (fun k => absurd k h)
    have h2 : cp a b ≠ 0 := fun e => h (cp_zero.1 e ▸ le_refl _)
    have := cp_le.2 h1
    omega
theorem lo_le (a b : Pt) : le (lo a b) a ∧ le (lo a b) b := by
  unfold lo; split <;> rename_i h
  · rw [cp_gt] at h; exact ⟨(le_total a b).elim (fun k => absurd k h) id, le_refl _⟩
  · rw [cp_gt, Classical.not_not] at h; exact ⟨le_refl _, h⟩
theorem le_hi (a b : Pt) : le a (hi a b) ∧ le b (hi a b) := by
  unfold hi; split <;> rename_i h
  · rw [cp_gt] at h; exact ⟨le_refl _, (le_total a b).elim (fun k => absurd k h) id⟩
  · rw [cp_gt, Classical.not_not] at h; exact ⟨h, le_refl _⟩
theorem lo_or (a b : Pt) : (lo a b = a ∧ hi a b = b) ∨ (lo a b = b ∧ hi a b = a) := by
  unfold lo hi; split <;> simp
theorem btw_iff {a b p : Pt} : btw a b p = true ↔ ar a b p = 0 ∧ le (lo a b) p ∧ le p (hi a b) := by
  unfold btw; simp only [Bool.and_eq_true, decide_eq_true_eq, sg_zero, cp_le]

/-- On a segment: a share of the way. -/
theorem mul_nonneg {a b : Rat} (h : 0 ≤ a) (k : 0 ≤ b) : 0 ≤ a * b := Rat.mul_nonneg h k

theorem btw_of {a b p : Pt} (s : Rat) (h0 : 0 ≤ s) (h1 : s ≤ 1) (hx : p.1 = a.1 + s * (b.1 - a.1)) (hy : p.2 = a.2 + s * (b.2 - a.2)) : btw a b p = true := by
  rw [btw_iff]
  refine ⟨by unfold ar; grind, ?_⟩
  have key : ∀ u v : Pt, le u v → ∀ t : Rat, 0 ≤ t → t ≤ 1 → p.1 = u.1 + t * (v.1 - u.1) → p.2 = u.2 + t * (v.2 - u.2) → le u p ∧ le p v := by
    intro u v huv t t0 t1 ex ey
    unfold le at huv ⊢
    rcases huv with h | ⟨h, k⟩
    · have w := mul_nonneg (a := t) (b := v.1 - u.1) t0 (by grind)
      have w' := mul_nonneg (a := 1 - t) (b := v.1 - u.1) (by grind) (by grind)
      refine ⟨?_, ?_⟩
      · by_cases z : t = 0
        · subst z; right; constructor <;> grind
        · left
          have := Rat.mul_pos (a := t) (b := v.1 - u.1) (by grind) (by grind)
          grind
      · by_cases z : t = 1
        · subst z; right; constructor <;> grind
        · left
          have := Rat.mul_pos (a := 1 - t) (b := v.1 - u.1) (by grind) (by grind)
          grind
    · have w := mul_nonneg (a := t) (b := v.2 - u.2) t0 (by grind)
      have w' := mul_nonneg (a := 1 - t) (b := v.2 - u.2) (by grind) (by grind)
      refine ⟨Or.inr ⟨by grind, by grind⟩, Or.inr ⟨by grind, by grind⟩⟩
  rcases lo_or a b with ⟨e1, e2⟩ | ⟨e1, e2⟩
  · rw [e1, e2]; exact key a b (e1 ▸ (lo_le a b).2) s h0 h1 hx hy
  · rw [e1, e2]; exact key b a (e1 ▸ (lo_le a b).1) (1 - s) (by grind) (by grind) (by grind) (by grind)

theorem btw_share {a b p : Pt} (hab : a ≠ b) (h : btw a b p = true) : ∃ s : Rat, 0 ≤ s ∧ s ≤ 1 ∧ p.1 = a.1 + s * (b.1 - a.1) ∧ p.2 = a.2 + s * (b.2 - a.2) := by
  rw [btw_iff] at h
  obtain ⟨hz, h1, h2⟩ := h
  have key : ∀ u v : Pt, u ≠ v → ar u v p = 0 → le u p → le p v → ∃ s : Rat, 0 ≤ s ∧ s ≤ 1 ∧ p.1 = u.1 + s * (v.1 - u.1) ∧ p.2 = u.2 + s * (v.2 - u.2) := by
    intro u v huv hz hu hv
    unfold ar at hz
    unfold le at hu hv
    by_cases hx : u.1 = v.1
    · have hy : u.2 ≠ v.2 := fun e => huv (Prod.ext hx e)
      have d : v.2 - u.2 ≠ 0 := by grind
      have pos : 0 < v.2 - u.2 := by grind
      obtain ⟨s, s0, s1, e⟩ := share (x := p.2 - u.2) pos (by grind) (by grind)
      exact ⟨s, s0, s1, by grind, by grind⟩
    · have d : v.1 - u.1 ≠ 0 := by grind
      have pos : 0 < v.1 - u.1 := by grind
      obtain ⟨s, s0, s1, e⟩ := share (x := p.1 - u.1) pos (by grind) (by grind)
      exact ⟨s, s0, s1, by grind, by grind⟩
  rcases lo_or a b with ⟨e1, e2⟩ | ⟨e1, e2⟩
  · rw [e1] at h1; rw [e2] at h2; exact key a b hab hz h1 h2
  · rw [e1] at h1; rw [e2] at h2
    obtain ⟨s, s0, s1, hx, hy⟩ := key b a (Ne.symm hab) (by unfold ar at hz ⊢; grind) h1 h2
    exact ⟨1 - s, by grind, by grind, by grind, by grind⟩

end Go.Proofs.YtkjnjdcbnelceaaGreatDoor.Geo
end
