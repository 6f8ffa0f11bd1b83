/- Parts of the proof, in order: each part's head says what it holds. -/
import Derived.Test.YtkjnjdcbnelceaaGreatDoorR1
import Derived.Deep.Upon

section
/- Appending. Nothing here concerns a given program. -/
set_option linter.unusedVariables false
set_option linter.unusedSimpArgs false
set_option linter.unnecessarySimpa false
namespace Go.Proofs.YtkjnjdcbnelceaaGreatDoor.KA
open Go

section
variable {c : Ctx} {o : Oper} {a : Act} {w : World} {rho : Gh} {fz : Nat → Prop} {st : St} {K : St → Prop} {mu : Nat → Bool}

theorem RF.drew {w : World} {fz : Nat → Prop} {x : AV} {v : Value} (h : RF w fz x v) : RF w.drew fz x v :=
  RF.mono (w := w) (w' := w.drew) (fun b _ => rfl) (fun _ hx => hx) h
theorem RT.drew {w : World} {rho : Gh} {fz : Nat → Prop} {x : AV} {v : Value} (h : RT w rho fz x v) : RT w.drew rho fz x v :=
  RT.mono (w := w) (w' := w.drew) (fun b _ => rfl) (fun _ hx => hx) (fun _ _ hx => hx) (fun _ _ hx => hx) h

theorem flat_bytes : ∀ (s : List UInt8), (s.map fun b => AV.int .u8 b.toNat).flatMap AV.cells = s.map fun b => AV.int .u8 b.toNat
  | [] => rfl
  | b :: s => by
    rw [List.map_cons, List.flatMap_cons, flat_bytes s]
    rfl

/-- What a source yields. -/
structure Yld (P : Program) (w : World) (fz : Nat → Prop) (tx : TypeId) (sz : Nat) (xs : List AV) (v : Value) (news : List Value) : Prop where
  src : Src P sz tx v xs.length news w
  el : ∀ x ∈ xs, x.isElem sz = true
  cells : ∀ (k : Nat) (y : AV), (xs.flatMap AV.cells)[k]? = some y → RF w fz y (news.getD k undef)

theorem yld_sl {P : Program} {tx : TypeId} (hk : (∃ e', P.underlying tx = some (.slice e')) ∨ P.underlying tx = some .string) {sz : Nat} {xs : List AV} {v : Value} {F : Nat → Prop} (h : RF w F (.sl sz xs) v)
    (hfl : ∀ (k : Nat) (y : AV) (u : Value), (xs.flatMap AV.cells)[k]? = some y → RF w F y u → RF w fz y u) : ∃ news, Yld P w fz tx sz xs v news := by
  cases h with
  | slnil => exact ⟨[], ⟨⟨hk, fun _ => rfl, run_firstCells_none w _ _ _ _, run_firstCells_none w.drew _ _ _ _, by simp, fun u hu => (by cases hu)⟩, fun x hx => (by cases hx), fun k y hk => (by simp at hk)⟩⟩
  | sl _ _ b off cap g hb hc hs hg hgr =>
    have hfl' := flat_length hs
    have hcell : ∀ j u, ((List.range (xs.length * sz)).map g)[j]? = some u → w.cell? ((⟨b, off, none⟩ : Addr).add j) = some u := by
      intro j u hj
      rw [List.getElem?_map] at hj
      cases h1 : (List.range (xs.length * sz))[j]? with
      | none => rw [h1] at hj; cases hj
      | some q =>
        rw [h1] at hj
        have h2 := List.getElem?_eq_some_iff.1 h1
        obtain ⟨h3, h4⟩ := h2
        simp at h3 h4
        subst h4
        cases hj
        rw [Addr.add_lit]
        exact hg j _ (List.getElem?_eq_getElem (by rw [hfl']; exact h3))
    have hnews : ∀ (k : Nat) (y : AV), (xs.flatMap AV.cells)[k]? = some y → ((List.range (xs.length * sz)).map g).getD k undef = g k := by
      intro k y hk
      have hlt := (List.getElem?_eq_some_iff.1 hk).1
      rw [hfl'] at hlt
      simp [hlt]
    refine ⟨(List.range (xs.length * sz)).map g, ⟨⟨hk, fun _ => rfl, run_firstCells_some w sz xs.length _ _ _ _ (by simp) hcell, run_firstCells_some w.drew sz xs.length _ _ _ _ (by simp) (by simpa using hcell), by simp, fun u hu => ?_⟩, hs, fun k y hk => ?_⟩⟩
    · obtain ⟨q, hq, rfl⟩ := List.mem_map.1 hu
      simp at hq
      have h1 : (xs.flatMap AV.cells)[q]? = some _ := List.getElem?_eq_getElem (by rw [hfl']; exact hq)
      have h2 := hgr q _ h1
      obtain ⟨x, hx1, hx2⟩ := List.mem_flatMap.1 (List.mem_of_getElem? h1)
      exact one_of (RT.of (rho := fun _ => none) _ _ h2) ((isElem_iff.1 (hs x hx1)).2 _ hx2)
    · rw [hnews k y hk]
      exact hfl k y _ hk (hgr k y hk)

theorem src_sound {P : Program} {tx : TypeId} (hk : (∃ e', P.underlying tx = some (.slice e')) ∨ P.underlying tx = some .string) {sz : Nat} {x : AV} {v : Value} {M : List AV → Prop} {h : AHeap} (hh : HR w rho fz h) (hx : RT w rho fz x v) (hs : srcElems h sz x M) :
    ∃ xs news, M xs ∧ Yld P w fz tx sz xs v news := by
  have shown : ∀ xs, Shows h x (.sl sz xs) → AV.flatL (xs.flatMap AV.cells) = true → M xs → ∃ xs news, M xs ∧ Yld P w fz tx sz xs v news := by
    intro xs h1 h2 h3
    obtain ⟨news, hy⟩ := yld_sl (fz := fz) hk (shows_sound hh h1 hx) (fun k y u hk hr => hr.ofFlat (flatL_get h2 hk))
    exact ⟨xs, news, h3, hy⟩
  unfold srcElems at hs
  split at hs
  · refine ⟨[], [], hs, ⟨⟨hk, fun w' => by rw [hx.nils]; rfl, by rw [hx.nils]; exact run_firstCells_none w _ _ _ _, by rw [hx.nils]; exact run_firstCells_none w.drew _ _ _ _, by simp, fun u hu => (by cases hu)⟩, fun x hx => (by cases hx), fun k y hk => (by simp at hk)⟩⟩
  · obtain ⟨base, rfl⟩ := hx.emp
    refine ⟨[], [], hs, ⟨⟨hk, fun w' => rfl, ?_, ?_, by simp, fun u hu => (by cases hu)⟩, fun x hx => (by cases hx), fun k y hk => (by simp at hk)⟩⟩
    · cases base with
      | none => exact run_firstCells_none w _ _ _ _
      | some b => exact run_firstCells_some w sz 0 b 0 0 [] (by simp) (fun j u hj => by simp at hj)
    · cases base with
      | none => exact run_firstCells_none w.drew _ _ _ _
      | some b => exact run_firstCells_some w.drew sz 0 b 0 0 [] (by simp) (fun j u hj => by simp at hj)
  · rename_i sz' xs
    obtain ⟨rfl, h1⟩ := hs
    obtain ⟨news, hy⟩ := yld_sl (fz := fz) hk hx.sl (fun k y u _ hr => hr)
    exact ⟨xs, news, h1, hy⟩
  · rename_i s
    obtain ⟨rfl, h1⟩ := hs
    rw [hx.str]
    have hbc : byteCells (⟨⟨s⟩⟩ : ByteArray) = s.map fun b => Value.int .u8 b.toNat := rfl
    have hsz : (⟨⟨s⟩⟩ : ByteArray).size = s.length := rfl
    have f1 := firstCells_string (P := P) (⟨⟨s⟩⟩ : ByteArray) w
    have f2 := firstCells_string (P := P) (⟨⟨s⟩⟩ : ByteArray) w.drew
    rw [hbc, hsz] at f1 f2
    refine ⟨_, s.map fun b => Value.int .u8 b.toNat, h1, ⟨⟨hk, fun w' => by simp [Builtin.lenOf, hsz], by simpa using f1, by simpa using f2, by simp, fun u hu => ?_⟩, fun x hx => ?_, fun k y hk => ?_⟩⟩
    · obtain ⟨_, _, rfl⟩ := List.mem_map.1 hu; rfl
    · obtain ⟨_, _, rfl⟩ := List.mem_map.1 hx; rfl
    · rw [flat_bytes, List.getElem?_map] at hk
      cases h2 : s[k]? with
      | none => rw [h2] at hk; cases hk
      | some b =>
        rw [h2] at hk
        cases hk
        simp [h2]
        exact .int _ _
  · obtain ⟨xs, h1, h2, h3⟩ := hs
    exact shown xs h1 h2 h3

theorem append_room {P : Program} (t tx ty e : TypeId) (i : TypeInfo) (ht : P.underlying t = some (.slice e)) (hi : P.info? e = some i) (b off sLen sCap : Nat) (x : Value) (n : Nat) (news : List Value) (hs : Src P i.size tx x n news w)
    (cur : Array Value) (el : TypeId) (hg : w.heap[b]? = some (.cells cur el (0, 0))) (hroom : sLen + n ≤ sCap) (hfit : off + sLen * i.size + news.length ≤ cur.size) :
    (Builtin.append_ #[t, tx] ty #[.slice (some ⟨b, off, none⟩) sLen sCap, x]).run P w = .ok (.slice (some ⟨b, off, none⟩) (sLen + n) sCap) (w.setRow b (cur.toList.take (off + sLen * i.size) ++ news ++ cur.toList.drop (off + sLen * i.size + news.length)).toArray) := by
  have hst := run_storeCells_at P b (off + sLen * i.size) el news 0 cur w hg (by simpa using hfit) hs.one
  simp only [Nat.add_zero] at hst
  rcases hs.kind with ⟨e', hk⟩ | hk <;> simp [Builtin.append_, run_underlying ht, run_underlying hk, sizeOf, typeInfo, hi, hs.len, hroom, hs.cells, Addr.add_lit, hst]

/-- The cells of a row that was made by an append. -/
theorem grown_get (olds news : List Value) (z : Array Value) (j : Nat) (h : j < olds.length + news.length) : (((olds ++ news).toArray ++ z) : Array Value).getD j undef = (olds ++ news).getD j undef := by
  simp only [Array.getD_eq_getD_getElem?, List.getD_eq_getElem?_getD]
  rw [Array.getElem?_append_left (by simpa using h)]
  simp

theorem append_get {olds : List AV} {vs : List Value} {xs : List AV} {news : List Value} (hl : vs.length = olds.length) (h1 : ∀ (j : Nat) (y : AV), olds[j]? = some y → RT w rho fz y (vs.getD j undef)) (h2 : ∀ (j : Nat) (y : AV), xs[j]? = some y → RT w rho fz y (news.getD j undef)) (j : Nat) (y : AV)
    (hj : (olds ++ xs)[j]? = some y) : RT w rho fz y ((vs ++ news).getD j undef) := by
  simp only [List.getD_eq_getElem?_getD] at *
  by_cases hlt : j < olds.length
  · rw [List.getElem?_append_left hlt] at hj
    rw [List.getElem?_append_left (by omega)]
    exact h1 j y hj
  · rw [List.getElem?_append_right (by omega)] at hj
    rw [List.getElem?_append_right (by omega), hl]
    exact h2 _ y hj

theorem s_append {d : Nat} {ts tx e : TypeId} {s x : Operand} {i : TypeInfo} {z : Value} {m : Bool} {s' x' : O} (ho : o.op = .call { callee := .builtin .append, args := #[s, x], argTypes := #[ts, tx] })
    (hu : c.P.underlying ts = some (.slice e)) (hk : (∃ e', c.P.underlying tx = some (.slice e')) ∨ c.P.underlying tx = some .string) (hi : c.P.info? e = some i) (hz : i.zero = some z) (hzs : z.cells.size = i.size) (hpos : 0 < i.size)
    (hs : opO c.gt s = some s') (hx : opO c.gt x = some x') (hp : Pre c w rho fz st) (hss : Rd a w rho fz st s') (hsx : Rd a w rho fz st x') (h : astep c (.append d i.size i.bytes s' x' m) st K) : Res c o (.append d i.size i.bytes s' x' m) a w rho fz st K := by
  have h1 := opO_sound hs hp.gl hss
  have h2 := opO_sound hx hp.gl hsx
  simp only [astep] at h
  obtain ⟨xs, news, ⟨ha, hb⟩, hy⟩ := src_sound (P := c.P) hk hp.hr h2 h
  clear h
  have hnl : news.length = xs.length * i.size := hy.src.newsLen
  have hfl := flat_length hy.el
  have bi : ∀ {v : Value} {w' : World}, (Builtin.append_ #[ts, tx] o.type #[a.eval s, a.eval x]).run c.P w = .ok v w' → (execOp a.eval o).run c.P w = .ok (.value v) w' := by
    intro v w' hh
    refine run_bi ho ?_
    simp [builtin, hh]
  by_cases hx0 : xs = []
  · subst hx0
    have hn0 : news = [] := List.eq_nil_of_length_eq_zero (by simpa using hnl)
    subst hn0
    have hnothing : ∀ base n q, n ≤ q → a.eval s = .slice base n q → (execOp a.eval o).run c.P w = .ok (.value (.slice base n q)) w := by
      intro base n q hle hv
      refine bi ?_
      rw [hv]
      exact run_append_nothing w ts tx o.type e i hu hi base n q hle (a.eval x) hy.src
    have ha := ha rfl
    generalize hzz : st.ev s' = zz at *
    cases zz with
    | nils => exact res_value rfl hp.hr hp.ok (hnothing none 0 0 (Nat.le_refl _) h1.nils) (.of _ _ .nils) ha
    | emp =>
      obtain ⟨base, hv⟩ := h1.emp
      exact res_value rfl hp.hr hp.ok (hnothing base 0 0 (Nat.le_refl _) hv) (.of _ _ (.emp _)) ha
    | own sz id off len cap =>
      obtain ⟨rfl, hk'⟩ := ha
      obtain ⟨b, p, cap', e', n, hr, hc, hl, hsh, hn, hv⟩ := h1.own'
      refine res_value rfl hp.hr hp.ok (hnothing _ len cap' (by omega) hv) ?_ hk'
      rw [hv] at h1
      exact h1
    | _ => exact ha.elim
  · have hb := hb hx0
    have hxpos : 0 < xs.length := List.length_pos_iff.2 hx0
    -- a new row, whatever the target
    have grow : ∀ (base : Option Addr) (n q q0 : Nat) (olds : List AV) (vs : List Value) (h1' : AHeap), a.eval s = .slice base n q → q0 ≤ q → q < n + xs.length → vs.length = olds.length → olds.length = n * i.size →
        (Builtin.firstCells i.size n (.slice base n q)).run c.P w.drew = .ok vs.toArray w.drew → (∀ (j : Nat) (y : AV), olds[j]? = some y → RT w rho fz y (vs.getD j undef)) →
        h1'.length = st.h.length → (∀ (id : Nat) (cs : List AV), h1'[id]? = some (some cs) → st.h[id]? = some (some cs)) → (n + xs.length) * i.bytes ≤ 1099511627776 → n + xs.length ≤ 1099511627776 →
        (if m then K ⟨(d, .own i.size st.h.length 0 (n + xs.length) (max (n + xs.length) q0)) :: st.s, h1' ++ [some (olds ++ (xs.flatMap AV.cells ++ List.replicate ((max (n + xs.length) q0 - (n + xs.length)) * i.size) AV.undef))]⟩
         else ∃ ys, olds = ys.flatMap AV.cells ∧ (∀ y ∈ ys, y.isElem i.size = true) ∧ ys.length = n ∧ AV.plainL ys = true ∧ AV.plainL xs = true ∧ K ⟨(d, .sl i.size (ys ++ xs)) :: st.s, h1'⟩) →
        Res c o (.append d i.size i.bytes s' x' m) a w rho fz st K := by
      intro base n q q0 olds vs h1' hv hq0 hlt hvl hol hfc hor hl1 hsub hby h40 hk'
      have hr := run_append_grow_src (P := c.P) w ts tx o.type e i z hu hi hz base n q vs hfc (a.eval x) xs.length news hy.src hlt (by omega) (growslice_fits hlt (by omega))
      rw [← hv] at hr
      have hrun := bi hr
      have hge := grownCap_ge w (n + xs.length) q e
      have hsz : ((vs ++ news).toArray ++ Builtin.zeroCells z.cells (grownCap w (n + xs.length) q e - (n + xs.length))).size = grownCap w (n + xs.length) q e * i.size := by
        simp only [Array.size_append, List.size_toArray, List.length_append, size_zeroCells, hzs, hvl, hol, hnl, ← Nat.add_mul]
        congr 1
        omega
      have hcells : ∀ (j : Nat) (y : AV), (olds ++ xs.flatMap AV.cells)[j]? = some y → RT w rho fz y ((((vs ++ news).toArray ++ Builtin.zeroCells z.cells (grownCap w (n + xs.length) q e - (n + xs.length))) : Array Value).getD j undef) := by
        intro j y hj
        have hlt' := (List.getElem?_eq_some_iff.1 hj).1
        rw [grown_get _ _ _ _ (by simp only [List.length_append, hfl] at hlt'; rw [hvl, hnl]; exact hlt')]
        exact append_get hvl hor (fun j y hj => .of _ _ (hy.cells j y hj)) j y hj
      have hlen : (olds ++ xs.flatMap AV.cells).length = (n + xs.length) * i.size := by rw [List.length_append, hol, hfl, Nat.add_mul]
      have hcap : (n + xs.length) * i.size ≤ grownCap w (n + xs.length) q e * i.size := Nat.mul_le_mul_right _ hge
      -- behind the draw the world reads as before
      have hHRd : HR w.drew rho fz st.h := ⟨hp.hr.dom, fun id cs hid => by
        obtain ⟨b', o', arr, ty, g1, g2, g3, g4, g5⟩ := hp.hr.cell id cs hid
        exact ⟨b', o', arr, ty, g1, g2, g3, g4, fun j y hj => (g5 j y hj).drew⟩, hp.hr.inj⟩
      have hokd : FzOk w.drew fz := hp.ok
      have hmx : max (n + xs.length) q0 = n + xs.length := by omega
      rw [hmx, Nat.sub_self, Nat.zero_mul, List.replicate_zero, List.append_nil] at hk'
      cases m with
      | true =>
        simp only [if_true] at hk'
        intro N Q hN
        unfold Oper.wp
        rw [hrun]
        have hg := good_alloc_own (w := w.drew) (rho := rho) (fz := fz) hHRd hokd h1' hl1 hsub _ e (olds ++ xs.flatMap AV.cells) (by rw [hlen, hsz]; exact hcap)
          (fun j y hj => (hcells j y hj).drew)
        have hg' : Good w rho fz st.h (w.drew.alloc (.cells ((vs ++ news).toArray ++ Builtin.zeroCells z.cells (grownCap w (n + xs.length) q e - (n + xs.length))) e)) (rhoNew rho st.h.length (w.heap.size, 0)) fz (h1' ++ [some (olds ++ xs.flatMap AV.cells)]) :=
          ⟨hg.hr, hg.ok, ⟨hg.pres.os, hg.pres.tape, hg.pres.output, hg.pres.size, hg.pres.block, hg.pres.shape, hg.pres.keep, hg.pres.fresh⟩, hg.same, hg.len, hg.own⟩
        refine hN _ _ _ _ _ _ (by simpa [upd, dstI] using hk') hg' ?_
        have := RT.own (w := w.drew.alloc (.cells ((vs ++ news).toArray ++ Builtin.zeroCells z.cells (grownCap w (n + xs.length) q e - (n + xs.length))) e)) (rho := rhoNew rho st.h.length (w.heap.size, 0)) (fz := fz) i.size st.h.length 0 (n + xs.length) (n + xs.length) w.heap.size 0
          (grownCap w (n + xs.length) q e) e _ (by simp [rhoNew]) hge (Nat.le_refl _) (shape_new w.drew _ e) (by rw [hsz]; omega)
        simpa using this
      | false =>
        simp only [Bool.false_eq_true, if_false] at hk'
        obtain ⟨ys, hys, hye, hyl, hyp, hxp, hk'⟩ := hk'
        intro N Q hN
        unfold Oper.wp
        rw [hrun]
        have hg := good_alloc_fz' (w := w.drew) (rho := rho) (fz := fz) hHRd hokd h1' hl1 hsub (.cells ((vs ++ news).toArray ++ Builtin.zeroCells z.cells (grownCap w (n + xs.length) q e - (n + xs.length))) e)
        have hg' : Good w rho fz st.h (w.drew.alloc (.cells ((vs ++ news).toArray ++ Builtin.zeroCells z.cells (grownCap w (n + xs.length) q e - (n + xs.length))) e)) rho (fun b => fz b ∨ b = w.heap.size) h1' :=
          ⟨hg.hr, hg.ok, ⟨hg.pres.os, hg.pres.tape, hg.pres.output, hg.pres.size, hg.pres.block, hg.pres.shape, hg.pres.keep, hg.pres.fresh⟩, hg.same, hg.len, hg.own⟩
        refine hN (.sl i.size (ys ++ xs)) h1' _ _ rho _ (by simpa [upd, dstI] using hk') hg' (.of _ _ ?_)
        have hall : ∀ y ∈ ys ++ xs, y.isElem i.size = true := fun y hy' => (List.mem_append.1 hy').elim (hye y) (hy.el y)
        have hfa : (ys ++ xs).flatMap AV.cells = olds ++ xs.flatMap AV.cells := by rw [List.flatMap_append, hys]
        have hplain : ∀ (j : Nat) (y : AV), ((ys ++ xs).flatMap AV.cells)[j]? = some y → y.plain = true := by
          intro j y hj
          obtain ⟨el, hel1, hel2⟩ := List.mem_flatMap.1 (List.mem_of_getElem? hj)
          have hep : el.plain = true := by
            rcases List.mem_append.1 hel1 with h5 | h5
            · obtain ⟨q', hq'⟩ := List.getElem?_of_mem h5; exact plainL_get hyp hq'
            · obtain ⟨q', hq'⟩ := List.getElem?_of_mem h5; exact plainL_get hxp hq'
          obtain ⟨q2, hq2⟩ := List.getElem?_of_mem hel2
          cases el <;> simp only [AV.cells] at hq2 <;> first
            | (simp at hq2; done)
            | exact plainL_get (by simpa [AV.plain] using hep) hq2
            | (cases q2 with
               | zero => simp at hq2; subst hq2; exact hep
               | succ q2 => simp at hq2)
        have := RF.sl (w := w.drew.alloc (.cells ((vs ++ news).toArray ++ Builtin.zeroCells z.cells (grownCap w (n + xs.length) q e - (n + xs.length))) e)) (fz := fun b => fz b ∨ b = w.heap.size) i.size (ys ++ xs) w.heap.size 0 (grownCap w (n + xs.length) q e)
          (fun k => (((vs ++ news).toArray ++ Builtin.zeroCells z.cells (grownCap w (n + xs.length) q e - (n + xs.length))) : Array Value).getD k undef) (.inr rfl) (by rw [List.length_append, hyl]; exact hge) hall
          (fun k y hk => by
            rw [hfa] at hk
            have hlt' := (List.getElem?_eq_some_iff.1 hk).1
            rw [hlen] at hlt'
            have h6 : k < ((vs ++ news).toArray ++ Builtin.zeroCells z.cells (grownCap w (n + xs.length) q e - (n + xs.length))).size := by rw [hsz]; omega
            have h7 := cell_new w.drew ((vs ++ news).toArray ++ Builtin.zeroCells z.cells (grownCap w (n + xs.length) q e - (n + xs.length))) e k
            rw [Nat.zero_add]
            rw [show w.drew.heap.size = w.heap.size from rfl] at h7
            rw [h7, Array.getD_eq_getD_getElem?, Array.getElem?_eq_getElem h6]
            rfl)
          (fun k y hk => by
            have hpl := hplain k y hk
            rw [hfa] at hk
            have h8 := ((hcells k y hk).plain hpl).drew
            exact h8.mono (fun b hb => heap_alloc_old w.drew _ b (hp.ok b hb)) (fun _ => .inl))
        rw [List.length_append, hyl] at this
        exact this
    generalize hzz : st.ev s' = zz at *
    cases zz with
    | nils =>
      simp only [dstCells] at hb
      obtain ⟨hb1, hb2, hb3⟩ := hb
      exact grow none 0 0 0 [] [] st.h h1.nils (Nat.le_refl _) (by omega) rfl (by simp) (run_firstCells_none _ _ _ _ _) (fun j y hj => by simp at hj) rfl (fun _ _ hx => hx) hb1 hb2 (by simpa using hb3)
    | emp =>
      obtain ⟨base, hv⟩ := h1.emp
      simp only [dstCells] at hb
      obtain ⟨hb1, hb2, hb3⟩ := hb
      refine grow base 0 0 0 [] [] st.h hv (Nat.le_refl _) (by omega) rfl (by simp) ?_ (fun j y hj => by simp at hj) rfl (fun _ _ hx => hx) hb1 hb2 (by simpa using hb3)
      cases base with
      | none => exact run_firstCells_none _ _ _ _ _
      | some b => exact run_firstCells_some w.drew i.size 0 b 0 0 [] (by simp) (fun j u hj => by simp at hj)
    | own sz id off len cap =>
      simp only [dstCells] at hb
      obtain ⟨rfl, cs, hid, hle, hb1, hb2, hb3⟩ := hb
      obtain ⟨b, p, cap', e', nn, hr, hc, hl, hsh, hn, hv⟩ := h1.own'
      obtain ⟨b', p', arr, ty, g1, g2, g3, g4, g5⟩ := hp.hr.cell id cs hid
      rw [hr] at g1
      cases g1
      have harr : arr.size = nn := by
        unfold World.shape? at hsh
        rw [g3] at hsh
        simpa using congrArg (fun q => q.map (·.2)) hsh
      have hdl : ((cs.drop off).take (len * i.size)).length = len * i.size := by simp; omega
      by_cases hroom : len + xs.length ≤ cap'
      · -- in place
        have hfit : p + off + len * i.size + news.length ≤ arr.size := by
          rw [hnl, harr, Nat.add_assoc, ← Nat.add_mul]
          exact Nat.le_trans (Nat.add_le_add_left (Nat.mul_le_mul_right _ hroom) _) hn
        have hra := append_room (P := c.P) ts tx o.type e i hu hi b (p + off) len cap' (a.eval x) xs.length news hy.src arr ty g3 hroom hfit
        rw [← hv] at hra
        have hrun := bi hra
        have hcells : ∀ (j : Nat) (y : AV), (((cs.drop off).take (len * i.size)) ++ xs.flatMap AV.cells)[j]? = some y → RT w rho fz y ((arr.toList.take (p + off + len * i.size) ++ news ++ arr.toList.drop (p + off + len * i.size + news.length)).toArray.getD (p + off + j) undef) := by
          intro j y hj
          rw [spliced_get arr news _ hfit]
          by_cases hlt : j < len * i.size
          · rw [if_neg (by omega)]
            rw [List.getElem?_append_left (by rw [hdl]; exact hlt), List.getElem?_take, if_pos hlt, List.getElem?_drop] at hj
            have := g5 (off + j) y hj
            rwa [← Nat.add_assoc] at this
          · rw [List.getElem?_append_right (by rw [hdl]; omega), hdl] at hj
            have hlt2 := (List.getElem?_eq_some_iff.1 hj).1
            rw [hfl] at hlt2
            rw [if_pos (by rw [hnl]; omega)]
            have := hy.cells _ y hj
            rw [show p + off + j - (p + off + len * i.size) = j - len * i.size by omega]
            exact .of _ _ this
        have hlen : (((cs.drop off).take (len * i.size)) ++ xs.flatMap AV.cells).length = (len + xs.length) * i.size := by rw [List.length_append, hdl, hfl, Nat.add_mul]
        have hle2 : p + off + (len + xs.length) * i.size ≤ arr.size := by rw [harr]; exact Nat.le_trans (Nat.add_le_add_left (Nat.mul_le_mul_right _ hroom) _) hn
        have hsz' := spliced_size arr news (p + off + len * i.size) hfit
        cases m with
        | true =>
          simp only [if_true] at hb3
          intro N Q hN
          unfold Oper.wp
          rw [hrun]
          have hmc : max (len + xs.length) cap ≤ cap' := Nat.max_le.2 ⟨hroom, hc⟩
          have hlenT : (((cs.drop off).take (len * i.size)) ++ (xs.flatMap AV.cells ++ List.replicate ((max (len + xs.length) cap - (len + xs.length)) * i.size) AV.undef)).length = max (len + xs.length) cap * i.size := by
            rw [← List.append_assoc, List.length_append, hlen, List.length_replicate, ← Nat.add_mul]
            congr 1; omega
          have hle3 : p + off + max (len + xs.length) cap * i.size ≤ arr.size := by rw [harr]; exact Nat.le_trans (Nat.add_le_add_left (Nat.mul_le_mul_right _ hmc) _) hn
          have hcellsT : ∀ (j : Nat) (y : AV), (((cs.drop off).take (len * i.size)) ++ (xs.flatMap AV.cells ++ List.replicate ((max (len + xs.length) cap - (len + xs.length)) * i.size) AV.undef))[j]? = some y → RT w rho fz y ((arr.toList.take (p + off + len * i.size) ++ news ++ arr.toList.drop (p + off + len * i.size + news.length)).toArray.getD (p + off + j) undef) := by
            intro j y hj
            rw [← List.append_assoc] at hj
            rcases Nat.lt_or_ge j (((cs.drop off).take (len * i.size)) ++ xs.flatMap AV.cells).length with h9 | h9
            · rw [List.getElem?_append_left h9] at hj
              exact hcells j y hj
            · rw [List.getElem?_append_right h9, List.getElem?_replicate] at hj
              split at hj
              · cases hj; exact .of _ _ (.undef _)
              · cases hj
          refine hN _ _ _ _ _ _ (by simpa [upd, dstI] using hb3) (good_place_own hp.hr hp.ok hid hr g2 g3 _ hsz' (p + off) _ (by rw [hlenT]; exact hle3) hcellsT) ?_
          have := RT.own (w := w.setRow b (arr.toList.take (p + off + len * i.size) ++ news ++ arr.toList.drop (p + off + len * i.size + news.length)).toArray) (rho := rhoNew rho st.h.length (b, p + off)) (fz := fz) i.size st.h.length 0 (len + xs.length) (max (len + xs.length) cap) b (p + off) cap' e' nn (by simp [rhoNew]) hmc (Nat.le_max_left _ _)
            (shape_setRow w b arr _ ty _ g3 hsz' _ _ hsh) (by omega)
          simpa using this
        | false =>
          simp only [Bool.false_eq_true, if_false] at hb3
          obtain ⟨ys, hys, hye, hyl, hyp, hxp, hk'⟩ := hb3
          intro N Q hN
          unfold Oper.wp
          rw [hrun]
          refine hN (.sl i.size (ys ++ xs)) _ _ _ _ _ (by simpa [upd, dstI] using hk') (good_place_fz hp.hr hp.ok hid hr g2 g3 _ hsz') (.of _ _ ?_)
          have hall : ∀ y ∈ ys ++ xs, y.isElem i.size = true := fun y hy' => (List.mem_append.1 hy').elim (hye y) (hy.el y)
          have hfa : (ys ++ xs).flatMap AV.cells = ((cs.drop off).take (len * i.size)) ++ xs.flatMap AV.cells := by rw [List.flatMap_append, hys]
          have hplain : ∀ (j : Nat) (y : AV), ((ys ++ xs).flatMap AV.cells)[j]? = some y → y.plain = true := by
            intro j y hj
            obtain ⟨el, hel1, hel2⟩ := List.mem_flatMap.1 (List.mem_of_getElem? hj)
            have hep : el.plain = true := by
              rcases List.mem_append.1 hel1 with h5 | h5
              · obtain ⟨q', hq'⟩ := List.getElem?_of_mem h5; exact plainL_get hyp hq'
              · obtain ⟨q', hq'⟩ := List.getElem?_of_mem h5; exact plainL_get hxp hq'
            obtain ⟨q2, hq2⟩ := List.getElem?_of_mem hel2
            cases el <;> simp only [AV.cells] at hq2 <;> first
              | (simp at hq2; done)
              | exact plainL_get (by simpa [AV.plain] using hep) hq2
              | (cases q2 with
                 | zero => simp at hq2; subst hq2; exact hep
                 | succ q2 => simp at hq2)
          have := RF.sl (w := w.setRow b (arr.toList.take (p + off + len * i.size) ++ news ++ arr.toList.drop (p + off + len * i.size + news.length)).toArray) (fz := fun k => fz k ∨ k = b) i.size (ys ++ xs) b (p + off) cap'
            (fun k => (arr.toList.take (p + off + len * i.size) ++ news ++ arr.toList.drop (p + off + len * i.size + news.length)).toArray.getD (p + off + k) undef) (.inr rfl) (by rw [List.length_append, hyl]; exact hroom) hall
            (fun k y hk => by
              rw [hfa] at hk
              have hlt' := (List.getElem?_eq_some_iff.1 hk).1
              rw [hlen] at hlt'
              rw [cell_of_row _ b _ _ ty (0, 0) (setRow_heap w b arr _ ty (0, 0) g3)]
              have h6 : p + off + k < (arr.toList.take (p + off + len * i.size) ++ news ++ arr.toList.drop (p + off + len * i.size + news.length)).toArray.size := by rw [hsz']; omega
              rw [Array.getD_eq_getD_getElem?, Array.getElem?_eq_getElem h6]
              rfl)
            (fun k y hk => by
              have hpl := hplain k y hk
              rw [hfa] at hk
              have h8 := (hcells k y hk).plain hpl
              exact h8.mono (fun q hq => setRow_other w b q _ (fun e => g2 (e ▸ hq))) (fun _ => .inl))
          rw [List.length_append, hyl] at this
          exact this
      · -- a new row
        refine grow (some ⟨b, p + off, none⟩) len cap' cap ((cs.drop off).take (len * i.size)) ((List.range (len * i.size)).map fun k => arr.getD (p + off + k) undef) (st.h.set id none) hv hc (by omega) (by simp; omega) hdl ?_ (fun j y hj => ?_) (by simp) (fun id' ds hd => ?_) hb1 hb2 (by simpa using hb3)
        · have : ∀ j u, ((List.range (len * i.size)).map fun k => arr.getD (p + off + k) undef)[j]? = some u → w.drew.cell? ((⟨b, p + off, none⟩ : Addr).add j) = some u := by
            intro j u hj
            rw [List.getElem?_map] at hj
            cases h3 : (List.range (len * i.size))[j]? with
            | none => rw [h3] at hj; cases hj
            | some q =>
              rw [h3] at hj
              obtain ⟨h4, h5⟩ := List.getElem?_eq_some_iff.1 h3
              simp at h4 h5
              subst h5
              cases hj
              rw [Addr.add_lit, World.cell?_drew, cell_of_row w b _ arr ty _ g3]
              simp [show p + off + j < arr.size by omega]
          exact run_firstCells_some w.drew i.size len _ _ _ _ (by simp) this
        · rw [List.getElem?_take] at hj
          split at hj
          · rename_i hlt
            rw [List.getElem?_drop] at hj
            have := g5 (off + j) y hj
            simp [hlt]
            rw [← Nat.add_assoc] at this
            simpa [Array.getD_eq_getD_getElem?] using this
          · cases hj
        · by_cases e : id' = id
          · subst e
            rw [List.getElem?_set_self (List.getElem?_eq_some_iff.1 hid).1] at hd
            cases hd
          · rwa [List.getElem?_set_ne (Ne.symm e)] at hd
    | _ => exact hb.elim

end
end Go.Proofs.YtkjnjdcbnelceaaGreatDoor.KA
end

section
/- Clearing; calls. Nothing here concerns a given program. -/
set_option linter.unusedVariables false
set_option linter.unusedSimpArgs false
set_option linter.unnecessarySimpa false
namespace Go.Proofs.YtkjnjdcbnelceaaGreatDoor.KA
open Go

section
variable {c : Ctx} {o : Oper} {a : Act} {w : World} {rho : Gh} {fz : Nat → Prop} {st : St} {K : St → Prop} {mu : Nat → Bool}

theorem simpleAVs_one : ∀ {vs : List Value} {as : List AV}, simpleAVs vs = some as → ∀ v ∈ vs, v.oneCell' = true
  | [], as, h, v, hv => by cases hv
  | u :: vs, as, h, v, hv => by
    unfold simpleAVs at h
    split at h
    · rename_i x m h1 h2
      rcases List.mem_cons.1 hv with rfl | hv
      · exact simpleAV_one h1
      · exact simpleAVs_one h2 v hv
    · cases h

theorem s_clear {t e : TypeId} {x : Operand} {sz : Nat} {z : List AV} {x' : O} (hdo : o.dst = none) (ho : o.op = .call { callee := .builtin .clear, args := #[x], argTypes := #[t] }) (hu : c.P.underlying t = some (.slice e)) (hz : zeroAV c.P e = some z)
    (hx : opO c.gt x = some x') (hp : Pre c w rho fz st) (hsx : Rd a w rho fz st x') (h : astep c (.clear sz z x') st K) : Res c o (.clear sz z x') a w rho fz st K := by
  have h1 := opO_sound hx hp.gl hsx
  simp only [astep] at h
  generalize hzz : st.ev x' = zz at *
  cases zz with
  | own sz' id off len cap =>
    simp only at h
    obtain ⟨rfl, hzl, cs, hid, hle, hk⟩ := h
    obtain ⟨b, p, cap', e', nn, hr, hc, hl, hsh, hn, hv⟩ := h1.own'
    obtain ⟨b', p', arr, ty, g1, g2, g3, g4, g5⟩ := hp.hr.cell id cs hid
    rw [hr] at g1
    cases g1
    obtain ⟨i, v, hi, hv', hsz, hcz, hpl⟩ := zeroAV_sound hz
    have hone : ∀ u ∈ v.cells, u.oneCell' = true := by
      unfold zeroAV at hz
      rw [hi] at hz
      simp only [hv'] at hz
      intro u hu'
      exact simpleAVs_one hz u (by simpa using hu')
    have hzc : (Builtin.zeroCells v.cells len).toList.length = len * sz' := by simp [size_zeroCells, hsz, hzl]
    have hzget : ∀ k, k < len * sz' → (Builtin.zeroCells v.cells len).toList.getD k undef = v.cells.getD (k % z.length) undef := by
      intro k hk
      have h4 : k % v.cells.size < v.cells.size := Nat.mod_lt _ (by
        rcases Nat.eq_zero_or_pos v.cells.size with h0 | h0
        · rw [hsz, hzl] at h0; subst h0; simp at hk
        · exact h0)
      have h5 : k < len * v.cells.size := by rw [hsz, hzl]; exact hk
      simp only [Builtin.zeroCells, List.getD_eq_getElem?_getD]
      rw [← hsz]
      simp [h5, h4]
    by_cases h0 : len = 0
    · subst h0
      have hcs : cs.take off ++ ((List.replicate 0 z).flatten ++ cs.drop (off + 0 * sz')) = cs := by simp
      rw [hcs] at hk
      have hset : st.h.set id (some cs) = st.h := by
        apply List.ext_getElem?
        intro j
        rw [List.getElem?_set]
        split
        · rename_i e1
          subst e1
          rw [if_pos (List.getElem?_eq_some_iff.1 hid).1, hid]
        · rfl
      rw [hset] at hk
      refine res_store (r := .undef) rfl hdo (.inr ⟨.tuple #[], run_bi ho ?_⟩) (Good.refl hp.hr hp.ok) hk
      simp [builtin, Builtin.clear_, run_underlying hu, hv]
    · have hst := run_storeCells_at c.P b (p + off) ty (Builtin.zeroCells v.cells len).toList 0 arr w g3 (by rw [hzc]; omega) (fun u hu' => by
        simp only [Builtin.zeroCells] at hu'
        obtain ⟨k, hk1', rfl⟩ : ∃ k, k < len * v.cells.size ∧ v.cells[k % v.cells.size]! = u := by simpa using hu'
        have h4 : k % v.cells.size < v.cells.size := Nat.mod_lt _ (by
          rcases Nat.eq_zero_or_pos v.cells.size with h0 | h0
          · rw [h0] at hk1'; simp at hk1'
          · exact h0)
        have : v.cells[k % v.cells.size]! = v.cells[k % v.cells.size] := by simp [h4]
        rw [this]
        exact hone _ (Array.getElem_mem h4))
      simp only [Nat.add_zero] at hst
      have hfl : (List.replicate len z).flatten.length = len * sz' := by simp [hzl]
      refine res_store (r := .undef) rfl hdo (.inr ⟨.tuple #[], run_bi ho ?_⟩) (good_setRow hp.hr hp.ok hid hr g2 g3 (arr.toList.take (p + off) ++ (Builtin.zeroCells v.cells len).toList ++ arr.toList.drop (p + off + (Builtin.zeroCells v.cells len).toList.length)).toArray (spliced_size arr _ _ (by rw [hzc]; omega)) _ ?_ (fun j y hj => ?_)) hk
      · have hne : ∀ (K : Nat), len = K + 1 → True := fun _ _ => trivial
        obtain ⟨len', rfl⟩ : ∃ q, len = q + 1 := ⟨len - 1, by omega⟩
        simp [builtin, Builtin.clear_, run_underlying hu, hv, zeroValue, typeInfo, hi, hv', hst]
      · simp only [List.length_append, List.length_take, List.length_drop, hfl]; omega
      · rw [spliced_get arr _ _ (by rw [hzc]; omega), hzc]
        by_cases hj1 : j < off
        · rw [if_neg (by omega)]
          rw [List.getElem?_append_left (by simp; omega), List.getElem?_take, if_pos hj1] at hj
          exact g5 j y hj
        · by_cases hj2 : j < off + len * sz'
          · rw [if_pos (by omega)]
            rw [List.getElem?_append_right (by simp; omega), List.getElem?_append_left (by simp only [hfl, List.length_take]; omega)] at hj
            have hmin : min off cs.length = off := by omega
            simp only [List.length_take, hmin] at hj
            rw [flatten_get _ _ (by rw [hzl]; omega)] at hj
            have h7 := hcz w fz _ y hj
            rw [show p + j - (p + off) = j - off by omega, hzget _ (by omega)]
            exact .of _ _ h7
          · rw [if_neg (by omega)]
            rw [List.getElem?_append_right (by simp; omega), List.getElem?_append_right (by simp only [hfl, List.length_take]; omega), List.getElem?_drop] at hj
            simp only [hfl, List.length_take] at hj
            rw [show off + len * sz' + (j - min off cs.length - len * sz') = j by omega] at hj
            exact g5 j y hj
  | _ => exact h.elim

/-! ### Calls -/

theorem shows_plain {h : AHeap} {x y : AV} (hs : Shows h x y) : x.plain = true → ∀ {v : Value}, RT w rho fz x v → RF w fz y v := by
  refine Shows.rec (motive_1 := fun x y _ => x.plain = true → ∀ {v : Value}, RT w rho fz x v → RF w fz y v)
    (motive_2 := fun l m _ => AV.plainL l = true → ∀ (i : Nat) (y : AV), m[i]? = some y → ∃ x, l[i]? = some x ∧ ∀ {v : Value}, RT w rho fz x v → RF w fz y v)
    ?_ ?_ ?_ ?_ ?_ ?_ ?_ ?_ ?_ hs
  · intro a hp _ v hr
    exact hr.plain hp
  · intro sz _ v hr
    rw [hr.nils]
    exact .slnil sz
  · intro sz id off len cap cs xs hid hle hl hel hx ih hp
    simp [AV.plain] at hp
  · intro id off cs ds n hid hd ih hp
    simp [AV.plain] at hp
  · intro cs ds hc ih hp v hr
    obtain ⟨vs, rfl, hl, hv⟩ := hr.agg'
    exact .agg ds vs (by rw [hl, hc.len]) (fun i y hy => by obtain ⟨x, hx1, hx2⟩ := ih (by simpa [AV.plain] using hp) i y hy; exact hx2 (hv i x hx1))
  · intro cs ds hc ih hp v hr
    obtain ⟨vs, rfl, hl, hv⟩ := hr.tuple'
    exact .tuple ds vs (by rw [hl, hc.len]) (fun i y hy => by obtain ⟨x, hx1, hx2⟩ := ih (by simpa [AV.plain] using hp) i y hy; exact hx2 (hv i x hx1))
  · intro f cs ds hc ih hp v hr
    obtain ⟨vs, rfl, hl, hv⟩ := hr.fn'
    exact .fn f ds vs (by rw [hl, hc.len]) (fun i y hy => by obtain ⟨x, hx1, hx2⟩ := ih (by simpa [AV.plain] using hp) i y hy; exact hx2 (hv i x hx1))
  · intro _ i y hy
    simp at hy
  · intro p q l m ha hl ih1 ih2 hp i y hy
    simp [AV.plainL] at hp
    cases i with
    | zero =>
      simp at hy
      subst hy
      exact ⟨p, rfl, ih1 hp.1⟩
    | succ i =>
      obtain ⟨x, hx1, hx2⟩ := ih2 hp.2 i y (by simpa using hy)
      exact ⟨x, by simpa using hx1, hx2⟩

theorem showsL_get {h : AHeap} : ∀ {l m : List AV}, ShowsL h l m → ∀ (i : Nat) (y : AV), m[i]? = some y → ∃ x, l[i]? = some x ∧ Shows h x y
  | _, _, .nil, i, y, hy => by simp at hy
  | _, _, .cons p q l m ha hl, 0, y, hy => by simp at hy; subst hy; exact ⟨p, rfl, ha⟩
  | _, _, .cons p q l m ha hl, i + 1, y, hy => by
    obtain ⟨x, h1, h2⟩ := showsL_get hl i y (by simpa using hy)
    exact ⟨x, by simpa using h1, h2⟩

/-- The call itself. -/
theorem call_run {f : Operand} {args : Array Operand} {ts : Array TypeId} {g : FuncId} {caps : Array Value} (ho : o.op = .call { callee := .value f, args := args, argTypes := ts }) (hf : a.eval f = .func (.func g) #[] caps) (hb : HasBody c.P g) :
    (execOp a.eval o).run c.P w = .ok (.enter g (args.map a.eval ++ caps)) w := by
  obtain ⟨fn, cd, h1, h2, h3⟩ := hb
  simp only [execOp, ho, resolve, hf, Deferred.ofValue, Sem.run_bind, Sem.run_pure, Result.andThen_ok, invoke, callFunc, run_program, h1, h3, Bool.false_eq_true, if_false, h2, Option.isNone_some, Array.empty_append]

theorem hr_sub {h h1 : AHeap} (hh : HR w rho fz h) (hl : h1.length = h.length) (hsub : ∀ (id : Nat) (cs : List AV), h1[id]? = some (some cs) → h[id]? = some (some cs)) : HR w rho fz h1 :=
  ⟨fun id hid => hh.dom id (by omega), fun id cs hid => hh.cell id cs (hsub id cs hid), fun id id' cs cs' b o o' hd hd' h1 h2 => hh.inj id id' cs cs' b o o' (hsub _ _ hd) (hsub _ _ hd') h1 h2⟩

theorem keepOnly_get {F : List Nat} {h : AHeap} {id : Nat} {cs : List AV} (hd : (keepOnly F h)[id]? = some (some cs)) : h[id]? = some (some cs) ∧ id ∈ F := by
  unfold keepOnly at hd
  rw [List.getElem?_mapIdx] at hd
  cases h1 : h[id]? with
  | none => rw [h1] at hd; cases hd
  | some q =>
    rw [h1] at hd
    simp only [Option.map_some, Option.some.injEq] at hd
    split at hd
    · rename_i hF; exact ⟨by rw [hd], hF⟩
    · cases hd

theorem killAll_get {F : List Nat} {h : AHeap} {id : Nat} {cs : List AV} (hd : (killAll F h)[id]? = some (some cs)) : h[id]? = some (some cs) ∧ id ∉ F := by
  unfold killAll at hd
  rw [List.getElem?_mapIdx] at hd
  cases h1 : h[id]? with
  | none => rw [h1] at hd; cases hd
  | some q =>
    rw [h1] at hd
    simp only [Option.map_some, Option.some.injEq] at hd
    split at hd
    · cases hd
    · rename_i hF; exact ⟨by rw [hd], hF⟩

/-- Behind a call that turned nothing the heap stands as before. -/
theorem hr_after {h : AHeap} (hh : HR w rho fz h) (hf : FzOk w fz) {w' : World} {own0 f1 f2 fz' : Nat → Prop} (hp : Pres w own0 f1 w' f2) (hfk : ∀ b, fz b → fz' b) (hno : ∀ b, own0 b → ¬ fz b ∧ ¬ Owned rho h b) (hnf : ∀ b, Owned rho h b → ¬ fz' b) : HR w' rho fz' h := by
  refine ⟨hh.dom, fun id cs hid => ?_, hh.inj⟩
  obtain ⟨b, p, arr, ty, g1, g2, g3, g4, g5⟩ := hh.cell id cs hid
  have hlt := (Array.getElem?_eq_some_iff.1 g3).1
  have how : Owned rho h b := ⟨id, cs, p, hid, g1⟩
  exact ⟨b, p, arr, ty, g1, hnf b how, by rw [hp.block b hlt (fun ho => (hno b ho).2 how)]; exact g3, g4,
    fun j x hj => (g5 j x hj).mono (fun q hq => hp.block q (hf q hq) (fun ho => (hno q ho).1 hq)) hfk hp.shape (fun _ _ hx => hx)⟩

end
end Go.Proofs.YtkjnjdcbnelceaaGreatDoor.KA
end

section
/- Calls of Go functions. Nothing here concerns a given program. -/
set_option linter.unusedVariables false
set_option linter.unusedSimpArgs false
set_option linter.unnecessarySimpa false
namespace Go.Proofs.YtkjnjdcbnelceaaGreatDoor.KA
open Go

section
variable {c : Ctx} {o : Oper} {a : Act} {w : World} {rho : Gh} {fz : Nat → Prop} {st : St} {K : St → Prop} {mu : Nat → Bool}

theorem RT.ren {f : Nat → Nat} {x : AV} : ∀ {v : Value}, RT w rho fz (x.ren f) v → RT w (fun id => rho (f id)) fz x v := by
  refine AV.rec (motive_1 := fun x => ∀ {v : Value}, RT w rho fz (x.ren f) v → RT w (fun id => rho (f id)) fz x v)
    (motive_2 := fun l => (AV.renL f l).length = l.length ∧ ∀ (i : Nat) (y : AV), l[i]? = some y → (AV.renL f l)[i]? = some (y.ren f) ∧ ∀ {v : Value}, RT w rho fz (y.ren f) v → RT w (fun id => rho (f id)) fz y v)
    ?_ ?_ ?_ ?_ ?_ ?_ ?_ ?_ ?_ ?_ ?_ ?_ ?_ ?_ ?_ ?_ ?_ ?_ ?_ ?_ x
  case refine_1 => intro v h; exact .of _ _ (.undef _)
  case refine_2 => intro k n v h; rw [show v = .int k n from RT.int h]; exact .of _ _ (.int _ _)
  case refine_3 => intro b v h; rw [show v = .bool b from RT.bool h]; exact .of _ _ (.bool _)
  case refine_4 => intro s v h; rw [show v = .string ⟨⟨s⟩⟩ from RT.str h]; exact .of _ _ (.str _)
  case refine_5 =>
    intro cs ih v h
    obtain ⟨vs, rfl, hl, hc⟩ := RT.agg' (cs := AV.renL f cs) h
    exact .agg _ _ (by rw [hl, ih.1]) (fun i y hy => (ih.2 i y hy).2 (hc i _ (ih.2 i y hy).1))
  case refine_6 =>
    intro cs ih v h
    obtain ⟨vs, rfl, hl, hc⟩ := RT.tuple' (cs := AV.renL f cs) h
    exact .tuple _ _ (by rw [hl, ih.1]) (fun i y hy => (ih.2 i y hy).2 (hc i _ (ih.2 i y hy).1))
  case refine_7 => intro v h; rw [show v = .slice none 0 0 from RT.nils h]; exact .of _ _ .nils
  case refine_8 => intro v h; obtain ⟨b, rfl⟩ := RT.emp h; exact .of _ _ (.emp _)
  case refine_9 => intro sz xs _ v h; exact .of _ _ (RT.sl h)
  case refine_10 =>
    intro sz id off len cap v h
    obtain ⟨b, p, cap', e, n, h1, h2, h3, h4, h5, rfl⟩ := RT.own' (id := f id) h
    exact .own sz id off len cap b p cap' e n h1 h2 h3 h4 h5
  case refine_11 => intro cs _ v h; exact .of _ _ (RT.fp h)
  case refine_12 =>
    intro id off v h
    obtain ⟨b, p, h1, rfl⟩ := RT.ref' (id := f id) h
    exact .ref id off b p h1
  case refine_13 =>
    intro T n id v h
    obtain ⟨b, h1, h2, rfl⟩ := RT.tref' (id := f id) h
    exact .tref T n id b h1 h2
  case refine_14 => intro v h; cases h with | of _ _ h => cases h; exact .of _ _ .nilp
  case refine_15 =>
    intro g cs ih v h
    obtain ⟨vs, rfl, hl, hc⟩ := RT.fn' (cs := AV.renL f cs) h
    exact .fn _ _ _ (by rw [hl, ih.1]) (fun i y hy => (ih.2 i y hy).2 (hc i _ (ih.2 i y hy).1))
  case refine_16 => intro v h; cases h with | of _ _ h => cases h; exact .of _ _ .nilf
  case refine_17 => intro v h; cases h with | of _ _ h => cases h; exact .of _ _ .nili
  case refine_18 =>
    intro t y ih v h
    simp only [AV.ren] at h
    cases h with
    | of _ _ h => cases h with | iface _ _ u h => exact .iface _ _ _ (ih (.of _ _ h))
    | iface _ _ u h => exact .iface _ _ _ (ih h)
  case refine_19 => exact ⟨rfl, fun i y hy => by simp at hy⟩
  case refine_20 =>
    intro y l ih1 ih2
    refine ⟨by simp [AV.renL, ih2.1], fun i z hz => ?_⟩
    cases i with
    | zero => simp at hz; subst hz; exact ⟨by simp [AV.renL], ih1⟩
    | succ i => simp at hz; exact ⟨by simpa [AV.renL] using (ih2.2 i z hz).1, (ih2.2 i z hz).2⟩

theorem RT.unren {f : Nat → Nat} {x : AV} {v : Value} (h : RT w (fun id => rho (f id)) fz x v) : RT w rho fz (x.ren f) v := by
  have lens : ∀ l : List AV, (AV.renL f l).length = l.length := by
    intro l
    induction l with
    | nil => rfl
    | cons y l ih => simp [AV.renL, ih]
  have get : ∀ (l : List AV) (i : Nat) (z : AV), (AV.renL f l)[i]? = some z → ∃ y, l[i]? = some y ∧ z = y.ren f := by
    intro l
    induction l with
    | nil => intro i z hz; simp [AV.renL] at hz
    | cons y l ih =>
      intro i z hz
      cases i with
      | zero => simp [AV.renL] at hz; exact ⟨y, rfl, hz.symm⟩
      | succ i => simp [AV.renL] at hz; obtain ⟨q, h1, h2⟩ := ih i z hz; exact ⟨q, by simpa using h1, h2⟩
  induction h with
  | of x v h =>
    -- a value that reads without owners is left as it is by a renaming
    have key : ∀ {x : AV} {v : Value}, RF w fz x v → RF w fz (x.ren f) v := by
      intro x v h
      induction h with
      | undef v => exact .undef v
      | int k n => exact .int k n
      | bool b => exact .bool b
      | str s => exact .str s
      | agg cs vs hl _ ih => exact .agg _ vs (by rw [lens]; exact hl) (fun i z hz => by obtain ⟨y, h1, rfl⟩ := get cs i z hz; exact ih i y h1)
      | tuple cs vs hl _ ih => exact .tuple _ vs (by rw [lens]; exact hl) (fun i z hz => by obtain ⟨y, h1, rfl⟩ := get cs i z hz; exact ih i y h1)
      | nils => exact .nils
      | emp base => exact .emp base
      | slnil sz => exact .slnil sz
      | sl sz xs b off cap g hb hc hs hg hgr _ => exact .sl sz xs b off cap g hb hc hs hg hgr
      | fp cs b off g hb hg hgr _ => exact .fp cs b off g hb hg hgr
      | nilp => exact .nilp
      | fn g cs vs hl _ ih => exact .fn g _ vs (by rw [lens]; exact hl) (fun i z hz => by obtain ⟨y, h1, rfl⟩ := get cs i z hz; exact ih i y h1)
      | nilf => exact .nilf
      | nili => exact .nili
      | iface t a v _ ih => exact .iface t _ v ih
    exact .of _ _ (key h)
  | agg cs vs hl _ ih => exact .agg _ vs (by rw [lens]; exact hl) (fun i z hz => by obtain ⟨y, h1, rfl⟩ := get cs i z hz; exact ih i y h1)
  | tuple cs vs hl _ ih => exact .tuple _ vs (by rw [lens]; exact hl) (fun i z hz => by obtain ⟨y, h1, rfl⟩ := get cs i z hz; exact ih i y h1)
  | fn g cs vs hl _ ih => exact .fn g _ vs (by rw [lens]; exact hl) (fun i z hz => by obtain ⟨y, h1, rfl⟩ := get cs i z hz; exact ih i y h1)
  | iface t x v _ ih => exact .iface t _ v ih
  | own sz id off len cap b p cap' e n hr hc hl hsh hn => exact .own sz (f id) off len cap b p cap' e n hr hc hl hsh hn
  | ref id off b p hr => exact .ref (f id) off b p hr
  | tref T n id b hr hsh => exact .tref T n (f id) b hr hsh

theorem renL_get {f : Nat → Nat} : ∀ (l : List AV) (i : Nat) (y : AV), l[i]? = some y → (AV.renL f l)[i]? = some (y.ren f)
  | [], i, y, hy => by simp at hy
  | z :: l, 0, y, hy => by simp at hy; subst hy; simp [AV.renL]
  | z :: l, i + 1, y, hy => by simp at hy; simpa [AV.renL] using renL_get l i y hy

theorem renL_length {f : Nat → Nat} : ∀ (l : List AV), (AV.renL f l).length = l.length
  | [] => rfl
  | y :: l => by simp [AV.renL, renL_length l]

theorem setAll_get {β : Type} : ∀ (sg : List Nat) (rn : List β) (h : List β), sg.Nodup → sg.length ≤ rn.length → (∀ i ∈ sg, i < h.length) →
    ((sg.zip rn).foldl (fun acc p => acc.set p.1 p.2) h).length = h.length ∧
    (∀ (i k : Nat), sg[i]? = some k → ((sg.zip rn).foldl (fun acc p => acc.set p.1 p.2) h)[k]? = rn[i]?) ∧ ∀ k, k ∉ sg → ((sg.zip rn).foldl (fun acc p => acc.set p.1 p.2) h)[k]? = h[k]?
  | [], rn, h, _, _, _ => ⟨by simp, fun i k hi => by simp at hi, fun k _ => by simp⟩
  | s :: sg, [], h, _, hl, _ => by simp at hl
  | s :: sg, r :: rn, h, hn, hl, hb => by
    obtain ⟨hn1, hn2⟩ := List.nodup_cons.1 hn
    obtain ⟨g0, g1, g2⟩ := setAll_get sg rn (h.set s r) hn2 (by simpa using hl) (fun i hi => by simpa using hb i (by simp [hi]))
    simp only [List.zip_cons_cons, List.foldl_cons]
    refine ⟨by rw [g0]; simp, fun i k hi => ?_, fun k hk => ?_⟩
    · cases i with
      | zero =>
        simp at hi
        subst hi
        rw [g2 s hn1, List.getElem?_set_self (hb s (by simp))]
        rfl
      | succ i => exact g1 i k (by simpa using hi)
    · rw [g2 k (fun hc => hk (by simp [hc])), List.getElem?_set_ne (fun e => hk (by simp [e]))]

theorem s_call {f : Operand} {args : Array Operand} {ts : Array TypeId} {f' : O} {as' : List O} {wr : Bool} (ho : o.op = .call { callee := .value f, args := args, argTypes := ts }) (hf : opO c.gt f = some f') (has : opOs c.gt args.toList = some as')
    (hp : Pre c w rho fz st) (hsf : Rd a w rho fz st f') (hsa : ∀ y ∈ as', Rd a w rho fz st y) (h : astep c (.call o.dst f' as' wr) st K) : Res c o (.call o.dst f' as' wr) a w rho fz st K := by
  have h1 := opO_sound hf hp.gl hsf
  obtain ⟨g1, g2⟩ := opOs_sound hp.gl has hsa
  simp only [astep] at h
  generalize hzz : st.ev f' = zz at *
  cases zz with
  | fn g caps =>
    simp only at h
    obtain ⟨cv, hcv, hcl, hcc⟩ := h1.fn'
    -- the arguments together
    have hvl : (args.map a.eval ++ cv).size = (as'.map st.ev ++ caps).length := by simp at g1; simp [g1, hcl]
    have hva : ∀ (i : Nat) (x : AV), (as'.map st.ev ++ caps)[i]? = some x → RT w rho fz x ((args.map a.eval ++ cv).getD i undef) := by
      intro i x hx
      simp at g1
      by_cases hlt : i < as'.length
      · rw [List.getElem?_append_left (by simpa using hlt)] at hx
        have := g2 i x hx
        have h3 : i < (args.map a.eval).size := by simpa [g1] using hlt
        rw [Array.getD_eq_getD_getElem?, Array.getElem?_append_left h3]
        have h4 : i < args.size := by omega
        simpa [h4] using this
      · rw [List.getElem?_append_right (by simpa using hlt)] at hx
        have := hcc _ x hx
        have h3 : (args.map a.eval).size ≤ i := by simp; omega
        rw [Array.getD_eq_getD_getElem?, Array.getElem?_append_right h3]
        simpa [Array.getD_eq_getD_getElem?, g1] using this
    have hrun : HasBody c.P g → (execOp a.eval o).run c.P w = .ok (.enter g (args.map a.eval ++ cv)) w := fun hb => call_run ho hcv hb
    generalize (args.map a.eval ++ cv) = vs at hvl hva hrun
    generalize as'.map st.ev ++ caps = xs at hvl hva h
    have hupd : ∀ (r : AV) (h' : AHeap), upd (.call o.dst f' as' wr) st r h' = ({ st with h := h' } : St).setO o.dst r := by
      intro r h'
      simp only [upd, dstI, St.setO]
      cases o.dst <;> rfl
    rcases h with ⟨as, r, hsh, hpf, ⟨hb, hspec⟩, hk⟩ | ⟨hwr, F, as, r, hsh, ⟨hb, hspec⟩, hk⟩ | ⟨hwr, sg, as, ch, r, ch', ⟨hb, hlen, hspec⟩, hxs, hsl, hnd, hsb, hch, hk⟩
    · -- nothing is given up
      intro N Q hN
      unfold Oper.wp
      rw [hrun hb]
      have hl : vs.size = as.length := by rw [hvl, hsh.len]
      by_cases hpl : AV.plainL xs = true
      · have hrfs : RFs w fz as vs := ⟨hl, fun i y hy => by
          obtain ⟨x, h3, h4⟩ := showsL_get hsh i y hy
          exact shows_plain h4 (plainL_get hpl h3) (hva i x h3)⟩
        refine (hspec w fz vs hp.ok hp.gl hrfs).mono ?_
        rintro e w' ⟨v, fz', rfl, hr, hok', hpres⟩
        have hno : ∀ b, Owned rho st.h b → ¬ fz' b := fun b hb' hc => by
          obtain ⟨k1, k2⟩ := Owned.lt hp.hr hb'
          rcases hpres.fresh b hc with h5 | h5 | h5
          · exact k2 h5
          · exact h5
          · omega
        exact hN r st.h v w' rho fz' (by rw [hupd]; exact hk) ⟨hr_after hp.hr hp.ok hpres hpres.keep (fun b hb' => False.elim hb') hno, hok', ⟨hpres.os, hpres.tape, hpres.output, hpres.size, fun b hb1 _ => hpres.block b hb1 (fun hx => hx), hpres.shape, hpres.keep, fun b hb1 => by
          rcases hpres.fresh b hb1 with h5 | h5 | h5
          · exact .inl h5
          · exact h5.elim
          · exact .inr (.inr h5)⟩, fun _ _ => rfl, Nat.le_refl _, fun _ hx => .inl hx⟩ (.of _ _ hr)
      · have hfl : r.flat = true := hpf.resolve_left hpl
        have hrfs : RFs w (fun b => fz b ∨ Owned rho st.h b) as vs := ⟨hl, fun i y hy => by
          obtain ⟨x, h3, h4⟩ := showsL_get hsh i y hy
          exact shows_sound hp.hr h4 (hva i x h3)⟩
        have hok1 : FzOk w (fun b => fz b ∨ Owned rho st.h b) := fun b hb1 => hb1.elim (hp.ok b) (fun h5 => (Owned.lt hp.hr h5).1)
        refine (hspec w _ vs hok1 (hp.gl.mono (fun _ _ => rfl) (fun _ => .inl)) hrfs).mono ?_
        rintro e w' ⟨v, fz', rfl, hr, hok', hpres⟩
        have hno : ∀ b, Owned rho st.h b → ¬ fz b := fun b hb' => (Owned.lt hp.hr hb').2
        exact hN r st.h v w' rho fz (by rw [hupd]; exact hk) ⟨hr_after hp.hr hp.ok hpres (fun _ hx => hx) (fun b hb' => False.elim hb') hno, fun b hb1 => Nat.lt_of_lt_of_le (hp.ok b hb1) hpres.size, ⟨hpres.os, hpres.tape, hpres.output, hpres.size, fun b hb1 _ => hpres.block b hb1 (fun hx => hx), hpres.shape, fun _ hx => hx, fun b hb1 => .inl hb1⟩, fun _ _ => rfl, Nat.le_refl _, fun _ hx => .inl hx⟩ (.of _ _ (hr.ofFlat hfl))
    · -- owned arguments are given up
      intro N Q hN
      unfold Oper.wp
      rw [hrun hb]
      have hl : vs.size = as.length := by rw [hvl, hsh.len]
      have hkl : (keepOnly F st.h).length = st.h.length := by simp [keepOnly]
      have hdl : (killAll F st.h).length = st.h.length := by simp [killAll]
      have hrk := hr_sub hp.hr hkl (fun id cs hd => (keepOnly_get hd).1)
      have hrd := hr_sub hp.hr hdl (fun id cs hd => (killAll_get hd).1)
      have hrfs : RFs w (fun b => fz b ∨ Owned rho (keepOnly F st.h) b) as vs := ⟨hl, fun i y hy => by
        obtain ⟨x, h3, h4⟩ := showsL_get hsh i y hy
        exact shows_sound hrk h4 (hva i x h3)⟩
      have hok1 : FzOk w (fun b => fz b ∨ Owned rho (keepOnly F st.h) b) := fun b hb1 => hb1.elim (hp.ok b) (fun h5 => (Owned.lt hrk h5).1)
      refine (hspec w _ vs hok1 (hp.gl.mono (fun _ _ => rfl) (fun _ => .inl)) hrfs).mono ?_
      rintro e w' ⟨v, fz', rfl, hr, hok', hpres⟩
      have hapart : ∀ b, Owned rho (killAll F st.h) b → ¬ Owned rho (keepOnly F st.h) b := by
        rintro b ⟨id, cs, p1, hid, hr1⟩ ⟨id', cs', p2, hid', hr2⟩
        have e := hp.hr.inj id id' cs cs' b p1 p2 (killAll_get hid).1 (keepOnly_get hid').1 hr1 hr2
        subst e
        exact (killAll_get hid).2 (keepOnly_get hid').2
      have hno : ∀ b, Owned rho (killAll F st.h) b → ¬ fz' b := fun b hb' hc => by
        obtain ⟨k1, k2⟩ := Owned.lt hrd hb'
        rcases hpres.fresh b hc with (h5 | h5) | h5 | h5
        · exact k2 h5
        · exact hapart b hb' h5
        · exact h5
        · omega
      have hsub : ∀ b, Owned rho (keepOnly F st.h) b → Owned rho st.h b := by
        rintro b ⟨id, cs, p1, hid, hr1⟩
        exact ⟨id, cs, p1, (keepOnly_get hid).1, hr1⟩
      refine hN r (killAll F st.h) v w' rho fz' (by rw [hupd]; exact hk) ⟨hr_after hrd hp.ok hpres (fun b hb1 => hpres.keep b (.inl hb1)) (fun b hb' => False.elim hb') hno, hok', ⟨hpres.os, hpres.tape, hpres.output, hpres.size, fun b hb1 _ => hpres.block b hb1 (fun hx => hx), hpres.shape, fun b hb1 => hpres.keep b (.inl hb1), fun b hb1 => ?_⟩, fun _ _ => rfl, by rw [hdl]; exact Nat.le_refl _, fun b hb1 => ?_⟩ (.of _ _ hr)
      · rcases hpres.fresh b hb1 with (h5 | h5) | h5 | h5
        · exact .inl h5
        · exact .inr (.inl (hsub b h5))
        · exact h5.elim
        · exact .inr (.inr h5)
      · obtain ⟨id, cs, p1, hid, hr1⟩ := hb1
        exact .inl ⟨id, cs, p1, (killAll_get hid).1, hr1⟩
    · -- the callee writes
      intro N Q hN
      unfold Oper.wp
      rw [hrun hb]
      subst hxs
      have hn : ∀ id, st.h.length ≤ id → rho id = none := hp.hr.dom
      have pl_lt : ∀ id, id < sg.length → ∃ k, sg[id]? = some k ∧ place sg st.h.length id = k ∧ k < st.h.length := fun id hid => by
        refine ⟨sg[id], List.getElem?_eq_getElem hid, by simp [place, hid], hsb _ (List.getElem_mem hid)⟩
      have pl_ge : ∀ id, sg.length ≤ id → place sg st.h.length id = st.h.length + (id - sg.length) := fun id hid => by simp [place, hid]
      -- the callee's view
      have live : ∀ (id : Nat) (cs : List AV), ch[id]? = some (some cs) → ∃ k, sg[id]? = some k ∧ place sg st.h.length id = k ∧ st.h[k]? = some (some (AV.renL (place sg st.h.length) cs)) := fun id cs hid => by
        obtain ⟨k, e1, e2, e3⟩ := pl_lt id (by rw [hsl]; exact (List.getElem?_eq_some_iff.1 hid).1)
        obtain ⟨o', e4, e5⟩ := hch id k (some cs) e1 hid
        rw [e5 cs rfl] at e4
        exact ⟨k, e1, e2, e4⟩
      have hHR : HR w (fun id => rho (place sg st.h.length id)) fz ch := by
        refine ⟨fun id hid => by rw [pl_ge id (by omega)]; exact hn _ (by omega), fun id cs hid => ?_, fun id id' cs cs' b p1 p2 hd hd' hr1 hr2 => ?_⟩
        · obtain ⟨k, e1, e2, e3⟩ := live id cs hid
          obtain ⟨b, p, arr, ty, k1, k2, k3, k4, k5⟩ := hp.hr.cell k _ e3
          refine ⟨b, p, arr, ty, by rw [e2]; exact k1, k2, k3, by rw [renL_length] at k4; exact k4, fun j x hj => (k5 j _ (renL_get cs j x hj)).ren⟩
        · obtain ⟨k, e1, e2, e3⟩ := live id cs hd
          obtain ⟨k', e1', e2', e3'⟩ := live id' cs' hd'
          simp only [e2] at hr1
          simp only [e2'] at hr2
          have := hp.hr.inj k k' _ _ b p1 p2 e3 e3' hr1 hr2
          subst this
          exact (List.getElem?_inj (List.getElem?_eq_some_iff.1 e1).1 hnd).1 (e1.trans e1'.symm)
      have hRT : RTs w (fun id => rho (place sg st.h.length id)) fz as vs := ⟨by rw [hvl, renL_length], fun i x hx => (hva i _ (renL_get as i x hx)).ren⟩
      refine (hspec w _ fz vs hp.ok hp.gl hHR hRT).mono ?_
      rintro e w' ⟨v, rc, fz', rfl, hr, hok', hHR', hpres, hsame, hown⟩
      obtain ⟨rho', hrho⟩ : ∃ rho' : Gh, rho' = fun id => if st.h.length ≤ id then rc (id - st.h.length + sg.length) else rho id := ⟨_, rfl⟩
      have hcomp : rc = fun id => rho' (place sg st.h.length id) := by
        funext id
        subst hrho
        by_cases hlt : id < sg.length
        · obtain ⟨k, e1, e2, e3⟩ := pl_lt id hlt
          have := hsame id (by omega)
          simp only [e2]
          rw [if_neg (by omega), this, e2]
        · rw [pl_ge id (by omega)]
          show rc id = (if st.h.length ≤ st.h.length + (id - sg.length) then rc (st.h.length + (id - sg.length) - st.h.length + sg.length) else rho _)
          rw [if_pos (by omega)]
          congr 1; omega
      have hold : ∀ id, id < st.h.length → rho' id = rho id := fun id hid => by subst hrho; simp only; rw [if_neg (by omega)]
      have hown0 : ∀ b, Owned (fun id => rho (place sg st.h.length id)) ch b → ∃ k ∈ sg, ∃ cs p, st.h[k]? = some (some cs) ∧ rho k = some (b, p) := by
        rintro b ⟨id, cs, p, hid, hr1⟩
        obtain ⟨k, e1, e2, e3⟩ := live id cs hid
        simp only [e2] at hr1
        exact ⟨k, List.mem_of_getElem? e1, _, p, e3, hr1⟩
      have hmono : ∀ {x : AV} {u : Value}, RT w rho fz x u → RT w' rho' fz' x u := fun hx =>
        hx.mono (fun b hb1 => hpres.block b (hp.ok b hb1) (fun hc => by
          obtain ⟨k, _, cs, p, h5, h6⟩ := hown0 b hc
          exact (Owned.lt hp.hr ⟨k, cs, p, h5, h6⟩).2 hb1)) hpres.keep hpres.shape (fun id q hq => by
            rw [hold id (by
              rcases Nat.lt_or_ge id st.h.length with h5 | h5
              · exact h5
              · rw [hn id h5] at hq; cases hq)]
            exact hq)
      -- the heap behind the call
      have hpl' : sg.length ≤ (ch'.map fun o => o.map (AV.renL (place sg st.h.length))).length := by simp; omega
      obtain ⟨s0, s1, s2⟩ := setAll_get sg (ch'.map fun o => o.map (AV.renL (place sg st.h.length))) st.h hnd hpl' hsb
      have hplen : (putBack st.h sg ch').length = st.h.length + (ch'.length - sg.length) := by
        simp only [putBack, List.length_append, s0, List.length_drop, List.length_map]
      have cases' : ∀ (id : Nat) (ds : List AV), (putBack st.h sg ch')[id]? = some (some ds) → (id < st.h.length ∧ id ∉ sg ∧ st.h[id]? = some (some ds)) ∨ ∃ k cs, place sg st.h.length k = id ∧ ch'[k]? = some (some cs) ∧ ds = AV.renL (place sg st.h.length) cs := by
        intro id ds hid
        simp only [putBack] at hid
        by_cases hlt : id < st.h.length
        · rw [List.getElem?_append_left (by rw [s0]; exact hlt)] at hid
          by_cases hin : id ∈ sg
          · obtain ⟨i, hi⟩ := List.getElem?_of_mem hin
            rw [s1 i id hi, List.getElem?_map] at hid
            cases h5 : ch'[i]? with
            | none => rw [h5] at hid; cases hid
            | some q =>
              rw [h5] at hid
              cases q with
              | none => cases hid
              | some cs =>
                cases hid
                obtain ⟨k, e1, e2, e3⟩ := pl_lt i (List.getElem?_eq_some_iff.1 hi).1
                rw [hi] at e1
                cases e1
                exact .inr ⟨i, cs, e2, h5, rfl⟩
          · rw [s2 id hin] at hid
            exact .inl ⟨hlt, hin, hid⟩
        · rw [List.getElem?_append_right (by rw [s0]; omega), s0, List.getElem?_drop, List.getElem?_map] at hid
          cases h5 : ch'[sg.length + (id - st.h.length)]? with
          | none => rw [h5] at hid; cases hid
          | some q =>
            rw [h5] at hid
            cases q with
            | none => cases hid
            | some cs =>
              cases hid
              exact .inr ⟨_, cs, by rw [pl_ge _ (by omega)]; omega, h5, rfl⟩
      have hnotin : ∀ id ds b p, id ∉ sg → st.h[id]? = some (some ds) → rho id = some (b, p) → ¬ Owned (fun id => rho (place sg st.h.length id)) ch b := by
        rintro id ds b p hin hid hr1 hc
        obtain ⟨k, hk1, cs, p', h5, h6⟩ := hown0 b hc
        have := hp.hr.inj id k ds cs b p p' hid h5 hr1 h6
        subst this
        exact hin hk1
      have hHR2 : HR w' rho' fz' (putBack st.h sg ch') := by
        refine ⟨fun id hid => ?_, fun id ds hid => ?_, fun id id' ds ds' b p1 p2 hd hd' hr1 hr2 => ?_⟩
        · rw [hplen] at hid
          subst hrho
          simp only
          rw [if_pos (by omega)]
          exact hHR'.dom _ (by omega)
        · rcases cases' id ds hid with ⟨hlt, hin, hid'⟩ | ⟨k, cs, e1, e2, rfl⟩
          · obtain ⟨b, p, arr, ty, k1, k2, k3, k4, k5⟩ := hp.hr.cell id ds hid'
            have hblt := (Array.getElem?_eq_some_iff.1 k3).1
            have hno := hnotin id ds b p hin hid' k1
            refine ⟨b, p, arr, ty, by rw [hold id hlt]; exact k1, fun hc => ?_, by rw [hpres.block b hblt hno]; exact k3, k4, fun j x hj => hmono (k5 j x hj)⟩
            rcases hpres.fresh b hc with h5 | h5 | h5
            · exact k2 h5
            · exact hno h5
            · omega
          · obtain ⟨b, p, arr, ty, k1, k2, k3, k4, k5⟩ := hHR'.cell k cs e2
            rw [hcomp] at k1
            simp only [e1] at k1
            refine ⟨b, p, arr, ty, k1, k2, k3, by rw [renL_length]; exact k4, fun j x hj => ?_⟩
            have hj' : ∃ y, cs[j]? = some y := by
              have := (List.getElem?_eq_some_iff.1 hj).1
              rw [renL_length] at this
              exact ⟨cs[j], List.getElem?_eq_getElem this⟩
            obtain ⟨y, hy⟩ := hj'
            rw [renL_get cs j y hy] at hj
            cases hj
            have := k5 j y hy
            rw [hcomp] at this
            exact this.unren
        · -- two numbers of one block
          have blk : ∀ (k : Nat) (cs : List AV) (b p : Nat), ch'[k]? = some (some cs) → rho' (place sg st.h.length k) = some (b, p) → Owned rc ch' b ∧ rc k = some (b, p) := fun k cs b p h5 h6 => by
            have h7 : rc k = some (b, p) := by rw [hcomp]; exact h6
            exact ⟨⟨k, cs, p, h5, h7⟩, h7⟩
          rcases cases' id ds hd with ⟨hlt, hin, hid'⟩ | ⟨k, cs, e1, e2, rfl⟩ <;> rcases cases' id' ds' hd' with ⟨hlt', hin', hid''⟩ | ⟨k', cs', e1', e2', rfl⟩
          · rw [hold id hlt] at hr1
            rw [hold id' hlt'] at hr2
            exact hp.hr.inj id id' ds ds' b p1 p2 hid' hid'' hr1 hr2
          · rw [hold id hlt] at hr1
            rw [← e1'] at hr2
            obtain ⟨h5, _⟩ := blk k' cs' b p2 e2' hr2
            exfalso
            rcases hown b h5 with h6 | h6
            · exact hnotin id ds b p1 hin hid' hr1 h6
            · have := (Owned.lt hp.hr ⟨id, ds, p1, hid', hr1⟩).1; omega
          · rw [hold id' hlt'] at hr2
            rw [← e1] at hr1
            obtain ⟨h5, _⟩ := blk k cs b p1 e2 hr1
            exfalso
            rcases hown b h5 with h6 | h6
            · exact hnotin id' ds' b p2 hin' hid'' hr2 h6
            · have := (Owned.lt hp.hr ⟨id', ds', p2, hid'', hr2⟩).1; omega
          · rw [← e1] at hr1
            rw [← e1'] at hr2
            have h5 := (blk k cs b p1 e2 hr1).2
            have h6 := (blk k' cs' b p2 e2' hr2).2
            have := hHR'.inj k k' cs cs' b p1 p2 e2 e2' h5 h6
            subst this
            rw [← e1, ← e1']
      refine hN (r.ren (place sg st.h.length)) (putBack st.h sg ch') v w' rho' fz' (by rw [hupd]; exact hk) ⟨hHR2, hok', ⟨hpres.os, hpres.tape, hpres.output, hpres.size, fun b hb1 hb2 => hpres.block b hb1 (fun hc => hb2 ?_), hpres.shape, hpres.keep, fun b hb1 => ?_⟩, hold, by rw [hplen]; omega, fun b hb1 => ?_⟩ ?_
      · obtain ⟨k, _, cs, p, h5, h6⟩ := hown0 b hc
        exact ⟨k, cs, p, h5, h6⟩
      · rcases hpres.fresh b hb1 with h5 | h5 | h5
        · exact .inl h5
        · obtain ⟨k, _, cs, p, h6, h7⟩ := hown0 b h5
          exact .inr (.inl ⟨k, cs, p, h6, h7⟩)
        · exact .inr (.inr h5)
      · obtain ⟨id, ds, p, hid, hr1⟩ := hb1
        rcases cases' id ds hid with ⟨hlt, hin, hid'⟩ | ⟨k, cs, e1, e2, rfl⟩
        · rw [hold id hlt] at hr1
          exact .inl ⟨id, ds, p, hid', hr1⟩
        · rw [← e1] at hr1
          have h7 : rc k = some (b, p) := by rw [hcomp]; exact hr1
          rcases hown b ⟨k, cs, p, e2, h7⟩ with h6 | h6
          · obtain ⟨k, _, cs, p, h6, h7⟩ := hown0 b h6
            exact .inl ⟨k, cs, p, h6, h7⟩
          · exact .inr h6
      · rw [hcomp] at hr
        exact hr.unren
  | _ => exact h.elim

end
end Go.Proofs.YtkjnjdcbnelceaaGreatDoor.KA
end

section
/- Soundness of one operation. Nothing here concerns a given program. -/
set_option linter.unusedVariables false
set_option linter.unusedSimpArgs false
set_option linter.unnecessarySimpa false
namespace Go.Proofs.YtkjnjdcbnelceaaGreatDoor.KA
open Go

def optO : Option O → List O
  | some x => [x]
  | none => []

def rdI : I → List O
  | .mv _ x => [x]
  | .pick _ q x y => [q, x, y]
  | .box _ x _ => [x]
  | .alloc _ _ _ => []
  | .allocT _ _ _ => []
  | .build _ _ ps => ps.map (·.2.2)
  | .bsl _ _ xs _ => xs
  | .mksl _ _ _ _ x y => [x, y]
  | .load _ _ _ x => [x]
  | .loadf _ _ _ x => [x]
  | .idxv _ _ _ _ x y => [x, y]
  | .bad _ => []
  | .store _ x y => [x, y]
  | .bin _ _ x y => [x, y]
  | .eqb _ _ x y => [x, y]
  | .eqs _ _ _ x y => [x, y]
  | .eqn _ _ _ x => [x]
  | .not _ x => [x]
  | .neg _ x => [x]
  | .conv _ _ x => [x]
  | .cvs _ x => [x]
  | .fld _ _ x => [x]
  | .fldv _ _ _ _ x => [x]
  | .idxa _ _ _ x y => [x, y]
  | .idx _ x y => [x, y]
  | .slc _ _ x lo hi mx => x :: (optO lo ++ (optO hi ++ optO mx))
  | .slcs _ x lo hi => x :: (optO lo ++ optO hi)
  | .slca _ _ _ x lo hi => x :: (optO lo ++ optO hi)
  | .len _ x => [x]
  | .cap _ x => [x]
  | .lens _ x => [x]
  | .append _ _ _ x y _ => [x, y]
  | .call _ f as _ => f :: as
  | .max _ x y => [x, y]
  | .min _ x y => [x, y]
  | .clear _ _ x => [x]
  | .ext _ x _ => [x]
  | .mkfn _ _ l => l
  | .iface _ _ x => [x]
  | .nilchk _ x => [x]

section
variable {c : Ctx} {o : Oper} {a : Act} {w : World} {rho : Gh} {fz : Nat → Prop} {st : St} {K : St → Prop} {mu : Nat → Bool}

theorem s_slca {d : Nat} {t e : TypeId} {sz n : Nat} {x : Operand} {lo hi : Option Operand} {x' : O} {lo' hi' : Option O} (ho : o.op = .slice t x lo hi none) (hu : c.P.underlying t = some (.array n e)) (hsz : sizeT c.P e = some sz) (hx : opO c.gt x = some x') (hlo : opOpt c.gt lo = some lo') (hhi : opOpt c.gt hi = some hi')
    (hp : Pre c w rho fz st) (hsx : Rd a w rho fz st x') (hsl : ∀ y, lo' = some y → Rd a w rho fz st y) (hsh : ∀ y, hi' = some y → Rd a w rho fz st y) (h : astep c (.slca d sz n x' lo' hi') st K) : Res c o (.slca d sz n x' lo' hi') a w rho fz st K := by
  have h1 := opO_sound hx hp.gl hsx
  simp only [astep] at h
  generalize hz : st.ev x' = z at *
  cases z with
  | ref id off =>
    simp only at h
    obtain ⟨b, p, hr, hv⟩ := h1.ref'
    obtain ⟨hn, h, eh⟩ := onLo_sound hhi hp hsh h
    obtain ⟨ln, h, el⟩ := onLo_sound hlo hp hsl h
    obtain ⟨g1, g2, g3, ⟨cs, hcs, hle⟩, hk⟩ := h
    obtain ⟨b', p', arr, ty, k1, k2, k3, k4, k5⟩ := hp.hr.cell id cs hcs
    rw [hr] at k1
    cases k1
    have hb := run_bounds (P := c.P) (isSlice := false) (len := n) (cap := n) (mx := none) (.inl ⟨rfl, rfl⟩) eh el (Nat.le_refl _) g1 g2 (by simp) w
    simp only [Option.map_none] at hb
    refine res_value rfl hp.hr hp.ok (v := .slice (some ⟨b, p + (off + ln * sz), none⟩) (hn - ln) (n - ln)) ?_ ?_ hk
    · have hbase : (if n = ln then (⟨b, p + off, none⟩ : Addr) else (⟨b, p + off, none⟩ : Addr).add (ln * sz)) = ⟨b, p + (off + ln * sz), none⟩ := by
        rcases g3 with rfl | hlt
        · simp [Addr.add_lit]
        · rw [if_neg (by omega)]
          simp [Addr.add_lit, Nat.add_assoc]
      simp [execOp, ho, hv, Instr.sliceAt, run_underlying hu, Instr.sureAddr, hb, run_sizeOf hsz, hbase]
    · refine .own sz id (off + ln * sz) (hn - ln) (n - ln) b p (n - ln) ty arr.size hr (Nat.le_refl _) (by omega) ?_ ?_
      · unfold World.shape?
        rw [k3]
      · have : ln * sz + (n - ln) * sz = n * sz := by rw [← Nat.add_mul]; congr 1; omega
        omega
  | _ => exact h.elim

theorem opOs_one {gt : List (Nat × List AV)} {xs : List Operand} {y : O} (h : opOs gt xs = some [y]) : ∃ x, xs = [x] ∧ opO gt x = some y := by
  cases xs with
  | nil => simp [opOs] at h
  | cons x xs =>
    unfold opOs at h
    split at h
    · rename_i p m h1 h2
      cases h
      cases xs with
      | nil => exact ⟨x, rfl, h1⟩
      | cons u us =>
        unfold opOs at h2
        split at h2 <;> cases h2
    · cases h

theorem opOs_two {gt : List (Nat × List AV)} {xs : List Operand} {y z : O} (h : opOs gt xs = some [y, z]) : ∃ x u, xs = [x, u] ∧ opO gt x = some y ∧ opO gt u = some z := by
  cases xs with
  | nil => simp [opOs] at h
  | cons x xs =>
    unfold opOs at h
    split at h
    · rename_i p m h1 h2
      cases h
      obtain ⟨u, rfl, h3⟩ := opOs_one h2
      exact ⟨x, u, rfl, h1, h3⟩
    · cases h

theorem call_sound {i : I} {dst : Option Nat} {q : Call} (hd : o.dst = dst) (ho : o.op = .call q) (hc : cCall c.P c.gt mu dst q = some i) (h : astep c i st K) (hp : Pre c w rho fz st) (hs : ∀ y ∈ rdI i, Rd a w rho fz st y) : Res c o i a w rho fz st K := by
  obtain ⟨callee, args, ts⟩ := q
  unfold cCall at hc
  split at hc
  · cases hc
  rename_i as has
  simp only at has hc
  split at hc
  · rename_i f
    split at hc
    · rename_i g hg
      cases hc
      subst hd
      exact s_call ho hg has hp (hs _ (by simp [rdI])) (fun y hy => hs y (by simp [rdI, hy])) h
    · cases hc
  · cases hc
  · rename_i b
    have harg : ∀ {l : List Operand}, args.toList = l → args = l.toArray := fun e => by rw [← e]
    have htl : ∀ {l : List TypeId}, ts.toList = l → ts = l.toArray := fun e => by rw [← e]
    split at hc
    · rename_i d x t hts
      obtain ⟨u, e1, e2⟩ := opOs_one has
      have e3 := harg e1
      have e4 := htl hts
      subst e3 e4
      unfold cLen at hc
      split at hc
      · rename_i hu; cases hc; exact s_lens ho hu e2 hp (hs _ (by simp [rdI])) h
      · rename_i e hu; cases hc; exact s_len ho hu e2 hp (hs _ (by simp [rdI])) h
      · cases hc
    · rename_i d x t hts
      obtain ⟨u, e1, e2⟩ := opOs_one has
      have e3 := harg e1
      have e4 := htl hts
      subst e3 e4
      unfold cCap at hc
      split at hc
      · rename_i e hu; cases hc; exact s_cap ho hu e2 hp (hs _ (by simp [rdI])) h
      · cases hc
    · rename_i d s x tt tx hts
      obtain ⟨u, v, e1, e2, e2'⟩ := opOs_two has
      have e3 := harg e1
      have e4 := htl hts
      subst e3 e4
      unfold cAppend at hc
      split at hc
      · rename_i e e' hu hu'
        split at hc
        · rename_i i' s' hi hs'
          split at hc
          · rename_i z hz
            split at hc
            · rename_i hcond
              cases hc
              exact s_append ho hu (.inl ⟨_, hu'⟩) hi hz hcond.1 hcond.2.2 e2 e2' hp (hs _ (by simp [rdI])) (hs _ (by simp [rdI])) h
            · cases hc
          · cases hc
        · cases hc
      · rename_i e hu hu'
        split at hc
        · rename_i i' hi
          split at hc
          · rename_i z hz
            split at hc
            · rename_i hcond
              cases hc
              have h1 := s_append (c := c) (o := o) (a := a) (w := w) (rho := rho) (fz := fz) (st := st) (K := K) (d := d) (m := mu d) ho hu (.inr hu') hi hz hcond.1 (by omega) e2 e2' hp (hs _ (by simp [rdI])) (hs _ (by simp [rdI]))
              rw [hcond.2] at h1
              exact h1 h
            · cases hc
          · cases hc
        · cases hc
      · cases hc
    · rename_i d x y
      obtain ⟨u, v, e1, e2, e2'⟩ := opOs_two has
      have e3 := harg e1
      subst e3
      cases hc
      exact s_max ho e2 e2' hp (hs _ (by simp [rdI])) (hs _ (by simp [rdI])) h
    · rename_i d x y
      obtain ⟨u, v, e1, e2, e2'⟩ := opOs_two has
      have e3 := harg e1
      subst e3
      cases hc
      exact s_min ho e2 e2' hp (hs _ (by simp [rdI])) (hs _ (by simp [rdI])) h
    · rename_i x t hts
      obtain ⟨u, e1, e2⟩ := opOs_one has
      have e3 := harg e1
      have e4 := htl hts
      subst e3 e4
      split at hc
      · rename_i e hu
        split at hc
        · rename_i z s hz hs'
          cases hc
          exact s_clear hd ho hu hz e2 hp (hs _ (by simp [rdI])) h
        · cases hc
      · cases hc
    · cases hc

theorem step_sound {i : I} (hc : opI c.P c.gt mu o = some i) (h : astep c i st K) (hp : Pre c w rho fz st) (hs : ∀ y ∈ rdI i, Rd a w rho fz st y) : Res c o i a w rho fz st K := by
  unfold opI at hc
  split at hc
  · rename_i d hd
    split at hc
    case h_1 x ho => cases hx : opO c.gt x <;> rw [hx] at hc <;> cases hc; exact s_mv hd (.inl ho) hx hp (hs _ (by simp [rdI])) h
    case h_2 x ho => cases hx : opO c.gt x <;> rw [hx] at hc <;> cases hc; exact s_mv hd (.inr ho) hx hp (hs _ (by simp [rdI])) h
    case h_3 q x y ho =>
      split at hc
      · rename_i q' x' y' hq hx hy
        cases hc
        exact s_pick ho hq hx hy hp (hs _ (by simp [rdI])) (hs _ (by simp [rdI])) (hs _ (by simp [rdI])) h
      · cases hc
    case h_4 e ho =>
      cases hz : zeroAV c.P e with
      | none => rw [hz] at hc; cases hc
      | some z =>
        rw [hz] at hc
        simp only [Option.map_some, Option.some.injEq] at hc
        split at hc
        · cases hc; exact s_allocT ho hz hp h
        · cases hc; exact s_alloc ho hz hp h
    case h_5 e x ho => cases hx : opO c.gt x <;> rw [hx] at hc <;> cases hc; exact s_box hd ho hx hp (hs _ (by simp [rdI])) h
    case h_6 t ps ho =>
      split at hc
      · rename_i z fs hz hu
        split at hc
        · rename_i hall
          cases hq : fieldParts c.P c.gt fs ps.toList <;> rw [hq] at hc <;> cases hc
          exact s_build ho hz hu (fun f hf => List.all_eq_true.1 hall f (Array.mem_toList_iff.2 hf)) hq hp (fun q hq => hs _ (by simpa [rdI] using ⟨_, _, hq⟩)) h
        · cases hc
      · rename_i z n e hz hu
        split at hc
        · rename_i s hse
          cases hq : elemParts c.gt s ps.toList <;> rw [hq] at hc <;> cases hc
          exact s_buildarr ho hz hu hse hq hp (fun q hq => hs _ (by simpa [rdI] using ⟨_, _, hq⟩)) h
        · cases hc
      · cases hc
    case h_7 t n ps ho =>
      split at hc
      · rename_i e hu
        split at hc
        · rename_i i' xs hi hx
          split at hc
          · rename_i z hz
            split at hc
            · rename_i hcond
              cases hc
              exact s_bsl ho hu hi hz hcond.1 hcond.2.1 hcond.2.2.1 hcond.2.2.2 hx hp (fun y hy => hs _ (by simpa [rdI] using hy)) h
            · cases hc
          · cases hc
        · cases hc
      · cases hc
    case h_8 t n q ho =>
      split at hc
      · rename_i n' q' e hn hq hu
        split at hc
        · rename_i i' z hi hz
          split at hc
          · rename_i hcond
            cases hc
            exact s_mksl ho hu hi hz hcond.1 hcond.2 hn hq hp (hs _ (by simp [rdI])) (hs _ (by simp [rdI])) h
          · cases hc
        · cases hc
      · cases hc
    case h_9 t x ho =>
      split at hc
      · rename_i ag s x' hag hsz hx
        split at hc
        · cases hc; exact s_load ho hag hsz hx hp (hs _ (by simp [rdI])) h
        · cases hc; exact s_loadf ho hag hsz hx hp (hs _ (by simp [rdI])) h
      · cases hc
    case h_10 op t x y u ho =>
      unfold cBin at hc
      split at hc
      case h_2 => cases hc
      rename_i x' y' hx hy
      split at hc
      · cases hc; exact s_bin ho hx hy hp (hs _ (by simp [rdI])) (hs _ (by simp [rdI])) h
      · cases hc; exact s_bin ho hx hy hp (hs _ (by simp [rdI])) (hs _ (by simp [rdI])) h
      · rename_i hu
        split at hc
        · cases hc; exact s_eqb (neg := false) ho hu hx hy hp (hs _ (by simp [rdI])) (hs _ (by simp [rdI])) h
        · cases hc; exact s_eqb (neg := true) ho hu hx hy hp (hs _ (by simp [rdI])) (hs _ (by simp [rdI])) h
        · cases hc
      · rename_i fs hu
        split at hc
        · rename_i ls hls hg
          cases hc; exact s_eqs (neg := false) ho hu hls hg hx hy hp (hs _ (by simp [rdI])) (hs _ (by simp [rdI])) h
        · rename_i ls hls hg
          cases hc; exact s_eqs (neg := true) ho hu hls hg hx hy hp (hs _ (by simp [rdI])) (hs _ (by simp [rdI])) h
        · cases hc
      · rename_i e hu
        split at hc
        · cases hc; exact s_eqn (neg := false) ho hu (.inl ⟨rfl, ⟨_, rfl⟩, rfl⟩) hx hp (hs _ (by simp [rdI])) h
        · cases hc; exact s_eqn (neg := true) ho hu (.inl ⟨rfl, ⟨_, rfl⟩, rfl⟩) hx hp (hs _ (by simp [rdI])) h
        · cases hc
      · rename_i hu
        split at hc
        · cases hc; exact s_eqn (neg := false) ho hu (.inr (.inl ⟨rfl, ⟨_, _, _, rfl⟩, rfl⟩)) hx hp (hs _ (by simp [rdI])) h
        · cases hc; exact s_eqn (neg := true) ho hu (.inr (.inl ⟨rfl, ⟨_, _, _, rfl⟩, rfl⟩)) hx hp (hs _ (by simp [rdI])) h
        · cases hc
      · rename_i hu
        split at hc
        · cases hc; exact s_eqn (neg := false) ho hu (.inr (.inr (.inl ⟨rfl, ⟨_, rfl⟩, rfl⟩))) hx hp (hs _ (by simp [rdI])) h
        · cases hc; exact s_eqn (neg := true) ho hu (.inr (.inr (.inl ⟨rfl, ⟨_, rfl⟩, rfl⟩))) hx hp (hs _ (by simp [rdI])) h
        · cases hc
      · rename_i hu
        split at hc
        · cases hc; exact s_eqn (neg := false) ho hu (.inr (.inr (.inr ⟨rfl, ⟨_, rfl⟩, rfl⟩))) hx hp (hs _ (by simp [rdI])) h
        · cases hc; exact s_eqn (neg := true) ho hu (.inr (.inr (.inr ⟨rfl, ⟨_, rfl⟩, rfl⟩))) hx hp (hs _ (by simp [rdI])) h
        · cases hc
      · cases hc
    case h_11 op t x ho =>
      split at hc
      · rename_i x' hx; cases hc; exact s_not ho hx hp (hs _ (by simp [rdI])) h
      · rename_i x' hx; cases hc; exact s_neg ho hx hp (hs _ (by simp [rdI])) h
      · cases hc
    case h_12 s t x ho =>
      unfold cConv at hc
      split at hc
      · rename_i x' k0 k hx hs0 ht; cases hc; exact s_conv ho hs0 ht hx hp (hs _ (by simp [rdI])) h
      · rename_i x' hx hs0 ht; cases hc; exact s_cvs ho hs0 ht hx hp (hs _ (by simp [rdI])) h
      · cases hc
    case h_13 s x f ho =>
      unfold cFld at hc
      split at hc
      · rename_i x' fs hx hu
        split at hc
        · rename_i fl hf
          split at hc
          · rename_i n hsz; cases hc; exact s_fld ho hu hf hsz hx hp (hs _ (by simp [rdI])) h
          · cases hc
        · cases hc
      · cases hc
    case h_14 s x f ho =>
      unfold cFldv at hc
      split at hc
      · rename_i x' fs hx hu
        split at hc
        · rename_i fl hf
          split at hc
          · rename_i sz ag hsz hag; cases hc; exact s_fldv ho hu hf hsz hag hx hp (hs _ (by simp [rdI])) h
          · cases hc
        · cases hc
      · cases hc
    case h_15 t x y ho =>
      unfold cIdxa at hc
      split at hc
      · rename_i x' y' e hx hy hu
        cases hsz : sizeT c.P e <;> rw [hsz] at hc <;> cases hc
        exact s_idxa ho hu hsz hx hy hp (hs _ (by simp [rdI])) (hs _ (by simp [rdI])) h
      · rename_i x' y' n e hx hy hu
        cases hsz : sizeT c.P e <;> rw [hsz] at hc <;> cases hc
        exact s_idxarr ho hu hsz hx hy hp (hs _ (by simp [rdI])) (hs _ (by simp [rdI])) h
      · cases hc
    case h_16 t x y ho =>
      unfold cIdx at hc
      split at hc
      · rename_i x' y' hx hy hu; cases hc; exact s_idx ho hu hx hy hp (hs _ (by simp [rdI])) (hs _ (by simp [rdI])) h
      · rename_i x' y' n e hx hy hu
        split at hc
        · rename_i sz ag hsz hag; cases hc; exact s_idxv ho hu hsz hag hx hy hp (hs _ (by simp [rdI])) (hs _ (by simp [rdI])) h
        · cases hc
      · cases hc
    case h_17 t x lo hi mx ho =>
      unfold cSlc at hc
      split at hc
      · rename_i x' l h' m hx hlo hhi hmx
        split at hc
        · rename_i hu
          cases hc
          have hm0 : mx = none := by have := opOpt_isSome hmx; cases mx <;> simp at this ⊢
          subst hm0
          exact s_slcs ho hu hx hlo hhi hp (hs _ (by simp [rdI])) (fun y hy => hs _ (by subst hy; simp [rdI, optO])) (fun y hy => hs _ (by subst hy; simp [rdI, optO])) h
        · rename_i m' e hu
          split at hc
          · rename_i hmh
            cases hsz : sizeT c.P e <;> rw [hsz] at hc <;> cases hc
            exact s_slc ho hu hsz hx hlo hhi hmx (fun hh => by have := opOpt_isSome hmx; have h2 := opOpt_isSome hhi; rw [h2]; rw [this] at hh; simpa [hh] using hmh) hp (hs _ (by simp [rdI])) (fun y hy => hs _ (by subst hy; simp [rdI, optO])) (fun y hy => hs _ (by subst hy; simp [rdI, optO])) (fun y hy => hs _ (by subst hy; simp [rdI, optO])) h
          · cases hc
        · rename_i n e hu
          cases hsz : sizeT c.P e <;> rw [hsz] at hc <;> cases hc
          have hm0 : mx = none := by have := opOpt_isSome hmx; cases mx <;> simp at this ⊢
          subst hm0
          exact s_slca ho hu hsz hx hlo hhi hp (hs _ (by simp [rdI])) (fun y hy => hs _ (by subst hy; simp [rdI, optO])) (fun y hy => hs _ (by subst hy; simp [rdI, optO])) h
        · cases hc
      · cases hc
    case h_18 x k ho => cases hx : opO c.gt x <;> rw [hx] at hc <;> cases hc; exact s_ext ho hx hp (hs _ (by simp [rdI])) h
    case h_19 f first caps ho =>
      split at hc
      · rename_i hf
        cases hx : opOs c.gt caps.toList <;> rw [hx] at hc <;> cases hc
        exact s_mkfn ho hf hx hp (fun y hy => hs _ (by simpa [rdI] using hy)) h
      · cases hc
    case h_20 t x ho =>
      split at hc
      · cases hc
      · rename_i u x' hni hu hx
        cases hc
        exact s_iface ho hu (fun ms e => hni ms e) hx hp (hs _ (by simp [rdI])) h
      · cases hc
    case h_21 x ho => cases hx : opO c.gt x <;> rw [hx] at hc <;> cases hc; exact s_nilchk ho hx hp (hs _ (by simp [rdI])) h
    case h_22 q ho => exact call_sound hd ho hc h hp hs
    case h_23 => cases hc
  · rename_i hd
    split at hc
    case h_1 t x y ho =>
      split at hc
      · rename_i s x' y' hsz hx hy
        split at hc
        · rename_i hpos
          cases hc
          exact s_store hpos hd ho hsz hx hy hp (hs _ (by simp [rdI])) (hs _ (by simp [rdI])) h
        · cases hc
      · cases hc
    case h_2 q ho => exact call_sound hd ho hc h hp hs
    case h_3 => cases hc

/-- An operation that the small code has no word for: nothing is said of what it does. -/
def opJ (P : Program) (gt : List (Nat × List AV)) (mu : Nat → Bool) (o : Oper) : Option I := some ((opI P gt mu o).getD (.bad o.dst))

theorem stepJ_sound {i : I} (hc : opJ c.P c.gt mu o = some i) (h : astep c i st K) (hp : Pre c w rho fz st) (hs : ∀ y ∈ rdI i, Rd a w rho fz st y) : Res c o i a w rho fz st K := by
  unfold opJ at hc
  cases hi : opI c.P c.gt mu o with
  | none => rw [hi] at hc; simp only [Option.getD_none, Option.some.injEq] at hc; subst hc; exact h.elim
  | some j => rw [hi] at hc; simp only [Option.getD_some, Option.some.injEq] at hc; subst hc; exact step_sound hi h hp hs

end
end Go.Proofs.YtkjnjdcbnelceaaGreatDoor.KA
end

section
/- Soundness of a region in the text's order. Nothing here concerns a given program. -/
set_option linter.unusedVariables false
set_option linter.unusedSimpArgs false
set_option linter.unnecessarySimpa false
namespace Go.Proofs.YtkjnjdcbnelceaaGreatDoor.KA
open Go

def dstOk (n : Nat) : Option Nat → Bool
  | some d => decide (d < n)
  | none => true

def opG (P : Program) (gt : List (Nat × List AV)) (mu : Nat → Bool) (n : Nat) (ops : Array Oper) (o : Oper) : Option GI :=
  match opJ P gt mu o with
  | none => none
  | some i =>
    if dstI i = o.dst ∧ dstOk n o.dst = true then
      match o.guard with
      | none => some ⟨i, none, o.dst⟩
      | some (j, want) => match (ops[j]?).bind (·.dst) with
        | some t => some ⟨i, some (t, want), o.dst⟩
        | none => none
    else none

def opGs (P : Program) (gt : List (Nat × List AV)) (mu : Nat → Bool) (n : Nat) (ops : Array Oper) : List Oper → Option (List GI)
  | [] => some []
  | o :: l => match opG P gt mu n ops o, opGs P gt mu n ops l with
    | some g, some m => some (g :: m)
    | _, _ => none

/-- Where a call began: the world, the numbers and the blocks that it may write. -/
structure Base where
  w : World
  rho : Gh
  h : AHeap
  fz : Nat → Prop

/-- The marks that loops over functions have left on an activation: each one's block is still open, and nobody's. -/
def Marks (w : World) (fz : Nat → Prop) (k : Nat) : List Deferred → Prop
  | [] => True
  | d :: ds => (∃ D, d = { target := .collected D, args := #[] } ∧ w.heap[D]? = some (.deferred (some [])) ∧ k ≤ D ∧ ¬ fz D ∧ ∀ e ∈ ds, e ≠ d) ∧ Marks w fz k ds

theorem Marks.mono {w w' : World} {fz fz' : Nat → Prop} {k : Nat} (hw : ∀ D, w.heap[D]? = some (.deferred (some [])) → ¬ fz D → w'.heap[D]? = some (.deferred (some [])) ∧ ¬ fz' D) : ∀ {ds : List Deferred}, Marks w fz k ds → Marks w' fz' k ds
  | [], h => h
  | d :: ds, ⟨⟨D, h1, h2, h3, h4, h5⟩, h6⟩ => ⟨⟨D, h1, (hw D h2 h4).1, h3, (hw D h2 h4).2, h5⟩, Marks.mono hw h6⟩

theorem Marks.pres {h : AHeap} {w w' : World} {rho : Gh} {fz fz' : Nat → Prop} {k : Nat} (hh : HR w rho fz h) (hp : Pres w (Owned rho h) fz w' fz') {ds : List Deferred} (hm : Marks w fz k ds) : Marks w' fz' k ds := by
  refine Marks.mono (fun D hD hf => ?_) hm
  have hlt : D < w.heap.size := (Array.getElem?_eq_some_iff.1 hD).1
  have hno : ¬ Owned rho h D := by
    rintro ⟨id, cs, o, hid, hr⟩
    obtain ⟨b, p, arr, ty, g1, g2, g3, g4, g5⟩ := hh.cell id cs hid
    rw [hr] at g1
    cases g1
    rw [hD] at g3
    cases g3
  refine ⟨by rw [hp.block D hlt hno]; exact hD, fun hc => ?_⟩
  rcases hp.fresh D hc with h1 | h1 | h1
  · exact hf h1
  · exact hno h1
  · omega

structure Rel (c : Ctx) (B : Base) (n : Nat) (st : St) (a : Act) (w : World) (rho : Gh) (fz : Nat → Prop) : Prop where
  sl : ∀ t, RT w rho fz (lookup st.s t) (a.tmps.getD t undef)
  sz : a.tmps.size = n
  df : Marks w fz B.w.heap.size a.defers
  pre : Pre c w rho fz st
  pres : Pres B.w (Owned B.rho B.h) B.fz w fz
  same : ∀ id, id < B.h.length → rho id = B.rho id
  len : B.h.length ≤ st.h.length
  own : ∀ b, Owned rho st.h b → Owned B.rho B.h b ∨ B.w.heap.size ≤ b

section
variable {c : Ctx} {B : Base} {n : Nat} {o : Oper} {a : Act} {w : World} {rho : Gh} {fz : Nat → Prop} {st : St} {K : St → Prop} {mu : Nat → Bool}

theorem tmps_put (a : Act) (d : Nat) (v : Value) (hd : d < a.tmps.size) (t : Nat) : (a.put (some d) v).tmps.getD t undef = if t = d then v else a.tmps.getD t undef := by
  simp only [Act.put, Array.getD_eq_getD_getElem?, Array.getElem?_setIfInBounds]
  by_cases e : t = d
  · subst e; simp [hd]
  · simp [e, Ne.symm e]

theorem size_put (a : Act) (d : Option Nat) (v : Value) : (a.put d v).tmps.size = a.tmps.size := by
  cases d <;> simp [Act.put]

theorem defers_put (a : Act) (d : Option Nat) (v : Value) : (a.put d v).defers = a.defers := by
  cases d <;> rfl

/-- A slot that was written. -/
theorem Rel.put (h : Rel c B n st a w rho fz) (d : Option Nat) (hd : ∀ x, d = some x → x < n) {r : AV} {v : Value} (hr : RT w rho fz r v) : Rel c B n (st.setO d r) (a.put d v) w rho fz := by
  cases d with
  | none => exact h
  | some d =>
    refine ⟨fun t => ?_, by rw [size_put]; exact h.sz, by rw [defers_put]; exact h.df, ⟨h.pre.hr, h.pre.ok, h.pre.gl⟩, h.pres, h.same, h.len, h.own⟩
    rw [tmps_put a d v (by rw [h.sz]; exact hd d rfl) t]
    show RT w rho fz (if t = d then r else lookup st.s t) _
    by_cases e : t = d
    · rw [if_pos e, if_pos e]; exact hr
    · rw [if_neg e, if_neg e]; exact h.sl t

/-- Behind a step. -/
theorem Rel.step (h : Rel c B n st a w rho fz) {w' : World} {rho' : Gh} {fz' : Nat → Prop} {h' : AHeap} (hg : Good w rho fz st.h w' rho' fz' h') : Rel c B n ⟨st.s, h'⟩ a w' rho' fz' := by
  have hro : ∀ id p, rho id = some p → rho' id = some p := fun id p hp => by
    rw [hg.same id (by
      rcases Nat.lt_or_ge id st.h.length with h5 | h5
      · exact h5
      · rw [h.pre.hr.dom id h5] at hp; cases hp)]
    exact hp
  have hfw : ∀ b, fz b → w'.heap[b]? = w.heap[b]? := fun b hb => hg.pres.block b (h.pre.ok b hb) (fun hc => (Owned.lt h.pre.hr hc).2 hb)
  refine ⟨fun t => (h.sl t).mono hfw hg.pres.keep hg.pres.shape hro, h.sz, h.df.pres h.pre.hr hg.pres, ⟨hg.hr, hg.ok, h.pre.gl.mono hfw hg.pres.keep⟩, h.pres.trans hg.pres h.own, fun id hid => ?_, Nat.le_trans h.len hg.len, fun b hb => ?_⟩
  · rw [hg.same id (Nat.lt_of_lt_of_le hid h.len)]; exact h.same id hid
  · rcases hg.own b hb with h5 | h5
    · exact h.own b h5
    · exact .inr (Nat.le_trans h.pres.size h5)

theorem not_of_ne : ∀ (b u : Bool), ¬ b = u → b = !u ∧ (b == u) = false := by decide

theorem guard_bool {ops : Array Oper} {j t : Nat} {b want : Bool} (hg : o.guard = some (j, want)) (ht : (ops[j]?).bind (·.dst) = some t) (hv : a.tmps.getD t undef = .bool b) : Region.wanted o (yielded ops a.tmps) = (b == want) := by
  unfold Region.wanted
  rw [hg]
  simp only [yielded, ht, Option.bind_some]
  have : a.tmps[t]? = some (.bool b) := by
    rw [Array.getD_eq_getD_getElem?] at hv
    cases h1 : a.tmps[t]? with
    | none => rw [h1] at hv; simp [undef] at hv
    | some u => rw [h1] at hv; simp at hv; rw [hv]
  rw [this]
  cases b <;> cases want <;> rfl

theorem guard_skip {ops : Array Oper} {j t : Nat} {want : Bool} (hg : o.guard = some (j, want)) (ht : (ops[j]?).bind (·.dst) = some t) (hv : a.tmps.getD t undef = .tuple #[]) : Region.wanted o (yielded ops a.tmps) = false := by
  unfold Region.wanted
  rw [hg]
  simp only [yielded, ht, Option.bind_some]
  have : a.tmps[t]? = some (.tuple #[]) ∨ a.tmps[t]? = none := by
    rw [Array.getD_eq_getD_getElem?] at hv
    cases h1 : a.tmps[t]? with
    | none => exact .inr rfl
    | some u => rw [h1] at hv; simp at hv; rw [hv]; exact .inl rfl
  rcases this with h | h <;> rw [h] <;> rfl

/-- One operation with its guard, in whatever walk. -/
theorem one_sound {ops : Array Oper} {k : Nat} {g : GI} (ho : ops[k]? = some o) (hc : opG c.P c.gt mu n ops o = some g) {l : List GI} (h : aops c (g :: l) st K) (hr : Rel c B n st a w rho fz) {Q : Exit → Act → World → Prop} {M : Act → World → Prop}
    (next : ∀ st' a' w' rho' fz', aops c l st' K → Rel c B n st' a' w' rho' fz' → M a' w') : wpOp c.P ops Q k M a w := by
  unfold opG at hc
  split at hc
  · cases hc
  rename_i i hi
  split at hc
  case isFalse => cases hc
  rename_i hcond
  obtain ⟨hd, hdn⟩ := hcond
  have hdn' : ∀ x, o.dst = some x → x < n := fun x hx => by rw [hx] at hdn; simpa [dstOk] using hdn
  have run : ∀ (st1 : St), Rel c B n st1 a w rho fz → astep c i st1 (fun st' => aops c l st' K) → o.wp c.P a w M Q := by
    intro st1 hr1 hs
    refine stepJ_sound hi hs hr1.pre (fun y _ t _ => hr1.sl t) M Q (fun r h' v w' rho' fz' hk hg hrt => ?_)
    have h2 := (hr1.step hg).put o.dst hdn' hrt
    refine next _ _ _ rho' fz' hk ?_
    have e : upd i st1 r h' = (⟨st1.s, h'⟩ : St).setO o.dst r := by
      simp only [upd, hd, St.setO]
      cases o.dst <;> rfl
    rw [e]
    exact h2
  unfold wpOp
  rw [ho]
  simp only
  split at hc
  · rename_i hgd
    cases hc
    have hw : Region.wanted o (yielded ops a.tmps) = true := by unfold Region.wanted; rw [hgd]
    rw [hw, if_pos rfl]
    simp only [aops] at h
    exact .inl (run st hr h)
  · rename_i j want hgd
    split at hc
    case h_2 => cases hc
    rename_i t ht
    cases hc
    simp only [aops] at h
    have hst := hr.sl t
    split at h
    · rename_i b hb
      rw [hb] at hst
      have hw := guard_bool hgd ht hst.bool
      rw [hw]
      by_cases e : b = want
      · subst e
        simp only [beq_self_eq_true, if_true]
        refine .inl (run _ ?_ (h.1 rfl))
        refine ⟨fun t' => ?_, hr.sz, hr.df, ⟨hr.pre.hr, hr.pre.ok, hr.pre.gl⟩, hr.pres, hr.same, hr.len, hr.own⟩
        show RT w rho fz (if t' = t then .bool b else lookup st.s t') _
        by_cases e' : t' = t
        · rw [if_pos e', e']; exact hst
        · rw [if_neg e']; exact hr.sl t'
      · obtain ⟨e2, e3⟩ := not_of_ne b want e
        rw [e3]
        simp only [Bool.false_eq_true, if_false]
        refine next _ _ _ rho fz (h.2 e2) ?_
        refine Rel.put ?_ o.dst hdn' (.of _ _ (.tuple [] #[] rfl (fun i a hi => by simp at hi)))
        refine ⟨fun t' => ?_, hr.sz, hr.df, ⟨hr.pre.hr, hr.pre.ok, hr.pre.gl⟩, hr.pres, hr.same, hr.len, hr.own⟩
        show RT w rho fz (if t' = t then .bool (!want) else lookup st.s t') _
        by_cases e' : t' = t
        · rw [if_pos e', e', ← e2]; exact hst
        · rw [if_neg e']; exact hr.sl t'
    · rename_i hb
      rw [hb] at hst
      obtain ⟨vs, hv, hl, _⟩ := hst.tuple'
      have hv0 : vs = #[] := Array.eq_empty_of_size_eq_zero hl
      rw [hv0] at hv
      have hw := guard_skip hgd ht hv
      rw [hw]
      simp only [Bool.false_eq_true, if_false]
      exact next _ _ _ rho fz h (hr.put o.dst hdn' (.of _ _ (.tuple [] #[] rfl (fun i a hi => by simp at hi))))
    · exact h.elim

theorem opGs_get {P : Program} {gt : List (Nat × List AV)} {ops : Array Oper} : ∀ {l : List Oper} {gs : List GI}, opGs P gt mu n ops l = some gs → l.length = gs.length ∧ ∀ (k : Nat) (o : Oper), l[k]? = some o → ∃ g, gs[k]? = some g ∧ opG P gt mu n ops o = some g
  | [], gs, h => by cases h; exact ⟨rfl, fun k o hk => by simp at hk⟩
  | x :: l, gs, h => by
    unfold opGs at h
    split at h
    · rename_i g m h1 h2
      cases h
      obtain ⟨e1, e2⟩ := opGs_get h2
      refine ⟨by simp [e1], fun k o hk => ?_⟩
      cases k with
      | zero => simp at hk; subst hk; exact ⟨g, rfl, h1⟩
      | succ k => exact e2 k o (by simpa using hk)
    · cases h

theorem seq_sound {ops : Array Oper} {gs : List GI} (hc : opGs c.P c.gt mu n ops ops.toList = some gs) {Q : Exit → Act → World → Prop} (hQ : ∀ st a w rho fz, K st → Rel c B n st a w rho fz → Q .normal a w) :
    ∀ (m k : Nat), k + m = ops.size → ∀ (st : St) (a : Act) (w : World) (rho : Gh) (fz : Nat → Prop), aops c (gs.drop k) st K → Rel c B n st a w rho fz → wpOps c.P ops Q (List.range' k m) a w
  | 0, k, hk, st, a, w, rho, fz, h, hr => by
    have hl := (opGs_get hc).1
    have : gs.drop k = [] := List.drop_eq_nil_of_le (by rw [← hl]; simp; omega)
    rw [this] at h
    simp only [List.range', wpOps]
    exact hQ st a w rho fz h hr
  | m + 1, k, hk, st, a, w, rho, fz, h, hr => by
    have hlt : k < ops.size := by omega
    obtain ⟨g, h1, h2⟩ := (opGs_get hc).2 k ops[k] (by simp)
    have hdrop : gs.drop k = g :: gs.drop (k + 1) := by
      have hlt' := (List.getElem?_eq_some_iff.1 h1).1
      rw [List.drop_eq_getElem_cons hlt', (List.getElem?_eq_some_iff.1 h1).2]
    rw [hdrop] at h
    simp only [List.range']
    rw [wpOps_cons]
    exact one_sound (by simp) h2 h hr (fun st' a' w' rho' fz' h' hr' => seq_sound hc hQ m (k + 1) (by omega) st' a' w' rho' fz' h' hr')

end
end Go.Proofs.YtkjnjdcbnelceaaGreatDoor.KA
end

section
/- Soundness of a region whose order is open: any order comes to what the text's order comes to. Nothing here concerns a given program. -/
set_option linter.unusedVariables false
set_option linter.unusedSimpArgs false
set_option linter.unnecessarySimpa false
namespace Go.Proofs.YtkjnjdcbnelceaaGreatDoor.KA
open Go

/-- Operations that turn the heap. -/
def isW : I → Bool
  | .store _ _ _ | .clear _ _ _ | .mksl _ _ _ _ _ _ | .append _ _ _ _ _ _ => true
  | .box _ _ m => m
  | .alloc _ _ m => m
  | .allocT _ _ _ => true
  | .bsl _ _ _ m => m
  | .call _ _ _ wr => wr
  | _ => false

/-- Operations that look at the heap, or turn it. -/
def isH : I → Bool
  | .load _ _ _ _ | .call _ _ _ _ | .slca _ _ _ _ _ _ => true
  | i => isW i

/-- Operations of which more than one way on is open. -/
def isFork : I → Bool
  | .eqn _ _ kd _ => kd == 0
  | _ => false

theorem arith_ex {op : BinOp} {k : IntKind} {x y : Int} {K : AV → Prop} (h : arith op k x y K) : ∃ r, K r ∧ ∀ K' : AV → Prop, K' r → arith op k x y K' := by
  cases op <;> simp only [arith] at h ⊢ <;> first
    | exact h.elim
    | exact ⟨_, h, fun _ hh => hh⟩
    | exact ⟨_, h.2, fun _ hh => ⟨h.1, hh⟩⟩

theorem strOp_ex {op : BinOp} {x y : List UInt8} {K : AV → Prop} (h : strOp op x y K) : ∃ r, K r ∧ ∀ K' : AV → Prop, K' r → strOp op x y K' := by
  cases op <;> simp only [strOp] at h ⊢ <;> first
    | exact h.elim
    | exact ⟨_, h, fun _ hh => hh⟩
    | exact ⟨_, h.2, fun _ hh => ⟨h.1, hh⟩⟩

theorem astep_ex {c : Ctx} {i : I} (hf : isFork i = false) {st : St} {K : St → Prop} (h : astep c i st K) : ∃ st', astep c i st (fun x => x = st') ∧ K st' := by
  cases i with
  | eqn d neg kd x =>
    simp only [astep] at h ⊢
    unfold onNil at h ⊢
    split at h <;> first | (simp [isFork] at hf; done) | exact h.elim | exact ⟨_, rfl, h⟩
  | bad => exact h.elim
  | loadf d ag sz x =>
    simp only [astep] at h ⊢
    generalize st.ev x = z at *
    cases z with
    | fp cs =>
      cases ag
      · simp only [Bool.false_eq_true, if_false] at h ⊢
        obtain ⟨v, h1, h2⟩ := h
        exact ⟨_, ⟨v, h1, rfl⟩, h2⟩
      · simp only [if_true] at h ⊢
        exact ⟨_, ⟨h.1, rfl⟩, h.2⟩
    | _ => exact h.elim
  | idxv d ag sz n x y =>
    simp only [astep, onInt] at h ⊢
    split at h
    · obtain ⟨g1, g2, h⟩ := h
      generalize st.ev x = z at *
      cases z with
      | agg cs =>
        cases ag
        · simp only [Bool.false_eq_true, if_false] at h ⊢
          obtain ⟨v, h1, h2⟩ := h
          exact ⟨_, ⟨g1, g2, v, h1, rfl⟩, h2⟩
        · simp only [if_true] at h ⊢
          exact ⟨_, ⟨g1, g2, h.1, rfl⟩, h.2⟩
      | _ => exact h.elim
    · exact h.elim
  | mv d x => exact ⟨_, rfl, h⟩
  | pick d q x y =>
    simp only [astep, onBool] at h ⊢
    split at h
    · rename_i t ht
      cases t
      · exact ⟨_, ⟨fun e => (by cases e), fun _ => rfl⟩, h.2 rfl⟩
      · exact ⟨_, ⟨fun _ => rfl, fun e => (by cases e)⟩, h.1 rfl⟩
    · exact h.elim
  | box d x m => cases m <;> simp only [astep] at h ⊢ <;> first | exact ⟨_, rfl, h⟩ | exact ⟨_, ⟨h.1, rfl⟩, h.2⟩
  | alloc d z m => cases m <;> simp only [astep] at h ⊢ <;> first | exact ⟨_, rfl, h⟩ | exact ⟨_, ⟨h.1, rfl⟩, h.2⟩
  | allocT d T z => exact ⟨_, rfl, h⟩
  | build d z ps =>
    simp only [astep] at h ⊢
    obtain ⟨cs, h1, h2⟩ := h
    exact ⟨_, ⟨cs, h1, rfl⟩, h2⟩
  | bsl d sz xs m =>
    cases xs <;> cases m <;> simp only [astep] at h ⊢
    · exact ⟨_, rfl, h⟩
    · exact ⟨_, rfl, h⟩
    · exact ⟨_, ⟨h.1, h.2.1, rfl⟩, h.2.2⟩
    · exact ⟨_, ⟨h.1, rfl⟩, h.2⟩
  | mksl d sz bytes z x y =>
    simp only [astep, onInt] at h ⊢
    split at h
    · split at h
      · exact ⟨_, ⟨h.1, h.2.1, h.2.2.1, h.2.2.2.1, h.2.2.2.2.1, rfl⟩, h.2.2.2.2.2⟩
      · exact h.elim
    · exact h.elim
  | load d ag sz x =>
    simp only [astep] at h ⊢
    generalize st.ev x = z at *
    cases z with
    | fp cs =>
      cases ag
      · simp only [Bool.false_eq_true, if_false] at h ⊢
        obtain ⟨v, h1, h2⟩ := h
        exact ⟨_, ⟨v, h1, rfl⟩, h2⟩
      · simp only [if_true] at h ⊢
        exact ⟨_, ⟨h.1, rfl⟩, h.2⟩
    | ref id off =>
      cases ag
      · simp only [Bool.false_eq_true, if_false] at h ⊢
        obtain ⟨cs, h0, v, h1, h2⟩ := h
        exact ⟨_, ⟨cs, h0, v, h1, rfl⟩, h2⟩
      · simp only [if_true] at h ⊢
        obtain ⟨cs, h0, h1, h2⟩ := h
        exact ⟨_, ⟨cs, h0, h1, rfl⟩, h2⟩
    | _ => exact h.elim
  | store sz x y =>
    simp only [astep] at h ⊢
    generalize st.ev x = z at *
    cases z with
    | ref id off =>
      obtain ⟨cs, h0, h1, h2, h3⟩ := h
      exact ⟨_, ⟨cs, h0, h1, h2, rfl⟩, h3⟩
    | _ => exact h.elim
  | bin d op x y =>
    simp only [astep] at h ⊢
    unfold binK at h ⊢
    split at h
    · exact ⟨_, ⟨h.1, rfl⟩, h.2⟩
    · exact ⟨_, ⟨h.1, rfl⟩, h.2⟩
    · obtain ⟨r, h1, h2⟩ := arith_ex h.2
      exact ⟨_, ⟨h.1, h2 (fun r => st.set d r = _) rfl⟩, h1⟩
    · obtain ⟨r, h1, h2⟩ := strOp_ex h
      exact ⟨_, h2 (fun r => st.set d r = _) rfl, h1⟩
    · exact h.elim
  | eqb d neg x y =>
    simp only [astep, onBool] at h ⊢
    split at h
    · split at h
      · exact ⟨_, rfl, h⟩
      · exact h.elim
    · exact h.elim
  | eqs d neg ls x y =>
    simp only [astep] at h ⊢
    split at h
    · obtain ⟨r, h1, h2⟩ := h
      exact ⟨_, ⟨r, h1, rfl⟩, h2⟩
    · exact h.elim
  | not d x =>
    simp only [astep, onBool] at h ⊢
    split at h
    · exact ⟨_, rfl, h⟩
    · exact h.elim
  | neg d x =>
    simp only [astep, onInt] at h ⊢
    split at h
    · exact ⟨_, rfl, h⟩
    · exact h.elim
  | conv d k x =>
    simp only [astep, onInt] at h ⊢
    split at h
    · exact ⟨_, rfl, h⟩
    · exact h.elim
  | cvs d x =>
    simp only [astep, onStr] at h ⊢
    split at h
    · exact ⟨_, rfl, h⟩
    · exact h.elim
  | fld d off x =>
    simp only [astep] at h ⊢
    generalize st.ev x = z at *
    cases z with
    | fp cs => exact ⟨_, ⟨h.1, rfl⟩, h.2⟩
    | ref id o => exact ⟨_, rfl, h⟩
    | tref T n id => exact ⟨_, rfl, h⟩
    | _ => exact h.elim
  | fldv d ag off sz x =>
    simp only [astep] at h ⊢
    generalize st.ev x = z at *
    cases z with
    | agg cs =>
      cases ag
      · simp only [Bool.false_eq_true, if_false] at h ⊢
        obtain ⟨v, h1, h2⟩ := h
        exact ⟨_, ⟨v, h1, rfl⟩, h2⟩
      · simp only [if_true] at h ⊢
        exact ⟨_, ⟨h.1, rfl⟩, h.2⟩
    | _ => exact h.elim
  | idxa d sz m x y =>
    cases m with
    | none =>
      simp only [astep, onInt] at h ⊢
      split at h
      · generalize st.ev x = z at *
        cases z with
        | sl sz' xs =>
          obtain ⟨h0, h1, e, h2, h3⟩ := h
          exact ⟨_, ⟨h0, h1, e, h2, rfl⟩, h3⟩
        | own sz' id off len cap => exact ⟨_, ⟨h.1, h.2.1, h.2.2.1, rfl⟩, h.2.2.2⟩
        | _ => exact h.elim
      · exact h.elim
    | some m =>
      simp only [astep, onInt] at h ⊢
      split at h
      · obtain ⟨h0, h1, h⟩ := h
        generalize st.ev x = z at *
        cases z with
        | fp cs => exact ⟨_, ⟨h0, h1, h.1, rfl⟩, h.2⟩
        | ref id off => exact ⟨_, ⟨h0, h1, rfl⟩, h⟩
        | _ => exact h.elim
      · exact h.elim
  | idx d x y =>
    simp only [astep, onStr, onInt] at h ⊢
    split at h
    · split at h
      · obtain ⟨h0, b, h1, h2⟩ := h
        exact ⟨_, ⟨h0, b, h1, rfl⟩, h2⟩
      · exact h.elim
    · exact h.elim
  | slc d sz x lo hi mx =>
    simp only [astep] at h ⊢
    have ex : ∀ {v : Option AV} {dd : Nat} {M : Nat → Prop}, onLo v dd M → ∃ q, M q ∧ ∀ {M' : Nat → Prop}, M' q → onLo v dd M' := by
      intro v dd M hh
      unfold onLo at hh ⊢
      split at hh
      · exact ⟨dd, hh, fun hh => hh⟩
      · exact ⟨_, hh.2, fun h2 => ⟨hh.1, h2⟩⟩
      · exact hh.elim
    generalize st.ev x = z at *
    cases z with
    | sl sz' xs =>
      obtain ⟨h0, h1, h⟩ := h
      obtain ⟨q1, h, g1⟩ := ex h
      obtain ⟨q2, h, g2⟩ := ex h
      exact ⟨_, ⟨h0, h1, g1 (g2 ⟨h.1, h.2.1, rfl⟩)⟩, h.2.2⟩
    | own sz' id off len cap =>
      obtain ⟨h0, h⟩ := h
      obtain ⟨q0, h, g0⟩ := ex h
      obtain ⟨q1, h, g1⟩ := ex h
      obtain ⟨q2, h, g2⟩ := ex h
      exact ⟨_, ⟨h0, g0 (g1 (g2 ⟨h.1, h.2.1, h.2.2.1, h.2.2.2.1, rfl⟩))⟩, h.2.2.2.2⟩
    | nils =>
      obtain ⟨q0, h, g0⟩ := ex h
      obtain ⟨q1, h, g1⟩ := ex h
      obtain ⟨q2, h, g2⟩ := ex h
      exact ⟨_, g0 (g1 (g2 ⟨h.1, h.2.1, h.2.2.1, rfl⟩)), h.2.2.2⟩
    | emp =>
      obtain ⟨q0, h, g0⟩ := ex h
      obtain ⟨q1, h, g1⟩ := ex h
      obtain ⟨q2, h, g2⟩ := ex h
      exact ⟨_, g0 (g1 (g2 ⟨h.1, h.2.1, h.2.2.1, rfl⟩)), h.2.2.2⟩
    | _ => exact h.elim
  | slcs d x lo hi =>
    simp only [astep, onStr] at h ⊢
    have ex : ∀ {v : Option AV} {dd : Nat} {M : Nat → Prop}, onLo v dd M → ∃ q, M q ∧ ∀ {M' : Nat → Prop}, M' q → onLo v dd M' := by
      intro v dd M hh
      unfold onLo at hh ⊢
      split at hh
      · exact ⟨dd, hh, fun hh => hh⟩
      · exact ⟨_, hh.2, fun h2 => ⟨hh.1, h2⟩⟩
      · exact hh.elim
    split at h
    · obtain ⟨q1, h, g1⟩ := ex h
      obtain ⟨q2, h, g2⟩ := ex h
      exact ⟨_, g1 (g2 ⟨h.1, h.2.1, rfl⟩), h.2.2⟩
    · exact h.elim
  | slca d sz n x lo hi =>
    simp only [astep] at h ⊢
    have ex : ∀ {v : Option AV} {dd : Nat} {M : Nat → Prop}, onLo v dd M → ∃ q, M q ∧ ∀ {M' : Nat → Prop}, M' q → onLo v dd M' := by
      intro v dd M hh
      unfold onLo at hh ⊢
      split at hh
      · exact ⟨dd, hh, fun hh => hh⟩
      · exact ⟨_, hh.2, fun h2 => ⟨hh.1, h2⟩⟩
      · exact hh.elim
    generalize st.ev x = z at *
    cases z with
    | ref id off =>
      obtain ⟨q1, h, g1⟩ := ex h
      obtain ⟨q2, h, g2⟩ := ex h
      exact ⟨_, g1 (g2 ⟨h.1, h.2.1, h.2.2.1, h.2.2.2.1, rfl⟩), h.2.2.2.2⟩
    | _ => exact h.elim
  | len d x =>
    simp only [astep] at h ⊢
    generalize st.ev x = z at *
    cases z <;> first | exact ⟨_, rfl, h⟩ | exact h.elim
  | cap d x =>
    simp only [astep] at h ⊢
    generalize st.ev x = z at *
    cases z <;> first | exact ⟨_, rfl, h⟩ | exact h.elim
  | lens d x =>
    simp only [astep, onStr] at h ⊢
    split at h
    · exact ⟨_, rfl, h⟩
    · exact h.elim
  | append d sz bytes x y m =>
    simp only [astep] at h ⊢
    have main : ∀ xs : List AV, ((xs = [] → match st.ev x with
        | .nils => K (st.set d .nils)
        | .emp => K (st.set d .emp)
        | .own sz' id off len cap => m = true ∧ K (st.set d (.own sz' id off len cap))
        | _ => False) ∧
      (xs ≠ [] → dstCells st.h sz (st.ev x) fun n q old h1 => (n + xs.length) * bytes ≤ 1099511627776 ∧ n + xs.length ≤ 1099511627776 ∧
        (if m then K ⟨(d, .own sz st.h.length 0 (n + xs.length) (max (n + xs.length) q)) :: st.s, h1 ++ [some (old ++ (xs.flatMap AV.cells ++ List.replicate ((max (n + xs.length) q - (n + xs.length)) * sz) AV.undef))]⟩
         else ∃ ys, old = ys.flatMap AV.cells ∧ (∀ y ∈ ys, y.isElem sz = true) ∧ ys.length = n ∧ AV.plainL ys = true ∧ AV.plainL xs = true ∧ K ⟨(d, .sl sz (ys ++ xs)) :: st.s, h1⟩))) →
        ∃ st', K st' ∧ ((xs = [] → match st.ev x with
        | .nils => st.set d .nils = st'
        | .emp => st.set d .emp = st'
        | .own sz' id off len cap => m = true ∧ st.set d (.own sz' id off len cap) = st'
        | _ => False) ∧
      (xs ≠ [] → dstCells st.h sz (st.ev x) fun n q old h1 => (n + xs.length) * bytes ≤ 1099511627776 ∧ n + xs.length ≤ 1099511627776 ∧
        (if m then (⟨(d, .own sz st.h.length 0 (n + xs.length) (max (n + xs.length) q)) :: st.s, h1 ++ [some (old ++ (xs.flatMap AV.cells ++ List.replicate ((max (n + xs.length) q - (n + xs.length)) * sz) AV.undef))]⟩ : St) = st'
         else ∃ ys, old = ys.flatMap AV.cells ∧ (∀ y ∈ ys, y.isElem sz = true) ∧ ys.length = n ∧ AV.plainL ys = true ∧ AV.plainL xs = true ∧ (⟨(d, .sl sz (ys ++ xs)) :: st.s, h1⟩ : St) = st'))) := by
      rintro xs ⟨h1, h2⟩
      by_cases hx : xs = []
      · have h1 := h1 hx
        generalize st.ev x = z at *
        cases z with
        | nils => exact ⟨_, h1, fun _ => rfl, fun hn => absurd hx hn⟩
        | emp => exact ⟨_, h1, fun _ => rfl, fun hn => absurd hx hn⟩
        | own => exact ⟨_, h1.2, fun _ => ⟨h1.1, rfl⟩, fun hn => absurd hx hn⟩
        | _ => exact h1.elim
      · have h2 := h2 hx
        have fin : ∀ (n q : Nat) (old : List AV) (h1 : AHeap), ((n + xs.length) * bytes ≤ 1099511627776 ∧ n + xs.length ≤ 1099511627776 ∧
          (if m then K ⟨(d, .own sz st.h.length 0 (n + xs.length) (max (n + xs.length) q)) :: st.s, h1 ++ [some (old ++ (xs.flatMap AV.cells ++ List.replicate ((max (n + xs.length) q - (n + xs.length)) * sz) AV.undef))]⟩
           else ∃ ys, old = ys.flatMap AV.cells ∧ (∀ y ∈ ys, y.isElem sz = true) ∧ ys.length = n ∧ AV.plainL ys = true ∧ AV.plainL xs = true ∧ K ⟨(d, .sl sz (ys ++ xs)) :: st.s, h1⟩)) →
          ∃ st', K st' ∧ ((n + xs.length) * bytes ≤ 1099511627776 ∧ n + xs.length ≤ 1099511627776 ∧
          (if m then (⟨(d, .own sz st.h.length 0 (n + xs.length) (max (n + xs.length) q)) :: st.s, h1 ++ [some (old ++ (xs.flatMap AV.cells ++ List.replicate ((max (n + xs.length) q - (n + xs.length)) * sz) AV.undef))]⟩ : St) = st'
           else ∃ ys, old = ys.flatMap AV.cells ∧ (∀ y ∈ ys, y.isElem sz = true) ∧ ys.length = n ∧ AV.plainL ys = true ∧ AV.plainL xs = true ∧ (⟨(d, .sl sz (ys ++ xs)) :: st.s, h1⟩ : St) = st')) := by
          rintro n q old h1 ⟨a1, a2, a3⟩
          cases m
          · simp only [Bool.false_eq_true, if_false] at a3 ⊢
            obtain ⟨ys, b1, b2, b3, b4, b5, b6⟩ := a3
            exact ⟨_, b6, a1, a2, ys, b1, b2, b3, b4, b5, rfl⟩
          · simp only [if_true] at a3 ⊢
            exact ⟨_, a3, a1, a2, rfl⟩
        generalize st.ev x = z at *
        cases z with
        | nils => obtain ⟨st', g1, g2⟩ := fin _ _ _ _ h2; exact ⟨st', g1, fun hn => absurd hn hx, fun _ => g2⟩
        | emp => obtain ⟨st', g1, g2⟩ := fin _ _ _ _ h2; exact ⟨st', g1, fun hn => absurd hn hx, fun _ => g2⟩
        | own sz' id off len cap =>
          obtain ⟨b1, cs, b2, b3, b4⟩ := h2
          obtain ⟨st', g1, g2⟩ := fin _ _ _ _ b4
          exact ⟨st', g1, fun hn => absurd hn hx, fun _ => ⟨b1, cs, b2, b3, g2⟩⟩
        | _ => exact h2.elim
    unfold srcElems at h ⊢
    split at h
    · obtain ⟨st', g1, g2⟩ := main _ h; exact ⟨st', g2, g1⟩
    · obtain ⟨st', g1, g2⟩ := main _ h; exact ⟨st', g2, g1⟩
    · obtain ⟨b1, h⟩ := h; obtain ⟨st', g1, g2⟩ := main _ h; exact ⟨st', ⟨b1, g2⟩, g1⟩
    · obtain ⟨b1, h⟩ := h; obtain ⟨st', g1, g2⟩ := main _ h; exact ⟨st', ⟨b1, g2⟩, g1⟩
    · obtain ⟨xs, b1, b2, h⟩ := h; obtain ⟨st', g1, g2⟩ := main _ h; exact ⟨st', ⟨xs, b1, b2, g2⟩, g1⟩
  | call d f as wr =>
    simp only [astep] at h ⊢
    generalize st.ev f = z at *
    cases z with
    | fn g caps =>
      simp only at h ⊢
      rcases h with ⟨as', r, h1, h2, h3, h4⟩ | ⟨h0, F, as', r, h1, h3, h4⟩ | ⟨h0, sg, as', ch, r, ch', h1, h2, h3, h4, h5, h6, h7⟩
      · exact ⟨_, .inl ⟨as', r, h1, h2, h3, rfl⟩, h4⟩
      · exact ⟨_, .inr (.inl ⟨h0, F, as', r, h1, h3, rfl⟩), h4⟩
      · exact ⟨_, .inr (.inr ⟨h0, sg, as', ch, r, ch', h1, h2, h3, h4, h5, h6, rfl⟩), h7⟩
    | _ => exact h.elim
  | max d x y =>
    simp only [astep, onInt] at h ⊢
    split at h
    · split at h
      · exact ⟨_, rfl, h⟩
      · exact h.elim
    · exact h.elim
  | min d x y =>
    simp only [astep, onInt] at h ⊢
    split at h
    · split at h
      · exact ⟨_, rfl, h⟩
      · exact h.elim
    · exact h.elim
  | clear sz z x =>
    simp only [astep] at h ⊢
    generalize st.ev x = zz at *
    cases zz with
    | own sz' id off len cap =>
      obtain ⟨b1, b2, cs, b3, b4, b5⟩ := h
      exact ⟨_, ⟨b1, b2, cs, b3, b4, rfl⟩, b5⟩
    | _ => exact h.elim
  | ext d x k =>
    simp only [astep] at h ⊢
    generalize st.ev x = z at *
    cases z with
    | tuple vs =>
      obtain ⟨v, h1, h2⟩ := h
      exact ⟨_, ⟨v, h1, rfl⟩, h2⟩
    | _ => exact h.elim
  | mkfn d f l => exact ⟨_, rfl, h⟩
  | iface d t x => exact ⟨_, rfl, h⟩
  | nilchk d x =>
    simp only [astep] at h ⊢
    generalize st.ev x = z at *
    cases z <;> first | exact ⟨_, rfl, h⟩ | exact h.elim

end Go.Proofs.YtkjnjdcbnelceaaGreatDoor.KA
end

section
/- Soundness of a region whose order is open, second part. Nothing here concerns a given program. -/
set_option linter.unusedVariables false
set_option linter.unusedSimpArgs false
set_option linter.unnecessarySimpa false
namespace Go.Proofs.YtkjnjdcbnelceaaGreatDoor.KA
open Go

theorem ev_move (s : List (Nat × AV)) (h h2 : AHeap) : St.ev ⟨s, h2⟩ = St.ev ⟨s, h⟩ := funext fun x => by cases x <;> rfl

/-- What does not look at the heap goes the same way over another heap. -/
theorem nonH_move {c : Ctx} {i : I} (hi : isH i = false) {s : List (Nat × AV)} {h h2 : AHeap} {K : St → Prop} (hs : astep c i ⟨s, h⟩ K) : astep c i ⟨s, h2⟩ (fun x => K ⟨x.s, h⟩) := by
  have e := ev_move s h h2
  cases i with
  | box d x m => cases m <;> first | (simp only [astep, e] at hs ⊢; exact hs) | cases hi
  | alloc d z m => cases m <;> first | (simp only [astep, e] at hs ⊢; exact hs) | cases hi
  | allocT => cases hi
  | bsl d sz xs m => cases m <;> cases xs <;> first | (simp only [astep, e] at hs ⊢; exact hs) | cases hi
  | load => cases hi
  | call => cases hi
  | slca => cases hi
  | store => cases hi
  | clear => cases hi
  | mksl => cases hi
  | append => cases hi
  | idxa d sz m x y => cases m <;> (simp only [astep, e] at hs ⊢; exact hs)
  | bad => exact hs.elim
  | _ => simp only [astep, e] at hs ⊢; exact hs

/-- What does not turn the heap leaves it as it is. -/
theorem nonW_heap {c : Ctx} {i : I} (hi : isW i = false) {st st' : St} (hs : astep c i st (fun x => x = st')) : st'.h = st.h := by
  have ex : ∀ {v : Option AV} {dd : Nat} {M : Nat → Prop}, onLo v dd M → ∃ q, M q := by
    intro v dd M hh
    unfold onLo at hh
    split at hh
    · exact ⟨dd, hh⟩
    · exact ⟨_, hh.2⟩
    · exact hh.elim
  cases i with
  | mv d x => cases hs; rfl
  | pick d q x y =>
    simp only [astep, onBool] at hs
    split at hs
    · rename_i t ht
      cases t
      · have := hs.2 rfl; subst this; rfl
      · have := hs.1 rfl; subst this; rfl
    · exact hs.elim
  | box d x m =>
    cases m
    · simp only [astep] at hs; have := hs.2; subst this; rfl
    · cases hi
  | alloc d z m =>
    cases m
    · simp only [astep] at hs; have := hs.2; subst this; rfl
    · cases hi
  | allocT => cases hi
  | build d z ps => simp only [astep] at hs; obtain ⟨_, _, rfl⟩ := hs; rfl
  | bsl d sz xs m =>
    cases m
    · cases xs
      · simp only [astep] at hs; subst hs; rfl
      · simp only [astep] at hs; have := hs.2.2; subst this; rfl
    · cases hi
  | mksl => cases hi
  | load d ag sz x =>
    simp only [astep] at hs
    split at hs
    · split at hs
      · have := hs.2; subst this; rfl
      · obtain ⟨_, _, rfl⟩ := hs; rfl
    · obtain ⟨_, _, hs⟩ := hs
      split at hs
      · have := hs.2; subst this; rfl
      · obtain ⟨_, _, rfl⟩ := hs; rfl
    · exact hs.elim
  | store => cases hi
  | bin d op x y =>
    simp only [astep] at hs
    unfold binK at hs
    split at hs
    · have := hs.2; subst this; rfl
    · have := hs.2; subst this; rfl
    · obtain ⟨r, h1, h2⟩ := arith_ex hs.2; subst h1; rfl
    · obtain ⟨r, h1, h2⟩ := strOp_ex hs; subst h1; rfl
    · exact hs.elim
  | eqb d neg x y =>
    simp only [astep, onBool] at hs
    split at hs
    · split at hs
      · subst hs; rfl
      · exact hs.elim
    · exact hs.elim
  | eqs d neg ls x y =>
    simp only [astep] at hs
    split at hs
    · obtain ⟨_, _, rfl⟩ := hs; rfl
    · exact hs.elim
  | eqn d neg kd x =>
    simp only [astep] at hs
    unfold onNil at hs
    split at hs <;> first | (subst hs; rfl) | (have := hs.2; subst this; rfl) | exact hs.elim
  | not d x =>
    simp only [astep, onBool] at hs
    split at hs
    · subst hs; rfl
    · exact hs.elim
  | neg d x =>
    simp only [astep, onInt] at hs
    split at hs
    · subst hs; rfl
    · exact hs.elim
  | conv d k x =>
    simp only [astep, onInt] at hs
    split at hs
    · subst hs; rfl
    · exact hs.elim
  | cvs d x =>
    simp only [astep, onStr] at hs
    split at hs
    · subst hs; rfl
    · exact hs.elim
  | fld d off x =>
    simp only [astep] at hs
    split at hs
    · have := hs.2; subst this; rfl
    · subst hs; rfl
    · subst hs; rfl
    · exact hs.elim
  | bad => exact hs.elim
  | loadf d ag sz x =>
    simp only [astep] at hs
    split at hs
    · split at hs
      · have := hs.2; subst this; rfl
      · obtain ⟨_, _, rfl⟩ := hs; rfl
    · exact hs.elim
  | idxv d ag sz n x y =>
    simp only [astep, onInt] at hs
    split at hs
    · obtain ⟨_, _, hs⟩ := hs
      split at hs
      · split at hs
        · have := hs.2; subst this; rfl
        · obtain ⟨_, _, rfl⟩ := hs; rfl
      · exact hs.elim
    · exact hs.elim
  | fldv d ag off sz x =>
    simp only [astep] at hs
    split at hs
    · split at hs
      · have := hs.2; subst this; rfl
      · obtain ⟨_, _, rfl⟩ := hs; rfl
    · exact hs.elim
  | idxa d sz m x y =>
    cases m
    · simp only [astep, onInt] at hs
      split at hs
      · split at hs
        · obtain ⟨_, _, _, _, rfl⟩ := hs; rfl
        · obtain ⟨_, _, _, rfl⟩ := hs; rfl
        · exact hs.elim
      · exact hs.elim
    · simp only [astep, onInt] at hs
      split at hs
      · obtain ⟨_, _, hs⟩ := hs
        split at hs
        · have := hs.2; subst this; rfl
        · subst hs; rfl
        · exact hs.elim
      · exact hs.elim
  | idx d x y =>
    simp only [astep, onStr, onInt] at hs
    split at hs
    · split at hs
      · obtain ⟨_, _, _, rfl⟩ := hs; rfl
      · exact hs.elim
    · exact hs.elim
  | slc d sz x lo hi mx =>
    simp only [astep] at hs
    split at hs
    · obtain ⟨_, _, hs⟩ := hs
      obtain ⟨_, hs⟩ := ex hs
      obtain ⟨_, hs⟩ := ex hs
      have := hs.2.2; subst this; rfl
    · obtain ⟨_, hs⟩ := hs
      obtain ⟨_, hs⟩ := ex hs
      obtain ⟨_, hs⟩ := ex hs
      obtain ⟨_, hs⟩ := ex hs
      have := hs.2.2.2.2; subst this; rfl
    · obtain ⟨_, hs⟩ := ex hs
      obtain ⟨_, hs⟩ := ex hs
      obtain ⟨_, hs⟩ := ex hs
      have := hs.2.2.2; subst this; rfl
    · obtain ⟨_, hs⟩ := ex hs
      obtain ⟨_, hs⟩ := ex hs
      obtain ⟨_, hs⟩ := ex hs
      have := hs.2.2.2; subst this; rfl
    · exact hs.elim
  | slcs d x lo hi =>
    simp only [astep, onStr] at hs
    split at hs
    · obtain ⟨_, hs⟩ := ex hs
      obtain ⟨_, hs⟩ := ex hs
      have := hs.2.2; subst this; rfl
    · exact hs.elim
  | slca d sz n x lo hi =>
    simp only [astep] at hs
    split at hs
    · obtain ⟨_, hs⟩ := ex hs
      obtain ⟨_, hs⟩ := ex hs
      have := hs.2.2.2.2; subst this; rfl
    · exact hs.elim
  | len d x =>
    simp only [astep] at hs
    split at hs <;> first | (subst hs; rfl) | exact hs.elim
  | cap d x =>
    simp only [astep] at hs
    split at hs <;> first | (subst hs; rfl) | exact hs.elim
  | lens d x =>
    simp only [astep, onStr] at hs
    split at hs
    · subst hs; rfl
    · exact hs.elim
  | append => cases hi
  | call d f as wr =>
    simp only [isW] at hi
    subst hi
    simp only [astep] at hs
    split at hs
    · rcases hs with ⟨_, _, _, _, _, rfl⟩ | ⟨h0, _⟩ | ⟨h0, _⟩
      · cases d <;> rfl
      · cases h0
      · cases h0
    · exact hs.elim
  | max d x y =>
    simp only [astep, onInt] at hs
    split at hs
    · split at hs
      · subst hs; rfl
      · exact hs.elim
    · exact hs.elim
  | min d x y =>
    simp only [astep, onInt] at hs
    split at hs
    · split at hs
      · subst hs; rfl
      · exact hs.elim
    · exact hs.elim
  | clear => cases hi
  | ext d x k =>
    simp only [astep] at hs
    split at hs
    · obtain ⟨_, _, rfl⟩ := hs; rfl
    · exact hs.elim
  | mkfn d f l => cases hs; rfl
  | iface d t x => cases hs; rfl
  | nilchk d x =>
    simp only [astep] at hs
    split at hs <;> first | (subst hs; rfl) | exact hs.elim

/-- What is looked at: slots. -/
def rdSlots (g : GI) : List Nat := ((rdI g.i).flatMap rdO) ++ (match g.g with | some (t, _) => [t] | none => [])

/-- May two operations not change places, for their slots, or for the heap? -/
def confS (x y : GI) : Bool :=
  (match x.dst with | some d => (rdSlots y).contains d || y.dst == some d | none => false) ||
  (match y.dst with | some d => (rdSlots x).contains d | none => false)
def confH (x y : GI) : Bool := (isW x.i && isH y.i) || (isH x.i && isW y.i)

/-- A new block, and nothing else. -/
def isA (o : Oper) (g : GI) : Bool := g.g.isNone && (match o.op, g.i with | .alloc _, .alloc _ _ m => m | .box _ _, .box _ _ m => m | _, _ => false)

/-- Of what turns the heap there are only new blocks and stores. -/
def simpleW (gs : List GI) : Bool := gs.all fun g => !isW g.i || (match g.i with | .store _ _ _ => true | .alloc _ _ _ => true | .box _ _ _ => true | _ => false)

/-- New blocks whose order among themselves is of no account. -/
def tagA (ops : Array Oper) (gs : List GI) (k : Nat) : Bool := (match ops[k]?, gs[k]? with | some o, some g => isA o g | _, _ => false) && simpleW gs

/-- Operations that look at the heap, and leave it as it is. -/
def plainO : O → Bool
  | .t _ => true
  | .k b => b.plain
def reader (g : GI) : Bool := match g.i with | .load _ _ _ (.t _) => true | .call _ f args wr => !wr && (f :: args).all plainO | _ => false
/-- A load through a slot that the region does not write. -/
def eLoad (gs : List GI) (g : GI) : Bool := match g.i with | .load _ _ _ (.t t) => gs.all fun x => x.dst != some t | _ => false
/-- A store into a block that the region itself has laid. -/
def aStore (ops : Array Oper) (gs : List GI) (k : Nat) : Bool := simpleW gs && match gs[k]? with
  | some g => (match g.i with
    | .store _ (.t t) _ => ((List.range k).any fun j => tagA ops gs j && (gs[j]?).bind (·.dst) == some t) && ((List.range gs.length).all fun j => (gs[j]?).bind (·.dst) != some t || tagA ops gs j)
    | _ => false)
  | none => false
/-- A new block, and what looks at others. -/
def apartH (ops : Array Oper) (gs : List GI) (i j : Nat) (x y : GI) : Bool :=
  (reader x && tagA ops gs j) || (tagA ops gs i && reader y) || (eLoad gs x && aStore ops gs j) || (aStore ops gs i && eLoad gs y)

def conf (ops : Array Oper) (gs : List GI) (i j : Nat) (x y : GI) : Bool := confS x y || (confH x y && !(tagA ops gs i && tagA ops gs j) && !apartH ops gs i j x y)

/-- All that has come up before an operation can. -/
def befs (ops : Array Oper) : List (List Nat) :=
  ops.toList.foldl (fun acc o => acc ++ [o.after.toList.flatMap fun e => if Region.binds .any e then e.on :: acc.getD e.on [] else []]) []

/-- The order may be open: edges point back; what may not change places is in order; nothing forks. -/
def drawOk (ops : Array Oper) (gs : List GI) : Bool :=
  let b := befs ops
  (List.range ops.size).all (fun j => (match ops[j]? with | some o => o.after.toList.all (fun e => !Region.binds .any e || decide (e.on < j)) | none => false) && (match gs[j]? with | some g => !isFork g.i | none => false)) &&
  (List.range ops.size).all fun j => (List.range j).all fun i => match gs[i]?, gs[j]? with
    | some x, some y => !conf ops gs i j x y || (b.getD j []).contains i
    | _, _ => false

theorem befs_closed {ops : Array Oper} {listed : Nat → Bool} (hcl : ∀ (j : Nat) (o : Oper), ops[j]? = some o → listed j = true → ∀ e ∈ o.after, Region.binds .any e = true → listed e.on = true) :
    ∀ (j i : Nat), i ∈ (befs ops).getD j [] → (∀ (o : Oper), ops[j]? = some o → ∀ e ∈ o.after, Region.binds .any e = true → listed e.on = true) → listed i = true := by
  have key : ∀ (l : List Oper) (k : Nat) (acc : List (List Nat)), acc.length = k → (∀ j o, l[j]? = some o → ops[k + j]? = some o) →
      (∀ (j i : Nat), i ∈ acc.getD j [] → (∀ (o : Oper), ops[j]? = some o → ∀ e ∈ o.after, Region.binds .any e = true → listed e.on = true) → listed i = true) →
      ∀ (j i : Nat), i ∈ (l.foldl (fun acc o => acc ++ [o.after.toList.flatMap fun e => if Region.binds .any e then e.on :: acc.getD e.on [] else []]) acc).getD j [] → (∀ (o : Oper), ops[j]? = some o → ∀ e ∈ o.after, Region.binds .any e = true → listed e.on = true) → listed i = true := by
    intro l
    induction l with
    | nil => intro k acc _ _ h; exact h
    | cons o l ih =>
      intro k acc hk hl h
      refine ih (k + 1) _ (by simp [hk]) (fun j o' hj => by have := hl (j + 1) o' (by simpa using hj); rwa [show k + 1 + j = k + (j + 1) by omega]) (fun j i hi hj => ?_)
      rw [List.getD_eq_getElem?_getD, List.getElem?_append] at hi
      split at hi
      · exact h j i (by rw [List.getD_eq_getElem?_getD]; exact hi) hj
      · rename_i hlt
        rcases Nat.lt_or_ge (j - acc.length) 1 with h0 | h0
        · have e1 : j - acc.length = 0 := by omega
          rw [e1] at hi
          simp only [List.getElem?_cons_zero, Option.getD_some, List.mem_flatMap] at hi
          obtain ⟨e, he, hi⟩ := hi
          have hjk : j = k := by omega
          have ho := hl 0 o rfl
          rw [Nat.add_zero, ← hjk] at ho
          split at hi
          · rename_i hb
            have hon := hj o ho e (by simpa using he) hb
            rcases List.mem_cons.1 hi with rfl | hi
            · exact hon
            · exact h e.on i hi (fun o' ho' e' he' hb' => hcl e.on o' ho' hon e' he' hb')
          · cases hi
        · rw [List.getElem?_eq_none (by simpa using h0)] at hi
          simp at hi
  exact key ops.toList 0 [] rfl (fun j o hj => by simpa using hj) (fun j i hi => by simp at hi)

end Go.Proofs.YtkjnjdcbnelceaaGreatDoor.KA
end

section
/- Soundness of a region whose order is open, third part. Nothing here concerns a given program. -/
set_option linter.unusedVariables false
set_option linter.unusedSimpArgs false
set_option linter.unnecessarySimpa false
namespace Go.Proofs.YtkjnjdcbnelceaaGreatDoor.KA
open Go

/-- Two states that say the same. -/
def Alike (x y : St) : Prop := (∀ t, lookup x.s t = lookup y.s t) ∧ x.h = y.h

/-- One step of the text's order: carried out, or passed over. -/
inductive Tr (c : Ctx) (g : GI) (x y : St) : Prop
  | run (x' : St) (ha : Alike x' x) (hg : g.g = none ∨ ∃ t want, g.g = some (t, want) ∧ lookup x.s t = .bool want) (hs : astep c g.i x' (fun z => z = y))
  | skip (x' : St) (ha : Alike x' x) (t : Nat) (want : Bool) (hg : g.g = some (t, want)) (hl : lookup x.s t = .bool (!want) ∨ lookup x.s t = .tuple []) (hy : y = x'.setO g.dst (.tuple []))

theorem alike_set {x : St} {t : Nat} {a : AV} (h : lookup x.s t = a) : Alike (x.set t a) x := by
  refine ⟨fun u => ?_, rfl⟩
  show (if u = t then a else lookup x.s u) = _
  split
  · rename_i e; rw [e, h]
  · rfl

theorem trace {c : Ctx} {K : St → Prop} : ∀ (gs : List GI) (st : St), (∀ g ∈ gs, isFork g.i = false) → aops c gs st K → ∃ s : Nat → St, s 0 = st ∧ K (s gs.length) ∧ ∀ (k : Nat) (g : GI), gs[k]? = some g → Tr c g (s k) (s (k + 1))
  | [], st, _, h => ⟨fun _ => st, rfl, h, fun k g hk => by simp at hk⟩
  | g :: gs, st, hf, h => by
    have fin : ∀ st', Tr c g st st' → aops c gs st' K → ∃ s : Nat → St, s 0 = st ∧ K (s (gs.length + 1)) ∧ ∀ (k : Nat) (g' : GI), (g :: gs)[k]? = some g' → Tr c g' (s k) (s (k + 1)) := by
      intro st' ht hk
      obtain ⟨s, h1, h2, h3⟩ := trace gs st' (fun g hg => hf g (by simp [hg])) hk
      refine ⟨fun k => match k with | 0 => st | k + 1 => s k, rfl, h2, fun k g' hk => ?_⟩
      cases k with
      | zero =>
        simp at hk
        subst hk
        show Tr c g st (s 0)
        rw [h1]; exact ht
      | succ k => exact h3 k g' (by simpa using hk)
    have hfg := hf g (by simp)
    simp only [aops] at h
    split at h
    · rename_i hg
      obtain ⟨st', h1, h2⟩ := astep_ex hfg h
      exact fin st' (.run st ⟨fun _ => rfl, rfl⟩ (.inl hg) h1) h2
    · rename_i t want hg
      split at h
      · rename_i b hb
        by_cases e : b = want
        · subst e
          obtain ⟨st', h1, h2⟩ := astep_ex hfg (h.1 rfl)
          exact fin st' (.run _ (alike_set hb) (.inr ⟨t, b, hg, hb⟩) h1) h2
        · obtain ⟨e2, _⟩ := not_of_ne b want e
          rw [e2] at hb
          exact fin _ (.skip _ (alike_set hb) t want hg (.inl hb) rfl) (h.2 e2)
      · rename_i hb
        exact fin _ (.skip st ⟨fun _ => rfl, rfl⟩ t want hg (.inr hb) rfl) h
      · exact h.elim

structure RelF (c : Ctx) (B : Base) (n : Nat) (f : Nat → AV) (h : AHeap) (a : Act) (w : World) (rho : Gh) (fz : Nat → Prop) : Prop where
  sl : ∀ t, RT w rho fz (f t) (a.tmps.getD t undef)
  sz : a.tmps.size = n
  df : Marks w fz B.w.heap.size a.defers
  hr : HR w rho fz h
  ok : FzOk w fz
  gl : Glob c.gt w fz
  pres : Pres B.w (Owned B.rho B.h) B.fz w fz
  same : ∀ id, id < B.h.length → rho id = B.rho id
  len : B.h.length ≤ h.length
  own : ∀ b, Owned rho h b → Owned B.rho B.h b ∨ B.w.heap.size ≤ b

section
variable {c : Ctx} {B : Base} {n : Nat} {a : Act} {w : World} {rho : Gh} {fz : Nat → Prop} {mu : Nat → Bool}

theorem Rel.toF {st : St} (h : Rel c B n st a w rho fz) : RelF c B n (lookup st.s) st.h a w rho fz :=
  ⟨h.sl, h.sz, h.df, h.pre.hr, h.pre.ok, h.pre.gl, h.pres, h.same, h.len, h.own⟩

theorem RelF.toRel {st : St} {f : Nat → AV} {h : AHeap} (hr : RelF c B n f h a w rho fz) (hf : ∀ t, lookup st.s t = f t) (hh : st.h = h) : Rel c B n st a w rho fz := by
  subst hh
  exact ⟨fun t => by rw [hf]; exact hr.sl t, hr.sz, hr.df, ⟨hr.hr, hr.ok, hr.gl⟩, hr.pres, hr.same, hr.len, hr.own⟩

/-- The last of the steps in D that wrote slot t. -/
def vfold (s : Nat → St) (gs : List GI) (D : Nat → Bool) (t : Nat) : Nat → AV
  | 0 => lookup (s 0).s t
  | m + 1 => if D m = true ∧ (gs[m]?).bind (·.dst) = some t then lookup (s (m + 1)).s t else vfold s gs D t m

/-- A block put at a number: what lies between is not there. -/
def hset (h : AHeap) (id : Nat) (c : Option (List AV)) : AHeap := if id < h.length then h.set id c else h ++ (List.replicate (id - h.length) none ++ [c])

theorem hset_get (h : AHeap) (id : Nat) (c : Option (List AV)) (k : Nat) : (hset h id c)[k]? = if k = id then some c else if k < h.length then h[k]? else if k < id then some none else none := by
  unfold hset
  split
  · rename_i hlt
    by_cases e : k = id
    · subst e; simp [hlt]
    · rw [if_neg e, List.getElem?_set_ne (Ne.symm e)]
      split
      · rfl
      · rename_i h1
        rw [if_neg (by omega), List.getElem?_eq_none (by omega)]
  · rename_i hge
    rw [List.getElem?_append]
    by_cases e : k = id
    · subst e
      rw [if_neg hge, if_pos rfl, List.getElem?_append_right (by simp)]
      simp
    · rw [if_neg e]
      split
      · rfl
      · rename_i h1
        by_cases e2 : k < id
        · rw [if_pos e2, List.getElem?_append_left (by simp; omega), List.getElem?_replicate, if_pos (by omega)]
        · rw [if_neg e2, List.getElem?_eq_none (by simp; omega)]

theorem hset_length (h : AHeap) (id : Nat) (c : Option (List AV)) : (hset h id c).length = max h.length (id + 1) := by
  unfold hset
  split <;> simp <;> omega

theorem hset_end (h : AHeap) (c : Option (List AV)) : hset h h.length c = h ++ [c] := by
  unfold hset
  simp

theorem hset_comm (h : AHeap) (i j : Nat) (c d : Option (List AV)) (hne : i ≠ j) : hset (hset h i c) j d = hset (hset h j d) i c := by
  refine List.ext_getElem? (fun k => ?_)
  simp only [hset_get, hset_length]
  rcases Nat.lt_or_ge k h.length with a | a <;> rcases Nat.lt_trichotomy k i with b | b | b <;> rcases Nat.lt_trichotomy k j with e | e | e <;>
    repeat' (first | rfl | omega | split)

theorem hset_some {h : AHeap} {id : Nat} {c : Option (List AV)} {k : Nat} {ds : List AV} (hk : (hset h id c)[k]? = some (some ds)) : (k = id ∧ c = some ds) ∨ (k ≠ id ∧ h[k]? = some (some ds)) := by
  rw [hset_get] at hk
  split at hk
  · rename_i e; cases hk; exact .inl ⟨e, rfl⟩
  · rename_i e
    split at hk
    · exact .inr ⟨e, hk⟩
    · split at hk <;> cases hk

def hfold (s : Nat → St) (gs : List GI) (A : Nat → Bool) (D : Nat → Bool) : Nat → AHeap
  | 0 => (s 0).h
  | m + 1 => if D m = true ∧ ((gs[m]?).map fun g => isW g.i) = some true then (if A m = true then hset (hfold s gs A D m) (s m).h.length ((s (m + 1)).h.getD (s m).h.length none) else (s (m + 1)).h) else hfold s gs A D m

section folds
variable {s : Nat → St} {gs : List GI} {A : Nat → Bool}

theorem vfold_congr {D D' : Nat → Bool} {t : Nat} : ∀ (m : Nat), (∀ k, k < m → (gs[k]?).bind (·.dst) = some t → D k = D' k) → vfold s gs D t m = vfold s gs D' t m
  | 0, _ => rfl
  | m + 1, h => by
    have ih := vfold_congr m (fun k hk => h k (by omega))
    simp only [vfold]
    by_cases hw : (gs[m]?).bind (·.dst) = some t
    · rw [h m (by omega) hw, ih]
    · rw [if_neg (fun hc => hw hc.2), if_neg (fun hc => hw hc.2), ih]

theorem vfold_upto {D : Nat → Bool} {t i : Nat} : ∀ (m : Nat), i ≤ m → (∀ k, k < m → (gs[k]?).bind (·.dst) = some t → (D k = true ↔ k < i)) → vfold s gs D t m = vfold s gs (fun _ => true) t i
  | 0, hi, h => by
    have : i = 0 := by omega
    subst this; rfl
  | m + 1, hi, h => by
    by_cases e : i = m + 1
    · subst e
      exact vfold_congr _ (fun k hk hw => (h k hk hw).2 hk)
    · simp only [vfold]
      rw [if_neg (fun hc => by have := (h m (by omega) hc.2).1 hc.1; omega)]
      exact vfold_upto m (by omega) (fun k hk => h k (by omega))

theorem vfold_last {D : Nat → Bool} {t i : Nat} (hD : D i = true) (hw : (gs[i]?).bind (·.dst) = some t) : ∀ (m : Nat), i < m → (∀ k, k < m → i < k → (gs[k]?).bind (·.dst) = some t → D k = false) → vfold s gs D t m = lookup (s (i + 1)).s t
  | 0, hi, _ => by omega
  | m + 1, hi, h => by
    simp only [vfold]
    by_cases e : i = m
    · subst e
      rw [if_pos ⟨hD, hw⟩]
    · rw [if_neg (fun hc => by have := h m (by omega) (by omega) hc.2; rw [this] at hc; cases hc.1)]
      exact vfold_last hD hw m (by omega) (fun k hk => h k (by omega))

theorem hfold_congr {D D' : Nat → Bool} : ∀ (m : Nat), (∀ k, k < m → ((gs[k]?).map fun g => isW g.i) = some true → D k = D' k) → hfold s gs A D m = hfold s gs A D' m
  | 0, _ => rfl
  | m + 1, h => by
    have ih := hfold_congr m (fun k hk => h k (by omega))
    simp only [hfold]
    by_cases hw : ((gs[m]?).map fun g => isW g.i) = some true
    · rw [h m (by omega) hw, ih]
    · rw [if_neg (fun hc => hw hc.2), if_neg (fun hc => hw hc.2), ih]

theorem hfold_upto {D : Nat → Bool} {i : Nat} : ∀ (m : Nat), i ≤ m → (∀ k, k < m → ((gs[k]?).map fun g => isW g.i) = some true → (D k = true ↔ k < i)) → hfold s gs A D m = hfold s gs A (fun _ => true) i
  | 0, hi, h => by
    have : i = 0 := by omega
    subst this; rfl
  | m + 1, hi, h => by
    by_cases e : i = m + 1
    · subst e
      exact hfold_congr _ (fun k hk hw => (h k hk hw).2 hk)
    · simp only [hfold]
      rw [if_neg (fun hc => by have := (h m (by omega) hc.2).1 hc.1; omega)]
      exact hfold_upto m (by omega) (fun k hk => h k (by omega))

theorem hfold_last {D : Nat → Bool} {i : Nat} (hA : A i = false) (hD : D i = true) (hw : ((gs[i]?).map fun g => isW g.i) = some true) : ∀ (m : Nat), i < m → (∀ k, k < m → i < k → ((gs[k]?).map fun g => isW g.i) = some true → D k = false) → hfold s gs A D m = (s (i + 1)).h
  | 0, hi, _ => by omega
  | m + 1, hi, h => by
    simp only [hfold]
    by_cases e : i = m
    · subst e
      rw [if_pos ⟨hD, hw⟩, if_neg (by rw [hA]; simp)]
    · rw [if_neg (fun hc => by have := h m (by omega) (by omega) hc.2; rw [this] at hc; cases hc.1)]
      exact hfold_last hA hD hw m (by omega) (fun k hk => h k (by omega))

theorem hfold_put {D : Nat → Bool} {i : Nat} (hA : A i = true) (hD : D i = false) (hw : ((gs[i]?).map fun g => isW g.i) = some true) : ∀ (m : Nat), i < m → (∀ k, k < m → i < k → D k = true → ((gs[k]?).map fun g => isW g.i) = some true → A k = true ∧ (s k).h.length ≠ (s i).h.length) →
    hfold s gs A (fun k => if k = i then true else D k) m = hset (hfold s gs A D m) (s i).h.length ((s (i + 1)).h.getD (s i).h.length none)
  | 0, hi, _ => by omega
  | m + 1, hi, h => by
    by_cases e : i = m
    · subst e
      simp only [hfold]
      rw [if_pos ⟨by simp, hw⟩, if_pos hA, if_neg (fun hc => by rw [hD] at hc; cases hc.1)]
      congr 1
      exact hfold_congr _ (fun k hk _ => by simp [show ¬ k = i by omega])
    · have ih := hfold_put hA hD hw m (by omega) (fun k hk => h k (by omega))
      simp only [hfold, show ¬ m = i by omega, if_false]
      by_cases hc : D m = true ∧ ((gs[m]?).map fun g => isW g.i) = some true
      · obtain ⟨h1, h2⟩ := h m (by omega) (by omega) hc.1 hc.2
        rw [if_pos hc, if_pos hc, if_pos h1, if_pos h1, ih, hset_comm _ _ _ _ _ (Ne.symm h2)]
      · rw [if_neg hc, if_neg hc, ih]

end folds

theorem src_ex {h : AHeap} {sz : Nat} {x : AV} {M : List AV → Prop} (hs : srcElems h sz x M) : ∃ xs, M xs := by
  unfold srcElems at hs
  split at hs
  · exact ⟨_, hs⟩
  · exact ⟨_, hs⟩
  · exact ⟨_, hs.2⟩
  · exact ⟨_, hs.2⟩
  · obtain ⟨xs, _, _, h⟩ := hs; exact ⟨xs, h⟩

theorem dst_ex {h : AHeap} {sz : Nat} {x : AV} {M : Nat → Nat → List AV → AHeap → Prop} (hs : dstCells h sz x fun n q old h1 => M n q old h1) : ∃ n q old h1, M n q old h1 := by
  unfold dstCells at hs
  split at hs
  · exact ⟨_, _, _, _, hs⟩
  · exact ⟨_, _, _, _, hs⟩
  · obtain ⟨_, _, _, _, h⟩ := hs; exact ⟨_, _, _, _, h⟩
  · exact hs.elim

/-- A carried-out step writes one slot. -/
theorem astep_upd {i : I} {x y : St} (hs : astep c i x (fun z => z = y)) : (match dstI i with | some d => ∃ r, y.s = (d, r) :: x.s | none => y.s = x.s) := by
  have ex : ∀ {v : Option AV} {dd : Nat} {M : Nat → Prop}, onLo v dd M → ∃ q, M q := by
    intro v dd M hh
    unfold onLo at hh
    split at hh
    · exact ⟨dd, hh⟩
    · exact ⟨_, hh.2⟩
    · exact hh.elim
  cases i with
  | mv d x => cases hs; exact ⟨_, rfl⟩
  | pick d q x y =>
    simp only [astep, onBool] at hs
    split at hs
    · rename_i t ht
      cases t
      · have := hs.2 rfl; subst this; exact ⟨_, rfl⟩
      · have := hs.1 rfl; subst this; exact ⟨_, rfl⟩
    · exact hs.elim
  | box d x m =>
    cases m
    · simp only [astep] at hs; have := hs.2; subst this; exact ⟨_, rfl⟩
    · simp only [astep] at hs; subst hs; exact ⟨_, rfl⟩
  | alloc d z m =>
    cases m
    · simp only [astep] at hs; have := hs.2; subst this; exact ⟨_, rfl⟩
    · simp only [astep] at hs; subst hs; exact ⟨_, rfl⟩
  | allocT d T z => simp only [astep] at hs; subst hs; exact ⟨_, rfl⟩
  | build d z ps => simp only [astep] at hs; obtain ⟨_, _, rfl⟩ := hs; exact ⟨_, rfl⟩
  | bsl d sz xs m =>
    cases m <;> cases xs
    · simp only [astep] at hs; subst hs; exact ⟨_, rfl⟩
    · simp only [astep] at hs; have := hs.2.2; subst this; exact ⟨_, rfl⟩
    · simp only [astep] at hs; subst hs; exact ⟨_, rfl⟩
    · simp only [astep] at hs; have := hs.2; subst this; exact ⟨_, rfl⟩
  | mksl d sz bytes z x y =>
    simp only [astep, onInt] at hs
    split at hs
    · split at hs
      · have := hs.2.2.2.2.2; subst this; exact ⟨_, rfl⟩
      · exact hs.elim
    · exact hs.elim
  | load d ag sz x =>
    simp only [astep] at hs
    split at hs
    · split at hs
      · have := hs.2; subst this; exact ⟨_, rfl⟩
      · obtain ⟨_, _, rfl⟩ := hs; exact ⟨_, rfl⟩
    · obtain ⟨_, _, hs⟩ := hs
      split at hs
      · have := hs.2; subst this; exact ⟨_, rfl⟩
      · obtain ⟨_, _, rfl⟩ := hs; exact ⟨_, rfl⟩
    · exact hs.elim
  | store sz x y =>
    simp only [astep] at hs
    split at hs
    · obtain ⟨_, _, _, _, rfl⟩ := hs; rfl
    · exact hs.elim
  | bin d op x y =>
    simp only [astep] at hs
    unfold binK at hs
    split at hs
    · have := hs.2; subst this; exact ⟨_, rfl⟩
    · have := hs.2; subst this; exact ⟨_, rfl⟩
    · obtain ⟨r, h1, h2⟩ := arith_ex hs.2; subst h1; exact ⟨_, rfl⟩
    · obtain ⟨r, h1, h2⟩ := strOp_ex hs; subst h1; exact ⟨_, rfl⟩
    · exact hs.elim
  | eqb d neg x y =>
    simp only [astep, onBool] at hs
    split at hs
    · split at hs
      · subst hs; exact ⟨_, rfl⟩
      · exact hs.elim
    · exact hs.elim
  | eqs d neg ls x y =>
    simp only [astep] at hs
    split at hs
    · obtain ⟨_, _, rfl⟩ := hs; exact ⟨_, rfl⟩
    · exact hs.elim
  | eqn d neg kd x =>
    simp only [astep] at hs
    unfold onNil at hs
    split at hs <;> first | (subst hs; exact ⟨_, rfl⟩) | (have := hs.2; subst this; exact ⟨_, rfl⟩) | exact hs.elim
  | not d x =>
    simp only [astep, onBool] at hs
    split at hs
    · subst hs; exact ⟨_, rfl⟩
    · exact hs.elim
  | neg d x =>
    simp only [astep, onInt] at hs
    split at hs
    · subst hs; exact ⟨_, rfl⟩
    · exact hs.elim
  | conv d k x =>
    simp only [astep, onInt] at hs
    split at hs
    · subst hs; exact ⟨_, rfl⟩
    · exact hs.elim
  | cvs d x =>
    simp only [astep, onStr] at hs
    split at hs
    · subst hs; exact ⟨_, rfl⟩
    · exact hs.elim
  | fld d off x =>
    simp only [astep] at hs
    split at hs
    · have := hs.2; subst this; exact ⟨_, rfl⟩
    · subst hs; exact ⟨_, rfl⟩
    · subst hs; exact ⟨_, rfl⟩
    · exact hs.elim
  | bad => exact hs.elim
  | loadf d ag sz x =>
    simp only [astep] at hs
    split at hs
    · split at hs
      · have := hs.2; subst this; exact ⟨_, rfl⟩
      · obtain ⟨_, _, rfl⟩ := hs; exact ⟨_, rfl⟩
    · exact hs.elim
  | idxv d ag sz n x y =>
    simp only [astep, onInt] at hs
    split at hs
    · obtain ⟨_, _, hs⟩ := hs
      split at hs
      · split at hs
        · have := hs.2; subst this; exact ⟨_, rfl⟩
        · obtain ⟨_, _, rfl⟩ := hs; exact ⟨_, rfl⟩
      · exact hs.elim
    · exact hs.elim
  | fldv d ag off sz x =>
    simp only [astep] at hs
    split at hs
    · split at hs
      · have := hs.2; subst this; exact ⟨_, rfl⟩
      · obtain ⟨_, _, rfl⟩ := hs; exact ⟨_, rfl⟩
    · exact hs.elim
  | idxa d sz m x y =>
    cases m
    · simp only [astep, onInt] at hs
      split at hs
      · split at hs
        · obtain ⟨_, _, _, _, rfl⟩ := hs; exact ⟨_, rfl⟩
        · obtain ⟨_, _, _, rfl⟩ := hs; exact ⟨_, rfl⟩
        · exact hs.elim
      · exact hs.elim
    · simp only [astep, onInt] at hs
      split at hs
      · obtain ⟨_, _, hs⟩ := hs
        split at hs
        · have := hs.2; subst this; exact ⟨_, rfl⟩
        · subst hs; exact ⟨_, rfl⟩
        · exact hs.elim
      · exact hs.elim
  | idx d x y =>
    simp only [astep, onStr, onInt] at hs
    split at hs
    · split at hs
      · obtain ⟨_, _, _, rfl⟩ := hs; exact ⟨_, rfl⟩
      · exact hs.elim
    · exact hs.elim
  | slc d sz x lo hi mx =>
    simp only [astep] at hs
    split at hs
    · obtain ⟨_, _, hs⟩ := hs
      obtain ⟨_, hs⟩ := ex hs
      obtain ⟨_, hs⟩ := ex hs
      have := hs.2.2; subst this; exact ⟨_, rfl⟩
    · obtain ⟨_, hs⟩ := hs
      obtain ⟨_, hs⟩ := ex hs
      obtain ⟨_, hs⟩ := ex hs
      obtain ⟨_, hs⟩ := ex hs
      have := hs.2.2.2.2; subst this; exact ⟨_, rfl⟩
    · obtain ⟨_, hs⟩ := ex hs
      obtain ⟨_, hs⟩ := ex hs
      obtain ⟨_, hs⟩ := ex hs
      have := hs.2.2.2; subst this; exact ⟨_, rfl⟩
    · obtain ⟨_, hs⟩ := ex hs
      obtain ⟨_, hs⟩ := ex hs
      obtain ⟨_, hs⟩ := ex hs
      have := hs.2.2.2; subst this; exact ⟨_, rfl⟩
    · exact hs.elim
  | slcs d x lo hi =>
    simp only [astep, onStr] at hs
    split at hs
    · obtain ⟨_, hs⟩ := ex hs
      obtain ⟨_, hs⟩ := ex hs
      have := hs.2.2; subst this; exact ⟨_, rfl⟩
    · exact hs.elim
  | slca d sz n x lo hi =>
    simp only [astep] at hs
    split at hs
    · obtain ⟨_, hs⟩ := ex hs
      obtain ⟨_, hs⟩ := ex hs
      have := hs.2.2.2.2; subst this; exact ⟨_, rfl⟩
    · exact hs.elim
  | len d x =>
    simp only [astep] at hs
    split at hs <;> first | (subst hs; exact ⟨_, rfl⟩) | exact hs.elim
  | cap d x =>
    simp only [astep] at hs
    split at hs <;> first | (subst hs; exact ⟨_, rfl⟩) | exact hs.elim
  | lens d x =>
    simp only [astep, onStr] at hs
    split at hs
    · subst hs; exact ⟨_, rfl⟩
    · exact hs.elim
  | append d sz bytes x y m =>
    simp only [astep] at hs
    obtain ⟨xs, hs⟩ := src_ex hs
    by_cases hx : xs = []
    · have hs := hs.1 hx
      split at hs
      · subst hs; exact ⟨_, rfl⟩
      · subst hs; exact ⟨_, rfl⟩
      · have := hs.2; subst this; exact ⟨_, rfl⟩
      · exact hs.elim
    · have hs := hs.2 hx
      obtain ⟨_, _, _, _, _, _, hs⟩ := dst_ex hs
      split at hs
      · subst hs; exact ⟨_, rfl⟩
      · obtain ⟨_, _, _, _, _, _, rfl⟩ := hs; exact ⟨_, rfl⟩
  | call d f as wr =>
    simp only [astep] at hs
    split at hs
    · rcases hs with ⟨_, r, _, _, _, rfl⟩ | ⟨_, _, _, r, _, _, rfl⟩ | ⟨_, _, _, _, r, _, _, _, _, _, _, _, rfl⟩
      · cases d
        · rfl
        · exact ⟨_, rfl⟩
      · cases d
        · rfl
        · exact ⟨_, rfl⟩
      · cases d
        · rfl
        · exact ⟨_, rfl⟩
    · exact hs.elim
  | max d x y =>
    simp only [astep, onInt] at hs
    split at hs
    · split at hs
      · subst hs; exact ⟨_, rfl⟩
      · exact hs.elim
    · exact hs.elim
  | min d x y =>
    simp only [astep, onInt] at hs
    split at hs
    · split at hs
      · subst hs; exact ⟨_, rfl⟩
      · exact hs.elim
    · exact hs.elim
  | clear sz z x =>
    simp only [astep] at hs
    split at hs
    · obtain ⟨_, _, _, _, _, rfl⟩ := hs; rfl
    · exact hs.elim
  | ext d x k =>
    simp only [astep] at hs
    split at hs
    · obtain ⟨_, _, rfl⟩ := hs; exact ⟨_, rfl⟩
    · exact hs.elim
  | mkfn d f l => cases hs; exact ⟨_, rfl⟩
  | iface d t x => cases hs; exact ⟨_, rfl⟩
  | nilchk d x =>
    simp only [astep] at hs
    split at hs <;> first | (subst hs; exact ⟨_, rfl⟩) | exact hs.elim


end
end Go.Proofs.YtkjnjdcbnelceaaGreatDoor.KA
end
