/- Parts of the proof, in order: each part's head says what it holds. -/
import Derived.Orders
import Derived.Laws.AppendOwn
import Derived.Laws.Sem
import Derived.Below
import Derived.RangeFuncIn
import Derived.Laws.Entries
import Derived.Laws.Slices
import Derived.Laws.StructEq
import Derived.Laws.MakeOwn
import Derived.Deep.AppendSrc
import Derived.Deep.RegionHeld3
import Derived.Laws.Concat
import Derived.Lib.Strings

section
/- Abstract values and how Go values in memory read as them. Nothing here concerns a given program. -/
namespace Go.Proofs.YtkjnjdcbnelceaaGreatDoor.KA
open Go

/-- An abstract value. 'sl': a slice that nobody writes any more, by its elements; 'fp': a pointer to cells that nobody writes any more; 'own', 'ref': a slice of, a pointer into, a block that may be written, by number ('tref': to its beginning, with its type and size). -/
inductive AV where
  | undef
  | int (k : IntKind) (n : Int)
  | bool (b : Bool)
  | str (s : List UInt8)
  | agg (cs : List AV)
  | tuple (vs : List AV)
  | nils
  | emp
  | sl (sz : Nat) (xs : List AV)
  | own (sz id off len cap : Nat)
  | fp (cs : List AV)
  | ref (id off : Nat)
  | tref (T n id : Nat)
  | nilp
  | fn (f : FuncId) (caps : List AV)
  | nilf
  | nili
  | iface (t : TypeId) (v : AV)

def AV.cells : AV → List AV
  | .undef => []
  | .agg cs => cs
  | v => [v]

/-- A value of one cell. -/
def AV.one : AV → Bool
  | .undef => false
  | .agg _ => false
  | .tuple _ => false
  | _ => true

/-- An element of 'sz' cells. -/
def AV.isElem (sz : Nat) (x : AV) : Bool := x.cells.length == sz && x.cells.all AV.one

abbrev Gh := Nat → Option (Nat × Nat)

/-- The concrete value 'v' reads as the abstract 'a', through blocks of 'fz' (that nobody writes). -/
inductive RF (w : World) (fz : Nat → Prop) : AV → Value → Prop
  | undef (v : Value) : RF w fz .undef v
  | int (k : IntKind) (n : Int) : RF w fz (.int k n) (.int k n)
  | bool (b : Bool) : RF w fz (.bool b) (.bool b)
  | str (s : List UInt8) : RF w fz (.str s) (.string ⟨⟨s⟩⟩)
  | agg (cs : List AV) (vs : Array Value) (hl : vs.size = cs.length) (h : ∀ i a, cs[i]? = some a → RF w fz a (vs.getD i undef)) : RF w fz (.agg cs) (.agg vs)
  | tuple (cs : List AV) (vs : Array Value) (hl : vs.size = cs.length) (h : ∀ i a, cs[i]? = some a → RF w fz a (vs.getD i undef)) : RF w fz (.tuple cs) (.tuple vs)
  | nils : RF w fz .nils (.slice none 0 0)
  | emp (base : Option Addr) : RF w fz .emp (.slice base 0 0)
  | slnil (sz : Nat) : RF w fz (.sl sz []) (.slice none 0 0)
  | sl (sz : Nat) (xs : List AV) (b off cap : Nat) (g : Nat → Value) (hb : fz b) (hc : xs.length ≤ cap) (hs : ∀ x ∈ xs, x.isElem sz = true)
      (hg : ∀ k a, (xs.flatMap AV.cells)[k]? = some a → w.cell? ⟨b, off + k, none⟩ = some (g k))
      (h : ∀ k a, (xs.flatMap AV.cells)[k]? = some a → RF w fz a (g k)) : RF w fz (.sl sz xs) (.slice (some ⟨b, off, none⟩) xs.length cap)
  | fp (cs : List AV) (b off : Nat) (g : Nat → Value) (hb : fz b)
      (hg : ∀ k a, cs[k]? = some a → w.cell? ⟨b, off + k, none⟩ = some (g k))
      (h : ∀ k a, cs[k]? = some a → RF w fz a (g k)) : RF w fz (.fp cs) (.pointer (some ⟨b, off, none⟩))
  | nilp : RF w fz .nilp (.pointer none)
  | fn (f : FuncId) (cs : List AV) (vs : Array Value) (hl : vs.size = cs.length) (h : ∀ i a, cs[i]? = some a → RF w fz a (vs.getD i undef)) : RF w fz (.fn f cs) (.func (.func f) #[] vs)
  | nilf : RF w fz .nilf .nilFunc
  | nili : RF w fz .nili .nilIface
  | iface (t : TypeId) (a : AV) (v : Value) (h : RF w fz a v) : RF w fz (.iface t a) (.iface t v)

/-- Likewise, where blocks that may be written have numbers: 'rho' gives the block and the place in it. -/
inductive RT (w : World) (rho : Gh) (fz : Nat → Prop) : AV → Value → Prop
  | of (a : AV) (v : Value) (h : RF w fz a v) : RT w rho fz a v
  | agg (cs : List AV) (vs : Array Value) (hl : vs.size = cs.length) (h : ∀ i a, cs[i]? = some a → RT w rho fz a (vs.getD i undef)) : RT w rho fz (.agg cs) (.agg vs)
  | tuple (cs : List AV) (vs : Array Value) (hl : vs.size = cs.length) (h : ∀ i a, cs[i]? = some a → RT w rho fz a (vs.getD i undef)) : RT w rho fz (.tuple cs) (.tuple vs)
  | fn (f : FuncId) (cs : List AV) (vs : Array Value) (hl : vs.size = cs.length) (h : ∀ i a, cs[i]? = some a → RT w rho fz a (vs.getD i undef)) : RT w rho fz (.fn f cs) (.func (.func f) #[] vs)
  | iface (t : TypeId) (a : AV) (v : Value) (h : RT w rho fz a v) : RT w rho fz (.iface t a) (.iface t v)
  | own (sz id off len cap : Nat) (b o cap' : Nat) (e : TypeId) (n : Nat) (hr : rho id = some (b, o)) (hc : cap ≤ cap') (hl : len ≤ cap) (hsh : w.shape? b = some (e, n)) (hn : o + off + cap' * sz ≤ n) :
      RT w rho fz (.own sz id off len cap) (.slice (some ⟨b, o + off, none⟩) len cap')
  | ref (id off : Nat) (b o : Nat) (hr : rho id = some (b, o)) : RT w rho fz (.ref id off) (.pointer (some ⟨b, o + off, none⟩))
  | tref (T n id : Nat) (b : Nat) (hr : rho id = some (b, 0)) (hsh : w.shape? b = some (T, n)) : RT w rho fz (.tref T n id) (.pointer (some ⟨b, 0, none⟩))

theorem cell_same {w w' : World} {b k : Nat} (h : w'.heap[b]? = w.heap[b]?) : w'.cell? ⟨b, k, none⟩ = w.cell? ⟨b, k, none⟩ :=
  World.cell?_of_block (a := ⟨b, k, none⟩) h

theorem RF.mono {w w' : World} {fz fz' : Nat → Prop} (hw : ∀ b, fz b → w'.heap[b]? = w.heap[b]?) (hf : ∀ b, fz b → fz' b) {a : AV} {v : Value} (h : RF w fz a v) : RF w' fz' a v := by
  induction h with
  | undef v => exact .undef v
  | int k n => exact .int k n
  | bool b => exact .bool b
  | str s => exact .str s
  | agg cs vs hl _ ih => exact .agg cs vs hl ih
  | tuple cs vs hl _ ih => exact .tuple cs vs hl ih
  | nils => exact .nils
  | emp base => exact .emp base
  | slnil sz => exact .slnil sz
  | sl sz xs b off cap g hb hc hs hg _ ih => exact .sl sz xs b off cap g (hf b hb) hc hs (fun k a hk => (cell_same (hw b hb)).trans (hg k a hk)) ih
  | fp cs b off g hb hg _ ih => exact .fp cs b off g (hf b hb) (fun k a hk => (cell_same (hw b hb)).trans (hg k a hk)) ih
  | nilp => exact .nilp
  | fn f cs vs hl _ ih => exact .fn f cs vs hl ih
  | nilf => exact .nilf
  | nili => exact .nili
  | iface t a v _ ih => exact .iface t a v ih

theorem RT.mono {w w' : World} {rho rho' : Gh} {fz fz' : Nat → Prop} (hw : ∀ b, fz b → w'.heap[b]? = w.heap[b]?) (hf : ∀ b, fz b → fz' b)
    (hs : ∀ b s, w.shape? b = some s → w'.shape? b = some s) (hr : ∀ id p, rho id = some p → rho' id = some p) {a : AV} {v : Value} (h : RT w rho fz a v) : RT w' rho' fz' a v := by
  induction h with
  | of a v h => exact .of a v (h.mono hw hf)
  | agg cs vs hl _ ih => exact .agg cs vs hl ih
  | tuple cs vs hl _ ih => exact .tuple cs vs hl ih
  | fn f cs vs hl _ ih => exact .fn f cs vs hl ih
  | iface t a v _ ih => exact .iface t a v ih
  | own sz id off len cap b o cap' e n hrr hc hl hsh hn => exact .own sz id off len cap b o cap' e n (hr _ _ hrr) hc hl (hs _ _ hsh) hn
  | ref id off b o hrr => exact .ref id off b o (hr _ _ hrr)
  | tref T n id b hrr hsh => exact .tref T n id b (hr _ _ hrr) (hs _ _ hsh)

abbrev AHeap := List (Option (List AV))

/-- The abstract heap 'h' stands in the world. -/
structure HR (w : World) (rho : Gh) (fz : Nat → Prop) (h : AHeap) : Prop where
  dom : ∀ id, h.length ≤ id → rho id = none
  cell : ∀ (id : Nat) (cs : List AV), h[id]? = some (some cs) → ∃ (b o : Nat) (arr : Array Value) (ty : TypeId), rho id = some (b, o) ∧ ¬ fz b ∧ w.heap[b]? = some (.cells arr ty (0, 0)) ∧ o + cs.length ≤ arr.size ∧
    ∀ (j : Nat) (a : AV), cs[j]? = some a → RT w rho fz a (arr.getD (o + j) undef)
  inj : ∀ (id id' : Nat) (cs cs' : List AV) (b o o' : Nat), h[id]? = some (some cs) → h[id']? = some (some cs') → rho id = some (b, o) → rho id' = some (b, o') → id = id'

/-- The blocks that the abstract heap stands in. -/
def Owned (rho : Gh) (h : AHeap) (b : Nat) : Prop := ∃ (id : Nat) (cs : List AV) (o : Nat), h[id]? = some (some cs) ∧ rho id = some (b, o)

/-- From (w0, fz0) to (w, fz): only the blocks of 'own0' may have turned; new blocks may have come. -/
structure Pres (w0 : World) (own0 : Nat → Prop) (fz0 : Nat → Prop) (w : World) (fz : Nat → Prop) : Prop where
  os : w.os = w0.os
  tape : w.tape = w0.tape
  output : w.output = w0.output
  size : w0.heap.size ≤ w.heap.size
  block : ∀ b, b < w0.heap.size → ¬ own0 b → w.heap[b]? = w0.heap[b]?
  shape : ∀ b s, w0.shape? b = some s → w.shape? b = some s
  keep : ∀ b, fz0 b → fz b
  fresh : ∀ b, fz b → fz0 b ∨ own0 b ∨ w0.heap.size ≤ b

theorem Pres.refl (w : World) (o fz : Nat → Prop) : Pres w o fz w fz :=
  ⟨rfl, rfl, rfl, Nat.le_refl _, fun _ _ _ => rfl, fun _ _ h => h, fun _ h => h, fun _ h => .inl h⟩

theorem Pres.trans {w0 w1 w2 : World} {o0 o1 f0 f1 f2 : Nat → Prop} (h : Pres w0 o0 f0 w1 f1) (k : Pres w1 o1 f1 w2 f2)
    (ho : ∀ b, o1 b → o0 b ∨ w0.heap.size ≤ b) : Pres w0 o0 f0 w2 f2 where
  os := k.os.trans h.os
  tape := k.tape.trans h.tape
  output := k.output.trans h.output
  size := Nat.le_trans h.size k.size
  block := fun b hb hn => (k.block b (Nat.lt_of_lt_of_le hb h.size) (fun hc => (ho b hc).elim hn (fun hh => Nat.not_le_of_lt hb hh))).trans (h.block b hb hn)
  shape := fun b s hs => k.shape b s (h.shape b s hs)
  keep := fun b hb => k.keep b (h.keep b hb)
  fresh := fun b hb => by
    rcases k.fresh b hb with h1 | h1 | h1
    · exact h.fresh b h1
    · rcases ho b h1 with h2 | h2
      · exact .inr (.inl h2)
      · exact .inr (.inr h2)
    · exact .inr (.inr (Nat.le_trans h.size h1))

def FzOk (w : World) (fz : Nat → Prop) : Prop := ∀ b, fz b → b < w.heap.size

/-- The package-level variables hold what the table says. -/
def Glob (gt : List (Nat × List AV)) (w : World) (fz : Nat → Prop) : Prop := ∀ p ∈ gt, RF w fz (.fp p.2) (.pointer (some ⟨p.1, 0, none⟩)) ∧ fz p.1 ∧ ∃ arr ty fr, w.heap[p.1]? = some (.cells arr ty fr) ∧ arr.size = p.2.length

theorem Glob.mono {gt : List (Nat × List AV)} {w w' : World} {fz fz' : Nat → Prop} (hw : ∀ b, fz b → w'.heap[b]? = w.heap[b]?) (hf : ∀ b, fz b → fz' b) (h : Glob gt w fz) : Glob gt w' fz' :=
  fun p hp => ⟨(h p hp).1.mono hw hf, hf _ (h p hp).2.1, by rw [hw _ (h p hp).2.1]; exact (h p hp).2.2⟩

end Go.Proofs.YtkjnjdcbnelceaaGreatDoor.KA
end

section
/- The small code in which a function's text is written, and what has to be shown of it: 'awp'. Nothing here concerns a given program. -/
namespace Go.Proofs.YtkjnjdcbnelceaaGreatDoor.KA
open Go

/-- Struct types whose values are compared cell by cell: the kinds of the cells. -/
inductive Leaf where
  | str | int (k : IntKind) | bool

inductive O where
  | t (k : Nat)
  | k (a : AV)

inductive I where
  | mv (d : Nat) (x : O)
  | pick (d : Nat) (c a b : O)
  | box (d : Nat) (x : O) (m : Bool)
  | alloc (d : Nat) (z : List AV) (m : Bool)
  | allocT (d : Nat) (T : Nat) (z : List AV)
  | build (d : Nat) (z : List AV) (ps : List (Nat × Nat × O))
  | bsl (d sz : Nat) (xs : List O) (m : Bool)
  | mksl (d sz bytes : Nat) (z : List AV) (n c : O)
  | load (d : Nat) (ag : Bool) (sz : Nat) (a : O)
  | loadf (d : Nat) (ag : Bool) (sz : Nat) (a : O)
  | idxv (d : Nat) (ag : Bool) (sz n : Nat) (x i : O)
  | bad (d : Option Nat)
  | store (sz : Nat) (a x : O)
  | bin (d : Nat) (op : BinOp) (x y : O)
  | eqb (d : Nat) (neg : Bool) (x y : O)
  | eqs (d : Nat) (neg : Bool) (ls : List Leaf) (x y : O)
  | eqn (d : Nat) (neg : Bool) (kd : Nat) (x : O)
  | not (d : Nat) (x : O)
  | neg (d : Nat) (x : O)
  | conv (d : Nat) (k : IntKind) (x : O)
  | cvs (d : Nat) (x : O)
  | fld (d off : Nat) (x : O)
  | fldv (d : Nat) (ag : Bool) (off sz : Nat) (x : O)
  | idxa (d sz : Nat) (n : Option Nat) (x i : O)
  | idx (d : Nat) (x i : O)
  | slc (d sz : Nat) (x : O) (lo hi mx : Option O)
  | slcs (d : Nat) (x : O) (lo hi : Option O)
  | slca (d sz n : Nat) (x : O) (lo hi : Option O)
  | len (d : Nat) (x : O)
  | cap (d : Nat) (x : O)
  | lens (d : Nat) (x : O)
  | append (d sz bytes : Nat) (s x : O) (m : Bool)
  | call (d : Option Nat) (f : O) (args : List O) (wr : Bool)
  | max (d : Nat) (x y : O)
  | min (d : Nat) (x y : O)
  | clear (sz : Nat) (z : List AV) (x : O)
  | ext (d : Nat) (x : O) (i : Nat)
  | mkfn (d : Nat) (f : FuncId) (caps : List O)
  | iface (d : Nat) (t : TypeId) (x : O)
  | nilchk (d : Nat) (x : O)

/-- An operation with its guard: the slot that is asked, and what it must hold. -/
structure GI where
  i : I
  g : Option (Nat × Bool)
  dst : Option Nat

inductive C where
  | skip
  | ops (l : List GI)
  | seq (a b : C)
  | cond (c : O) (a b : C)
  | block (id : Nat) (a : C)
  | loop (a : C)
  | range (g : O) (ps : List Nat) (a b : C)
  | exit (id : Nat)
  | ret

structure St where
  s : List (Nat × AV)
  h : AHeap

def lookup : List (Nat × AV) → Nat → AV
  | [], _ => .undef
  | (k, v) :: l, t => if t = k then v else lookup l t

def St.ev (st : St) : O → AV
  | .t k => lookup st.s k
  | .k a => a

def St.set (st : St) (d : Nat) (a : AV) : St := ⟨(d, a) :: st.s, st.h⟩
def St.setO (st : St) (d : Option Nat) (a : AV) : St := match d with | some d => st.set d a | none => st

def splice (cells : List AV) (off : Nat) : List AV → List AV
  | [v] => cells.set off v
  | vs => cells.take off ++ (vs ++ cells.drop (off + vs.length))

mutual
/-- No numbers of blocks in it (beyond what 'sl' and 'fp' show, where none can be). -/
def AV.plain : AV → Bool
  | .agg cs => AV.plainL cs
  | .tuple cs => AV.plainL cs
  | .fn _ cs => AV.plainL cs
  | .iface _ v => v.plain
  | .own .. => false
  | .ref .. => false
  | .tref .. => false
  | _ => true
def AV.plainL : List AV → Bool
  | [] => true
  | a :: l => a.plain && AV.plainL l
end

mutual
/-- 'a' may be handed on as 'b': what is owned is shown by its present content. -/
inductive Shows (h : AHeap) : AV → AV → Prop
  | same (a : AV) (hp : a.plain = true) : Shows h a a
  | nil (sz : Nat) : Shows h .nils (.sl sz [])
  | own (sz id off len cap : Nat) (cs : List AV) (xs : List AV) (hh : h[id]? = some (some cs)) (hle : off + len * sz ≤ cs.length) (hl : xs.length = len)
      (hs : ∀ x ∈ xs, x.isElem sz = true) (hx : ShowsL h ((cs.drop off).take (len * sz)) (xs.flatMap AV.cells)) : Shows h (.own sz id off len cap) (.sl sz xs)
  | ref (id off : Nat) (cs ds : List AV) (n : Nat) (hh : h[id]? = some (some cs)) (hd : ShowsL h ((cs.drop off).take n) ds) : Shows h (.ref id off) (.fp ds)
  | agg (cs ds : List AV) (hc : ShowsL h cs ds) : Shows h (.agg cs) (.agg ds)
  | tuple (cs ds : List AV) (hc : ShowsL h cs ds) : Shows h (.tuple cs) (.tuple ds)
  | fn (f : FuncId) (cs ds : List AV) (hc : ShowsL h cs ds) : Shows h (.fn f cs) (.fn f ds)
inductive ShowsL (h : AHeap) : List AV → List AV → Prop
  | nil : ShowsL h [] []
  | cons (a b : AV) (l m : List AV) (ha : Shows h a b) (hl : ShowsL h l m) : ShowsL h (a :: l) (b :: m)
end

/-- The call of a Go function with a body. -/
def HasBody (P : Program) (f : FuncId) : Prop := ∃ fn c, P.funcs[f]? = some fn ∧ fn.body = some c ∧ (fn.name == "runtime.NumGoroutine") = false

def RFs (w : World) (fz : Nat → Prop) (as : List AV) (vs : Array Value) : Prop := vs.size = as.length ∧ ∀ i a, as[i]? = some a → RF w fz a (vs.getD i undef)
def RTs (w : World) (rho : Gh) (fz : Nat → Prop) (as : List AV) (vs : Array Value) : Prop := vs.size = as.length ∧ ∀ i a, as[i]? = some a → RT w rho fz a (vs.getD i undef)

/-- A program with the table of its package-level variables. -/
structure Ctx where
  P : Program
  gt : List (Nat × List AV)

/-- Function 'f' at these arguments returns 'r', and turns nothing that was there. -/
def SpecP (c : Ctx) (f : FuncId) (args : List AV) (r : AV) : Prop :=
  HasBody c.P f ∧ ∀ (w : World) (fz : Nat → Prop) (vs : Array Value), FzOk w fz → Glob c.gt w fz → RFs w fz args vs →
    Calls c.P f vs w fun e w' => ∃ v fz', e = .returned v ∧ RF w' fz' r v ∧ FzOk w' fz' ∧ Pres w (fun _ => False) fz w' fz'

/-- Function 'f' at these arguments, with the blocks 'h' that it may write, returns 'r' and leaves 'h''; further blocks in 'h'' are new. -/
def SpecG (c : Ctx) (f : FuncId) (args : List AV) (h : AHeap) (r : AV) (h' : AHeap) : Prop :=
  HasBody c.P f ∧ h.length ≤ h'.length ∧ ∀ (w : World) (rho : Gh) (fz : Nat → Prop) (vs : Array Value), FzOk w fz → Glob c.gt w fz → HR w rho fz h → RTs w rho fz args vs →
    Calls c.P f vs w fun e w' => ∃ v rho' fz', e = .returned v ∧ RT w' rho' fz' r v ∧ FzOk w' fz' ∧ HR w' rho' fz' h' ∧ Pres w (Owned rho h) fz w' fz' ∧
      (∀ id, id < h.length → rho' id = rho id) ∧ (∀ b, Owned rho' h' b → Owned rho h b ∨ w.heap.size ≤ b)

mutual
def AV.ren (f : Nat → Nat) : AV → AV
  | .agg cs => .agg (AV.renL f cs)
  | .tuple cs => .tuple (AV.renL f cs)
  | .fn g cs => .fn g (AV.renL f cs)
  | .iface t v => .iface t (v.ren f)
  | .own sz id off len cap => .own sz (f id) off len cap
  | .ref id off => .ref (f id) off
  | .tref T n id => .tref T n (f id)
  | a => a
def AV.renL (f : Nat → Nat) : List AV → List AV
  | [] => []
  | a :: l => a.ren f :: AV.renL f l
end

/-- The numbers of a callee's blocks at the caller: those that were handed over; the new ones behind all others. -/
def place (sg : List Nat) (n : Nat) (id : Nat) : Nat := (sg[id]?).getD (n + (id - sg.length))

/-- The caller's heap behind the call: blocks that were handed over hold what the callee left; the new ones come behind. -/
def putBack (h : AHeap) (sg : List Nat) (h' : AHeap) : AHeap :=
  let rn := h'.map fun o => o.map (AV.renL (place sg h.length))
  (sg.zip rn).foldl (fun acc p => acc.set p.1 p.2) h ++ rn.drop sg.length

mutual
/-- A value that holds no place in memory. -/
def AV.flat : AV → Bool
  | .agg cs => AV.flatL cs
  | .tuple cs => AV.flatL cs
  | .fn _ cs => AV.flatL cs
  | .iface _ v => v.flat
  | .own .. => false
  | .ref .. => false
  | .tref .. => false
  | .sl .. => false
  | .fp .. => false
  | _ => true
def AV.flatL : List AV → Bool
  | [] => true
  | a :: l => a.flat && AV.flatL l
end

def keepOnly (F : List Nat) (h : AHeap) : AHeap := h.mapIdx fun i o => if i ∈ F then o else none
def killAll (F : List Nat) (h : AHeap) : AHeap := h.mapIdx fun i o => if i ∈ F then none else o

/-- A call may go on by: a contract that shares nothing (the arguments are shown; the result holds no place, or no argument had an owner); one at which owned arguments are given up; one that writes. -/
def callK (c : Ctx) (st : St) (d : Option Nat) (f : FuncId) (args : List AV) (wr : Bool) (K : St → Prop) : Prop :=
  (∃ as r, ShowsL st.h args as ∧ (AV.plainL args = true ∨ r.flat = true) ∧ SpecP c f as r ∧ K (st.setO d r)) ∨
  (wr = true ∧ ∃ F as r, ShowsL (keepOnly F st.h) args as ∧ SpecP c f as r ∧ K (({ st with h := killAll F st.h } : St).setO d r)) ∨
  (wr = true ∧ ∃ sg as ch r ch', SpecG c f as ch r ch' ∧ args = AV.renL (place sg st.h.length) as ∧ sg.length = ch.length ∧ sg.Nodup ∧ (∀ i ∈ sg, i < st.h.length) ∧
    (∀ (i : Nat) (k : Nat) (o : Option (List AV)), sg[i]? = some k → ch[i]? = some o → ∃ o', st.h[k]? = some o' ∧ (∀ cs, o = some cs → o' = some (AV.renL (place sg st.h.length) cs))) ∧
    K (({ st with h := putBack st.h sg ch' } : St).setO d (r.ren (place sg st.h.length))))

def onBool (a : AV) (K : Bool → Prop) : Prop := match a with | .bool b => K b | _ => False
def onInt (a : AV) (K : IntKind → Int → Prop) : Prop := match a with | .int k n => K k n | _ => False
def onStr (a : AV) (K : List UInt8 → Prop) : Prop := match a with | .str s => K s | _ => False
/-- An index: an optional bound of a cut. -/
def onLo (a : Option AV) (d : Nat) (K : Nat → Prop) : Prop := match a with | none => K d | some (.int _ n) => 0 ≤ n ∧ K n.toNat | _ => False

def arith (op : BinOp) (k : IntKind) (a b : Int) (K : AV → Prop) : Prop :=
  match op with
  | .add => K (.int k (k.wrap (a + b)))
  | .sub => K (.int k (k.wrap (a - b)))
  | .mul => K (.int k (k.wrap (a * b)))
  | .quo => b ≠ 0 ∧ K (.int k (k.wrap (a.tdiv b)))
  | .rem => b ≠ 0 ∧ K (.int k (a.tmod b))
  | .eql => K (.bool (decide (a = b)))
  | .neq => K (.bool (!decide (a = b)))
  | .lss => K (.bool (decide (a < b)))
  | .leq => K (.bool (decide (a ≤ b)))
  | .gtr => K (.bool (decide (a > b)))
  | .geq => K (.bool (decide (a ≥ b)))
  | .and => K (.int k (k.wrap ((BitVec.ofInt k.bits a &&& BitVec.ofInt k.bits b).toNat)))
  | .or => K (.int k (k.wrap ((BitVec.ofInt k.bits a ||| BitVec.ofInt k.bits b).toNat)))
  | .xor => K (.int k (k.wrap ((BitVec.ofInt k.bits a ^^^ BitVec.ofInt k.bits b).toNat)))
  | _ => False

def strOp (op : BinOp) (a b : List UInt8) (K : AV → Prop) : Prop :=
  match op with
  | .add => a.length + b.length ≤ 9223372036854775807 ∧ K (.str (a ++ b))
  | .eql => K (.bool (decide (a = b)))
  | .neq => K (.bool (!decide (a = b)))
  | .lss => K (.bool (Op.bytesLess a b))
  | .gtr => K (.bool (!(Op.bytesLess a b || decide (a = b))))
  | .leq => K (.bool (Op.bytesLess a b || decide (a = b)))
  | .geq => K (.bool (!Op.bytesLess a b))
  | _ => False

def binK (op : BinOp) (x y : AV) (K : AV → Prop) : Prop :=
  match op, x, y with
  | .shl, .int k a, .int _ b => 0 ≤ b ∧ K (.int k (k.wrap (a * 2 ^ (Nat.min b.toNat k.bits))))
  | .shr, .int k a, .int _ b => 0 ≤ b ∧ K (.int k (a.fdiv (2 ^ (Nat.min b.toNat k.bits))))
  | op, .int k a, .int k' b => k = k' ∧ arith op k a b K
  | op, .str a, .str b => strOp op a b K
  | _, _, _ => False

/-- Equality of structs cell by cell (strings, ints, bools). -/
def eqCells : List Leaf → List AV → List AV → Option Bool
  | [], [], [] => some true
  | .str :: ls, .str a :: l, .str b :: m => (eqCells ls l m).map (decide (a = b) && ·)
  | .int k :: ls, .int k1 a :: l, .int k2 b :: m => if k1 = k ∧ k2 = k then (eqCells ls l m).map (decide (a = b) && ·) else none
  | .bool :: ls, .bool a :: l, .bool b :: m => (eqCells ls l m).map (decide (a = b) && ·)
  | _, _, _ => none

/-- Is it nil? (0: a slice, 1: a function, 2: an interface, 3: a pointer.) -/
def onNil (kd : Nat) (a : AV) (K : Bool → Prop) : Prop :=
  match kd, a with
  | 0, .nils => K true
  | 0, .emp => K true ∧ K false
  | 0, .sl _ xs => (xs = [] → K true) ∧ K false
  | 0, .own .. => K false
  | 1, .nilf => K true
  | 1, .fn .. => K false
  | 2, .nili => K true
  | 2, .iface .. => K false
  | 3, .nilp => K true
  | 3, .fp _ => K false
  | 3, .ref .. => K false
  | 3, .tref .. => K false
  | _, _ => False

/-- The elements that an append's source has. -/
def srcElems (h : AHeap) (sz : Nat) (x : AV) (K : List AV → Prop) : Prop :=
  match x with
  | .nils => K []
  | .emp => K []
  | .sl sz' xs => sz' = sz ∧ K xs
  | .str s => sz = 1 ∧ K (s.map fun b => .int .u8 b.toNat)
  | x => ∃ xs, Shows h x (.sl sz xs) ∧ AV.flatL (xs.flatMap AV.cells) = true ∧ K xs

/-- The present cells of an append's target, and the heap without it. -/
def dstCells (h : AHeap) (sz : Nat) (s : AV) (K : Nat → Nat → List AV → AHeap → Prop) : Prop :=
  match s with
  | .nils => K 0 0 [] h
  | .emp => K 0 0 [] h
  | .own sz' id off len cap => sz' = sz ∧ ∃ cs, h[id]? = some (some cs) ∧ off + len * sz ≤ cs.length ∧ K len cap ((cs.drop off).take (len * sz)) (h.set id none)
  | _ => False

def buildCells (z : List AV) : List (Nat × Nat × AV) → Option (List AV)
  | [] => some z
  | (off, sz, v) :: l => if 0 < sz ∧ v.isElem sz = true ∧ off + sz ≤ z.length then buildCells (splice z off v.cells) l else none

def astep (c : Ctx) (i : I) (st : St) (K : St → Prop) : Prop :=
  match i with
  | .mv d x => K (st.set d (st.ev x))
  | .pick d q a b => onBool (st.ev q) fun t => (t = true → K (st.set d (st.ev a))) ∧ (t = false → K (st.set d (st.ev b)))
  | .box d x false => (st.ev x).plain = true ∧ K (st.set d (.fp (st.ev x).cells))
  | .box d x true => K ⟨(d, .ref st.h.length 0) :: st.s, st.h ++ [some (st.ev x).cells]⟩
  | .alloc d z false => AV.plainL z = true ∧ K (st.set d (.fp z))
  | .alloc d z true => K ⟨(d, .ref st.h.length 0) :: st.s, st.h ++ [some z]⟩
  | .allocT d T z => K ⟨(d, .tref T z.length st.h.length) :: st.s, st.h ++ [some z]⟩
  | .build d z ps => ∃ cs, buildCells z (ps.map fun p => (p.1, p.2.1, st.ev p.2.2)) = some cs ∧ K (st.set d (.agg cs))
  | .bsl d _ [] _ => K (st.set d .emp)
  | .bsl d sz xs false => ((xs.map st.ev).all (AV.isElem sz) = true) ∧ AV.plainL (xs.map st.ev) = true ∧ K (st.set d (.sl sz (xs.map st.ev)))
  | .bsl d sz xs true => ((xs.map st.ev).all (AV.isElem sz) = true) ∧ K ⟨(d, .own sz st.h.length 0 xs.length xs.length) :: st.s, st.h ++ [some ((xs.map st.ev).flatMap AV.cells)]⟩
  | .mksl d sz bytes z n q => onInt (st.ev n) fun _ l => onInt (st.ev q) fun _ cp => 0 ≤ l ∧ l ≤ cp ∧ cp * bytes ≤ 140737488355328 ∧ cp < 9223372036854775808 ∧ (cp = 0 ∨ z.length = sz) ∧
      K ⟨(d, .own sz st.h.length 0 l.toNat cp.toNat) :: st.s, st.h ++ [some (List.replicate cp.toNat z).flatten]⟩
  | .load d ag sz a => match st.ev a with
    | .fp cs => if ag then sz ≤ cs.length ∧ K (st.set d (.agg (cs.take sz))) else ∃ v, cs[0]? = some v ∧ K (st.set d v)
    | .ref id off => ∃ cs, st.h[id]? = some (some cs) ∧ (if ag then off + sz ≤ cs.length ∧ K (st.set d (.agg ((cs.drop off).take sz))) else ∃ v, cs[off]? = some v ∧ K (st.set d v))
    | _ => False
  | .loadf d ag sz a => match st.ev a with
    | .fp cs => if ag then sz ≤ cs.length ∧ K (st.set d (.agg (cs.take sz))) else ∃ v, cs[0]? = some v ∧ K (st.set d v)
    | _ => False
  | .idxv d ag sz n x i => onInt (st.ev i) fun _ j => 0 ≤ j ∧ j < n ∧ match st.ev x with
    | .agg cs => if ag then j.toNat * sz + sz ≤ cs.length ∧ K (st.set d (.agg ((cs.drop (j.toNat * sz)).take sz))) else ∃ v, cs[j.toNat * sz]? = some v ∧ K (st.set d v)
    | _ => False
  | .bad _ => False
  | .store sz a x => match st.ev a with
    | .ref id off => ∃ cs, st.h[id]? = some (some cs) ∧ (st.ev x).isElem sz = true ∧ off + sz ≤ cs.length ∧ K { st with h := st.h.set id (some (splice cs off (st.ev x).cells)) }
    | _ => False
  | .bin d op x y => binK op (st.ev x) (st.ev y) fun r => K (st.set d r)
  | .eqb d neg x y => onBool (st.ev x) fun a => onBool (st.ev y) fun b => K (st.set d (.bool (if neg then !decide (a = b) else decide (a = b))))
  | .eqs d neg ls x y => match st.ev x, st.ev y with
    | .agg cs, .agg ds => ∃ r, eqCells ls cs ds = some r ∧ K (st.set d (.bool (if neg then !r else r)))
    | _, _ => False
  | .eqn d neg kd x => onNil kd (st.ev x) fun b => K (st.set d (.bool (if neg then !b else b)))
  | .not d x => onBool (st.ev x) fun b => K (st.set d (.bool !b))
  | .neg d x => onInt (st.ev x) fun k n => K (st.set d (.int k (k.wrap (0 - n))))
  | .conv d k x => onInt (st.ev x) fun _ n => K (st.set d (.int k (k.wrap n)))
  | .cvs d x => onStr (st.ev x) fun s => K (st.set d (.str s))
  | .fld d off x => match st.ev x with
    | .fp cs => off ≤ cs.length ∧ K (st.set d (.fp (cs.drop off)))
    | .ref id o => K (st.set d (.ref id (o + off)))
    | .tref _ _ id => K (st.set d (.ref id off))
    | _ => False
  | .fldv d ag off sz x => match st.ev x with
    | .agg cs => if ag then off + sz ≤ cs.length ∧ K (st.set d (.agg ((cs.drop off).take sz))) else ∃ v, cs[off]? = some v ∧ K (st.set d v)
    | _ => False
  | .idxa d sz none x i => onInt (st.ev i) fun _ n => match st.ev x with
    | .sl sz' xs => sz' = sz ∧ 0 ≤ n ∧ ∃ e, xs[n.toNat]? = some e ∧ K (st.set d (.fp e.cells))
    | .own sz' id off len _ => sz' = sz ∧ 0 ≤ n ∧ n < len ∧ K (st.set d (.ref id (off + n.toNat * sz)))
    | _ => False
  | .idxa d sz (some m) x i => onInt (st.ev i) fun _ n => 0 ≤ n ∧ n < m ∧ match st.ev x with
    | .fp cs => n.toNat * sz ≤ cs.length ∧ K (st.set d (.fp (cs.drop (n.toNat * sz))))
    | .ref id off => K (st.set d (.ref id (off + n.toNat * sz)))
    | _ => False
  | .idx d x i => onStr (st.ev x) fun s => onInt (st.ev i) fun _ n => 0 ≤ n ∧ ∃ b, s[n.toNat]? = some b ∧ K (st.set d (.int .u8 b.toNat))
  | .slcs d x lo hi => onStr (st.ev x) fun s => onLo (hi.map st.ev) s.length fun h => onLo (lo.map st.ev) 0 fun l => h ≤ s.length ∧ l ≤ h ∧ K (st.set d (.str ((s.take h).drop l)))
  | .slc d sz x lo hi mx => match st.ev x with
    | .sl sz' xs => sz' = sz ∧ mx.isNone = true ∧ onLo (hi.map st.ev) xs.length fun h => onLo (lo.map st.ev) 0 fun l => h ≤ xs.length ∧ l ≤ h ∧ K (st.set d (.sl sz ((xs.take h).drop l)))
    | .own sz' id off len cap => sz' = sz ∧ onLo (mx.map st.ev) cap fun m => onLo (hi.map st.ev) len fun h => onLo (lo.map st.ev) 0 fun l => m ≤ cap ∧ h ≤ m ∧ l ≤ h ∧ (l = 0 ∨ l < m) ∧
        K (st.set d (.own sz id (off + l * sz) (h - l) (m - l)))
    | .nils => onLo (mx.map st.ev) 0 fun m => onLo (hi.map st.ev) 0 fun h => onLo (lo.map st.ev) 0 fun l => m = 0 ∧ h = 0 ∧ l = 0 ∧ K (st.set d .nils)
    | .emp => onLo (mx.map st.ev) 0 fun m => onLo (hi.map st.ev) 0 fun h => onLo (lo.map st.ev) 0 fun l => m = 0 ∧ h = 0 ∧ l = 0 ∧ K (st.set d .emp)
    | _ => False
  | .slca d sz n x lo hi => match st.ev x with
    | .ref id off => onLo (hi.map st.ev) n fun h => onLo (lo.map st.ev) 0 fun l => h ≤ n ∧ l ≤ h ∧ (l = 0 ∨ l < n) ∧ (∃ cs, st.h[id]? = some (some cs) ∧ off + n * sz ≤ cs.length) ∧ K (st.set d (.own sz id (off + l * sz) (h - l) (n - l)))
    | _ => False
  | .lens d x => onStr (st.ev x) fun s => K (st.set d (.int .i64 s.length))
  | .len d x => match st.ev x with
    | .sl _ xs => K (st.set d (.int .i64 xs.length))
    | .own _ _ _ len _ => K (st.set d (.int .i64 len))
    | .nils => K (st.set d (.int .i64 0))
    | .emp => K (st.set d (.int .i64 0))
    | _ => False
  | .append d sz bytes s x m => srcElems st.h sz (st.ev x) fun xs =>
      (xs = [] → match st.ev s with
        | .nils => K (st.set d .nils)
        | .emp => K (st.set d .emp)
        | .own sz' id off len cap => m = true ∧ K (st.set d (.own sz' id off len cap))
        | _ => False) ∧
      (xs ≠ [] → dstCells st.h sz (st.ev s) fun n q old h1 => (n + xs.length) * bytes ≤ 1099511627776 ∧ n + xs.length ≤ 1099511627776 ∧
        (if m then K ⟨(d, .own sz st.h.length 0 (n + xs.length) (max (n + xs.length) q)) :: st.s, h1 ++ [some (old ++ (xs.flatMap AV.cells ++ List.replicate ((max (n + xs.length) q - (n + xs.length)) * sz) AV.undef))]⟩
         else ∃ ys, old = ys.flatMap AV.cells ∧ (∀ y ∈ ys, y.isElem sz = true) ∧ ys.length = n ∧ AV.plainL ys = true ∧ AV.plainL xs = true ∧ K ⟨(d, .sl sz (ys ++ xs)) :: st.s, h1⟩))
  | .call d f args wr => match st.ev f with
    | .fn g caps => callK c st d g (args.map st.ev ++ caps) wr K
    | _ => False
  | .cap d x => match st.ev x with
    | .nils => K (st.set d (.int .i64 0))
    | .emp => K (st.set d (.int .i64 0))
    | _ => False
  | .max d x y => onInt (st.ev x) fun k a => onInt (st.ev y) fun _ b => K (st.set d (.int k (if b > a then b else a)))
  | .min d x y => onInt (st.ev x) fun k a => onInt (st.ev y) fun _ b => K (st.set d (.int k (if b < a then b else a)))
  | .clear sz z x => match st.ev x with
    | .own sz' id off len _ => sz' = sz ∧ z.length = sz ∧ ∃ cs, st.h[id]? = some (some cs) ∧ off + len * sz ≤ cs.length ∧
        K { st with h := st.h.set id (some (cs.take off ++ ((List.replicate len z).flatten ++ cs.drop (off + len * sz)))) }
    | _ => False
  | .ext d x i => match st.ev x with
    | .tuple vs => ∃ v, vs[i]? = some v ∧ K (st.set d v)
    | _ => False
  | .mkfn d f caps => K (st.set d (.fn f (caps.map st.ev)))
  | .iface d t x => K (st.set d (.iface t (st.ev x)))
  | .nilchk d x => match st.ev x with
    | .ref id off => K (st.set d (.ref id off))
    | .tref T n id => K (st.set d (.tref T n id))
    | .fp cs => K (st.set d (.fp cs))
    | .fn f cs => K (st.set d (.fn f cs))
    | _ => False

def aops (c : Ctx) : List GI → St → (St → Prop) → Prop
  | [], st, K => K st
  | i :: l, st, K =>
    match i.g with
    | none => astep c i.i st fun st' => aops c l st' K
    | some (t, want) =>
      match lookup st.s t with
      | .bool b => (b = want → astep c i.i (st.set t (.bool want)) fun st' => aops c l st' K) ∧ (b = !want → aops c l ((st.set t (.bool !want)).setO i.dst (.tuple [])) K)
      | .tuple [] => aops c l (st.setO i.dst (.tuple [])) K
      | _ => False

inductive E where
  | normal
  | exit (id : Nat)
  | ret

mutual
/-- All numbers of blocks in it are below n. -/
def AV.idsLt (n : Nat) : AV → Bool
  | .agg cs => AV.idsLtL n cs
  | .tuple cs => AV.idsLtL n cs
  | .fn _ cs => AV.idsLtL n cs
  | .iface _ v => v.idsLt n
  | .own _ id _ _ _ => decide (id < n)
  | .ref id _ => decide (id < n)
  | .tref _ _ id => decide (id < n)
  | _ => true
def AV.idsLtL (n : Nat) : List AV → Bool
  | [] => true
  | a :: l => a.idsLt n && AV.idsLtL n l
end

/-- The state 'st' knows all that 'st'' says, up to the numbers of blocks ('f'); the first k blocks keep theirs. -/
def weak (k : Nat) (st st' : St) : Prop :=
  ((∀ p ∈ st'.s, lookup st.s p.1 = p.2) ∧ st'.h = st.h) ∨
  ∃ f : Nat → Nat, k ≤ st'.h.length ∧ (∀ id, id < k → f id = id) ∧ (∀ p ∈ st'.s, lookup st.s p.1 = p.2.ren f ∧ p.2.idsLt st'.h.length = true) ∧ (∀ id, id < st'.h.length → f id < st.h.length) ∧
    (∀ id id', id < st'.h.length → id' < st'.h.length → f id = f id' → id = id') ∧
    (∀ (id : Nat) (cs : List AV), st'.h[id]? = some (some cs) → st.h[f id]? = some (some (AV.renL f cs)) ∧ AV.idsLtL st'.h.length cs = true)

/-- Rounds of a loop. At the head of each what need not be known is forgotten. -/
def rounds (k : Nat) (body : St → (E → St → Prop) → Prop) : Nat → St → (E → St → Prop) → Prop
  | 0, _, _ => False
  | n + 1, st, Q => ∃ st', weak k st st' ∧ body st' fun e st'' => match e with | .normal => rounds k body n st'' Q | e => Q e st''

/-- The fence that lets everything in, in a round. -/
def wideR (r : Option Nat) : Fence := { Fence.wide with round := r }

/-- Function 'f', with these captures, calls its argument on the items, one behind the other, as long as it answers true. -/
def IterP (c : Ctx) (f : FuncId) (caps : List AV) (items : List (List AV)) : Prop :=
  HasBody c.P f ∧ ∀ (l : Nat) (w : World) (fz : Nat → Prop) (vs : Array Value) (J : Nat → World → (Nat → Prop) → Prop) (X : World → Prop),
    RFs w fz caps vs → J 0 w fz → (∀ i w fz, J i w fz → FzOk w fz) → (∀ i w fz, J i w fz → J i w.drew fz) → (∀ w, X w → X w.drew) →
    (∀ (i : Nat) (x : List AV) (w : World) (fz : Nat → Prop) (us : Array Value), items[i]? = some x → J i w fz → RFs w fz x us →
      ∃ fn tmps assign body, (Instr.yield l us).run c.P w = .ok (.round l fn tmps assign body) w ∧ RoundIn (wideR none) 0 c.P l fn tmps assign body w fun e w' =>
        (e = .returned (.bool true) ∧ ∃ fz', J (i + 1) w' fz' ∧ (∀ b, fz b → fz' b) ∧ ∀ b, fz b → w'.heap[b]? = w.heap[b]?) ∨ (e = .returned (.bool false) ∧ X w')) →
    CallsIn (wideR none) 0 c.P f (#[.func (.yield l) #[] #[]] ++ vs) w fun e w' => (∃ v, e = .returned v) ∧ ((∃ fz', J items.length w' fz') ∨ X w')

def putAll (ps : List Nat) (x : List AV) (st : St) : St := (ps.zip x).foldl (fun st p => st.set p.1 p.2) st

/-- The rounds of a range over a function: what a round writes to slots is gone behind it. -/
def rangeK (k : Nat) (ps : List Nat) (A B : Nat → St → (E → St → Prop) → Prop) : List (List AV) → St → (E → St → Prop) → Prop
  | [], st, Q => ∃ st1, weak k st st1 ∧ Q .normal st1
  | x :: xs, st, Q => ∃ st1, weak k st st1 ∧ A st1.h.length (putAll ps x st1) fun e st2 => match e with
    | .normal => B st1.h.length st2 fun e st3 => match e with
      | .normal => rangeK k ps A B xs ⟨st1.s, st3.h⟩ Q
      | e => Q e ⟨st1.s, st3.h⟩
    | _ => False

def awp (c : Ctx) : Nat → C → St → (E → St → Prop) → Prop
  | _, .skip, st, Q => Q .normal st
  | _, .ops l, st, Q => aops c l st (Q .normal)
  | k, .seq a b, st, Q => awp c k a st fun e st' => match e with | .normal => awp c k b st' Q | e => Q e st'
  | k, .cond q a b, st, Q => onBool (st.ev q) fun t => (t = true → awp c k a st Q) ∧ (t = false → awp c k b st Q)
  | k, .block id a, st, Q => awp c k a st fun e st' => match e with | .exit i => if i = id then Q .normal st' else Q (.exit i) st' | e => Q e st'
  | k, .loop a, st, Q => ∃ n, rounds k (awp c k a) n st Q
  | k, .range g ps a b, st, Q => ∃ f caps items, st.ev g = .fn f caps ∧ AV.plainL caps = true ∧ IterP c f caps items ∧ (∀ x ∈ items, x.length = ps.length) ∧
      rangeK k ps (fun k => awp c k a) (fun k => awp c k b) items st Q
  | _, .exit id, st, Q => Q (.exit id) st
  | _, .ret, st, Q => Q .ret st

/-- A result variable: a slot, or the cells behind one. -/
inductive RV where
  | tmp (t : Nat)
  | cell (t : Nat) (ag : Bool) (sz : Nat)

def rvK (st : St) (v : RV) (K : AV → Prop) : Prop :=
  match v with
  | .tmp t => K (lookup st.s t)
  | .cell t ag sz => match lookup st.s t with
    | .fp cs => if ag then sz ≤ cs.length ∧ K (.agg (cs.take sz)) else ∃ v, cs[0]? = some v ∧ K v
    | .ref id off => ∃ cs, st.h[id]? = some (some cs) ∧ (if ag then off + sz ≤ cs.length ∧ K (.agg ((cs.drop off).take sz)) else ∃ v, cs[off]? = some v ∧ K v)
    | _ => False

def rvsK (st : St) : List RV → (List AV → Prop) → Prop
  | [], K => K []
  | v :: l, K => rvK st v fun a => rvsK st l fun m => K (a :: m)

def resAV : List AV → AV
  | [a] => a
  | l => .tuple l

def E.done : E → Bool
  | .normal => true
  | .ret => true
  | _ => false

def args0 (args : List AV) : List (Nat × AV) := args.zipIdx.map fun p => (p.2, p.1)

end Go.Proofs.YtkjnjdcbnelceaaGreatDoor.KA
end

section
/- What an operation does to the world, for those that only reckon: the ground of the soundness of 'astep'. Nothing here concerns a given program. -/
namespace Go.Proofs.YtkjnjdcbnelceaaGreatDoor.KA
open Go

def dstI : I → Option Nat
  | .mv d _ | .pick d _ _ _ | .box d _ _ | .alloc d _ _ | .allocT d _ _ | .cap d _ | .build d _ _ | .bsl d _ _ _ | .mksl d _ _ _ _ _ | .load d _ _ _ | .loadf d _ _ _ | .idxv d _ _ _ _ _ | .bin d _ _ _ | .eqb d _ _ _ | .eqs d _ _ _ _ | .eqn d _ _ _
  | .not d _ | .neg d _ | .conv d _ _ | .cvs d _ | .fld d _ _ | .fldv d _ _ _ _ | .idxa d _ _ _ _ | .idx d _ _ | .slc d _ _ _ _ _ | .slcs d _ _ _ | .slca d _ _ _ _ _ | .len d _ | .lens d _ | .append d _ _ _ _ _
  | .max d _ _ | .min d _ _ | .ext d _ _ | .mkfn d _ _ | .iface d _ _ | .nilchk d _ => some d
  | .store _ _ _ | .clear _ _ _ => none
  | .call d _ _ _ => d
  | .bad d => d

def upd (i : I) (st : St) (r : AV) (h' : AHeap) : St := ⟨match dstI i with | some d => (d, r) :: st.s | none => st.s, h'⟩

/-- A step from one related world to another. -/
structure Good (w : World) (rho : Gh) (fz : Nat → Prop) (h : AHeap) (w' : World) (rho' : Gh) (fz' : Nat → Prop) (h' : AHeap) : Prop where
  hr : HR w' rho' fz' h'
  ok : FzOk w' fz'
  pres : Pres w (Owned rho h) fz w' fz'
  same : ∀ id, id < h.length → rho' id = rho id
  len : h.length ≤ h'.length
  own : ∀ b, Owned rho' h' b → Owned rho h b ∨ w.heap.size ≤ b

theorem Good.refl {w : World} {rho : Gh} {fz : Nat → Prop} {h : AHeap} (hr : HR w rho fz h) (ok : FzOk w fz) : Good w rho fz h w rho fz h :=
  ⟨hr, ok, Pres.refl _ _ _, fun _ _ => rfl, Nat.le_refl _, fun _ hb => .inl hb⟩

/-- What has to be shown of an operation: whatever follows from the state behind it, follows. -/
def Res (c : Ctx) (o : Oper) (i : I) (a : Act) (w : World) (rho : Gh) (fz : Nat → Prop) (st : St) (K : St → Prop) : Prop :=
  ∀ (N : Act → World → Prop) (Q : Exit → Act → World → Prop),
    (∀ r h' v w' rho' fz', K (upd i st r h') → Good w rho fz st.h w' rho' fz' h' → RT w' rho' fz' r v → N (a.put o.dst v) w') → o.wp c.P a w N Q

section
variable {c : Ctx} {o : Oper} {i : I} {a : Act} {w : World} {rho : Gh} {fz : Nat → Prop} {st : St} {K : St → Prop}

theorem res_value {d : Nat} {r : AV} {v : Value} (hd : dstI i = some d) (hh : HR w rho fz st.h) (hf : FzOk w fz) (hrun : (execOp a.eval o).run c.P w = .ok (.value v) w) (hrt : RT w rho fz r v) (hk : K (st.set d r)) : Res c o i a w rho fz st K := by
  intro N Q hN
  unfold Oper.wp
  rw [hrun]
  exact hN r st.h v w rho fz (by simpa [upd, hd, St.set] using hk) (Good.refl hh hf) hrt

theorem Owned.lt {w : World} {rho : Gh} {fz : Nat → Prop} {h : AHeap} (hh : HR w rho fz h) {b : Nat} (hb : Owned rho h b) : b < w.heap.size ∧ ¬ fz b := by
  obtain ⟨id, cs, o, h1, h2⟩ := hb
  obtain ⟨b', o', arr, ty, h3, h4, h5, _⟩ := hh.cell id cs h1
  rw [h2] at h3
  cases h3
  exact ⟨(Array.getElem?_eq_some_iff.1 h5).1, h4⟩

theorem shape_alloc (w : World) (o : Obj) : ∀ b s, w.shape? b = some s → (w.alloc o).shape? b = some s := by
  intro b s hs
  have hlt : b < w.heap.size := by
    unfold World.shape? at hs
    by_cases h : b < w.heap.size
    · exact h
    · rw [Array.getElem?_eq_none (by omega)] at hs; cases hs
  unfold World.shape? at *
  rw [heap_alloc_old w o b hlt]; exact hs

theorem pres_alloc (w : World) (own0 fz : Nat → Prop) (o : Obj) (fz' : Nat → Prop) (h1 : ∀ b, fz b → fz' b) (h2 : ∀ b, fz' b → fz b ∨ w.heap.size ≤ b) : Pres w own0 fz (w.alloc o) fz' where
  os := rfl
  tape := rfl
  output := rfl
  size := by simp
  block := fun b hb _ => heap_alloc_old w o b hb
  shape := shape_alloc w o
  keep := h1
  fresh := fun b hb => (h2 b hb).elim .inl (fun h => .inr (.inr h))

theorem RT.alloc {w : World} {rho : Gh} {fz fz' : Nat → Prop} (hf : FzOk w fz) (h1 : ∀ b, fz b → fz' b) (o : Obj) {rho' : Gh} (hr : ∀ id p, rho id = some p → rho' id = some p) {x : AV} {v : Value} (h : RT w rho fz x v) : RT (w.alloc o) rho' fz' x v :=
  h.mono (fun b hb => heap_alloc_old w o b (hf b hb)) h1 (shape_alloc w o) hr

/-- A new block that nobody writes. -/
theorem good_alloc_fz {h : AHeap} (hh : HR w rho fz h) (hf : FzOk w fz) (o : Obj) : Good w rho fz h (w.alloc o) rho (fun b => fz b ∨ b = w.heap.size) h where
  hr := by
    refine ⟨hh.dom, fun id cs hid => ?_, hh.inj⟩
    obtain ⟨b, o', arr, ty, h1, h2, h3, h4, h5⟩ := hh.cell id cs hid
    have hlt := (Array.getElem?_eq_some_iff.1 h3).1
    exact ⟨b, o', arr, ty, h1, fun hc => hc.elim h2 (fun e => by omega), by rw [heap_alloc_old w o b hlt]; exact h3, h4, fun j x hj => (h5 j x hj).alloc hf (fun _ => .inl) o (fun _ _ hx => hx)⟩
  ok := fun b hb => by
    rcases hb with hb | rfl
    · have := hf b hb; simp; omega
    · simp
  pres := pres_alloc w _ fz o _ (fun _ => .inl) (fun b hb => hb.imp id (fun e => by omega))
  same := fun _ _ => rfl
  len := Nat.le_refl _
  own := fun _ hb => .inl hb

/-- The numbers behind a new block of one's own. -/
def rhoNew (rho : Gh) (n : Nat) (p : Nat × Nat) : Gh := fun id => if id = n then some p else rho id

theorem rhoNew_old {w : World} {h : AHeap} (hh : HR w rho fz h) {p : Nat × Nat} : ∀ id q, rho id = some q → rhoNew rho h.length p id = some q := by
  intro id q hq
  unfold rhoNew
  rw [if_neg]
  · exact hq
  · intro e
    rw [hh.dom id (by omega)] at hq
    cases hq

/-- A new block of one's own. 'h1': the heap, of which blocks may have been given up. -/
theorem good_alloc_own {h : AHeap} (hh : HR w rho fz h) (hf : FzOk w fz) (h1 : AHeap) (hl1 : h1.length = h.length) (hsub : ∀ (id : Nat) (cs : List AV), h1[id]? = some (some cs) → h[id]? = some (some cs)) (arr : Array Value) (ty : TypeId) (cs : List AV) (hle : cs.length ≤ arr.size)
    (hcs : ∀ j x, cs[j]? = some x → RT w rho fz x (arr.getD j undef)) : Good w rho fz h (w.alloc (.cells arr ty)) (rhoNew rho h.length (w.heap.size, 0)) fz (h1 ++ [some cs]) where
  hr := by
    refine ⟨fun id hid => ?_, fun id ds hid => ?_, fun id id' ds ds' b o o' hd hd' hr hr' => ?_⟩
    · simp [hl1] at hid
      unfold rhoNew
      rw [if_neg (by omega)]
      exact hh.dom id (by omega)
    · rw [List.getElem?_append] at hid
      split at hid
      · rename_i hlt
        have hold := hsub id ds hid
        obtain ⟨b, o', arr', ty', g1, g2, g3, g4, g5⟩ := hh.cell id ds hold
        have hlt' := (Array.getElem?_eq_some_iff.1 g3).1
        exact ⟨b, o', arr', ty', rhoNew_old hh id _ g1, g2, by rw [heap_alloc_old w _ b hlt']; exact g3, g4, fun j x hj => (g5 j x hj).alloc hf (fun _ hx => hx) _ (rhoNew_old hh)⟩
      · rename_i hlt
        have hid0 : id = h1.length := by
          rcases Nat.lt_or_ge (id - h1.length) 1 with h0 | h0
          · omega
          · rw [List.getElem?_eq_none (by simpa using h0)] at hid; cases hid
        subst hid0
        simp at hid
        subst hid
        refine ⟨w.heap.size, 0, arr, ty, by simp [rhoNew, hl1], fun hc => by have := hf _ hc; omega, heap_alloc_new w _, by omega, fun j x hj => ?_⟩
        rw [Nat.zero_add]
        exact (hcs j x hj).alloc hf (fun _ hx => hx) _ (rhoNew_old hh)
    · have key : ∀ id ds, (h1 ++ [some cs])[id]? = some (some ds) → id = h.length ∨ (id < h.length ∧ h[id]? = some (some ds)) := by
        intro id ds hid
        rw [List.getElem?_append] at hid
        split at hid
        · exact .inr ⟨by omega, hsub id ds hid⟩
        · rcases Nat.lt_or_ge (id - h1.length) 1 with h0 | h0
          · exact .inl (by omega)
          · rw [List.getElem?_eq_none (by simpa using h0)] at hid; cases hid
      have blk : ∀ id ds, id < h.length → h[id]? = some (some ds) → ∀ b o, rhoNew rho h.length (w.heap.size, 0) id = some (b, o) → rho id = some (b, o) ∧ b < w.heap.size := by
        intro id ds hlt hid b o hrr
        unfold rhoNew at hrr
        rw [if_neg (by omega)] at hrr
        exact ⟨hrr, (Owned.lt hh ⟨id, ds, o, hid, hrr⟩).1⟩
      rcases key id ds hd with e | ⟨hlt, hold⟩ <;> rcases key id' ds' hd' with e' | ⟨hlt', hold'⟩
      · omega
      · have := blk id' ds' hlt' hold' b o' hr'
        subst e
        simp [rhoNew] at hr
        omega
      · have := blk id ds hlt hold b o hr
        subst e'
        simp [rhoNew] at hr'
        omega
      · exact hh.inj id id' ds ds' b o o' hold hold' (blk id ds hlt hold b o hr).1 (blk id' ds' hlt' hold' b o' hr').1
  ok := fun b hb => by have := hf b hb; simp; omega
  pres := pres_alloc w _ fz _ _ (fun _ hx => hx) (fun b hb => .inl hb)
  same := fun id hid => by unfold rhoNew; rw [if_neg (by omega)]
  len := by simp [hl1]
  own := fun b hb => by
    obtain ⟨id, ds, o, hid, hr⟩ := hb
    rw [List.getElem?_append] at hid
    unfold rhoNew at hr
    split at hid
    · rename_i hlt
      rw [if_neg (by omega)] at hr
      exact .inl ⟨id, ds, o, hsub id ds hid, hr⟩
    · rename_i hlt
      rcases Nat.lt_or_ge (id - h1.length) 1 with h0 | h0
      · have : id = h.length := by omega
        rw [if_pos this] at hr
        cases hr
        exact .inr (Nat.le_refl _)
      · rw [List.getElem?_eq_none (by simpa using h0)] at hid; cases hid

end
end Go.Proofs.YtkjnjdcbnelceaaGreatDoor.KA
end

section
/- From the model's operations to the small code: 'opI'. Nothing here concerns a given program. -/
namespace Go.Proofs.YtkjnjdcbnelceaaGreatDoor.KA
open Go

def simpleAV : Value → Option AV
  | .int k n => some (.int k n)
  | .bool b => some (.bool b)
  | .string s => some (.str s.data.toList)
  | .slice none 0 0 => some .nils
  | .pointer none => some .nilp
  | .nilFunc => some .nilf
  | .nilIface => some .nili
  | _ => none

def simpleAVs : List Value → Option (List AV)
  | [] => some []
  | v :: l => match simpleAV v, simpleAVs l with
    | some a, some m => some (a :: m)
    | _, _ => none

def constAV : Value → Option AV
  | .agg cs => (simpleAVs cs.toList).map .agg
  | .tuple cs => (simpleAVs cs.toList).map .tuple
  | v => simpleAV v

def zeroAV (P : Program) (t : TypeId) : Option (List AV) :=
  match P.info? t with
  | some i => match i.zero with
    | some z => simpleAVs z.cells.toList
    | none => none
  | none => none

def opO (gt : List (Nat × List AV)) : Operand → Option O
  | .tmp t => some (.t t)
  | .const v => (constAV v).map .k
  | .global g => match gt.find? (fun p => p.1 == g) with | some p => some (.k (.fp p.2)) | none => none
  | .func f => some (.k (.fn f []))

def opOs (gt : List (Nat × List AV)) : List Operand → Option (List O)
  | [] => some []
  | x :: l => match opO gt x, opOs gt l with
    | some a, some m => some (a :: m)
    | _, _ => none

def opOpt (gt : List (Nat × List AV)) : Option Operand → Option (Option O)
  | none => some none
  | some x => (opO gt x).map some

def sizeT (P : Program) (t : TypeId) : Option Nat := (P.info? t).map (·.size)
def bytesT (P : Program) (t : TypeId) : Option Nat := (P.info? t).map (·.bytes)
def aggT (P : Program) (t : TypeId) : Option Bool := (P.underlying t).map fun d => match d with | .struct _ => true | .array _ _ => true | _ => false

def fieldParts (P : Program) (gt : List (Nat × List AV)) (fs : Array Field) : List (Nat × Operand) → Option (List (Nat × Nat × O))
  | [] => some []
  | (i, x) :: l => match fs[i]?, opO gt x, fieldParts P gt fs l with
    | some f, some o, some m => match sizeT P f.type with
      | some s => some ((f.offset, s, o) :: m)
      | none => none
    | _, _, _ => none

def elemParts (gt : List (Nat × List AV)) (s : Nat) : List (Nat × Operand) → Option (List (Nat × Nat × O))
  | [] => some []
  | (i, x) :: l => match opO gt x, elemParts gt s l with
    | some o, some m => some ((i * s, s, o) :: m)
    | _, _ => none

def leavesFs (P : Program) (rec : TypeId → Option (List Leaf)) : Nat → List Field → Option (List Leaf)
  | _, [] => some []
  | off, f :: fs => if f.offset = off ∧ f.name ≠ "_" then match rec f.type, aggT P f.type with
    | some l, some ag => match sizeT P f.type with
      | some s => if s = l.length ∧ (ag = true ∨ s = 1) then (leavesFs P rec (off + l.length) fs).map (l ++ ·) else none
      | none => none
    | _, _ => none else none

def leaves (P : Program) : Nat → TypeId → Option (List Leaf)
  | 0, _ => none
  | d + 1, t => match P.underlying t with
    | some .string => some [.str]
    | some (.int k) => some [.int k]
    | some .bool => some [.bool]
    | some (.struct fs) => if P.stoodInHeld t then none else leavesFs P (leaves P d) 0 fs.toList
    | _ => none

def leavesF (P : Program) (d off : Nat) (fs : List Field) : Option (List Leaf) := leavesFs P (leaves P d) off fs

theorem leavesF_cons (P : Program) (d off : Nat) (f : Field) (fs : List Field) : leavesF P d off (f :: fs) = if f.offset = off ∧ f.name ≠ "_" then match leaves P d f.type, aggT P f.type with
    | some l, some ag => match sizeT P f.type with
      | some s => if s = l.length ∧ (ag = true ∨ s = 1) then (leavesF P d (off + l.length) fs).map (l ++ ·) else none
      | none => none
    | _, _ => none else none := rfl

def cBin (P : Program) (gt : List (Nat × List AV)) (d : Nat) (op : BinOp) (t : TypeId) (x y : Operand) : Option I :=
  match opO gt x, opO gt y with
  | some a, some b => match P.underlying t with
    | some (.int _) => some (.bin d op a b)
    | some .string => some (.bin d op a b)
    | some .bool => match op with
      | .eql => some (.eqb d false a b)
      | .neq => some (.eqb d true a b)
      | _ => none
    | some (.struct _) => match leaves P 20 t, op, P.eqGuardType P.depth t with
      | some ls, .eql, false => some (.eqs d false ls a b)
      | some ls, .neq, false => some (.eqs d true ls a b)
      | _, _, _ => none
    | some (.slice _) => match op, y with
      | .eql, .const (.slice none 0 0) => some (.eqn d false 0 a)
      | .neq, .const (.slice none 0 0) => some (.eqn d true 0 a)
      | _, _ => none
    | some (.func _ _ _) => match op, y with
      | .eql, .const .nilFunc => some (.eqn d false 1 a)
      | .neq, .const .nilFunc => some (.eqn d true 1 a)
      | _, _ => none
    | some (.interface _) => match op, y with
      | .eql, .const .nilIface => some (.eqn d false 2 a)
      | .neq, .const .nilIface => some (.eqn d true 2 a)
      | _, _ => none
    | some (.pointer _) => match op, y with
      | .eql, .const (.pointer none) => some (.eqn d false 3 a)
      | .neq, .const (.pointer none) => some (.eqn d true 3 a)
      | _, _ => none
    | _ => none
  | _, _ => none

def cConv (P : Program) (gt : List (Nat × List AV)) (d : Nat) (src dst : TypeId) (x : Operand) : Option I :=
  match opO gt x, P.underlying src, P.underlying dst with
  | some a, some (.int _), some (.int k) => some (.conv d k a)
  | some a, some .string, some .string => some (.cvs d a)
  | _, _, _ => none

def cFld (P : Program) (gt : List (Nat × List AV)) (d : Nat) (s : TypeId) (x : Operand) (f : Nat) : Option I :=
  match opO gt x, P.underlying s with
  | some a, some (.struct fs) => match fs[f]? with
    | some fl => match sizeT P fl.type with
      | some (_ + 1) => some (.fld d fl.offset a)
      | _ => none
    | none => none
  | _, _ => none

def cFldv (P : Program) (gt : List (Nat × List AV)) (d : Nat) (s : TypeId) (x : Operand) (f : Nat) : Option I :=
  match opO gt x, P.underlying s with
  | some a, some (.struct fs) => match fs[f]? with
    | some fl => match sizeT P fl.type, aggT P fl.type with
      | some sz, some ag => some (.fldv d ag fl.offset sz a)
      | _, _ => none
    | none => none
  | _, _ => none

def cIdxa (P : Program) (gt : List (Nat × List AV)) (d : Nat) (t : TypeId) (x i : Operand) : Option I :=
  match opO gt x, opO gt i, P.underlying t with
  | some a, some b, some (.slice e) => (sizeT P e).map fun s => .idxa d s none a b
  | some a, some b, some (.array n e) => (sizeT P e).map fun s => .idxa d s (some n) a b
  | _, _, _ => none

def cIdx (P : Program) (gt : List (Nat × List AV)) (d : Nat) (t : TypeId) (x i : Operand) : Option I :=
  match opO gt x, opO gt i, P.underlying t with
  | some a, some b, some .string => some (.idx d a b)
  | some a, some b, some (.array n e) => match sizeT P e, aggT P e with
    | some sz, some ag => some (.idxv d ag sz n a b)
    | _, _ => none
  | _, _, _ => none

def cSlc (P : Program) (gt : List (Nat × List AV)) (d : Nat) (t : TypeId) (x : Operand) (lo hi mx : Option Operand) : Option I :=
  match opO gt x, opOpt gt lo, opOpt gt hi, opOpt gt mx with
  | some a, some l, some h, some m => match P.underlying t, m with
    | some .string, none => some (.slcs d a l h)
    | some (.slice e), m => if (m.isSome && h.isNone) = false then (sizeT P e).map fun s => .slc d s a l h m else none
    | some (.array n e), none => (sizeT P e).map fun s => .slca d s n a l h
    | _, _ => none
  | _, _, _, _ => none

def cLen (P : Program) (d : Nat) (t : TypeId) (a : O) : Option I :=
  match P.underlying t with
  | some .string => some (.lens d a)
  | some (.slice _) => some (.len d a)
  | _ => none

def cCap (P : Program) (d : Nat) (t : TypeId) (a : O) : Option I :=
  match P.underlying t with
  | some (.slice _) => some (.cap d a)
  | _ => none

/-- The zero of a builder of strings: a pointer and a slice. -/
def isBld : List AV → Bool
  | [.nilp, .nils] => true
  | _ => false

def cAppend (P : Program) (d : Nat) (ts tx : TypeId) (s x : O) (m : Bool) : Option I :=
  match P.underlying ts, P.underlying tx with
  | some (.slice e), some (.slice e') => match P.info? e, sizeT P e' with
    | some i, some s' => match i.zero with
      | some z => if z.cells.size = i.size ∧ s' = i.size ∧ 0 < i.size then some (.append d i.size i.bytes s x m) else none
      | none => none
    | _, _ => none
  | some (.slice e), some .string => match P.info? e with
    | some i => match i.zero with
      | some z => if z.cells.size = i.size ∧ i.size = 1 then some (.append d 1 i.bytes s x m) else none
      | none => none
    | _ => none
  | _, _ => none

def cCall (P : Program) (gt : List (Nat × List AV)) (mu : Nat → Bool) (dst : Option Nat) (q : Call) : Option I :=
  match opOs gt q.args.toList with
  | none => none
  | some as => match q.callee with
    | .value f => match opO gt f with
      | some g => some (.call dst g as (match dst with | some d => mu d | none => true))
      | none => none
    | .invoke _ _ => none
    | .builtin b => match b, dst, as, q.argTypes.toList with
      | .len, some d, [a], [t] => cLen P d t a
      | .cap, some d, [a], [t] => cCap P d t a
      | .append, some d, [s, x], [ts, tx] => cAppend P d ts tx s x (mu d)
      | .max, some d, [x, y], _ => some (.max d x y)
      | .min, some d, [x, y], _ => some (.min d x y)
      | .clear, none, [x], [t] => match P.underlying t with
        | some (.slice e) => match zeroAV P e, sizeT P e with
          | some z, some s => some (.clear s z x)
          | _, _ => none
        | _ => none
      | _, _, _, _ => none

def opI (P : Program) (gt : List (Nat × List AV)) (mu : Nat → Bool) (o : Oper) : Option I :=
  match o.dst with
  | some d => match o.op with
    | .move x => (opO gt x).map fun a => .mv d a
    | .assign x => (opO gt x).map fun a => .mv d a
    | .pick q x y => match opO gt q, opO gt x, opO gt y with
      | some q, some x, some y => some (.pick d q x y)
      | _, _, _ => none
    | .alloc e => (zeroAV P e).map fun z => if mu d && isBld z then .allocT d e z else .alloc d z (mu d)
    | .box _ x => (opO gt x).map fun a => .box d a (mu d)
    | .build t ps => match zeroAV P t, P.underlying t with
      | some z, some (.struct fs) => if fs.toList.all (fun f => (sizeT P f.type).isSome) = true then (fieldParts P gt fs ps.toList).map fun l => .build d z l else none
      | some z, some (.array _ e) => match sizeT P e with
        | some s => (elemParts gt s ps.toList).map fun l => .build d z l
        | none => none
      | _, _ => none
    | .buildSlice t n ps => match P.underlying t with
      | some (.slice e) => match P.info? e, opOs gt (ps.toList.map (·.2)) with
        | some i, some xs => match i.zero with
          | some z => if ps.toList.map (·.1) = List.range n ∧ n * i.size ≤ 2 ^ 24 ∧ z.cells.size = i.size ∧ 0 < i.size then some (.bsl d i.size xs (mu d)) else none
          | none => none
        | _, _ => none
      | _ => none
    | .makeSlice t n q => match opO gt n, opO gt q, P.underlying t with
      | some n, some q, some (.slice e) => match P.info? e, zeroAV P e with
        | some i, some z => if z.length = i.size ∧ 0 < i.size then some (.mksl d i.size i.bytes z n q) else none
        | _, _ => none
      | _, _, _ => none
    | .load t x => match aggT P t, sizeT P t, opO gt x with
      | some ag, some s, some a => if mu d then some (.load d ag s a) else some (.loadf d ag s a)
      | _, _, _ => none
    | .binOp op t x y _ => cBin P gt d op t x y
    | .unOp op _ x => match op, opO gt x with
      | .not, some a => some (.not d a)
      | .neg, some a => some (.neg d a)
      | _, _ => none
    | .convert s t x => cConv P gt d s t x
    | .fieldAddr s x f => cFld P gt d s x f
    | .field s x f => cFldv P gt d s x f
    | .indexAddr t x j => cIdxa P gt d t x j
    | .index t x j => cIdx P gt d t x j
    | .slice t x lo hi mx => cSlc P gt d t x lo hi mx
    | .extract x k => (opO gt x).map fun a => .ext d a k
    | .makeFunc (.func f) first caps => if first.size = 0 then (opOs gt caps.toList).map fun l => .mkfn d f l else none
    | .makeInterface t x => match P.underlying t, opO gt x with
      | some (.interface _), _ => none
      | some _, some a => some (.iface d t a)
      | _, _ => none
    | .nilCheck x => (opO gt x).map fun a => .nilchk d a
    | .call q => cCall P gt mu (some d) q
    | _ => none
  | none => match o.op with
    | .store t x y => match sizeT P t, opO gt x, opO gt y with
      | some s, some a, some b => if 0 < s then some (.store s a b) else none
      | _, _, _ => none
    | .call q => cCall P gt mu none q
    | _ => none

section
variable {w : World} {rho : Gh} {fz : Nat → Prop}

theorem mk_toList (s : ByteArray) : (⟨⟨s.data.toList⟩⟩ : ByteArray) = s := by
  obtain ⟨⟨l⟩⟩ := s
  rfl

theorem simpleAV_sound {v : Value} {x : AV} (h : simpleAV v = some x) : RF w fz x v := by
  unfold simpleAV at h
  split at h
  · cases h; exact .int _ _
  · cases h; exact .bool _
  · rename_i s
    cases h
    have := RF.str (w := w) (fz := fz) s.data.toList
    rwa [mk_toList] at this
  · cases h; exact .nils
  · cases h; exact .nilp
  · cases h; exact .nilf
  · cases h; exact .nili
  · cases h

theorem simpleAVs_sound : ∀ {vs : List Value} {as : List AV}, simpleAVs vs = some as → vs.length = as.length ∧ ∀ (j : Nat) (x : AV), as[j]? = some x → RF w fz x (vs.getD j undef)
  | [], as, h => by cases h; exact ⟨rfl, fun j x hj => by simp at hj⟩
  | v :: vs, as, h => by
    unfold simpleAVs at h
    split at h
    · rename_i a m h1 h2
      cases h
      obtain ⟨g1, g2⟩ := simpleAVs_sound h2
      refine ⟨by simp [g1], fun j x hj => ?_⟩
      cases j with
      | zero => simp at hj; subst hj; exact simpleAV_sound h1
      | succ j => simp at hj; simpa using g2 j x hj
    · cases h

theorem simpleAV_one {v : Value} {x : AV} (h : simpleAV v = some x) : v.oneCell' = true := by
  unfold simpleAV at h
  split at h <;> first | rfl | cases h

theorem simpleAVs_plain : ∀ {vs : List Value} {as : List AV}, simpleAVs vs = some as → AV.plainL as = true
  | [], as, h => by cases h; rfl
  | v :: vs, as, h => by
    unfold simpleAVs at h
    split at h
    · rename_i a m h1 h2
      cases h
      have := simpleAVs_plain h2
      have h3 : a.plain = true := by
        unfold simpleAV at h1
        split at h1 <;> first | (cases h1; rfl) | cases h1
      simp [AV.plainL, this, h3]
    · cases h

theorem constAV_sound {v : Value} {x : AV} (h : constAV v = some x) : RF w fz x v := by
  unfold constAV at h
  split at h
  · rename_i cs
    cases h1 : simpleAVs cs.toList with
    | none => rw [h1] at h; cases h
    | some l =>
      rw [h1] at h
      cases h
      obtain ⟨g1, g2⟩ := simpleAVs_sound (w := w) (fz := fz) h1
      exact .agg l cs (by simpa using g1) (fun j y hj => by have := g2 j y hj; simpa [Array.getD_eq_getD_getElem?, List.getD_eq_getElem?_getD] using this)
  · rename_i cs
    cases h1 : simpleAVs cs.toList with
    | none => rw [h1] at h; cases h
    | some l =>
      rw [h1] at h
      cases h
      obtain ⟨g1, g2⟩ := simpleAVs_sound (w := w) (fz := fz) h1
      exact .tuple l cs (by simpa using g1) (fun j y hj => by have := g2 j y hj; simpa [Array.getD_eq_getD_getElem?, List.getD_eq_getElem?_getD] using this)
  · exact simpleAV_sound h

end
end Go.Proofs.YtkjnjdcbnelceaaGreatDoor.KA
end

section
/- Soundness of the small code's operations, first part. Nothing here concerns a given program. -/
set_option linter.unusedVariables false
set_option linter.unnecessarySimpa false
namespace Go.Proofs.YtkjnjdcbnelceaaGreatDoor.KA
open Go

section
variable {w : World} {rho : Gh} {fz : Nat → Prop}

theorem RT.bool {b : Bool} {v : Value} (h : RT w rho fz (.bool b) v) : v = .bool b := by cases h with | of _ _ h => cases h; rfl
theorem RT.int {k : IntKind} {n : Int} {v : Value} (h : RT w rho fz (.int k n) v) : v = .int k n := by cases h with | of _ _ h => cases h; rfl
theorem RT.str {s : List UInt8} {v : Value} (h : RT w rho fz (.str s) v) : v = .string ⟨⟨s⟩⟩ := by cases h with | of _ _ h => cases h; rfl
theorem RT.nils {v : Value} (h : RT w rho fz .nils v) : v = .slice none 0 0 := by cases h with | of _ _ h => cases h; rfl
theorem RT.emp {v : Value} (h : RT w rho fz .emp v) : ∃ base, v = .slice base 0 0 := by cases h with | of _ _ h => cases h; exact ⟨_, rfl⟩
theorem RT.sl {sz : Nat} {xs : List AV} {v : Value} (h : RT w rho fz (.sl sz xs) v) : RF w fz (.sl sz xs) v := by cases h with | of _ _ h => exact h
theorem RT.fp {cs : List AV} {v : Value} (h : RT w rho fz (.fp cs) v) : RF w fz (.fp cs) v := by cases h with | of _ _ h => exact h
theorem RT.tref' {T n id : Nat} {v : Value} (h : RT w rho fz (.tref T n id) v) : ∃ b, rho id = some (b, 0) ∧ w.shape? b = some (T, n) ∧ v = .pointer (some ⟨b, 0, none⟩) := by
  cases h with
  | of _ _ h => cases h
  | tref _ _ _ b hr hsh => exact ⟨b, hr, hsh, rfl⟩
theorem RT.ref' {id off : Nat} {v : Value} (h : RT w rho fz (.ref id off) v) : ∃ b o, rho id = some (b, o) ∧ v = .pointer (some ⟨b, o + off, none⟩) := by
  cases h with
  | of _ _ h => cases h
  | ref _ _ b o hr => exact ⟨b, o, hr, rfl⟩
theorem RT.own' {sz id off len cap : Nat} {v : Value} (h : RT w rho fz (.own sz id off len cap) v) :
    ∃ b o cap' e n, rho id = some (b, o) ∧ cap ≤ cap' ∧ len ≤ cap ∧ w.shape? b = some (e, n) ∧ o + off + cap' * sz ≤ n ∧ v = .slice (some ⟨b, o + off, none⟩) len cap' := by
  cases h with
  | of _ _ h => cases h
  | own _ _ _ _ _ b o cap' e n hr hc hl hsh hn => exact ⟨b, o, cap', e, n, hr, hc, hl, hsh, hn, rfl⟩
theorem RT.agg' {cs : List AV} {v : Value} (h : RT w rho fz (.agg cs) v) : ∃ vs : Array Value, v = .agg vs ∧ vs.size = cs.length ∧ ∀ i a, cs[i]? = some a → RT w rho fz a (vs.getD i undef) := by
  cases h with
  | of _ _ h => cases h with | agg _ vs hl h => exact ⟨vs, rfl, hl, fun i a hi => .of _ _ (h i a hi)⟩
  | agg _ vs hl h => exact ⟨vs, rfl, hl, h⟩
theorem RT.tuple' {cs : List AV} {v : Value} (h : RT w rho fz (.tuple cs) v) : ∃ vs : Array Value, v = .tuple vs ∧ vs.size = cs.length ∧ ∀ i a, cs[i]? = some a → RT w rho fz a (vs.getD i undef) := by
  cases h with
  | of _ _ h => cases h with | tuple _ vs hl h => exact ⟨vs, rfl, hl, fun i a hi => .of _ _ (h i a hi)⟩
  | tuple _ vs hl h => exact ⟨vs, rfl, hl, h⟩
theorem RT.fn' {f : FuncId} {cs : List AV} {v : Value} (h : RT w rho fz (.fn f cs) v) : ∃ vs : Array Value, v = .func (.func f) #[] vs ∧ vs.size = cs.length ∧ ∀ i a, cs[i]? = some a → RT w rho fz a (vs.getD i undef) := by
  cases h with
  | of _ _ h => cases h with | fn _ _ vs hl h => exact ⟨vs, rfl, hl, fun i a hi => .of _ _ (h i a hi)⟩
  | fn _ _ vs hl h => exact ⟨vs, rfl, hl, h⟩

theorem RT.one {x : AV} {v : Value} (h : RT w rho fz x v) (hx : ∀ cs, x ≠ .agg cs) (hu : x ≠ .undef) : v.cells = #[v] ∧ x.cells = [x] := by
  cases h with
  | of _ _ h =>
    cases h <;> first | exact absurd rfl hu | exact absurd rfl (hx _) | exact ⟨rfl, rfl⟩
  | agg => exact absurd rfl (hx _)
  | _ => exact ⟨rfl, rfl⟩

/-- The cells of a value read as the abstract value's cells. -/
theorem RT.cells {x : AV} {v : Value} (h : RT w rho fz x v) : (∀ j y, x.cells[j]? = some y → RT w rho fz y (v.cells.getD j undef)) ∧ (x ≠ .undef → v.cells.size = x.cells.length) := by
  by_cases hu : x = .undef
  · subst hu
    exact ⟨fun j y hj => by simp [AV.cells] at hj, fun h => absurd rfl h⟩
  by_cases hx : ∃ cs, x = .agg cs
  · obtain ⟨cs, rfl⟩ := hx
    obtain ⟨vs, rfl, hl, hc⟩ := h.agg'
    exact ⟨fun j y hj => hc j y hj, fun _ => hl⟩
  · obtain ⟨h1, h2⟩ := h.one (fun cs e => hx ⟨cs, e⟩) hu
    rw [h1, h2]
    refine ⟨fun j y hj => ?_, fun _ => rfl⟩
    cases j with
    | zero => simp at hj; subst hj; simpa using h
    | succ j => simp at hj

theorem known_of_cells {x : AV} {n : Nat} (h : x.cells.length = n + 1) : x ≠ .undef := by
  rintro rfl
  simp [AV.cells] at h

theorem plainL_get {cs : List AV} {i : Nat} {a : AV} (h : AV.plainL cs = true) (hi : cs[i]? = some a) : a.plain = true := by
  induction cs generalizing i with
  | nil => simp at hi
  | cons b l ih =>
    simp [AV.plainL] at h
    cases i with
    | zero => simp at hi; subst hi; exact h.1
    | succ i => simp at hi; exact ih h.2 hi

theorem RT.plain {x : AV} {v : Value} (h : RT w rho fz x v) (hp : x.plain = true) : RF w fz x v := by
  induction h with
  | of _ _ h => exact h
  | agg cs vs hl _ ih => exact .agg cs vs hl (fun i a hi => ih i a hi (plainL_get (by simpa [AV.plain] using hp) hi))
  | tuple cs vs hl _ ih => exact .tuple cs vs hl (fun i a hi => ih i a hi (plainL_get (by simpa [AV.plain] using hp) hi))
  | fn f cs vs hl _ ih => exact .fn f cs vs hl (fun i a hi => ih i a hi (plainL_get (by simpa [AV.plain] using hp) hi))
  | iface t a v _ ih => exact .iface t a v (ih (by simpa [AV.plain] using hp))
  | own => simp [AV.plain] at hp
  | ref => simp [AV.plain] at hp
  | tref => simp [AV.plain] at hp

end

section
variable {c : Ctx} {o : Oper} {a : Act} {w : World} {rho : Gh} {fz : Nat → Prop} {st : St} {K : St → Prop} {mu : Nat → Bool}

def rdO : O → List Nat
  | .t k => [k]
  | .k _ => []
def rdOpt : Option O → List Nat
  | some x => rdO x
  | none => []

/-- What is read stands in its slots as the state says. -/
def Rd (a : Act) (w : World) (rho : Gh) (fz : Nat → Prop) (st : St) (x : O) : Prop := ∀ t ∈ rdO x, RT w rho fz (lookup st.s t) (a.tmps.getD t undef)

theorem opO_sound {gt : List (Nat × List AV)} {x : Operand} {y : O} (h : opO gt x = some y) (hg : Glob gt w fz) (hs : Rd a w rho fz st y) : RT w rho fz (st.ev y) (a.eval x) := by
  cases x with
  | tmp t => cases h; exact hs t (by simp [rdO])
  | const v =>
    simp only [opO] at h
    cases hc : constAV v with
    | none => rw [hc] at h; cases h
    | some b => rw [hc] at h; cases h; exact .of _ _ (constAV_sound hc)
  | global g =>
    simp only [opO] at h
    split at h
    · rename_i p hp
      cases h
      have h1 := List.find?_some hp
      simp at h1
      have h2 := hg p (List.mem_of_find?_eq_some hp)
      rw [h1] at h2
      exact .of _ _ h2.1
    · cases h
  | func f =>
    cases h
    exact .of _ _ (.fn f [] #[] rfl (fun i a hi => by simp at hi))

/-- What is given with every operation. -/
structure Pre (c : Ctx) (w : World) (rho : Gh) (fz : Nat → Prop) (st : St) : Prop where
  hr : HR w rho fz st.h
  ok : FzOk w fz
  gl : Glob c.gt w fz

theorem s_mv {d : Nat} {x : Operand} {y : O} (hd : o.dst = some d) (ho : o.op = .move x ∨ o.op = .assign x) (hy : opO c.gt x = some y) (hp : Pre c w rho fz st) (hs : Rd a w rho fz st y)
    (h : astep c (.mv d y) st K) : Res c o (.mv d y) a w rho fz st K :=
  res_value rfl hp.hr hp.ok (v := a.eval x) (by rcases ho with ho | ho <;> simp [execOp, ho]) (opO_sound hy hp.gl hs) h

theorem s_pick {d : Nat} {q x y : Operand} {q' x' y' : O} (ho : o.op = .pick q x y) (hq : opO c.gt q = some q') (hx : opO c.gt x = some x') (hy : opO c.gt y = some y') (hp : Pre c w rho fz st)
    (hsq : Rd a w rho fz st q') (hsx : Rd a w rho fz st x') (hsy : Rd a w rho fz st y') (h : astep c (.pick d q' x' y') st K) : Res c o (.pick d q' x' y') a w rho fz st K := by
  have h1 := opO_sound hq hp.gl hsq
  simp only [astep] at h
  unfold onBool at h
  split at h
  · rename_i t ht
    rw [ht] at h1
    have h2 := h1.bool
    cases t
    · exact res_value rfl hp.hr hp.ok (v := a.eval y) (by simp [execOp, ho, h2, asBool]) (opO_sound hy hp.gl hsy) (h.2 rfl)
    · exact res_value rfl hp.hr hp.ok (v := a.eval x) (by simp [execOp, ho, h2, asBool]) (opO_sound hx hp.gl hsx) (h.1 rfl)
  · exact h.elim

/-- A new block that nobody writes, and a pointer to its beginning. -/
theorem res_new_fz {i : I} {d : Nat} {r : AV} {v : Value} {obj : Obj} (hd : dstI i = some d) (hp : Pre c w rho fz st) (hrun : (execOp a.eval o).run c.P w = .ok (.value v) (w.alloc obj))
    (hrt : RT (w.alloc obj) rho (fun b => fz b ∨ b = w.heap.size) r v) (hk : K (st.set d r)) : Res c o i a w rho fz st K := by
  intro N Q hN
  unfold Oper.wp
  rw [hrun]
  exact hN r st.h v _ rho _ (by simpa [upd, hd, St.set] using hk) (good_alloc_fz hp.hr hp.ok obj) hrt

theorem res_new_own {i : I} {d : Nat} {r : AV} {v : Value} {arr : Array Value} {ty : TypeId} {h1 : AHeap} {cs : List AV} (hd : dstI i = some d) (hp : Pre c w rho fz st) (hrun : (execOp a.eval o).run c.P w = .ok (.value v) (w.alloc (.cells arr ty)))
    (hl1 : h1.length = st.h.length) (hsub : ∀ (id : Nat) (ds : List AV), h1[id]? = some (some ds) → st.h[id]? = some (some ds)) (hle : cs.length ≤ arr.size) (hcs : ∀ j x, cs[j]? = some x → RT w rho fz x (arr.getD j undef))
    (hrt : RT (w.alloc (.cells arr ty)) (rhoNew rho st.h.length (w.heap.size, 0)) fz r v) (hk : K ⟨(d, r) :: st.s, h1 ++ [some cs]⟩) : Res c o i a w rho fz st K := by
  intro N Q hN
  unfold Oper.wp
  rw [hrun]
  exact hN r _ v _ _ _ (by simpa [upd, hd] using hk) (good_alloc_own hp.hr hp.ok h1 hl1 hsub arr ty cs hle hcs) hrt

theorem shape_new (w : World) (arr : Array Value) (ty : TypeId) : (w.alloc (.cells arr ty)).shape? w.heap.size = some (ty, arr.size) := by
  unfold World.shape?
  rw [heap_alloc_new]

theorem cell_new (w : World) (arr : Array Value) (ty : TypeId) (k : Nat) : (w.alloc (.cells arr ty)).cell? ⟨w.heap.size, k, none⟩ = arr[k]? :=
  cell_of_row _ _ _ _ _ _ (heap_alloc_new w _)

/-- Cells in a new block that nobody writes. -/
theorem fp_new {arr : Array Value} {ty : TypeId} {cs : List AV} (hf : FzOk w fz) (hle : cs.length ≤ arr.size) (hcs : ∀ j x, cs[j]? = some x → RF w fz x (arr.getD j undef)) :
    RF (w.alloc (.cells arr ty)) (fun b => fz b ∨ b = w.heap.size) (.fp cs) (.pointer (some ⟨w.heap.size, 0, none⟩)) := by
  refine .fp cs _ 0 (fun k => arr.getD k undef) (.inr rfl) (fun k x hk => ?_) (fun k x hk => (hcs k x hk).mono (fun b hb => heap_alloc_old w _ b (hf b hb)) (fun _ => .inl))
  have : k < arr.size := by have := (List.getElem?_eq_some_iff.1 hk).1; omega
  rw [Nat.zero_add, cell_new]
  simp [this]

theorem s_box {d : Nat} {e : TypeId} {x : Operand} {y : O} {m : Bool} (hd : o.dst = some d) (ho : o.op = .box e x) (hy : opO c.gt x = some y) (hp : Pre c w rho fz st) (hs : Rd a w rho fz st y)
    (h : astep c (.box d y m) st K) : Res c o (.box d y m) a w rho fz st K := by
  have h1 := opO_sound hy hp.gl hs
  obtain ⟨h2, h3⟩ := h1.cells
  have hrun : (execOp a.eval o).run c.P w = .ok (.value (.pointer (some ⟨w.heap.size, 0, none⟩))) (w.alloc (.cells (a.eval x).cells e)) := by
    simp [execOp, ho, Instr.box, newVar, newRow]
  have hle : (st.ev y).cells.length ≤ (a.eval x).cells.size := by
    by_cases hu : st.ev y = .undef
    · simp [hu, AV.cells]
    · rw [h3 hu]; exact Nat.le_refl _
  cases m with
  | false =>
    simp only [astep] at h
    obtain ⟨hpl, hk⟩ := h
    refine res_new_fz rfl hp hrun (.of _ _ (fp_new hp.ok hle (fun j z hj => (h2 j z hj).plain ?_))) hk
    generalize st.ev y = z' at *
    cases z' <;> simp only [AV.cells] at hj <;> first
      | (simp at hj; done)
      | exact plainL_get (by simpa [AV.plain] using hpl) hj
      | (cases j with
         | zero => simp at hj; subst hj; exact hpl
         | succ j => simp at hj)
  | true =>
    simp only [astep] at h
    exact res_new_own rfl hp hrun rfl (fun _ _ hx => hx) hle h2 (by simpa using RT.ref (w := w.alloc (.cells (a.eval x).cells e)) (rho := rhoNew rho st.h.length (w.heap.size, 0)) (fz := fz) st.h.length 0 w.heap.size 0 (by simp [rhoNew])) h

theorem zeroAV_sound {e : TypeId} {z : List AV} (hz : zeroAV c.P e = some z) : ∃ (i : TypeInfo) (v : Value), c.P.info? e = some i ∧ i.zero = some v ∧ v.cells.size = z.length ∧ (∀ (w : World) (fz : Nat → Prop) j x, z[j]? = some x → RF w fz x (v.cells.getD j undef)) ∧ AV.plainL z = true := by
  unfold zeroAV at hz
  split at hz
  · rename_i i hi
    split at hz
    · rename_i v hv
      have h1 := fun (w : World) (fz : Nat → Prop) => simpleAVs_sound (w := w) (fz := fz) hz
      refine ⟨i, v, hi, hv, by simpa using (h1 default (fun _ => False)).1, fun w fz j x hj => ?_, simpleAVs_plain hz⟩
      have := (h1 w fz).2 j x hj
      simpa [Array.getD_eq_getD_getElem?, List.getD_eq_getElem?_getD] using this
    · cases hz
  · cases hz

theorem s_alloc {d : Nat} {e : TypeId} {z : List AV} {m : Bool} (ho : o.op = .alloc e) (hz : zeroAV c.P e = some z) (hp : Pre c w rho fz st)
    (h : astep c (.alloc d z m) st K) : Res c o (.alloc d z m) a w rho fz st K := by
  obtain ⟨i, v, hi, hv, hsz, hc, hpl⟩ := zeroAV_sound hz
  have hrun : (execOp a.eval o).run c.P w = .ok (.value (.pointer (some ⟨w.heap.size, 0, none⟩))) (w.alloc (.cells v.cells e)) := by
    simp [execOp, ho, Instr.alloc, newVar, newRow, zeroValue, typeInfo, hi, hv]
  cases m with
  | false => exact res_new_fz rfl hp hrun (.of _ _ (fp_new hp.ok (by omega) (fun j x hj => hc w fz j x hj))) h.2
  | true => exact res_new_own rfl hp hrun rfl (fun _ _ hx => hx) (by omega) (fun j x hj => .of _ _ (hc w fz j x hj)) (by simpa using RT.ref (w := w.alloc (.cells v.cells e)) (rho := rhoNew rho st.h.length (w.heap.size, 0)) (fz := fz) st.h.length 0 w.heap.size 0 (by simp [rhoNew])) h

theorem s_allocT {d : Nat} {e : TypeId} {z : List AV} (ho : o.op = .alloc e) (hz : zeroAV c.P e = some z) (hp : Pre c w rho fz st)
    (h : astep c (.allocT d e z) st K) : Res c o (.allocT d e z) a w rho fz st K := by
  obtain ⟨i, v, hi, hv, hsz, hc, hpl⟩ := zeroAV_sound hz
  have hrun : (execOp a.eval o).run c.P w = .ok (.value (.pointer (some ⟨w.heap.size, 0, none⟩))) (w.alloc (.cells v.cells e)) := by
    simp [execOp, ho, Instr.alloc, newVar, newRow, zeroValue, typeInfo, hi, hv]
  refine res_new_own rfl hp hrun rfl (fun _ _ hx => hx) (by omega) (fun j x hj => .of _ _ (hc w fz j x hj)) (RT.tref (w := w.alloc (.cells v.cells e)) (rho := rhoNew rho st.h.length (w.heap.size, 0)) (fz := fz) e z.length st.h.length w.heap.size (by simp [rhoNew]) ?_) h
  rw [shape_new, hsz]

end
end Go.Proofs.YtkjnjdcbnelceaaGreatDoor.KA
end

section
/- Soundness of the small code's operations, second part: memory. Nothing here concerns a given program. -/
set_option linter.unusedVariables false
set_option linter.unusedSimpArgs false
set_option linter.unnecessarySimpa false
namespace Go.Proofs.YtkjnjdcbnelceaaGreatDoor.KA
open Go

section
variable {c : Ctx} {o : Oper} {a : Act} {w : World} {rho : Gh} {fz : Nat → Prop} {st : St} {K : St → Prop} {mu : Nat → Bool}

theorem run_isAgg {P : Program} {t : TypeId} {ag : Bool} (h : aggT P t = some ag) (w : World) : (isAgg t).run P w = .ok ag w := by
  unfold aggT at h
  cases hu : P.underlying t with
  | none => rw [hu] at h; cases h
  | some d =>
    rw [hu] at h
    cases h
    simp only [isAgg, Sem.run_bind, run_underlying hu, Result.andThen_ok]
    cases d <;> rfl

theorem run_sizeOf {P : Program} {t : TypeId} {s : Nat} (h : sizeT P t = some s) (w : World) : (sizeOf t).run P w = .ok s w := by
  unfold sizeT at h
  cases hu : P.info? t with
  | none => rw [hu] at h; cases h
  | some i =>
    rw [hu] at h
    cases h
    simp [sizeOf, typeInfo, hu]

theorem splice_get {cs xs : List AV} {off : Nat} (h : off + xs.length ≤ cs.length) (j : Nat) : (splice cs off xs)[j]? = if off ≤ j ∧ j < off + xs.length then xs[j - off]? else cs[j]? := by
  unfold splice
  split
  · rename_i v
    rw [List.getElem?_set]
    simp at h ⊢
    by_cases e : off = j
    · subst e
      rw [if_pos rfl, if_pos (by omega)]
      simp
    · rw [if_neg e, if_neg (by omega)]
  · rename_i vs _
    by_cases h1 : j < off
    · rw [if_neg (by omega), List.getElem?_append_left (by simp; omega), List.getElem?_take, if_pos h1]
    · by_cases h2 : j < off + xs.length
      · rw [if_pos ⟨by omega, h2⟩, List.getElem?_append_right (by simp; omega), List.getElem?_append_left (by simp; omega)]
        congr 1; simp; omega
      · rw [if_neg (by omega), List.getElem?_append_right (by simp; omega), List.getElem?_append_right (by simp; omega), List.getElem?_drop]
        congr 1; simp; omega

theorem splice_length {cs xs : List AV} {off : Nat} (h : off + xs.length ≤ cs.length) : (splice cs off xs).length = cs.length := by
  unfold splice
  split
  · simp
  · simp; omega

/-- The same cells at the concrete array. -/
theorem spliced_get (arr : Array Value) (vs : List Value) (k : Nat) (h : k + vs.length ≤ arr.size) (j : Nat) :
    ((arr.toList.take k ++ vs ++ arr.toList.drop (k + vs.length)).toArray).getD j undef = if k ≤ j ∧ j < k + vs.length then vs.getD (j - k) undef else arr.getD j undef := by
  simp only [Array.getD_eq_getD_getElem?, List.getElem?_toArray, List.getD_eq_getElem?_getD]
  by_cases h1 : j < k
  · rw [if_neg (by omega), List.append_assoc, List.getElem?_append_left (by simp; omega), List.getElem?_take, if_pos h1]
    simp
  · by_cases h2 : j < k + vs.length
    · rw [if_pos ⟨by omega, h2⟩, List.append_assoc, List.getElem?_append_right (by simp; omega), List.getElem?_append_left (by simp; omega)]
      congr 2; simp; omega
    · rw [if_neg (by omega), List.getElem?_append_right (by simp; omega), List.getElem?_drop]
      simp
      congr 2; omega

theorem spliced_size (arr : Array Value) (vs : List Value) (k : Nat) (h : k + vs.length ≤ arr.size) : ((arr.toList.take k ++ vs ++ arr.toList.drop (k + vs.length)).toArray).size = arr.size := by
  simp; omega

theorem shape_setRow (w : World) (g : Nat) (old cs : Array Value) (t : TypeId) (fr : Nat × Nat) (hg : w.heap[g]? = some (.cells old t fr)) (hs : cs.size = old.size) : ∀ b s, w.shape? b = some s → (w.setRow g cs).shape? b = some s := by
  intro b s h
  unfold World.shape? at *
  by_cases e : b = g
  · subst e
    rw [setRow_heap w b old cs t fr hg]
    rw [hg] at h
    simpa [hs] using h
  · rw [setRow_other w g b cs e]; exact h

theorem RT.setRow {g : Nat} {old cs : Array Value} {t : TypeId} {fr : Nat × Nat} (hg : w.heap[g]? = some (.cells old t fr)) (hs : cs.size = old.size) (hn : ¬ fz g) {x : AV} {v : Value} (h : RT w rho fz x v) : RT (w.setRow g cs) rho fz x v :=
  h.mono (fun b hb => setRow_other w g b cs (fun e => hn (e ▸ hb))) (fun _ hb => hb) (shape_setRow w g old cs t fr hg hs) (fun _ _ hh => hh)

theorem good_setRow {h : AHeap} (hh : HR w rho fz h) (hf : FzOk w fz) {id : Nat} {cs : List AV} {b p : Nat} {arr : Array Value} {ty : TypeId} (hid : h[id]? = some (some cs)) (hr : rho id = some (b, p)) (hnf : ¬ fz b)
    (hb : w.heap[b]? = some (.cells arr ty (0, 0))) (arr' : Array Value) (hsz : arr'.size = arr.size) (cs' : List AV) (hle : p + cs'.length ≤ arr.size) (hcs : ∀ j x, cs'[j]? = some x → RT w rho fz x (arr'.getD (p + j) undef)) :
    Good w rho fz h (w.setRow b arr') rho fz (h.set id (some cs')) where
  hr := by
    have hlt : id < h.length := (List.getElem?_eq_some_iff.1 hid).1
    have old : ∀ i ds, (h.set id (some cs'))[i]? = some (some ds) → i ≠ id → h[i]? = some (some ds) := fun i ds hi hne => by
      rwa [List.getElem?_set_ne (Ne.symm hne)] at hi
    have live : ∀ i ds, (h.set id (some cs'))[i]? = some (some ds) → ∃ es, h[i]? = some (some es) := fun i ds hi => by
      by_cases e : i = id
      · subst e; exact ⟨cs, hid⟩
      · exact ⟨ds, old i ds hi e⟩
    refine ⟨fun i hi => hh.dom i (by simpa using hi), fun i ds hi => ?_, fun i i' ds ds' q p1 p2 hd hd' h1 h2 => ?_⟩
    · by_cases e : i = id
      · subst e
        rw [List.getElem?_set_self hlt] at hi
        cases hi
        exact ⟨b, p, arr', ty, hr, hnf, setRow_heap w b arr arr' ty _ hb, by omega, fun j x hj => (hcs j x hj).setRow hb hsz hnf⟩
      · have hi' := old i ds hi e
        obtain ⟨q, p', arr2, ty2, g1, g2, g3, g4, g5⟩ := hh.cell i ds hi'
        have hqb : q ≠ b := fun eq => e (hh.inj i id ds cs q p' p hi' hid g1 (eq ▸ hr))
        exact ⟨q, p', arr2, ty2, g1, g2, by rw [setRow_other w b q arr' hqb]; exact g3, g4, fun j x hj => (g5 j x hj).setRow hb hsz hnf⟩
    · obtain ⟨es, he⟩ := live i ds hd
      obtain ⟨es', he'⟩ := live i' ds' hd'
      exact hh.inj i i' es es' q p1 p2 he he' h1 h2
  ok := fun q hq => by simpa using hf q hq
  pres := by
    refine ⟨rfl, rfl, rfl, by simp, fun q hq hn => setRow_other w b q arr' (fun e => hn (e ▸ ⟨id, cs, p, hid, hr⟩)), shape_setRow w b arr arr' ty _ hb hsz, fun _ hq => hq, fun _ hq => .inl hq⟩
  same := fun _ _ => rfl
  len := by simp
  own := fun q hq => by
    obtain ⟨i, ds, p', hi, hr'⟩ := hq
    by_cases e : i = id
    · subst e; exact .inl ⟨i, cs, p', hid, hr'⟩
    · rw [List.getElem?_set_ne (Ne.symm e)] at hi
      exact .inl ⟨i, ds, p', hi, hr'⟩

theorem one_of {x : AV} {v : Value} (h : RT w rho fz x v) (h1 : x.one = true) : v.oneCell' = true := by
  cases h with
  | of _ _ h => cases h <;> first | rfl | (simp [AV.one] at h1; done)
  | agg => simp [AV.one] at h1
  | tuple => simp [AV.one] at h1
  | fn => rfl
  | iface => rfl
  | own => rfl
  | ref => rfl
  | tref => rfl

theorem isElem_iff {sz : Nat} {x : AV} : x.isElem sz = true ↔ x.cells.length = sz ∧ ∀ y ∈ x.cells, y.one = true := by
  simp [AV.isElem]

/-- The cells of an element, as they are stored. -/
theorem elem_cells {sz : Nat} {x : AV} {v : Value} (hx : x.isElem sz = true) (h : RT w rho fz x v) : (∀ j y, x.cells[j]? = some y → RT w rho fz y (v.cells.getD j undef)) ∧ (0 < sz → v.cells.size = sz) ∧ (0 < sz → ∀ u ∈ v.cells.toList, u.oneCell' = true) := by
  obtain ⟨h1, h2⟩ := h.cells
  obtain ⟨h3, h4⟩ := isElem_iff.1 hx
  have hs : 0 < sz → v.cells.size = sz := fun hp => by
    rw [h2 (fun e => by rw [e] at h3; simp [AV.cells] at h3; omega)]
    exact h3
  refine ⟨h1, hs, fun hp u hu => ?_⟩
  obtain ⟨j, hj, rfl⟩ := List.mem_iff_getElem.1 hu
  have hj' : j < x.cells.length := by have := hs hp; simp at hj; omega
  have := h1 j x.cells[j] (List.getElem?_eq_getElem hj')
  have h5 := one_of this (h4 _ (List.getElem_mem hj'))
  have h6 : j < v.cells.size := by simpa using hj
  simpa [h6] using h5

theorem s_load {d : Nat} {t : TypeId} {x : Operand} {ag : Bool} {sz : Nat} {y : O} (ho : o.op = .load t x) (hag : aggT c.P t = some ag) (hsz : sizeT c.P t = some sz) (hy : opO c.gt x = some y) (hp : Pre c w rho fz st) (hs : Rd a w rho fz st y)
    (h : astep c (.load d ag sz y) st K) : Res c o (.load d ag sz y) a w rho fz st K := by
  have h1 := opO_sound hy hp.gl hs
  have hcells : ∀ (b p : Nat) (g : Nat → Value) (cs : List AV), (∀ k z, cs[k]? = some z → w.cell? ⟨b, p + k, none⟩ = some (g k)) → a.eval x = .pointer (some ⟨b, p, none⟩) → ag = true → sz ≤ cs.length →
      (execOp a.eval o).run c.P w = .ok (.value (.agg ((List.range sz).map g).toArray)) w := by
    intro b p g cs hg hv hag' hle
    subst hag'
    have hl := run_loadCells (P := c.P) w ⟨b, p, none⟩ sz g (fun j hj => by rw [Addr.add_lit]; exact hg j cs[j] (List.getElem?_eq_getElem (by omega)))
    simp [execOp, ho, Instr.loadAt, Instr.sureAddr, hv, loadVar, run_isAgg hag, run_sizeOf hsz, hl]
  have hcell : ∀ (b p : Nat) (u : Value), w.cell? ⟨b, p, none⟩ = some u → a.eval x = .pointer (some ⟨b, p, none⟩) → ag = false → (execOp a.eval o).run c.P w = .ok (.value u) w := by
    intro b p u hu hv hag'
    subst hag'
    simp [execOp, ho, Instr.loadAt, Instr.sureAddr, hv, loadVar, run_isAgg hag, hu, Result.andThen]
  simp only [astep] at h
  generalize hz : st.ev y = z at *
  cases z with
  | fp cs =>
    have h2 := h1.fp
    generalize hv : a.eval x = v at *
    cases h2 with
    | fp _ b p g hb hg hgr =>
      cases ag with
      | true =>
        simp only [if_true] at h
        obtain ⟨hle, hk⟩ := h
        refine res_value rfl hp.hr hp.ok (hcells b p g cs hg rfl rfl hle) (.of _ _ (.agg _ _ (by simp; omega) (fun j z hj => ?_))) hk
        rw [List.getElem?_take] at hj
        split at hj
        · rename_i hlt
          simpa [hlt] using hgr j z hj
        · cases hj
      | false =>
        simp only [Bool.false_eq_true, if_false] at h
        obtain ⟨u, hu, hk⟩ := h
        have := hg 0 u hu
        simp at this
        exact res_value rfl hp.hr hp.ok (hcell b p (g 0) this rfl rfl) (.of _ _ (hgr 0 u hu)) hk
  | ref id off =>
    simp only at h
    obtain ⟨cs, hcs, h⟩ := h
    obtain ⟨b, p, hr, hv⟩ := h1.ref'
    obtain ⟨b', p', arr, ty, g1, g2, g3, g4, g5⟩ := hp.hr.cell id cs hcs
    rw [hr] at g1
    cases g1
    have hcl : ∀ (k : Nat) (z : AV), cs[off + k]? = some z → w.cell? ⟨b, p + off + k, none⟩ = some (arr.getD (p + (off + k)) undef) := fun k z hk => by
      have : off + k < cs.length := (List.getElem?_eq_some_iff.1 hk).1
      rw [cell_of_row w b _ arr ty _ g3, Nat.add_assoc]
      simp [show p + (off + k) < arr.size by omega]
    cases ag with
    | true =>
      simp only [if_true] at h
      obtain ⟨hle, hk⟩ := h
      refine res_value rfl hp.hr hp.ok (hcells b (p + off) (fun k => arr.getD (p + (off + k)) undef) (cs.drop off) (fun k z hk => hcl k z (by simpa using hk)) hv rfl (by simp; omega)) (.agg _ _ (by simp; omega) (fun j z hj => ?_)) hk
      rw [List.getElem?_take] at hj
      split at hj
      · rename_i hlt
        have := g5 (off + j) z (by simpa using hj)
        simpa [hlt] using this
      · cases hj
    | false =>
      simp only [Bool.false_eq_true, if_false] at h
      obtain ⟨u, hu, hk⟩ := h
      have := hcl 0 u (by simpa using hu)
      exact res_value rfl hp.hr hp.ok (hcell b (p + off) _ (by simpa using this) hv rfl) (g5 off u hu) hk
  | _ => exact h.elim

theorem s_loadf {d : Nat} {t : TypeId} {x : Operand} {ag : Bool} {sz : Nat} {y : O} (ho : o.op = .load t x) (hag : aggT c.P t = some ag) (hsz : sizeT c.P t = some sz) (hy : opO c.gt x = some y) (hp : Pre c w rho fz st) (hs : Rd a w rho fz st y)
    (h : astep c (.loadf d ag sz y) st K) : Res c o (.loadf d ag sz y) a w rho fz st K := by
  have h' : astep c (.load d ag sz y) st K := by
    simp only [astep] at h ⊢
    generalize st.ev y = z at *
    cases z with
    | fp cs => exact h
    | _ => exact h.elim
  exact s_load ho hag hsz hy hp hs h'

/-- The result of a step that only stores. -/
theorem res_store {i : I} {r : AV} {h' : AHeap} {w' : World} (hd : dstI i = none) (hdo : o.dst = none) (hrun : (execOp a.eval o).run c.P w = .ok .skip w' ∨ ∃ v, (execOp a.eval o).run c.P w = .ok (.value v) w') (hg : Good w rho fz st.h w' rho fz h') (hk : K { st with h := h' }) : Res c o i a w rho fz st K := by
  intro N Q hN
  unfold Oper.wp
  rcases hrun with hrun | ⟨v, hrun⟩
  · rw [hrun]
    have := hN .undef h' undef w' rho fz (by simpa [upd, hd] using hk) hg (.of _ _ (.undef _))
    simpa [Oper.upon, hdo] using this
  · rw [hrun]
    have := hN .undef h' v w' rho fz (by simpa [upd, hd] using hk) hg (.of _ _ (.undef _))
    simpa [Oper.upon, hdo] using this

theorem s_store {t : TypeId} {x y : Operand} {sz : Nat} {x' y' : O} (hpos : 0 < sz) (hdo : o.dst = none) (ho : o.op = .store t x y) (hsz : sizeT c.P t = some sz) (hx : opO c.gt x = some x') (hy : opO c.gt y = some y') (hp : Pre c w rho fz st)
    (hsx : Rd a w rho fz st x') (hsy : Rd a w rho fz st y') (h : astep c (.store sz x' y') st K) : Res c o (.store sz x' y') a w rho fz st K := by
  have h1 := opO_sound hx hp.gl hsx
  have h2 := opO_sound hy hp.gl hsy
  simp only [astep] at h
  generalize hz : st.ev x' = z at *
  cases z with
  | ref id off =>
    simp only at h
    obtain ⟨cs, hcs, hel, hle, hk⟩ := h
    obtain ⟨b, p, hr, hv⟩ := h1.ref'
    obtain ⟨b', p', arr, ty, g1, g2, g3, g4, g5⟩ := hp.hr.cell id cs hcs
    rw [hr] at g1
    cases g1
    obtain ⟨e1, e2, e3⟩ := elem_cells hel h2
    have hlen := (isElem_iff.1 hel).1
    have hvs : (a.eval y).cells.toList.length = sz := by simpa using e2 hpos
    have hst := run_storeCells_at c.P b (p + off) ty (a.eval y).cells.toList 0 arr w g3 (by rw [hvs]; omega) (e3 hpos)
    simp only [Nat.add_zero] at hst
    have hrun : (execOp a.eval o).run c.P w = .ok .skip (w.setRow b (arr.toList.take (p + off) ++ (a.eval y).cells.toList ++ arr.toList.drop (p + off + (a.eval y).cells.toList.length)).toArray) := by
      simp only [execOp, ho, Instr.storeAt, Instr.sureAddr, hv, storeVar, Sem.run_bind, run_sizeOf hsz, Result.andThen_ok, e2 hpos, ne_eq, not_true_eq_false, if_false, hst, Sem.run_pure, Sem.run_ite]
    refine res_store (r := .undef) rfl hdo (.inl hrun) (good_setRow hp.hr hp.ok hcs hr g2 g3 _ (spliced_size arr _ _ (by rw [hvs]; omega)) _ (by rw [splice_length (by omega)]; omega) (fun j z hj => ?_)) hk
    rw [splice_get (by omega)] at hj
    rw [spliced_get arr _ _ (by rw [hvs]; omega), hvs]
    split at hj
    · rename_i hc
      rw [if_pos (by omega)]
      have := e1 (j - off) z hj
      have he : p + j - (p + off) = j - off := by omega
      rw [he]
      simpa [Array.getD_eq_getD_getElem?, List.getD_eq_getElem?_getD] using this
    · rename_i hc
      rw [if_neg (by omega)]
      exact g5 j z hj
  | _ => exact h.elim

end
end Go.Proofs.YtkjnjdcbnelceaaGreatDoor.KA
end

section
/- Soundness of the small code's operations, third part: those that only reckon. Nothing here concerns a given program. -/
set_option linter.unusedVariables false
set_option linter.unusedSimpArgs false
set_option linter.unnecessarySimpa false
namespace Go.Proofs.YtkjnjdcbnelceaaGreatDoor.KA
open Go

section
variable {c : Ctx} {o : Oper} {a : Act} {w : World} {rho : Gh} {fz : Nat → Prop} {st : St} {K : St → Prop} {mu : Nat → Bool}

theorem bool_eq_decide {α : Type} [BEq α] [LawfulBEq α] [DecidableEq α] (x y : α) : (x == y) = decide (x = y) := by
  by_cases h : x = y
  · subst h; simp
  · simp [h]

theorem run_int {P : Program} {k : IntKind} {x y : Int} {op : BinOp} {t : TypeId} (px py : Operand) {K : AV → Prop} (h : arith op k x y K) (w : World) :
    ∃ r v, K r ∧ RF w fz r v ∧ (do eqGuard op t px py (.int k x) (.int k y); binOp op t (.int k x) (.int k y) : Sem Value).run P w = .ok v w := by
  cases op <;> simp only [arith] at h
  case add => exact ⟨_, _, h, .int _ _, by simp [eqGuard_at_int, binOp_add, Op.intArith]⟩
  case sub => exact ⟨_, _, h, .int _ _, by simp [eqGuard_at_int, binOp_sub, Op.intArith]⟩
  case mul => exact ⟨_, _, h, .int _ _, by simp [eqGuard_at_int, binOp_mul, Op.intArith]⟩
  case quo => exact ⟨_, _, h.2, .int _ _, by simp [eqGuard_at_int, binOp_quo, Op.intDiv, h.1]⟩
  case rem => exact ⟨_, _, h.2, .int _ _, by simp [eqGuard_at_int, binOp_rem, Op.intDiv, h.1]⟩
  case and => exact ⟨_, _, h, .int _ _, by simp [eqGuard_at_int, binOp, Op.intBits]⟩
  case or => exact ⟨_, _, h, .int _ _, by simp [eqGuard_at_int, binOp, Op.intBits]⟩
  case xor => exact ⟨_, _, h, .int _ _, by simp [eqGuard_at_int, binOp, Op.intBits]⟩
  case eql => exact ⟨_, _, h, .bool _, by simp [eqGuard_at_int, binOp_eql, bool_eq_decide]⟩
  case neq => exact ⟨_, _, h, .bool _, by simp [eqGuard_at_int, binOp_neq, bne, bool_eq_decide]⟩
  case lss => exact ⟨_, _, h, .bool _, by simp [eqGuard_at_int, binOp_lss]⟩
  case leq => exact ⟨_, _, h, .bool _, by simp [eqGuard_at_int, binOp_leq]⟩
  case gtr => exact ⟨_, _, h, .bool _, by simp [eqGuard_at_int, binOp_gtr]⟩
  case geq => exact ⟨_, _, h, .bool _, by simp [eqGuard_at_int, binOp_geq]⟩

theorem run_str {P : Program} {x y : List UInt8} {op : BinOp} {t : TypeId} (px py : Operand) {K : AV → Prop} (h : strOp op x y K) (w : World) :
    ∃ r v, K r ∧ RF w fz r v ∧ (do eqGuard op t px py (.string ⟨⟨x⟩⟩) (.string ⟨⟨y⟩⟩); binOp op t (.string ⟨⟨x⟩⟩) (.string ⟨⟨y⟩⟩) : Sem Value).run P w = .ok v w := by
  have ex : (⟨⟨x⟩⟩ : ByteArray).toList = x := ByteArray.toList_mk x
  have ey : (⟨⟨y⟩⟩ : ByteArray).toList = y := ByteArray.toList_mk y
  cases op <;> simp only [strOp] at h
  case add =>
    refine ⟨_, _, h.2, .str _, ?_⟩
    have hs : ¬ (9223372036854775807 < ((x.length : Int) + (y.length : Int))) := by omega
    have h1 : (⟨⟨x⟩⟩ : ByteArray).size = x.length := rfl
    have h2 : (⟨⟨y⟩⟩ : ByteArray).size = y.length := rfl
    have h3 : (⟨⟨x⟩⟩ ++ ⟨⟨y⟩⟩ : ByteArray) = ⟨⟨x ++ y⟩⟩ := ByteArray.mk_append_mk x y
    simp [eqGuard_at_string, binOp, Op.stringOp, h1, h2, h3, hs]
  case eql => exact ⟨_, _, h, .bool _, by simp [eqGuard_at_string, binOp, Op.stringOp, ex, ey, bool_eq_decide]⟩
  case neq => exact ⟨_, _, h, .bool _, by simp [eqGuard_at_string, binOp, Op.stringOp, ex, ey, bool_eq_decide]⟩
  case lss => exact ⟨_, _, h, .bool _, by simp [eqGuard_at_string, binOp, Op.stringOp, ex, ey, bool_eq_decide]⟩
  case leq => exact ⟨_, _, h, .bool _, by simp [eqGuard_at_string, binOp, Op.stringOp, ex, ey, bool_eq_decide]⟩
  case gtr => exact ⟨_, _, h, .bool _, by simp [eqGuard_at_string, binOp, Op.stringOp, ex, ey, bool_eq_decide]⟩
  case geq => exact ⟨_, _, h, .bool _, by simp [eqGuard_at_string, binOp, Op.stringOp, ex, ey, bool_eq_decide]⟩

theorem shift_run {P : Program} (w : World) (op : BinOp) (k yk : IntKind) (x y : Int) (h : 0 ≤ y) : (op = .shl → (Op.shift op k x yk y).run P w = .ok (.int k (k.wrap (x * 2 ^ (Nat.min y.toNat k.bits)))) w) ∧ (op = .shr → (Op.shift op k x yk y).run P w = .ok (.int k (x.fdiv (2 ^ (Nat.min y.toNat k.bits)))) w) := by
  have hn : ¬ (y < 0) := by omega
  constructor
  · rintro rfl
    simp only [Op.shift, hn, if_false, Sem.run_pure]
  · rintro rfl
    simp only [Op.shift, hn, if_false, Sem.run_pure]

theorem run_bin {P : Program} {x y : AV} {u v : Value} {op : BinOp} {t : TypeId} (px py : Operand) {K : AV → Prop} (hx : RT w rho fz x u) (hy : RT w rho fz y v) (h : binK op x y K) :
    ∃ r z, K r ∧ RF w fz r z ∧ (do eqGuard op t px py u v; binOp op t u v : Sem Value).run P w = .ok z w := by
  unfold binK at h
  split at h
  · have e1 := hx.int
    have e2 := hy.int
    subst e1 e2
    exact ⟨_, _, h.2, .int _ _, by simp [eqGuard_at_int, binOp_shl, (shift_run (P := P) w .shl _ _ _ _ h.1).1 rfl]⟩
  · have e1 := hx.int
    have e2 := hy.int
    subst e1 e2
    exact ⟨_, _, h.2, .int _ _, by simp [eqGuard_at_int, binOp_shr, (shift_run (P := P) w .shr _ _ _ _ h.1).2 rfl]⟩
  · have e1 := hx.int
    have e2 := hy.int
    subst e1 e2
    obtain ⟨rfl, h⟩ := h
    exact run_int px py h w
  · have e1 := hx.str
    have e2 := hy.str
    subst e1 e2
    exact run_str px py h w
  · exact h.elim

theorem s_bin {d : Nat} {op : BinOp} {t u : TypeId} {x y : Operand} {x' y' : O} (ho : o.op = .binOp op t x y u) (hx : opO c.gt x = some x') (hy : opO c.gt y = some y') (hp : Pre c w rho fz st)
    (hsx : Rd a w rho fz st x') (hsy : Rd a w rho fz st y') (h : astep c (.bin d op x' y') st K) : Res c o (.bin d op x' y') a w rho fz st K := by
  simp only [astep] at h
  obtain ⟨r, z, h1, h2, h3⟩ := run_bin (P := c.P) (t := t) x y (opO_sound hx hp.gl hsx) (opO_sound hy hp.gl hsy) h
  refine res_value rfl hp.hr hp.ok (v := z) ?_ (.of _ _ h2) h1
  simp only [execOp, ho]
  rw [Sem.run_bind, h3]
  rfl

theorem s_eqb {d : Nat} {neg : Bool} {t u : TypeId} {x y : Operand} {x' y' : O} (ho : o.op = .binOp (if neg then .neq else .eql) t x y u) (ht : c.P.underlying t = some .bool) (hx : opO c.gt x = some x') (hy : opO c.gt y = some y') (hp : Pre c w rho fz st)
    (hsx : Rd a w rho fz st x') (hsy : Rd a w rho fz st y') (h : astep c (.eqb d neg x' y') st K) : Res c o (.eqb d neg x' y') a w rho fz st K := by
  have h1 := opO_sound hx hp.gl hsx
  have h2 := opO_sound hy hp.gl hsy
  simp only [astep, onBool] at h
  split at h
  · rename_i p hp'
    split at h
    · rename_i q hq'
      rw [hp'] at h1
      rw [hq'] at h2
      have e1 := h1.bool
      have e2 := h2.bool
      refine res_value rfl hp.hr hp.ok (v := .bool (if neg then !decide (p = q) else decide (p = q))) ?_ (.of _ _ (.bool _)) h
      have he := run_equalIn_bool' (P := c.P) w 9999 t p q ht
      cases neg <;> simp [execOp, ho, e1, e2, eqGuard_at_bool, binOp, Op.equal, Op.maxDepth, he, bool_eq_decide]
    · exact h.elim
  · exact h.elim

theorem s_not {d : Nat} {t : TypeId} {x : Operand} {x' : O} (ho : o.op = .unOp .not t x) (hx : opO c.gt x = some x') (hp : Pre c w rho fz st) (hsx : Rd a w rho fz st x') (h : astep c (.not d x') st K) : Res c o (.not d x') a w rho fz st K := by
  have h1 := opO_sound hx hp.gl hsx
  simp only [astep, onBool] at h
  split at h
  · rename_i p hp'
    rw [hp'] at h1
    have e1 := h1.bool
    exact res_value rfl hp.hr hp.ok (v := .bool !p) (by simp [execOp, ho, e1, Op.unary]) (.of _ _ (.bool _)) h
  · exact h.elim

theorem s_neg {d : Nat} {t : TypeId} {x : Operand} {x' : O} (ho : o.op = .unOp .neg t x) (hx : opO c.gt x = some x') (hp : Pre c w rho fz st) (hsx : Rd a w rho fz st x') (h : astep c (.neg d x') st K) : Res c o (.neg d x') a w rho fz st K := by
  have h1 := opO_sound hx hp.gl hsx
  simp only [astep, onInt] at h
  split at h
  · rename_i k n hp'
    rw [hp'] at h1
    have e1 := h1.int
    exact res_value rfl hp.hr hp.ok (v := .int k (k.wrap (0 - n))) (by simp [execOp, ho, e1, Op.unary, Op.intArith]) (.of _ _ (.int _ _)) h
  · exact h.elim

theorem s_conv {d : Nat} {s t : TypeId} {k0 k : IntKind} {x : Operand} {x' : O} (ho : o.op = .convert s t x) (hs : c.P.underlying s = some (.int k0)) (ht : c.P.underlying t = some (.int k)) (hx : opO c.gt x = some x') (hp : Pre c w rho fz st) (hsx : Rd a w rho fz st x') (h : astep c (.conv d k x') st K) : Res c o (.conv d k x') a w rho fz st K := by
  have h1 := opO_sound hx hp.gl hsx
  simp only [astep, onInt] at h
  split at h
  · rename_i k1 n hp'
    rw [hp'] at h1
    have e1 := h1.int
    refine res_value rfl hp.hr hp.ok (v := .int k (k.wrap n)) ?_ (.of _ _ (.int _ _)) h
    simp [execOp, ho, e1, convert, run_underlying hs, run_underlying ht, Conv.intToInt]
  · exact h.elim

theorem s_cvs {d : Nat} {s t : TypeId} {x : Operand} {x' : O} (ho : o.op = .convert s t x) (hs : c.P.underlying s = some .string) (ht : c.P.underlying t = some .string) (hx : opO c.gt x = some x') (hp : Pre c w rho fz st) (hsx : Rd a w rho fz st x')
    (h : astep c (.cvs d x') st K) : Res c o (.cvs d x') a w rho fz st K := by
  have h1 := opO_sound hx hp.gl hsx
  simp only [astep, onStr] at h
  split at h
  · rename_i l hp'
    rw [hp'] at h1
    refine res_value rfl hp.hr hp.ok (v := .string ⟨⟨l⟩⟩) ?_ (.of _ _ (.str _)) h
    simp [execOp, ho, h1.str, convert, run_underlying hs, run_underlying ht]
  · exact h.elim

theorem onLo_sound {x : Option Operand} {x' : Option O} {d : Nat} {M : Nat → Prop} (hx : opOpt c.gt x = some x') (hp : Pre c w rho fz st) (hs : ∀ y, x' = some y → Rd a w rho fz st y) (h : onLo (x'.map st.ev) d M) :
    ∃ n, M n ∧ ((x = none ∧ n = d) ∨ ∃ (y : Operand) (k : IntKind) (m : Int), x = some y ∧ a.eval y = .int k m ∧ 0 ≤ m ∧ n = m.toNat) := by
  cases x with
  | none =>
    cases hx
    exact ⟨d, h, .inl ⟨rfl, rfl⟩⟩
  | some y =>
    simp only [opOpt] at hx
    cases hy : opO c.gt y with
    | none => rw [hy] at hx; cases hx
    | some z =>
      rw [hy] at hx
      cases hx
      have h1 := opO_sound hy hp.gl (hs z rfl)
      simp only [Option.map_some, onLo] at h
      split at h
      · rename_i e; cases e
      · rename_i k m e
        simp only [Option.some.injEq] at e
        rw [e] at h1
        exact ⟨m.toNat, h.2, .inr ⟨y, k, m, rfl, h1.int, h.1, rfl⟩⟩
      · exact h.elim

/-- The bounds of a cut, as they are run. -/
theorem run_bounds {P : Program} {isSlice : Bool} {len cap : Nat} {lo hi mx : Option Operand} {l h m : Nat}
    (hm : (mx = none ∧ m = cap) ∨ ∃ (y : Operand) (k : IntKind) (q : Int), mx = some y ∧ a.eval y = .int k q ∧ 0 ≤ q ∧ m = q.toNat)
    (hh : (hi = none ∧ h = len) ∨ ∃ (y : Operand) (k : IntKind) (q : Int), hi = some y ∧ a.eval y = .int k q ∧ 0 ≤ q ∧ h = q.toNat)
    (hl : (lo = none ∧ l = 0) ∨ ∃ (y : Operand) (k : IntKind) (q : Int), lo = some y ∧ a.eval y = .int k q ∧ 0 ≤ q ∧ l = q.toNat)
    (h1 : m ≤ cap) (h2 : h ≤ m) (h3 : l ≤ h) (hmh : mx.isSome = true → hi.isSome = true) (w : World) : (Instr.sliceBounds isSlice len cap (lo.map a.eval) (hi.map a.eval) (mx.map a.eval)).run P w = .ok (l, h, m) w := by
  have hb : ∀ (k : IntKind) (q : Int) (y : Nat) (code : BoundsCode) (w : World), 0 ≤ q → q.toNat ≤ y → (Instr.sliceBound (.int k q) y code).run P w = .ok q.toNat w := fun k q y code w h0 h1 => run_sliceBound w k q y code h0 (by omega)
  rcases hm with ⟨rfl, rfl⟩ | ⟨ym, km, qm, rfl, em, gm, rfl⟩ <;> rcases hh with ⟨rfl, rfl⟩ | ⟨yh, kh, qh, rfl, eh, gh, rfl⟩ <;> rcases hl with ⟨rfl, rfl⟩ | ⟨yl, kl, ql, rfl, el, gl, rfl⟩ <;>
    first
      | (simp at hmh; done)
      | simp [Instr.sliceBounds, *]

end
end Go.Proofs.YtkjnjdcbnelceaaGreatDoor.KA
end

section
/- Soundness of the small code's operations, fourth part: places, cuts, lengths. Nothing here concerns a given program. -/
set_option linter.unusedVariables false
set_option linter.unusedSimpArgs false
set_option linter.unnecessarySimpa false
namespace Go.Proofs.YtkjnjdcbnelceaaGreatDoor.KA
open Go

theorem flat_get {sz : Nat} : ∀ {xs : List AV} (hs : ∀ x ∈ xs, x.isElem sz = true) {i : Nat} {e : AV} (hi : xs[i]? = some e) {j : Nat} {y : AV} (hj : e.cells[j]? = some y), (xs.flatMap AV.cells)[i * sz + j]? = some y
  | [], _, _, _, hi, _, _, _ => by simp at hi
  | x :: xs, hs, 0, e, hi, j, y, hj => by
    simp at hi
    subst hi
    rw [List.flatMap_cons, List.getElem?_append_left (by have := (List.getElem?_eq_some_iff.1 hj).1; omega)]
    simpa using hj
  | x :: xs, hs, i + 1, e, hi, j, y, hj => by
    have hx := (isElem_iff.1 (hs x (by simp))).1
    rw [List.flatMap_cons, List.getElem?_append_right (by rw [hx, Nat.add_mul]; omega)]
    have := flat_get (xs := xs) (fun x hx => hs x (by simp [hx])) (by simpa using hi) hj
    rw [hx, Nat.add_mul, Nat.one_mul, show i * sz + sz + j - sz = i * sz + j by omega]
    exact this

theorem flat_length {sz : Nat} : ∀ {xs : List AV} (hs : ∀ x ∈ xs, x.isElem sz = true), (xs.flatMap AV.cells).length = xs.length * sz
  | [], _ => by simp
  | x :: xs, hs => by
    rw [List.flatMap_cons, List.length_append, (isElem_iff.1 (hs x (by simp))).1, flat_length (fun x hx => hs x (by simp [hx])), List.length_cons, Nat.add_mul]
    omega

theorem flat_drop {sz : Nat} : ∀ {xs : List AV} (hs : ∀ x ∈ xs, x.isElem sz = true) (l : Nat), (xs.drop l).flatMap AV.cells = (xs.flatMap AV.cells).drop (l * sz)
  | [], _, l => by simp
  | x :: xs, hs, 0 => by simp
  | x :: xs, hs, l + 1 => by
    have hx := (isElem_iff.1 (hs x (by simp))).1
    have h1 : x.cells.drop ((l + 1) * sz) = [] := List.drop_eq_nil_of_le (by rw [hx, Nat.add_mul]; omega)
    have h2 : (l + 1) * sz - x.cells.length = l * sz := by rw [hx, Nat.add_mul]; omega
    rw [List.drop_succ_cons, flat_drop (xs := xs) (fun x hx => hs x (by simp [hx])), List.flatMap_cons, List.drop_append, h1, h2, List.nil_append]

section
variable {c : Ctx} {o : Oper} {a : Act} {w : World} {rho : Gh} {fz : Nat → Prop} {st : St} {K : St → Prop} {mu : Nat → Bool}

theorem RF.fp_drop {cs : List AV} {b p : Nat} (h : RF w fz (.fp cs) (.pointer (some ⟨b, p, none⟩))) (n : Nat) : RF w fz (.fp (cs.drop n)) (.pointer (some ⟨b, p + n, none⟩)) := by
  cases h with
  | fp _ _ _ g hb hg hgr =>
    exact .fp _ b (p + n) (fun k => g (n + k)) hb (fun k z hk => by rw [Nat.add_assoc]; exact hg (n + k) z (by simpa using hk)) (fun k z hk => hgr (n + k) z (by simpa using hk))

theorem RF.fp_addr {cs : List AV} {v : Value} (h : RF w fz (.fp cs) v) : ∃ b p, v = .pointer (some ⟨b, p, none⟩) := by
  cases h; exact ⟨_, _, rfl⟩

theorem s_fld {d : Nat} {s : TypeId} {x : Operand} {f : Nat} {fs : Array Field} {fl : Field} {n : Nat} {x' : O} (ho : o.op = .fieldAddr s x f) (hu : c.P.underlying s = some (.struct fs)) (hf : fs[f]? = some fl) (hsz : sizeT c.P fl.type = some (n + 1)) (hx : opO c.gt x = some x')
    (hp : Pre c w rho fz st) (hsx : Rd a w rho fz st x') (h : astep c (.fld d fl.offset x') st K) : Res c o (.fld d fl.offset x') a w rho fz st K := by
  have h1 := opO_sound hx hp.gl hsx
  have hrun : ∀ b p, a.eval x = .pointer (some ⟨b, p, none⟩) → (execOp a.eval o).run c.P w = .ok (.value (.pointer (some ⟨b, p + fl.offset, none⟩))) w := by
    intro b p hv
    simp [execOp, ho, Instr.fieldAt, run_underlying hu, hf, Instr.sureAddr, hv, fieldPlace, run_sizeOf hsz, Addr.add_lit]
  simp only [astep] at h
  generalize hz : st.ev x' = z at *
  cases z with
  | fp cs =>
    obtain ⟨b, p, hv⟩ := h1.fp.fp_addr
    rw [hv] at h1
    exact res_value rfl hp.hr hp.ok (hrun b p hv) (.of _ _ (h1.fp.fp_drop _)) h.2
  | ref id off =>
    obtain ⟨b, p, hr, hv⟩ := h1.ref'
    exact res_value rfl hp.hr hp.ok (hrun b (p + off) hv) (by rw [Nat.add_assoc]; exact .ref id (off + fl.offset) b p hr) h
  | tref T n id =>
    obtain ⟨b, hr, hsh, hv⟩ := h1.tref'
    exact res_value rfl hp.hr hp.ok (hrun b 0 hv) (.ref id fl.offset b 0 hr) h
  | _ => exact h.elim

theorem s_fldv {d : Nat} {s : TypeId} {x : Operand} {f : Nat} {fs : Array Field} {fl : Field} {sz : Nat} {ag : Bool} {x' : O} (ho : o.op = .field s x f) (hu : c.P.underlying s = some (.struct fs)) (hf : fs[f]? = some fl) (hsz : sizeT c.P fl.type = some sz) (hag : aggT c.P fl.type = some ag) (hx : opO c.gt x = some x')
    (hp : Pre c w rho fz st) (hsx : Rd a w rho fz st x') (h : astep c (.fldv d ag fl.offset sz x') st K) : Res c o (.fldv d ag fl.offset sz x') a w rho fz st K := by
  have h1 := opO_sound hx hp.gl hsx
  simp only [astep] at h
  generalize hz : st.ev x' = z at *
  cases z with
  | agg cs =>
    obtain ⟨vs, hv, hl, hc⟩ := h1.agg'
    simp only at h
    cases ag with
    | true =>
      simp only [if_true] at h
      obtain ⟨hle, hk⟩ := h
      refine res_value rfl hp.hr hp.ok (v := .agg (vs.extract fl.offset (fl.offset + sz))) ?_ (.agg _ _ (by simp; omega) (fun j z hj => ?_)) hk
      · simp [execOp, ho, Instr.field, run_underlying hu, hf, hv, asAgg, part, run_isAgg hag, run_sizeOf hsz]
      · rw [List.getElem?_take] at hj
        split at hj
        · rename_i hlt
          rw [List.getElem?_drop] at hj
          have h2 := hc (fl.offset + j) z hj
          have h3 : fl.offset + j < vs.size := by have := (List.getElem?_eq_some_iff.1 hj).1; omega
          simpa [Array.getD_eq_getD_getElem?, h3, Array.getElem?_extract, hlt, show j < min (fl.offset + sz) vs.size - fl.offset by omega] using h2
        · cases hj
    | false =>
      simp only [Bool.false_eq_true, if_false] at h
      obtain ⟨u, hu', hk⟩ := h
      have h3 : fl.offset < vs.size := by have := (List.getElem?_eq_some_iff.1 hu').1; omega
      refine res_value rfl hp.hr hp.ok (v := vs.getD fl.offset undef) ?_ (hc _ _ hu') hk
      simp [execOp, ho, Instr.field, run_underlying hu, hf, hv, asAgg, part, run_isAgg hag, h3]
  | _ => exact h.elim

theorem s_idxv {d : Nat} {t e : TypeId} {x y : Operand} {n sz : Nat} {ag : Bool} {x' y' : O} (ho : o.op = .index t x y) (hu : c.P.underlying t = some (.array n e)) (hsz : sizeT c.P e = some sz) (hag : aggT c.P e = some ag) (hx : opO c.gt x = some x') (hy : opO c.gt y = some y')
    (hp : Pre c w rho fz st) (hsx : Rd a w rho fz st x') (hsy : Rd a w rho fz st y') (h : astep c (.idxv d ag sz n x' y') st K) : Res c o (.idxv d ag sz n x' y') a w rho fz st K := by
  have h1 := opO_sound hx hp.gl hsx
  have h2 := opO_sound hy hp.gl hsy
  simp only [astep, onInt] at h
  split at h
  · rename_i k j hn
    obtain ⟨h0, hlt, h⟩ := h
    rw [hn] at h2
    have e2 := h2.int
    generalize hz : st.ev x' = z at *
    cases z with
    | agg cs =>
      obtain ⟨vs, hv, hl, hc⟩ := h1.agg'
      simp only at h
      generalize ho' : j.toNat * sz = off at *
      cases ag with
      | true =>
        simp only [if_true] at h
        obtain ⟨hle, hk⟩ := h
        refine res_value rfl hp.hr hp.ok (v := .agg (vs.extract off (off + sz))) ?_ (.agg _ _ (by simp; omega) (fun j z hj => ?_)) hk
        · simp [execOp, ho, Instr.index, asIntOf, e2, run_underlying hu, hv, part, run_isAgg hag, run_sizeOf hsz, h0, hlt, ho']
        · rw [List.getElem?_take] at hj
          split at hj
          · rename_i hlt
            rw [List.getElem?_drop] at hj
            have h2 := hc (off + j) z hj
            have h3 : off + j < vs.size := by have := (List.getElem?_eq_some_iff.1 hj).1; omega
            simpa [Array.getD_eq_getD_getElem?, h3, Array.getElem?_extract, hlt, show j < min (off + sz) vs.size - off by omega] using h2
          · cases hj
      | false =>
        simp only [Bool.false_eq_true, if_false] at h
        obtain ⟨u, hu', hk⟩ := h
        have h3 : off < vs.size := by have := (List.getElem?_eq_some_iff.1 hu').1; omega
        refine res_value rfl hp.hr hp.ok (v := vs.getD off undef) ?_ (hc _ _ hu') hk
        simp [execOp, ho, Instr.index, asIntOf, e2, run_underlying hu, hv, part, run_isAgg hag, run_sizeOf hsz, h0, hlt, ho', h3]
    | _ => exact h.elim
  · exact h.elim

theorem run_idx_slice {P : Program} {t e : TypeId} {sz : Nat} (hu : P.underlying t = some (.slice e)) (hsz : sizeT P e = some sz) (b p len cap : Nat) (k : IntKind) (n : Int) (h0 : 0 ≤ n) (h1 : n < len) (w : World) :
    (Instr.indexAt t (.slice (some ⟨b, p, none⟩) len cap) (.int k n)).run P w = .ok (.pointer (some ⟨b, p + n.toNat * sz, none⟩)) w := by
  simp [Instr.indexAt, asIntOf, run_underlying hu, h0, h1, run_sizeOf hsz, Addr.add_lit]

theorem s_idxa {d : Nat} {t e : TypeId} {x y : Operand} {sz : Nat} {x' y' : O} (ho : o.op = .indexAddr t x y) (hu : c.P.underlying t = some (.slice e)) (hsz : sizeT c.P e = some sz) (hx : opO c.gt x = some x') (hy : opO c.gt y = some y')
    (hp : Pre c w rho fz st) (hsx : Rd a w rho fz st x') (hsy : Rd a w rho fz st y') (h : astep c (.idxa d sz none x' y') st K) : Res c o (.idxa d sz none x' y') a w rho fz st K := by
  have h1 := opO_sound hx hp.gl hsx
  have h2 := opO_sound hy hp.gl hsy
  simp only [astep, onInt] at h
  split at h
  · rename_i k n hn
    rw [hn] at h2
    have e2 := h2.int
    generalize hz : st.ev x' = z at *
    cases z with
    | sl sz' xs =>
      simp only at h
      obtain ⟨rfl, h0, el, hel, hk⟩ := h
      have h3 := h1.sl
      generalize hv : a.eval x = v at *
      cases h3 with
      | slnil => simp at hel
      | sl _ _ b off cap g hb hc hs hg hgr =>
        have hlt : n.toNat < xs.length := (List.getElem?_eq_some_iff.1 hel).1
        refine res_value rfl hp.hr hp.ok (v := .pointer (some ⟨b, off + n.toNat * sz', none⟩)) ?_ (.of _ _ (.fp _ b _ (fun k => g (n.toNat * sz' + k)) hb (fun j z hj => ?_) (fun j z hj => ?_))) hk
        · simp [execOp, ho, hv, e2, run_idx_slice hu hsz b off xs.length cap k n h0 (by omega)]
        · rw [Nat.add_assoc]; exact hg _ z (flat_get hs hel hj)
        · exact hgr _ z (flat_get hs hel hj)
    | own sz' id off len cap =>
      simp only at h
      obtain ⟨rfl, h0, hlt, hk⟩ := h
      obtain ⟨b, p, cap', e', m, hr, hc, hl, hsh, hm, hv⟩ := h1.own'
      refine res_value rfl hp.hr hp.ok (v := .pointer (some ⟨b, p + off + n.toNat * sz', none⟩)) ?_ (by rw [Nat.add_assoc]; exact .ref id _ b p hr) hk
      simp [execOp, ho, hv, e2, run_idx_slice hu hsz b (p + off) len cap' k n h0 hlt]
    | _ => exact h.elim
  · exact h.elim

theorem s_idxarr {d : Nat} {t e : TypeId} {x y : Operand} {sz m : Nat} {x' y' : O} (ho : o.op = .indexAddr t x y) (hu : c.P.underlying t = some (.array m e)) (hsz : sizeT c.P e = some sz) (hx : opO c.gt x = some x') (hy : opO c.gt y = some y')
    (hp : Pre c w rho fz st) (hsx : Rd a w rho fz st x') (hsy : Rd a w rho fz st y') (h : astep c (.idxa d sz (some m) x' y') st K) : Res c o (.idxa d sz (some m) x' y') a w rho fz st K := by
  have h1 := opO_sound hx hp.gl hsx
  have h2 := opO_sound hy hp.gl hsy
  simp only [astep, onInt] at h
  split at h
  · rename_i k n hn
    obtain ⟨h0, hlt, h⟩ := h
    rw [hn] at h2
    have e2 := h2.int
    have hrun : ∀ b p, a.eval x = .pointer (some ⟨b, p, none⟩) → (execOp a.eval o).run c.P w = .ok (.value (.pointer (some ⟨b, p + n.toNat * sz, none⟩))) w := by
      intro b p hv
      simp [execOp, ho, hv, e2, Instr.indexAt, asIntOf, run_underlying hu, Instr.sureAddr, h0, hlt, run_sizeOf hsz, Addr.add_lit]
    generalize hz : st.ev x' = z at *
    cases z with
    | fp cs =>
      obtain ⟨b, p, hv⟩ := h1.fp.fp_addr
      rw [hv] at h1
      exact res_value rfl hp.hr hp.ok (hrun b p hv) (.of _ _ (h1.fp.fp_drop _)) h.2
    | ref id off =>
      obtain ⟨b, p, hr, hv⟩ := h1.ref'
      exact res_value rfl hp.hr hp.ok (hrun b (p + off) hv) (by rw [Nat.add_assoc]; exact .ref id _ b p hr) h
    | _ => exact h.elim
  · exact h.elim

theorem s_idx {d : Nat} {t : TypeId} {x y : Operand} {x' y' : O} (ho : o.op = .index t x y) (hu : c.P.underlying t = some .string) (hx : opO c.gt x = some x') (hy : opO c.gt y = some y')
    (hp : Pre c w rho fz st) (hsx : Rd a w rho fz st x') (hsy : Rd a w rho fz st y') (h : astep c (.idx d x' y') st K) : Res c o (.idx d x' y') a w rho fz st K := by
  have h1 := opO_sound hx hp.gl hsx
  have h2 := opO_sound hy hp.gl hsy
  simp only [astep, onStr, onInt] at h
  split at h
  · rename_i s hs
    rw [hs] at h1
    split at h
    · rename_i k n hn
      obtain ⟨h0, b, hb, hk⟩ := h
      rw [hn] at h2
      refine res_value rfl hp.hr hp.ok (v := .int .u8 b.toNat) ?_ (.of _ _ (.int _ _)) hk
      have hbb : (⟨⟨s⟩⟩ : ByteArray)[n.toNat]? = some b := by
        have hlt : n.toNat < s.length := (List.getElem?_eq_some_iff.1 hb).1
        have hsz : n.toNat < (⟨⟨s⟩⟩ : ByteArray).size := hlt
        rw [getElem?_pos (⟨⟨s⟩⟩ : ByteArray) n.toNat hsz]
        rw [List.getElem?_eq_getElem hlt] at hb
        exact hb
      simp [execOp, ho, h1.str, h2.int, Instr.index, asIntOf, run_underlying hu, h0, hbb]
    · exact h.elim
  · exact h.elim

theorem opOpt_isSome {gt : List (Nat × List AV)} {x : Option Operand} {x' : Option O} (h : opOpt gt x = some x') : x.isSome = x'.isSome := by
  cases x with
  | none => cases h; rfl
  | some y =>
    simp only [opOpt] at h
    cases hy : opO gt y with
    | none => rw [hy] at h; cases h
    | some z => rw [hy] at h; cases h; rfl

theorem s_slcs {d : Nat} {t : TypeId} {x : Operand} {lo hi : Option Operand} {x' : O} {lo' hi' : Option O} (ho : o.op = .slice t x lo hi none) (hu : c.P.underlying t = some .string) (hx : opO c.gt x = some x') (hlo : opOpt c.gt lo = some lo') (hhi : opOpt c.gt hi = some hi')
    (hp : Pre c w rho fz st) (hsx : Rd a w rho fz st x') (hsl : ∀ y, lo' = some y → Rd a w rho fz st y) (hsh : ∀ y, hi' = some y → Rd a w rho fz st y) (h : astep c (.slcs d x' lo' hi') st K) : Res c o (.slcs d x' lo' hi') a w rho fz st K := by
  have h1 := opO_sound hx hp.gl hsx
  simp only [astep, onStr] at h
  split at h
  · rename_i s hs
    rw [hs] at h1
    obtain ⟨hn, h, eh⟩ := onLo_sound hhi hp hsh h
    obtain ⟨ln, h, el⟩ := onLo_sound hlo hp hsl h
    obtain ⟨g1, g2, hk⟩ := h
    have hb := run_bounds (P := c.P) (isSlice := false) (len := s.length) (cap := s.length) (mx := none) (.inl ⟨rfl, rfl⟩) eh el (Nat.le_refl _) g1 g2 (by simp) w
    refine res_value rfl hp.hr hp.ok (v := .string ⟨⟨(s.take hn).drop ln⟩⟩) ?_ (.of _ _ (.str _)) hk
    have hsz : (⟨⟨s⟩⟩ : ByteArray).size = s.length := rfl
    have hex : (⟨⟨s⟩⟩ : ByteArray).extract ln hn = ⟨⟨(s.take hn).drop ln⟩⟩ := by
      rw [show (⟨⟨s⟩⟩ : ByteArray) = ⟨s.toArray⟩ from rfl, Lib.extract_eq]
      simp [List.drop_take]
    simp only [Option.map_none] at hb
    simp [execOp, ho, h1.str, Instr.sliceAt, Instr.slice, run_underlying hu, hsz, hb, hex]
  · exact h.elim

theorem s_slc {d : Nat} {t e : TypeId} {sz : Nat} {x : Operand} {lo hi mx : Option Operand} {x' : O} {lo' hi' mx' : Option O} (ho : o.op = .slice t x lo hi mx) (hu : c.P.underlying t = some (.slice e)) (hsz : sizeT c.P e = some sz) (hx : opO c.gt x = some x') (hlo : opOpt c.gt lo = some lo') (hhi : opOpt c.gt hi = some hi') (hmx : opOpt c.gt mx = some mx') (hmh : mx.isSome = true → hi.isSome = true)
    (hp : Pre c w rho fz st) (hsx : Rd a w rho fz st x') (hsl : ∀ y, lo' = some y → Rd a w rho fz st y) (hsh : ∀ y, hi' = some y → Rd a w rho fz st y) (hsm : ∀ y, mx' = some y → Rd a w rho fz st y) (h : astep c (.slc d sz x' lo' hi' mx') st K) : Res c o (.slc d sz x' lo' hi' mx') a w rho fz st K := by
  have h1 := opO_sound hx hp.gl hsx
  have hrun : ∀ (base : Option Addr) (len cap l hh m : Nat), a.eval x = .slice base len cap → (Instr.sliceBounds true len cap (lo.map a.eval) (hi.map a.eval) (mx.map a.eval)).run c.P w = .ok (l, hh, m) w →
      (execOp a.eval o).run c.P w = .ok (.value (.slice (if m = l then base else base.map (·.add (l * sz))) (hh - l) (m - l))) w := by
    intro base len cap l hh m hv hb
    simp [execOp, ho, hv, Instr.sliceAt, Instr.slice, run_underlying hu, hb, run_sizeOf hsz]
  simp only [astep] at h
  generalize hz : st.ev x' = z at *
  cases z with
  | sl sz' xs =>
    simp only at h
    obtain ⟨rfl, hmn, h⟩ := h
    have hmx0 : mx = none := by
      have := opOpt_isSome hmx
      cases mx' with
      | none => cases mx with
        | none => rfl
        | some _ => cases this
      | some _ => cases hmn
    subst hmx0
    obtain ⟨hn, h, eh⟩ := onLo_sound hhi hp hsh h
    obtain ⟨ln, h, el⟩ := onLo_sound hlo hp hsl h
    obtain ⟨g1, g2, hk⟩ := h
    have h3 := h1.sl
    generalize hv : a.eval x = v at *
    cases h3 with
    | slnil =>
      have e1 : hn = 0 := by simpa using g1
      have e2 : ln = 0 := by omega
      subst e1 e2
      refine res_value rfl hp.hr hp.ok (hrun none 0 0 0 0 0 rfl (run_bounds (.inl ⟨rfl, rfl⟩) (by simpa using eh) el (by simp) (by simp) (by simp) hmh w)) (.of _ _ ?_) hk
      exact .slnil _
    | sl _ _ b off cap g hb hc hs hg hgr =>
      refine res_value rfl hp.hr hp.ok (hrun (some ⟨b, off, none⟩) xs.length cap ln hn cap rfl (run_bounds (.inl ⟨rfl, rfl⟩) eh el (Nat.le_refl _) (by omega) g2 hmh w)) (.of _ _ ?_) hk
      have hlen : ((xs.take hn).drop ln).length = hn - ln := by simp; omega
      have hs' : ∀ x ∈ (xs.take hn).drop ln, x.isElem sz' = true := fun y hy => hs y (List.mem_of_mem_take (List.mem_of_mem_drop hy))
      have hsub : ∀ (k : Nat) (z : AV), (((xs.take hn).drop ln).flatMap AV.cells)[k]? = some z → (xs.flatMap AV.cells)[ln * sz' + k]? = some z := by
        intro k z hk
        have hts : ∀ x ∈ xs.take hn, x.isElem sz' = true := fun y hy => hs y (List.mem_of_mem_take hy)
        rw [flat_drop hts, List.getElem?_drop] at hk
        have : xs.flatMap AV.cells = (xs.take hn).flatMap AV.cells ++ (xs.drop hn).flatMap AV.cells := by rw [← List.flatMap_append, List.take_append_drop]
        rw [this, List.getElem?_append_left (List.getElem?_eq_some_iff.1 hk).1]
        exact hk
      by_cases hcl : cap = ln
      · rw [if_pos hcl]
        have h0 : (xs.take hn).drop ln = [] := List.eq_nil_of_length_eq_zero (by omega)
        have e0 : hn - ln = 0 := by omega
        rw [h0, e0]
        exact .sl sz' [] b off (cap - ln) (fun _ => undef) hb (by simp) (fun x hx => by cases hx) (fun k z hk => by simp at hk) (fun k z hk => by simp at hk)
      · rw [if_neg hcl]
        simp only [Option.map_some, Addr.add_lit]
        have := RF.sl (w := w) (fz := fz) sz' ((xs.take hn).drop ln) b (off + ln * sz') (cap - ln) (fun k => g (ln * sz' + k)) hb (by rw [hlen]; omega) hs'
          (fun k z hk => by rw [Nat.add_assoc]; exact hg _ z (hsub k z hk)) (fun k z hk => hgr _ z (hsub k z hk))
        rw [hlen] at this
        exact this
  | own sz' id off len cap =>
    simp only at h
    obtain ⟨rfl, h⟩ := h
    obtain ⟨b, p, cap', e', nn, hr, hc, hl, hshp, hnn, hv⟩ := h1.own'
    obtain ⟨mn, h, em⟩ := onLo_sound hmx hp hsm h
    obtain ⟨hn, h, eh⟩ := onLo_sound hhi hp hsh h
    obtain ⟨ln, h, el⟩ := onLo_sound hlo hp hsl h
    obtain ⟨g1, g2, g3, g4, hk⟩ := h
    -- the concrete bound of the capacity
    obtain ⟨mc, hmc, hmc1, hmc2⟩ : ∃ mc, ((mx = none ∧ mc = cap') ∨ ∃ (y : Operand) (k : IntKind) (q : Int), mx = some y ∧ a.eval y = .int k q ∧ 0 ≤ q ∧ mc = q.toNat) ∧ mn ≤ mc ∧ mc ≤ cap' := by
      rcases em with ⟨e1, e2⟩ | ⟨y, k, q, e1, e2, e3, e4⟩
      · exact ⟨cap', .inl ⟨e1, rfl⟩, by omega, Nat.le_refl _⟩
      · exact ⟨mn, .inr ⟨y, k, q, e1, e2, e3, e4⟩, Nat.le_refl _, by omega⟩
    refine res_value rfl hp.hr hp.ok (hrun (some ⟨b, p + off, none⟩) len cap' ln hn mc hv (run_bounds hmc eh el hmc2 (by omega) g3 hmh w)) ?_ hk
    have hbase : (if mc = ln then some (⟨b, p + off, none⟩ : Addr) else (some (⟨b, p + off, none⟩ : Addr)).map (·.add (ln * sz'))) = some ⟨b, p + (off + ln * sz'), none⟩ := by
      rcases g4 with rfl | hlt
      · simp [Addr.add_lit]
      · rw [if_neg (by omega)]
        simp [Addr.add_lit, Nat.add_assoc]
    rw [hbase]
    refine .own sz' id (off + ln * sz') (hn - ln) (mn - ln) b p (mc - ln) e' nn hr (by omega) (by omega) hshp ?_
    have : ln * sz' + (mc - ln) * sz' ≤ cap' * sz' := by rw [← Nat.add_mul]; exact Nat.mul_le_mul_right _ (by omega)
    omega
  | nils =>
    simp only at h
    obtain ⟨mn, h, em⟩ := onLo_sound hmx hp hsm h
    obtain ⟨hn, h, eh⟩ := onLo_sound hhi hp hsh h
    obtain ⟨ln, h, el⟩ := onLo_sound hlo hp hsl h
    obtain ⟨rfl, rfl, rfl, hk⟩ := h
    exact res_value rfl hp.hr hp.ok (hrun none 0 0 0 0 0 h1.nils (run_bounds em eh el (by simp) (by simp) (by simp) hmh w)) (.of _ _ .nils) hk
  | emp =>
    simp only at h
    obtain ⟨base, hv⟩ := h1.emp
    obtain ⟨mn, h, em⟩ := onLo_sound hmx hp hsm h
    obtain ⟨hn, h, eh⟩ := onLo_sound hhi hp hsh h
    obtain ⟨ln, h, el⟩ := onLo_sound hlo hp hsl h
    obtain ⟨rfl, rfl, rfl, hk⟩ := h
    exact res_value rfl hp.hr hp.ok (hrun base 0 0 0 0 0 hv (run_bounds em eh el (by simp) (by simp) (by simp) hmh w)) (.of _ _ (.emp _)) hk
  | _ => exact h.elim

end
end Go.Proofs.YtkjnjdcbnelceaaGreatDoor.KA
end

section
/- Soundness of the small code's operations, fifth part. Nothing here concerns a given program. -/
set_option linter.unusedVariables false
set_option linter.unusedSimpArgs false
set_option linter.unnecessarySimpa false
namespace Go.Proofs.YtkjnjdcbnelceaaGreatDoor.KA
open Go

section
variable {c : Ctx} {o : Oper} {a : Act} {w : World} {rho : Gh} {fz : Nat → Prop} {st : St} {K : St → Prop} {mu : Nat → Bool}

theorem run_bi {b : Builtin} {args : Array Operand} {ts : Array TypeId} (ho : o.op = .call { callee := .builtin b, args := args, argTypes := ts }) {v : Value} {w' : World}
    (h : (builtin b ts o.type (args.map fun | .const _ => true | _ => false) (args.map a.eval)).run c.P w = .ok (.value v) w') : (execOp a.eval o).run c.P w = .ok (.value v) w' := by
  simp only [execOp, ho, resolve, Sem.run_bind, Sem.run_pure, Result.andThen_ok, invoke]
  exact h

theorem s_lens {d : Nat} {x : Operand} {t : TypeId} {x' : O} (ho : o.op = .call { callee := .builtin .len, args := #[x], argTypes := #[t] }) (hu : c.P.underlying t = some .string) (hx : opO c.gt x = some x')
    (hp : Pre c w rho fz st) (hsx : Rd a w rho fz st x') (h : astep c (.lens d x') st K) : Res c o (.lens d x') a w rho fz st K := by
  have h1 := opO_sound hx hp.gl hsx
  simp only [astep, onStr] at h
  split at h
  · rename_i s hs
    rw [hs] at h1
    have hsz : (⟨⟨s⟩⟩ : ByteArray).size = s.length := rfl
    exact res_value rfl hp.hr hp.ok (run_bi ho (by simp [builtin, Builtin.len_, h1.str, run_underlying hu, goInt, hsz])) (.of _ _ (.int _ _)) h
  · exact h.elim

theorem s_len {d : Nat} {x : Operand} {t e : TypeId} {x' : O} (ho : o.op = .call { callee := .builtin .len, args := #[x], argTypes := #[t] }) (hu : c.P.underlying t = some (.slice e)) (hx : opO c.gt x = some x')
    (hp : Pre c w rho fz st) (hsx : Rd a w rho fz st x') (h : astep c (.len d x') st K) : Res c o (.len d x') a w rho fz st K := by
  have h1 := opO_sound hx hp.gl hsx
  have hsl : ∀ base n q, a.eval x = .slice base n q → (execOp a.eval o).run c.P w = .ok (.value (.int .i64 n)) w := by
    rintro base n q hv
    exact run_bi ho (by simp [builtin, Builtin.len_, hv, run_underlying hu, goInt])
  simp only [astep] at h
  generalize hz : st.ev x' = z at *
  cases z with
  | sl sz xs =>
    have h2 := h1.sl
    generalize hv : a.eval x = v at *
    cases h2 with
    | slnil => exact res_value rfl hp.hr hp.ok (hsl none 0 0 rfl) (.of _ _ (.int _ _)) h
    | sl _ _ b off cap g hb hc hs hg hgr => exact res_value rfl hp.hr hp.ok (hsl _ _ _ rfl) (.of _ _ (.int _ _)) h
  | own sz id off len cap =>
    obtain ⟨b, p, cap', e', nn, hr, hc, hl, hshp, hnn, hv⟩ := h1.own'
    exact res_value rfl hp.hr hp.ok (hsl _ _ _ hv) (.of _ _ (.int _ _)) h
  | nils => exact res_value rfl hp.hr hp.ok (hsl _ _ _ h1.nils) (.of _ _ (.int _ _)) h
  | emp =>
    obtain ⟨base, hv⟩ := h1.emp
    exact res_value rfl hp.hr hp.ok (hsl _ _ _ hv) (.of _ _ (.int _ _)) h
  | _ => exact h.elim

theorem s_cap {d : Nat} {x : Operand} {t e : TypeId} {x' : O} (ho : o.op = .call { callee := .builtin .cap, args := #[x], argTypes := #[t] }) (hu : c.P.underlying t = some (.slice e)) (hx : opO c.gt x = some x')
    (hp : Pre c w rho fz st) (hsx : Rd a w rho fz st x') (h : astep c (.cap d x') st K) : Res c o (.cap d x') a w rho fz st K := by
  have h1 := opO_sound hx hp.gl hsx
  have hsl : ∀ base n q, a.eval x = .slice base n q → (execOp a.eval o).run c.P w = .ok (.value (.int .i64 q)) w := by
    rintro base n q hv
    exact run_bi ho (by simp [builtin, Builtin.cap_, hv, run_underlying hu, goInt])
  simp only [astep] at h
  generalize hz : st.ev x' = z at *
  cases z with
  | nils => exact res_value rfl hp.hr hp.ok (hsl _ _ _ h1.nils) (.of _ _ (.int _ _)) h
  | emp =>
    obtain ⟨base, hv⟩ := h1.emp
    exact res_value rfl hp.hr hp.ok (hsl _ _ _ hv) (.of _ _ (.int _ _)) h
  | _ => exact h.elim

theorem s_max {d : Nat} {x y : Operand} {ts : Array TypeId} {x' y' : O} (ho : o.op = .call { callee := .builtin .max, args := #[x, y], argTypes := ts }) (hx : opO c.gt x = some x') (hy : opO c.gt y = some y')
    (hp : Pre c w rho fz st) (hsx : Rd a w rho fz st x') (hsy : Rd a w rho fz st y') (h : astep c (.max d x' y') st K) : Res c o (.max d x' y') a w rho fz st K := by
  have h1 := opO_sound hx hp.gl hsx
  have h2 := opO_sound hy hp.gl hsy
  simp only [astep, onInt] at h
  split at h
  · rename_i k n hn
    split at h
    · rename_i k' m hm
      rw [hn] at h1
      rw [hm] at h2
      exact res_value rfl hp.hr hp.ok (v := .int k (if m > n then m else n)) (run_bi ho (by simp [builtin, Builtin.max_, Builtin.max2, h1.int, h2.int])) (.of _ _ (.int _ _)) h
    · exact h.elim
  · exact h.elim

theorem s_min {d : Nat} {x y : Operand} {ts : Array TypeId} {x' y' : O} (ho : o.op = .call { callee := .builtin .min, args := #[x, y], argTypes := ts }) (hx : opO c.gt x = some x') (hy : opO c.gt y = some y')
    (hp : Pre c w rho fz st) (hsx : Rd a w rho fz st x') (hsy : Rd a w rho fz st y') (h : astep c (.min d x' y') st K) : Res c o (.min d x' y') a w rho fz st K := by
  have h1 := opO_sound hx hp.gl hsx
  have h2 := opO_sound hy hp.gl hsy
  simp only [astep, onInt] at h
  split at h
  · rename_i k n hn
    split at h
    · rename_i k' m hm
      rw [hn] at h1
      rw [hm] at h2
      exact res_value rfl hp.hr hp.ok (v := .int k (if m < n then m else n)) (run_bi ho (by simp [builtin, Builtin.min_, Builtin.min2, h1.int, h2.int])) (.of _ _ (.int _ _)) h
    · exact h.elim
  · exact h.elim

theorem s_ext {d : Nat} {x : Operand} {k : Nat} {x' : O} (ho : o.op = .extract x k) (hx : opO c.gt x = some x') (hp : Pre c w rho fz st) (hsx : Rd a w rho fz st x') (h : astep c (.ext d x' k) st K) : Res c o (.ext d x' k) a w rho fz st K := by
  have h1 := opO_sound hx hp.gl hsx
  simp only [astep] at h
  generalize hz : st.ev x' = z at *
  cases z with
  | tuple cs =>
    obtain ⟨y, hy, hk⟩ := h
    obtain ⟨vs, hv, hl, hc⟩ := h1.tuple'
    have hlt : k < vs.size := by have := (List.getElem?_eq_some_iff.1 hy).1; omega
    refine res_value rfl hp.hr hp.ok (v := vs.getD k undef) ?_ (hc k y hy) hk
    simp [execOp, ho, Instr.extract, hv, hlt]
  | _ => exact h.elim

theorem opOs_sound {gt : List (Nat × List AV)} (hg : Glob gt w fz) : ∀ {xs : List Operand} {ys : List O}, opOs gt xs = some ys → (∀ y ∈ ys, Rd a w rho fz st y) → xs.length = ys.length ∧ ∀ (i : Nat) (z : AV), (ys.map st.ev)[i]? = some z → RT w rho fz z ((xs.map a.eval).getD i undef)
  | [], ys, h, _ => by cases h; exact ⟨rfl, fun i z hz => by simp at hz⟩
  | x :: xs, ys, h, hs => by
    unfold opOs at h
    split at h
    · rename_i p m h1 h2
      cases h
      obtain ⟨g1, g2⟩ := opOs_sound hg h2 (fun y hy => hs y (by simp [hy]))
      refine ⟨by simp [g1], fun i z hz => ?_⟩
      cases i with
      | zero =>
        simp at hz
        subst hz
        simpa using opO_sound h1 hg (hs p (by simp))
      | succ i =>
        simp only [List.map_cons, List.getElem?_cons_succ] at hz
        simpa using g2 i z hz
    · cases h

theorem getD_map_array (xs : Array Operand) (i : Nat) (h : i < xs.size) : ((xs.map a.eval).getD i undef) = ((xs.toList.map a.eval).getD i undef) := by
  simp [h]

theorem s_mkfn {d : Nat} {f : FuncId} {first caps : Array Operand} {l : List O} (ho : o.op = .makeFunc (.func f) first caps) (hf : first.size = 0) (hx : opOs c.gt caps.toList = some l) (hp : Pre c w rho fz st) (hs : ∀ y ∈ l, Rd a w rho fz st y)
    (h : astep c (.mkfn d f l) st K) : Res c o (.mkfn d f l) a w rho fz st K := by
  obtain ⟨h1, h2⟩ := opOs_sound hp.gl hx hs
  have hf0 : first = #[] := Array.eq_empty_of_size_eq_zero hf
  subst hf0
  refine res_value rfl hp.hr hp.ok (v := .func (.func f) #[] (caps.map a.eval)) (by simp [execOp, ho, Instr.makeFunc]) (.fn _ _ _ (by simpa using h1) (fun i z hz => ?_)) h
  have := h2 i z hz
  have hlt : i < caps.size := by have := (List.getElem?_eq_some_iff.1 hz).1; simp at this h1; omega
  rw [getD_map_array caps i hlt]
  exact this

theorem s_iface {d : Nat} {t : TypeId} {x : Operand} {x' : O} {u : TypeDesc} (ho : o.op = .makeInterface t x) (hu : c.P.underlying t = some u) (hni : ∀ ms, u ≠ .interface ms) (hx : opO c.gt x = some x') (hp : Pre c w rho fz st) (hsx : Rd a w rho fz st x')
    (h : astep c (.iface d t x') st K) : Res c o (.iface d t x') a w rho fz st K := by
  have h1 := opO_sound hx hp.gl hsx
  refine res_value rfl hp.hr hp.ok (v := .iface t (a.eval x)) ?_ (.iface _ _ _ h1) h
  simp only [execOp, ho, Instr.makeInterface, Sem.run_bind, run_underlying hu, Result.andThen_ok]
  cases u <;> first | rfl | exact absurd rfl (hni _)

theorem s_nilchk {d : Nat} {x : Operand} {x' : O} (ho : o.op = .nilCheck x) (hx : opO c.gt x = some x') (hp : Pre c w rho fz st) (hsx : Rd a w rho fz st x') (h : astep c (.nilchk d x') st K) : Res c o (.nilchk d x') a w rho fz st K := by
  have h1 := opO_sound hx hp.gl hsx
  simp only [astep] at h
  generalize hz : st.ev x' = z at *
  cases z with
  | ref id off =>
    obtain ⟨b, p, hr, hv⟩ := h1.ref'
    exact res_value rfl hp.hr hp.ok (v := a.eval x) (by simp [execOp, ho, hv]) h1 h
  | tref T n id =>
    obtain ⟨b, hr, hsh, hv⟩ := h1.tref'
    exact res_value rfl hp.hr hp.ok (v := a.eval x) (by simp [execOp, ho, hv]) h1 h
  | fp cs =>
    obtain ⟨b, p, hv⟩ := h1.fp.fp_addr
    exact res_value rfl hp.hr hp.ok (v := a.eval x) (by simp [execOp, ho, hv]) h1 h
  | fn f cs =>
    obtain ⟨vs, hv, _⟩ := h1.fn'
    exact res_value rfl hp.hr hp.ok (v := a.eval x) (by simp [execOp, ho, hv]) h1 h
  | _ => exact h.elim

theorem eqin_slice {P : Program} {t e : TypeId} (d : Nat) (ht : P.underlying t = some (.slice e)) (base : Option Addr) (n q : Nat) (w : World) : (Op.equalIn (d + 1) t (.slice base n q) (.slice none 0 0)).run P w = .ok base.isNone w := by
  cases base <;> simp [Op.equalIn, run_underlying ht]
theorem eqin_func {P : Program} {t : TypeId} {p q : Array TypeId} {r : Bool} (d : Nat) (ht : P.underlying t = some (.func p q r)) (w : World) : (Op.equalIn (d + 1) t .nilFunc .nilFunc).run P w = .ok true w ∧ ∀ f x y, (Op.equalIn (d + 1) t (.func f x y) .nilFunc).run P w = .ok false w := by
  constructor
  · simp [Op.equalIn, run_underlying ht]
  · intro f x y; simp [Op.equalIn, run_underlying ht]
theorem eqin_iface {P : Program} {t : TypeId} {ms : Array (String × TypeId)} (d : Nat) (ht : P.underlying t = some (.interface ms)) (w : World) : (Op.equalIn (d + 1) t .nilIface .nilIface).run P w = .ok true w ∧ ∀ f x, (Op.equalIn (d + 1) t (.iface f x) .nilIface).run P w = .ok false w := by
  constructor
  · simp [Op.equalIn, run_underlying ht]
  · intro f x; simp [Op.equalIn, run_underlying ht]
theorem eqin_ptr {P : Program} {t e : TypeId} (d : Nat) (ht : P.underlying t = some (.pointer e)) (w : World) : (Op.equalIn (d + 1) t (.pointer none) (.pointer none)).run P w = .ok true w ∧ ∀ x, (Op.equalIn (d + 1) t (.pointer (some x)) (.pointer none)).run P w = .ok false w := by
  constructor
  · simp [Op.equalIn, run_underlying ht]
  · intro x; simp [Op.equalIn, run_underlying ht]

/-- A comparison with nil, by the value's own kind. -/
theorem s_eqn {d kd : Nat} {neg : Bool} {t u : TypeId} {x : Operand} {nl : Value} {x' : O} {ut : TypeDesc} (ho : o.op = .binOp (if neg then .neq else .eql) t x (.const nl) u) (ht : c.P.underlying t = some ut)
    (hk : (kd = 0 ∧ (∃ e, ut = .slice e) ∧ nl = .slice none 0 0) ∨ (kd = 1 ∧ (∃ p q r, ut = .func p q r) ∧ nl = .nilFunc) ∨ (kd = 2 ∧ (∃ m, ut = .interface m) ∧ nl = .nilIface) ∨ (kd = 3 ∧ (∃ e, ut = .pointer e) ∧ nl = .pointer none)) (hx : opO c.gt x = some x') (hp : Pre c w rho fz st)
    (hsx : Rd a w rho fz st x') (h : astep c (.eqn d neg kd x') st K) : Res c o (.eqn d neg kd x') a w rho fz st K := by
  have h1 := opO_sound hx hp.gl hsx
  -- what the comparison gives at each kind of value
  have fin : ∀ b : Bool, (Op.equalIn 10000 t (a.eval x) nl).run c.P w = .ok b w → (∀ cs, a.eval x ≠ .agg cs) → K (st.set d (.bool (if neg then !b else b))) → Res c o (.eqn d neg kd x') a w rho fz st K := by
    intro b hb hna hk'
    refine res_value rfl hp.hr hp.ok (v := .bool (if neg then !b else b)) ?_ (.of _ _ (.bool _)) hk'
    have hgd : ∀ op : BinOp, (eqGuard op t x (.const nl) (a.eval x) nl).run c.P w = .ok () w := by
      intro op
      generalize a.eval x = v at hna
      rcases hk with ⟨_, _, rfl⟩ | ⟨_, _, rfl⟩ | ⟨_, _, rfl⟩ | ⟨_, _, rfl⟩ <;> cases op <;> cases v <;> first | rfl | (simp only [eqGuard_nil_constR]; rfl) | exact absurd rfl (hna _)
    have hbin : ∀ v : Value, (∀ cs, v ≠ .agg cs) → binOp .eql t v nl = (do pure (.bool (← Op.equal t v nl)) : Sem Value) ∧ binOp .neq t v nl = (do pure (.bool (!(← Op.equal t v nl))) : Sem Value) := by
      intro v hv
      rcases hk with ⟨_, _, rfl⟩ | ⟨_, _, rfl⟩ | ⟨_, _, rfl⟩ | ⟨_, _, rfl⟩ <;> cases v <;> first | exact ⟨rfl, rfl⟩ | exact absurd rfl (hv _)
    obtain ⟨e1, e2⟩ := hbin (a.eval x) hna
    have hgd1 := hgd .eql
    have hgd2 := hgd .neq
    cases neg
    · simp only [Bool.false_eq_true, if_false] at ho
      simp only [execOp, ho]
      simp only [Sem.run_bind]
      show (((eqGuard .eql t x (.const nl) (a.eval x) nl).run c.P w).andThen fun _ w' => (binOp .eql t (a.eval x) nl).run c.P w').andThen _ = _
      rw [hgd1]
      simp only [Result.andThen_ok, e1, Sem.run_bind, Op.equal, Op.maxDepth, hb, Sem.run_pure]
      rfl
    · simp only [if_true] at ho
      simp only [execOp, ho]
      simp only [Sem.run_bind]
      show (((eqGuard .neq t x (.const nl) (a.eval x) nl).run c.P w).andThen fun _ w' => (binOp .neq t (a.eval x) nl).run c.P w').andThen _ = _
      rw [hgd2]
      simp only [Result.andThen_ok, e2, Sem.run_bind, Op.equal, Op.maxDepth, hb, Sem.run_pure]
      rfl
  simp only [astep] at h
  generalize hz : st.ev x' = z at *
  rcases hk with ⟨rfl, ⟨e, rfl⟩, rfl⟩ | ⟨rfl, ⟨p, q, r, rfl⟩, rfl⟩ | ⟨rfl, ⟨m, rfl⟩, rfl⟩ | ⟨rfl, ⟨e, rfl⟩, rfl⟩
  · have hsl : ∀ base n q, a.eval x = .slice base n q → (Op.equalIn 10000 t (a.eval x) (.slice none 0 0)).run c.P w = .ok base.isNone w := by
      intro base n q hv
      rw [hv]
      exact eqin_slice 9999 ht base n q w
    have hna : ∀ base n q, a.eval x = .slice base n q → ∀ cs, a.eval x ≠ .agg cs := fun base n q hv cs e => by rw [hv] at e; cases e
    cases z with
    | nils => exact fin true (hsl _ _ _ h1.nils) (hna _ _ _ h1.nils) h
    | emp =>
      obtain ⟨base, hv⟩ := h1.emp
      refine fin base.isNone (hsl _ _ _ hv) (hna _ _ _ hv) ?_
      cases base
      · exact h.1
      · exact h.2
    | sl sz xs =>
      have h2 := h1.sl
      generalize hv : a.eval x = v at *
      cases h2 with
      | slnil => exact fin true (hsl _ _ _ rfl) (hna _ _ _ rfl) (h.1 rfl)
      | sl _ _ b off cap g hb hc hs hg hgr => exact fin false (hsl _ _ _ rfl) (hna _ _ _ rfl) h.2
    | own sz id off len cap =>
      obtain ⟨b, p, cap', e', nn, hr, hc, hl, hshp, hnn, hv⟩ := h1.own'
      exact fin false (hsl _ _ _ hv) (hna _ _ _ hv) h
    | _ => exact h.elim
  · cases z with
    | nilf =>
      have hv : a.eval x = .nilFunc := by cases h1 with | of _ _ h1 => generalize a.eval x = v at *; cases h1; rfl
      exact fin true (by rw [hv]; exact (eqin_func 9999 ht w).1) (fun cs e => by rw [hv] at e; cases e) h
    | fn f cs =>
      obtain ⟨vs, hv, _⟩ := h1.fn'
      exact fin false (by rw [hv]; exact (eqin_func 9999 ht w).2 ..) (fun cs e => by rw [hv] at e; cases e) h
    | _ => exact h.elim
  · cases z with
    | nili =>
      have hv : a.eval x = .nilIface := by cases h1 with | of _ _ h1 => generalize a.eval x = v at *; cases h1; rfl
      exact fin true (by rw [hv]; exact (eqin_iface 9999 ht w).1) (fun cs e => by rw [hv] at e; cases e) h
    | iface t' y =>
      have hv : ∃ v, a.eval x = .iface t' v := by
        generalize a.eval x = v at *
        cases h1 with
        | of _ _ h1 => cases h1; exact ⟨_, rfl⟩
        | iface => exact ⟨_, rfl⟩
      obtain ⟨v, hv⟩ := hv
      exact fin false (by rw [hv]; exact (eqin_iface 9999 ht w).2 ..) (fun cs e => by rw [hv] at e; cases e) h
    | _ => exact h.elim
  · cases z with
    | nilp =>
      have hv : a.eval x = .pointer none := by cases h1 with | of _ _ h1 => generalize a.eval x = v at *; cases h1; rfl
      exact fin true (by rw [hv]; exact (eqin_ptr 9999 ht w).1) (fun cs e => by rw [hv] at e; cases e) h
    | fp cs =>
      obtain ⟨b, p, hv⟩ := h1.fp.fp_addr
      exact fin false (by rw [hv]; exact (eqin_ptr 9999 ht w).2 ..) (fun cs e => by rw [hv] at e; cases e) h
    | ref id off =>
      obtain ⟨b, p, hr, hv⟩ := h1.ref'
      exact fin false (by rw [hv]; exact (eqin_ptr 9999 ht w).2 ..) (fun cs e => by rw [hv] at e; cases e) h
    | tref T n id =>
      obtain ⟨b, hr, hsh, hv⟩ := h1.tref'
      exact fin false (by rw [hv]; exact (eqin_ptr 9999 ht w).2 ..) (fun cs e => by rw [hv] at e; cases e) h
    | _ => exact h.elim

end
end Go.Proofs.YtkjnjdcbnelceaaGreatDoor.KA
end

section
/- Soundness of the small code's operations, sixth part: equality of structs; building. Nothing here concerns a given program. -/
set_option maxHeartbeats 2000000
set_option linter.unusedVariables false
set_option linter.unusedSimpArgs false
set_option linter.unnecessarySimpa false
namespace Go.Proofs.YtkjnjdcbnelceaaGreatDoor.KA
open Go

theorem eqCells_len : ∀ {ls : List Leaf} {cs ds : List AV} {r : Bool}, eqCells ls cs ds = some r → cs.length = ls.length ∧ ds.length = ls.length
  | [], cs, ds, r, h => by
    cases cs <;> cases ds <;> simp [eqCells] at h ⊢
  | x :: ls, cs, ds, r, h => by
    unfold eqCells at h
    split at h
    · rename_i e1; cases e1
    · rename_i e1
      cases e1
      cases h2 : eqCells ls _ _ with
      | none => rw [h2] at h; cases h
      | some q => have := eqCells_len h2; simp [this]
    · rename_i e1
      cases e1
      split at h
      · cases h2 : eqCells ls _ _ with
        | none => rw [h2] at h; cases h
        | some q => have := eqCells_len h2; simp [this]
      · cases h
    · rename_i e1
      cases e1
      cases h2 : eqCells ls _ _ with
      | none => rw [h2] at h; cases h
      | some q => have := eqCells_len h2; simp [this]
    · cases h

theorem eqCells_append : ∀ {l m : List Leaf} {cs ds : List AV} {r : Bool}, eqCells (l ++ m) cs ds = some r →
    ∃ r1 r2, eqCells l (cs.take l.length) (ds.take l.length) = some r1 ∧ eqCells m (cs.drop l.length) (ds.drop l.length) = some r2 ∧ r = (r1 && r2)
  | [], m, cs, ds, r, h => ⟨true, r, by simp [eqCells], by simpa using h, by simp⟩
  | x :: l, m, cs, ds, r, h => by
    simp only [List.cons_append] at h
    unfold eqCells at h
    split at h
    · rename_i e1; cases e1
    · rename_i ls a l' b m' e1
      cases e1
      cases h2 : eqCells (l ++ m) l' m' with
      | none => rw [h2] at h; cases h
      | some q =>
        rw [h2] at h
        obtain ⟨r1, r2, g1, g2, g3⟩ := eqCells_append h2
        simp only [Option.map_some, Option.some.injEq] at h
        exact ⟨decide (a = b) && r1, r2, by simp [eqCells, g1], by simpa using g2, by rw [← h, g3, Bool.and_assoc]⟩
    · rename_i k ls k1 a l' k2 b m' e1
      cases e1
      split at h
      · rename_i hk
        cases h2 : eqCells (l ++ m) l' m' with
        | none => rw [h2] at h; cases h
        | some q =>
          rw [h2] at h
          obtain ⟨r1, r2, g1, g2, g3⟩ := eqCells_append h2
          simp only [Option.map_some, Option.some.injEq] at h
          exact ⟨decide (a = b) && r1, r2, by simp [eqCells, g1, hk], by simpa using g2, by rw [← h, g3, Bool.and_assoc]⟩
      · cases h
    · rename_i ls a l' b m' e1
      cases e1
      cases h2 : eqCells (l ++ m) l' m' with
      | none => rw [h2] at h; cases h
      | some q =>
        rw [h2] at h
        obtain ⟨r1, r2, g1, g2, g3⟩ := eqCells_append h2
        simp only [Option.map_some, Option.some.injEq] at h
        exact ⟨decide (a = b) && r1, r2, by simp [eqCells, g1], by simpa using g2, by rw [← h, g3, Bool.and_assoc]⟩
    · cases h

section
variable {P : Program} {w : World} {rho : Gh} {fz : Nat → Prop}

/-- The cells from place 'off' on read as 'cs'. -/
def At (w : World) (rho : Gh) (fz : Nat → Prop) (xs : Array Value) (off : Nat) (cs : List AV) : Prop := off + cs.length ≤ xs.size ∧ ∀ (j : Nat) (a : AV), cs[j]? = some a → RT w rho fz a (xs.getD (off + j) undef)

theorem At.take {xs : Array Value} {off : Nat} {cs : List AV} (h : At w rho fz xs off cs) (n : Nat) : At w rho fz xs off (cs.take n) :=
  ⟨by have := h.1; simp; omega, fun j a hj => by
    rw [List.getElem?_take] at hj
    split at hj
    · exact h.2 j a hj
    · cases hj⟩
theorem At.drop {xs : Array Value} {off : Nat} {cs : List AV} (h : At w rho fz xs off cs) (n : Nat) (hn : n ≤ cs.length) : At w rho fz xs (off + n) (cs.drop n) :=
  ⟨by have := h.1; simp; omega, fun j a hj => by
    rw [List.getElem?_drop] at hj
    rw [Nat.add_assoc]; exact h.2 _ a hj⟩
theorem At.extract {xs : Array Value} {off : Nat} {cs : List AV} (h : At w rho fz xs off cs) : At w rho fz (xs.extract off (off + cs.length)) 0 cs := by
  refine ⟨by have := h.1; simp; omega, fun j a hj => ?_⟩
  have hlt := (List.getElem?_eq_some_iff.1 hj).1
  have h1 := h.1
  have h3 : off + j < xs.size := by omega
  simpa [Array.getD_eq_getD_getElem?, h3, Array.getElem?_extract, hlt, show j < min (off + cs.length) xs.size - off by omega] using h.2 j a hj

mutual
theorem leaves_sound : ∀ (D : Nat) (t : TypeId) (ls : List Leaf), leaves P D t = some ls → ∀ (d : Nat), D ≤ d → ∀ (ag : Bool), aggT P t = some ag → sizeT P t = some ls.length → (ag = true ∨ ls.length = 1) →
    ∀ (off : Nat) (xs ys : Array Value) (cs ds : List AV) (r : Bool), eqCells ls cs ds = some r → At w rho fz xs off cs → At w rho fz ys off ds →
    ∃ x y, (part t xs off).run P w = .ok x w ∧ (part t ys off).run P w = .ok y w ∧ (Op.equalIn d t x y).run P w = .ok r w
  | 0, t, ls, h, _, _, _, _, _, _, _, _, _, _, _, _, _, _, _ => by simp [leaves] at h
  | D + 1, t, ls, h, d, hd, ag, hag, hsz, hone, off, xs, ys, cs, ds, r, he, hxs, hys => by
    obtain ⟨d, rfl⟩ : ∃ m, d = m + 1 := ⟨d - 1, by omega⟩
    obtain ⟨hl1, hl2⟩ := eqCells_len he
    unfold leaves at h
    split at h
    · rename_i hu
      cases h
      have hagf : ag = false := by simpa [aggT, hu] using hag
      subst hagf
      unfold eqCells at he
      split at he <;> first | (rename_i e1; cases e1; done) | skip
      · rename_i ls' a l b m e1
        cases e1
        cases l <;> cases m <;> simp [eqCells] at he
        have e2 := (hxs.2 0 _ rfl).str
        have e3 := (hys.2 0 _ rfl).str
        have g1 := hxs.1
        have g2 := hys.1
        simp at g1 g2 e2 e3
        have g1' : off < xs.size := by omega
        have g2' : off < ys.size := by omega
        simp [g1', g2'] at e2 e3
        refine ⟨.string ⟨⟨a⟩⟩, .string ⟨⟨b⟩⟩, by simp [part, run_isAgg hag, g1', e2], by simp [part, run_isAgg hag, g2', e3], ?_⟩
        rw [run_equalIn_string w d t _ _ hu]
        have ea : (⟨⟨a⟩⟩ : ByteArray).toList = a := ByteArray.toList_mk a
        have eb : (⟨⟨b⟩⟩ : ByteArray).toList = b := ByteArray.toList_mk b
        rw [ea, eb, bool_eq_decide, ← he]
      · cases he
    · rename_i k hu
      cases h
      have hagf : ag = false := by simpa [aggT, hu] using hag
      subst hagf
      unfold eqCells at he
      split at he <;> first | (rename_i e1; cases e1; done) | skip
      · rename_i k' ls' k1 a l k2 b m e1
        cases e1
        split at he
        · rename_i hkk
          obtain ⟨rfl, rfl⟩ := hkk
          cases l <;> cases m <;> simp [eqCells] at he
          have e2 := (hxs.2 0 _ rfl).int
          have e3 := (hys.2 0 _ rfl).int
          have g1 := hxs.1
          have g2 := hys.1
          simp at g1 g2 e2 e3
          have g1' : off < xs.size := by omega
          have g2' : off < ys.size := by omega
          simp [g1', g2'] at e2 e3
          refine ⟨.int k2 a, .int k2 b, by simp [part, run_isAgg hag, g1', e2], by simp [part, run_isAgg hag, g2', e3], ?_⟩
          rw [run_equalIn_int w d t k2 _ a b hu, bool_eq_decide, ← he]
        · cases he
      · cases he
    · rename_i hu
      cases h
      have hagf : ag = false := by simpa [aggT, hu] using hag
      subst hagf
      unfold eqCells at he
      split at he <;> first | (rename_i e1; cases e1; done) | skip
      · rename_i ls' a l b m e1
        cases e1
        cases l <;> cases m <;> simp [eqCells] at he
        have e2 := (hxs.2 0 _ rfl).bool
        have e3 := (hys.2 0 _ rfl).bool
        have g1 := hxs.1
        have g2 := hys.1
        simp at g1 g2 e2 e3
        have g1' : off < xs.size := by omega
        have g2' : off < ys.size := by omega
        simp [g1', g2'] at e2 e3
        refine ⟨.bool a, .bool b, by simp [part, run_isAgg hag, g1', e2], by simp [part, run_isAgg hag, g2', e3], ?_⟩
        rw [run_equalIn_bool' w d t a b hu, bool_eq_decide, ← he]
      · cases he
    · rename_i fs hu
      split at h
      · cases h
      · rename_i hst
        have hst' : P.stoodInHeld t = false := by simpa using hst
        have hagt : ag = true := by simpa [aggT, hu] using hag
        subst hagt
        have hfo : P.fieldsOf t = fs := by simp [Program.fieldsOf, hu]
        refine ⟨.agg (xs.extract off (off + ls.length)), .agg (ys.extract off (off + ls.length)), by simp [part, run_isAgg hag, run_sizeOf hsz], by simp [part, run_isAgg hag, run_sizeOf hsz], ?_⟩
        rw [run_equalIn_struct w d t _ _ (by rw [hfo]; exact hu) hst', hfo]
        have hx0 := hxs.extract
        have hy0 := hys.extract
        rw [hl1] at hx0
        rw [hl2] at hy0
        exact leavesF_sound D 0 fs.toList ls h d (by omega) _ _ cs ds r he hx0 hy0
    · cases h
theorem leavesF_sound : ∀ (D off : Nat) (fs : List Field) (ls : List Leaf), leavesF P D off fs = some ls → ∀ (d : Nat), D ≤ d → ∀ (xs ys : Array Value) (cs ds : List AV) (r : Bool), eqCells ls cs ds = some r → At w rho fz xs off cs → At w rho fz ys off ds →
    (Op.eqFields d xs ys fs).run P w = .ok r w
  | D, off, [], ls, h, d, _, xs, ys, cs, ds, r, he, _, _ => by
    simp [leavesF, leavesFs] at h
    subst h
    cases cs <;> cases ds <;> simp [eqCells] at he
    subst he
    simp [Op.eqFields]
  | D, off, f :: fs, ls, h, d, hd, xs, ys, cs, ds, r, he, hxs, hys => by
    rw [leavesF_cons] at h
    split at h
    · rename_i hf
      obtain ⟨rfl, hname⟩ := hf
      split at h
      · rename_i l ag hl hag
        split at h
        · rename_i s hs
          split at h
          · rename_i hcond
            obtain ⟨rfl, hone⟩ := hcond
            cases hrest : leavesF P D (f.offset + l.length) fs with
            | none => rw [hrest] at h; cases h
            | some m =>
              rw [hrest] at h
              simp only [Option.map_some, Option.some.injEq] at h
              subst h
              obtain ⟨r1, r2, e1, e2, rfl⟩ := eqCells_append he
              obtain ⟨hl1, hl2⟩ := eqCells_len he
              simp at hl1 hl2
              obtain ⟨x, y, p1, p2, p3⟩ := leaves_sound D f.type l hl d hd ag hag hs hone f.offset xs ys _ _ r1 e1 (hxs.take _) (hys.take _)
              have p4 := leavesF_sound D (f.offset + l.length) fs m hrest d hd xs ys _ _ r2 e2 (hxs.drop l.length (by omega)) (hys.drop l.length (by omega))
              simp only [Op.eqFields, hname, ne_eq, not_false_eq_true, if_true, Sem.run_bind, p1, p2, p3, Result.andThen_ok, Sem.run_ite, Sem.run_pure, p4]
              cases r1 <;> simp
          · cases h
        · cases h
      · cases h
    · cases h
end

end
end Go.Proofs.YtkjnjdcbnelceaaGreatDoor.KA
end

section
/- Soundness of the small code's operations, seventh part: building. Nothing here concerns a given program. -/
set_option linter.unusedVariables false
set_option linter.unusedSimpArgs false
set_option linter.unnecessarySimpa false
namespace Go.Proofs.YtkjnjdcbnelceaaGreatDoor.KA
open Go

section
variable {c : Ctx} {o : Oper} {a : Act} {w : World} {rho : Gh} {fz : Nat → Prop} {st : St} {K : St → Prop} {mu : Nat → Bool}

theorem s_eqs {d : Nat} {neg : Bool} {ls : List Leaf} {t u : TypeId} {x y : Operand} {fs : Array Field} {x' y' : O} (ho : o.op = .binOp (if neg then .neq else .eql) t x y u) (ht : c.P.underlying t = some (.struct fs)) (hls : leaves c.P 20 t = some ls)
    (hm : c.P.eqGuardType c.P.depth t = false) (hx : opO c.gt x = some x') (hy : opO c.gt y = some y') (hp : Pre c w rho fz st)
    (hsx : Rd a w rho fz st x') (hsy : Rd a w rho fz st y') (h : astep c (.eqs d neg ls x' y') st K) : Res c o (.eqs d neg ls x' y') a w rho fz st K := by
  have h1 := opO_sound hx hp.gl hsx
  have h2 := opO_sound hy hp.gl hsy
  simp only [astep] at h
  split at h
  case h_2 => exact h.elim
  rename_i cs ds ecs eds
  rw [ecs] at h1
  rw [eds] at h2
  obtain ⟨r, he, hk⟩ := h
  obtain ⟨vs, hv, hvl, hvc⟩ := h1.agg'
  obtain ⟨us, hu, hul, huc⟩ := h2.agg'
  have hfo : c.P.fieldsOf t = fs := by simp [Program.fieldsOf, ht]
  have hst : c.P.stoodInHeld t = false ∧ leavesF c.P 19 0 fs.toList = some ls := by
    unfold leaves at hls
    rw [ht] at hls
    simp only at hls
    split at hls
    · cases hls
    · rename_i g; exact ⟨by simpa using g, hls⟩
  have hrun : (Op.equalIn 10000 t (.agg vs) (.agg us)).run c.P w = .ok r w := by
    have e1 := run_equalIn_struct (P := c.P) w 9999 t vs us (by rw [hfo]; exact ht) hst.1
    have e2 := leavesF_sound (P := c.P) (w := w) (rho := rho) (fz := fz) 19 0 fs.toList ls hst.2 9999 (by omega) vs us cs ds r he ⟨by omega, fun j z hj => by simpa using hvc j z hj⟩ ⟨by omega, fun j z hj => by simpa using huc j z hj⟩
    rw [hfo, e2] at e1
    exact e1
  have hg := fun op : BinOp => run_eqGuard_agg (P := c.P) w op t x y vs us hm
  refine res_value rfl hp.hr hp.ok (v := .bool (if neg then !r else r)) ?_ (.of _ _ (.bool _)) hk
  cases neg
  · simp only [Bool.false_eq_true, if_false] at ho ⊢
    simp only [execOp, ho, hv, hu, Sem.run_bind, hg, Result.andThen_ok, run_eql_struct, hrun]
    rfl
  · simp only [if_true] at ho ⊢
    simp only [execOp, ho, hv, hu, Sem.run_bind, hg, Result.andThen_ok, run_neq_struct, hrun]
    rfl

/-! ### Building -/

theorem fold_set (off : Nat) : ∀ (vs : List Value) (k : Nat) (arr : Array Value), off + k + vs.length ≤ arr.size →
    (vs.zipIdx k).foldl (fun cs (p : Value × Nat) => cs.setIfInBounds (off + p.2) p.1) arr = (arr.toList.take (off + k) ++ vs ++ arr.toList.drop (off + k + vs.length)).toArray
  | [], k, arr, _ => by simp
  | v :: vs, k, arr, h => by
    simp only [List.zipIdx_cons, List.foldl_cons]
    rw [fold_set off vs (k + 1) _ (by simp at h ⊢; omega)]
    have e := list_seg_step arr.toList (off + k) v vs (by simp at h ⊢; omega)
    congr 1
    simpa [Array.toList_setIfInBounds, Nat.add_assoc] using e

/-- One part of a built value. -/
theorem fill_one {place : Nat → Option (Nat × Nat)} {arr : Array Value} {i off sz : Nat} {v : Value} {rest : List (Nat × Value)} (hpl : place i = some (off, sz)) (hs : v.cells.size = sz) (hle : off + sz ≤ arr.size) :
    Instr.fill place arr ((i, v) :: rest) = Instr.fill place ((arr.toList.take off ++ v.cells.toList ++ arr.toList.drop (off + v.cells.toList.length)).toArray) rest := by
  have h1 : (v.cells.zipIdx.foldl (fun cs (p : Value × Nat) => cs.setIfInBounds (off + p.2) p.1) arr) = (arr.toList.take off ++ v.cells.toList ++ arr.toList.drop (off + v.cells.toList.length)).toArray := by
    have := fold_set off v.cells.toList 0 arr (by simp; omega)
    rw [← Array.foldl_toList, Array.toList_zipIdx]
    simpa using this
  simp only [Instr.fill, hpl]
  rw [if_neg (by simp [hs]; omega)]
  rw [← h1]

theorem fill_sound (place : Nat → Option (Nat × Nat)) : ∀ (ps : List (Nat × Value)) (qs : List (Nat × Nat × AV)) (arr : Array Value) (z cs : List AV),
    ps.length = qs.length → (∀ (k : Nat) (p : Nat × Value) (q : Nat × Nat × AV), ps[k]? = some p → qs[k]? = some q → place p.1 = some (q.1, q.2.1) ∧ RT w rho fz q.2.2 p.2) →
    arr.size = z.length → (∀ (j : Nat) (x : AV), z[j]? = some x → RT w rho fz x (arr.getD j undef)) → buildCells z qs = some cs →
    ∃ arr', Instr.fill place arr ps = some arr' ∧ arr'.size = cs.length ∧ (∀ (j : Nat) (x : AV), cs[j]? = some x → RT w rho fz x (arr'.getD j undef))
  | [], qs, arr, z, cs, hl, _, hsz, hc, hb => by
    cases qs with
    | nil =>
      simp only [buildCells, Option.some.injEq] at hb
      subst hb
      exact ⟨arr, rfl, hsz, hc⟩
    | cons _ _ => cases hl
  | p :: ps, qs, arr, z, cs, hl, hpq, hsz, hc, hb => by
    cases qs with
    | nil => cases hl
    | cons q qs =>
      obtain ⟨i, v⟩ := p
      obtain ⟨off, sz, x⟩ := q
      obtain ⟨h1, h2⟩ := hpq 0 _ _ rfl rfl
      simp only at h1 h2
      simp only [buildCells] at hb
      split at hb
      · rename_i hcond
        obtain ⟨hpos, hel, hle⟩ := hcond
        have hlen := (isElem_iff.1 hel).1
        obtain ⟨e1, e2, e3⟩ := elem_cells hel h2
        rw [fill_one h1 (e2 hpos) (by omega)]
        have hvs : v.cells.toList.length = sz := by simpa using e2 hpos
        refine fill_sound place ps qs _ (splice z off x.cells) cs (by simpa using hl) (fun k p q hk hq => hpq (k + 1) p q (by simpa using hk) (by simpa using hq)) (by rw [spliced_size arr _ _ (by rw [hvs]; omega), splice_length (by omega)]; exact hsz) (fun j y hj => ?_) hb
        rw [splice_get (by omega)] at hj
        rw [spliced_get arr _ _ (by rw [hvs]; omega), hvs]
        split at hj
        · rw [if_pos (by omega)]
          have := e1 (j - off) y hj
          simpa [Array.getD_eq_getD_getElem?, List.getD_eq_getElem?_getD] using this
        · rw [if_neg (by omega)]
          exact hc j y hj
      · cases hb

theorem mapM_fields {P : Program} (fs : Array Field) (w : World) (hall : ∀ f ∈ fs, (sizeT P f.type).isSome = true) :
    (fs.mapM fun f => (do pure (f.offset, ← sizeOf f.type) : Sem (Nat × Nat))).run P w = .ok (fs.map fun f => (f.offset, (sizeT P f.type).getD 0)) w := by
  have key : ∀ (l : List Field), (∀ f ∈ l, (sizeT P f.type).isSome = true) → (l.mapM fun f => (do pure (f.offset, ← sizeOf f.type) : Sem (Nat × Nat))).run P w = .ok (l.map fun f => (f.offset, (sizeT P f.type).getD 0)) w := by
    intro l
    induction l with
    | nil => intro _; simp
    | cons f l ih =>
      intro h
      obtain ⟨s, hs⟩ := Option.isSome_iff_exists.1 (h f (by simp))
      simp only [List.mapM_cons, Sem.run_bind, run_sizeOf hs, Result.andThen_ok, Sem.run_pure, ih (fun g hg => h g (by simp [hg])), List.map_cons, hs, Option.getD_some]
  rw [Array.mapM_eq_mapM_toList]
  simp only [Sem.run_map, key fs.toList (fun f hf => hall f (by simpa using hf)), Result.andThen_ok]
  congr 1
  apply Array.ext'
  simp

theorem fieldParts_sound {gt : List (Nat × List AV)} {P : Program} (hg : Glob gt w fz) {fs : Array Field} : ∀ {ps : List (Nat × Operand)} {qs : List (Nat × Nat × O)}, fieldParts P gt fs ps = some qs → (∀ q ∈ qs, Rd a w rho fz st q.2.2) →
    ps.length = qs.length ∧ ∀ (k : Nat) (p : Nat × Operand) (q : Nat × Nat × O), ps[k]? = some p → qs[k]? = some q → (∃ f, fs[p.1]? = some f ∧ f.offset = q.1 ∧ sizeT P f.type = some q.2.1) ∧ RT w rho fz (st.ev q.2.2) (a.eval p.2)
  | [], qs, h, _ => by cases h; exact ⟨rfl, fun k p q hk => by simp at hk⟩
  | (i, x) :: ps, qs, h, hs => by
    unfold fieldParts at h
    split at h
    · rename_i f oo m h1 h2 h3
      split at h
      · rename_i s hs'
        cases h
        obtain ⟨g1, g2⟩ := fieldParts_sound hg h3 (fun q hq => hs q (by simp [hq]))
        refine ⟨by simp [g1], fun k p q hk hq => ?_⟩
        cases k with
        | zero =>
          simp at hk hq
          subst hk hq
          exact ⟨⟨f, h1, rfl, hs'⟩, opO_sound h2 hg (hs (f.offset, s, oo) (by simp))⟩
        | succ k => exact g2 k p q (by simpa using hk) (by simpa using hq)
      · cases h
    · cases h

theorem elemParts_sound {gt : List (Nat × List AV)} (hg : Glob gt w fz) {s : Nat} : ∀ {ps : List (Nat × Operand)} {qs : List (Nat × Nat × O)}, elemParts gt s ps = some qs → (∀ q ∈ qs, Rd a w rho fz st q.2.2) →
    ps.length = qs.length ∧ ∀ (k : Nat) (p : Nat × Operand) (q : Nat × Nat × O), ps[k]? = some p → qs[k]? = some q → (q.1 = p.1 * s ∧ q.2.1 = s) ∧ RT w rho fz (st.ev q.2.2) (a.eval p.2)
  | [], qs, h, _ => by cases h; exact ⟨rfl, fun k p q hk => by simp at hk⟩
  | (i, x) :: ps, qs, h, hs => by
    unfold elemParts at h
    split at h
    · rename_i oo m h2 h3
      cases h
      obtain ⟨g1, g2⟩ := elemParts_sound hg h3 (fun q hq => hs q (by simp [hq]))
      refine ⟨by simp [g1], fun k p q hk hq => ?_⟩
      cases k with
      | zero =>
        simp at hk hq
        subst hk hq
        exact ⟨⟨rfl, rfl⟩, opO_sound h2 hg (hs (i * s, s, oo) (by simp))⟩
      | succ k => exact g2 k p q (by simpa using hk) (by simpa using hq)
    · cases h

theorem build_parts {ps : List (Nat × Operand)} {qs : List (Nat × Nat × O)} (k : Nat) (p : Nat × Value) (q : Nat × Nat × AV) (hp : (ps.map fun p => (p.1, a.eval p.2))[k]? = some p) (hq : (qs.map fun q => (q.1, q.2.1, st.ev q.2.2))[k]? = some q) :
    ∃ p' q', ps[k]? = some p' ∧ qs[k]? = some q' ∧ p = (p'.1, a.eval p'.2) ∧ q = (q'.1, q'.2.1, st.ev q'.2.2) := by
  rw [List.getElem?_map] at hp hq
  cases h1 : ps[k]? with
  | none => rw [h1] at hp; cases hp
  | some p' =>
    cases h2 : qs[k]? with
    | none => rw [h2] at hq; cases hq
    | some q' =>
      rw [h1] at hp
      rw [h2] at hq
      cases hp
      cases hq
      exact ⟨p', q', rfl, rfl, rfl, rfl⟩

theorem s_build {d : Nat} {t : TypeId} {ps : Array (Nat × Operand)} {z : List AV} {fs : Array Field} {qs : List (Nat × Nat × O)} (ho : o.op = .build t ps) (hz : zeroAV c.P t = some z) (hu : c.P.underlying t = some (.struct fs)) (hall : ∀ f ∈ fs, (sizeT c.P f.type).isSome = true)
    (hq : fieldParts c.P c.gt fs ps.toList = some qs) (hp : Pre c w rho fz st) (hs : ∀ q ∈ qs, Rd a w rho fz st q.2.2) (h : astep c (.build d z qs) st K) : Res c o (.build d z qs) a w rho fz st K := by
  simp only [astep] at h
  obtain ⟨cs, hb, hk⟩ := h
  obtain ⟨i, v, hi, hv, hsz, hc, hpl⟩ := zeroAV_sound hz
  obtain ⟨g1, g2⟩ := fieldParts_sound hp.gl hq hs
  obtain ⟨arr', e1, e2, e3⟩ := fill_sound (w := w) (rho := rho) (fz := fz) ((fs.map fun f => (f.offset, (sizeT c.P f.type).getD 0))[·]?) (ps.toList.map fun p => (p.1, a.eval p.2)) (qs.map fun q => (q.1, q.2.1, st.ev q.2.2)) v.cells z cs (by simpa using g1)
    (fun k p q hk hq => by
      obtain ⟨p', q', h1, h2, rfl, rfl⟩ := build_parts k p q hk hq
      obtain ⟨⟨f, f1, f2, f3⟩, f4⟩ := g2 k p' q' h1 h2
      exact ⟨by simp [f1, f2, f3], f4⟩) hsz (fun j x hj => .of _ _ (hc w fz j x hj)) hb
  refine res_value rfl hp.hr hp.ok (v := .agg arr') ?_ (.agg _ _ e2 e3) hk
  have hmm := mapM_fields (P := c.P) fs w hall
  simp only [execOp, ho, Instr.build, Sem.run_bind, zeroValue, typeInfo, run_program, hi, hv, Result.andThen_ok, Sem.run_pure, run_underlying hu]
  rw [hmm]
  simp only [Result.andThen_ok, Array.toList_map]
  simp only [e1]
  rfl

theorem s_buildarr {d : Nat} {t e : TypeId} {n s : Nat} {ps : Array (Nat × Operand)} {z : List AV} {qs : List (Nat × Nat × O)} (ho : o.op = .build t ps) (hz : zeroAV c.P t = some z) (hu : c.P.underlying t = some (.array n e)) (hse : sizeT c.P e = some s)
    (hq : elemParts c.gt s ps.toList = some qs) (hp : Pre c w rho fz st) (hs : ∀ q ∈ qs, Rd a w rho fz st q.2.2) (h : astep c (.build d z qs) st K) : Res c o (.build d z qs) a w rho fz st K := by
  simp only [astep] at h
  obtain ⟨cs, hb, hk⟩ := h
  obtain ⟨i, v, hi, hv, hsz, hc, hpl⟩ := zeroAV_sound hz
  obtain ⟨g1, g2⟩ := elemParts_sound hp.gl hq hs
  obtain ⟨arr', e1, e2, e3⟩ := fill_sound (w := w) (rho := rho) (fz := fz) (fun i => some (i * s, s)) (ps.toList.map fun p => (p.1, a.eval p.2)) (qs.map fun q => (q.1, q.2.1, st.ev q.2.2)) v.cells z cs (by simpa using g1)
    (fun k p q hk hq => by
      obtain ⟨p', q', h1, h2, rfl, rfl⟩ := build_parts k p q hk hq
      obtain ⟨⟨f1, f2⟩, f4⟩ := g2 k p' q' h1 h2
      exact ⟨by simp [f1, f2], f4⟩) hsz (fun j x hj => .of _ _ (hc w fz j x hj)) hb
  refine res_value rfl hp.hr hp.ok (v := .agg arr') ?_ (.agg _ _ e2 e3) hk
  simp only [execOp, ho, Instr.build, Sem.run_bind, zeroValue, typeInfo, run_program, hi, hv, Result.andThen_ok, Sem.run_pure, run_underlying hu, run_sizeOf hse, Array.toList_map]
  simp only [e1]
  rfl

end
end Go.Proofs.YtkjnjdcbnelceaaGreatDoor.KA
end

section
/- Soundness of the small code's operations, eighth part: new slices; what is owned is shown. Nothing here concerns a given program. -/
set_option linter.unusedVariables false
set_option linter.unusedSimpArgs false
set_option linter.unnecessarySimpa false
namespace Go.Proofs.YtkjnjdcbnelceaaGreatDoor.KA
open Go

section
variable {c : Ctx} {o : Oper} {a : Act} {w : World} {rho : Gh} {fz : Nat → Prop} {st : St} {K : St → Prop} {mu : Nat → Bool}

theorem build_elems {sz : Nat} (hsz : 0 < sz) : ∀ (xs : List AV) (done : List AV) (k : Nat), (∀ x ∈ xs, x.isElem sz = true) → done.length = k * sz →
    buildCells (done ++ List.replicate (xs.length * sz) .undef) ((xs.zipIdx k).map fun p => (p.2 * sz, sz, p.1)) = some (done ++ xs.flatMap AV.cells)
  | [], done, k, _, _ => by simp [buildCells]
  | x :: xs, done, k, hs, hd => by
    have hx := hs x (by simp)
    have hxl := (isElem_iff.1 hx).1
    simp only [List.zipIdx_cons, List.map_cons, buildCells]
    rw [if_pos ⟨hsz, hx, by simp [Nat.add_mul]; omega⟩]
    have hsp : splice (done ++ List.replicate ((x :: xs).length * sz) AV.undef) (k * sz) x.cells = (done ++ x.cells) ++ List.replicate (xs.length * sz) AV.undef := by
      apply List.ext_getElem?
      intro j
      rw [splice_get (by simp [Nat.add_mul]; omega)]
      by_cases h1 : j < done.length
      · rw [if_neg (by omega), List.getElem?_append_left h1, List.append_assoc, List.getElem?_append_left h1]
      · by_cases h2 : j < k * sz + x.cells.length
        · rw [if_pos (by omega), List.append_assoc, List.getElem?_append_right (by omega), List.getElem?_append_left (by omega), hd]
        · rw [if_neg (by omega), List.getElem?_append_right (by omega), List.getElem?_append_right (by simp; omega)]
          simp only [List.getElem?_replicate, List.length_append, List.length_cons, Nat.add_mul]
          congr 1
          apply propext
          constructor <;> intro h <;> omega
    rw [hsp, build_elems hsz xs (done ++ x.cells) (k + 1) (fun y hy => hs y (by simp [hy])) (by simp [hd, hxl, Nat.add_mul])]
    simp

theorem fill_slice {sz n : Nat} (hsz : 0 < sz) (ps : List (Nat × Operand)) (hps : ps.map (·.1) = List.range n) (xs : List AV) (hs : ∀ x ∈ xs, x.isElem sz = true) (hl : xs.length = n)
    (hr : ∀ (i : Nat) (z : AV), xs[i]? = some z → RT w rho fz z (((ps.map (·.2)).map a.eval).getD i undef)) (arr : Array Value) (hsa : arr.size = n * sz) :
    ∃ arr', Instr.fill (fun i => some (i * sz, sz)) arr (ps.map fun p => (p.1, a.eval p.2)) = some arr' ∧ arr'.size = n * sz ∧ ∀ (j : Nat) (y : AV), (xs.flatMap AV.cells)[j]? = some y → RT w rho fz y (arr'.getD j undef) := by
  have hpl : ps.length = n := by have := congrArg List.length hps; simpa using this
  have hb := build_elems hsz xs [] 0 hs (by simp)
  obtain ⟨arr', e1, e2, e3⟩ := fill_sound (w := w) (rho := rho) (fz := fz) (fun i => some (i * sz, sz)) (ps.map fun p => (p.1, a.eval p.2)) ((xs.zipIdx 0).map fun p => (p.2 * sz, sz, p.1)) arr (List.replicate (xs.length * sz) .undef) (xs.flatMap AV.cells)
    (by simp [hpl, hl]) (fun k p q hk hq => by
      rw [List.getElem?_map] at hk hq
      cases h1 : ps[k]? with
      | none => rw [h1] at hk; cases hk
      | some p' =>
        cases h2 : (xs.zipIdx 0)[k]? with
        | none => rw [h2] at hq; cases hq
        | some q' =>
          rw [h1] at hk
          rw [h2] at hq
          cases hk
          cases hq
          have hq2 : xs[k]? = some q'.1 ∧ q'.2 = k := by
            rw [List.getElem?_zipIdx] at h2
            cases h3 : xs[k]? with
            | none => rw [h3] at h2; cases h2
            | some y => rw [h3] at h2; cases h2; simp
          have hp1 : p'.1 = k := by
            have h4 : (ps.map (·.1))[k]? = some p'.1 := by simp [h1]
            rw [hps] at h4
            have h5 := List.getElem?_eq_some_iff.1 h4
            obtain ⟨_, h6⟩ := h5
            simp at h6
            exact h6.symm
          refine ⟨by simp [hp1, hq2.2], ?_⟩
          have := hr k q'.1 hq2.1
          simpa [h1] using this)
    (by simp [hsa, hl]) (fun j x hj => by
      have : x = .undef := by
        rw [List.getElem?_replicate] at hj
        split at hj
        · cases hj; rfl
        · cases hj
      subst this
      exact .of _ _ (.undef _)) (by simpa using hb)
  exact ⟨arr', e1, by rw [e2, flat_length hs, hl], e3⟩

theorem s_bsl {d : Nat} {t e : TypeId} {n : Nat} {ps : Array (Nat × Operand)} {i : TypeInfo} {z : Value} {l : List O} {m : Bool} (ho : o.op = .buildSlice t n ps) (hu : c.P.underlying t = some (.slice e)) (hi : c.P.info? e = some i) (hz : i.zero = some z)
    (hps : ps.toList.map (·.1) = List.range n) (hn : n * i.size ≤ 2 ^ 24) (hzs : z.cells.size = i.size) (hpos : 0 < i.size) (hx : opOs c.gt (ps.toList.map (·.2)) = some l) (hp : Pre c w rho fz st) (hs : ∀ y ∈ l, Rd a w rho fz st y)
    (h : astep c (.bsl d i.size l m) st K) : Res c o (.bsl d i.size l m) a w rho fz st K := by
  obtain ⟨g1, g2⟩ := opOs_sound hp.gl hx hs
  have hpl : ps.toList.length = n := by have := congrArg List.length hps; simpa using this
  have hln : l.length = n := by simp at g1 hpl; omega
  have hrun : ∀ arr', Instr.fill (fun k => some (k * i.size, i.size)) ((Array.range (n * i.size)).map (fun k => (if n * i.size = 0 then #[] else z.cells)[k % (if n * i.size = 0 then #[] else z.cells).size]!)) (ps.toList.map fun p => (p.1, a.eval p.2)) = some arr' →
      (execOp a.eval o).run c.P w = .ok (.value (.slice (some ⟨w.heap.size, 0, none⟩) n n)) (w.alloc (.cells arr' e)) := by
    intro arr' hf
    have h24 : ¬ (n * i.size > 2 ^ 24) := by omega
    by_cases h0 : n * i.size = 0
    · have hf' : Instr.fill (fun k => some (k * i.size, i.size)) #[] (ps.toList.map fun p => (p.1, a.eval p.2)) = some arr' := by
        simpa [h0, Array.range_zero'] using hf
      simp [execOp, ho, Instr.buildSlice, run_underlying hu, sizeOf, typeInfo, hi, h0, newRow, Array.range_zero', hf']
    · simp only [h0, if_false] at hf
      simp [execOp, ho, Instr.buildSlice, run_underlying hu, sizeOf, typeInfo, hi, h0, zeroValue, hz, newRow, hf]
      omega
  obtain ⟨arr0, harr0, hsa⟩ : ∃ arr0, arr0 = ((Array.range (n * i.size)).map (fun k => (if n * i.size = 0 then #[] else z.cells)[k % (if n * i.size = 0 then #[] else z.cells).size]!)) ∧ arr0.size = n * i.size := ⟨_, rfl, by simp⟩
  rw [← harr0] at hrun
  have main : (∀ x ∈ l.map st.ev, x.isElem i.size = true) → ∃ arr', (execOp a.eval o).run c.P w = .ok (.value (.slice (some ⟨w.heap.size, 0, none⟩) n n)) (w.alloc (.cells arr' e)) ∧ arr'.size = n * i.size ∧ ∀ (j : Nat) (y : AV), ((l.map st.ev).flatMap AV.cells)[j]? = some y → RT w rho fz y (arr'.getD j undef) := by
    intro hel
    obtain ⟨arr', f1, f2, f3⟩ := fill_slice (w := w) (rho := rho) (fz := fz) (a := a) hpos ps.toList hps (l.map st.ev) hel (by simp [hln]) g2 arr0 hsa
    exact ⟨arr', hrun arr' f1, f2, f3⟩
  cases l with
  | nil =>
    simp only [astep] at h
    obtain ⟨arr', r1, r2, r3⟩ := main (fun x hx => by cases hx)
    have hn0 : n = 0 := by simpa using hln.symm
    subst hn0
    exact res_new_fz rfl hp r1 (.of _ _ (.emp _)) h
  | cons l0 ls =>
    have hlen : ((l0 :: ls).map st.ev).length = n := by simpa using hln
    have hall : ((l0 :: ls).map st.ev).all (AV.isElem i.size) = true → ∀ x ∈ (l0 :: ls).map st.ev, x.isElem i.size = true := fun hh x hx => List.all_eq_true.1 hh x hx
    cases m with
    | false =>
      simp only [astep] at h
      obtain ⟨hel, hpl', hk⟩ := h
      obtain ⟨arr', r1, r2, r3⟩ := main (hall hel)
      refine res_new_fz rfl hp r1 (.of _ _ ?_) hk
      have hfl := flat_length (hall hel)
      have := RF.sl (w := w.alloc (.cells arr' e)) (fz := fun b => fz b ∨ b = w.heap.size) i.size ((l0 :: ls).map st.ev) w.heap.size 0 n (fun k => arr'.getD k undef) (.inr rfl) (by rw [hlen]; exact Nat.le_refl _) (hall hel)
        (fun k y hk => by
          have hlt := (List.getElem?_eq_some_iff.1 hk).1
          rw [hfl, hlen] at hlt
          rw [Nat.zero_add, cell_new]
          simp [show k < arr'.size by omega])
        (fun k y hk => ((r3 k y hk).plain ?_).mono (fun b hb => heap_alloc_old w _ b (hp.ok b hb)) (fun _ => .inl))
      · rw [hlen] at this
        exact this
      · -- the element's cells are plain
        obtain ⟨el, hel1, hel2⟩ := List.mem_flatMap.1 (List.mem_of_getElem? hk)
        obtain ⟨q, hq⟩ := List.getElem?_of_mem hel1
        have hep := plainL_get hpl' hq
        obtain ⟨q2, hq2⟩ := List.getElem?_of_mem hel2
        cases el <;> simp only [AV.cells] at hq2 <;> first
          | (simp at hq2; done)
          | exact plainL_get (by simpa [AV.plain] using hep) hq2
          | (cases q2 with
             | zero => simp at hq2; subst hq2; exact hep
             | succ q2 => simp at hq2)
    | true =>
      simp only [astep] at h
      obtain ⟨hel, hk⟩ := h
      obtain ⟨arr', r1, r2, r3⟩ := main (hall hel)
      have hfl := flat_length (hall hel)
      refine res_new_own rfl hp r1 rfl (fun _ _ hx => hx) (by rw [hfl, hlen]; omega) r3 ?_ hk
      have h9 : (l0 :: ls).length = n := by simpa using hlen
      rw [h9]
      have := RT.own (w := w.alloc (.cells arr' e)) (rho := rhoNew rho st.h.length (w.heap.size, 0)) (fz := fz) i.size st.h.length 0 n n w.heap.size 0 n e arr'.size (by simp [rhoNew]) (Nat.le_refl _) (Nat.le_refl _) (shape_new w arr' e) (by omega)
      simpa using this

theorem flatten_get {z : List AV} : ∀ (n k : Nat), k < n * z.length → (List.replicate n z).flatten[k]? = z[k % z.length]?
  | 0, k, h => by omega
  | n + 1, k, h => by
    rw [List.replicate_succ, List.flatten_cons]
    by_cases hk : k < z.length
    · rw [List.getElem?_append_left hk, Nat.mod_eq_of_lt hk]
    · rw [List.getElem?_append_right (by omega), flatten_get n (k - z.length) (by rw [Nat.add_mul] at h; omega)]
      congr 1
      rw [← Nat.mod_eq_sub_mod (by omega)]

theorem s_mksl {d : Nat} {t e : TypeId} {x y : Operand} {i : TypeInfo} {z : List AV} {x' y' : O} (ho : o.op = .makeSlice t x y) (hu : c.P.underlying t = some (.slice e)) (hi : c.P.info? e = some i) (hz : zeroAV c.P e = some z) (hzl : z.length = i.size) (hpos : 0 < i.size)
    (hx : opO c.gt x = some x') (hy : opO c.gt y = some y') (hp : Pre c w rho fz st) (hsx : Rd a w rho fz st x') (hsy : Rd a w rho fz st y') (h : astep c (.mksl d i.size i.bytes z x' y') st K) : Res c o (.mksl d i.size i.bytes z x' y') a w rho fz st K := by
  have h1 := opO_sound hx hp.gl hsx
  have h2 := opO_sound hy hp.gl hsy
  simp only [astep, onInt] at h
  split at h
  · rename_i k n hn
    split at h
    · rename_i k' q hq
      rw [hn] at h1
      rw [hq] at h2
      obtain ⟨g0, g1, g2, g3, g4, hk⟩ := h
      obtain ⟨i', v, hi', hv, hsz, hc, hpl⟩ := zeroAV_sound hz
      rw [hi] at hi'
      cases hi'
      have hm := run_make (P := c.P) w t e i v hu hi hv k k' n q g0 g1 (by rw [Int.mul_comm]; omega) (by omega)
      have hsm : (madeCells v.cells (q.toNat * i.size)).size = q.toNat * i.size := size_madeCells _ _
      have hfl : (List.replicate q.toNat z).flatten.length = q.toNat * i.size := by simp [hzl]
      refine res_new_own (v := .slice (some ⟨w.heap.size, 0, none⟩) n.toNat q.toNat) rfl hp (by simp only [execOp, ho, h1.int, h2.int, Sem.run_bind, hm]; rfl) rfl (fun _ _ hx => hx) (by rw [hfl, hsm]; exact Nat.le_refl _) (fun j u hj => ?_) ?_ hk
      · have hlt := (List.getElem?_eq_some_iff.1 hj).1
        rw [hfl] at hlt
        rw [flatten_get _ _ (by rw [hzl]; exact hlt)] at hj
        have h3 := hc w fz _ u hj
        have h4 : j % v.cells.size < v.cells.size := Nat.mod_lt _ (by omega)
        have h5 : (madeCells v.cells (q.toNat * i.size)).getD j undef = v.cells.getD (j % z.length) undef := by
          simp only [madeCells, Array.getD_eq_getD_getElem?]
          rw [← hsz]
          simp [hlt, h4]
        rw [h5]
        exact .of _ _ h3
      · have := RT.own (w := w.alloc (.cells (madeCells v.cells (q.toNat * i.size)) e)) (rho := rhoNew rho st.h.length (w.heap.size, 0)) (fz := fz) i.size st.h.length 0 n.toNat q.toNat w.heap.size 0 q.toNat e _ (by simp [rhoNew]) (Nat.le_refl _) (by omega) (shape_new w _ e) (by rw [hsm]; omega)
        simpa using this
    · exact h.elim
  · exact h.elim

end
end Go.Proofs.YtkjnjdcbnelceaaGreatDoor.KA
end

section
/- What is owned is shown; appending; clearing. Nothing here concerns a given program. -/
set_option linter.unusedVariables false
set_option linter.unusedSimpArgs false
set_option linter.unnecessarySimpa false
namespace Go.Proofs.YtkjnjdcbnelceaaGreatDoor.KA
open Go

section
variable {c : Ctx} {o : Oper} {a : Act} {w : World} {rho : Gh} {fz : Nat → Prop} {st : St} {K : St → Prop} {mu : Nat → Bool}

theorem ShowsL.len {h : AHeap} : ∀ {l m : List AV}, ShowsL h l m → l.length = m.length
  | _, _, .nil => rfl
  | _, _, .cons a b l m ha hl => by simp [hl.len]

theorem showsL_of {h : AHeap} {W : World} {F : Nat → Prop} : ∀ {l m : List AV} (hl : ShowsL h l m) (g : Nat → Value) (hr : ∀ (i : Nat) (x : AV), l[i]? = some x → RT w rho fz x (g i))
    (ih : ∀ (i : Nat) (x y : AV), l[i]? = some x → m[i]? = some y → Shows h x y → RF W F y (g i)), ∀ (i : Nat) (y : AV), m[i]? = some y → RF W F y (g i)
  | _, _, .nil, g, hr, ih, i, y, hy => by simp at hy
  | _, _, .cons p q l m ha hl, g, hr, ih, 0, y, hy => by
    simp at hy
    subst hy
    exact ih 0 p q rfl rfl ha
  | _, _, .cons p q l m ha hl, g, hr, ih, i + 1, y, hy =>
    showsL_of hl (fun i => g (i + 1)) (fun i x hx => hr (i + 1) x (by simpa using hx)) (fun i x y hx hy hs => ih (i + 1) x y (by simpa using hx) (by simpa using hy) hs) i y (by simpa using hy)

/-- What is shown reads as it is shown, where the blocks of the heap count among those that nobody writes. -/
theorem shows_sound {h : AHeap} (hh : HR w rho fz h) {x y : AV} (hs : Shows h x y) : ∀ {v : Value}, RT w rho fz x v → RF w (fun b => fz b ∨ Owned rho h b) y v := by
  refine Shows.rec (motive_1 := fun x y _ => ∀ {v : Value}, RT w rho fz x v → RF w (fun b => fz b ∨ Owned rho h b) y v)
    (motive_2 := fun l m _ => ∀ (i : Nat) (y : AV), m[i]? = some y → ∃ x, l[i]? = some x ∧ ∀ {v : Value}, RT w rho fz x v → RF w (fun b => fz b ∨ Owned rho h b) y v)
    ?_ ?_ ?_ ?_ ?_ ?_ ?_ ?_ ?_ hs
  · intro a hp v hr
    exact (hr.plain hp).mono (fun _ _ => rfl) (fun _ => .inl)
  · intro sz v hr
    rw [hr.nils]
    exact .slnil sz
  · intro sz id off len cap cs xs hid hle hl hel hx ih v hr
    obtain ⟨b, p, cap', e, n, h1, h2, h3, h4, h5, rfl⟩ := hr.own'
    obtain ⟨b', p', arr, ty, g1, g2, g3, g4, g5⟩ := hh.cell id cs hid
    rw [h1] at g1
    cases g1
    subst hl
    have key : ∀ (k : Nat) (z : AV), (xs.flatMap AV.cells)[k]? = some z → ∃ x, cs[off + k]? = some x ∧ ∀ {v : Value}, RT w rho fz x v → RF w (fun b => fz b ∨ Owned rho h b) z v := by
      intro k z hk
      obtain ⟨x, hx1, hx2⟩ := ih k z hk
      rw [List.getElem?_take] at hx1
      split at hx1
      · rw [List.getElem?_drop] at hx1
        exact ⟨x, hx1, hx2⟩
      · cases hx1
    refine .sl sz xs b (p + off) cap' (fun k => arr.getD (p + (off + k)) undef) (.inr ⟨id, cs, p, hid, h1⟩) (by omega) hel (fun k z hk => ?_) (fun k z hk => ?_)
    · obtain ⟨x, hx1, _⟩ := key k z hk
      have hlt := (List.getElem?_eq_some_iff.1 hx1).1
      rw [cell_of_row w b _ arr ty _ g3, Nat.add_assoc]
      simp [show p + (off + k) < arr.size by omega]
    · obtain ⟨x, hx1, hx2⟩ := key k z hk
      exact hx2 (g5 _ x hx1)
  · intro id off cs ds n hid hd ih v hr
    obtain ⟨b, p, h1, rfl⟩ := hr.ref'
    obtain ⟨b', p', arr, ty, g1, g2, g3, g4, g5⟩ := hh.cell id cs hid
    rw [h1] at g1
    cases g1
    have key : ∀ (k : Nat) (z : AV), ds[k]? = some z → ∃ x, cs[off + k]? = some x ∧ ∀ {v : Value}, RT w rho fz x v → RF w (fun b => fz b ∨ Owned rho h b) z v := by
      intro k z hk
      obtain ⟨x, hx1, hx2⟩ := ih k z hk
      rw [List.getElem?_take] at hx1
      split at hx1
      · rw [List.getElem?_drop] at hx1
        exact ⟨x, hx1, hx2⟩
      · cases hx1
    refine .fp ds b (p + off) (fun k => arr.getD (p + (off + k)) undef) (.inr ⟨id, cs, p, hid, h1⟩) (fun k z hk => ?_) (fun k z hk => ?_)
    · obtain ⟨x, hx1, _⟩ := key k z hk
      have hlt := (List.getElem?_eq_some_iff.1 hx1).1
      rw [cell_of_row w b _ arr ty _ g3, Nat.add_assoc]
      simp [show p + (off + k) < arr.size by omega]
    · obtain ⟨x, hx1, hx2⟩ := key k z hk
      exact hx2 (g5 _ x hx1)
  · intro cs ds hc ih v hr
    obtain ⟨vs, rfl, hl, hv⟩ := hr.agg'
    exact .agg ds vs (by rw [hl, hc.len]) (fun i y hy => by obtain ⟨x, hx1, hx2⟩ := ih i y hy; exact hx2 (hv i x hx1))
  · intro cs ds hc ih v hr
    obtain ⟨vs, rfl, hl, hv⟩ := hr.tuple'
    exact .tuple ds vs (by rw [hl, hc.len]) (fun i y hy => by obtain ⟨x, hx1, hx2⟩ := ih i y hy; exact hx2 (hv i x hx1))
  · intro f cs ds hc ih v hr
    obtain ⟨vs, rfl, hl, hv⟩ := hr.fn'
    exact .fn f ds vs (by rw [hl, hc.len]) (fun i y hy => by obtain ⟨x, hx1, hx2⟩ := ih i y hy; exact hx2 (hv i x hx1))
  · intro i y hy
    simp at hy
  · intro p q l m ha hl ih1 ih2 i y hy
    cases i with
    | zero =>
      simp at hy
      subst hy
      exact ⟨p, rfl, ih1⟩
    | succ i =>
      obtain ⟨x, hx1, hx2⟩ := ih2 i y (by simpa using hy)
      exact ⟨x, by simpa using hx1, hx2⟩

theorem flatL_get {cs : List AV} {i : Nat} {a : AV} (h : AV.flatL cs = true) (hi : cs[i]? = some a) : a.flat = true := by
  induction cs generalizing i with
  | nil => simp at hi
  | cons b l ih =>
    simp [AV.flatL] at h
    cases i with
    | zero => simp at hi; subst hi; exact h.1
    | succ i => simp at hi; exact ih h.2 hi

theorem RF.ofFlat {w' : World} {fz' : Nat → Prop} {x : AV} {v : Value} (h : RF w fz x v) (hp : x.flat = true) : RF w' fz' x v := by
  induction h with
  | undef v => exact .undef v
  | int k n => exact .int k n
  | bool b => exact .bool b
  | str s => exact .str s
  | agg cs vs hl _ ih => exact .agg cs vs hl (fun i a hi => ih i a hi (flatL_get (by simpa [AV.flat] using hp) hi))
  | tuple cs vs hl _ ih => exact .tuple cs vs hl (fun i a hi => ih i a hi (flatL_get (by simpa [AV.flat] using hp) hi))
  | nils => exact .nils
  | emp base => exact .emp base
  | slnil sz => exact .slnil sz
  | sl => simp [AV.flat] at hp
  | fp => simp [AV.flat] at hp
  | nilp => exact .nilp
  | fn f cs vs hl _ ih => exact .fn f cs vs hl (fun i a hi => ih i a hi (flatL_get (by simpa [AV.flat] using hp) hi))
  | nilf => exact .nilf
  | nili => exact .nili
  | iface t a v _ ih => exact .iface t a v (ih (by simpa [AV.flat] using hp))

/-! ### An append in place -/

theorem good_place_own {h : AHeap} (hh : HR w rho fz h) (hf : FzOk w fz) {id : Nat} {cs : List AV} {b p : Nat} {arr : Array Value} {ty : TypeId} (hid : h[id]? = some (some cs)) (hr : rho id = some (b, p)) (hnf : ¬ fz b)
    (hb : w.heap[b]? = some (.cells arr ty (0, 0))) (arr' : Array Value) (hsz : arr'.size = arr.size) (q : Nat) (cs' : List AV) (hle : q + cs'.length ≤ arr.size) (hcs : ∀ j x, cs'[j]? = some x → RT w rho fz x (arr'.getD (q + j) undef)) :
    Good w rho fz h (w.setRow b arr') (rhoNew rho h.length (b, q)) fz (h.set id none ++ [some cs']) := by
  have hlt : id < h.length := (List.getElem?_eq_some_iff.1 hid).1
  have hmono : ∀ {x : AV} {v : Value}, RT w rho fz x v → RT (w.setRow b arr') (rhoNew rho h.length (b, q)) fz x v := fun hx =>
    hx.mono (fun k hk => setRow_other w b k arr' (fun e => hnf (e ▸ hk))) (fun _ hk => hk) (shape_setRow w b arr arr' ty _ hb hsz) (rhoNew_old hh)
  have key : ∀ (i : Nat) (ds : List AV), (h.set id none ++ [some cs'])[i]? = some (some ds) → (i = h.length ∧ ds = cs') ∨ (i < h.length ∧ i ≠ id ∧ h[i]? = some (some ds)) := by
    intro i ds hi
    rw [List.getElem?_append] at hi
    split at hi
    · rename_i h1
      by_cases e : i = id
      · subst e
        rw [List.getElem?_set_self (by simpa using h1)] at hi
        cases hi
      · rw [List.getElem?_set_ne (Ne.symm e)] at hi
        exact .inr ⟨by simpa using h1, e, hi⟩
    · rename_i h1
      simp at h1
      rcases Nat.lt_or_ge (i - h.length) 1 with h0 | h0
      · have e : i = h.length := by omega
        subst e
        simp at hi
        exact .inl ⟨rfl, hi.symm⟩
      · rw [List.getElem?_eq_none (by simpa using h0)] at hi; cases hi
  have old : ∀ i, i < h.length → rhoNew rho h.length (b, q) i = rho i := fun i hi => by unfold rhoNew; rw [if_neg (by omega)]
  have new : rhoNew rho h.length (b, q) h.length = some (b, q) := by simp [rhoNew]
  refine ⟨⟨fun i hi => ?_, fun i ds hi => ?_, fun i i' ds ds' k p1 p2 hd hd' h1 h2 => ?_⟩, fun k hk => by simpa using hf k hk, ⟨rfl, rfl, rfl, by simp, fun k hk hn => setRow_other w b k arr' (fun e => hn (e ▸ ⟨id, cs, p, hid, hr⟩)), shape_setRow w b arr arr' ty _ hb hsz, fun _ hk => hk, fun _ hk => .inl hk⟩,
    old, by simp, fun k hk => ?_⟩
  · simp at hi
    unfold rhoNew
    rw [if_neg (by omega)]
    exact hh.dom i (by omega)
  · rcases key i ds hi with ⟨rfl, rfl⟩ | ⟨h1, h2, h3⟩
    · exact ⟨b, q, arr', ty, new, hnf, setRow_heap w b arr arr' ty _ hb, by omega, fun j x hj => hmono (hcs j x hj)⟩
    · obtain ⟨k, p', arr2, ty2, g1, g2, g3, g4, g5⟩ := hh.cell i ds h3
      have hkb : k ≠ b := fun e => h2 (hh.inj i id ds cs k p' p h3 hid g1 (e ▸ hr))
      exact ⟨k, p', arr2, ty2, by rw [old i h1]; exact g1, g2, by rw [setRow_other w b k arr' hkb]; exact g3, g4, fun j x hj => hmono (g5 j x hj)⟩
  · rcases key i ds hd with ⟨rfl, rfl⟩ | ⟨a1, a2, a3⟩ <;> rcases key i' ds' hd' with ⟨rfl, rfl⟩ | ⟨b1, b2, b3⟩
    · rfl
    · rw [new] at h1
      cases h1
      rw [old i' b1] at h2
      exact absurd (hh.inj i' id ds' cs _ p2 p b3 hid h2 hr) b2
    · rw [new] at h2
      cases h2
      rw [old i a1] at h1
      exact absurd (hh.inj i id ds cs _ p1 p a3 hid h1 hr) a2
    · rw [old i a1] at h1
      rw [old i' b1] at h2
      exact hh.inj i i' ds ds' k p1 p2 a3 b3 h1 h2
  · obtain ⟨i, ds, p', hi, hri⟩ := hk
    rcases key i ds hi with ⟨rfl, rfl⟩ | ⟨a1, a2, a3⟩
    · rw [new] at hri
      cases hri
      exact .inl ⟨id, cs, p, hid, hr⟩
    · rw [old i a1] at hri
      exact .inl ⟨i, ds, p', a3, hri⟩

theorem good_place_fz {h : AHeap} (hh : HR w rho fz h) (hf : FzOk w fz) {id : Nat} {cs : List AV} {b p : Nat} {arr : Array Value} {ty : TypeId} (hid : h[id]? = some (some cs)) (hr : rho id = some (b, p)) (hnf : ¬ fz b)
    (hb : w.heap[b]? = some (.cells arr ty (0, 0))) (arr' : Array Value) (hsz : arr'.size = arr.size) :
    Good w rho fz h (w.setRow b arr') rho (fun k => fz k ∨ k = b) (h.set id none) := by
  have hlt : id < h.length := (List.getElem?_eq_some_iff.1 hid).1
  have hmono : ∀ {x : AV} {v : Value}, RT w rho fz x v → RT (w.setRow b arr') rho (fun k => fz k ∨ k = b) x v := fun hx =>
    hx.mono (fun k hk => setRow_other w b k arr' (fun e => hnf (e ▸ hk))) (fun _ hk => .inl hk) (shape_setRow w b arr arr' ty _ hb hsz) (fun _ _ hh => hh)
  have key : ∀ (i : Nat) (ds : List AV), (h.set id none)[i]? = some (some ds) → i ≠ id ∧ h[i]? = some (some ds) := by
    intro i ds hi
    by_cases e : i = id
    · subst e
      rw [List.getElem?_set_self hlt] at hi
      cases hi
    · rw [List.getElem?_set_ne (Ne.symm e)] at hi
      exact ⟨e, hi⟩
  refine ⟨⟨fun i hi => hh.dom i (by simpa using hi), fun i ds hi => ?_, fun i i' ds ds' k p1 p2 hd hd' h1 h2 => hh.inj i i' ds ds' k p1 p2 (key i ds hd).2 (key i' ds' hd').2 h1 h2⟩, fun k hk => ?_,
    ⟨rfl, rfl, rfl, by simp, fun k hk hn => setRow_other w b k arr' (fun e => hn (e ▸ ⟨id, cs, p, hid, hr⟩)), shape_setRow w b arr arr' ty _ hb hsz, fun _ hk => .inl hk, fun k hk => ?_⟩, fun _ _ => rfl, by simp, fun k hk => ?_⟩
  · obtain ⟨h2, h3⟩ := key i ds hi
    obtain ⟨k, p', arr2, ty2, g1, g2, g3, g4, g5⟩ := hh.cell i ds h3
    have hkb : k ≠ b := fun e => h2 (hh.inj i id ds cs k p' p h3 hid g1 (e ▸ hr))
    exact ⟨k, p', arr2, ty2, g1, fun hc => hc.elim g2 hkb, by rw [setRow_other w b k arr' hkb]; exact g3, g4, fun j x hj => hmono (g5 j x hj)⟩
  · rcases hk with hk | rfl
    · simpa using hf k hk
    · simpa using (Array.getElem?_eq_some_iff.1 hb).1
  · rcases hk with hk | rfl
    · exact .inl hk
    · exact .inr (.inl ⟨id, cs, p, hid, hr⟩)
  · obtain ⟨i, ds, p', hi, hri⟩ := hk
    exact .inl ⟨i, ds, p', (key i ds hi).2, hri⟩

/-- A heap of which something was given up. -/
theorem good_alloc_fz' {h : AHeap} (hh : HR w rho fz h) (hf : FzOk w fz) (h1 : AHeap) (hl1 : h1.length = h.length) (hsub : ∀ (id : Nat) (cs : List AV), h1[id]? = some (some cs) → h[id]? = some (some cs)) (o : Obj) : Good w rho fz h (w.alloc o) rho (fun b => fz b ∨ b = w.heap.size) h1 := by
  have g := good_alloc_fz hh hf o
  refine ⟨⟨fun id hid => hh.dom id (by omega), fun id cs hid => g.hr.cell id cs (hsub id cs hid), fun id id' cs cs' b o o' hd hd' h1 h2 => hh.inj id id' cs cs' b o o' (hsub _ _ hd) (hsub _ _ hd') h1 h2⟩, g.ok, g.pres, g.same, by omega, fun b hb => ?_⟩
  obtain ⟨id, cs, o, hid, hr⟩ := hb
  exact .inl ⟨id, cs, o, hsub id cs hid, hr⟩

end
end Go.Proofs.YtkjnjdcbnelceaaGreatDoor.KA
end
