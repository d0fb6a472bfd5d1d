/-
  Blocks of cells that are written and read whole or in part: the world behind a store under a new name, with what it holds. No program in it.
-/
import Derived.Test.YtmaadimodjnnlaaGreatDoorLib
import Derived.Deep.MidRow
namespace Go.Proofs.YtmaadimodjnnlaaGreatDoor
open Go.RowKit

theorem addr_zero (a : Addr) : a.add 0 = a := by unfold Addr.add; rw [if_pos rfl]

/-- The block g holds just these cells. -/
def At (w : World) (g : Nat) (t : TypeId) (cs : List Value) : Prop := w.heap[g]? = some (.cells cs.toArray t (0, 0))

section
variable {w w' : World} {g : Nat} {t : TypeId} {cs : List Value}
theorem At.cell (h : At w g t cs) (k : Nat) : w.cell? ⟨g, k, none⟩ = cs[k]? := by
  unfold At at h
  unfold World.cell?
  rw [h]
  simp
theorem At.frozen (h : At w g t cs) (k : Nat) : w.frozen? ⟨g, k, none⟩ = false := by
  unfold At at h
  unfold World.frozen?
  rw [h]
  simp
theorem At.lt (h : At w g t cs) : g < w.heap.size := (Array.getElem?_eq_some_iff.1 h).1
theorem At.kp {Q : Nat → Prop} (h : At w g t cs) (k : Kp Q w w') (hq : Q g) : At w' g t cs := (k.block g hq h.lt).trans h
theorem At.below (h : At w g t cs) (k : Below w.heap.size w w') : At w' g t cs := (k.block g h.lt).trans h
theorem At.alloc (h : At w g t cs) (o : Obj) : At (w.alloc o) g t cs := h.below ((Below.refl _ _).alloc (Nat.le_refl _) o)
theorem At.drew (h : At w g t cs) : At w.drew g t cs := h
theorem At.new (w : World) (t : TypeId) (cs : List Value) : At (w.alloc (.cells cs.toArray t)) w.heap.size t cs := heap_alloc_new w _
theorem At.new_ (w : World) (t : TypeId) (cs : List Value) {n : Nat} (h : n = w.heap.size) : At (w.alloc (.cells cs.toArray t)) n t cs := by subst h; exact heap_alloc_new w _
theorem At.setCell (h : At w g t cs) (i : Nat) (v : Value) : At (w.setCell ⟨g, i, none⟩ v) g t (cs.set i v) := by
  have := heap_setCell_same w g i _ _ v h
  unfold At
  rw [this]
  simp
theorem At.setOther (h : At w g t cs) {g' : Nat} (i : Nat) (v : Value) (hne : g ≠ g') : At (w.setCell ⟨g', i, none⟩ v) g t cs :=
  (Below.heap_setCell _ _ _ _ hne).trans h
end

theorem Kp.setRow {P : Nat → Prop} {a b : World} (h : Kp P a b) {g : Nat} (hp : g < a.heap.size → ¬ P g) (cs : Array Value) : Kp P a (b.setRow g cs) :=
  ⟨h.os, h.tape, h.output, by rw [setRow_size]; exact h.size, fun i hi hlt => (setRow_other _ _ _ _ (fun e => by subst e; exact hp hlt hi)).trans (h.block i hi hlt)⟩

theorem run_storeVar_blk {P : Program} (w : World) (g off : Nat) (ty t : TypeId) (v : Value) (old : List Value) (hg : At w g t old) (hi : (P.info? ty).map (·.size) = some v.cells.size)
    (hsz : off + v.cells.size ≤ old.length) (h1 : v.cells.toList.all (·.oneCell') = true) :
    (storeVar ty ⟨g, off, none⟩ v).run P w = .ok () (w.setRow g (old.take off ++ v.cells.toList ++ old.drop (off + v.cells.size)).toArray) := by
  have := run_storeCells_at (P := P) g off t v.cells.toList 0 old.toArray w hg (by simpa using hsz) (fun v hv => (List.all_eq_true.1 h1) v hv)
  cases hq : P.info? ty with
  | none => simp [hq] at hi
  | some i =>
    have hs : v.cells.size = i.size := by simp [hq] at hi; omega
    simp only [Nat.add_zero, Array.length_toList] at this
    simp [storeVar, sizeOf, typeInfo, hq, hs]
    simpa [hs] using this

/-- A stop of the walk. -/
theorem wpList_hold {P : Program} {ops : Array Oper} {l : List Oper} {a : Act} {w : World} {Q : Exit → Act → World → Prop} (h : Hid (wpList P ops Q l a w)) : wpList P ops Q l a w := h.out

/-- A guard for an arm: the next operation is this store. -/
theorem wpList_isStore {P : Program} {ops : Array Oper} {rest : List Oper} {a : Act} {w : World} {Q : Exit → Act → World → Prop} {d : Option Tmp} {tp : TypeId} {pos : String} {af : Array Edge} {gd : Option (Tmp × Bool)} (ty : TypeId) (x y : Operand)
    (h : wpList P ops Q ({ dst := d, op := .store ty x y, type := tp, pos := pos, after := af, guard := gd } :: rest) a w) : wpList P ops Q ({ dst := d, op := .store ty x y, type := tp, pos := pos, after := af, guard := gd } :: rest) a w := h

/-- A guard for an arm: the next operation is a call of this builtin. -/
theorem wpList_isBuiltin {P : Program} {ops : Array Oper} {rest : List Oper} {a : Act} {w : World} {Q : Exit → Act → World → Prop} {d : Option Tmp} {tp : TypeId} {pos : String} {af : Array Edge} {gd : Option (Tmp × Bool)} {args : Array Operand} {tys : Array TypeId} (bi : Builtin)
    (h : wpList P ops Q ({ dst := d, op := .call { callee := .builtin bi, args := args, argTypes := tys }, type := tp, pos := pos, after := af, guard := gd } :: rest) a w) :
    wpList P ops Q ({ dst := d, op := .call { callee := .builtin bi, args := args, argTypes := tys }, type := tp, pos := pos, after := af, guard := gd } :: rest) a w := h

/-- A store into a block that is known: the world behind it under a name of its own. -/
theorem wpList_store_blk {P : Program} {ops : Array Oper} {rest : List Oper} {o : Oper} {a : Act} {w : World} {Q : Exit → Act → World → Prop} (hgd : o.guard = none) (ty : TypeId) (x y : Operand) (ho : o.op = .store ty x y)
    (g off : Nat) (v : Value) (hx : a.eval x = .pointer (some ⟨g, off, none⟩)) (hy : a.eval y = v) {t : TypeId} {old : List Value} (hg : At w g t old) (hi : (P.info? ty).map (·.size) = some v.cells.size)
    (hsz : off + v.cells.size ≤ old.length) (h1 : v.cells.toList.all (·.oneCell') = true)
    (h : ∀ w', At w' g t (old.take off ++ v.cells.toList ++ old.drop (off + v.cells.size)) → Kp (fun k => k ≠ g) w w' → w'.heap.size = w.heap.size → wpList P ops Q rest (a.put o.dst undef) w') : wpList P ops Q (o :: rest) a w :=
  wpList_plain hgd fun _ hK => by
    unfold Oper.wp execOp
    simp only [ho, hx, hy, Instr.storeAt, Instr.sureAddr, Sem.run_bind, Sem.run_pure, Result.andThen_ok, run_storeVar_blk w g off ty t v old hg hi hsz h1]
    exact hK _ _ (h _ (setRow_heap w g _ _ t (0, 0) hg) ((Kp.refl _ w).setRow (fun _ q => q rfl) _) (setRow_size _ _ _))
end Go.Proofs.YtmaadimodjnnlaaGreatDoor
