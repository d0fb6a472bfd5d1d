/-
  Region 9 of the tree's rename: the entries of two keys, in variables of their own, in whatever order.
-/
import Derived.Test.YtoacobcbloljkaaGreatDoorTreeD
namespace Go.Proofs.YtoacobcbloljkaaGreatDoor
open Go.RowKit

section
variable {P : Program} {o : Oper} {a : Act} {w : World} {K : Act → World → Prop} {Q : Exit → Act → World → Prop}
theorem oper_value {v : Value} {w' : World} (h : (execOp a.eval o).run P w = .ok (.value v) w') (hk : K (a.put o.dst v) w') : o.wp P a w K Q := by
  unfold Oper.wp
  rw [h]
  exact hk
theorem oper_move (x : Operand) (ho : o.op = .move x) (hk : K (a.put o.dst (a.eval x)) w) : o.wp P a w K Q := by
  refine oper_value (v := a.eval x) ?_ hk
  unfold execOp
  simp only [ho, Sem.run_pure]
theorem oper_enter {f : FuncId} {args : Array Value} (h : (execOp a.eval o).run P w = .ok (.enter f args) w) {R : Value → World → Prop} (hc : Calls P f args w fun e w' => ∃ v, e = .returned v ∧ R v w')
    (hk : ∀ v w', R v w' → K (a.put o.dst v) w') : o.wp P a w K Q := by
  unfold Oper.wp
  rw [h]
  refine Calls.mono hc ?_
  rintro e w' ⟨v, rfl, hr⟩
  exact hk v w' hr
theorem oper_store (ty : TypeId) (x y : Operand) (ho : o.op = .store ty x y)
    (g : Nat) (v : Value) (hx : a.eval x = .pointer (some ⟨g, 0, none⟩)) (hy : a.eval y = v) {t : TypeId} {old : List Value} (hg : At w g t old) (hi : (P.info? ty).map (·.size) = some v.cells.size)
    (hsz : v.cells.size = old.length) (h1 : v.cells.toList.all (·.oneCell') = true)
    (h : ∀ w', At w' g t v.cells.toList → Kp (fun k => k ≠ g) w w' → K (a.put o.dst undef) w') : o.wp P a w K Q := by
  unfold Oper.wp execOp
  simp only [ho, hx, hy, Instr.storeAt, Instr.sureAddr, Sem.run_bind, Sem.run_pure, Result.andThen_ok, run_storeVar_blk w g 0 ty t v old hg hi (by omega) h1]
  refine h _ ?_ ((Kp.refl _ w).setRow (fun _ q => q rfl) _)
  have e : List.take 0 old ++ v.cells.toList ++ List.drop (0 + v.cells.size) old = v.cells.toList := by
    rw [List.drop_of_length_le (by omega), List.take_zero, List.nil_append, List.append_nil]
  rw [e]
  exact setRow_heap w g _ _ t (0, 0) hg
theorem put_other {d : Option Tmp} {v : Value} {e : Tmp} (h : d ≠ some e) : (a.put d v).tmps.getD e undef = a.tmps.getD e undef := by
  cases d with
  | none => rfl
  | some d => exact put_ne (fun q => h (by rw [q]))
theorem put_defers {d : Option Tmp} {v : Value} : (a.put d v).defers = a.defers := by cases d <;> rfl
end

def kCells (k : Key) : List Value := [.int .i64 k.1, .string ⟨k.2.toArray⟩]

/-- The two keys of a rename in memory. -/
structure RK (w : World) (k1 k2 : Nat) (a b : Key) (W : World) : Prop where
  bl : Below w.heap.size w W
  A1 : At W k1 32 (kCells a)
  A2 : At W k2 32 (kCells b)
  h1 : w.heap.size ≤ k1
  h2 : w.heap.size ≤ k2
theorem RK.next {w W W' : World} {k1 k2 : Nat} {a b : Key} (H : RK w k1 k2 a b W) (hb : Below W.heap.size W W') : RK w k1 k2 a b W' :=
  ⟨H.bl.trans (hb.mono H.bl.size), H.A1.below hb, H.A2.below hb, H.h1, H.h2⟩
/-- The two entries too. -/
structure RX (w : World) (k1 k2 b1 b2 : Nat) (a b : Key) (x y : En) (W : World) : Prop where
  bl : Below w.heap.size w W
  A1 : At W k1 32 (kCells a)
  A2 : At W k2 32 (kCells b)
  A3 : At W b1 36 (cEn x)
  A4 : At W b2 36 (cEn y)
  h1 : w.heap.size ≤ k1
  h2 : w.heap.size ≤ k2
  h3 : w.heap.size ≤ b1
  h4 : w.heap.size ≤ b2

/-- A variable that was made in the region: whole, or still empty. -/
structure R9v (b0 : World) (a : Act) (W : World) (s : Tmp) (x : En) (done : Bool) : Prop where
  ex : ∃ b cs, a.tmps.getD s undef = .pointer (some ⟨b, 0, none⟩) ∧ b0.heap.size ≤ b ∧ At W b 36 cs ∧ cs.length = 7 ∧ (done = true → cs = cEn x)
theorem R9v.keep {b0 : World} {a a' : Act} {W W' : World} {s : Tmp} {x : En} {d : Bool} (h : R9v b0 a W s x d) (hs : a'.tmps.getD s undef = a.tmps.getD s undef) (hb : Below W.heap.size W W') : R9v b0 a' W' s x d := by
  obtain ⟨b, cs, h1, h2, h3, h4, h5⟩ := h.ex
  exact ⟨b, cs, hs.trans h1, h2, h3.below hb, h4, h5⟩

/-- What holds in region 9. -/
structure R9 (w b0 : World) (M : TM) (t : Tr.T) (k1 k2 : Nat) (ka kb : Key) (x y : En) (a0 : Act) (l : Array Bool) (a : Act) (W : World) : Prop where
  ls : l.size = 10
  sz : a.tmps.size = a0.tmps.size
  df : a.defers = a0.defers
  same : ∀ j, j ≠ 42 → j ≠ 43 → j ≠ 44 → j ≠ 45 → j ≠ 46 → j ≠ 47 → j ≠ 11 → j ≠ 12 → a.tmps.getD j undef = a0.tmps.getD j undef
  rk : RK w k1 k2 ka kb W
  tr : TreeAt W M t
  bs : b0.heap.size ≤ W.heap.size
  f0 : l.getD 0 false = true → a.tmps.getD 42 undef = .pointer (some ⟨M.t, 0, none⟩)
  f1 : l.getD 1 false = true → a.tmps.getD 43 undef = .agg (kCells ka).toArray
  f2 : l.getD 2 false = true → a.tmps.getD 44 undef = vEn x
  f3 : l.getD 3 false = true → a.tmps.getD 45 undef = .pointer (some ⟨M.t, 0, none⟩)
  f4 : l.getD 4 false = true → a.tmps.getD 46 undef = .agg (kCells kb).toArray
  f5 : l.getD 5 false = true → a.tmps.getD 47 undef = vEn y
  f6 : l.getD 6 false = true → R9v b0 a W 11 x (l.getD 8 false)
  f7 : l.getD 7 false = true → R9v b0 a W 12 y (l.getD 9 false)
  ne : l.getD 6 false = true → l.getD 7 false = true → a.tmps.getD 11 undef ≠ a.tmps.getD 12 undef
  o8 : l.getD 8 false = true → l.getD 6 false = true
  o9 : l.getD 9 false = true → l.getD 7 false = true

def ops9 : Array Oper := #[{ dst := some 42, op := Op.move (Operand.tmp 0), type := 53, pos := "apply.go:148", after := #[], guard := none },
        { dst := some 43, op := Op.load 32 (Operand.tmp 6), type := 32, pos := "apply.go:148", after := #[], guard := none },
        { dst := some 44, op := Op.call { callee := Callee.value (Operand.func 86), args := #[Operand.tmp 42, Operand.tmp 43], argTypes := #[53, 32] }, type := 36, pos := "apply.go:148",
          after := #[{ on := 0, ground := Ground.data }, { on := 1, ground := Ground.data }], guard := none },
        { dst := some 45, op := Op.move (Operand.tmp 0), type := 53, pos := "apply.go:148", after := #[], guard := none },
        { dst := some 46, op := Op.load 32 (Operand.tmp 7), type := 32, pos := "apply.go:148", after := #[], guard := none },
        { dst := some 47, op := Op.call { callee := Callee.value (Operand.func 86), args := #[Operand.tmp 45, Operand.tmp 46], argTypes := #[53, 32] }, type := 36, pos := "apply.go:148",
          after := #[{ on := 3, ground := Ground.data }, { on := 4, ground := Ground.data }, { on := 2, ground := Ground.chain }], guard := none },
        { dst := some 11, op := Op.alloc 36, type := 0, pos := "apply.go:148", after := #[], guard := none },
        { dst := some 12, op := Op.alloc 36, type := 0, pos := "apply.go:148", after := #[], guard := none },
        { dst := none, op := Op.store 36 (Operand.tmp 11) (Operand.tmp 44), type := 0, pos := "apply.go:148",
          after := #[{ on := 6, ground := Ground.data }, { on := 2, ground := Ground.data }, { on := 5, ground := Ground.chain }, { on := 0, ground := Ground.phase }, { on := 1, ground := Ground.phase }, { on := 2, ground := Ground.phase }, { on := 3, ground := Ground.textOnly Departure.lateStores }, { on := 4, ground := Ground.textOnly Departure.lateStores }, { on := 5, ground := Ground.textOnly Departure.lateStoresUnsure }, { on := 6, ground := Ground.phase }, { on := 7, ground := Ground.phase }], guard := none },
        { dst := none, op := Op.store 36 (Operand.tmp 12) (Operand.tmp 47), type := 0, pos := "apply.go:148",
          after := #[{ on := 7, ground := Ground.data }, { on := 5, ground := Ground.data }, { on := 8, ground := Ground.chain }, { on := 0, ground := Ground.phase }, { on := 1, ground := Ground.phase }, { on := 2, ground := Ground.phase }, { on := 3, ground := Ground.phase }, { on := 4, ground := Ground.phase }, { on := 5, ground := Ground.phase }, { on := 6, ground := Ground.phase }, { on := 7, ground := Ground.phase }, { on := 8, ground := Ground.phase }], guard := none }]

section
variable {w b0 : World} {M : TM} {t : Tr.T} {k1 k2 : Nat} {ka kb : Key} {x y : En} {a0 : Act} {l : Array Bool} {a : Act} {W W' : World}
theorem getD_set_self {l : Array Bool} {i : Nat} (hl : l.size = 10) (hi : i < 10) : (l.setIfInBounds i true).getD i false = true := by
  simp [Array.getD, hl, hi]
theorem R9.s0 (H : R9 w b0 M t k1 k2 ka kb x y a0 l a W) {v : Value} (hv : v = .pointer (some ⟨M.t, 0, none⟩)) (hs : 42 < a.tmps.size) : R9 w b0 M t k1 k2 ka kb x y a0 (l.setIfInBounds 0 true) (a.put (some 42) v) W := by
  have hsl : ∀ j, j ≠ 0 → (l.setIfInBounds 0 true).getD j false = l.getD j false := fun j q => getD_set_ne false (Ne.symm q)
  have hot : ∀ e, some e ≠ ((some 42) : Option Tmp) → (a.put (some 42) v).tmps.getD e undef = a.tmps.getD e undef := fun e q => put_other (Ne.symm q)
  refine ⟨by rw [Array.size_setIfInBounds]; exact H.ls, put_size.trans H.sz, put_defers.trans H.df, fun j h1 h2 h3 h4 h5 h6 h7 h8 => (hot j ?_).trans (H.same j h1 h2 h3 h4 h5 h6 h7 h8), H.rk, H.tr, H.bs, ?_, ?_, ?_, ?_, ?_, ?_, ?_, ?_, ?_, ?_, ?_⟩
  · intro q
    injection q with q
    exact h1 q
  · intro _
    exact by rw [put_same hs, hv]
  · intro h
    rw [hsl 1 (by decide)] at h
    exact (hot 43 (by decide)).trans (H.f1 h)
  · intro h
    rw [hsl 2 (by decide)] at h
    exact (hot 44 (by decide)).trans (H.f2 h)
  · intro h
    rw [hsl 3 (by decide)] at h
    exact (hot 45 (by decide)).trans (H.f3 h)
  · intro h
    rw [hsl 4 (by decide)] at h
    exact (hot 46 (by decide)).trans (H.f4 h)
  · intro h
    rw [hsl 5 (by decide)] at h
    exact (hot 47 (by decide)).trans (H.f5 h)
  · intro h
    rw [hsl 6 (by decide)] at h
    rw [hsl 8 (by decide)]
    exact (H.f6 h).keep (hot 11 (by decide)) (Below.refl _ _)
  · intro h
    rw [hsl 7 (by decide)] at h
    rw [hsl 9 (by decide)]
    exact (H.f7 h).keep (hot 12 (by decide)) (Below.refl _ _)
  · intro h h'
    rw [hsl 6 (by decide)] at h
    rw [hsl 7 (by decide)] at h'
    rw [hot 11 (by decide), hot 12 (by decide)]
    exact H.ne h h'
  · intro h
    rw [hsl 8 (by decide)] at h
    rw [hsl 6 (by decide)]
    exact H.o8 h
  · intro h
    rw [hsl 9 (by decide)] at h
    rw [hsl 7 (by decide)]
    exact H.o9 h
theorem R9.s1 (H : R9 w b0 M t k1 k2 ka kb x y a0 l a W) {v : Value} (hv : v = .agg (kCells ka).toArray) (hs : 43 < a.tmps.size) : R9 w b0 M t k1 k2 ka kb x y a0 (l.setIfInBounds 1 true) (a.put (some 43) v) W := by
  have hsl : ∀ j, j ≠ 1 → (l.setIfInBounds 1 true).getD j false = l.getD j false := fun j q => getD_set_ne false (Ne.symm q)
  have hot : ∀ e, some e ≠ ((some 43) : Option Tmp) → (a.put (some 43) v).tmps.getD e undef = a.tmps.getD e undef := fun e q => put_other (Ne.symm q)
  refine ⟨by rw [Array.size_setIfInBounds]; exact H.ls, put_size.trans H.sz, put_defers.trans H.df, fun j h1 h2 h3 h4 h5 h6 h7 h8 => (hot j ?_).trans (H.same j h1 h2 h3 h4 h5 h6 h7 h8), H.rk, H.tr, H.bs, ?_, ?_, ?_, ?_, ?_, ?_, ?_, ?_, ?_, ?_, ?_⟩
  · intro q
    injection q with q
    exact h2 q
  · intro h
    rw [hsl 0 (by decide)] at h
    exact (hot 42 (by decide)).trans (H.f0 h)
  · intro _
    exact by rw [put_same hs, hv]
  · intro h
    rw [hsl 2 (by decide)] at h
    exact (hot 44 (by decide)).trans (H.f2 h)
  · intro h
    rw [hsl 3 (by decide)] at h
    exact (hot 45 (by decide)).trans (H.f3 h)
  · intro h
    rw [hsl 4 (by decide)] at h
    exact (hot 46 (by decide)).trans (H.f4 h)
  · intro h
    rw [hsl 5 (by decide)] at h
    exact (hot 47 (by decide)).trans (H.f5 h)
  · intro h
    rw [hsl 6 (by decide)] at h
    rw [hsl 8 (by decide)]
    exact (H.f6 h).keep (hot 11 (by decide)) (Below.refl _ _)
  · intro h
    rw [hsl 7 (by decide)] at h
    rw [hsl 9 (by decide)]
    exact (H.f7 h).keep (hot 12 (by decide)) (Below.refl _ _)
  · intro h h'
    rw [hsl 6 (by decide)] at h
    rw [hsl 7 (by decide)] at h'
    rw [hot 11 (by decide), hot 12 (by decide)]
    exact H.ne h h'
  · intro h
    rw [hsl 8 (by decide)] at h
    rw [hsl 6 (by decide)]
    exact H.o8 h
  · intro h
    rw [hsl 9 (by decide)] at h
    rw [hsl 7 (by decide)]
    exact H.o9 h
theorem R9.s3 (H : R9 w b0 M t k1 k2 ka kb x y a0 l a W) {v : Value} (hv : v = .pointer (some ⟨M.t, 0, none⟩)) (hs : 45 < a.tmps.size) : R9 w b0 M t k1 k2 ka kb x y a0 (l.setIfInBounds 3 true) (a.put (some 45) v) W := by
  have hsl : ∀ j, j ≠ 3 → (l.setIfInBounds 3 true).getD j false = l.getD j false := fun j q => getD_set_ne false (Ne.symm q)
  have hot : ∀ e, some e ≠ ((some 45) : Option Tmp) → (a.put (some 45) v).tmps.getD e undef = a.tmps.getD e undef := fun e q => put_other (Ne.symm q)
  refine ⟨by rw [Array.size_setIfInBounds]; exact H.ls, put_size.trans H.sz, put_defers.trans H.df, fun j h1 h2 h3 h4 h5 h6 h7 h8 => (hot j ?_).trans (H.same j h1 h2 h3 h4 h5 h6 h7 h8), H.rk, H.tr, H.bs, ?_, ?_, ?_, ?_, ?_, ?_, ?_, ?_, ?_, ?_, ?_⟩
  · intro q
    injection q with q
    exact h4 q
  · intro h
    rw [hsl 0 (by decide)] at h
    exact (hot 42 (by decide)).trans (H.f0 h)
  · intro h
    rw [hsl 1 (by decide)] at h
    exact (hot 43 (by decide)).trans (H.f1 h)
  · intro h
    rw [hsl 2 (by decide)] at h
    exact (hot 44 (by decide)).trans (H.f2 h)
  · intro _
    exact by rw [put_same hs, hv]
  · intro h
    rw [hsl 4 (by decide)] at h
    exact (hot 46 (by decide)).trans (H.f4 h)
  · intro h
    rw [hsl 5 (by decide)] at h
    exact (hot 47 (by decide)).trans (H.f5 h)
  · intro h
    rw [hsl 6 (by decide)] at h
    rw [hsl 8 (by decide)]
    exact (H.f6 h).keep (hot 11 (by decide)) (Below.refl _ _)
  · intro h
    rw [hsl 7 (by decide)] at h
    rw [hsl 9 (by decide)]
    exact (H.f7 h).keep (hot 12 (by decide)) (Below.refl _ _)
  · intro h h'
    rw [hsl 6 (by decide)] at h
    rw [hsl 7 (by decide)] at h'
    rw [hot 11 (by decide), hot 12 (by decide)]
    exact H.ne h h'
  · intro h
    rw [hsl 8 (by decide)] at h
    rw [hsl 6 (by decide)]
    exact H.o8 h
  · intro h
    rw [hsl 9 (by decide)] at h
    rw [hsl 7 (by decide)]
    exact H.o9 h
theorem R9.s4 (H : R9 w b0 M t k1 k2 ka kb x y a0 l a W) {v : Value} (hv : v = .agg (kCells kb).toArray) (hs : 46 < a.tmps.size) : R9 w b0 M t k1 k2 ka kb x y a0 (l.setIfInBounds 4 true) (a.put (some 46) v) W := by
  have hsl : ∀ j, j ≠ 4 → (l.setIfInBounds 4 true).getD j false = l.getD j false := fun j q => getD_set_ne false (Ne.symm q)
  have hot : ∀ e, some e ≠ ((some 46) : Option Tmp) → (a.put (some 46) v).tmps.getD e undef = a.tmps.getD e undef := fun e q => put_other (Ne.symm q)
  refine ⟨by rw [Array.size_setIfInBounds]; exact H.ls, put_size.trans H.sz, put_defers.trans H.df, fun j h1 h2 h3 h4 h5 h6 h7 h8 => (hot j ?_).trans (H.same j h1 h2 h3 h4 h5 h6 h7 h8), H.rk, H.tr, H.bs, ?_, ?_, ?_, ?_, ?_, ?_, ?_, ?_, ?_, ?_, ?_⟩
  · intro q
    injection q with q
    exact h5 q
  · intro h
    rw [hsl 0 (by decide)] at h
    exact (hot 42 (by decide)).trans (H.f0 h)
  · intro h
    rw [hsl 1 (by decide)] at h
    exact (hot 43 (by decide)).trans (H.f1 h)
  · intro h
    rw [hsl 2 (by decide)] at h
    exact (hot 44 (by decide)).trans (H.f2 h)
  · intro h
    rw [hsl 3 (by decide)] at h
    exact (hot 45 (by decide)).trans (H.f3 h)
  · intro _
    exact by rw [put_same hs, hv]
  · intro h
    rw [hsl 5 (by decide)] at h
    exact (hot 47 (by decide)).trans (H.f5 h)
  · intro h
    rw [hsl 6 (by decide)] at h
    rw [hsl 8 (by decide)]
    exact (H.f6 h).keep (hot 11 (by decide)) (Below.refl _ _)
  · intro h
    rw [hsl 7 (by decide)] at h
    rw [hsl 9 (by decide)]
    exact (H.f7 h).keep (hot 12 (by decide)) (Below.refl _ _)
  · intro h h'
    rw [hsl 6 (by decide)] at h
    rw [hsl 7 (by decide)] at h'
    rw [hot 11 (by decide), hot 12 (by decide)]
    exact H.ne h h'
  · intro h
    rw [hsl 8 (by decide)] at h
    rw [hsl 6 (by decide)]
    exact H.o8 h
  · intro h
    rw [hsl 9 (by decide)] at h
    rw [hsl 7 (by decide)]
    exact H.o9 h
theorem R9.s2 (H : R9 w b0 M t k1 k2 ka kb x y a0 l a W) {v : Value} (hv : v = vEn x) (hs : 44 < a.tmps.size) (hb : Below W.heap.size W W') : R9 w b0 M t k1 k2 ka kb x y a0 (l.setIfInBounds 2 true) (a.put (some 44) v) W' := by
  have hsl : ∀ j, j ≠ 2 → (l.setIfInBounds 2 true).getD j false = l.getD j false := fun j q => getD_set_ne false (Ne.symm q)
  have hot : ∀ e, some e ≠ ((some 44) : Option Tmp) → (a.put (some 44) v).tmps.getD e undef = a.tmps.getD e undef := fun e q => put_other (Ne.symm q)
  refine ⟨by rw [Array.size_setIfInBounds]; exact H.ls, put_size.trans H.sz, put_defers.trans H.df, fun j h1 h2 h3 h4 h5 h6 h7 h8 => (hot j ?_).trans (H.same j h1 h2 h3 h4 h5 h6 h7 h8), H.rk.next hb, H.tr.below hb, Nat.le_trans H.bs hb.size, ?_, ?_, ?_, ?_, ?_, ?_, ?_, ?_, ?_, ?_, ?_⟩
  · intro q
    injection q with q
    exact h3 q
  · intro h
    rw [hsl 0 (by decide)] at h
    exact (hot 42 (by decide)).trans (H.f0 h)
  · intro h
    rw [hsl 1 (by decide)] at h
    exact (hot 43 (by decide)).trans (H.f1 h)
  · intro _
    exact by rw [put_same hs, hv]
  · intro h
    rw [hsl 3 (by decide)] at h
    exact (hot 45 (by decide)).trans (H.f3 h)
  · intro h
    rw [hsl 4 (by decide)] at h
    exact (hot 46 (by decide)).trans (H.f4 h)
  · intro h
    rw [hsl 5 (by decide)] at h
    exact (hot 47 (by decide)).trans (H.f5 h)
  · intro h
    rw [hsl 6 (by decide)] at h
    rw [hsl 8 (by decide)]
    exact (H.f6 h).keep (hot 11 (by decide)) hb
  · intro h
    rw [hsl 7 (by decide)] at h
    rw [hsl 9 (by decide)]
    exact (H.f7 h).keep (hot 12 (by decide)) hb
  · intro h h'
    rw [hsl 6 (by decide)] at h
    rw [hsl 7 (by decide)] at h'
    rw [hot 11 (by decide), hot 12 (by decide)]
    exact H.ne h h'
  · intro h
    rw [hsl 8 (by decide)] at h
    rw [hsl 6 (by decide)]
    exact H.o8 h
  · intro h
    rw [hsl 9 (by decide)] at h
    rw [hsl 7 (by decide)]
    exact H.o9 h
theorem R9.s5 (H : R9 w b0 M t k1 k2 ka kb x y a0 l a W) {v : Value} (hv : v = vEn y) (hs : 47 < a.tmps.size) (hb : Below W.heap.size W W') : R9 w b0 M t k1 k2 ka kb x y a0 (l.setIfInBounds 5 true) (a.put (some 47) v) W' := by
  have hsl : ∀ j, j ≠ 5 → (l.setIfInBounds 5 true).getD j false = l.getD j false := fun j q => getD_set_ne false (Ne.symm q)
  have hot : ∀ e, some e ≠ ((some 47) : Option Tmp) → (a.put (some 47) v).tmps.getD e undef = a.tmps.getD e undef := fun e q => put_other (Ne.symm q)
  refine ⟨by rw [Array.size_setIfInBounds]; exact H.ls, put_size.trans H.sz, put_defers.trans H.df, fun j h1 h2 h3 h4 h5 h6 h7 h8 => (hot j ?_).trans (H.same j h1 h2 h3 h4 h5 h6 h7 h8), H.rk.next hb, H.tr.below hb, Nat.le_trans H.bs hb.size, ?_, ?_, ?_, ?_, ?_, ?_, ?_, ?_, ?_, ?_, ?_⟩
  · intro q
    injection q with q
    exact h6 q
  · intro h
    rw [hsl 0 (by decide)] at h
    exact (hot 42 (by decide)).trans (H.f0 h)
  · intro h
    rw [hsl 1 (by decide)] at h
    exact (hot 43 (by decide)).trans (H.f1 h)
  · intro h
    rw [hsl 2 (by decide)] at h
    exact (hot 44 (by decide)).trans (H.f2 h)
  · intro h
    rw [hsl 3 (by decide)] at h
    exact (hot 45 (by decide)).trans (H.f3 h)
  · intro h
    rw [hsl 4 (by decide)] at h
    exact (hot 46 (by decide)).trans (H.f4 h)
  · intro _
    exact by rw [put_same hs, hv]
  · intro h
    rw [hsl 6 (by decide)] at h
    rw [hsl 8 (by decide)]
    exact (H.f6 h).keep (hot 11 (by decide)) hb
  · intro h
    rw [hsl 7 (by decide)] at h
    rw [hsl 9 (by decide)]
    exact (H.f7 h).keep (hot 12 (by decide)) hb
  · intro h h'
    rw [hsl 6 (by decide)] at h
    rw [hsl 7 (by decide)] at h'
    rw [hot 11 (by decide), hot 12 (by decide)]
    exact H.ne h h'
  · intro h
    rw [hsl 8 (by decide)] at h
    rw [hsl 6 (by decide)]
    exact H.o8 h
  · intro h
    rw [hsl 9 (by decide)] at h
    rw [hsl 7 (by decide)]
    exact H.o9 h
theorem R9.s6 (H : R9 w b0 M t k1 k2 ka kb x y a0 l a W) {v : Value} (hv : v = .pointer (some ⟨W.heap.size, 0, none⟩)) (hs : 11 < a.tmps.size) (hb : Below W.heap.size W W') {c0 c1 c2 c3 c4 c5 c6 : Value} (hA : At W' W.heap.size 36 [c0, c1, c2, c3, c4, c5, c6]) (hn : l.getD 8 false = true → False) : R9 w b0 M t k1 k2 ka kb x y a0 (l.setIfInBounds 6 true) (a.put (some 11) v) W' := by
  have hsl : ∀ j, j ≠ 6 → (l.setIfInBounds 6 true).getD j false = l.getD j false := fun j q => getD_set_ne false (Ne.symm q)
  have hot : ∀ e, some e ≠ ((some 11) : Option Tmp) → (a.put (some 11) v).tmps.getD e undef = a.tmps.getD e undef := fun e q => put_other (Ne.symm q)
  refine ⟨by rw [Array.size_setIfInBounds]; exact H.ls, put_size.trans H.sz, put_defers.trans H.df, fun j h1 h2 h3 h4 h5 h6 h7 h8 => (hot j ?_).trans (H.same j h1 h2 h3 h4 h5 h6 h7 h8), H.rk.next hb, H.tr.below hb, Nat.le_trans H.bs hb.size, ?_, ?_, ?_, ?_, ?_, ?_, ?_, ?_, ?_, ?_, ?_⟩
  · intro q
    injection q with q
    exact h7 q
  · intro h
    rw [hsl 0 (by decide)] at h
    exact (hot 42 (by decide)).trans (H.f0 h)
  · intro h
    rw [hsl 1 (by decide)] at h
    exact (hot 43 (by decide)).trans (H.f1 h)
  · intro h
    rw [hsl 2 (by decide)] at h
    exact (hot 44 (by decide)).trans (H.f2 h)
  · intro h
    rw [hsl 3 (by decide)] at h
    exact (hot 45 (by decide)).trans (H.f3 h)
  · intro h
    rw [hsl 4 (by decide)] at h
    exact (hot 46 (by decide)).trans (H.f4 h)
  · intro h
    rw [hsl 5 (by decide)] at h
    exact (hot 47 (by decide)).trans (H.f5 h)
  · intro _
    rw [hsl 8 (by decide)]
    exact ⟨W.heap.size, _, by rw [put_same hs, hv], H.bs, hA, by rfl, fun q => absurd (hn q) (by simp)⟩
  · intro h
    rw [hsl 7 (by decide)] at h
    rw [hsl 9 (by decide)]
    exact (H.f7 h).keep (hot 12 (by decide)) hb
  · intro _ h'
    rw [hsl 7 (by decide)] at h'
    rw [put_same hs, hot 12 (by decide), hv]
    obtain ⟨b, cs, e, _, hAt, _⟩ := (H.f7 h').ex
    rw [e]
    intro q
    have := hAt.lt
    injection q with q
    injection q with q
    injection q with q
    omega
  · intro _
    exact getD_set_self H.ls (by decide)
  · intro h
    rw [hsl 9 (by decide)] at h
    rw [hsl 7 (by decide)]
    exact H.o9 h
theorem R9.s7 (H : R9 w b0 M t k1 k2 ka kb x y a0 l a W) {v : Value} (hv : v = .pointer (some ⟨W.heap.size, 0, none⟩)) (hs : 12 < a.tmps.size) (hb : Below W.heap.size W W') {c0 c1 c2 c3 c4 c5 c6 : Value} (hA : At W' W.heap.size 36 [c0, c1, c2, c3, c4, c5, c6]) (hn : l.getD 9 false = true → False) : R9 w b0 M t k1 k2 ka kb x y a0 (l.setIfInBounds 7 true) (a.put (some 12) v) W' := by
  have hsl : ∀ j, j ≠ 7 → (l.setIfInBounds 7 true).getD j false = l.getD j false := fun j q => getD_set_ne false (Ne.symm q)
  have hot : ∀ e, some e ≠ ((some 12) : Option Tmp) → (a.put (some 12) v).tmps.getD e undef = a.tmps.getD e undef := fun e q => put_other (Ne.symm q)
  refine ⟨by rw [Array.size_setIfInBounds]; exact H.ls, put_size.trans H.sz, put_defers.trans H.df, fun j h1 h2 h3 h4 h5 h6 h7 h8 => (hot j ?_).trans (H.same j h1 h2 h3 h4 h5 h6 h7 h8), H.rk.next hb, H.tr.below hb, Nat.le_trans H.bs hb.size, ?_, ?_, ?_, ?_, ?_, ?_, ?_, ?_, ?_, ?_, ?_⟩
  · intro q
    injection q with q
    exact h8 q
  · intro h
    rw [hsl 0 (by decide)] at h
    exact (hot 42 (by decide)).trans (H.f0 h)
  · intro h
    rw [hsl 1 (by decide)] at h
    exact (hot 43 (by decide)).trans (H.f1 h)
  · intro h
    rw [hsl 2 (by decide)] at h
    exact (hot 44 (by decide)).trans (H.f2 h)
  · intro h
    rw [hsl 3 (by decide)] at h
    exact (hot 45 (by decide)).trans (H.f3 h)
  · intro h
    rw [hsl 4 (by decide)] at h
    exact (hot 46 (by decide)).trans (H.f4 h)
  · intro h
    rw [hsl 5 (by decide)] at h
    exact (hot 47 (by decide)).trans (H.f5 h)
  · intro h
    rw [hsl 6 (by decide)] at h
    rw [hsl 8 (by decide)]
    exact (H.f6 h).keep (hot 11 (by decide)) hb
  · intro _
    rw [hsl 9 (by decide)]
    exact ⟨W.heap.size, _, by rw [put_same hs, hv], H.bs, hA, by rfl, fun q => absurd (hn q) (by simp)⟩
  · intro h _
    rw [hsl 6 (by decide)] at h
    rw [put_same hs, hot 11 (by decide), hv]
    obtain ⟨b, cs, e, _, hAt, _⟩ := (H.f6 h).ex
    rw [e]
    intro q
    have := hAt.lt
    injection q with q
    injection q with q
    injection q with q
    omega
  · intro h
    rw [hsl 8 (by decide)] at h
    rw [hsl 6 (by decide)]
    exact H.o8 h
  · intro _
    exact getD_set_self H.ls (by decide)
theorem R9.s8 (H : R9 w b0 M t k1 k2 ka kb x y a0 l a W) {v : Value} {b : Nat} (hk : l.getD 6 false = true) (hbs : a.tmps.getD 11 undef = .pointer (some ⟨b, 0, none⟩)) (hb0 : b0.heap.size ≤ b) (hA : At W' b 36 (cEn x)) (hkp : Kp (fun k => k ≠ b) W W') (ho : ∀ k, M.own k → k < b0.heap.size) (h1 : k1 < b0.heap.size) (h2 : k2 < b0.heap.size) (hw : w.heap.size ≤ b0.heap.size) : R9 w b0 M t k1 k2 ka kb x y a0 (l.setIfInBounds 8 true) (a.put none v) W' := by
  have hsl : ∀ j, j ≠ 8 → (l.setIfInBounds 8 true).getD j false = l.getD j false := fun j q => getD_set_ne false (Ne.symm q)
  refine ⟨by rw [Array.size_setIfInBounds]; exact H.ls, H.sz, H.df, H.same, ⟨H.rk.bl.trans (hkp.to_below H.rk.bl.size (fun j hj => by omega)), H.rk.A1.kp hkp (by omega), H.rk.A2.kp hkp (by omega), H.rk.h1, H.rk.h2⟩, H.tr.kp hkp (fun j hj => by have := ho j hj; omega), Nat.le_trans H.bs hkp.size, ?_, ?_, ?_, ?_, ?_, ?_, ?_, ?_, ?_, ?_, ?_⟩
  · intro h
    rw [hsl 0 (by decide)] at h
    exact H.f0 h
  · intro h
    rw [hsl 1 (by decide)] at h
    exact H.f1 h
  · intro h
    rw [hsl 2 (by decide)] at h
    exact H.f2 h
  · intro h
    rw [hsl 3 (by decide)] at h
    exact H.f3 h
  · intro h
    rw [hsl 4 (by decide)] at h
    exact H.f4 h
  · intro h
    rw [hsl 5 (by decide)] at h
    exact H.f5 h
  · intro _
    exact ⟨b, _, hbs, hb0, hA, by rfl, fun _ => rfl⟩
  · intro h
    rw [hsl 7 (by decide)] at h
    rw [hsl 9 (by decide)]
    obtain ⟨b', cs, e1, e2, e3, e4, e5⟩ := (H.f7 h).ex
    refine ⟨b', cs, e1, e2, e3.kp hkp ?_, e4, e5⟩
    rintro rfl
    exact H.ne hk h (hbs.trans e1.symm)
  · intro h h'
    rw [hsl 6 (by decide)] at h
    rw [hsl 7 (by decide)] at h'
    exact H.ne h h'
  · intro _
    rw [hsl 6 (by decide)]
    exact hk
  · intro h
    rw [hsl 9 (by decide)] at h
    rw [hsl 7 (by decide)]
    exact H.o9 h
theorem R9.s9 (H : R9 w b0 M t k1 k2 ka kb x y a0 l a W) {v : Value} {b : Nat} (hk : l.getD 7 false = true) (hbs : a.tmps.getD 12 undef = .pointer (some ⟨b, 0, none⟩)) (hb0 : b0.heap.size ≤ b) (hA : At W' b 36 (cEn y)) (hkp : Kp (fun k => k ≠ b) W W') (ho : ∀ k, M.own k → k < b0.heap.size) (h1 : k1 < b0.heap.size) (h2 : k2 < b0.heap.size) (hw : w.heap.size ≤ b0.heap.size) : R9 w b0 M t k1 k2 ka kb x y a0 (l.setIfInBounds 9 true) (a.put none v) W' := by
  have hsl : ∀ j, j ≠ 9 → (l.setIfInBounds 9 true).getD j false = l.getD j false := fun j q => getD_set_ne false (Ne.symm q)
  refine ⟨by rw [Array.size_setIfInBounds]; exact H.ls, H.sz, H.df, H.same, ⟨H.rk.bl.trans (hkp.to_below H.rk.bl.size (fun j hj => by omega)), H.rk.A1.kp hkp (by omega), H.rk.A2.kp hkp (by omega), H.rk.h1, H.rk.h2⟩, H.tr.kp hkp (fun j hj => by have := ho j hj; omega), Nat.le_trans H.bs hkp.size, ?_, ?_, ?_, ?_, ?_, ?_, ?_, ?_, ?_, ?_, ?_⟩
  · intro h
    rw [hsl 0 (by decide)] at h
    exact H.f0 h
  · intro h
    rw [hsl 1 (by decide)] at h
    exact H.f1 h
  · intro h
    rw [hsl 2 (by decide)] at h
    exact H.f2 h
  · intro h
    rw [hsl 3 (by decide)] at h
    exact H.f3 h
  · intro h
    rw [hsl 4 (by decide)] at h
    exact H.f4 h
  · intro h
    rw [hsl 5 (by decide)] at h
    exact H.f5 h
  · intro h
    rw [hsl 6 (by decide)] at h
    rw [hsl 8 (by decide)]
    obtain ⟨b', cs, e1, e2, e3, e4, e5⟩ := (H.f6 h).ex
    refine ⟨b', cs, e1, e2, e3.kp hkp ?_, e4, e5⟩
    rintro rfl
    exact H.ne h hk (e1.trans hbs.symm)
  · intro _
    exact ⟨b, _, hbs, hb0, hA, by rfl, fun _ => rfl⟩
  · intro h h'
    rw [hsl 6 (by decide)] at h
    rw [hsl 7 (by decide)] at h'
    exact H.ne h h'
  · intro h
    rw [hsl 8 (by decide)] at h
    rw [hsl 6 (by decide)]
    exact H.o8 h
  · intro _
    rw [hsl 7 (by decide)]
    exact hk
end

theorem ready9 {l : Array Bool} {i : Nat} (h : i ∈ Region.ready .any ops9 l) : l.getD i true = false ∧ i < 10 := by
  obtain ⟨h0, o, ho, _⟩ := mem_ready.1 h
  exact ⟨h0, (Array.getElem?_eq_some_iff.1 ho).1⟩
theorem after9 {l : Array Bool} {i k : Nat} (h : i ∈ Region.ready .any ops9 l) (o : Oper) (ho : ops9[i]? = some o) (j : Nat) (e : Edge) (he : o.after[j]? = some e) (hb : Region.binds .any e = true) (hk : e.on = k) : l.getD k false = true := by
  obtain ⟨_, o', ho', hall⟩ := mem_ready.1 h
  rw [ho] at ho'
  injection ho' with ho'
  subst ho'
  rw [← hk]
  exact hall e (Array.mem_of_getElem? he) hb

theorem listed9 {l : Array Bool} {i : Nat} (hl : l.size = 10) (hi : i < 10) (h0 : l.getD i true = false) (h1 : l.getD i false = true) : False := by
  simp [Array.getD, hl, hi] at h0 h1
  rw [h0] at h1
  cases h1
theorem enter9 {b : Act} (W : World) {i j : Tmp} {d : Option Tmp} {tp : TypeId} {pos : String} {af : Array Edge} (u v : Value) (e0 : b.eval (.tmp i) = u) (e1 : b.eval (.tmp j) = v) :
    (execOp b.eval { dst := d, op := Op.call { callee := Callee.value (Operand.func 86), args := #[Operand.tmp i, Operand.tmp j], argTypes := #[53, 32] }, type := tp, pos := pos, after := af, guard := none }).run Tryz.prog W = .ok (.enter 86 #[u, v]) W := by
  have hen : Enters Tryz.prog 86 := enters_of Tryz.func86 (by kernel_rfl) rfl
  have ef : b.eval (.func 86) = .func (.func 86) #[] #[] := rfl
  simp [execOp, resolve, Deferred.ofValue, invoke, e0, e1, ef, hen _ _]
theorem alloc9 (W : World) (b : Act) {d : Option Tmp} {tp : TypeId} {pos : String} {af : Array Edge} :
    (execOp b.eval { dst := d, op := Op.alloc 36, type := tp, pos := pos, after := af, guard := none }).run Tryz.prog W = .ok (.value (.pointer (some ⟨W.heap.size, 0, none⟩))) (W.alloc (.cells #[.int .i64 0, .string ⟨#[]⟩, .bool false, .int .i64 0, .int .i64 0, .int .i64 0, .string ⟨#[]⟩] 36)) := by
  have hz : (zeroValue 36).run Tryz.prog W = .ok (.agg #[.int .i64 0, .string ⟨#[]⟩, .bool false, .int .i64 0, .int .i64 0, .int .i64 0, .string ⟨#[]⟩]) W := by kernel_rfl
  simp [execOp, Instr.alloc, hz, go_sem]
theorem act_ext {a b : Act} (hs : a.tmps.size = b.tmps.size) (hd : a.defers = b.defers) (h : ∀ j, a.tmps.getD j undef = b.tmps.getD j undef) : a = b := by
  obtain ⟨ta, da⟩ := a
  obtain ⟨tb, db⟩ := b
  simp only at hs hd h
  subst hd
  congr 1
  refine Array.ext hs fun i h1 h2 => ?_
  have := h i
  simpa [Array.getD, h1, h2] using this
theorem act9 {a b : Act} {v42 v43 v44 v45 v46 v47 v11 v12 : Value} (hs : b.tmps.size = a.tmps.size) (h48 : 48 ≤ a.tmps.size) (hd : b.defers = a.defers) (h42 : b.tmps.getD 42 undef = v42) (h43 : b.tmps.getD 43 undef = v43) (h44 : b.tmps.getD 44 undef = v44) (h45 : b.tmps.getD 45 undef = v45)
    (h46 : b.tmps.getD 46 undef = v46) (h47 : b.tmps.getD 47 undef = v47) (h11 : b.tmps.getD 11 undef = v11) (h12 : b.tmps.getD 12 undef = v12) (hx : ∀ j, j ≠ 42 → j ≠ 43 → j ≠ 44 → j ≠ 45 → j ≠ 46 → j ≠ 47 → j ≠ 11 → j ≠ 12 → b.tmps.getD j undef = a.tmps.getD j undef) :
    b = ((((((((a.put (some 42) v42).put (some 43) v43).put (some 44) v44).put (some 45) v45).put (some 46) v46).put (some 47) v47).put (some 11) v11).put (some 12) v12) := by
  refine act_ext ?_ ?_ fun j => ?_
  · simp only [put_size]
    exact hs
  · simp only [put_defers]
    exact hd
  · by_cases q12 : j = 12
    · subst q12
      refine h12.trans (put_same ?_).symm
      simp only [put_size]
      exact Nat.lt_of_lt_of_le (by decide) h48
    refine Eq.trans ?_ (put_ne (Ne.symm q12)).symm
    by_cases q11 : j = 11
    · subst q11
      refine h11.trans (put_same ?_).symm
      simp only [put_size]
      exact Nat.lt_of_lt_of_le (by decide) h48
    refine Eq.trans ?_ (put_ne (Ne.symm q11)).symm
    by_cases q47 : j = 47
    · subst q47
      refine h47.trans (put_same ?_).symm
      simp only [put_size]
      exact Nat.lt_of_lt_of_le (by decide) h48
    refine Eq.trans ?_ (put_ne (Ne.symm q47)).symm
    by_cases q46 : j = 46
    · subst q46
      refine h46.trans (put_same ?_).symm
      simp only [put_size]
      exact Nat.lt_of_lt_of_le (by decide) h48
    refine Eq.trans ?_ (put_ne (Ne.symm q46)).symm
    by_cases q45 : j = 45
    · subst q45
      refine h45.trans (put_same ?_).symm
      simp only [put_size]
      exact Nat.lt_of_lt_of_le (by decide) h48
    refine Eq.trans ?_ (put_ne (Ne.symm q45)).symm
    by_cases q44 : j = 44
    · subst q44
      refine h44.trans (put_same ?_).symm
      simp only [put_size]
      exact Nat.lt_of_lt_of_le (by decide) h48
    refine Eq.trans ?_ (put_ne (Ne.symm q44)).symm
    by_cases q43 : j = 43
    · subst q43
      refine h43.trans (put_same ?_).symm
      simp only [put_size]
      exact Nat.lt_of_lt_of_le (by decide) h48
    refine Eq.trans ?_ (put_ne (Ne.symm q43)).symm
    by_cases q42 : j = 42
    · subst q42
      refine h42.trans (put_same ?_).symm
      exact Nat.lt_of_lt_of_le (by decide) h48
    refine Eq.trans ?_ (put_ne (Ne.symm q42)).symm
    exact hx j q42 q43 q44 q45 q46 q47 q11 q12
theorem after_lt9 : ∀ (i : Nat) (o : Oper), ops9[i]? = some o → ∀ e ∈ o.after, e.on < i := by
  have h : (ops9.toList.zipIdx.all fun p => p.1.after.all fun e => decide (e.on < p.2)) = true := by kernel_rfl
  intro i o ho e he
  have hi := List.all_eq_true.1 h (o, i) (by
    rw [List.mk_mem_zipIdx_iff_getElem?]
    simpa using ho)
  simpa using (Array.all_eq_true'.1 hi) e he
theorem all9 {l : Array Bool} (hl : l.size = 10) (hr : Region.ready .any ops9 l = []) : ∀ i, i < 10 → l.getD i false = true := by
  intro i
  induction i using Nat.strongRecOn with
  | _ i ih =>
    intro hi
    have h0 : l.getD i false = l.getD i true := by simp [Array.getD, hl, hi]
    cases hq : l.getD i true with
    | true => rw [h0, hq]
    | false =>
      exfalso
      have hm : i ∈ Region.ready .any ops9 l := by
        have hlt : i < ops9.size := hi
        refine mem_ready.2 ⟨hq, ops9[i], Array.getElem?_eq_getElem hlt, fun e he _ => ?_⟩
        have := after_lt9 i _ (Array.getElem?_eq_getElem hlt) e he
        exact ih e.on this (by omega)
      rw [hr] at hm
      cases hm

set_option maxRecDepth 100000 in
set_option maxHeartbeats 1000000 in
theorem renRegion9 {Q : Exit → Act → World → Prop} (w wr : World) (M : TM) (t : Tr.T) (k1 k2 : Nat) (ka kb : Key) (x y : En) (a : Act)
    (hx : ∀ V, TreeAt V M t → Calls Tryz.prog 86 #[.pointer (some ⟨M.t, 0, none⟩), .agg (kCells ka).toArray] V fun r w' => r = .returned (vEn x) ∧ Below V.heap.size V w')
    (hy : ∀ V, TreeAt V M t → Calls Tryz.prog 86 #[.pointer (some ⟨M.t, 0, none⟩), .agg (kCells kb).toArray] V fun r w' => r = .returned (vEn y) ∧ Below V.heap.size V w')
    (hk : RK w k1 k2 ka kb wr) (ht : TreeAt wr M t) (hs : 48 ≤ a.tmps.size) (h0 : a.tmps.getD 0 undef = .pointer (some ⟨M.t, 0, none⟩)) (h6 : a.tmps.getD 6 undef = .pointer (some ⟨k1, 0, none⟩)) (h7 : a.tmps.getD 7 undef = .pointer (some ⟨k2, 0, none⟩))
    (hq : ∀ b1 b2 W, RX w k1 k2 b1 b2 ka kb x y W →
      Q .normal ((((((((a.put (some 42) (.pointer (some ⟨M.t, 0, none⟩))).put (some 43) (.agg (kCells ka).toArray)).put (some 44) (vEn x)).put (some 45) (.pointer (some ⟨M.t, 0, none⟩))).put (some 46) (.agg (kCells kb).toArray)).put (some 47) (vEn y)).put (some 11) (.pointer (some ⟨b1, 0, none⟩))).put (some 12) (.pointer (some ⟨b2, 0, none⟩))) W) :
    (Code.region 9 ops9 true).wp Tryz.prog Q a wr := by
  have hown : ∀ k, M.own k → k < wr.heap.size := fun k q => ht.F.own_lt q
  refine wp_region_inv (by kernel_rfl) (R9 w wr M t k1 k2 ka kb x y a) ?_ ?_ ?_
  · have hf : ∀ j, (Array.replicate ops9.size false).getD j false = true → False := fun j h => by
      simp only [Array.getD_eq_getD_getElem?, Array.getElem?_replicate] at h
      split at h <;> simp at h
    exact ⟨by simp [ops9], rfl, rfl, fun _ _ _ _ _ _ _ _ _ => rfl, hk.next (below_drew (Below.refl _ _)), ht.drew, Nat.le_refl _, fun h => (hf _ h).elim, fun h => (hf _ h).elim, fun h => (hf _ h).elim, fun h => (hf _ h).elim, fun h => (hf _ h).elim, fun h => (hf _ h).elim, fun h => (hf _ h).elim, fun h => (hf _ h).elim, fun h => (hf _ h).elim, fun h => (hf _ h).elim, fun h => (hf _ h).elim⟩
  · intro l i b W _ hi H
    obtain ⟨hr0, hi10⟩ := ready9 hi
    have hlen : ∀ s, s < 48 → s < b.tmps.size := fun s q => by rw [H.sz]; omega
    have hsame := H.same
    match i, hi10 with
    | 0, _ =>
      refine wpOp_of (o := (ops9)[0]) rfl rfl ?_
      exact oper_move (.tmp 0) rfl (H.s0 (by exact (hsame 0 (by decide) (by decide) (by decide) (by decide) (by decide) (by decide) (by decide) (by decide)).trans h0) (hlen 42 (by decide)))
    | 1, _ =>
      refine wpOp_of (o := (ops9)[1]) rfl rfl ?_
      exact wp_load_row 32 (.tmp 6) rfl k1 ((hsame 6 (by decide) (by decide) (by decide) (by decide) (by decide) (by decide) (by decide) (by decide)).trans h6) _ (kCells ka).toArray _ _ H.rk.A1 Tryz.underlying32 rfl (by kernel_rfl) (H.s1 rfl (hlen 43 (by decide)))
    | 2, _ =>
      have l0 := after9 hi _ rfl 0 { on := 0, ground := Ground.data } rfl rfl rfl
      have l1 := after9 hi _ rfl 1 { on := 1, ground := Ground.data } rfl rfl rfl
      refine wpOp_of (o := (ops9)[2]) rfl rfl ?_
      refine oper_enter (f := 86) (args := #[.pointer (some ⟨M.t, 0, none⟩), .agg (kCells ka).toArray]) (R := fun v w' => v = vEn x ∧ Below W.heap.size W w') ?_ ((hx W H.tr).mono ?_) ?_
      · have e0 : b.eval (.tmp 42) = .pointer (some ⟨M.t, 0, none⟩) := H.f0 l0
        have e1 : b.eval (.tmp 43) = .agg (kCells ka).toArray := H.f1 l1
        exact enter9 W _ _ e0 e1
      · rintro e w' ⟨rfl, hb⟩
        exact ⟨_, rfl, rfl, hb⟩
      · rintro v w' ⟨hv, hb⟩
        exact H.s2 hv (hlen 44 (by decide)) hb
    | 3, _ =>
      refine wpOp_of (o := (ops9)[3]) rfl rfl ?_
      exact oper_move (.tmp 0) rfl (H.s3 (by exact (hsame 0 (by decide) (by decide) (by decide) (by decide) (by decide) (by decide) (by decide) (by decide)).trans h0) (hlen 45 (by decide)))
    | 4, _ =>
      refine wpOp_of (o := (ops9)[4]) rfl rfl ?_
      exact wp_load_row 32 (.tmp 7) rfl k2 ((hsame 7 (by decide) (by decide) (by decide) (by decide) (by decide) (by decide) (by decide) (by decide)).trans h7) _ (kCells kb).toArray _ _ H.rk.A2 Tryz.underlying32 rfl (by kernel_rfl) (H.s4 rfl (hlen 46 (by decide)))
    | 5, _ =>
      have l0 := after9 hi _ rfl 0 { on := 3, ground := Ground.data } rfl rfl rfl
      have l1 := after9 hi _ rfl 1 { on := 4, ground := Ground.data } rfl rfl rfl
      refine wpOp_of (o := (ops9)[5]) rfl rfl ?_
      refine oper_enter (f := 86) (args := #[.pointer (some ⟨M.t, 0, none⟩), .agg (kCells kb).toArray]) (R := fun v w' => v = vEn y ∧ Below W.heap.size W w') ?_ ((hy W H.tr).mono ?_) ?_
      · have e0 : b.eval (.tmp 45) = .pointer (some ⟨M.t, 0, none⟩) := H.f3 l0
        have e1 : b.eval (.tmp 46) = .agg (kCells kb).toArray := H.f4 l1
        exact enter9 W _ _ e0 e1
      · rintro e w' ⟨rfl, hb⟩
        exact ⟨_, rfl, rfl, hb⟩
      · rintro v w' ⟨hv, hb⟩
        exact H.s5 hv (hlen 47 (by decide)) hb
    | 6, _ =>
      refine wpOp_of (o := (ops9)[6]) rfl rfl ?_
      refine oper_value (v := .pointer (some ⟨W.heap.size, 0, none⟩)) (w' := W.alloc (.cells #[.int .i64 0, .string ⟨#[]⟩, .bool false, .int .i64 0, .int .i64 0, .int .i64 0, .string ⟨#[]⟩] 36)) (alloc9 W _) (H.s6 rfl (hlen 11 (by decide)) ((Below.refl _ _).alloc (Nat.le_refl _) _) (At.new W 36 [.int .i64 0, .string ⟨#[]⟩, .bool false, .int .i64 0, .int .i64 0, .int .i64 0, .string ⟨#[]⟩]) (fun q => listed9 H.ls (by decide) hr0 (H.o8 q)))
    | 7, _ =>
      refine wpOp_of (o := (ops9)[7]) rfl rfl ?_
      refine oper_value (v := .pointer (some ⟨W.heap.size, 0, none⟩)) (w' := W.alloc (.cells #[.int .i64 0, .string ⟨#[]⟩, .bool false, .int .i64 0, .int .i64 0, .int .i64 0, .string ⟨#[]⟩] 36)) (alloc9 W _) (H.s7 rfl (hlen 12 (by decide)) ((Below.refl _ _).alloc (Nat.le_refl _) _) (At.new W 36 [.int .i64 0, .string ⟨#[]⟩, .bool false, .int .i64 0, .int .i64 0, .int .i64 0, .string ⟨#[]⟩]) (fun q => listed9 H.ls (by decide) hr0 (H.o9 q)))
    | 8, _ =>
      have l6 := after9 hi _ rfl 0 { on := 6, ground := Ground.data } rfl rfl rfl
      have l2 := after9 hi _ rfl 1 { on := 2, ground := Ground.data } rfl rfl rfl
      obtain ⟨g, cs, e1, e2, e3, e4, _⟩ := (H.f6 l6).ex
      refine wpOp_of (o := (ops9)[8]) rfl rfl ?_
      refine oper_store 36 (.tmp 11) (.tmp 44) rfl g (vEn x) e1 (H.f2 l2) e3 (by kernel_rfl) ?_ rfl ?_
      · rw [e4]; rfl
      · intro w' hA hkp
        exact H.s8 l6 e1 e2 hA hkp hown hk.A1.lt hk.A2.lt hk.bl.size
    | 9, _ =>
      have l6 := after9 hi _ rfl 0 { on := 7, ground := Ground.data } rfl rfl rfl
      have l2 := after9 hi _ rfl 1 { on := 5, ground := Ground.data } rfl rfl rfl
      obtain ⟨g, cs, e1, e2, e3, e4, _⟩ := (H.f7 l6).ex
      refine wpOp_of (o := (ops9)[9]) rfl rfl ?_
      refine oper_store 36 (.tmp 12) (.tmp 47) rfl g (vEn y) e1 (H.f5 l2) e3 (by kernel_rfl) ?_ rfl ?_
      · rw [e4]; rfl
      · intro w' hA hkp
        exact H.s9 l6 e1 e2 hA hkp hown hk.A1.lt hk.A2.lt hk.bl.size
  · intro l b W hnil H
    have hall := all9 H.ls hnil
    obtain ⟨b1, cs1, e1, e2, e3, _, e5⟩ := (H.f6 (hall 6 (by decide))).ex
    obtain ⟨b2, cs2, d1, d2, d3, _, d5⟩ := (H.f7 (hall 7 (by decide))).ex
    have c1 := e5 (hall 8 (by decide))
    have c2 := d5 (hall 9 (by decide))
    subst c1 c2
    have hb := act9 H.sz hs H.df (H.f0 (hall 0 (by decide))) (H.f1 (hall 1 (by decide))) (H.f2 (hall 2 (by decide))) (H.f3 (hall 3 (by decide))) (H.f4 (hall 4 (by decide))) (H.f5 (hall 5 (by decide))) e1 d1 H.same
    rw [hb]
    exact hq b1 b2 W ⟨H.rk.bl, H.rk.A1, H.rk.A2, e3, d3, H.rk.h1, H.rk.h2, Nat.le_trans hk.bl.size e2, Nat.le_trans hk.bl.size d2⟩
end Go.Proofs.YtoacobcbloljkaaGreatDoor
