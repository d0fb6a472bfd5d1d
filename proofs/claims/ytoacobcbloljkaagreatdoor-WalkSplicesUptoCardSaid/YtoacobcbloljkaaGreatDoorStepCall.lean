/-
  A law for the call of a Go function in a region that draws its order, as 'go_region_law' wants it. No program in it.
-/
import Derived.Test.YtoacobcbloljkaaGreatDoorLow
import Derived.Shelf.Abstract
namespace Go.Proofs.YtoacobcbloljkaaGreatDoor
open Go.RowKit

theorem step_call {P : Program} {ops : Array Oper} {o : Oper} {a : Act} {w : World} {K : Act → World → Prop} {Q : Exit → Act → World → Prop} {E : Prop} (hw : Region.wanted o (yielded ops a.tmps) = true) {f : FuncId} {args : Array Value}
    (hexec : (execOp a.eval o).run P w = .ok (.enter f args) w) {R : Value → World → Prop} (hc : Calls P f args w fun e w' => ∃ v, e = .returned v ∧ R v w') (hK : ∀ v w', R v w' → K (a.put o.dst v) w') :
    if Region.wanted o (yielded ops a.tmps) = true then Oper.wp P o a w K Q else E := by
  rw [if_pos hw]
  unfold Oper.wp
  rw [hexec]
  refine Calls.mono hc ?_
  rintro e w' ⟨v, rfl, hr⟩
  exact hK v w' hr

/-! The same, where the callee is named: guards for arms. -/
theorem step_call0 {P : Program} {ops : Array Oper} {o : Oper} {a : Act} {w : World} {K : Act → World → Prop} {Q : Exit → Act → World → Prop} {E : Prop} (hg : o.guard = none) (f : FuncId) {ats : Array TypeId}
    (hop : o.op = .call { callee := .value (.func f), args := #[], argTypes := ats }) (hen : ∀ (args : Array Value) (w : World), (callFunc f args).run P w = .ok (.enter f args) w) (R : Value → World → Prop)
    (hc : Calls P f #[] w fun e w' => ∃ v, e = .returned v ∧ R v w') (hK : ∀ v w', R v w' → K (a.put o.dst v) w') :
    if Region.wanted o (yielded ops a.tmps) = true then Oper.wp P o a w K Q else E := by
  have hw : Region.wanted o (yielded ops a.tmps) = true := by simp [Region.wanted, hg]
  have ef : a.eval (.func f) = .func (.func f) #[] #[] := rfl
  refine step_call hw (f := f) (args := #[]) ?_ hc hK
  unfold execOp
  simp [hop, resolve, Deferred.ofValue, invoke, ef, hen #[] w]
theorem step_call1 {P : Program} {ops : Array Oper} {o : Oper} {a : Act} {w : World} {K : Act → World → Prop} {Q : Exit → Act → World → Prop} {E : Prop} (hg : o.guard = none) (f : FuncId) (x0 : Operand) {ats : Array TypeId}
    (hop : o.op = .call { callee := .value (.func f), args := #[x0], argTypes := ats }) (hen : ∀ (args : Array Value) (w : World), (callFunc f args).run P w = .ok (.enter f args) w) {u0 : Value} (hx0 : a.eval x0 = u0) (R : Value → World → Prop)
    (hc : Calls P f #[u0] w fun e w' => ∃ v, e = .returned v ∧ R v w') (hK : ∀ v w', R v w' → K (a.put o.dst v) w') :
    if Region.wanted o (yielded ops a.tmps) = true then Oper.wp P o a w K Q else E := by
  have hw : Region.wanted o (yielded ops a.tmps) = true := by simp [Region.wanted, hg]
  have ef : a.eval (.func f) = .func (.func f) #[] #[] := rfl
  refine step_call hw (f := f) (args := #[u0]) ?_ hc hK
  unfold execOp
  simp [hop, resolve, Deferred.ofValue, invoke, ef, hx0, hen #[u0] w]
theorem step_call2 {P : Program} {ops : Array Oper} {o : Oper} {a : Act} {w : World} {K : Act → World → Prop} {Q : Exit → Act → World → Prop} {E : Prop} (hg : o.guard = none) (f : FuncId) (x0 x1 : Operand) {ats : Array TypeId}
    (hop : o.op = .call { callee := .value (.func f), args := #[x0, x1], argTypes := ats }) (hen : ∀ (args : Array Value) (w : World), (callFunc f args).run P w = .ok (.enter f args) w) {u0 u1 : Value} (hx0 : a.eval x0 = u0) (hx1 : a.eval x1 = u1) (R : Value → World → Prop)
    (hc : Calls P f #[u0, u1] w fun e w' => ∃ v, e = .returned v ∧ R v w') (hK : ∀ v w', R v w' → K (a.put o.dst v) w') :
    if Region.wanted o (yielded ops a.tmps) = true then Oper.wp P o a w K Q else E := by
  have hw : Region.wanted o (yielded ops a.tmps) = true := by simp [Region.wanted, hg]
  have ef : a.eval (.func f) = .func (.func f) #[] #[] := rfl
  refine step_call hw (f := f) (args := #[u0, u1]) ?_ hc hK
  unfold execOp
  simp [hop, resolve, Deferred.ofValue, invoke, ef, hx0, hx1, hen #[u0, u1] w]
theorem step_call3 {P : Program} {ops : Array Oper} {o : Oper} {a : Act} {w : World} {K : Act → World → Prop} {Q : Exit → Act → World → Prop} {E : Prop} (hg : o.guard = none) (f : FuncId) (x0 x1 x2 : Operand) {ats : Array TypeId}
    (hop : o.op = .call { callee := .value (.func f), args := #[x0, x1, x2], argTypes := ats }) (hen : ∀ (args : Array Value) (w : World), (callFunc f args).run P w = .ok (.enter f args) w) {u0 u1 u2 : Value} (hx0 : a.eval x0 = u0) (hx1 : a.eval x1 = u1) (hx2 : a.eval x2 = u2) (R : Value → World → Prop)
    (hc : Calls P f #[u0, u1, u2] w fun e w' => ∃ v, e = .returned v ∧ R v w') (hK : ∀ v w', R v w' → K (a.put o.dst v) w') :
    if Region.wanted o (yielded ops a.tmps) = true then Oper.wp P o a w K Q else E := by
  have hw : Region.wanted o (yielded ops a.tmps) = true := by simp [Region.wanted, hg]
  have ef : a.eval (.func f) = .func (.func f) #[] #[] := rfl
  refine step_call hw (f := f) (args := #[u0, u1, u2]) ?_ hc hK
  unfold execOp
  simp [hop, resolve, Deferred.ofValue, invoke, ef, hx0, hx1, hx2, hen #[u0, u1, u2] w]
theorem step_call4 {P : Program} {ops : Array Oper} {o : Oper} {a : Act} {w : World} {K : Act → World → Prop} {Q : Exit → Act → World → Prop} {E : Prop} (hg : o.guard = none) (f : FuncId) (x0 x1 x2 x3 : Operand) {ats : Array TypeId}
    (hop : o.op = .call { callee := .value (.func f), args := #[x0, x1, x2, x3], argTypes := ats }) (hen : ∀ (args : Array Value) (w : World), (callFunc f args).run P w = .ok (.enter f args) w) {u0 u1 u2 u3 : Value} (hx0 : a.eval x0 = u0) (hx1 : a.eval x1 = u1) (hx2 : a.eval x2 = u2) (hx3 : a.eval x3 = u3) (R : Value → World → Prop)
    (hc : Calls P f #[u0, u1, u2, u3] w fun e w' => ∃ v, e = .returned v ∧ R v w') (hK : ∀ v w', R v w' → K (a.put o.dst v) w') :
    if Region.wanted o (yielded ops a.tmps) = true then Oper.wp P o a w K Q else E := by
  have hw : Region.wanted o (yielded ops a.tmps) = true := by simp [Region.wanted, hg]
  have ef : a.eval (.func f) = .func (.func f) #[] #[] := rfl
  refine step_call hw (f := f) (args := #[u0, u1, u2, u3]) ?_ hc hK
  unfold execOp
  simp [hop, resolve, Deferred.ofValue, invoke, ef, hx0, hx1, hx2, hx3, hen #[u0, u1, u2, u3] w]
theorem step_call5 {P : Program} {ops : Array Oper} {o : Oper} {a : Act} {w : World} {K : Act → World → Prop} {Q : Exit → Act → World → Prop} {E : Prop} (hg : o.guard = none) (f : FuncId) (x0 x1 x2 x3 x4 : Operand) {ats : Array TypeId}
    (hop : o.op = .call { callee := .value (.func f), args := #[x0, x1, x2, x3, x4], argTypes := ats }) (hen : ∀ (args : Array Value) (w : World), (callFunc f args).run P w = .ok (.enter f args) w) {u0 u1 u2 u3 u4 : Value} (hx0 : a.eval x0 = u0) (hx1 : a.eval x1 = u1) (hx2 : a.eval x2 = u2) (hx3 : a.eval x3 = u3) (hx4 : a.eval x4 = u4) (R : Value → World → Prop)
    (hc : Calls P f #[u0, u1, u2, u3, u4] w fun e w' => ∃ v, e = .returned v ∧ R v w') (hK : ∀ v w', R v w' → K (a.put o.dst v) w') :
    if Region.wanted o (yielded ops a.tmps) = true then Oper.wp P o a w K Q else E := by
  have hw : Region.wanted o (yielded ops a.tmps) = true := by simp [Region.wanted, hg]
  have ef : a.eval (.func f) = .func (.func f) #[] #[] := rfl
  refine step_call hw (f := f) (args := #[u0, u1, u2, u3, u4]) ?_ hc hK
  unfold execOp
  simp [hop, resolve, Deferred.ofValue, invoke, ef, hx0, hx1, hx2, hx3, hx4, hen #[u0, u1, u2, u3, u4] w]
theorem step_call6 {P : Program} {ops : Array Oper} {o : Oper} {a : Act} {w : World} {K : Act → World → Prop} {Q : Exit → Act → World → Prop} {E : Prop} (hg : o.guard = none) (f : FuncId) (x0 x1 x2 x3 x4 x5 : Operand) {ats : Array TypeId}
    (hop : o.op = .call { callee := .value (.func f), args := #[x0, x1, x2, x3, x4, x5], argTypes := ats }) (hen : ∀ (args : Array Value) (w : World), (callFunc f args).run P w = .ok (.enter f args) w) {u0 u1 u2 u3 u4 u5 : Value} (hx0 : a.eval x0 = u0) (hx1 : a.eval x1 = u1) (hx2 : a.eval x2 = u2) (hx3 : a.eval x3 = u3) (hx4 : a.eval x4 = u4) (hx5 : a.eval x5 = u5) (R : Value → World → Prop)
    (hc : Calls P f #[u0, u1, u2, u3, u4, u5] w fun e w' => ∃ v, e = .returned v ∧ R v w') (hK : ∀ v w', R v w' → K (a.put o.dst v) w') :
    if Region.wanted o (yielded ops a.tmps) = true then Oper.wp P o a w K Q else E := by
  have hw : Region.wanted o (yielded ops a.tmps) = true := by simp [Region.wanted, hg]
  have ef : a.eval (.func f) = .func (.func f) #[] #[] := rfl
  refine step_call hw (f := f) (args := #[u0, u1, u2, u3, u4, u5]) ?_ hc hK
  unfold execOp
  simp [hop, resolve, Deferred.ofValue, invoke, ef, hx0, hx1, hx2, hx3, hx4, hx5, hen #[u0, u1, u2, u3, u4, u5] w]
/-! What a call's operation enters. -/
theorem exec_call0 {P : Program} {o : Oper} {a : Act} {w : World} {f : FuncId} {ats : Array TypeId} (hop : o.op = .call { callee := .value (.func f), args := #[], argTypes := ats })
    (hen : ∀ (args : Array Value) (w : World), (callFunc f args).run P w = .ok (.enter f args) w) : (execOp a.eval o).run P w = .ok (.enter f #[]) w := by
  have ef : a.eval (.func f) = .func (.func f) #[] #[] := rfl
  unfold execOp
  simp [hop, resolve, Deferred.ofValue, invoke, ef, hen #[] w]
theorem exec_call1 {P : Program} {o : Oper} {a : Act} {w : World} {f : FuncId} {x0 : Operand} {ats : Array TypeId} (hop : o.op = .call { callee := .value (.func f), args := #[x0], argTypes := ats })
    (hen : ∀ (args : Array Value) (w : World), (callFunc f args).run P w = .ok (.enter f args) w) {u0 : Value} (hx0 : a.eval x0 = u0) : (execOp a.eval o).run P w = .ok (.enter f #[u0]) w := by
  have ef : a.eval (.func f) = .func (.func f) #[] #[] := rfl
  unfold execOp
  simp [hop, resolve, Deferred.ofValue, invoke, ef, hx0, hen #[u0] w]
theorem exec_call2 {P : Program} {o : Oper} {a : Act} {w : World} {f : FuncId} {x0 x1 : Operand} {ats : Array TypeId} (hop : o.op = .call { callee := .value (.func f), args := #[x0, x1], argTypes := ats })
    (hen : ∀ (args : Array Value) (w : World), (callFunc f args).run P w = .ok (.enter f args) w) {u0 u1 : Value} (hx0 : a.eval x0 = u0) (hx1 : a.eval x1 = u1) : (execOp a.eval o).run P w = .ok (.enter f #[u0, u1]) w := by
  have ef : a.eval (.func f) = .func (.func f) #[] #[] := rfl
  unfold execOp
  simp [hop, resolve, Deferred.ofValue, invoke, ef, hx0, hx1, hen #[u0, u1] w]
theorem exec_call3 {P : Program} {o : Oper} {a : Act} {w : World} {f : FuncId} {x0 x1 x2 : Operand} {ats : Array TypeId} (hop : o.op = .call { callee := .value (.func f), args := #[x0, x1, x2], argTypes := ats })
    (hen : ∀ (args : Array Value) (w : World), (callFunc f args).run P w = .ok (.enter f args) w) {u0 u1 u2 : Value} (hx0 : a.eval x0 = u0) (hx1 : a.eval x1 = u1) (hx2 : a.eval x2 = u2) : (execOp a.eval o).run P w = .ok (.enter f #[u0, u1, u2]) w := by
  have ef : a.eval (.func f) = .func (.func f) #[] #[] := rfl
  unfold execOp
  simp [hop, resolve, Deferred.ofValue, invoke, ef, hx0, hx1, hx2, hen #[u0, u1, u2] w]
theorem exec_call4 {P : Program} {o : Oper} {a : Act} {w : World} {f : FuncId} {x0 x1 x2 x3 : Operand} {ats : Array TypeId} (hop : o.op = .call { callee := .value (.func f), args := #[x0, x1, x2, x3], argTypes := ats })
    (hen : ∀ (args : Array Value) (w : World), (callFunc f args).run P w = .ok (.enter f args) w) {u0 u1 u2 u3 : Value} (hx0 : a.eval x0 = u0) (hx1 : a.eval x1 = u1) (hx2 : a.eval x2 = u2) (hx3 : a.eval x3 = u3) : (execOp a.eval o).run P w = .ok (.enter f #[u0, u1, u2, u3]) w := by
  have ef : a.eval (.func f) = .func (.func f) #[] #[] := rfl
  unfold execOp
  simp [hop, resolve, Deferred.ofValue, invoke, ef, hx0, hx1, hx2, hx3, hen #[u0, u1, u2, u3] w]
theorem exec_call5 {P : Program} {o : Oper} {a : Act} {w : World} {f : FuncId} {x0 x1 x2 x3 x4 : Operand} {ats : Array TypeId} (hop : o.op = .call { callee := .value (.func f), args := #[x0, x1, x2, x3, x4], argTypes := ats })
    (hen : ∀ (args : Array Value) (w : World), (callFunc f args).run P w = .ok (.enter f args) w) {u0 u1 u2 u3 u4 : Value} (hx0 : a.eval x0 = u0) (hx1 : a.eval x1 = u1) (hx2 : a.eval x2 = u2) (hx3 : a.eval x3 = u3) (hx4 : a.eval x4 = u4) : (execOp a.eval o).run P w = .ok (.enter f #[u0, u1, u2, u3, u4]) w := by
  have ef : a.eval (.func f) = .func (.func f) #[] #[] := rfl
  unfold execOp
  simp [hop, resolve, Deferred.ofValue, invoke, ef, hx0, hx1, hx2, hx3, hx4, hen #[u0, u1, u2, u3, u4] w]
theorem exec_call6 {P : Program} {o : Oper} {a : Act} {w : World} {f : FuncId} {x0 x1 x2 x3 x4 x5 : Operand} {ats : Array TypeId} (hop : o.op = .call { callee := .value (.func f), args := #[x0, x1, x2, x3, x4, x5], argTypes := ats })
    (hen : ∀ (args : Array Value) (w : World), (callFunc f args).run P w = .ok (.enter f args) w) {u0 u1 u2 u3 u4 u5 : Value} (hx0 : a.eval x0 = u0) (hx1 : a.eval x1 = u1) (hx2 : a.eval x2 = u2) (hx3 : a.eval x3 = u3) (hx4 : a.eval x4 = u4) (hx5 : a.eval x5 = u5) : (execOp a.eval o).run P w = .ok (.enter f #[u0, u1, u2, u3, u4, u5]) w := by
  have ef : a.eval (.func f) = .func (.func f) #[] #[] := rfl
  unfold execOp
  simp [hop, resolve, Deferred.ofValue, invoke, ef, hx0, hx1, hx2, hx3, hx4, hx5, hen #[u0, u1, u2, u3, u4, u5] w]
theorem exec_call7 {P : Program} {o : Oper} {a : Act} {w : World} {f : FuncId} {x0 x1 x2 x3 x4 x5 x6 : Operand} {ats : Array TypeId} (hop : o.op = .call { callee := .value (.func f), args := #[x0, x1, x2, x3, x4, x5, x6], argTypes := ats })
    (hen : ∀ (args : Array Value) (w : World), (callFunc f args).run P w = .ok (.enter f args) w) {u0 u1 u2 u3 u4 u5 u6 : Value} (hx0 : a.eval x0 = u0) (hx1 : a.eval x1 = u1) (hx2 : a.eval x2 = u2) (hx3 : a.eval x3 = u3) (hx4 : a.eval x4 = u4) (hx5 : a.eval x5 = u5) (hx6 : a.eval x6 = u6) : (execOp a.eval o).run P w = .ok (.enter f #[u0, u1, u2, u3, u4, u5, u6]) w := by
  have ef : a.eval (.func f) = .func (.func f) #[] #[] := rfl
  unfold execOp
  simp [hop, resolve, Deferred.ofValue, invoke, ef, hx0, hx1, hx2, hx3, hx4, hx5, hx6, hen #[u0, u1, u2, u3, u4, u5, u6] w]
end Go.Proofs.YtoacobcbloljkaaGreatDoor
