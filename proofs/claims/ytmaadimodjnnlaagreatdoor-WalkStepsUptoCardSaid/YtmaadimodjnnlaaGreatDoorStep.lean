/-
  Laws for the operations of a region that draws its order, as 'go_region_law' wants them: append, delete, clear. No program in it.
-/
import Derived.Test.YtmaadimodjnnlaaGreatDoorMaps
import Derived.Deep.RegionLaw
namespace Go.Proofs.YtmaadimodjnnlaaGreatDoor
open Go.RowKit

section
variable {P : Program} {ops : Array Oper} {o : Oper} {a : Act} {w : World} {K : Act → World → Prop} {Q : Exit → Act → World → Prop} {E : Prop}

theorem step_append_rd (hg : o.guard = none) (s x : Operand) {t e : TypeId} {size bytes : Nat} (hop : o.op = .call { callee := .builtin .append, args := #[s, x], argTypes := #[t, t] }) (El : Elem P t e size bytes)
    {base n : Nat} {v : Value} {xs : List Value} (hs : a.eval s = v) (hown : w.ownsRow base e size v n xs) {A : Option Addr} {m c : Nat} {news : List Value} (hx : a.eval x = .slice A m c) (hr : Rd w size A m news)
    (h1 : ∀ u ∈ news, u.oneCell' = true) (h63 : n + m ≤ maxLen) (hb : (n + m) * bytes ≤ 140737488355328) (hbase : base ≤ w.heap.size)
    (hK : ∀ v' w', w'.ownsRow base e size v' (n + m) (xs ++ news) → w.grownBy w' v.ownBlock → (v'.ownBlock = v.ownBlock ∨ v'.ownBlock = some w.heap.size) → K (a.put o.dst v') w') :
    if Region.wanted o (yielded ops a.tmps) = true then Oper.wp P o a w K Q else E := by
  have hw : Region.wanted o (yielded ops a.tmps) = true := by simp [Region.wanted, hg]
  rw [if_pos hw]
  obtain ⟨v', w', hrun, r1, r2, r3⟩ := run_append_rd El w o.type (c := c) hown hr h1 h63 hb hbase
  unfold Oper.wp
  simp [execOp, hop, resolve, invoke, builtin, hs, hx, hrun, Result.andThen]
  exact hK v' w' r1 r2 r3

variable {κ ν : Type} [DecidableEq κ] {k e : TypeId} {kv : κ → Value} {vv : ν → Value} {b r : Nat} {l rem : List (κ × ν)}

theorem step_delete_T (hg : o.guard = none) (m x : Operand) (t : TypeId) (hop : o.op = Op.call { callee := Callee.builtin Builtin.delete, args := #[m, x], argTypes := #[t, k] }) (Kk : KeyK P k kv) (ht : P.underlying t = some (.map k e))
    (hm : a.eval m = .map (some b)) (h : MapT kv vv w b l) (ky : κ) (hx : a.eval x = kv ky)
    (hK : ∀ w', MapT kv vv w' b (alDel l ky) → w.mapTurned w' b → K (a.put o.dst (.tuple #[])) w') :
    if Region.wanted o (yielded ops a.tmps) = true then Oper.wp P o a w K Q else E := by
  have hw : Region.wanted o (yielded ops a.tmps) = true := by simp [Region.wanted, hg]
  rw [if_pos hw]
  obtain ⟨w', hrun, r1, r2⟩ := h.delete (ty := o.type) Kk ht ky
  unfold Oper.wp
  simp [execOp, hop, resolve, invoke, builtin, hm, hx, hrun, Result.andThen]
  exact hK w' r1 r2

theorem step_delete_I (hg : o.guard = none) (m x : Operand) (t : TypeId) (hop : o.op = Op.call { callee := Callee.builtin Builtin.delete, args := #[m, x], argTypes := #[t, k] }) (Kk : KeyK P k kv) (ht : P.underlying t = some (.map k e))
    (hm : a.eval m = .map (some b)) (h : MapI kv vv w r b l rem) (ky : κ) (hx : a.eval x = kv ky)
    (hK : ∀ w', MapI kv vv w' r b (alDel l ky) (alDel rem ky) → w.mapTurned w' b → K (a.put o.dst (.tuple #[])) w') :
    if Region.wanted o (yielded ops a.tmps) = true then Oper.wp P o a w K Q else E := by
  have hw : Region.wanted o (yielded ops a.tmps) = true := by simp [Region.wanted, hg]
  rw [if_pos hw]
  obtain ⟨w', hrun, r1, r2⟩ := h.delete (ty := o.type) Kk ht ky
  unfold Oper.wp
  simp [execOp, hop, resolve, invoke, builtin, hm, hx, hrun, Result.andThen]
  exact hK w' r1 r2
end

section
variable {P : Program} {ops : Array Oper} {o : Oper} {a : Act} {w : World} {κ ν : Type} {kv : κ → Value} {vv : ν → Value} {b r : Nat} {l rem : List (κ × ν)}

/-- Guards for arms. -/
theorem wpList_isRange {rest : List Oper} {Q : Exit → Act → World → Prop} {d : Option Tmp} {tp : TypeId} {pos : String} {af : Array Edge} {gd : Option (Tmp × Bool)} {t : TypeId} {x : Operand}
    (h : wpList P ops Q ({ dst := d, op := .range t x, type := tp, pos := pos, after := af, guard := gd } :: rest) a w) : wpList P ops Q ({ dst := d, op := .range t x, type := tp, pos := pos, after := af, guard := gd } :: rest) a w := h
theorem wpList_isNext {rest : List Oper} {Q : Exit → Act → World → Prop} {d : Option Tmp} {tp : TypeId} {pos : String} {af : Array Edge} {gd : Option (Tmp × Bool)} {x : Operand} {s : Bool}
    (h : wpList P ops Q ({ dst := d, op := .next x s, type := tp, pos := pos, after := af, guard := gd } :: rest) a w) : wpList P ops Q ({ dst := d, op := .next x s, type := tp, pos := pos, after := af, guard := gd } :: rest) a w := h

/-- A map's loop: its step. -/
theorem wpList_next_I {rest : List Oper} {Q : Exit → Act → World → Prop} (hg : o.guard = none) (x : Operand) (hop : o.op = Op.next x false) (hx : a.eval x = .pointer (some ⟨r, 0, none⟩)) (h : MapI kv vv w r b l rem)
    (h0 : rem = [] → wpList P ops Q rest (a.put o.dst (.tuple #[.bool false])) w)
    (h1 : ∀ p rem' w', rem.Perm (p :: rem') → MapI kv vv w' r b l rem' → w.grownBy w' (some r) → (Instr.entry (.pointer (some ⟨r, 0, none⟩))).run P w' = .ok (.tuple #[kv p.1, vv p.2]) w' → wpList P ops Q rest (a.put o.dst (.tuple #[.bool true, kv p.1, vv p.2])) w') : wpList P ops Q (o :: rest) a w := by
  refine wpList_plain hg fun K' hK' => ?_
  rcases h.next (P := P) o.type with ⟨h2, hrun⟩ | ⟨p, rem', w', h2, hrun, h3, h4, h5⟩
  · unfold Oper.wp
    simp [execOp, hop, hx, hrun, Result.andThen]
    exact hK' _ _ (h0 h2)
  · unfold Oper.wp
    simp [execOp, hop, hx, hrun, Result.andThen]
    exact hK' _ _ (h1 p rem' w' h2 h3 h4 h5)
end
end Go.Proofs.YtmaadimodjnnlaaGreatDoor
