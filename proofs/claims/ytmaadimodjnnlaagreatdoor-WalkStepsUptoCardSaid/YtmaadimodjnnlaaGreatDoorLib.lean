/-
  Words for memory that all later texts use: a slice value that reads as a list, worlds that keep what they held, small facts on byte strings. No program in it.
-/
import Derived.WalkKit
import Derived.WalkSpells
import Derived.WalkLawsBesides
import Derived.Lib.Hide
import Derived.Lib.Strings
import Derived.Deep.AppendLies
import Derived.Maps.AppendAt
import Derived.Laws.Rows
import Derived.ArgAppend
import Derived.OwnWalk
namespace Go.Proofs.YtmaadimodjnnlaaGreatDoor
open Go.RowKit

theorem add_block (a : Addr) (n : Nat) : (a.add n).block = a.block := by unfold Addr.add; split <;> rfl

theorem add_assoc_ (a : Addr) (i j : Nat) : (a.add i).add j = a.add (i + j) := by
  unfold Addr.add
  by_cases hi : i = 0 <;> by_cases hj : j = 0 <;> simp [hi, hj, Nat.add_assoc]

/-- The slice with address A and n elements of sz cells each reads as the cells xs. -/
def Rd (w : World) (sz : Nat) (A : Option Addr) (n : Nat) (xs : List Value) : Prop :=
  xs.length = n * sz ∧ (0 < n → ∃ ad, A = some ad ∧ ad.block < w.heap.size ∧ ∀ j u, xs[j]? = some u → w.cell? (ad.add j) = some u)

section
variable {w w' : World} {sz n : Nat} {A : Option Addr} {xs : List Value}

theorem Rd.empty (w : World) (sz : Nat) (A : Option Addr) : Rd w sz A 0 [] := ⟨by simp, fun h => absurd h (by omega)⟩

theorem Rd.keep (h : Rd w sz A n xs) (hs : w.heap.size ≤ w'.heap.size) (hk : ∀ ad, A = some ad → ad.block < w.heap.size → w'.heap[ad.block]? = w.heap[ad.block]?) : Rd w' sz A n xs := by
  refine ⟨h.1, fun hn => ?_⟩
  obtain ⟨ad, e, hb, hc⟩ := h.2 hn
  refine ⟨ad, e, by omega, fun j u hu => ?_⟩
  rw [← hc j u hu]
  exact World.cell?_of_block (by rw [add_block]; exact hk ad e hb)

theorem Rd.below (h : Rd w sz A n xs) (hb : Below w.heap.size w w') : Rd w' sz A n xs := h.keep hb.size fun _ _ hlt => hb.block _ hlt

theorem Rd.grown (h : Rd w sz A n xs) {row : Option Nat} (hg : w.grownBy w' row) (hne : ∀ ad, A = some ad → some ad.block ≠ row) : Rd w' sz A n xs :=
  h.keep hg.size fun ad e hlt => hg.block _ hlt (hne ad e)

theorem Rd.drew (h : Rd w sz A n xs) : Rd w.drew sz A n xs := h
theorem Rd.drewN (h : Rd w sz A n xs) (k : Nat) : Rd (w.drewN k) sz A n xs := h

theorem Rd.alloc (h : Rd w sz A n xs) (o : Obj) : Rd (w.alloc o) sz A n xs := h.below ((Below.refl _ _).alloc (Nat.le_refl _) o)

theorem Rd.at1 (h : Rd w 1 A n xs) {k : Nat} (hk : k < n) : ∃ (ad : Addr) (u : Value), A = some ad ∧ ad.block < w.heap.size ∧ xs[k]? = some u ∧ w.cell? (ad.add k) = some u := by
  obtain ⟨ad, e, hb, hc⟩ := h.2 (by omega)
  have hl : k < xs.length := by have := h.1; omega
  exact ⟨ad, xs[k], e, hb, List.getElem?_eq_getElem hl, hc k _ (List.getElem?_eq_getElem hl)⟩

theorem Rd.of_own {base : Nat} {e : TypeId} {c : Nat} (h : w.ownsRow base e sz (.slice A n c) n xs) : Rd w sz A n xs := by
  refine ⟨h.1, fun hn => ?_⟩
  obtain ⟨g, cap, hv, _, hlt⟩ := h.form hn
  have hA : A = some ⟨g, 0, none⟩ := by injection hv
  subst hA
  exact ⟨_, rfl, hlt, h.cells (g := g) rfl⟩

/-- A value that the call owns is a slice. -/
theorem own_slice {base : Nat} {e : TypeId} {v : Value} (h : w.ownsRow base e sz v n xs) : ∃ A c, v = .slice A n c := by
  rcases h.2 with ⟨rfl, rfl⟩ | ⟨g, cap, cur, rfl, _⟩
  · exact ⟨none, 0, rfl⟩
  · exact ⟨_, _, rfl⟩

theorem own_le {base : Nat} {e : TypeId} {v : Value} (h : w.ownsRow base e sz v n xs) : n ≤ maxLen := by
  rcases h.2 with ⟨_, rfl⟩ | ⟨g, cap, cur, _, _, _, h1, h2, _⟩
  · exact Nat.zero_le _
  · omega

theorem below_grown {B : Nat} (h : Below B w w') (hB : B = w.heap.size) : w.grownBy w' none :=
  ⟨h.os, h.tape, h.output, h.size, fun k hk _ => h.block k (by omega)⟩

theorem own_below {base : Nat} {e : TypeId} {v : Value} (h : w.ownsRow base e sz v n xs) (hb : Below w.heap.size w w') : w'.ownsRow base e sz v n xs := by
  refine h.kept (below_grown hb rfl) ?_
  cases hv : v.ownBlock with
  | none => exact .inl rfl
  | some k => exact .inr (by simp)

theorem own_base {base base' : Nat} {e : TypeId} {v : Value} (h : w.ownsRow base e sz v n xs) (hb : base' ≤ base) : w.ownsRow base' e sz v n xs := by
  refine ⟨h.1, ?_⟩
  rcases h.2 with h2 | ⟨g, cap, cur, hv, hg, r⟩
  · exact .inl h2
  · exact .inr ⟨g, cap, cur, hv, by omega, r⟩

theorem own_drewN {base : Nat} {e : TypeId} {v : Value} (h : w.ownsRow base e sz v n xs) (k : Nat) : (w.drewN k).ownsRow base e sz v n xs := h

theorem below_drewN_ {B : Nat} {a : World} (h : Below B a w) (k : Nat) : Below B a (w.drewN k) := ⟨h.os, h.tape, h.output, h.size, h.block⟩

/-- 'Below' from world to world, each at its own size. -/
theorem below_next {a : World} {B : Nat} (h : Below B a w) (hB : B ≤ w.heap.size) (k : Below w.heap.size w w') : Below B a w' := h.trans (k.mono hB)

theorem below_size {B : Nat} {a : World} (h : Below B a w) (hB : B ≤ a.heap.size) : B ≤ w.heap.size := by have := h.size; omega
end

theorem own_cap {w : World} {base n m sz : Nat} {e : TypeId} {A : Option Addr} {c : Nat} {xs : List Value} (h : w.ownsRow base e sz (.slice A m c) n xs) : n ≤ c ∧ c ≤ maxLen := by
  rcases h.2 with ⟨hv, rfl⟩ | ⟨g, cap, cur, hv, _, _, h1, h2, _⟩
  · exact ⟨Nat.zero_le _, by injection hv with _ _ h; subst h; exact Nat.zero_le _⟩
  · injection hv with _ _ h; subst h; exact ⟨h1, h2⟩

theorem own_fresh {w : World} {base n sz : Nat} {e : TypeId} {A : Option Addr} {c : Nat} {xs : List Value} (h : w.ownsRow base e sz (.slice A n c) n xs) : ∀ ad, A = some ad → base ≤ ad.block := by
  intro ad ha
  subst ha
  exact (h.lt ad.block rfl).1

/-! ## Worlds that keep some blocks -/

/-- Of the blocks that were there those in P are as they were; the streams too; none has gone. -/
structure Kp (P : Nat → Prop) (w w' : World) : Prop where
  os : w'.os = w.os
  tape : w'.tape = w.tape
  output : w'.output = w.output
  size : w.heap.size ≤ w'.heap.size
  block : ∀ k, P k → k < w.heap.size → w'.heap[k]? = w.heap[k]?

theorem Kp.refl (P : Nat → Prop) (w : World) : Kp P w w := ⟨rfl, rfl, rfl, Nat.le_refl _, fun _ _ _ => rfl⟩
theorem Kp.trans {P : Nat → Prop} {a b c : World} (h : Kp P a b) (k : Kp P b c) : Kp P a c :=
  ⟨k.os.trans h.os, k.tape.trans h.tape, k.output.trans h.output, Nat.le_trans h.size k.size, fun i hi hlt => (k.block i hi (Nat.lt_of_lt_of_le hlt h.size)).trans (h.block i hi hlt)⟩
theorem Kp.mono {P Q : Nat → Prop} {a b : World} (h : Kp P a b) (hq : ∀ k, k < a.heap.size → Q k → P k) : Kp Q a b :=
  ⟨h.os, h.tape, h.output, h.size, fun i hi hlt => h.block i (hq i hlt hi) hlt⟩
theorem Kp.of_below {P : Nat → Prop} {a b : World} (h : Below a.heap.size a b) : Kp P a b := ⟨h.os, h.tape, h.output, h.size, fun i _ hlt => h.block i hlt⟩
theorem Kp.below {P : Nat → Prop} {a b c : World} (h : Kp P a b) (k : Below b.heap.size b c) : Kp P a c := h.trans (Kp.of_below k)
theorem Kp.to_below {P : Nat → Prop} {a b : World} {B : Nat} (h : Kp P a b) (hB : B ≤ a.heap.size) (hP : ∀ k, k < B → P k) : Below B a b :=
  ⟨h.os, h.tape, h.output, h.size, fun i hi => h.block i (hP i hi) (by omega)⟩
theorem Kp.alloc {P : Nat → Prop} {a b : World} (h : Kp P a b) (o : Obj) : Kp P a (b.alloc o) := h.below ((Below.refl _ _).alloc (Nat.le_refl _) o)
theorem Kp.drewN {P : Nat → Prop} {a b : World} (h : Kp P a b) (n : Nat) : Kp P a (b.drewN n) := ⟨h.os, h.tape, h.output, h.size, h.block⟩
theorem Kp.drew {P : Nat → Prop} {a b : World} (h : Kp P a b) : Kp P a b.drew := ⟨h.os, h.tape, h.output, h.size, h.block⟩
theorem Kp.grown {P : Nat → Prop} {a b c : World} {row : Option Nat} (h : Kp P a b) (hg : b.grownBy c row) (hr : ∀ k, row = some k → k < a.heap.size → ¬ P k) : Kp P a c :=
  ⟨hg.os.trans h.os, hg.tape.trans h.tape, hg.output.trans h.output, Nat.le_trans h.size hg.size,
    fun i hi hlt => (hg.block i (Nat.lt_of_lt_of_le hlt h.size) (fun e => hr i e.symm hlt hi)).trans (h.block i hi hlt)⟩
theorem Kp.setCell {P : Nat → Prop} {a b : World} (h : Kp P a b) {p : Addr} (hp : p.block < a.heap.size → ¬ P p.block) (u : Value) : Kp P a (b.setCell p u) :=
  ⟨h.os, h.tape, h.output, by simpa [World.setCell] using h.size, fun i hi hlt => (Below.heap_setCell _ _ _ _ (fun e => by subst e; exact hp hlt hi)).trans (h.block i hi hlt)⟩
theorem Rd.kp {P : Nat → Prop} {w w' : World} {sz n : Nat} {A : Option Addr} {xs : List Value} (h : Rd w sz A n xs) (hk : Kp P w w') (hP : ∀ ad, A = some ad → P ad.block) : Rd w' sz A n xs :=
  h.keep hk.size fun ad e hlt => hk.block _ (hP ad e) hlt

theorem Rd.kp0 {P : Nat → Prop} {w w' : World} {sz n : Nat} {A : Option Addr} {xs : List Value} (h : Rd w sz A n xs) (hk : Kp P w w') (hP : ∀ ad, A = some ad → 0 < n → P ad.block) : Rd w' sz A n xs := by
  refine ⟨h.1, fun hn => ?_⟩
  obtain ⟨ad, e, hb, hc⟩ := h.2 hn
  refine ⟨ad, e, Nat.lt_of_lt_of_le hb hk.size, fun j u hu => ?_⟩
  rw [← hc j u hu]
  exact World.cell?_of_block (by rw [add_block]; exact hk.block _ (hP ad e hn) hb)

theorem own_kp {P : Nat → Prop} {w w' : World} {base e sz n : Nat} {v : Value} {xs : List Value} (h : w.ownsRow base e sz v n xs) (hk : Kp P w w') (hP : ∀ k, v.ownBlock = some k → P k) : w'.ownsRow base e sz v n xs := by
  refine ⟨h.1, ?_⟩
  rcases h.2 with h2 | ⟨g, cap, cur, hv, hb, hh, r⟩
  · exact .inl h2
  · refine .inr ⟨g, cap, cur, hv, hb, ?_, r⟩
    have hlt : g < w.heap.size := (h.lt g (by rw [hv]; rfl)).2
    rw [hk.block g (hP g (by rw [hv]; rfl)) hlt]
    exact hh

/-! ## append -/

/-- A slice onto which can be appended without touching what is not the call's own: one of its own, or a full one. -/
def App (w : World) (base e sz : Nat) (v : Value) (n : Nat) (xs : List Value) : Prop := w.ownsRow base e sz v n xs ∨ ∃ B, v = .slice B n n ∧ Rd w sz B n xs

/-- What the program's tables say of a slice type and its elements. -/
structure Elem (P : Program) (t e : TypeId) (size bytes : Nat) : Prop where
  ht : P.underlying t = some (.slice e)
  inf : ∃ i z, P.info? e = some i ∧ i.zero = some z ∧ i.size = size ∧ i.bytes = bytes ∧ z.cells.size = size
  pos : 0 < size

theorem Elem.mk_ {P : Program} {t e : TypeId} {size bytes : Nat} {z : Value} (ht : P.underlying t = some (.slice e)) (h : (P.info? e).map (fun i => (i.zero, i.size, i.bytes)) = some (some z, size, bytes))
    (hz : z.cells.size = size) (hp : 0 < size) : Elem P t e size bytes := by
  obtain ⟨i, h1, h2, h3, h4⟩ := info_parts h
  exact ⟨ht, ⟨i, z, h1, h2, h3, h4, hz⟩, hp⟩

/-- append onto a slice of the call's own, from whatever slice. -/
theorem run_append_rd {P : Program} {t e : TypeId} {size bytes : Nat} (E : Elem P t e size bytes) (w : World) (ty : TypeId) {base n : Nat} {v : Value} {xs : List Value} (hown : w.ownsRow base e size v n xs)
    {A : Option Addr} {m c : Nat} {news : List Value} (hr : Rd w size A m news) (h1 : ∀ u ∈ news, u.oneCell' = true) (h63 : n + m ≤ maxLen) (hb : (n + m) * bytes ≤ 140737488355328) (hbase : base ≤ w.heap.size) :
    ∃ v' w', (Builtin.append_ #[t, t] ty #[v, .slice A m c]).run P w = .ok v' w' ∧ w'.ownsRow base e size v' (n + m) (xs ++ news) ∧ w.grownBy w' v.ownBlock ∧ (v'.ownBlock = v.ownBlock ∨ v'.ownBlock = some w.heap.size) := by
  obtain ⟨ht, ⟨i, z, hi, hz, hs, hby, hzs⟩, hp⟩ := E
  cases A with
  | some ad =>
    have hn : ∀ j u, news[j]? = some u → w.cell? (ad.add j) = some u := by
      intro j u hu
      by_cases h0 : 0 < m
      · obtain ⟨ad', e', _, hc⟩ := hr.2 h0
        injection e' with e'
        subst e'
        exact hc j u hu
      · have hl := hr.1
        obtain rfl : m = 0 := by omega
        have : news = [] := List.eq_nil_of_length_eq_zero (by simpa using hl)
        subst this
        simp at hu
    obtain ⟨v', w', a1, a2, a3, _, a5⟩ := run_append_own_at (P := P) w base t ty e i z size bytes ht hi hz hs hby hzs hp v n xs hown ad m c news hr.1 hn h1 h63 hb hbase
    exact ⟨v', w', a1, a2, a3, a5⟩
  | none =>
    have hm : m = 0 := by
      by_cases h0 : 0 < m
      · obtain ⟨ad', e', _⟩ := hr.2 h0
        cases e'
      · omega
    subst hm
    have : news = [] := List.eq_nil_of_length_eq_zero (by simpa using hr.1)
    subst this
    refine ⟨v, w, ?_, by simpa using hown, World.grownBy.refl _ _, .inl rfl⟩
    rcases hown.2 with ⟨rfl, rfl⟩ | ⟨g, cap, cur, rfl, _, _, hnc, _⟩
    · simp [Builtin.append_, run_underlying ht, sizeOf, typeInfo, hi, Builtin.lenOf, Builtin.firstCells]
    · simp [Builtin.append_, run_underlying ht, sizeOf, typeInfo, hi, Builtin.lenOf, Builtin.firstCells, hnc, storeCells]

/-- append onto a full slice, whoever owns it: a new row. -/
theorem run_append_full {P : Program} {t e : TypeId} {size bytes : Nat} (E : Elem P t e size bytes) (w : World) (ty : TypeId) {n : Nat} {B : Option Addr} {olds : List Value} (ho : Rd w size B n olds)
    {ad : Addr} {m c : Nat} {news : List Value} (hl : news.length = m * size) (hn : ∀ j u, news[j]? = some u → w.cell? (ad.add j) = some u) (h1 : ∀ u ∈ news, u.oneCell' = true) (hm : 0 < m) (h63 : n + m ≤ maxLen) (hb : (n + m) * bytes ≤ 140737488355328) :
    ∃ v' w', (Builtin.append_ #[t, t] ty #[.slice B n n, .slice (some ad) m c]).run P w = .ok v' w' ∧ w'.ownsRow w.heap.size e size v' (n + m) (olds ++ news) ∧ w.grownBy w' none := by
  obtain ⟨ht, ⟨i, z, hi, hz, hs, hby, hzs⟩, hp⟩ := E
  cases B with
  | some b =>
    have holds : ∀ j u, olds[j]? = some u → w.cell? (b.add j) = some u := by
      intro j u hu
      by_cases h0 : 0 < n
      · obtain ⟨ad', e', _, hc⟩ := ho.2 h0
        injection e' with e'
        subst e'
        exact hc j u hu
      · have hl := ho.1
        obtain rfl : n = 0 := by omega
        have : olds = [] := List.eq_nil_of_length_eq_zero (by simpa using hl)
        subst this
        simp at hu
    exact run_append_arg_grows (P := P) w t ty e i z size bytes ht hi hz hs hby hzs hp b n n olds ho.1 holds ad m c news hl hn (by omega) h63 hb
  | none =>
    have h0 : n = 0 := by
      by_cases h0 : 0 < n
      · obtain ⟨ad', e', _⟩ := ho.2 h0
        cases e'
      · omega
    subst h0
    have : olds = [] := List.eq_nil_of_length_eq_zero (by simpa using ho.1)
    subst this
    obtain ⟨v', w', a1, a2, a3, _⟩ := run_append_own (P := P) w w.heap.size t ty e i z size bytes ht hi hz hs hby hzs hp (.slice none 0 0) 0 [] (World.ownsRow_nil _ _ _ _) ad m c news hl hn
      h1 h63 hb (Nat.le_refl _)
    exact ⟨v', w', a1, a2, a3⟩

theorem wpList_append_rd {P : Program} {w : World} {ops : Array Oper} {rest : List Oper} {o : Oper} {a : Act} {Q : Exit → Act → World → Prop} (hw : Region.wanted o (yielded ops a.tmps) = true) (s x : Operand) {t e : TypeId} {size bytes : Nat}
    (hop : o.op = .call { callee := .builtin .append, args := #[s, x], argTypes := #[t, t] }) (E : Elem P t e size bytes) {base n : Nat} {v : Value} {xs : List Value} (hs : a.eval s = v) (hown : w.ownsRow base e size v n xs)
    {A : Option Addr} {m c : Nat} {news : List Value} (hx : a.eval x = .slice A m c) (hr : Rd w size A m news) (h1 : ∀ u ∈ news, u.oneCell' = true) (h63 : n + m ≤ maxLen) (hb : (n + m) * bytes ≤ 140737488355328) (hbase : base ≤ w.heap.size)
    (h : ∀ v' w', w'.ownsRow base e size v' (n + m) (xs ++ news) → w.grownBy w' v.ownBlock → (v'.ownBlock = v.ownBlock ∨ v'.ownBlock = some w.heap.size) → wpList P ops Q rest (a.put o.dst v') w') : wpList P ops Q (o :: rest) a w := by
  obtain ⟨v', w', hrun, r1, r2, r3⟩ := run_append_rd E w o.type (c := c) hown hr h1 h63 hb hbase
  unfold wpList
  rw [if_pos hw]
  refine .inl ?_
  unfold Oper.wp execOp
  simp only [hop, resolve, invoke, builtin, Sem.run_bind, Sem.run_pure, Result.andThen_ok, List.map_toArray, List.map_cons, List.map_nil, hs, hx, hrun]
  exact h v' w' r1 r2 r3

theorem wpList_append_full {P : Program} {w : World} {ops : Array Oper} {rest : List Oper} {o : Oper} {a : Act} {Q : Exit → Act → World → Prop} (hw : Region.wanted o (yielded ops a.tmps) = true) (s x : Operand) {t e : TypeId} {size bytes : Nat}
    (hop : o.op = .call { callee := .builtin .append, args := #[s, x], argTypes := #[t, t] }) (E : Elem P t e size bytes) {n : Nat} {B : Option Addr} {olds : List Value} (hs : a.eval s = .slice B n n) (ho : Rd w size B n olds)
    {ad : Addr} {m c : Nat} {news : List Value} (hx : a.eval x = .slice (some ad) m c) (hl : news.length = m * size) (hn : ∀ j u, news[j]? = some u → w.cell? (ad.add j) = some u) (h1 : ∀ u ∈ news, u.oneCell' = true) (hm : 0 < m) (h63 : n + m ≤ maxLen) (hb : (n + m) * bytes ≤ 140737488355328)
    (h : ∀ v' w', w'.ownsRow w.heap.size e size v' (n + m) (olds ++ news) → w.grownBy w' none → wpList P ops Q rest (a.put o.dst v') w') : wpList P ops Q (o :: rest) a w := by
  obtain ⟨v', w', hrun, r1, r2⟩ := run_append_full E w o.type (c := c) ho hl hn h1 hm h63 hb
  unfold wpList
  rw [if_pos hw]
  refine .inl ?_
  unfold Oper.wp execOp
  simp only [hop, resolve, invoke, builtin, Sem.run_bind, Sem.run_pure, Result.andThen_ok, List.map_toArray, List.map_cons, List.map_nil, hs, hx, hrun]
  exact h v' w' r1 r2

theorem App.kp {P : Nat → Prop} {w w' : World} {base e sz n : Nat} {v : Value} {xs : List Value} (h : App w base e sz v n xs) (hk : Kp P w w') (hP : ∀ k, v.ownBlock = some k → P k) : App w' base e sz v n xs := by
  rcases h with h | ⟨B, rfl, h⟩
  · exact .inl (own_kp h hk hP)
  · exact .inr ⟨B, rfl, h.kp hk (fun ad e => by subst e; exact hP _ rfl)⟩

/-- append of one element onto such a slice. -/
theorem wpList_append_app {P : Program} {w : World} {ops : Array Oper} {rest : List Oper} {o : Oper} {a : Act} {Q : Exit → Act → World → Prop} (hw : Region.wanted o (yielded ops a.tmps) = true) (s x : Operand) {t e : TypeId} {size bytes : Nat}
    (hop : o.op = .call { callee := .builtin .append, args := #[s, x], argTypes := #[t, t] }) (E : Elem P t e size bytes) {base n : Nat} {v : Value} {xs : List Value} (hs : a.eval s = v) (happ : App w base e size v n xs)
    {ad : Addr} {m c : Nat} {news : List Value} (hx : a.eval x = .slice (some ad) m c) (hl : news.length = m * size) (hn : ∀ j u, news[j]? = some u → w.cell? (ad.add j) = some u) (h1 : ∀ u ∈ news, u.oneCell' = true) (hm : 0 < m)
    (h63 : n + m ≤ maxLen) (hb : (n + m) * bytes ≤ 140737488355328) (hbase : base ≤ w.heap.size)
    (h : ∀ v' w', w'.ownsRow base e size v' (n + m) (xs ++ news) → w.grownBy w' v.ownBlock → (∀ k, v'.ownBlock = some k → v.ownBlock = some k ∨ w.heap.size ≤ k) → wpList P ops Q rest (a.put o.dst v') w') : wpList P ops Q (o :: rest) a w := by
  rcases happ with hown | ⟨B, rfl, hrd⟩
  · have hp := E.pos
    have hlt : 0 < news.length := by rw [hl]; exact Nat.mul_pos hm hp
    have hr : Rd w size (some ad) m news := ⟨hl, fun _ => ⟨ad, rfl, by
      have := World.block_lt_of_cell? _ _ (hn 0 _ (List.getElem?_eq_getElem hlt))
      rwa [add_block] at this, hn⟩⟩
    refine wpList_append_rd hw s x hop E hs hown hx hr h1 h63 hb hbase fun v' w' r1 r2 r3 => h v' w' r1 r2 fun k hk => ?_
    rcases r3 with e | e
    · exact .inl (e.symm.trans hk)
    · rw [e] at hk; injection hk with hk; exact .inr (by omega)
  · refine wpList_append_full hw s x hop E hs hrd hx hl hn h1 hm h63 hb fun v' w' r1 r2 => ?_
    exact h v' w' (own_base r1 hbase) ⟨r2.os, r2.tape, r2.output, r2.size, fun k hk _ => r2.block k hk (by simp)⟩ fun k hk => .inr (r1.lt k hk).1

theorem rd_lit (w : World) (t : TypeId) (cs : List Value) (n : Nat) (h : cs.length = n) : Rd (w.alloc (.cells cs.toArray t)) 1 (some ⟨w.heap.size, 0, none⟩) n cs := by
  refine ⟨by simpa using h, fun _ => ⟨_, rfl, by simp, fun j u hu => ?_⟩⟩
  have e : (⟨w.heap.size, 0, none⟩ : Addr).add j = ⟨w.heap.size, j, none⟩ := by unfold Addr.add; split <;> simp_all
  rw [e]
  rw [cell_of_row _ _ _ _ t (0, 0) (heap_alloc_new w _)]
  simpa using hu

theorem ret_int {k : IntKind} {a b : Int} (h : a = b) : Ending.returned (.int k a) = .returned (.int k b) := by rw [h]
theorem ret_bool {a b : Bool} (h : a = b) : Ending.returned (.bool a) = .returned (.bool b) := by rw [h]

/-! ## Texts -/

/-- The value of a text. -/
def txt (l : List UInt8) : Value := .string ⟨l.toArray⟩
def txts (ls : List (List UInt8)) : List Value := ls.map txt

theorem toList_mk (l : List UInt8) : (⟨l.toArray⟩ : ByteArray).toList = l := by rw [ByteArray.toList_eq]
theorem size_mk (l : List UInt8) : (⟨l.toArray⟩ : ByteArray).size = l.length := by simp [ByteArray.size]
theorem mk_toList (s : ByteArray) : (⟨s.toList.toArray⟩ : ByteArray) = s := by rw [ByteArray.toList_eq]
theorem size_toList (s : ByteArray) : s.size = s.toList.length := by rw [ByteArray.toList_eq, Array.length_toList]; rfl
theorem txt_toList (s : ByteArray) : txt s.toList = .string s := by unfold txt; rw [mk_toList]
theorem get_list (s : ByteArray) (k : Nat) (h : k < s.size) : s.toList[k]? = some s[k] := by
  rw [ByteArray.toList_eq, Array.getElem?_toList]
  exact Array.getElem?_eq_getElem h
theorem list_get (s : ByteArray) (k : Nat) (h : k < s.toList.length) : s.toList[k] = s[k]'(by rw [size_toList]; exact h) := by
  have := get_list s k (by rw [size_toList]; exact h)
  rw [List.getElem?_eq_getElem h] at this
  injection this
theorem app_list (a b : ByteArray) : (a ++ b).toList = a.toList ++ b.toList := by rw [ByteArray.toList_eq, ByteArray.toList_eq, ByteArray.toList_eq]; simp
theorem extract_list (s : ByteArray) (a b : Nat) : (s.extract a b).toList = (s.toList.drop a).take (b - a) := by
  rw [ByteArray.toList_eq, ByteArray.toList_eq, Lib.extract_data]
theorem txts_length (ls : List (List UInt8)) : (txts ls).length = ls.length := by simp [txts]
theorem txts_get (ls : List (List UInt8)) (k : Nat) : (txts ls)[k]? = ls[k]?.map txt := by simp [txts]
theorem txts_append (a b : List (List UInt8)) : txts (a ++ b) = txts a ++ txts b := by simp [txts]
theorem txts_one (ls : List (List UInt8)) : ∀ u ∈ txts ls, u.oneCell' = true := by
  intro u hu
  simp only [txts, List.mem_map] at hu
  obtain ⟨l, _, rfl⟩ := hu
  rfl

/-- Reading a list of texts. -/
theorem Rd.txt_at {w : World} {A : Option Addr} {n : Nat} {ls : List (List UInt8)} (h : Rd w 1 A n (txts ls)) {k : Nat} (hk : k < n) :
    ∃ (ad : Addr) (l : List UInt8), A = some ad ∧ ad.block < w.heap.size ∧ ls[k]? = some l ∧ w.cell? (ad.add k) = some (.string ⟨l.toArray⟩) := by
  obtain ⟨ad, u, e, hb, hx, hc⟩ := h.at1 hk
  rw [txts_get] at hx
  cases hl : ls[k]? with
  | none => rw [hl] at hx; cases hx
  | some l =>
    rw [hl] at hx
    simp only [Option.map_some] at hx
    injection hx with hx
    subst hx
    exact ⟨ad, l, e, hb, rfl, hc⟩

/-- The same, the text as it lies. -/
theorem Rd.str_at {w : World} {A : Option Addr} {n : Nat} {ls : List (List UInt8)} (h : Rd w 1 A n (txts ls)) {k : Nat} (hk : k < n) :
    ∃ (ad : Addr) (b : ByteArray), A = some ad ∧ ad.block < w.heap.size ∧ ls[k]? = some b.toList ∧ w.cell? (ad.add k) = some (.string b) := by
  obtain ⟨ad, l, e, hb, hl, hc⟩ := h.txt_at hk
  exact ⟨ad, ⟨l.toArray⟩, e, hb, by rw [toList_mk]; exact hl, hc⟩

theorem Rd.txt_len {w : World} {A : Option Addr} {n : Nat} {ls : List (List UInt8)} (h : Rd w 1 A n (txts ls)) : ls.length = n := by have := h.1; rw [txts_length] at this; omega

end Go.Proofs.YtmaadimodjnnlaaGreatDoor
