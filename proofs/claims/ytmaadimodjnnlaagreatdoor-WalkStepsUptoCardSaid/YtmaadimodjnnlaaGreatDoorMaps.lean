/-
  Maps as lists of entries, oldest first: what the operations on a map do to the list. No program in it.
-/
import Derived.Test.YtmaadimodjnnlaaGreatDoorLib
import Derived.Maps.RangeWalk
namespace Go.Proofs.YtmaadimodjnnlaaGreatDoor
open Go.RowKit
open Go.MapKept
open Go.ChangeMaps (setBlock heap_setBlock_same heap_setBlock_other)

/-! ## Lists of entries -/
section
variable {κ ν : Type} [DecidableEq κ]

def alGet : List (κ × ν) → κ → Option ν
  | [], _ => none
  | p :: r, a => if p.1 = a then some p.2 else alGet r a
def alPut : List (κ × ν) → κ → ν → List (κ × ν)
  | [], a, v => [(a, v)]
  | p :: r, a, v => if p.1 = a then (a, v) :: r else p :: alPut r a v
def alDel (l : List (κ × ν)) (a : κ) : List (κ × ν) := l.filter fun p => !decide (p.1 = a)

theorem alGet_none {l : List (κ × ν)} {a : κ} : alGet l a = none ↔ ∀ p ∈ l, p.1 ≠ a := by
  induction l with
  | nil => simp [alGet]
  | cons p r ih =>
    unfold alGet
    by_cases h : p.1 = a
    · simp [h]
    · simp [h, ih]

theorem alGet_mem {l : List (κ × ν)} {a : κ} {v : ν} (h : alGet l a = some v) : (a, v) ∈ l := by
  induction l with
  | nil => simp [alGet] at h
  | cons p r ih =>
    unfold alGet at h
    by_cases e : p.1 = a
    · rw [if_pos e] at h
      injection h with h
      subst h
      subst e
      exact .head _
    · rw [if_neg e] at h
      exact .tail _ (ih h)

theorem alGet_of_mem {l : List (κ × ν)} (hn : (l.map Prod.fst).Nodup) {p : κ × ν} (h : p ∈ l) : alGet l p.1 = some p.2 := by
  induction l with
  | nil => cases h
  | cons q r ih =>
    simp only [List.map_cons, List.nodup_cons, List.mem_map, not_exists, not_and] at hn
    unfold alGet
    rcases List.mem_cons.1 h with rfl | h'
    · rw [if_pos rfl]
    · rw [if_neg (fun e => hn.1 p h' e.symm)]
      exact ih hn.2 h'

theorem alGet_put (l : List (κ × ν)) (a : κ) (v : ν) (b : κ) : alGet (alPut l a v) b = if a = b then some v else alGet l b := by
  induction l with
  | nil => simp [alPut, alGet]
  | cons p r ih =>
    unfold alPut
    by_cases h : p.1 = a
    · rw [if_pos h]
      by_cases hb : a = b
      · simp [alGet, hb]
      · have : p.1 ≠ b := fun e => hb (h.symm.trans e)
        simp [alGet, hb, this]
    · rw [if_neg h]
      by_cases hb : p.1 = b
      · have : a ≠ b := fun e => h (hb.trans e.symm)
        simp [alGet, hb, this]
      · simp [alGet, hb, ih]

theorem alGet_del (l : List (κ × ν)) (a b : κ) : alGet (alDel l a) b = if a = b then none else alGet l b := by
  induction l with
  | nil => simp [alDel, alGet]
  | cons p r ih =>
    unfold alDel at *
    by_cases h : p.1 = a
    · rw [List.filter_cons_of_neg (by simp [h]), ih]
      by_cases hb : a = b
      · simp [hb]
      · simp [hb, alGet, show p.1 ≠ b from fun e => hb (h.symm.trans e)]
    · rw [List.filter_cons_of_pos (by simp [h])]
      by_cases hb : p.1 = b
      · simp [alGet, hb, show a ≠ b from fun e => h (hb.trans e.symm)]
      · simp [alGet, hb, ih]

theorem alPut_new {l : List (κ × ν)} {a : κ} (h : alGet l a = none) (v : ν) : alPut l a v = l ++ [(a, v)] := by
  induction l with
  | nil => rfl
  | cons p r ih =>
    unfold alGet at h
    by_cases e : p.1 = a
    · simp [e] at h
    · rw [if_neg e] at h
      unfold alPut
      rw [if_neg e, ih h]
      rfl

theorem alPut_old {l : List (κ × ν)} (hn : (l.map Prod.fst).Nodup) {a : κ} {j : Nat} {u : ν} (h : l[j]? = some (a, u)) (v : ν) : alPut l a v = l.set j (a, v) := by
  induction l generalizing j with
  | nil => simp at h
  | cons p r ih =>
    simp only [List.map_cons, List.nodup_cons, List.mem_map, not_exists, not_and] at hn
    unfold alPut
    cases j with
    | zero =>
      simp only [List.getElem?_cons_zero] at h
      injection h with h
      subst h
      simp
    | succ j =>
      simp only [List.getElem?_cons_succ] at h
      have : p.1 ≠ a := fun e => hn.1 (a, u) (List.mem_of_getElem? h) e.symm
      rw [if_neg this, ih hn.2 h]
      rfl

theorem alDel_none {l : List (κ × ν)} {a : κ} (h : ∀ p ∈ l, p.1 ≠ a) : alDel l a = l := by
  unfold alDel
  exact List.filter_eq_self.2 fun p hp => by simp [h p hp]

theorem alDel_at {l : List (κ × ν)} (hn : (l.map Prod.fst).Nodup) {a : κ} {j : Nat} {u : ν} (h : l[j]? = some (a, u)) : alDel l a = l.eraseIdx j := by
  induction l generalizing j with
  | nil => simp at h
  | cons p r ih =>
    simp only [List.map_cons, List.nodup_cons, List.mem_map, not_exists, not_and] at hn
    cases j with
    | zero =>
      simp only [List.getElem?_cons_zero] at h
      injection h with h
      subst h
      simp only [List.eraseIdx_cons_zero]
      have := alDel_none (l := r) (a := a) (fun q hq e => hn.1 q hq e)
      unfold alDel at this ⊢
      rw [List.filter_cons_of_neg (by simp), this]
    | succ j =>
      simp only [List.getElem?_cons_succ] at h
      have : p.1 ≠ a := fun e => hn.1 (a, u) (List.mem_of_getElem? h) e.symm
      have ih' := ih hn.2 h
      unfold alDel at ih' ⊢
      rw [List.filter_cons_of_pos (by simp [this]), ih']
      rfl

theorem alKeys_put (l : List (κ × ν)) (a : κ) (v : ν) : (alPut l a v).map Prod.fst = if alGet l a = none then l.map Prod.fst ++ [a] else l.map Prod.fst := by
  induction l with
  | nil => simp [alPut, alGet]
  | cons p r ih =>
    unfold alPut alGet
    by_cases h : p.1 = a
    · simp [h]
    · simp only [if_neg h, List.map_cons, ih]
      split <;> simp

theorem alNodup_put {l : List (κ × ν)} (hn : (l.map Prod.fst).Nodup) (a : κ) (v : ν) : ((alPut l a v).map Prod.fst).Nodup := by
  rw [alKeys_put]
  split
  · rename_i h
    refine List.nodup_append.2 ⟨hn, by simp, ?_⟩
    intro x hx y hy
    simp only [List.mem_singleton] at hy
    subst hy
    obtain ⟨p, hp, rfl⟩ := List.mem_map.1 hx
    exact alGet_none.1 h p hp
  · exact hn

theorem alNodup_del {l : List (κ × ν)} (hn : (l.map Prod.fst).Nodup) (a : κ) : ((alDel l a).map Prod.fst).Nodup := by
  have : (alDel l a).Sublist l := List.filter_sublist
  exact (this.map _).nodup hn

theorem alLen_put (l : List (κ × ν)) (a : κ) (v : ν) : (alPut l a v).length = if alGet l a = none then l.length + 1 else l.length := by
  have := congrArg List.length (alKeys_put l a v)
  simp only [List.length_map] at this
  rw [this]
  split <;> simp

theorem alMem_del {l : List (κ × ν)} {a : κ} {p : κ × ν} : p ∈ alDel l a ↔ p ∈ l ∧ p.1 ≠ a := by simp [alDel]

theorem alDel_perm {l l' : List (κ × ν)} (h : l.Perm l') (a : κ) : (alDel l a).Perm (alDel l' a) := h.filter _
end

/-! ## Keys -/

/-- What the operations on a map ask of its key type. -/
structure KeyT (P : Program) (k : TypeId) (K : Value → Prop) : Prop where
  check : ∀ (w : World) (em : Bool) {v : Value}, K v → (Instr.checkKey em 10000 k v).run P w = .ok () w
  find : ∀ (w : World) {x : Value}, K x → ∀ es : List MapEntry, (∀ e ∈ es, K e.key) →
    ((Instr.findKey k x es).run P w = .ok none w ∧ ∀ e ∈ es, e.key ≠ x) ∨ ∃ j e, (Instr.findKey k x es).run P w = .ok (some (j, e.val)) w ∧ es[j]? = some e ∧ e.key = x
  stays : ∀ (w : World) {v : Value}, K v → (Instr.keyThatStays v v).run P w = .ok v w

theorem keyT_plain {P : Program} {k : TypeId} {d : TypeDesc} (hk : P.underlying k = some d) : KeyT P k (IsKey d) where
  check w em _ h := run_checkKey hk h em 9999
  find w x hx es hes := by
    rcases findNow_spec hx es 0 hes with ⟨h1, h2⟩ | ⟨j, e0, h1, h2, h3⟩
    · exact Or.inl ⟨run_findKey hk h1, h2⟩
    · exact Or.inr ⟨j, e0, by simpa using run_findKey hk h1, h2, h3⟩
  stays w _ h := run_keyThatStays h

/-- Keys of the type k spelt by kv. -/
structure KeyK (P : Program) (k : TypeId) {κ : Type} (kv : κ → Value) : Prop where
  inj : ∀ {a b : κ}, kv a = kv b → a = b
  law : KeyT P k (fun v => ∃ a, v = kv a)

theorem KeyT.mono {P : Program} {k : TypeId} {K L : Value → Prop} (h : KeyT P k K) (hl : ∀ v, L v → K v) : KeyT P k L where
  check w em _ hv := h.check w em (hl _ hv)
  find w _ hx es hes := h.find w (hl _ hx) es fun e he => hl _ (hes e he)
  stays w _ hv := h.stays w (hl _ hv)

def vI (a : Int) : Value := .int .i64 a
def vS (s : ByteArray) : Value := .string s

theorem keyK_int {P : Program} {k : TypeId} (hk : P.underlying k = some (.int .i64)) : KeyK P k vI :=
  ⟨fun h => by injection h, (keyT_plain hk).mono fun v ⟨a, e⟩ => by subst e; rfl⟩
theorem keyK_str {P : Program} {k : TypeId} (hk : P.underlying k = some .string) : KeyK P k vS :=
  ⟨fun h => by injection h, (keyT_plain hk).mono fun v ⟨a, e⟩ => by subst e; trivial⟩

/-! ## The block -/
section
variable {κ ν : Type}

/-- The block b is a map with these entries, oldest first. -/
def MapT (kv : κ → Value) (vv : ν → Value) (w : World) (b : Nat) (l : List (κ × ν)) : Prop :=
  ∃ es clock, w.heap[b]? = some (.map es clock) ∧ Stamped es clock ∧ es.toList.map (fun e => (e.key, e.val)) = l.map (fun p => (kv p.1, vv p.2))

/-- The block r is an iterator over the map b; rem has not come out yet, in whatever order; nothing was laid in since it began. -/
def MapI (kv : κ → Value) (vv : ν → Value) (w : World) (r b : Nat) (l rem : List (κ × ν)) : Prop :=
  ∃ es clock seen, w.heap[b]? = some (.map es clock) ∧ Stamped es clock ∧ es.toList.map (fun e => (e.key, e.val)) = l.map (fun p => (kv p.1, vv p.2)) ∧
    w.heap[r]? = some (.mapIter (some b) clock seen clock) ∧ ((leftOf es seen).toList.map (fun e => (e.key, e.val))).Perm (rem.map (fun p => (kv p.1, vv p.2)))

variable {P : Program} {k : TypeId} {kv : κ → Value} {vv : ν → Value} {w w' : World} {b r : Nat} {l rem : List (κ × ν)}

theorem MapT.made (kv : κ → Value) (vv : ν → Value) (w : World) : MapT kv vv (w.alloc (.map #[] 0)) w.heap.size ([] : List (κ × ν)) :=
  ⟨#[], 0, (MapKept.heap_alloc w _).1, stamped_empty 0, rfl⟩

theorem MapT.lt (h : MapT kv vv w b l) : b < w.heap.size := by
  obtain ⟨es, clock, hb, _⟩ := h
  exact (Array.getElem?_eq_some_iff.1 hb).1

theorem MapT.of_heap (h : MapT kv vv w b l) (he : w'.heap[b]? = w.heap[b]?) : MapT kv vv w' b l := by
  obtain ⟨es, clock, hb, r⟩ := h
  exact ⟨es, clock, he.trans hb, r⟩

theorem MapT.kp {Q : Nat → Prop} (h : MapT kv vv w b l) (hk : Kp Q w w') (hQ : Q b) : MapT kv vv w' b l := h.of_heap (hk.block b hQ h.lt)
theorem MapT.below (h : MapT kv vv w b l) (hb : Below w.heap.size w w') : MapT kv vv w' b l := h.of_heap (hb.block b h.lt)
theorem MapT.alloc (h : MapT kv vv w b l) (o : Obj) : MapT kv vv (w.alloc o) b l := h.of_heap ((MapKept.heap_alloc w o).2 b h.lt)
theorem MapT.grown {row : Option Nat} (h : MapT kv vv w b l) (hg : w.grownBy w' row) (hne : some b ≠ row) : MapT kv vv w' b l := h.of_heap (hg.block b h.lt hne)

theorem MapI.map (h : MapI kv vv w r b l rem) : MapT kv vv w b l := by
  obtain ⟨es, clock, seen, h1, h2, h3, _⟩ := h
  exact ⟨es, clock, h1, h2, h3⟩
theorem MapI.lt (h : MapI kv vv w r b l rem) : r < w.heap.size := by
  obtain ⟨es, clock, seen, _, _, _, hr, _⟩ := h
  exact (Array.getElem?_eq_some_iff.1 hr).1
theorem MapI.ne (h : MapI kv vv w r b l rem) : r ≠ b := by
  obtain ⟨es, clock, seen, hb, _, _, hr, _⟩ := h
  intro e
  rw [e, hb] at hr
  cases hr
theorem MapI.of_heap (h : MapI kv vv w r b l rem) (hb : w'.heap[b]? = w.heap[b]?) (hr : w'.heap[r]? = w.heap[r]?) : MapI kv vv w' r b l rem := by
  obtain ⟨es, clock, seen, h1, h2, h3, h4, h5⟩ := h
  exact ⟨es, clock, seen, hb.trans h1, h2, h3, hr.trans h4, h5⟩
theorem MapI.kp {Q : Nat → Prop} (h : MapI kv vv w r b l rem) (hk : Kp Q w w') (hb : Q b) (hr : Q r) : MapI kv vv w' r b l rem :=
  h.of_heap (hk.block b hb h.map.lt) (hk.block r hr h.lt)
theorem MapI.grown {row : Option Nat} (h : MapI kv vv w r b l rem) (hg : w.grownBy w' row) (hb : some b ≠ row) (hr : some r ≠ row) : MapI kv vv w' r b l rem :=
  h.of_heap (hg.block b h.map.lt hb) (hg.block r h.lt hr)

theorem nodup_of_map {α β : Type} (f : α → β) {l : List α} (h : (l.map f).Nodup) : l.Nodup := by
  unfold List.Nodup at h ⊢
  rw [List.pairwise_map] at h
  exact h.imp fun h e => h (by rw [e])

/-- No key stands twice. -/
theorem MapT.nodup (h : MapT kv vv w b l) : (l.map Prod.fst).Nodup := by
  obtain ⟨es, clock, hb, ⟨_, _, hn⟩, he⟩ := h
  have e1 : es.toList.map (·.key) = (l.map Prod.fst).map kv := by
    have := congrArg (List.map Prod.fst) he
    simpa [List.map_map, Function.comp_def] using this
  rw [e1] at hn
  exact nodup_of_map kv hn

theorem map_entry {es : List MapEntry} {l : List (κ × ν)} (he : es.map (fun e => (e.key, e.val)) = l.map (fun p => (kv p.1, vv p.2))) {j : Nat} {e : MapEntry} (hj : es[j]? = some e) :
    ∃ p, l[j]? = some p ∧ e.key = kv p.1 ∧ e.val = vv p.2 := by
  have := congrArg (fun x => x[j]?) he
  simp only [List.getElem?_map, hj, Option.map_some] at this
  cases hl : l[j]? with
  | none => rw [hl] at this; cases this
  | some p =>
    rw [hl] at this
    simp only [Option.map_some, Option.some.injEq, Prod.mk.injEq] at this
    exact ⟨p, rfl, this.1, this.2⟩

theorem map_keys {es : List MapEntry} {l : List (κ × ν)} (he : es.map (fun e => (e.key, e.val)) = l.map (fun p => (kv p.1, vv p.2))) : ∀ e ∈ es, ∃ a, e.key = kv a := by
  intro e hm
  obtain ⟨j, hj⟩ := List.getElem?_of_mem hm
  obtain ⟨p, _, h, _⟩ := map_entry he hj
  exact ⟨_, h⟩

theorem map_set {es : List MapEntry} (he : es.map (fun e => (e.key, e.val)) = l.map (fun p => (kv p.1, vv p.2))) (j : Nat) (a : κ) (v : ν) (n : Nat) :
    (es.set j ⟨kv a, vv v, n⟩).map (fun e => (e.key, e.val)) = (l.set j (a, v)).map (fun p => (kv p.1, vv p.2)) := by
  rw [List.map_set, List.map_set, he]

theorem MapT.clear {t e ty : TypeId} (h : MapT kv vv w b l) (ht : P.underlying t = some (.map k e)) :
    ∃ w', (Builtin.clear_ #[t] ty #[.map (some b)]).run P w = .ok (.tuple #[]) w' ∧ MapT kv vv w' b [] ∧ w.mapTurned w' b := by
  obtain ⟨es, clock, hb, hs, he⟩ := h
  refine ⟨setBlock w b (.map #[] clock), ?_, ⟨_, _, heap_setBlock_same hb _, stamped_empty _, rfl⟩, ⟨es, clock, _, _, hb, rfl⟩⟩
  simp [Builtin.clear_, run_underlying ht, MapKept.run_getObj_map hb, MapKept.run_setObj_map _ hb, Result.andThen, setBlock]

theorem MapT.len {t e ty : TypeId} (h : MapT kv vv w b l) (ht : P.underlying t = some (.map k e)) : (Builtin.len_ #[t] ty #[.map (some b)]).run P w = .ok (.int .i64 l.length) w := by
  obtain ⟨es, clock, hb, hs, he⟩ := h
  have : es.size = l.length := by simpa using congrArg List.length he
  simp [Builtin.len_, run_underlying ht, MapKept.run_getObj_map hb, goInt, Result.andThen, this]

theorem MapT.range {t e : TypeId} (h : MapT kv vv w b l) (ht : P.underlying t = some (.map k e)) :
    ∃ w', (Instr.range t (.map (some b))).run P w = .ok (.pointer (some ⟨w.heap.size, 0, none⟩)) w' ∧ MapI kv vv w' w.heap.size b l l ∧ Below w.heap.size w w' := by
  have hlt := h.lt
  obtain ⟨es, clock, hb, hs, he⟩ := h
  refine ⟨_, run_range_map w t k e b es clock ht hb, ⟨es, clock, #[], ((MapKept.heap_alloc w _).2 b hlt).trans hb, hs, he, (MapKept.heap_alloc w _).1, ?_⟩, (Below.refl _ _).alloc (Nat.le_refl _) _⟩
  have : (leftOf es #[]).toList = es.toList := by simp [leftOf]
  rw [this, he]

theorem perm_of_map_perm {α β : Type} (f : α → β) {x : β} {as : List α} {bs : List β} (h : (x :: bs).Perm (as.map f)) : ∃ a as', as.Perm (a :: as') ∧ f a = x ∧ bs.Perm (as'.map f) := by
  have hx : x ∈ as.map f := h.mem_iff.1 (.head _)
  obtain ⟨a, ha, rfl⟩ := List.mem_map.1 hx
  obtain ⟨s, t, rfl⟩ := List.append_of_mem ha
  refine ⟨a, s ++ t, List.perm_middle, rfl, ?_⟩
  have h2 : ((s ++ a :: t).map f).Perm (f a :: (s ++ t).map f) := List.perm_middle.map f
  exact (List.perm_cons (f a)).1 (h.trans h2)

theorem left_push {es : Array MapEntry} {seen : Array Nat} {e : MapEntry} (hn : (es.toList.map (·.born)).Nodup) (he : e ∈ (leftOf es seen).toList) :
    (leftOf es seen).toList.Perm (e :: (leftOf es (seen.push e.born)).toList) := by
  obtain ⟨hem, hes⟩ := mem_left he
  have e1 : ∀ s : Array Nat, (leftOf es s).toList = es.toList.filter (fun e => !s.contains e.born) := fun s => by simp [leftOf]
  rw [e1, e1]
  obtain ⟨s, t, hst⟩ := List.append_of_mem hem
  rw [hst] at hn ⊢
  rw [List.map_append, List.map_cons] at hn
  have hns := List.nodup_append.1 hn
  have hnt := List.nodup_cons.1 hns.2.1
  have hs : ∀ x ∈ s, x.born ≠ e.born := fun x hx => hns.2.2 _ (List.mem_map.2 ⟨x, hx, rfl⟩) _ (.head _)
  have ht : ∀ x ∈ t, x.born ≠ e.born := fun x hx q => hnt.1 (List.mem_map.2 ⟨x, hx, q⟩)
  rw [List.filter_append, List.filter_append, List.filter_cons_of_pos (by rw [hes]; rfl), List.filter_cons_of_neg (by simp)]
  have f1 : ∀ u : List MapEntry, (∀ x ∈ u, x.born ≠ e.born) → u.filter (fun x => !(seen.push e.born).contains x.born) = u.filter (fun x => !seen.contains x.born) := fun u hu =>
    List.filter_congr fun x hx => by rw [contains_push]; simp [hu x hx]
  rw [f1 s hs, f1 t ht]
  exact List.perm_middle

/-- The loop's step: either nothing is left, or an entry comes out that had not come yet. -/
theorem MapI.next (h : MapI kv vv w r b l rem) (ty : TypeId) :
    (rem = [] ∧ (Instr.next (.pointer (some ⟨r, 0, none⟩)) false ty).run P w = .ok (.tuple #[.bool false]) w) ∨
    ∃ p rem' w', rem.Perm (p :: rem') ∧ (Instr.next (.pointer (some ⟨r, 0, none⟩)) false ty).run P w = .ok (.tuple #[.bool true, kv p.1, vv p.2]) w' ∧ MapI kv vv w' r b l rem' ∧ w.grownBy w' (some r) ∧
      (Instr.entry (.pointer (some ⟨r, 0, none⟩))).run P w' = .ok (.tuple #[kv p.1, vv p.2]) w' := by
  have hne := h.ne
  obtain ⟨es, clock, seen, hb, hs, he, hr, hp⟩ := h
  rcases run_next_at (P := P) w ty r b clock clock seen es clock hr hb hs.1 (Nat.le_refl _) with ⟨h0, hrun⟩ | ⟨e, hm, w1, hal, hrun⟩
  · refine .inl ⟨?_, hrun⟩
    have e0 : (leftOf es seen).toList = [] := List.eq_nil_of_length_eq_zero (by simpa using h0)
    rw [e0] at hp
    have := hp.length_eq
    exact List.eq_nil_of_length_eq_zero (by simpa using this.symm)
  · have hperm := ((left_push hs.2.1 hm).map (fun e => (e.key, e.val))).symm.trans hp
    obtain ⟨p, rem', hrem, hf, hp'⟩ := perm_of_map_perm _ hperm
    simp only [Prod.mk.injEq] at hf
    have hr1 : w1.heap[r]? = some (.mapIter (some b) clock seen clock) := by rcases hal with rfl | rfl <;> exact hr
    have hb1 : w1.heap[b]? = some (.map es clock) := by rcases hal with rfl | rfl <;> exact hb
    have hset := MapKept.heap_set (o' := .mapIter (some b) clock (seen.push e.born) clock) hr1
    have hb' : (setBlock w1 r (.mapIter (some b) clock (seen.push e.born) clock)).heap[b]? = some (.map es clock) := (hset.2 b (fun e1 => hne e1.symm)).trans hb1
    refine .inr ⟨p, rem', _, hrem, by rw [hf.1, hf.2]; exact hrun, ⟨es, clock, _, hb', hs, he, hset.1, hp'⟩, ?_, ?_⟩
    · rcases hal with rfl | rfl <;> exact ⟨rfl, rfl, rfl, by simp [setBlock], fun i _ hi => hset.2 i (fun e1 => hi (by rw [e1]))⟩
    · rw [hf.1, hf.2]
      exact run_entry_at _ r b clock seen es clock e hset.1 hb' (mem_left hm).1 hs.2.1

/-- 'maps.Clone': a new block with the same entries. -/
theorem MapT.cloned {es : Array MapEntry} {clock : Nat} (h : MapT kv vv w b l) (hb : w.heap[b]? = some (.map es clock)) {b' : Nat} (h' : w'.heap[b']? = some (.map es clock)) : MapT kv vv w' b' l := by
  obtain ⟨es', clock', hb', hs, he⟩ := h
  rw [hb] at hb'
  cases hb'
  exact ⟨es, clock, h', hs, he⟩
variable [DecidableEq κ]

/-- A search in the block. -/
theorem map_find (K : KeyK P k kv) (w : World) {es : List MapEntry} (he : es.map (fun e => (e.key, e.val)) = l.map (fun p => (kv p.1, vv p.2))) (hn : (l.map Prod.fst).Nodup) (a : κ) :
    ((Instr.findKey k (kv a) es).run P w = .ok none w ∧ alGet l a = none ∧ ∀ e ∈ es, e.key ≠ kv a) ∨
    ∃ j e u, (Instr.findKey k (kv a) es).run P w = .ok (some (j, vv u)) w ∧ es[j]? = some e ∧ l[j]? = some (a, u) ∧ e.key = kv a ∧ e.val = vv u ∧ alGet l a = some u := by
  rcases K.law.find w ⟨a, rfl⟩ es (map_keys he) with ⟨h1, h2⟩ | ⟨j, e, h1, h2, h3⟩
  · refine .inl ⟨h1, alGet_none.2 fun p hp e0 => ?_, h2⟩
    obtain ⟨j, hj⟩ := List.getElem?_of_mem hp
    have hx := congrArg (fun x => x[j]?) he
    simp only [List.getElem?_map, hj, Option.map_some] at hx
    cases hes : es[j]? with
    | none => rw [hes] at hx; cases hx
    | some e =>
      rw [hes] at hx
      simp only [Option.map_some, Option.some.injEq, Prod.mk.injEq] at hx
      exact h2 e (List.mem_of_getElem? hes) (by rw [hx.1, e0])
  · obtain ⟨p, hp, hk, hv⟩ := map_entry he h2
    obtain ⟨q, u⟩ := p
    have hq : q = a := K.inj (hk.symm.trans h3)
    subst hq
    exact .inr ⟨j, e, u, by rw [h1, hv], h2, hp, h3, hv, alGet_of_mem hn (List.mem_of_getElem? hp)⟩

theorem MapT.lookup {t e : TypeId} (h : MapT kv vv w b l) (K : KeyK P k kv) (ht : P.underlying t = some (.map k e)) {z : Value} (hz : (zeroValue e).run P w = .ok z w) (a : κ) (c : Bool) :
    (Instr.lookup t (.map (some b)) (kv a) c).run P w = .ok (if c then .tuple #[((alGet l a).map vv).getD z, .bool (alGet l a).isSome] else ((alGet l a).map vv).getD z) w := by
  have hn := h.nodup
  obtain ⟨es, clock, hb, _, he⟩ := h
  rcases map_find K w he hn a with ⟨h1, h2, _⟩ | ⟨j, e0, u, h1, _, _, _, _, h2⟩
  · simp [Instr.lookup, run_underlying ht, MapKept.run_getObj_map hb, K.law.check w _ ⟨a, rfl⟩, h1, h2, hz, Result.andThen]
  · simp [Instr.lookup, run_underlying ht, MapKept.run_getObj_map hb, K.law.check w _ ⟨a, rfl⟩, h1, h2, Result.andThen]

theorem MapT.update {t e : TypeId} (h : MapT kv vv w b l) (K : KeyK P k kv) (ht : P.underlying t = some (.map k e)) (a : κ) (v : ν) :
    ∃ w', (Instr.mapUpdate t (.map (some b)) (kv a) (vv v)).run P w = .ok () w' ∧ MapT kv vv w' b (alPut l a v) ∧ w.mapTurned w' b := by
  have hn := h.nodup
  obtain ⟨es, clock, hb, hs, he⟩ := h
  rcases map_find K w he hn a with ⟨h1, h2, h3⟩ | ⟨j, e0, u, h1, h2, h3, h4, h5, h6⟩
  · refine ⟨setBlock w b (.map (es.push ⟨kv a, vv v, clock⟩) (clock + 1)), ?_, ⟨_, _, heap_setBlock_same hb _, stamped_push hs h3, ?_⟩, ⟨es, clock, _, _, hb, rfl⟩⟩
    · simp [Instr.mapUpdate, run_underlying ht, MapKept.run_getObj_map hb, K.law.check w false ⟨a, rfl⟩, h1, MapKept.run_setObj_map _ hb, Result.andThen, setBlock]
    · rw [alPut_new h2, Array.toList_push, List.map_append, List.map_append, he]
      rfl
  · have hj : es[j]? = some e0 := by simpa using h2
    have hkeyf : ∀ e', es[j]? = some e' → ({ e' with key := kv a, val := vv v } : MapEntry).key = e'.key := fun e' he' => by rw [hj] at he'; cases he'; exact h4.symm
    refine ⟨setBlock w b (.map (es.modify j (fun e' => { e' with key := kv a, val := vv v })) clock), ?_, ⟨_, _, heap_setBlock_same hb _, stamped_modify hs _ _ (fun _ _ => rfl) (fun e' _ he' => hkeyf e' he'), ?_⟩, ⟨es, clock, _, _, hb, rfl⟩⟩
    · simp [Instr.mapUpdate, run_underlying ht, MapKept.run_getObj_map hb, K.law.check w false ⟨a, rfl⟩, h1, hj, h4, K.law.stays w ⟨a, rfl⟩, MapKept.run_setObj_map _ hb, Result.andThen, setBlock]
    · rw [Array.toList_modify, ChangeMaps.modify_eq_set _ _ _ _ h2, alPut_old hn h3]
      exact map_set he j a v e0.born

theorem MapT.delete {t e ty : TypeId} (h : MapT kv vv w b l) (K : KeyK P k kv) (ht : P.underlying t = some (.map k e)) (a : κ) :
    ∃ w', (Builtin.delete_ #[t, k] ty #[.map (some b), kv a]).run P w = .ok (.tuple #[]) w' ∧ MapT kv vv w' b (alDel l a) ∧ w.mapTurned w' b := by
  have hn := h.nodup
  obtain ⟨es, clock, hb, hs, he⟩ := h
  rcases map_find K w he hn a with ⟨h1, h2, h3⟩ | ⟨j, e0, u, h1, h2, h3, h4, h5, h6⟩
  · refine ⟨setBlock w b (.map es clock), ?_, ⟨_, _, heap_setBlock_same hb _, hs, ?_⟩, ⟨es, clock, _, _, hb, rfl⟩⟩
    · simp [Builtin.delete_, run_underlying ht, MapKept.run_getObj_map hb, K.law.check w _ ⟨a, rfl⟩, h1, MapKept.run_setObj_map _ hb, Result.andThen, setBlock]
    · rw [alDel_none (alGet_none.1 h2), he]
  · have hjl : j < es.toList.length := (List.getElem?_eq_some_iff.1 h2).1
    have hjs : j < es.size := by simpa using hjl
    have hsub : (es.eraseIdxIfInBounds j).toList = es.toList.eraseIdx j := by
      unfold Array.eraseIdxIfInBounds
      rw [dif_pos hjs]
      simp
    refine ⟨setBlock w b (.map (es.eraseIdxIfInBounds j) clock), ?_, ⟨_, _, heap_setBlock_same hb _, stamped_erase hs j, ?_⟩, ⟨es, clock, _, _, hb, rfl⟩⟩
    · simp [Builtin.delete_, run_underlying ht, MapKept.run_getObj_map hb, K.law.check w _ ⟨a, rfl⟩, h1, MapKept.run_setObj_map _ hb, Result.andThen, setBlock]
    · rw [hsub, ChangeMaps.map_eraseIdx, he, ← ChangeMaps.map_eraseIdx, alDel_at hn h3]

/-- 'delete' in the round. -/
theorem MapI.delete {t e ty : TypeId} (h : MapI kv vv w r b l rem) (K : KeyK P k kv) (ht : P.underlying t = some (.map k e)) (a : κ) :
    ∃ w', (Builtin.delete_ #[t, k] ty #[.map (some b), kv a]).run P w = .ok (.tuple #[]) w' ∧ MapI kv vv w' r b (alDel l a) (alDel rem a) ∧ w.mapTurned w' b := by
  have hne := h.ne
  have hn := h.map.nodup
  obtain ⟨es, clock, seen, hb, hs, he, hr, hp⟩ := h
  have inj : ∀ q : κ × ν, (kv q.1 = kv a) = (q.1 = a) := fun q => propext ⟨fun h => K.inj h, fun h => by rw [h]⟩
  have flt : ∀ m : List (κ × ν), (alDel m a).map (fun p => (kv p.1, vv p.2)) = (m.map (fun p => (kv p.1, vv p.2))).filter (fun x => !(Classical.propDecidable (x.1 = kv a)).decide) := by
    intro m
    induction m with
    | nil => rfl
    | cons q m ih =>
      unfold alDel at ih ⊢
      by_cases hq : q.1 = a
      · rw [List.filter_cons_of_neg (by simp [hq]), List.map_cons, List.filter_cons_of_neg (by simp [hq])]
        exact ih
      · rw [List.filter_cons_of_pos (by simp [hq]), List.map_cons, List.map_cons, List.filter_cons_of_pos (by simp [inj, hq]), ih]
  have efl : ∀ m : List MapEntry, (m.filter (fun x => !(Classical.propDecidable (x.key = kv a)).decide)).map (fun e => (e.key, e.val)) = (m.map (fun e => (e.key, e.val))).filter (fun x => !(Classical.propDecidable (x.1 = kv a)).decide) := by
    intro m
    rw [List.filter_map]
    rfl
  rcases map_find K w he hn a with ⟨h1, h2, h3⟩ | ⟨j, e0, u, h1, h2, h3, h4, h5, h6⟩
  · have hall : ∀ x ∈ es.toList, (!(Classical.propDecidable (x.key = kv a)).decide) = true := fun x hx => by simp [h3 x hx]
    refine ⟨setBlock w b (.map es clock), ?_, ⟨es, clock, seen, heap_setBlock_same hb _, hs, ?_, (heap_setBlock_other hb _ hne).trans hr, ?_⟩, ⟨es, clock, _, _, hb, rfl⟩⟩
    · simp [Builtin.delete_, run_underlying ht, MapKept.run_getObj_map hb, K.law.check w _ ⟨a, rfl⟩, h1, MapKept.run_setObj_map _ hb, Result.andThen, setBlock]
    · rw [flt, ← he, ← efl, List.filter_eq_self.2 hall]
    · rw [flt]
      have : (leftOf es seen).toList = (leftOf es seen).toList.filter (fun x => !(Classical.propDecidable (x.key = kv a)).decide) := (List.filter_eq_self.2 fun x hx => hall x (mem_left hx).1).symm
      rw [this, efl]
      exact hp.filter _
  · have hjl : j < es.toList.length := (List.getElem?_eq_some_iff.1 h2).1
    have hjs : j < es.size := by simpa using hjl
    have hsub : (es.eraseIdxIfInBounds j).toList = es.toList.eraseIdx j := by
      unfold Array.eraseIdxIfInBounds
      rw [dif_pos hjs]
      simp
    have hst := (stamped_iff es clock).1 hs
    have herase : es.toList.eraseIdx j = es.toList.filter (fun x => !(Classical.propDecidable (x.key = kv a)).decide) := by
      obtain ⟨s, t, hst', hlen⟩ : ∃ s t, es.toList = s ++ e0 :: t ∧ s.length = j := ⟨es.toList.take j, es.toList.drop (j + 1), by
        have : es.toList[j] = e0 := by rw [List.getElem?_eq_getElem hjl] at h2; injection h2
        rw [← this, List.getElem_cons_drop, List.take_append_drop], by rw [List.length_take]; omega⟩
      have hp3 := hst.2.2
      rw [hst'] at hp3 ⊢
      subst hlen
      have hp4 := List.pairwise_append.1 hp3
      have hp5 := List.pairwise_cons.1 hp4.2.1
      rw [List.eraseIdx_append_of_length_le (Nat.le_refl _), Nat.sub_self, List.eraseIdx_cons_zero, List.filter_append, List.filter_cons_of_neg (by simp [h4])]
      rw [List.filter_eq_self.2 fun x hx => by simp [show x.key ≠ kv a from fun q => hp4.2.2 x hx e0 (.head _) (q.trans h4.symm)],
        List.filter_eq_self.2 fun x hx => by simp [show x.key ≠ kv a from fun q => hp5.1 x hx (h4.trans q.symm)]]
    refine ⟨setBlock w b (.map (es.eraseIdxIfInBounds j) clock), ?_, ⟨_, clock, seen, heap_setBlock_same hb _, stamped_erase hs j, ?_, (heap_setBlock_other hb _ hne).trans hr, ?_⟩, ⟨es, clock, _, _, hb, rfl⟩⟩
    · simp [Builtin.delete_, run_underlying ht, MapKept.run_getObj_map hb, K.law.check w _ ⟨a, rfl⟩, h1, MapKept.run_setObj_map _ hb, Result.andThen, setBlock]
    · rw [hsub, herase, efl, he, ← flt]
    · have e1 : (leftOf (es.eraseIdxIfInBounds j) seen).toList = (leftOf es seen).toList.filter (fun x => !(Classical.propDecidable (x.key = kv a)).decide) := by
        unfold leftOf
        rw [Array.toList_filter, Array.toList_filter, hsub, herase, List.filter_filter, List.filter_filter]
        exact List.filter_congr fun x _ => Bool.and_comm _ _
      rw [e1, efl, flt]
      exact hp.filter _

end

/-! ## At the operations -/
section
variable {κ ν : Type} {P : Program} {w : World} {ops : Array Oper} {rest : List Oper} {o : Oper} {a : Act} {Q : Exit → Act → World → Prop} {k e : TypeId} {kv : κ → Value} {vv : ν → Value} {b r : Nat} {l rem : List (κ × ν)}

theorem wpList_clear_T (hg : o.guard = none) (m : Operand) (t : TypeId) (hop : o.op = Op.call { callee := Callee.builtin Builtin.clear, args := #[m], argTypes := #[t] }) (ht : P.underlying t = some (.map k e))
    (hm : a.eval m = .map (some b)) (h : MapT kv vv w b l)
    (hK : ∀ w', MapT kv vv w' b ([] : List (κ × ν)) → w.mapTurned w' b → wpList P ops Q rest (a.put o.dst (.tuple #[])) w') : wpList P ops Q (o :: rest) a w := by
  refine wpList_plain hg fun K' hK' => ?_
  obtain ⟨w', hrun, r1, r2⟩ := h.clear (ty := o.type) ht
  unfold Oper.wp
  simp [execOp, hop, resolve, invoke, builtin, hm, hrun, Result.andThen]
  exact hK' _ _ (hK w' r1 r2)

theorem wpList_len_T (hg : o.guard = none) (m : Operand) (t : TypeId) (hop : o.op = Op.call { callee := Callee.builtin Builtin.len, args := #[m], argTypes := #[t] }) (ht : P.underlying t = some (.map k e))
    (hm : a.eval m = .map (some b)) (h : MapT kv vv w b l) (hK : wpList P ops Q rest (a.put o.dst (.int .i64 l.length)) w) : wpList P ops Q (o :: rest) a w := by
  refine wpList_plain hg fun K' hK' => ?_
  unfold Oper.wp
  simp [execOp, hop, resolve, invoke, builtin, hm, h.len ht, Result.andThen]
  exact hK' _ _ hK

theorem wpList_range_T (hg : o.guard = none) (m : Operand) (t : TypeId) (hop : o.op = Op.range t m) (ht : P.underlying t = some (.map k e)) (hm : a.eval m = .map (some b)) (h : MapT kv vv w b l)
    (hK : ∀ w', MapI kv vv w' w.heap.size b l l → Below w.heap.size w w' → wpList P ops Q rest (a.put o.dst (.pointer (some ⟨w.heap.size, 0, none⟩))) w') : wpList P ops Q (o :: rest) a w := by
  refine wpList_plain hg fun K' hK' => ?_
  obtain ⟨w', hrun, r1, r2⟩ := h.range ht
  unfold Oper.wp
  simp [execOp, hop, hm, hrun, Result.andThen]
  exact hK' _ _ (hK w' r1 r2)
variable [DecidableEq κ]
theorem wpList_lookup_T (hg : o.guard = none) (m x : Operand) (t : TypeId) (hop : o.op = Op.lookup t m x false) (K : KeyK P k kv) (ht : P.underlying t = some (.map k e)) {z : Value} (hz : (zeroValue e).run P w = .ok z w)
    (hm : a.eval m = .map (some b)) (h : MapT kv vv w b l) (ky : κ) (hx : a.eval x = kv ky) (hK : wpList P ops Q rest (a.put o.dst (((alGet l ky).map vv).getD z)) w) : wpList P ops Q (o :: rest) a w := by
  refine wpList_plain hg fun K' hK' => ?_
  have hrun := h.lookup K ht hz ky false
  unfold Oper.wp
  simp [execOp, hop, hm, hx, hrun, Result.andThen]
  exact hK' _ _ hK

theorem wpList_lookup_ok_T (hg : o.guard = none) (m x : Operand) (t : TypeId) (hop : o.op = Op.lookup t m x true) (K : KeyK P k kv) (ht : P.underlying t = some (.map k e)) {z : Value} (hz : (zeroValue e).run P w = .ok z w)
    (hm : a.eval m = .map (some b)) (h : MapT kv vv w b l) (ky : κ) (hx : a.eval x = kv ky) (hK : wpList P ops Q rest (a.put o.dst (.tuple #[((alGet l ky).map vv).getD z, .bool (alGet l ky).isSome])) w) : wpList P ops Q (o :: rest) a w := by
  refine wpList_plain hg fun K' hK' => ?_
  have hrun := h.lookup K ht hz ky true
  unfold Oper.wp
  simp [execOp, hop, hm, hx, hrun, Result.andThen]
  exact hK' _ _ hK

theorem wpList_update_T (hg : o.guard = none) (m x v : Operand) (t : TypeId) (hop : o.op = Op.mapUpdate t m x v) (K : KeyK P k kv) (ht : P.underlying t = some (.map k e))
    (hm : a.eval m = .map (some b)) (h : MapT kv vv w b l) (ky : κ) (hx : a.eval x = kv ky) (val : ν) (hv : a.eval v = vv val)
    (hK : ∀ w', MapT kv vv w' b (alPut l ky val) → w.mapTurned w' b → wpList P ops Q rest (a.put o.dst undef) w') : wpList P ops Q (o :: rest) a w := by
  refine wpList_plain hg fun K' hK' => ?_
  obtain ⟨w', hrun, r1, r2⟩ := h.update K ht ky val
  unfold Oper.wp
  simp [execOp, hop, hm, hx, hv, hrun, Result.andThen]
  exact hK' _ _ (hK w' r1 r2)

theorem wpList_delete_T (hg : o.guard = none) (m x : Operand) (t : TypeId) (hop : o.op = Op.call { callee := Callee.builtin Builtin.delete, args := #[m, x], argTypes := #[t, k] }) (K : KeyK P k kv) (ht : P.underlying t = some (.map k e))
    (hm : a.eval m = .map (some b)) (h : MapT kv vv w b l) (ky : κ) (hx : a.eval x = kv ky)
    (hK : ∀ w', MapT kv vv w' b (alDel l ky) → w.mapTurned w' b → wpList P ops Q rest (a.put o.dst (.tuple #[])) w') : wpList P ops Q (o :: rest) a w := by
  refine wpList_plain hg fun K' hK' => ?_
  obtain ⟨w', hrun, r1, r2⟩ := h.delete (ty := o.type) K ht ky
  unfold Oper.wp
  simp [execOp, hop, resolve, invoke, builtin, hm, hx, hrun, Result.andThen]
  exact hK' _ _ (hK w' r1 r2)

theorem wpList_delete_I (hg : o.guard = none) (m x : Operand) (t : TypeId) (hop : o.op = Op.call { callee := Callee.builtin Builtin.delete, args := #[m, x], argTypes := #[t, k] }) (K : KeyK P k kv) (ht : P.underlying t = some (.map k e))
    (hm : a.eval m = .map (some b)) (h : MapI kv vv w r b l rem) (ky : κ) (hx : a.eval x = kv ky)
    (hK : ∀ w', MapI kv vv w' r b (alDel l ky) (alDel rem ky) → w.mapTurned w' b → wpList P ops Q rest (a.put o.dst (.tuple #[])) w') : wpList P ops Q (o :: rest) a w := by
  refine wpList_plain hg fun K' hK' => ?_
  obtain ⟨w', hrun, r1, r2⟩ := h.delete (ty := o.type) K ht ky
  unfold Oper.wp
  simp [execOp, hop, resolve, invoke, builtin, hm, hx, hrun, Result.andThen]
  exact hK' _ _ (hK w' r1 r2)
end

theorem mapTurned_kp {Q : Nat → Prop} {w0 w w' : World} {b : Nat} (h : Kp Q w0 w) (ht : w.mapTurned w' b) (hb : b < w0.heap.size → ¬ Q b) : Kp Q w0 w' :=
  h.grown ht.grown fun k hk hlt => by cases hk; exact hb hlt
end Go.Proofs.YtmaadimodjnnlaaGreatDoor
