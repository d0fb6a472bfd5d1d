/-
  Several texts in one: TreeSpec, TreeGood, TreeFn, TreePure.
-/
import Derived.Test.YtoacobcbloljkaaGreatDoorLow
/-! # TreeSpec: The tree of layer 5 in plain words: a list of entries, the version, the next id; what each call answers. No program is walked in it. -/
namespace Go.Proofs.YtoacobcbloljkaaGreatDoor
namespace Tr

/-- An entry of a tree: its key, its node. -/
abbrev TE := Key × Nd
structure T where
  L : List TE
  vers : Int
  next : Int

def rootN : Nd := (1, 1, 0, [])
def noN : Nd := (0, 0, 0, [])
def noE : En := ((0, []), false, noN)
def byId (L : List TE) (id : Int) : Option TE := L.find? fun x => decide (x.2.1 = id)
def byKey (L : List TE) (k : Key) : Option TE := L.find? fun x => decide (x.1 = k)
def nodeF (L : List TE) (id : Int) : Option Nd := if id = 1 then some rootN else (byId L id).map Prod.snd
def nameF (L : List TE) (d : Int) (s : List UInt8) : Option Int := (byKey L (d, s)).map fun x => x.2.1
def placeF (L : List TE) (id : Int) : Option Key := (byId L id).map Prod.fst
def isDirN (n : Option Nd) : Bool := match n with
  | some n => decide (n.2.1 = 1)
  | none => false
def isDir (L : List TE) (d : Int) : Bool := isDirN (nodeF L d)
def namesF (L : List TE) (d : Int) : Option (List UInt8 → Option Int) := if isDir L d = true then some (nameF L d) else none

/-! ## The reads -/
def dirE (L : List TE) (d : Int) : Int := match nodeF L d with
  | none => 46
  | some n => if n.2.1 = 1 then 0 else 42
def placeE (L : List TE) (d : Int) (s : List UInt8) : Int := if dirE L d ≠ 0 then dirE L d else Nm.checkE s
def nowE (L : List TE) (k : Key) : En := match byKey L k with
  | none => (k, true, noN)
  | some x => (k, false, x.2)
def lookR (L : List TE) (d : Int) (s : List UInt8) : En × Int := if placeE L d s ≠ 0 then (noE, placeE L d s) else (nowE L (d, s), 0)
def enOf (x : TE) : En := (x.1, false, x.2)
def findR (L : List TE) (id : Int) : En × Int := if id = 1 then (noE, 1) else match byId L id with
  | none => (noE, 46)
  | some x => (enOf x, 0)
def leN (a b : List UInt8) : Bool := decide (a ≤ b)
def leK (a b : Key) : Bool := decide (a.1 < b.1) || (decide (a.1 = b.1) && leN a.2 b.2)
def sorted (L : List TE) : List En := (L.mergeSort fun x y => leK x.1 y.1).map enOf
def ofDir (L : List TE) (d : Int) : List TE := L.filter fun x => decide (x.1.1 = d)
def listR (L : List TE) (d : Int) : List En × Int := if dirE L d ≠ 0 then ([], dirE L d) else (sorted (ofDir L d), 0)
def dumpR (L : List TE) : List En := sorted L

/-! ## The mutations -/
/-- kind, directory, name, to, new, mode, target. -/
abbrev Op := Int × Int × List UInt8 × Int × List UInt8 × Int × List UInt8
def Op.key (o : Op) : Key := (o.2.1, o.2.2.1)
def Op.to (o : Op) : Key := (o.2.2.2.1, o.2.2.2.2.1)
def Op.mode (o : Op) : Int := o.2.2.2.2.2.1
def Op.target (o : Op) : List UInt8 := o.2.2.2.2.2.2

def goodMode (m : Int) : Bool := decide (0 ≤ m) && decide (m ≤ 511)
def gone (L : List TE) (k : Key) : List TE := L.filter fun x => !decide (x.1 = k)
def setMode (L : List TE) (k : Key) (m : Int) : List TE := L.map fun x => if x.1 = k then (x.1, x.2.1, x.2.2.1, m, x.2.2.2.2) else x
def made (t : T) (k : Key) (kind mode : Int) (tg : List UInt8) : Int × T :=
  if (byKey t.L k).isSome = true then (41, t) else if 48 ≤ t.L.length + 1 then (47, t) else (0, ⟨t.L ++ [(k, t.next, kind, mode, tg)], t.vers, t.next + 1⟩)
def removed (t : T) (k : Key) (dir : Bool) : Int × T := match byKey t.L k with
  | none => (40, t)
  | some x =>
    if x.2.2.1 = 1 ∧ dir = false then (43, t) else if x.2.2.1 ≠ 1 ∧ dir = true then (42, t)
    else if dir = true ∧ ofDir t.L x.2.1 ≠ [] then (44, t) else (0, ⟨gone t.L k, t.vers, t.next⟩)
/-- Does a directory lie in another one, or is it that one? -/
def inside (L : List TE) : Nat → Int → Int → Bool
  | 0, d, id => decide (d = id)
  | f + 1, d, id => if d = id then true else if d = 1 then false else match byId L d with
    | none => false
    | some x => inside L f x.1.1 id
/-- May a node stand where another one does? -/
def gives (L : List TE) (n old : Nd) : Int :=
  if n.2.1 = 1 ∧ old.2.1 ≠ 1 then 42 else if old.2.1 = 1 ∧ n.2.1 ≠ 1 then 43 else if old.2.1 = 1 ∧ ofDir L old.1 ≠ [] then 44 else 0
def renamed (t : T) (a b : Key) : Int × T := match byKey t.L a with
  | none => (40, t)
  | some x =>
    if x.2.2.1 = 1 ∧ inside t.L t.L.length b.1 x.2.1 = true then (45, t)
    else if a = b then (0, t)
    else match byKey t.L b with
      | none => (0, ⟨gone t.L a ++ [(b, x.2)], t.vers, t.next⟩)
      | some y => if gives t.L x.2 y.2 ≠ 0 then (gives t.L x.2 y.2, t) else (0, ⟨gone (gone t.L b) a ++ [(b, x.2)], t.vers, t.next⟩)
/-- A mutation: its error, the tree behind it but for the version. -/
def does (t : T) (o : Op) : Int × T :=
  if o.1 < 5 ∨ 11 < o.1 then (1, t)
  else if placeE t.L o.2.1 o.2.2.1 ≠ 0 then (placeE t.L o.2.1 o.2.2.1, t)
  else if o.1 = 5 then (if goodMode o.mode = true then made t o.key 2 o.mode [] else (1, t))
  else if o.1 = 6 then (if goodMode o.mode = true then made t o.key 1 o.mode [] else (1, t))
  else if o.1 = 7 then (if (Nm.targetR o.target).2.2.2 ≠ 0 then ((Nm.targetR o.target).2.2.2, t) else made t o.key 3 0 o.target)
  else if o.1 = 8 then removed t o.key false
  else if o.1 = 9 then removed t o.key true
  else if o.1 = 10 then (if placeE t.L o.to.1 o.to.2 ≠ 0 then (placeE t.L o.to.1 o.to.2, t) else renamed t o.key o.to)
  else if goodMode o.mode = true then (if (byKey t.L o.key).isSome = true then (0, ⟨setMode t.L o.key o.mode, t.vers, t.next⟩) else (40, t)) else (1, t)
/-- The keys that a mutation tells, rising. -/
def keysOf (o : Op) : List Key := if o.1 = 10 ∧ o.key ≠ o.to then (if leK o.key o.to = true then [o.key, o.to] else [o.to, o.key]) else [o.key]
/-- A mutation: the tree behind it, entries, keys, error. -/
def apply (t : T) (o : Op) : T × List En × List Key × Int :=
  if (does t o).1 ≠ 0 then (t, [], [], (does t o).1)
  else (⟨(does t o).2.L, t.vers + 1, (does t o).2.next⟩, (keysOf o).map (nowE (does t o).2.L), keysOf o, 0)
def t0 : T := ⟨[], 0, 2⟩
/-- Behind a script. -/
def run (t : T) (s : List Op) : T := s.foldl (fun t o => (apply t o).1) t

/-! ## What holds of a tree that has grown -/
inductive Hang (L : List TE) : Nat → Int → Prop where
  | root : Hang L 0 1
  | up {k : Nat} {x : TE} : x ∈ L → x.2.1 ≠ 1 → Hang L k x.1.1 → Hang L (k + 1) x.2.1

structure Good (t : T) : Prop where
  keys : (t.L.map Prod.fst).Nodup
  ids : (t.L.map fun x => x.2.1).Nodup
  lo : ∀ x ∈ t.L, 1 < x.2.1 ∧ x.2.1 < t.next
  kind : ∀ x ∈ t.L, x.2.2.1 = 1 ∨ x.2.2.1 = 2 ∨ x.2.2.1 = 3
  mode : ∀ x ∈ t.L, 0 ≤ x.2.2.2.1 ∧ x.2.2.2.1 ≤ 511
  plain : ∀ x ∈ t.L, x.2.2.1 ≠ 3 → x.2.2.2.2 = []
  link : ∀ x ∈ t.L, x.2.2.1 = 3 → (Nm.targetR x.2.2.2.2).2.2.2 = 0
  name : ∀ x ∈ t.L, Nm.checkE x.1.2 = 0
  dirs : ∀ x ∈ t.L, isDir t.L x.1.1 = true
  hang : ∀ x ∈ t.L, ∃ k, Hang t.L k x.1.1
  len : t.L.length ≤ 47
  vers : 0 ≤ t.vers
  next : 2 ≤ t.next

/-! ### Searches -/
section
variable {L : List TE}

theorem byId_some {id : Int} {x : TE} (h : byId L id = some x) : x ∈ L ∧ x.2.1 = id := by
  unfold byId at h
  exact ⟨List.mem_of_find?_eq_some h, by simpa using List.find?_some h⟩
theorem byKey_some {k : Key} {x : TE} (h : byKey L k = some x) : x ∈ L ∧ x.1 = k := by
  unfold byKey at h
  exact ⟨List.mem_of_find?_eq_some h, by simpa using List.find?_some h⟩
theorem byId_none {id : Int} : byId L id = none ↔ ∀ x ∈ L, x.2.1 ≠ id := by
  unfold byId
  rw [List.find?_eq_none]
  simp
theorem byKey_none {k : Key} : byKey L k = none ↔ ∀ x ∈ L, x.1 ≠ k := by
  unfold byKey
  rw [List.find?_eq_none]
  simp

theorem nodup_inj {α β : Type} (f : α → β) {l : List α} (h : (l.map f).Nodup) {x y : α} (hx : x ∈ l) (hy : y ∈ l) (e : f x = f y) : x = y := by
  induction l with
  | nil => cases hx
  | cons a r ih =>
    simp only [List.map_cons, List.nodup_cons, List.mem_map, not_exists, not_and] at h
    rcases List.mem_cons.1 hx with e1 | h1
    · rcases List.mem_cons.1 hy with e2 | h2
      · rw [e1, e2]
      · exact absurd (e.symm.trans (congrArg f e1)) (h.1 y h2)
    · rcases List.mem_cons.1 hy with e2 | h2
      · exact absurd (e.trans (congrArg f e2)) (h.1 x h1)
      · exact ih h.2 h1 h2

theorem byId_of (hi : (L.map fun x => x.2.1).Nodup) {x : TE} (hx : x ∈ L) : byId L x.2.1 = some x := by
  cases h : byId L x.2.1 with
  | none => exact absurd rfl ((byId_none.1 h) x hx)
  | some y =>
    obtain ⟨hy, e⟩ := byId_some h
    rw [nodup_inj _ hi hy hx e]
theorem byKey_of (hk : (L.map Prod.fst).Nodup) {x : TE} (hx : x ∈ L) : byKey L x.1 = some x := by
  cases h : byKey L x.1 with
  | none => exact absurd rfl ((byKey_none.1 h) x hx)
  | some y =>
    obtain ⟨hy, e⟩ := byKey_some h
    rw [nodup_inj _ hk hy hx e]

theorem byId_app (L M : List TE) (id : Int) : byId (L ++ M) id = (byId L id).or (byId M id) := by
  unfold byId
  rw [List.find?_append]
theorem byKey_app (L M : List TE) (k : Key) : byKey (L ++ M) k = (byKey L k).or (byKey M k) := by
  unfold byKey
  rw [List.find?_append]
theorem byId_one (x : TE) (id : Int) : byId [x] id = if x.2.1 = id then some x else none := by
  unfold byId
  by_cases h : x.2.1 = id <;> simp [h]
theorem byKey_one (x : TE) (k : Key) : byKey [x] k = if x.1 = k then some x else none := by
  unfold byKey
  by_cases h : x.1 = k <;> simp [h]
theorem byKey_gone (L : List TE) (k k' : Key) : byKey (gone L k) k' = if k' = k then none else byKey L k' := by
  unfold byKey gone
  induction L with
  | nil => simp
  | cons x r ih =>
    by_cases h : x.1 = k
    · rw [List.filter_cons_of_neg (by simp [h]), ih]
      by_cases h' : k' = k
      · simp [h']
      · rw [if_neg h', if_neg h', List.find?_cons_of_neg (by simp [h, Ne.symm h'])]
    · rw [List.filter_cons_of_pos (by simp [h])]
      by_cases h2 : x.1 = k'
      · rw [List.find?_cons_of_pos (by simp [h2]), List.find?_cons_of_pos (by simp [h2]), if_neg (by rintro rfl; exact h h2)]
      · rw [List.find?_cons_of_neg (by simp [h2]), List.find?_cons_of_neg (by simp [h2]), ih]
theorem byId_gone (hk : (L.map Prod.fst).Nodup) (hi : (L.map fun x => x.2.1).Nodup) {x : TE} (hx : x ∈ L) (id : Int) : byId (gone L x.1) id = if id = x.2.1 then none else byId L id := by
  have hm : ∀ y, y ∈ gone L x.1 ↔ y ∈ L ∧ y ≠ x := fun y => by
    unfold gone
    simp only [List.mem_filter, Bool.not_eq_true', decide_eq_false_iff_not]
    exact ⟨fun h => ⟨h.1, fun e => h.2 (by rw [e])⟩, fun h => ⟨h.1, fun e => h.2 (nodup_inj _ hk h.1 hx e)⟩⟩
  have hi' : ((gone L x.1).map fun x => x.2.1).Nodup := List.Nodup.sublist ((List.filter_sublist).map _) hi
  split
  · rename_i e
    subst e
    exact byId_none.2 fun y hy e => ((hm y).1 hy).2 (nodup_inj _ hi ((hm y).1 hy).1 hx e)
  · rename_i e
    cases h : byId L id with
    | none => exact byId_none.2 fun y hy => (byId_none.1 h) y ((hm y).1 hy).1
    | some y =>
      obtain ⟨hy, e'⟩ := byId_some h
      subst e'
      exact byId_of hi' ((hm y).2 ⟨hy, fun e2 => e (by rw [e2])⟩)
end
end Tr
end Go.Proofs.YtoacobcbloljkaaGreatDoor

/-! # TreeGood: A tree that has grown stays sound: keys and ids unlike, directories there, parents that lead to the root. No program in it. -/
namespace Go.Proofs.YtoacobcbloljkaaGreatDoor
namespace Tr

theorem nodup_len {c : List Int} : ∀ {l : List Int}, c.Nodup → (∀ x ∈ c, x ∈ l) → c.length ≤ l.length := by
  induction c with
  | nil => intro l _ _; simp
  | cons a c ih =>
    intro l hn hs
    simp only [List.nodup_cons] at hn
    have ha : a ∈ l := hs a (.head _)
    have h := ih (l := l.erase a) hn.2 fun x hx => (List.mem_erase_of_ne (by rintro rfl; exact hn.1 hx)).2 (hs x (.tail _ hx))
    rw [List.length_erase_of_mem ha] at h
    have : 0 < l.length := List.length_pos_of_mem ha
    simp only [List.length_cons]
    omega

section
variable {L : List TE}

theorem Hang.det (hi : (L.map fun x => x.2.1).Nodup) {k : Nat} {d : Int} (h : Hang L k d) : ∀ {j : Nat}, Hang L j d → k = j := by
  induction h with
  | root =>
    intro j hj
    generalize hd : (1 : Int) = d at hj
    cases hj with
    | root => rfl
    | up _ h1 _ => exact absurd hd.symm h1
  | @up k x hx h1 _ ih =>
    intro j hj
    generalize hd : x.2.1 = d at hj
    cases hj with
    | root => exact absurd hd h1
    | @up j y hy h2 hj =>
      have : x = y := nodup_inj _ hi hx hy hd
      subst this
      rw [ih hj]

theorem Hang.chain (hi : (L.map fun x => x.2.1).Nodup) {k : Nat} {d : Int} (h : Hang L k d) :
    ∃ c : List Int, c.length = k ∧ c.Nodup ∧ ∀ e ∈ c, e ∈ L.map (fun x => x.2.1) ∧ ∃ j, j ≤ k ∧ Hang L j e := by
  induction h with
  | root => exact ⟨[], rfl, .nil, by simp⟩
  | @up k x hx h1 hk ih =>
    obtain ⟨c, hc, hn, hm⟩ := ih
    refine ⟨x.2.1 :: c, by simp [hc], List.nodup_cons.2 ⟨fun hmem => ?_, hn⟩, ?_⟩
    · obtain ⟨_, j, hj, hh⟩ := hm _ hmem
      have := (Hang.up hx h1 hk).det hi hh
      omega
    · intro e he
      rcases List.mem_cons.1 he with rfl | he
      · exact ⟨List.mem_map.2 ⟨x, hx, rfl⟩, k + 1, Nat.le_refl _, .up hx h1 hk⟩
      · obtain ⟨h2, j, hj, hh⟩ := hm _ he
        exact ⟨h2, j, by omega, hh⟩

theorem Hang.le (hi : (L.map fun x => x.2.1).Nodup) {k : Nat} {d : Int} (h : Hang L k d) : k ≤ L.length := by
  obtain ⟨c, hc, hn, hm⟩ := h.chain hi
  have := nodup_len hn fun x hx => (hm x hx).1
  rw [List.length_map] at this
  omega

theorem isDir_iff {d : Int} : isDir L d = true ↔ d = 1 ∨ d ≠ 1 ∧ ∃ x, byId L d = some x ∧ x.2.2.1 = 1 := by
  unfold isDir nodeF isDirN
  by_cases h : d = 1
  · simp [h, rootN]
  · rw [if_neg h]
    cases hb : byId L d <;> simp [h]

theorem dirE_zero {d : Int} : dirE L d = 0 ↔ isDir L d = true := by
  unfold dirE isDir isDirN
  cases nodeF L d with
  | none => simp
  | some n => by_cases h : n.2.1 = 1 <;> simp [h]
end

theorem Good.hangDir {t : T} (h : Good t) {d : Int} (hd : isDir t.L d = true) : ∃ k, Hang t.L k d := by
  rcases isDir_iff.1 hd with rfl | ⟨h1, x, hx, _⟩
  · exact ⟨0, .root⟩
  · obtain ⟨hm, rfl⟩ := byId_some hx
    obtain ⟨k, hk⟩ := h.hang x hm
    exact ⟨k + 1, .up hm h1 hk⟩

theorem good_t0 : Good t0 := by
  constructor <;> simp [t0]

/-- A new entry. -/
theorem Good.put {t : T} (h : Good t) (k : Key) (kind mode : Int) (tg : List UInt8) (hk : byKey t.L k = none) (hd : isDir t.L k.1 = true) (hn : Nm.checkE k.2 = 0) (hl : t.L.length < 47)
    (h3 : kind = 1 ∨ kind = 2 ∨ kind = 3) (hm : 0 ≤ mode ∧ mode ≤ 511) (hp : kind ≠ 3 → tg = []) (hq : kind = 3 → (Nm.targetR tg).2.2.2 = 0) : Good ⟨t.L ++ [(k, t.next, kind, mode, tg)], t.vers, t.next + 1⟩ := by
  have hfresh : ∀ x ∈ t.L, x.2.1 ≠ t.next := fun x hx e => by have := (h.lo x hx).2; omega
  have hdir : ∀ d, isDir t.L d = true → isDir (t.L ++ [(k, t.next, kind, mode, tg)]) d = true := fun d hd => by
    rcases isDir_iff.1 hd with rfl | ⟨h1, x, hx, hx1⟩
    · exact isDir_iff.2 (.inl rfl)
    · exact isDir_iff.2 (.inr ⟨h1, x, by rw [byId_app, hx]; rfl, hx1⟩)
  have hhang : ∀ j d, Hang t.L j d → Hang (t.L ++ [(k, t.next, kind, mode, tg)]) j d := fun j d hj => by
    induction hj with
    | root => exact .root
    | up hx h1 _ ih => exact .up (List.mem_append_left _ hx) h1 ih
  have hn2 := h.next
  have all : ∀ {Q : TE → Prop}, (∀ x ∈ t.L, Q x) → Q (k, t.next, kind, mode, tg) → ∀ x ∈ t.L ++ [(k, t.next, kind, mode, tg)], Q x := fun h1 h2 x hx => by
    rcases List.mem_append.1 hx with hx | hx
    · exact h1 x hx
    · rw [List.mem_singleton.1 hx]; exact h2
  refine ⟨?_, ?_, all (fun x hx => ?_) ?_, all h.kind h3, all h.mode hm, all h.plain hp, all h.link hq, all h.name hn, all (fun x hx => hdir _ (h.dirs x hx)) (hdir _ hd), all (fun x hx => ?_) ?_, ?_, h.vers, ?_⟩
  · rw [List.map_append]
    refine List.nodup_append.2 ⟨h.keys, by simp, fun a ha b hb e => ?_⟩
    obtain ⟨x, hx, rfl⟩ := List.mem_map.1 ha
    simp only [List.map_cons, List.map_nil, List.mem_singleton] at hb
    exact (byKey_none.1 hk) x hx (e.trans hb)
  · rw [List.map_append]
    refine List.nodup_append.2 ⟨h.ids, by simp, fun a ha b hb e => ?_⟩
    obtain ⟨x, hx, rfl⟩ := List.mem_map.1 ha
    simp only [List.map_cons, List.map_nil, List.mem_singleton] at hb
    exact hfresh x hx (e.trans hb)
  · have := h.lo x hx
    simp only
    omega
  · simp only
    omega
  · obtain ⟨j, hj⟩ := h.hang x hx
    exact ⟨j, hhang _ _ hj⟩
  · obtain ⟨j, hj⟩ := h.hangDir hd
    exact ⟨j, hhang _ _ hj⟩
  · simp only [List.length_append, List.length_singleton]
    omega
  · simp only
    omega

theorem mem_gone {L : List TE} (hk : (L.map Prod.fst).Nodup) {x : TE} (hx : x ∈ L) (y : TE) : y ∈ gone L x.1 ↔ y ∈ L ∧ y ≠ x := by
  unfold gone
  simp only [List.mem_filter, Bool.not_eq_true', decide_eq_false_iff_not]
  exact ⟨fun h => ⟨h.1, fun e => h.2 (by rw [e])⟩, fun h => ⟨h.1, fun e => h.2 (nodup_inj _ hk h.1 hx e)⟩⟩

theorem nodeF_gone {t : T} (h : Good t) {x : TE} (hx : x ∈ t.L) (id : Int) : nodeF (gone t.L x.1) id = if id = x.2.1 then none else nodeF t.L id := by
  have h1 := (h.lo x hx).1
  unfold nodeF
  rw [byId_gone h.keys h.ids hx]
  by_cases e : id = 1
  · subst e
    rw [if_pos rfl, if_pos rfl, if_neg (by omega)]
  · rw [if_neg e, if_neg e]
    split <;> rfl

/-- No entry lies in a node that is no directory, or an empty one. -/
theorem Good.noChild {t : T} (h : Good t) {x : TE} (hx : x ∈ t.L) (hc : x.2.2.1 ≠ 1 ∨ ofDir t.L x.2.1 = []) : ∀ y ∈ t.L, y.1.1 ≠ x.2.1 := by
  intro y hy e
  rcases hc with hc | hc
  · have := h.dirs y hy
    rw [e] at this
    rcases isDir_iff.1 this with h1 | ⟨_, z, hz, hz1⟩
    · have := (h.lo x hx).1
      omega
    · rw [byId_of h.ids hx] at hz
      injection hz with hz
      subst hz
      exact hc hz1
  · have : y ∈ ofDir t.L x.2.1 := by
      unfold ofDir
      exact List.mem_filter.2 ⟨hy, by simpa using e⟩
    rw [hc] at this
    cases this

theorem Good.gone {t : T} (h : Good t) {x : TE} (hx : x ∈ t.L) (hc : x.2.2.1 ≠ 1 ∨ ofDir t.L x.2.1 = []) : Good ⟨Tr.gone t.L x.1, t.vers, t.next⟩ := by
  have hno := h.noChild hx hc
  have hm := mem_gone h.keys hx
  have hsub : (Tr.gone t.L x.1).Sublist t.L := List.filter_sublist
  have hhang : ∀ j d, Hang t.L j d → d ≠ x.2.1 → Hang (Tr.gone t.L x.1) j d := fun j d hj => by
    induction hj with
    | root => exact fun _ => .root
    | @up j z hz h1 _ ih => exact fun hd => .up ((hm z).2 ⟨hz, fun e => hd (by rw [e])⟩) h1 (ih (hno z hz))
  refine ⟨List.Nodup.sublist (hsub.map _) h.keys, List.Nodup.sublist (hsub.map _) h.ids, fun y hy => h.lo y ((hm y).1 hy).1, fun y hy => h.kind y ((hm y).1 hy).1, fun y hy => h.mode y ((hm y).1 hy).1, fun y hy => h.plain y ((hm y).1 hy).1, fun y hy => h.link y ((hm y).1 hy).1, fun y hy => h.name y ((hm y).1 hy).1, fun y hy => ?_, fun y hy => ?_, ?_, h.vers, h.next⟩
  · have hy' := ((hm y).1 hy).1
    have := h.dirs y hy'
    unfold isDir at this ⊢
    rw [nodeF_gone h hx, if_neg (hno y hy')]
    exact this
  · have hy' := ((hm y).1 hy).1
    obtain ⟨j, hj⟩ := h.hang y hy'
    exact ⟨j, hhang _ _ hj (hno y hy')⟩
  · exact Nat.le_trans hsub.length_le h.len

theorem setMode_get (L : List TE) (k : Key) (m : Int) {Q : TE → Prop} (h : ∀ x ∈ L, Q (if x.1 = k then (x.1, x.2.1, x.2.2.1, m, x.2.2.2.2) else x)) : ∀ x ∈ setMode L k m, Q x := by
  intro x hx
  unfold setMode at hx
  obtain ⟨y, hy, rfl⟩ := List.mem_map.1 hx
  exact h y hy

theorem byId_setMode (L : List TE) (k : Key) (m : Int) (id : Int) : byId (setMode L k m) id = (byId L id).map fun x => if x.1 = k then (x.1, x.2.1, x.2.2.1, m, x.2.2.2.2) else x := by
  unfold byId setMode
  induction L with
  | nil => rfl
  | cons x r ih =>
    rw [List.map_cons]
    by_cases h : x.2.1 = id
    · rw [List.find?_cons_of_pos (by split <;> simp [h]), List.find?_cons_of_pos (by simp [h])]
      rfl
    · rw [List.find?_cons_of_neg (by split <;> simp [h]), List.find?_cons_of_neg (by simp [h]), ih]
theorem byKey_setMode (L : List TE) (k : Key) (m : Int) (k' : Key) : byKey (setMode L k m) k' = (byKey L k').map fun x => if x.1 = k then (x.1, x.2.1, x.2.2.1, m, x.2.2.2.2) else x := by
  unfold byKey setMode
  induction L with
  | nil => rfl
  | cons x r ih =>
    rw [List.map_cons]
    by_cases h : x.1 = k'
    · rw [List.find?_cons_of_pos (by split <;> simp [h]), List.find?_cons_of_pos (by simp [h])]
      rfl
    · rw [List.find?_cons_of_neg (by split <;> simp [h]), List.find?_cons_of_neg (by simp [h]), ih]
theorem isDir_setMode (L : List TE) (k : Key) (m : Int) (d : Int) : isDir (setMode L k m) d = isDir L d := by
  unfold isDir nodeF isDirN
  by_cases h : d = 1
  · rw [if_pos h, if_pos h]
  · rw [if_neg h, if_neg h, byId_setMode]
    cases byId L d with
    | none => rfl
    | some x =>
      simp only [Option.map_some]
      split <;> rfl

theorem Good.setMode {t : T} (h : Good t) (k : Key) {m : Int} (hm : 0 ≤ m ∧ m ≤ 511) : Good ⟨Tr.setMode t.L k m, t.vers, t.next⟩ := by
  have e1 : (Tr.setMode t.L k m).map Prod.fst = t.L.map Prod.fst := by
    unfold Tr.setMode
    rw [List.map_map]
    exact List.map_congr_left fun x _ => by simp only [Function.comp_apply]; split <;> rfl
  have e2 : (Tr.setMode t.L k m).map (fun x => x.2.1) = t.L.map fun x => x.2.1 := by
    unfold Tr.setMode
    rw [List.map_map]
    exact List.map_congr_left fun x _ => by simp only [Function.comp_apply]; split <;> rfl
  have hhang : ∀ j d, Hang t.L j d → Hang (Tr.setMode t.L k m) j d := fun j d hj => by
    induction hj with
    | root => exact .root
    | @up j x hx h1 _ ih =>
      have hx' : (if x.1 = k then (x.1, x.2.1, x.2.2.1, m, x.2.2.2.2) else x) ∈ Tr.setMode t.L k m := List.mem_map.2 ⟨x, hx, rfl⟩
      by_cases e : x.1 = k
      · rw [if_pos e] at hx'
        exact Hang.up (x := (x.1, x.2.1, x.2.2.1, m, x.2.2.2.2)) hx' h1 ih
      · rw [if_neg e] at hx'
        exact .up hx' h1 ih
  refine ⟨by rw [e1]; exact h.keys, by rw [e2]; exact h.ids, setMode_get _ _ _ fun x hx => ?_, setMode_get _ _ _ fun x hx => ?_, setMode_get _ _ _ fun x hx => ?_, setMode_get _ _ _ fun x hx => ?_, setMode_get _ _ _ fun x hx => ?_, setMode_get _ _ _ fun x hx => ?_, setMode_get _ _ _ fun x hx => ?_, setMode_get _ _ _ fun x hx => ?_, ?_, h.vers, h.next⟩
  · have := h.lo x hx
    split <;> exact this
  · have := h.kind x hx
    split <;> exact this
  · have := h.mode x hx
    split
    · exact hm
    · exact this
  · have := h.plain x hx
    split <;> exact this
  · have := h.link x hx
    split <;> exact this
  · have := h.name x hx
    split <;> exact this
  · have := h.dirs x hx
    rw [isDir_setMode]
    split <;> exact this
  · obtain ⟨j, hj⟩ := h.hang x hx
    split <;> exact ⟨j, hhang _ _ hj⟩
  · unfold Tr.setMode
    rw [List.length_map]
    exact h.len

theorem Hang.outside {L M : List TE} (hi : (L.map fun x => x.2.1).Nodup) {id bad : Int} (hM : ∀ z ∈ L, z.2.1 ≠ id → z.2.1 ≠ bad → z ∈ M) (hbad : ∀ z ∈ L, z.1.1 ≠ bad) {k : Nat} {d : Int} (h : Hang L k d) :
    ∀ f, k ≤ f → d ≠ bad → inside L f d id = false → Hang M k d := by
  induction h with
  | root => exact fun _ _ _ _ => .root
  | @up k z hz h1 _ ih =>
    intro f hf hb hin
    obtain ⟨f, rfl⟩ : ∃ g, f = g + 1 := ⟨f - 1, by omega⟩
    have hne : z.2.1 ≠ id := by
      intro e
      rw [inside, if_pos e] at hin
      cases hin
    rw [inside, if_neg hne, if_neg h1, byId_of hi hz] at hin
    exact .up (hM z hz hne hb) h1 (ih f (by omega) (hbad z hz) hin)

theorem Hang.none_outside {L M : List TE} {id bad : Int} (hM : ∀ z ∈ L, z.2.1 ≠ id → z.2.1 ≠ bad → z ∈ M) (hid : ∀ z ∈ L, z.1.1 ≠ id) (hbad : ∀ z ∈ L, z.1.1 ≠ bad) {k : Nat} {d : Int} (h : Hang L k d) :
    d ≠ bad → d ≠ id → Hang M k d := by
  induction h with
  | root => exact fun _ _ => .root
  | @up k z hz h1 _ ih => exact fun hb hi => .up (hM z hz hi hb) h1 (ih (hbad z hz) (hid z hz))

/-- A node moves: x from its key to b; what stood there (bad: its id; else an id of none) goes. -/
theorem Good.move {t : T} (h : Good t) {x : TE} (hx : x ∈ t.L) {b : Key} (hb : isDir t.L b.1 = true) (hn : Nm.checkE b.2 = 0) {R : List TE} {bad : Int}
    (hR : ∀ z, z ∈ R ↔ z ∈ t.L ∧ z.2.1 ≠ bad ∧ z.1 ≠ x.1) (hsub : R.Sublist t.L) (hbk : ∀ z ∈ R, z.1 ≠ b) (hbad : ∀ z ∈ t.L, z.1.1 ≠ bad) (hbb : b.1 ≠ bad)
    (hin : x.2.2.1 ≠ 1 ∨ inside t.L t.L.length b.1 x.2.1 = false) : Good ⟨R ++ [(b, x.2)], t.vers, t.next⟩ := by
  have hxR : ∀ z ∈ R, z.2.1 ≠ x.2.1 := fun z hz e => ((hR z).1 hz).2.2 (by rw [nodup_inj _ h.ids ((hR z).1 hz).1 hx e])
  have hlen : R.length < t.L.length := by
    rcases Nat.lt_or_ge R.length t.L.length with h1 | h1
    · exact h1
    · have : R = t.L := hsub.eq_of_length_le h1
      rw [this] at hR
      exact absurd rfl ((hR x).1 hx).2.2
  have hx1 := (h.lo x hx).1
  have hM : ∀ z ∈ t.L, z.2.1 ≠ x.2.1 → z.2.1 ≠ bad → z ∈ R ++ [(b, x.2)] := fun z hz h1 h2 =>
    List.mem_append_left _ ((hR z).2 ⟨hz, h2, fun e => h1 (by rw [nodup_inj _ h.keys hz hx e])⟩)
  have hnode : ∀ d, d ≠ bad → nodeF (R ++ [(b, x.2)]) d = nodeF t.L d := by
    intro d hd
    have hiR : (R.map fun x => x.2.1).Nodup := List.Nodup.sublist (hsub.map _) h.ids
    unfold nodeF
    by_cases e : d = 1
    · rw [if_pos e, if_pos e]
    · rw [if_neg e, if_neg e, byId_app, byId_one]
      by_cases ex : x.2.1 = d
      · subst ex
        have : byId R x.2.1 = none := byId_none.2 hxR
        rw [this, byId_of h.ids hx]
        simp
      · rw [if_neg ex, Option.or_none]
        cases hq : byId t.L d with
        | none =>
          have : byId R d = none := byId_none.2 fun z hz => (byId_none.1 hq) z ((hR z).1 hz).1
          rw [this]
        | some z =>
          obtain ⟨hz, rfl⟩ := byId_some hq
          rw [byId_of hiR ((hR z).2 ⟨hz, hd, fun e2 => ex (by rw [nodup_inj _ h.keys hz hx e2])⟩)]
  have hdir : ∀ d, d ≠ bad → isDir t.L d = true → isDir (R ++ [(b, x.2)]) d = true := fun d hd h1 => by
    unfold isDir at h1 ⊢
    rw [hnode d hd]
    exact h1
  obtain ⟨j, hj⟩ := h.hangDir hb
  have hjl := hj.le h.ids
  have hbh : Hang (R ++ [(b, x.2)]) j b.1 := by
    rcases hin with hin | hin
    · have hno := h.noChild hx (.inl hin)
      refine hj.none_outside hM hno hbad hbb ?_
      intro e
      rcases isDir_iff.1 hb with h1 | ⟨_, z, hz, hz1⟩
      · omega
      · rw [e, byId_of h.ids hx] at hz
        injection hz with hz
        subst hz
        exact hin hz1
    · exact hj.outside h.ids hM hbad _ hjl hbb hin
  have hxh : Hang (R ++ [(b, x.2)]) (j + 1) x.2.1 := Hang.up (x := (b, x.2)) (by simp) (by simp only; omega) hbh
  have hhang : ∀ k d, Hang t.L k d → d ≠ bad → ∃ k', Hang (R ++ [(b, x.2)]) k' d := fun k d hk => by
    induction hk with
    | root => exact fun _ => ⟨0, .root⟩
    | @up k z hz h1 _ ih =>
      intro hd
      by_cases e : z.2.1 = x.2.1
      · rw [e]
        exact ⟨_, hxh⟩
      · obtain ⟨k', hk'⟩ := ih (hbad z hz)
        exact ⟨k' + 1, .up (hM z hz e hd) h1 hk'⟩
  have all : ∀ {Q : TE → Prop}, (∀ z ∈ t.L, Q z) → Q (b, x.2) → ∀ z ∈ R ++ [(b, x.2)], Q z := fun h1 h2 z hz => by
    rcases List.mem_append.1 hz with hz | hz
    · exact h1 z ((hR z).1 hz).1
    · rw [List.mem_singleton.1 hz]; exact h2
  refine ⟨?_, ?_, all h.lo (h.lo x hx), all h.kind (h.kind x hx), all h.mode (h.mode x hx), all h.plain (h.plain x hx), all h.link (h.link x hx), all h.name hn, all (fun z hz => hdir _ (hbad z hz) (h.dirs z hz)) (hdir _ hbb hb), all (fun z hz => ?_) ⟨j, hbh⟩, ?_, h.vers, h.next⟩
  · rw [List.map_append]
    refine List.nodup_append.2 ⟨List.Nodup.sublist (hsub.map _) h.keys, by simp, fun a ha c hc e => ?_⟩
    obtain ⟨z, hz, rfl⟩ := List.mem_map.1 ha
    simp only [List.map_cons, List.map_nil, List.mem_singleton] at hc
    exact hbk z hz (e.trans hc)
  · rw [List.map_append]
    refine List.nodup_append.2 ⟨List.Nodup.sublist (hsub.map _) h.ids, by simp, fun a ha c hc e => ?_⟩
    obtain ⟨z, hz, rfl⟩ := List.mem_map.1 ha
    simp only [List.map_cons, List.map_nil, List.mem_singleton] at hc
    exact hxR z hz (e.trans hc)
  · obtain ⟨k, hk⟩ := h.hang z hz
    exact hhang _ _ hk (hbad z hz)
  · have := h.len
    simp only [List.length_append, List.length_singleton]
    omega

theorem placeE_zero {L : List TE} {d : Int} {s : List UInt8} (h : placeE L d s = 0) : isDir L d = true ∧ Nm.checkE s = 0 := by
  unfold placeE at h
  split at h
  · rename_i hne
    exact absurd h hne
  · rename_i hz
    exact ⟨dirE_zero.1 (by omega), h⟩

theorem Good.made {t : T} (h : Good t) (k : Key) (kind mode : Int) (tg : List UInt8) (hp : placeE t.L k.1 k.2 = 0)
    (h3 : kind = 1 ∨ kind = 2 ∨ kind = 3) (hm : 0 ≤ mode ∧ mode ≤ 511) (hpl : kind ≠ 3 → tg = []) (hq : kind = 3 → (Nm.targetR tg).2.2.2 = 0) : Good (Tr.made t k kind mode tg).2 := by
  unfold Tr.made
  obtain ⟨hd, hn⟩ := placeE_zero hp
  split
  · exact h
  · rename_i hk
    split
    · exact h
    · exact h.put k kind mode tg (by simpa using hk) hd hn (by omega) h3 hm hpl hq

theorem Good.removed {t : T} (h : Good t) (k : Key) (dir : Bool) : Good (Tr.removed t k dir).2 := by
  unfold Tr.removed
  split
  · exact h
  · rename_i x hq
    obtain ⟨hx, rfl⟩ := byKey_some hq
    clear hq
    split
    · exact h
    · rename_i h1
      split
      · exact h
      · rename_i h2
        split
        · exact h
        · rename_i h3
          refine h.gone hx ?_
          cases dir with
          | false => exact .inl fun e => h1 ⟨e, rfl⟩
          | true =>
            refine .inr (Classical.byContradiction fun e => h3 ⟨rfl, e⟩)

theorem gives_zero {L : List TE} {n old : Nd} (h : gives L n old = 0) : old.2.1 ≠ 1 ∨ ofDir L old.1 = [] := by
  unfold gives at h
  split at h
  · cases h
  · split at h
    · cases h
    · split at h
      · cases h
      · rename_i h3
        by_cases e : old.2.1 = 1
        · exact .inr (Classical.byContradiction fun q => h3 ⟨e, q⟩)
        · exact .inl e

theorem gone_none {L : List TE} {k : Key} (h : byKey L k = none) : gone L k = L := by
  unfold gone
  exact List.filter_eq_self.2 fun x hx => by simpa using (byKey_none.1 h) x hx

theorem Good.renamed {t : T} (h : Good t) (a b : Key) (hb : placeE t.L b.1 b.2 = 0) : Good (Tr.renamed t a b).2 := by
  unfold Tr.renamed
  obtain ⟨hd, hn⟩ := placeE_zero hb
  split
  · exact h
  · rename_i x hq
    obtain ⟨hx, rfl⟩ := byKey_some hq
    clear hq
    split
    · exact h
    · rename_i h1
      have hin : x.2.2.1 ≠ 1 ∨ inside t.L t.L.length b.1 x.2.1 = false := by
        by_cases e : x.2.2.1 = 1
        · exact .inr (Bool.eq_false_iff.2 fun q => h1 ⟨e, q⟩)
        · exact .inl e
      split
      · exact h
      · rename_i hne
        split
        · rename_i hbn
          refine h.move hx (bad := 0) hd hn ?_ List.filter_sublist ?_ ?_ ?_ hin
          · intro z
            rw [mem_gone h.keys hx]
            exact ⟨fun q => ⟨q.1, by have := (h.lo z q.1).1; omega, fun e => q.2 (nodup_inj _ h.keys q.1 hx e)⟩, fun q => ⟨q.1, fun e => q.2.2 (by rw [e])⟩⟩
          · exact fun z hz => (byKey_none.1 hbn) z ((mem_gone h.keys hx z).1 hz).1
          · intro z hz e
            have := h.dirs z hz
            rw [e] at this
            rcases isDir_iff.1 this with q | ⟨_, y, hy, _⟩
            · cases q
            · obtain ⟨hy, e2⟩ := byId_some hy
              have := (h.lo y hy).1
              omega
          · intro e
            rw [e] at hd
            rcases isDir_iff.1 hd with q | ⟨_, y, hy, _⟩
            · cases q
            · obtain ⟨hy, e2⟩ := byId_some hy
              have := (h.lo y hy).1
              omega
        · rename_i y hq
          obtain ⟨hy, rfl⟩ := byKey_some hq
          clear hq
          split
          · exact h
          · rename_i hg
            have hc := gives_zero (Classical.byContradiction fun q => hg q)
            have hno := h.noChild hy hc
            have hxy : x ≠ y := fun e => hne (by rw [e])
            refine h.move hx (bad := y.2.1) hd hn ?_ (List.filter_sublist.trans List.filter_sublist) ?_ hno ?_ hin
            · intro z
              have hg := h.gone hy hc
              have hx' : x ∈ Tr.gone t.L y.1 := (mem_gone h.keys hy x).2 ⟨hx, hxy⟩
              rw [mem_gone hg.keys hx', mem_gone h.keys hy]
              exact ⟨fun q => ⟨q.1.1, fun e => q.1.2 (nodup_inj _ h.ids q.1.1 hy e), fun e => q.2 (nodup_inj _ h.keys q.1.1 hx e)⟩, fun q => ⟨⟨q.1, fun e => q.2.1 (by rw [e])⟩, fun e => q.2.2 (by rw [e])⟩⟩
            · intro z hz e
              have hz' : z ∈ Tr.gone t.L y.1 := (List.mem_filter.1 hz).1
              obtain ⟨q1, q2⟩ := (mem_gone h.keys hy z).1 hz'
              exact q2 (nodup_inj _ h.keys q1 hy e)
            · exact hno y hy

theorem goodMode_iff {m : Int} : goodMode m = true ↔ 0 ≤ m ∧ m ≤ 511 := by unfold goodMode; simp

theorem Good.does {t : T} (h : Good t) (o : Op) : Good (Tr.does t o).2 := by
  unfold Tr.does
  split
  · exact h
  · split
    · exact h
    · rename_i hp
      have hp0 : placeE t.L o.key.1 o.key.2 = 0 := Classical.byContradiction fun q => hp q
      split
      · split
        · rename_i hm
          exact h.made _ _ _ _ hp0 (.inr (.inl rfl)) (goodMode_iff.1 hm) (fun _ => rfl) (fun q => by cases q)
        · exact h
      split
      · split
        · rename_i hm
          exact h.made _ _ _ _ hp0 (.inl rfl) (goodMode_iff.1 hm) (fun _ => rfl) (fun q => by cases q)
        · exact h
      split
      · split
        · exact h
        · rename_i ht
          exact h.made _ _ _ _ hp0 (.inr (.inr rfl)) ⟨by omega, by omega⟩ (fun q => absurd rfl q) (fun _ => Classical.byContradiction fun q => ht q)
      split
      · exact h.removed _ _
      split
      · exact h.removed _ _
      split
      · split
        · exact h
        · rename_i hq
          exact h.renamed _ _ (Classical.byContradiction fun q => hq q)
      split
      · rename_i hm
        split
        · exact h.setMode _ (goodMode_iff.1 hm)
        · exact h
      · exact h

theorem Good.apply {t : T} (h : Good t) (o : Op) : Good (Tr.apply t o).1 := by
  unfold Tr.apply
  split
  · exact h
  · obtain ⟨a, b, c, d, e, f, g, i, j, k, l, m, n⟩ := h.does o
    have := h.vers
    exact ⟨a, b, c, d, e, f, g, i, j, k, l, by simp only; omega, n⟩

theorem Good.run {t : T} (h : Good t) (s : List Op) : Good (Tr.run t s) := by
  induction s generalizing t with
  | nil => exact h
  | cons o s ih => exact ih (h.apply o)

def SizeOk (t t' : T) : Prop := t'.next ≤ t.next + 1 ∧ t.next ≤ t'.next ∧ t'.vers = t.vers
theorem SizeOk.refl (t : T) : SizeOk t t := ⟨by omega, by omega, rfl⟩
theorem made_size (t : T) (k : Key) (kind mode : Int) (tg : List UInt8) : SizeOk t (made t k kind mode tg).2 := by
  unfold made
  split
  · exact .refl t
  · split
    · exact .refl t
    · exact ⟨Int.le_refl _, by simp only; omega, rfl⟩
theorem removed_size (t : T) (k : Key) (d : Bool) : SizeOk t (removed t k d).2 := by
  unfold removed
  repeat' split
  all_goals exact ⟨by simp only; omega, by simp only; omega, rfl⟩
theorem renamed_size (t : T) (a b : Key) : SizeOk t (renamed t a b).2 := by
  unfold renamed
  repeat' split
  all_goals exact ⟨by simp only; omega, by simp only; omega, rfl⟩
theorem does_size (t : T) (o : Op) : SizeOk t (does t o).2 := by
  unfold does
  repeat' split
  all_goals first
    | exact .refl t
    | exact made_size ..
    | exact removed_size ..
    | exact renamed_size ..
    | exact ⟨by simp only; omega, by simp only; omega, rfl⟩
theorem apply_size (t : T) (o : Op) : (apply t o).1.next ≤ t.next + 1 ∧ t.next ≤ (apply t o).1.next ∧ (apply t o).1.vers ≤ t.vers + 1 ∧ t.vers ≤ (apply t o).1.vers := by
  unfold apply
  obtain ⟨h1, h2, h3⟩ := does_size t o
  split
  · simp only
    omega
  · simp only
    omega
theorem run_size (t : T) (s : List Op) : (run t s).next ≤ t.next + s.length ∧ (run t s).vers ≤ t.vers + s.length ∧ t.next ≤ (run t s).next ∧ t.vers ≤ (run t s).vers := by
  induction s generalizing t with
  | nil => simp [run]
  | cons o s ih =>
    have h1 := ih (apply t o).1
    have h2 := apply_size t o
    simp only [List.length_cons]
    have e : run t (o :: s) = run (apply t o).1 s := rfl
    rw [e]
    omega
theorem run_step (t : T) (s : List Op) {j : Nat} {o : Op} (h : s[j]? = some o) : run t (s.take (j + 1)) = (apply (run t (s.take j)) o).1 := by
  unfold run
  rw [List.take_add_one, h]
  simp
end Tr
end Go.Proofs.YtoacobcbloljkaaGreatDoor

/-! # TreeFn: The tree of layer 5 as functions: what a node's id, a name, a place lead to, and how each change turns them; sorted lists of names and of directories. No program in it. -/
namespace Go.Proofs.YtoacobcbloljkaaGreatDoor
namespace Tr

/-! ## The changes -/
section
variable {t : T}

theorem Good.byId0 (h : Good t) {d : Int} (hd : d < 2) : byId t.L d = none := byId_none.2 fun x hx e => by have := (h.lo x hx).1; omega
theorem Good.noNext (h : Good t) : byId t.L t.next = none := byId_none.2 fun x hx e => by have := (h.lo x hx).2; omega
theorem Good.nodeF0 (h : Good t) : nodeF t.L 0 = none := by
  unfold nodeF
  rw [if_neg (by omega), h.byId0 (by omega)]
  rfl
theorem Good.isDir_of_name (h : Good t) {d : Int} {s : List UInt8} {i : Int} (hn : nameF t.L d s = some i) : isDir t.L d = true := by
  unfold nameF at hn
  cases hb : byKey t.L (d, s) with
  | none => rw [hb] at hn; cases hn
  | some x =>
    obtain ⟨hx, e⟩ := byKey_some hb
    have := h.dirs x hx
    rw [e] at this
    exact this

theorem nodeF_put {L : List TE} (k : Key) (n : Nd) (h1 : n.1 ≠ 1) (hf : byId L n.1 = none) (i : Int) : nodeF (L ++ [(k, n)]) i = if i = n.1 then some n else nodeF L i := by
  unfold nodeF
  rw [byId_app, byId_one]
  by_cases e : i = n.1
  · subst e
    rw [if_neg h1, if_pos rfl, hf, if_pos rfl]
    rfl
  · rw [if_neg e]
    by_cases h : i = 1
    · rw [if_pos h, if_pos h]
    · rw [if_neg h, if_neg h, if_neg (fun q => e q.symm), Option.or_none]
theorem nameF_put {L : List TE} (k : Key) (n : Nd) (hf : byKey L k = none) (d : Int) (s : List UInt8) : nameF (L ++ [(k, n)]) d s = if (d, s) = k then some n.1 else nameF L d s := by
  unfold nameF
  rw [byKey_app, byKey_one]
  by_cases e : (d, s) = k
  · rw [e, hf, if_pos rfl, if_pos rfl]
    rfl
  · rw [if_neg e, if_neg (fun q => e q.symm), Option.or_none]
theorem placeF_put {L : List TE} (k : Key) (n : Nd) (hf : byId L n.1 = none) (i : Int) : placeF (L ++ [(k, n)]) i = if i = n.1 then some k else placeF L i := by
  unfold placeF
  rw [byId_app, byId_one]
  by_cases e : i = n.1
  · subst e
    rw [if_pos rfl, hf, if_pos rfl]
    rfl
  · rw [if_neg e, if_neg (fun q => e q.symm), Option.or_none]
theorem isDir_put {L : List TE} (k : Key) (n : Nd) (h1 : n.1 ≠ 1) (hf : byId L n.1 = none) (d : Int) : isDir (L ++ [(k, n)]) d = if d = n.1 then decide (n.2.1 = 1) else isDir L d := by
  unfold isDir
  rw [nodeF_put k n h1 hf]
  split <;> rfl

theorem Good.nodeF_gone (h : Good t) {x : TE} (hx : x ∈ t.L) (i : Int) : nodeF (Tr.gone t.L x.1) i = if i = x.2.1 then none else nodeF t.L i := by
  have := (h.lo x hx).1
  unfold nodeF
  rw [byId_gone h.keys h.ids hx]
  by_cases e : i = x.2.1
  · rw [if_neg (by omega), if_pos e, if_pos e]
    rfl
  · rw [if_neg e, if_neg e]
theorem Good.placeF_gone (h : Good t) {x : TE} (hx : x ∈ t.L) (i : Int) : placeF (Tr.gone t.L x.1) i = if i = x.2.1 then none else placeF t.L i := by
  unfold placeF
  rw [byId_gone h.keys h.ids hx]
  by_cases e : i = x.2.1
  · rw [if_pos e, if_pos e]
    rfl
  · rw [if_neg e, if_neg e]
theorem nameF_gone (L : List TE) (k : Key) (d : Int) (s : List UInt8) : nameF (gone L k) d s = if (d, s) = k then none else nameF L d s := by
  unfold nameF
  rw [byKey_gone]
  split <;> rfl
theorem Good.isDir_gone (h : Good t) {x : TE} (hx : x ∈ t.L) (d : Int) : isDir (Tr.gone t.L x.1) d = if d = x.2.1 then false else isDir t.L d := by
  unfold isDir
  rw [h.nodeF_gone hx]
  split <;> rfl

/-- A node has moved. -/
theorem nodeF_move {R L : List TE} {x : TE} (hg : ∀ i, nodeF R i = if i = x.2.1 then none else nodeF L i) (h1 : x.2.1 ≠ 1) (hx : nodeF L x.2.1 = some x.2) (hf : byId R x.2.1 = none) (b : Key) (i : Int) : nodeF (R ++ [(b, x.2)]) i = nodeF L i := by
  rw [nodeF_put b x.2 h1 hf, hg]
  by_cases e : i = x.2.1
  · rw [if_pos e, e, hx]
  · rw [if_neg e, if_neg e]

theorem Good.nodeF_mem (h : Good t) {x : TE} (hx : x ∈ t.L) : nodeF t.L x.2.1 = some x.2 := by
  have := (h.lo x hx).1
  unfold nodeF
  rw [if_neg (by omega), byId_of h.ids hx]
  rfl
theorem Good.placeF_mem (h : Good t) {x : TE} (hx : x ∈ t.L) : placeF t.L x.2.1 = some x.1 := by
  unfold placeF
  rw [byId_of h.ids hx]
  rfl
theorem Good.nameF_mem (h : Good t) {x : TE} (hx : x ∈ t.L) : nameF t.L x.1.1 x.1.2 = some x.2.1 := by
  unfold nameF
  rw [byKey_of h.keys hx]
  rfl
theorem Good.nowE_mem (h : Good t) {x : TE} (hx : x ∈ t.L) : nowE t.L x.1 = enOf x := by
  unfold nowE
  rw [byKey_of h.keys hx]
  rfl

theorem nameF_setMode (L : List TE) (k : Key) (m : Int) (d : Int) (s : List UInt8) : nameF (setMode L k m) d s = nameF L d s := by
  unfold nameF
  rw [byKey_setMode]
  cases byKey L (d, s) with
  | none => rfl
  | some x =>
    simp only [Option.map_some]
    split <;> rfl
theorem placeF_setMode (L : List TE) (k : Key) (m : Int) (i : Int) : placeF (setMode L k m) i = placeF L i := by
  unfold placeF
  rw [byId_setMode]
  cases byId L i with
  | none => rfl
  | some x =>
    simp only [Option.map_some]
    split <;> rfl
theorem Good.nodeF_setMode (h : Good t) {x : TE} (hx : x ∈ t.L) (m : Int) (i : Int) : nodeF (Tr.setMode t.L x.1 m) i = if i = x.2.1 then some (x.2.1, x.2.2.1, m, x.2.2.2.2) else nodeF t.L i := by
  have := (h.lo x hx).1
  unfold nodeF
  rw [byId_setMode]
  by_cases e : i = x.2.1
  · subst e
    rw [if_neg (by omega), byId_of h.ids hx, if_pos rfl]
    simp
  · rw [if_neg e]
    by_cases h1 : i = 1
    · rw [if_pos h1, if_pos h1]
    · rw [if_neg h1, if_neg h1]
      cases hb : byId t.L i with
      | none => rfl
      | some y =>
        obtain ⟨hy, e2⟩ := byId_some hb
        have : y.1 ≠ x.1 := fun q => e (by rw [← e2, nodup_inj _ h.keys hy hx q])
        simp [this]
end

/-! ## Sorted lists -/
theorem leN_trans (a b c : List UInt8) (h1 : leN a b = true) (h2 : leN b c = true) : leN a c = true := by
  simp only [leN, decide_eq_true_eq] at *
  exact List.le_trans h1 h2
theorem leN_total (a b : List UInt8) : (leN a b || leN b a) = true := by
  simp only [leN, Bool.or_eq_true, decide_eq_true_eq]
  exact List.le_total a b
theorem leN_anti {a b : List UInt8} (h1 : leN a b = true) (h2 : leN b a = true) : a = b := by
  simp only [leN, decide_eq_true_eq] at *
  exact List.le_antisymm h1 h2
theorem leK_trans (a b c : Key) (h1 : leK a b = true) (h2 : leK b c = true) : leK a c = true := by
  simp only [leK, Bool.or_eq_true, Bool.and_eq_true, decide_eq_true_eq] at *
  rcases h1 with h1 | ⟨h1, h3⟩
  · rcases h2 with h2 | ⟨h2, _⟩
    · exact .inl (by omega)
    · exact .inl (by omega)
  · rcases h2 with h2 | ⟨h2, h4⟩
    · exact .inl (by omega)
    · exact .inr ⟨by omega, leN_trans _ _ _ h3 h4⟩
theorem leK_total (a b : Key) : (leK a b || leK b a) = true := by
  have := leN_total a.2 b.2
  simp only [leK, Bool.or_eq_true, Bool.and_eq_true, decide_eq_true_eq] at *
  rcases Int.lt_trichotomy a.1 b.1 with h | h | h
  · exact .inl (.inl h)
  · rcases this with q | q
    · exact .inl (.inr ⟨h, q⟩)
    · exact .inr (.inr ⟨h.symm, q⟩)
  · exact .inr (.inl h)
theorem leK_anti {a b : Key} (h1 : leK a b = true) (h2 : leK b a = true) : a = b := by
  obtain ⟨a1, a2⟩ := a
  obtain ⟨b1, b2⟩ := b
  simp only [leK, Bool.or_eq_true, Bool.and_eq_true, decide_eq_true_eq] at *
  rcases h1 with h1 | ⟨h1, h3⟩
  · rcases h2 with h2 | ⟨h2, _⟩ <;> omega
  · rcases h2 with h2 | ⟨_, h4⟩
    · omega
    · rw [h1, leN_anti h3 h4]

def srt (L : List TE) : List TE := L.mergeSort fun x y => leK x.1 y.1
theorem srt_perm (L : List TE) : (srt L).Perm L := List.mergeSort_perm _ _
theorem srt_pair (L : List TE) : (srt L).Pairwise fun x y => leK x.1 y.1 = true := List.pairwise_mergeSort (fun a b c => leK_trans a.1 b.1 c.1) (fun a b => leK_total a.1 b.1) L
theorem srt_eq {L M : List TE} (hk : (L.map Prod.fst).Nodup) (hp : M.Perm L) (hs : M.Pairwise fun x y => leK x.1 y.1 = true) : M = srt L := by
  refine List.Perm.eq_of_pairwise (le := fun x y => leK x.1 y.1 = true) (fun a b ha hb h1 h2 => ?_) hs (srt_pair L) (hp.trans (srt_perm L).symm)
  exact nodup_inj Prod.fst hk (hp.mem_iff.1 ha) ((srt_perm L).mem_iff.1 hb) (leK_anti h1 h2)

theorem mem_ofDir {L : List TE} {d : Int} {x : TE} : x ∈ ofDir L d ↔ x ∈ L ∧ x.1.1 = d := by
  unfold ofDir
  rw [List.mem_filter]
  simp
theorem ofDir_names {L : List TE} (hk : (L.map Prod.fst).Nodup) (d : Int) : ((ofDir L d).map fun x => x.1.2).Nodup := by
  have h : ((ofDir L d).map Prod.fst).Nodup := List.Nodup.sublist ((List.filter_sublist).map _) hk
  rw [List.Nodup, List.pairwise_map] at h ⊢
  refine h.imp_of_mem fun {x y} hx hy hne e => hne (Prod.ext ?_ e)
  rw [(mem_ofDir.1 hx).2, (mem_ofDir.1 hy).2]

/-- The names of a directory, rising, and what they are. -/
theorem names_sorted {L : List TE} (d : Int) {ns : List (List UInt8)} (hp : ns.Perm ((ofDir L d).map fun x => x.1.2)) : ns.mergeSort (fun x y => decide (x ≤ y)) = (srt (ofDir L d)).map fun x => x.1.2 := by
  refine List.Perm.eq_of_pairwise (le := fun x y => leN x y = true) (fun a b _ _ h1 h2 => leN_anti h1 h2) (List.pairwise_mergeSort leN_trans leN_total ns) ?_ ((List.mergeSort_perm ns _).trans (hp.trans ((srt_perm _).map _).symm))
  rw [List.pairwise_map]
  refine (srt_pair (ofDir L d)).imp_of_mem fun {x y} hx hy h => ?_
  have h1 := (mem_ofDir.1 ((srt_perm _).mem_iff.1 hx)).2
  have h2 := (mem_ofDir.1 ((srt_perm _).mem_iff.1 hy)).2
  simp only [leK, Bool.or_eq_true, Bool.and_eq_true, decide_eq_true_eq] at h
  rcases h with h | ⟨_, h⟩
  · omega
  · exact h

theorem list_now {L : List TE} (hk : (L.map Prod.fst).Nodup) (d : Int) {ns : List (List UInt8)} (hp : ns.Perm ((ofDir L d).map fun x => x.1.2)) :
    (ns.mergeSort fun x y => decide (x ≤ y)).map (fun s => nowE L (d, s)) = sorted (ofDir L d) := by
  rw [names_sorted d hp, List.map_map]
  unfold sorted
  refine List.map_congr_left fun x hx => ?_
  have hm := mem_ofDir.1 ((srt_perm _).mem_iff.1 hx)
  show nowE L (d, x.1.2) = enOf x
  unfold nowE
  have : (d, x.1.2) = x.1 := by rw [← hm.2]
  rw [this, byKey_of hk hm.1]
  rfl

theorem perm_flat {L : List TE} : ∀ {ds : List Int}, ds.Nodup → (∀ x ∈ L, x.1.1 ∈ ds) → (ds.flatMap fun d => srt (ofDir L d)).Perm L := by
  intro ds
  induction ds generalizing L with
  | nil =>
    intro _ h
    cases L with
    | nil => exact .refl _
    | cons x r => exact absurd (h x (.head _)) (by simp)
  | cons d ds ih =>
    intro hn h
    rw [List.nodup_cons] at hn
    rw [List.flatMap_cons]
    let R := L.filter fun x => !decide (x.1.1 = d)
    have hR : ∀ e ∈ ds, ofDir L e = ofDir R e := fun e he => by
      unfold ofDir
      rw [List.filter_filter]
      refine List.filter_congr fun x _ => ?_
      by_cases q : x.1.1 = e
      · have : ¬ x.1.1 = d := fun q2 => hn.1 (by rw [← q2, q]; exact he)
        simp [q]
        exact fun q2 => this (by rw [q]; exact q2)
      · simp [q]
    have e1 : (ds.flatMap fun d => srt (ofDir L d)) = ds.flatMap fun d => srt (ofDir R d) := by
      unfold List.flatMap
      rw [List.map_congr_left fun e he => by rw [hR e he]]
    rw [e1]
    have h2 := ih (L := R) hn.2 fun x hx => by
      obtain ⟨hx1, hx2⟩ := List.mem_filter.1 hx
      rcases List.mem_cons.1 (h x hx1) with q | q
      · simp [q] at hx2
      · exact q
    refine ((srt_perm _).append h2).trans ?_
    exact List.filter_append_perm (fun x : TE => decide (x.1.1 = d)) L

theorem pair_flat {L : List TE} : ∀ {ds : List Int}, ds.Pairwise (fun a b => a < b) → (ds.flatMap fun d => srt (ofDir L d)).Pairwise fun x y => leK x.1 y.1 = true := by
  intro ds
  induction ds with
  | nil => intro _; exact .nil
  | cons d ds ih =>
    intro hn
    rw [List.pairwise_cons] at hn
    rw [List.flatMap_cons, List.pairwise_append]
    refine ⟨srt_pair _, ih hn.2, fun x hx y hy => ?_⟩
    obtain ⟨e, he, hy⟩ := List.mem_flatMap.1 hy
    have h1 := (mem_ofDir.1 ((srt_perm _).mem_iff.1 hx)).2
    have h2 := (mem_ofDir.1 ((srt_perm _).mem_iff.1 hy)).2
    have := hn.1 e he
    simp only [leK, Bool.or_eq_true, decide_eq_true_eq]
    exact .inl (by omega)

/-- All entries: directory by directory. -/
theorem dump_flat {L : List TE} (hk : (L.map Prod.fst).Nodup) {ds : List Int} (hn : ds.Nodup) (hd : ∀ x ∈ L, x.1.1 ∈ ds) :
    ((ds.mergeSort fun x y => decide (x ≤ y)).flatMap fun d => sorted (ofDir L d)) = sorted L := by
  have hp := List.mergeSort_perm ds fun x y => decide (x ≤ y)
  have hs : (ds.mergeSort fun x y => decide (x ≤ y)).Pairwise fun a b => decide (a ≤ b) = true := List.pairwise_mergeSort (fun a b c h1 h2 => by simp only [decide_eq_true_eq] at *; omega) (fun a b => by simp only [Bool.or_eq_true, decide_eq_true_eq]; omega) ds
  have hn' : (ds.mergeSort fun x y => decide (x ≤ y)).Nodup := hp.nodup_iff.2 hn
  have hlt : (ds.mergeSort fun x y => decide (x ≤ y)).Pairwise fun a b => a < b := by
    rw [List.Nodup] at hn'
    refine (hs.and hn').imp fun {a b} h => ?_
    have := h.1
    have h2 := h.2
    simp only [decide_eq_true_eq] at this
    omega
  have := srt_eq hk (perm_flat hn' fun x hx => hp.mem_iff.2 (hd x hx)) (pair_flat hlt)
  unfold sorted
  show _ = (srt L).map enOf
  rw [← this, List.map_flatMap]
  rfl
end Tr
end Go.Proofs.YtoacobcbloljkaaGreatDoor

/-! # TreePure: Plain laws of the tree, for the statements of layer 5. No program in it. -/
namespace Go.Proofs.YtoacobcbloljkaaGreatDoor
namespace Tr

/-! ## What is told of errors -/
theorem placeE_of_dir {L : List TE} {d : Int} {s : List UInt8} (h : dirE L d ≠ 0) : placeE L d s = dirE L d := by unfold placeE; rw [if_pos h]
theorem placeE_of_name {L : List TE} {d : Int} {s : List UInt8} (h : dirE L d = 0) : placeE L d s = Nm.checkE s := by unfold placeE; rw [if_neg (by omega)]
theorem lookR_err (L : List TE) (d : Int) (s : List UInt8) : (lookR L d s).2 = placeE L d s := by
  unfold lookR
  split
  · rfl
  · rename_i h
    simp only
    omega
theorem listR_err (L : List TE) (d : Int) : (listR L d).2 = dirE L d := by
  unfold listR
  split
  · rfl
  · rename_i h
    simp only
    omega
theorem apply_err (t : T) (o : Op) : (apply t o).2.2.2 = (does t o).1 := by
  unfold apply
  split
  · rfl
  · rename_i h
    simp only
    omega
theorem apply_bad {t : T} {o : Op} (h : (does t o).1 ≠ 0) : apply t o = (t, [], [], (does t o).1) := by unfold apply; rw [if_pos h]
theorem apply_ok {t : T} {o : Op} (h : (does t o).1 = 0) : apply t o = (⟨(does t o).2.L, t.vers + 1, (does t o).2.next⟩, (keysOf o).map (nowE (does t o).2.L), keysOf o, 0) := by unfold apply; rw [if_neg (by omega)]
theorem does_place {t : T} {o : Op} (h1 : 5 ≤ o.1) (h2 : o.1 ≤ 11) (h : placeE t.L o.2.1 o.2.2.1 ≠ 0) : (does t o).1 = placeE t.L o.2.1 o.2.2.1 := by
  unfold does
  rw [if_neg (by omega), if_pos h]
/-- TreeNames. -/
theorem names_law {t : T} {o : Op} (h1 : 5 ≤ o.1) (h2 : o.1 ≤ 11) :
    (dirE t.L o.2.1 ≠ 0 → (lookR t.L o.2.1 o.2.2.1).2 = dirE t.L o.2.1 ∧ apply t o = (t, [], [], dirE t.L o.2.1)) ∧
    (dirE t.L o.2.1 = 0 → Nm.checkE o.2.2.1 ≠ 0 → (lookR t.L o.2.1 o.2.2.1).2 = Nm.checkE o.2.2.1 ∧ apply t o = (t, [], [], Nm.checkE o.2.2.1)) ∧
    (dirE t.L o.2.1 = 0 → Nm.checkE o.2.2.1 = 0 → (lookR t.L o.2.1 o.2.2.1).2 = 0) := by
  refine ⟨fun h => ?_, fun h hn => ?_, fun h hn => ?_⟩
  · have hp := placeE_of_dir (s := o.2.2.1) h
    have hd := does_place (t := t) h1 h2 (by rw [hp]; exact h)
    exact ⟨by rw [lookR_err, hp], by rw [apply_bad (by rw [hd, hp]; exact h), hd, hp]⟩
  · have hp := placeE_of_name (s := o.2.2.1) h
    have hd := does_place (t := t) h1 h2 (by rw [hp]; exact hn)
    exact ⟨by rw [lookR_err, hp], by rw [apply_bad (by rw [hd, hp]; exact hn), hd, hp]⟩
  · rw [lookR_err, placeE_of_name h, hn]

/-! ## Made and taken away -/
section
variable {t : T} {o : Op}
theorem does_5 (hp : placeE t.L o.2.1 o.2.2.1 = 0) (h : o.1 = 5) : does t o = if goodMode o.mode = true then made t o.key 2 o.mode [] else (1, t) := by
  unfold does
  rw [if_neg (by omega), if_neg (by omega), if_pos h]
theorem does_6 (hp : placeE t.L o.2.1 o.2.2.1 = 0) (h : o.1 = 6) : does t o = if goodMode o.mode = true then made t o.key 1 o.mode [] else (1, t) := by
  unfold does
  rw [if_neg (by omega), if_neg (by omega), if_neg (by omega), if_pos h]
theorem does_7 (hp : placeE t.L o.2.1 o.2.2.1 = 0) (h : o.1 = 7) : does t o = if (Nm.targetR o.target).2.2.2 ≠ 0 then ((Nm.targetR o.target).2.2.2, t) else made t o.key 3 0 o.target := by
  unfold does
  rw [if_neg (by omega), if_neg (by omega), if_neg (by omega), if_neg (by omega), if_pos h]
theorem does_8 (hp : placeE t.L o.2.1 o.2.2.1 = 0) (h : o.1 = 8) : does t o = removed t o.key false := by
  unfold does
  rw [if_neg (by omega), if_neg (by omega), if_neg (by omega), if_neg (by omega), if_neg (by omega), if_pos h]
theorem does_9 (hp : placeE t.L o.2.1 o.2.2.1 = 0) (h : o.1 = 9) : does t o = removed t o.key true := by
  unfold does
  rw [if_neg (by omega), if_neg (by omega), if_neg (by omega), if_neg (by omega), if_neg (by omega), if_neg (by omega), if_pos h]
theorem does_10 (hp : placeE t.L o.2.1 o.2.2.1 = 0) (h : o.1 = 10) : does t o = if placeE t.L o.to.1 o.to.2 ≠ 0 then (placeE t.L o.to.1 o.to.2, t) else renamed t o.key o.to := by
  unfold does
  rw [if_neg (by omega), if_neg (by omega), if_neg (by omega), if_neg (by omega), if_neg (by omega), if_neg (by omega), if_neg (by omega), if_pos h]
theorem does_11 (hp : placeE t.L o.2.1 o.2.2.1 = 0) (h : o.1 = 11) : does t o = if goodMode o.mode = true then (if (byKey t.L o.key).isSome = true then (0, ⟨setMode t.L o.key o.mode, t.vers, t.next⟩) else (40, t)) else (1, t) := by
  unfold does
  rw [if_neg (by omega), if_neg (by omega), if_neg (by omega), if_neg (by omega), if_neg (by omega), if_neg (by omega), if_neg (by omega), if_neg (by omega)]
theorem does_zero (h : (does t o).1 = 0) : 5 ≤ o.1 ∧ o.1 ≤ 11 ∧ placeE t.L o.2.1 o.2.2.1 = 0 := by
  unfold does at h
  split at h
  · cases h
  · split at h
    · rename_i hp; exact absurd h hp
    · rename_i h1 hp
      exact ⟨by omega, by omega, Classical.byContradiction fun q => hp q⟩
theorem made_zero {k : Key} {kind mode : Int} {tg : List UInt8} (h : (made t k kind mode tg).1 = 0) : byKey t.L k = none ∧ t.L.length + 1 < 48 ∧ (made t k kind mode tg).2 = ⟨t.L ++ [(k, t.next, kind, mode, tg)], t.vers, t.next + 1⟩ := by
  unfold made at h ⊢
  split at h
  · cases h
  · rename_i hk
    split at h
    · cases h
    · rename_i hl
      rw [if_neg hk, if_neg hl]
      exact ⟨by simpa using hk, by omega, rfl⟩
end

/-- What is made: the key, the node. -/
theorem does_make {t : T} {o : Op} (h2 : o.1 ≤ 7) (h : (does t o).1 = 0) :
    placeE t.L o.2.1 o.2.2.1 = 0 ∧ byKey t.L o.key = none ∧ t.L.length + 1 < 48 ∧ ∃ n : Nd, n.1 = t.next ∧ n.2.1 = (if o.1 = 6 then 1 else if o.1 = 5 then 2 else 3) ∧ (does t o).2 = ⟨t.L ++ [(o.key, n)], t.vers, t.next + 1⟩ := by
  obtain ⟨h1, _, hp⟩ := does_zero h
  refine ⟨hp, ?_⟩
  by_cases h5 : o.1 = 5
  · rw [does_5 hp h5] at h ⊢
    split at h
    · rename_i hg
      rw [if_pos hg]
      obtain ⟨a, b, c⟩ := made_zero h
      exact ⟨a, b, _, rfl, by simp [h5], c⟩
    · cases h
  by_cases h6 : o.1 = 6
  · rw [does_6 hp h6] at h ⊢
    split at h
    · rename_i hg
      rw [if_pos hg]
      obtain ⟨a, b, c⟩ := made_zero h
      exact ⟨a, b, _, rfl, by simp [h6], c⟩
    · cases h
  have h7 : o.1 = 7 := by omega
  rw [does_7 hp h7] at h ⊢
  split at h
  · rename_i hg; exact absurd h hg
  · rename_i hg
    rw [if_neg hg]
    obtain ⟨a, b, c⟩ := made_zero h
    exact ⟨a, b, _, rfl, by simp [h7], c⟩

theorem placeE_put {t : T} (h : Good t) {k : Key} {n : Nd} (h1 : n.1 = t.next) {d : Int} {s : List UInt8} (hp : placeE t.L d s = 0) : placeE (t.L ++ [(k, n)]) d s = 0 := by
  obtain ⟨hd, hn⟩ := placeE_zero hp
  have hdd : dirE (t.L ++ [(k, n)]) d = 0 := dirE_zero.2 (by
    have := h.next
    rw [isDir_put k n (by omega) (by rw [h1]; exact h.noNext)]
    split
    · rename_i e
      rw [e, h1] at hd
      have := isDir_iff.1 hd
      rw [h.noNext] at this
      have := h.next
      rcases ‹t.next = 1 ∨ _› with q | ⟨_, x, hx, _⟩
      · omega
      · cases hx
    · exact hd)
  rw [placeE_of_name hdd, hn]

/-- TreeUndone: op made an entry; the wrong removal is refused, the right one brings back what was there. -/
theorem undone_law {t : T} (hg : Good t) {o : Op} (h2 : o.1 ≤ 7) (h : (does t o).1 = 0) :
    ∃ n : Nd, n.1 = t.next ∧ n.2.1 = (if o.1 = 6 then 1 else if o.1 = 5 then 2 else 3) ∧
      apply t o = (⟨t.L ++ [(o.key, n)], t.vers + 1, t.next + 1⟩, [(o.key, false, n)], [o.key], 0) ∧
      apply ⟨t.L ++ [(o.key, n)], t.vers + 1, t.next + 1⟩ (if o.1 = 6 then 8 else 9, o.2.1, o.2.2.1, 0, [], 0, []) = (⟨t.L ++ [(o.key, n)], t.vers + 1, t.next + 1⟩, [], [], if o.1 = 6 then 43 else 42) ∧
      apply ⟨t.L ++ [(o.key, n)], t.vers + 1, t.next + 1⟩ (if o.1 = 6 then 9 else 8, o.2.1, o.2.2.1, 0, [], 0, []) = (⟨t.L, t.vers + 2, t.next + 1⟩, [(o.key, true, noN)], [o.key], 0) ∧
      findR t.L t.next = (noE, 46) := by
  obtain ⟨hp, hk, hl, n, hn1, hn2, hd⟩ := does_make h2 h
  have hnx := hg.next
  have hfree : byId t.L t.next = none := hg.noNext
  have hkeys : keysOf o = [o.key] := by unfold keysOf; rw [if_neg (by omega)]
  have hbk : byKey (t.L ++ [(o.key, n)]) o.key = some (o.key, n) := by rw [byKey_app, hk, byKey_one, if_pos rfl]; rfl
  have hgone : gone (t.L ++ [(o.key, n)]) o.key = t.L := by
    unfold gone
    rw [List.filter_append, List.filter_cons_of_neg (by simp), List.filter_nil, List.append_nil]
    exact gone_none hk
  have hkid : ofDir (t.L ++ [(o.key, n)]) n.1 = [] := by
    unfold ofDir
    rw [List.filter_eq_nil_iff]
    intro x hx
    simp only [decide_eq_true_eq]
    intro e
    have hnd : isDir t.L x.1.1 = true := by
      rcases List.mem_append.1 hx with hx | hx
      · exact hg.dirs x hx
      · rw [List.mem_singleton.1 hx]
        exact (placeE_zero hp).1
    rw [e, hn1] at hnd
    rcases isDir_iff.1 hnd with q | ⟨_, y, hy, _⟩
    · omega
    · rw [hfree] at hy; cases hy
  have hp2 := placeE_put hg (k := o.key) hn1 hp
  refine ⟨n, hn1, hn2, ?_, ?_, ?_, ?_⟩
  · rw [apply_ok h, hd, hkeys]
    simp only [List.map_cons, List.map_nil]
    unfold nowE
    rw [hbk]
  · by_cases h6 : o.1 = 6
    · rw [if_pos h6, if_pos h6]
      rw [if_pos h6] at hn2
      have e : does ⟨t.L ++ [(o.key, n)], t.vers + 1, t.next + 1⟩ (8, o.2.1, o.2.2.1, 0, [], 0, []) = (43, ⟨t.L ++ [(o.key, n)], t.vers + 1, t.next + 1⟩) := by
        rw [does_8 hp2 rfl]
        unfold removed
        rw [show Op.key (8, o.2.1, o.2.2.1, 0, [], 0, []) = o.key from rfl]
        simp only [hbk, hn2]
        simp
      rw [apply_bad (by rw [e]; simp), e]
    · rw [if_neg h6, if_neg h6]
      rw [if_neg h6] at hn2
      have hn3 : n.2.1 ≠ 1 := by rw [hn2]; split <;> omega
      have e : does ⟨t.L ++ [(o.key, n)], t.vers + 1, t.next + 1⟩ (9, o.2.1, o.2.2.1, 0, [], 0, []) = (42, ⟨t.L ++ [(o.key, n)], t.vers + 1, t.next + 1⟩) := by
        rw [does_9 hp2 rfl]
        unfold removed
        rw [show Op.key (9, o.2.1, o.2.2.1, 0, [], 0, []) = o.key from rfl]
        simp only [hbk]
        simp [hn3]
      rw [apply_bad (by rw [e]; simp), e]
  · have hnow : nowE t.L o.key = (o.key, true, noN) := by unfold nowE; rw [hk]
    by_cases h6 : o.1 = 6
    · rw [if_pos h6]
      rw [if_pos h6] at hn2
      have e : does ⟨t.L ++ [(o.key, n)], t.vers + 1, t.next + 1⟩ (9, o.2.1, o.2.2.1, 0, [], 0, []) = (0, ⟨t.L, t.vers + 1, t.next + 1⟩) := by
        rw [does_9 hp2 rfl]
        unfold removed
        rw [show Op.key (9, o.2.1, o.2.2.1, 0, [], 0, []) = o.key from rfl]
        simp only [hbk, hn2, hkid, hgone]
        simp
      rw [apply_ok (by rw [e]), e]
      unfold keysOf
      rw [if_neg (by simp)]
      simp only [List.map_cons, List.map_nil]
      have e2 : Op.key (9, o.2.1, o.2.2.1, 0, [], 0, []) = o.key := rfl
      rw [e2, hnow]
      simp only [Prod.mk.injEq, T.mk.injEq, and_true, true_and]
      omega
    · rw [if_neg h6]
      rw [if_neg h6] at hn2
      have hn3 : n.2.1 ≠ 1 := by rw [hn2]; split <;> omega
      have e : does ⟨t.L ++ [(o.key, n)], t.vers + 1, t.next + 1⟩ (8, o.2.1, o.2.2.1, 0, [], 0, []) = (0, ⟨t.L, t.vers + 1, t.next + 1⟩) := by
        rw [does_8 hp2 rfl]
        unfold removed
        rw [show Op.key (8, o.2.1, o.2.2.1, 0, [], 0, []) = o.key from rfl]
        simp only [hbk, hgone]
        simp [hn3]
      rw [apply_ok (by rw [e]), e]
      unfold keysOf
      rw [if_neg (by simp)]
      simp only [List.map_cons, List.map_nil]
      have e2 : Op.key (8, o.2.1, o.2.2.1, 0, [], 0, []) = o.key := rfl
      rw [e2, hnow]
      simp only [Prod.mk.injEq, T.mk.injEq, and_true, true_and]
      omega
  · unfold findR
    rw [if_neg (by omega), hfree]

/-! ## Renamed -/
/-- TreeMoves: behind a rename that is done. -/
theorem moves_law {t : T} (hg : Good t) {o : Op} (h10 : o.1 = 10) (h : (does t o).1 = 0) :
    ∃ x : TE, x ∈ t.L ∧ x.1 = o.key ∧ lookR t.L o.2.1 o.2.2.1 = (enOf x, 0) ∧ lookR (does t o).2.L o.to.1 o.to.2 = ((o.to, false, x.2), 0) ∧
      (∃ z : En, lookR (does t o).2.L o.2.1 o.2.2.1 = (z, 0) ∧ z.2.1 = decide (o.key ≠ o.to)) ∧ (∀ y ∈ t.L, y.1.1 = x.2.1 → lookR (does t o).2.L y.1.1 y.1.2 = (enOf y, 0)) ∧ (does t o).2.next = t.next := by
  have hgd := hg.does o
  obtain ⟨_, _, hp0⟩ := does_zero h
  rw [does_10 hp0 h10] at h hgd ⊢
  split at h
  · rename_i hq; exact absurd h hq
  rename_i hq
  rw [if_neg hq] at hgd ⊢
  have hq0 : placeE t.L o.to.1 o.to.2 = 0 := Classical.byContradiction fun q => hq q
  clear hq
  unfold renamed at h hgd ⊢
  cases hb : byKey t.L o.key with
  | none => rw [hb] at h; cases h
  | some x =>
    obtain ⟨hx, hxk⟩ := byKey_some hb
    simp only [hb] at h hgd ⊢
    have hlx : lookR t.L o.2.1 o.2.2.1 = (enOf x, 0) := by
      unfold lookR
      rw [if_neg (by omega)]
      have : nowE t.L (o.2.1, o.2.2.1) = enOf x := by rw [show ((o.2.1, o.2.2.1) : Key) = o.key from rfl, ← hxk]; exact hg.nowE_mem hx
      rw [this]
    split at h
    · cases h
    rename_i hin
    rw [if_neg hin] at hgd ⊢
    split at h
    · rename_i hab
      rw [if_pos hab] at hgd ⊢
      refine ⟨x, hx, hxk, hlx, ?_, ⟨_, hlx, ?_⟩, fun y hy _ => ?_, rfl⟩
      · show lookR t.L o.to.1 o.to.2 = _
        unfold lookR
        rw [if_neg (by omega), ← hab]
        have : nowE t.L (o.key.1, o.key.2) = (o.key, false, x.2) := by rw [show ((o.key.1, o.key.2) : Key) = o.key from rfl, ← hxk]; exact hg.nowE_mem hx
        rw [this]
      · simp [enOf, hab]
      · unfold lookR
        have := hg.name y hy
        rw [if_neg (by rw [placeE_of_name (dirE_zero.2 (hg.dirs y hy))]; omega)]
        rw [show ((y.1.1, y.1.2) : Key) = y.1 from rfl, hg.nowE_mem hy]
    · rename_i hab
      rw [if_neg hab] at hgd ⊢
      -- what is left of the old entries
      have key : ∀ (R : List TE) (G : Good ⟨R ++ [(o.to, x.2)], t.vers, t.next⟩), (∀ y ∈ t.L, y.1 ≠ o.to → y.1 ≠ o.key → y ∈ R) → (∀ y ∈ R, y.1 ≠ o.key) → (∀ y ∈ t.L, y.1.1 = x.2.1 → y.1 ≠ o.to) →
          (∀ d, isDir t.L d = true → (∀ y ∈ t.L, y.2.1 = d → y.1 = o.to → False) → isDir (R ++ [(o.to, x.2)]) d = true) → (isDir (R ++ [(o.to, x.2)]) o.2.1 = true) →
          lookR (R ++ [(o.to, x.2)]) o.to.1 o.to.2 = ((o.to, false, x.2), 0) ∧ (∃ z : En, lookR (R ++ [(o.to, x.2)]) o.2.1 o.2.2.1 = (z, 0) ∧ z.2.1 = decide (o.key ≠ o.to)) ∧ (∀ y ∈ t.L, y.1.1 = x.2.1 → lookR (R ++ [(o.to, x.2)]) y.1.1 y.1.2 = (enOf y, 0)) := by
        intro R G h1 h2 h3 h4 h5
        have hm : ((o.to, x.2) : TE) ∈ R ++ [(o.to, x.2)] := by simp
        have lk : ∀ y ∈ R ++ [(o.to, x.2)], lookR (R ++ [(o.to, x.2)]) y.1.1 y.1.2 = (enOf y, 0) := fun y hy => by
          unfold lookR
          have := G.name y hy
          rw [if_neg (by rw [placeE_of_name (dirE_zero.2 (G.dirs y hy))]; omega)]
          rw [show ((y.1.1, y.1.2) : Key) = y.1 from rfl, G.nowE_mem hy]
        refine ⟨lk _ hm, ⟨(o.key, true, noN), ?_, by simp [hab]⟩, fun y hy he => ?_⟩
        · unfold lookR
          rw [if_neg (by rw [placeE_of_name (dirE_zero.2 h5)]; have := (placeE_zero hp0).2; omega)]
          have : byKey (R ++ [(o.to, x.2)]) (o.2.1, o.2.2.1) = none := byKey_none.2 fun y hy e => by
            rcases List.mem_append.1 hy with hy | hy
            · exact h2 y hy e
            · rw [List.mem_singleton.1 hy] at e
              exact hab e.symm
          unfold nowE
          rw [this]
          rfl
        · have hyk : y.1 ≠ o.key := fun e => by
            have hxy : y = x := nodup_inj _ hg.keys hy hx (e.trans hxk.symm)
            rw [hxy] at he
            obtain ⟨k, hk⟩ := hg.hang x hx
            rw [he] at hk
            have hx1 := (hg.lo x hx).1
            have := Hang.det hg.ids hk (Hang.up hx (by omega) (by rw [he]; exact hk))
            omega
          exact lk y (List.mem_append_left _ (h1 y hy (h3 y hy he) hyk))
      have hdirk : isDir t.L o.2.1 = true := (placeE_zero hp0).1
      cases hbt : byKey t.L o.to with
      | none =>
        simp only [hbt] at h hgd ⊢
        have hno : ∀ y ∈ t.L, y.1 ≠ o.to := fun y hy => (byKey_none.1 hbt) y hy
        have hdir : ∀ d, isDir t.L d = true → isDir (gone t.L o.key ++ [(o.to, x.2)]) d = true := fun d hd => by
          unfold isDir at hd ⊢
          have hx1 := (hg.lo x hx).1
          rw [nodeF_move (L := t.L) (fun i => by rw [← hxk]; exact hg.nodeF_gone hx i) (by omega) (hg.nodeF_mem hx) (by rw [← hxk]; rw [byId_gone hg.keys hg.ids hx, if_pos rfl])]
          exact hd
        obtain ⟨a, b, c⟩ := key (gone t.L o.key) hgd (fun y hy _ hk => List.mem_filter.2 ⟨hy, by simp [hk]⟩) (fun y hy => by simpa using (List.mem_filter.1 hy).2) (fun y hy _ => hno y hy) (fun d hd _ => hdir d hd) (hdir _ hdirk)
        exact ⟨x, hx, hxk, hlx, a, b, c, by first | rfl | trivial⟩
      | some y =>
        obtain ⟨hy, hyk⟩ := byKey_some hbt
        simp only [hbt] at h hgd ⊢
        split at h
        · rename_i hgv; exact absurd h hgv
        rename_i hgv
        rw [if_neg hgv] at hgd ⊢
        have hgv0 : gives t.L x.2 y.2 = 0 := Classical.byContradiction fun q => hgv q
        have hno := hg.noChild hy (gives_zero hgv0)
        have hx1 := (hg.lo x hx).1
        have hgG := hg.gone hy (gives_zero hgv0)
        have hxg : x ∈ gone t.L o.to := List.mem_filter.2 ⟨hx, by simp [hxk, hab]⟩
        have hdir : ∀ d, d ≠ y.2.1 → isDir t.L d = true → isDir (gone (gone t.L o.to) o.key ++ [(o.to, x.2)]) d = true := fun d hne hd => by
          unfold isDir at hd ⊢
          have hgN : ∀ i, nodeF (gone (gone t.L o.to) o.key) i = if i = x.2.1 then none else nodeF (gone t.L o.to) i := fun i => by
            rw [← hxk]
            rw [← hyk] at hxg ⊢
            exact hgG.nodeF_gone hxg i
          have hmem : nodeF (gone t.L o.to) x.2.1 = some x.2 := by
            rw [← hyk] at hxg ⊢
            exact hgG.nodeF_mem hxg
          have hfree : byId (gone (gone t.L o.to) o.key) x.2.1 = none := by
            rw [← hxk]
            rw [← hyk] at hxg ⊢
            rw [byId_gone hgG.keys hgG.ids hxg, if_pos rfl]
          rw [nodeF_move hgN (by omega) hmem hfree, ← hyk, hg.nodeF_gone hy, if_neg hne]
          exact hd
        have hne : o.2.1 ≠ y.2.1 := fun e => hno x hx (by rw [hxk]; exact e)
        obtain ⟨a, b, c⟩ := key (gone (gone t.L o.to) o.key) hgd (fun z hz h1 h2 => List.mem_filter.2 ⟨List.mem_filter.2 ⟨hz, by simp [h1]⟩, by simp [h2]⟩) (fun z hz => by simpa using (List.mem_filter.1 hz).2) (fun z hz he e => by
            -- z stands where x is to stand, and in x: x would lie in itself
            have hzy : z = y := nodup_inj _ hg.keys hz hy (e.trans hyk.symm)
            have hd1 := hg.dirs z hz
            rw [he] at hd1
            have hkx : x.2.2.1 = 1 := by
              rcases isDir_iff.1 hd1 with q | ⟨_, q, hq, hq1⟩
              · omega
              · rw [byId_of hg.ids hx] at hq
                injection hq with hq
                rw [hq]; exact hq1
            refine hin ⟨hkx, ?_⟩
            have : o.to.1 = x.2.1 := by rw [← hyk, ← hzy]; exact he
            rw [this]
            cases t.L.length with
            | zero => simp [inside]
            | succ k => simp [inside]) (fun d hd hq => hdir d (fun e => hq y hy e.symm hyk) hd) (hdir _ hne hdirk)
        exact ⟨x, hx, hxk, hlx, a, b, c, by first | rfl | trivial⟩
end Tr
end Go.Proofs.YtoacobcbloljkaaGreatDoor
