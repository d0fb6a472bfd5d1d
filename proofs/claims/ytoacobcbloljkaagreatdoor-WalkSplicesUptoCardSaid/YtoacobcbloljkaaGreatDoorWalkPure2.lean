/-
  Plain laws of walks over whole trees: name by name; up and back; a link in a path; fresh entries. No program in it.
-/
import Derived.Test.YtoacobcbloljkaaGreatDoorWalkPure
namespace Go.Proofs.YtoacobcbloljkaaGreatDoor
open Go.RowKit
namespace Wk

theorem lastNd_snoc (l : List Nd) (x : Nd) : lastNd (l ++ [x]) = x := by
  unfold lastNd
  rw [List.getLastD_eq_getLast?, List.getLast?_append]
  simp
theorem up_snoc {l : List Nd} (h : l ≠ []) (x : Nd) : up (l ++ [x]) = l := by
  unfold up
  have := List.length_pos_iff.2 h
  rw [if_neg (by simp; omega), List.dropLast_concat]
theorem up_one (x : Nd) : up [x] = [x] := rfl

theorem checkE_fine {s : List UInt8} (h : Nm.checkE s = 0) : s.length ≤ 12 ∧ s ≠ [] ∧ Nm.dotsB s = false ∧ s.contains 0 = false ∧ s.contains 47 = false := by
  unfold Nm.checkE at h
  split at h
  · cases h
  · rename_i h12
    split at h
    · cases h
    · rename_i hn
      simp only [not_or, Bool.not_eq_true] at hn
      exact ⟨by omega, hn.1, hn.2.1, hn.2.2.1, hn.2.2.2⟩
theorem not_dots {s : List UInt8} (h : Nm.checkE s = 0) : s ≠ [46, 46] ∧ s ≠ [46] := by
  have := (checkE_fine h).2.2.1
  refine ⟨fun e => ?_, fun e => ?_⟩
  · rw [e] at this
    cases this
  · rw [e] at this
    cases this
/-- A path of one name. -/
theorem splitR_one {s : List UInt8} (h : Nm.checkE s = 0) : Nm.splitR (47 :: s) = ([s], false, 0) := by
  obtain ⟨h1, h2, h3, h4, h5⟩ := checkE_fine h
  have h47 : (47 : UInt8) ∉ s := fun q => by rw [← List.contains_iff_mem, h5] at q; cases q
  have hc : Nm.comps (47 :: s) = [s] := by rw [Nm.comps_slash, Nm.comps_no h47 h2]
  have hl : Nm.longB (47 :: s) = false := by
    unfold Nm.longB
    rw [hc]
    simp
    omega
  have hz : (47 :: s).contains 0 = false := by
    rw [List.contains_cons, h4]
    rfl
  have he : Nm.endSlash (47 :: s) = false := by
    unfold Nm.endSlash
    cases s with
    | nil => exact absurd rfl h2
    | cons c s =>
      rw [List.getLast?_cons_cons, beq_eq_false_iff_ne]
      intro q
      exact h47 (List.mem_of_getLast? q)
  unfold Nm.splitR Nm.cutR Nm.dirB
  rw [if_neg (by simp; omega), if_neg (by rw [hz]; simp), hl, if_neg (by simp), hc, he]
  simp [Nm.lastDots, h3]
theorem walk_one (kn : Key → Option En) {s : List UInt8} (h : Nm.checkE s = 0) (links : Nat) {y : En} (hy : kn (1, s) = some y) :
    walk kn (47 :: s) false links = if y.2.1 = true then fail 40 [(1, s)] else (false, noKey, 0, y.2.2, [(1, s)]) := by
  obtain ⟨h1, h2⟩ := not_dots h
  unfold walk
  rw [splitR_one h]
  simp only
  rw [if_neg (by simp), steps_name kn false links [] false [] (x := rootNd) rfl rfl h1 h2]
  show (match kn (1, s) with | none => _ | some y => _) = _
  rw [hy]
  simp only [and_self, or_true, if_true]
  rw [steps]
  simp
  rfl

/-- A link at the root: its target in its place. -/
theorem splice (kn : Key → Option En) {nm : List UInt8} (hn : Nm.checkE nm = 0) {y : En} (hy : kn (1, nm) = some y) (h1 : y.2.1 = false) (h3 : y.2.2.2.1 = 3) (ht : (Nm.targetR y.2.2.2.2.2).2.2.2 = 0) {rest : List (List UInt8)} (hr : rest ≠ []) (lk : Nat) :
    steps kn true (lk + 1) (nm :: rest) [rootNd] false [] = addU [(1, nm)] (steps kn true lk ((Nm.targetR y.2.2.2.2.2).1 ++ rest) [rootNd] false []) := by
  obtain ⟨d1, d2⟩ := not_dots hn
  rw [steps_name kn true (lk + 1) rest false [] (x := rootNd) rfl rfl d1 d2]
  show (match kn (1, nm) with | none => _ | some y => _) = _
  rw [hy]
  simp only [h1, h3, hr, ht, ne_eq, not_true_eq_false, false_and, or_false, if_false, decide_false, Bool.false_and, Bool.or_false, ite_self, Bool.false_eq_true]
  exact steps_pre0 kn true [(1, nm)] lk _ _ _

/-- Into a directory, and back. -/
theorem ups_law (kn : Key → Option En) (lk : Nat) (ss : List (List UInt8)) {o : Out} (ho : steps kn true lk ss [rootNd] true [] = o) (h0 : o.2.2.1 = 0) (h1 : o.2.2.2.1.2.1 = 1) {nm : List UInt8} (hn : Nm.checkE nm = 0) {y : En} (hy : kn (o.2.2.2.1.1, nm) = some y)
    (hg : y.2.1 = false) (hk : y.2.2.2.1 = 1) :
    steps kn true lk (ss ++ [nm, [46, 46]]) [rootNd] true [] = (false, noKey, 0, o.2.2.2.1, o.2.2.2.2 ++ [(o.2.2.2.1.1, nm)]) ∧
    steps kn true lk (ss ++ [nm]) [rootNd] true [] = (false, noKey, 0, y.2.2, o.2.2.2.2 ++ [(o.2.2.2.1.1, nm)]) := by
  obtain ⟨d1, d2⟩ := not_dots hn
  obtain ⟨l', w', u', a1, a2, a3, a4⟩ := steps_app kn lk ss [rootNd] [] (by simp) (by rw [ho]; exact h0) (by rw [ho]; exact h1)
  rw [ho] at a3
  subst a3
  rw [a4, a4]
  simp only at hy ⊢
  rw [steps_name kn true l' [[46, 46]] true u' rfl a2 d1 d2, steps_name kn true l' [] true u' rfl a2 d1 d2]
  simp only [hy, hg, hk, Bool.false_eq_true, if_false]
  rw [if_pos (by simp), if_pos (by simp)]
  have hl : lastNd (w' ++ [y.2.2]) = y.2.2 := lastNd_snoc _ _
  rw [steps_up kn true l' [] true _ hl hk, up_snoc a1, steps, steps, hl]
  simp [a2, hk]

/-! ## Name by name -/
/-- Where the walk over a whole tree stands, seen by the tree alone. -/
structure HomeAt (t : Tr.T) (follow : Bool) (lk : Nat) (o : Out) (ss : List (List UInt8)) (dir : Bool) (i : Nat) (a : Nd) (ups : List Nd) : Prop where
  ex : ∃ (way : List Nd) (used : List Key), steps (knT t.L) follow lk (ss.drop i) way dir used = o ∧ WayOk t.L way ∧ lastNd way = a ∧ (a.2.1 = 1 → way = ups ++ [a])
  dirs : ∀ n ∈ ups, n.2.1 = 1
section
variable {t : Tr.T} {follow : Bool} {lk : Nat} {o : Out} {ss : List (List UInt8)} {dir : Bool} {i : Nat} {a : Nd} {ups : List Nd}
theorem HomeAt.start (h : steps (knT t.L) follow lk ss [rootNd] dir [] = o) : HomeAt t follow lk o ss dir 0 rootNd [] :=
  ⟨⟨[rootNd], [], by rw [List.drop_zero]; exact h, wayOk_root _, rfl, fun _ => rfl⟩, by simp⟩
theorem drop_at {α : Type} {ss : List α} {i : Nat} {s : α} (h : ss[i]? = some s) : ss.drop i = s :: ss.drop (i + 1) := by
  obtain ⟨h1, h2⟩ := List.getElem?_eq_some_iff.1 h
  rw [List.drop_eq_getElem_cons h1, h2]
theorem HomeAt.notdir (H : HomeAt t follow lk o ss dir i a ups) {s : List UInt8} (hs : ss[i]? = some s) (ha : a.2.1 ≠ 1) : o.2.2.1 = 42 := by
  obtain ⟨way, used, h1, h2, h3, _⟩ := H.ex
  rw [drop_at hs, steps_notdir _ follow lk s _ dir used h3 ha] at h1
  rw [← h1]
  rfl
theorem HomeAt.node (H : HomeAt t follow lk o ss dir i a ups) : Tr.nodeF t.L a.1 = some a := by
  obtain ⟨way, used, h1, h2, h3, _⟩ := H.ex
  rw [← h3]
  exact h2.last
theorem HomeAt.dot (H : HomeAt t follow lk o ss dir i a ups) (hs : ss[i]? = some [46]) (ha : a.2.1 = 1) : HomeAt t follow lk o ss dir (i + 1) a ups := by
  obtain ⟨way, used, h1, h2, h3, h4⟩ := H.ex
  rw [drop_at hs, steps_dot _ follow lk _ dir used h3 ha] at h1
  exact ⟨⟨way, used, h1, h2, h3, h4⟩, H.dirs⟩
theorem HomeAt.stay (H : HomeAt t follow lk o ss dir i a []) (hs : ss[i]? = some [46, 46]) (ha : a.2.1 = 1) : HomeAt t follow lk o ss dir (i + 1) a [] := by
  obtain ⟨way, used, h1, h2, h3, h4⟩ := H.ex
  have hw := h4 ha
  rw [drop_at hs, steps_up _ follow lk _ dir used h3 ha] at h1
  have hu : Wk.up way = way := by rw [hw]; rfl
  rw [hu] at h1
  exact ⟨⟨way, used, h1, h2, h3, h4⟩, H.dirs⟩
theorem HomeAt.back {b : Nd} (H : HomeAt t follow lk o ss dir i a (ups ++ [b])) (hs : ss[i]? = some [46, 46]) (ha : a.2.1 = 1) : HomeAt t follow lk o ss dir (i + 1) b ups := by
  obtain ⟨way, used, h1, h2, h3, h4⟩ := H.ex
  have hw := h4 ha
  rw [drop_at hs, steps_up _ follow lk _ dir used h3 ha] at h1
  have hu : Wk.up way = ups ++ [b] := by rw [hw]; exact up_snoc (by simp) a
  have hw2 := h2.up
  rw [hu] at h1 hw2
  exact ⟨⟨_, used, h1, hw2, lastNd_snoc _ _, fun _ => rfl⟩, fun n hn => H.dirs n (List.mem_append_left _ hn)⟩
theorem HomeAt.place (H : HomeAt t follow lk o ss dir i a ups) {s : List UInt8} (hf : Fine s) (ha : a.2.1 = 1) (h1 : s ≠ [46, 46]) (h2 : s ≠ [46]) : Tr.placeE t.L a.1 s = 0 := by
  have hd : Tr.dirE t.L a.1 = 0 := by
    unfold Tr.dirE
    rw [H.node]
    simp [ha]
  rw [Tr.placeE_of_name hd]
  exact fine_name hf h1 h2
theorem HomeAt.neg (H : HomeAt t follow lk o ss dir i a ups) {s : List UInt8} (hs : ss[i]? = some s) (hf : Fine s) (ha : a.2.1 = 1) (h1 : s ≠ [46, 46]) (h2 : s ≠ [46]) (hn : (Tr.nowE t.L (a.1, s)).2.1 = true) : o.2.2.1 = 40 := by
  have hp := H.place hf ha h1 h2
  obtain ⟨way, used, e1, e2, e3, e4⟩ := H.ex
  rw [drop_at hs, steps_name _ follow lk _ dir used e3 ha h1 h2, knT_place hp] at e1
  simp only [if_pos hn] at e1
  rw [← e1]
  rfl
theorem HomeAt.link (H : HomeAt t follow lk o ss dir i a ups) {s : List UInt8} (hs : ss[i]? = some s) (hf : Fine s) (ha : a.2.1 = 1) (h1 : s ≠ [46, 46]) (h2 : s ≠ [46]) (hn : (Tr.nowE t.L (a.1, s)).2.1 = false) (hk : (Tr.nowE t.L (a.1, s)).2.2.2.1 = 3)
    (hq : i + 1 < ss.length ∨ dir = true ∨ follow = true) (hl : lk = 0) : o.2.2.1 = 49 := by
  have hp := H.place hf ha h1 h2
  obtain ⟨way, used, e1, e2, e3, e4⟩ := H.ex
  rw [drop_at hs, steps_name _ follow lk _ dir used e3 ha h1 h2, knT_place hp] at e1
  subst hl
  have hc : ¬ (ss.drop (i + 1) = [] ∧ dir = false ∧ follow = false) := by
    rintro ⟨q1, q2, q3⟩
    rcases hq with q | q | q
    · rw [List.drop_eq_nil_iff] at q1
      omega
    · rw [q2] at q; cases q
    · rw [q3] at q; cases q
  simp only [hn, hk, ne_eq, not_true_eq_false, false_or, if_neg hc, Bool.false_eq_true, if_false] at e1
  rw [← e1]
  rfl
theorem HomeAt.step (hg : Tr.Good t) (H : HomeAt t follow lk o ss dir i a ups) {s : List UInt8} (hs : ss[i]? = some s) (hf : Fine s) (ha : a.2.1 = 1) (h1 : s ≠ [46, 46]) (h2 : s ≠ [46]) (hn : (Tr.nowE t.L (a.1, s)).2.1 = false)
    (hq : (Tr.nowE t.L (a.1, s)).2.2.2.1 ≠ 3 ∨ (i + 1 = ss.length ∧ dir = false ∧ follow = false)) :
    HomeAt t follow lk o ss dir (i + 1) (Tr.nowE t.L (a.1, s)).2.2 (if (Tr.nowE t.L (a.1, s)).2.2.2.1 = 1 then ups ++ [a] else ups) := by
  have hp := H.place hf ha h1 h2
  obtain ⟨way, used, e1, e2, e3, e4⟩ := H.ex
  rw [drop_at hs, steps_name _ follow lk _ dir used e3 ha h1 h2, knT_place hp] at e1
  have hc : (Tr.nowE t.L (a.1, s)).2.2.2.1 ≠ 3 ∨ (ss.drop (i + 1) = [] ∧ dir = false ∧ follow = false) := by
    rcases hq with q | ⟨q1, q2, q3⟩
    · exact .inl q
    · exact .inr ⟨by rw [List.drop_eq_nil_iff]; omega, q2, q3⟩
  simp only [hn, if_pos hc, Bool.false_eq_true, if_false] at e1
  refine ⟨⟨_, _, e1, e2.snoc hg (by rw [hn]; simp), lastNd_snoc _ _, fun hk => ?_⟩, fun n hm => ?_⟩
  · rw [if_pos hk, e4 ha]
  · split at hm
    · rcases List.mem_append.1 hm with hm | hm
      · exact H.dirs n hm
      · rw [List.mem_singleton.1 hm]; exact ha
    · exact H.dirs n hm
theorem HomeAt.last (H : HomeAt t follow lk o ss dir i a ups) (hi : ss.length ≤ i) : if dir = true ∧ a.2.1 ≠ 1 then o.2.2.1 = 42 else o.2.2.1 = 0 ∧ o.2.2.2.1 = a := by
  obtain ⟨way, used, e1, e2, e3, e4⟩ := H.ex
  rw [List.drop_of_length_le hi, steps, e3] at e1
  split
  · rename_i h
    rw [if_pos h] at e1
    rw [← e1]
    rfl
  · rename_i h
    rw [if_neg h] at e1
    rw [← e1]
    exact ⟨rfl, rfl⟩
end
end Wk

theorem alMem_put {κ ν : Type} [DecidableEq κ] {l : List (κ × ν)} {a : κ} {v : ν} {p : κ × ν} (h : p ∈ alPut l a v) : p ∈ l ∨ p = (a, v) := by
  induction l with
  | nil =>
    unfold alPut at h
    exact .inr (List.mem_singleton.1 h)
  | cons q l ih =>
    unfold alPut at h
    split at h
    · rcases List.mem_cons.1 h with h | h
      · exact .inr h
      · exact .inl (List.mem_cons_of_mem _ h)
    · rcases List.mem_cons.1 h with h | h
      · exact .inl (by rw [h]; exact List.mem_cons_self)
      · rcases ih h with h | h
        · exact .inl (List.mem_cons_of_mem _ h)
        · exact .inr h
/-- What lies in a filled cache is an entry that was laid in. -/
theorem fill_mem (E : List En) : ∀ p ∈ (fillS E).1, p.2.1 ∈ E := by
  have : ∀ (E : List En) (s : Cst), ∀ p ∈ (E.foldl fillStep s).1, p.2.1 ∈ E ∨ p ∈ s.1 := by
    intro E
    induction E with
    | nil => intro s p hp; exact .inr hp
    | cons x E ih =>
      intro s p hp
      rcases ih (fillStep s x) p hp with h | h
      · exact .inl (List.mem_cons_of_mem _ h)
      · rcases alMem_put h with h | h
        · exact .inr h
        · exact .inl (by rw [h]; exact List.mem_cons_self)
  intro p hp
  rcases this E fill0 p hp with h | h
  · exact h
  · cases h
theorem dump_mem {t : Tr.T} {x : En} (h : x ∈ Tr.dumpR t.L) : ∃ y ∈ t.L, x = Tr.enOf y := by
  obtain ⟨i, hi⟩ := List.getElem?_of_mem h
  obtain ⟨y, hy, e⟩ := Tr.dump_get hi
  exact ⟨y, (Tr.srt_perm _).mem_iff.1 (List.mem_of_getElem? hy), e⟩
/-- An entry that a filled cache tells of a directory. -/
theorem fill_names {t : Tr.T} (hg : Tr.Good t) {d : Int} {E : List En} (hp : E.Perm (((fillS (Tr.dumpR t.L)).1.map fun p => p.2.1).filter fun x => decide (x.1.1 = d) && !x.2.1)) {x : En} (hx : x ∈ E) :
    x.1.1 = d ∧ x.2.1 = false ∧ Nm.checkE x.1.2 = 0 ∧ Wk.knT t.L x.1 = some x := by
  have hm := hp.mem_iff.1 hx
  rw [List.mem_filter, List.mem_map] at hm
  obtain ⟨⟨p, hp, rfl⟩, hq⟩ := hm
  simp only [Bool.and_eq_true, decide_eq_true_eq, Bool.not_eq_true'] at hq
  obtain ⟨y, hy, e⟩ := dump_mem (fill_mem _ p hp)
  have hc : Nm.checkE p.2.1.1.2 = 0 := by rw [e]; exact hg.name y hy
  have hn : Tr.nowE t.L p.2.1.1 = p.2.1 := by rw [e]; exact hg.nowE_mem hy
  refine ⟨hq.1, hq.2, hc, ?_⟩
  rw [Wk.knT_place, hn]
  rw [Tr.placeE_of_name, hc]
  rw [Tr.dirE_zero, e]
  exact hg.dirs y hy
end Go.Proofs.YtoacobcbloljkaaGreatDoor
