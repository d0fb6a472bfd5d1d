/-
  The tree in another order of its entries, and entry by entry: what Load builds up. No program in it.
-/
import Derived.Test.YtoacobcbloljkaaGreatDoorTreeMem
import Derived.Test.YtoacobcbloljkaaGreatDoorTreePlain
namespace Go.Proofs.YtoacobcbloljkaaGreatDoor
namespace Tr

section
variable {L M : List TE}
theorem byId_perm (hp : M.Perm L) (hi : (L.map fun x => x.2.1).Nodup) (i : Int) : byId M i = byId L i := by
  have hi' : (M.map fun x => x.2.1).Nodup := (hp.map _).nodup_iff.2 hi
  cases h : byId L i with
  | none => exact byId_none.2 fun x hx => byId_none.1 h x (hp.mem_iff.1 hx)
  | some x =>
    obtain ⟨hx, rfl⟩ := byId_some h
    exact byId_of hi' (hp.mem_iff.2 hx)
theorem byKey_perm (hp : M.Perm L) (hk : (L.map Prod.fst).Nodup) (k : Key) : byKey M k = byKey L k := by
  have hk' : (M.map Prod.fst).Nodup := (hp.map _).nodup_iff.2 hk
  cases h : byKey L k with
  | none => exact byKey_none.2 fun x hx => byKey_none.1 h x (hp.mem_iff.1 hx)
  | some x =>
    obtain ⟨hx, rfl⟩ := byKey_some h
    exact byKey_of hk' (hp.mem_iff.2 hx)
theorem nodeF_perm (hp : M.Perm L) (hi : (L.map fun x => x.2.1).Nodup) : nodeF M = nodeF L := funext fun i => by unfold nodeF; rw [byId_perm hp hi]
theorem nameF_perm (hp : M.Perm L) (hk : (L.map Prod.fst).Nodup) : nameF M = nameF L := funext fun d => funext fun s => by unfold nameF; rw [byKey_perm hp hk]
theorem placeF_perm (hp : M.Perm L) (hi : (L.map fun x => x.2.1).Nodup) : placeF M = placeF L := funext fun i => by unfold placeF; rw [byId_perm hp hi]
theorem isDir_perm (hp : M.Perm L) (hi : (L.map fun x => x.2.1).Nodup) (d : Int) : isDir M d = isDir L d := by unfold isDir; rw [nodeF_perm hp hi]
theorem Hang.sub (h : ∀ x, x ∈ L → x ∈ M) {k : Nat} {d : Int} (hk : Hang L k d) : Hang M k d := by
  induction hk with
  | root => exact .root
  | up hx h1 _ ih => exact .up (h _ hx) h1 ih
end

theorem Good.perm {t : T} (h : Good t) {M : List TE} (hp : M.Perm t.L) : Good ⟨M, t.vers, t.next⟩ := by
  have hm : ∀ x, x ∈ M → x ∈ t.L := fun x hx => hp.mem_iff.1 hx
  refine ⟨(hp.map _).nodup_iff.2 h.keys, (hp.map _).nodup_iff.2 h.ids, fun x hx => h.lo x (hm x hx), fun x hx => h.kind x (hm x hx), fun x hx => h.mode x (hm x hx), fun x hx => h.plain x (hm x hx), fun x hx => h.link x (hm x hx), fun x hx => h.name x (hm x hx), fun x hx => ?_, fun x hx => ?_, ?_, h.vers, h.next⟩
  · rw [isDir_perm hp h.ids]
    exact h.dirs x (hm x hx)
  · obtain ⟨k, hk⟩ := h.hang x (hm x hx)
    exact ⟨k, hk.sub fun y hy => hp.mem_iff.2 hy⟩
  · rw [hp.length_eq]
    exact h.len
end Tr

theorem TreeAt.perm {w : World} {M : TM} {t : Tr.T} {L : List Tr.TE} {v n : Int} (hp : L.Perm t.L) (hg : Tr.Good t) (hv : v = t.vers) (hn : n = t.next) (H : TreeAt w M ⟨L, v, n⟩) : TreeAt w M t := by
  subst hv hn
  obtain ⟨F, D, _⟩ := H
  refine ⟨?_, fun d => ?_, hg⟩
  · rw [Tr.nodeF_perm hp hg.ids, Tr.nameF_perm hp hg.keys, Tr.placeF_perm hp hg.ids] at F
    exact F
  · rw [D d]
    exact Tr.isDir_perm hp hg.ids d

namespace Tr
section
variable {L : List TE}
theorem take_succ_eq {α : Type} {L : List α} {i : Nat} {x : α} (h : L[i]? = some x) : L.take (i + 1) = L.take i ++ [x] := by
  rw [List.take_add_one, h]
  rfl
theorem take_byId (hi : (L.map fun x => x.2.1).Nodup) {i : Nat} {x : TE} (h : L[i]? = some x) : byId (L.take i) x.2.1 = none := by
  have h1 : ((L.take (i + 1)).map fun x => x.2.1).Nodup := List.Nodup.sublist ((List.take_sublist _ _).map _) hi
  rw [take_succ_eq h, List.map_append] at h1
  have h2 := (List.nodup_append.1 h1).2.2
  exact byId_none.2 fun y hy e => h2 y.2.1 (List.mem_map.2 ⟨y, hy, rfl⟩) x.2.1 (by simp) e
theorem take_byKey (hk : (L.map Prod.fst).Nodup) {i : Nat} {x : TE} (h : L[i]? = some x) : byKey (L.take i) x.1 = none := by
  have h1 : ((L.take (i + 1)).map Prod.fst).Nodup := List.Nodup.sublist ((List.take_sublist _ _).map _) hk
  rw [take_succ_eq h, List.map_append] at h1
  have h2 := (List.nodup_append.1 h1).2.2
  exact byKey_none.2 fun y hy e => h2 y.1 (List.mem_map.2 ⟨y, hy, rfl⟩) x.1 (by simp) e
theorem take_nodeF (hi : (L.map fun x => x.2.1).Nodup) {i : Nat} {x : TE} (h : L[i]? = some x) (h1 : x.2.1 ≠ 1) : nodeF (L.take (i + 1)) = upd (nodeF (L.take i)) x.2.1 (some x.2) := funext fun j => by
  rw [take_succ_eq h]
  exact nodeF_put x.1 x.2 h1 (take_byId hi h) j
theorem take_isDir (hi : (L.map fun x => x.2.1).Nodup) {i : Nat} {x : TE} (h : L[i]? = some x) (h1 : x.2.1 ≠ 1) (d : Int) : isDir (L.take (i + 1)) d = if d = x.2.1 then decide (x.2.2.1 = 1) else isDir (L.take i) d := by
  rw [take_succ_eq h]
  exact isDir_put x.1 x.2 h1 (take_byId hi h) d
theorem take_notDir (hi : (L.map fun x => x.2.1).Nodup) {i : Nat} {x : TE} (h : L[i]? = some x) (h1 : x.2.1 ≠ 1) : isDir (L.take i) x.2.1 = false := by
  unfold isDir nodeF
  rw [if_neg h1, take_byId hi h]
  rfl
theorem take_nodeNone (hi : (L.map fun x => x.2.1).Nodup) {i : Nat} {x : TE} (h : L[i]? = some x) (h1 : x.2.1 ≠ 1) : nodeF (L.take i) x.2.1 = none := by
  unfold nodeF
  rw [if_neg h1, take_byId hi h]
  rfl
theorem take_nameF (hk : (L.map Prod.fst).Nodup) {i : Nat} {x : TE} (h : L[i]? = some x) : nameF (L.take (i + 1)) = upd (nameF (L.take i)) x.1.1 (upd (nameF (L.take i) x.1.1) x.1.2 (some x.2.1)) := funext fun d => funext fun s => by
  rw [take_succ_eq h]
  refine (nameF_put x.1 x.2 (take_byKey hk h) d s).trans ?_
  unfold upd
  by_cases hd : d = x.1.1
  · subst hd
    rw [if_pos rfl]
    by_cases hs : s = x.1.2
    · subst hs
      rw [if_pos rfl, if_pos rfl]
    · rw [if_neg hs, if_neg (fun e => hs (congrArg Prod.snd e))]
  · rw [if_neg hd, if_neg (fun e => hd (congrArg Prod.fst e))]
theorem take_placeF (hi : (L.map fun x => x.2.1).Nodup) {i : Nat} {x : TE} (h : L[i]? = some x) : placeF (L.take (i + 1)) = upd (placeF (L.take i)) x.2.1 (some x.1) := funext fun j => by
  rw [take_succ_eq h]
  exact placeF_put x.1 x.2 (take_byId hi h) j

theorem nodeF_nil : nodeF [] = nodeF t0.L := rfl
theorem nameF_nil : nameF [] = fun _ _ => none := rfl
theorem placeF_nil : placeF [] = fun _ => none := rfl

theorem lt_of_le_ne {a b : List UInt8} (h : a ≤ b) (hne : a ≠ b) : a < b := by
  rcases Classical.em (a < b) with h1 | h1
  · exact h1
  · exact absurd (List.le_antisymm h h1) hne

/-- Neighbours of the sorted list. -/
theorem srt_next (hk : (L.map Prod.fst).Nodup) {i : Nat} {x y : TE} (hy : (srt L)[i]? = some y) (hx : (srt L)[i + 1]? = some x) : y.1.1 < x.1.1 ∨ (y.1.1 = x.1.1 ∧ y.1.2 < x.1.2) := by
  obtain ⟨h1, e1⟩ := List.getElem?_eq_some_iff.1 hy
  obtain ⟨h2, e2⟩ := List.getElem?_eq_some_iff.1 hx
  have hle := List.pairwise_iff_getElem.1 (srt_pair L) i (i + 1) h1 h2 (by omega)
  rw [e1, e2] at hle
  have hn : ((srt L).map Prod.fst).Nodup := ((srt_perm L).map _).nodup_iff.2 hk
  have hne : y.1 ≠ x.1 := by
    have hp := List.pairwise_iff_getElem.1 hn i (i + 1) (by simpa using h1) (by simpa using h2) (by omega)
    simpa [e1, e2] using hp
  simp only [leK, leN, Bool.or_eq_true, Bool.and_eq_true, decide_eq_true_eq] at hle
  rcases hle with h | ⟨h, h3⟩
  · exact .inl h
  · exact .inr ⟨h, lt_of_le_ne h3 fun e => hne (Prod.ext h e)⟩

/-- What Load is told of an entry. -/
structure Fit (n : Int) (x : TE) : Prop where
  lo : 1 < x.2.1 ∧ x.2.1 < n
  kind : x.2.2.1 = 1 ∨ x.2.2.1 = 2 ∨ x.2.2.1 = 3
  mode : 0 ≤ x.2.2.2.1 ∧ x.2.2.2.1 ≤ 511
  plain : x.2.2.1 ≠ 3 → x.2.2.2.2 = []
  link : x.2.2.1 = 3 → (Nm.targetR x.2.2.2.2).2.2.2 = 0
  name : Nm.checkE x.1.2 = 0
theorem Good.fit {t : T} (h : Good t) {x : TE} (hx : x ∈ t.L) : Fit t.next x := ⟨h.lo x hx, h.kind x hx, h.mode x hx, h.plain x hx, h.link x hx, h.name x hx⟩

theorem dump_get {i : Nat} {e : En} (h : (dumpR L)[i]? = some e) : ∃ x, (srt L)[i]? = some x ∧ e = enOf x := by
  unfold dumpR sorted at h
  rw [List.getElem?_map] at h
  change Option.map enOf (srt L)[i]? = some e at h
  cases hx : (srt L)[i]? with
  | none => rw [hx] at h; cases h
  | some x =>
    rw [hx] at h
    simp only [Option.map_some, Option.some.injEq] at h
    exact ⟨x, rfl, h.symm⟩
theorem dump_len (L : List TE) : (dumpR L).length = L.length := by
  unfold dumpR sorted
  rw [List.length_map]
  exact (srt_perm L).length_eq

/-! ## Ids and kinds -/
/-- The kinds of all ids that were given. -/
def IdsOk (t : T) (K : List Int) : Prop := t.next = K.length + 2 ∧ ∀ x ∈ t.L, ∃ q : Nat, x.2.1 = (q : Int) + 2 ∧ K[q]? = some x.2.2.1
theorem idsOk0 : IdsOk t0 [] := ⟨rfl, by simp [t0]⟩
theorem IdsOk.made {t : T} {K : List Int} (h : IdsOk t K) {k : Key} {n : Nd} (hn : n.1 = t.next) (v : Int) : IdsOk ⟨t.L ++ [(k, n)], v, t.next + 1⟩ (K ++ [n.2.1]) := by
  refine ⟨by simp only [h.1, List.length_append, List.length_singleton]; omega, fun x hx => ?_⟩
  rcases List.mem_append.1 hx with hx | hx
  · obtain ⟨q, h1, h2⟩ := h.2 x hx
    refine ⟨q, h1, ?_⟩
    rw [List.getElem?_append_left (List.getElem?_eq_some_iff.1 h2).1]
    exact h2
  · rw [List.mem_singleton.1 hx]
    exact ⟨K.length, by rw [hn, h.1], by simp⟩
theorem IdsOk.less {t t' : T} {K : List Int} (h : IdsOk t K) (hn : t'.next = t.next) (hs : ∀ x ∈ t'.L, ∃ y ∈ t.L, y.2.1 = x.2.1 ∧ y.2.2.1 = x.2.2.1) : IdsOk t' K := by
  refine ⟨hn.trans h.1, fun x hx => ?_⟩
  obtain ⟨y, hy, e1, e2⟩ := hs x hx
  rw [← e1, ← e2]
  exact h.2 y hy

/-- What is done to a tree and is no making: ids and kinds are those that were. -/
theorem does_kinds {t : T} {o : Op} (h8 : 8 ≤ o.1) (h : (does t o).1 = 0) : (does t o).2.next = t.next ∧ ∀ x ∈ (does t o).2.L, ∃ y ∈ t.L, y.2.1 = x.2.1 ∧ y.2.2.1 = x.2.2.1 := by
  obtain ⟨_, h11, hp⟩ := does_zero h
  have same : ∀ x ∈ t.L, ∃ y ∈ t.L, y.2.1 = x.2.1 ∧ y.2.2.1 = x.2.2.1 := fun x hx => ⟨x, hx, rfl, rfl⟩
  have hgone : ∀ k, ∀ x ∈ gone t.L k, x ∈ t.L := fun k x hx => (List.mem_filter.1 hx).1
  have hr : ∀ d, (removed t o.key d).1 = 0 → (removed t o.key d).2.next = t.next ∧ ∀ x ∈ (removed t o.key d).2.L, ∃ y ∈ t.L, y.2.1 = x.2.1 ∧ y.2.2.1 = x.2.2.1 := fun d hz => by
    unfold removed
    split
    · exact ⟨rfl, same⟩
    · split
      · exact ⟨rfl, same⟩
      · split
        · exact ⟨rfl, same⟩
        · split
          · exact ⟨rfl, same⟩
          · exact ⟨rfl, fun x hx => same x (hgone _ x hx)⟩
  rcases (show o.1 = 8 ∨ o.1 = 9 ∨ o.1 = 10 ∨ o.1 = 11 by omega) with q | q | q | q
  · rw [does_8 hp q] at h ⊢
    exact hr false h
  · rw [does_9 hp q] at h ⊢
    exact hr true h
  · rw [does_10 hp q]
    split
    · exact ⟨rfl, same⟩
    · unfold renamed
      split
      · exact ⟨rfl, same⟩
      · rename_i x hx
        obtain ⟨hm, _⟩ := byKey_some hx
        split
        · exact ⟨rfl, same⟩
        · split
          · exact ⟨rfl, same⟩
          · split
            · refine ⟨rfl, fun z hz => ?_⟩
              rcases List.mem_append.1 hz with hz | hz
              · exact same z (hgone _ z hz)
              · rw [List.mem_singleton.1 hz]
                exact ⟨x, hm, rfl, rfl⟩
            · split
              · exact ⟨rfl, same⟩
              · refine ⟨rfl, fun z hz => ?_⟩
                rcases List.mem_append.1 hz with hz | hz
                · exact same z (hgone _ z (List.mem_filter.1 hz).1)
                · rw [List.mem_singleton.1 hz]
                  exact ⟨x, hm, rfl, rfl⟩
  · rw [does_11 hp q]
    split
    · split
      · refine ⟨rfl, setMode_get _ _ _ fun x hx => ?_⟩
        split
        · exact ⟨x, hx, rfl, rfl⟩
        · exact ⟨x, hx, rfl, rfl⟩
      · exact ⟨rfl, same⟩
    · exact ⟨rfl, same⟩
theorem ids_other {t : T} {K : List Int} (hi : IdsOk t K) {o : Op} (h8 : 8 ≤ o.1) (h : (does t o).1 = 0) : IdsOk (apply t o).1 K ∧ (apply t o).1.next = t.next := by
  obtain ⟨h1, h2⟩ := does_kinds h8 h
  rw [apply_ok h]
  exact ⟨hi.less h1 h2, h1⟩
/-- A making: its one entry, the tree behind it. -/
theorem ids_made {t : T} {K : List Int} (hi : IdsOk t K) {o : Op} (h7 : o.1 ≤ 7) (h : (does t o).1 = 0) :
    ∃ n : Nd, apply t o = (⟨t.L ++ [(o.key, n)], t.vers + 1, t.next + 1⟩, [(o.key, false, n)], [o.key], 0) ∧ n.1 = t.next ∧ IdsOk (apply t o).1 (K ++ [n.2.1]) := by
  obtain ⟨hp, hk, hl, n, hn1, hn2, hd⟩ := does_make h7 h
  have hkeys : keysOf o = [o.key] := by unfold keysOf; rw [if_neg (by omega)]
  have hbk : byKey (t.L ++ [(o.key, n)]) o.key = some (o.key, n) := by rw [byKey_app, hk, byKey_one, if_pos rfl]; rfl
  have e : apply t o = (⟨t.L ++ [(o.key, n)], t.vers + 1, t.next + 1⟩, [(o.key, false, n)], [o.key], 0) := by
    rw [apply_ok h, hd, hkeys]
    simp only [List.map_cons, List.map_nil]
    unfold nowE
    rw [hbk]
  refine ⟨n, e, hn1, ?_⟩
  rw [e]
  exact hi.made hn1 _
theorem idsOk_dump {t : T} {K : List Int} (hi : IdsOk t K) {i : Nat} {e : En} (h : (dumpR t.L)[i]? = some e) : ∃ q : Nat, e.2.2.1 = (q : Int) + 2 ∧ K[q]? = some e.2.2.2.1 := by
  obtain ⟨x, hx, rfl⟩ := dump_get h
  exact hi.2 x ((srt_perm _).mem_iff.1 (List.mem_of_getElem? hx))
theorem run_append (t : T) (a b : List Op) : run t (a ++ b) = run (run t a) b := by unfold run; rw [List.foldl_append]
end
end Tr

open Go.RowKit
/-- A tree that was made since the world w. -/
structure Grown (w : World) (M : TM) (t : Tr.T) (W : World) : Prop where
  at_ : TreeAt W M t
  own : ∀ k, M.own k → w.heap.size ≤ k
  bl : Below w.heap.size w W
/-- A row that is read and lies beside a tree. -/
structure Beside (M : TM) (sz : Nat) (A : Option Addr) (n : Nat) (xs : List Value) (W : World) : Prop where
  rd : Rd W sz A n xs
  no : ∀ ad, A = some ad → 0 < n → ¬ M.own ad.block
section
variable {w W W' : World} {M M' : TM} {t : Tr.T} {sz n : Nat} {A : Option Addr} {xs : List Value}
theorem Grown.below (H : Grown w M t W) (hb : Below W.heap.size W W') : Grown w M t W' := ⟨H.at_.below hb, H.own, H.bl.trans (hb.mono H.bl.size)⟩
theorem Grown.later {w0 : World} (H : Grown w M t W) (hb : Below w0.heap.size w0 w) : Grown w0 M t W := ⟨H.at_, fun k q => Nat.le_trans hb.size (H.own k q), hb.trans (H.bl.mono hb.size)⟩
theorem Beside.below (H : Beside M sz A n xs W) (hb : Below W.heap.size W W') : Beside M sz A n xs W' := ⟨H.rd.below hb, H.no⟩
theorem Beside.kp (H : Beside M sz A n xs W) (hk : Kp (fun k => ¬ M.own k) W W') (ho : ∀ k, M'.own k → M.own k ∨ W.heap.size ≤ k) : Beside M' sz A n xs W' := by
  have hlt : ∀ ad, A = some ad → 0 < n → ad.block < W.heap.size := fun ad e h0 => by
    obtain ⟨ad', e', hb, _⟩ := H.rd.2 h0
    rw [e] at e'
    injection e' with e'
    rw [e']
    exact hb
  refine ⟨H.rd.kp0 hk fun ad e h0 => H.no ad e h0, fun ad e h0 q => ?_⟩
  rcases ho _ q with q | q
  · exact H.no ad e h0 q
  · have := hlt ad e h0
    omega
/-- What is older than the tree lies beside it. -/
theorem Beside.of_old (hr : Rd W sz A n xs) (hA : ∀ ad, A = some ad → 0 < n → ad.block < w.heap.size) (H : Grown w M t W) : Beside M sz A n xs W :=
  ⟨hr, fun ad e h0 q => by have := H.own _ q; have := hA ad e h0; omega⟩
/-- What came after the tree lies beside it. -/
theorem Beside.of_new {e c : Nat} {W0 : World} (H : TreeAt W0 M t) (h : W.ownsRow W0.heap.size e sz (.slice A n c) n xs) : Beside M sz A n xs W :=
  ⟨Rd.of_own h, fun ad ea _ q => by have := own_fresh h ad ea; have := H.F.own_lt q; omega⟩
end
end Go.Proofs.YtoacobcbloljkaaGreatDoor
