/-
  How a cache's maps and the reference's lists belong together, and that each call keeps it. No program is walked in it.
-/
import Derived.Test.YtoacobcbloljkaaGreatDoorTwo
namespace Go.Proofs.YtoacobcbloljkaaGreatDoor
open Go.RowKit

/-- The entries in the order of their use are the reference's list; the whole directories are the same. -/
def Rel (l : List (Key × (En × Int))) (wh : List (Int × Bool)) (clk : Int) (L : List En) (W : List Int) : Prop :=
  ∃ Z : List (En × Int), Z.map Prod.fst = L ∧ (Z.map Prod.snd).Pairwise (· < ·) ∧ (∀ p ∈ Z, p.2 ≤ clk) ∧ l.Perm (Z.map fun p => (p.1.1, p)) ∧ (l.map Prod.fst).Nodup ∧ ∀ d, (alGet wh d).getD false = W.contains d

theorem Rel.start : Rel [] [] 0 [] [] := ⟨[], rfl, .nil, by simp, .nil, .nil, fun d => rfl⟩

section
variable {l : List (Key × (En × Int))} {wh : List (Int × Bool)} {clk : Int} {L : List En} {W : List Int}

theorem Rel.nodup (H : Rel l wh clk L W) : (L.map Prod.fst).Nodup := by
  obtain ⟨Z, rfl, _, _, hp, hn, _⟩ := H
  have := (hp.map Prod.fst).nodup_iff.1 hn
  rw [List.map_map] at this
  rw [List.map_map]
  exact this

theorem find_alGet (L : List En) (k : Key) : (L.find? fun x => decide (x.1 = k)) = (alGet L k).map fun v => (k, v) := by
  induction L with
  | nil => rfl
  | cons x r ih =>
    obtain ⟨a, v⟩ := x
    unfold alGet
    by_cases h : a = k
    · subst h
      simp
    · rw [List.find?_cons_of_neg (by simpa using h), ih, if_neg h]

theorem Rel.get (H : Rel l wh clk L W) (k : Key) : (alGet l k).map Prod.fst = L.find? fun x => decide (x.1 = k) := by
  have hnd := H.nodup
  obtain ⟨Z, rfl, _, _, hp, hn, _⟩ := H
  cases hq : alGet l k with
  | some p =>
    have hm := hp.mem_iff.1 (alGet_mem hq)
    obtain ⟨q, hqz, e⟩ := List.mem_map.1 hm
    injection e with e1 e2
    subst e2
    have h1 : q.1 ∈ Z.map Prod.fst := List.mem_map_of_mem hqz
    have h2 : alGet (Z.map Prod.fst) q.1.1 = some q.1.2 := alGet_of_mem hnd h1
    rw [find_alGet, ← e1, h2]
    rfl
  | none =>
    symm
    show _ = none
    refine List.find?_eq_none.2 fun x hx => ?_
    obtain ⟨q, hqz, rfl⟩ := List.mem_map.1 hx
    have := (alGet_none.1 hq) (q.1.1, q) (hp.mem_iff.2 (List.mem_map_of_mem hqz))
    simpa using this

theorem ixOf_find (L : List En) (k : Key) : (ixOf L k).map (fun i => L.getD i noEn) = L.find? fun x => decide (x.1 = k) := by
  cases hq : ixOf L k with
  | none =>
    unfold ixOf at hq
    rw [List.findIdx?_eq_none_iff] at hq
    symm
    show _ = none
    exact List.find?_eq_none.2 fun x hx => by simpa using hq x hx
  | some i =>
    unfold ixOf at hq
    rw [List.findIdx?_eq_some_iff_getElem] at hq
    obtain ⟨h1, h2, h3⟩ := hq
    symm
    show _ = some (L.getD i noEn)
    rw [List.getD_eq_getElem?_getD, List.getElem?_eq_getElem h1]
    exact List.find?_eq_some_iff_getElem.2 ⟨h2, i, h1, rfl, fun j hj => by simpa using h3 j hj⟩

theorem Rel.some (H : Rel l wh clk L W) (k : Key) : (alGet l k).isSome = (ixOf L k).isSome := by
  have h1 := H.get k
  rw [← ixOf_find] at h1
  cases h2 : alGet l k <;> cases h3 : ixOf L k <;> simp_all

/-- Entries of some keys are dropped. -/
theorem Rel.filt (H : Rel l wh clk L W) (f : Key → Bool) : Rel (l.filter fun p => !f p.1) wh clk (L.filter fun x => !f x.1) W := by
  obtain ⟨Z, rfl, h1, h2, hp, hn, hw⟩ := H
  refine ⟨Z.filter fun p => !f p.1.1, ?_, ?_, fun p hp' => h2 p (List.mem_filter.1 hp').1, ?_, ?_, hw⟩
  · rw [List.filter_map]
    rfl
  · exact h1.sublist (List.filter_sublist.map _)
  · have := hp.filter fun p => !f p.1
    rw [List.filter_map] at this
    exact this
  · exact hn.sublist (List.filter_sublist.map _)

theorem outK_filt (h : (L.map Prod.fst).Nodup) (k : Key) : outK L k = L.filter fun x => !decide (x.1 = k) := by
  unfold outK
  cases hq : ixOf L k with
  | none =>
    show L = _
    symm
    unfold ixOf at hq
    rw [List.findIdx?_eq_none_iff] at hq
    exact List.filter_eq_self.2 fun x hx => by simpa using hq x hx
  | some i =>
    obtain ⟨x, hx, rfl⟩ := ixOf_get hq
    show L.eraseIdx i = _
    exact (alDel_at h (u := x.2) hx).symm

theorem alPut_perm {κ ν : Type} [DecidableEq κ] {l : List (κ × ν)} (hn : (l.map Prod.fst).Nodup) (k : κ) (v : ν) : (alPut l k v).Perm (alDel l k ++ [(k, v)]) := by
  cases hq : alGet l k with
  | none => rw [alPut_new hq, alDel_none (alGet_none.1 hq)]
  | some u =>
    obtain ⟨j, hj⟩ := List.getElem?_of_mem (alGet_mem hq)
    rw [alPut_old hn hj, alDel_at hn hj]
    have hl := (List.getElem?_eq_some_iff.1 hj).1
    rw [List.set_eq_take_append_cons_drop, if_pos hl, List.eraseIdx_eq_take_drop_succ, List.append_assoc]
    refine List.Perm.append_left _ ?_
    exact (List.perm_append_singleton _ _).symm

/-- An entry is put or used. -/
theorem Rel.push (H : Rel l wh clk L W) (x : En) : Rel (alPut l x.1 (x, clk + 1)) wh (clk + 1) (outK L x.1 ++ [x]) W := by
  have hf := H.filt fun k => decide (k = x.1)
  rw [outK_filt H.nodup]
  have hn : (l.map Prod.fst).Nodup := by obtain ⟨_, _, _, _, _, hn, _⟩ := H; exact hn
  obtain ⟨Z, h0, h1, h2, hp, _, hw⟩ := hf
  refine ⟨Z ++ [(x, clk + 1)], by rw [List.map_append, h0]; rfl, ?_, ?_, ?_, alNodup_put hn _ _, hw⟩
  · rw [List.map_append, List.pairwise_append]
    refine ⟨h1, by simp, fun a ha b hb => ?_⟩
    simp only [List.map_cons, List.map_nil, List.mem_singleton] at hb
    obtain ⟨p, hp', rfl⟩ := List.mem_map.1 ha
    have := h2 p hp'
    omega
  · intro p hp'
    rcases List.mem_append.1 hp' with h | h
    · have := h2 p h
      omega
    · rw [List.mem_singleton.1 h]
      exact Int.le_refl _
  · rw [List.map_append]
    exact (alPut_perm hn _ _).trans (hp.append (List.Perm.refl _))

theorem Rel.whole {wh' : List (Int × Bool)} {W' : List Int} (H : Rel l wh clk L W) (h : (∀ d, (alGet wh d).getD false = W.contains d) → ∀ d, (alGet wh' d).getD false = W'.contains d) : Rel l wh' clk L W' := by
  obtain ⟨Z, h0, h1, h2, hp, hn, hw⟩ := H
  exact ⟨Z, h0, h1, h2, hp, hn, h hw⟩

theorem Rel.partW (H : Rel l wh clk L W) (d : Int) : Rel l (alDel wh d) clk L (dropD W d) := by
  refine H.whole fun h b => ?_
  rw [alGet_del]
  have hb := h b
  by_cases e : d = b
  · subst e
    rw [if_pos rfl]
    symm
    unfold dropD
    simp
  · rw [if_neg e, hb]
    unfold dropD
    rw [Bool.eq_iff_iff]
    simp only [List.contains_iff_mem, List.mem_filter, Bool.not_eq_true', decide_eq_false_iff_not]
    exact ⟨fun q => ⟨q, fun q2 => e q2.symm⟩, fun q => q.1⟩
theorem Rel.setW (H : Rel l wh clk L W) (d : Int) : Rel l (alPut wh d true) clk L (if W.contains d = true then W else W ++ [d]) := by
  refine H.whole fun h b => ?_
  rw [alGet_put]
  have hb := h b
  by_cases e : d = b
  · subst e
    rw [if_pos rfl]
    by_cases hc : W.contains d = true
    · rw [if_pos hc, hc]; rfl
    · rw [if_neg hc]; simp
  · rw [if_neg e, hb]
    by_cases hc : W.contains d = true
    · rw [if_pos hc]
    · rw [if_neg hc, Bool.eq_iff_iff]
      simp only [List.contains_iff_mem, List.mem_append, List.mem_singleton]
      exact ⟨fun q => .inl q, fun q => q.elim id fun q => absurd q.symm e⟩

theorem Rel.put (H : Rel l wh clk L W) (x : En) : Rel (dPut l x clk) wh (dClk x clk) (if x.1.2 = [] then L else outK L x.1 ++ [x]) W := by
  unfold dPut dClk
  by_cases h : x.1.2 = []
  · rw [if_pos h, if_pos h, if_pos h]; exact H
  · rw [if_neg h, if_neg h, if_neg h]; exact H.push x

theorem Rel.use (H : Rel l wh clk L W) (k : Key) : Rel (dUse l k clk) wh (dUseClk l k clk) (useK L k) W := by
  have hg := H.get k
  rw [← ixOf_find] at hg
  unfold dUse dUseClk useK
  cases h1 : alGet l k with
  | none =>
    rw [h1] at hg
    cases h2 : ixOf L k with
    | none => exact H
    | some i => rw [h2] at hg; cases hg
  | some p =>
    rw [h1] at hg
    cases h2 : ixOf L k with
    | none => rw [h2] at hg; cases hg
    | some i =>
      rw [h2] at hg
      have hg : p.1 = L.getD i noEn := Option.some.inj hg
      obtain ⟨x, hx, hxk⟩ := ixOf_get h2
      have hp : p.1 = x := by rw [hg, List.getD_eq_getElem?_getD, hx]; rfl
      have := H.push x
      unfold outK at this
      rw [hxk, h2] at this
      show Rel (alPut l k (p.1, clk + 1)) wh (clk + 1) (L.eraseIdx i ++ [L.getD i noEn]) W
      rw [← hg, hp]
      exact this

theorem Rel.evict (H : Rel l wh clk L W) (k : Key) : Rel (alDel l k) (dEvictW l wh k) clk (outK L k) (evictW L W k) := by
  have hg := H.get k
  rw [← ixOf_find] at hg
  have hf := H.filt fun q => decide (q = k)
  rw [← outK_filt H.nodup] at hf
  unfold dEvictW evictW
  cases h1 : alGet l k with
  | none =>
    rw [h1] at hg
    cases h2 : ixOf L k with
    | none => exact hf
    | some i => rw [h2] at hg; cases hg
  | some p =>
    rw [h1] at hg
    cases h2 : ixOf L k with
    | none => rw [h2] at hg; cases hg
    | some i =>
      rw [h2] at hg
      have hg : p.1 = L.getD i noEn := Option.some.inj hg
      show Rel (alDel l k) (if p.1.2.1 = true then wh else alDel wh k.1) clk (outK L k) (if (L.getD i noEn).2.1 = true then W else dropD W k.1)
      rw [← hg]
      by_cases hb : p.1.2.1 = true
      · rw [if_pos hb, if_pos hb]; exact hf
      · rw [if_neg hb, if_neg hb]; exact hf.partW k.1

theorem Rel.cutOne (H : Rel l wh clk L W) (k : Key) : Rel (cutOne (l, wh) k).1 (cutOne (l, wh) k).2 clk (refCutOne (L, W) k).1 (refCutOne (L, W) k).2 := by
  unfold Go.Proofs.YtoacobcbloljkaaGreatDoor.cutOne refCutOne
  refine Rel.partW ?_ k.1
  by_cases h : k.2 = []
  · have := H.filt fun q => decide (q.1 = k.1)
    simp only [h, if_true, cutE, decide_true, Bool.true_or, Bool.and_true]
    exact this
  · have := H.filt fun q => decide (q = k)
    simp only [h, if_false]
    have e : (L.filter fun x => !cutE k x) = L.filter fun x => !decide (x.1 = k) := by
      refine List.filter_congr fun x _ => ?_
      unfold cutE
      obtain ⟨k1, k2⟩ := k
      obtain ⟨⟨x1, x2⟩, xr⟩ := x
      by_cases e1 : x1 = k1 <;> by_cases e2 : x2 = k2 <;> simp_all
    rw [e]
    exact this

theorem Rel.cut (H : Rel l wh clk L W) (ks : List Key) : Rel (cutAll ks (l, wh)).1 (cutAll ks (l, wh)).2 clk (refCutAll ks (L, W)).1 (refCutAll ks (L, W)).2 := by
  unfold cutAll refCutAll
  induction ks generalizing l wh L W with
  | nil => exact H
  | cons k r ih => exact ih (H.cutOne k)
end
end Go.Proofs.YtoacobcbloljkaaGreatDoor
