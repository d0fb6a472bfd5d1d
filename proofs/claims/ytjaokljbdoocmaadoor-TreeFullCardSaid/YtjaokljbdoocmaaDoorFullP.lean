/-
  A tree that is full: what forty-seven makes of unlike names leave, and what is asked of it then. Plain Lean.
-/
import Derived.Test.YtjaokljbdoocmaaDoorTreePlain
namespace Go.Proofs.YtjaokljbdoocmaaDoor
namespace Tr
/-- The name of the i-th node. -/
def fName (i : Nat) : List UInt8 := [UInt8.ofNat (97 + i % 26), UInt8.ofNat (97 + i / 26)]
/-- What a kind of make (0 create, 1 mkdir, 2 symlink) makes. -/
def fKind (q : Int) : Int := if q = 0 then 2 else if q = 1 then 1 else 3
def fTg (q : Int) : List UInt8 := if q = 2 then [97] else []
def fNode (f : Nat → Int) (i : Nat) : TE := ((1, fName i), (2 + (i : Int), fKind (f i), 0, fTg (f i)))
def fullL (f : Nat → Int) (k : Nat) : List TE := (List.range k).map (fNode f)
def fullT (f : Nat → Int) (k : Nat) : T := ⟨fullL f k, k, 2 + (k : Int)⟩

theorem mem_full {f : Nat → Int} {k : Nat} {x : TE} : x ∈ fullL f k ↔ ∃ i, i < k ∧ x = fNode f i := by
  unfold fullL
  rw [List.mem_map]
  constructor
  · rintro ⟨i, h1, h2⟩
    exact ⟨i, List.mem_range.1 h1, h2.symm⟩
  · rintro ⟨i, h1, h2⟩
    exact ⟨i, List.mem_range.2 h1, h2.symm⟩
theorem full_len (f : Nat → Int) (k : Nat) : (fullL f k).length = k := by
  unfold fullL
  rw [List.length_map, List.length_range]
theorem full_succ (f : Nat → Int) (k : Nat) : fullL f (k + 1) = fullL f k ++ [fNode f k] := by
  unfold fullL
  rw [List.range_succ, List.map_append]
  rfl
theorem fName_inj : ∀ i : Fin 47, ∀ j : Fin 47, fName i = fName j → i = j := by decide +kernel
theorem fName_check : ∀ i : Fin 47, Nm.checkE (fName i) = 0 := by decide +kernel
theorem fName_more : ∀ i : Fin 47, fName i ≠ [109, 111, 114, 101] := by decide +kernel
theorem fName_zz : ∀ i : Fin 47, fName i ≠ [122, 122] := by decide +kernel
theorem check_more : Nm.checkE [109, 111, 114, 101] = 0 := by decide +kernel
theorem check_zz : Nm.checkE [122, 122] = 0 := by decide +kernel
theorem check_aa : Nm.checkE [97, 97] = 0 := by decide +kernel
theorem check_ba : Nm.checkE [98, 97] = 0 := by decide +kernel
theorem target_a : (Nm.targetR [97]).2.2.2 = 0 := by decide +kernel
theorem root_place {L : List TE} (s : List UInt8) (hs : Nm.checkE s = 0) : placeE L 1 s = 0 := by
  unfold placeE
  rw [dirE_zero.2 (isDir_iff.2 (.inl rfl)), if_neg (by simp), hs]

theorem full_noKey {f : Nat → Int} {k : Nat} {s : List UInt8} (h : ∀ i, i < k → fName i ≠ s) : byKey (fullL f k) (1, s) = none := byKey_none.2 fun x hx e => by
  obtain ⟨i, hi, rfl⟩ := mem_full.1 hx
  simp only [fNode, Prod.mk.injEq, true_and] at e
  exact h i hi e

/-- A make whose kind is 5 + q in the root. -/
theorem make_does (t : T) (q : Int) (hq : q = 0 ∨ q = 1 ∨ q = 2) (s : List UInt8) (hs : Nm.checkE s = 0) (tg : List UInt8) (ht : (Nm.targetR tg).2.2.2 = 0) :
    does t (5 + q, 1, s, 0, [], 0, tg) = made t (1, s) (fKind q) 0 (if q = 2 then tg else []) := by
  have hp := root_place (L := t.L) s hs
  rcases hq with rfl | rfl | rfl
  · unfold does
    rw [if_neg (by simp only; omega), if_neg (by change ¬ placeE t.L 1 s ≠ 0; rw [hp]; simp)]
    rfl
  · unfold does
    rw [if_neg (by simp only; omega), if_neg (by change ¬ placeE t.L 1 s ≠ 0; rw [hp]; simp)]
    rfl
  · unfold does
    rw [if_neg (by simp only; omega), if_neg (by change ¬ placeE t.L 1 s ≠ 0; rw [hp]; simp), if_neg (by simp), if_neg (by simp), if_pos (by simp), if_neg (by change ¬ (Nm.targetR tg).2.2.2 ≠ 0; rw [ht]; simp)]
    rfl
theorem full_does {f : Nat → Int} {k : Nat} (hf : ∀ i, f i = 0 ∨ f i = 1 ∨ f i = 2) (hk : k < 47) :
    does (fullT f k) (5 + f k, 1, fName k, 0, [], 0, [97]) = (0, ⟨fullL f (k + 1), k, 2 + (k : Int) + 1⟩) := by
  rw [make_does _ _ (hf k) _ (fName_check ⟨k, hk⟩) _ target_a]
  unfold made
  change (if (byKey (fullL f k) (1, fName k)).isSome = true then _ else if 48 ≤ (fullL f k).length + 1 then _ else _) = _
  rw [full_noKey (fun i hi e => by have := fName_inj ⟨i, by omega⟩ ⟨k, hk⟩ e; simp at this; omega), if_neg (by simp), if_neg (by rw [full_len]; omega), full_succ]
  rfl
theorem full_apply {f : Nat → Int} {k : Nat} (hf : ∀ i, f i = 0 ∨ f i = 1 ∨ f i = 2) (hk : k < 47) :
    (apply (fullT f k) (5 + f k, 1, fName k, 0, [], 0, [97])).1 = fullT f (k + 1) ∧ (apply (fullT f k) (5 + f k, 1, fName k, 0, [], 0, [97])).2.2.2 = 0 := by
  unfold apply
  rw [full_does hf hk, if_neg (by simp)]
  refine ⟨?_, rfl⟩
  simp only [fullT, T.mk.injEq, true_and]
  constructor <;> omega
theorem full_good {f : Nat → Int} (hf : ∀ i, f i = 0 ∨ f i = 1 ∨ f i = 2) : ∀ k : Nat, k ≤ 47 → Good (fullT f k)
  | 0, _ => good_t0
  | k + 1, hk => by
    have := (full_good hf k (by omega)).apply (5 + f k, 1, fName k, 0, [], 0, [97])
    rw [(full_apply hf (by omega)).1] at this
    exact this
/-- No room for another one. -/
theorem full_room {f : Nat → Int} {q : Int} (hq : q = 0 ∨ q = 1 ∨ q = 2) :
    apply (fullT f 47) (5 + q, 1, [109, 111, 114, 101], 0, [], 0, [97]) = (fullT f 47, [], [], 47) := by
  have : does (fullT f 47) (5 + q, 1, [109, 111, 114, 101], 0, [], 0, [97]) = (47, fullT f 47) := by
    rw [make_does _ _ hq _ check_more _ target_a]
    unfold made
    change (if (byKey (fullL f 47) (1, [109, 111, 114, 101])).isSome = true then _ else if 48 ≤ (fullL f 47).length + 1 then _ else _) = _
    rw [full_noKey (fun i hi e => fName_more ⟨i, hi⟩ e), if_neg (by simp), if_pos (by rw [full_len]; omega)]
  unfold apply
  rw [this, if_pos (by simp)]
theorem full_exist {f : Nat → Int} (hf : ∀ i, f i = 0 ∨ f i = 1 ∨ f i = 2) {q : Int} (hq : q = 0 ∨ q = 1 ∨ q = 2) :
    apply (fullT f 47) (5 + q, 1, [97, 97], 0, [], 0, [97]) = (fullT f 47, [], [], 41) := by
  have hb : byKey (fullL f 47) (1, [97, 97]) = some (fNode f 0) := byKey_of (L := fullL f 47) (full_good hf 47 (by omega)).keys (mem_full.2 ⟨0, by omega, rfl⟩)
  have : does (fullT f 47) (5 + q, 1, [97, 97], 0, [], 0, [97]) = (41, fullT f 47) := by
    rw [make_does _ _ hq _ check_aa _ target_a]
    unfold made
    change (if (byKey (fullL f 47) (1, [97, 97])).isSome = true then _ else _) = _
    rw [hb, if_pos (by simp)]
  unfold apply
  rw [this, if_pos (by simp)]

/-- Behind the rename. -/
def renL (f : Nat → Int) : List TE := gone (fullL f 47) (1, [97, 97]) ++ [((1, [122, 122]), (fNode f 0).2)]
theorem full_ren {f : Nat → Int} (hf : ∀ i, f i = 0 ∨ f i = 1 ∨ f i = 2) :
    (apply (fullT f 47) (10, 1, [97, 97], 1, [122, 122], 0, [])).1 = ⟨renL f, 48, 49⟩ ∧ (apply (fullT f 47) (10, 1, [97, 97], 1, [122, 122], 0, [])).2.2.2 = 0 := by
  have hb : byKey (fullL f 47) (1, [97, 97]) = some (fNode f 0) := byKey_of (L := fullL f 47) (full_good hf 47 (by omega)).keys (mem_full.2 ⟨0, by omega, rfl⟩)
  have hp := root_place (L := fullL f 47) _ check_aa
  have hq := root_place (L := fullL f 47) _ check_zz
  have e1 : does (fullT f 47) (10, 1, [97, 97], 1, [122, 122], 0, []) = renamed (fullT f 47) (1, [97, 97]) (1, [122, 122]) := by
    unfold does
    rw [if_neg (by simp only; omega), if_neg (by change ¬ placeE (fullL f 47) 1 [97, 97] ≠ 0; rw [hp]; simp), if_neg (by simp), if_neg (by simp), if_neg (by simp), if_neg (by simp), if_neg (by simp), if_pos rfl,
      if_neg (by change ¬ placeE (fullL f 47) 1 [122, 122] ≠ 0; rw [hq]; simp)]
    rfl
  have e2 : does (fullT f 47) (10, 1, [97, 97], 1, [122, 122], 0, []) = (0, ⟨renL f, 47, 49⟩) := by
    rw [e1]
    unfold renamed
    rw [show byKey (fullT f 47).L (1, [97, 97]) = some (fNode f 0) from hb]
    change (if (fNode f 0).2.2.1 = 1 ∧ inside (fullL f 47) (fullL f 47).length 1 2 = true then ((45 : Int), fullT f 47) else if ((1, [97, 97]) : Key) = (1, [122, 122]) then (0, fullT f 47) else match byKey (fullL f 47) (1, [122, 122]) with
      | none => (0, ⟨renL f, 47, 49⟩)
      | some y => if gives (fullL f 47) (fNode f 0).2 y.2 ≠ 0 then (gives (fullL f 47) (fNode f 0).2 y.2, fullT f 47) else (0, ⟨gone (gone (fullL f 47) (1, [122, 122])) (1, [97, 97]) ++ [((1, [122, 122]), (fNode f 0).2)], 47, 49⟩)) = _
    rw [full_len, if_neg (by intro h; have h2 := h.2; unfold inside at h2; simp at h2), if_neg (by simp)]
    rw [full_noKey (fun i hi e => fName_zz ⟨i, hi⟩ e)]
  unfold apply
  rw [e2, if_neg (by simp)]
  exact ⟨rfl, rfl⟩
theorem ren_mem {f : Nat → Int} : fNode f 1 ∈ renL f := by
  unfold renL gone
  refine List.mem_append_left _ (List.mem_filter.2 ⟨mem_full.2 ⟨1, by omega, rfl⟩, ?_⟩)
  simp [fNode, fName]
theorem ren_dir {f : Nat → Int} {x : TE} (hx : x ∈ renL f) : x.1.1 = 1 := by
  unfold renL gone at hx
  rcases List.mem_append.1 hx with h | h
  · obtain ⟨i, -, rfl⟩ := mem_full.1 (List.mem_filter.1 h).1
    rfl
  · rw [List.mem_singleton] at h
    subst h
    rfl
/-- What lies at 'ba' then. -/
theorem ren_look {f : Nat → Int} (h : Good ⟨renL f, 48, 49⟩) : lookR (renL f) 1 [98, 97] = (((1, [98, 97]), false, 3, fKind (f 1), 0, fTg (f 1)), 0) := by
  unfold lookR
  rw [if_neg (by rw [root_place _ check_ba]; simp)]
  unfold nowE
  rw [show byKey (renL f) (1, [98, 97]) = some (fNode f 1) from byKey_of (L := renL f) h.keys ren_mem]
  rfl
/-- It is taken away. -/
def cutL (f : Nat → Int) : List TE := gone (renL f) (1, [98, 97])
theorem ren_cut {f : Nat → Int} (h : Good ⟨renL f, 48, 49⟩) :
    (apply ⟨renL f, 48, 49⟩ (if fKind (f 1) = 1 then 9 else 8, 1, [98, 97], 0, [], 0, [])).1 = ⟨cutL f, 49, 49⟩ ∧ (apply ⟨renL f, 48, 49⟩ (if fKind (f 1) = 1 then 9 else 8, 1, [98, 97], 0, [], 0, [])).2.2.2 = 0 := by
  have hb : byKey (renL f) (1, [98, 97]) = some (fNode f 1) := byKey_of (L := renL f) h.keys ren_mem
  have hp := root_place (L := renL f) _ check_ba
  have e2 : does ⟨renL f, 48, 49⟩ (if fKind (f 1) = 1 then 9 else 8, 1, [98, 97], 0, [], 0, []) = (0, ⟨cutL f, 48, 49⟩) := by
    by_cases hk : fKind (f 1) = 1
    · rw [if_pos hk]
      have e1 : does ⟨renL f, 48, 49⟩ (9, 1, [98, 97], 0, [], 0, []) = removed ⟨renL f, 48, 49⟩ (1, [98, 97]) true := by
        unfold does
        rw [if_neg (by simp only; omega), if_neg (by change ¬ placeE (renL f) 1 [98, 97] ≠ 0; rw [hp]; simp)]
        rfl
      rw [e1]
      unfold removed
      rw [show byKey (⟨renL f, 48, 49⟩ : T).L (1, [98, 97]) = some (fNode f 1) from hb]
      change (if fKind (f 1) = 1 ∧ true = false then ((43 : Int), (⟨renL f, 48, 49⟩ : T)) else if fKind (f 1) ≠ 1 ∧ true = true then (42, ⟨renL f, 48, 49⟩) else if true = true ∧ ofDir (renL f) 3 ≠ [] then (44, ⟨renL f, 48, 49⟩) else (0, ⟨cutL f, 48, 49⟩)) = _
      rw [if_neg (by simp), if_neg (by simp [hk]), if_neg ?_]
      rintro ⟨-, h3⟩
      refine h3 (List.filter_eq_nil_iff.2 fun x hx => ?_)
      simp [ren_dir hx]
    · rw [if_neg hk]
      have e1 : does ⟨renL f, 48, 49⟩ (8, 1, [98, 97], 0, [], 0, []) = removed ⟨renL f, 48, 49⟩ (1, [98, 97]) false := by
        unfold does
        rw [if_neg (by simp only; omega), if_neg (by change ¬ placeE (renL f) 1 [98, 97] ≠ 0; rw [hp]; simp)]
        rfl
      rw [e1]
      unfold removed
      rw [show byKey (⟨renL f, 48, 49⟩ : T).L (1, [98, 97]) = some (fNode f 1) from hb]
      change (if fKind (f 1) = 1 ∧ false = false then ((43 : Int), (⟨renL f, 48, 49⟩ : T)) else if fKind (f 1) ≠ 1 ∧ false = true then (42, ⟨renL f, 48, 49⟩) else if false = true ∧ ofDir (renL f) 3 ≠ [] then (44, ⟨renL f, 48, 49⟩) else (0, ⟨cutL f, 48, 49⟩)) = _
      rw [if_neg (by simp [hk]), if_neg (by simp), if_neg (by simp)]
  unfold apply
  rw [e2, if_neg (by simp)]
  exact ⟨rfl, rfl⟩
theorem cut_sub {f : Nat → Int} {x : TE} (hx : x ∈ cutL f) : x ∈ renL f ∧ x.1 ≠ (1, [98, 97]) := by
  unfold cutL gone at hx
  rw [List.mem_filter] at hx
  exact ⟨hx.1, by simpa using hx.2⟩
theorem ren_len {f : Nat → Int} (h : Good ⟨renL f, 48, 49⟩) : (renL f).length ≤ 47 := h.len
theorem cut_len {f : Nat → Int} (h : Good ⟨renL f, 48, 49⟩) : (cutL f).length ≤ 46 := by
  have h1 : (cutL f).length < (renL f).length := by
    unfold cutL gone
    refine List.length_filter_lt_length_iff_exists.2 ⟨_, ren_mem, ?_⟩
    simp [fNode, fName]
  have := h.len
  simp only at this
  omega
/-- There is room again. -/
theorem cut_make {f : Nat → Int} (h : Good ⟨renL f, 48, 49⟩) :
    ∃ T, apply ⟨cutL f, 49, 49⟩ (6, 1, [109, 111, 114, 101], 0, [], 0, []) = (T, [((1, [109, 111, 114, 101]), false, 49, 1, 0, [])], [(1, [109, 111, 114, 101])], 0) := by
  have hn : byKey (cutL f) (1, [109, 111, 114, 101]) = none := byKey_none.2 fun x hx e => by
    obtain ⟨h1, -⟩ := cut_sub hx
    unfold renL gone at h1
    rcases List.mem_append.1 h1 with h2 | h2
    · obtain ⟨i, hi, rfl⟩ := mem_full.1 (List.mem_filter.1 h2).1
      simp only [fNode, Prod.mk.injEq, true_and] at e
      exact fName_more ⟨i, hi⟩ e
    · rw [List.mem_singleton] at h2
      subst h2
      simp at e
  have hlen := cut_len h
  have e1 : does ⟨cutL f, 49, 49⟩ (6, 1, [109, 111, 114, 101], 0, [], 0, []) = (0, ⟨cutL f ++ [((1, [109, 111, 114, 101]), 49, 1, 0, [])], 49, 50⟩) := by
    rw [show does ⟨cutL f, 49, 49⟩ (6, 1, [109, 111, 114, 101], 0, [], 0, []) = made ⟨cutL f, 49, 49⟩ (1, [109, 111, 114, 101]) 1 0 [] by
      unfold does
      rw [if_neg (by simp only; omega), if_neg (by change ¬ placeE (cutL f) 1 [109, 111, 114, 101] ≠ 0; rw [root_place _ check_more]; simp)]
      rfl]
    unfold made
    change (if (byKey (cutL f) (1, [109, 111, 114, 101])).isSome = true then _ else if 48 ≤ (cutL f).length + 1 then _ else _) = _
    rw [hn, if_neg (by simp), if_neg (by omega)]
    rfl
  refine ⟨⟨cutL f ++ [((1, [109, 111, 114, 101]), 49, 1, 0, [])], 50, 50⟩, ?_⟩
  unfold apply
  rw [e1]
  have hk : keysOf (6, 1, [109, 111, 114, 101], 0, [], 0, []) = [(1, [109, 111, 114, 101])] := rfl
  rw [hk]
  have hnow : nowE (cutL f ++ [((1, [109, 111, 114, 101]), 49, 1, 0, [])]) (1, [109, 111, 114, 101]) = ((1, [109, 111, 114, 101]), false, 49, 1, 0, []) := by
    unfold nowE
    have : byKey (cutL f ++ [((1, [109, 111, 114, 101]), 49, 1, 0, [])]) (1, [109, 111, 114, 101]) = some ((1, [109, 111, 114, 101]), 49, 1, 0, []) := by
      unfold byKey at hn ⊢
      rw [List.find?_append, hn]
      simp
    rw [this]
  simp [hnow]
end Tr
end Go.Proofs.YtjaokljbdoocmaaDoor
