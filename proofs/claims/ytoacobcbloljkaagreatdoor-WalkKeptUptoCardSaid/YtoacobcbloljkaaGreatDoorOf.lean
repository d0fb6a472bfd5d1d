/-
  The walk of vistalaw12.Of: a cache and the reference's behind a script.
-/
import Derived.Test.YtoacobcbloljkaaGreatDoorRel
import Derived.Test.YtoacobcbloljkaaGreatDoorPlace
namespace Go.Proofs.YtoacobcbloljkaaGreatDoor
open Go.RowKit

abbrev Op12 := Int × Int × En × List Key

/-- An operation of a script lies at an address. -/
def OpAt (w : World) (B : Nat) (ad : Addr) (o : Op12) : Prop :=
  ∃ (ka : Option Addr) (kn kc : Nat), w.cell? ad = some (.int .i64 o.1) ∧ w.cell? ⟨ad.block, ad.off + 1, none⟩ = some (.int .i64 o.2.1) ∧
    (∀ i u, (cEn o.2.2.1)[i]? = some u → w.cell? ⟨ad.block, ad.off + (2 + i), none⟩ = some u) ∧ w.cell? ⟨ad.block, ad.off + 9, none⟩ = some (.slice ka kn kc) ∧
    Rd w 2 ka kn (cKeys o.2.2.2) ∧ (∀ a, ka = some a → 0 < kn → a.block < B) ∧ kn ≤ 5864062014805 ∧ -9223372036854775808 ≤ o.1 ∧ o.1 ≤ 9223372036854775807
/-- A script in memory. -/
def ScriptAt (w : World) (B : Nat) (A : Option Addr) (n : Nat) (s : List Op12) : Prop :=
  s.length = n ∧ ∀ j o, s[j]? = some o → ∃ ad, A = some ad ∧ ad.block < B ∧ OpAt w B (ad.add (j * 10)) o

theorem OpAt.kp {Q : Nat → Prop} {w w' : World} {B : Nat} {ad : Addr} {o : Op12} (h : OpAt w B ad o) (hB : B ≤ w.heap.size) (hb : ad.block < B) (k : Kp Q w w') (hQ : ∀ j, j < B → Q j) : OpAt w' B ad o := by
  obtain ⟨ka, kn, kc, h1, h2, h3, h4, h5, h6, h7⟩ := h
  have hlt : ad.block < w.heap.size := Nat.lt_of_lt_of_le hb hB
  have hc : ∀ i, w'.cell? ⟨ad.block, i, none⟩ = w.cell? ⟨ad.block, i, none⟩ := fun i => World.cell?_of_block (k.block _ (hQ _ hb) hlt)
  have hc0 : w'.cell? ad = w.cell? ad := World.cell?_of_block (k.block _ (hQ _ hb) hlt)
  exact ⟨ka, kn, kc, hc0.trans h1, (hc _).trans h2, fun i u hu => (hc _).trans (h3 i u hu), (hc _).trans h4, h5.kp0 k (fun a e h0 => hQ _ (h6 a e h0)), h6, h7⟩

theorem Two.out {bx : Nat} {ws w V : World} {cb c e h : Nat} {l : List (Key × (En × Int))} {wh : List (Int × Bool)} {clk : Int} {L : List En} {W : List Int} (H : Two bx ws w.heap.size cb c e h l wh clk L W V) (hb : Below w.heap.size w ws) :
    CacheAt V c e h l wh clk ∧ (∃ A1 c1 A2 c2, RefAt V w.heap.size cb (fun k => k < w.heap.size ∨ k = c ∨ k = e ∨ k = h) A1 c1 A2 c2 L W) ∧ Below w.heap.size w V := by
  obtain ⟨A1, c1, A2, c2, hr⟩ := H.ra
  exact ⟨H.ca, ⟨A1, c1, A2, c2, hr.less fun k hk => .inl hk⟩, hb.trans (H.kp.to_below hb.size fun k hk => .inl hk)⟩

theorem ScriptAt.kp {Q : Nat → Prop} {w w' : World} {B : Nat} {A : Option Addr} {n : Nat} {s : List Op12} (h : ScriptAt w B A n s) (hB : B ≤ w.heap.size) (k : Kp Q w w') (hQ : ∀ j, j < B → Q j) : ScriptAt w' B A n s := by
  refine ⟨h.1, fun j o hj => ?_⟩
  obtain ⟨ad, e, hb, ho⟩ := h.2 j o hj
  exact ⟨ad, e, hb, ho.kp hB (by rw [add_block]; exact hb) k hQ⟩

abbrev St := List (Key × (En × Int)) × List (Int × Bool) × Int × List En × List Int

/-- A script's step, on the cache and on the reference's. -/
def stStep (s : St) (o : Op12) : St :=
  if o.1 % 6 = 0 then (dPut s.1 o.2.2.1 s.2.2.1, s.2.1, dClk o.2.2.1 s.2.2.1, (if o.2.2.1.1.2 = [] then s.2.2.2.1 else outK s.2.2.2.1 o.2.2.1.1 ++ [o.2.2.1]), s.2.2.2.2)
  else if o.1 % 6 = 1 then (dUse s.1 o.2.2.1.1 s.2.2.1, s.2.1, dUseClk s.1 o.2.2.1.1 s.2.2.1, useK s.2.2.2.1 o.2.2.1.1, s.2.2.2.2)
  else if o.1 % 6 = 2 then ((cutAll o.2.2.2 (s.1, s.2.1)).1, (cutAll o.2.2.2 (s.1, s.2.1)).2, s.2.2.1, (refCutAll o.2.2.2 (s.2.2.2.1, s.2.2.2.2)).1, (refCutAll o.2.2.2 (s.2.2.2.1, s.2.2.2.2)).2)
  else if o.1 % 6 = 3 then ([], [], s.2.2.1, [], [])
  else if o.1 % 6 = 4 then (alDel s.1 o.2.2.1.1, dEvictW s.1 s.2.1 o.2.2.1.1, s.2.2.1, outK s.2.2.2.1 o.2.2.1.1, evictW s.2.2.2.1 s.2.2.2.2 o.2.2.1.1)
  else (s.1, alPut s.2.1 o.2.1 true, s.2.2.1, s.2.2.2.1, if s.2.2.2.2.contains o.2.1 = true then s.2.2.2.2 else s.2.2.2.2 ++ [o.2.1])
def st0 : St := ([], [], 0, [], [])
def stAll (s : List Op12) : St := s.foldl stStep st0

theorem stAll_step (s : List Op12) {j : Nat} {o : Op12} (h : s[j]? = some o) : stAll (s.take (j + 1)) = stStep (stAll (s.take j)) o := by
  unfold stAll
  rw [List.take_add_one, h]
  simp

def StOk (s : St) (j : Nat) : Prop := Rel s.1 s.2.1 s.2.2.1 s.2.2.2.1 s.2.2.2.2 ∧ 0 ≤ s.2.2.1 ∧ s.2.2.1 ≤ j ∧ s.2.2.2.1.length ≤ j ∧ s.2.2.2.2.length ≤ j

theorem dropD_len (W : List Int) (d : Int) : (dropD W d).length ≤ W.length := List.length_filter_le _ _
theorem useK_len (L : List En) (k : Key) : (useK L k).length ≤ L.length := by
  unfold useK
  split
  · exact Nat.le_refl _
  · rename_i i hi
    have := ixOf_lt hi
    rw [List.length_append, List.length_eraseIdx_of_lt this, List.length_singleton]
    omega
theorem evictW_len (L : List En) (W : List Int) (k : Key) : (evictW L W k).length ≤ W.length := by
  unfold evictW
  split
  · exact Nat.le_refl _
  · split
    · exact Nat.le_refl _
    · exact dropD_len _ _

theorem StOk.start : StOk st0 0 := ⟨Rel.start, Int.le_refl _, Int.le_refl _, Nat.le_refl _, Nat.le_refl _⟩
theorem StOk.step {s : St} {j : Nat} (h : StOk s j) (o : Op12) : StOk (stStep s o) (j + 1) := by
  obtain ⟨l, wh, clk, L, W⟩ := s
  obtain ⟨hr, h0, h1, h2, h3⟩ := h
  simp only at hr h0 h1 h2 h3
  unfold stStep
  by_cases k0 : o.1 % 6 = 0
  · rw [if_pos k0]
    refine ⟨hr.put _, ?_, ?_, ?_, by simp only; omega⟩
    · simp only [dClk]; split <;> omega
    · simp only [dClk]; split <;> omega
    · have := outK_len L o.2.2.1.1
      simp only
      split
      · omega
      · rw [List.length_append, List.length_singleton]; omega
  rw [if_neg k0]
  by_cases k1 : o.1 % 6 = 1
  · rw [if_pos k1]
    refine ⟨hr.use _, ?_, ?_, ?_, by simp only; omega⟩
    · simp only [dUseClk]; split <;> omega
    · simp only [dUseClk]; split <;> omega
    · have := useK_len L o.2.2.1.1
      simp only
      omega
  rw [if_neg k1]
  by_cases k2 : o.1 % 6 = 2
  · rw [if_pos k2]
    have := refCutAll_len o.2.2.2 (L, W)
    simp only at this
    exact ⟨hr.cut _, h0, by simp only; omega, by simp only; omega, by simp only; omega⟩
  rw [if_neg k2]
  by_cases k3 : o.1 % 6 = 3
  · rw [if_pos k3]
    refine ⟨?_, h0, by simp only; omega, by simp, by simp⟩
    have hf : Rel [] wh clk [] W := by
      have := hr.filt (fun _ => true)
      rwa [List.filter_eq_nil_iff.2 (by simp), List.filter_eq_nil_iff.2 (by simp)] at this
    exact hf.whole (wh' := []) (W' := []) fun _ d => rfl
  rw [if_neg k3]
  by_cases k4 : o.1 % 6 = 4
  · rw [if_pos k4]
    have e1 := outK_len L o.2.2.1.1
    have e2 := evictW_len L W o.2.2.1.1
    exact ⟨hr.evict _, h0, by simp only; omega, by simp only; omega, by simp only; omega⟩
  rw [if_neg k4]
  refine ⟨hr.setW _, h0, by simp only; omega, by simp only; omega, ?_⟩
  simp only
  split
  · omega
  · rw [List.length_append, List.length_singleton]; omega

theorem StOk.all (s : List Op12) (j : Nat) (hj : j ≤ s.length) : StOk (stAll (s.take j)) j := by
  induction j with
  | zero => exact StOk.start
  | succ j ih =>
    have hl : j < s.length := by omega
    rw [stAll_step s (List.getElem?_eq_getElem hl)]
    exact (ih (by omega)).step _
end Go.Proofs.YtoacobcbloljkaaGreatDoor
