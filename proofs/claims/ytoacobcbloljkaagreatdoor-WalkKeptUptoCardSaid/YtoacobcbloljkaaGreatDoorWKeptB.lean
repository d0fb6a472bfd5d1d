/-
  The memory of the law WalkKept behind its second walk.
-/
import Derived.Test.YtoacobcbloljkaaGreatDoorWKeptAt
import Derived.Test.YtoacobcbloljkaaGreatDoorAwake14
namespace Go.Proofs.YtoacobcbloljkaaGreatDoor
open Go.RowKit

/-- Every key of a list is written: what is known of it behind a store. -/
theorem own_put2 {w : World} {base e n c g : Nat} {xs : List Value} (h : w.ownsRow base e 2 (.slice (some ⟨g, 0, none⟩) n c) n xs) (k : Nat) (hk : k < n) :
    (∃ v, w.cell? ⟨g, k * 2, none⟩ = some v) ∧ (∃ v, w.cell? ⟨g, k * 2 + 1, none⟩ = some v) ∧ w.frozen? ⟨g, k * 2, none⟩ = false ∧ w.frozen? ⟨g, k * 2 + 1, none⟩ = false ∧
      ∀ u v, ∃ ys, ((w.setCell ⟨g, k * 2, none⟩ u).setCell ⟨g, k * 2 + 1, none⟩ v).ownsRow base e 2 (.slice (some ⟨g, 0, none⟩) n c) n ys := by
  have hl := h.1
  refine ⟨?_, ?_, h.frozenAt _, h.frozenAt _, fun u v => ⟨_, (((h.stored (k * 2) u).1).stored (k * 2 + 1) v).1⟩⟩
  · rw [h.cellAt (k * 2) (by omega), List.getElem?_eq_getElem (by omega)]
    exact ⟨_, rfl⟩
  · rw [h.cellAt (k * 2 + 1) (by omega), List.getElem?_eq_getElem (by omega)]
    exact ⟨_, rfl⟩

/-- Both answers in their blocks; the first one's list is written over. -/
structure KU (w1 : World) (ab : Nat) (o : Wk.Out) (Au : Option Addr) (cu : Nat) (bb : Nat) (Bu : Option Addr) (du : Nat) (V : World) : Prop where
  bl : Below w1.heap.size w1 V
  ao : At V ab 40 (outCells o (.slice Au o.2.2.2.2.length cu))
  us : ∃ ys, V.ownsRow w1.heap.size 32 2 (.slice Au o.2.2.2.2.length cu) o.2.2.2.2.length ys
  bo : At V bb 40 (outCells o (.slice Bu o.2.2.2.2.length du))
  ub : V.ownsRow w1.heap.size 32 2 (.slice Bu o.2.2.2.2.length du) o.2.2.2.2.length (cKeys o.2.2.2.2)
  na : ∀ k, (Value.slice Au o.2.2.2.2.length cu).ownBlock = some k → k ≠ ab
  nb : ∀ k, (Value.slice Au o.2.2.2.2.length cu).ownBlock = some k → k ≠ bb
  nu : ∀ k, (Value.slice Au o.2.2.2.2.length cu).ownBlock = some k → (Value.slice Bu o.2.2.2.2.length du).ownBlock ≠ some k

section
variable {w1 V V' : World} {ab bb : Nat} {o : Wk.Out} {Au Bu : Option Addr} {cu du : Nat}
theorem KU.next (H : KU w1 ab o Au cu bb Bu du V) (hb : Below V.heap.size V V') : KU w1 ab o Au cu bb Bu du V' :=
  ⟨H.bl.trans (hb.mono H.bl.size), H.ao.below hb, H.us.imp fun _ h => own_below h hb, H.bo.below hb, own_below H.ub hb, H.na, H.nb, H.nu⟩
/-- One store into the first list. -/
theorem KU.put (H : KU w1 ab o Au cu bb Bu du V) {g : Nat} (hA : Au = some ⟨g, 0, none⟩) {k : Nat} (hk : k < o.2.2.2.2.length) (u v : Value) : KU w1 ab o Au cu bb Bu du ((V.setCell ⟨g, k * 2, none⟩ u).setCell ⟨g, k * 2 + 1, none⟩ v) := by
  subst hA
  have hob : (Value.slice (some ⟨g, 0, none⟩) o.2.2.2.2.length cu).ownBlock = some g := by
    obtain ⟨ys, h⟩ := H.us
    obtain ⟨⟨v, hv⟩, _⟩ := own_put2 h k hk
    rfl
  have hkp : Kp (fun q => q ≠ g) V ((V.setCell ⟨g, k * 2, none⟩ u).setCell ⟨g, k * 2 + 1, none⟩ v) :=
    ((Kp.refl (fun q => q ≠ g) V).setCell (p := ⟨g, k * 2, none⟩) (fun _ q => q rfl) u).setCell (p := ⟨g, k * 2 + 1, none⟩) (fun _ q => q rfl) v
  obtain ⟨ys, h⟩ := H.us
  have hg := h.lt g hob
  refine ⟨H.bl.trans (hkp.to_below H.bl.size (fun q hq => by omega)), ?_, (own_put2 h k hk).2.2.2.2 u v, ?_, own_kp H.ub hkp (fun q e h1 => H.nu g hob (h1 ▸ e)), H.na, H.nb, H.nu⟩
  · exact H.ao.kp hkp (fun e => H.na g hob e.symm)
  · exact H.bo.kp hkp (fun e => H.nb g hob e.symm)
end

theorem KU.made {w1 V V5 V6 : World} {fresh : List En} {nf : Nat} {ss : List (List UInt8)} {ns : Nat} {Ae : Option Addr} {ce : Nat} {As : Option Addr} {cs ab : Nat} {o : Wk.Out} {Au Bu : Option Addr} {cu du : Nat} (H : KO w1 fresh nf ss ns Ae ce As cs ab o Au cu V) (hb : Below V.heap.size V V5)
    (hown : V5.ownsRow V.heap.size 32 2 (.slice Bu o.2.2.2.2.length du) o.2.2.2.2.length (cKeys o.2.2.2.2)) (h6 : V6 = V5.alloc (.cells (outCells o (.slice Bu o.2.2.2.2.length du)).toArray 40)) :
    KU w1 ab o Au cu V5.heap.size Bu du V6 := by
  subst h6
  have hb6 : Below V5.heap.size V5 (V5.alloc (.cells (outCells o (.slice Bu o.2.2.2.2.length du)).toArray 40)) := (Below.refl _ _).alloc (Nat.le_refl _) _
  have hz := H.wk.bl.size
  have hz5 := hb.size
  refine ⟨(H.wk.bl.trans (hb.mono hz)).trans (hb6.mono (by omega)), (H.ao.below hb).below hb6, ⟨_, own_below (own_below H.us hb) hb6⟩, At.new _ _ _, own_below (own_base hown hz) hb6, H.ua, fun k q e => ?_, fun k q h => ?_⟩
  · have := (H.us.lt k q).2
    omega
  · have h1 := (hown.lt k h).1
    have h2 := (H.us.lt k q).2
    omega

/-- The same, the block made ahead of the walk and filled behind it. -/
theorem KU.made2 {w1 V V5 V6 : World} {bb : Nat} {fresh : List En} {nf : Nat} {ss : List (List UInt8)} {ns : Nat} {Ae : Option Addr} {ce : Nat} {As : Option Addr} {cs ab : Nat} {o : Wk.Out} {Au Bu : Option Addr} {cu du : Nat} {old : List Value} (H : KO w1 fresh nf ss ns Ae ce As cs ab o Au cu V)
    (h4 : V.heap.size = bb) {V4 : World} (hb4 : Below V.heap.size V V4) (hz4 : V4.heap.size = bb + 1) (hb : Below V4.heap.size V4 V5) (hown : V5.ownsRow V4.heap.size 32 2 (.slice Bu o.2.2.2.2.length du) o.2.2.2.2.length (cKeys o.2.2.2.2))
    (hk : Kp (fun k => k ≠ bb) V5 V6) (hat : At V6 bb 40 old) (he : old = outCells o (.slice Bu o.2.2.2.2.length du)) :
    KU w1 ab o Au cu bb Bu du V6 := by
  subst he
  have hz := H.wk.bl.size
  have hb45 : Below V.heap.size V V5 := hb4.trans (hb.mono (by omega))
  have hb56 : Below V.heap.size V5 V6 := hk.to_below (by have := hb45.size; omega) (fun k hlt => by omega)
  have hb46 := hb45.trans hb56
  refine ⟨H.wk.bl.trans (hb46.mono hz), H.ao.below hb46, ⟨_, own_below H.us hb46⟩, hat, own_kp (own_base hown (by omega)) hk (fun k q => by have := (hown.lt k q).1; omega), H.ua, fun k q e => ?_, fun k q h => ?_⟩
  · have := (H.us.lt k q).2
    omega
  · have h1 := (hown.lt k h).1
    have h2 := (H.us.lt k q).2
    omega

/-- The second answer's cells. -/
theorem KU.kh {w1 V : World} {ab bb : Nat} {nd : Bool} {kd er ni nk nm : Int} {kn nt : List UInt8} {us : List Key} {Au Bu : Option Addr} {cu du : Nat} (H : KU w1 ab (nd, (kd, kn), er, (ni, nk, nm, nt), us) Au cu bb Bu du V) :
    (V.cell? ⟨bb, 0, none⟩ = some (.bool nd) ∧ V.cell? ⟨bb, 1, none⟩ = some (.int .i64 kd) ∧ V.cell? ⟨bb, 2, none⟩ = some (.string ⟨kn.toArray⟩) ∧ V.cell? ⟨bb, 3, none⟩ = some (.int .i64 er) ∧ V.cell? ⟨bb, 4, none⟩ = some (.int .i64 ni) ∧ V.cell? ⟨bb, 5, none⟩ = some (.int .i64 nk) ∧ V.cell? ⟨bb, 6, none⟩ = some (.int .i64 nm) ∧ V.cell? ⟨bb, 7, none⟩ = some (.string ⟨nt.toArray⟩) ∧ V.cell? ⟨bb, 8, none⟩ = some (.slice Bu us.length du)) ∧ Hid (KU w1 ab (nd, (kd, kn), er, (ni, nk, nm, nt), us) Au cu bb Bu du V) :=
  ⟨out_cells H.bo, Lib.hid H⟩
end Go.Proofs.YtoacobcbloljkaaGreatDoor
