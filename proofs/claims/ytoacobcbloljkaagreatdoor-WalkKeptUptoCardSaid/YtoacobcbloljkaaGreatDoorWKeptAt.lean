/-
  The memory of the law WalkKept: copies of entries and texts that grow by marks.
-/
import Derived.Test.YtoacobcbloljkaaGreatDoorLikeWalk
import Derived.Test.YtoacobcbloljkaaGreatDoorRef12b
import Derived.Test.YtoacobcbloljkaaGreatDoorWalkLow
namespace Go.Proofs.YtoacobcbloljkaaGreatDoor
open Go.RowKit

def markE : En := ((-3, []), false, 0, 0, 0, [])
def markT : List UInt8 := [109, 97, 114, 107]

/-- The two copies, with so many marks behind. -/
structure WK (w1 : World) (fresh : List En) (nf : Nat) (ss : List (List UInt8)) (ns : Nat) (i j : Nat) (Ae : Option Addr) (ce : Nat) (As : Option Addr) (cs : Nat) (V : World) : Prop where
  bl : Below w1.heap.size w1 V
  eo : V.ownsRow w1.heap.size 36 7 (.slice Ae (nf + i) ce) (nf + i) (cEns (fresh ++ List.replicate i markE))
  so : V.ownsRow w1.heap.size 9 1 (.slice As (ns + j) cs) (ns + j) (txts (ss ++ List.replicate j markT))
  ne : ∀ k, (Value.slice Ae (nf + i) ce).ownBlock = some k → (Value.slice As (ns + j) cs).ownBlock ≠ some k

section
variable {w1 V V' : World} {fresh : List En} {nf : Nat} {ss : List (List UInt8)} {ns i j : Nat} {Ae : Option Addr} {ce : Nat} {As : Option Addr} {cs : Nat}
theorem WK.next (H : WK w1 fresh nf ss ns i j Ae ce As cs V) (hb : Below V.heap.size V V') : WK w1 fresh nf ss ns i j Ae ce As cs V' :=
  ⟨H.bl.trans (hb.mono H.bl.size), own_below H.eo hb, own_below H.so hb, H.ne⟩
theorem cEns_app (a b : List En) : cEns (a ++ b) = cEns a ++ cEns b := by simp [cEns]
/-- One more entry. -/
theorem WK.putE (H : WK w1 fresh nf ss ns i j Ae ce As cs V) {v : Value} (hown : V'.ownsRow w1.heap.size 36 7 v (nf + i + 1) (cEns (fresh ++ List.replicate i markE) ++ cEns [markE])) (hg : V.grownBy V' (Value.slice Ae (nf + i) ce).ownBlock)
    (hb : v.ownBlock = (Value.slice Ae (nf + i) ce).ownBlock ∨ v.ownBlock = some V.heap.size) : ∃ A' c', v = .slice A' (nf + (i + 1)) c' ∧ WK w1 fresh nf ss ns (i + 1) j A' c' As cs V' := by
  obtain ⟨A', c', rfl⟩ := own_slice hown
  have hk : Kp (fun k => (Value.slice Ae (nf + i) ce).ownBlock ≠ some k) V V' := (Kp.refl _ V).grown hg fun k q _ h => h q
  refine ⟨A', c', rfl, H.bl.grown hg H.bl.size (fun k q => (H.eo.lt k q).1), ?_, own_kp H.so hk (fun k q h => H.ne k h q), ?_⟩
  · rw [List.replicate_succ', ← List.append_assoc, cEns_app]
    exact hown
  · intro k q
    rcases hb with e | e
    · exact H.ne k (e.symm.trans q)
    · intro h
      have h1 := (H.so.lt k h).2
      have h2 : some V.heap.size = some k := e.symm.trans q
      injection h2 with h2
      omega
/-- One more text. -/
theorem WK.putS (H : WK w1 fresh nf ss ns i j Ae ce As cs V) {v : Value} (hown : V'.ownsRow w1.heap.size 9 1 v (ns + j + 1) (txts (ss ++ List.replicate j markT) ++ txts [markT])) (hg : V.grownBy V' (Value.slice As (ns + j) cs).ownBlock)
    (hb : v.ownBlock = (Value.slice As (ns + j) cs).ownBlock ∨ v.ownBlock = some V.heap.size) : ∃ A' c', v = .slice A' (ns + (j + 1)) c' ∧ WK w1 fresh nf ss ns i (j + 1) Ae ce A' c' V' := by
  obtain ⟨A', c', rfl⟩ := own_slice hown
  have hk : Kp (fun k => (Value.slice As (ns + j) cs).ownBlock ≠ some k) V V' := (Kp.refl _ V).grown hg fun k q _ h => h q
  refine ⟨A', c', rfl, H.bl.grown hg H.bl.size (fun k q => (H.so.lt k q).1), own_kp H.eo hk (fun k q => H.ne k q), ?_, ?_⟩
  · rw [List.replicate_succ', ← List.append_assoc, txts_append]
    exact hown
  · intro k q h
    rcases hb with e | e
    · exact H.ne k q (e.symm.trans h)
    · have h1 := (H.eo.lt k q).2
      have h2 : some V.heap.size = some k := e.symm.trans h
      injection h2 with h2
      omega
/-- What was handed in, without the marks. -/
theorem WK.pe (H : WK w1 fresh nf ss ns i j Ae ce As cs V) (hl : fresh.length = nf) : Rd V 7 Ae nf (cEns fresh) := by
  have := (Rd.of_own H.eo).take (i := nf) (by omega)
  rwa [List.take_left' hl] at this
theorem WK.ps (H : WK w1 fresh nf ss ns i j Ae ce As cs V) (hl : ss.length = ns) : Rd V 1 As ns (txts ss) := by
  have h := Rd.of_own H.so
  refine ⟨by rw [txts_length, hl]; omega, fun h0 => ?_⟩
  obtain ⟨ad, e, hb, hc⟩ := h.2 (by omega)
  refine ⟨ad, e, hb, fun q u hu => hc q u ?_⟩
  rw [txts_append, List.getElem?_append_left (List.getElem?_eq_some_iff.1 hu).1]
  exact hu
theorem WK.caps (H : WK w1 fresh nf ss ns i j Ae ce As cs V) : (nf + i ≤ ce ∧ ce ≤ maxLen) ∧ (ns + j ≤ cs ∧ cs ≤ maxLen) := ⟨own_cap H.eo, own_cap H.so⟩
theorem WK.drew (H : WK w1 fresh nf ss ns i j Ae ce As cs V) : WK w1 fresh nf ss ns i j Ae ce As cs V.drew := H.next (below_drew (Below.refl _ _))
end

/-- Behind the first walk: its answer in the block ab. -/
structure KO (w1 : World) (fresh : List En) (nf : Nat) (ss : List (List UInt8)) (ns : Nat) (Ae : Option Addr) (ce : Nat) (As : Option Addr) (cs : Nat) (ab : Nat) (o : Wk.Out) (Au : Option Addr) (cu : Nat) (V : World) : Prop where
  wk : WK w1 fresh nf ss ns 70 70 Ae ce As cs V
  ao : At V ab 40 (outCells o (.slice Au o.2.2.2.2.length cu))
  us : V.ownsRow w1.heap.size 32 2 (.slice Au o.2.2.2.2.length cu) o.2.2.2.2.length (cKeys o.2.2.2.2)
  ab1 : w1.heap.size ≤ ab
  ua : ∀ k, (Value.slice Au o.2.2.2.2.length cu).ownBlock = some k → k ≠ ab
  ue : ∀ k, (Value.slice Au o.2.2.2.2.length cu).ownBlock = some k → (Value.slice Ae (nf + 70) ce).ownBlock ≠ some k ∧ (Value.slice As (ns + 70) cs).ownBlock ≠ some k

theorem KO.made {w1 V V5 V6 : World} {fresh : List En} {nf : Nat} {ss : List (List UInt8)} {ns : Nat} {Ae : Option Addr} {ce : Nat} {As : Option Addr} {cs : Nat} {o : Wk.Out} {Au : Option Addr} {cu : Nat} (H : WK w1 fresh nf ss ns 70 70 Ae ce As cs V) (hb : Below V.heap.size V V5)
    (hown : V5.ownsRow V.heap.size 32 2 (.slice Au o.2.2.2.2.length cu) o.2.2.2.2.length (cKeys o.2.2.2.2)) (h6 : V6 = V5.alloc (.cells (outCells o (.slice Au o.2.2.2.2.length cu)).toArray 40)) :
    KO w1 fresh nf ss ns Ae ce As cs V5.heap.size o Au cu V6 := by
  subst h6
  have hb6 : Below V5.heap.size V5 (V5.alloc (.cells (outCells o (.slice Au o.2.2.2.2.length cu)).toArray 40)) := (Below.refl _ _).alloc (Nat.le_refl _) _
  have hz := H.bl.size
  have hz5 := hb.size
  refine ⟨(H.next hb).next hb6, At.new _ _ _, own_below (own_base hown hz) hb6, by omega, fun k q e => ?_, fun k q => ⟨fun h => ?_, fun h => ?_⟩⟩
  · have := (hown.lt k q).2
    omega
  · have h1 := (hown.lt k q).1
    have h2 := (H.eo.lt k h).2
    omega
  · have h1 := (hown.lt k q).1
    have h2 := (H.so.lt k h).2
    omega

theorem KO.next {w1 V V' : World} {fresh : List En} {nf : Nat} {ss : List (List UInt8)} {ns : Nat} {Ae : Option Addr} {ce : Nat} {As : Option Addr} {cs ab : Nat} {o : Wk.Out} {Au : Option Addr} {cu : Nat} (H : KO w1 fresh nf ss ns Ae ce As cs ab o Au cu V) (hb : Below V.heap.size V V') : KO w1 fresh nf ss ns Ae ce As cs ab o Au cu V' :=
  ⟨H.wk.next hb, H.ao.below hb, own_below H.us hb, H.ab1, H.ua, H.ue⟩

/-- The same, the block made ahead of the walk and filled behind it. -/
theorem KO.made2 {w1 V V5 V6 : World} {ab : Nat} {fresh : List En} {nf : Nat} {ss : List (List UInt8)} {ns : Nat} {Ae : Option Addr} {ce : Nat} {As : Option Addr} {cs : Nat} {o : Wk.Out} {Au : Option Addr} {cu : Nat} {old : List Value} (H : WK w1 fresh nf ss ns 70 70 Ae ce As cs V)
    (h4 : V.heap.size = ab) {V4 : World} (hb4 : Below V.heap.size V V4) (hz4 : V4.heap.size = ab + 1) (hb : Below V4.heap.size V4 V5) (hown : V5.ownsRow V4.heap.size 32 2 (.slice Au o.2.2.2.2.length cu) o.2.2.2.2.length (cKeys o.2.2.2.2))
    (hk : Kp (fun k => k ≠ ab) V5 V6) (hat : At V6 ab 40 old) (he : old = outCells o (.slice Au o.2.2.2.2.length cu)) :
    KO w1 fresh nf ss ns Ae ce As cs ab o Au cu V6 := by
  subst he
  have hz := H.bl.size
  have hb45 : Below V.heap.size V V5 := hb4.trans (hb.mono (by omega))
  have hb56 : Below V.heap.size V5 V6 := hk.to_below (by have := hb45.size; omega) (fun k hlt => by omega)
  refine ⟨H.next (hb45.trans hb56), hat, own_kp (own_base hown (by omega)) hk (fun k q => by have := (hown.lt k q).1; omega), by omega, fun k q e => ?_, fun k q => ⟨fun h => ?_, fun h => ?_⟩⟩
  · have := (hown.lt k q).1
    omega
  · have h1 := (hown.lt k q).1
    have h2 := (H.eo.lt k h).2
    omega
  · have h1 := (hown.lt k q).1
    have h2 := (H.so.lt k h).2
    omega

/-- The marks, read back. -/
theorem WK.mark_at {w1 V : World} {fresh : List En} {nf : Nat} {ss : List (List UInt8)} {ns i j : Nat} {Ae : Option Addr} {ce : Nat} {As : Option Addr} {cs : Nat} (H : WK w1 fresh nf ss ns i j Ae ce As cs V) (hl : fresh.length = nf) {q : Nat} (hq : q < i) :
    ∃ ad : Addr, Ae = some ad ∧ ad.block < V.heap.size ∧ V.cell? (ad.add ((nf + q) * 7)) = some (.int .i64 (-3)) ∧ V.cell? ⟨(ad.add ((nf + q) * 7)).block, (ad.add ((nf + q) * 7)).off + 1, none⟩ = some (.string ⟨#[]⟩) ∧
      V.cell? ⟨(ad.add ((nf + q) * 7)).block, (ad.add ((nf + q) * 7)).off + 2, none⟩ = some (.bool false) ∧ V.cell? ⟨(ad.add ((nf + q) * 7)).block, (ad.add ((nf + q) * 7)).off + 3, none⟩ = some (.int .i64 0) ∧
      V.cell? ⟨(ad.add ((nf + q) * 7)).block, (ad.add ((nf + q) * 7)).off + 4, none⟩ = some (.int .i64 0) ∧ V.cell? ⟨(ad.add ((nf + q) * 7)).block, (ad.add ((nf + q) * 7)).off + 5, none⟩ = some (.int .i64 0) ∧
      V.cell? ⟨(ad.add ((nf + q) * 7)).block, (ad.add ((nf + q) * 7)).off + 6, none⟩ = some (.string ⟨#[]⟩) := by
  obtain ⟨ad, d, nm, ng, a, kd, md, tg, e, hb, hx, h0, h1, h2, h3, h4, h5, h6⟩ := (Rd.of_own H.eo).en_at (k := nf + q) (by omega)
  rw [List.getElem?_append_right (by omega), hl, Nat.add_sub_cancel_left, List.getElem?_replicate, if_pos hq] at hx
  injection hx with hx
  simp only [markE, Prod.mk.injEq] at hx
  obtain ⟨⟨rfl, rfl⟩, rfl, rfl, rfl, rfl, rfl⟩ := hx
  exact ⟨ad, e, hb, h0, h1, h2, h3, h4, h5, h6⟩
theorem WK.text_at {w1 V : World} {fresh : List En} {nf : Nat} {ss : List (List UInt8)} {ns i j : Nat} {Ae : Option Addr} {ce : Nat} {As : Option Addr} {cs : Nat} (H : WK w1 fresh nf ss ns i j Ae ce As cs V) (hl : ss.length = ns) {q : Nat} (hq : q < j) :
    ∃ ad : Addr, As = some ad ∧ ad.block < V.heap.size ∧ V.cell? (ad.add (ns + q)) = some (.string ⟨#[109, 97, 114, 107]⟩) := by
  obtain ⟨ad, u, e, hb, hx, hc⟩ := (Rd.of_own H.so).at1 (k := ns + q) (by omega)
  rw [txts_get, List.getElem?_append_right (by omega), hl, Nat.add_sub_cancel_left, List.getElem?_replicate, if_pos hq] at hx
  have hu : u = .string ⟨#[109, 97, 114, 107]⟩ := by
    injection hx with hx
    rw [← hx]
    rfl
  exact ⟨ad, e, hb, by rw [hc, hu]⟩
end Go.Proofs.YtoacobcbloljkaaGreatDoor
