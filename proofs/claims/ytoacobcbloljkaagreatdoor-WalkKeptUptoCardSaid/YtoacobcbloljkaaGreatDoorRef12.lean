/-
  The reference of layer 12: a list of entries in the order of use, and a list of directories: first part: what is read of it.
-/
import Derived.Test.YtoacobcbloljkaaGreatDoorWalkLow
import Derived.Test.YtoacobcbloljkaaGreatDoorLow
namespace Go.Proofs.YtoacobcbloljkaaGreatDoor
open Go.RowKit


/-- The reference's cache in memory; blocks of F are others'. -/
structure RefAt (w : World) (B cb : Nat) (F : Nat → Prop) (Al : Option Addr) (cl : Nat) (Aw : Option Addr) (cw : Nat) (L : List En) (W : List Int) : Prop where
  blk : At w cb 101 [.slice Al L.length cl, .slice Aw W.length cw]
  lo : w.ownsRow B 36 7 (.slice Al L.length cl) L.length (cEns L)
  wo : w.ownsRow B 3 1 (.slice Aw W.length cw) W.length (vIs W)
  fr : ∀ k, F k → k < w.heap.size ∧ k ≠ cb ∧ (Value.slice Al L.length cl).ownBlock ≠ some k ∧ (Value.slice Aw W.length cw).ownBlock ≠ some k
  dl : ∀ k, (Value.slice Al L.length cl).ownBlock = some k → k ≠ cb ∧ (Value.slice Aw W.length cw).ownBlock ≠ some k
  dw : ∀ k, (Value.slice Aw W.length cw).ownBlock = some k → k ≠ cb

section
variable {w w' : World} {B cb : Nat} {F : Nat → Prop} {Al : Option Addr} {cl : Nat} {Aw : Option Addr} {cw : Nat} {L : List En} {W : List Int}

theorem RefAt.kp {Q : Nat → Prop} (H : RefAt w B cb F Al cl Aw cw L W) (k : Kp Q w w') (hc : Q cb) (hl : ∀ j, (Value.slice Al L.length cl).ownBlock = some j → Q j) (hw : ∀ j, (Value.slice Aw W.length cw).ownBlock = some j → Q j) : RefAt w' B cb F Al cl Aw cw L W :=
  ⟨H.blk.kp k hc, own_kp H.lo k hl, own_kp H.wo k hw, fun j hj => ⟨Nat.lt_of_lt_of_le (H.fr j hj).1 k.size, (H.fr j hj).2⟩, H.dl, H.dw⟩
theorem RefAt.below (H : RefAt w B cb F Al cl Aw cw L W) (k : Below w.heap.size w w') : RefAt w' B cb F Al cl Aw cw L W :=
  H.kp (Kp.of_below (P := fun _ => True) k) trivial (fun _ _ => trivial) (fun _ _ => trivial)
theorem RefAt.drew (H : RefAt w B cb F Al cl Aw cw L W) : RefAt w.drew B cb F Al cl Aw cw L W := H.kp ((Kp.refl (fun _ => True) w).drew) trivial (fun _ _ => trivial) (fun _ _ => trivial)
theorem RefAt.alloc (H : RefAt w B cb F Al cl Aw cw L W) (o : Obj) : RefAt (w.alloc o) B cb F Al cl Aw cw L W := H.below ((Below.refl _ _).alloc (Nat.le_refl _) o)
theorem RefAt.c0 (H : RefAt w B cb F Al cl Aw cw L W) : w.cell? ⟨cb, 0, none⟩ = some (.slice Al L.length cl) := by rw [H.blk.cell]; rfl
theorem RefAt.c1 (H : RefAt w B cb F Al cl Aw cw L W) : w.cell? ⟨cb, 1, none⟩ = some (.slice Aw W.length cw) := by rw [H.blk.cell]; rfl
end

/-- The place of a key. -/
def ixOf (L : List En) (k : Key) : Option Nat := L.findIdx? fun e => decide (e.1 = k)
def ixInt : Option Nat → Int
  | none => -1
  | some i => i

theorem ixOf_at {L : List En} {k : Key} {j : Nat} {x : En} (h : ∀ i y, i < j → L[i]? = some y → y.1 ≠ k) (hx : L[j]? = some x) (hk : x.1 = k) : ixOf L k = some j := by
  unfold ixOf
  rw [List.findIdx?_eq_some_iff_getElem]
  obtain ⟨hl, he⟩ := List.getElem?_eq_some_iff.1 hx
  refine ⟨hl, by rw [he]; simp [hk], fun i hi => ?_⟩
  have := h i _ hi (List.getElem?_eq_getElem (by omega))
  simpa using this
theorem ixOf_none {L : List En} {k : Key} (h : ∀ i y, i < L.length → L[i]? = some y → y.1 ≠ k) : ixOf L k = none := by
  unfold ixOf
  rw [List.findIdx?_eq_none_iff]
  intro x hx
  obtain ⟨i, hi⟩ := List.getElem?_of_mem hx
  simpa using h i x (List.getElem?_eq_some_iff.1 hi).1 hi

def AtPost (w : World) (L : List En) (k : Key) (r : Ending) (w' : World) : Prop := r = .returned (.int .i64 (ixInt (ixOf L k))) ∧ Below w.heap.size w w'

set_option maxRecDepth 100000 in
set_option maxHeartbeats 2000000 in
theorem refAt_any (w : World) (B cb : Nat) (F : Nat → Prop) (Al : Option Addr) (cl : Nat) (Aw : Option Addr) (cw : Nat) (L : List En) (W : List Int) (k : Key) (hn : L.length ≤ 17592186044416) (H : RefAt w B cb F Al cl Aw cw L W) :
    Calls Tryz.prog 111 #[.pointer (some ⟨cb, 0, none⟩), vKey k] w (AtPost w L k) := by
  obtain ⟨kd, kn⟩ := k
  have HH := Lib.hid H
  clear H
  unfold vKey
  simp only [txt]
  go_enter Tryz.func111, Tryz.ntmps111
  go_wp2_with fail
  go_loopw [5] (fun i wr => ∃ j : Nat, j ≤ L.length ∧ i = .int .i64 j ∧ Below w.heap.size w wr ∧ Hid (At wr w.heap.size 32 [.int .i64 kd, .string ⟨kn.toArray⟩]) ∧ Hid (∀ i y, i < j → L[i]? = some y → y.1 ≠ (kd, kn))) (fun i _ => L.length - (RowKit.intOf i).toNat)
  case atStart => exact ⟨0, by omega, rfl, (Below.refl _ _).alloc (Nat.le_refl _) _, At.new w _ [.int .i64 kd, .string ⟨kn.toArray⟩], fun i y hi => absurd hi (by omega)⟩
  case round =>
    obtain ⟨j, hj, rfl, hb, hky, hno⟩ := hrel
    have HR := Lib.hid (HH.out.below hb)
    have c0 := HR.out.c0
    by_cases hlt : j < L.length
    · obtain ⟨ad, d, nm, ng, i, kk, md, tg, hA, hbl, hx, h1, h2, _, _, _, _, _⟩ := (Rd.of_own HR.out.lo).en_at hlt
      subst hA
      have k0 : wr.cell? ⟨w.heap.size, 0, none⟩ = some (.int .i64 kd) := by rw [hky.out.cell]; rfl
      have k1 : wr.cell? ⟨w.heap.size, 1, none⟩ = some (.string ⟨kn.toArray⟩) := by rw [hky.out.cell]; rfl
      have hq : ∀ V : World, (binOp .eql 32 (.agg #[.int .i64 d, .string ⟨nm.toArray⟩]) (.agg #[.int .i64 kd, .string ⟨kn.toArray⟩])).run Tryz.prog V = .ok (.bool (decide (((d, nm) : Key) = (kd, kn)))) V := fun V => eql_key (d, nm) (kd, kn) V
      have HX := Lib.hid hx
      clear hx
      by_cases he : ((d, nm) : Key) = (kd, kn)
      · rw [decide_eq_true he] at hq
        have HF := Lib.hid (ixOf_at hno.out HX.out he)
        clear he
        go_wp2_with fail
        go_quiet (fail)
        go_wp2_with fail
        go_ret
        exact ⟨by rw [HF.out]; rfl, below_drewN_ hb _⟩
      · rw [decide_eq_false he] at hq
        have HE := Lib.hid he
        clear he
        go_wp2_with fail
        go_quiet (fail)
        go_wp2_with fail
        go_roundw
        case rel =>
          refine ⟨j + 1, by omega, by go_num, ⟨hb.os, hb.tape, hb.output, hb.size, hb.block⟩, hky.out, fun i y hi hy => ?_⟩
          by_cases e : i = j
          · subst e
            rw [HX.out] at hy
            injection hy with hy
            subst hy
            exact HE.out
          · exact hno.out i y (by omega) hy
        case measure => simp [RowKit.intOf] <;> omega
    · have HF := Lib.hid (ixOf_none (L := L) (k := (kd, kn)) fun i y hi hy => hno.out i y (by omega) hy)
      go_wp2_with fail
      go_ret
      exact ⟨by rw [HF.out]; rfl, hb⟩

set_option maxRecDepth 100000 in
set_option maxHeartbeats 2000000 in
theorem refIsWhole_any (w : World) (B cb : Nat) (F : Nat → Prop) (Al : Option Addr) (cl : Nat) (Aw : Option Addr) (cw : Nat) (L : List En) (W : List Int) (d : Int) (hn : W.length ≤ 17592186044416) (H : RefAt w B cb F Al cl Aw cw L W) :
    Calls Tryz.prog 79 #[.pointer (some ⟨cb, 0, none⟩), .int .i64 d] w fun r w' => r = .returned (.bool (W.contains d)) ∧ w = w' := by
  have c1 := H.c1
  have HR := Lib.hid (Rd.of_own H.wo)
  clear H
  go_enter Tryz.func79, Tryz.ntmps79
  go_wp2_with fail
  go_loop [5] (fun i => ∃ j : Nat, j ≤ W.length ∧ i = .int .i64 j ∧ Hid (d ∉ W.take j)) (fun i => W.length - (RowKit.intOf i).toNat)
  case atStart => exact ⟨0, by omega, rfl, by simp [Hid]⟩
  case round =>
    obtain ⟨j, hj, rfl, hno⟩ := hrel
    by_cases hlt : j < W.length
    · obtain ⟨ad, u, rfl, hbl, hx, h1⟩ := HR.out.at1 hlt
      have hx' : u = .int .i64 W[j] := by simpa [vIs, hlt, vI] using hx.symm
      subst hx'
      have hmem : W[j] ∈ W := List.getElem_mem hlt
      have htk : W.take (j + 1) = W.take j ++ [W[j]] := by simp
      have HT := Lib.hid htk
      have HM := Lib.hid hmem
      clear hx htk hmem
      cases hq : (W[j] == d) with
      | true =>
        have he : W[j] = d := by simpa using hq
        have HE := Lib.hid he
        clear he
        go_wp2_with fail
        go_ret
        exact ⟨ret_bool (by have := HM.out; rw [HE.out] at this; simp [this]), rfl⟩
      | false =>
        have he : W[j] ≠ d := by simpa using hq
        have HE := Lib.hid he
        clear he
        go_wp2_with fail
        go_round
        case rel => exact ⟨j + 1, by omega, by go_num, by rw [HT.out]; simp only [List.mem_append, List.mem_singleton, not_or]; exact ⟨hno.out, fun e => HE.out e.symm⟩⟩
        case measure => simp [RowKit.intOf]; omega
    · have hno' : d ∉ W := by
        have := hno.out
        rwa [List.take_of_length_le (by omega)] at this
      have HN := Lib.hid hno'
      clear hno'
      go_wp2_with fail
      go_ret
      exact ⟨ret_bool (by simpa using HN.out), rfl⟩
end Go.Proofs.YtoacobcbloljkaaGreatDoor
