/-
  The reference of layer 12: a directory's names.
-/
import Derived.Test.YtoacobcbloljkaaGreatDoorRef12r
import Derived.Test.YtoacobcbloljkaaGreatDoorSorted05
namespace Go.Proofs.YtoacobcbloljkaaGreatDoor
open Go.RowKit

def inDir (d : Int) (x : En) : Bool := decide (x.1.1 = d) && !x.2.1

def RefNamesPost (w : World) (L : List En) (d : Int) (r : Ending) (w' : World) : Prop :=
  ∃ (v : Value) (E : List En), r = .returned v ∧ E.Perm (L.filter (inDir d)) ∧ E.Pairwise leE ∧ w'.ownsRow w.heap.size 36 7 v E.length (cEns E) ∧ Below w.heap.size w w'

set_option maxRecDepth 100000 in
set_option maxHeartbeats 4000000 in
theorem refNames_any (w : World) (B cb : Nat) (F : Nat → Prop) (Al : Option Addr) (cl : Nat) (Aw : Option Addr) (cw : Nat) (L : List En) (W : List Int) (d : Int) (hn : L.length ≤ 1256584717421) (H : RefAt w B cb F Al cl Aw cw L W) :
    Calls Tryz.prog 80 #[.pointer (some ⟨cb, 0, none⟩), .int .i64 d] w (RefNamesPost w L d) := by
  have HH := Lib.hid H
  clear H
  go_enter Tryz.func80, Tryz.ntmps80
  go_wp2_with fail
  go_loopw [5, 6] (fun v i wx => ∃ (j : Nat) (E : List En), j ≤ L.length ∧ i = .int .i64 j ∧ Hid (E = (L.take j).filter (inDir d)) ∧ E.length ≤ j ∧ Hid (wx.ownsRow w.heap.size 36 7 v E.length (cEns E)) ∧ Hid (Below w.heap.size w wx)) (fun _ i _ => L.length - (RowKit.intOf i).toNat)
  case atStart => exact ⟨0, [], by omega, rfl, rfl, by simp, World.ownsRow_nil _ _ _ _, Below.refl _ _⟩
  case round =>
    obtain ⟨j, E, hj, rfl, HE, hEj, HO, HB⟩ := hrel
    have HR := Lib.hid (HH.out.below HB.out)
    have c0 := HR.out.c0
    by_cases hlt : j < L.length
    · have hx : L[j]? = some L[j] := List.getElem?_eq_getElem hlt
      obtain ⟨ad, hA, hbl, hin, x0, x1, x2, x3, x4, x5, x6⟩ := entry_at (Rd.of_own HR.out.lo) hx
      subst hA
      have htk : (L.take (j + 1)).filter (inDir d) = E ++ [L[j]].filter (inDir d) := by
        rw [List.take_add_one, hx, List.filter_append, HE.out]
        rfl
      have HT := Lib.hid htk
      generalize L[j] = x at *
      obtain ⟨⟨ed, en⟩, ng, ei, ek, em, et⟩ := x
      simp only at x0 x1 x2 x3 x4 x5 x6
      clear hx htk
      have skip : inDir d ((ed, en), ng, ei, ek, em, et) = false → Hid (E = (L.take (j + 1)).filter (inDir d)) := fun h => by
        refine Lib.hid ?_
        rw [HT.out, List.filter_cons_of_neg (by rw [h]; simp)]
        simp
      have take : inDir d ((ed, en), ng, ei, ek, em, et) = true → Hid (E ++ [((ed, en), ng, ei, ek, em, et)] = (L.take (j + 1)).filter (inDir d)) := fun h => by
        refine Lib.hid ?_
        rw [HT.out, List.filter_cons_of_pos h]
        simp
      have SK := Lib.hid skip
      have TK := Lib.hid take
      clear skip take
      cases hq : (ed == d) with
      | false =>
        have hed : decide (ed = d) = false := by simpa using hq
        have HS := Lib.hid (SK.out (by unfold inDir; simp only [hed]; rfl))
        clear hed x1 x2 x3 x4 x5 x6
        go_wp2_with fail
        go_roundw
        case rel => exact ⟨j + 1, E, by omega, by go_num, HS.out, by omega, HO.out, HB.out⟩
        case measure => simp [RowKit.intOf] <;> omega
      | true =>
        have hed : decide (ed = d) = true := by simpa using hq
        cases ng with
        | true =>
          have HS := Lib.hid (SK.out (by unfold inDir; simp))
          clear hed x1 x3 x4 x5 x6
          go_wp2_with fail
          go_roundw
          case rel => exact ⟨j + 1, E, by omega, by go_num, HS.out, by omega, HO.out, HB.out⟩
          case measure => simp [RowKit.intOf] <;> omega
        | false =>
          have HS := Lib.hid (TK.out (by unfold inDir; simp only [hed]; rfl))
          clear hed
          have HRD : Hid (∀ (V : World) (g : Nat), g = V.heap.size → Rd (V.alloc (.cells #[.int .i64 ed, .string ⟨en.toArray⟩, .bool false, .int .i64 ei, .int .i64 ek, .int .i64 em, .string ⟨et.toArray⟩] 36)) 7 (some ⟨g, 0, none⟩) 1 (cEn ((ed, en), false, ei, ek, em, et))) := fun V g hg => hg ▸ rd_lay V 36 (cEn ((ed, en), false, ei, ek, em, et)) 7 1 rfl
          go_wp2_with ((with_reducible refine wpList_isBuiltin .append ?_); refine wpList_append_rd rfl _ _ rfl elemEntries rfl (own_below HO.out ((Below.refl _ _).alloc (Nat.le_refl _) _)) rfl (HRD.out _ _ ?c4) (cEn_one _) ?c1 ?c2 ?c3 ?_; (case c4 => simp); (case c1 => unfold maxLen; omega); (case c2 => omega); (case c3 => have := HB.out.size; simp; omega); intro v5 w6 hown5 hg5 hb5; have HO5 := Lib.hid hown5; have HB5 := Lib.hid ((HB.out.alloc HB.out.size _).grown hg5 (by have := HB.out.size; simp; omega) (fun k q => (HO.out.lt k q).1)); clear hown5 hg5 hb5)
          go_roundw
          case rel =>
            refine ⟨j + 1, E ++ [((ed, en), false, ei, ek, em, et)], by omega, by go_num, HS.out, by simp; omega, ?_, HB5.out⟩
            refine Lib.hid ?_
            rw [List.length_append, cEns_append, ← cEn_app]
            exact HO5.out
          case measure => simp [RowKit.intOf] <;> omega
    · have hfin : E = L.filter (inDir d) := by rw [HE.out, List.take_of_length_le (by omega)]
      have HF := Lib.hid hfin
      obtain ⟨A5, c5, rfl⟩ := own_slice HO.out
      clear hfin
      go_wp2_with fail
      refine (sorted05_any _ A5 E.length c5 E (by omega) (Rd.of_own HO.out)).mono ?_
      rintro r w6 ⟨v6, S, rfl, hp, hs, hown, hb⟩
      have hl := hp.length_eq
      have HP := Lib.hid hp
      have HS := Lib.hid hs
      have HO6 := Lib.hid (own_base hown HB.out.size)
      have HB6 := Lib.hid (HB.out.trans (hb.mono HB.out.size))
      clear hp hs hown hb
      go_wp2_with fail
      go_ret
      exact ⟨_, S, rfl, by rw [← HF.out]; exact HP.out, HS.out, by rw [hl]; exact HO6.out, HB6.out⟩
end Go.Proofs.YtoacobcbloljkaaGreatDoor
