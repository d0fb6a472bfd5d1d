/-
  The walk of layer 14's awake.
-/
import Derived.Test.YtoacobcbloljkaaGreatDoorWalkWalk
import Derived.Test.YtoacobcbloljkaaGreatDoorDentPut
import Derived.Test.YtoacobcbloljkaaGreatDoorLow
namespace Go.Proofs.YtoacobcbloljkaaGreatDoor
open Go.RowKit

/-- What is read of an answer that lies in a block. -/
theorem out_cells {w : World} {b : Nat} {o : Wk.Out} {v : Value} (h : At w b 40 (outCells o v)) :
    w.cell? ⟨b, 0, none⟩ = some (.bool o.1) ∧ w.cell? ⟨b, 1, none⟩ = some (.int .i64 o.2.1.1) ∧ w.cell? ⟨b, 2, none⟩ = some (.string ⟨o.2.1.2.toArray⟩) ∧ w.cell? ⟨b, 3, none⟩ = some (.int .i64 o.2.2.1) ∧
    w.cell? ⟨b, 4, none⟩ = some (.int .i64 o.2.2.2.1.1) ∧ w.cell? ⟨b, 5, none⟩ = some (.int .i64 o.2.2.2.1.2.1) ∧ w.cell? ⟨b, 6, none⟩ = some (.int .i64 o.2.2.2.1.2.2.1) ∧ w.cell? ⟨b, 7, none⟩ = some (.string ⟨o.2.2.2.1.2.2.2.toArray⟩) ∧ w.cell? ⟨b, 8, none⟩ = some v := by
  refine ⟨?_, ?_, ?_, ?_, ?_, ?_, ?_, ?_, ?_⟩
  all_goals
    rw [h.cell]
    rfl

theorem wk_known (kn : Key → Option En) {p s : List UInt8} (links : Nat) (hp : Nm.splitR p = ([s], false, 0)) (h1 : s ≠ [46, 46]) (h2 : s ≠ [46]) {y : En} (hy : kn (1, s) = some y) (hn : y.2.1 = false) (hk : y.2.2.2.1 ≠ 3) (follow : Bool) :
    Wk.walk kn p follow links = (false, Wk.noKey, 0, y.2.2, [(1, s)]) := by
  unfold Wk.walk
  rw [hp]
  simp only
  rw [if_neg (by simp), Wk.steps_name kn follow links [] false [] (x := rootNd) rfl rfl h1 h2]
  show (match kn (1, s) with | none => _ | some y => _) = _
  rw [hy]
  simp only [hn, hk, Bool.false_eq_true, if_false, ne_eq, not_false_eq_true, true_or, if_true]
  rw [Wk.steps]
  simp [Wk.lastNd, rootNd]

theorem wk_wanted (kn : Key → Option En) {p s : List UInt8} (links : Nat) (hp : Nm.splitR p = ([s], false, 0)) (h1 : s ≠ [46, 46]) (h2 : s ≠ [46]) (hy : kn (1, s) = none) (follow : Bool) :
    Wk.walk kn p follow links = (true, (1, s), 0, Wk.noNd, []) := by
  unfold Wk.walk
  rw [hp]
  simp only
  rw [if_neg (by simp), Wk.steps_name kn follow links [] false [] (x := rootNd) rfl rfl h1 h2]
  show (match kn (1, s) with | none => _ | some y => _) = _
  rw [hy]
  rfl

set_option maxRecDepth 100000 in
set_option maxHeartbeats 2000000 in
theorem awake14 (w : World) :
    Calls Tryz.prog 22 #[] w fun e w' => e = .returned (.bool true) ∧ Below w.heap.size w w' := by
  have hkn : ∀ k : Key, knownOf [] (alPut [] ((1, [98]) : Key) ((((1, [98]), false, 3, 2, 0, []) : En), (1 : Int))) [] k = if k = (1, [98]) then some ((1, [98]), false, 3, 2, 0, []) else none := by
    intro k
    unfold knownOf firstOf alPut alGet
    by_cases h : k = (1, [98])
    · subst h; rfl
    · simp [h, Ne.symm h, alGet]
  have ha : ∀ W c e h, CacheAt W c e h (alPut [] ((1, [98]) : Key) ((((1, [98]), false, 3, 2, 0, []) : En), (1 : Int))) [] 1 →
      Calls Tryz.prog 24 #[.pointer (some ⟨c, 0, none⟩), .slice none 0 0, .string ⟨#[47, 98]⟩, .bool true, .int .i64 3] W (OutPost W (false, Wk.noKey, 0, (3, 2, 0, []), [(1, [98])])) := fun W c e h H => by
    have := walk_any W none 0 0 [] ⟨#[47, 98]⟩ true 3 c e h _ _ _ (by omega) (by omega) (by omega) (Rd.empty _ _ _) H
    rwa [wk_known _ (s := [98]) _ (by rw [ByteArray.toList_eq]; decide) (by decide) (by decide) (y := ((1, [98]), false, 3, 2, 0, [])) (by rw [hkn]; rfl) rfl (by decide)] at this
  have hb : ∀ W c e h, CacheAt W c e h (alPut [] ((1, [98]) : Key) ((((1, [98]), false, 3, 2, 0, []) : En), (1 : Int))) [] 1 →
      Calls Tryz.prog 24 #[.pointer (some ⟨c, 0, none⟩), .slice none 0 0, .string ⟨#[47, 120]⟩, .bool true, .int .i64 3] W (OutPost W (true, (1, [120]), 0, Wk.noNd, [])) := fun W c e h H => by
    have := walk_any W none 0 0 [] ⟨#[47, 120]⟩ true 3 c e h _ _ _ (by omega) (by omega) (by omega) (Rd.empty _ _ _) H
    rwa [wk_wanted _ (s := [120]) _ (by rw [ByteArray.toList_eq]; decide) (by decide) (by decide) (by rw [hkn]; rfl)] at this
  have hq : ∀ W : World, (binOp .eql 32 (.agg #[.int .i64 1, .string ⟨#[120]⟩]) (.agg #[.int .i64 1, .string ⟨#[120]⟩])).run Tryz.prog W = .ok (.bool true) W := fun W => eql_key (1, [120]) (1, [120]) W
  have HN := Lib.hid (dentNew_any w)
  have HA := Lib.hid ha
  have HBB := Lib.hid hb
  have HQ := Lib.hid hq
  clear ha hb hkn hq
  go_enter Tryz.func22, Tryz.ntmps22
  go_wp2_with fail
  refine (HN.out).mono ?_
  rintro r w1 ⟨c, e, h, rfl, HC, hc, he, hh, hb1⟩
  have HC1 := Lib.hid HC
  have HB1 := Lib.hid hb1
  clear HC hb1
  go_wp2_with fail
  refine (dentPut_any w1 c e h [] [] 0 ((1, [98]), false, 3, 2, 0, []) HC1.out (by omega) (by omega)).mono ?_
  rintro r w2 (⟨hno, _⟩ | ⟨_, rfl, HC, hk⟩)
  · cases hno
  have HC2 := Lib.hid HC
  have HB2 := Lib.hid (HB1.out.trans (hk.to_below HB1.out.size (fun j hj => by omega)))
  clear HC hk hc he hh
  go_wp2_with fail
  refine (HA.out w2 c e h HC2.out).mono ?_
  rintro r w3 ⟨v3, rfl, hown3, hb3⟩
  obtain ⟨A3, c3, rfl⟩ := own_slice hown3
  have HB3 := Lib.hid (HB2.out.trans (hb3.mono HB2.out.size))
  have HC3 := Lib.hid (HC2.out.below hb3)
  clear hown3 hb3
  simp only [vOut, outCells, txt]
  go_wp2_with fail
  refine (HBB.out _ c e h (HC3.out.alloc _)).mono ?_
  rintro r w4 ⟨v4, rfl, hown4, hb4⟩
  obtain ⟨A4, c4, rfl⟩ := own_slice hown4
  have HAt : Hid (At w4 w3.heap.size 40 (outCells (false, Wk.noKey, 0, (3, 2, 0, []), [(1, [98])]) (.slice A3 1 c3))) := (At.new w3 40 (outCells (false, Wk.noKey, 0, (3, 2, 0, []), [(1, [98])]) (.slice A3 1 c3))).below hb4
  obtain ⟨o0, o1, o2, o3, o4, o5, o6, o7, o8⟩ := out_cells HAt.out
  have hlt : w3.heap.size < w4.heap.size := HAt.out.lt
  have HB4 := Lib.hid (((HB3.out.alloc HB3.out.size _).trans (hb4.mono (by have := HB3.out.size; simp; omega))))
  clear hown4 hb4
  simp only [vOut, outCells, txt]
  have hq := HQ.out
  go_wp2_with fail
  go_ret
  exact ⟨rfl, HB4.out.alloc HB4.out.size _⟩
end Go.Proofs.YtoacobcbloljkaaGreatDoor
