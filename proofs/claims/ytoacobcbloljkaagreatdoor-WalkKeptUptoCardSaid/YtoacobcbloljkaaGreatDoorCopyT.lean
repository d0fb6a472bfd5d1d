/-
  A copy of texts.
-/
import Derived.Test.YtoacobcbloljkaaGreatDoorWalkLow
namespace Go.Proofs.YtoacobcbloljkaaGreatDoor
open Go.RowKit

set_option maxRecDepth 100000 in
theorem copyT_any (A : Option Addr) (n c : Nat) (ls : List (List UInt8)) (w : World) (hr : Rd w 1 A n (txts ls)) (hn : n ≤ 8796093022208) :
    Calls Tryz.prog 15 #[.slice A n c] w fun e w' => ∃ v, e = .returned v ∧ w'.ownsRow w.heap.size 9 1 v n (txts ls) ∧ Below w.heap.size w w' := by
  have H := Lib.hid hr
  clear hr
  go_enter Tryz.func15, Tryz.ntmps15
  go_wp2_with (at_builtin; refine wpList_append_rd rfl _ _ rfl elemTexts (v := .slice none 0 0) rfl (World.ownsRow_nil w w.heap.size 9 1) rfl H.out (txts_one _) ?c1 ?c2 (Nat.le_refl _) ?_; (case c1 => unfold maxLen; omega); (case c2 => omega); intro v' w' hown' hg' hb')
  go_ret
  refine ⟨_, rfl, by simpa using hown', (Below.refl _ _).grown hg' (Nat.le_refl _) (fun k hk => by cases hk)⟩
end Go.Proofs.YtoacobcbloljkaaGreatDoor
