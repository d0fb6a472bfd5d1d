/-
  A copy of entries.
-/
import Derived.Test.YtoacobcbloljkaaGreatDoorRef12b
namespace Go.Proofs.YtoacobcbloljkaaGreatDoor
open Go.RowKit

set_option maxRecDepth 100000 in
theorem copyEntries_any (A : Option Addr) (n c : Nat) (ks : List En) (w : World) (hr : Rd w 7 A n (cEns ks)) (hn : n ≤ 1954687338268) :
    Calls Tryz.prog 14 #[.slice A n c] w fun e w' => ∃ v, e = .returned v ∧ w'.ownsRow w.heap.size 36 7 v n (cEns ks) ∧ Below w.heap.size w w' := by
  have H := Lib.hid hr
  clear hr
  go_enter Tryz.func14, Tryz.ntmps14
  go_wp2_with (at_builtin; refine wpList_append_rd rfl _ _ rfl elemEntries (v := .slice none 0 0) rfl (World.ownsRow_nil w w.heap.size 36 7) rfl H.out (cEns_one _) ?c1 ?c2 (Nat.le_refl _) ?_; (case c1 => unfold maxLen; omega); (case c2 => omega); intro v' w' hown' hg' hb')
  go_ret
  refine ⟨_, rfl, by simpa using hown', (Below.refl _ _).grown hg' (Nat.le_refl _) (fun k hk => by cases hk)⟩
end Go.Proofs.YtoacobcbloljkaaGreatDoor
