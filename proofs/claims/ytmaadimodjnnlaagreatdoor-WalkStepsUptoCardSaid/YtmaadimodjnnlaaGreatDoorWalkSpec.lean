/-
  What a walk comes to, in plain words: components one by one, links in their place. No program in it.
-/
import Derived.Test.YtmaadimodjnnlaaGreatDoorNameSpec
import Derived.Test.YtmaadimodjnnlaaGreatDoorWalkSmall
namespace Go.Proofs.YtmaadimodjnnlaaGreatDoor
namespace Wk

/-- need, key, error, node, used keys. -/
abbrev Out := Bool × Key × Int × Nd × List Key

def noKey : Key := (0, [])
def noNd : Nd := (0, 0, 0, [])
def fail (e : Int) (used : List Key) : Out := (false, noKey, e, noNd, used)
def lastNd (way : List Nd) : Nd := way.getLastD noNd
def up (way : List Nd) : List Nd := if way.length ≤ 1 then way else way.dropLast

def steps (kn : Key → Option En) (follow : Bool) : Nat → List (List UInt8) → List Nd → Bool → List Key → Out
  | _, [], way, dir, used => if dir = true ∧ (lastNd way).2.1 ≠ 1 then fail 42 used else (false, noKey, 0, lastNd way, used)
  | links, s :: todo, way, dir, used =>
    if (lastNd way).2.1 ≠ 1 then fail 42 used
    else if s = [46, 46] then steps kn follow links todo (up way) dir used
    else if s = [46] then steps kn follow links todo way dir used
    else match kn ((lastNd way).1, s) with
      | none => (true, ((lastNd way).1, s), 0, noNd, used)
      | some x =>
        if x.2.1 = true then fail 40 (used ++ [((lastNd way).1, s)])
        else if x.2.2.2.1 ≠ 3 ∨ (todo = [] ∧ dir = false ∧ follow = false) then steps kn follow links todo (way ++ [x.2.2]) dir (used ++ [((lastNd way).1, s)])
        else match links with
          | 0 => fail 49 (used ++ [((lastNd way).1, s)])
          | links + 1 =>
            if (Nm.targetR x.2.2.2.2.2).2.2.2 ≠ 0 then fail (Nm.targetR x.2.2.2.2.2).2.2.2 (used ++ [((lastNd way).1, s)])
            else steps kn follow links ((Nm.targetR x.2.2.2.2.2).1 ++ todo) (if (Nm.targetR x.2.2.2.2.2).2.1 = true then [rootNd] else way)
              (dir || (decide (todo = []) && (Nm.targetR x.2.2.2.2.2).2.2.1)) (used ++ [((lastNd way).1, s)])
termination_by links todo => (links, todo.length)

theorem lastNd_at {wl : List Nd} {k : Nat} {x : Nd} (hl : wl.length = k + 1) (hx : wl[k]? = some x) : lastNd wl = x := by
  unfold lastNd
  rw [List.getLastD_eq_getLast?, List.getLast?_eq_getElem?, hl, Nat.add_sub_cancel, hx]
  rfl

theorem steps_notdir (kn : Key → Option En) (follow : Bool) (links : Nat) (s : List UInt8) (todo : List (List UInt8)) {way : List Nd} (dir : Bool) (used : List Key) {x : Nd} (hx : lastNd way = x) (hk : x.2.1 ≠ 1) :
    steps kn follow links (s :: todo) way dir used = fail 42 used := by
  subst hx
  rw [steps, if_pos hk]

theorem steps_up (kn : Key → Option En) (follow : Bool) (links : Nat) (todo : List (List UInt8)) {way : List Nd} (dir : Bool) (used : List Key) {x : Nd} (hx : lastNd way = x) (hk : x.2.1 = 1) :
    steps kn follow links ([46, 46] :: todo) way dir used = steps kn follow links todo (up way) dir used := by
  subst hx
  rw [steps, if_neg (by simp [hk]), if_pos rfl]

theorem steps_dot (kn : Key → Option En) (follow : Bool) (links : Nat) (todo : List (List UInt8)) {way : List Nd} (dir : Bool) (used : List Key) {x : Nd} (hx : lastNd way = x) (hk : x.2.1 = 1) :
    steps kn follow links ([46] :: todo) way dir used = steps kn follow links todo way dir used := by
  subst hx
  rw [steps, if_neg (by simp [hk]), if_neg (by decide), if_pos rfl]

/-- The step at a name. -/
theorem steps_name (kn : Key → Option En) (follow : Bool) (links : Nat) {s : List UInt8} (todo : List (List UInt8)) {way : List Nd} (dir : Bool) (used : List Key) {x : Nd} (hx : lastNd way = x) (hk : x.2.1 = 1) (h1 : s ≠ [46, 46]) (h2 : s ≠ [46]) :
    steps kn follow links (s :: todo) way dir used = match kn (x.1, s) with
      | none => (true, (x.1, s), 0, noNd, used)
      | some y =>
        if y.2.1 = true then fail 40 (used ++ [(x.1, s)])
        else if y.2.2.2.1 ≠ 3 ∨ (todo = [] ∧ dir = false ∧ follow = false) then steps kn follow links todo (way ++ [y.2.2]) dir (used ++ [(x.1, s)])
        else match links with
          | 0 => fail 49 (used ++ [(x.1, s)])
          | links + 1 =>
            if (Nm.targetR y.2.2.2.2.2).2.2.2 ≠ 0 then fail (Nm.targetR y.2.2.2.2.2).2.2.2 (used ++ [(x.1, s)])
            else steps kn follow links ((Nm.targetR y.2.2.2.2.2).1 ++ todo) (if (Nm.targetR y.2.2.2.2.2).2.1 = true then [rootNd] else way)
              (dir || (decide (todo = []) && (Nm.targetR y.2.2.2.2.2).2.2.1)) (used ++ [(x.1, s)]) := by
  subst hx
  rw [steps, if_neg (by simp [hk]), if_neg h1, if_neg h2]

/-- A walk of a raw path. -/
def walk (kn : Key → Option En) (path : List UInt8) (follow : Bool) (links : Nat) : Out :=
  if (Nm.splitR path).2.2 ≠ 0 then fail (Nm.splitR path).2.2 []
  else steps kn follow links (Nm.splitR path).1 [rootNd] (Nm.splitR path).2.1 []
end Wk
end Go.Proofs.YtmaadimodjnnlaaGreatDoor
