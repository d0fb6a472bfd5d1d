/-
  The walks of what a tree tells as lists: list, List, Dump.
-/
import Derived.Test.YtjaokljbdoocmaaDoorTreeR
import Derived.Test.YtjaokljbdoocmaaDoorIter
namespace Go.Proofs.YtjaokljbdoocmaaDoor
open Go.RowKit

/-- Two rows of the call's own: one is read, the other one grows. -/
structure Two (w0 : World) (e1 s1 : Nat) (A : Option Addr) (n c : Nat) (xs : List Value) (e2 s2 : Nat) (v : Value) (m : Nat) (ys : List Value) (W : World) : Prop where
  bl : Below w0.heap.size w0 W
  r1 : W.ownsRow w0.heap.size e1 s1 (.slice A n c) n xs
  r2 : W.ownsRow w0.heap.size e2 s2 v m ys
  ne : ∀ k, (Value.slice A n c).ownBlock = some k → v.ownBlock ≠ some k
section
variable {w0 W W' : World} {e1 s1 : Nat} {A : Option Addr} {n c : Nat} {xs : List Value} {e2 s2 : Nat} {v v' : Value} {m m' : Nat} {ys ys' : List Value}
theorem Two.start (hb : Below w0.heap.size w0 W) (h : W.ownsRow w0.heap.size e1 s1 (.slice A n c) n xs) (e2 s2 : Nat) : Two w0 e1 s1 A n c xs e2 s2 (.slice none 0 0) 0 [] W :=
  ⟨hb, h, World.ownsRow_nil _ _ _ _, by simp [Value.ownBlock]⟩
theorem Two.next (H : Two w0 e1 s1 A n c xs e2 s2 v m ys W) (hb : Below W.heap.size W W') : Two w0 e1 s1 A n c xs e2 s2 v m ys W' :=
  ⟨H.bl.trans (hb.mono H.bl.size), own_below H.r1 hb, own_below H.r2 hb, H.ne⟩
theorem Two.alloc (H : Two w0 e1 s1 A n c xs e2 s2 v m ys W) (o : Obj) : Two w0 e1 s1 A n c xs e2 s2 v m ys (W.alloc o) := H.next ((Below.refl _ _).alloc (Nat.le_refl _) o)
theorem Two.push (H : Two w0 e1 s1 A n c xs e2 s2 v m ys W) (hown : W'.ownsRow w0.heap.size e2 s2 v' m' ys') (hg : W.grownBy W' v.ownBlock) (hb : v'.ownBlock = v.ownBlock ∨ v'.ownBlock = some W.heap.size) : Two w0 e1 s1 A n c xs e2 s2 v' m' ys' W' := by
  refine ⟨H.bl.grown hg H.bl.size (fun k q => (H.r2.lt k q).1), H.r1.kept hg ?_, hown, fun k q => ?_⟩
  · cases hA : (Value.slice A n c).ownBlock with
    | none => exact .inl rfl
    | some k => exact .inr fun q => H.ne k hA q.symm
  · rcases hb with e | e
    · rw [e]; exact H.ne k q
    · rw [e]
      have := (H.r1.lt k q).2
      intro q2
      injection q2 with q2
      omega
end

theorem checkE_len {s : List UInt8} (h : Nm.checkE s = 0) : s.length ≤ 12 := by
  unfold Nm.checkE at h
  split at h
  · cases h
  · omega

theorem Tr.Good.ofDir_len {t : Tr.T} (h : Tr.Good t) (d : Int) : (Tr.ofDir t.L d).length ≤ 47 := by
  have h1 : (Tr.ofDir t.L d).length ≤ t.L.length := List.length_filter_le _ _
  have := h.len
  omega
theorem Tr.sorted_len (L : List Tr.TE) : (Tr.sorted L).length = L.length := by
  unfold Tr.sorted
  rw [List.length_map, List.length_mergeSort]

end Go.Proofs.YtjaokljbdoocmaaDoor
