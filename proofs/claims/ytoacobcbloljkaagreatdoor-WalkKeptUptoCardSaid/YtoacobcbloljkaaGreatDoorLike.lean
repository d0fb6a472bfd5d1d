/-
  The walk of vistalaw12.Like without further keys: the two caches tell alike.
-/
import Derived.Test.YtoacobcbloljkaaGreatDoorLikeSpec
import Derived.Test.YtoacobcbloljkaaGreatDoorSameEn
namespace Go.Proofs.YtoacobcbloljkaaGreatDoor
open Go.RowKit

/-- The two caches, and what was there stays. -/
structure LK (w0 : World) (B cb : Nat) (F : Nat → Prop) (A1 : Option Addr) (c1 : Nat) (A2 : Option Addr) (c2 : Nat) (L : List En) (W : List Int) (c e h : Nat) (l : List (Key × (En × Int))) (wh : List (Int × Bool)) (clk : Int) (V : World) : Prop where
  ca : CacheAt V c e h l wh clk
  ra : RefAt V B cb F A1 c1 A2 c2 L W
  bl : Below w0.heap.size w0 V

section
variable {w0 V V' : World} {B cb : Nat} {F : Nat → Prop} {A1 : Option Addr} {c1 : Nat} {A2 : Option Addr} {c2 : Nat} {L : List En} {W : List Int} {c e h : Nat} {l : List (Key × (En × Int))} {wh : List (Int × Bool)} {clk : Int}
theorem LK.next (H : LK w0 B cb F A1 c1 A2 c2 L W c e h l wh clk V) (hb : Below V.heap.size V V') : LK w0 B cb F A1 c1 A2 c2 L W c e h l wh clk V' :=
  ⟨H.ca.below hb, H.ra.below hb, H.bl.trans (hb.mono H.bl.size)⟩
theorem LK.alloc (H : LK w0 B cb F A1 c1 A2 c2 L W c e h l wh clk V) (o : Obj) : LK w0 B cb F A1 c1 A2 c2 L W c e h l wh clk (V.alloc o) := H.next ((Below.refl _ _).alloc (Nat.le_refl _) o)
theorem LK.drew (H : LK w0 B cb F A1 c1 A2 c2 L W c e h l wh clk V) : LK w0 B cb F A1 c1 A2 c2 L W c e h l wh clk V.drew := H.next (below_drew (Below.refl _ _))
theorem LK.drewN (H : LK w0 B cb F A1 c1 A2 c2 L W c e h l wh clk V) (q : Nat) : LK w0 B cb F A1 c1 A2 c2 L W c e h l wh clk (V.drewN q) := H.next (below_drewN_ (Below.refl _ _) q)
theorem LK.list (H : LK w0 B cb F A1 c1 A2 c2 L W c e h l wh clk V) : Rd V 7 A1 L.length (cEns L) := Rd.of_own H.ra.lo

theorem LK.entries (H : LK w0 B cb F A1 c1 A2 c2 L W c e h l wh clk V) (R : Rel l wh clk L W) (hn : L.length ≤ 1256584717421) :
    Calls Tryz.prog 70 #[.pointer (some ⟨c, 0, none⟩)] V fun r w' => ∃ A k, r = .returned (.slice A L.length k) ∧ Rd w' 7 A L.length (cEns L) ∧ LK w0 B cb F A1 c1 A2 c2 L W c e h l wh clk w' ∧ Below V.heap.size V w' := by
  refine (dentEntries_any V c e h l wh clk H.ca (by rw [R.len]; exact hn)).mono ?_
  rintro r w' ⟨v, Z, rfl, hp, hs, hown, hb⟩
  have hz := R.entries hp hs
  have hl : Z.length = L.length := by rw [← hz, List.length_map]
  rw [hz, hl] at hown
  obtain ⟨A, k, rfl⟩ := own_slice hown
  exact ⟨A, k, rfl, Rd.of_own hown, H.next hb, hb⟩
theorem LK.names1 (H : LK w0 B cb F A1 c1 A2 c2 L W c e h l wh clk V) (R : Rel l wh clk L W) (hn : L.length ≤ 1256584717421) (d : Int) :
    Calls Tryz.prog 34 #[.pointer (some ⟨c, 0, none⟩), .int .i64 d] V fun r w' => ∃ A k, r = .returned (.slice A (namesOf L d).length k) ∧ Rd w' 7 A (namesOf L d).length (cEns (namesOf L d)) ∧ LK w0 B cb F A1 c1 A2 c2 L W c e h l wh clk w' ∧ Below V.heap.size V w' := by
  refine (dentNames_any V c e h l wh clk d H.ca (by rw [R.len]; exact hn)).mono ?_
  rintro r w' ⟨v, E, rfl, hp, hs, hown, hb⟩
  rw [R.names hp hs] at hown
  obtain ⟨A, k, rfl⟩ := own_slice hown
  exact ⟨A, k, rfl, Rd.of_own hown, H.next hb, hb⟩
theorem LK.names2 (H : LK w0 B cb F A1 c1 A2 c2 L W c e h l wh clk V) (R : Rel l wh clk L W) (hn : L.length ≤ 1256584717421) (d : Int) :
    Calls Tryz.prog 80 #[.pointer (some ⟨cb, 0, none⟩), .int .i64 d] V fun r w' => ∃ A k, r = .returned (.slice A (namesOf L d).length k) ∧ Rd w' 7 A (namesOf L d).length (cEns (namesOf L d)) ∧ LK w0 B cb F A1 c1 A2 c2 L W c e h l wh clk w' ∧ Below V.heap.size V w' := by
  refine (refNames_any V B cb F A1 c1 A2 c2 L W d hn H.ra).mono ?_
  rintro r w' ⟨v, E, rfl, hp, hs, hown, hb⟩
  rw [names_ref R.nodup hp hs] at hown
  obtain ⟨A, k, rfl⟩ := own_slice hown
  exact ⟨A, k, rfl, Rd.of_own hown, H.next hb, hb⟩
theorem LK.same (H : LK w0 B cb F A1 c1 A2 c2 L W c e h l wh clk V) {A A' : Option Addr} {n k k' : Nat} {E : List En} (h1 : Rd V 7 A n (cEns E)) (h2 : Rd V 7 A' n (cEns E)) (hn : n ≤ maxLen) :
    Calls Tryz.prog 17 #[.slice A n k, .slice A' n k'] V fun r w' => r = .returned (.bool true) ∧ LK w0 B cb F A1 c1 A2 c2 L W c e h l wh clk w' ∧ Below V.heap.size V w' := by
  refine (sameEntries_any A A' n n k k' E E V h1 h2 hn).mono ?_
  rintro r w' ⟨rfl, q, rfl⟩
  exact ⟨by simp, H.drewN q, below_drewN_ (Below.refl _ _) q⟩
theorem LK.len (H : LK w0 B cb F A1 c1 A2 c2 L W c e h l wh clk V) (R : Rel l wh clk L W) :
    Calls Tryz.prog 71 #[.pointer (some ⟨c, 0, none⟩)] V fun r w' => r = .returned (.int .i64 L.length) ∧ LK w0 B cb F A1 c1 A2 c2 L W c e h l wh clk w' ∧ Below V.heap.size V w' := by
  refine (dentLen_any V c e h l wh clk H.ca).mono ?_
  rintro r w' ⟨rfl, rfl⟩
  exact ⟨by rw [R.len], H, Below.refl _ _⟩
theorem LK.neg1 (H : LK w0 B cb F A1 c1 A2 c2 L W c e h l wh clk V) (R : Rel l wh clk L W) (hn : L.length ≤ 1256584717421) :
    Calls Tryz.prog 72 #[.pointer (some ⟨c, 0, none⟩)] V fun r w' => r = .returned (.int .i64 (negsE L)) ∧ LK w0 B cb F A1 c1 A2 c2 L W c e h l wh clk w' ∧ Below V.heap.size V w' := by
  refine (dentNegatives_any V c e h l wh clk H.ca (by rw [R.len]; omega)).mono ?_
  rintro r w' ⟨rfl, hb⟩
  exact ⟨by rw [R.negs], H.next hb, hb⟩
theorem LK.neg2 (H : LK w0 B cb F A1 c1 A2 c2 L W c e h l wh clk V) (hn : L.length ≤ 1256584717421) :
    Calls Tryz.prog 73 #[.pointer (some ⟨cb, 0, none⟩)] V fun r w' => r = .returned (.int .i64 (negsE L)) ∧ LK w0 B cb F A1 c1 A2 c2 L W c e h l wh clk w' ∧ Below V.heap.size V w' := by
  refine (refNegatives_any V B cb F A1 c1 A2 c2 L W (by omega) H.ra).mono ?_
  rintro r w' ⟨rfl, rfl⟩
  exact ⟨rfl, H, Below.refl _ _⟩
theorem LK.get1 (H : LK w0 B cb F A1 c1 A2 c2 L W c e h l wh clk V) (R : Rel l wh clk L W) (k : Key) :
    Calls Tryz.prog 74 #[.pointer (some ⟨c, 0, none⟩), vKey k] V fun r w' => r = .returned (.tuple #[vEn ((getE L k).getD noEn), .bool (getE L k).isSome]) ∧ LK w0 B cb F A1 c1 A2 c2 L W c e h l wh clk w' ∧ Below V.heap.size V w' := by
  refine (dentGet_any V c e h l wh clk k H.ca).mono ?_
  rintro r w' ⟨rfl, hb⟩
  have hg := R.getE k
  refine ⟨?_, H.next hb, hb⟩
  rw [← hg, Option.isSome_map]
  rfl
theorem LK.get2 (H : LK w0 B cb F A1 c1 A2 c2 L W c e h l wh clk V) (hn : L.length ≤ 1256584717421) (k : Key) :
    Calls Tryz.prog 75 #[.pointer (some ⟨cb, 0, none⟩), vKey k] V fun r w' => r = .returned (.tuple #[vEn ((getE L k).getD noEn), .bool (getE L k).isSome]) ∧ LK w0 B cb F A1 c1 A2 c2 L W c e h l wh clk w' ∧ Below V.heap.size V w' := by
  refine (refGet_any V B cb F A1 c1 A2 c2 L W k (by omega) H.ra).mono ?_
  rintro r w' ⟨rfl, hb⟩
  exact ⟨rfl, H.next hb, hb⟩
theorem LK.leaf1 (H : LK w0 B cb F A1 c1 A2 c2 L W c e h l wh clk V) (R : Rel l wh clk L W) (k : Key) :
    Calls Tryz.prog 76 #[.pointer (some ⟨c, 0, none⟩), vKey k] V fun r w' => r = .returned (.bool (leafE L k)) ∧ LK w0 B cb F A1 c1 A2 c2 L W c e h l wh clk w' ∧ Below V.heap.size V w' := by
  refine (dentLeaf_any V c e h l wh clk k H.ca).mono ?_
  rintro r w' ⟨rfl, hb⟩
  exact ⟨by rw [R.leaf], H.next hb, hb⟩
theorem LK.leaf2 (H : LK w0 B cb F A1 c1 A2 c2 L W c e h l wh clk V) (hn : L.length ≤ 1256584717421) (k : Key) :
    Calls Tryz.prog 77 #[.pointer (some ⟨cb, 0, none⟩), vKey k] V fun r w' => r = .returned (.bool (leafE L k)) ∧ LK w0 B cb F A1 c1 A2 c2 L W c e h l wh clk w' ∧ Below V.heap.size V w' := by
  refine (refLeaf_any V B cb F A1 c1 A2 c2 L W k (by omega) H.ra).mono ?_
  rintro r w' ⟨rfl, hb⟩
  exact ⟨rfl, H.next hb, hb⟩
theorem LK.whole1 (H : LK w0 B cb F A1 c1 A2 c2 L W c e h l wh clk V) (R : Rel l wh clk L W) (d : Int) :
    Calls Tryz.prog 78 #[.pointer (some ⟨c, 0, none⟩), .int .i64 d] V fun r w' => r = .returned (.bool (W.contains d)) ∧ LK w0 B cb F A1 c1 A2 c2 L W c e h l wh clk w' ∧ Below V.heap.size V w' := by
  refine (dentWhole_any V c e h l wh clk d H.ca).mono ?_
  rintro r w' ⟨rfl, rfl⟩
  exact ⟨by rw [R.isWhole], H, Below.refl _ _⟩
theorem LK.whole2 (H : LK w0 B cb F A1 c1 A2 c2 L W c e h l wh clk V) (hw : W.length ≤ 17592186044416) (d : Int) :
    Calls Tryz.prog 79 #[.pointer (some ⟨cb, 0, none⟩), .int .i64 d] V fun r w' => r = .returned (.bool (W.contains d)) ∧ LK w0 B cb F A1 c1 A2 c2 L W c e h l wh clk w' ∧ Below V.heap.size V w' := by
  refine (refIsWhole_any V B cb F A1 c1 A2 c2 L W d hw H.ra).mono ?_
  rintro r w' ⟨rfl, rfl⟩
  exact ⟨rfl, H, Below.refl _ _⟩
end
end Go.Proofs.YtoacobcbloljkaaGreatDoor
