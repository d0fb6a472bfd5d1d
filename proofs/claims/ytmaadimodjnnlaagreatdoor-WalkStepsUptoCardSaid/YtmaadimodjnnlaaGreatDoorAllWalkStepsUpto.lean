/-
  Several texts in one: SameOut, Awake14, CopyE, CopyT, Ref14W, StepsLaw, RowBase, OpenData, OpenTexts, Upto, RowWalkStepsUpto.
-/
import Derived.Test.YtmaadimodjnnlaaGreatDoorDentCut
import Derived.Test.YtmaadimodjnnlaaGreatDoorEq
import Derived.Test.YtmaadimodjnnlaaGreatDoorWalkWalk
import Derived.Test.YtmaadimodjnnlaaGreatDoorDentPut
import Derived.Test.YtmaadimodjnnlaaGreatDoorRef12b
import Derived.Test.YtmaadimodjnnlaaGreatDoorWalkMet
import Derived.Test.YtmaadimodjnnlaaGreatDoorRef14
import Derived.Test.YtmaadimodjnnlaaGreatDoorOfWalk
import Derived.Test.YtmaadimodjnnlaaGreatDoorLikeWalk
import Derived.Test.YtmaadimodjnnlaaGreatDoorCards
import Derived.Test.YtmaadimodjnnlaaGreatDoorTie
import Derived.Test.YtmaadimodjnnlaaGreatDoorLib
import Derived.ProofKit
import Derived.OpenShut
import Derived.Carry
import Derived.SizedLaws
import Derived.Lib.LaidIn
import Derived.Lib.LaidU8T
import Derived.Deep.DeepHandedRow
import Derived.Deep.DeepWitnessRowRef
import Derived.PinnedBridge
import Derived.Test.YtmaadimodjnnlaaGreatDoorOf
import Derived.Deep.Slices
import Derived.SliceStrings
import Derived.Test.YtmaadimodjnnlaaGreatDoorRows
namespace Go.Proofs.YtmaadimodjnnlaaGreatDoor
open Go.RowKit

set_option maxRecDepth 100000 in
set_option maxHeartbeats 1000000 in
theorem sameKeys_any (A B : Option Addr) (n m c d : Nat) (xs ys : List Key) (w : World) (hA : Rd w 2 A n (cKeys xs)) (hB : Rd w 2 B m (cKeys ys)) (hn : n ≤ maxLen) :
    Calls Tryz.prog 33 #[.slice A n c, .slice B m d] w fun e w' => e = .returned (.bool (decide (xs = ys))) ∧ ∃ q, w' = w.drewN q := by
  unfold maxLen at hn
  have hla := hA.key_len
  have hlb := hB.key_len
  by_cases hnm : n = m
  · subst hnm
    have HLA := Lib.hid hla
    have HLB := Lib.hid hlb
    have HA := Lib.hid hA
    have HB := Lib.hid hB
    clear hla hlb hA hB
    go_enter Tryz.func33, Tryz.ntmps33
    go_wp2
    go_loopw [5] (fun i wr => ∃ k q : Nat, k ≤ n ∧ i = .int .i64 k ∧ wr = w.drewN q ∧ Hid (xs.take k = ys.take k)) (fun i _ => n - (intOf i).toNat)
    case atStart => exact ⟨0, 0, by omega, rfl, rfl, rfl⟩
    case round =>
      obtain ⟨k, q, hk, rfl, rfl, heq⟩ := hrel
      by_cases hlt : k < n
      · obtain ⟨a1, d1, n1, rfl, _, hx1, p1, p2⟩ := HA.out.key_at hlt
        obtain ⟨a2, d2, n2, rfl, _, hx2, r1, r2⟩ := HB.out.key_at hlt
        have hq : ∀ V : World, (binOp .neq 29 (.agg #[.int .i64 d1, .string ⟨n1.toArray⟩]) (.agg #[.int .i64 d2, .string ⟨n2.toArray⟩])).run Tryz.prog V = .ok (.bool (!decide (((d1, n1) : Key) = (d2, n2)))) V := fun V => neq_key (d1, n1) (d2, n2) V
        by_cases hbq : ((d1, n1) : Key) = (d2, n2)
        · have hnext : xs.take (k + 1) = ys.take (k + 1) := by
            obtain ⟨h1, e1⟩ := List.getElem?_eq_some_iff.1 hx1
            obtain ⟨h2, e2⟩ := List.getElem?_eq_some_iff.1 hx2
            rw [List.take_succ_eq_append_getElem h1, List.take_succ_eq_append_getElem h2, heq.out, e1, e2, hbq]
          rw [decide_eq_true hbq] at hq
          have HN := Lib.hid hnext
          clear hnext hbq hx1 hx2
          go_wp2
          go_quiet (fail)
          go_wp2
          go_roundw
          case rel => exact ⟨k + 1, _, by omega, by go_num, rfl, HN⟩
          case measure => simp [intOf] <;> omega
        · have hne : xs ≠ ys := by
            rintro rfl
            rw [hx1] at hx2
            injection hx2 with hx2
            exact hbq hx2
          rw [decide_eq_false hbq] at hq
          have HN := Lib.hid hne
          clear hne hbq hx1 hx2
          go_wp2
          go_quiet (fail)
          go_wp2
          go_ret
          exact ⟨ret_bool (by simpa using HN.out), _, World.drewN_drewN _ _ _⟩
      · obtain rfl : k = n := by omega
        have h1 := heq.out
        rw [List.take_of_length_le (by rw [HLA.out]; omega), List.take_of_length_le (by rw [HLB.out]; omega)] at h1
        have HE := Lib.hid h1
        clear h1
        go_wp2
        go_ret
        exact ⟨ret_bool (by simpa using HE.out), _, rfl⟩
  · have hne : xs ≠ ys := by rintro rfl; omega
    have HN := Lib.hid hne
    have hb : ((n : Int) == (m : Int)) = false := beq_eq_false_iff_ne.2 (by omega)
    clear hne hla hlb hA hB
    go_enter Tryz.func33, Tryz.ntmps33
    go_wp2
    go_ret
    exact ⟨ret_bool (by simpa using HN.out), 0, rfl⟩

set_option maxRecDepth 100000 in
set_option maxHeartbeats 2000000 in
theorem sameOut_yes (o : Wk.Out) (A B : Option Addr) (n c d : Nat) (w : World) (hA : Rd w 2 A n (cKeys o.2.2.2.2)) (hB : Rd w 2 B n (cKeys o.2.2.2.2)) (hn : n ≤ maxLen) :
    Calls Tryz.prog 16 #[vOut o (.slice A n c), vOut o (.slice B n d)] w fun e w' => e = .returned (.bool true) ∧ Below w.heap.size w w' := by
  obtain ⟨nd, ⟨kd, kn⟩, er, ⟨ni, nk, nm, nt⟩, us⟩ := o
  have hs := fun V h1 h2 => sameKeys_any A B n n c d us us V h1 h2 hn
  simp only [decide_true] at hs
  have hq1 : ∀ V : World, (binOp .eql 29 (.agg #[.int .i64 kd, .string ⟨kn.toArray⟩]) (.agg #[.int .i64 kd, .string ⟨kn.toArray⟩])).run Tryz.prog V = .ok (.bool true) V := fun V => by
    have := eql_key (kd, kn) (kd, kn) V
    rwa [decide_eq_true rfl] at this
  have hq2 : ∀ V : World, (binOp .eql 32 (.agg #[.int .i64 ni, .int .i64 nk, .int .i64 nm, .string ⟨nt.toArray⟩]) (.agg #[.int .i64 ni, .int .i64 nk, .int .i64 nm, .string ⟨nt.toArray⟩])).run Tryz.prog V = .ok (.bool true) V := fun V => by
    have := eql_node (ni, nk, nm, nt) (ni, nk, nm, nt) V
    rwa [decide_eq_true rfl] at this
  have HS := Lib.hid hs
  have HA := Lib.hid hA
  have HB := Lib.hid hB
  clear hs hA hB
  simp only [vOut, outCells, txt]
  go_enter Tryz.func16, Tryz.ntmps16
  go_wp2_with fail
  refine (HS.out _ ((HA.out.alloc _).alloc _) ((HB.out.alloc _).alloc _)).mono ?_
  rintro r w2 ⟨rfl, q, rfl⟩
  go_wp2_with fail
  go_ret
  exact ⟨rfl, below_drewN_ (((Below.refl _ _).alloc (Nat.le_refl _) _).alloc (by simp) _) _⟩
end Go.Proofs.YtmaadimodjnnlaaGreatDoor

namespace Go.Proofs.YtmaadimodjnnlaaGreatDoor
open Go.RowKit

/-- What is read of an answer that lies in a block. -/
theorem out_cells {w : World} {b : Nat} {o : Wk.Out} {v : Value} (h : At w b 35 (outCells o v)) :
    w.cell? ⟨b, 0, none⟩ = some (.bool o.1) ∧ w.cell? ⟨b, 1, none⟩ = some (.int .i64 o.2.1.1) ∧ w.cell? ⟨b, 2, none⟩ = some (.string ⟨o.2.1.2.toArray⟩) ∧ w.cell? ⟨b, 3, none⟩ = some (.int .i64 o.2.2.1) ∧
    w.cell? ⟨b, 4, none⟩ = some (.int .i64 o.2.2.2.1.1) ∧ w.cell? ⟨b, 5, none⟩ = some (.int .i64 o.2.2.2.1.2.1) ∧ w.cell? ⟨b, 6, none⟩ = some (.int .i64 o.2.2.2.1.2.2.1) ∧ w.cell? ⟨b, 7, none⟩ = some (.string ⟨o.2.2.2.1.2.2.2.toArray⟩) ∧ w.cell? ⟨b, 8, none⟩ = some v := by
  refine ⟨?_, ?_, ?_, ?_, ?_, ?_, ?_, ?_, ?_⟩
  all_goals
    rw [h.cell]
    rfl

theorem wk_known (kn : Key → Option En) {p s : List UInt8} (links : Nat) (hp : Nm.splitR p = ([s], false, 0)) (h1 : s ≠ [46, 46]) (h2 : s ≠ [46]) {y : En} (hy : kn (1, s) = some y) (hn : y.2.1 = false) (hk : y.2.2.2.1 ≠ 3) (follow : Bool) :
    Wk.walk kn p follow links = (false, Wk.noKey, 0, y.2.2, [(1, s)]) := by
  unfold Wk.walk
  rw [hp]
  simp only
  rw [if_neg (by simp), Wk.steps_name kn follow links [] false [] (x := rootNd) rfl rfl h1 h2]
  show (match kn (1, s) with | none => _ | some y => _) = _
  rw [hy]
  simp only [hn, hk, Bool.false_eq_true, if_false, ne_eq, not_false_eq_true, true_or, if_true]
  rw [Wk.steps]
  simp [Wk.lastNd, rootNd]

theorem wk_wanted (kn : Key → Option En) {p s : List UInt8} (links : Nat) (hp : Nm.splitR p = ([s], false, 0)) (h1 : s ≠ [46, 46]) (h2 : s ≠ [46]) (hy : kn (1, s) = none) (follow : Bool) :
    Wk.walk kn p follow links = (true, (1, s), 0, Wk.noNd, []) := by
  unfold Wk.walk
  rw [hp]
  simp only
  rw [if_neg (by simp), Wk.steps_name kn follow links [] false [] (x := rootNd) rfl rfl h1 h2]
  show (match kn (1, s) with | none => _ | some y => _) = _
  rw [hy]
  rfl

set_option maxRecDepth 100000 in
set_option maxHeartbeats 2000000 in
theorem awake14 (w : World) :
    Calls Tryz.prog 18 #[] w fun e w' => e = .returned (.bool true) ∧ Below w.heap.size w w' := by
  have hkn : ∀ k : Key, knownOf [] (alPut [] ((1, [98]) : Key) ((((1, [98]), false, 3, 2, 0, []) : En), (1 : Int))) [] k = if k = (1, [98]) then some ((1, [98]), false, 3, 2, 0, []) else none := by
    intro k
    unfold knownOf firstOf alPut alGet
    by_cases h : k = (1, [98])
    · subst h; rfl
    · simp [h, Ne.symm h, alGet]
  have ha : ∀ W c e h, CacheAt W c e h (alPut [] ((1, [98]) : Key) ((((1, [98]), false, 3, 2, 0, []) : En), (1 : Int))) [] 1 →
      Calls Tryz.prog 13 #[.pointer (some ⟨c, 0, none⟩), .slice none 0 0, .string ⟨#[47, 98]⟩, .bool true, .int .i64 3] W (OutPost W (false, Wk.noKey, 0, (3, 2, 0, []), [(1, [98])])) := fun W c e h H => by
    have := walk_any W none 0 0 [] ⟨#[47, 98]⟩ true 3 c e h _ _ _ (by omega) (by omega) (by omega) (Rd.empty _ _ _) H
    rwa [wk_known _ (s := [98]) _ (by rw [ByteArray.toList_eq]; decide) (by decide) (by decide) (y := ((1, [98]), false, 3, 2, 0, [])) (by rw [hkn]; rfl) rfl (by decide)] at this
  have hb : ∀ W c e h, CacheAt W c e h (alPut [] ((1, [98]) : Key) ((((1, [98]), false, 3, 2, 0, []) : En), (1 : Int))) [] 1 →
      Calls Tryz.prog 13 #[.pointer (some ⟨c, 0, none⟩), .slice none 0 0, .string ⟨#[47, 120]⟩, .bool true, .int .i64 3] W (OutPost W (true, (1, [120]), 0, Wk.noNd, [])) := fun W c e h H => by
    have := walk_any W none 0 0 [] ⟨#[47, 120]⟩ true 3 c e h _ _ _ (by omega) (by omega) (by omega) (Rd.empty _ _ _) H
    rwa [wk_wanted _ (s := [120]) _ (by rw [ByteArray.toList_eq]; decide) (by decide) (by decide) (by rw [hkn]; rfl)] at this
  have hq : ∀ W : World, (binOp .eql 29 (.agg #[.int .i64 1, .string ⟨#[120]⟩]) (.agg #[.int .i64 1, .string ⟨#[120]⟩])).run Tryz.prog W = .ok (.bool true) W := fun W => eql_key (1, [120]) (1, [120]) W
  have HN := Lib.hid (dentNew_any w)
  have HA := Lib.hid ha
  have HBB := Lib.hid hb
  have HQ := Lib.hid hq
  clear ha hb hkn hq
  go_enter Tryz.func18, Tryz.ntmps18
  go_wp2_with fail
  refine (HN.out).mono ?_
  rintro r w1 ⟨c, e, h, rfl, HC, hc, he, hh, hb1⟩
  have HC1 := Lib.hid HC
  have HB1 := Lib.hid hb1
  clear HC hb1
  go_wp2_with fail
  refine (dentPut_any w1 c e h [] [] 0 ((1, [98]), false, 3, 2, 0, []) HC1.out (by omega) (by omega)).mono ?_
  rintro r w2 (⟨hno, _⟩ | ⟨_, rfl, HC, hk⟩)
  · cases hno
  have HC2 := Lib.hid HC
  have HB2 := Lib.hid (HB1.out.trans (hk.to_below HB1.out.size (fun j hj => by omega)))
  clear HC hk hc he hh
  go_wp2_with fail
  refine (HA.out w2 c e h HC2.out).mono ?_
  rintro r w3 ⟨v3, rfl, hown3, hb3⟩
  obtain ⟨A3, c3, rfl⟩ := own_slice hown3
  have HB3 := Lib.hid (HB2.out.trans (hb3.mono HB2.out.size))
  have HC3 := Lib.hid (HC2.out.below hb3)
  clear hown3 hb3
  simp only [vOut, outCells, txt]
  go_wp2_with fail
  refine (HBB.out _ c e h (HC3.out.alloc _)).mono ?_
  rintro r w4 ⟨v4, rfl, hown4, hb4⟩
  obtain ⟨A4, c4, rfl⟩ := own_slice hown4
  have HAt : Hid (At w4 w3.heap.size 35 (outCells (false, Wk.noKey, 0, (3, 2, 0, []), [(1, [98])]) (.slice A3 1 c3))) := (At.new w3 35 (outCells (false, Wk.noKey, 0, (3, 2, 0, []), [(1, [98])]) (.slice A3 1 c3))).below hb4
  obtain ⟨o0, o1, o2, o3, o4, o5, o6, o7, o8⟩ := out_cells HAt.out
  have hlt : w3.heap.size < w4.heap.size := HAt.out.lt
  have HB4 := Lib.hid (((HB3.out.alloc HB3.out.size _).trans (hb4.mono (by have := HB3.out.size; simp; omega))))
  clear hown4 hb4
  simp only [vOut, outCells, txt]
  have hq := HQ.out
  go_wp2_with fail
  go_ret
  exact ⟨rfl, HB4.out.alloc HB4.out.size _⟩
end Go.Proofs.YtmaadimodjnnlaaGreatDoor

namespace Go.Proofs.YtmaadimodjnnlaaGreatDoor
open Go.RowKit

set_option maxRecDepth 100000 in
theorem copyEntries_any (A : Option Addr) (n c : Nat) (ks : List En) (w : World) (hr : Rd w 7 A n (cEns ks)) (hn : n ≤ 1954687338268) :
    Calls Tryz.prog 14 #[.slice A n c] w fun e w' => ∃ v, e = .returned v ∧ w'.ownsRow w.heap.size 52 7 v n (cEns ks) ∧ Below w.heap.size w w' := by
  have H := Lib.hid hr
  clear hr
  go_enter Tryz.func14, Tryz.ntmps14
  go_wp2_with (at_builtin; refine wpList_append_rd rfl _ _ rfl elemEntries (v := .slice none 0 0) rfl (World.ownsRow_nil w w.heap.size 52 7) rfl H.out (cEns_one _) ?c1 ?c2 (Nat.le_refl _) ?_; (case c1 => unfold maxLen; omega); (case c2 => omega); intro v' w' hown' hg' hb')
  go_ret
  refine ⟨_, rfl, by simpa using hown', (Below.refl _ _).grown hg' (Nat.le_refl _) (fun k hk => by cases hk)⟩
end Go.Proofs.YtmaadimodjnnlaaGreatDoor

namespace Go.Proofs.YtmaadimodjnnlaaGreatDoor
open Go.RowKit

set_option maxRecDepth 100000 in
theorem copyT_any (A : Option Addr) (n c : Nat) (ls : List (List UInt8)) (w : World) (hr : Rd w 1 A n (txts ls)) (hn : n ≤ 8796093022208) :
    Calls Tryz.prog 20 #[.slice A n c] w fun e w' => ∃ v, e = .returned v ∧ w'.ownsRow w.heap.size 9 1 v n (txts ls) ∧ Below w.heap.size w w' := by
  have H := Lib.hid hr
  clear hr
  go_enter Tryz.func20, Tryz.ntmps20
  go_wp2_with (at_builtin; refine wpList_append_rd rfl _ _ rfl elemTexts (v := .slice none 0 0) rfl (World.ownsRow_nil w w.heap.size 9 1) rfl H.out (txts_one _) ?c1 ?c2 (Nat.le_refl _) ?_; (case c1 => unfold maxLen; omega); (case c2 => omega); intro v' w' hown' hg' hb')
  go_ret
  refine ⟨_, rfl, by simpa using hown', (Below.refl _ _).grown hg' (Nat.le_refl _) (fun k hk => by cases hk)⟩
end Go.Proofs.YtmaadimodjnnlaaGreatDoor

namespace Go.Proofs.YtmaadimodjnnlaaGreatDoor
open Go.RowKit

set_option maxRecDepth 100000 in
set_option maxHeartbeats 4000000 in
theorem refWalk14_any (w : World) (p0 p1 p2 : Value) (kn : Key → Option En) (hlook : ∀ V k, Below w.heap.size w V → Calls Tryz.prog 66 #[.agg #[p0, p1, p2], vKey k] V fun r w' => r = .returned (lookV (kn k) k) ∧ Below V.heap.size V w')
    (h1c : p0.oneCell' = true ∧ p1.oneCell' = true ∧ p2.oneCell' = true) (p : ByteArray) (follow : Bool) (links : Int) (hl0 : -9223372036854775808 ≤ links) (hl1 : links ≤ 9223372036854775807) :
    Calls Tryz.prog 15 #[.agg #[p0, p1, p2], .string p, .bool follow, .int .i64 links] w (OutPost w (Wk.walk kn p.toList follow (min (max links 0) 8).toNat)) := by
  have hsp := fun W => refSplit_any p W
  have hlen := Nm.splitR_len p.toList
  obtain ⟨RUN, hRUN⟩ : ∃ RUN, RUN = Wk.walk kn p.toList follow (min (max links 0) 8).toNat := ⟨_, rfl⟩
  rw [← hRUN]
  unfold Wk.walk at hRUN
  generalize Nm.splitR p.toList = R at hsp hlen hRUN
  obtain ⟨ss, dir, er⟩ := R
  simp only at hsp hlen hRUN
  have HSP := Lib.hid hsp
  have HRUN := Lib.hid hRUN
  have HLK := Lib.hid hlook
  clear hsp hRUN hlook
  go_enter Tryz.func15, Tryz.ntmps15
  go_wp2_with fail
  refine (HSP.out _).mono ?_
  rintro r w1 ⟨v1, rfl, hown1, hb1⟩
  obtain ⟨A1, c1, rfl⟩ := own_slice hown1
  have k0 : At w1 w.heap.size 41 [p0, p1, p2] := ((At.new w 41 [p0, p1, p2]).alloc (.cells (outCells (out0 []) (.slice none 0 0)).toArray 35)).below hb1
  have h0 : At w1 (w.heap.size + 1) 35 (outCells (out0 []) (.slice none 0 0)) := (At.new_ (w.alloc (.cells #[p0, p1, p2] 41)) 35 (outCells (out0 []) (.slice none 0 0)) (by simp)).below hb1
  have HB := Lib.hid ((((Below.refl _ w).alloc (Nat.le_refl _) (.cells #[p0, p1, p2] 41)).alloc (by simp) (.cells (outCells (out0 []) (.slice none 0 0)).toArray 35)).trans (hb1.mono (by simp; omega)))
  have HO := Lib.hid hown1
  have H0 := Lib.hid h0
  have c0 : w1.cell? ⟨w.heap.size, 0, none⟩ = some p0 := by rw [k0.cell]; rfl
  have c1' : w1.cell? ⟨w.heap.size, 1, none⟩ = some p1 := by rw [k0.cell]; rfl
  have c2' : w1.cell? ⟨w.heap.size, 2, none⟩ = some p2 := by rw [k0.cell]; rfl
  clear hown1 hb1 h0 k0
  cases hq : (er != 0) with
  | true =>
    have hq' : er ≠ 0 := by simpa using hq
    have hrun := HRUN.out
    rw [if_pos hq'] at hrun
    have HRUN2 := Lib.hid hrun
    clear hrun hq' HRUN
    go_wp2_with ((with_reducible refine wpList_isStore 35 (.tmp 8) (.tmp 21) ?_); refine wpList_hold ?_)
    refine Lib.hid ?_
    refine wpList_store_blk rfl 35 (.tmp 8) (.tmp 21) rfl (w.heap.size + 1) 0 (vOut (Wk.fail er []) (.slice none 0 0)) rfl rfl H0.out info_out ?c2 rfl ?_
    case c2 => exact Nat.le_refl 9
    intro w3 hr3 hk3 hz3
    have HR3 : Hid (At w3 (w.heap.size + 1) 35 (outCells (Wk.fail er []) (.slice none 0 0))) := hr3
    have HK3 := Lib.hid hk3
    clear hr3 hk3 hz3
    go_wp2_with fail
    refine bodyPost_ret (v := vOut (Wk.fail er []) (.slice none 0 0)) (results_cell_row rfl _ _ _ _ _ _ _ rfl HR3.out Tryz.underlying35 rfl info_out) rfl ?_
    rw [HRUN2.out]
    exact ⟨_, rfl, World.ownsRow_nil _ _ _ _, HB.out.trans (HK3.out.to_below HB.out.size (fun k hk => by omega))⟩
  | false =>
    have hq' : er = 0 := by simpa using hq
    have hrun := HRUN.out
    rw [if_neg (by simp [hq'])] at hrun
    have HRUN2 := Lib.hid hrun
    clear hrun hq' HRUN
    have hst := refSteps_any w1 p0 p1 p2 kn (fun V k hV => HLK.out V k (HB.out.trans (hV.mono HB.out.size))) h1c A1 ss.length c1 ss dir follow links (by omega) hl0 hl1 (Rd.of_own HO.out)
    have HST := Lib.hid hst
    clear hst HLK
    go_wp2_with fail
    refine (HST.out).mono ?_
    rintro r w2 ⟨v2, rfl, hown2, hb2⟩
    obtain ⟨A2, c2, rfl⟩ := own_slice hown2
    rw [← HRUN2.out] at hown2 ⊢
    have HO2 := Lib.hid (own_base hown2 HB.out.size)
    have HB2 := Lib.hid (HB.out.trans (hb2.mono HB.out.size))
    have H2 := Lib.hid (H0.out.below hb2)
    have hwlt := H0.out.lt
    have HF : Hid (∀ k, (Value.slice A2 RUN.2.2.2.2.length c2).ownBlock = some k → k ≠ w.heap.size + 1) := fun k hk q => by
      have := (hown2.lt k hk).1
      omega
    clear hown2 hb2 c0 c1' c2'
    go_wp2_with ((with_reducible refine wpList_isStore 35 (.tmp 8) (.tmp 27) ?_); refine wpList_hold ?_)
    refine Lib.hid ?_
    refine wpList_store_blk rfl 35 (.tmp 8) (.tmp 27) rfl (w.heap.size + 1) 0 (vOut RUN (.slice A2 RUN.2.2.2.2.length c2)) rfl rfl H2.out info_out ?c2 rfl ?_
    case c2 => exact Nat.le_refl 9
    intro w3 hr3 hk3 hz3
    have HR3 : Hid (At w3 (w.heap.size + 1) 35 (outCells RUN (.slice A2 RUN.2.2.2.2.length c2))) := hr3
    have HK3 := Lib.hid hk3
    clear hr3 hk3 hz3
    go_wp2_with fail
    refine bodyPost_ret (v := vOut RUN (.slice A2 RUN.2.2.2.2.length c2)) (results_cell_row rfl _ _ _ _ _ _ _ rfl HR3.out Tryz.underlying35 rfl info_out) rfl ?_
    exact ⟨_, rfl, own_kp HO2.out HK3.out HF.out, HB2.out.trans (HK3.out.to_below HB2.out.size (fun k hk => by omega))⟩
end Go.Proofs.YtmaadimodjnnlaaGreatDoor

namespace Go.Proofs.YtmaadimodjnnlaaGreatDoor
open Go.RowKit

attribute [local go_sem ↓] Go.wp_at_zero Go.wp_at_succ

set_option maxRecDepth 100000 in
set_option maxHeartbeats 4000000 in
theorem walkSteps_walk (A : Option Addr) (n cp : Nat) (s : List Op12) (Af : Option Addr) (nf cf : Nat) (fresh : List En) (As : Option Addr) (ns cs : Nat) (ss : List (List UInt8)) (dir follow : Bool) (links : Int) (hl0 : -9223372036854775808 ≤ links) (hl1 : links ≤ 9223372036854775807) (w : World)
    (hs : ScriptAt w w.heap.size A n s) (hn : n ≤ 1256584717421) (hf : Rd w 7 Af nf (cEns fresh)) (hnf : nf ≤ 1954687338211) (hss : Rd w 1 As ns (txts ss)) (hns : ns ≤ 2000000) :
    Calls Tryz.prog 4 #[.slice A n cp, .slice Af nf cf, .slice As ns cs, .bool dir, .bool follow, .int .i64 links] w fun e w' => e = .returned (.bool true) ∧ Below w.heap.size w w' := by
  have hof := fun V H => of_any V A n cp s hn H
  have hok := StOk.all s s.length (Nat.le_refl _)
  rw [List.take_length] at hok
  have hlen : s.length = n := hs.1
  generalize stAll s = S at hof hok
  obtain ⟨l, wh, clk, L, W⟩ := S
  obtain ⟨hrel, hk0, hk1, hLn, hWn⟩ := hok
  simp only at hrel hk0 hk1 hLn hWn
  have hkk : knownOf fresh l wh = knownR fresh L W := funext fun k => Rel.known hrel fresh k
  obtain ⟨RUN, hRUN⟩ : ∃ RUN, Wk.steps (knownOf fresh l wh) follow (min (max links 0) 8).toNat ss [rootNd] dir [] = RUN := ⟨_, rfl⟩
  have hwk := fun V A0 n0 c0 B0 m0 d0 c e h h1 h2 h3 h4 H => steps_any V A0 B0 n0 c0 m0 d0 fresh ss dir follow links c e h l wh clk h1 h2 hl0 hl1 h3 h4 H
  have hrw := fun (V : World) (B cb : Nat) (F : Nat → Prop) (A1 : Option Addr) (c1 : Nat) (A2 : Option Addr) (c2 : Nat) (H : RefAt V B cb F A1 c1 A2 c2 L W) (hr : Rd V 7 Af nf (cEns fresh)) (h2 : Rd V 1 As ns (txts ss)) =>
    refSteps_any V (.pointer (some ⟨cb, 0, none⟩)) (.slice Af nf cf) (.pointer none) (knownR fresh L W) (fun V' k hV => look14_any V' B cb F A1 c1 A2 c2 L W Af nf cf fresh k (by omega) (hr.below hV) (by omega) (by omega) (H.below hV)) ⟨rfl, rfl, rfl⟩ As ns cs ss dir follow links hns hl0 hl1 h2
  rw [← hkk] at hrw
  rw [hRUN] at hwk hrw
  have hli := fun V B cb F A1 c1 A2 c2 c e h hc hr => like_any V B cb F A1 c1 A2 c2 L W c e h l wh clk hc hr hrel (by omega) (by omega)
  have HSC := Lib.hid hs
  have HF := Lib.hid hf
  have HT := Lib.hid hss
  have HOF := Lib.hid hof
  have HWK := Lib.hid hwk
  have HRW := Lib.hid hrw
  have HLI := Lib.hid hli
  clear hs hf hss hof hwk hrw hli hRUN hkk hrel hk0 hk1 hLn hWn hlen
  go_enter Tryz.func4, Tryz.ntmps4
  go_wp2_with fail
  refine (HOF.out _ HSC.out).mono ?_
  rintro r w1 ⟨c, e, h, cb, rfl, hca, ⟨A1, c1, A2, c2, hra⟩, hb1, _, _, _⟩
  have HB1 := Lib.hid hb1
  have HF1 := Lib.hid (HF.out.below hb1)
  have HT1 := Lib.hid (HT.out.below hb1)
  have HL1 : Hid (LK w1 w.heap.size cb (fun k => k < w.heap.size ∨ k = c ∨ k = e ∨ k = h) A1 c1 A2 c2 L W c e h l wh clk w1) := ⟨hca, hra, Below.refl _ _⟩
  clear hb1 hca hra HOF HSC HF HT
  go_wp2_with fail
  refine (copyEntries_any Af nf cf fresh _ HF1.out (by omega)).mono ?_
  rintro r w2 ⟨v2, rfl, hown2, hb2⟩
  obtain ⟨A4, c4, rfl⟩ := own_slice hown2
  have HB2 := Lib.hid (HB1.out.trans (hb2.mono HB1.out.size))
  have HF2 := Lib.hid (HF1.out.below hb2)
  have HT2 := Lib.hid (HT1.out.below hb2)
  have HL2 := Lib.hid (HL1.out.next hb2)
  have HR2 := Lib.hid (Rd.of_own hown2)
  clear hown2 hb2 HF1 HL1 HT1
  go_wp2_with fail
  refine (copyT_any As ns cs ss _ HT2.out (by omega)).mono ?_
  rintro r wt ⟨vt, rfl, hownt, hbt⟩
  obtain ⟨A7, ct, rfl⟩ := own_slice hownt
  have HBt := Lib.hid (HB2.out.trans (hbt.mono HB2.out.size))
  have HFt := Lib.hid (HF2.out.below hbt)
  have HTt := Lib.hid (HT2.out.below hbt)
  have HLt := Lib.hid (HL2.out.next hbt)
  have HRt := Lib.hid (HR2.out.below hbt)
  have HSt := Lib.hid (Rd.of_own hownt)
  clear hownt hbt HF2 HL2 HT2 HR2 HB2
  go_wp2_with fail
  refine (HWK.out _ _ _ _ _ _ _ _ _ _ (by omega) hns HRt.out HSt.out HLt.out.ca).mono ?_
  rintro r w3 ⟨v3, rfl, hown3, hb3⟩
  have hle3 := own_le hown3
  obtain ⟨A3, c3, rfl⟩ := own_slice hown3
  obtain ⟨nd, ⟨kd, kn⟩, er, ⟨ni, nk, nm, nt⟩, us⟩ := RUN
  simp only [vOut, outCells, txt] at hown3 hle3 ⊢
  have HB3 := Lib.hid (HBt.out.trans (hb3.mono HBt.out.size))
  have HF3 := Lib.hid (HFt.out.below hb3)
  have HT3 := Lib.hid (HTt.out.below hb3)
  have HL3 := Lib.hid (HLt.out.next hb3)
  have HO3 := Lib.hid (Rd.of_own hown3)
  have hle : us.length ≤ maxLen := hle3
  have HLE := Lib.hid hle
  clear hown3 hb3 hle3 hle HRt HFt HLt HTt HSt HWK
  go_upto_region 5 with fail
  have AO : Hid (At (w3.alloc (.cells #[.bool nd, .int .i64 kd, .string ⟨kn.toArray⟩, .int .i64 er, .int .i64 ni, .int .i64 nk, .int .i64 nm, .string ⟨nt.toArray⟩, .slice A3 us.length c3] 35)) w3.heap.size 35 (outCells (nd, (kd, kn), er, (ni, nk, nm, nt), us) (.slice A3 us.length c3))) := At.new w3 35 (outCells (nd, (kd, kn), er, (ni, nk, nm, nt), us) (.slice A3 us.length c3))
  have hb4 : Below w3.heap.size w3 (w3.alloc (.cells #[.bool nd, .int .i64 kd, .string ⟨kn.toArray⟩, .int .i64 er, .int .i64 ni, .int .i64 nk, .int .i64 nm, .string ⟨nt.toArray⟩, .slice A3 us.length c3] 35)) := (Below.refl _ _).alloc (Nat.le_refl _) _
  have HB4 := Lib.hid (HB3.out.trans (hb4.mono HB3.out.size))
  have HF4 := Lib.hid (HF3.out.below hb4)
  have HT4 := Lib.hid (HT3.out.below hb4)
  have HL4 := Lib.hid (HL3.out.next hb4)
  have HO4 := Lib.hid (HO3.out.below hb4)
  obtain ⟨w4, hw4⟩ : ∃ w4, w3.alloc (.cells #[.bool nd, .int .i64 kd, .string ⟨kn.toArray⟩, .int .i64 er, .int .i64 ni, .int .i64 nk, .int .i64 nm, .string ⟨nt.toArray⟩, .slice A3 us.length c3] 35) = w4 := ⟨_, rfl⟩
  rw [hw4] at AO HB4 HF4 HT4 HL4 HO4 ⊢
  clear hw4 hb4 HO3 HL3 HF3 HT3
  go_wp2_with fail
  refine (HRW.out _ _ _ _ _ _ _ _ HL4.out.ra HF4.out HT4.out).mono ?_
  rintro r w5 ⟨v5, rfl, hown5, hb5⟩
  obtain ⟨A5, c5, rfl⟩ := own_slice hown5
  simp only [vOut, outCells, txt] at hown5 ⊢
  have HB5 := Lib.hid (HB4.out.trans (hb5.mono HB4.out.size))
  have HL5 := Lib.hid (HL4.out.next hb5)
  have HO5 := Lib.hid (HO4.out.below hb5)
  have AO5 := Lib.hid (AO.out.below hb5)
  have HP5 := Lib.hid (Rd.of_own hown5)
  clear hown5 hb5 HO4 HL4 HF4 HT4 AO
  go_upto_region 6 with fail
  have AP : Hid (At (w5.alloc (.cells #[.bool nd, .int .i64 kd, .string ⟨kn.toArray⟩, .int .i64 er, .int .i64 ni, .int .i64 nk, .int .i64 nm, .string ⟨nt.toArray⟩, .slice A5 us.length c5] 35)) w5.heap.size 35 (outCells (nd, (kd, kn), er, (ni, nk, nm, nt), us) (.slice A5 us.length c5))) := At.new w5 35 (outCells (nd, (kd, kn), er, (ni, nk, nm, nt), us) (.slice A5 us.length c5))
  have hb6 : Below w5.heap.size w5 (w5.alloc (.cells #[.bool nd, .int .i64 kd, .string ⟨kn.toArray⟩, .int .i64 er, .int .i64 ni, .int .i64 nk, .int .i64 nm, .string ⟨nt.toArray⟩, .slice A5 us.length c5] 35)) := (Below.refl _ _).alloc (Nat.le_refl _) _
  have HB6 := Lib.hid (HB5.out.trans (hb6.mono HB5.out.size))
  have HL6 := Lib.hid (HL5.out.next hb6)
  have HO6 := Lib.hid (HO5.out.below hb6)
  have HP6 := Lib.hid (HP5.out.below hb6)
  have AO6 := Lib.hid (AO5.out.below hb6)
  obtain ⟨w6, hw6⟩ : ∃ w6, w5.alloc (.cells #[.bool nd, .int .i64 kd, .string ⟨kn.toArray⟩, .int .i64 er, .int .i64 ni, .int .i64 nk, .int .i64 nm, .string ⟨nt.toArray⟩, .slice A5 us.length c5] 35) = w6 := ⟨_, rfl⟩
  rw [hw6] at AP HB6 HL6 HO6 HP6 AO6 ⊢
  clear hw6 hb6 HO5 HP5 HL5 AO5
  obtain ⟨o0, o1, o2, o3, o4, o5, o6, o7, o8⟩ := out_cells AO6.out
  obtain ⟨p0, p1, p2, p3, p4, p5, p6, p7, p8⟩ := out_cells AP.out
  have hso := sameOut_yes (nd, (kd, kn), er, (ni, nk, nm, nt), us) A3 A5 us.length c3 c5 w6 HO6.out HP6.out HLE.out
  simp only [vOut, outCells, txt] at hso
  have HSO := Lib.hid hso
  clear hso
  go_wp2_with fail
  refine (HSO.out).mono ?_
  rintro r w7 ⟨rfl, hb7⟩
  have HB7 := Lib.hid (HB6.out.trans (hb7.mono HB6.out.size))
  have HL7 := Lib.hid (HL6.out.next hb7)
  clear hb7 o0 o1 o2 o3 o4 o5 o6 o7 o8 p0 p1 p2 p3 p4 p5 p6 p7 p8
  go_wp2_with fail
  refine (HLI.out _ _ _ _ _ _ _ _ _ _ _ HL7.out.ca HL7.out.ra).mono ?_
  rintro r w8 ⟨rfl, hb8⟩
  have HB8 := Lib.hid (HB7.out.trans (hb8.mono HB7.out.size))
  clear hb8
  go_wp2_with fail
  refine (awake14 _).mono ?_
  rintro r w9 ⟨rfl, hb9⟩
  go_wp2_with fail
  go_ret
  exact ⟨rfl, HB8.out.trans (hb9.mono HB8.out.size)⟩
end Go.Proofs.YtmaadimodjnnlaaGreatDoor

namespace Go.Proofs.YtmaadimodjnnlaaGreatDoor
open Go.ChangeShapes Go.WideShapes Go.ChangeAt Go.RowKit

theorem own : ownKnob Tryz.prog.godebug = none := by kernel_rfl
theorem laidOutB_ : laidOutB Tryz.prog = true := by kernel_rfl

/-- All arguments read as they did. -/
theorem trodAll_below {H : Type} {enc : TypeId × Value → H} {W W' : World} (hb : Below W.heap.size W W') :
    ∀ (ts : List TypeId) (vs : List Value) (ds : List (DataW H)) (ps : List MemPlace), (∀ t ∈ ts, Tryz.prog.readableRec t = true ∧ t < Tryz.prog.types.size) → (∀ x ∈ ps, x.block < W.heap.size) →
      DataW.TrodAll enc Tryz.prog W 0 (fun _ => true) true ts vs ds ps → DataW.TrodAll enc Tryz.prog W' 0 (fun b => decide (b < W.heap.size)) true ts vs ds ps
  | [], vs, ds, ps, _, _, h => by
    obtain ⟨rfl, rfl, rfl⟩ := trodAll_nil h
    exact trodAll_mk0
  | t :: ts, vs, ds, ps, hr, hlt, h => by
    obtain ⟨v, vs', d, ds', p, q, rfl, rfl, rfl, h1, h2⟩ := trodAll_cons h
    have ht := hr t (by simp)
    exact trodAll_cons_mk (Below.trod laidOutB_ ht.1 ht.2 h1 hb (fun x hx => hlt x (by simp [hx]))) (trodAll_below hb ts vs' ds' q (fun t ht => hr t (by simp [ht])) (fun x hx => hlt x (by simp [hx])) h2)

theorem post_law {H : Type} {enc : TypeId × Value → H} {f : Func} {s : ChangeSpec} {W W' : World} {args : Array Value} {ds gs : List (DataW H)} {before : List MemPlace}
    (hW : DataW.Whole enc Tryz.prog f.params.toList s.vars false W args.toList ds gs before) (hv : s.vars = []) (hr : ∀ t ∈ f.params.toList, Tryz.prog.readableRec t = true ∧ t < Tryz.prog.types.size)
    (hb : Below W.heap.size W W') (hres : (s.fn H (ds ++ gs)).results = [.lit (.bool true)]) (hargs : (s.fn H (ds ++ gs)).args = ds) (hvars : (s.fn H (ds ++ gs)).vars = []) (hrt : f.resultTypes = #[4]) :
    s.post enc Tryz.prog f false true false false W args (.bool true) W' := by
  have hW' := hW
  have hlt : ∀ p ∈ before, p.block < W.heap.size := fun p hp => hW.lt p hp
  obtain ⟨p, q, hA, hV, rfl, _, _⟩ := hW
  rw [hv] at hV
  obtain ⟨rfl, rfl⟩ := trodVars_none hV
  refine ⟨ds, _, _, [], p, [], hW', ?_, ?_, ?_, hb.frame _, fun h => by cases h⟩
  · rw [hres, hrt]; exact trodAll_mk1 (shut_bool Tryz.underlying4 _)
  · rw [hargs]; exact trodAll_below hb _ _ _ _ hr (fun x hx => hlt x (by simp [hx])) hA
  · rw [hvars, hv]; rfl

theorem str_bound {s : ByteArray} (h : s.data.toList.length ≤ reachBytes) : s.size ≤ 140737488355328 := by
  have hr : reachBytes ≤ 140737488355328 := by decide
  rw [size_toList, ByteArray.toList_eq]
  omega

/-- A world for the witness: the settled one, the library's two tables holding what their initialisers lay. -/
noncomputable def laidWorld (os : Os) : World :=
  let w0 := World.holding Tryz.prog os ⟨#[], #[], []⟩
  let put (h : Array Obj) (g : Nat) (cs : Array Value) : Array Obj := h.modify g fun
    | .cells _ t frozen => .cells cs t frozen
    | o => o
  let h1 := put w0.heap 1 (Lib.firstTab.map fun z => Value.int .u8 z).toArray
  let h2 := put h1 2 ((List.range 16).flatMap fun i => [Value.int .u8 (Lib.accLo i), Value.int .u8 (Lib.accHi i)]).toArray
  { w0 with heap := h2 }
theorem laid_met (os : Os) (args : Array Value) : laidMet Tryz.prog [("unicode/utf8.acceptRanges", Rows.laid_unicode_utf8_acceptRanges), ("unicode/utf8.first", Rows.laid_unicode_utf8_first)] ((laidWorld os).forCall (fun _ _ => 0) ⟨#[], args, []⟩).memory := by
  have e : Rows.laid_unicode_utf8_first = Lib.firstData := Pinned.utf8First_eq
  rw [e]
  exact (LaidIn.of_run (l := [("unicode/utf8.acceptRanges", Rows.laid_unicode_utf8_acceptRanges), ("unicode/utf8.first", Lib.firstData)]) [2, 1] 8 (by kernel_rfl) (by kernel_rfl) (by kernel_rfl) (by kernel_rfl)).met
end Go.Proofs.YtmaadimodjnnlaaGreatDoor

namespace Go.Proofs.YtmaadimodjnnlaaGreatDoor
open Go.ChangeShapes Go.WideShapes Go.ChangeAt Go.RowKit Go.Deep

def inI (a : Int) : Prop := -9223372036854775808 ≤ a ∧ a ≤ 9223372036854775807

theorem inI_wf {n : Int} (h : (Lit.int .i64 n).wf = true) : inI n := bounds_i64 h

section
variable {H : Type} {enc : TypeId × Value → H} {W : World} {base : Nat} {spare : Nat → Bool} {held : Bool} {fuel : Nat} {cs : List Value} {x : DataW H × List MemPlace}

theorem cellsOf_key : Tryz.prog.cellsOf 29 = 2 := by kernel_rfl
theorem cellsOf_node : Tryz.prog.cellsOf 32 = 4 := by kernel_rfl
theorem cellsOf_entry : Tryz.prog.cellsOf 52 = 7 := by kernel_rfl
theorem cellsOf_op12 : Tryz.prog.cellsOf 84 = 10 := by kernel_rfl
theorem cellsOf_int_ : Tryz.prog.cellsOf 3 = 1 := by kernel_rfl
theorem cellsOf_str_ : Tryz.prog.cellsOf 9 = 1 := by kernel_rfl
theorem cellsOf_bool_ : Tryz.prog.cellsOf 4 = 1 := by kernel_rfl
theorem cellsOf_keys_ : Tryz.prog.cellsOf 33 = 1 := by kernel_rfl

theorem txt_of (s : ByteArray) : (.string s : Value) = txt s.data.toList := by unfold txt; simp

set_option maxRecDepth 100000 in
theorem trod_key (h : DataW.trod enc Tryz.prog W base spare held fuel 29 cs = some x) : ∃ k : Key, cs = [.int .i64 k.1, txt k.2] ∧ inI k.1 := by
  obtain ⟨xs, n, _, _, hlen, hxl, hf⟩ := DataW.trod_struct Tryz.underlying29 h
  match cs, hlen.trans cellsOf_key with
  | [a, b], _ =>
    match xs, hxl with
    | [y0, y1], _ =>
      have h0 : DataW.trod enc Tryz.prog W base spare held n 3 (([a, b].drop 0).take (Tryz.prog.cellsOf 3)) = some y0 := hf 0 _ rfl
      have h1 : DataW.trod enc Tryz.prog W base spare held n 9 (([a, b].drop 1).take (Tryz.prog.cellsOf 9)) = some y1 := hf 1 _ rfl
      simp only [cellsOf_int_, cellsOf_str_, List.drop_zero, List.drop_succ_cons, List.take_succ_cons, List.take_zero] at h0 h1
      obtain ⟨n0, e0, _, w0⟩ := DataW.trod_int Tryz.underlying3 h0
      obtain ⟨s1, e1, _, _⟩ := DataW.trod_string Tryz.underlying9 h1
      simp only [List.cons.injEq, and_true] at e0 e1
      exact ⟨(n0, s1.data.toList), by rw [e0, e1, txt_of], inI_wf w0⟩

set_option maxRecDepth 100000 in
theorem trod_node (h : DataW.trod enc Tryz.prog W base spare held fuel 32 cs = some x) : ∃ k : Nd, cs = [.int .i64 k.1, .int .i64 k.2.1, .int .i64 k.2.2.1, txt k.2.2.2] ∧ inI k.1 ∧ inI k.2.1 ∧ inI k.2.2.1 := by
  obtain ⟨xs, n, _, _, hlen, hxl, hf⟩ := DataW.trod_struct Tryz.underlying32 h
  match cs, hlen.trans cellsOf_node with
  | [a, b, c, d], _ =>
    match xs, hxl with
    | [y0, y1, y2, y3], _ =>
      have h0 : DataW.trod enc Tryz.prog W base spare held n 3 (([a, b, c, d].drop 0).take (Tryz.prog.cellsOf 3)) = some y0 := hf 0 _ rfl
      have h1 : DataW.trod enc Tryz.prog W base spare held n 3 (([a, b, c, d].drop 1).take (Tryz.prog.cellsOf 3)) = some y1 := hf 1 _ rfl
      have h2 : DataW.trod enc Tryz.prog W base spare held n 3 (([a, b, c, d].drop 2).take (Tryz.prog.cellsOf 3)) = some y2 := hf 2 _ rfl
      have h3 : DataW.trod enc Tryz.prog W base spare held n 9 (([a, b, c, d].drop 3).take (Tryz.prog.cellsOf 9)) = some y3 := hf 3 _ rfl
      simp only [cellsOf_int_, cellsOf_str_, List.drop_zero, List.drop_succ_cons, List.take_succ_cons, List.take_zero] at h0 h1 h2 h3
      obtain ⟨n0, e0, _, w0⟩ := DataW.trod_int Tryz.underlying3 h0
      obtain ⟨n1, e1, _, w1⟩ := DataW.trod_int Tryz.underlying3 h1
      obtain ⟨n2, e2, _, w2⟩ := DataW.trod_int Tryz.underlying3 h2
      obtain ⟨s3, e3, _, _⟩ := DataW.trod_string Tryz.underlying9 h3
      simp only [List.cons.injEq, and_true] at e0 e1 e2 e3
      exact ⟨(n0, n1, n2, s3.data.toList), by rw [e0, e1, e2, e3, txt_of], inI_wf w0, inI_wf w1, inI_wf w2⟩

def EnIn (e : En) : Prop := inI e.1.1 ∧ inI e.2.2.1 ∧ inI e.2.2.2.1 ∧ inI e.2.2.2.2.1

set_option maxRecDepth 100000 in
theorem trod_entry (h : DataW.trod enc Tryz.prog W base spare held fuel 52 cs = some x) : ∃ e : En, cs = cEn e ∧ EnIn e := by
  obtain ⟨xs, n, _, _, hlen, hxl, hf⟩ := DataW.trod_struct Tryz.underlying52 h
  match cs, hlen.trans cellsOf_entry with
  | [a, b, c, d, e, f, g], _ =>
    match xs, hxl with
    | [y0, y1, y2], _ =>
      have h0 : DataW.trod enc Tryz.prog W base spare held n 29 (([a, b, c, d, e, f, g].drop 0).take (Tryz.prog.cellsOf 29)) = some y0 := hf 0 _ rfl
      have h1 : DataW.trod enc Tryz.prog W base spare held n 4 (([a, b, c, d, e, f, g].drop 2).take (Tryz.prog.cellsOf 4)) = some y1 := hf 1 _ rfl
      have h2 : DataW.trod enc Tryz.prog W base spare held n 32 (([a, b, c, d, e, f, g].drop 3).take (Tryz.prog.cellsOf 32)) = some y2 := hf 2 _ rfl
      simp only [cellsOf_key, cellsOf_node, cellsOf_bool_, List.drop_zero, List.drop_succ_cons, List.take_succ_cons, List.take_zero] at h0 h1 h2
      obtain ⟨k, e0, w0⟩ := trod_key h0
      obtain ⟨bb, e1, _⟩ := DataW.trod_bool Tryz.underlying4 h1
      obtain ⟨nd, e2, w1, w2, w3⟩ := trod_node h2
      simp only [List.cons.injEq, and_true] at e0 e1 e2
      obtain ⟨rfl, rfl⟩ := e0
      subst e1
      obtain ⟨rfl, rfl, rfl, rfl⟩ := e2
      exact ⟨(k, bb, nd), rfl, w0, w1, w2, w3⟩

theorem weights_mem_all {P : Program} {e : TypeId} {d : DataW H} : ∀ {l : List (DataW H)}, d ∈ l → ∀ n ∈ d.weights P e, n ∈ DataW.weightsAll P e l
  | [], h, _, _ => by cases h
  | a :: r, h, n, hn => by
    unfold DataW.weightsAll
    rcases List.mem_cons.1 h with rfl | h
    · exact List.mem_append_left _ hn
    · exact List.mem_append_right _ (weights_mem_all h n hn)

theorem weights_slice {P : Program} {t e : TypeId} {elems sp : List (DataW H)} (ht : P.underlying t = some (.slice e)) {B : Nat} (h : ∀ n ∈ (DataW.slice elems sp).weights P t, n ≤ B) :
    (elems.length + sp.length) * P.bytesOf e ≤ B ∧ ∀ d ∈ elems, ∀ n ∈ d.weights P e, n ≤ B := by
  unfold DataW.weights at h
  rw [ht] at h
  simp only [List.mem_cons, List.mem_append] at h
  exact ⟨h _ (.inl rfl), fun d hd n hn => h n (.inr (.inl (weights_mem_all hd n hn)))⟩

/-- A slice of keys, read as a list. -/
theorem trod_keys {B : Nat} (h : DataW.trod enc Tryz.prog W base spare held fuel 33 cs = some x) (hw : ∀ n ∈ x.1.weights Tryz.prog 33, n ≤ B) :
    ∃ A n c ks, cs = [.slice A n c] ∧ Rd W 2 A n (cKeys ks) ∧ n * 24 ≤ B ∧ (∀ a, A = some a → a.block < W.heap.size ∨ n = 0) := by
  rcases open_slice Tryz.underlying33 h with ⟨rfl, _⟩ | ⟨a, len, cap, m, n, D, Pl, rfl, _, hl, _, hm, rfl, hi⟩
  · exact ⟨none, 0, 0, [], rfl, ⟨rfl, fun h => absurd h (by omega)⟩, by omega, fun a q => by cases q⟩
  · have hlm : len ≤ m := by rw [hm]; split <;> omega
    have hk : ∀ i, i < len → ∃ k : Key, W.cell? (a.add (i * 2)) = some (.int .i64 k.1) ∧ W.cell? (a.add (i * 2 + 1)) = some (txt k.2) := by
      intro i hil
      obtain ⟨cs', hc, ht⟩ := hi i (by omega)
      rw [cellsOf_key] at hc
      obtain ⟨k, rfl, _⟩ := trod_key ht
      obtain ⟨_, _, hat⟩ := World.cells?_some hc
      refine ⟨k, ?_, ?_⟩
      · have := hat 0 (by omega)
        rwa [addr_zero] at this
      · have := hat 1 (by omega)
        rwa [add_assoc_] at this
    obtain ⟨f, hfn⟩ := Classical.axiomOfChoice (r := fun (i : Nat) (k : Key) => i < len → W.cell? (a.add (i * 2)) = some (.int .i64 k.1) ∧ W.cell? (a.add (i * 2 + 1)) = some (txt k.2)) (fun i => by
      by_cases h : i < len
      · obtain ⟨k, hk⟩ := hk i h
        exact ⟨k, fun _ => hk⟩
      · exact ⟨(0, []), fun q => absurd q h⟩)
    refine ⟨some a, len, cap, (List.range len).map f, rfl, ?_, ?_, ?_⟩
    · refine ⟨by rw [cKeys_length]; simp, fun h0 => ⟨a, rfl, ?_, fun j u hu => ?_⟩⟩
      · have := World.block_lt_of_cell? _ _ (hfn 0 h0).1
        rwa [add_block] at this
      · have hj : j < len * 2 := by
          have := (List.getElem?_eq_some_iff.1 hu).1
          rw [cKeys_length] at this
          simpa using this
        have hj2 : j / 2 < len := by omega
        have hq : ((List.range len).map f)[j / 2]? = some (f (j / 2)) := by simp [hj2]
        obtain ⟨h1, h2⟩ := hfn (j / 2) hj2
        by_cases hpar : j % 2 = 0
        · have hj' : j = j / 2 * 2 := by omega
          rw [hj', ← Nat.add_zero (j / 2 * 2), cKeys_get _ _ _ hq 0 (by omega)] at hu
          injection hu with hu
          rw [hj', ← hu]
          exact h1
        · have hj' : j = j / 2 * 2 + 1 := by omega
          rw [hj', cKeys_get _ _ _ hq 1 (by omega)] at hu
          injection hu with hu
          rw [hj', ← hu]
          exact h2
    · have := (weights_slice Tryz.underlying33 hw).1
      have hb : Tryz.prog.bytesOf 29 = 24 := by kernel_rfl
      rw [hb] at this
      simp only [List.length_map, List.length_range] at this
      omega
    · intro a' e
      injection e with e
      subst e
      by_cases h0 : 0 < len
      · left
        have := World.block_lt_of_cell? _ _ (hfn 0 h0).1
        rwa [add_block] at this
      · right
        omega

set_option maxRecDepth 100000 in
theorem trod_op12 {B : Nat} (h : DataW.trod enc Tryz.prog W base spare held fuel 84 cs = some x) (hw : ∀ n ∈ x.1.weights Tryz.prog 84, n ≤ B) :
    ∃ (o : Op12) (A : Option Addr) (n c : Nat), cs = [.int .i64 o.1, .int .i64 o.2.1] ++ cEn o.2.2.1 ++ [.slice A n c] ∧ inI o.1 ∧ inI o.2.1 ∧ EnIn o.2.2.1 ∧ Rd W 2 A n (cKeys o.2.2.2) ∧ n * 24 ≤ B ∧ (∀ a, A = some a → a.block < W.heap.size ∨ n = 0) := by
  obtain ⟨xs, n, _, hx, hlen, hxl, hf⟩ := DataW.trod_struct Tryz.underlying84 h
  match cs, hlen.trans cellsOf_op12 with
  | [a, b, c, d, e, f, g, i, j, k], _ =>
    match xs, hxl with
    | [y0, y1, y2, y3], _ =>
      have h0 : DataW.trod enc Tryz.prog W base spare held n 3 (([a, b, c, d, e, f, g, i, j, k].drop 0).take (Tryz.prog.cellsOf 3)) = some y0 := hf 0 _ rfl
      have h1 : DataW.trod enc Tryz.prog W base spare held n 3 (([a, b, c, d, e, f, g, i, j, k].drop 1).take (Tryz.prog.cellsOf 3)) = some y1 := hf 1 _ rfl
      have h2 : DataW.trod enc Tryz.prog W base spare held n 52 (([a, b, c, d, e, f, g, i, j, k].drop 2).take (Tryz.prog.cellsOf 52)) = some y2 := hf 2 _ rfl
      have h3 : DataW.trod enc Tryz.prog W base spare held n 33 (([a, b, c, d, e, f, g, i, j, k].drop 9).take (Tryz.prog.cellsOf 33)) = some y3 := hf 3 _ rfl
      have hw3 : ∀ n ∈ y3.1.weights Tryz.prog 33, n ≤ B := by
        intro n hn
        refine hw n ?_
        have hx1 : x.1 = .agg [y0.1, y1.1, y2.1, y3.1] := by rw [hx]; rfl
        rw [hx1]
        unfold DataW.weights
        rw [Tryz.underlying84]
        exact DataW.weights_mem_each (P := Tryz.prog) (ts := [3, 3, 52, 33]) (ds := [y0.1, y1.1, y2.1, y3.1]) (j := 3) rfl rfl n hn
      simp only [cellsOf_int_, cellsOf_entry, cellsOf_keys_, List.drop_zero, List.drop_succ_cons, List.take_succ_cons, List.take_zero] at h0 h1 h2 h3
      obtain ⟨n0, e0, _, w0⟩ := DataW.trod_int Tryz.underlying3 h0
      obtain ⟨n1, e1, _, w1⟩ := DataW.trod_int Tryz.underlying3 h1
      obtain ⟨en, e2, w2⟩ := trod_entry h2
      obtain ⟨A, m, cc, ks, e3, hr, hm, ha⟩ := trod_keys h3 hw3
      simp only [List.cons.injEq, and_true] at e0 e1 e3
      refine ⟨(n0, n1, en, ks), A, m, cc, ?_, inI_wf w0, inI_wf w1, w2, hr, hm, ha⟩
      simp only
      rw [← e2, e0, e1, e3]
      rfl

/-- A slice of entries, read as a list. -/
theorem trod_entries {B : Nat} (h : DataW.trod enc Tryz.prog W base spare held fuel 23 cs = some x) (hw : ∀ n ∈ x.1.weights Tryz.prog 23, n ≤ B) :
    ∃ A n c es, cs = [.slice A n c] ∧ Rd W 7 A n (cEns es) ∧ n * 72 ≤ B := by
  rcases open_slice Tryz.underlying23 h with ⟨rfl, _⟩ | ⟨a, len, cap, m, n, D, Pl, rfl, _, hl, _, hm, rfl, hi⟩
  · exact ⟨none, 0, 0, [], rfl, ⟨rfl, fun h => absurd h (by omega)⟩, by omega⟩
  · have hlm : len ≤ m := by rw [hm]; split <;> omega
    have hk : ∀ i, i < len → ∃ e : En, ∀ k u, (cEn e)[k]? = some u → W.cell? (a.add (i * 7 + k)) = some u := by
      intro i hil
      obtain ⟨cs', hc, ht⟩ := hi i (by omega)
      rw [cellsOf_entry] at hc
      obtain ⟨e, rfl, _⟩ := trod_entry ht
      obtain ⟨_, _, hat⟩ := World.cells?_some hc
      refine ⟨e, fun k u hu => ?_⟩
      have hk : k < 7 := (List.getElem?_eq_some_iff.1 hu).1
      have := hat k hk
      rw [add_assoc_] at this
      rw [this, hu]
    obtain ⟨f, hfn⟩ := Classical.axiomOfChoice (r := fun (i : Nat) (e : En) => i < len → ∀ k u, (cEn e)[k]? = some u → W.cell? (a.add (i * 7 + k)) = some u) (fun i => by
      by_cases h : i < len
      · obtain ⟨k, hk⟩ := hk i h
        exact ⟨k, fun _ => hk⟩
      · exact ⟨default, fun q => absurd q h⟩)
    refine ⟨some a, len, cap, (List.range len).map f, rfl, ?_, ?_⟩
    · refine ⟨by rw [cEns_length]; simp, fun h0 => ⟨a, rfl, ?_, fun j u hu => ?_⟩⟩
      · have := World.block_lt_of_cell? _ _ (hfn 0 h0 0 _ rfl)
        rwa [add_block] at this
      · have hj : j < len * 7 := by
          have := (List.getElem?_eq_some_iff.1 hu).1
          rw [cEns_length] at this
          simpa using this
        have hj2 : j / 7 < len := by omega
        have hq : ((List.range len).map f)[j / 7]? = some (f (j / 7)) := by simp [hj2]
        have hj' : j = j / 7 * 7 + j % 7 := by omega
        rw [hj', cEns_get _ _ _ hq (j % 7) (by omega)] at hu
        rw [hj']
        exact hfn (j / 7) hj2 _ u hu
    · have := (weights_slice Tryz.underlying23 hw).1
      have hb : Tryz.prog.bytesOf 52 = 72 := by kernel_rfl
      rw [hb] at this
      simp only [List.length_map, List.length_range] at this
      omega

theorem add_add_off (a : Addr) (i k : Nat) (h : 0 < k) : (a.add i).add k = ⟨(a.add i).block, (a.add i).off + k, none⟩ := by
  have e : ∀ b : Addr, b.add k = ⟨b.block, b.off + k, none⟩ := fun b => by
    unfold Addr.add
    rw [if_neg (by omega)]
  exact e _

/-- A script in memory. -/
theorem trod_script (h : DataW.trod enc Tryz.prog W base spare held fuel 22 cs = some x) (hw : ∀ n ∈ x.1.weights Tryz.prog 22, n ≤ 140737488351232) :
    ∃ A n c s, cs = [.slice A n c] ∧ ScriptAt W W.heap.size A n s ∧ n ≤ 1256584717421 ∧ n ≤ c := by
  rcases open_slice Tryz.underlying22 h with ⟨rfl, _⟩ | ⟨a, len, cap, m, n, D, Pl, rfl, _, hl, _, hm, rfl, hi⟩
  · exact ⟨none, 0, 0, [], rfl, ⟨rfl, fun j o q => by simp at q⟩, by omega, by omega⟩
  · have hlm : len ≤ m := by rw [hm]; split <;> omega
    obtain ⟨hw1, hw2⟩ := weights_slice Tryz.underlying22 hw
    have hk : ∀ i, i < len → ∃ o : Op12, OpAt W W.heap.size (a.add (i * 10)) o := by
      intro i hil
      obtain ⟨cs', hc, ht⟩ := hi i (by omega)
      rw [cellsOf_op12] at hc
      obtain ⟨o, A, kn, kc, rfl, b0, b1, _, hr, hkn, hA⟩ := trod_op12 (B := 140737488351232) ht (hw2 _ (List.mem_map.2 ⟨i, List.mem_range.2 hil, rfl⟩))
      obtain ⟨_, _, hat⟩ := World.cells?_some hc
      have hat' : ∀ k, 0 < k → k < 10 → W.cell? ⟨(a.add (i * 10)).block, (a.add (i * 10)).off + k, none⟩ = ([.int .i64 o.1, .int .i64 o.2.1] ++ cEn o.2.2.1 ++ [.slice A kn kc])[k]? := fun k h0 h1 => by
        rw [← add_add_off _ _ _ h0]
        exact hat k h1
      refine ⟨o, A, kn, kc, ?_, hat' 1 (by omega) (by omega), fun q u hu => ?_, hat' 9 (by omega) (by omega), hr, fun q e h0 => (hA q e).resolve_right (by omega), by omega, b0.1, b0.2⟩
      · have := hat 0 (by omega)
        rw [addr_zero] at this
        exact this
      · have hq : q < 7 := (List.getElem?_eq_some_iff.1 hu).1
        rw [hat' (2 + q) (by omega) (by omega), ← hu, List.append_assoc, List.getElem?_append_right (by simp), List.getElem?_append_left (by simp [cEn]; omega)]
        simp
    obtain ⟨f, hfn⟩ := Classical.axiomOfChoice (r := fun (i : Nat) (o : Op12) => i < len → OpAt W W.heap.size (a.add (i * 10)) o) (fun i => by
      by_cases h : i < len
      · obtain ⟨k, hk⟩ := hk i h
        exact ⟨k, fun _ => hk⟩
      · exact ⟨default, fun q => absurd q h⟩)
    refine ⟨some a, len, cap, (List.range len).map f, rfl, ⟨by simp, fun j o ho => ?_⟩, ?_, hl⟩
    · have hj : j < len := by
        have := (List.getElem?_eq_some_iff.1 ho).1
        simpa using this
      have hoj : o = f j := by simpa [hj] using ho.symm
      subst hoj
      have hop := hfn j hj
      refine ⟨a, rfl, ?_, hop⟩
      obtain ⟨_, _, _, h0, _⟩ := hop
      have := World.block_lt_of_cell? _ _ h0
      rwa [add_block] at this
    · have hb : Tryz.prog.bytesOf 84 = 112 := by kernel_rfl
      rw [hb] at hw1
      simp only [List.length_map, List.length_range] at hw1
      omega
end

theorem weights_at {H : Type} {ts : List TypeId} {ds : List (DataW H)} (h : (DataW.weightsEach Tryz.prog ts ds).all (· ≤ reachBytes) = true) {j : Nat} {t : TypeId} {d : DataW H} (ht : ts[j]? = some t) (hd : ds[j]? = some d) : ∀ n ∈ d.weights Tryz.prog t, n ≤ 140737488351232 := by
  intro n hn
  have := List.all_eq_true.1 h n (DataW.weights_mem_each ht hd n hn)
  have hr : reachBytes ≤ 140737488351232 := by decide
  simp only [decide_eq_true_eq] at this
  omega

section
variable {H : Type} {enc : TypeId × Value → H} {W : World} {base : Nat} {v : Value} {d : DataW H} {p : List MemPlace}

set_option maxRecDepth 100000 in
theorem open_script (hval : Value.okWide Tryz.prog W .any base 22 v) (h : DataW.Trod enc Tryz.prog W 0 (fun _ => true) true 22 v d p) (hw : ∀ n ∈ d.weights Tryz.prog 22, n ≤ 140737488351232) :
    ∃ A n c s, v = .slice A n c ∧ ScriptAt W W.heap.size A n s ∧ n ≤ 1256584717421 ∧ n ≤ c := by
  obtain ⟨a0, len, cap, rfl⟩ := okWide_slice Tryz.underlying22 hval
  obtain ⟨fuel, hf⟩ := h
  obtain ⟨A, n, c, s, e, h1, h2, h3⟩ := trod_script hf hw
  have e' : (.slice a0 len cap : Value) = .slice A n c := by simpa [Value.cells] using e
  exact ⟨A, n, c, s, e', h1, h2, h3⟩

set_option maxRecDepth 100000 in
theorem open_entries (hval : Value.okWide Tryz.prog W .any base 23 v) (h : DataW.Trod enc Tryz.prog W 0 (fun _ => true) true 23 v d p) (hw : ∀ n ∈ d.weights Tryz.prog 23, n ≤ 140737488351232) :
    ∃ A n c es, v = .slice A n c ∧ Rd W 7 A n (cEns es) ∧ n ≤ 1954687338211 := by
  obtain ⟨a0, len, cap, rfl⟩ := okWide_slice Tryz.underlying23 hval
  obtain ⟨fuel, hf⟩ := h
  obtain ⟨A, n, c, es, e, h1, h2⟩ := trod_entries hf hw
  have e' : (.slice a0 len cap : Value) = .slice A n c := by simpa [Value.cells] using e
  exact ⟨A, n, c, es, e', h1, by omega⟩

set_option maxRecDepth 100000 in
theorem open_entry (hval : Value.okWide Tryz.prog W .any base 52 v) (h : DataW.Trod enc Tryz.prog W 0 (fun _ => true) true 52 v d p) : ∃ e : En, v = vEn e ∧ EnIn e := by
  obtain ⟨cs, rfl, hsz⟩ := okWide_struct Tryz.underlying52 hval
  obtain ⟨fuel, hf⟩ := h
  obtain ⟨e, he, hin⟩ := trod_entry hf
  refine ⟨e, ?_, hin⟩
  have : cs.toList = cEn e := by simpa [Value.cells] using he
  unfold vEn
  rw [show cs = (cEn e).toArray by rw [← this]]
  rfl
end
end Go.Proofs.YtmaadimodjnnlaaGreatDoor

namespace Go.Proofs.YtmaadimodjnnlaaGreatDoor
open Go.ChangeShapes Go.WideShapes Go.ChangeAt Go.RowKit

theorem cellsOf_string : Tryz.prog.cellsOf 9 = 1 := by kernel_rfl
theorem bytesOf_string : Tryz.prog.bytesOf 9 = 16 := by kernel_rfl

set_option maxRecDepth 100000 in
theorem open_texts {H : Type} {enc : TypeId × Value → H} {W : World} {base : Nat} {v : Value} {d : DataW H} {p : List MemPlace} (hval : Value.okWide Tryz.prog W .any base 46 v)
    (h : DataW.Trod enc Tryz.prog W 0 (fun _ => true) true 46 v d p) :
    ∃ A n c ls, v = .slice A n c ∧ Rd W 1 A n (txts ls) ∧ n ≤ c ∧ (n = 0 ∨ ∃ elems spare, d = .slice elems spare ∧ elems.length = n) := by
  obtain ⟨a0, len, cap, rfl⟩ := okWide_slice Tryz.underlying46 hval
  obtain ⟨fuel, hf⟩ := h
  rcases open_strings Tryz.underlying46 Tryz.underlying9 cellsOf_string hf with ⟨hcs, hx⟩ | ⟨a, len', cap', ss, hcs, _, hl, hm, hz, hx, hcell, _⟩
  · have e : a0 = none ∧ len = 0 ∧ cap = 0 := by simpa [Value.cells] using hcs
    obtain ⟨rfl, rfl, rfl⟩ := e
    exact ⟨none, 0, 0, [], rfl, Rd.empty _ _ _, Nat.le_refl _, .inl rfl⟩
  · have e : a0 = some a ∧ len = len' ∧ cap = cap' := by simpa [Value.cells] using hcs
    obtain ⟨rfl, rfl, rfl⟩ := e
    rw [if_pos rfl] at hz
    refine ⟨some a, len, cap, (ss.take len).map (·.toList), rfl, ⟨by simp [txts]; omega, fun h0 => ?_⟩, hl, ?_⟩
    · have hc0 := hcell 0 (by omega)
      refine ⟨a, rfl, ?_, fun j u hu => ?_⟩
      · have := World.block_lt_of_cell? _ _ hc0
        rwa [add_block] at this
      · rw [txts_get, List.getElem?_map] at hu
        have hj : j < len := by
          rcases Nat.lt_or_ge j len with h | h
          · exact h
          · rw [List.getElem?_eq_none (by simp; omega)] at hu; simp at hu
        rw [List.getElem?_take, if_pos hj, List.getElem?_eq_getElem (by omega)] at hu
        simp only [Option.map_some, Option.some.injEq] at hu
        rw [hcell j (by omega), ← hu, txt_toList, List.getD_eq_getElem?_getD, List.getElem?_eq_getElem (by omega)]
        rfl
    · refine .inr ⟨_, _, (Prod.mk.inj hx).1, ?_⟩
      simp [strs]
      omega

theorem texts_bound {H : Type} {ts : List TypeId} {ds : List (DataW H)} (h : (DataW.weightsEach Tryz.prog ts ds).all (· ≤ reachBytes) = true) {j n : Nat} {d : DataW H} (ht : ts[j]? = some 46) (hd : ds[j]? = some d)
    (hn : n = 0 ∨ ∃ elems spare, d = .slice elems spare ∧ elems.length = n) : n ≤ 8796093022208 := by
  rcases hn with rfl | ⟨elems, spare, rfl, rfl⟩
  · omega
  · have := sized_slice h ht hd Tryz.underlying46
    rw [bytesOf_string] at this
    have hr : reachBytes ≤ 140737488355328 := by decide
    omega
end Go.Proofs.YtmaadimodjnnlaaGreatDoor

namespace Go.Proofs.YtmaadimodjnnlaaGreatDoor


theorem upto_one {H : Type} (d : DataW H) : 1 ≤ Rows.uptoBulk d := by
  cases d with
  | lit l => cases l <;> simp [Rows.uptoBulk]
  | nil => simp [Rows.uptoBulk]
  | ptr d => simp [Rows.uptoBulk]
  | slice elems spare => simp [Rows.uptoBulk]
  | agg parts => simp [Rows.uptoBulk]
  | iface t d => simp [Rows.uptoBulk]
  | map entries => simp [Rows.uptoBulk]
  | held h => simp [Rows.uptoBulk]

theorem upto_part {H : Type} {d : DataW H} {l : List (DataW H)} (h : d ∈ l) : Rows.uptoBulk d ≤ Rows.uptoBulkAll l := by
  induction l with
  | nil => cases h
  | cons x r ih =>
    unfold Rows.uptoBulkAll
    rcases List.mem_cons.1 h with rfl | h
    · omega
    · have := ih h
      omega

theorem upto_len {H : Type} (l : List (DataW H)) : l.length ≤ Rows.uptoBulkAll l := by
  induction l with
  | nil => simp
  | cons x r ih =>
    have := upto_one x
    unfold Rows.uptoBulkAll
    rw [List.length_cons]
    omega

theorem texts_small {H : Type} {l : List (DataW H)} (hk : Rows.uptoSmall H l = true) {n : Nat} {d : DataW H} (hd : d ∈ l) (hn : n = 0 ∨ ∃ elems spare, d = .slice elems spare ∧ elems.length = n) : n ≤ 1048576 := by
  have hb : Rows.uptoBulkAll l ≤ 1048576 := of_decide_eq_true hk
  rcases hn with rfl | ⟨elems, spare, rfl, rfl⟩
  · exact Nat.zero_le _
  · have h1 := upto_part hd
    have h2 := upto_len elems
    unfold Rows.uptoBulk at h1
    exact Nat.le_trans h2 (Nat.le_trans (Nat.le_trans (Nat.le_add_right _ _) (Nat.le_trans (Nat.le_add_right _ _) h1)) hb)
end Go.Proofs.YtmaadimodjnnlaaGreatDoor

namespace Go.Proofs.YtmaadimodjnnlaaGreatDoor.rowWalkStepsUpto
open Go.ChangeShapes Go.WideShapes Go.ChangeAt Go.RowKit
open Go.ChangeMaps (open_string shut_string)

theorem readable : ∀ t ∈ Tryz.f4.params.toList, Tryz.prog.readableRec t = true ∧ t < Tryz.prog.types.size := by
  intro t ht
  rw [Tryz.params4] at ht
  have h : t = 22 ∨ t = 23 ∨ t = 46 ∨ t = 4 ∨ t = 4 ∨ t = 3 := by simpa using ht
  rcases h with rfl | rfl | rfl | rfl | rfl | rfl
  all_goals exact ⟨by kernel_rfl, of_decide_eq_true (by kernel_rfl)⟩

theorem reads (os : Os) {H : Type} (enc : TypeId × Value → H) :
    ∃ places, DataW.whole enc Tryz.prog ((laidWorld os).forCall (fun _ _ => 0) ⟨#[], #[.slice none 0 0, .slice none 0 0, .slice none 0 0, .bool false, .bool false, .int .i64 0], []⟩).memory Tryz.f4.params.toList Rows.walkStepsSpec.vars false (#[.slice none 0 0, .slice none 0 0, .slice none 0 0, .bool false, .bool false, .int .i64 0] : Array Value).toList 8 = some ([.nil, .nil, .nil, .lit (.bool false), .lit (.bool false), .lit (.int .i64 0)], [], places) := by
  have hw : (DataW.whole enc Tryz.prog ((laidWorld os).forCall (fun _ _ => 0) ⟨#[], #[.slice none 0 0, .slice none 0 0, .slice none 0 0, .bool false, .bool false, .int .i64 0], []⟩).memory Tryz.f4.params.toList Rows.walkStepsSpec.vars false (#[.slice none 0 0, .slice none 0 0, .slice none 0 0, .bool false, .bool false, .int .i64 0] : Array Value).toList 8).map (fun x => (x.1, x.2.1)) = some ([.nil, .nil, .nil, .lit (.bool false), .lit (.bool false), .lit (.int .i64 0)], []) := by kernel_rfl
  obtain ⟨⟨x1, x2, x3⟩, hx, hx1⟩ := Option.map_eq_some_iff.1 hw
  simp only [Prod.mk.injEq] at hx1
  obtain ⟨rfl, rfl⟩ := hx1
  exact ⟨x3, hx⟩

set_option maxRecDepth 100000 in
set_option maxHeartbeats 2000000 in
theorem lifted (os : Os) (started : os.Started) (H : Type) (enc : TypeId × Value → H) (F : Stop.Interp) :
    ReturnsInHanded {} Tryz.checked os 4 .any ((Rows.OpenSpec.upto Rows.walkStepsSpec).preRow enc Tryz.prog Tryz.f4 Rows.walkStepsUptoRow.domain false Rows.walkStepsUptoRow.laid) (((Rows.OpenSpec.upto Rows.walkStepsSpec).at F).post enc Tryz.prog Tryz.f4 false true false false) := by
  obtain ⟨places, hx⟩ := reads os enc
  refine returnsInHanded_of_row (C := Tryz.checked) (s := Rows.OpenSpec.upto Rows.walkStepsSpec) own started (by kernel_rfl) Tryz.func4
    (witness_row_atRef (enc := enc) (C := Tryz.checked) false (laidWorld os) #[.slice none 0 0, .slice none 0 0, .slice none 0 0, .bool false, .bool false, .int .i64 0] rfl (by kernel_rfl) (by kernel_rfl) (by kernel_rfl)
      (OpenSpec.preRow_of_cond 8 hx (by kernel_rfl) (fun k hk => by cases hk; kernel_rfl) (by kernel_rfl) (laid_met os _))) ?_
  intro W base args ds gs before hval0 hW _ hcond hreach _ _ _
  have hval : ∀ (j : Nat) t v, Tryz.f4.params[j]? = some t → args[j]? = some v → Value.okWide Tryz.prog W .any base t v := hval0
  have hW' := hW
  obtain ⟨p, q, hA0, hV, rfl, hfz, hnd⟩ := hW
  have hA : DataW.TrodAll enc Tryz.prog W 0 (fun _ => true) true Tryz.f4.params.toList args.toList ds p := hA0
  rw [Tryz.params4] at hA hval
  obtain ⟨v0, vs0, d0, ds0, p0, q0, hargs, rfl, rfl, h0, r0⟩ := trodAll_cons hA
  obtain ⟨v1, vs1, d1, ds1, p1, q1, rfl, rfl, rfl, h1, r1⟩ := trodAll_cons r0
  obtain ⟨v2, vs2, d2, ds2, p2, q2, rfl, rfl, rfl, h2, r2⟩ := trodAll_cons r1
  obtain ⟨v3, vs3, d3, ds3, p3, q3, rfl, rfl, rfl, h3, r3⟩ := trodAll_cons r2
  obtain ⟨v4, vs4, d4, ds4, p4, q4, rfl, rfl, rfl, h4, r4⟩ := trodAll_cons r3
  obtain ⟨v5, vs5, d5, ds5, p5, q5, rfl, rfl, rfl, h5, r5⟩ := trodAll_cons r4
  obtain ⟨rfl, rfl, rfl⟩ := trodAll_nil r5
  obtain rfl : args = #[v0, v1, v2, v3, v4, v5] := by cases args; simp_all
  obtain ⟨rfl, rfl⟩ := trodVars_none hV
  obtain ⟨A0, n0, c0, s0, rfl, rd0, bd0, nc0⟩ := open_script (hval 0 22 v0 rfl rfl) h0 (weights_at hreach (j := 0) (by rw [Tryz.params4]; rfl) rfl)
  obtain ⟨A1, n1, c1, s1, rfl, rd1, bd1⟩ := open_entries (hval 1 23 v1 rfl rfl) h1 (weights_at hreach (j := 1) (by rw [Tryz.params4]; rfl) rfl)
  obtain ⟨A2, n2, c2, ls2, rfl, rd2, nc2, e2⟩ := open_texts (hval 2 46 v2 rfl rfl) h2
  have bd2 := texts_small (hcond _ rfl) (d := d2) (by simp) e2
  obtain ⟨b3, rfl, rfl, rfl⟩ := open_bool Tryz.underlying4 (hval 3 4 v3 rfl rfl) h3
  obtain ⟨b4, rfl, rfl, rfl⟩ := open_bool Tryz.underlying4 (hval 4 4 v4 rfl rfl) h4
  obtain ⟨n5, rfl, rfl, rfl, w5⟩ := open_int Tryz.underlying3 (hval 5 3 v5 rfl rfl) h5
  have b5 := bounds_i64 w5
  clear hA0 hV hval0
  refine (walkSteps_walk A0 n0 c0 s0 A1 n1 c1 s1 A2 n2 c2 ls2 b3 b4 n5 b5.1 b5.2 W rd0 bd0 rd1 bd1 rd2 (by omega)).mono ?_
  rintro e W' ⟨rfl, hb⟩
  exact ⟨_, rfl, post_law hW' rfl readable hb rfl rfl rfl rfl⟩

theorem said : Rows.WalkStepsUptoSaid :=
  OpenClaim.holds_of_cond 4 Tryz.f4 rfl rfl rfl rfl rfl rfl rfl ⟨rfl, rfl, rfl, rfl, rfl⟩ rfl rfl rfl rfl rfl (by kernel_rfl) Tryz.func4 (by kernel_rfl)
    (of_decide_eq_true (by kernel_rfl)) (by unfold Func.isWrapper; rw [if_neg (of_decide_eq_false (by kernel_rfl))]; exact ⟨rfl, rfl⟩)
    (fun os started H enc _ F => by rw [OpenClaim.pre_eq_preRow]; exact lifted os started H enc F)

theorem plain (f : FuncId) (fn : Func) (hf : Tryz.pinned.checked.prog.funcNamed "vista/vistalaw14.WalkSteps" = some f) (hfn : Tryz.pinned.checked.prog.funcs[f]? = some fn) :
    false = Tryz.pinned.checked.prog.looks [] ∧ ∀ (j : Nat) t, fn.params[j]? = some t → Tryz.pinned.checked.prog.wantsStandIn t = false := by
  obtain rfl : f = 4 := Option.some.inj ((show Tryz.prog.funcNamed "vista/vistalaw14.WalkSteps" = some 4 by kernel_rfl).symm.trans hf) |>.symm
  obtain rfl : fn = Tryz.f4 := (Option.some.inj (Tryz.func4.symm.trans hfn)).symm
  refine ⟨by kernel_rfl, fun j t ht => ?_⟩
  rw [Tryz.params4] at ht
  have h : t ∈ (#[22, 23, 46, 4, 4, 3] : Array TypeId) := Array.mem_of_getElem? ht

  have h' : t = 22 ∨ t = 23 ∨ t = 46 ∨ t = 4 ∨ t = 4 ∨ t = 3 := by simpa using h
  rcases h' with rfl | rfl | rfl | rfl | rfl | rfl
  · exact (show Tryz.prog.wantsStandIn 22 = false by kernel_rfl)
  · exact (show Tryz.prog.wantsStandIn 23 = false by kernel_rfl)
  · exact (show Tryz.prog.wantsStandIn 46 = false by kernel_rfl)
  · exact (show Tryz.prog.wantsStandIn 4 = false by kernel_rfl)
  · exact (show Tryz.prog.wantsStandIn 4 = false by kernel_rfl)
  · exact (show Tryz.prog.wantsStandIn 3 = false by kernel_rfl)

/-- The card. -/
theorem card : Rows.WalkStepsUptoCardSaid :=
  Claim7.holds_tied_plain_at .later [] _ _ _ _ said (fun _ h => by cases h) (by kernel_rfl) (fun _ h => by cases h) walkStepsUpto_row_tie rfl ⟨rfl, rfl⟩ (by kernel_rfl) rfl plain (by kernel_rfl)
#print axioms card
end Go.Proofs.YtmaadimodjnnlaaGreatDoor.rowWalkStepsUpto
