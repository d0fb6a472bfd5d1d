/-
  A tree behind a script: behind; what is known beside a tree; layer 5's awake.
-/
import Derived.Test.YtoacobcbloljkaaGreatDoorTreeApply
import Derived.Test.YtoacobcbloljkaaGreatDoorTreeList
import Derived.Test.YtoacobcbloljkaaGreatDoorSameEn
import Derived.Test.YtoacobcbloljkaaGreatDoorTreeLoadP
import Derived.Test.YtoacobcbloljkaaGreatDoorPlace
namespace Go.Proofs.YtoacobcbloljkaaGreatDoor
open Go.RowKit

attribute [local go_sem ↓] Go.wp_at_zero Go.wp_at_succ

/-- An operation of a script, cell by cell. -/
theorem Rd.op_cells {w : World} {A : Option Addr} {n : Nat} {l : List Tr.Op} (h : Rd w 7 A n (cOps l)) {k : Nat} (hk : k < n) :
    ∃ (ad : Addr) (kd d : Int) (s : List UInt8) (tw : Int) (nw : List UInt8) (md : Int) (tg : List UInt8), A = some ad ∧ ad.block < w.heap.size ∧ l[k]? = some (kd, d, s, tw, nw, md, tg) ∧
      w.cell? (ad.add (k * 7)) = some (.int .i64 kd) ∧ w.cell? ⟨(ad.add (k * 7)).block, (ad.add (k * 7)).off + 1, none⟩ = some (.int .i64 d) ∧
      w.cell? ⟨(ad.add (k * 7)).block, (ad.add (k * 7)).off + 2, none⟩ = some (.string ⟨s.toArray⟩) ∧ w.cell? ⟨(ad.add (k * 7)).block, (ad.add (k * 7)).off + 3, none⟩ = some (.int .i64 tw) ∧
      w.cell? ⟨(ad.add (k * 7)).block, (ad.add (k * 7)).off + 4, none⟩ = some (.string ⟨nw.toArray⟩) ∧ w.cell? ⟨(ad.add (k * 7)).block, (ad.add (k * 7)).off + 5, none⟩ = some (.int .i64 md) ∧
      w.cell? ⟨(ad.add (k * 7)).block, (ad.add (k * 7)).off + 6, none⟩ = some (.string ⟨tg.toArray⟩) := by
  obtain ⟨ad, ⟨kd, d, s, tw, nw, md, tg⟩, e, hb, hx, hc⟩ := h.op_at hk
  have c : ∀ (j : Nat) (u : Value), j < 7 → (cOp (kd, d, s, tw, nw, md, tg))[j]? = some u → w.cell? ((ad.add (k * 7)).add j) = some u := fun j u hj hu => by
    rw [add_assoc_]
    exact hc _ _ hu
  refine ⟨ad, kd, d, s, tw, nw, md, tg, e, hb, hx, ?_, ?_, ?_, ?_, ?_, ?_, ?_⟩
  · have := c 0 (.int .i64 kd) (by omega) rfl
    rwa [show (ad.add (k * 7)).add 0 = ad.add (k * 7) from by unfold Addr.add; simp] at this
  all_goals rw [← add_at _ _ (by decide)]
  · exact c 1 _ (by omega) rfl
  · exact c 2 _ (by omega) rfl
  · exact c 3 _ (by omega) rfl
  · exact c 4 _ (by omega) rfl
  · exact c 5 _ (by omega) rfl
  · exact c 6 _ (by omega) rfl

/-- A row of one entry, of one key. -/
theorem row_en1 {w : World} {base c : Nat} {A : Option Addr} {x : En} (h : w.ownsRow base 36 7 (.slice A 1 c) 1 (cEns [x])) :
    ∃ g, A = some ⟨g, 0, none⟩ ∧ g < w.heap.size ∧ base ≤ g ∧ w.cell? ⟨g, 0, none⟩ = some (.int .i64 x.1.1) ∧ w.cell? ⟨g, 1, none⟩ = some (.string ⟨x.1.2.toArray⟩) ∧ w.cell? ⟨g, 2, none⟩ = some (.bool x.2.1) ∧
      w.cell? ⟨g, 3, none⟩ = some (.int .i64 x.2.2.1) ∧ w.cell? ⟨g, 4, none⟩ = some (.int .i64 x.2.2.2.1) ∧ w.cell? ⟨g, 5, none⟩ = some (.int .i64 x.2.2.2.2.1) ∧ w.cell? ⟨g, 6, none⟩ = some (.string ⟨x.2.2.2.2.2.toArray⟩) := by
  obtain ⟨g, rfl, _, hlt, hb, _⟩ := own_form h (by omega)
  obtain ⟨ad, e, _, hc⟩ := (Rd.of_own h).2 (by omega)
  injection e with e
  subst e
  have c : ∀ j u, (cEn x)[j]? = some u → w.cell? ⟨g, j, none⟩ = some u := fun j u hu => by
    have := hc j u (by simpa [cEns] using hu)
    rwa [Addr.add_mid, Nat.zero_add] at this
  exact ⟨g, rfl, hlt, hb, c 0 _ rfl, c 1 _ rfl, c 2 _ rfl, c 3 _ rfl, c 4 _ rfl, c 5 _ rfl, c 6 _ rfl⟩
theorem row_key1 {w : World} {base c : Nat} {A : Option Addr} {x : Key} (h : w.ownsRow base 32 2 (.slice A 1 c) 1 (cKeys [x])) :
    ∃ g, A = some ⟨g, 0, none⟩ ∧ g < w.heap.size ∧ base ≤ g ∧ w.cell? ⟨g, 0, none⟩ = some (.int .i64 x.1) ∧ w.cell? ⟨g, 1, none⟩ = some (.string ⟨x.2.toArray⟩) := by
  obtain ⟨g, rfl, _, hlt, hb, _⟩ := own_form h (by omega)
  obtain ⟨ad, e, _, hc⟩ := (Rd.of_own h).2 (by omega)
  injection e with e
  subst e
  have c : ∀ j u, (cKey x)[j]? = some u → w.cell? ⟨g, j, none⟩ = some u := fun j u hu => by
    have := hc j u (by simpa [cKeys] using hu)
    rwa [Addr.add_mid, Nat.zero_add] at this
  exact ⟨g, rfl, hlt, hb, c 0 _ rfl, c 1 _ rfl⟩

section
variable {w W W' : World} {M M' : TM} {t : Tr.T} {sz n : Nat} {A : Option Addr} {xs : List Value}
/-- Behind Apply. -/
theorem Grown.apply {R : Tr.T × List En × List Key × Int} {r : Ending} (H : Grown w M t W) (h : ApPost W M R r W') :
    ∃ (A1 : Option Addr) (c1 : Nat) (A2 : Option Addr) (c2 : Nat) (M' : TM), r = .returned (.tuple #[.slice A1 R.2.1.length c1, .slice A2 R.2.2.1.length c2, .int .i64 R.2.2.2]) ∧
      W'.ownsRow W.heap.size 36 7 (.slice A1 R.2.1.length c1) R.2.1.length (cEns R.2.1) ∧ W'.ownsRow W.heap.size 32 2 (.slice A2 R.2.2.1.length c2) R.2.2.1.length (cKeys R.2.2.1) ∧
      (∀ k, (Value.slice A1 R.2.1.length c1).ownBlock = some k → ¬ M'.own k) ∧ (∀ k, (Value.slice A2 R.2.2.1.length c2).ownBlock = some k → ¬ M'.own k) ∧ (∀ k, (Value.slice A1 R.2.1.length c1).ownBlock = some k → (Value.slice A2 R.2.2.1.length c2).ownBlock ≠ some k) ∧
      Grown w M' R.1 W' ∧ M'.t = M.t ∧ (∀ k, M'.own k → M.own k ∨ W.heap.size ≤ k) ∧ Kp (fun k => ¬ M.own k) W W' := by
  obtain ⟨v1, v2, M', rfl, h1, h2, h3, h4, h5, h6, h7, h8, h9⟩ := h
  obtain ⟨A1, c1, rfl⟩ := own_slice h1
  obtain ⟨A2, c2, rfl⟩ := own_slice h2
  refine ⟨A1, c1, A2, c2, M', rfl, h1, h2, h6, h7, h8, ⟨h3, fun k q => ?_, H.bl.trans (h9.to_below H.bl.size fun k hk q => ?_)⟩, h4, h5, h9⟩
  · rcases h5 k q with q | q
    · exact H.own k q
    · exact Nat.le_trans H.bl.size q
  · have := H.own k q
    omega
end

/-- The operations so far. -/
theorem run_take (s : List Tr.Op) {j : Nat} {o : Tr.Op} (h : s[j]? = some o) : Tr.run Tr.t0 (s.take (j + 1)) = (Tr.apply (Tr.run Tr.t0 (s.take j)) o).1 := Tr.run_step Tr.t0 s h
theorem run_bounds (s : List Tr.Op) (j : Nat) (h : s.length ≤ 1759218604391) : (Tr.run Tr.t0 (s.take j)).next < 1759218604400 ∧ (Tr.run Tr.t0 (s.take j)).vers < 1759218604400 := by
  have h1 := Tr.run_size Tr.t0 (s.take j)
  have h2 : (s.take j).length ≤ s.length := by rw [List.length_take]; omega
  have h3 : Tr.t0.next = 2 := rfl
  have h4 : Tr.t0.vers = 0 := rfl
  omega

set_option maxRecDepth 100000 in
set_option maxHeartbeats 2000000 in
theorem behind05_any (w : World) (A : Option Addr) (n c : Nat) (s : List Tr.Op) (hs : Rd w 7 A n (cOps s)) (hn : n ≤ 1759218604391) :
    Calls Tryz.prog 42 #[.slice A n c] w fun r w' => ∃ M : TM, r = .returned (.tuple #[.pointer (some ⟨M.t, 0, none⟩), .bool true]) ∧ Grown w M (Tr.run Tr.t0 s) w' := by
  have hlen := hs.ops_len
  have HS := Lib.hid hs
  have HL := Lib.hid hlen
  clear hs hlen
  go_enter Tryz.func42, Tryz.ntmps42
  go_wp2_with fail
  refine (treeNew_any _).mono ?_
  rintro r w1 ⟨M0, rfl, H1, ho1, hb1⟩
  have HG : Hid (Grown w M0 (Tr.run Tr.t0 (s.take 0)) w1) := ⟨H1, ho1, hb1⟩
  obtain ⟨p, hp⟩ : ∃ p, M0.t = p := ⟨_, rfl⟩
  rw [hp]
  have HP := Lib.hid hp
  clear H1 ho1 hb1 hp
  go_wp2_with fail
  go_loopw [5] (fun iv wx => ∃ (j : Nat) (M : TM), j ≤ n ∧ iv = .int .i64 j ∧ Hid (M.t = p) ∧ Hid (Grown w M (Tr.run Tr.t0 (s.take j)) wx)) (fun iv _ => n - (RowKit.intOf iv).toNat)
  case atStart => exact ⟨0, M0, by omega, rfl, HP, HG⟩
  case round =>
    obtain ⟨j, M, hj, rfl, HM, HI⟩ := hrel
    by_cases hlt : j < n
    · obtain ⟨ad, kd, d, nm, tw, nw, md, tg, rfl, hbl, hx, q0, q1, q2, q3, q4, q5, q6⟩ := (HS.out.below HI.out.bl).op_cells hlt
      have hst := run_take s hx
      have hbd := run_bounds s j (by rw [HL.out]; exact hn)
      have hap := treeApply_any wr M _ (kd, d, nm, tw, nw, md, tg) HI.out.at_ (by omega) (by omega)
      have HST := Lib.hid hst
      simp only [vOp, cOp, txt] at hap
      rw [HM.out] at hap
      have HAP := Lib.hid hap
      clear hst hbd hap hx
      go_wp2_with fail
      refine HAP.out.mono ?_
      rintro r w2 hpost
      obtain ⟨A1, c1, A2, c2, M', rfl, _, _, _, _, _, HG', ht, _, _⟩ := HI.out.apply hpost
      have HG2 := Lib.hid HG'
      have HM2 : Hid (M'.t = p) := ht.trans HM.out
      clear hpost HG' ht q0 q1 q2 q3 q4 q5 q6
      go_wp2_with fail
      go_roundw
      case rel => exact ⟨j + 1, M', by omega, by go_num, HM2, by rw [HST.out]; exact HG2⟩
      case measure => simp [RowKit.intOf] <;> omega
    · obtain rfl : j = n := by omega
      have HF := HI
      rw [List.take_of_length_le (by rw [HL.out]; exact Nat.le_refl _)] at HF
      go_wp2_with fail
      refine bodyPost_ret (results2 rfl _ _ _) rfl ?_
      exact ⟨M, by rw [HM.out]; rfl, HF.out⟩

/-! ## awake -/
def awOp : Tr.Op := (6, 1, [97], 0, [], 7, [])
theorem aw_apply : Tr.apply Tr.t0 awOp = (⟨[((1, [97]), 2, 1, 7, [])], 1, 3⟩, [((1, [97]), false, 2, 1, 7, [])], [(1, [97])], 0) := by
  have hp : Tr.placeE Tr.t0.L awOp.2.1 awOp.2.2.1 = 0 := by decide
  have hd : Tr.does Tr.t0 awOp = (0, ⟨[((1, [97]), 2, 1, 7, [])], 0, 3⟩) := by
    rw [Tr.does_6 hp rfl]
    rfl
  rw [Tr.apply_ok (by rw [hd]), hd]
  rfl
theorem aw_look : Tr.lookR [(((1, [97]) : Key), ((2, 1, 7, []) : Nd))] 1 [97] = (((1, [97]), false, 2, 1, 7, []), 0) := by decide

set_option maxRecDepth 100000 in
set_option maxHeartbeats 2000000 in
theorem awake05 (w : World) :
    Calls Tryz.prog 41 #[] w fun e w' => e = .returned (.bool true) ∧ Below w.heap.size w w' := by
  have hA : ∀ (V : World) (M : TM), TreeAt V M Tr.t0 → Calls Tryz.prog 47 #[.pointer (some ⟨M.t, 0, none⟩), .agg #[.int .i64 6, .int .i64 1, .string ⟨#[97]⟩, .int .i64 0, .string ⟨#[]⟩, .int .i64 7, .string ⟨#[]⟩]] V (ApPost V M (⟨[((1, [97]), 2, 1, 7, [])], 1, 3⟩, [((1, [97]), false, 2, 1, 7, [])], [(1, [97])], 0)) := fun V M H => by
    have := treeApply_any V M Tr.t0 awOp H (by decide) (by decide)
    rwa [aw_apply] at this
  have hLk : ∀ (V : World) (M : TM) (v n : Int), TreeAt V M ⟨[((1, [97]), 2, 1, 7, [])], v, n⟩ → Calls Tryz.prog 26 #[.pointer (some ⟨M.t, 0, none⟩), .int .i64 1, .string ⟨#[97]⟩] V fun r w' => r = .returned (.tuple #[vEn ((1, [97]), false, 2, 1, 7, []), .int .i64 0]) ∧ Below V.heap.size V w' := fun V M v n H => by
    have := treeLook_any V M _ 1 [97] H
    simp only at this
    rwa [aw_look] at this
  have hqk : ∀ W : World, (binOp .eql 32 (.agg #[.int .i64 1, .string ⟨#[97]⟩]) (.agg #[.int .i64 1, .string ⟨#[97]⟩])).run Tryz.prog W = .ok (.bool true) W := fun W => eql_key (1, [97]) (1, [97]) W
  have hqe : ∀ W : World, (binOp .eql 36 (.agg #[.int .i64 1, .string ⟨#[97]⟩, .bool false, .int .i64 2, .int .i64 1, .int .i64 7, .string ⟨#[]⟩]) (.agg #[.int .i64 1, .string ⟨#[97]⟩, .bool false, .int .i64 2, .int .i64 1, .int .i64 7, .string ⟨#[]⟩])).run Tryz.prog W = .ok (.bool true) W := fun W => eql_entry ((1, [97]), false, 2, 1, 7, []) ((1, [97]), false, 2, 1, 7, []) W
  have hqn : ∀ W : World, (binOp .eql 34 (.agg #[.int .i64 2, .int .i64 1, .int .i64 7, .string ⟨#[]⟩]) (.agg #[.int .i64 2, .int .i64 1, .int .i64 7, .string ⟨#[]⟩])).run Tryz.prog W = .ok (.bool true) W := fun W => eql_node (2, 1, 7, []) (2, 1, 7, []) W
  have HA := Lib.hid hA
  have HLK := Lib.hid hLk
  have HQ := Lib.hid (And.intro hqk (And.intro hqe hqn))
  clear hA hLk hqk hqe hqn
  go_enter Tryz.func41, Tryz.ntmps41
  go_wp2_with fail
  refine (treeNew_any _).mono ?_
  rintro r w1 ⟨M0, rfl, H1, ho1, hb1⟩
  have HG : Hid (Grown w M0 Tr.t0 w1) := ⟨H1, ho1, hb1⟩
  clear H1 ho1 hb1
  go_wp2_with fail
  refine (HA.out _ _ HG.out.at_).mono ?_
  rintro r w2 hpost
  obtain ⟨A1, c1, A2, c2, M2, rfl, o1, o2, _, _, _, HG2, ht, _, _⟩ := HG.out.apply hpost
  have HG3 := Lib.hid HG2
  have HT := Lib.hid ht
  have HO1 := Lib.hid o1
  have HO2 := Lib.hid o2
  rw [← ht]
  clear hpost HG2 o1 o2 ht
  go_wp2_with fail
  refine (HLK.out _ _ _ _ HG3.out.at_).mono ?_
  rintro r w3 ⟨rfl, hb3⟩
  have HG4 := Lib.hid (HG3.out.below hb3)
  have HB3 := Lib.hid hb3
  clear hb3
  obtain ⟨g1, rfl, l1, _, p0, p1, p2, p3, p4, p5, p6⟩ := row_en1 (own_below HO1.out HB3.out)
  obtain ⟨g2, rfl, l2, _, q0, q1⟩ := row_key1 (own_below HO2.out HB3.out)
  have HV := Lib.hid (fun V H => treeVersion_any V M2 ⟨[((1, [97]), 2, 1, 7, [])], 1, 3⟩ H)
  obtain ⟨hqk, hqe, hqn⟩ := HQ.out
  have hS : (fun V : World => ((V.cell? ⟨g1, 0, none⟩ = some (.int .i64 1) ∧ V.cell? ⟨g1, 1, none⟩ = some (.string ⟨#[97]⟩) ∧ V.cell? ⟨g1, 2, none⟩ = some (.bool false) ∧ V.cell? ⟨g1, 3, none⟩ = some (.int .i64 2) ∧ V.cell? ⟨g1, 4, none⟩ = some (.int .i64 1) ∧ V.cell? ⟨g1, 5, none⟩ = some (.int .i64 7) ∧ V.cell? ⟨g1, 6, none⟩ = some (.string ⟨#[]⟩)) ∧ (V.cell? ⟨w3.heap.size, 0, none⟩ = some (.int .i64 1) ∧ V.cell? ⟨w3.heap.size, 1, none⟩ = some (.string ⟨#[97]⟩) ∧ V.cell? ⟨w3.heap.size, 2, none⟩ = some (.bool false) ∧ V.cell? ⟨w3.heap.size, 3, none⟩ = some (.int .i64 2) ∧ V.cell? ⟨w3.heap.size, 4, none⟩ = some (.int .i64 1) ∧ V.cell? ⟨w3.heap.size, 5, none⟩ = some (.int .i64 7) ∧ V.cell? ⟨w3.heap.size, 6, none⟩ = some (.string ⟨#[]⟩)) ∧ (V.cell? ⟨g2, 0, none⟩ = some (.int .i64 1) ∧ V.cell? ⟨g2, 1, none⟩ = some (.string ⟨#[97]⟩)) ∧ Hid (Grown w M2 ⟨[((1, [97]), 2, 1, 7, [])], 1, 3⟩ V))) (w3.alloc (.cells #[.int .i64 1, .string ⟨#[97]⟩, .bool false, .int .i64 2, .int .i64 1, .int .i64 7, .string ⟨#[]⟩] 36)).drew := by
    have AX := At.new w3 36 (cEn ((1, [97]), false, 2, 1, 7, []))
    exact ⟨⟨cell_alloc_old p0 _, cell_alloc_old p1 _, cell_alloc_old p2 _, cell_alloc_old p3 _, cell_alloc_old p4 _, cell_alloc_old p5 _, cell_alloc_old p6 _⟩, ⟨AX.cell 0, AX.cell 1, AX.cell 2, AX.cell 3, AX.cell 4, AX.cell 5, AX.cell 6⟩, ⟨cell_alloc_old q0 _, cell_alloc_old q1 _⟩, HG4.out.below (below_drew ((Below.refl _ _).alloc (Nat.le_refl _) _))⟩
  have HS := Lib.hid hS
  clear hS p0 p1 p2 p3 p4 p5 p6 q0 q1 HQ HA HLK
  simp only [vEn, txt]
  go_upto_region 6 with fail
  go_region_held3 (fun V => ((V.cell? ⟨g1, 0, none⟩ = some (.int .i64 1) ∧ V.cell? ⟨g1, 1, none⟩ = some (.string ⟨#[97]⟩) ∧ V.cell? ⟨g1, 2, none⟩ = some (.bool false) ∧ V.cell? ⟨g1, 3, none⟩ = some (.int .i64 2) ∧ V.cell? ⟨g1, 4, none⟩ = some (.int .i64 1) ∧ V.cell? ⟨g1, 5, none⟩ = some (.int .i64 7) ∧ V.cell? ⟨g1, 6, none⟩ = some (.string ⟨#[]⟩)) ∧ (V.cell? ⟨w3.heap.size, 0, none⟩ = some (.int .i64 1) ∧ V.cell? ⟨w3.heap.size, 1, none⟩ = some (.string ⟨#[97]⟩) ∧ V.cell? ⟨w3.heap.size, 2, none⟩ = some (.bool false) ∧ V.cell? ⟨w3.heap.size, 3, none⟩ = some (.int .i64 2) ∧ V.cell? ⟨w3.heap.size, 4, none⟩ = some (.int .i64 1) ∧ V.cell? ⟨w3.heap.size, 5, none⟩ = some (.int .i64 7) ∧ V.cell? ⟨w3.heap.size, 6, none⟩ = some (.string ⟨#[]⟩)) ∧ (V.cell? ⟨g2, 0, none⟩ = some (.int .i64 1) ∧ V.cell? ⟨g2, 1, none⟩ = some (.string ⟨#[97]⟩)) ∧ Hid (Grown w M2 ⟨[((1, [97]), 2, 1, 7, [])], 1, 3⟩ V)))
    (first | exact HS.out | assumption)
    (first
    | (go_at_call 45; (with_reducible refine (HV.out _ (Grown.at_ (w := w) (Hid.out (And.right (And.right (And.right (by assumption))))))).mono ?_); rintro r w7 ⟨rfl, rfl⟩))
  all_goals
    have HF := Lib.hid (Hid.out (And.right (And.right (And.right (by assumption)))) : Grown w M2 ⟨[((1, [97]), 2, 1, 7, [])], 1, 3⟩ _)
    go_wp2_with fail
    go_ret
    exact ⟨rfl, HF.out.bl⟩
end Go.Proofs.YtoacobcbloljkaaGreatDoor
