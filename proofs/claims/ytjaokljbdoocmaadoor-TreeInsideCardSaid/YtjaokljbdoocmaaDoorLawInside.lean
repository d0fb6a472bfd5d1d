/-
  The law TreeInside: a chain of directories, what a mkdir at its end and a rename within it do (plain Lean), and the walk.
-/
import Derived.Test.YtjaokljbdoocmaaDoorBehind
import Derived.Test.YtjaokljbdoocmaaDoorPlace
import Derived.Deep.RegionHeld3
import Derived.Deep.DrawnRows
namespace Go.Proofs.YtjaokljbdoocmaaDoor
open Go.RowKit
namespace Tr
def dNode (i : Nat) : TE := ((1 + (i : Int), [100]), (2 + (i : Int), 1, 0, []))
def chainL (k : Nat) : List TE := (List.range k).map dNode
def chainT (k : Nat) : T := ⟨chainL k, k, 2 + (k : Int)⟩

theorem mem_chain {k : Nat} {x : TE} : x ∈ chainL k ↔ ∃ i, i < k ∧ x = dNode i := by
  unfold chainL
  rw [List.mem_map]
  constructor
  · rintro ⟨i, h1, h2⟩
    exact ⟨i, List.mem_range.1 h1, h2.symm⟩
  · rintro ⟨i, h1, h2⟩
    exact ⟨i, List.mem_range.2 h1, h2.symm⟩
theorem chain_len (k : Nat) : (chainL k).length = k := by
  unfold chainL
  rw [List.length_map, List.length_range]
theorem chain_succ (k : Nat) : chainL (k + 1) = chainL k ++ [dNode k] := by
  unfold chainL
  rw [List.range_succ, List.map_append]
  rfl
theorem chain_byId {k : Nat} (h : Good (chainT k)) {i : Nat} (hi : i < k) : byId (chainL k) (2 + (i : Int)) = some (dNode i) :=
  byId_of (L := chainL k) h.ids (mem_chain.2 ⟨i, hi, rfl⟩)
theorem chain_byKey {k : Nat} (h : Good (chainT k)) {i : Nat} (hi : i < k) : byKey (chainL k) (1 + (i : Int), [100]) = some (dNode i) :=
  byKey_of (L := chainL k) h.keys (mem_chain.2 ⟨i, hi, rfl⟩)
theorem chain_noKey {k : Nat} : byKey (chainL k) (1 + (k : Int), [100]) = none := byKey_none.2 fun x hx e => by
  obtain ⟨i, hi, rfl⟩ := mem_chain.1 hx
  simp only [dNode, Prod.mk.injEq] at e
  omega
theorem chain_noKey2 {k : Nat} (d : Int) : byKey (chainL k) (d, [101]) = none := byKey_none.2 fun x hx e => by
  obtain ⟨i, hi, rfl⟩ := mem_chain.1 hx
  simp [dNode] at e
theorem chain_dir {k : Nat} (h : Good (chainT k)) {i : Nat} (hi : i ≤ k) : dirE (chainL k) (1 + (i : Int)) = 0 := by
  refine dirE_zero.2 (isDir_iff.2 ?_)
  rcases Nat.eq_zero_or_pos i with rfl | h0
  · exact .inl (by simp)
  · obtain ⟨j, rfl⟩ : ∃ j, i = j + 1 := ⟨i - 1, by omega⟩
    refine .inr ⟨by omega, dNode j, ?_, rfl⟩
    have := chain_byId h (show j < k by omega)
    rw [show (1 + ((j + 1 : Nat) : Int)) = 2 + (j : Int) by omega]
    exact this
theorem chain_place {k : Nat} (h : Good (chainT k)) {i : Nat} (hi : i ≤ k) (s : List UInt8) (hs : Nm.checkE s = 0) : placeE (chainL k) (1 + (i : Int)) s = 0 := by
  unfold placeE
  rw [chain_dir h hi, if_neg (by simp), hs]
theorem check_d : Nm.checkE [100] = 0 := by decide +kernel
theorem check_e : Nm.checkE [101] = 0 := by decide +kernel

theorem chain_does {k : Nat} (h : Good (chainT k)) (hk : k ≤ 40) : does (chainT k) (6, 1 + (k : Int), [100], 0, [], 0, []) = (0, ⟨chainL (k + 1), k, 2 + (k : Int) + 1⟩) := by
  have hp := chain_place h (Nat.le_refl k) [100] check_d
  have e1 : does (chainT k) (6, 1 + (k : Int), [100], 0, [], 0, []) = made (chainT k) (1 + (k : Int), [100]) 1 0 [] := by
    unfold does
    rw [if_neg (by simp only; omega), if_neg (by change ¬ placeE (chainL k) (1 + (k : Int)) [100] ≠ 0; rw [hp]; simp)]
    rfl
  rw [e1]
  unfold made
  change (if (byKey (chainL k) (1 + (k : Int), [100])).isSome = true then _ else if 48 ≤ (chainL k).length + 1 then _ else _) = _
  rw [chain_noKey, if_neg (by simp), if_neg (by rw [chain_len]; omega), chain_succ]
  rfl
theorem chain_apply {k : Nat} (h : Good (chainT k)) (hk : k ≤ 40) :
    (apply (chainT k) (6, 1 + (k : Int), [100], 0, [], 0, [])).1 = chainT (k + 1) ∧ (apply (chainT k) (6, 1 + (k : Int), [100], 0, [], 0, [])).2.2.2 = 0 := by
  unfold apply
  rw [chain_does h hk, if_neg (by simp)]
  refine ⟨?_, rfl⟩
  simp only [chainT, T.mk.injEq, true_and]
  constructor <;> omega

theorem chain_inside {k : Nat} (h : Good (chainT k)) (a : Nat) : ∀ (b f : Nat), b ≤ f → b ≤ k → inside (chainL k) f (1 + (b : Int)) (2 + (a : Int)) = decide (a < b) := by
  intro b
  induction b with
  | zero =>
    intro f _ _
    cases f with
    | zero =>
      unfold inside
      exact decide_eq_decide.2 (by omega)
    | succ f =>
      unfold inside
      rw [if_neg (by omega), if_pos (by omega)]
      exact (decide_eq_false (by omega)).symm
  | succ b ih =>
    intro f hf hb
    obtain ⟨g, rfl⟩ : ∃ g, f = g + 1 := ⟨f - 1, by omega⟩
    unfold inside
    by_cases hq : a = b
    · rw [if_pos (by omega)]
      exact (decide_eq_true (by omega)).symm
    · rw [if_neg (by omega), if_neg (by omega), show (1 + ((b + 1 : Nat) : Int)) = 2 + (b : Int) by omega, chain_byId h (show b < k by omega)]
      change inside (chainL k) g (1 + (b : Int)) (2 + (a : Int)) = _
      rw [ih g (by omega) (by omega)]
      exact decide_eq_decide.2 (by omega)

theorem chain_ren {k : Nat} (h : Good (chainT k)) {a b : Nat} (ha : a < k) (hb : b ≤ k) :
    does (chainT k) (10, 1 + (a : Int), [100], 1 + (b : Int), [101], 0, []) =
      if a < b then (45, chainT k) else (0, ⟨gone (chainL k) (1 + (a : Int), [100]) ++ [((1 + (b : Int), [101]), (dNode a).2)], k, 2 + (k : Int)⟩) := by
  have hp := chain_place h (show a ≤ k by omega) [100] check_d
  have hq := chain_place h hb [101] check_e
  have e1 : does (chainT k) (10, 1 + (a : Int), [100], 1 + (b : Int), [101], 0, []) = renamed (chainT k) (1 + (a : Int), [100]) (1 + (b : Int), [101]) := by
    unfold does
    rw [if_neg (by simp only; omega), if_neg (by change ¬ placeE (chainL k) (1 + (a : Int)) [100] ≠ 0; rw [hp]; simp), if_neg (by simp), if_neg (by simp), if_neg (by simp), if_neg (by simp), if_neg (by simp), if_pos rfl,
      if_neg (by change ¬ placeE (chainL k) (1 + (b : Int)) [101] ≠ 0; rw [hq]; simp)]
    rfl
  rw [e1]
  unfold renamed
  change (match byKey (chainL k) (1 + (a : Int), [100]) with | none => _ | some x => _) = _
  rw [chain_byKey h ha]
  have hin := chain_inside h a b k hb hb
  change (if (dNode a).2.2.1 = 1 ∧ inside (chainL k) (chainL k).length (1 + (b : Int)) (2 + (a : Int)) = true then _ else _) = _
  rw [chain_len, hin]
  by_cases hab : a < b
  · rw [if_pos ⟨rfl, decide_eq_true hab⟩, if_pos hab]
  · rw [if_neg (by simp [hab]), if_neg hab, if_neg (by simp)]
    change (match byKey (chainL k) (1 + (b : Int), [101]) with | none => _ | some y => _) = _
    rw [chain_noKey2]
    rfl

/-- The rename: refused, or the directory lies at its new place. -/
theorem chain_moved {k : Nat} (h : Good (chainT k)) {a b : Nat} (ha : a < k) (hb : b ≤ k) (R : T × List En × List Key × Int) (hR : apply (chainT k) (10, 1 + (a : Int), [100], 1 + (b : Int), [101], 0, []) = R) :
    (a < b → R.2.2.2 = 45 ∧ R.1.vers = k) ∧ (¬ a < b → R.2.2.2 = 0 ∧ findR R.1.L (2 + (a : Int)) = (((1 + (b : Int), [101]), false, 2 + (a : Int), 1, 0, []), 0)) := by
  have hg := h.apply (10, 1 + (a : Int), [100], 1 + (b : Int), [101], 0, [])
  have hd := chain_ren h ha hb
  rw [hR] at hg
  unfold apply at hR
  rw [hd] at hR
  constructor
  · intro hab
    rw [if_pos hab, if_pos (by simp)] at hR
    subst hR
    exact ⟨rfl, rfl⟩
  · intro hab
    rw [if_neg hab, if_neg (by simp)] at hR
    subst hR
    refine ⟨rfl, ?_⟩
    unfold findR
    rw [if_neg (by omega)]
    have := byId_of hg.ids (x := ((1 + (b : Int), [101]), (dNode a).2)) (by simp)
    rw [show (((1 + (b : Int), [101]), (dNode a).2) : TE).2.1 = 2 + (a : Int) from rfl] at this
    rw [this]
    rfl
theorem chain_good : ∀ k : Nat, k ≤ 41 → Good (chainT k)
  | 0, _ => good_t0
  | k + 1, hk => by
    have := (chain_good k (by omega)).apply (6, 1 + (k : Int), [100], 0, [], 0, [])
    rw [(chain_apply (chain_good k (by omega)) (by omega)).1] at this
    exact this
end Tr

set_option maxRecDepth 100000 in
set_option maxHeartbeats 8000000 in
theorem treeInside_walk (n : Int) (hn0 : -9223372036854775808 ≤ n) (hn1 : n ≤ 9223372036854775807) (fr : Int) (hf0 : -9223372036854775808 ≤ fr) (hf1 : fr ≤ 9223372036854775807) (tw : Int) (ht0 : -9223372036854775808 ≤ tw) (ht1 : tw ≤ 9223372036854775807) (w : World) :
    Calls Tryd.prog 4 #[.int .i64 n, .int .i64 fr, .int .i64 tw] w fun e w' => e = .returned (.bool true) ∧ Below w.heap.size w w' := by
  have hq := fun V => place_any n 20 hn0 hn1 (by omega) (by omega) V
  have hq0 : 0 ≤ n % 20 := Int.emod_nonneg _ (by omega)
  have hq1 : n % 20 < 20 := Int.emod_lt_of_pos _ (by omega)
  obtain ⟨m, hm⟩ : ∃ m : Nat, n % 20 = m := ⟨(n % 20).toNat, by omega⟩
  rw [hm] at hq hq0 hq1
  have hm20 : m < 20 := by omega
  have hqa := fun V => place_any fr (2 + (m : Int)) hf0 hf1 (by omega) (by omega) V
  have ha0 : 0 ≤ fr % (2 + (m : Int)) := Int.emod_nonneg _ (by omega)
  have ha1 : fr % (2 + (m : Int)) < 2 + (m : Int) := Int.emod_lt_of_pos _ (by omega)
  obtain ⟨a, hae⟩ : ∃ a : Nat, fr % (2 + (m : Int)) = a := ⟨(fr % (2 + (m : Int))).toNat, by omega⟩
  rw [hae] at hqa ha0 ha1
  have hqb := fun V => place_any tw (2 + (m : Int) + 1) ht0 ht1 (by omega) (by omega) V
  have hb0 : 0 ≤ tw % (2 + (m : Int) + 1) := Int.emod_nonneg _ (by omega)
  have hb1 : tw % (2 + (m : Int) + 1) < 2 + (m : Int) + 1 := Int.emod_lt_of_pos _ (by omega)
  obtain ⟨b, hbe⟩ : ∃ b : Nat, tw % (2 + (m : Int) + 1) = b := ⟨(tw % (2 + (m : Int) + 1)).toNat, by omega⟩
  rw [hbe] at hqb hb0 hb1
  have ha : a < 2 + m := by omega
  have hb : b ≤ 2 + m := by omega
  have HQ := Lib.hid hq
  have HQA := Lib.hid hqa
  have HQB := Lib.hid hqb
  clear hq hq0 hq1 hqa ha0 ha1 hqb hb0 hb1 hm hae hbe
  go_enter Tryd.func4, Tryd.ntmps4
  go_wp2_with fail
  refine (treeNew_any _).mono ?_
  rintro r w1 ⟨M0, rfl, H1, ho1, hb1⟩
  have HG : Hid (Grown w M0 (Tr.chainT 0) w1) := ⟨H1, ho1, hb1⟩
  obtain ⟨p, hp⟩ : ∃ p, M0.t = p := ⟨_, rfl⟩
  rw [hp]
  have HP := Lib.hid hp
  clear H1 ho1 hb1 hp
  go_wp2_with fail
  refine (HQ.out _).mono ?_
  rintro r w2 ⟨rfl, rfl⟩
  go_wp2_with fail
  go_loopw [9] (fun iv wx => ∃ (j : Nat) (M : TM), j ≤ 2 + m ∧ iv = .int .i64 j ∧ Hid (M.t = p) ∧ Hid (Grown w M (Tr.chainT j) wx)) (fun iv _ => 2 + m - (RowKit.intOf iv).toNat)
  case atStart => exact ⟨0, M0, by omega, rfl, HP, HG⟩
  case round =>
    obtain ⟨j, M, hj, rfl, HM, HI⟩ := hrel
    by_cases hlt : j < 2 + m
    · have hlt2 : (j : Int) < 2 + (m : Int) := by omega
      have hap := treeApply_any wr M _ (6, 1 + (j : Int), [100], 0, [], 0, []) HI.out.at_ (by simp only [Tr.chainT]; omega) (by simp only [Tr.chainT]; omega)
      obtain ⟨hc1, hc2⟩ := Tr.chain_apply (Tr.chain_good j (by omega)) (by omega)
      generalize Tr.apply (Tr.chainT j) (6, 1 + (j : Int), [100], 0, [], 0, []) = R at hap hc1 hc2
      obtain ⟨T, es, ks, er⟩ := R
      simp only at hc1 hc2
      subst hc1 hc2
      simp only [vOp, cOp, txt] at hap
      rw [HM.out] at hap
      have HAP := Lib.hid hap
      clear hap
      go_wp2_with fail
      refine HAP.out.mono ?_
      rintro r w3 hpost
      obtain ⟨A1, c1, A2, c2, M', rfl, -, -, -, -, -, HG', ht, -, -⟩ := HI.out.apply hpost
      simp only at HG' ⊢
      have HG3 := Lib.hid HG'
      have HM2 : Hid (M'.t = p) := ht.trans HM.out
      clear hpost HG' ht
      go_wp2_with fail
      go_roundw
      case rel => exact ⟨j + 1, M', by omega, by go_num, HM2, HG3⟩
      case measure => simp [RowKit.intOf] <;> omega
    · obtain rfl : j = 2 + m := by omega
      have hap := treeApply_any wr M _ (10, 1 + (a : Int), [100], 1 + (b : Int), [101], 0, []) HI.out.at_ (by simp only [Tr.chainT]; omega) (by simp only [Tr.chainT]; omega)
      obtain ⟨hc1, hc2⟩ := Tr.chain_moved (Tr.chain_good (2 + m) (by omega)) ha hb _ rfl
      generalize Tr.apply (Tr.chainT (2 + m)) (10, 1 + (a : Int), [100], 1 + (b : Int), [101], 0, []) = R at hap hc1 hc2
      obtain ⟨T, es, ks, er⟩ := R
      simp only at hc1 hc2
      simp only [vOp, cOp, txt] at hap
      rw [HM.out] at hap
      have HAP := Lib.hid hap
      have HC1 := Lib.hid hc1
      have HC2 := Lib.hid hc2
      clear hap hc1 hc2
      go_wp2_with fail
      refine (HQA.out _).mono ?_
      rintro r w2 ⟨rfl, rfl⟩
      go_wp2_with fail
      refine (HQB.out _).mono ?_
      rintro r w2 ⟨rfl, rfl⟩
      go_wp2_with fail
      refine HAP.out.mono ?_
      rintro r w3 hpost
      obtain ⟨A1, c1, A2, c2, M', rfl, -, -, -, -, -, HG', ht, -, -⟩ := HI.out.apply hpost
      simp only at HG' ⊢
      have HG3 := Lib.hid HG'
      have HM2 : Hid (M'.t = p) := ht.trans HM.out
      clear hpost HG' ht
      by_cases hab : a < b
      · obtain ⟨rfl, hv⟩ := HC1.out hab
        have hve := treeVersion_any w3 M' T HG3.out.at_
        rw [HM2.out, hv] at hve
        have HVE := Lib.hid hve
        have hab2 : (a : Int) < (b : Int) := by omega
        clear hv hve
        go_wp2_with fail
        refine HVE.out.mono ?_
        rintro r w4 ⟨rfl, rfl⟩
        go_wp2_with fail
        refine (awake05 _).mono ?_
        rintro r w5 ⟨rfl, b2⟩
        go_wp2_with fail
        go_ret
        exact ⟨rfl, HG3.out.bl.trans (b2.mono HG3.out.bl.size)⟩
      · obtain ⟨rfl, hf⟩ := HC2.out hab
        have hfi := treeFind_any w3 M' T (2 + (a : Int)) HG3.out.at_
        rw [HM2.out, hf] at hfi
        simp only [vEn, txt] at hfi
        have HFI := Lib.hid hfi
        have hab2 : ¬ (a : Int) < (b : Int) := by omega
        clear hf hfi
        have hq : ∀ V : World, (binOp .eql 36 (.agg #[.int .i64 (1 + (b : Int)), .string ⟨#[101]⟩]) (.agg #[.int .i64 (1 + (b : Int)), .string ⟨#[101]⟩])).run Tryd.prog V = .ok (.bool true) V := fun V => by
          have := eql_key (1 + (b : Int), [101]) (1 + (b : Int), [101]) V
          rw [decide_eq_true rfl] at this
          exact this
        go_wp2_with fail
        refine HFI.out.mono ?_
        rintro r w4 ⟨rfl, b4⟩
        have HG4 := Lib.hid (HG3.out.below b4)
        clear b4
        go_wp2_with fail
        refine (awake05 _).mono ?_
        rintro r w5 ⟨rfl, b2⟩
        go_wp2_with fail
        go_ret
        have HG5 := HG4.out.below (Below.alloc (Below.refl _ _) (Nat.le_refl _) (.cells #[.int .i64 (1 + (b : Int)), .string ⟨#[101]⟩, .bool false, .int .i64 (2 + (a : Int)), .int .i64 1, .int .i64 0, .string ⟨#[]⟩] 40))
        exact ⟨rfl, HG5.bl.trans (b2.mono HG5.bl.size)⟩
end Go.Proofs.YtjaokljbdoocmaaDoor
