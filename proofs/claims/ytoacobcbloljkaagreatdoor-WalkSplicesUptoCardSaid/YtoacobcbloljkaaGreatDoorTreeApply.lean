/-
  The walk of the tree's Apply.
-/
import Derived.Test.YtoacobcbloljkaaGreatDoorTreeRen
import Derived.Test.YtoacobcbloljkaaGreatDoorTreeD
import Derived.Test.YtoacobcbloljkaaGreatDoorTreeByKey
namespace Go.Proofs.YtoacobcbloljkaaGreatDoor
open Go.RowKit Go.Sort Go.Shelf

/-- Behind Apply. -/
def ApPost (w : World) (M : TM) (R : Tr.T × List En × List Key × Int) (r : Ending) (w' : World) : Prop :=
  ∃ (v1 v2 : Value) (M' : TM), r = .returned (.tuple #[v1, v2, .int .i64 R.2.2.2]) ∧ w'.ownsRow w.heap.size 36 7 v1 R.2.1.length (cEns R.2.1) ∧ w'.ownsRow w.heap.size 32 2 v2 R.2.2.1.length (cKeys R.2.2.1) ∧
    TreeAt w' M' R.1 ∧ M'.t = M.t ∧ (∀ k, M'.own k → M.own k ∨ w.heap.size ≤ k) ∧ (∀ k, v1.ownBlock = some k → ¬ M'.own k) ∧ (∀ k, v2.ownBlock = some k → ¬ M'.own k) ∧ (∀ k, v1.ownBlock = some k → v2.ownBlock ≠ some k) ∧ Kp (fun k => ¬ M.own k) w w'

namespace Tr
theorem does_err {t : T} {o : Op} (h : (does t o).1 ≠ 0) : (does t o).2 = t := by
  have hm : ∀ k kd md tg, (made t k kd md tg).1 ≠ 0 → (made t k kd md tg).2 = t := fun k kd md tg h => by
    unfold made at h ⊢
    split
    · rfl
    · rename_i h1
      rw [if_neg h1] at h
      split
      · rfl
      · rename_i h2
        rw [if_neg h2] at h
        exact absurd rfl h
  have hr : ∀ k d, (removed t k d).1 ≠ 0 → (removed t k d).2 = t := fun k d h => by
    unfold removed at h ⊢
    split
    · rfl
    · rename_i x hx
      rw [hx] at h
      simp only at h ⊢
      split
      · rfl
      · rename_i h1
        rw [if_neg h1] at h
        split
        · rfl
        · rename_i h2
          rw [if_neg h2] at h
          split
          · rfl
          · rename_i h3
            rw [if_neg h3] at h
            exact absurd rfl h
  have hn : ∀ a b, (renamed t a b).1 ≠ 0 → (renamed t a b).2 = t := fun a b h => by
    unfold renamed at h ⊢
    split
    · rfl
    · rename_i x hx
      rw [hx] at h
      simp only at h ⊢
      split
      · rfl
      · rename_i h1
        rw [if_neg h1] at h
        split
        · rfl
        · rename_i h2
          rw [if_neg h2] at h
          split
          · rename_i h3
            rw [h3] at h
            exact absurd rfl h
          · rename_i y hy
            rw [hy] at h
            simp only at h ⊢
            split
            · rfl
            · rename_i h3
              rw [if_neg h3] at h
              exact absurd rfl h
  by_cases hk : 5 ≤ o.1 ∧ o.1 ≤ 11
  · by_cases hp : placeE t.L o.2.1 o.2.2.1 = 0
    · rcases (show o.1 = 5 ∨ o.1 = 6 ∨ o.1 = 7 ∨ o.1 = 8 ∨ o.1 = 9 ∨ o.1 = 10 ∨ o.1 = 11 by omega) with q | q | q | q | q | q | q
      · rw [does_5 hp q] at h ⊢
        split
        · rename_i g; rw [if_pos g] at h; exact hm _ _ _ _ h
        · rfl
      · rw [does_6 hp q] at h ⊢
        split
        · rename_i g; rw [if_pos g] at h; exact hm _ _ _ _ h
        · rfl
      · rw [does_7 hp q] at h ⊢
        split
        · rfl
        · rename_i g; rw [if_neg g] at h; exact hm _ _ _ _ h
      · rw [does_8 hp q] at h ⊢; exact hr _ _ h
      · rw [does_9 hp q] at h ⊢; exact hr _ _ h
      · rw [does_10 hp q] at h ⊢
        split
        · rfl
        · rename_i g; rw [if_neg g] at h; exact hn _ _ h
      · rw [does_11 hp q] at h ⊢
        split
        · rename_i g
          rw [if_pos g] at h
          split
          · rename_i g2; rw [if_pos g2] at h; exact absurd rfl h
          · rfl
        · rfl
    · rw [does_bad hk.1 hk.2 hp]
  · unfold does
    rw [if_pos (by omega)]
theorem does_out {t : T} {o : Op} (h : ¬ (5 ≤ o.1 ∧ o.1 ≤ 11)) : does t o = (1, t) := by
  unfold does
  rw [if_pos (by omega)]
def keysU (o : Op) : List Key := if o.1 = 10 then renKeys o else [o.key]
theorem keys_sorted {o : Op} {l : List Key} (hp : l.Perm (keysU o)) (hs : l.Pairwise fun x y => ltOf cK y x = false) : l = keysOf o := by
  have e : ∀ x y, ltOf cK x y = true ↔ x.1 < y.1 ∨ x.1 = y.1 ∧ x.2 < y.2 := fun x y => by
    show decide (cK x y < 0) = true ↔ _
    rw [cK_lt]
    simp
  have n : ∀ x y, ltOf cK y x = false ↔ leK x y = true := fun x y => by
    rw [← Bool.not_eq_true, e]
    simp only [leK, leN, Bool.or_eq_true, Bool.and_eq_true, decide_eq_true_eq]
    constructor
    · intro h
      by_cases q : x.1 < y.1
      · exact .inl q
      · refine .inr ⟨?_, ?_⟩
        · by_cases q2 : y.1 < x.1
          · exact absurd (.inl q2) h
          · omega
        · intro q2
          exact h (.inr ⟨by by_cases q3 : y.1 < x.1; exact absurd (.inl q3) h; omega, q2⟩)
    · rintro (h | ⟨h, h2⟩) (q | ⟨q, q2⟩)
      · omega
      · omega
      · omega
      · exact h2 q2
  have hs2 : l.Pairwise fun x y => leK x y = true := hs.imp fun {x y} h => (n x y).1 h
  have hk : (keysOf o).Perm (keysU o) ∧ (keysOf o).Pairwise fun x y => leK x y = true := by
    unfold keysOf keysU renKeys
    by_cases h10 : o.1 = 10
    · by_cases hab : o.key = o.to
      · rw [if_neg (by simp [hab]), if_pos h10, if_pos hab]
        exact ⟨.refl _, by simp⟩
      · rw [if_pos ⟨h10, hab⟩, if_pos h10, if_neg hab]
        split
        · rename_i hle
          exact ⟨.refl _, by simp [hle]⟩
        · rename_i hle
          refine ⟨.swap _ _ _, ?_⟩
          have := leK_total o.key o.to
          simp only [Bool.or_eq_true] at this
          have h2 : leK o.to o.key = true := this.resolve_left hle
          simp [h2]
    · rw [if_neg (by simp [h10]), if_neg h10]
      exact ⟨.refl _, by simp⟩
  exact List.Perm.eq_of_pairwise (le := fun x y => leK x y = true) (fun a b _ _ h1 h2 => leK_anti h1 h2) hs2 hk.2 (hp.trans hk.1.symm)
end Tr

/-- Which of the methods serves. -/
theorem muts_call (M : TM) (t : Tr.T) (o : Tr.Op) (hk : 5 ≤ o.1 ∧ o.1 ≤ 11) (hx : t.next < 4611686018427387904) (e : Int) (t' : Tr.T) (hm : Tr.does t o = (e, t')) :
    (o.1 = 5 ∧ ∀ V, TreeAt V M t → Calls Tryz.prog 138 #[.pointer (some ⟨M.t, 0, none⟩), vOp o] V (DoPost V M t' e (if e = 0 then Tr.keysU o else []))) ∨
    (o.1 = 6 ∧ ∀ V, TreeAt V M t → Calls Tryz.prog 139 #[.pointer (some ⟨M.t, 0, none⟩), vOp o] V (DoPost V M t' e (if e = 0 then Tr.keysU o else []))) ∨
    (o.1 = 7 ∧ ∀ V, TreeAt V M t → Calls Tryz.prog 140 #[.pointer (some ⟨M.t, 0, none⟩), vOp o] V (DoPost V M t' e (if e = 0 then Tr.keysU o else []))) ∨
    (o.1 = 8 ∧ ∀ V, TreeAt V M t → Calls Tryz.prog 141 #[.pointer (some ⟨M.t, 0, none⟩), vOp o] V (DoPost V M t' e (if e = 0 then Tr.keysU o else []))) ∨
    (o.1 = 9 ∧ ∀ V, TreeAt V M t → Calls Tryz.prog 142 #[.pointer (some ⟨M.t, 0, none⟩), vOp o] V (DoPost V M t' e (if e = 0 then Tr.keysU o else []))) ∨
    (o.1 = 10 ∧ ∀ V, TreeAt V M t → Calls Tryz.prog 143 #[.pointer (some ⟨M.t, 0, none⟩), vOp o] V (DoPost V M t' e (if e = 0 then Tr.keysU o else []))) ∨
    (o.1 = 11 ∧ ∀ V, TreeAt V M t → Calls Tryz.prog 144 #[.pointer (some ⟨M.t, 0, none⟩), vOp o] V (DoPost V M t' e (if e = 0 then Tr.keysU o else []))) := by
  have hu : o.1 ≠ 10 → Tr.keysU o = [o.key] := fun h => by unfold Tr.keysU; rw [if_neg h]
  have hu2 : o.1 = 10 → Tr.keysU o = Tr.renKeys o := fun h => by unfold Tr.keysU; rw [if_pos h]
  rcases (show o.1 = 5 ∨ o.1 = 6 ∨ o.1 = 7 ∨ o.1 = 8 ∨ o.1 = 9 ∨ o.1 = 10 ∨ o.1 = 11 by omega) with q | q | q | q | q | q | q
  · rw [hu (by omega)]; exact .inl ⟨q, fun V H => treeCreate_any V M t o e t' hm H q hx⟩
  · rw [hu (by omega)]; exact .inr (.inl ⟨q, fun V H => treeMkdir_any V M t o e t' hm H q hx⟩)
  · rw [hu (by omega)]; exact .inr (.inr (.inl ⟨q, fun V H => treeSymlink_any V M t o e t' hm H q hx⟩))
  · rw [hu (by omega)]; exact .inr (.inr (.inr (.inl ⟨q, fun V H => treeUnlink_any V M t o e t' hm H q⟩)))
  · rw [hu (by omega)]; exact .inr (.inr (.inr (.inr (.inl ⟨q, fun V H => treeRmdir_any V M t o e t' hm H q⟩))))
  · rw [hu2 q]; exact .inr (.inr (.inr (.inr (.inr (.inl ⟨q, fun V H => treeRename_any V M t o e t' hm H q⟩)))))
  · rw [hu (by omega)]; exact .inr (.inr (.inr (.inr (.inr (.inr ⟨q, fun V H => treeSetattr_any V M t o e t' hm H q⟩)))))

theorem below_after_d {w w1 : World} {o : Obj} (h : Below (w.alloc o).drew.heap.size (w.alloc o).drew w1) : Below w.heap.size w w1 := below_after (o := o) ⟨h.os, h.tape, h.output, h.size, h.block⟩

/-- The keys of a mutation are gone through, entries grow. -/
structure ApIn (base : Nat) (w0 : World) (A : Option Addr) (n c : Nat) (xs : List Value) (v : Value) (m : Nat) (ys : List Value) (W : World) : Prop where
  bl : Below w0.heap.size w0 W
  r1 : W.ownsRow base 32 2 (.slice A n c) n xs
  r2 : W.ownsRow w0.heap.size 36 7 v m ys
  ne : ∀ k, (Value.slice A n c).ownBlock = some k → v.ownBlock ≠ some k
section
variable {base : Nat} {w0 W W' : World} {A : Option Addr} {n c : Nat} {xs : List Value} {v v' : Value} {m m' : Nat} {ys ys' : List Value}
theorem ApIn.next (H : ApIn base w0 A n c xs v m ys W) (hb : Below W.heap.size W W') : ApIn base w0 A n c xs v m ys W' := ⟨H.bl.trans (hb.mono H.bl.size), own_below H.r1 hb, own_below H.r2 hb, H.ne⟩
theorem ApIn.alloc (H : ApIn base w0 A n c xs v m ys W) (o : Obj) : ApIn base w0 A n c xs v m ys (W.alloc o) := H.next ((Below.refl _ _).alloc (Nat.le_refl _) o)
theorem ApIn.push (H : ApIn base w0 A n c xs v m ys W) (hown : W'.ownsRow w0.heap.size 36 7 v' m' ys') (hg : W.grownBy W' v.ownBlock) (hb : v'.ownBlock = v.ownBlock ∨ v'.ownBlock = some W.heap.size) : ApIn base w0 A n c xs v' m' ys' W' := by
  refine ⟨H.bl.grown hg H.bl.size (fun k q => (H.r2.lt k q).1), H.r1.kept hg ?_, hown, fun k q => ?_⟩
  · cases hA : (Value.slice A n c).ownBlock with
    | none => exact .inl rfl
    | some k => exact .inr fun q => H.ne k hA q.symm
  · rcases hb with e | e
    · rw [e]; exact H.ne k q
    · rw [e]
      have := (H.r1.lt k q).2
      intro q2
      injection q2 with q2
      omega
end

theorem cKeys_get_ (l : List Key) {q : Nat} {k : Key} (h : l[q]? = some k) (j : Nat) (hj : j < 2) : (cKeys l)[q * 2 + j]? = (cKey k)[j]? := cells_get cKey 2 (fun _ => rfl) l q k h j hj
set_option maxRecDepth 100000 in
set_option maxHeartbeats 8000000 in
theorem treeApply_any (w : World) (M : TM) (t : Tr.T) (o : Tr.Op) (H : TreeAt w M t) (hx : t.next < 4611686018427387904) (hv : t.vers < 4611686018427387904) :
    Calls Tryz.prog 47 #[.pointer (some ⟨M.t, 0, none⟩), vOp o] w (ApPost w M (Tr.apply t o)) := by
  obtain ⟨R, hR⟩ : ∃ R, Tr.apply t o = R := ⟨_, rfl⟩
  rw [hR]
  have hAt := At.new w 96 (cOp o)
  have HH := Lib.hid H
  have HA := Lib.hid hAt
  have hlt := H.F.own_lt (.inl rfl)
  have hzf : ∀ V : World, (zeroValue 164).run Tryz.prog V = .ok .nilFunc V := fun V => by kernel_rfl
  have hlk : ∀ (V : World) (b : Nat), MapF vI (vFn M.t) V b mutF → ∀ k : Int, (Instr.lookup 166 (.map (some b)) (.int .i64 k) true).run Tryz.prog V = .ok (.tuple #[((mutF k).map (vFn M.t)).getD .nilFunc, .bool (mutF k).isSome]) V := fun V b hm k => by
    have := hm.lookup keyK_num (P := Tryz.prog) (t := 166) (e := 164) Tryz.underlying166 (hzf V) k true
    rw [show vI k = .int .i64 k from rfl, if_pos rfl] at this
    exact this
  have hmc := fun hk e t' hm => muts_call M t o hk hx e t' hm
  by_cases hk : 5 ≤ o.1 ∧ o.1 ≤ 11
  · obtain ⟨e, t', hm⟩ : ∃ e t', Tr.does t o = (e, t') := ⟨_, _, rfl⟩
    have hcl := hmc hk e t' hm
    have herr : e ≠ 0 → t' = t ∧ R = (t, [], [], e) := fun h => by
      have h1 : (Tr.does t o).1 ≠ 0 := by rw [hm]; exact h
      have h2 := Tr.does_err h1
      rw [hm] at h2
      exact ⟨h2, by rw [← hR, Tr.apply_bad h1, hm]⟩
    have hok : e = 0 → R = (⟨t'.L, t.vers + 1, t'.next⟩, (Tr.keysOf o).map (Tr.nowE t'.L), Tr.keysOf o, 0) := fun h => by
      rw [← hR, Tr.apply_ok (by rw [hm]; exact h), hm]
    have hvs : t'.vers = t.vers := by
      have := (Tr.does_size t o).2.2
      rw [hm] at this
      exact this
    have hkl : (Tr.keysU o).length ≤ 2 := by
      unfold Tr.keysU Tr.renKeys
      split
      · split <;> simp
      · simp
    have hgR : Tr.Good R.1 := by rw [← hR]; exact H.good.apply o
    obtain ⟨ks, hks⟩ : ∃ ks, (if e = 0 then Tr.keysU o else []) = ks := ⟨_, rfl⟩
    rw [hks] at hcl
    have hso := fun l hp hs => Tr.keys_sorted (o := o) (l := l) hp hs
    have HLK := Lib.hid hlk
    have HCL := Lib.hid hcl
    have HER := Lib.hid herr
    have HOK := Lib.hid hok
    have HVS := Lib.hid hvs
    have HKL := Lib.hid hkl
    have HKS := Lib.hid hks
    have HSO := Lib.hid hso
    have HGR := Lib.hid hgR
    have HNX := Lib.hid hx
    obtain ⟨ok, od, on, ow, oe, om, og⟩ := o
    clear H hAt hlk hmc hk hzf hcl herr hok hvs hkl hks hm hso hgR hR hx
    unfold vOp at HCL ⊢
    simp only [cOp, txt] at HCL ⊢
    go_enter Tryz.func47, Tryz.ntmps47
    go_upto_region 1 with fail
    go_cut [7, 8] (fun fv bv wd => fv = ((mutF ok).map (vFn M.t)).getD .nilFunc ∧ bv = .bool (mutF ok).isSome ∧ Hid (At wd w.heap.size 96 (cOp (ok, od, on, ow, oe, om, og)) ∧ Below w.heap.size w wd))
    case first =>
      go_region_with (go_at_call 109; (with_reducible refine (treeMuts_any _ M.t).mono ?_); rintro r w1 ⟨b, rfl, hm1, hb1⟩; (have hl1 := HLK.out w1 b hm1 ok); (have HA1 := Lib.hid (HA.out.drew.below hb1)); (have k0 : w1.cell? ⟨w.heap.size, 0, none⟩ = some (.int .i64 ok) := HA1.out.cell 0); (have HB1 := Lib.hid (below_after_d hb1)); clear hm1 hb1)
      all_goals
        clear hl1 k0
        go_wp2_with fail
        go_meet
        case rel => exact ⟨rfl, rfl, HA1.out, HB1.out⟩
    case rest =>
      obtain ⟨rfl, rfl, hcut⟩ := hcut
      have HC := Lib.hid hcut.out
      obtain ⟨w2, hw2⟩ : ∃ w2 : World, w2 = wc := ⟨_, rfl⟩
      subst hw2
      obtain ⟨c0, c1, c2, c3, c4, c5, c6⟩ := op_cells (o := (ok, od, on, ow, oe, om, og)) HC.out.1
      simp only at c0 c1 c2 c3 c4 c5 c6
      clear hcut HA
      have hsome : (mutF ok).isSome = true := by
        rcases HCL.out with ⟨hq, _⟩ | ⟨hq, _⟩ | ⟨hq, _⟩ | ⟨hq, _⟩ | ⟨hq, _⟩ | ⟨hq, _⟩ | ⟨hq, _⟩ <;> (rw [show ok = _ from hq]; rfl)
      rw [hsome]
      go_upto_region 4 with fail
      go_cut [5, 6, 7] (fun kv ev _ wd => ev = .int .i64 e ∧ Hid (∃ M' : TM, wd.ownsRow w.heap.size 32 2 kv ks.length (cKeys ks) ∧ TreeAt wd M' t' ∧ M'.t = M.t ∧ (∀ k, M'.own k → M.own k ∨ w.heap.size ≤ k) ∧ (∀ k, kv.ownBlock = some k → ¬ M'.own k) ∧ Kp (fun k => ¬ M.own k) w wd))
      case first =>
        rcases HCL.out with ⟨hq, hc⟩ | ⟨hq, hc⟩ | ⟨hq, hc⟩ | ⟨hq, hc⟩ | ⟨hq, hc⟩ | ⟨hq, hc⟩ | ⟨hq, hc⟩
        all_goals
          have hmu := (congrArg mutF hq).trans (rfl : _ = some _)
          rw [show mutF ok = _ from hmu]
          simp only [Option.map_some, Option.getD_some, vFn]
          have HCC := Lib.hid (hc w2 (HH.out.below HC.out.2))
          clear hmu hq hc HCL hsome
          go_wp2_with fail
          refine HCC.out.mono ?_
          rintro r w3 hdp
          obtain ⟨kv, M', rfl, hrest⟩ := DoPost.base HC.out.2 hdp
          have HR := Lib.hid hrest
          clear hrest hdp HCC c0 c1 c2 c3 c4 c5 c6
          go_wp2_with fail
          go_meet
          case rel => exact ⟨rfl, Lib.hid ⟨M', HR.out⟩⟩
      case rest =>
        obtain ⟨rfl, hcut⟩ := hcut
        obtain ⟨M', h1, h2, h3, h4, h5, h6⟩ := hcut.out
        obtain ⟨w3, hw3⟩ : ∃ w3 : World, w3 = wc := ⟨_, rfl⟩
        subst hw3
        have HO := Lib.hid h1
        have HT := Lib.hid h2
        have HM := Lib.hid h3
        have HN := Lib.hid h4
        have HX := Lib.hid h5
        have HK := Lib.hid h6
        clear hcut h1 h2 h4 h5 h6 c0 c1 c2 c3 c4 c5 c6 hsome HC HCL HLK
        by_cases he : e = 0
        · subst he
          have hv3 : w3.cell? ⟨M.t, 3, none⟩ = some (.int .i64 t.vers) := by
            have := HT.out.F.c3
            rw [h3, HVS.out] at this
            exact this
          have hf3 : w3.frozen? ⟨M.t, 3, none⟩ = false := by
            have := HT.out.F.blk.frozen 3
            rw [h3] at this
            exact this
          have hv0 := HH.out.good.vers
          have F4 : TreeF (w3.setCell ⟨M.t, 3, none⟩ (.int .i64 (t.vers + 1))) M' (Tr.nodeF t'.L) (Tr.nameF t'.L) (Tr.placeF t'.L) (t.vers + 1) t'.next := by
            have := HT.out.F.setV (t.vers + 1)
            rw [h3] at this
            exact this
          have hR := HOK.out rfl
          have hgR := HGR.out
          rw [hR] at hgR
          have T4 : TreeAt (w3.setCell ⟨M.t, 3, none⟩ (.int .i64 (t.vers + 1))) M' ⟨t'.L, t.vers + 1, t'.next⟩ := ⟨F4, HT.out.dirs, hgR⟩
          have hne : ∀ k, u5.ownBlock = some k → k ≠ M.t := fun k q q2 => HX.out k q (.inl (q2.trans h3.symm))
          have O4 : (w3.setCell ⟨M.t, 3, none⟩ (.int .i64 (t.vers + 1))).ownsRow w.heap.size 32 2 u5 ks.length (cKeys ks) := own_kp HO.out ((Kp.refl (fun k => k ≠ M.t) w3).setCell (p := ⟨M.t, 3, none⟩) (fun _ q => q rfl) _) hne
          have K4 : Kp (fun k => ¬ M.own k) w (w3.setCell ⟨M.t, 3, none⟩ (.int .i64 (t.vers + 1))) := HK.out.setCell (p := ⟨M.t, 3, none⟩) (fun _ q => q (.inl rfl)) _
          have hkl : ks.length ≤ 2 := by rw [← HKS.out, if_pos rfl]; exact HKL.out
          have HKU : Hid (ks = Tr.keysU (ok, od, on, ow, oe, om, og)) := by rw [← HKS.out, if_pos rfl]; exact Lib.hid rfl
          have HRR := Lib.hid hR
          go_upto_region 8 with fail
          obtain ⟨w4, hw4⟩ : ∃ w4, w3.setCell ⟨M.t, 3, none⟩ (.int .i64 (t.vers + 1)) = w4 := ⟨_, rfl⟩
          rw [hw4] at F4 T4 O4 K4 ⊢
          have HO4 := Lib.hid O4
          have HT4 := Lib.hid T4
          have HK4 := Lib.hid K4
          clear hv3 hf3 F4 T4 O4 K4 hw4 hne HO HT HK hR hgR h3 HER HOK HVS HKL HKS HGR
          have hsort := sortKey_any w4 w.heap.size u5 ks HO4.out (by omega)
          go_wp2_with fail
          refine hsort.mono ?_
          rintro r w5 ⟨rfl, l', hp, hs, hown5, hg5⟩
          have hl : l' = Tr.keysOf (ok, od, on, ow, oe, om, og) := HSO.out l' (by rw [← HKU.out]; exact hp) hs
          have hll : l'.length = ks.length := hp.length_eq
          rw [← hll] at hown5
          have HT5 : Hid (TreeAt w5 M' ⟨t'.L, t.vers + 1, t'.next⟩) := HT4.out.kp ((Kp.refl (fun k => u5.ownBlock ≠ some k) w4).grown hg5 fun k q _ q2 => q2 q) (fun k q q2 => HX.out k q2 q)
          have HK5 : Hid (Kp (fun k => ¬ M.own k) w w5) := HK4.out.join ((Kp.refl (fun k => u5.ownBlock ≠ some k) w4).grown hg5 fun k q _ q2 => q2 q) (fun k hlt5 _ q2 => by have := (HO4.out.lt k q2).1; omega)
          obtain ⟨A, c, hu5⟩ := own_slice hown5
          subst hu5
          obtain ⟨n, hn⟩ : ∃ n, ks.length = n := ⟨_, rfl⟩
          rw [hll, hn] at hown5
          rw [hn] at hkl
          have HLL := Lib.hid (hll.trans hn)
          have HP0 : Hid (ApIn w.heap.size w5 A n c (cKeys l') (.slice none 0 0) 0 [] w5) := ⟨Below.refl _ _, hown5, World.ownsRow_nil _ _ _ _, by simp [Value.ownBlock]⟩
          have HXA : Hid (∀ k, (Value.slice A n c).ownBlock = some k → ¬ M'.own k) := fun k q => HX.out k (by rw [hll, hn]; exact q)
          have HLE := Lib.hid hl
          rw [hll, hn]
          clear hown5 hp hs hg5 hl hll hn hsort HO4 HT4 HK4 HX HSO HKU
          go_wp2_with fail
          go_loopw [4, 41] (fun v iv wx => ∃ j : Nat, j ≤ n ∧ iv = .int .i64 j ∧ Hid (ApIn w.heap.size w5 A n c (cKeys l') v j (cEns ((l'.take j).map (Tr.nowE t'.L))) wx)) (fun _ iv _ => n - (RowKit.intOf iv).toNat)
          case atStart => exact ⟨0, by omega, rfl, HP0⟩
          case round =>
            obtain ⟨j, hj, rfl, HI⟩ := hrel
            by_cases hlt3 : j < n
            · obtain ⟨ad, d, s, rfl, hbl, hx, q0, q1⟩ := (Rd.of_own HI.out.r1).key_at hlt3
              have htk : (l'.take (j + 1)).map (Tr.nowE t'.L) = (l'.take j).map (Tr.nowE t'.L) ++ [Tr.nowE t'.L (d, s)] := by
                rw [List.take_add_one, hx]
                simp
              have hen := fun V H => treeEntry_any V M' ⟨t'.L, t.vers + 1, t'.next⟩ (d, s) H
              simp only [vKey, txt] at hen
              generalize Tr.nowE t'.L (d, s) = en at hen htk
              obtain ⟨⟨ed, es⟩, eng, ei, ek, em, et⟩ := en
              have HTK := Lib.hid htk
              have HE := Lib.hid hen
              have HTW := Lib.hid (HT5.out.below HI.out.bl)
              have HRD : Hid (∀ (V : World) (g : Nat), g = V.heap.size → Rd (V.alloc (.cells #[.int .i64 ed, .string ⟨es.toArray⟩, .bool eng, .int .i64 ei, .int .i64 ek, .int .i64 em, .string ⟨et.toArray⟩] 36)) 7 (some ⟨g, 0, none⟩) 1 (cEn ((ed, es), eng, ei, ek, em, et))) := fun V g hg => hg ▸ rd_lay V 36 (cEn ((ed, es), eng, ei, ek, em, et)) 7 1 rfl
              rw [HM.out] at HE
              clear hx htk hen
              go_wp2_with fail
              refine (HE.out _ (HTW.out.alloc _)).mono ?_
              rintro r w6 ⟨rfl, hb6⟩
              have HI6 := Lib.hid ((HI.out.alloc _).next hb6)
              clear hb6 HE HTW
              simp only [vEn, txt]
              go_wp2_with ((with_reducible refine wpList_isBuiltin .append ?_); refine wpList_append_rd rfl _ _ rfl elemEntries rfl (HI6.out.alloc _).r2 rfl (HRD.out _ _ ?c4) (cEn_one _) ?c1 ?c2 ?c3 ?_; (case c4 => simp); (case c1 => unfold maxLen; omega); (case c2 => omega); (case c3 => have := HI6.out.bl.size; simp; omega); intro v7 w7 hown7 hg7 hb7; have HI7 := Lib.hid ((HI6.out.alloc _).push hown7 hg7 hb7); clear hown7 hg7 hb7)
              go_roundw
              case rel =>
                refine ⟨j + 1, by omega, by go_num, ?_⟩
                have := HI7.out
                refine Lib.hid ?_
                rw [HTK.out, cEns_append]
                simpa [cEns] using this
              case measure => simp [RowKit.intOf] <;> omega
            · obtain rfl : j = n := by omega
              have h5 := HI.out
              rw [List.take_of_length_le (by rw [HLL.out]; exact Nat.le_refl _)] at h5
              have HF := Lib.hid h5
              clear h5
              go_wp2_with fail
              refine bodyPost_ret (results3 rfl _ _ _) rfl ?_
              rw [HRR.out]
              have hs5 := HK5.out.size
              refine ⟨_, _, M', rfl, ?_, ?_, HT5.out.below HF.out.bl, HM.out, HN.out, fun k q q2 => ?_, HXA.out, fun k q q2 => HF.out.ne k q2 q, HK5.out.below HF.out.bl⟩
              · rw [List.length_map, ← HLE.out, HLL.out]
                exact own_base HF.out.r2 hs5
              · rw [← HLE.out, HLL.out]
                exact HF.out.r1
              · have h1 := (HF.out.r2.lt k q).1
                have h2 := HT5.out.F.own_lt q2
                omega
        · have heb : (e == 0) = false := by simpa using he
          obtain ⟨ht, hR⟩ := HER.out he
          have HRR := Lib.hid hR
          have hk0 : ks = [] := by rw [← HKS.out, if_neg he]
          rw [ht] at HT
          clear ht hR
          go_wp2_with fail
          refine bodyPost_ret (results3 rfl _ _ _) rfl ?_
          rw [HRR.out]
          exact ⟨_, _, M', rfl, World.ownsRow_nil _ _ _ _, World.ownsRow_nil _ _ _ _, HT.out, HM.out, HN.out, by simp [Value.ownBlock], by simp [Value.ownBlock], by simp [Value.ownBlock], HK.out⟩
  · have hd := Tr.does_out (t := t) hk
    have hap : Tr.apply t o = (t, [], [], 1) := by rw [Tr.apply_bad (by rw [hd]; simp), hd]
    rw [hap] at hR
    subst hR
    have hmu : mutF o.1 = none := by unfold mutF; repeat (rw [if_neg (by omega)])
    have HLK := Lib.hid hlk
    obtain ⟨ok, od, on, ow, oe, om, og⟩ := o
    simp only at hmu
    clear H hAt hlk hmc hk hd hap hzf
    unfold vOp
    simp only [cOp, txt]
    go_enter Tryz.func47, Tryz.ntmps47
    go_wp2_with fail
    go_region_with (go_at_call 109; (with_reducible refine (treeMuts_any _ M.t).mono ?_); rintro r w1 ⟨b, rfl, hm1, hb1⟩; (have hl1 := HLK.out w1 b hm1 ok); rw [hmu] at hl1; simp only [Option.map_none, Option.getD_none, Option.isSome_none] at hl1; (have k0 : w1.cell? ⟨w.heap.size, 0, none⟩ = some (.int .i64 ok) := (HA.out.drew.below hb1).cell 0); (have HB1 := Lib.hid (below_after_d hb1)); clear hm1 hb1)
    all_goals
      go_wp2_with fail
      refine bodyPost_ret (results3 rfl _ _ _) rfl ?_
      exact ⟨_, _, M, rfl, World.ownsRow_nil _ _ _ _, World.ownsRow_nil _ _ _ _, HH.out.below HB1.out, rfl, fun _ q => .inl q, by simp [Value.ownBlock], by simp [Value.ownBlock], by simp [Value.ownBlock], Kp.of_below HB1.out⟩
end Go.Proofs.YtoacobcbloljkaaGreatDoor
