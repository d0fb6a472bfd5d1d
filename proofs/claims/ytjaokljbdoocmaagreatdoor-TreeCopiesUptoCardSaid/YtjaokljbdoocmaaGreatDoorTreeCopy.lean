/-
  The walk of Copy.
-/
import Derived.Test.YtjaokljbdoocmaaGreatDoorTreeLoadP
import Derived.Test.YtjaokljbdoocmaaGreatDoorTreeR
import Derived.Test.YtjaokljbdoocmaaGreatDoorIters
import Derived.Deep.RegionHeld3
import Derived.Deep.DrawnRows
namespace Go.Proofs.YtjaokljbdoocmaaGreatDoor
open Go.RowKit

attribute [local go_sem ↓] Go.wp_at_zero Go.wp_at_succ

/-- A directory comes in with the map of its names. -/
theorem TreeF.turnC {w w' : World} {M : TM} {fN : Int → Option Nd} {fM : Int → List UInt8 → Option Int} {fP : Int → Option Key} {v n : Int} (H : TreeF w M fN fM fP v n) {d : Int} {b : Nat} {f : List UInt8 → Option Int} (ht : w.mapTurned w' M.mb) (hm : MapF vI vM w' M.mb (upd M.ib d (some b))) (hb : MapF txt vI w b f) (hnew : ¬ M.own b) : TreeF w' { M with ib := upd M.ib d (some b) } fN (upd fM d f) fP v n := by
  have hbm : b ≠ M.mb := fun q => hnew (.inr (.inr (.inl q)))
  refine ⟨H.blk.grown ht.grown (fun q => H.tm (by injection q)), H.mn.grown ht.grown (fun q => H.ne.1 (by injection q)), hm, H.mp.grown ht.grown (fun q => H.ne.2.2 (by injection q with q; exact q.symm)), ?_, H.ne, ?_, ?_, ?_⟩
  · intro e c he
    unfold upd at he ⊢
    by_cases q : e = d
    · simp only [if_pos q] at he ⊢
      injection he with he
      subst he
      exact hb.grown ht.grown (fun r => hbm (by injection r))
    · simp only [if_neg q] at he ⊢
      exact (H.mi e c he).grown ht.grown (fun r => (H.ni e c he).2.1 (by injection r))
  · intro e c he
    unfold upd at he
    by_cases q : e = d
    · simp only [if_pos q] at he
      injection he with he
      subst he
      exact ⟨fun r => hnew (.inr (.inl r)), hbm, fun r => hnew (.inr (.inr (.inr (.inl r))))⟩
    · simp only [if_neg q] at he
      exact H.ni e c he
  · intro e e' c he he'
    unfold upd at he he'
    by_cases q : e = d
    · by_cases q' : e' = d
      · rw [q, q']
      · simp only [if_pos q] at he
        simp only [if_neg q'] at he'
        injection he with he
        subst he
        exact absurd (.inr (.inr (.inr (.inr ⟨e', he'⟩)))) hnew
    · simp only [if_neg q] at he
      by_cases q' : e' = d
      · simp only [if_pos q'] at he'
        injection he' with he'
        subst he'
        exact absurd (.inr (.inr (.inr (.inr ⟨e, he⟩)))) hnew
      · simp only [if_neg q'] at he'
        exact H.inj e e' c he he'
  · intro e he s
    unfold upd at he ⊢
    by_cases q : e = d
    · simp only [if_pos q] at he
      cases he
    · simp only [if_neg q] at he ⊢
      exact H.nn e he s

theorem cloneN_any (V : World) (b : Nat) (es : Array MapEntry) (ck : Nat) (h : V.heap[b]? = some (.map es ck)) :
    Calls Tryz.prog 93 #[.map (some b)] V fun e w' => e = .returned (.map (some V.heap.size)) ∧ w' = V.alloc (.map es ck) := AnyW.maps_Clone Tryz.cloneN b es ck V h
theorem cloneK_any (V : World) (b : Nat) (es : Array MapEntry) (ck : Nat) (h : V.heap[b]? = some (.map es ck)) :
    Calls Tryz.prog 94 #[.map (some b)] V fun e w' => e = .returned (.map (some V.heap.size)) ∧ w' = V.alloc (.map es ck) := AnyW.maps_Clone Tryz.cloneK b es ck V h
theorem cloneS_any (V : World) (b : Nat) (es : Array MapEntry) (ck : Nat) (h : V.heap[b]? = some (.map es ck)) :
    Calls Tryz.prog 95 #[.map (some b)] V fun e w' => e = .returned (.map (some V.heap.size)) ∧ w' = V.alloc (.map es ck) := AnyW.maps_Clone Tryz.cloneS b es ck V h

theorem MapF.block {κ ν : Type} [DecidableEq κ] {kv : κ → Value} {vv : ν → Value} {w : World} {b : Nat} {f : κ → Option ν} (h : MapF kv vv w b f) :
    ∃ es ck, w.heap[b]? = some (.map es ck) ∧ ∀ (W : World) (c : Nat), W.heap[c]? = some (.map es ck) → MapF kv vv W c f := by
  obtain ⟨l, ⟨es, ck, hb, hs, he⟩, hl⟩ := h
  exact ⟨es, ck, hb, fun W c hc => ⟨l, ⟨es, ck, hc, hs, he⟩, hl⟩⟩

/-- The copy at its start. -/
theorem copy_start {w W : World} {b1 b2 b3 ct : Nat} {esN esP : Array MapEntry} {ckN ckP : Nat} {fN : Int → Option Nd} {fP : Int → Option Key} {v n : Int}
    (hN : ∀ (W : World) (c : Nat), W.heap[c]? = some (.map esN ckN) → MapF vI vNd W c fN) (hP : ∀ (W : World) (c : Nat), W.heap[c]? = some (.map esP ckP) → MapF vI vKey W c fP)
    (h1 : W.heap[b1]? = some (.map esN ckN)) (h2 : W.heap[b2]? = some (.map #[] 0)) (h3 : W.heap[b3]? = some (.map esP ckP)) (ht : At W ct 127 [.map (some b1), .map (some b2), .map (some b3), .int .i64 v, .int .i64 n])
    (d12 : b1 ≠ b2) (d13 : b1 ≠ b3) (d23 : b2 ≠ b3) (g1 : w.heap.size ≤ b1) (g2 : w.heap.size ≤ b2) (g3 : w.heap.size ≤ b3) (g4 : w.heap.size ≤ ct) (hb : Below w.heap.size w W) :
    TreeF W ⟨ct, b1, b2, b3, fun _ => none⟩ fN (fun _ _ => none) fP v n ∧ (∀ k, (⟨ct, b1, b2, b3, fun _ => none⟩ : TM).own k → w.heap.size ≤ k) ∧ Below w.heap.size w W := by
  have hm : MapF vI vM W b2 (fun _ : Int => none) := (MapF.made vI vM w).block.elim fun es h => h.elim fun ck h => by
    have e := h.1
    rw [heap_alloc_new] at e
    injection e with e
    injection e with e1 e2
    subst e1 e2
    exact h.2 W b2 h2
  refine ⟨⟨ht, hN W b1 h1, hm, hP W b3 h3, fun d b q => (by cases q), ⟨d12, d13, d23⟩, fun d b q => (by cases q), fun d e b q => (by cases q), fun _ _ _ => rfl⟩, fun k q => ?_, hb⟩
  rcases q with rfl | rfl | rfl | rfl | ⟨d, q⟩
  · exact g4
  · exact g1
  · exact g2
  · exact g3
  · cases q

theorem heap4 (w : World) (a b c d : Obj) : ((((w.alloc a).alloc b).alloc c).alloc d).heap[w.heap.size]? = some a ∧ ((((w.alloc a).alloc b).alloc c).alloc d).heap[w.heap.size + 1]? = some b ∧
    ((((w.alloc a).alloc b).alloc c).alloc d).heap[w.heap.size + 1 + 1]? = some c ∧ ((((w.alloc a).alloc b).alloc c).alloc d).heap[w.heap.size + 1 + 1 + 1]? = some d := by
  have h1 : (w.alloc a).heap.size = w.heap.size + 1 := by simp
  have h2 : ((w.alloc a).alloc b).heap.size = w.heap.size + 1 + 1 := by simp
  have h3 : (((w.alloc a).alloc b).alloc c).heap.size = w.heap.size + 1 + 1 + 1 := by simp
  refine ⟨?_, ?_, ?_, ?_⟩
  · rw [heap_alloc_old _ _ (by omega), heap_alloc_old _ _ (by omega), heap_alloc_old _ _ (by omega), heap_alloc_new]
  · rw [heap_alloc_old _ _ (by omega), heap_alloc_old _ _ (by omega), ← h1, heap_alloc_new]
  · rw [heap_alloc_old _ _ (by omega), ← h2, heap_alloc_new]
  · rw [← h3, heap_alloc_new]

/-- While the maps of names are copied. -/
structure CpB (w : World) (M : TM) (t : Tr.T) (M' : TM) (r : Nat) (l rem : List (Int × Nat)) (W : World) : Prop where
  T : TreeAt W M t
  it : MapI vI vM W r M.mb l rem
  F : TreeF W M' (Tr.nodeF t.L) (fun d => if (M'.ib d).isSome = true then Tr.nameF t.L d else fun _ => none) (Tr.placeF t.L) t.vers t.next
  dn : ∀ d, (M'.ib d).isSome = true ↔ (d ∈ l.map Prod.fst ∧ d ∉ rem.map Prod.fst)
  own : ∀ k, M'.own k → w.heap.size ≤ k
  no : ¬ M'.own r
  hr : w.heap.size ≤ r
  bl : Below w.heap.size w W
  ok : ∀ k, alGet l k = M.ib k
  nd : (l.map Prod.fst).Nodup
  sub : ∀ p ∈ rem, p ∈ l
  rn : (rem.map Prod.fst).Nodup
  old : ∀ k, M.own k → k < w.heap.size

theorem CpB.done {w W : World} {M M' : TM} {t : Tr.T} {r : Nat} {l : List (Int × Nat)} (H : CpB w M t M' r l [] W) : Grown w M' t W := by
  have hk : ∀ d, (d ∈ l.map Prod.fst) ↔ (M.ib d).isSome = true := fun d => by
    rw [← H.ok]
    constructor
    · intro h
      obtain ⟨p, hp, rfl⟩ := List.mem_map.1 h
      rw [alGet_of_mem H.nd hp]
      rfl
    · intro h
      obtain ⟨v, hv⟩ := Option.isSome_iff_exists.1 h
      exact List.mem_map.2 ⟨(d, v), alGet_mem hv, rfl⟩
  have hd : ∀ d, (M'.ib d).isSome = true ↔ (M.ib d).isSome = true := fun d => by rw [H.dn, hk]; simp
  have hb : ∀ d, (M'.ib d).isSome = Tr.isDir t.L d := fun d => by rw [← H.T.dirs]; exact Bool.eq_iff_iff.2 (hd d)
  refine ⟨⟨H.F.to rfl (funext fun d => ?_) rfl, hb, H.T.good⟩, H.own, H.bl⟩
  split
  · rfl
  · rename_i h
    funext s
    have : M.ib d = none := by
      cases hq : M.ib d with
      | none => rfl
      | some b => exact absurd ((hd d).2 (by rw [hq]; rfl)) h
    exact (H.T.F.nn d this s).symm

theorem CpB.step {w W W4 W5 : World} {M M' : TM} {t : Tr.T} {r : Nat} {l rem rem' : List (Int × Nat)} (H : CpB w M t M' r l rem W) {d : Int} {b : Nat} (hp : rem.Perm ((d, b) :: rem')) (hit : MapI vI vM W4 r M.mb l rem') (hgr : W.grownBy W4 (some r))
    {es : Array MapEntry} {ck : Nat} (hes : ∀ (X : World) (c : Nat), X.heap[c]? = some (.map es ck) → MapF txt vI X c (Tr.nameF t.L d)) (hm : MapF vI vM W5 M'.mb (upd M'.ib d (some W4.heap.size))) (ht : ((W4.alloc (.map es ck)).drew).mapTurned W5 M'.mb) :
    CpB w M t { M' with ib := upd M'.ib d (some W4.heap.size) } r l rem' W5 := by
  have hk4 : Kp (fun k => k ≠ r) W W4 := (Kp.refl _ W).grown hgr (fun i e _ q => q (by injection e with e; exact e.symm))
  have hT4 : TreeAt W4 M t := H.T.kp hk4 fun k q e => by have := H.old k q; have := H.hr; omega
  have hF4 := H.F.kp hk4 fun k q e => H.no (e ▸ q)
  have hb4 : Below w.heap.size w W4 := H.bl.trans (hk4.to_below H.bl.size fun j hj e => by have := H.hr; omega)
  have hnew : ¬ M'.own W4.heap.size := fun q => by have := hF4.own_lt q; omega
  have hFa := (hF4.alloc (.map es ck)).drew
  have hmc : MapF txt vI (W4.alloc (.map es ck)).drew W4.heap.size (Tr.nameF t.L d) := MapF.drew (hes _ _ (heap_alloc_new W4 _))
  have hF5 := hFa.turnC (d := d) ht hm hmc hnew
  have hk5 : Kp (fun k => k ≠ M'.mb) W4 W5 := mapTurned_kp ((Kp.refl _ W4).alloc _).drew ht (fun _ q => q rfl)
  have hmb : w.heap.size ≤ M'.mb := H.own _ (.inr (.inr (.inl rfl)))
  have hmb2 : r ≠ M'.mb := fun e => H.no (.inr (.inr (.inl e)))
  have hold : M.mb < w.heap.size := H.old _ (.inr (.inr (.inl rfl)))
  have hndp : ((((d, b) :: rem').map Prod.fst)).Nodup := (hp.map _).nodup_iff.1 H.rn
  simp only [List.map_cons, List.nodup_cons] at hndp
  refine ⟨hT4.kp hk5 fun k q e => by have := H.old k q; omega, hit.kp hk5 (by omega) hmb2, hF5.to rfl (funext fun e => ?_) rfl, fun e => ?_, fun k q => ?_, fun q => ?_, H.hr, hb4.trans (hk5.to_below hb4.size fun j hj e => by omega), H.ok, H.nd, fun p hp' => H.sub p (hp.mem_iff.2 (.tail _ hp')), hndp.2, H.old⟩
  · unfold upd
    by_cases q : e = d
    · subst q
      simp
    · simp only [if_neg q]
  · unfold upd
    have hmem : e ∈ rem.map Prod.fst ↔ e = d ∨ e ∈ rem'.map Prod.fst := by rw [(hp.map Prod.fst).mem_iff]; simp
    by_cases q : e = d
    · subst q
      simp only [if_true, Option.isSome_some, true_iff]
      exact ⟨List.mem_map.2 ⟨(e, b), H.sub _ (hp.mem_iff.2 (.head _)), rfl⟩, hndp.1⟩
    · simp only [if_neg q, H.dn, hmem]
      simp [q]
  · have hcase : M'.own k ∨ k = W4.heap.size := by
      rcases q with q | q | q | q | ⟨e, q⟩
      · exact .inl (.inl q)
      · exact .inl (.inr (.inl q))
      · exact .inl (.inr (.inr (.inl q)))
      · exact .inl (.inr (.inr (.inr (.inl q))))
      · simp only [upd] at q
        by_cases he : e = d
        · rw [if_pos he] at q
          injection q with q
          exact .inr q.symm
        · rw [if_neg he] at q
          exact .inl (.inr (.inr (.inr (.inr ⟨e, q⟩))))
    rcases hcase with q | q
    · exact H.own k q
    · rw [q]; exact hb4.size
  · rcases q with q | q | q | q | ⟨e, q⟩
    · exact H.no (.inl q)
    · exact H.no (.inr (.inl q))
    · exact H.no (.inr (.inr (.inl q)))
    · exact H.no (.inr (.inr (.inr (.inl q))))
    · simp only [upd] at q
      by_cases he : e = d
      · rw [if_pos he] at q
        injection q with q
        have := H.it.lt
        have := hk4.size
        omega
      · rw [if_neg he] at q
        exact H.no (.inr (.inr (.inr (.inr ⟨e, q⟩))))

set_option maxRecDepth 100000 in
set_option maxHeartbeats 4000000 in
theorem treeCopy_any (w : World) (M : TM) (t : Tr.T) (H : TreeAt w M t) :
    Calls Tryz.prog 35 #[.pointer (some ⟨M.t, 0, none⟩)] w fun r w' => ∃ M' : TM, r = .returned (.pointer (some ⟨M'.t, 0, none⟩)) ∧ Grown w M' t w' := by
  obtain ⟨esN, ckN, hbN, hN⟩ := H.F.mn.block
  obtain ⟨esP, ckP, hbP, hP⟩ := H.F.mp.block
  have hcn : ∀ V, Below w.heap.size w V → Calls Tryz.prog 93 #[.map (some M.nb)] V fun e w' => e = .returned (.map (some V.heap.size)) ∧ w' = V.alloc (.map esN ckN) :=
    fun V hb => cloneN_any V M.nb esN ckN ((hb.block _ H.F.mn.lt).trans hbN)
  have hck : ∀ V, Below w.heap.size w V → Calls Tryz.prog 94 #[.map (some M.pb)] V fun e w' => e = .returned (.map (some V.heap.size)) ∧ w' = V.alloc (.map esP ckP) :=
    fun V hb => cloneK_any V M.pb esP ckP ((hb.block _ H.F.mp.lt).trans hbP)
  have c0 := H.F.c0
  have c2 := H.F.c2
  have c3 := H.F.c3
  have c4 := H.F.c4
  have hlt := H.F.blk.lt
  have hmm := @run_makeMap Tryz.prog
  have hKL : ∀ V, Below w.heap.size w V → (V.cell? ⟨M.t, 0, none⟩ = some (.map (some M.nb)) ∧ V.cell? ⟨M.t, 2, none⟩ = some (.map (some M.pb)) ∧ V.cell? ⟨M.t, 3, none⟩ = some (.int .i64 t.vers) ∧ V.cell? ⟨M.t, 4, none⟩ = some (.int .i64 t.next)) ∧ Hid (Below w.heap.size w V) := fun V hb => ⟨⟨(H.F.below hb).c0, (H.F.below hb).c2, (H.F.below hb).c3, (H.F.below hb).c4⟩, hb⟩
  have KL := Lib.hid hKL
  have HH := Lib.hid H
  have HCN := Lib.hid hcn
  have HCK := Lib.hid hck
  have HN := Lib.hid hN
  have HP := Lib.hid hP
  clear H hcn hck hN hP hbN hbP hKL c0 c2 c3 c4
  go_enter Tryz.func35, Tryz.ntmps35
  go_upto_region 1 with fail
  go_cut [3] (fun pv wd => ∃ M' : TM, M'.ib = (fun _ => none) ∧ pv = .pointer (some ⟨M'.t, 0, none⟩) ∧ Hid (TreeF wd M' (Tr.nodeF t.L) (fun _ _ => none) (Tr.placeF t.L) t.vers t.next ∧ (∀ k, M'.own k → w.heap.size ≤ k) ∧ Below w.heap.size w wd))
  case first =>
    go_region_held3 (fun V => (V.cell? ⟨M.t, 0, none⟩ = some (.map (some M.nb)) ∧ V.cell? ⟨M.t, 2, none⟩ = some (.map (some M.pb)) ∧ V.cell? ⟨M.t, 3, none⟩ = some (.int .i64 t.vers) ∧ V.cell? ⟨M.t, 4, none⟩ = some (.int .i64 t.next)) ∧ Hid (Below w.heap.size w V))
      (first
      | exact KL.out _ (by repeat (first | with_reducible exact Below.refl _ _ | with_reducible refine below_drew ?_ | with_reducible refine Below.alloc ?_ (by first | exact Nat.le_refl _ | (simp; done) | (simp; omega)) _)))
      (first
      | (go_at_call 93; (with_reducible refine (HCN.out _ (Hid.out (And.right (by assumption)))).mono ?_); rintro r w1 ⟨rfl, rfl⟩)
      | (go_at_call 94; (with_reducible refine (HCK.out _ (Hid.out (And.right (by assumption)))).mono ?_); rintro r w1 ⟨rfl, rfl⟩))
    all_goals
      have HB4 := Lib.hid (Hid.out (And.right (by assumption)) : Below w.heap.size w _)
      go_wp2_with fail
      go_meet
      case rel =>
        first
          | exact ⟨⟨w.heap.size + 1 + 1 + 1, w.heap.size, (w.heap.size + 1), (w.heap.size + 1 + 1), fun _ => none⟩, rfl, rfl, Lib.hid (copy_start HN.out HP.out (heap4 w _ _ _ _).1 (heap4 w _ _ _ _).2.1 (heap4 w _ _ _ _).2.2.1 (heap4 w _ _ _ _).2.2.2 (by omega) (by omega) (by omega) (by omega) (by omega) (by omega) (by omega) HB4.out)⟩
          | exact ⟨⟨w.heap.size + 1 + 1 + 1, w.heap.size, (w.heap.size + 1 + 1), (w.heap.size + 1), fun _ => none⟩, rfl, rfl, Lib.hid (copy_start HN.out HP.out (heap4 w _ _ _ _).1 (heap4 w _ _ _ _).2.2.1 (heap4 w _ _ _ _).2.1 (heap4 w _ _ _ _).2.2.2 (by omega) (by omega) (by omega) (by omega) (by omega) (by omega) (by omega) HB4.out)⟩
          | exact ⟨⟨w.heap.size + 1 + 1 + 1, (w.heap.size + 1), w.heap.size, (w.heap.size + 1 + 1), fun _ => none⟩, rfl, rfl, Lib.hid (copy_start HN.out HP.out (heap4 w _ _ _ _).2.1 (heap4 w _ _ _ _).1 (heap4 w _ _ _ _).2.2.1 (heap4 w _ _ _ _).2.2.2 (by omega) (by omega) (by omega) (by omega) (by omega) (by omega) (by omega) HB4.out)⟩
  case rest =>
    obtain ⟨M', hib, rfl, hcut⟩ := hcut
    obtain ⟨w2, hw2⟩ : ∃ w2 : World, w2 = wc := ⟨_, rfl⟩
    subst hw2
    obtain ⟨hF, ho, hb⟩ := hcut.out
    have HT2 := Lib.hid (HH.out.below hb)
    obtain ⟨l, hl1, hl2⟩ := HT2.out.F.mm
    have c1 := HT2.out.F.c1
    have HL := Lib.hid hl1
    have HST : Hid (∀ W r, MapI vI vM W r M.mb l l → Below w2.heap.size w2 W → r = w2.heap.size → CpB w M t M' r l l W) := fun W r h1 h2 hr => by
      subst hr
      have hF2 := hF.below h2
      refine ⟨HT2.out.below h2, h1, hF2.to rfl (funext fun d => by rw [hib]; rfl) rfl, fun d => by rw [hib]; simp, ho, fun q => by have := hF.own_lt q; omega, hb.size, hb.trans (h2.mono hb.size), hl2, hl1.nodup, fun p hp => hp, hl1.nodup, fun k q => HH.out.F.own_lt q⟩
    clear hcut hF ho hb hib hl1 hl2
    go_wp2_with ((with_reducible refine wpList_isRange ?_); refine wpList_range_T rfl (.tmp 30) 122 rfl Tryz.underlying122 rfl HL.out ?_; intro w3 hi3 hb3; have HI3 := Lib.hid (HST.out w3 _ hi3 hb3 rfl); clear hi3 hb3 c1)
    go_frame
    obtain ⟨p, hp⟩ : ∃ p, M'.t = p := ⟨_, rfl⟩
    rw [hp]
    have HP2 := Lib.hid hp
    clear hp HST
    go_loopg [4] l.length (fun g _ wx => ∃ (rem : List (Int × Nat)) (M2 : TM), g = rem.length ∧ Hid (M2.t = p) ∧ Hid (CpB w M t M2 w2.heap.size l rem wx))
    case atStart => exact ⟨l, M', rfl, HP2, HI3⟩
    case round =>
      obtain ⟨rem, M2, rfl, HM2, HI⟩ := hrel
      rcases MapI.next (P := Tryz.prog) HI.out.it 0 with ⟨hrem, hrun⟩ | ⟨⟨d, b⟩, rem', w4, hperm, hrun, hit, hgr, hent⟩
      · subst hrem
        have HD := Lib.hid HI.out.done
        go_wp2_with fail
        go_ret
        exact ⟨M2, by rw [HM2.out]; rfl, HD.out⟩
      · have hk4 : Kp (fun k => k ≠ w2.heap.size) wr w4 := (Kp.refl _ wr).grown hgr (fun i e _ q => q (by injection e with e; exact e.symm))
        have hT4 : TreeAt w4 M t := HI.out.T.kp hk4 fun k q e => by have := HI.out.old k q; have := HI.out.hr; omega
        have hF4 := HI.out.F.kp hk4 fun k q e => HI.out.no (e ▸ q)
        have hibd : M.ib d = some b := by rw [← HI.out.ok, alGet_of_mem HI.out.nd (HI.out.sub _ (hperm.mem_iff.2 (.head _)))]
        obtain ⟨es, ck, hbk, hes⟩ := (hT4.F.mi d b hibd).block
        have hcl : Calls Tryz.prog 95 #[.map (some b)] w4.drew fun e w' => e = .returned (.map (some w4.heap.size)) ∧ w' = (w4.alloc (.map es ck)).drew := cloneS_any w4.drew b es ck hbk
        obtain ⟨w5, hrun5, hm5, ht5⟩ := (hF4.alloc (.map es ck)).drew.mm.update keyK_num Tryz.underlying122 d w4.heap.size
        have HI5 := Lib.hid (CpB.step HI.out hperm hit hgr hes hm5 ht5)
        have c1 := hF4.c1
        rw [HM2.out] at c1
        have c1a : ∀ o, (w4.alloc o).cell? ⟨p, 1, none⟩ = some (.map (some M2.mb)) := fun o => cell_alloc_old c1 o
        have hlp : p < w4.heap.size := by have := hF4.blk.lt; rw [HM2.out] at this; exact this
        have HCL := Lib.hid hcl
        have hle := hperm.length_eq
        simp only [List.length_cons] at hle
        simp only [vI, vM] at hrun hrun5 hent
        clear hk4 hT4 hF4 hibd hbk hes hcl hm5 ht5 hperm hit hgr
        go_upto_region 5 with fail
        go_region_with (go_at_call 95; (with_reducible refine (HCL.out).mono ?_); rintro r w' ⟨rfl, rfl⟩)
        all_goals
          go_wp2_with fail
          clear hrun hrun5 hent c1 c1a
          go_roundg rem'.length
          case measure => omega
          case rel => exact ⟨rem', { M2 with ib := upd M2.ib d (some w4.heap.size) }, rfl, HM2, HI5⟩
end Go.Proofs.YtjaokljbdoocmaaGreatDoor
