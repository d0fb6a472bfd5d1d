/-
  The walk of the law TreeUndone.
-/
import Derived.Test.YtjaokljbdoocmaaGreatDoorLawNames
import Derived.Test.YtjaokljbdoocmaaGreatDoorOpen05
namespace Go.Proofs.YtjaokljbdoocmaaGreatDoor
open Go.RowKit

attribute [local go_sem ↓] Go.wp_at_zero Go.wp_at_succ

/-- A tree, and an operation in a variable of its own. -/
structure Opb (w : World) (M : TM) (t : Tr.T) (b : Nat) (o : Tr.Op) (W : World) : Prop where
  g : Grown w M t W
  blk : At W b 54 (cOp o)
  hb : w.heap.size ≤ b
  no : ¬ M.own b
section
variable {w W W' : World} {M M' : TM} {t t' : Tr.T} {b : Nat} {o : Tr.Op}
theorem Opb.below (H : Opb w M t b o W) (hb : Below W.heap.size W W') : Opb w M t b o W' := ⟨H.g.below hb, H.blk.below hb, H.hb, H.no⟩
theorem Opb.turn (H : Opb w M t b o W) (hg : Grown w M' t' W') (ho : ∀ k, M'.own k → M.own k ∨ W.heap.size ≤ k) (hk : Kp (fun k => ¬ M.own k) W W') : Opb w M' t' b o W' :=
  ⟨hg, H.blk.kp hk H.no, H.hb, fun q => by
    rcases ho b q with q | q
    · exact H.no q
    · have := H.blk.lt
      omega⟩
/-- The operation gets a kind. -/
theorem Opb.kind (H : Opb w M t b o W) (k : Int) : Opb w M t b (k, o.2) (W.setCell ⟨b, 0, none⟩ (.int .i64 k)) :=
  have hk : Kp (fun j => j ≠ b) W (W.setCell ⟨b, 0, none⟩ (.int .i64 k)) := (Kp.refl _ W).setCell (p := ⟨b, 0, none⟩) (fun _ q => q rfl) _
  ⟨⟨H.g.at_.kp hk fun _ q e => H.no (e ▸ q), H.g.own, H.g.bl.setCell H.hb _⟩, H.blk.setCell 0 _, H.hb, H.no⟩
theorem Beside.set {sz n : Nat} {A : Option Addr} {xs : List Value} (H : Beside M sz A n xs W) {b i : Nat} {v : Value} (hb : ∀ ad, A = some ad → 0 < n → ad.block ≠ b) : Beside M sz A n xs (W.setCell ⟨b, i, none⟩ v) :=
  have hk : Kp (fun j => j ≠ b) W (W.setCell ⟨b, i, none⟩ v) := (Kp.refl _ W).setCell (p := ⟨b, i, none⟩) (fun _ q => q rfl) _
  ⟨H.rd.kp0 hk hb, H.no⟩
end

set_option maxRecDepth 100000 in
set_option maxHeartbeats 8000000 in
theorem treeUndone_walk (A : Option Addr) (n c : Nat) (s : List Tr.Op) (o : Tr.Op) (ho : OpIn o) (w : World) (hs : Rd w 7 A n (cOps s)) (hn : n ≤ 1759218604391) :
    Calls Tryz.prog 7 #[.slice A n c, vOp o] w fun e w' => e = .returned (.bool true) ∧ Below w.heap.size w w' := by
  have AO := At.new w 54 (cOp o)
  have hbh := behind05_any (w.alloc (.cells (cOp o).toArray 54)) A n c s (hs.alloc _) hn
  have hbd := run_bounds s s.length (by rw [hs.ops_len]; exact hn)
  rw [List.take_length] at hbd
  generalize Tr.run Tr.t0 s = t at hbh hbd
  obtain ⟨k, d, nm, tw, nw, md, tg⟩ := o
  obtain ⟨hk, _⟩ := ho
  simp only at hk
  have hq := fun V => place_any k 3 hk.1 hk.2 (by omega) (by omega) V
  have hq0 : 0 ≤ k % 3 := Int.emod_nonneg _ (by omega)
  have hq1 : k % 3 < 3 := Int.emod_lt_of_pos _ (by omega)
  generalize k % 3 = q at hq hq0 hq1
  have HAO := Lib.hid AO
  have HQ := Lib.hid hq
  have HS := Lib.hid hbh
  have HBD := Lib.hid hbd
  clear hs hbh hq AO hbd hk
  unfold vOp
  simp only [cOp, txt] at HAO HS ⊢
  go_enter Tryz.func7, Tryz.ntmps7
  go_wp2_with fail
  refine HS.out.mono ?_
  rintro r w1 ⟨M, rfl, hg1⟩
  have HO1 : Hid (Opb w M t w.heap.size (k, d, nm, tw, nw, md, tg) w1) := ⟨hg1.later ((Below.refl _ _).alloc (Nat.le_refl _) _), HAO.out.below hg1.bl, Nat.le_refl _, fun q => by have := hg1.own _ q; simp at this; omega⟩
  clear hg1 HS HAO
  go_wp2_with fail
  refine (treeDump_any w1 M t HO1.out.g.at_ (by have := HBD.out; omega)).mono ?_
  rintro r w2 ⟨v2, rfl, o2, b2⟩
  obtain ⟨A2, c2, rfl, g2, r2⟩ := dump_beside HO1.out.g o2 b2
  have HN2 : Hid (∀ ad, A2 = some ad → w1.heap.size ≤ ad.block) := fun ad e => own_fresh o2 ad e
  have HO2 := Lib.hid (HO1.out.below b2)
  have HB2 := Lib.hid r2
  clear o2 b2 g2 r2
  go_wp2_with fail
  refine (treeVersion_any w2 M t HO2.out.g.at_).mono ?_
  rintro r w3 ⟨rfl, rfl⟩
  go_wp2_with fail
  refine (treeNext_any w2 M t HO2.out.g.at_).mono ?_
  rintro r w3 ⟨rfl, rfl⟩
  obtain ⟨c0, c1, c2', c3, c4, c5, c6⟩ := op_cells (o := (k, d, nm, tw, nw, md, tg)) HO2.out.blk
  have cf := HO2.out.blk.frozen
  have clt := HO2.out.blk.lt
  simp only at c0 c1 c2' c3 c4 c5 c6
  go_wp2_with fail
  refine (HQ.out _).mono ?_
  rintro r w3 ⟨rfl, rfl⟩
  go_upto_region 8 with fail
  have HO3 : Hid (Opb w M t w.heap.size (5 + q, d, nm, tw, nw, md, tg) (w2.setCell ⟨w.heap.size, 0, none⟩ (.int .i64 (5 + q)))) := HO2.out.kind (5 + q)
  have HB3 : Hid (Beside M 7 A2 t.L.length (cEns (Tr.dumpR t.L)) (w2.setCell ⟨w.heap.size, 0, none⟩ (.int .i64 (5 + q)))) := HB2.out.set fun ad e h0 => by have := HN2.out ad e; have := HO1.out.blk.lt; omega
  obtain ⟨w3, hw3⟩ : ∃ w3, w2.setCell ⟨w.heap.size, 0, none⟩ (.int .i64 (5 + q)) = w3 := ⟨_, rfl⟩
  rw [hw3] at HO3 HB3 ⊢
  clear hw3 c0 c1 c2' c3 c4 c5 c6 cf clt HO1 HO2 HB2 HN2
  obtain ⟨c0, c1, c2', c3, c4, c5, c6⟩ := op_cells (o := (5 + q, d, nm, tw, nw, md, tg)) HO3.out.blk
  simp only at c0 c1 c2' c3 c4 c5 c6
  have hap := treeApply_any w3 M t (5 + q, d, nm, tw, nw, md, tg) HO3.out.g.at_ (by have := HBD.out; omega) (by have := HBD.out; omega)
  have hvers := HO3.out.g.at_.good.vers
  have hlen := HO3.out.g.at_.good.len
  simp only [vOp, cOp, txt] at hap
  by_cases he : (Tr.does t (5 + q, d, nm, tw, nw, md, tg)).1 = 0
  · obtain ⟨x, hx1, hx2, hA1, hA2, hA3, hF⟩ := Tr.undone_law HO3.out.g.at_.good (o := (5 + q, d, nm, tw, nw, md, tg)) (by simp only; omega) he
    simp only [Tr.Op.key] at hx2 hA1 hA2 hA3
    rw [hA1] at hap
    obtain ⟨xi, xk, xm, xt⟩ := x
    simp only at hx1 hx2
    subst hx1
    obtain ⟨kw, hkw⟩ : ∃ kw : Int, (if 5 + q = 6 then 8 else 9) = kw := ⟨_, rfl⟩
    obtain ⟨kb, hkb⟩ : ∃ kb : Int, (if 5 + q = 6 then 9 else 8) = kb := ⟨_, rfl⟩
    obtain ⟨bd, hbd⟩ : ∃ bd : Int, (if 5 + q = 6 then 43 else 42) = bd := ⟨_, rfl⟩
    rw [hkw, hbd] at hA2
    rw [hkb] at hA3
    have HK : Hid ((q = 1 → kw = 8 ∧ kb = 9 ∧ bd = 43) ∧ (q ≠ 1 → kw = 9 ∧ kb = 8 ∧ bd = 42)) := ⟨fun h => by rw [← hkw, ← hkb, ← hbd, if_pos (by omega), if_pos (by omega), if_pos (by omega)]; exact ⟨rfl, rfl, rfl⟩, fun h => by rw [← hkw, ← hkb, ← hbd, if_neg (by omega), if_neg (by omega), if_neg (by omega)]; exact ⟨rfl, rfl, rfl⟩⟩
    have HA2 := Lib.hid hA2
    have HA3 := Lib.hid hA3
    have HF := Lib.hid hF
    have HLEN := Lib.hid hlen
    clear hkw hkb hbd hA2 hA3 hF hlen
    have HAP := Lib.hid hap
    clear hap hA1 he hx2
    go_wp2_with fail
    refine HAP.out.mono ?_
    rintro r w4 hpost
    obtain ⟨A4, k4, A5, k5, M4, rfl, o4, -, n4, -, -, hg4, ht4, ho4, hk4⟩ := HO3.out.g.apply hpost
    simp only [List.length_cons, List.length_nil, Nat.zero_add] at o4 n4 ⊢
    have HB4 := Lib.hid (HB3.out.kp hk4 ho4)
    have HO4 := Lib.hid (HO3.out.turn hg4 ho4 hk4)
    have HR4 := Lib.hid o4
    have HN4 := Lib.hid n4
    have HT4 := Lib.hid ht4
    clear hpost o4 n4 hg4 ht4 ho4 hk4 HAP c0 c1 c2' c3 c4 c5 c6
    obtain ⟨c0, c1, c2', c3, c4, c5, c6⟩ := op_cells (o := (5 + q, d, nm, tw, nw, md, tg)) HO4.out.blk
    have clt := HO4.out.blk.lt
    simp only at c0 c1 c2' c3 c4 c5 c6
    go_upto_if 82 with fail
    have AB := (At.new w4 54 (cOp (8, d, nm, 0, [], 0, []))).alloc (.cells (cOp (9, d, nm, 0, [], 0, [])).toArray 54)
    have AW := At.new_ (w4.alloc (.cells (cOp (8, d, nm, 0, [], 0, [])).toArray 54)) 54 (cOp (9, d, nm, 0, [], 0, [])) (n := w4.heap.size + 1) (by simp)
    simp only [cOp, txt] at AB AW
    have hbl : Below w4.heap.size w4 ((w4.alloc (.cells #[.int .i64 8, .int .i64 d, .string ⟨nm.toArray⟩, .int .i64 0, .string ⟨#[]⟩, .int .i64 0, .string ⟨#[]⟩] 54)).alloc (.cells #[.int .i64 9, .int .i64 d, .string ⟨nm.toArray⟩, .int .i64 0, .string ⟨#[]⟩, .int .i64 0, .string ⟨#[]⟩] 54)) := ((Below.refl _ _).alloc (Nat.le_refl _) _).alloc (by simp) _
    obtain ⟨w5, hw5⟩ : ∃ w5, (w4.alloc (.cells #[.int .i64 8, .int .i64 d, .string ⟨nm.toArray⟩, .int .i64 0, .string ⟨#[]⟩, .int .i64 0, .string ⟨#[]⟩] 54)).alloc (.cells #[.int .i64 9, .int .i64 d, .string ⟨nm.toArray⟩, .int .i64 0, .string ⟨#[]⟩, .int .i64 0, .string ⟨#[]⟩] 54) = w5 := ⟨_, rfl⟩
    rw [hw5] at AB AW hbl ⊢
    have e0 : w5.cell? ⟨w4.heap.size, 0, none⟩ = some (.int .i64 8) := AB.cell 0
    have e1 : w5.cell? ⟨w4.heap.size + 1, 0, none⟩ = some (.int .i64 9) := AW.cell 0
    have ef := AB.frozen
    have eg := AW.frozen
    have el := AB.lt
    have em := AW.lt
    have HE : Hid (At w5 w4.heap.size 54 (cOp (8, d, nm, 0, [], 0, [])) ∧ At w5 (w4.heap.size + 1) 54 (cOp (9, d, nm, 0, [], 0, [])) ∧ Below w4.heap.size w4 w5) := ⟨AB, AW, hbl⟩
    clear hw5 AB AW hbl c0 c1 c2' c3 c4 c5 c6
    go_cut [15] (fun bv wd => bv = .int .i64 bd ∧ Hid (At wd w4.heap.size 54 (cOp (kb, d, nm, 0, [], 0, [])) ∧ At wd (w4.heap.size + 1) 54 (cOp (kw, d, nm, 0, [], 0, [])) ∧ Below w4.heap.size w4 wd))
    case first =>
      by_cases hq6 : q = 1
      · obtain ⟨rfl, rfl, rfl⟩ := HK.out.1 hq6
        subst hq6
        have HFIN : Hid (At ((w5.setCell ⟨w4.heap.size, 0, none⟩ (.int .i64 9)).setCell ⟨w4.heap.size + 1, 0, none⟩ (.int .i64 8)) w4.heap.size 54 (cOp (9, d, nm, 0, [], 0, [])) ∧ At ((w5.setCell ⟨w4.heap.size, 0, none⟩ (.int .i64 9)).setCell ⟨w4.heap.size + 1, 0, none⟩ (.int .i64 8)) (w4.heap.size + 1) 54 (cOp (8, d, nm, 0, [], 0, [])) ∧ Below w4.heap.size w4 ((w5.setCell ⟨w4.heap.size, 0, none⟩ (.int .i64 9)).setCell ⟨w4.heap.size + 1, 0, none⟩ (.int .i64 8))) :=
          ⟨(HE.out.1.setCell 0 _).setOther 0 _ (by omega), (HE.out.2.1.setOther 0 _ (by omega)).setCell 0 _, (HE.out.2.2.setCell (Nat.le_refl _) _).setCell (by simp) _⟩
        go_wp2_with fail
        go_meet
        case rel => exact ⟨rfl, HFIN⟩
      · obtain ⟨rfl, rfl, rfl⟩ := HK.out.2 hq6
        have hqb : (5 + q == 6) = false := by simp; omega
        go_wp2_with fail
        go_meet
        case rel => exact ⟨rfl, HE⟩
    case rest =>
      obtain ⟨rfl, hcut⟩ := hcut
      obtain ⟨w6, hw6⟩ : ∃ w6 : World, w6 = wc := ⟨_, rfl⟩
      subst hw6
      have HC := Lib.hid hcut.out
      clear hcut e0 e1 ef eg el em HE HK
      have HB6 := Lib.hid (HB4.out.below HC.out.2.2)
      have HO6 := Lib.hid (HO4.out.below HC.out.2.2)
      have HR6 := Lib.hid (own_below HR4.out HC.out.2.2)
      have HBW : Hid (Opb w M4 ⟨t.L ++ [((d, nm), t.next, xk, xm, xt)], t.vers + 1, t.next + 1⟩ (w4.heap.size + 1) (kw, d, nm, 0, [], 0, []) w6) := ⟨HO6.out.g, HC.out.2.1, Nat.le_trans HO4.out.g.bl.size (Nat.le_succ _), fun q => by have := HO4.out.g.at_.F.own_lt q; omega⟩
      have HBB : Hid (Opb w M4 ⟨t.L ++ [((d, nm), t.next, xk, xm, xt)], t.vers + 1, t.next + 1⟩ w4.heap.size (kb, d, nm, 0, [], 0, []) w6) := ⟨HO6.out.g, HC.out.1, HO4.out.g.bl.size, fun q => by have := HO4.out.g.at_.F.own_lt q; omega⟩
      obtain ⟨c0, c1, c2', c3, c4, c5, c6⟩ := op_cells (o := (kw, d, nm, 0, [], 0, [])) HC.out.2.1
      simp only at c0 c1 c2' c3 c4 c5 c6
      have hap := treeApply_any w6 M4 _ (kw, d, nm, 0, [], 0, []) HO6.out.g.at_ (by simp only; have := HBD.out; omega) (by simp only; have := HBD.out; omega)
      rw [HA2.out, HT4.out] at hap
      simp only [vOp, cOp, txt] at hap
      have HAP := Lib.hid hap
      clear hap
      go_wp2_with fail
      refine HAP.out.mono ?_
      rintro r w7 hpost
      obtain ⟨A7, k7, A8, k8, M7, rfl, -, -, -, -, -, hg7, ht7, ho7, hk7⟩ := HO6.out.g.apply hpost
      simp only [List.length_nil] at hg7 ⊢
      have HB7 := Lib.hid (HB6.out.kp hk7 ho7)
      have HO7 := Lib.hid (HO6.out.turn hg7 ho7 hk7)
      have HBB7 := Lib.hid (HBB.out.turn hg7 ho7 hk7)
      have HR7 := Lib.hid (own_kp HR6.out hk7 HN4.out)
      have HN7 : Hid (∀ k, (Value.slice A4 1 k4).ownBlock = some k → ¬ M7.own k) := fun k q q2 => by
        rcases ho7 k q2 with h | h
        · exact HN4.out k q h
        · have := (HR6.out.lt k q).2
          omega
      have HT7 : Hid (M7.t = M.t) := ht7.trans HT4.out
      clear hpost hg7 ht7 ho7 hk7 HAP c0 c1 c2' c3 c4 c5 c6 HBW HBB HR6 HN4 HB6 HO6 HC
      obtain ⟨c0, c1, c2', c3, c4, c5, c6⟩ := op_cells (o := (kb, d, nm, 0, [], 0, [])) HBB7.out.blk
      simp only at c0 c1 c2' c3 c4 c5 c6
      have hap := treeApply_any w7 M7 _ (kb, d, nm, 0, [], 0, []) HO7.out.g.at_ (by simp only; have := HBD.out; omega) (by simp only; have := HBD.out; omega)
      rw [HA3.out, HT7.out] at hap
      simp only [vOp, cOp, txt] at hap
      have HAP := Lib.hid hap
      clear hap
      go_wp2_with fail
      refine HAP.out.mono ?_
      rintro r w8 hpost
      obtain ⟨A9, k9, A10, k10, M8, rfl, o9, o10, -, -, -, hg8, ht8, ho8, hk8⟩ := HO7.out.g.apply hpost
      simp only [List.length_cons, List.length_nil, Nat.zero_add] at hg8 o9 o10 ⊢
      have HB8 := Lib.hid (HB7.out.kp hk8 ho8)
      have HO8 := Lib.hid (HO7.out.turn hg8 ho8 hk8)
      have hr8 := own_kp HR7.out hk8 HN7.out
      have HT8 : Hid (M8.t = M.t) := ht8.trans HT7.out
      obtain ⟨g4, rfl, l4, -, -, -, -, p3, -, -, -⟩ := row_en1 hr8
      obtain ⟨g9, rfl, l9, -, -, -, p2, -, -, -, -⟩ := row_en1 o9
      obtain ⟨g10, rfl, l10, -, q0, q1⟩ := row_key1 o10
      simp only at p2 p3 q0 q1
      clear hpost hg8 ht8 ho8 hk8 HAP c0 c1 c2' c3 c4 c5 c6 o9 o10 hr8 HR7 HN7 HB7 HO7 HBB7
      obtain ⟨c0, c1, c2', c3, c4, c5, c6⟩ := op_cells (o := (5 + q, d, nm, tw, nw, md, tg)) HO8.out.blk
      have clt := HO8.out.blk.lt
      simp only at c0 c1 c2' c3 c4 c5 c6
      have hqk : ∀ V : World, (binOp .neq 32 (.agg #[.int .i64 d, .string ⟨nm.toArray⟩]) (.agg #[.int .i64 d, .string ⟨nm.toArray⟩])).run Tryz.prog V = .ok (.bool false) V := fun V => by
        have := neq_key (d, nm) (d, nm) V
        simpa [vKey, txt] using this
      have hfi := fun V H => treeFind_any V M8 ⟨t.L, t.vers + 2, t.next + 1⟩ t.next H
      have hdu := fun V H => treeDump_any V M8 ⟨t.L, t.vers + 2, t.next + 1⟩ H (by simp only; have := HBD.out; omega)
      have hve := fun V H => treeVersion_any V M8 ⟨t.L, t.vers + 2, t.next + 1⟩ H
      have hne := fun V H => treeNext_any V M8 ⟨t.L, t.vers + 2, t.next + 1⟩ H
      simp only [HF.out, HT8.out] at hfi hdu hve hne
      have HFI := Lib.hid hfi
      have HDU := Lib.hid hdu
      have HVE := Lib.hid hve
      have HNE := Lib.hid hne
      clear hfi hdu hve hne HA2 HA3 HF
      go_upto_region 19 with fail
      go_quiet (fail)
      go_wp2_with fail
      refine (HFI.out _ (HO8.out.g.below (below_drewN_ (Below.refl _ _) _)).at_).mono ?_
      rintro r w9 ⟨rfl, b9⟩
      have b9' : Below w8.heap.size w8 w9 := (below_drewN_ (Below.refl _ w8) _).trans b9
      have HG9 := Lib.hid (HO8.out.g.below b9')
      have HB9 := Lib.hid (HB8.out.below b9')
      clear b9 b9' c0 c1 c2' c3 c4 c5 c6 clt p2 p3 q0 q1 hqk
      rw [show vEn Tr.noE = .agg #[.int .i64 0, .string ⟨#[]⟩, .bool false, .int .i64 0, .int .i64 0, .int .i64 0, .string ⟨#[]⟩] from rfl]
      go_upto_region 22 with fail
      clear l4 l9 l10 hq0 hq1
      go_wp2_with fail
      refine (HDU.out _ (HG9.out.at_.alloc _)).mono ?_
      rintro r w10 ⟨v10, rfl, o10, b10⟩
      obtain ⟨A12, c12, rfl⟩ := own_slice o10
      have b10' : Below w9.heap.size w9 w10 := below_after b10
      have HG10 := Lib.hid (HG9.out.below b10')
      have HS10 := Lib.hid (sameDump t HLEN.out A12 A2 c12 c2 w10 (Rd.of_own o10) (HB9.out.below b10').rd)
      clear o10 b10 b10'
      go_wp2_with fail
      refine HS10.out.mono ?_
      rintro r w11 ⟨rfl, b11⟩
      have HG11 := Lib.hid (HG10.out.below b11)
      clear b11
      go_wp2_with fail
      refine (HVE.out _ HG11.out.at_).mono ?_
      rintro r w12 ⟨rfl, rfl⟩
      obtain ⟨hn1, hv1⟩ := HBD.out
      have hn0 := HO3.out.g.at_.good.next
      go_wp2_with fail
      refine (HNE.out _ HG11.out.at_).mono ?_
      rintro r w12 ⟨rfl, rfl⟩
      go_wp2_with fail
      refine (awake05 _).mono ?_
      rintro r w13 ⟨rfl, b13⟩
      go_wp2_with fail
      go_ret
      exact ⟨rfl, HG11.out.bl.trans (b13.mono HG11.out.bl.size)⟩
  · have hR := Tr.apply_bad he
    obtain ⟨e, hee⟩ : ∃ e, (Tr.does t (5 + q, d, nm, tw, nw, md, tg)).1 = e := ⟨_, rfl⟩
    rw [hR, hee] at hap
    rw [hee] at he
    have heb : (e == 0) = false := by simpa using he
    have HAP := Lib.hid hap
    have HLEN := Lib.hid hlen
    clear hap hee hR he hlen
    go_wp2_with fail
    refine HAP.out.mono ?_
    rintro r w4 hpost
    obtain ⟨A4, k4, A5, k5, M4, rfl, -, -, -, -, -, hg4, ht4, ho4, hk4⟩ := HO3.out.g.apply hpost
    simp only at hg4 ⊢
    have HB4 := Lib.hid (HB3.out.kp hk4 ho4)
    have HG4 := Lib.hid hg4
    have hdu := fun V H => treeDump_any V M4 t H (by have := HBD.out; omega)
    have hve := fun V H => treeVersion_any V M4 t H
    have hne := fun V H => treeNext_any V M4 t H
    rw [ht4] at hdu hve hne
    have HDU := Lib.hid hdu
    have HVE := Lib.hid hve
    have HNE := Lib.hid hne
    clear hpost hg4 ht4 ho4 hk4 HAP c0 c1 c2' c3 c4 c5 c6 hdu hve hne
    go_wp2_with fail
    refine (HDU.out _ HG4.out.at_).mono ?_
    rintro r w5 ⟨v5, rfl, o5, b5⟩
    obtain ⟨A6, c6, rfl⟩ := own_slice o5
    have HG5 := Lib.hid (HG4.out.below b5)
    have HS5 := Lib.hid (sameDump t HLEN.out A6 A2 c6 c2 w5 (Rd.of_own o5) (HB4.out.below b5).rd)
    clear o5 b5
    go_wp2_with fail
    refine HS5.out.mono ?_
    rintro r w6 ⟨rfl, b6⟩
    have HG6 := Lib.hid (HG5.out.below b6)
    clear b6
    go_wp2_with fail
    refine (HVE.out _ HG6.out.at_).mono ?_
    rintro r w7 ⟨rfl, rfl⟩
    go_wp2_with fail
    refine (HNE.out _ HG6.out.at_).mono ?_
    rintro r w7 ⟨rfl, rfl⟩
    go_wp2_with fail
    refine (awake05 _).mono ?_
    rintro r w8 ⟨rfl, b8⟩
    go_wp2_with fail
    go_ret
    exact ⟨rfl, HG6.out.bl.trans (b8.mono HG6.out.bl.size)⟩
end Go.Proofs.YtjaokljbdoocmaaGreatDoor
