/-
  The reference of layer 12: Use, Evict.
-/
import Derived.Test.YtoacobcbloljkaaGreatDoorRef12c
namespace Go.Proofs.YtoacobcbloljkaaGreatDoor
open Go.RowKit

def useK (L : List En) (k : Key) : List En := match ixOf L k with
  | none => L
  | some i => L.eraseIdx i ++ [L.getD i noEn]

set_option maxRecDepth 100000 in
set_option maxHeartbeats 4000000 in
theorem refUse_any (w : World) (B cb : Nat) (F : Nat → Prop) (Al : Option Addr) (cl : Nat) (Aw : Option Addr) (cw : Nat) (L : List En) (W : List Int) (k : Key) (hn : L.length ≤ 1800000000000) (hB : B ≤ w.heap.size) (H : RefAt w B cb F Al cl Aw cw L W) :
    Calls Tryz.prog 51 #[.pointer (some ⟨cb, 0, none⟩), vKey k] w (RefPost w B cb F (useK L k) W (.bool (ixOf L k).isSome)) := by
  obtain ⟨d, n⟩ := k
  have KB : Hid (At (w.alloc (.cells #[.int .i64 d, .string ⟨n.toArray⟩] 32)) w.heap.size 32 [.int .i64 d, .string ⟨n.toArray⟩]) := At.new w _ [.int .i64 d, .string ⟨n.toArray⟩]
  have HH := Lib.hid H
  have hat := fun V Hr => refAt_any V B cb F Al cl Aw cw L W (d, n) (by omega) Hr
  clear H
  unfold vKey at hat ⊢
  simp only [txt] at hat ⊢
  cases hix : ixOf L (d, n) with
  | none =>
    have HX : Hid (useK L (d, n) = L) := by unfold useK; rw [hix]; rfl
    have HIX := Lib.hid hix
    have HAT := Lib.hid hat
    clear hat hix
    go_enter Tryz.func51, Tryz.ntmps51
    go_wp2_with fail
    refine (HAT.out _ (HH.out.alloc _)).mono ?_
    rintro r w1 ⟨rfl, hb1⟩
    rw [HIX.out]
    simp only [ixInt]
    have HB1 := Lib.hid (((Below.refl _ w).alloc (Nat.le_refl _) _).trans (hb1.mono (by simp)))
    clear hb1
    go_wp2_with fail
    go_ret
    exact ⟨rfl, _, _, _, _, by rw [HX.out]; exact HH.out.below HB1.out, Kp.of_below HB1.out⟩
  | some j =>
    obtain ⟨⟨⟨xd, xn⟩, neg, i, k, m, t⟩, hx, hxk⟩ := ixOf_get hix
    have hx0 : useK L (d, n) = L.eraseIdx j ++ [((xd, xn), neg, i, k, m, t)] := by
      unfold useK
      rw [hix]
      simp [List.getD_eq_getElem?_getD, hx]
    have HX := Lib.hid hx0
    clear hx0
    have hj := ixOf_lt hix
    have HIX := Lib.hid hix
    have HAT := Lib.hid hat
    have HLX := Lib.hid hx
    have hlen : (L.eraseIdx j).length ≤ L.length := List.length_eraseIdx_le _ _
    clear hat hix hxk hx
    go_enter Tryz.func51, Tryz.ntmps51
    go_wp2_with fail
    refine (HAT.out _ (HH.out.alloc _)).mono ?_
    rintro r w1 ⟨rfl, hb1⟩
    rw [HIX.out]
    simp only [ixInt]
    have HB1 := Lib.hid (((Below.refl _ w).alloc (Nat.le_refl _) _).trans (hb1.mono (by simp)))
    have H1 := Lib.hid (HH.out.below HB1.out)
    have c0 := H1.out.c0
    obtain ⟨ad, xd', xn', neg', i', k', m', t', rfl, hbl, hx', h1, h2, h3, h4, h5, h6, h7⟩ := (Rd.of_own H1.out.lo).en_at hj
    rw [HLX.out] at hx'
    injection hx' with hx'
    obtain ⟨⟨rfl, rfl⟩, rfl, rfl, rfl, rfl, rfl⟩ : (xd = xd' ∧ xn = xn') ∧ neg = neg' ∧ i = i' ∧ k = k' ∧ m = m' ∧ t = t' := by simpa using hx'
    have KE : Hid (At (w1.alloc (.cells #[.int .i64 xd, .string ⟨xn.toArray⟩, .bool neg, .int .i64 i, .int .i64 k, .int .i64 m, .string ⟨t.toArray⟩] 36)) w1.heap.size 36 (cEn ((xd, xn), neg, i, k, m, t))) := At.new w1 _ (cEn ((xd, xn), neg, i, k, m, t))
    have H2 := Lib.hid (H1.out.more KE.out ((Below.refl _ _).alloc (Nat.le_refl _) _) (Nat.le_refl _))
    have hsz1 : w.heap.size ≤ w1.heap.size := HB1.out.size
    clear hb1 hx'
    go_wp2_with fail
    refine (refOut_any _ B cb _ _ cl Aw cw L W j hj (by omega) (by simp; omega) H2.out).mono ?_
    rintro r w3 ⟨rfl, A1, c1, A2, c2, hr2, hk2⟩
    have HR := Lib.hid hr2
    have HK := Lib.hid (((Kp.of_below (P := F) HB1.out).alloc _).trans (hk2.mono fun q _ h => .inl h))
    have KE3 := Lib.hid (KE.out.kp hk2 (.inr rfl))
    obtain ⟨x0, x1, x2, x3, x4, x5, x6⟩ := En7 KE3.out
    have hsz := HK.out.size
    clear hr2 hk2 c0 h1 h2 h3 h4 h5 h6 h7
    have c0 := HR.out.c0
    have f0 := HR.out.blk.frozen 0
    have HRD : Hid (Rd (w3.alloc (.cells #[.int .i64 xd, .string ⟨xn.toArray⟩, .bool neg, .int .i64 i, .int .i64 k, .int .i64 m, .string ⟨t.toArray⟩] 36)) 7 (some ⟨w3.heap.size, 0, none⟩) 1 (cEns [((xd, xn), neg, i, k, m, t)])) := rd_new w3 36 7 1 _ rfl
    have c0a : ∀ o, (w3.alloc o).cell? ⟨cb, 0, none⟩ = some (.slice A1 (L.eraseIdx j).length c1) := fun o => (HR.out.alloc o).c0
    generalize L.eraseIdx j = L1 at *
    go_upto_region 6 with fail
    go_region_law (refine step_append_rd rfl (.tmp 26) (.tmp 28) rfl elemEntries rfl (own_drew (own_below HR.out.lo ((Below.refl _ _).alloc (Nat.le_refl _) _))) rfl (HRD.out.drew) (cEns_one _) (by unfold maxLen; omega) (by omega) (by simp; omega) ?_; intro v2 w4 hown2 hg2 hl2; obtain ⟨A3, c3, rfl⟩ := own_slice hown2; have hg3 : (w3.alloc (.cells #[.int .i64 xd, .string ⟨xn.toArray⟩, .bool neg, .int .i64 i, .int .i64 k, .int .i64 m, .string ⟨t.toArray⟩] 36)).drew.grownBy w4 (Value.slice A1 L1.length c1).ownBlock := hg2; have hk3 : Kp (fun j => j < w3.heap.size ∧ (Value.slice A1 L1.length c1).ownBlock ≠ some j) w3 w4 := ((Kp.refl _ w3).alloc _).drew.grown hg3 (fun j e _ q => q.2 e); have HP := Lib.hid (HR.out.pushL hk3 hown2 (pushNew hl2)); have hat := HR.out.blk.kp hk3 ⟨HR.out.blk.lt, fun e => (HR.out.dl _ e).1 rfl⟩; have c0' : w4.cell? ⟨cb, 0, none⟩ = some (.slice A1 L1.length c1) := (by rw [hat.cell]; rfl); have f0' := hat.frozen 0; clear hown2 hg2 hl2 hg3 hk3 hat)
    all_goals
      clear c0 f0 c0a x0 x1 x2 x3 x4 x5 x6
      go_wp2_with fail
      go_ret
      exact ⟨rfl, _, _, _, _, by rw [HX.out]; exact HP.out.1.less (fun j h => .inl h), HK.out.trans (HP.out.2.mono fun j _ h => .inl h)⟩

/-- The whole directories behind an eviction. -/
def evictW (L : List En) (W : List Int) (k : Key) : List Int := match ixOf L k with
  | none => W
  | some i => if (L.getD i noEn).2.1 = true then W else dropD W k.1

set_option maxRecDepth 100000 in
set_option maxHeartbeats 4000000 in
theorem refEvict_any (w : World) (B cb : Nat) (F : Nat → Prop) (Al : Option Addr) (cl : Nat) (Aw : Option Addr) (cw : Nat) (L : List En) (W : List Int) (k : Key) (hn : L.length ≤ 1800000000000) (hn2 : W.length ≤ 1800000000000) (hB : B ≤ w.heap.size) (H : RefAt w B cb F Al cl Aw cw L W) :
    Calls Tryz.prog 58 #[.pointer (some ⟨cb, 0, none⟩), vKey k] w (RefPost w B cb F (outK L k) (evictW L W k) (.bool (ixOf L k).isSome)) := by
  obtain ⟨d, n⟩ := k
  have KB : Hid (At (w.alloc (.cells #[.int .i64 d, .string ⟨n.toArray⟩] 32)) w.heap.size 32 [.int .i64 d, .string ⟨n.toArray⟩]) := At.new w _ [.int .i64 d, .string ⟨n.toArray⟩]
  have HH := Lib.hid H
  have hat := fun V Hr => refAt_any V B cb F Al cl Aw cw L W (d, n) (by omega) Hr
  clear H
  unfold vKey at hat ⊢
  simp only [txt] at hat ⊢
  cases hix : ixOf L (d, n) with
  | none =>
    have HX : Hid (outK L (d, n) = L ∧ evictW L W (d, n) = W) := by unfold outK evictW; rw [hix]; exact ⟨rfl, rfl⟩
    have HIX := Lib.hid hix
    have HAT := Lib.hid hat
    clear hat hix
    go_enter Tryz.func58, Tryz.ntmps58
    go_wp2_with fail
    refine (HAT.out _ (HH.out.alloc _)).mono ?_
    rintro r w1 ⟨rfl, hb1⟩
    rw [HIX.out]
    simp only [ixInt]
    have HB1 := Lib.hid (((Below.refl _ w).alloc (Nat.le_refl _) _).trans (hb1.mono (by simp)))
    clear hb1
    go_wp2_with fail
    go_ret
    exact ⟨rfl, _, _, _, _, by rw [HX.out.1, HX.out.2]; exact HH.out.below HB1.out, Kp.of_below HB1.out⟩
  | some j =>
    obtain ⟨⟨⟨xd, xn⟩, neg, i, k, m, t⟩, hx, hxk⟩ := ixOf_get hix
    have hx0 : outK L (d, n) = L.eraseIdx j ∧ evictW L W (d, n) = if neg = true then W else dropD W d := by
      unfold outK evictW
      rw [hix]
      simp [List.getD_eq_getElem?_getD, hx]
    have HX := Lib.hid hx0
    clear hx0
    have hj := ixOf_lt hix
    have HIX := Lib.hid hix
    have HAT := Lib.hid hat
    have HLX := Lib.hid hx
    clear hat hix hxk hx
    go_enter Tryz.func58, Tryz.ntmps58
    go_wp2_with fail
    refine (HAT.out _ (HH.out.alloc _)).mono ?_
    rintro r w1 ⟨rfl, hb1⟩
    rw [HIX.out]
    simp only [ixInt]
    have HB1 := Lib.hid (((Below.refl _ w).alloc (Nat.le_refl _) _).trans (hb1.mono (by simp)))
    have K1 := Lib.hid (KB.out.below hb1)
    have H1 := Lib.hid (HH.out.more K1.out HB1.out (Nat.le_refl _))
    have c0 := H1.out.c0
    obtain ⟨ad, xd', xn', neg', i', k', m', t', rfl, hbl, hx', h1, h2, h3, h4, h5, h6, h7⟩ := (Rd.of_own H1.out.lo).en_at hj
    rw [HLX.out] at hx'
    injection hx' with hx'
    obtain ⟨⟨rfl, rfl⟩, rfl, rfl, rfl, rfl, rfl⟩ : (xd = xd' ∧ xn = xn') ∧ neg = neg' ∧ i = i' ∧ k = k' ∧ m = m' ∧ t = t' := by simpa using hx'
    have hsz1 : w.heap.size ≤ w1.heap.size := HB1.out.size
    clear hb1 hx'
    go_wp2_with fail
    refine (refOut_any _ B cb _ _ cl Aw cw L W j hj (by omega) (by omega) H1.out).mono ?_
    rintro r w3 ⟨rfl, A1, c1, A2, c2, hr2, hk2⟩
    have HR := Lib.hid hr2
    have HK := Lib.hid ((Kp.of_below (P := F) HB1.out).trans (hk2.mono fun q _ h => .inl h))
    have K3 := Lib.hid (K1.out.kp hk2 (.inr rfl))
    have k0 : w3.cell? ⟨w.heap.size, 0, none⟩ = some (.int .i64 d) := by rw [K3.out.cell]; rfl
    have hsz := HK.out.size
    clear hr2 hk2 c0 h1 h2 h3 h4 h5 h6 h7
    cases neg with
    | true =>
      go_wp2_with fail
      go_ret
      exact ⟨rfl, _, _, _, _, by rw [HX.out.1, HX.out.2]; exact HR.out.less (fun j h => .inl h), HK.out⟩
    | false =>
      go_wp2_with fail
      refine (refPart_any _ B cb _ _ _ _ _ _ W d (by omega) (by omega) HR.out).mono ?_
      rintro r w4 ⟨rfl, A3, c3, A4, c4, hr4, hk4⟩
      have HR4 := Lib.hid hr4
      have HK4 := Lib.hid (HK.out.trans (hk4.mono fun q _ h => .inl h))
      clear hr4 hk4
      go_wp2_with fail
      go_ret
      exact ⟨rfl, _, _, _, _, by rw [HX.out.1, HX.out.2]; exact HR4.out.less (fun j h => .inl h), HK4.out⟩
end Go.Proofs.YtoacobcbloljkaaGreatDoor
