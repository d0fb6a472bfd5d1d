/-
  The reference of layer 12: Put, Use, Evict.
-/
import Derived.Test.YtoacobcbloljkaaGreatDoorRef12b
import Derived.Test.YtoacobcbloljkaaGreatDoorWalkLow
namespace Go.Proofs.YtoacobcbloljkaaGreatDoor
open Go.RowKit

section
variable {w w' : World} {B cb : Nat} {F : Nat → Prop} {Al : Option Addr} {cl : Nat} {Aw : Option Addr} {cw : Nat} {L L' : List En} {W W' : List Int}
/-- One block more is another's. -/
theorem RefAt.more (H : RefAt w B cb F Al cl Aw cw L W) {b : Nat} {t : TypeId} {cs : List Value} (hb : At w' b t cs) (hk : Below w.heap.size w w') (hle : w.heap.size ≤ b) : RefAt w' B cb (fun k => F k ∨ k = b) Al cl Aw cw L W := by
  have h := H.below hk
  refine ⟨h.blk, h.lo, h.wo, fun k hF => ?_, h.dl, h.dw⟩
  rcases hF with hF | rfl
  · exact h.fr k hF
  · have := H.blk.lt
    exact ⟨hb.lt, by omega, fun e => by have := (H.lo.lt k e).2; omega, fun e => by have := (H.wo.lt k e).2; omega⟩
theorem RefAt.less {G : Nat → Prop} (H : RefAt w B cb G Al cl Aw cw L W) (hG : ∀ k, F k → G k) : RefAt w B cb F Al cl Aw cw L W :=
  ⟨H.blk, H.lo, H.wo, fun k hF => H.fr k (hG k hF), H.dl, H.dw⟩
end

theorem pushNew {w : World} {v v' : Value} {o : Obj} (h : v'.ownBlock = v.ownBlock ∨ v'.ownBlock = some (w.alloc o).drew.heap.size) : ∀ k, v'.ownBlock = some k → v.ownBlock = some k ∨ w.heap.size ≤ k := by
  intro k e
  rcases h with h | h
  · exact .inl (h.symm.trans e)
  · rw [h] at e
    injection e with e
    right
    rw [← e]
    simp

theorem own_drew {w : World} {base e sz n : Nat} {v : Value} {xs : List Value} (h : w.ownsRow base e sz v n xs) : w.drew.ownsRow base e sz v n xs := h

/-- An entry's seven cells. -/
theorem En7 {w : World} {b : Nat} {x : En} (h : At w b 36 (cEn x)) :
    w.cell? ⟨b, 0, none⟩ = some (.int .i64 x.1.1) ∧ w.cell? ⟨b, 1, none⟩ = some (.string ⟨x.1.2.toArray⟩) ∧ w.cell? ⟨b, 2, none⟩ = some (.bool x.2.1) ∧ w.cell? ⟨b, 3, none⟩ = some (.int .i64 x.2.2.1) ∧
    w.cell? ⟨b, 4, none⟩ = some (.int .i64 x.2.2.2.1) ∧ w.cell? ⟨b, 5, none⟩ = some (.int .i64 x.2.2.2.2.1) ∧ w.cell? ⟨b, 6, none⟩ = some (.string ⟨x.2.2.2.2.2.toArray⟩) := by
  refine ⟨?_, ?_, ?_, ?_, ?_, ?_, ?_⟩
  all_goals
    rw [h.cell]
    rfl

theorem ixOf_lt {L : List En} {k : Key} {i : Nat} (h : ixOf L k = some i) : i < L.length := by
  unfold ixOf at h
  rw [List.findIdx?_eq_some_iff_getElem] at h
  exact h.1
theorem ixOf_get {L : List En} {k : Key} {i : Nat} (h : ixOf L k = some i) : ∃ x, L[i]? = some x ∧ x.1 = k := by
  unfold ixOf at h
  rw [List.findIdx?_eq_some_iff_getElem] at h
  obtain ⟨h1, h2, _⟩ := h
  exact ⟨L[i], List.getElem?_eq_getElem h1, by simpa using h2⟩

/-- Without the entry of a key. -/
def outK (L : List En) (k : Key) : List En := match ixOf L k with
  | none => L
  | some i => L.eraseIdx i

theorem outK_len (L : List En) (k : Key) : (outK L k).length ≤ L.length := by
  unfold outK
  split
  · exact Nat.le_refl _
  · exact List.length_eraseIdx_le _ _

set_option maxRecDepth 100000 in
set_option maxHeartbeats 4000000 in
theorem refPut_any (w : World) (B cb : Nat) (F : Nat → Prop) (Al : Option Addr) (cl : Nat) (Aw : Option Addr) (cw : Nat) (L : List En) (W : List Int) (x : En) (hn : L.length ≤ 1800000000000) (hB : B ≤ w.heap.size) (H : RefAt w B cb F Al cl Aw cw L W) :
    Calls Tryz.prog 49 #[.pointer (some ⟨cb, 0, none⟩), vEn x] w
      (RefPost w B cb F (if x.1.2 = [] then L else outK L x.1 ++ [x]) W (.int .i64 (if x.1.2 = [] then 1 else 0))) := by
  obtain ⟨⟨d, n⟩, neg, i, k, m, t⟩ := x
  have KB : Hid (At (w.alloc (.cells #[.int .i64 d, .string ⟨n.toArray⟩, .bool neg, .int .i64 i, .int .i64 k, .int .i64 m, .string ⟨t.toArray⟩] 36)) w.heap.size 36 (cEn ((d, n), neg, i, k, m, t))) := At.new w _ (cEn ((d, n), neg, i, k, m, t))
  have HH := Lib.hid H
  clear H
  unfold vEn
  simp only [txt]
  cases hq : n.isEmpty with
  | true =>
    have hn' : n = [] := List.isEmpty_iff.1 hq
    simp only [hn', if_true]
    subst hn'
    go_enter Tryz.func49, Tryz.ntmps49
    go_wp2_with fail
    go_ret
    exact ⟨rfl, _, _, _, _, HH.out.alloc _, (Kp.refl _ _).alloc _⟩
  | false =>
    have hn' : n ≠ [] := fun q => by rw [q] at hq; cases hq
    simp only [hn', if_false]
    have HNE := Lib.hid hn'
    clear hn'
    have hat := fun V Hr => refAt_any V B cb F Al cl Aw cw L W (d, n) (by omega) Hr
    simp only [vKey, txt] at hat
    have HAT := Lib.hid hat
    clear hat
    go_enter Tryz.func49, Tryz.ntmps49
    go_wp2_with fail
    refine (HAT.out _ (HH.out.alloc _)).mono ?_
    rintro r w1 ⟨rfl, hb1⟩
    have hbx : Below w.heap.size w w1 := ((Below.refl _ _).alloc (Nat.le_refl _) _).trans (hb1.mono (by simp))
    have H1 := Lib.hid (HH.out.more (KB.out.below hb1) hbx (Nat.le_refl _))
    have K1 := Lib.hid (KB.out.below hb1)
    have HB1 := Lib.hid hbx
    clear hb1 hbx
    go_upto_if 15 with fail
    go_cut [5] (fun _ wd => ∃ A1 c1 A2 c2, Hid (RefAt wd B cb (fun k => F k ∨ k = w.heap.size) A1 c1 A2 c2 (outK L (d, n)) W ∧ Kp F w wd ∧ At wd w.heap.size 36 (cEn ((d, n), neg, i, k, m, t))))
    case first =>
      cases hix : ixOf L (d, n) with
      | none =>
        have HX : Hid (outK L (d, n) = L) := by unfold outK; rw [hix]; rfl
        simp only [ixInt]
        clear hix
        go_wp2_with fail
        go_meet
        case rel => exact ⟨_, _, _, _, by rw [HX.out]; exact ⟨H1.out, Kp.of_below HB1.out, K1.out⟩⟩
      | some j =>
        have HX : Hid (outK L (d, n) = L.eraseIdx j) := by unfold outK; rw [hix]; rfl
        have hj := ixOf_lt hix
        simp only [ixInt]
        clear hix
        go_wp2_with fail
        refine (refOut_any w1 B cb _ Al cl Aw cw L W j hj (by omega) (by have := HB1.out.size; omega) H1.out).mono ?_
        rintro r w2 ⟨rfl, A1, c1, A2, c2, hr2, hk2⟩
        have H2 := Lib.hid hr2
        have K2 := Lib.hid ((Kp.of_below (P := F) HB1.out).trans (hk2.mono fun q _ h => .inl h))
        have KB2 := Lib.hid (K1.out.kp hk2 (.inr rfl))
        clear hr2 hk2
        go_wp2_with fail
        go_meet
        case rel => exact ⟨A1, c1, A2, c2, by rw [HX.out]; exact ⟨H2.out, K2.out, KB2.out⟩⟩
    case rest =>
      obtain ⟨A1, c1, A2, c2, hcut⟩ := hcut
      have HR := Lib.hid hcut.out.1
      have HK := Lib.hid hcut.out.2.1
      have hsz := HK.out.size
      have c0 := HR.out.c0
      have f0 := HR.out.blk.frozen 0
      obtain ⟨x0, x1, x2, x3, x4, x5, x6⟩ := En7 hcut.out.2.2
      have hll := outK_len L (d, n)
      have HRD : Hid (Rd (wc.alloc (.cells #[.int .i64 d, .string ⟨n.toArray⟩, .bool neg, .int .i64 i, .int .i64 k, .int .i64 m, .string ⟨t.toArray⟩] 36)) 7 (some ⟨wc.heap.size, 0, none⟩) 1 (cEns [((d, n), neg, i, k, m, t)])) := rd_new wc 36 7 1 _ rfl
      have c0a : ∀ o, (wc.alloc o).cell? ⟨cb, 0, none⟩ = some (.slice A1 (outK L (d, n)).length c1) := fun o => (HR.out.alloc o).c0
      generalize outK L (d, n) = L1 at *
      clear hcut
      go_upto_region 6 with fail
      go_region_law (refine step_append_rd rfl (.tmp 23) (.tmp 25) rfl elemEntries rfl (own_drew (own_below HR.out.lo ((Below.refl _ _).alloc (Nat.le_refl _) _))) rfl (HRD.out.drew) (cEns_one _) (by unfold maxLen; omega) (by omega) (by simp; omega) ?_; intro v2 w2 hown2 hg2 hl2; obtain ⟨A3, c3, rfl⟩ := own_slice hown2; have hg3 : (wc.alloc (.cells #[.int .i64 d, .string ⟨n.toArray⟩, .bool neg, .int .i64 i, .int .i64 k, .int .i64 m, .string ⟨t.toArray⟩] 36)).drew.grownBy w2 (Value.slice A1 L1.length c1).ownBlock := hg2; have hk3 : Kp (fun j => j < wc.heap.size ∧ (Value.slice A1 L1.length c1).ownBlock ≠ some j) wc w2 := ((Kp.refl _ wc).alloc _).drew.grown hg3 (fun j e _ q => q.2 e); have HP := Lib.hid (HR.out.pushL hk3 hown2 (pushNew hl2)); have hat := HR.out.blk.kp hk3 ⟨HR.out.blk.lt, fun e => (HR.out.dl _ e).1 rfl⟩; have c0' : w2.cell? ⟨cb, 0, none⟩ = some (.slice A1 L1.length c1) := (by rw [hat.cell]; rfl); have f0' := hat.frozen 0; clear hown2 hg2 hl2 hg3 hk3 hat)
      all_goals
        clear c0 f0 c0a x0 x1 x2 x3 x4 x5 x6
        go_wp2_with fail
        go_ret
        exact ⟨rfl, _, _, _, _, HP.out.1.less (fun j h => .inl h), HK.out.trans (HP.out.2.mono fun j _ h => .inl h)⟩
end Go.Proofs.YtoacobcbloljkaaGreatDoor
