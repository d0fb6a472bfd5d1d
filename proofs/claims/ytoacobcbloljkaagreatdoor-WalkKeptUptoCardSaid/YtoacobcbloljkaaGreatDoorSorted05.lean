/-
  The reference's insertion sort of entries by their keys.
-/
import Derived.Test.YtoacobcbloljkaaGreatDoorRef12c
import Derived.Test.YtoacobcbloljkaaGreatDoorLow
import Derived.Test.YtoacobcbloljkaaGreatDoorSortK
import Derived.Deep.RegionHeld3
import Derived.Deep.DrawnRows
import Derived.IntWalk
import Derived.BigRegion
namespace Go.Proofs.YtoacobcbloljkaaGreatDoor
open Go.RowKit

/-- Rising keys. -/
def ltK (a b : Key) : Bool := decide (a.1 < b.1) || (decide (a.1 = b.1) && decide (a.2 < b.2))

theorem ltK_iff {a b : Key} : ltK a b = true ↔ a.1 < b.1 ∨ a.1 = b.1 ∧ a.2 < b.2 := by unfold ltK; simp
theorem ltK_irrefl (a : Key) : ltK a a = false := by
  rw [Bool.eq_false_iff]
  intro h
  rcases ltK_iff.1 h with h | h
  · omega
  · exact List.lt_irrefl _ h.2
theorem ltK_trans {a b c : Key} (h : ltK a b = true) (k : ltK b c = true) : ltK a c = true := by
  rw [ltK_iff] at *
  rcases h with h | ⟨h1, h2⟩ <;> rcases k with k | ⟨k1, k2⟩
  · exact .inl (by omega)
  · exact .inl (by omega)
  · exact .inl (by omega)
  · exact .inr ⟨by omega, List.lt_trans h2 k2⟩
theorem ltK_asymm {a b : Key} (h : ltK a b = true) : ltK b a = false := by
  rw [Bool.eq_false_iff]
  intro k
  have := ltK_trans h k
  rw [ltK_irrefl] at this
  cases this
theorem ltK_total {a b : Key} (h : ltK a b = false) (k : ltK b a = false) : a = b := by
  obtain ⟨a1, a2⟩ := a
  obtain ⟨b1, b2⟩ := b
  have h1 : ¬ (a1 < b1 ∨ a1 = b1 ∧ a2 < b2) := fun q => by rw [ltK_iff.2 q] at h; cases h
  have h2 : ¬ (b1 < a1 ∨ b1 = a1 ∧ b2 < a2) := fun q => by rw [ltK_iff.2 q] at k; cases k
  have e : a1 = b1 := by omega
  subst e
  have e2 : a2 = b2 := List.le_antisymm (fun q => h2 (.inr ⟨rfl, q⟩)) (fun q => h1 (.inr ⟨rfl, q⟩))
  rw [e2]
/-- Not behind. -/
theorem ltK_le_trans {a b c : Key} (h : ltK b a = false) (k : ltK c b = false) : ltK c a = false := by
  cases hab : ltK a b with
  | false =>
    rw [ltK_total hab h]
    exact k
  | true =>
    rw [Bool.eq_false_iff]
    intro q
    have := ltK_trans q hab
    rw [k] at this
    cases this

theorem bl_dec (a b : List UInt8) : Op.bytesLess a b = decide (a < b) := bl_eq a b

set_option maxRecDepth 100000 in
set_option maxHeartbeats 1000000 in
theorem less05_any (a b : Key) (w : World) : Calls Tryz.prog 130 #[vKey a, vKey b] w fun r w' => r = .returned (.bool (ltK a b)) ∧ Below w.heap.size w w' := by
  obtain ⟨a1, a2⟩ := a
  obtain ⟨b1, b2⟩ := b
  obtain ⟨v, hv⟩ : ∃ v, ltK (a1, a2) (b1, b2) = v := ⟨_, rfl⟩
  rw [hv]
  unfold ltK at hv
  simp only at hv
  unfold vKey
  simp only [txt]
  by_cases h1 : a1 < b1
  · have : v = true := by rw [← hv]; simp [h1]
    subst this
    clear hv
    have h1' : decide (a1 < b1) = true := by simpa using h1
    go_enter Tryz.func130, Tryz.ntmps130
    go_wp2_with fail
    go_ret
    exact ⟨rfl, ((Below.refl _ _).alloc (Nat.le_refl _) _).alloc (by simp) _⟩
  · by_cases h2 : a1 = b1
    · subst h2
      have hv2 : v = Op.bytesLess a2 b2 := by rw [bl_eq, ← hv]; simp
      cases hq : Op.bytesLess a2 b2 with
      | true =>
        rw [hq] at hv2
        subst hv2
        clear hv h1
        go_enter Tryz.func130, Tryz.ntmps130
        go_wp2_with fail
        go_ret
        exact ⟨rfl, ((Below.refl _ _).alloc (Nat.le_refl _) _).alloc (by simp) _⟩
      | false =>
        rw [hq] at hv2
        subst hv2
        clear hv h1
        go_enter Tryz.func130, Tryz.ntmps130
        go_wp2_with fail
        go_ret
        exact ⟨rfl, ((Below.refl _ _).alloc (Nat.le_refl _) _).alloc (by simp) _⟩
    · have : v = false := by rw [← hv]; simp [h1, h2]
      subst this
      clear hv
      have h1' : decide (a1 < b1) = false := by simpa using h1
      have h2' : (a1 == b1) = false := by simpa using h2
      go_enter Tryz.func130, Tryz.ntmps130
      go_wp2_with fail
      go_ret
      exact ⟨rfl, ((Below.refl _ _).alloc (Nat.le_refl _) _).alloc (by simp) _⟩

/-! ## The sort -/
def leE (x y : En) : Prop := ltK y.1 x.1 = false

theorem ins_sorted {pre post : List En} {x : En} (hT : (pre ++ post).Pairwise leE) (hx : ∀ y ∈ post, ltK x.1 y.1 = true) (hp : ∀ p, pre.getLast? = some p → ltK x.1 p.1 = false) : (pre ++ x :: post).Pairwise leE := by
  obtain ⟨h1, h2, h3⟩ := List.pairwise_append.1 hT
  refine List.pairwise_append.2 ⟨h1, List.pairwise_cons.2 ⟨fun y hy => ltK_asymm (hx y hy), h2⟩, fun a ha b hb => ?_⟩
  rcases List.mem_cons.1 hb with rfl | hb
  · rcases List.eq_nil_or_concat pre with rfl | ⟨pre', p, rfl⟩
    · cases ha
    · have hl := hp p (by simp)
      rw [List.concat_eq_append] at ha h1
      rcases List.mem_append.1 ha with ha | ha
      · have := (List.pairwise_append.1 h1).2.2 a ha p (by simp)
        exact ltK_le_trans this hl
      · rw [List.mem_singleton.1 ha]
        exact hl
  · exact h3 a ha b hb

/-- A row of entries of the call's own, its block by name. -/
structure EnG (w : World) (base g n cap : Nat) (S : List En) (sp : List Value) : Prop where
  at_ : At w g 36 (cEns S ++ sp)
  len : S.length = n
  le : n ≤ cap
  mx : cap ≤ maxLen
  sz : (cEns S ++ sp).length = cap * 7
  bs : base ≤ g

theorem cEn_app (x : En) : cEn x = cEns [x] := by simp [cEns]
theorem EnG.own {w : World} {base g n cap : Nat} {S : List En} {sp : List Value} (H : EnG w base g n cap S sp) : w.ownsRow base 36 7 (.slice (some ⟨g, 0, none⟩) n cap) n (cEns S) := by
  have hl := H.len
  refine ⟨by rw [cEns_length, hl], .inr ⟨g, cap, _, rfl, H.bs, H.at_, H.le, H.mx, ?_, ?_⟩⟩
  · rw [List.size_toArray]; exact H.sz
  · rw [List.toList_toArray, List.take_append_of_le_length (by rw [cEns_length]; omega), List.take_of_length_le (by rw [cEns_length]; omega)]
theorem EnG.of_own {w : World} {base n : Nat} {v : Value} {S : List En} (h : w.ownsRow base 36 7 v n (cEns S)) (h0 : 0 < n) : ∃ g cap sp, v = .slice (some ⟨g, 0, none⟩) n cap ∧ EnG w base g n cap S sp := by
  have hl := h.1
  rw [cEns_length] at hl
  rcases h.2 with ⟨_, h1⟩ | ⟨g, cap, cur, rfl, hb, hh, h1, h2, h3, h4⟩
  · omega
  · have e : cEns S ++ cur.toList.drop (n * 7) = cur.toList := by rw [← h4, List.take_append_drop]
    refine ⟨g, cap, cur.toList.drop (n * 7), rfl, ⟨?_, by omega, h1, h2, ?_, hb⟩⟩
    · unfold At
      rw [e]
      simpa using hh
    · rw [e]
      simpa using h3
theorem EnG.below {w w' : World} {base g n cap : Nat} {S : List En} {sp : List Value} (H : EnG w base g n cap S sp) (hb : Below w.heap.size w w') : EnG w' base g n cap S sp := ⟨H.at_.below hb, H.len, H.le, H.mx, H.sz, H.bs⟩
theorem EnG.drew {w : World} {base g n cap : Nat} {S : List En} {sp : List Value} (H : EnG w base g n cap S sp) : EnG w.drew base g n cap S sp := ⟨H.at_.drew, H.len, H.le, H.mx, H.sz, H.bs⟩

theorem EnG.cell {w : World} {base g n cap : Nat} {S : List En} {sp : List Value} (H : EnG w base g n cap S sp) {k : Nat} {x : En} (hx : S[k]? = some x) {i : Nat} (hi : i < 7) : w.cell? ⟨g, k * 7 + i, none⟩ = (cEn x)[i]? := by
  have hk := (List.getElem?_eq_some_iff.1 hx).1
  rw [H.at_.cell, List.getElem?_append_left (by rw [cEns_length]; omega)]
  exact cEns_get S k x hx i hi

theorem atMid {w : World} {g : Nat} {t : TypeId} {P M Q : List Value} (H : At w g t (P ++ (M ++ Q))) (i : Nat) {o : Nat} (v : Value) (hi : i < M.length) (ho : o = P.length + i) : At (w.setCell ⟨g, o, none⟩ v) g t (P ++ (M.set i v ++ Q)) := by
  subst ho
  have := H.setCell (P.length + i) v
  rwa [List.set_append_right _ _ (Nat.le_add_right _ _), Nat.add_sub_cancel_left, List.set_append_left _ _ hi] at this

set_option maxRecDepth 100000 in
theorem EnG.swap {w : World} {base g n cap q : Nat} {pre post : List En} {p x : En} {sp : List Value} (H : EnG w base g n cap (pre ++ p :: x :: post) sp) (hq : pre.length = q) :
    EnG (((((((((((((((w).setCell ⟨g, (q + 1) * 7, none⟩ (.int .i64 p.1.1)).setCell ⟨g, (q + 1) * 7 + 1, none⟩ (txt p.1.2)).setCell ⟨g, (q + 1) * 7 + 2, none⟩ (.bool p.2.1)).setCell ⟨g, (q + 1) * 7 + 3, none⟩ (.int .i64 p.2.2.1)).setCell ⟨g, (q + 1) * 7 + 4, none⟩ (.int .i64 p.2.2.2.1)).setCell ⟨g, (q + 1) * 7 + 5, none⟩ (.int .i64 p.2.2.2.2.1)).setCell ⟨g, (q + 1) * 7 + 6, none⟩ (txt p.2.2.2.2.2)).setCell ⟨g, q * 7, none⟩ (.int .i64 x.1.1)).setCell ⟨g, q * 7 + 1, none⟩ (txt x.1.2)).setCell ⟨g, q * 7 + 2, none⟩ (.bool x.2.1)).setCell ⟨g, q * 7 + 3, none⟩ (.int .i64 x.2.2.1)).setCell ⟨g, q * 7 + 4, none⟩ (.int .i64 x.2.2.2.1)).setCell ⟨g, q * 7 + 5, none⟩ (.int .i64 x.2.2.2.2.1)).setCell ⟨g, q * 7 + 6, none⟩ (txt x.2.2.2.2.2)) base g n cap (pre ++ x :: p :: post) sp ∧
    Kp (fun k => k ≠ g) w (((((((((((((((w).setCell ⟨g, (q + 1) * 7, none⟩ (.int .i64 p.1.1)).setCell ⟨g, (q + 1) * 7 + 1, none⟩ (txt p.1.2)).setCell ⟨g, (q + 1) * 7 + 2, none⟩ (.bool p.2.1)).setCell ⟨g, (q + 1) * 7 + 3, none⟩ (.int .i64 p.2.2.1)).setCell ⟨g, (q + 1) * 7 + 4, none⟩ (.int .i64 p.2.2.2.1)).setCell ⟨g, (q + 1) * 7 + 5, none⟩ (.int .i64 p.2.2.2.2.1)).setCell ⟨g, (q + 1) * 7 + 6, none⟩ (txt p.2.2.2.2.2)).setCell ⟨g, q * 7, none⟩ (.int .i64 x.1.1)).setCell ⟨g, q * 7 + 1, none⟩ (txt x.1.2)).setCell ⟨g, q * 7 + 2, none⟩ (.bool x.2.1)).setCell ⟨g, q * 7 + 3, none⟩ (.int .i64 x.2.2.1)).setCell ⟨g, q * 7 + 4, none⟩ (.int .i64 x.2.2.2.1)).setCell ⟨g, q * 7 + 5, none⟩ (.int .i64 x.2.2.2.2.1)).setCell ⟨g, q * 7 + 6, none⟩ (txt x.2.2.2.2.2)) := by
  have hP : (cEns pre).length = q * 7 := by rw [cEns_length, hq]
  have e1 : ∀ a b : En, cEns (pre ++ a :: b :: post) ++ sp = cEns pre ++ ((cEn a ++ cEn b) ++ (cEns post ++ sp)) := fun a b => by simp [cEns]
  have H0 := H.at_
  rw [e1] at H0
  refine ⟨⟨?_, ?_, H.le, H.mx, ?_, H.bs⟩, ?_⟩
  · rw [e1]
    exact (atMid (atMid (atMid (atMid (atMid (atMid (atMid (atMid (atMid (atMid (atMid (atMid (atMid (atMid H0 7 _ (by simp [cEn]) (by omega)) 8 _ (by simp [cEn]) (by omega)) 9 _ (by simp [cEn]) (by omega)) 10 _ (by simp [cEn]) (by omega)) 11 _ (by simp [cEn]) (by omega)) 12 _ (by simp [cEn]) (by omega)) 13 _ (by simp [cEn]) (by omega)) 0 _ (by simp [cEn]) (by omega)) 1 _ (by simp [cEn]) (by omega)) 2 _ (by simp [cEn]) (by omega)) 3 _ (by simp [cEn]) (by omega)) 4 _ (by simp [cEn]) (by omega)) 5 _ (by simp [cEn]) (by omega)) 6 _ (by simp [cEn]) (by omega))
  · have := H.len
    simpa using this
  · have := H.sz
    rw [List.length_append, cEns_length] at this ⊢
    simpa using this
  · exact (((((((((((((((Kp.refl _ w).setCell (fun _ k => k rfl) _).setCell (fun _ k => k rfl) _).setCell (fun _ k => k rfl) _).setCell (fun _ k => k rfl) _).setCell (fun _ k => k rfl) _).setCell (fun _ k => k rfl) _).setCell (fun _ k => k rfl) _).setCell (fun _ k => k rfl) _).setCell (fun _ k => k rfl) _).setCell (fun _ k => k rfl) _).setCell (fun _ k => k rfl) _).setCell (fun _ k => k rfl) _).setCell (fun _ k => k rfl) _).setCell (fun _ k => k rfl) _)

theorem below_far {a b c : World} (h : Hid (Below a.heap.size a b)) (k : Hid (Below b.heap.size b c)) : Below a.heap.size a c := h.out.trans (k.out.mono h.out.size)

set_option maxRecDepth 100000 in
set_option maxHeartbeats 8000000 in
theorem sorted05_any (w : World) (A : Option Addr) (n cp : Nat) (L : List En) (hn : n ≤ 1256584717421) (hr : Rd w 7 A n (cEns L)) :
    Calls Tryz.prog 99 #[.slice A n cp] w fun r w' => ∃ (v : Value) (S : List En), r = .returned v ∧ S.Perm L ∧ S.Pairwise leE ∧ w'.ownsRow w.heap.size 36 7 v n (cEns S) ∧ Below w.heap.size w w' := by
  have hlen := hr.en_len
  have HR := Lib.hid hr
  clear hr
  go_enter Tryz.func99, Tryz.ntmps99
  go_wp2_with fail
  go_loopg [3, 4] n (fun g v i wx => ∃ (j : Nat) (S : List En), g = n - j ∧ j ≤ n ∧ i = .int .i64 j ∧ Hid (S.Perm (L.take j)) ∧ Hid (S.Pairwise leE) ∧ Hid (wx.ownsRow w.heap.size 36 7 v j (cEns S)) ∧ Hid (Below w.heap.size w wx))
  case atStart => exact ⟨0, [], rfl, by omega, rfl, .refl _, .nil, World.ownsRow_nil _ _ _ _, Below.refl _ _⟩
  case round =>
    obtain ⟨j, S, rfl, hj, rfl, HP, HS, HO, HB⟩ := hrel
    by_cases hlt : j < n
    · have hx : L[j]? = some L[j] := List.getElem?_eq_getElem (by omega)
      obtain ⟨ad, hA, hbl, hin, x0, x1, x2, x3, x4, x5, x6⟩ := entry_at (HR.out.below HB.out) hx
      subst hA
      have htk : L.take (j + 1) = L.take j ++ [L[j]] := by rw [List.take_add_one, hx]; rfl
      have HT := Lib.hid htk
      have hSl : S.length = j := by have := HO.out.1; rw [cEns_length] at this; omega
      generalize L[j] = x at *
      obtain ⟨⟨ed, en⟩, ng, ei, ek, em, et⟩ := x
      simp only at x0 x1 x2 x3 x4 x5 x6
      have HRD : Hid (∀ (V : World) (g : Nat), g = V.heap.size → Rd (V.alloc (.cells #[.int .i64 ed, .string ⟨en.toArray⟩, .bool ng, .int .i64 ei, .int .i64 ek, .int .i64 em, .string ⟨et.toArray⟩] 36)) 7 (some ⟨g, 0, none⟩) 1 (cEn ((ed, en), ng, ei, ek, em, et))) := fun V g hg => hg ▸ rd_lay V 36 (cEn ((ed, en), ng, ei, ek, em, et)) 7 1 rfl
      clear hx htk
      go_wp2_with ((with_reducible refine wpList_isBuiltin .append ?_); refine wpList_append_rd rfl _ _ rfl elemEntries rfl (own_below HO.out ((Below.refl _ _).alloc (Nat.le_refl _) _)) rfl (HRD.out _ _ ?c4) (cEn_one _) ?c1 ?c2 ?c3 ?_; (case c4 => simp); (case c1 => unfold maxLen; omega); (case c2 => omega); (case c3 => have := HB.out.size; simp; omega); intro v5 w6 hown5 hg5 hb5; obtain ⟨g, cap, sp, rfl, hG⟩ := EnG.of_own (S := S ++ [((ed, en), ng, ei, ek, em, et)]) (by rw [cEns_append, ← cEn_app]; exact hown5) (by omega); have HG := Lib.hid hG; clear hG; have HB5 := Lib.hid ((HB.out.alloc HB.out.size _).grown hg5 (by have := HB.out.size; simp; omega) (fun k q => (HO.out.lt k q).1)); clear hown5 hg5 hb5)
      clear x0 x1 x2 x3 x4 x5 x6
      go_loopg [5] j (fun gh v wx => ∃ (pre post : List En), gh = pre.length ∧ v = .int .i64 pre.length ∧ Hid (pre ++ post = S) ∧ Hid (∀ y ∈ post, ltK (ed, en) y.1 = true) ∧ Hid (EnG wx w.heap.size g (j + 1) cap (pre ++ ((ed, en), ng, ei, ek, em, et) :: post) sp) ∧ Hid (Below w.heap.size w wx))
      case atStart => exact ⟨S, [], hSl.symm, by rw [hSl], by simp [Hid], by simp [Hid], HG.out, HB5.out⟩
      case round =>
        obtain ⟨pre, post, rfl, rfl, HE, HX, HG2, HB2⟩ := hrel
        rcases List.eq_nil_or_concat pre with rfl | ⟨pre', p, rfl⟩
        · simp only [List.length_nil, Int.natCast_zero]
          have hso := ins_sorted (pre := []) (post := post) (x := ((ed, en), ng, ei, ek, em, et)) (by rw [HE.out]; exact HS.out) HX.out (fun p hp => by cases hp)
          have hpm : ([] ++ ((ed, en), ng, ei, ek, em, et) :: post).Perm (L.take (j + 1)) := by
            rw [HT.out]
            refine List.perm_middle.trans ?_
            rw [HE.out]
            exact (List.perm_append_singleton _ _).symm.trans (HP.out.append_right _)
          have HSO := Lib.hid hso
          have HPM := Lib.hid hpm
          clear hso hpm
          go_wp2_with fail
          go_quiet (fail)
          go_wp2_with fail
          go_roundg (n - (j + 1))
          case measure => omega
          case rel => exact ⟨j + 1, _, rfl, by omega, by go_num, HPM.out, HSO.out, HG2.out.own, below_drewN_ HB2.out _⟩
        · rw [List.concat_eq_append] at *
          obtain ⟨⟨pd, pn⟩, pg, pi, pk, pm, pt⟩ := p
          obtain ⟨q, hq⟩ : ∃ q, pre'.length = q := ⟨_, rfl⟩
          have hlq : (pre' ++ [((pd, pn), pg, pi, pk, pm, pt)]).length = q + 1 := by simp [hq]
          rw [hlq]
          have hqj : q + 1 < j + 1 := by
            have := HG2.out.len
            simp at this
            omega
          have c1 : (pre' ++ [((pd, pn), pg, pi, pk, pm, pt)] ++ ((ed, en), ng, ei, ek, em, et) :: post)[q]? = some ((pd, pn), pg, pi, pk, pm, pt) := by
            rw [List.append_assoc, List.getElem?_append_right (by omega), hq]
            simp
          have c2 : (pre' ++ [((pd, pn), pg, pi, pk, pm, pt)] ++ ((ed, en), ng, ei, ek, em, et) :: post)[q + 1]? = some ((ed, en), ng, ei, ek, em, et) := by
            rw [List.getElem?_append_right (by omega), hlq]
            simp
          have y0 : wr.cell? ⟨g, q * 7, none⟩ = some (.int .i64 pd) := HG2.out.cell c1 (i := 0) (by omega)
          have y1 : wr.cell? ⟨g, q * 7 + 1, none⟩ = some (.string ⟨pn.toArray⟩) := HG2.out.cell c1 (i := 1) (by omega)
          have z0 : wr.cell? ⟨g, (q + 1) * 7, none⟩ = some (.int .i64 ed) := HG2.out.cell c2 (i := 0) (by omega)
          have z1 : wr.cell? ⟨g, (q + 1) * 7 + 1, none⟩ = some (.string ⟨en.toArray⟩) := HG2.out.cell c2 (i := 1) (by omega)
          have b1 : (0 : Int) ≤ (q : Int) + 1 := by omega
          have b2 : (q : Int) + 1 < (j : Int) + 1 := by omega
          have b3 : (0 : Int) ≤ (q : Int) := by omega
          have b4 : (q : Int) < (j : Int) + 1 := by omega
          have b5 : (0 : Int) < (q : Int) + 1 := by omega
          have b6 : q ≤ j := by omega
          have b7 : (q : Int) ≤ (j : Int) := by omega
          have b8 : q < j + 1 := by omega
          have wq2 : IntKind.i64.wrap (q : Int) = (q : Int) := IntWalk.i64_in _ (by omega)
          have t1 : ((q : Int) + 1).toNat = q + 1 := by omega
          have wq : IntKind.i64.wrap ((q : Int) + 1 - 1) = (q : Int) := by
            rw [Int.add_sub_cancel]
            exact IntWalk.i64_in _ (by omega)
          have KL : Hid (∀ W', Below wr.heap.size wr W' → W'.cell? ⟨g, q * 7, none⟩ = some (.int .i64 pd) ∧ W'.cell? ⟨g, q * 7 + 1, none⟩ = some (.string ⟨pn.toArray⟩) ∧ W'.cell? ⟨g, (q + 1) * 7, none⟩ = some (.int .i64 ed) ∧ W'.cell? ⟨g, (q + 1) * 7 + 1, none⟩ = some (.string ⟨en.toArray⟩) ∧ Hid (Below wr.heap.size wr W')) := fun W' hb =>
            ⟨(HG2.out.below hb).cell c1 (i := 0) (by omega), (HG2.out.below hb).cell c1 (i := 1) (by omega), (HG2.out.below hb).cell c2 (i := 0) (by omega), (HG2.out.below hb).cell c2 (i := 1) (by omega), hb⟩
          clear y0 y1 z0 z1
          have HC1 := Lib.hid c1
          have HC2 := Lib.hid c2
          clear c1 c2
          have hls : ∀ V : World, Calls Tryz.prog 130 #[.agg #[.int .i64 ed, .string ⟨en.toArray⟩], .agg #[.int .i64 pd, .string ⟨pn.toArray⟩]] V fun r w' => r = .returned (.bool (ltK (ed, en) (pd, pn))) ∧ Below V.heap.size V w' := fun V => less05_any (ed, en) (pd, pn) V
          obtain ⟨lv, hlv⟩ : ∃ lv, ltK (ed, en) (pd, pn) = lv := ⟨_, rfl⟩
          rw [hlv] at hls
          have HLV := Lib.hid hlv
          have HLS := Lib.hid hls
          have HQ := Lib.hid hq
          clear hlv hls hq hlq
          go_wp2_with fail
          go_region_held3 (fun W => W.cell? ⟨g, q * 7, none⟩ = some (.int .i64 pd) ∧ W.cell? ⟨g, q * 7 + 1, none⟩ = some (.string ⟨pn.toArray⟩) ∧ W.cell? ⟨g, (q + 1) * 7, none⟩ = some (.int .i64 ed) ∧ W.cell? ⟨g, (q + 1) * 7 + 1, none⟩ = some (.string ⟨en.toArray⟩) ∧ Hid (Below wr.heap.size wr W))
            (first
              | exact KL.out _ (below_drew (Below.refl _ _))
              | exact KL.out _ (below_far (And.right (And.right (And.right (And.right (by assumption))))) (by assumption)))
            (first | (go_at_call 130; refine (HLS.out _).mono ?_; rintro r w7 ⟨rfl, hb7⟩; have HB7 := Lib.hid hb7; clear hb7))
          have hbw : Below wr.heap.size wr w7 := by
            have := (by assumption : w7.cell? ⟨g, q * 7, none⟩ = some (.int .i64 pd) ∧ w7.cell? ⟨g, q * 7 + 1, none⟩ = some (.string ⟨pn.toArray⟩) ∧ w7.cell? ⟨g, (q + 1) * 7, none⟩ = some (.int .i64 ed) ∧ w7.cell? ⟨g, (q + 1) * 7 + 1, none⟩ = some (.string ⟨en.toArray⟩) ∧ Hid (Below wr.heap.size wr w7))
            exact this.2.2.2.2.out
          have HG7 := Lib.hid (HG2.out.below hbw)
          have HB7 := Lib.hid (HB2.out.trans (hbw.mono HB2.out.size))
          clear hbw
          cases lv with
          | false =>
            have hso := ins_sorted (pre := pre' ++ [((pd, pn), pg, pi, pk, pm, pt)]) (post := post) (x := ((ed, en), ng, ei, ek, em, et)) (by rw [HE.out]; exact HS.out) HX.out (fun p hp => by rw [List.getLast?_concat] at hp; injection hp with hp; subst hp; exact HLV.out)
            have hpm : (pre' ++ [((pd, pn), pg, pi, pk, pm, pt)] ++ ((ed, en), ng, ei, ek, em, et) :: post).Perm (L.take (j + 1)) := by
              rw [HT.out]
              refine List.perm_middle.trans ?_
              rw [HE.out]
              exact (List.perm_append_singleton _ _).symm.trans (HP.out.append_right _)
            have HSO := Lib.hid hso
            have HPM := Lib.hid hpm
            clear hso hpm
            go_wp2_with fail
            go_roundg (n - (j + 1))
            case measure => omega
            case rel => exact ⟨j + 1, _, rfl, by omega, by go_num, HPM.out, HSO.out, HG7.out.own, HB7.out⟩
          | true =>
            have y0 : w7.cell? ⟨g, q * 7, none⟩ = some (.int .i64 pd) := HG7.out.cell HC1.out (i := 0) (by omega)
            have y1 : w7.cell? ⟨g, q * 7 + 1, none⟩ = some (.string ⟨pn.toArray⟩) := HG7.out.cell HC1.out (i := 1) (by omega)
            have y2 : w7.cell? ⟨g, q * 7 + 2, none⟩ = some (.bool pg) := HG7.out.cell HC1.out (i := 2) (by omega)
            have y3 : w7.cell? ⟨g, q * 7 + 3, none⟩ = some (.int .i64 pi) := HG7.out.cell HC1.out (i := 3) (by omega)
            have y4 : w7.cell? ⟨g, q * 7 + 4, none⟩ = some (.int .i64 pk) := HG7.out.cell HC1.out (i := 4) (by omega)
            have y5 : w7.cell? ⟨g, q * 7 + 5, none⟩ = some (.int .i64 pm) := HG7.out.cell HC1.out (i := 5) (by omega)
            have y6 : w7.cell? ⟨g, q * 7 + 6, none⟩ = some (.string ⟨pt.toArray⟩) := HG7.out.cell HC1.out (i := 6) (by omega)
            have z0 : w7.cell? ⟨g, (q + 1) * 7, none⟩ = some (.int .i64 ed) := HG7.out.cell HC2.out (i := 0) (by omega)
            have z1 : w7.cell? ⟨g, (q + 1) * 7 + 1, none⟩ = some (.string ⟨en.toArray⟩) := HG7.out.cell HC2.out (i := 1) (by omega)
            have z2 : w7.cell? ⟨g, (q + 1) * 7 + 2, none⟩ = some (.bool ng) := HG7.out.cell HC2.out (i := 2) (by omega)
            have z3 : w7.cell? ⟨g, (q + 1) * 7 + 3, none⟩ = some (.int .i64 ei) := HG7.out.cell HC2.out (i := 3) (by omega)
            have z4 : w7.cell? ⟨g, (q + 1) * 7 + 4, none⟩ = some (.int .i64 ek) := HG7.out.cell HC2.out (i := 4) (by omega)
            have z5 : w7.cell? ⟨g, (q + 1) * 7 + 5, none⟩ = some (.int .i64 em) := HG7.out.cell HC2.out (i := 5) (by omega)
            have z6 : w7.cell? ⟨g, (q + 1) * 7 + 6, none⟩ = some (.string ⟨et.toArray⟩) := HG7.out.cell HC2.out (i := 6) (by omega)
            have fz : ∀ k, w7.frozen? ⟨g, k, none⟩ = false := fun k => HG7.out.at_.frozen k
            go_wp2_with fail
            go_region
            all_goals
              clear y0 y1 y2 y3 y4 y5 y6 z0 z1 z2 z3 z4 z5 z6 fz
              have hG7 := HG7.out
              rw [List.append_assoc] at hG7
              have hsw := EnG.swap hG7 HQ.out
              simp only [txt] at hsw
              have HG8 := Lib.hid hsw.1.drew
              have HK8 := Lib.hid hsw.2.drew
              clear hsw hG7
              revert HG8 HK8
              generalize World.drew _ = w8
              intro HG8 HK8
              have hb8 := HB7.out.trans (HK8.out.to_below HB7.out.size (fun k hk => by have := HG7.out.bs; omega))
              have HB8 := Lib.hid hb8
              clear hb8
              go_wp2_with fail
              go_roundg q
              case measure =>
                have := HQ.out
                simp
                omega
              case rel =>
                refine ⟨pre', ((pd, pn), pg, pi, pk, pm, pt) :: post, HQ.out.symm, by rw [HQ.out], ?_, ?_, HG8.out, HB8.out⟩
                · have := HE.out
                  rw [List.append_assoc] at this
                  exact this
                · intro y hy
                  rcases List.mem_cons.1 hy with rfl | hy
                  · exact HLV.out
                  · exact HX.out y hy
    · obtain rfl : j = n := by omega
      have hfin : S.Perm L := by
        have := HP.out
        rwa [List.take_of_length_le (by omega)] at this
      have HF := Lib.hid hfin
      clear hfin
      go_wp2_with fail
      go_ret
      exact ⟨_, S, rfl, HF.out, HS.out, HO.out, HB.out⟩
end Go.Proofs.YtoacobcbloljkaaGreatDoor
