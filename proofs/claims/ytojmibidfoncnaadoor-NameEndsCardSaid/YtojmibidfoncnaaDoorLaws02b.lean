/-
  The walk of NameEnds.
-/
import Derived.Test.YtojmibidfoncnaaDoorLaws02
namespace Go.Proofs.YtojmibidfoncnaaDoor
open Go.RowKit

set_option maxHeartbeats 1000000 in
theorem nameEnds_walk (s : ByteArray) (w : World) :
    Calls Tryd.prog 7 #[.string s] w fun e w' => e = .returned (.bool true) ∧ Below w.heap.size w w' := by
  have h1 := split_path s
  have h2 := parent_path s w
  have h3 := Lib.hid awake02
  by_cases hok : (Nm.splitR s.toList).2.2 = 0
  · obtain ⟨hE, hlen, hlb, hhd, hz⟩ := Nm.splitR_ok hok
    have hP := Nm.parentR_ok hok
    have hcl : (Nm.comps s.toList).length ≤ 97 := Nat.le_trans (Nm.comps_length _) (by omega)
    rw [hE] at h1
    have H1 := Lib.hid h1
    clear h1
    by_cases hlast : ∃ x, (Nm.comps s.toList).getLast? = some x ∧ Nm.dotsB x = false
    · obtain ⟨x, hx, hdx⟩ := hlast
      have hpos : 0 < (Nm.comps s.toList).length := by
        cases hc : Nm.comps s.toList with
        | nil => rw [hc] at hx; cases hx
        | cons => simp
      obtain ⟨m, hm⟩ : ∃ m, (Nm.comps s.toList).length = m + 1 := ⟨(Nm.comps s.toList).length - 1, by omega⟩
      have hP' : Nm.parentR s.toList = ((Nm.comps s.toList).dropLast, x, 0) := by rw [hP, hx]; simp [hdx]
      have hck : Nm.checkE x = 0 := Nm.checkE_comp (List.mem_of_getLast? hx) hlb hz hdx
      have hP2 : s.toList.length < 96 → Nm.parentR (s.toList ++ [47]) = ((Nm.comps s.toList).dropLast, x, 0) := by
        intro h
        have hs := Nm.splitR_end hok h
        rw [Nm.parentR_ok (by rw [hs]), Nm.comps_end, hx]
        simp [hdx]
      have hdl : (Nm.comps s.toList).dropLast.length = m := by rw [List.length_dropLast, hm]; rfl
      have hjoin : (Nm.comps s.toList).dropLast ++ [x] = Nm.comps s.toList := by
        obtain ⟨ys, hy⟩ := List.getLast?_eq_some_iff.1 hx
        rw [hy, List.dropLast_concat]
      have h2b := parent_path (s ++ ⟨#[47]⟩)
      have happ : (s ++ ⟨#[47]⟩).toList = s.toList ++ [47] := by rw [ByteArray.toList_eq, ByteArray.toList_eq]; simp
      rw [happ] at h2b
      obtain ⟨b, rfl⟩ : ∃ b : ByteArray, x = b.toList := ⟨⟨x.toArray⟩, (toList_mk x).symm⟩
      rw [hP'] at h2
      simp only [txt_toList, hdl] at h2
      have hck' := check_any b
      rw [hck] at hck'
      have HCK := Lib.hid hck'
      have H2 := Lib.hid h2
      have H1' := H1.out
      rw [hm] at H1'
      have H1 := Lib.hid H1'
      have hsz := size_toList s
      have hj2 : txts (Nm.comps s.toList).dropLast ++ [Value.string b] = txts (Nm.comps s.toList) := by rw [← hjoin, txts_append, List.dropLast_concat]; simp [txts, txt_toList]
      have hm97 : m ≤ 96 := by omega
      generalize Nm.dirB s.toList = db at *
      clear H1' hck hck' h2 hP hP' hE hlb hhd hz hcl hx hdx hpos hok happ hjoin
      have HJ2 := Lib.hid hj2
      have HDL := Lib.hid hdl
      have HM := Lib.hid hm
      clear hj2 hdl hm
      by_cases h96 : s.size = 96
      · have hq : ((s.size : Int) == 96) = true := by rw [beq_iff_eq]; omega
        clear h2b hP2 h96 hlen hsz
        go_enter Tryd.func7, Tryd.ntmps7
        go_wp2_with fail
        refine (H2.out).mono ?_
        rintro e w1 ⟨A1, rfl, hr1, _, hb1⟩
        have HR1 := Lib.hid hr1
        clear hr1
        go_wp2_with fail
        refine (H1.out _).mono ?_
        rintro e w2 ⟨v2, rfl, hown2, hb2⟩
        obtain ⟨A2, c2, rfl⟩ := own_slice hown2
        have HO2 := Lib.hid hown2
        clear hown2
        go_wp2_with fail
        refine (HCK.out _).mono ?_
        rintro e w3 ⟨rfl, hb3⟩
        go_wp2_with fail
        refine (copyTexts_any A1 m m _ w3 ((HR1.out.below hb2).below hb3) (by omega)).mono ?_
        rintro e w4 ⟨v4, rfl, hown4, hb4⟩
        have HO4 := Lib.hid hown4
        clear hown4
        go_wp2_with (at_builtin; refine wpList_append_rd rfl (.tmp 75) (.tmp 77) rfl elemTexts (v := v4) (c := 1) rfl (HO4.out.alloc _) rfl (rd_lit w4 9 [.string b] 1 rfl) ?c1 ?c2 ?c3 ?c4 ?_; (case c1 => intro u hu; simp only [List.mem_singleton] at hu; subst hu; rfl); (case c2 => unfold maxLen; omega); (case c3 => omega); (case c4 => simp; have := hb4.size; omega); intro v5 w5 hown5 hg5 hb5)
        obtain ⟨A5, c5, rfl⟩ := own_slice hown5
        have hb35 : Below w3.heap.size w3 w5 := (hb4.alloc hb4.size _).grown hg5 (by simp; have := hb4.size; omega) (fun j hj => (HO4.out.lt j hj).1)
        rw [HJ2.out] at hown5
        have hr5 := Rd.of_own hown5
        have hr2 := ((Rd.of_own HO2.out).below hb3).below hb35
        have hsame := same_yes A5 A2 _ _ c5 c2 _ _ w5 hr5 hr2 (by omega) rfl
        have HS := Lib.hid hsame
        clear hsame hr5 hr2 hown5 hg5 hb5
        go_wp2_with fail
        refine (HS.out).mono ?_
        rintro e w6 ⟨rfl, hb6⟩
        go_wp2_with fail
        refine (h3.out _).mono ?_
        rintro e w7 ⟨rfl, hb7⟩
        go_wp2_with fail
        go_ret
        have h12 := hb1.trans (hb2.mono hb1.size)
        have h13 := h12.trans (hb3.mono h12.size)
        have h15 := h13.trans (hb35.mono h13.size)
        have h16 := h15.trans (hb6.mono h15.size)
        exact ⟨rfl, h16.trans (hb7.mono h16.size)⟩
      · have hq : ((s.size : Int) == 96) = false := by rw [beq_eq_false_iff_ne]; omega
        have hs96 : s.size < 96 := by omega
        have h2c : ∀ W, Calls Tryd.prog 20 #[.string (s ++ ⟨#[47]⟩)] W fun e w' => ∃ A, e = .returned (.tuple #[.slice A m m, .string b, .int .i64 0]) ∧
            Rd w' 1 A m (txts (Nm.comps s.toList).dropLast) ∧ (∀ ad, A = some ad → W.heap.size ≤ ad.block) ∧ Below W.heap.size W w' := by
          intro W
          have h := h2b W
          rw [hP2 (by omega)] at h
          simp only [txt_toList, HDL.out] at h
          exact h
        have H2C := Lib.hid h2c
        clear h2b hP2 h96 hlen hsz h2c
        go_enter Tryd.func7, Tryd.ntmps7
        go_wp2_with fail
        refine (H2.out).mono ?_
        rintro e w1 ⟨A1, rfl, hr1, _, hb1⟩
        have HR1 := Lib.hid hr1
        clear hr1
        go_wp2_with fail
        refine (H1.out _).mono ?_
        rintro e w2 ⟨v2, rfl, hown2, hb2⟩
        obtain ⟨A2, c2, rfl⟩ := own_slice hown2
        have HO2 := Lib.hid hown2
        clear hown2
        go_wp2_with fail
        refine (HCK.out _).mono ?_
        rintro e w3 ⟨rfl, hb3⟩
        go_wp2_with fail
        refine (copyTexts_any A1 m m _ w3 ((HR1.out.below hb2).below hb3) (by omega)).mono ?_
        rintro e w4 ⟨v4, rfl, hown4, hb4⟩
        have HO4 := Lib.hid hown4
        clear hown4
        go_wp2_with (at_builtin; refine wpList_append_rd rfl (.tmp 75) (.tmp 77) rfl elemTexts (v := v4) (c := 1) rfl (HO4.out.alloc _) rfl (rd_lit w4 9 [.string b] 1 rfl) ?c1 ?c2 ?c3 ?c4 ?_; (case c1 => intro u hu; simp only [List.mem_singleton] at hu; subst hu; rfl); (case c2 => unfold maxLen; omega); (case c3 => omega); (case c4 => simp; have := hb4.size; omega); intro v5 w5 hown5 hg5 hb5)
        obtain ⟨A5, c5, rfl⟩ := own_slice hown5
        have hb35 : Below w3.heap.size w3 w5 := (hb4.alloc hb4.size _).grown hg5 (by simp; have := hb4.size; omega) (fun j hj => (HO4.out.lt j hj).1)
        rw [HJ2.out] at hown5
        have hr5 := Rd.of_own hown5
        have hr2 := ((Rd.of_own HO2.out).below hb3).below hb35
        have HR2 := Lib.hid hr2
        have hsame := same_yes A5 A2 _ _ c5 c2 _ _ w5 hr5 hr2 (by omega) rfl
        have HS := Lib.hid hsame
        clear hsame hr5 hr2 hown5 hg5 hb5
        go_wp2_with fail
        refine (HS.out).mono ?_
        rintro e w6 ⟨rfl, hb6⟩
        go_wp2_with fail
        refine (H2C.out _).mono ?_
        rintro e w7 ⟨A7, rfl, hr7, hf7, hb7⟩
        have HR7 := Lib.hid hr7
        clear hr7 hf7
        go_wp2_with (at_builtin; refine wpList_append_full rfl (.tmp 102) (.tmp 104) rfl elemTexts (c := 1) rfl (HR7.out.alloc _) rfl (news := [.string b]) (m := 1) rfl (cell_one_new _ _ _) ?c1 (by decide) ?c2 ?c3 ?_; (case c1 => intro u hu; simp only [List.mem_singleton] at hu; subst hu; rfl); (case c2 => unfold maxLen; omega); (case c3 => omega); intro v8 w8 hown8 hg8)
        obtain ⟨A8, c8, rfl⟩ := own_slice hown8
        have hb78 : Below w7.heap.size w7 w8 := ((Below.refl _ _).alloc (Nat.le_refl _) _).grown hg8 (by simp) (fun j hj => by cases hj)
        rw [HJ2.out] at hown8
        have hsame := same_yes A8 A2 _ _ c8 c2 _ _ w8 (Rd.of_own hown8) (((HR2.out.below hb6).below hb7).below hb78) (by omega) rfl
        have HS8 := Lib.hid hsame
        clear hsame hown8 hg8
        go_wp2_with fail
        refine (HS8.out).mono ?_
        rintro e w9 ⟨rfl, hb9⟩
        go_wp2_with fail
        refine (h3.out _).mono ?_
        rintro e w10 ⟨rfl, hb10⟩
        go_wp2_with fail
        go_ret
        have h12 := hb1.trans (hb2.mono hb1.size)
        have h13 := h12.trans (hb3.mono h12.size)
        have h15 := h13.trans (hb35.mono h13.size)
        have h16 := h15.trans (hb6.mono h15.size)
        have h17 := h16.trans (hb7.mono h16.size)
        have h18 := h17.trans (hb78.mono h17.size)
        have h19 := h18.trans (hb9.mono h18.size)
        exact ⟨rfl, h19.trans (hb10.mono h19.size)⟩
    · have hP' : Nm.parentR s.toList = ([], [], 10) := by
        rw [hP]
        cases hl : (Nm.comps s.toList).getLast? with
        | none => rfl
        | some x =>
          cases hx : Nm.dotsB x with
          | true => simp [hx]
          | false => exact absurd ⟨x, hl, hx⟩ hlast
      rw [hP'] at h2
      simp only [show txt [] = .string ⟨#[]⟩ from rfl] at h2
      have H2 := Lib.hid h2
      clear h2
      have hlen0 : ¬ 0 < (Nm.comps s.toList).length ∨ 0 < (Nm.comps s.toList).length := by omega
      rcases hlen0 with h0 | h0
      · have hcs : Nm.comps s.toList = [] := List.eq_nil_of_length_eq_zero (by omega)
        have H1' := H1.out
        rw [hcs] at H1'
        have H1 := Lib.hid H1'
        generalize Nm.dirB s.toList = db at *
        clear hP hP' hE hok hlen hlb hhd hz hlast hcs h0 H1'
        go_enter Tryd.func7, Tryd.ntmps7
        go_wp2_with fail
        refine (H2.out).mono ?_
        rintro e w1 ⟨A1, rfl, hr1, _, hb1⟩
        have HR1 := Lib.hid hr1
        clear hr1
        go_wp2_with fail
        refine (H1.out _).mono ?_
        rintro e w2 ⟨v2, rfl, hown2, hb2⟩
        obtain ⟨A2, c2, rfl⟩ := own_slice hown2
        have HO2 := Lib.hid hown2
        clear hown2
        go_wp2_with fail
        refine (h3.out _).mono ?_
        rintro e w3 ⟨rfl, hb3⟩
        go_wp2_with fail
        go_ret
        have h12 := hb1.trans (hb2.mono hb1.size)
        exact ⟨rfl, h12.trans (hb3.mono h12.size)⟩
      · obtain ⟨m, hm⟩ : ∃ m, (Nm.comps s.toList).length = m + 1 := ⟨(Nm.comps s.toList).length - 1, by omega⟩
        obtain ⟨x, hx⟩ : ∃ x, (Nm.comps s.toList)[m]? = some x := ⟨_, List.getElem?_eq_getElem (by omega)⟩
        have hck : Nm.checkE x = 10 := by
          have hd : Nm.dotsB x = true := by
            cases hd : Nm.dotsB x with
            | true => rfl
            | false => exact absurd ⟨_, by rw [List.getLast?_eq_getElem?, hm]; exact hx, hd⟩ hlast
          unfold Nm.checkE
          rw [if_neg, if_pos (.inr (.inl hd))]
          unfold Nm.dotsB at hd
          simp only [Bool.or_eq_true, beq_iff_eq] at hd
          rcases hd with hd | hd <;> rw [hd] <;> simp
        have H1' := H1.out
        rw [hm] at H1'
        have H1 := Lib.hid H1'
        generalize Nm.comps s.toList = cs at *
        generalize Nm.dirB s.toList = db at *
        have HX := Lib.hid hx
        have HC := Lib.hid hck
        have hm97 : m ≤ 96 := by omega
        have HM := Lib.hid hm
        clear hP hP' hE hok hlen hlb hhd hz hlast h0 H1' hx hck hcl hm
        go_enter Tryd.func7, Tryd.ntmps7
        go_wp2_with fail
        refine (H2.out).mono ?_
        rintro e w1 ⟨A1, rfl, hr1, _, hb1⟩
        have HR1 := Lib.hid hr1
        clear hr1
        go_wp2_with fail
        refine (H1.out _).mono ?_
        rintro e w2 ⟨v2, rfl, hown2, hb2⟩
        obtain ⟨A2, c2, rfl⟩ := own_slice hown2
        obtain ⟨ad, b, rfl, _, hxb, hc⟩ := (Rd.of_own hown2).str_at (k := m) (by omega)
        obtain rfl : x = b.toList := by have := HX.out; rw [this] at hxb; injection hxb
        have hck := check_any b
        rw [HC.out] at hck
        have HCK := Lib.hid hck
        have HO2 := Lib.hid hown2
        have hz0 : (((m : Int) + 1) == 0) = false := beq_eq_false_iff_ne.2 (by omega)
        clear hown2 hxb hck
        go_wp2_with fail
        refine (HCK.out _).mono ?_
        rintro e w3 ⟨rfl, hb3⟩
        go_wp2_with fail
        refine (h3.out _).mono ?_
        rintro e w4 ⟨rfl, hb4⟩
        go_wp2_with fail
        go_ret
        have h12 := hb1.trans (hb2.mono hb1.size)
        have h13 := h12.trans (hb3.mono h12.size)
        exact ⟨rfl, h13.trans (hb4.mono h13.size)⟩
  · have hP : Nm.parentR s.toList = ([], [], (Nm.splitR s.toList).2.2) := by unfold Nm.parentR; rw [if_pos hok]
    rw [hP] at h2
    have hb : ((Nm.splitR s.toList).2.2 == 0) = false := beq_eq_false_iff_ne.2 hok
    generalize Nm.splitR s.toList = r at *
    obtain ⟨ls, db, er⟩ := r
    simp only [show txt [] = .string ⟨#[]⟩ from rfl] at h2
    have H1 := Lib.hid h1
    have H2 := Lib.hid h2
    clear h1 h2 hok hP
    go_enter Tryd.func7, Tryd.ntmps7
    go_wp2_with fail
    refine (H2.out).mono ?_
    rintro e w1 ⟨A1, rfl, hr1, _, hb1⟩
    have HR1 := Lib.hid hr1
    clear hr1
    go_wp2_with fail
    refine (H1.out _).mono ?_
    rintro e w2 ⟨v2, rfl, hown2, hb2⟩
    have HO2 := Lib.hid hown2
    clear hown2
    go_wp2_with fail
    refine (h3.out _).mono ?_
    rintro e w3 ⟨rfl, hb3⟩
    go_wp2_with fail
    go_ret
    have h12 := hb1.trans (hb2.mono hb1.size)
    exact ⟨rfl, h12.trans (hb3.mono h12.size)⟩
end Go.Proofs.YtojmibidfoncnaaDoor
