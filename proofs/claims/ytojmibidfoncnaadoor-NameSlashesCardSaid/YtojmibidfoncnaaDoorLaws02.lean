/-
  The walks of the laws of layer 2: each returns true and leaves what was there.
-/
import Derived.Test.YtojmibidfoncnaaDoorRef02
namespace Go.Proofs.YtojmibidfoncnaaDoor
open Go.RowKit

theorem add_zero_ (a : Addr) : a.add 0 = a := by unfold Addr.add; rw [if_pos rfl]

set_option maxHeartbeats 1000000 in
theorem awake02 (w : World) :
    Calls Tryd.prog 15 #[] w fun e w' => e = .returned (.bool true) ∧ Below w.heap.size w w' := by
  have hs := split_path ⟨#[47, 47, 97, 47, 46, 47, 98]⟩ w
  have hv : Nm.splitR (ByteArray.mk #[47, 47, 97, 47, 46, 47, 98]).toList = ([[97], [46], [98]], false, 0) := by rw [ByteArray.toList_eq]; decide
  rw [hv] at hs
  have hc : ∀ W, Calls Tryd.prog 13 #[.string ⟨#[46, 46]⟩] W fun e w' => e = .returned (.int .i64 10) ∧ Below W.heap.size W w' := fun W => by
    have h := check_any ⟨#[46, 46]⟩ W
    have hv : Nm.checkE (ByteArray.mk #[46, 46]).toList = 10 := by rw [ByteArray.toList_eq]; decide
    rw [hv] at h; exact h
  have HS := Lib.hid hs
  have HC := Lib.hid hc
  clear hs hc hv
  go_enter Tryd.func15, Tryd.ntmps15
  go_wp2_with fail
  refine (HS.out).mono ?_
  rintro e w1 ⟨v, rfl, hown, hb⟩
  obtain ⟨A, c, rfl⟩ := own_slice hown
  have hr := Rd.of_own hown
  obtain ⟨ad, b0, rfl, _, h0, hc0⟩ := hr.str_at (k := 0) (by decide)
  obtain ⟨_, b1, e1, _, h1, hc1⟩ := hr.str_at (k := 1) (by decide)
  obtain ⟨_, b2, e2, _, h2, hc2⟩ := hr.str_at (k := 2) (by decide)
  injection e1 with e1
  subst e1
  injection e2 with e2
  subst e2
  have g0 : (b0.toList == [97]) = true := by simpa using h0.symm
  have g1 : (b1.toList == [46]) = true := by simpa using h1.symm
  have g2 : (b2.toList == [98]) = true := by simpa using h2.symm
  rw [add_zero_] at hc0
  have hc1' : w1.cell? ⟨ad.block, ad.off + 1, none⟩ = _ := hc1
  have hc2' : w1.cell? ⟨ad.block, ad.off + 2, none⟩ = _ := hc2
  clear h0 h1 h2 hown hr
  go_wp2_with (go_at_call 13; refine (HC.out _).mono ?_; rintro e w2 ⟨rfl, hb2⟩)
  go_ret
  exact ⟨rfl, hb.trans (hb2.mono hb.size)⟩

set_option maxHeartbeats 1000000 in
theorem nameChecks_walk (s : ByteArray) (w : World) :
    Calls Tryd.prog 3 #[.string s] w fun e w' => e = .returned (.bool true) ∧ Below w.heap.size w w' := by
  have h1 := check_any s w
  have h2 := refCheck_any s
  generalize Nm.checkE s.toList = r at *
  have H1 := Lib.hid h1
  have H2 := Lib.hid h2
  have H3 := Lib.hid awake02
  clear h1 h2
  go_enter Tryd.func3, Tryd.ntmps3
  go_wp2_with fail
  refine (H1.out).mono ?_
  rintro e w1 ⟨rfl, hb1⟩
  go_wp2_with fail
  refine (H2.out _).mono ?_
  rintro e w2 ⟨rfl, rfl⟩
  go_wp2_with fail
  refine (H3.out _).mono ?_
  rintro e w2 ⟨rfl, hb2⟩
  go_wp2_with fail
  go_ret
  exact ⟨rfl, hb1.trans (hb2.mono hb1.size)⟩

/-- SameTexts of lists that are the same. -/
theorem same_yes (A B : Option Addr) (n m c d : Nat) (xs ys : List (List UInt8)) (w : World) (hA : Rd w 1 A n (txts xs)) (hB : Rd w 1 B m (txts ys)) (hn : n ≤ 1000) (he : xs = ys) :
    Calls Tryd.prog 18 #[.slice A n c, .slice B m d] w fun e w' => e = .returned (.bool true) ∧ Below w.heap.size w w' :=
  (sameTexts_any A B n m c d xs ys w hA hB (by unfold maxLen; omega)).mono fun e w' ⟨h1, q, h2⟩ => ⟨h1.trans (ret_bool (by simp [he])), by rw [h2]; exact below_drewN_ (Below.refl _ _) q⟩

set_option maxHeartbeats 1000000 in
theorem nameSplits_walk (s : ByteArray) (w : World) :
    Calls Tryd.prog 4 #[.string s] w fun e w' => e = .returned (.bool true) ∧ Below w.heap.size w w' := by
  have h1 := split_path s w
  have h2 := refSplit_any s
  have hl : (Nm.splitR s.toList).1.length ≤ 97 := Nm.splitR_len _
  generalize Nm.splitR s.toList = r at *
  have H1 := Lib.hid h1
  have H2 := Lib.hid h2
  have H3 := Lib.hid awake02
  clear h1 h2
  go_enter Tryd.func4, Tryd.ntmps4
  go_wp2_with fail
  refine (H1.out).mono ?_
  rintro e w1 ⟨v1, rfl, hown1, hb1⟩
  obtain ⟨A1, c1, rfl⟩ := own_slice hown1
  go_wp2_with fail
  refine (H2.out _).mono ?_
  rintro e w2 ⟨v2, rfl, hown2, hb2⟩
  obtain ⟨A2, c2, rfl⟩ := own_slice hown2
  have hsame := same_yes A1 A2 _ _ c1 c2 _ _ w2 ((Rd.of_own hown1).below hb2) (Rd.of_own hown2) (by omega) rfl
  clear hown1 hown2
  have HS := Lib.hid hsame
  clear hsame
  go_wp2_with fail
  refine (HS.out).mono ?_
  rintro e w3 ⟨rfl, hb3⟩
  go_wp2_with fail
  refine (H3.out _).mono ?_
  rintro e w4 ⟨rfl, hb4⟩
  go_wp2_with fail
  go_ret
  have h12 := hb1.trans (hb2.mono hb1.size)
  have h13 := h12.trans (hb3.mono h12.size)
  exact ⟨rfl, h13.trans (hb4.mono h13.size)⟩
set_option maxHeartbeats 1000000 in
theorem nameParents_walk (s : ByteArray) (w : World) :
    Calls Tryd.prog 6 #[.string s] w fun e w' => e = .returned (.bool true) ∧ Below w.heap.size w w' := by
  have h1 := parent_path s w
  have h2 := refParent_any s
  have hl : (Nm.parentR s.toList).1.length ≤ 97 := Nm.parentR_len _
  generalize Nm.parentR s.toList = r at *
  obtain ⟨ls, x, er⟩ := r
  obtain ⟨b, hb⟩ : ∃ b, txt x = .string b := ⟨_, rfl⟩
  simp only [hb] at h1 h2
  clear hb
  have H1 := Lib.hid h1
  have H2 := Lib.hid h2
  have H3 := Lib.hid awake02
  have hl' : ls.length ≤ 97 := hl
  clear h1 h2 hl
  go_enter Tryd.func6, Tryd.ntmps6
  go_wp2_with fail
  refine (H1.out).mono ?_
  rintro e w1 ⟨A1, rfl, hr1, _, hb1⟩
  go_wp2_with fail
  refine (H2.out _).mono ?_
  rintro e w2 ⟨A2, c2, rfl, hr2, hb2⟩
  have hsame := same_yes A1 A2 _ _ ls.length c2 _ _ w2 (hr1.below hb2) hr2 (by omega) rfl
  have HS := Lib.hid hsame
  clear hsame hr1 hr2
  go_wp2_with fail
  refine (HS.out).mono ?_
  rintro e w3 ⟨rfl, hb3⟩
  go_wp2_with fail
  refine (H3.out _).mono ?_
  rintro e w4 ⟨rfl, hb4⟩
  go_wp2_with fail
  go_ret
  have h12 := hb1.trans (hb2.mono hb1.size)
  have h13 := h12.trans (hb3.mono h12.size)
  exact ⟨rfl, h13.trans (hb4.mono h13.size)⟩

set_option maxHeartbeats 1000000 in
theorem nameTargets_walk (s : ByteArray) (w : World) :
    Calls Tryd.prog 8 #[.string s] w fun e w' => e = .returned (.bool true) ∧ Below w.heap.size w w' := by
  have h1 := target_text s w
  have h2 := refTarget_any s
  have hl : (Nm.targetR s.toList).1.length ≤ 97 := Nm.targetR_len _
  generalize Nm.targetR s.toList = r at *
  have H1 := Lib.hid h1
  have H2 := Lib.hid h2
  have H3 := Lib.hid awake02
  clear h1 h2
  go_enter Tryd.func8, Tryd.ntmps8
  go_wp2_with fail
  refine (H1.out).mono ?_
  rintro e w1 ⟨v1, rfl, hown1, hb1⟩
  obtain ⟨A1, c1, rfl⟩ := own_slice hown1
  go_wp2_with fail
  refine (H2.out _).mono ?_
  rintro e w2 ⟨v2, rfl, hown2, hb2⟩
  obtain ⟨A2, c2, rfl⟩ := own_slice hown2
  have hsame := same_yes A1 A2 _ _ c1 c2 _ _ w2 ((Rd.of_own hown1).below hb2) (Rd.of_own hown2) (by omega) rfl
  clear hown1 hown2
  have HS := Lib.hid hsame
  clear hsame
  go_wp2_with fail
  refine (HS.out).mono ?_
  rintro e w3 ⟨rfl, hb3⟩
  go_wp2_with fail
  refine (H3.out _).mono ?_
  rintro e w4 ⟨rfl, hb4⟩
  go_wp2_with fail
  go_ret
  have h12 := hb1.trans (hb2.mono hb1.size)
  have h13 := h12.trans (hb3.mono h12.size)
  exact ⟨rfl, h13.trans (hb4.mono h13.size)⟩
theorem elemTexts : Elem Tryd.prog 27 9 1 16 := Elem.mk_ Tryd.underlying27 info_str rfl (by decide)

set_option maxHeartbeats 1000000 in
theorem copyTexts_any (A : Option Addr) (n c : Nat) (ls : List (List UInt8)) (w : World) (hr : Rd w 1 A n (txts ls)) (hn : n ≤ 8796093022208) :
    Calls Tryd.prog 22 #[.slice A n c] w fun e w' => ∃ v, e = .returned v ∧ w'.ownsRow w.heap.size 9 1 v n (txts ls) ∧ Below w.heap.size w w' := by
  have H := Lib.hid hr
  clear hr
  go_enter Tryd.func22, Tryd.ntmps22
  go_wp2_with (at_builtin; refine wpList_append_rd rfl _ _ rfl elemTexts (v := .slice none 0 0) rfl (World.ownsRow_nil w w.heap.size 9 1) rfl H.out (txts_one _) ?c1 ?c2 (Nat.le_refl _) ?_; (case c1 => unfold maxLen; omega); (case c2 => omega); intro v' w' hown' hg' hb')
  go_ret
  refine ⟨_, rfl, by simpa using hown', (Below.refl _ _).grown hg' (Nat.le_refl _) (fun k hk => by cases hk)⟩

set_option maxHeartbeats 1000000 in
theorem nameTwo_walk (s : ByteArray) (w : World) :
    Calls Tryd.prog 10 #[.string s] w fun e w' => e = .returned (.bool true) ∧ Below w.heap.size w w' := by
  have h1 := split_path s w
  have h3 := Lib.hid awake02
  by_cases hok : (Nm.splitR s.toList).2.2 = 0
  · obtain ⟨hE, hlen, hlb, hhd, hz⟩ := Nm.splitR_ok hok
    have hT : Nm.targetR s.toList = (Nm.comps s.toList, true, Nm.dirB s.toList, 0) := by
      unfold Nm.targetR
      rw [if_neg (by omega), if_neg (by rintro (h | h); · rw [h] at hhd; cases hhd
                                        · rw [hz] at h; cases h), if_neg (by rw [hlb]; simp), hhd]
      rfl
    have h2 := target_text s
    rw [hE] at h1
    rw [hT] at h2
    have hcl : (Nm.comps s.toList).length ≤ 97 := Nat.le_trans (Nm.comps_length _) (by omega)
    obtain ⟨t, ht⟩ : ∃ t, s.toList = 47 :: t := by
      cases hl : s.toList with
      | nil => rw [hl] at hhd; cases hhd
      | cons c t => rw [hl] at hhd; simp only [List.head?_cons, Option.some.injEq] at hhd; rw [hhd]; exact ⟨t, rfl⟩
    have hsz : s.size = t.length + 1 := by rw [size_toList, ht]; rfl
    have hz' : t.contains 0 = false := by rw [ht] at hz; simp at hz ⊢; exact hz
    have hcs : Nm.comps t = Nm.comps s.toList := by rw [ht, Nm.comps_slash]
    have hlb' : Nm.longB t = false := by rw [← hlb]; unfold Nm.longB; rw [hcs]
    have htl : (s.extract 1 s.size).toList = t := by rw [extract_list, ht]; simp [hsz]
    have g1 := split_path (s.extract 1 s.size)
    have g2 := target_text (s.extract 1 s.size)
    rw [htl] at g1 g2
    have H1 := Lib.hid h1
    have H2 := Lib.hid h2
    have hg : (∃ d, t = 47 :: d) ∨ t = [] ∨ (∃ c d, t = c :: d ∧ c ≠ 47) := by
      cases t with
      | nil => exact .inr (.inl rfl)
      | cons c d =>
        by_cases hc : c = 47
        · subst hc; exact .inl ⟨d, rfl⟩
        · exact .inr (.inr ⟨c, d, rfl, hc⟩)
    rcases hg with ⟨d, rfl⟩ | rfl | ⟨c, d, rfl, hc⟩
    · have hs1 : 1 < s.size := by rw [hsz]; simp
      have h2s : 2 ≤ (s.size : Int) := by omega
      have hq : (((s[1]'hs1).toNat : Int) == 47) = true := by
        have := get_list s 1 hs1
        rw [ht] at this
        simp only [List.getElem?_cons_succ, List.getElem?_cons_zero, Option.some.injEq] at this
        rw [← this]; rfl
      generalize Nm.comps s.toList = cs at *
      generalize Nm.dirB s.toList = db at *
      clear h1 h2 hE hT hok hhd hz ht hsz hcs hlb hlb' htl hz' g1 g2
      go_enter Tryd.func10, Tryd.ntmps10
      go_wp2_with fail
      refine (H1.out).mono ?_
      rintro e w1 ⟨v1, rfl, hown1, hb1⟩
      obtain ⟨A1, c1, rfl⟩ := own_slice hown1
      go_wp2_with fail
      refine (H2.out _).mono ?_
      rintro e w2 ⟨v2, rfl, hown2, hb2⟩
      obtain ⟨A2, c2, rfl⟩ := own_slice hown2
      have hsame := same_yes A1 A2 _ _ c1 c2 _ _ w2 ((Rd.of_own hown1).below hb2) (Rd.of_own hown2) (by omega) rfl
      clear hown1 hown2
      have HS := Lib.hid hsame
      clear hsame
      go_wp2_with fail
      refine (HS.out).mono ?_
      rintro e w3 ⟨rfl, hb3⟩
      go_wp2_with fail
      refine (h3.out _).mono ?_
      rintro e w4 ⟨rfl, hb4⟩
      go_wp2_with fail
      go_ret
      have h12 := hb1.trans (hb2.mono hb1.size)
      have h13 := h12.trans (hb3.mono h12.size)
      exact ⟨rfl, h13.trans (hb4.mono h13.size)⟩
    · have h2s : (s.size : Int) < 2 := by rw [hsz]; simp
      generalize Nm.comps s.toList = cs at *
      generalize Nm.dirB s.toList = db at *
      clear h1 h2 hE hT hok hhd hz ht hsz hcs hlb hlb' htl hz' g1 g2
      go_enter Tryd.func10, Tryd.ntmps10
      go_wp2_with fail
      refine (H1.out).mono ?_
      rintro e w1 ⟨v1, rfl, hown1, hb1⟩
      obtain ⟨A1, c1, rfl⟩ := own_slice hown1
      go_wp2_with fail
      refine (H2.out _).mono ?_
      rintro e w2 ⟨v2, rfl, hown2, hb2⟩
      obtain ⟨A2, c2, rfl⟩ := own_slice hown2
      have hsame := same_yes A1 A2 _ _ c1 c2 _ _ w2 ((Rd.of_own hown1).below hb2) (Rd.of_own hown2) (by omega) rfl
      clear hown1 hown2
      have HS := Lib.hid hsame
      clear hsame
      go_wp2_with fail
      refine (HS.out).mono ?_
      rintro e w3 ⟨rfl, hb3⟩
      go_wp2_with fail
      refine (h3.out _).mono ?_
      rintro e w4 ⟨rfl, hb4⟩
      go_wp2_with fail
      go_ret
      have h12 := hb1.trans (hb2.mono hb1.size)
      have h13 := h12.trans (hb3.mono h12.size)
      exact ⟨rfl, h13.trans (hb4.mono h13.size)⟩
    · have hs1 : 1 < s.size := by rw [hsz]; simp
      have h2s : 2 ≤ (s.size : Int) := by omega
      have hq : (((s[1]'hs1).toNat : Int) == 47) = false := by
        have := get_list s 1 hs1
        rw [ht] at this
        simp only [List.getElem?_cons_succ, List.getElem?_cons_zero, Option.some.injEq] at this
        rw [← this, beq_eq_false_iff_ne]
        intro e
        refine hc ?_
        rw [← UInt8.toNat_inj]
        have : (47 : UInt8).toNat = 47 := rfl
        omega
      have hS2 : Nm.splitR (c :: d) = ([], false, 12) := by
        unfold Nm.splitR
        have hl : ¬ 96 < (c :: d).length := by rw [ht] at hlen; simp at hlen ⊢; omega
        rw [if_neg hl, if_pos (.inl (by simpa using hc))]
      have hT2 : Nm.targetR (c :: d) = (Nm.comps s.toList, false, Nm.dirB s.toList, 0) := by
        unfold Nm.targetR
        have hl : ¬ 96 < (c :: d).length := by rw [ht] at hlen; simp at hlen ⊢; omega
        have hd : Nm.dirB (c :: d) = Nm.dirB s.toList := by
          unfold Nm.dirB
          rw [hcs, ht]
          rfl
        rw [if_neg hl, if_neg (fun h => h.elim (by simp) (fun h => by rw [hz'] at h; cases h)), if_neg (by rw [hlb']; simp), hcs, hd]
        simp [hc]
      rw [hS2] at g1
      rw [hT2] at g2
      have G1 := Lib.hid g1
      have G2 := Lib.hid g2
      clear hS2 hT2
      generalize Nm.comps s.toList = cs at *
      generalize Nm.dirB s.toList = db at *
      clear h1 h2 hE hT hok hhd hz ht hsz hcs hlb hlb' htl hz' g1 g2
      go_enter Tryd.func10, Tryd.ntmps10
      go_wp2_with fail
      refine (H1.out).mono ?_
      rintro e w1 ⟨v1, rfl, hown1, hb1⟩
      obtain ⟨A1, c1, rfl⟩ := own_slice hown1
      go_wp2_with fail
      refine (H2.out _).mono ?_
      rintro e w2 ⟨v2, rfl, hown2, hb2⟩
      obtain ⟨A2, c2, rfl⟩ := own_slice hown2
      have hrd1 := (Rd.of_own hown1).below hb2
      have hsame := same_yes A1 A2 _ _ c1 c2 _ _ w2 hrd1 (Rd.of_own hown2) (by omega) rfl
      clear hown1 hown2
      have HR := Lib.hid hrd1
      have HS := Lib.hid hsame
      clear hsame hrd1
      go_wp2_with fail
      refine (HS.out).mono ?_
      rintro e w3 ⟨rfl, hb3⟩
      go_wp2_with fail
      refine (G1.out _).mono ?_
      rintro e w4 ⟨v4, rfl, _, hb4⟩
      go_wp2_with fail
      refine (G2.out _).mono ?_
      rintro e w5 ⟨v5, rfl, hown5, hb5⟩
      obtain ⟨A5, c5, rfl⟩ := own_slice hown5
      have hsame := same_yes A1 A5 _ _ c1 c5 _ _ w5 (((HR.out.below hb3).below hb4).below hb5) (Rd.of_own hown5) (by omega) rfl
      clear hown5
      have HS5 := Lib.hid hsame
      clear hsame
      go_wp2_with fail
      refine (HS5.out).mono ?_
      rintro e w6 ⟨rfl, hb6⟩
      go_wp2_with fail
      refine (h3.out _).mono ?_
      rintro e w7 ⟨rfl, hb7⟩
      go_wp2_with fail
      go_ret
      have h12 := hb1.trans (hb2.mono hb1.size)
      have h13 := h12.trans (hb3.mono h12.size)
      have h14 := h13.trans (hb4.mono h13.size)
      have h15 := h14.trans (hb5.mono h14.size)
      have h16 := h15.trans (hb6.mono h15.size)
      exact ⟨rfl, h16.trans (hb7.mono h16.size)⟩
  · have hb : ((Nm.splitR s.toList).2.2 == 0) = false := beq_eq_false_iff_ne.2 hok
    generalize Nm.splitR s.toList = r at *
    have H1 := Lib.hid h1
    clear h1 hok
    go_enter Tryd.func10, Tryd.ntmps10
    go_wp2_with fail
    refine (H1.out).mono ?_
    rintro e w1 ⟨v1, rfl, hown1, hb1⟩
    have HO := Lib.hid hown1
    clear hown1
    go_wp2_with fail
    refine (h3.out _).mono ?_
    rintro e w2 ⟨rfl, hb2⟩
    go_wp2_with fail
    go_ret
    exact ⟨rfl, hb1.trans (hb2.mono hb1.size)⟩
end Go.Proofs.YtojmibidfoncnaaDoor
