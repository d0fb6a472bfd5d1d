/-
  The walks of the laws of layer 2: each returns true and leaves what was there.
-/
import Derived.Test.YtojmibidfoncnaaDoorRef02
namespace Go.Proofs.YtojmibidfoncnaaDoor
open Go.RowKit

theorem add_zero_ (a : Addr) : a.add 0 = a := by unfold Addr.add; rw [if_pos rfl]

set_option maxHeartbeats 1000000 in
theorem awake02 (w : World) :
    Calls Tryd.prog 15 #[] w fun e w' => e = .returned (.bool true) ∧ Below w.heap.size w w' := by
  have hs := split_path ⟨#[47, 47, 97, 47, 46, 47, 98]⟩ w
  have hv : Nm.splitR (ByteArray.mk #[47, 47, 97, 47, 46, 47, 98]).toList = ([[97], [46], [98]], false, 0) := by rw [ByteArray.toList_eq]; decide
  rw [hv] at hs
  have hc : ∀ W, Calls Tryd.prog 13 #[.string ⟨#[46, 46]⟩] W fun e w' => e = .returned (.int .i64 10) ∧ Below W.heap.size W w' := fun W => by
    have h := check_any ⟨#[46, 46]⟩ W
    have hv : Nm.checkE (ByteArray.mk #[46, 46]).toList = 10 := by rw [ByteArray.toList_eq]; decide
    rw [hv] at h; exact h
  have HS := Lib.hid hs
  have HC := Lib.hid hc
  clear hs hc hv
  go_enter Tryd.func15, Tryd.ntmps15
  go_wp2_with fail
  refine (HS.out).mono ?_
  rintro e w1 ⟨v, rfl, hown, hb⟩
  obtain ⟨A, c, rfl⟩ := own_slice hown
  have hr := Rd.of_own hown
  obtain ⟨ad, b0, rfl, _, h0, hc0⟩ := hr.str_at (k := 0) (by decide)
  obtain ⟨_, b1, e1, _, h1, hc1⟩ := hr.str_at (k := 1) (by decide)
  obtain ⟨_, b2, e2, _, h2, hc2⟩ := hr.str_at (k := 2) (by decide)
  injection e1 with e1
  subst e1
  injection e2 with e2
  subst e2
  have g0 : (b0.toList == [97]) = true := by simpa using h0.symm
  have g1 : (b1.toList == [46]) = true := by simpa using h1.symm
  have g2 : (b2.toList == [98]) = true := by simpa using h2.symm
  rw [add_zero_] at hc0
  have hc1' : w1.cell? ⟨ad.block, ad.off + 1, none⟩ = _ := hc1
  have hc2' : w1.cell? ⟨ad.block, ad.off + 2, none⟩ = _ := hc2
  clear h0 h1 h2 hown hr
  go_wp2_with (go_at_call 13; refine (HC.out _).mono ?_; rintro e w2 ⟨rfl, hb2⟩)
  go_ret
  exact ⟨rfl, hb.trans (hb2.mono hb.size)⟩

set_option maxHeartbeats 1000000 in
theorem nameChecks_walk (s : ByteArray) (w : World) :
    Calls Tryd.prog 3 #[.string s] w fun e w' => e = .returned (.bool true) ∧ Below w.heap.size w w' := by
  have h1 := check_any s w
  have h2 := refCheck_any s
  generalize Nm.checkE s.toList = r at *
  have H1 := Lib.hid h1
  have H2 := Lib.hid h2
  have H3 := Lib.hid awake02
  clear h1 h2
  go_enter Tryd.func3, Tryd.ntmps3
  go_wp2_with fail
  refine (H1.out).mono ?_
  rintro e w1 ⟨rfl, hb1⟩
  go_wp2_with fail
  refine (H2.out _).mono ?_
  rintro e w2 ⟨rfl, rfl⟩
  go_wp2_with fail
  refine (H3.out _).mono ?_
  rintro e w2 ⟨rfl, hb2⟩
  go_wp2_with fail
  go_ret
  exact ⟨rfl, hb1.trans (hb2.mono hb1.size)⟩

/-- SameTexts of lists that are the same. -/
theorem same_yes (A B : Option Addr) (n m c d : Nat) (xs ys : List (List UInt8)) (w : World) (hA : Rd w 1 A n (txts xs)) (hB : Rd w 1 B m (txts ys)) (hn : n ≤ 1000) (he : xs = ys) :
    Calls Tryd.prog 18 #[.slice A n c, .slice B m d] w fun e w' => e = .returned (.bool true) ∧ Below w.heap.size w w' :=
  (sameTexts_any A B n m c d xs ys w hA hB (by unfold maxLen; omega)).mono fun e w' ⟨h1, q, h2⟩ => ⟨h1.trans (ret_bool (by simp [he])), by rw [h2]; exact below_drewN_ (Below.refl _ _) q⟩

set_option maxHeartbeats 1000000 in
theorem nameSplits_walk (s : ByteArray) (w : World) :
    Calls Tryd.prog 4 #[.string s] w fun e w' => e = .returned (.bool true) ∧ Below w.heap.size w w' := by
  have h1 := split_path s w
  have h2 := refSplit_any s
  have hl : (Nm.splitR s.toList).1.length ≤ 97 := Nm.splitR_len _
  generalize Nm.splitR s.toList = r at *
  have H1 := Lib.hid h1
  have H2 := Lib.hid h2
  have H3 := Lib.hid awake02
  clear h1 h2
  go_enter Tryd.func4, Tryd.ntmps4
  go_wp2_with fail
  refine (H1.out).mono ?_
  rintro e w1 ⟨v1, rfl, hown1, hb1⟩
  obtain ⟨A1, c1, rfl⟩ := own_slice hown1
  go_wp2_with fail
  refine (H2.out _).mono ?_
  rintro e w2 ⟨v2, rfl, hown2, hb2⟩
  obtain ⟨A2, c2, rfl⟩ := own_slice hown2
  have hsame := same_yes A1 A2 _ _ c1 c2 _ _ w2 ((Rd.of_own hown1).below hb2) (Rd.of_own hown2) (by omega) rfl
  clear hown1 hown2
  have HS := Lib.hid hsame
  clear hsame
  go_wp2_with fail
  refine (HS.out).mono ?_
  rintro e w3 ⟨rfl, hb3⟩
  go_wp2_with fail
  refine (H3.out _).mono ?_
  rintro e w4 ⟨rfl, hb4⟩
  go_wp2_with fail
  go_ret
  have h12 := hb1.trans (hb2.mono hb1.size)
  have h13 := h12.trans (hb3.mono h12.size)
  exact ⟨rfl, h13.trans (hb4.mono h13.size)⟩
set_option maxHeartbeats 1000000 in
theorem nameParents_walk (s : ByteArray) (w : World) :
    Calls Tryd.prog 6 #[.string s] w fun e w' => e = .returned (.bool true) ∧ Below w.heap.size w w' := by
  have h1 := parent_path s w
  have h2 := refParent_any s
  have hl : (Nm.parentR s.toList).1.length ≤ 97 := Nm.parentR_len _
  generalize Nm.parentR s.toList = r at *
  obtain ⟨ls, x, er⟩ := r
  obtain ⟨b, hb⟩ : ∃ b, txt x = .string b := ⟨_, rfl⟩
  simp only [hb] at h1 h2
  clear hb
  have H1 := Lib.hid h1
  have H2 := Lib.hid h2
  have H3 := Lib.hid awake02
  have hl' : ls.length ≤ 97 := hl
  clear h1 h2 hl
  go_enter Tryd.func6, Tryd.ntmps6
  go_wp2_with fail
  refine (H1.out).mono ?_
  rintro e w1 ⟨A1, rfl, hr1, _, hb1⟩
  go_wp2_with fail
  refine (H2.out _).mono ?_
  rintro e w2 ⟨A2, c2, rfl, hr2, hb2⟩
  have hsame := same_yes A1 A2 _ _ ls.length c2 _ _ w2 (hr1.below hb2) hr2 (by omega) rfl
  have HS := Lib.hid hsame
  clear hsame hr1 hr2
  go_wp2_with fail
  refine (HS.out).mono ?_
  rintro e w3 ⟨rfl, hb3⟩
  go_wp2_with fail
  refine (H3.out _).mono ?_
  rintro e w4 ⟨rfl, hb4⟩
  go_wp2_with fail
  go_ret
  have h12 := hb1.trans (hb2.mono hb1.size)
  have h13 := h12.trans (hb3.mono h12.size)
  exact ⟨rfl, h13.trans (hb4.mono h13.size)⟩

set_option maxHeartbeats 1000000 in
theorem nameTargets_walk (s : ByteArray) (w : World) :
    Calls Tryd.prog 8 #[.string s] w fun e w' => e = .returned (.bool true) ∧ Below w.heap.size w w' := by
  have h1 := target_text s w
  have h2 := refTarget_any s
  have hl : (Nm.targetR s.toList).1.length ≤ 97 := Nm.targetR_len _
  generalize Nm.targetR s.toList = r at *
  have H1 := Lib.hid h1
  have H2 := Lib.hid h2
  have H3 := Lib.hid awake02
  clear h1 h2
  go_enter Tryd.func8, Tryd.ntmps8
  go_wp2_with fail
  refine (H1.out).mono ?_
  rintro e w1 ⟨v1, rfl, hown1, hb1⟩
  obtain ⟨A1, c1, rfl⟩ := own_slice hown1
  go_wp2_with fail
  refine (H2.out _).mono ?_
  rintro e w2 ⟨v2, rfl, hown2, hb2⟩
  obtain ⟨A2, c2, rfl⟩ := own_slice hown2
  have hsame := same_yes A1 A2 _ _ c1 c2 _ _ w2 ((Rd.of_own hown1).below hb2) (Rd.of_own hown2) (by omega) rfl
  clear hown1 hown2
  have HS := Lib.hid hsame
  clear hsame
  go_wp2_with fail
  refine (HS.out).mono ?_
  rintro e w3 ⟨rfl, hb3⟩
  go_wp2_with fail
  refine (H3.out _).mono ?_
  rintro e w4 ⟨rfl, hb4⟩
  go_wp2_with fail
  go_ret
  have h12 := hb1.trans (hb2.mono hb1.size)
  have h13 := h12.trans (hb3.mono h12.size)
  exact ⟨rfl, h13.trans (hb4.mono h13.size)⟩
end Go.Proofs.YtojmibidfoncnaaDoor
