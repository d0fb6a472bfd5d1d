/-
  The walk of NameJoins: names that Check takes, joined, are split into themselves.
-/
import Derived.Test.YtojmibidfoncnaaDoorLaws02
namespace Go.Proofs.YtojmibidfoncnaaDoor
open Go.RowKit

namespace Nm
/-- Names with a slash ahead of each. -/
def joinL (ls : List (List UInt8)) : List UInt8 := ls.flatMap fun x => 47 :: x

theorem joinL_snoc (ls : List (List UInt8)) (x : List UInt8) : joinL (ls ++ [x]) = joinL ls ++ 47 :: x := by unfold joinL; simp
theorem joinL_cons (x : List UInt8) (ls : List (List UInt8)) : joinL (x :: ls) = 47 :: x ++ joinL ls := by unfold joinL; simp

theorem checkE_ok {x : List UInt8} (h : checkE x = 0) : x.length ≤ 12 ∧ x ≠ [] ∧ dotsB x = false ∧ (0 : UInt8) ∉ x ∧ (47 : UInt8) ∉ x := by
  unfold checkE at h
  split at h
  · simp at h
  · split at h
    · simp at h
    · rename_i h1 h2
      simp only [not_or, Bool.not_eq_true] at h2
      refine ⟨by omega, h2.1, h2.2.1, fun hm => ?_, fun hm => ?_⟩
      · rw [← List.contains_iff_mem, h2.2.2.1] at hm; cases hm
      · rw [← List.contains_iff_mem, h2.2.2.2] at hm; cases hm

theorem joinL_len {ls : List (List UInt8)} (h : ∀ x ∈ ls, checkE x = 0) : 2 * ls.length ≤ (joinL ls).length := by
  induction ls with
  | nil => simp
  | cons x t ih =>
    have h1 := (checkE_ok (h x (by simp))).2.1
    have h2 := ih (fun y hy => h y (by simp [hy]))
    have h3 : 0 < x.length := List.length_pos_iff.2 h1
    rw [joinL_cons]
    simp only [List.length_cons, List.cons_append, List.length_append]
    omega

theorem comps_joinL {ls : List (List UInt8)} (h : ∀ x ∈ ls, checkE x = 0) : comps (joinL ls) = ls := by
  induction ls with
  | nil => rfl
  | cons x t ih =>
    obtain ⟨_, h1, _, _, h2⟩ := checkE_ok (h x (by simp))
    have h3 := ih (fun y hy => h y (by simp [hy]))
    rw [joinL_cons, List.cons_append, comps_slash]
    cases t with
    | nil => rw [show joinL [] = [] from rfl, List.append_nil, comps_no h2 h1]
    | cons y t =>
      rw [joinL_cons, List.cons_append, comps_app, comps_no h2 h1]
      rw [joinL_cons, List.cons_append, comps_slash] at h3
      rw [h3]; rfl

theorem joinL_mem {ls : List (List UInt8)} (h : ∀ x ∈ ls, checkE x = 0) : (0 : UInt8) ∉ joinL ls := by
  intro hm
  unfold joinL at hm
  rw [List.mem_flatMap] at hm
  obtain ⟨x, hx, hm⟩ := hm
  rcases List.mem_cons.1 hm with hm | hm
  · cases hm
  · exact (checkE_ok (h x hx)).2.2.2.1 hm

/-- The last sign of joined names is no slash. -/
theorem joinL_end {ls : List (List UInt8)} (h : ∀ x ∈ ls, checkE x = 0) (hne : ls ≠ []) : endSlash (joinL ls) = false ∧ lastDots ls = false := by
  obtain ⟨ys, x, rfl⟩ : ∃ ys x, ls = ys ++ [x] := ⟨ls.dropLast, ls.getLast hne, (List.dropLast_concat_getLast hne).symm⟩
  obtain ⟨_, h1, h2, _, h3⟩ := checkE_ok (h x (by simp))
  refine ⟨?_, ?_⟩
  · unfold endSlash
    rw [joinL_snoc, List.getLast?_append, List.getLast?_cons, beq_eq_false_iff_ne]
    obtain ⟨zs, c, rfl⟩ : ∃ zs c, x = zs ++ [c] := ⟨x.dropLast, x.getLast h1, (List.dropLast_concat_getLast h1).symm⟩
    simp
    intro e
    subst e
    exact h3 (by simp)
  · unfold lastDots; simp [h2]

theorem joinL_all {ls : List (List UInt8)} (h : ∀ x ∈ ls, checkE x = 0) (hne : ls ≠ []) (h96 : (joinL ls).length ≤ 96) :
    splitR (joinL ls) = (ls, false, 0) ∧ targetR ((joinL ls).drop 1) = (ls, false, false, 0) ∧ parentR (joinL ls) = (ls.dropLast, ls.getLast hne, 0) := by
  have hc := comps_joinL h
  have hz := joinL_mem h
  obtain ⟨he, hd⟩ := joinL_end h hne
  have hz' : (joinL ls).contains 0 = false := by
    rw [Bool.eq_false_iff]; intro h'; rw [List.contains_iff_mem] at h'; exact hz h'
  have hl : longB (joinL ls) = false := by
    unfold longB
    rw [hc, List.any_eq_false]
    intro x hx
    have := (checkE_ok (h x hx)).1
    simp; omega
  have hhd : (joinL ls).head? = some 47 := by
    cases ls with
    | nil => exact absurd rfl hne
    | cons x t => rw [joinL_cons]; rfl
  have hdir : dirB (joinL ls) = false := by unfold dirB; rw [he, hc, hd]; rfl
  have hs : splitR (joinL ls) = (ls, false, 0) := by
    unfold splitR
    rw [if_neg (by omega), if_neg (fun h => h.elim (fun h => h hhd) (fun h => by rw [hz'] at h; cases h))]
    unfold cutR
    rw [hl, if_neg (by simp), hc, hdir]
  refine ⟨hs, ?_, ?_⟩
  · cases ls with
    | nil => exact absurd rfl hne
    | cons x t =>
      obtain ⟨_, h1, _, _, h3⟩ := checkE_ok (h x (by simp))
      rw [joinL_cons] at hc hz' hl he h96 hdir
      rw [joinL_cons]
      simp only [List.cons_append, List.drop_succ_cons, List.drop_zero] at *
      obtain ⟨c, y, rfl⟩ : ∃ c y, x = c :: y := by cases x with
        | nil => exact absurd rfl h1
        | cons c y => exact ⟨c, y, rfl⟩
      have hc47 : c ≠ 47 := fun e => h3 (by rw [e]; simp)
      rw [comps_slash] at hc
      have hl2 : longB ((c :: y) ++ joinL t) = false := by rw [← hl]; unfold longB; rw [comps_slash]
      have hz2 : ((c :: y) ++ joinL t).contains 0 = false := by simp at hz' ⊢; exact hz'
      have hdir2 : dirB ((c :: y) ++ joinL t) = false := by
        rw [← hdir]
        unfold dirB
        rw [comps_slash]
        rfl
      unfold targetR
      rw [if_neg (by simp at h96 ⊢; omega), if_neg (fun h => h.elim (by simp) (fun h => by rw [hz2] at h; cases h)), hl2, if_neg (by simp), hdir2]
      rw [hc]
      simp [hc47]
  · rw [parentR_ok (by rw [hs]), hc]
    have hgl : ls.getLast? = some (ls.getLast hne) := List.getLast?_eq_some_getLast hne
    rw [hgl]
    have : dotsB (ls.getLast hne) = false := (checkE_ok (h _ (List.getLast_mem hne))).2.2.1
    simp [this]
end Nm

set_option maxHeartbeats 1000000 in
/-- joined: the names joined, or a text that is too long. -/
theorem joined_any (A : Option Addr) (n c : Nat) (ls : List (List UInt8)) (w : World) (hr : Rd w 1 A n (txts ls)) (hn : n ≤ 140737488355328) (h12 : ∀ x ∈ ls, x.length ≤ 12) :
    Calls Tryd.prog 25 #[.slice A n c] w fun e w' => ∃ sb : ByteArray, e = .returned (.string sb) ∧ (sb.size ≤ 96 → sb.toList = Nm.joinL ls) ∧ w = w' := by
  have hll := hr.txt_len
  have HR := Lib.hid hr
  have HLL := Lib.hid hll
  have H12 := Lib.hid h12
  clear hr hll h12
  go_enter Tryd.func25, Tryd.ntmps25
  go_wp2_with fail
  go_loop [3, 4] (fun v i => ∃ (k : Nat) (sb : ByteArray), k ≤ n ∧ i = .int .i64 k ∧ v = .string sb ∧ sb.size ≤ 200 ∧ Hid (sb.toList = Nm.joinL (ls.take k))) (fun _ i => n - (intOf i).toNat)
  case atStart => exact ⟨0, _, by omega, rfl, rfl, by decide, by simp [Hid, Nm.joinL, ByteArray.toList_eq]⟩
  case round =>
    obtain ⟨k, sb, hk, rfl, rfl, hsz, hsb⟩ := hrel
    by_cases hlt : k < n
    · by_cases hs96 : (sb.size : Int) ≤ 96
      · obtain ⟨ad, b, rfl, _, hx, hc⟩ := HR.out.str_at hlt
        have hb12 : b.size ≤ 12 := by rw [size_toList]; exact H12.out _ (List.mem_of_getElem? hx)
        have hnext : (sb ++ ⟨#[47]⟩ ++ b).toList = Nm.joinL (ls.take (k + 1)) := by
          obtain ⟨hk', e⟩ := List.getElem?_eq_some_iff.1 hx
          rw [List.take_succ_eq_append_getElem hk', e, Nm.joinL_snoc, app_list, app_list, hsb.out, show (ByteArray.mk #[47]).toList = [47] from by rw [ByteArray.toList_eq], List.append_assoc]
          rfl
        have HN := Lib.hid hnext
        clear hx hnext
        go_wp2_with fail
        go_round
        case rel => exact ⟨k + 1, _, by omega, by go_num, rfl, by rw [ByteArray.size_append, ByteArray.size_append]; have : (ByteArray.mk #[47]).size = 1 := rfl; omega, HN⟩
        case measure => simp [intOf] <;> omega
      · go_wp2_with fail
        go_ret
        exact ⟨sb, rfl, fun h => by omega, rfl⟩
    · obtain rfl : k = n := by omega
      have hfin := hsb.out
      rw [List.take_of_length_le (by rw [HLL.out]; omega)] at hfin
      have HF := Lib.hid hfin
      clear hfin
      go_wp2_with fail
      go_ret
      exact ⟨sb, rfl, fun _ => HF.out, rfl⟩

set_option maxRecDepth 100000 in
set_option maxHeartbeats 2000000 in
theorem nameJoins_walk (A : Option Addr) (n c : Nat) (ls : List (List UInt8)) (w : World) (hr : Rd w 1 A n (txts ls)) (hn : n ≤ 140737488355328) (hnc : n ≤ c) :
    Calls Tryd.prog 11 #[.slice A n c] w fun e w' => e = .returned (.bool true) ∧ Below w.heap.size w w' := by
  have hll := hr.txt_len
  have HR := Lib.hid hr
  have HLL := Lib.hid hll
  have h3 := Lib.hid awake02
  clear hr hll
  go_enter Tryd.func11, Tryd.ntmps11
  go_wp2_with fail
  go_loopw [3] (fun i wr => ∃ k : Nat, k ≤ n ∧ i = .int .i64 k ∧ Below w.heap.size w wr ∧ Hid (∀ x, x ∈ ls.take k → Nm.checkE x = 0)) (fun i _ => n - (intOf i).toNat)
  case atStart => exact ⟨0, by omega, rfl, Below.refl _ _, by simp [Hid]⟩
  case round =>
    obtain ⟨k, hk, rfl, hbr, hok⟩ := hrel
    by_cases hlt : k < n
    · obtain ⟨ad, b, rfl, _, hx, hc⟩ := (HR.out.below hbr).str_at hlt
      have hck := fun W => check_any b W
      by_cases hz : Nm.checkE b.toList = 0
      · rw [hz] at hck
        have hnext : ∀ x, x ∈ ls.take (k + 1) → Nm.checkE x = 0 := by
          intro x hm
          obtain ⟨hk', e⟩ := List.getElem?_eq_some_iff.1 hx
          rw [List.take_succ_eq_append_getElem hk', List.mem_append] at hm
          rcases hm with hm | hm
          · exact hok x hm
          · simp only [List.mem_singleton] at hm; rw [hm, e]; exact hz
        have HC := Lib.hid hck
        have HN := Lib.hid hnext
        clear hck hnext hz hx
        go_wp2_with fail
        refine (HC.out _).mono ?_
        rintro e w2 ⟨rfl, hb2⟩
        go_wp2_with fail
        go_roundw
        case rel => exact ⟨k + 1, by omega, by go_num, hbr.trans (hb2.mono hbr.size), HN⟩
        case measure => simp [intOf] <;> omega
      · generalize Nm.checkE b.toList = er at *
        have hb0 : (er == 0) = false := beq_eq_false_iff_ne.2 hz
        have HC := Lib.hid hck
        clear hck hz hx
        go_wp2_with fail
        refine (HC.out _).mono ?_
        rintro e w2 ⟨rfl, hb2⟩
        go_wp2_with fail
        refine (h3.out _).mono ?_
        rintro e w3 ⟨rfl, hb3⟩
        go_wp2_with fail
        go_ret
        have h12 := hbr.trans (hb2.mono hbr.size)
        exact ⟨rfl, h12.trans (hb3.mono h12.size)⟩
    · obtain rfl : k = n := by omega
      have hall : ∀ x ∈ ls, Nm.checkE x = 0 := by
        intro x hx
        exact hok x (by rw [List.take_of_length_le (by rw [HLL.out]; omega)]; exact hx)
      have hrd := HR.out.below hbr
      have hj := joined_any A k c ls wr hrd hn (fun x hx => (Nm.checkE_ok (hall x hx)).1)
      have HJ := Lib.hid hj
      have HA := Lib.hid hall
      have HRD := Lib.hid hrd
      clear hj hall hrd
      go_wp2_with fail
      refine (HJ.out).mono ?_
      rintro e w2 ⟨sb, rfl, hsb, rfl⟩
      have HSB := Lib.hid hsb
      clear hsb
      by_cases h0 : k = 0
      · subst h0
        go_wp2_with fail
        refine (h3.out _).mono ?_
        rintro e w3 ⟨rfl, hb3⟩
        go_wp2_with fail
        go_ret
        exact ⟨rfl, hbr.trans (hb3.mono hbr.size)⟩
      · have hk0 : ((k : Int) == 0) = false := beq_eq_false_iff_ne.2 (by omega)
        by_cases h96 : (96 : Int) < (sb.size : Int)
        · go_wp2_with fail
          refine (h3.out _).mono ?_
          rintro e w3 ⟨rfl, hb3⟩
          go_wp2_with fail
          go_ret
          exact ⟨rfl, hbr.trans (hb3.mono hbr.size)⟩
        · have hne : ls ≠ [] := by rintro rfl; have := HLL.out; simp at this; omega
          have hsl := HSB.out (by omega)
          have hsz : sb.size = (Nm.joinL ls).length := by rw [size_toList, hsl]
          obtain ⟨hS, hT, hP⟩ := Nm.joinL_all HA.out hne (by omega)
          have hk48 : 2 * k ≤ 96 := by have := Nm.joinL_len HA.out; rw [HLL.out] at this; omega
          have hs1 : (1 : Int) ≤ (sb.size : Int) := by have := Nm.joinL_len HA.out; rw [HLL.out] at this; omega
          have g1 := fun W => split_path sb W
          have g2 := fun W => parent_path sb W
          have g3 := fun W => target_text (sb.extract 1 sb.size) W
          have htl : (sb.extract 1 sb.size).toList = (Nm.joinL ls).drop 1 := by rw [extract_list, hsl, List.take_of_length_le (by simp [← hsz])]
          rw [htl] at g3
          rw [hsl] at g1 g2
          rw [hS] at g1
          rw [hP] at g2
          rw [hT] at g3
          obtain ⟨m, hm⟩ : ∃ m, k = m + 1 := ⟨k - 1, by omega⟩
          subst hm
          have hk1 : (((m : Int) + 1) == 0) = false := beq_eq_false_iff_ne.2 (by omega)
          obtain ⟨lb, hlb⟩ : ∃ lb : ByteArray, ls.getLast hne = lb.toList := ⟨⟨(ls.getLast hne).toArray⟩, (toList_mk _).symm⟩
          have hdl : ls.dropLast.length = m := by rw [List.length_dropLast, HLL.out]; rfl
          simp only [hlb, txt_toList, hdl, HLL.out] at g1 g2 g3
          obtain ⟨ad, b, rfl, hlt2, hx, hc⟩ := HRD.out.str_at (k := m) (by omega)
          have hbl : b = lb := by
            rw [List.getLast_eq_getElem] at hlb
            have h2 := List.getElem?_eq_some_iff.1 hx
            obtain ⟨h2, h4⟩ := h2
            have h5 : b.toList = lb.toList := by rw [← h4, ← hlb]; congr 1; rw [HLL.out]; rfl
            rw [← mk_toList b, ← mk_toList lb, h5]
          subst hbl
          have G1 := Lib.hid g1
          have G2 := Lib.hid g2
          have G3 := Lib.hid g3
          have hdrop := rd_dropLast HRD.out HLL.out
          have HDR := Lib.hid hdrop
          clear g1 g2 g3 hS hT hP hsl hsz htl hlb hdl hdrop hx hok h0 hne
          go_wp2_with fail
          refine (G1.out _).mono ?_
          rintro e w3 ⟨v3, rfl, hown3, hb3⟩
          obtain ⟨A3, c3, rfl⟩ := own_slice hown3
          have HR3 := Lib.hid (Rd.of_own hown3)
          clear hown3
          go_wp2_with fail
          refine (G2.out _).mono ?_
          rintro e w4 ⟨A4, rfl, hr4, _, hb4⟩
          have HR4 := Lib.hid hr4
          clear hr4
          go_wp2_with fail
          refine (G3.out _).mono ?_
          rintro e w5 ⟨v5, rfl, hown5, hb5⟩
          obtain ⟨A5, c5, rfl⟩ := own_slice hown5
          have HR5 := Lib.hid (Rd.of_own hown5)
          clear hown5
          have b35 := hb3.trans ((hb4.trans (hb5.mono hb4.size)).mono hb3.size)
          have s1 := same_yes A3 (some ad) _ _ c3 c _ _ w5 ((HR3.out.below hb4).below hb5) (HRD.out.below b35) (by omega) rfl
          have S1 := Lib.hid s1
          clear s1
          go_wp2_with fail
          refine (S1.out).mono ?_
          rintro e w6 ⟨rfl, hb6⟩
          have s2 := same_yes A5 (some ad) _ _ c5 c _ _ w6 (HR5.out.below hb6) ((HRD.out.below b35).below hb6) (by omega) rfl
          have S2 := Lib.hid s2
          clear s2
          go_wp2_with fail
          refine (S2.out).mono ?_
          rintro e w7 ⟨rfl, hb7⟩
          have s3 := same_yes A4 (some ad) _ _ m c _ _ w7 (((HR4.out.below hb5).below hb6).below hb7) (((HDR.out.below b35).below hb6).below hb7) (by omega) rfl
          have S3 := Lib.hid s3
          clear s3
          go_wp2_with fail
          refine (S3.out).mono ?_
          rintro e w8 ⟨rfl, hb8⟩
          have b38 := ((b35.trans (hb6.mono b35.size)).trans (hb7.mono (b35.trans (hb6.mono b35.size)).size))
          have hc8 : w8.cell? (ad.add m) = some (.string b) := by
            rw [← hc, (b38.trans (hb8.mono b38.size)).cell (by rw [add_block]; exact hlt2)]
          go_wp2_with fail
          refine (h3.out _).mono ?_
          rintro e w9 ⟨rfl, hb9⟩
          go_wp2_with fail
          go_ret
          have b39 := b38.trans (hb8.mono b38.size)
          have f := hbr.trans (b39.mono hbr.size)
          exact ⟨rfl, f.trans (hb9.mono f.size)⟩
end Go.Proofs.YtojmibidfoncnaaDoor
