/-
  The walks of the reference of layer 2: the same plain answers.
-/
import Derived.Test.YtoacobcbloljkaaGreatDoorNames
import Derived.Test.YtoacobcbloljkaaGreatDoorSame
namespace Go.Proofs.YtoacobcbloljkaaGreatDoor
open Go.RowKit

set_option maxHeartbeats 1000000 in
theorem refHas_any (s : ByteArray) (b : UInt8) (c : Int) (hc : c = (b.toNat : Int)) (w : World) (hs : s.size ≤ 1000) :
    Calls Tryz.prog 114 #[.string s, .int .u8 c] w fun e w' => e = .returned (.bool (s.toList.contains b)) ∧ w = w' := by
  have HC := Lib.hid hc
  clear hc
  go_enter Tryz.func114, Tryz.ntmps114
  go_wp2
  go_loop [5] (fun i => ∃ k : Nat, k ≤ s.size ∧ i = .int .i64 k ∧ Hid (b ∉ s.toList.take k)) (fun i => s.size - (RowKit.intOf i).toNat)
  case atStart => exact ⟨0, by omega, rfl, by simp [Hid]⟩
  case round =>
    obtain ⟨k, hk, rfl, hno⟩ := hrel
    by_cases hlt : k < s.size
    · have hx := get_list s k hlt
      obtain ⟨hk', hx'⟩ := List.getElem?_eq_some_iff.1 hx
      cases hq : (((s[k]'hlt).toNat : Int) == c) with
      | true =>
        have e : s[k]'hlt = b := by
          have h1 := beq_iff_eq.1 hq
          rw [HC.out] at h1
          rw [← UInt8.toNat_inj]; omega
        have hin : b ∈ s.toList := by rw [← e]; exact List.mem_of_getElem? hx
        have HI := Lib.hid hin
        clear hin hx hx' e
        go_wp2
        go_ret
        exact ⟨ret_bool (by simpa using HI.out), rfl⟩
      | false =>
        have e : s[k]'hlt ≠ b := by
          intro h
          rw [h, HC.out] at hq
          simp at hq
        have hno' : b ∉ s.toList.take (k + 1) := by
          rw [List.take_succ_eq_append_getElem hk', List.mem_append, hx']
          rintro (h | h)
          · exact hno h
          · simp at h; exact e h.symm
        have HN := Lib.hid hno'
        clear hno' hx hx' e
        go_wp2
        go_round
        case rel => exact ⟨k + 1, by omega, by go_num, HN⟩
        case measure => simp [RowKit.intOf]; omega
    · have hno' : b ∉ s.toList := by
        have := hno.out
        rwa [List.take_of_length_le (by rw [← size_toList]; omega)] at this
      have HN := Lib.hid hno'
      clear hno'
      go_wp2
      go_ret
      exact ⟨ret_bool (by simpa using HN.out), rfl⟩

set_option maxHeartbeats 1000000 in
theorem refCheck_any (s : ByteArray) (w : World) :
    Calls Tryz.prog 131 #[.string s] w fun e w' => e = .returned (.int .i64 (Nm.checkE s.toList)) ∧ w = w' := by
  have hsz := size_toList s
  by_cases h1 : (12 : Int) < s.size
  · have hE : Nm.checkE s.toList = 11 := by unfold Nm.checkE; rw [if_pos (by omega)]
    rw [hE]
    clear hE hsz
    go_enter Tryz.func131, Tryz.ntmps131
    go_wp2
    go_ret
    exact ⟨rfl, rfl⟩
  have h1' : ¬ 12 < s.toList.length := by omega
  clear hsz
  have hE : Nm.checkE s.toList = if s.toList = [] ∨ (s.toList == [46] || s.toList == [46, 46]) = true ∨ s.toList.contains 0 = true ∨ s.toList.contains 47 = true then 10 else 0 := by
    unfold Nm.checkE; rw [if_neg h1']; rfl
  have h0 := refHas_any s 0 0 rfl w (by omega)
  have h47 := refHas_any s 47 47 rfl w (by omega)
  clear h1'
  generalize s.toList.contains 0 = c0 at *
  generalize s.toList.contains 47 = c47 at *
  generalize Nm.checkE s.toList = r at *
  have HE := Lib.hid hE
  have H0 := Lib.hid h0
  have H47 := Lib.hid h47
  clear h0 h47 hE
  cases h2 : s.toList.isEmpty with
  | true =>
    go_enter Tryz.func131, Tryz.ntmps131
    go_wp2
    go_ret
    exact ⟨ret_int (by rw [HE.out, if_pos (.inl (List.isEmpty_iff.1 h2))]), rfl⟩
  | false =>
    have h2' : s.toList ≠ [] := fun e => by rw [e] at h2; cases h2
    have H2 := Lib.hid h2'
    clear h2'
    cases h3 : (s.toList == [46]) with
    | true =>
      have h4 : s.toList = [46] := by simpa using h3
      have H4 := Lib.hid h4
      clear h4
      go_enter Tryz.func131, Tryz.ntmps131
      go_wp2
      go_ret
      exact ⟨ret_int (by rw [HE.out, H4.out]; rfl), rfl⟩
    | false =>
      cases h4 : (s.toList == [46, 46]) with
      | true =>
        have h5 : s.toList = [46, 46] := by simpa using h4
        have H5 := Lib.hid h5
        clear h5
        go_enter Tryz.func131, Tryz.ntmps131
        go_wp2
        go_ret
        exact ⟨ret_int (by rw [HE.out, H5.out]; rfl), rfl⟩
      | false =>
        have hE' := HE.out
        rw [h3, h4] at hE'
        simp only [H2.out, Bool.or_false, Bool.false_eq_true, false_or] at hE'
        clear HE
        have HE := Lib.hid hE'
        clear hE'
        cases c0 with
        | true =>
          go_enter Tryz.func131, Tryz.ntmps131
          go_wp2_with (go_at_call 114; refine (H0.out).mono ?_; rintro e w' ⟨rfl, rfl⟩)
          go_ret
          exact ⟨ret_int (by rw [HE.out]; rfl), rfl⟩
        | false =>
          cases c47 with
          | true =>
            go_enter Tryz.func131, Tryz.ntmps131
            go_wp2_with fail
            refine (H0.out).mono ?_
            rintro e w' ⟨rfl, rfl⟩
            go_wp2_with fail
            refine (H47.out).mono ?_
            rintro e w' ⟨rfl, rfl⟩
            go_wp2_with fail
            go_ret
            exact ⟨ret_int (by rw [HE.out]; rfl), rfl⟩
          | false =>
            go_enter Tryz.func131, Tryz.ntmps131
            go_wp2_with fail
            refine (H0.out).mono ?_
            rintro e w' ⟨rfl, rfl⟩
            go_wp2_with fail
            refine (H47.out).mono ?_
            rintro e w' ⟨rfl, rfl⟩
            go_wp2_with fail
            go_ret
            exact ⟨ret_int (by rw [HE.out]; rfl), rfl⟩
theorem seg_step (l : List UInt8) (a i : Nat) (hai : a ≤ i) (hno : ∀ c ∈ (l.drop a).take (i - a), c ≠ 47) (hend : i = l.length ∨ l[i]? = some 47) :
    Nm.comps (l.drop a) = (if a < i then [(l.drop a).take (i - a)] else []) ++ Nm.comps (l.drop (i + 1)) := by
  have hpart : l.drop a = (l.drop a).take (i - a) ++ l.drop i := by
    conv => lhs; rw [← List.take_append_drop (i - a) (l.drop a)]
    rw [List.drop_drop, Nat.add_sub_cancel' hai]
  have hil : i ≤ l.length := by
    rcases hend with h | h
    · omega
    · have := (List.getElem?_eq_some_iff.1 h).1; omega
  generalize hx : (l.drop a).take (i - a) = x at *
  have hxl : x.length = i - a := by rw [← hx]; simp; omega
  have hno' : (47 : UInt8) ∉ x := fun h => hno 47 h rfl
  have hfirst : Nm.comps x = if a < i then [x] else [] := by
    by_cases h : a < i
    · rw [if_pos h, Nm.comps_no hno']
      intro e
      rw [e] at hxl
      simp at hxl
      omega
    · rw [if_neg h]
      have : x = [] := List.eq_nil_of_length_eq_zero (by omega)
      rw [this]; rfl
  rw [hpart]
  rcases hend with rfl | hs
  · rw [List.drop_length, List.append_nil, hfirst, List.drop_eq_nil_of_le (Nat.le_succ _), Nm.comps_nil, List.append_nil]
  · obtain ⟨hlt, e⟩ := List.getElem?_eq_some_iff.1 hs
    rw [List.drop_eq_getElem_cons hlt, e, Nm.comps_app, hfirst]

set_option maxRecDepth 100000 in
set_option maxHeartbeats 1000000 in
theorem refPieces_any (s : ByteArray) (w : World) (hs : s.size ≤ 96) :
    Calls Tryz.prog 146 #[.string s] w fun e w' => ∃ v, e = .returned v ∧ w'.ownsRow w.heap.size 9 1 v (Nm.comps s.toList).length (txts (Nm.comps s.toList)) ∧ Below w.heap.size w w' := by
  obtain ⟨i0, hi, hz0, hz1, hz2⟩ := info_parts info_str
  have hsl := size_toList s
  have HSL := Lib.hid hsl
  clear hsl
  go_enter Tryz.func146, Tryz.ntmps146
  go_wp2
  go_loopw [3, 4, 5] (fun v a i wr => ∃ (ls : List (List UInt8)) (k b : Nat), k ≤ s.size + 1 ∧ b ≤ k ∧ i = .int .i64 k ∧ a = .int .i64 b ∧ ls.length ≤ k ∧ wr.ownsRow w.heap.size 9 1 v ls.length (txts ls) ∧ Below w.heap.size w wr ∧
      Hid (ls ++ Nm.comps (s.toList.drop b) = Nm.comps s.toList) ∧ Hid (∀ c, c ∈ (s.toList.drop b).take (k - b) → c ≠ 47) ∧ (s.size < k → b = k)) (fun _ _ i _ => s.size + 1 - (RowKit.intOf i).toNat)
  case atStart => exact ⟨[], 0, 0, by omega, by omega, rfl, rfl, by simp, World.ownsRow_nil w w.heap.size 9 1, Below.refl _ _, by simp [Hid], by simp [Hid], fun h => by omega⟩
  case round =>
    obtain ⟨ls, k, b, hk, hbk, rfl, rfl, hll, hown, hbr, heq, hno, hlast⟩ := hrel
    by_cases hle : k ≤ s.size
    · have hend : k = s.size ∨ (k < s.size ∧ s.toList[k]? = some 47) ∨ (k < s.size ∧ s.toList[k]? ≠ some 47) := by
        by_cases h : k = s.size
        · exact .inl h
        · by_cases h2 : s.toList[k]? = some 47
          · exact .inr (.inl ⟨by omega, h2⟩)
          · exact .inr (.inr ⟨by omega, h2⟩)
      have hstep : (k = s.toList.length ∨ s.toList[k]? = some 47) → ls ++ (if b < k then [(s.toList.drop b).take (k - b)] else []) ++ Nm.comps (s.toList.drop (k + 1)) = Nm.comps s.toList := by
        intro h
        rw [List.append_assoc, ← seg_step s.toList b k hbk hno h]
        exact heq
      have HSTEP := Lib.hid hstep
      clear hstep
      have hz : ∀ c, c ∈ (s.toList.drop (k + 1)).take (k + 1 - (k + 1)) → c ≠ 47 := by simp
      have HZ := Lib.hid hz
      clear hz
      have hbw := hbr.size
      rcases hend with rfl | ⟨hlt, h47⟩ | ⟨hlt, h47⟩
      · have hs1 := HSTEP.out (.inl HSL.out)
        by_cases hbk' : b < s.size
        · rw [if_pos hbk'] at hs1
          have HS2 := Lib.hid hs1
          clear hs1
          go_wp2_with (at_builtin; refine wpList_append_own _ rfl (.tmp 25) (.tmp 30) 24 rfl w.heap.size 9 i0 (.string ByteArray.empty) 1 16 Tryz.underlying24 hi hz0 hz1 hz2 rfl (by decide) _ _ _ rfl (hown.alloc _) ⟨wr.heap.size, 0, none⟩ 1 1 [.string (s.extract b s.size)] rfl rfl ?c1 ?c2 ?c3 ?c4 ?c5 ?_; (case c1 => exact cell_one_new _ _ _); (case c2 => intro u hu; simp only [List.mem_singleton] at hu; subst hu; rfl); (case c3 => unfold maxLen; omega); (case c4 => omega); (case c5 => simp; omega); intro v' w' hown' hg' _)
          go_roundw
          case rel =>
            refine ⟨ls ++ [(s.toList.drop b).take (s.size - b)], s.size + 1, s.size + 1, by omega, by omega, by go_num, by go_num, by simp; omega, ?_, ?_, HS2, HZ, fun _ => rfl⟩
            · rw [txts_append, List.length_append]
              simpa [txts, txt_toList, ← extract_list] using hown'
            · exact (hbr.alloc hbw _).grown hg' (by simp; omega) (fun j hj => (hown.lt j hj).1)
          case measure => simp [RowKit.intOf] <;> omega
        · rw [if_neg hbk', List.append_nil] at hs1
          have HS2 := Lib.hid hs1
          clear hs1
          go_wp2
          go_roundw
          case rel => exact ⟨ls, s.size + 1, s.size + 1, by omega, by omega, by go_num, by go_num, by omega, hown, hbr, HS2, HZ, fun _ => rfl⟩
          case measure => simp [RowKit.intOf] <;> omega
      · have hs1 := HSTEP.out (.inr h47)
        have hne : ((k : Int) == (s.size : Int)) = false := beq_eq_false_iff_ne.2 (by omega)
        have hq : (((s[k]'hlt).toNat : Int) == 47) = true := by
          rw [get_list s k hlt] at h47
          injection h47 with h47
          rw [h47]; rfl
        clear h47
        by_cases hbk' : b < k
        · rw [if_pos hbk'] at hs1
          have HS2 := Lib.hid hs1
          clear hs1
          go_wp2_with (at_builtin; refine wpList_append_own _ rfl (.tmp 25) (.tmp 30) 24 rfl w.heap.size 9 i0 (.string ByteArray.empty) 1 16 Tryz.underlying24 hi hz0 hz1 hz2 rfl (by decide) _ _ _ rfl (hown.alloc _) ⟨wr.heap.size, 0, none⟩ 1 1 [.string (s.extract b k)] rfl rfl ?c1 ?c2 ?c3 ?c4 ?c5 ?_; (case c1 => exact cell_one_new _ _ _); (case c2 => intro u hu; simp only [List.mem_singleton] at hu; subst hu; rfl); (case c3 => unfold maxLen; omega); (case c4 => omega); (case c5 => simp; omega); intro v' w' hown' hg' _)
          go_roundw
          case rel =>
            refine ⟨ls ++ [(s.toList.drop b).take (k - b)], k + 1, k + 1, by omega, by omega, by go_num, by go_num, by simp; omega, ?_, ?_, HS2, HZ, fun _ => rfl⟩
            · rw [txts_append, List.length_append]
              simpa [txts, txt_toList, ← extract_list] using hown'
            · exact (hbr.alloc hbw _).grown hg' (by simp; omega) (fun j hj => (hown.lt j hj).1)
          case measure => simp [RowKit.intOf] <;> omega
        · rw [if_neg hbk', List.append_nil] at hs1
          have HS2 := Lib.hid hs1
          clear hs1
          go_wp2
          go_roundw
          case rel => exact ⟨ls, k + 1, k + 1, by omega, by omega, by go_num, by go_num, by omega, hown, hbr, HS2, HZ, fun _ => rfl⟩
          case measure => simp [RowKit.intOf] <;> omega
      · have hne : ((k : Int) == (s.size : Int)) = false := beq_eq_false_iff_ne.2 (by omega)
        rw [get_list s k hlt] at h47
        have hq : (((s[k]'hlt).toNat : Int) == 47) = false := by
          rw [beq_eq_false_iff_ne]
          intro e
          refine h47 ?_
          congr 1
          rw [← UInt8.toNat_inj]
          have : (47 : UInt8).toNat = 47 := rfl
          omega
        have hno2 : ∀ c, c ∈ (s.toList.drop b).take (k + 1 - b) → c ≠ 47 := by
          intro c hc
          rw [show k + 1 - b = (k - b) + 1 from by omega, List.take_add_one, List.mem_append] at hc
          rcases hc with hc | hc
          · exact hno c hc
          · rw [List.getElem?_drop, Nat.add_sub_cancel' hbk, get_list s k hlt] at hc
            simp at hc
            subst hc
            intro e
            exact h47 (by rw [e])
        have HNO := Lib.hid hno2
        clear hno2 h47
        go_wp2
        go_roundw
        case rel => exact ⟨ls, k + 1, b, by omega, by omega, by go_num, rfl, by omega, hown, hbr, heq, HNO, fun h => by omega⟩
        case measure => simp [RowKit.intOf] <;> omega
    · have hfin : ls = Nm.comps s.toList := by
        have h := heq.out
        have hb : b = k := hlast (by omega)
        have hsl := HSL.out
        rw [List.drop_eq_nil_of_le (by omega), Nm.comps_nil, List.append_nil] at h
        exact h
      have HF := Lib.hid hfin
      clear hfin
      go_wp2
      go_ret
      rw [← HF.out]
      exact ⟨_, rfl, hown, hbr⟩
theorem ret_vbb {v : Value} {a a' b b' : Bool} (h : a = a') (k : b = b') : Ending.returned (.tuple #[v, .bool a, .bool b]) = .returned (.tuple #[v, .bool a', .bool b']) := by rw [h, k]

theorem endSlash_get (s : ByteArray) (h : s.size - 1 < s.size) : Nm.endSlash s.toList = (((s[s.size - 1]'h).toNat : Int) == 47) := by
  unfold Nm.endSlash
  rw [List.getLast?_eq_getElem?, ← size_toList, get_list s _ h, Bool.eq_iff_iff, beq_iff_eq, beq_iff_eq]
  constructor
  · intro e; injection e with e; rw [e]; rfl
  · intro e
    congr 1
    rw [← UInt8.toNat_inj]
    have : (47 : UInt8).toNat = 47 := rfl
    omega

set_option maxHeartbeats 1000000 in
theorem refpieces_any (s : ByteArray) (w : World) (hs : s.size ≤ 96) (h0 : 0 < s.size) :
    Calls Tryz.prog 115 #[.string s] w fun e w' => ∃ v, e = .returned (.tuple #[v, .bool (Nm.cutR s.toList).2.1, .bool (decide ((Nm.cutR s.toList).2.2 = 0))]) ∧
      w'.ownsRow w.heap.size 9 1 v (Nm.cutR s.toList).1.length (txts (Nm.cutR s.toList).1) ∧ Below w.heap.size w w' := by
  have hp := refPieces_any s w hs
  have hcl : (Nm.comps s.toList).length ≤ 97 := Nat.le_trans (Nm.comps_length _) (by rw [← size_toList]; omega)
  have hes := endSlash_get s (by omega)
  have hcut : Nm.cutR s.toList = if Nm.longB s.toList then ([], false, 11) else (Nm.comps s.toList, Nm.endSlash s.toList || Nm.lastDots (Nm.comps s.toList), 0) := rfl
  have hlong : Nm.longB s.toList = (Nm.comps s.toList).any fun x => decide (12 < x.length) := rfl
  generalize Nm.comps s.toList = cs at *
  generalize Nm.longB s.toList = lb at *
  generalize Nm.cutR s.toList = cr at *
  generalize Nm.endSlash s.toList = es at *
  have HP := Lib.hid hp
  have HES := Lib.hid hes
  have HCUT := Lib.hid hcut
  have HL := Lib.hid hlong
  clear hp hes hcut hlong
  go_enter Tryz.func115, Tryz.ntmps115
  go_wp2_with (go_at_call 146; refine (HP.out).mono ?_; rintro e w1 ⟨v, rfl, hown, hb⟩; obtain ⟨A, c, rfl⟩ := own_slice hown; have HOWN := Lib.hid hown; clear hown)
  go_loop [6] (fun i => ∃ k : Nat, k ≤ cs.length ∧ i = .int .i64 k ∧ Hid (∀ x, x ∈ cs.take k → x.length ≤ 12)) (fun i => cs.length - (RowKit.intOf i).toNat)
  case atStart => exact ⟨0, by omega, rfl, by simp [Hid]⟩
  case round =>
    obtain ⟨k, hk, rfl, hsm⟩ := hrel
    by_cases hlt : k < cs.length
    · obtain ⟨ad, b, rfl, _, hx, hc⟩ := (Rd.of_own HOWN.out).str_at hlt
      have HX := Lib.hid hx
      clear hx
      by_cases h12 : (12 : Int) < (b.size : Int)
      · have hlb : lb = true := by
          rw [HL.out, List.any_eq_true]
          exact ⟨b.toList, List.mem_of_getElem? HX.out, by rw [← size_toList]; simp; omega⟩
        have hcr := HCUT.out
        rw [hlb, if_pos rfl] at hcr
        have HCR := Lib.hid hcr
        clear hcr hlb
        go_wp2
        refine bodyPost_ret (results_tmp3 rfl _ _ _) rfl ?_
        rw [HCR.out]
        exact ⟨_, rfl, World.ownsRow_nil _ _ _ _, hb⟩
      · have hsm' : ∀ x, x ∈ cs.take (k + 1) → x.length ≤ 12 := by
          intro x hx
          obtain ⟨hk', ek⟩ := List.getElem?_eq_some_iff.1 HX.out
          rw [List.take_succ_eq_append_getElem hk', List.mem_append] at hx
          rcases hx with hx | hx
          · exact hsm x hx
          · simp only [List.mem_singleton] at hx
            rw [hx, ek, ← size_toList]; omega
        have HSM := Lib.hid hsm'
        clear hsm'
        go_wp2
        go_round
        case rel => exact ⟨k + 1, by omega, by go_num, HSM⟩
        case measure => simp [RowKit.intOf] <;> omega
    · have hlb : lb = false := by
        rw [HL.out, List.any_eq_false]
        intro x hx
        have := hsm x (by rw [List.take_of_length_le (by omega)]; exact hx)
        simp; omega
      have hcr := HCUT.out
      rw [hlb, if_neg (by simp)] at hcr
      have HCR := Lib.hid hcr
      clear hcr hlb
      obtain ⟨hs1, hs2⟩ : (1 : Int) ≤ (s.size : Int) ∧ s.size - 1 < s.size := ⟨by omega, by omega⟩
      by_cases hc0 : 0 < cs.length
      · obtain ⟨ad, b, rfl, _, hx, hc⟩ := (Rd.of_own HOWN.out).str_at (k := cs.length - 1) (by omega)
        have hld : Nm.lastDots cs = Nm.dotsB b.toList := by rw [Nm.lastDots, List.getLast?_eq_getElem?, hx]
        have HLD := Lib.hid hld
        clear hld hx
        go_wp2
        all_goals
          refine bodyPost_ret (results_tmp3 rfl _ _ _) rfl ?_
          rw [HCR.out]
          refine ⟨_, ret_vbb (v := .slice (some ad) cs.length c) ?_ rfl, HOWN.out, hb⟩
          rw [HES.out, HLD.out]
          simp [Nm.dotsB, *, Bool.or_assoc]
      · have hld : Nm.lastDots cs = false := by
          have : cs = [] := List.eq_nil_of_length_eq_zero (by omega)
          rw [this]; rfl
        have HLD := Lib.hid hld
        clear hld
        go_wp2
        all_goals
          refine bodyPost_ret (results_tmp3 rfl _ _ _) rfl ?_
          rw [HCR.out]
          refine ⟨_, ret_vbb (v := .slice A cs.length c) ?_ rfl, HOWN.out, hb⟩
          rw [HES.out, HLD.out]
          simp

set_option maxHeartbeats 1000000 in
theorem refTarget_any (s : ByteArray) (w : World) :
    Calls Tryz.prog 69 #[.string s] w fun e w' => ∃ v, e = .returned (.tuple #[v, .bool (Nm.targetR s.toList).2.1, .bool (Nm.targetR s.toList).2.2.1, .int .i64 (Nm.targetR s.toList).2.2.2]) ∧
      w'.ownsRow w.heap.size 9 1 v (Nm.targetR s.toList).1.length (txts (Nm.targetR s.toList).1) ∧ Below w.heap.size w w' := by
  have hsz := size_toList s
  by_cases h1 : (96 : Int) < s.size
  · have hE : Nm.targetR s.toList = ([], false, false, 13) := by unfold Nm.targetR; rw [if_pos (by omega)]
    rw [hE]
    clear hE hsz
    go_enter Tryz.func69, Tryz.ntmps69
    go_wp2
    refine bodyPost_ret (results4 rfl _ _ _) rfl ?_
    exact ⟨_, rfl, World.ownsRow_nil _ _ _ _, Below.refl _ _⟩
  have h1' : ¬ 96 < s.toList.length := by omega
  have h96 : s.size ≤ 96 := by omega
  cases h2 : s.toList.isEmpty with
  | true =>
    have h2' : s.toList = [] := List.isEmpty_iff.1 h2
    have hE : Nm.targetR s.toList = ([], false, false, 12) := by
      unfold Nm.targetR; rw [if_neg h1', if_pos (.inl h2')]
    rw [hE]
    clear hE h1' hsz h2'
    go_enter Tryz.func69, Tryz.ntmps69
    go_wp2
    refine bodyPost_ret (results4 rfl _ _ _) rfl ?_
    exact ⟨_, rfl, World.ownsRow_nil _ _ _ _, Below.refl _ _⟩
  | false =>
    have hne : s.toList ≠ [] := fun e => by rw [e] at h2; cases h2
    have hpos : 0 < s.size := by
      rw [hsz]
      cases hl : s.toList with
      | nil => rw [hl] at h2; cases h2
      | cons => simp
    have hhd : (s.toList.head? == some 47) = (((s[0]'hpos).toNat : Int) == 47) := by
      rw [List.head?_eq_getElem?, get_list s 0 hpos, Bool.eq_iff_iff, beq_iff_eq, beq_iff_eq]
      constructor
      · intro e; injection e with e; rw [e]; rfl
      · intro e
        congr 1
        rw [← UInt8.toNat_inj]
        have : (47 : UInt8).toNat = 47 := rfl
        omega
    have hz := refHas_any s 0 0 rfl w (by omega)
    have hp := refpieces_any s w h96 hpos
    have hE : Nm.targetR s.toList = if s.toList.contains 0 = true then ([], false, false, 12) else ((Nm.cutR s.toList).1, (s.toList.head? == some 47) && decide ((Nm.cutR s.toList).2.2 = 0), (Nm.cutR s.toList).2.1, (Nm.cutR s.toList).2.2) := by
      unfold Nm.targetR Nm.cutR
      rw [if_neg h1']
      simp only [hne, false_or]
      split
      · rfl
      · cases Nm.longB s.toList <;> simp
    rw [hhd] at hE
    clear hhd hsz h1' hne
    generalize s.toList.contains 0 = c0 at *
    cases c0 with
    | true =>
      rw [if_pos rfl] at hE
      rw [hE]
      have HZ := Lib.hid hz
      clear hz hE hp
      go_enter Tryz.func69, Tryz.ntmps69
      go_wp2_with (go_at_call 114; refine (HZ.out).mono ?_; rintro e w' ⟨rfl, rfl⟩)
      refine bodyPost_ret (results4 rfl _ _ _) rfl ?_
      exact ⟨_, rfl, World.ownsRow_nil _ _ _ _, Below.refl _ _⟩
    | false =>
      rw [if_neg (by simp)] at hE
      rw [hE]
      have hcr : Nm.cutR s.toList = ([], false, 11) ∨ (Nm.cutR s.toList).2.2 = 0 := by
        unfold Nm.cutR; split
        · exact .inl rfl
        · exact .inr rfl
      generalize Nm.cutR s.toList = cr at *
      have HZ := Lib.hid hz
      clear hz hE
      rcases hcr with rfl | hcr
      · have HP := Lib.hid hp
        clear hp
        go_enter Tryz.func69, Tryz.ntmps69
        go_wp2_with (first | (go_at_call 114; refine (HZ.out).mono ?_; rintro e w' ⟨rfl, rfl⟩) | (go_at_call 115; refine (HP.out).mono ?_; rintro e w' ⟨v, rfl, hown, hb⟩))
        refine bodyPost_ret (results4 rfl _ _ _) rfl ?_
        exact ⟨_, by simp, World.ownsRow_nil _ _ _ _, hb⟩
      · rw [hcr] at hp
        rw [hcr]
        have HP := Lib.hid hp
        clear hp hcr
        go_enter Tryz.func69, Tryz.ntmps69
        go_wp2_with (first | (go_at_call 114; refine (HZ.out).mono ?_; rintro e w' ⟨rfl, rfl⟩) | (go_at_call 115; refine (HP.out).mono ?_; rintro e w' ⟨v, rfl, hown, hb⟩))
        go_quiet (fail)
        go_wp2
        refine bodyPost_ret (results4 rfl _ _ _) rfl ?_
        exact ⟨_, by simp, own_drewN hown _, below_drewN_ hb _⟩

end Go.Proofs.YtoacobcbloljkaaGreatDoor
