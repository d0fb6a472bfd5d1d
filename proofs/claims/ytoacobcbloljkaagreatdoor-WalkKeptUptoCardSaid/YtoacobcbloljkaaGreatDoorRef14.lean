/-
  The reference's walk of components.
-/
import Derived.Test.YtoacobcbloljkaaGreatDoorRef14At
import Derived.IntWalk
import Derived.BigRegion
namespace Go.Proofs.YtoacobcbloljkaaGreatDoor
open Go.RowKit

attribute [local go_sem ↓] Go.wp_at_zero Go.wp_at_succ

set_option maxHeartbeats 400000 in
theorem refRoot_any (w : World) : Calls Tryz.prog 67 #[] w fun r w' => r = .returned (.agg #[.int .i64 1, .int .i64 1, .int .i64 0, .string ⟨#[]⟩]) ∧ Below w.heap.size w w' := by
  go_enter Tryz.func67, Tryz.ntmps67
  go_wp2_with fail
  refine bodyPost_ret (v := .agg #[.int .i64 1, .int .i64 1, .int .i64 0, .string ⟨#[]⟩]) (by simp [results, Tryz.results67, go_sem]) rfl ⟨rfl, ?_⟩
  exact (Below.refl _ _).alloc (Nat.le_refl _) _

theorem up_take (wl : List Nd) (h : 0 < wl.length) : ∃ k, Wk.up wl = wl.take (k + 1) ∧ (1 < wl.length → k + 1 = wl.length - 1) ∧ (wl.length ≤ 1 → k + 1 = wl.length) := by
  unfold Wk.up
  split
  · rename_i h1
    exact ⟨0, by rw [List.take_of_length_le (by omega)], fun q => by omega, fun _ => by omega⟩
  · rename_i h1
    refine ⟨wl.length - 1 - 1, ?_, fun _ => by omega, fun q => by omega⟩
    rw [List.dropLast_eq_take]
    congr 1
    omega
theorem way_head {way : List Nd} {at_ : Nd} (h : WayOk way at_) : way.take 1 = [rootNd] := by
  have h2 := h.2.1
  cases way with
  | nil => cases h2
  | cons a r =>
    simp only [List.head?_cons, Option.some.injEq] at h2
    simp [h2]
theorem bel_drew {a W : World} (h : Below a.heap.size a W) : Below a.heap.size a W.drew := ⟨h.os, h.tape, h.output, h.size, h.block⟩
theorem bel_alloc {a W : World} (h : Below a.heap.size a W) (o : Obj) : Below a.heap.size a (W.alloc o) := h.alloc h.size o
theorem bel_app {a W W' : World} {row : Option Nat} (h : Below a.heap.size a W) (hg : W.grownBy W' row) (hr : ∀ k, row = some k → a.heap.size ≤ k) : Below a.heap.size a W' := h.grown hg h.size hr
theorem elemNds : Elem Tryz.prog 59 34 4 40 := Elem.mk_ Tryz.underlying59 info_nodes rfl (by decide)

set_option maxRecDepth 100000 in
set_option maxHeartbeats 16000000 in
theorem refSteps_any (w : World) (p0 p1 p2 : Value) (kn : Key → Option En) (hlook : ∀ V k, Below w.heap.size w V → Calls Tryz.prog 68 #[.agg #[p0, p1, p2], vKey k] V fun r w' => r = .returned (lookV (kn k) k) ∧ Below V.heap.size V w')
    (_h1c : p0.oneCell' = true ∧ p1.oneCell' = true ∧ p2.oneCell' = true) (B : Option Addr) (m cq : Nat) (ss : List (List UInt8)) (dir follow : Bool) (links : Int) (hm : m ≤ 2000000) (hl0 : -9223372036854775808 ≤ links) (hl1 : links ≤ 9223372036854775807) (hs : Rd w 1 B m (txts ss)) :
    Calls Tryz.prog 20 #[.agg #[p0, p1, p2], .slice B m cq, .bool dir, .bool follow, .int .i64 links] w (OutPost w (Wk.steps kn follow (min (max links 0) 8).toNat ss [rootNd] dir [])) := by
  have hsl := hs.txt_len
  obtain ⟨L, hL, hL8⟩ : ∃ L : Nat, min (max links 0) 8 = (L : Int) ∧ L ≤ 8 := ⟨(min (max links 0) 8).toNat, by omega, by omega⟩
  obtain ⟨RUN, hRUN⟩ : ∃ RUN, RUN = Wk.steps kn follow (min (max links 0) 8).toNat ss [rootNd] dir [] := ⟨_, rfl⟩
  rw [← hRUN]
  have hR : Hid (Wk.steps kn follow L ss [rootNd] dir [] = RUN) := by rw [hRUN, hL]; simp [Hid]
  have HL := Lib.hid hL
  have HLK := Lib.hid hlook
  have HS := Lib.hid hs
  clear hRUN hL hlook hs
  go_enter Tryz.func20, Tryz.ntmps20
  go_upto_if 25 with fail
  have KB : Hid (At ((w.alloc (.cells #[p0, p1, p2] 48)).alloc (.cells (outCells (out0 []) (.slice none 0 0)).toArray 40)) w.heap.size 48 [p0, p1, p2]) := (At.new w 48 [p0, p1, p2]).alloc _
  have OB : Hid (At ((w.alloc (.cells #[p0, p1, p2] 48)).alloc (.cells (outCells (out0 []) (.slice none 0 0)).toArray 40)) (w.heap.size + 1) 40 (outCells (out0 []) (.slice none 0 0))) := At.new_ _ 40 (outCells (out0 []) (.slice none 0 0)) (by simp)
  have BL : Hid (Below w.heap.size w ((w.alloc (.cells #[p0, p1, p2] 48)).alloc (.cells (outCells (out0 []) (.slice none 0 0)).toArray 40))) := (((Below.refl _ _).alloc (Nat.le_refl _) _).alloc (by simp) _)
  obtain ⟨W1, hW1⟩ : ∃ W1, (w.alloc (.cells #[p0, p1, p2] 48)).alloc (.cells (outCells (out0 []) (.slice none 0 0)).toArray 40) = W1 := ⟨_, rfl⟩
  rw [hW1] at KB OB BL
  have hW2 : (w.alloc (.cells #[p0, p1, p2] 48)).alloc (.cells #[.bool false, .int .i64 0, .string ⟨#[]⟩, .int .i64 0, .int .i64 0, .int .i64 0, .int .i64 0, .string ⟨#[]⟩, .slice none 0 0] 40) = W1 := hW1
  rw [hW2]
  clear hW1 hW2
  go_cut [4] (fun v wd => v = .int .i64 (max links 0) ∧ W1 = wd)
  case first =>
    by_cases hz : links < 0
    · have e : max links 0 = 0 := by omega
      have E := Lib.hid e
      clear e
      go_wp2_with fail
      go_meet
      case rel => exact ⟨by rw [E.out], rfl⟩
    · have e : max links 0 = links := by omega
      have E := Lib.hid e
      clear e
      go_wp2_with fail
      go_meet
      case rel => exact ⟨by rw [E.out], rfl⟩
  case rest =>
    as_aux_lemma =>
      obtain ⟨rfl, rfl⟩ := hcut
      obtain ⟨mx, hmx⟩ : ∃ mx, max links 0 = mx := ⟨_, rfl⟩
      rw [hmx] at HL ⊢
      have hm0 : 0 ≤ mx := by omega
      have hm1 : mx ≤ 9223372036854775807 := by omega
      clear hmx
      go_upto_if 27 with fail
      go_cut [4] (fun v wd => v = .int .i64 L ∧ W1 = wd)
      case first =>
        by_cases hz : 8 < mx
        · have e : (L : Int) = 8 := by have := HL.out; omega
          have E := Lib.hid e
          clear e
          go_wp2_with fail
          go_meet
          case rel => exact ⟨by rw [E.out], rfl⟩
        · have e : (L : Int) = mx := by have := HL.out; omega
          have E := Lib.hid e
          clear e
          go_wp2_with fail
          go_meet
          case rel => exact ⟨by rw [E.out], rfl⟩
      case rest =>
        as_aux_lemma =>
          obtain ⟨rfl, rfl⟩ := hcut
          have hkl := KB.out.lt
          have hol := OB.out.lt
          have hwz := BL.out.size
          have e0 : (Value.slice none 0 0).ownBlock = none := rfl
          go_upto_region 6 with ((with_reducible refine wpList_isBuiltin .append ?_); refine wpList_hold ?_)
          refine Lib.hid ?_
          refine wpList_append_rd rfl _ _ rfl elemTexts (v := .slice none 0 0) rfl (World.ownsRow_nil W1 W1.heap.size 9 1) rfl (HS.out.below BL.out) (txts_one _) ?c1 ?c2 (Nat.le_refl _) ?_
          case c1 => unfold maxLen; omega
          case c2 => omega
          intro v2 W2 hown2 hg2 hb2
          have HO2 : Hid (W2.ownsRow W1.heap.size 9 1 v2 m (txts ss)) := by
            refine Lib.hid ?_
            simpa using hown2
          have HB2 : Hid (Below W1.heap.size W1 W2) := (Below.refl _ _).grown hg2 (Nat.le_refl _) (fun k hk => by cases hk)
          clear hown2 hg2 hb2
          go_upto_region 6 with fail
          obtain ⟨A2, cc2, rfl⟩ := own_slice HO2.out
          have hcap2 := own_cap HO2.out
          have hfr2 := own_lt_ HO2.out
          go_wp2_with fail
          refine (refRoot_any _).mono ?_
          rintro r W3 ⟨rfl, hb3⟩
          have HB3 := Lib.hid hb3
          clear hb3
          have hrd4 := rd_new W3 34 4 1 [.int .i64 1, .int .i64 1, .int .i64 0, .string ⟨#[]⟩] rfl
          have HR4 : Hid (Rd (W3.alloc (.cells #[.int .i64 1, .int .i64 1, .int .i64 0, .string ⟨#[]⟩] 34)) 4 (some ⟨W3.heap.size, 0, none⟩) 1 (cNds [rootNd])) := hrd4
          clear hrd4
          go_wp2_with fail
          refine (refRoot_any _).mono ?_
          rintro r W5 ⟨rfl, hb5⟩
          have HB5 := Lib.hid hb5
          clear hb5
          have hz2 := HB2.out.size
          have hz3 := HB3.out.size
          have hz5 := HB5.out.size
          simp only [World.size_alloc] at hz5
          have hb15 : Below W1.heap.size W1 W5 := ((HB2.out.trans (HB3.out.mono hz2)).alloc (by omega) _).trans (HB5.out.mono (by simp; omega))
          have hbw5 : Below w.heap.size w W5 := BL.out.trans (hb15.mono BL.out.size)
          have hb25 : Below W2.heap.size W2 W5 := ((HB3.out).alloc (by omega) _).trans (HB5.out.mono (by simp; omega))
          have HRS : Hid (RS w [p0, p1, p2] W5.heap.size A2 cc2 (some ⟨W3.heap.size, 0, none⟩) 1 none 0 ss [rootNd] [] rootNd (W5.alloc (.cells #[.int .i64 1, .int .i64 1, .int .i64 0, .string ⟨#[]⟩] 34))) := by
            refine ⟨(KB.out.below hb15).alloc _, (OB.out.below hb15).alloc _, At.new W5 34 (cNd rootNd), ?_, by rw [hsl]; exact hcap2, (HR4.out.below HB5.out).alloc _, ⟨by simp, by simp [maxLen]⟩, World.ownsRow_nil _ _ _ _, hbw5.alloc hbw5.size _, by omega, (fun k q => by cases q), (fun ad e h0 => ⟨?_, by simp [Value.ownBlock]⟩), (fun ad e h0 => ⟨?_, by simp [Value.ownBlock]⟩)⟩
            · rw [hsl]
              exact ((Rd.of_own HO2.out).below hb25).alloc _
            · have := (hfr2 ad e).2
              omega
            · injection e with e
              subst e
              simp only
              omega
          clear hcap2 hfr2 hb15 hbw5 hb25 hz2 hz3 hz5 HB2 HB3 HB5 HR4 HO2 KB OB BL hkl hol hwz e0
          go_upto_region 8 with fail
          rw [← hsl] at hm ⊢
          clear hsl
          obtain ⟨g, hg⟩ : ∃ g, W5.heap.size = g := ⟨_, rfl⟩
          obtain ⟨wa, hwa⟩ : ∃ wa, W3.heap.size = wa := ⟨_, rfl⟩
          rw [hg, hwa] at HRS
          rw [hg, hwa]
          obtain ⟨W6, hW6⟩ : ∃ W6, (W5.alloc (.cells #[.int .i64 1, .int .i64 1, .int .i64 0, .string ⟨#[]⟩] 34)) = W6 := ⟨_, rfl⟩
          rw [hW6] at HRS ⊢
          clear hg hwa hW6
          go_wp2_with fail
          go_loopg [2, 11, 12, 14, 15] (98 * L + ss.length) (fun gh dv lv wv uv mv wx => ∃ (dir' : Bool) (Ta : Option Addr) (ct : Nat) (tl : List (List UInt8)) (Wa : Option Addr) (cw : Nat) (wl : List Nd) (Au : Option Addr) (cu : Nat) (used : List Key) (at_ : Nd) (mt : Nat),
            gh = 98 * (L - mt) + tl.length ∧ dv = .bool dir' ∧ lv = .slice Ta tl.length ct ∧ wv = .slice Wa wl.length cw ∧ uv = .slice Au used.length cu ∧ mv = .int .i64 mt ∧ mt ≤ L ∧
            used.length + tl.length + 98 * (L - mt) ≤ ss.length + 98 * L ∧ wl.length + tl.length + 98 * (L - mt) ≤ ss.length + 1 + 98 * L ∧
            Hid (RS w [p0, p1, p2] g Ta ct Wa cw Au cu tl wl used at_ wx) ∧ Hid (WayOk wl at_) ∧ Hid (Wk.steps kn follow (L - mt) tl (wayOf wl at_) dir' used = RUN))
          case atStart => exact ⟨dir, A2, cc2, ss, _, _, [rootNd], none, 0, [], rootNd, 0, by omega, rfl, rfl, rfl, rfl, rfl, by omega, by simp, by simp; omega, HRS, wayOk_start, hR⟩
          case round =>
            obtain ⟨dir', Ta, ct, tl, Wa, cw, wl, Au, cu, used, at_, mt, rfl, rfl, rfl, rfl, rfl, rfl, hmt, hb1, hb2, HI, HW, HP⟩ := hrel
            cases tl with
            | nil =>
              simp only [List.length_nil] at *
              obtain ⟨ai, ak, am, at4⟩ := at_
              have q0 : wr.cell? ⟨g, 0, none⟩ = some (.int .i64 ai) := by rw [HI.out.ab.cell]; rfl
              have q1 : wr.cell? ⟨g, 1, none⟩ = some (.int .i64 ak) := by rw [HI.out.ab.cell]; rfl
              have q2 : wr.cell? ⟨g, 2, none⟩ = some (.int .i64 am) := by rw [HI.out.ab.cell]; rfl
              have q3 : wr.cell? ⟨g, 3, none⟩ = some (.string ⟨at4.toArray⟩) := by rw [HI.out.ab.cell]; rfl
              have hp := HP.out
              rw [Wk.steps, lastNd_wayOf HW.out] at hp
              simp only at hp
              cases hd : (dir' && (ak != 1)) with
              | true =>
                obtain ⟨hd1, hd2⟩ := Bool.and_eq_true_iff.1 hd
                subst hd1
                have hd3 : ak ≠ 1 := by simpa using hd2
                rw [if_pos ⟨rfl, hd3⟩] at hp
                have HP' := Lib.hid hp
                clear hp hd hd3
                go_wp2_with ((with_reducible refine wpList_isStore 40 (.tmp 10) (.tmp 157) ?_); refine wpList_hold ?_)
                refine Lib.hid ?_
                refine wpList_store_blk rfl 40 (.tmp 10) (.tmp 157) rfl (w.heap.size + 1) 0 (vOut (Wk.fail 42 used) (.slice Au used.length cu)) rfl rfl HI.out.ob info_out ?c2 rfl ?_
                case c2 => exact Nat.le_refl 9
                intro w9 hr9 hk9 hz9
                have HR9 : Hid (At w9 (w.heap.size + 1) 40 (outCells (Wk.fail 42 used) (.slice Au used.length cu))) := hr9
                have HK9 := Lib.hid hk9
                clear hr9 hk9 hz9
                go_wp2_with fail
                refine bodyPost_ret (v := vOut (Wk.fail 42 used) (.slice Au used.length cu)) (results_cell_row rfl _ _ _ _ _ _ _ rfl HR9.out Tryz.underlying40 rfl info_out) rfl ?_
                rw [← HP'.out]
                exact ⟨_, rfl, own_kp HI.out.us HK9.out (fun k hk => (HI.out.un k hk).2.2), HI.out.bl.trans (HK9.out.to_below HI.out.bl.size (fun k hk => by omega))⟩
              | false =>
                have hno : ¬ (dir' = true ∧ ak ≠ 1) := by
                  rintro ⟨h1, h2⟩
                  rw [h1] at hd
                  simp at hd
                  exact h2 hd
                rw [if_neg hno] at hp
                have HP' := Lib.hid hp
                have hd4 : dir' = false ∨ (dir' = true ∧ (ak != 1) = false) := by
                  cases dir' with
                  | false => exact .inl rfl
                  | true => exact .inr ⟨rfl, by simpa using hd⟩
                clear hp hd hno
                rcases hd4 with rfl | ⟨rfl, hd5⟩
                · go_wp2_with ((with_reducible refine wpList_isStore 40 (.tmp 10) (.tmp 160) ?_); refine wpList_hold ?_)
                  refine Lib.hid ?_
                  refine wpList_store_blk rfl 40 (.tmp 10) (.tmp 160) rfl (w.heap.size + 1) 0 (vOut (false, Wk.noKey, 0, (ai, ak, am, at4), used) (.slice Au used.length cu)) rfl rfl HI.out.ob info_out ?c2 rfl ?_
                  case c2 => exact Nat.le_refl 9
                  intro w9 hr9 hk9 hz9
                  have HR9 : Hid (At w9 (w.heap.size + 1) 40 (outCells (false, Wk.noKey, 0, (ai, ak, am, at4), used) (.slice Au used.length cu))) := hr9
                  have HK9 := Lib.hid hk9
                  clear hr9 hk9 hz9
                  go_wp2_with fail
                  refine bodyPost_ret (v := vOut (false, Wk.noKey, 0, (ai, ak, am, at4), used) (.slice Au used.length cu)) (results_cell_row rfl _ _ _ _ _ _ _ rfl HR9.out Tryz.underlying40 rfl info_out) rfl ?_
                  rw [← HP'.out]
                  exact ⟨_, rfl, own_kp HI.out.us HK9.out (fun k hk => (HI.out.un k hk).2.2), HI.out.bl.trans (HK9.out.to_below HI.out.bl.size (fun k hk => by omega))⟩
                · go_wp2_with ((with_reducible refine wpList_isStore 40 (.tmp 10) (.tmp 160) ?_); refine wpList_hold ?_)
                  refine Lib.hid ?_
                  refine wpList_store_blk rfl 40 (.tmp 10) (.tmp 160) rfl (w.heap.size + 1) 0 (vOut (false, Wk.noKey, 0, (ai, ak, am, at4), used) (.slice Au used.length cu)) rfl rfl HI.out.ob info_out ?c2 rfl ?_
                  case c2 => exact Nat.le_refl 9
                  intro w9 hr9 hk9 hz9
                  have HR9 : Hid (At w9 (w.heap.size + 1) 40 (outCells (false, Wk.noKey, 0, (ai, ak, am, at4), used) (.slice Au used.length cu))) := hr9
                  have HK9 := Lib.hid hk9
                  clear hr9 hk9 hz9
                  go_wp2_with fail
                  refine bodyPost_ret (v := vOut (false, Wk.noKey, 0, (ai, ak, am, at4), used) (.slice Au used.length cu)) (results_cell_row rfl _ _ _ _ _ _ _ rfl HR9.out Tryz.underlying40 rfl info_out) rfl ?_
                  rw [← HP'.out]
                  exact ⟨_, rfl, own_kp HI.out.us HK9.out (fun k hk => (HI.out.un k hk).2.2), HI.out.bl.trans (HK9.out.to_below HI.out.bl.size (fun k hk => by omega))⟩
            | cons s tl =>
              have hct := HI.out.tc
              rw [List.length_cons] at hct
              obtain ⟨hct1, hct2⟩ := hct
              unfold maxLen at hct2
              obtain ⟨ad, sb, rfl, hadb, hs0, hc0⟩ := HI.out.td.str_at (k := 0) (by simp)
              obtain rfl : s = sb.toList := by simpa using hs0
              rw [List.length_cons] at *
              rw [addr_zero] at hc0
              obtain ⟨ai, ak, am, at4⟩ := at_
              clear hs0
              go_upto_region 12 with fail
              go_cut [11] (fun lv wd => ∃ Tb cb, lv = .slice Tb tl.length cb ∧ Hid (RS w [p0, p1, p2] g Tb cb Wa cw Au cu tl wl used (ai, ak, am, at4) wd))
              case first =>
                go_wp2_with fail
                · have h := (HI.out.tail).1 (by assumption)
                  go_meet
                  case rel => exact ⟨_, _, rfl, h⟩
                · have h := (HI.out.tail).2 (by assumption)
                  rw [add_at _ _ (by decide)] at h
                  go_meet
                  case rel => exact ⟨_, _, rfl, h⟩
              case rest =>
                as_aux_lemma =>
                  obtain ⟨Tb, cb, rfl, hcut⟩ := hcut
                  have HC := Lib.hid hcut.out
                  obtain ⟨w2, hw2⟩ : ∃ w2 : World, w2 = wc := ⟨_, rfl⟩
                  subst hw2
                  clear hcut hc0 hadb hct1 hct2
                  have q0 : w2.cell? ⟨g, 0, none⟩ = some (.int .i64 ai) := by rw [HC.out.ab.cell]; rfl
                  have q1 : w2.cell? ⟨g, 1, none⟩ = some (.int .i64 ak) := by rw [HC.out.ab.cell]; rfl
                  cases hkd : (ak != 1) with
                  | true =>
                    have HP' := Lib.hid ((Wk.steps_notdir kn follow (L - mt) sb.toList tl dir' used (lastNd_wayOf HW.out) (by simpa using hkd)).symm.trans HP.out)
                    go_wp2_with ((with_reducible refine wpList_isStore 40 (.tmp 10) (.tmp 45) ?_); refine wpList_hold ?_)
                    refine Lib.hid ?_
                    refine wpList_store_blk rfl 40 (.tmp 10) (.tmp 45) rfl (w.heap.size + 1) 0 (vOut (Wk.fail 42 used) (.slice Au used.length cu)) rfl rfl HC.out.ob info_out ?c2 rfl ?_
                    case c2 => exact Nat.le_refl 9
                    intro w9 hr9 hk9 hz9
                    have HR9 : Hid (At w9 (w.heap.size + 1) 40 (outCells (Wk.fail 42 used) (.slice Au used.length cu))) := hr9
                    have HK9 := Lib.hid hk9
                    clear hr9 hk9 hz9
                    go_wp2_with fail
                    refine bodyPost_ret (v := vOut (Wk.fail 42 used) (.slice Au used.length cu)) (results_cell_row rfl _ _ _ _ _ _ _ rfl HR9.out Tryz.underlying40 rfl info_out) rfl ?_
                    rw [← HP'.out]
                    exact ⟨_, rfl, own_kp HC.out.us HK9.out (fun k hk => (HC.out.un k hk).2.2), HC.out.bl.trans (HK9.out.to_below HC.out.bl.size (fun k hk => by omega))⟩
                  | false =>
                    have hk1 : ak = 1 := by simpa using hkd
                    subst hk1
                    have hwo := wayOf_dir (way := wl) (at_ := (ai, 1, am, at4)) rfl
                    cases d1 : (sb.toList == [46]) with
                    | true =>
                      have hd1 : sb.toList = [46] := by simpa using d1
                      have hp := HP.out
                      rw [hd1, Wk.steps_dot kn follow (L - mt) tl dir' used (lastNd_wayOf HW.out) rfl] at hp
                      have HP' := Lib.hid hp
                      clear hp hd1
                      go_wp2_with fail
                      go_roundg (98 * (L - mt) + tl.length)
                      case measure => omega
                      case rel => exact ⟨dir', Tb, cb, tl, Wa, cw, wl, Au, cu, used, _, mt, rfl, rfl, rfl, rfl, rfl, rfl, hmt, by omega, by omega, HC.out, HW.out, HP'.out⟩
                    | false =>
                      cases d2 : (sb.toList == [46, 46]) with
                      | true =>
                        have hd2 : sb.toList = [46, 46] := by simpa using d2
                        have hp := HP.out
                        rw [hd2, Wk.steps_up kn follow (L - mt) tl dir' used (lastNd_wayOf HW.out) rfl, hwo] at hp
                        obtain ⟨x, hx1, hx2, hx3⟩ := wayOk_up HW.out
                        have hwl : 0 < wl.length := List.length_pos_iff.2 (wayOk_ne HW.out)
                        obtain ⟨hwc1, hwc2⟩ := HC.out.wc
                        unfold maxLen at hwc2
                        obtain ⟨k2, hk2, hk3, hk4⟩ := up_take wl hwl
                        rw [hk2] at hx1 hx3 hp
                        have hdir : wayOf (wl.take (k2 + 1)) x = wl.take (k2 + 1) := wayOf_dir hx2
                        rw [← hdir] at hp
                        have HP' := Lib.hid hp
                        have HX1 := Lib.hid hx1
                        have HX3 := Lib.hid hx3
                        have HK3 := Lib.hid hk3
                        have HK4 := Lib.hid hk4
                        clear hp hd2 hx1 hx2 hx3 hk2 hk3 hk4 hdir
                        go_upto_if 52 with fail
                        go_cut [12] (fun v wd => v = .slice Wa (k2 + 1) cw ∧ w2 = wd)
                        case first =>
                          by_cases hz : 1 < wl.length
                          · have e : wl.length - 1 = k2 + 1 := by have := HK3.out hz; omega
                            have E := Lib.hid e
                            clear e
                            go_wp2_with fail
                            go_meet
                            case rel => exact ⟨by rw [E.out], rfl⟩
                          · have e : wl.length = k2 + 1 := by have := HK4.out (by omega); omega
                            have E := Lib.hid e
                            clear e
                            go_wp2_with fail
                            go_meet
                            case rel => exact ⟨by rw [E.out], rfl⟩
                        case rest =>
                          as_aux_lemma =>
                            obtain ⟨rfl, rfl⟩ := hcut
                            have hle : k2 + 1 ≤ wl.length := by
                              by_cases hz : 1 < wl.length
                              · have := HK3.out hz; omega
                              · have := HK4.out (by omega); omega
                            have hlen : (wl.take (k2 + 1)).length = k2 + 1 := by rw [List.length_take]; omega
                            have HC2 := Lib.hid (HC.out.cut hle)
                            have hwy := HC2.out.wy
                            rw [hlen] at hwy
                            obtain ⟨ad, xi, xk, xm, xt, rfl, hb, hx2, h0, h1, h2, h3⟩ := hwy.nd_at (k := k2) (by omega)
                            have hxe : x = (xi, xk, xm, xt) := by
                              have := HX1.out
                              rw [List.getLast?_eq_getElem?, hlen, Nat.add_sub_cancel, hx2] at this
                              injection this with this
                              exact this.symm
                            subst hxe
                            have HLN := Lib.hid hlen
                            clear hwy hx2 hwc1 q0 q1 hlen
                            go_wp2_with ((with_reducible refine wpList_isStore 34 (.tmp 13) (.tmp 63) ?_); refine wpList_hold ?_)
                            refine Lib.hid ?_
                            refine wpList_store_blk rfl 34 (.tmp 13) (.tmp 63) rfl g 0 (vNd (xi, xk, xm, xt)) rfl rfl HC2.out.ab info_node ?c2 rfl ?_
                            case c2 => exact Nat.le_refl 4
                            intro w9 hr9 hk9 hz9
                            have HC3 := Lib.hid (HC2.out.setAt hk9 hr9)
                            clear hr9 hk9 hz9 h0 h1 h2 h3
                            go_wp2_with fail
                            go_roundg (98 * (L - mt) + tl.length)
                            case measure => omega
                            case rel => exact ⟨dir', Tb, cb, tl, some ad, cw, wl.take (k2 + 1), Au, cu, used, _, mt, rfl, rfl, rfl, by rw [HLN.out], rfl, rfl, hmt, by omega, by rw [HLN.out]; omega, HC3.out, HX3.out, HP'.out⟩
                      | false =>
                        have hp := HP.out
                        rw [Wk.steps_name kn follow (L - mt) tl dir' used (lastNd_wayOf HW.out) rfl (s := sb.toList) (by simpa using d2) (by simpa using d1), hwo] at hp
                        simp only at hp
                        obtain ⟨k, hk⟩ : ∃ k : Key, ((ai, sb.toList) : Key) = k := ⟨_, rfl⟩
                        have hvk : Value.agg #[.int .i64 ai, .string sb] = vKey k := by rw [← hk]; simp only [vKey, txt_toList]
                        have hck : ([.int .i64 ai, .string sb] : List Value) = cKey k := by rw [← hk]; simp only [cKey, txt_toList]
                        rw [hk] at hp
                        have HVK := Lib.hid hvk
                        have HCK := Lib.hid hck
                        have HP' := Lib.hid hp
                        clear hp hvk hck hk
                        go_upto_region 21 with fail
                        have KY : Hid (At (w2.alloc (.cells #[.int .i64 ai, .string sb] 32)) w2.heap.size 32 [.int .i64 ai, .string sb]) := At.new w2 32 [.int .i64 ai, .string sb]
                        have HC3 := Lib.hid (HC.out.next ((Below.refl _ _).alloc (Nat.le_refl _) (.cells #[.int .i64 ai, .string sb] 32)))
                        have hfk := HC.out.fresh (Nat.le_refl w2.heap.size)
                        obtain ⟨ky, hky⟩ : ∃ ky, w2.heap.size = ky := ⟨_, rfl⟩
                        obtain ⟨w3, hw3⟩ : ∃ w3, w2.alloc (.cells #[.int .i64 ai, .string sb] 32) = w3 := ⟨_, rfl⟩
                        rw [hky, hw3] at KY
                        rw [hw3] at HC3
                        rw [hky] at hfk
                        rw [hky, hw3]
                        have hlk := HLK.out w3 k HC3.out.bl
                        rw [← HVK.out] at hlk
                        unfold lookV at hlk
                        obtain ⟨KN, hKN⟩ : ∃ KN, kn k = KN := ⟨_, rfl⟩
                        have hp := HP'.out
                        rw [hKN] at hlk hp
                        have HLK3 := Lib.hid hlk
                        clear HP'
                        have HP' := Lib.hid hp
                        clear hlk hp hky hw3 q0 q1 hKN
                        have k0 : w3.cell? ⟨w.heap.size, 0, none⟩ = some p0 := by rw [HC3.out.kb.cell]; rfl
                        have k1 : w3.cell? ⟨w.heap.size, 1, none⟩ = some p1 := by rw [HC3.out.kb.cell]; rfl
                        have k2 : w3.cell? ⟨w.heap.size, 2, none⟩ = some p2 := by rw [HC3.out.kb.cell]; rfl
                        have y0 : w3.cell? ⟨ky, 0, none⟩ = some (.int .i64 ai) := by rw [KY.out.cell]; rfl
                        have y1 : w3.cell? ⟨ky, 1, none⟩ = some (.string sb) := by rw [KY.out.cell]; rfl
                        go_wp2_with fail
                        refine (HLK3.out).mono ?_
                        rintro r w4 ⟨rfl, hb4⟩
                        obtain ⟨EY, hEY⟩ : ∃ EY, KN.getD (k, true, 0, 0, 0, []) = EY := ⟨_, rfl⟩
                        rw [hEY]
                        have HEY := Lib.hid hEY
                        have hz4 := hb4.size
                        have hky4 := KY.out.lt
                        have XY4 : Hid (At (w4.alloc (.cells #[.int .i64 0, .string ⟨#[]⟩, .bool false, .int .i64 0, .int .i64 0, .int .i64 0, .string ⟨#[]⟩] 36)) w4.heap.size 36 [.int .i64 0, .string ⟨#[]⟩, .bool false, .int .i64 0, .int .i64 0, .int .i64 0, .string ⟨#[]⟩]) := At.new w4 36 [.int .i64 0, .string ⟨#[]⟩, .bool false, .int .i64 0, .int .i64 0, .int .i64 0, .string ⟨#[]⟩]
                        have HB4 := Lib.hid (hb4.alloc hz4 (.cells #[.int .i64 0, .string ⟨#[]⟩, .bool false, .int .i64 0, .int .i64 0, .int .i64 0, .string ⟨#[]⟩] 36))
                        clear hEY hb4 k0 k1 k2 y0 y1
                        go_wp2_with ((with_reducible refine wpList_isStore 36 (.tmp 18) (.tmp 72) ?_); refine wpList_hold ?_)
                        refine Lib.hid ?_
                        refine wpList_store_blk rfl 36 (.tmp 18) (.tmp 72) rfl w4.heap.size 0 (vEn EY) rfl rfl XY4.out info_entry ?c2 rfl ?_
                        case c2 => exact Nat.le_refl 7
                        intro w5 hx5 hk5 hz5
                        have hb5 := HB4.out.trans (hk5.to_below (B := w3.heap.size) (by simp; omega) (fun k hlt => by omega))
                        have HC5 := Lib.hid (HC3.out.next hb5)
                        have KY5 := Lib.hid (KY.out.below hb5)
                        have hfx := HC3.out.fresh hz4
                        obtain ⟨xb, hxb⟩ : ∃ xb, w4.heap.size = xb := ⟨_, rfl⟩
                        rw [hxb] at hfx hx5
                        rw [hxb]
                        have XY5 : Hid (At w5 xb 36 (cEn EY)) := hx5
                        have hkx : ky ≠ xb := by omega
                        clear hx5 hk5 hz5 hb5 HB4 XY4 HC3 KY HLK3 hz4 hky4 hxb
                        have y0 : w5.cell? ⟨ky, 0, none⟩ = some (.int .i64 ai) := by rw [KY5.out.cell]; rfl
                        have y1 : w5.cell? ⟨ky, 1, none⟩ = some (.string sb) := by rw [KY5.out.cell]; rfl
                        cases KN with
                        | none =>
                          have hp := HP'.out
                          clear HP'
                          simp only at hp
                          have HP' := Lib.hid hp
                          clear hp
                          go_wp2_with ((with_reducible refine wpList_isStore 40 (.tmp 10) (.tmp 78) ?_); refine wpList_hold ?_)
                          refine Lib.hid ?_
                          refine wpList_store_blk rfl 40 (.tmp 10) (.tmp 78) rfl (w.heap.size + 1) 0 (.agg #[.bool true, .int .i64 ai, .string sb, .int .i64 0, .int .i64 0, .int .i64 0, .int .i64 0, .string ⟨#[]⟩, .slice Au used.length cu]) rfl rfl HC5.out.ob info_out ?c2 rfl ?_
                          case c2 => exact Nat.le_refl 9
                          intro w9 hr9 hk9 hz9
                          have hr10 : Hid (At w9 (w.heap.size + 1) 40 ([.bool true] ++ [.int .i64 ai, .string sb] ++ [.int .i64 0, .int .i64 0, .int .i64 0, .int .i64 0, .string ⟨#[]⟩, .slice Au used.length cu])) := hr9
                          rw [HCK.out] at hr10
                          have HR9 : Hid (At w9 (w.heap.size + 1) 40 (outCells (true, k, 0, Wk.noNd, used) (.slice Au used.length cu))) := hr10
                          have HK9 := Lib.hid hk9
                          clear hr9 hr10 hk9 hz9
                          go_wp2_with fail
                          refine bodyPost_ret (v := vOut (true, k, 0, Wk.noNd, used) (.slice Au used.length cu)) (results_cell_row rfl _ _ _ _ _ _ _ rfl HR9.out Tryz.underlying40 rfl info_out) rfl ?_
                          rw [← HP'.out]
                          exact ⟨_, rfl, own_kp HC5.out.us HK9.out (fun k hk => (HC5.out.un k hk).2.2), HC5.out.bl.trans (HK9.out.to_below HC5.out.bl.size (fun k hk => by omega))⟩
                        | some y =>
                          obtain rfl : y = EY := HEY.out
                          obtain ⟨⟨yd, yn⟩, yneg, yi, yk, ym, yt⟩ := y
                          have hp := HP'.out
                          clear HP' HEY
                          simp only at hp
                          have HP' := Lib.hid hp
                          clear hp
                          have HRD : Hid (Rd (w5.alloc (.cells #[.int .i64 ai, .string sb] 32)) 2 (some ⟨w5.heap.size, 0, none⟩) 1 (cKeys [k])) := by
                            refine Lib.hid ?_
                            have e : cKeys [k] = [.int .i64 ai, .string sb] := by rw [HCK.out]; simp [cKeys]
                            rw [e]
                            exact rd_new w5 32 2 1 [.int .i64 ai, .string sb] rfl
                          have HC5a := Lib.hid (HC5.out.next ((Below.refl _ _).alloc (Nat.le_refl _) (.cells #[.int .i64 ai, .string sb] 32)))
                          have XY5a := Lib.hid (XY5.out.alloc (.cells #[.int .i64 ai, .string sb] 32))
                          have hub : used.length + 1 ≤ 2001000 := by omega
                          go_wp2_with ((with_reducible refine wpList_isBuiltin .append ?_); refine wpList_hold ?_)
                          refine Lib.hid ?_
                          refine wpList_append_rd rfl _ _ rfl elemKeys (v := .slice Au used.length cu) rfl HC5a.out.us rfl HRD.out (cKeys_one _) ?c1 ?c2 HC5a.out.bl.size ?_
                          case c1 => unfold maxLen; omega
                          case c2 => omega
                          intro v6 w6 hown6 hg6 hl6
                          have hown7 : w6.ownsRow w.heap.size 32 2 v6 (used.length + 1) (cKeys (used ++ [k])) := by
                            rw [show cKeys (used ++ [k]) = cKeys used ++ cKeys [k] from by simp [cKeys]]
                            exact hown6
                          obtain ⟨A6, c6, rfl, hc6⟩ := HC5a.out.use hown7 hg6 hl6
                          have XY6 := Lib.hid (XY5a.out.kp ((Kp.refl (fun j => (Value.slice Au used.length cu).ownBlock ≠ some j) _).grown hg6 fun i q _ k => k q) hfx.2)
                          have hul : used.length + 1 = (used ++ [k]).length := by simp
                          rw [hul]
                          obtain ⟨us, hus⟩ : ∃ us, used ++ [k] = us := ⟨_, rfl⟩
                          rw [hus] at hc6 hul HP'
                          rw [hus]
                          have HUL := Lib.hid hul
                          have HC6 := Lib.hid hc6
                          clear hown6 hown7 hg6 hl6 hul hus hc6 HC5 HC5a XY5 XY5a HRD KY5 HC HI y0 y1
                          have x2 : w6.cell? ⟨xb, 2, none⟩ = some (.bool yneg) := by rw [XY6.out.cell]; rfl
                          cases yneg with
                          | true =>
                            have hp := HP'.out
                            clear HP'
                            simp only [if_true] at hp
                            have HP' := Lib.hid hp
                            clear hp
                            go_wp2_with ((with_reducible refine wpList_isStore 40 (.tmp 10) (.tmp 86) ?_); refine wpList_hold ?_)
                            refine Lib.hid ?_
                            refine wpList_store_blk rfl 40 (.tmp 10) (.tmp 86) rfl (w.heap.size + 1) 0 (vOut (Wk.fail 40 us) (.slice A6 us.length c6)) rfl rfl HC6.out.ob info_out ?c2 rfl ?_
                            case c2 => exact Nat.le_refl 9
                            intro w9 hr9 hk9 hz9
                            have HR9 : Hid (At w9 (w.heap.size + 1) 40 (outCells (Wk.fail 40 us) (.slice A6 us.length c6))) := hr9
                            have HK9 := Lib.hid hk9
                            clear hr9 hk9 hz9
                            go_wp2_with fail
                            refine bodyPost_ret (v := vOut (Wk.fail 40 us) (.slice A6 us.length c6)) (results_cell_row rfl _ _ _ _ _ _ _ rfl HR9.out Tryz.underlying40 rfl info_out) rfl ?_
                            rw [← HP'.out]
                            exact ⟨_, rfl, own_kp HC6.out.us HK9.out (fun k hk => (HC6.out.un k hk).2.2), HC6.out.bl.trans (HK9.out.to_below HC6.out.bl.size (fun k hk => by omega))⟩
                          | false =>
                            have hp := HP'.out
                            clear HP'
                            simp only [Bool.false_eq_true, if_false] at hp
                            have HP' := Lib.hid hp
                            clear hp
                            have x4 : w6.cell? ⟨xb, 4, none⟩ = some (.int .i64 yk) := by rw [XY6.out.cell]; rfl
                            go_upto_region 27 with fail
                            go_cut [103] (fun v wd => v = .bool ((yk != 3) || (((tl.length : Int) == 0) && (!dir' && !follow))) ∧ w6 = wd)
                            case first =>
                              cases hk3 : (yk != 3) with
                              | true =>
                                go_wp2_with fail
                                go_meet
                                case rel => exact ⟨by rw [hk3]; rfl, rfl⟩
                              | false =>
                                cases htl : ((tl.length : Int) == 0) with
                                | false =>
                                  go_wp2_with fail
                                  go_meet
                                  case rel => exact ⟨by rw [hk3, htl]; rfl, rfl⟩
                                | true =>
                                  cases dir' with
                                  | true =>
                                    go_wp2_with fail
                                    go_meet
                                    case rel => exact ⟨by rw [hk3, htl]; rfl, rfl⟩
                                  | false =>
                                    go_wp2_with fail
                                    go_meet
                                    case rel => exact ⟨by rw [hk3, htl]; rfl, rfl⟩
                            case rest =>
                              as_aux_lemma =>
                                obtain ⟨rfl, rfl⟩ := hcut
                                clear x2 x4
                                cases hCB : ((yk != 3) || (((tl.length : Int) == 0) && (!dir' && !follow))) with
                                | true =>
                                  have hC : yk ≠ 3 ∨ (tl = [] ∧ dir' = false ∧ follow = false) := by
                                    simp only [Bool.or_eq_true, bne_iff_ne, Bool.and_eq_true, beq_iff_eq, Bool.not_eq_true'] at hCB
                                    rcases hCB with h | ⟨h1, h2⟩
                                    · exact .inl h
                                    · exact .inr ⟨List.eq_nil_of_length_eq_zero (by omega), h2⟩
                                  have hp := HP'.out
                                  rw [if_pos hC] at hp
                                  clear HP'
                                  have HP' := Lib.hid hp
                                  have x3 : w6.cell? ⟨xb, 3, none⟩ = some (.int .i64 yi) := by rw [XY6.out.cell]; rfl
                                  have x4 : w6.cell? ⟨xb, 4, none⟩ = some (.int .i64 yk) := by rw [XY6.out.cell]; rfl
                                  have x5 : w6.cell? ⟨xb, 5, none⟩ = some (.int .i64 ym) := by rw [XY6.out.cell]; rfl
                                  have x6 : w6.cell? ⟨xb, 6, none⟩ = some (.string ⟨yt.toArray⟩) := by rw [XY6.out.cell]; rfl
                                  clear hp hC hCB
                                  go_wp2_with ((with_reducible refine wpList_isStore 34 (.tmp 13) (.tmp 105) ?_); refine wpList_hold ?_)
                                  refine Lib.hid ?_
                                  refine wpList_store_blk rfl 34 (.tmp 13) (.tmp 105) rfl g 0 (vNd (yi, yk, ym, yt)) rfl rfl HC6.out.ab info_node ?c2 rfl ?_
                                  case c2 => exact Nat.le_refl 4
                                  intro w7 hr7 hk7 hz7
                                  have HC7 := Lib.hid (HC6.out.setAt (nd := (yi, yk, ym, yt)) hk7 hr7)
                                  clear hr7 hk7 hz7 x3 x4 x5 x6
                                  have q1 : w7.cell? ⟨g, 1, none⟩ = some (.int .i64 yk) := by rw [HC7.out.ab.cell]; rfl
                                  cases hyk : (yk == 1) with
                                  | false =>
                                    have hk1 : yk ≠ 1 := by simpa using hyk
                                    have e : wayOf wl (yi, yk, ym, yt) = wl ++ [(yi, yk, ym, yt)] := by unfold wayOf; rw [if_neg hk1]
                                    have hp := HP'.out
                                    rw [← e] at hp
                                    have HP2 := Lib.hid hp
                                    have HW7 := Lib.hid (wayOk_file (x := (yi, yk, ym, yt)) HW.out hk1)
                                    clear hp e hk1
                                    go_wp2_with fail
                                    go_roundg (98 * (L - mt) + tl.length)
                                    case measure => omega
                                    case rel => exact ⟨dir', Tb, cb, tl, Wa, cw, wl, A6, c6, us, _, mt, rfl, rfl, rfl, rfl, rfl, rfl, hmt, by have := HUL.out; omega, by omega, HC7.out, HW7.out, HP2.out⟩
                                  | true =>
                                    have hk1 : yk = 1 := by simpa using hyk
                                    subst hk1
                                    have q0 : w7.cell? ⟨g, 0, none⟩ = some (.int .i64 yi) := by rw [HC7.out.ab.cell]; rfl
                                    have q2 : w7.cell? ⟨g, 2, none⟩ = some (.int .i64 ym) := by rw [HC7.out.ab.cell]; rfl
                                    have q3 : w7.cell? ⟨g, 3, none⟩ = some (.string ⟨yt.toArray⟩) := by rw [HC7.out.ab.cell]; rfl
                                    have e : wayOf (wl ++ [((yi, 1, ym, yt) : Nd)]) (yi, 1, ym, yt) = wl ++ [(yi, 1, ym, yt)] := wayOf_dir rfl
                                    have hp := HP'.out
                                    rw [← e] at hp
                                    have HP2 := Lib.hid hp
                                    have HW7 := Lib.hid (wayOk_push (x := (yi, 1, ym, yt)) HW.out rfl)
                                    clear hp e
                                    go_upto_region 30 with fail
                                    go_cut [12] (fun v wd => ∃ A7 c7, v = .slice A7 (wl ++ [((yi, 1, ym, yt) : Nd)]).length c7 ∧ Hid (RS w [p0, p1, p2] g Tb cb A7 c7 A6 c6 tl (wl ++ [((yi, 1, ym, yt) : Nd)]) us (yi, 1, ym, yt) wd))
                                    case first =>
                                      go_region_law (first | (refine step_append_rd rfl (.const (.slice none 0 0)) (.tmp 109) rfl elemNds (base := w7.heap.size) (n := 0) (v := .slice none 0 0) (xs := []) rfl (World.ownsRow_nil _ _ _ _) rfl (HC7.out.wy.below (by repeat (first | exact Below.refl _ _ | refine bel_drew ?_ | refine bel_alloc ?_ _))) (cNds_one _) (by unfold maxLen; omega) (by omega) (Below.size (by repeat (first | exact Below.refl _ _ | refine bel_drew ?_ | refine bel_alloc ?_ _))) ?_; intro v8 w8 hown8 hg8 hl8; have ho8 : w8.ownsRow w7.heap.size 34 4 v8 wl.length (cNds wl) := (by simpa using hown8); obtain ⟨A8, c8, rfl⟩ := own_slice ho8; have HB8 : Hid (Below w7.heap.size w7 w8) := Lib.hid (bel_app (by repeat (first | exact Below.refl _ _ | refine bel_drew ?_ | refine bel_alloc ?_ _)) hg8 (fun k hk => by cases hk)); have HO8 := Lib.hid ho8; have q0' : w8.cell? ⟨g, 0, none⟩ = some (.int .i64 yi) := (by rw [(HC7.out.ab.below HB8.out).cell]; rfl); have q1' : w8.cell? ⟨g, 1, none⟩ = some (.int .i64 1) := (by rw [(HC7.out.ab.below HB8.out).cell]; rfl); have q2' : w8.cell? ⟨g, 2, none⟩ = some (.int .i64 ym) := (by rw [(HC7.out.ab.below HB8.out).cell]; rfl); have q3' : w8.cell? ⟨g, 3, none⟩ = some (.string ⟨yt.toArray⟩) := (by rw [(HC7.out.ab.below HB8.out).cell]; rfl); try (have HN8 : Hid (Rd w8 4 (some ⟨w7.heap.size, 0, none⟩) 1 (cNds [(yi, 1, ym, yt)])) := Lib.hid (Rd.grown (w := (w7.alloc (.cells #[.int .i64 yi, .int .i64 1, .int .i64 ym, .string ⟨yt.toArray⟩] 34)).drew) (rd_new w7 34 4 1 [.int .i64 yi, .int .i64 1, .int .i64 ym, .string ⟨yt.toArray⟩] rfl) hg8 (fun ad e q => by cases q))); clear hown8 hg8 hl8 ho8) | (refine step_append_rd rfl (.tmp 110) (.tmp 112) rfl elemNds (base := w7.heap.size) (n := wl.length) (v := .slice A8 wl.length c8) (xs := cNds wl) (m := 1) (news := cNds [(yi, 1, ym, yt)]) rfl (own_below HO8.out (by repeat (first | exact Below.refl _ _ | refine bel_drew ?_ | refine bel_alloc ?_ _))) rfl (by first | exact HN8.out | exact rd_new _ 34 4 1 [.int .i64 yi, .int .i64 1, .int .i64 ym, .string ⟨yt.toArray⟩] rfl) (cNds_one _) (by unfold maxLen; omega) (by omega) (Below.size (by repeat (first | exact Below.refl _ _ | exact HB8.out | refine bel_drew ?_ | refine bel_alloc ?_ _))) ?_; intro v9 w9 hown9 hg9 hl9; have ho9 : w9.ownsRow w7.heap.size 34 4 v9 (wl ++ [((yi, 1, ym, yt) : Nd)]).length (cNds (wl ++ [((yi, 1, ym, yt) : Nd)])) := (by rw [cNds_app, List.length_append]; exact hown9); obtain ⟨A9, c9, rfl⟩ := own_slice ho9; have HC9 := Lib.hid ((HC7.out.next (bel_app (by repeat (first | exact Below.refl _ _ | exact HB8.out | refine bel_drew ?_ | refine bel_alloc ?_ _)) hg9 (fun k q => (HO8.out.lt k q).1))).way (wl' := wl ++ [((yi, 1, ym, yt) : Nd)]) (Rd.of_own ho9) (own_cap ho9) (fun ad e h0 => HC7.out.fresh (own_lt_ ho9 ad e).1)); clear hown9 hg9 hl9 ho9))
                                      all_goals
                                        go_wp2_with fail
                                        go_meet
                                        case rel => exact ⟨A9, c9, (by first | rfl | simp), HC9.out⟩
                                    case rest =>
                                      as_aux_lemma =>
                                        obtain ⟨A7, c7, rfl, hcut⟩ := hcut
                                        have HC8 := Lib.hid hcut.out
                                        clear hcut q0 q1 q2 q3
                                        go_wp2_with fail
                                        go_roundg (98 * (L - mt) + tl.length)
                                        case measure => omega
                                        case rel => exact ⟨dir', Tb, cb, tl, A7, c7, _, A6, c6, us, _, mt, rfl, rfl, rfl, rfl, rfl, rfl, hmt, by have := HUL.out; omega, by rw [List.length_append, List.length_singleton]; omega, HC8.out, HW7.out, HP2.out⟩
                                | false =>
                                  have hC : ¬ (yk ≠ 3 ∨ (tl = [] ∧ dir' = false ∧ follow = false)) := by
                                    simp only [Bool.or_eq_false_iff, bne_eq_false_iff_eq, Bool.and_eq_false_iff, beq_eq_false_iff_ne, Bool.not_eq_false'] at hCB
                                    rintro (h | ⟨h1, h2, h3⟩)
                                    · exact h hCB.1
                                    · subst h1
                                      rcases hCB.2 with h | h
                                      · exact h rfl
                                      · rcases h with h | h
                                        · rw [h] at h2; cases h2
                                        · rw [h] at h3; cases h3
                                  have hp := HP'.out
                                  rw [if_neg hC] at hp
                                  clear HP' hC hCB
                                  by_cases hL0 : L - mt = 0
                                  · have hp2 : Wk.fail 49 us = RUN := by rw [hL0] at hp; exact hp
                                    have HP' := Lib.hid hp2
                                    have hle : (L : Int) ≤ mt := by omega
                                    clear hp hp2 hL0
                                    go_wp2_with ((with_reducible refine wpList_isStore 40 (.tmp 10) (.tmp 118) ?_); refine wpList_hold ?_)
                                    refine Lib.hid ?_
                                    refine wpList_store_blk rfl 40 (.tmp 10) (.tmp 118) rfl (w.heap.size + 1) 0 (vOut (Wk.fail 49 us) (.slice A6 us.length c6)) rfl rfl HC6.out.ob info_out ?c2 rfl ?_
                                    case c2 => exact Nat.le_refl 9
                                    intro w9 hr9 hk9 hz9
                                    have HR9 : Hid (At w9 (w.heap.size + 1) 40 (outCells (Wk.fail 49 us) (.slice A6 us.length c6))) := hr9
                                    have HK9 := Lib.hid hk9
                                    clear hr9 hk9 hz9
                                    go_wp2_with fail
                                    refine bodyPost_ret (v := vOut (Wk.fail 49 us) (.slice A6 us.length c6)) (results_cell_row rfl _ _ _ _ _ _ _ rfl HR9.out Tryz.underlying40 rfl info_out) rfl ?_
                                    rw [← HP'.out]
                                    exact ⟨_, rfl, own_kp HC6.out.us HK9.out (fun k hk => (HC6.out.un k hk).2.2), HC6.out.bl.trans (HK9.out.to_below HC6.out.bl.size (fun k hk => by omega))⟩
                                  · obtain ⟨L2, hL2⟩ : ∃ L2, L - mt = L2 + 1 := ⟨L - mt - 1, by omega⟩
                                    rw [hL2] at hp
                                    simp only at hp
                                    rw [show decide (tl = []) = decide (tl.length = 0) from by cases tl <;> simp] at hp
                                    have htg := refTarget_any ⟨yt.toArray⟩ w6
                                    have htl := Nm.targetR_len yt
                                    rw [toList_mk] at htg
                                    generalize Nm.targetR yt = R at htg hp htl
                                    obtain ⟨ts, whole, last, er⟩ := R
                                    simp only at htg hp htl
                                    have hlt : (mt : Int) < L := by omega
                                    have HM := Lib.hid htg
                                    have HP' := Lib.hid hp
                                    have HL2 := Lib.hid hL2
                                    have x6 : w6.cell? ⟨xb, 6, none⟩ = some (.string ⟨yt.toArray⟩) := by rw [XY6.out.cell]; rfl
                                    clear hp htg hL0 hL2
                                    go_wp2_with fail
                                    refine (HM.out).mono ?_
                                    rintro r w7 ⟨v7, rfl, hown7, hb7⟩
                                    obtain ⟨A7, c7, rfl⟩ := own_slice hown7
                                    have HC7 := Lib.hid (HC6.out.next hb7)
                                    have HO7 := Lib.hid hown7
                                    clear hown7 hb7 x6 HM
                                    by_cases her : er = 0
                                    · subst her
                                      have hp := HP'.out
                                      rw [if_neg (fun q => q rfl)] at hp
                                      obtain ⟨d2, hd2⟩ : ∃ d2, (dir' || (decide (tl.length = 0) && last)) = d2 := ⟨_, rfl⟩
                                      rw [hd2] at hp
                                      clear HP'
                                      have HP' := Lib.hid hp
                                      have HD2 := Lib.hid hd2
                                      clear hp hd2
                                      go_upto_if 137 with fail
                                      go_cut [2] (fun v wd => v = .bool d2 ∧ w7 = wd)
                                      case first =>
                                        cases htl0 : ((tl.length : Int) == 0) with
                                        | false =>
                                          have hn : decide (tl.length = 0) = false := by simpa using htl0
                                          have HN := Lib.hid hn
                                          clear hn
                                          go_wp2_with fail
                                          go_meet
                                          case rel => exact ⟨by rw [← HD2.out, HN.out, Bool.false_and, Bool.or_false], rfl⟩
                                        | true =>
                                          have hn : decide (tl.length = 0) = true := by simpa using htl0
                                          have HN := Lib.hid hn
                                          clear hn
                                          cases dir' with
                                          | true =>
                                            go_wp2_with fail
                                            go_meet
                                            case rel => exact ⟨by rw [← HD2.out, Bool.true_or], rfl⟩
                                          | false =>
                                            go_wp2_with fail
                                            go_meet
                                            case rel => exact ⟨by rw [← HD2.out, HN.out, Bool.true_and, Bool.false_or], rfl⟩
                                      case rest =>
                                        as_aux_lemma =>
                                          obtain ⟨rfl, rfl⟩ := hcut
                                          go_wp2_with ((with_reducible refine wpList_isBuiltin .append ?_); refine wpList_hold ?_)
                                          refine Lib.hid ?_
                                          refine wpList_append_rd rfl _ _ rfl elemTexts (v := .slice none 0 0) rfl (World.ownsRow_nil w7 w7.heap.size 9 1) rfl (Rd.of_own HO7.out) (txts_one _) ?c1 ?c2 (Nat.le_refl _) ?_
                                          case c1 => unfold maxLen; omega
                                          case c2 => omega
                                          intro v8 w8 hown8 hg8 hl8
                                          have ho8 : w8.ownsRow w7.heap.size 9 1 v8 ts.length (txts ts) := by simpa using hown8
                                          have hb8 : Below w7.heap.size w7 w8 := bel_app (Below.refl _ _) hg8 (fun k hk => by cases hk)
                                          obtain ⟨A8, c8, rfl⟩ := own_slice ho8
                                          have HO8 := Lib.hid ho8
                                          have HB8 := Lib.hid hb8
                                          have HC8 := Lib.hid (HC7.out.next hb8)
                                          clear hown8 hg8 hl8 ho8 hb8
                                          go_wp2_with ((with_reducible refine wpList_isBuiltin .append ?_); refine wpList_hold ?_)
                                          refine Lib.hid ?_
                                          refine wpList_append_rd rfl _ _ rfl elemTexts (v := .slice A8 ts.length c8) rfl HO8.out rfl HC8.out.td (txts_one _) ?c1 ?c2 HB8.out.size ?_
                                          case c1 => unfold maxLen; omega
                                          case c2 => omega
                                          intro v9 w9 hown9 hg9 hl9
                                          have ho9 : w9.ownsRow w7.heap.size 9 1 v9 (ts ++ tl).length (txts (ts ++ tl)) := by
                                            rw [txts_append, List.length_append]
                                            exact hown9
                                          obtain ⟨A9, c9, rfl⟩ := own_slice ho9
                                          have hb9 : Below w7.heap.size w7 w9 := bel_app HB8.out hg9 (fun k q => (HO8.out.lt k q).1)
                                          have hc9 := (HC7.out.next hb9).left (tl' := ts ++ tl) (Rd.of_own ho9) (own_cap ho9) (fun ad e h0 => HC7.out.fresh (own_lt_ ho9 ad e).1)
                                          have htz2 : (ts ++ tl).length ≤ 97 + tl.length := by rw [List.length_append]; omega
                                          obtain ⟨tz, htz⟩ : ∃ tz, ts ++ tl = tz := ⟨_, rfl⟩
                                          rw [htz] at hc9 htz2 HP'
                                          rw [htz]
                                          have HC9 := Lib.hid hc9
                                          have HTL := Lib.hid htz2
                                          have hmc : ((mt : Int) + 1) = ((mt + 1 : Nat) : Int) := by omega
                                          have HMC := Lib.hid hmc
                                          have hL3 : L - (mt + 1) = L2 := by have := HL2.out; omega
                                          have HL3 := Lib.hid hL3
                                          clear hown9 hg9 hl9 ho9 hb9 hc9 htz htz2 hmc hL3 HC8 HB8 HO8 HO7 HC6 XY6
                                          cases whole with
                                          | false =>
                                            have HP2 : Hid (Wk.steps kn follow (L - (mt + 1)) tz (wayOf wl (ai, 1, am, at4)) d2 us = RUN) := by
                                              refine Lib.hid ?_
                                              rw [HL3.out, hwo]
                                              exact HP'.out
                                            go_wp2_with fail
                                            go_roundg (98 * (L - (mt + 1)) + tz.length)
                                            case measure => have := HTL.out; omega
                                            case rel => exact ⟨d2, A9, c9, tz, Wa, cw, wl, A6, c6, us, _, mt + 1, rfl, rfl, rfl, rfl, rfl, by rw [HMC.out], by omega, by have := HUL.out; have := HTL.out; omega, by have := HTL.out; omega, HC9.out, HW.out, HP2.out⟩
                                          | true =>
                                            have hwl : 0 < wl.length := List.length_pos_iff.2 (wayOk_ne HW.out)
                                            obtain ⟨hwc1, hwc2⟩ := HC9.out.wc
                                            unfold maxLen at hwc2
                                            have hc10 := HC9.out.cut (m := 1) hwl
                                            rw [way_head HW.out] at hc10
                                            have HC10 := Lib.hid hc10
                                            have HP2 : Hid (Wk.steps kn follow (L - (mt + 1)) tz (wayOf [rootNd] rootNd) d2 us = RUN) := by
                                              refine Lib.hid ?_
                                              rw [HL3.out, wayOf_dir rfl]
                                              exact HP'.out
                                            clear hc10
                                            go_wp2_with fail
                                            refine (refRoot_any _).mono ?_
                                            rintro r w10 ⟨rfl, hb10⟩
                                            have HC11 := Lib.hid (HC10.out.next hb10)
                                            clear hb10
                                            go_wp2_with ((with_reducible refine wpList_isStore 34 (.tmp 13) (.tmp 149) ?_); refine wpList_hold ?_)
                                            refine Lib.hid ?_
                                            refine wpList_store_blk rfl 34 (.tmp 13) (.tmp 149) rfl g 0 (vNd rootNd) rfl rfl HC11.out.ab info_node ?c2 rfl ?_
                                            case c2 => exact Nat.le_refl 4
                                            intro w12 hr12 hk12 hz12
                                            have HC12 := Lib.hid (HC11.out.setAt (nd := rootNd) hk12 hr12)
                                            clear hr12 hk12 hz12
                                            go_wp2_with fail
                                            go_roundg (98 * (L - (mt + 1)) + tz.length)
                                            case measure => have := HTL.out; omega
                                            case rel => exact ⟨d2, A9, c9, tz, Wa, cw, [rootNd], A6, c6, us, rootNd, mt + 1, rfl, rfl, rfl, rfl, rfl, by rw [HMC.out], by omega, by have := HUL.out; have := HTL.out; omega, by have := HTL.out; rw [List.length_singleton]; omega, HC12.out, wayOk_start, HP2.out⟩
                                    · have hp := HP'.out
                                      rw [if_pos her] at hp
                                      clear HP'
                                      have HP' := Lib.hid hp
                                      have hq : (er == 0) = false := beq_eq_false_iff_ne.2 her
                                      clear hp her
                                      go_wp2_with ((with_reducible refine wpList_isStore 40 (.tmp 10) (.tmp 134) ?_); refine wpList_hold ?_)
                                      refine Lib.hid ?_
                                      refine wpList_store_blk rfl 40 (.tmp 10) (.tmp 134) rfl (w.heap.size + 1) 0 (vOut (Wk.fail er us) (.slice A6 us.length c6)) rfl rfl HC7.out.ob info_out ?c2 rfl ?_
                                      case c2 => exact Nat.le_refl 9
                                      intro w9 hr9 hk9 hz9
                                      have HR9 : Hid (At w9 (w.heap.size + 1) 40 (outCells (Wk.fail er us) (.slice A6 us.length c6))) := hr9
                                      have HK9 := Lib.hid hk9
                                      clear hr9 hk9 hz9
                                      go_wp2_with fail
                                      refine bodyPost_ret (v := vOut (Wk.fail er us) (.slice A6 us.length c6)) (results_cell_row rfl _ _ _ _ _ _ _ rfl HR9.out Tryz.underlying40 rfl info_out) rfl ?_
                                      rw [← HP'.out]
                                      exact ⟨_, rfl, own_kp HC7.out.us HK9.out (fun k hk => (HC7.out.un k hk).2.2), HC7.out.bl.trans (HK9.out.to_below HC7.out.bl.size (fun k hk => by omega))⟩
end Go.Proofs.YtoacobcbloljkaaGreatDoor
