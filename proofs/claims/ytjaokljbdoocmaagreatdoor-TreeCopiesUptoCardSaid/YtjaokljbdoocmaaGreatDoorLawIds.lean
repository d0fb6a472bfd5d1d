/-
  The walk of the law TreeIds.
-/
import Derived.Test.YtjaokljbdoocmaaGreatDoorLawNames
namespace Go.Proofs.YtjaokljbdoocmaaGreatDoor
open Go.RowKit

attribute [local go_sem ↓] Go.wp_at_zero Go.wp_at_succ

theorem cNums_append (a b : List Int) : cNums (a ++ b) = cNums a ++ cNums b := by simp [cNums]
theorem cNums_one (l : List Int) : ∀ u ∈ cNums l, u.oneCell' = true := by
  intro u hu
  rw [cNums_eq] at hu
  obtain ⟨k, _, rfl⟩ := List.mem_map.1 hu
  rfl

/-- A tree and the kinds that were given. -/
structure IdsIn (w : World) (M : TM) (t : Tr.T) (K : List Int) (v : Value) (W : World) : Prop where
  g : Grown w M t W
  row : W.ownsRow w.heap.size 3 1 v K.length (cNums K)
  no : ∀ k, v.ownBlock = some k → ¬ M.own k
  ok : Tr.IdsOk t K
section
variable {w W W' : World} {M M' : TM} {t t' : Tr.T} {K K' : List Int} {v v' : Value}
theorem IdsIn.below (H : IdsIn w M t K v W) (hb : Below W.heap.size W W') : IdsIn w M t K v W' := ⟨H.g.below hb, own_below H.row hb, H.no, H.ok⟩
theorem IdsIn.turn (H : IdsIn w M t K v W) (ho : ∀ k, M'.own k → M.own k ∨ W.heap.size ≤ k) (hk : Kp (fun k => ¬ M.own k) W W') : W'.ownsRow w.heap.size 3 1 v K.length (cNums K) ∧ ∀ k, v.ownBlock = some k → ¬ M'.own k :=
  ⟨own_kp H.row hk H.no, fun k q q2 => by
    rcases ho k q2 with h | h
    · exact H.no k q h
    · have := (H.row.lt k q).2
      omega⟩
end

theorem grown_push {w W W' : World} {M : TM} {t : Tr.T} {e sz n n' : Nat} {v v' : Value} {xs ys : List Value} (H : Grown w M t W) (hrow : W.ownsRow w.heap.size e sz v n xs) (hno : ∀ k, v.ownBlock = some k → ¬ M.own k) (_hown : W'.ownsRow w.heap.size e sz v' n' ys)
    (hg : W.grownBy W' v.ownBlock) (hl : v'.ownBlock = v.ownBlock ∨ v'.ownBlock = some W.heap.size) : Grown w M t W' ∧ ∀ k, v'.ownBlock = some k → ¬ M.own k := by
  have hk : Kp (fun k => v.ownBlock ≠ some k) W W' := (Kp.refl _ W).grown hg (fun k q _ q2 => q2 q)
  refine ⟨⟨H.at_.kp hk fun k q q2 => hno k q2 q, H.own, H.bl.grown hg H.bl.size fun k q => (hrow.lt k q).1⟩, fun k q q2 => ?_⟩
  rcases hl with h | h
  · exact hno k (h ▸ q) q2
  · rw [h] at q
    injection q with q
    have := H.at_.F.own_lt q2
    omega

set_option maxRecDepth 100000 in
set_option maxHeartbeats 8000000 in
theorem treeIds_walk (A : Option Addr) (n c : Nat) (s : List Tr.Op) (w : World) (hs : Rd w 7 A n (cOps s)) (hn : n ≤ 1759218604391) :
    Calls Tryz.prog 5 #[.slice A n c] w fun e w' => e = .returned (.bool true) ∧ Below w.heap.size w w' := by
  have hlen := hs.ops_len
  have HS := Lib.hid hs
  have HL := Lib.hid hlen
  clear hs hlen
  go_enter Tryz.func5, Tryz.ntmps5
  go_wp2_with fail
  refine (treeNew_any _).mono ?_
  rintro r w1 ⟨M0, rfl, H1, ho1, hb1⟩
  have HG : Hid (IdsIn w M0 (Tr.run Tr.t0 (s.take 0)) [] (.slice none 0 0) w1) := ⟨⟨H1, ho1, hb1⟩, World.ownsRow_nil _ _ _ _, by simp [Value.ownBlock], Tr.idsOk0⟩
  obtain ⟨p, hp⟩ : ∃ p, M0.t = p := ⟨_, rfl⟩
  rw [hp]
  have HP := Lib.hid hp
  clear H1 ho1 hb1 hp
  go_wp2_with fail
  go_loopw [4, 5] (fun kv iv wx => ∃ (j : Nat) (M : TM) (K : List Int), j ≤ n ∧ iv = .int .i64 j ∧ K.length ≤ j ∧ Hid (M.t = p) ∧ Hid (IdsIn w M (Tr.run Tr.t0 (s.take j)) K kv wx)) (fun _ iv _ => n - (RowKit.intOf iv).toNat)
  case atStart => exact ⟨0, M0, [], by omega, rfl, by simp, HP, HG⟩
  case round =>
    obtain ⟨j, M, K, hj, rfl, hKj, HM, HI⟩ := hrel
    obtain ⟨Ak, ck, rfl⟩ := own_slice HI.out.row
    by_cases hlt : j < n
    · obtain ⟨ad, kd, d, nm, tw, nw, md, tg, rfl, hbl, hx, q0, q1, q2, q3, q4, q5, q6⟩ := (HS.out.below HI.out.g.bl).op_cells hlt
      have hst := run_take s hx
      have hbd := run_bounds s j (by rw [HL.out]; exact hn)
      have hbd2 := run_bounds s (j + 1) (by rw [HL.out]; exact hn)
      rw [hst] at hbd2
      generalize Tr.run Tr.t0 (s.take j) = t at HI hbd hst hbd2
      have hap := treeApply_any wr M _ (kd, d, nm, tw, nw, md, tg) HI.out.g.at_ (by omega) (by omega)
      have hne := treeNext_any wr M _ HI.out.g.at_
      have hok := HI.out.ok
      simp only [vOp, cOp, txt] at hap
      rw [HM.out] at hap hne
      have HST := Lib.hid hst
      have HNE := Lib.hid hne
      have HX := Lib.hid hx
      have HBD := Lib.hid hbd
      have HBD2 := Lib.hid hbd2
      clear hst hbd hbd2 hx hne
      by_cases he : (Tr.does t (kd, d, nm, tw, nw, md, tg)).1 = 0
      · have hdz := Tr.does_zero he
        have hR := Tr.apply_ok he
        have hcase : (∃ n : Nd, Tr.apply t (kd, d, nm, tw, nw, md, tg) = (⟨t.L ++ [((d, nm), n)], t.vers + 1, t.next + 1⟩, [((d, nm), false, n)], [(d, nm)], 0) ∧ n.1 = t.next ∧ Tr.IdsOk (Tr.apply t (kd, d, nm, tw, nw, md, tg)).1 (K ++ [n.2.1])) ∧ kd ≤ 7 ∨ (8 ≤ kd ∧ Tr.IdsOk (Tr.apply t (kd, d, nm, tw, nw, md, tg)).1 K) := by
          by_cases h7 : kd ≤ 7
          · exact .inl ⟨Tr.ids_made hok (o := (kd, d, nm, tw, nw, md, tg)) h7 he, h7⟩
          · exact .inr ⟨by omega, (Tr.ids_other hok (o := (kd, d, nm, tw, nw, md, tg)) (by simp only; omega) he).1⟩
        have hnx := hok.1
        have herr : (Tr.apply t (kd, d, nm, tw, nw, md, tg)).2.2.2 = 0 := by rw [hR]
        have hbdR := HBD2.out
        generalize Tr.apply t (kd, d, nm, tw, nw, md, tg) = R at hap hcase herr HST HBD2 hbdR
        obtain ⟨T, es, ks, er⟩ := R
        simp only at herr hcase HST hbdR
        subst herr
        obtain ⟨hd5, hd11, -⟩ := hdz
        simp only at hd5 hd11
        have HAP := Lib.hid hap
        have HCASE := Lib.hid hcase
        clear hap hcase hR he hok
        go_wp2_with fail
        refine HNE.out.mono ?_
        rintro r w2 ⟨rfl, rfl⟩
        go_wp2_with fail
        refine HAP.out.mono ?_
        rintro r w2 hpost
        obtain ⟨A1, c1, A2, c2, M', rfl, o1, -, n1, -, -, HG', ht, ho, hk⟩ := HI.out.g.apply hpost
        simp only at o1 n1 HG' ⊢
        obtain ⟨hrow, hno⟩ := HI.out.turn ho hk
        have HROW : Hid (Grown w M' T w2 ∧ w2.ownsRow w.heap.size 3 1 (.slice Ak K.length ck) K.length (cNums K) ∧ ∀ k, (Value.slice Ak K.length ck).ownBlock = some k → ¬ M'.own k) := ⟨HG', hrow, hno⟩
        have HM2 : Hid (M'.t = p) := ht.trans HM.out
        have hne2 := treeNext_any w2 M' T HG'.at_
        rw [HM2.out] at hne2
        have HNE2 := Lib.hid hne2
        have HO1 := Lib.hid o1
        have HRS := Lib.hid ((HS.out.below HG'.bl).op_cells hlt)
        clear hpost HG' ht ho hk hrow hno q0 q1 q2 q3 q4 q5 q6 hne2 o1 n1
        obtain ⟨ad', kd', d', nm', tw', nw', md', tg', e, hbl', hx', q0, -, -, -, -, -, -⟩ := HRS.out
        injection e with e
        subst e
        rw [HX.out] at hx'
        simp only [Option.some.injEq, Prod.mk.injEq] at hx'
        obtain ⟨rfl, rfl, rfl, rfl, rfl, rfl, rfl⟩ := hx'
        clear hbl'
        go_upto_region 11 with fail
        go_cut [10] (fun b wd => b = .bool (decide (kd ≤ 7)) ∧ w2 = wd)
        case first =>
          rcases (show kd = 5 ∨ kd = 6 ∨ kd = 7 ∨ 8 ≤ kd by omega) with rfl | rfl | rfl | h8
          · go_wp2_with fail
            go_meet
            case rel => exact ⟨rfl, rfl⟩
          · go_wp2_with fail
            go_meet
            case rel => exact ⟨rfl, rfl⟩
          · go_wp2_with fail
            go_meet
            case rel => exact ⟨rfl, rfl⟩
          · have b5 : (kd == 5) = false := by simp; omega
            have b6 : (kd == 6) = false := by simp; omega
            have b7 : (kd == 7) = false := by simp; omega
            have b8 : decide (kd ≤ 7) = false := by simp; omega
            go_wp2_with fail
            go_meet
            case rel => exact ⟨by rw [b8], rfl⟩
        case rest =>
          obtain ⟨rfl, rfl⟩ := hcut
          clear q0
          go_upto_if 59 with fail
          go_cut [4, 10] (fun kv _ wd => ∃ K' : List Int, K'.length ≤ j + 1 ∧ Hid (IdsIn w M' T K' kv wd))
          case first =>
            rcases HCASE.out with ⟨⟨x, hx1, hx2, hx3⟩, h7⟩ | ⟨h8, hok8⟩
            · have b7 : decide (kd ≤ 7) = true := by simpa using h7
              obtain ⟨xi, xk, xm, xt⟩ := x
              simp only [Prod.mk.injEq] at hx1 hx2 hx3
              obtain ⟨hT, hes, hks, -⟩ := hx1
              subst hx2 hT hes hks
              have h1 := HO1.out
              simp only [List.length_cons, List.length_nil, Nat.zero_add] at h1 ⊢
              obtain ⟨g4, rfl, l4, -, -, -, -, p3, p4, -, -⟩ := row_en1 h1
              simp only at p3 p4
              have hlk := HROW.out.2.1
              have HOK := Lib.hid hx3
              have hn0 := HI.out.g.at_.good.next
              rw [b7]
              clear h1 hlk hx3 HCASE
              go_wp2_with fail
              refine HNE2.out.mono ?_
              rintro r w3 ⟨rfl, rfl⟩
              have HRD : Hid (Rd (w2.alloc (.cells #[.int .i64 xk] 3)) 1 (some ⟨w2.heap.size, 0, none⟩) 1 (cNums [xk])) := rd_new w2 3 1 1 [.int .i64 xk] rfl
              have HG3 : Hid (Grown w M' ⟨t.L ++ [((d, nm), t.next, xk, xm, xt)], t.vers + 1, t.next + 1⟩ (w2.alloc (.cells #[.int .i64 xk] 3))) := HROW.out.1.below ((Below.refl _ _).alloc (Nat.le_refl _) _)
              have HR3 : Hid ((w2.alloc (.cells #[.int .i64 xk] 3)).ownsRow w.heap.size 3 1 (.slice Ak K.length ck) K.length (cNums K)) := own_below HROW.out.2.1 ((Below.refl _ _).alloc (Nat.le_refl _) _)
              have hKm : K.length ≤ 1759218604400 := by omega
              go_wp2_with ((with_reducible refine wpList_isBuiltin .append ?_); refine wpList_hold ?_)
              refine Lib.hid ?_
              refine wpList_append_rd rfl _ _ rfl elemInts (v := (.slice Ak K.length ck)) rfl HR3.out rfl HRD.out (cNums_one _) ?c1 ?c2 HG3.out.bl.size ?_
              case c1 => unfold maxLen; omega
              case c2 => omega
              intro v5 w5 hown5 hg5 hl5
              obtain ⟨hg6, hno6⟩ := grown_push HG3.out HR3.out HROW.out.2.2 hown5 hg5 hl5
              have HFIN : Hid (IdsIn w M' ⟨t.L ++ [((d, nm), t.next, xk, xm, xt)], t.vers + 1, t.next + 1⟩ (K ++ [xk]) v5 w5) := ⟨hg6, by rw [cNums_append, List.length_append]; exact hown5, hno6, HOK.out⟩
              clear hown5 hg5 hl5 hg6 hno6 HRD HG3 HR3
              go_wp2_with fail
              go_meet
              case rel => exact ⟨K ++ [xk], by rw [List.length_append, List.length_singleton]; omega, HFIN⟩
            · have b7 : decide (kd ≤ 7) = false := by simp; omega
              have HFIN : Hid (IdsIn w M' T K (.slice Ak K.length ck) w2) := ⟨HROW.out.1, HROW.out.2.1, HROW.out.2.2, hok8⟩
              rw [b7]
              clear hok8 HCASE
              go_wp2_with fail
              go_meet
              case rel => exact ⟨K, by omega, HFIN⟩
          case rest =>
            obtain ⟨K', hK', hcut⟩ := hcut
            obtain ⟨w6, hw6⟩ : ∃ w6 : World, w6 = wc := ⟨_, rfl⟩
            subst hw6
            have HI6 := Lib.hid hcut.out
            obtain ⟨Ak6, ck6, rfl⟩ := own_slice HI6.out.row
            have hdu := treeDump_any w6 M' T HI6.out.g.at_ (by omega)
            rw [HM2.out] at hdu
            have HDU := Lib.hid hdu
            have HTL := Lib.hid HI6.out.g.at_.good.len
            clear hcut hdu HCASE HNE2 HO1 HROW HRS HAP hnx
            go_wp2_with fail
            refine HDU.out.mono ?_
            rintro r w7 ⟨v7, rfl, o7, b7⟩
            obtain ⟨A7, c7, rfl⟩ := own_slice o7
            have HI7 := Lib.hid (HI6.out.below b7)
            have HD7 : Hid (Rd w7 7 A7 T.L.length (cEns (Tr.dumpR T.L))) := Rd.of_own o7
            obtain ⟨m, hm⟩ : ∃ m, T.L.length = m := ⟨_, rfl⟩
            rw [hm] at HD7 HTL ⊢
            have hm47 : m ≤ 47 := HTL.out
            clear o7 b7 hm
            go_wp2_with fail
            go_loopw [12] (fun iv wx => ∃ k : Nat, k ≤ m ∧ iv = .int .i64 k ∧ Hid (Below w7.heap.size w7 wx)) (fun iv _ => m - (RowKit.intOf iv).toNat)
            case atStart => exact ⟨0, by omega, rfl, Below.refl _ _⟩
            case round =>
              obtain ⟨k, hk, rfl, HB⟩ := hrel
              by_cases hlk : k < m
              · obtain ⟨ad7, ed, es, eg, ei, ek, em, et, rfl, hbl7, hx7, r0, r1, r2, r3, r4, r5, r6⟩ := (HD7.out.below HB.out).en_at hlk
                obtain ⟨q, hq1, hq2⟩ := Tr.idsOk_dump HI7.out.ok hx7
                simp only at hq1 hq2
                subst hq1
                have hql : q < K'.length := (List.getElem?_eq_some_iff.1 hq2).1
                obtain ⟨ad8, a8, hA8, hbl8, hx8, s0⟩ := (Rd.of_own (own_below HI7.out.row HB.out)).num_at hql
                rw [hq2] at hx8
                injection hx8 with hx8
                subst hx8 hA8
                have hqi : (q : Int) < (K'.length : Int) := by omega
                have hqk : (K'.length : Int) ≤ 1759218604400 := by omega
                have b1 : decide ((q : Int) + 2 < 2) = false := decide_eq_false (by omega)
                have b2 : decide ((K'.length : Int) ≤ (q : Int)) = false := decide_eq_false (by omega)
                have b3 : (q : Int).toNat = q := by omega
                have n1 : ¬ ((q : Int) + 2 < 2) := by omega
                have n2 : ¬ ((K'.length : Int) ≤ (q : Int)) := by omega
                have n3 : ¬ ((K'.length : Int) ≤ (q : Int) + 2 - 2) := by omega
                clear hx7 hq2
                go_upto_region 21 with fail
                go_quiet (fail)
                go_wp2_with fail
                go_roundw
                case rel => exact ⟨k + 1, by omega, by go_num, Lib.hid (below_drewN_ HB.out _)⟩
                case measure => simp [RowKit.intOf] <;> omega
              · obtain rfl : k = m := by omega
                have HFIN := Lib.hid (HI7.out.below HB.out)
                have HST2 := HST.out
                go_wp2_with fail
                go_roundw
                case rel => exact ⟨j + 1, M', K', by omega, by go_num, by omega, HM2, by rw [HST2]; exact HFIN⟩
                case measure => simp [RowKit.intOf] <;> omega
      · have hR := Tr.apply_bad he
        obtain ⟨e, hee⟩ : ∃ e, (Tr.does t (kd, d, nm, tw, nw, md, tg)).1 = e := ⟨_, rfl⟩
        rw [hR, hee] at hap
        have HRE : Hid (Tr.run Tr.t0 (s.take (j + 1)) = t) := by
          refine Lib.hid ?_
          rw [HST.out, hR]
        rw [hee] at he
        have heb : (e == 0) = false := by simpa using he
        have HAP := Lib.hid hap
        clear hap hR hee he hok
        go_wp2_with fail
        refine HNE.out.mono ?_
        rintro r w2 ⟨rfl, rfl⟩
        go_wp2_with fail
        refine HAP.out.mono ?_
        rintro r w2 hpost
        obtain ⟨A1, c1, A2, c2, M', rfl, -, -, -, -, -, HG', ht, ho, hk⟩ := HI.out.g.apply hpost
        simp only [List.length_nil] at HG' ⊢
        obtain ⟨hrow, hno⟩ := HI.out.turn ho hk
        have HI2 : Hid (IdsIn w M' t K (.slice Ak K.length ck) w2) := ⟨HG', hrow, hno, HI.out.ok⟩
        have HM2 : Hid (M'.t = p) := ht.trans HM.out
        clear hpost HG' ht ho hk hrow hno q0 q1 q2 q3 q4 q5 q6
        go_wp2_with fail
        go_roundw
        case rel => exact ⟨j + 1, M', K, by omega, by go_num, by omega, HM2, by rw [HRE.out]; exact HI2⟩
        case measure => simp [RowKit.intOf] <;> omega
    · obtain rfl : j = n := by omega
      go_wp2_with fail
      refine (awake05 _).mono ?_
      rintro r w2 ⟨rfl, b2⟩
      go_wp2_with fail
      go_ret
      exact ⟨rfl, HI.out.g.bl.trans (b2.mono HI.out.g.bl.size)⟩
end Go.Proofs.YtjaokljbdoocmaaGreatDoor
