/-
  A cache that holds all entries of a tree: filled.
-/
import Derived.Test.YtoacobcbloljkaaGreatDoorWalkPure
import Derived.Test.YtoacobcbloljkaaGreatDoorDentPut
import Derived.Test.YtoacobcbloljkaaGreatDoorBehind
namespace Go.Proofs.YtoacobcbloljkaaGreatDoor
open Go.RowKit

/-- A cache beside a tree, both made since the world w. -/
structure Filled (w : World) (M : TM) (t : Tr.T) (c e h : Nat) (s : Cst) (W : World) : Prop where
  g : Grown w M t W
  ca : CacheAt W c e h s.1 s.2.1 s.2.2
  hc : w.heap.size ≤ c ∧ w.heap.size ≤ e ∧ w.heap.size ≤ h
  no : ¬ M.own c ∧ ¬ M.own e ∧ ¬ M.own h
section
variable {w W W' : World} {M : TM} {t : Tr.T} {c e h : Nat} {s : Cst}
theorem Filled.below (H : Filled w M t c e h s W) (hb : Below W.heap.size W W') : Filled w M t c e h s W' := ⟨H.g.below hb, H.ca.below hb, H.hc, H.no⟩
theorem Filled.dent (H : Filled w M t c e h s W) (hk : Kp (fun k => k ≠ c ∧ k ≠ e ∧ k ≠ h) W W') {l' : List (Key × (En × Int))} {wh' : List (Int × Bool)} {clk' : Int} (hca : CacheAt W' c e h l' wh' clk') : Filled w M t c e h (l', wh', clk') W' :=
  ⟨⟨H.g.at_.kp hk (fun k q => ⟨fun e' => H.no.1 (e' ▸ q), fun e' => H.no.2.1 (e' ▸ q), fun e' => H.no.2.2 (e' ▸ q)⟩), H.g.own, H.g.bl.trans (hk.to_below H.g.bl.size fun k hk => by have := H.hc; omega)⟩, hca, H.hc, H.no⟩
theorem Filled.lts (H : Filled w M t c e h s W) : c < W.heap.size ∧ e < W.heap.size ∧ h < W.heap.size := ⟨H.ca.c_lt, H.ca.me.lt, H.ca.mw.lt⟩
theorem Filled.start (hg : Grown w M t W) (hca : CacheAt W' c e h [] [] 0) (hb : Below W.heap.size W W') (h1 : W.heap.size ≤ c) (h2 : W.heap.size ≤ e) (h3 : W.heap.size ≤ h) : Filled w M t c e h ([], [], 0) W' := by
  have hs := hg.bl.size
  have hl : ∀ k, M.own k → k < W.heap.size := fun k q => hg.at_.F.own_lt q
  exact ⟨hg.below hb, hca, ⟨by omega, by omega, by omega⟩, fun q => by have := hl _ q; omega, fun q => by have := hl _ q; omega, fun q => by have := hl _ q; omega⟩
theorem Filled.apply {R : Tr.T × List En × List Key × Int} {r : Ending} (H : Filled w M t c e h s W) (hp : ApPost W M R r W') :
    ∃ (A1 : Option Addr) (c1 : Nat) (A2 : Option Addr) (c2 : Nat) (M' : TM), r = .returned (.tuple #[.slice A1 R.2.1.length c1, .slice A2 R.2.2.1.length c2, .int .i64 R.2.2.2]) ∧ M'.t = M.t ∧ Filled w M' R.1 c e h s W' := by
  obtain ⟨A1, c1, A2, c2, M', rfl, _, _, _, _, _, hg, ht, ho, hk⟩ := H.g.apply hp
  obtain ⟨l1, l2, l3⟩ := H.lts
  refine ⟨A1, c1, A2, c2, M', rfl, ht, hg, H.ca.kp hk H.no.1 H.no.2.1 H.no.2.2, H.hc, fun q => ?_, fun q => ?_, fun q => ?_⟩
  · rcases ho _ q with q | q
    · exact H.no.1 q
    · omega
  · rcases ho _ q with q | q
    · exact H.no.2.1 q
    · omega
  · rcases ho _ q with q | q
    · exact H.no.2.2 q
    · omega
end

/-- Put, at an entry with a name. -/
theorem putN_any (w : World) (c e h : Nat) (l : List (Key × (En × Int))) (wh : List (Int × Bool)) (clk : Int) (x : En) (hx : x.1.2 ≠ []) (H : CacheAt w c e h l wh clk) (h0 : 0 ≤ clk) (h1 : clk < 4611686018427387904) :
    Calls Tryz.prog 28 #[.pointer (some ⟨c, 0, none⟩), vEn x] w fun r w' => r = .returned (.int .i64 0) ∧ CacheAt w' c e h (alPut l x.1 (x, clk + 1)) wh (clk + 1) ∧ Kp (fun k => k ≠ c ∧ k ≠ e) w w' := by
  refine (dentPut_any w c e h l wh clk x H h0 h1).mono ?_
  rintro r V' (⟨hx', _⟩ | ⟨_, rfl, hc, hk⟩)
  · exact absurd hx' hx
  · exact ⟨rfl, hc, hk⟩

set_option maxRecDepth 100000 in
set_option maxHeartbeats 2000000 in
theorem filled_any (w : World) (A : Option Addr) (n c0 : Nat) (s : List Tr.Op) (hs : Rd w 7 A n (cOps s)) (hn : n ≤ 1759218604391) :
    Calls Tryz.prog 23 #[.slice A n c0] w fun r w' => ∃ (M : TM) (c e h : Nat), r = .returned (.tuple #[.pointer (some ⟨c, 0, none⟩), .pointer (some ⟨M.t, 0, none⟩), .bool true]) ∧
      Filled w M (Tr.run Tr.t0 s) c e h (fillS (Tr.dumpR (Tr.run Tr.t0 s).L)) w' := by
  have hlen := hs.ops_len
  obtain ⟨t, ht⟩ : ∃ t, t = Tr.run Tr.t0 s := ⟨_, rfl⟩
  rw [← ht]
  have HT := Lib.hid ht
  have HS := Lib.hid hs
  have HL := Lib.hid hlen
  clear hs hlen ht
  go_enter Tryz.func23, Tryz.ntmps23
  go_wp2_with fail
  refine (treeNew_any _).mono ?_
  rintro r w1 ⟨M0, rfl, H1, ho1, hb1⟩
  have HG : Hid (Grown w M0 (Tr.run Tr.t0 (s.take 0)) w1) := ⟨H1, ho1, hb1⟩
  obtain ⟨p, hp⟩ : ∃ p, M0.t = p := ⟨_, rfl⟩
  rw [hp]
  have HP := Lib.hid hp
  clear H1 ho1 hb1 hp
  go_wp2_with fail
  refine (dentNew_any _).mono ?_
  rintro r w2 ⟨c, e, h, rfl, hca, h1, h2, h3, hb2⟩
  have HF := Lib.hid (Filled.start HG.out hca hb2 h1 h2 h3)
  clear hca hb2 h1 h2 h3
  go_wp2_with fail
  go_loopw [7] (fun iv wx => ∃ (j : Nat) (M : TM), j ≤ n ∧ iv = .int .i64 j ∧ Hid (M.t = p) ∧ Hid (Filled w M (Tr.run Tr.t0 (s.take j)) c e h ([], [], 0) wx)) (fun iv _ => n - (RowKit.intOf iv).toNat)
  case atStart => exact ⟨0, M0, by omega, rfl, HP, HF⟩
  case round =>
    obtain ⟨j, M, hj, rfl, HM, HI⟩ := hrel
    by_cases hlt : j < n
    · obtain ⟨ad, kd, d, nm, tw, nw, md, tg, rfl, hbl, hx, q0, q1, q2, q3, q4, q5, q6⟩ := (HS.out.below HI.out.g.bl).op_cells hlt
      have hst := run_take s hx
      have hbd := run_bounds s j (by rw [HL.out]; exact hn)
      have hap := treeApply_any wr M _ (kd, d, nm, tw, nw, md, tg) HI.out.g.at_ (by omega) (by omega)
      have HST := Lib.hid hst
      simp only [vOp, cOp, txt] at hap
      rw [HM.out] at hap
      have HAP := Lib.hid hap
      clear hst hbd hap hx
      go_wp2_with fail
      refine HAP.out.mono ?_
      rintro r w2 hpost
      obtain ⟨A1, c1, A2, c2, M', rfl, ht, HF'⟩ := HI.out.apply hpost
      have HF2 := Lib.hid HF'
      have HM2 : Hid (M'.t = p) := ht.trans HM.out
      clear hpost HF' ht q0 q1 q2 q3 q4 q5 q6
      go_wp2_with fail
      go_roundw
      case rel => exact ⟨j + 1, M', by omega, by go_num, HM2, by rw [HST.out]; exact HF2⟩
      case measure => simp [RowKit.intOf] <;> omega
    · obtain rfl : j = n := by omega
      have HF1 := HI
      rw [List.take_of_length_le (by rw [HL.out]; exact Nat.le_refl _)] at HF1
      have hbd := run_bounds s s.length (by rw [HL.out]; exact hn)
      rw [List.take_length] at hbd
      rw [← HT.out] at HF1 hbd
      have hdu := treeDump_any wr M t HF1.out.g.at_ (by omega)
      rw [HM.out] at hdu
      have HDU := Lib.hid hdu
      have hg := HF1.out.g.at_.good
      have HGD := Lib.hid hg
      have hm47 := hg.len
      clear hdu hbd HI HS HL hg
      go_wp2_with fail
      refine HDU.out.mono ?_
      rintro r w3 ⟨v3, rfl, o3, b3⟩
      obtain ⟨A3, c3, rfl⟩ := own_slice o3
      have HF3 := Lib.hid (HF1.out.below b3)
      have HRW : Hid (Rd w3 7 A3 t.L.length (cEns (Tr.dumpR t.L))) := Lib.hid (Rd.of_own o3)
      have HNE : Hid (∀ ad, A3 = some ad → ad.block ≠ c ∧ ad.block ≠ e ∧ ad.block ≠ h) := Lib.hid (fun ad ea => by
        have h1 := own_fresh o3 ad ea
        obtain ⟨l1, l2, l3⟩ := HF1.out.lts
        omega)
      clear o3 b3 HDU HF1
      go_wp2_with fail
      refine (dentSetWhole_any _ c e h _ _ _ 1 HF3.out.ca).mono ?_
      rintro r w4 ⟨rfl, hca4, hk4⟩
      have hk4' : Kp (fun k => k ≠ c ∧ k ≠ e ∧ k ≠ h) w3 w4 := hk4.mono fun k _ q => q.2.2
      have HF4 : Hid (Filled w M t c e h (fillS ((Tr.dumpR t.L).take 0)) w4) := Lib.hid (HF3.out.dent hk4' hca4)
      have HR4 := Lib.hid (HRW.out.kp0 hk4' fun ad ea _ => HNE.out ad ea)
      clear hca4 hk4 hk4' HRW HF3
      have hlen2 : (Tr.dumpR t.L).length = t.L.length := Tr.dump_len t.L
      have HLE := Lib.hid hlen2
      clear hlen2
      generalize t.L.length = m at *
      go_wp2_with fail
      go_loopw [9] (fun iv wx => ∃ (j : Nat), j ≤ m ∧ iv = .int .i64 j ∧ Hid (Filled w M t c e h (fillS ((Tr.dumpR t.L).take j)) wx) ∧ Hid (Rd wx 7 A3 m (cEns (Tr.dumpR t.L)))) (fun iv _ => m - (RowKit.intOf iv).toNat)
      case atStart => exact ⟨0, by omega, rfl, HF4, HR4⟩
      case round =>
        obtain ⟨j, hj2, rfl, HJ, HRJ⟩ := hrel
        by_cases hlt2 : j < m
        · obtain ⟨ad, xd, xn, xg, xi, xk, xm, xt, rfl, hbl, hx, q0, q1, q2, q3, q4, q5, q6⟩ := HRJ.out.en_at hlt2
          have hstep := fillS_step (Tr.dumpR t.L) hx
          have hnn : xn ≠ [] := by
            obtain ⟨y, hy, e'⟩ := Tr.dump_get hx
            have := HGD.out.name y ((Tr.srt_perm _).mem_iff.1 (List.mem_of_getElem? hy))
            have h2 := (congrArg (fun z : En => z.1.2) e')
            simp only [Tr.enOf] at h2
            rw [← h2] at this
            rintro rfl
            simp [Nm.checkE] at this
          obtain ⟨sz1, sz2⟩ := fillS_size ((Tr.dumpR t.L).take j)
          rw [List.length_take, HLE.out] at sz1
          have hput := putN_any wr c e h _ _ _ ((xd, xn), xg, xi, xk, xm, xt) hnn HJ.out.ca (by omega) (by omega)
          simp only [vEn, txt] at hput
          have HPU := Lib.hid hput
          have HST := Lib.hid hstep
          have HX := Lib.hid hx
          clear hput hstep hnn sz1 sz2 hx
          go_wp2_with fail
          refine HPU.out.mono ?_
          rintro r w5 ⟨rfl, hca5, hk5⟩
          have hk5' : Kp (fun k => k ≠ c ∧ k ≠ e ∧ k ≠ h) wr w5 := hk5.mono fun k _ q => ⟨q.1, q.2.1⟩
          have HR5 := Lib.hid (HRJ.out.kp0 hk5' fun ad ea _ => HNE.out ad ea)
          have HF5 := Lib.hid (HJ.out.dent hk5' hca5)
          clear hca5 hk5 hk5' q0 q1 q2 q3 q4 q5 q6
          obtain ⟨ad', e', hbl', _, q0, q1, q2, q3, q4, q5, q6⟩ := entry_at HR5.out HX.out
          injection e' with e'
          subst e'
          have hsw := dentSetWhole_any w5 c e h _ _ _ xi HF5.out.ca
          have HSW := Lib.hid hsw
          clear hsw q0 q1 q2 q4 q5 q6
          simp only at q3
          go_wp2_with fail
          refine HSW.out.mono ?_
          rintro r w6 ⟨rfl, hca6, hk6⟩
          have hk6' : Kp (fun k => k ≠ c ∧ k ≠ e ∧ k ≠ h) w5 w6 := hk6.mono fun k _ q => q.2.2
          have HR6 := Lib.hid (HR5.out.kp0 hk6' fun ad ea _ => HNE.out ad ea)
          have HF6 : Hid (Filled w M t c e h (fillS ((Tr.dumpR t.L).take (j + 1))) w6) := by
            rw [HST.out]
            exact Lib.hid (HF5.out.dent hk6' hca6)
          clear hca6 hk6 hk6' q3
          go_wp2_with fail
          go_roundw
          case rel => exact ⟨j + 1, by omega, by go_num, HF6, HR6⟩
          case measure => simp [RowKit.intOf] <;> omega
        · obtain rfl : j = m := by omega
          have HF7 := HJ
          rw [List.take_of_length_le (by rw [HLE.out]; exact Nat.le_refl _)] at HF7
          clear HJ
          go_wp2_with fail
          refine bodyPost_ret (results3 rfl _ _ _) rfl ?_
          exact ⟨M, c, e, h, by rw [HM.out]; rfl, HF7.out⟩
end Go.Proofs.YtoacobcbloljkaaGreatDoor
