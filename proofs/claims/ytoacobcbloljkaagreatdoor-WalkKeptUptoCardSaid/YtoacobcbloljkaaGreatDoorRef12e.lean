/-
  The reference of layer 12: Cut.
-/
import Derived.Test.YtoacobcbloljkaaGreatDoorRef12d
import Derived.Test.YtoacobcbloljkaaGreatDoorDentCut
namespace Go.Proofs.YtoacobcbloljkaaGreatDoor
open Go.RowKit

def cutE (k : Key) (x : En) : Bool := decide (x.1.1 = k.1) && (decide (k.2 = []) || decide (x.1.2 = k.2))
def refCutOne (s : List En × List Int) (k : Key) : List En × List Int := (s.1.filter fun x => !cutE k x, dropD s.2 k.1)
def refCutAll (ks : List Key) (s : List En × List Int) : List En × List Int := ks.foldl refCutOne s

theorem refCutAll_step (ks : List Key) (s : List En × List Int) {j : Nat} {k : Key} (h : ks[j]? = some k) : refCutAll (ks.take (j + 1)) s = refCutOne (refCutAll (ks.take j) s) k := by
  unfold refCutAll
  rw [List.take_add_one, h]
  simp
theorem refCutAll_len (ks : List Key) (s : List En × List Int) : (refCutAll ks s).1.length ≤ s.1.length ∧ (refCutAll ks s).2.length ≤ s.2.length := by
  unfold refCutAll
  induction ks generalizing s with
  | nil => exact ⟨Nat.le_refl _, Nat.le_refl _⟩
  | cons k r ih =>
    have h := ih (refCutOne s k)
    have h1 : (refCutOne s k).1.length ≤ s.1.length := List.length_filter_le _ _
    have h2 : (refCutOne s k).2.length ≤ s.2.length := List.length_filter_le _ _
    exact ⟨Nat.le_trans h.1 h1, Nat.le_trans h.2 h2⟩

theorem keepTake (L : List En) (f : En → Bool) {j : Nat} {x : En} (h : L[j]? = some x) : (L.take (j + 1)).filter f = (L.take j).filter f ++ if f x = true then [x] else [] := by
  rw [List.take_add_one, h]
  simp only [Option.toList_some, List.filter_append]
  by_cases hf : f x = true <;> simp [hf]

set_option maxRecDepth 100000 in
set_option maxHeartbeats 4000000 in
theorem refCut_any (w : World) (B cb : Nat) (F : Nat → Prop) (Al : Option Addr) (cl : Nat) (Aw : Option Addr) (cw : Nat) (L : List En) (W : List Int) (A : Option Addr) (n cp : Nat) (ks : List Key) (hk : n ≤ 17592186044416) (hn : L.length ≤ 1800000000000) (hn2 : W.length ≤ 1800000000000) (hB : B ≤ w.heap.size)
    (hr : Rd w 2 A n (cKeys ks)) (hF : ∀ ad, A = some ad → 0 < n → F ad.block) (H : RefAt w B cb F Al cl Aw cw L W) :
    Calls Tryz.prog 54 #[.pointer (some ⟨cb, 0, none⟩), .slice A n cp] w (RefPost w B cb F (refCutAll ks (L, W)).1 (refCutAll ks (L, W)).2 (.tuple #[])) := by
  have hlen := hr.key_len
  have HR := Lib.hid hr
  have HF := Lib.hid hF
  have HL := Lib.hid hlen
  have HH := Lib.hid H
  clear hr hF H hlen
  go_enter Tryz.func54, Tryz.ntmps54
  go_wp2_with fail
  go_loopw [4, 5, 6, 7] (fun i _ _ _ wr => ∃ j : Nat, j ≤ n ∧ i = .int .i64 j ∧ ∃ A1 c1 A2 c2, Hid (RefAt wr B cb F A1 c1 A2 c2 (refCutAll (ks.take j) (L, W)).1 (refCutAll (ks.take j) (L, W)).2) ∧ Hid (Kp F w wr)) (fun i _ _ _ _ => n - (RowKit.intOf i).toNat)
  case atStart => exact ⟨0, by omega, rfl, _, _, _, _, HH, Kp.refl _ _⟩
  case round =>
    obtain ⟨j, hj, rfl, A1, c1, A2, c2, HC, HK⟩ := hrel
    obtain ⟨wo, hwo⟩ : ∃ wo : World, wo = wr := ⟨_, rfl⟩
    subst hwo
    by_cases hlt : j < n
    · obtain ⟨ad, d, nm, rfl, hbl, hx, h1, h2⟩ := (HR.out.kp0 HK.out (fun ad e h0 => HF.out ad e h0)).key_at hlt
      have hst := refCutAll_step ks (L, W) hx
      have HST := Lib.hid hst
      have hlens := refCutAll_len (ks.take j) (L, W)
      simp only at hlens
      have hsz : w.heap.size ≤ wo.heap.size := HK.out.size
      clear hx hst
      generalize refCutAll (ks.take j) (L, W) = S at *
      obtain ⟨L1, W1⟩ := S
      simp only at HC hlens
      obtain ⟨hl1, hl2⟩ := hlens
      go_wp2_with fail
      go_loopw [5, 6, 7] (fun v i _ wx => ∃ t : Nat, t ≤ L1.length ∧ i = .int .i64 t ∧ Hid (wx.ownsRow wo.heap.size 36 7 v ((L1.take t).filter fun x => !cutE (d, nm) x).length (cEns ((L1.take t).filter fun x => !cutE (d, nm) x))) ∧ Hid (Below wo.heap.size wo wx)) (fun _ i _ _ => L1.length - (RowKit.intOf i).toNat)
      case atStart => exact ⟨0, by omega, rfl, World.ownsRow_nil _ _ _ _, Below.refl _ _⟩
      case round =>
        obtain ⟨t, ht, rfl, hown, hb⟩ := hrel
        have HR1 := Lib.hid (HC.out.below hb.out)
        have c0 := HR1.out.c0
        by_cases htl : t < L1.length
        · obtain ⟨ae, xd, xn, ng, xi, xk, xm, xt, rfl, hbe, hx, e1, e2, e3, e4, e5, e6, e7⟩ := (Rd.of_own HR1.out.lo).en_at htl
          have hkt := keepTake L1 (fun x => !cutE (d, nm) x) hx
          have HKT := Lib.hid hkt
          have HEL0 := Lib.hid hx
          have hle : ((L1.take t).filter fun x => !cutE (d, nm) x).length ≤ t := Nat.le_trans (List.length_filter_le _ _) (List.length_take_le _ _)
          have k1 := (hb.out.cell (p := ad.add (j * 2)) (by rw [add_block]; exact hbl)).trans h1
          have k2 := (hb.out.cell (p := ⟨(ad.add (j * 2)).block, (ad.add (j * 2)).off + 1, none⟩) (by rw [add_block]; exact hbl)).trans h2
          clear hx hkt
          have k1a : ∀ o, (wr.alloc o).cell? (ad.add (j * 2)) = some (.int .i64 d) := fun o => cell_alloc_old k1 o
          have k2a : ∀ o, (wr.alloc o).cell? ⟨(ad.add (j * 2)).block, (ad.add (j * 2)).off + 1, none⟩ = some (.string ⟨nm.toArray⟩) := fun o => cell_alloc_old k2 o
          go_upto_region 8 with fail
          go_cut [56] (fun v wd => v = .bool (!cutE (d, nm) ((xd, xn), ng, xi, xk, xm, xt)) ∧ Hid (Below wr.heap.size wr wd))
          case first =>
            cases q1 : (xd != d) with
            | true =>
              have hq : xd ≠ d := by simpa using q1
              have HX : Hid ((!cutE (d, nm) ((xd, xn), ng, xi, xk, xm, xt)) = true) := by show _ = _; simp [cutE, hq]
              clear hq
              go_quiet (fail)
              go_wp2_with fail
              go_meet
              case rel => exact ⟨by rw [HX.out], below_drewN_ ((Below.refl _ _).alloc (Nat.le_refl _) _) _⟩
            | false =>
              have hq : xd = d := by simpa using q1
              cases q2 : nm.isEmpty with
              | true =>
                have hn2 : nm = [] := List.isEmpty_iff.1 q2
                have HX : Hid ((!cutE (d, nm) ((xd, xn), ng, xi, xk, xm, xt)) = false) := by show _ = _; simp [cutE, hq, hn2]
                clear hq hn2
                go_quiet (fail)
                go_wp2_with fail
                go_meet
                case rel => exact ⟨by rw [HX.out], below_drewN_ ((Below.refl _ _).alloc (Nat.le_refl _) _) _⟩
              | false =>
                have hn2 : nm ≠ [] := fun q => by rw [q] at q2; cases q2
                cases q3 : (xn == nm) with
                | true =>
                  have hn3 : xn = nm := by simpa using q3
                  have HX : Hid ((!cutE (d, nm) ((xd, xn), ng, xi, xk, xm, xt)) = false) := by show _ = _; simp [cutE, hq, hn3]
                  clear hq hn2 hn3
                  go_quiet (fail)
                  go_wp2_with fail
                  go_meet
                  case rel => exact ⟨by rw [HX.out], below_drewN_ ((Below.refl _ _).alloc (Nat.le_refl _) _) _⟩
                | false =>
                  have hn3 : xn ≠ nm := by simpa using q3
                  have HX : Hid ((!cutE (d, nm) ((xd, xn), ng, xi, xk, xm, xt)) = true) := by show _ = _; simp [cutE, hn2, hn3]
                  clear hq hn2 hn3
                  go_quiet (fail)
                  go_wp2_with fail
                  go_meet
                  case rel => exact ⟨by rw [HX.out], below_drewN_ ((Below.refl _ _).alloc (Nat.le_refl _) _) _⟩
          case rest =>
            obtain ⟨rfl, hbc⟩ := hcut
            have HB2 := Lib.hid (hb.out.trans (hbc.out.mono hb.out.size))
            have HO2 := Lib.hid (own_below hown.out hbc.out)
            clear c0 e1 e2 e3 e4 e5 e6 e7 k1 k2 k1a k2a
            cases hke : (!cutE (d, nm) ((xd, xn), ng, xi, xk, xm, xt)) with
            | false =>
              have hk2 := HKT.out
              rw [hke] at hk2
              have HK2 := Lib.hid hk2
              clear hk2 hke
              go_wp2_with fail
              go_roundw
              case rel => exact ⟨t + 1, by omega, by go_num, by rw [HK2.out]; simpa [Hid] using HO2.out, HB2⟩
              case measure => simp [RowKit.intOf] <;> omega
            | true =>
              have hk2 := HKT.out
              rw [hke] at hk2
              have HK2 := Lib.hid hk2
              have HR3 := Lib.hid (HC.out.below HB2.out)
              have c0 := HR3.out.c0
              obtain ⟨ad2, xd', xn', ng', xi', xk', xm', xt', hA2, hbe2, hx2, e1, e2, e3, e4, e5, e6, e7⟩ := (Rd.of_own HR3.out.lo).en_at htl
              injection hA2 with hA2
              subst hA2
              rw [HEL0.out] at hx2
              injection hx2 with hx2
              obtain ⟨⟨rfl, rfl⟩, rfl, rfl, rfl, rfl, rfl⟩ : (xd = xd' ∧ xn = xn') ∧ ng = ng' ∧ xi = xi' ∧ xk = xk' ∧ xm = xm' ∧ xt = xt' := by simpa using hx2
              have HRD : Hid (Rd (wc.alloc (.cells #[.int .i64 xd, .string ⟨xn.toArray⟩, .bool ng, .int .i64 xi, .int .i64 xk, .int .i64 xm, .string ⟨xt.toArray⟩] 36)) 7 (some ⟨wc.heap.size, 0, none⟩) 1 (cEns [((xd, xn), ng, xi, xk, xm, xt)])) := rd_new wc 36 7 1 _ rfl
              clear hk2 hke hx2
              go_wp2_with (at_builtin; refine wpList_hold ?_)
              refine Lib.hid ?_
              refine wpList_append_rd rfl _ _ rfl elemEntries rfl (own_below HO2.out ((Below.refl _ _).alloc (Nat.le_refl _) _)) rfl HRD.out (cEns_one _) (by unfold maxLen; omega) (by omega) (by have := HB2.out.size; simp; omega) ?_
              intro v2 w2 hown2 hg2 _
              have hb2 : Below wo.heap.size wo w2 := (HB2.out.alloc HB2.out.size _).grown hg2 (by have := HB2.out.size; simp; omega) (fun q e => (HO2.out.lt q e).1)
              have HO3 := Lib.hid hown2
              have HB3 := Lib.hid hb2
              clear hown2 hg2 hb2 c0 e1 e2 e3 e4 e5 e6 e7
              go_wp2_with fail
              go_roundw
              case rel => exact ⟨t + 1, by omega, by go_num, by rw [HK2.out, if_pos trivial, List.length_append, cEns_append]; exact HO3.out, HB3⟩
              case measure => simp [RowKit.intOf] <;> omega
        · have hfin : (L1.take t).filter (fun x => !cutE (d, nm) x) = L1.filter fun x => !cutE (d, nm) x := by rw [List.take_of_length_le (by omega)]
          rw [hfin] at hown
          have f0 := HR1.out.blk.frozen 0
          obtain ⟨A3, c3, hv⟩ := own_slice hown.out
          subst hv
          clear hfin
          obtain ⟨r1, r2⟩ := HC.out.setL (Kp.of_below hb.out) (by omega) hown.out
          have HR4 := Lib.hid r1
          have HK4 := Lib.hid (HK.out.trans r2)
          have k1 := (hb.out.cell (p := ad.add (j * 2)) (by rw [add_block]; exact hbl)).trans h1
          have hne : (ad.add (j * 2)).block ≠ cb := by rw [add_block]; exact (HC.out.fr _ (HF.out ad rfl (by omega))).2.1
          have k1' : (wr.setCell ⟨cb, 0, none⟩ (.slice A3 (L1.filter fun x => !cutE (d, nm) x).length c3)).cell? (ad.add (j * 2)) = some (.int .i64 d) := by
            rw [← k1]
            exact World.cell?_of_block (Below.heap_setCell _ _ _ _ hne)
          have hsz4 : wo.heap.size ≤ wr.heap.size := hb.out.size
          clear r1 r2 k1 hne
          go_wp2_with fail
          refine (refPart_any _ B cb _ _ _ _ _ _ _ d (by omega) (by simp [World.setCell]; omega) HR4.out).mono ?_
          rintro r w5 ⟨rfl, A5, c5, A6, c6, hr5, hk5⟩
          have HR5 := Lib.hid hr5
          have HK5 := Lib.hid (HK4.out.trans hk5)
          clear hr5 hk5
          go_wp2_with fail
          go_roundw
          case rel => exact ⟨j + 1, by omega, by go_num, _, _, _, _, by rw [HST.out]; exact HR5.out, HK5⟩
          case measure => simp [RowKit.intOf] <;> omega
    · obtain rfl : j = n := by omega
      have hfin : refCutAll (ks.take j) (L, W) = refCutAll ks (L, W) := by rw [List.take_of_length_le (by have := HL.out; omega)]
      rw [hfin] at HC
      clear hfin
      go_wp2_with fail
      go_end0
      exact ⟨rfl, _, _, _, _, HC.out, HK.out⟩
end Go.Proofs.YtoacobcbloljkaaGreatDoor
