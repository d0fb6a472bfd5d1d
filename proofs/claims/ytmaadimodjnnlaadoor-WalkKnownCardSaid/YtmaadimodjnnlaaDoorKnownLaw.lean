/-
  The walk of the law WalkKnown.
-/
import Derived.Test.YtmaadimodjnnlaaDoorOfWalk
import Derived.Test.YtmaadimodjnnlaaDoorSameOut
import Derived.Test.YtmaadimodjnnlaaDoorKnownSpec
import Derived.Test.YtmaadimodjnnlaaDoorAwake14
import Derived.Deep.RegionHeld3
import Derived.Deep.DrawnRows
namespace Go.Proofs.YtmaadimodjnnlaaDoor
open Go.RowKit

theorem ScriptAt.up {w : World} {B B' : Nat} {A : Option Addr} {n : Nat} {s : List Op12} (h : ScriptAt w B A n s) (hB : B ≤ B') : ScriptAt w B' A n s := by
  refine ⟨h.1, fun j o hj => ?_⟩
  obtain ⟨ad, e, hb, ka, kn, kc, h1, h2, h3, h4, h5, h6, h7⟩ := h.2 j o hj
  exact ⟨ad, e, Nat.lt_of_lt_of_le hb hB, ka, kn, kc, h1, h2, h3, h4, h5, fun a ea h0 => Nat.lt_of_lt_of_le (h6 a ea h0) hB, h7⟩
theorem ScriptAt.next {w w' : World} {A : Option Addr} {n : Nat} {s : List Op12} (h : ScriptAt w w.heap.size A n s) (hb : Below w.heap.size w w') : ScriptAt w' w'.heap.size A n s :=
  (h.kp (Nat.le_refl _) (Kp.of_below (P := fun _ => True) hb) (fun _ _ => trivial)).up hb.size

/-- Another entry turns nothing of the other keys. -/
theorem known_put (l : List (Key × (En × Int))) (wh : List (Int × Bool)) (x : En) (clk : Int) {k : Key} (h : x.1 ≠ k) : knownOf [] (dPut l x clk) wh k = knownOf [] l wh k := by
  unfold dPut
  split
  · rfl
  · unfold knownOf
    rw [alGet_put, if_neg h]
theorem known_fresh (l : List (Key × (En × Int))) (wh : List (Int × Bool)) (x : En) {k : Key} (h : x.1 ≠ k) : knownOf [x] l wh k = knownOf [] l wh k := by
  unfold knownOf
  have : firstOf [x] k = none := by simp [firstOf, h]
  rw [this]
  rfl

theorem put_d (w : World) (c e h : Nat) (l : List (Key × (En × Int))) (wh : List (Int × Bool)) (clk : Int) (x : En) (H : CacheAt w c e h l wh clk) (h0 : 0 ≤ clk) (h1 : clk < 4611686018427387904) :
    Calls Tryd.prog 7 #[.pointer (some ⟨c, 0, none⟩), vEn x] w fun r w' => r = .returned (.int .i64 (if x.1.2 = [] then 1 else 0)) ∧ CacheAt w' c e h (dPut l x clk) wh (dClk x clk) ∧ Kp (fun k => k ≠ c ∧ k ≠ e) w w' := by
  refine (dentPut_any w c e h l wh clk x H h0 h1).mono ?_
  unfold dPut dClk
  rintro r V' (⟨hx, rfl, hc, hk⟩ | ⟨hx, rfl, hc, hk⟩)
  · rw [if_pos hx, if_pos hx, if_pos hx]
    exact ⟨rfl, hc, Kp.of_below hk⟩
  · rw [if_neg hx, if_neg hx, if_neg hx]
    exact ⟨rfl, hc, hk⟩

/-- What the last region keeps. -/
structure KR (w : World) (a b : Nat) (x : En) (o : Wk.Out) (A3 : Option Addr) (c3 : Nat) (c e h : Nat) (l : List (Key × (En × Int))) (wh : List (Int × Bool)) (clk : Int) (c2 e2 h2 : Nat) (l2 : List (Key × (En × Int))) (clk2 : Int) (W : World) : Prop where
  ax : At W a 32 (cEn x)
  ao : At W b 35 (outCells o (.slice A3 o.2.2.2.2.length c3))
  ca : CacheAt W c e h l wh clk
  cd : CacheAt W c2 e2 h2 l2 wh clk2
  rd : Rd W 2 A3 o.2.2.2.2.length (cKeys o.2.2.2.2)
  bl : Below w.heap.size w W

def KH (w : World) (a b : Nat) (x : En) (o : Wk.Out) (A3 : Option Addr) (c3 : Nat) (c e h : Nat) (l : List (Key × (En × Int))) (wh : List (Int × Bool)) (clk : Int) (c2 e2 h2 : Nat) (l2 : List (Key × (En × Int))) (clk2 : Int) (W : World) : Prop :=
  (W.cell? ⟨a, 0, none⟩ = some (.int .i64 x.1.1) ∧ W.cell? ⟨a, 1, none⟩ = some (.string ⟨x.1.2.toArray⟩) ∧ W.cell? ⟨a, 2, none⟩ = some (.bool x.2.1) ∧ W.cell? ⟨a, 3, none⟩ = some (.int .i64 x.2.2.1) ∧
    W.cell? ⟨a, 4, none⟩ = some (.int .i64 x.2.2.2.1) ∧ W.cell? ⟨a, 5, none⟩ = some (.int .i64 x.2.2.2.2.1) ∧ W.cell? ⟨a, 6, none⟩ = some (.string ⟨x.2.2.2.2.2.toArray⟩)) ∧
  (W.cell? ⟨b, 0, none⟩ = some (.bool o.1) ∧ W.cell? ⟨b, 1, none⟩ = some (.int .i64 o.2.1.1) ∧ W.cell? ⟨b, 2, none⟩ = some (.string ⟨o.2.1.2.toArray⟩) ∧ W.cell? ⟨b, 3, none⟩ = some (.int .i64 o.2.2.1) ∧
    W.cell? ⟨b, 4, none⟩ = some (.int .i64 o.2.2.2.1.1) ∧ W.cell? ⟨b, 5, none⟩ = some (.int .i64 o.2.2.2.1.2.1) ∧ W.cell? ⟨b, 6, none⟩ = some (.int .i64 o.2.2.2.1.2.2.1) ∧ W.cell? ⟨b, 7, none⟩ = some (.string ⟨o.2.2.2.1.2.2.2.toArray⟩) ∧
    W.cell? ⟨b, 8, none⟩ = some (.slice A3 o.2.2.2.2.length c3)) ∧
  Hid (KR w a b x o A3 c3 c e h l wh clk c2 e2 h2 l2 clk2 W)

section
variable {w : World} {a b : Nat} {x : En} {o : Wk.Out} {A3 : Option Addr} {c3 : Nat} {c e h : Nat} {l : List (Key × (En × Int))} {wh : List (Int × Bool)} {clk : Int} {c2 e2 h2 : Nat} {l2 : List (Key × (En × Int))} {clk2 : Int} {W W' : World}
theorem KR.next (H : KR w a b x o A3 c3 c e h l wh clk c2 e2 h2 l2 clk2 W) (hb : Below W.heap.size W W') : KR w a b x o A3 c3 c e h l wh clk c2 e2 h2 l2 clk2 W' :=
  ⟨H.ax.below hb, H.ao.below hb, H.ca.below hb, H.cd.below hb, H.rd.below hb, H.bl.trans (hb.mono H.bl.size)⟩
theorem KR.kh (H : KR w a b x o A3 c3 c e h l wh clk c2 e2 h2 l2 clk2 W) : KH w a b x o A3 c3 c e h l wh clk c2 e2 h2 l2 clk2 W := by
  refine ⟨En7 H.ax, ?_, Lib.hid H⟩
  have := out_cells H.ao
  simpa only [txt] using this
theorem KR.alloc (H : KR w a b x o A3 c3 c e h l wh clk c2 e2 h2 l2 clk2 W) (ob : Obj) : KR w a b x o A3 c3 c e h l wh clk c2 e2 h2 l2 clk2 (W.alloc ob) := H.next ((Below.refl _ _).alloc (Nat.le_refl _) _)
end

/-- One entry in new memory reads as a list of one. -/
theorem rd_one_entry (W : World) (x : En) : Rd (W.alloc (.cells (cEn x).toArray 32)) 7 (some ⟨W.heap.size, 0, none⟩) 1 (cEns [x]) := by
  refine ⟨rfl, fun _ => ⟨_, rfl, by simp, fun j u hu => ?_⟩⟩
  have e : (⟨W.heap.size, 0, none⟩ : Addr).add j = ⟨W.heap.size, j, none⟩ := by unfold Addr.add; split <;> simp_all
  rw [e, cell_of_row _ _ _ _ 32 (0, 0) (heap_alloc_new W _)]
  simpa [cEns] using hu

attribute [local go_sem ↓] Go.wp_at_zero Go.wp_at_succ

set_option maxRecDepth 100000 in
set_option maxHeartbeats 4000000 in
theorem walkKnown_walk (A : Option Addr) (n cp : Nat) (s : List Op12) (p : ByteArray) (follow : Bool) (links : Int) (hl0 : -9223372036854775808 ≤ links) (hl1 : links ≤ 9223372036854775807) (x : En) (w : World) (hs : ScriptAt w w.heap.size A n s) (hn : n ≤ 1256584717421) :
    Calls Tryd.prog 4 #[.slice A n cp, .string p, .bool follow, .int .i64 links, vEn x] w fun e w' => e = .returned (.bool true) ∧ Below w.heap.size w w' := by
  obtain ⟨⟨xd, xn⟩, ng, xi, xk, xm, xt⟩ := x
  have hof := fun V H => of_any V A n cp s hn H
  have hok := StOk.all s s.length (Nat.le_refl _)
  rw [List.take_length] at hok
  have hlen : s.length = n := hs.1
  generalize stAll s = S at hof hok
  obtain ⟨l, wh, clk, L, W⟩ := S
  obtain ⟨_, hk0, hk1, _, _⟩ := hok
  simp only at hk0 hk1
  obtain ⟨lk, hlk⟩ : ∃ lk, (min (max links 0) 8).toNat = lk := ⟨_, rfl⟩
  have hwk := fun V Af nf cf fresh c e h l wh clk h1 h2 H => walk_any V Af nf cf fresh p follow links c e h l wh clk h1 hl0 hl1 h2 H
  rw [hlk] at hwk
  obtain ⟨RUN, hRUN⟩ : ∃ RUN, Wk.walk (knownOf [] l wh) p.toList follow lk = RUN := ⟨_, rfl⟩
  have hsame1 : (∀ k, Wk.touches RUN k → ((xd, xn) : Key) ≠ k) → Wk.walk (knownOf [] (dPut l ((xd, xn), ng, xi, xk, xm, xt) clk) wh) p.toList follow lk = RUN := fun h => by
    rw [← hRUN]
    exact Wk.walk_same fun k hk => known_put l wh _ clk (h k (by rw [← hRUN]; exact hk))
  have hsame2 : (∀ k, Wk.touches RUN k → ((xd, xn) : Key) ≠ k) → Wk.walk (knownOf [((xd, xn), ng, xi, xk, xm, xt)] l wh) p.toList follow lk = RUN := fun h => by
    rw [← hRUN]
    exact Wk.walk_same fun k hk => known_fresh l wh _ (h k (by rw [← hRUN]; exact hk))
  have hclk : clk < 4611686018427387904 := by omega
  have HSC := Lib.hid hs
  have HOF := Lib.hid hof
  have HWK := Lib.hid hwk
  have HRUN := Lib.hid hRUN
  have HS1 := Lib.hid hsame1
  have HS2 := Lib.hid hsame2
  clear hs hof hwk hRUN hsame1 hsame2 hlk hlen hk1
  unfold vEn
  simp only [txt]
  go_enter Tryd.func4, Tryd.ntmps4
  go_wp2_with fail
  have hb0 : Below w.heap.size w (w.alloc (.cells #[.int .i64 xd, .string ⟨xn.toArray⟩, .bool ng, .int .i64 xi, .int .i64 xk, .int .i64 xm, .string ⟨xt.toArray⟩] 32)) := (Below.refl _ _).alloc (Nat.le_refl _) _
  have KX : Hid (At (w.alloc (.cells #[.int .i64 xd, .string ⟨xn.toArray⟩, .bool ng, .int .i64 xi, .int .i64 xk, .int .i64 xm, .string ⟨xt.toArray⟩] 32)) w.heap.size 32 (cEn ((xd, xn), ng, xi, xk, xm, xt))) := At.new w _ (cEn ((xd, xn), ng, xi, xk, xm, xt))
  have HB0 := Lib.hid hb0
  have SC0 := Lib.hid (HSC.out.next hb0)
  clear hb0
  refine (HOF.out _ SC0.out).mono ?_
  rintro r w1 ⟨c, e, h, cb, rfl, hca, _, hb1, _, _, _⟩
  have HB1 := Lib.hid (HB0.out.trans (hb1.mono HB0.out.size))
  have SC1 := Lib.hid (SC0.out.next hb1)
  have KX1 := Lib.hid (KX.out.below hb1)
  have CA1 := Lib.hid hca
  clear hb1 hca
  go_wp2_with fail
  refine (HOF.out _ SC1.out).mono ?_
  rintro r w2 ⟨c2, e2, h2, cb2, rfl, hca2, _, hb2, hc2, he2, hh2⟩
  have HB2 := Lib.hid (HB1.out.trans (hb2.mono HB1.out.size))
  have KX2 := Lib.hid (KX1.out.below hb2)
  have CA2 := Lib.hid (CA1.out.below hb2)
  have CD2 := Lib.hid hca2
  have hs1 := CA1.out.c_lt
  have hs2 := CA1.out.me.lt
  have hs3 := CA1.out.mw.lt
  clear hb2 hca2
  go_wp2_with fail
  refine (HWK.out _ none 0 0 [] c e h l wh clk (by omega) (Rd.empty _ _ _) CA2.out).mono ?_
  rintro r w3 ⟨v3, rfl, hown3, hb3⟩
  rw [HRUN.out] at hown3 ⊢
  have hle3 := own_le hown3
  obtain ⟨A3, c3, rfl⟩ := own_slice hown3
  have HB3 := Lib.hid (HB2.out.trans (hb3.mono HB2.out.size))
  have KX3 := Lib.hid (KX2.out.below hb3)
  have CA3 := Lib.hid (CA2.out.below hb3)
  have CD3 := Lib.hid (CD2.out.below hb3)
  have HO3 := Lib.hid (Rd.of_own hown3)
  have HFR : Hid (∀ ad, A3 = some ad → w2.heap.size ≤ ad.block) := own_fresh hown3
  clear hown3 hb3
  obtain ⟨nd, ⟨kd, kn⟩, er, ⟨ni, nk, nm, nt⟩, us⟩ := RUN
  simp only [vOut, outCells, txt] at HO3 hle3 ⊢
  unfold maxLen at hle3
  have hq : ∀ V : World, (binOp .eql 28 (.agg #[.int .i64 kd, .string ⟨kn.toArray⟩]) (.agg #[.int .i64 xd, .string ⟨xn.toArray⟩])).run Tryd.prog V = .ok (.bool (decide (((kd, kn) : Key) = (xd, xn)))) V := fun V => eql_key (kd, kn) (xd, xn) V
  obtain ⟨x0, x1, x2, x3, x4, x5, x6⟩ := En7 KX3.out
  have xa0 : ∀ o, (w3.alloc o).cell? ⟨w.heap.size, 0, none⟩ = some (.int .i64 xd) := fun o => cell_alloc_old x0 o
  have xa1 : ∀ o, (w3.alloc o).cell? ⟨w.heap.size, 1, none⟩ = some (.string ⟨xn.toArray⟩) := fun o => cell_alloc_old x1 o
  go_upto_region 6 with fail
  go_cut [18] (fun v wd => v = .bool (nd && decide (((kd, kn) : Key) = (xd, xn))) ∧ (w3.alloc (.cells #[.bool nd, .int .i64 kd, .string ⟨kn.toArray⟩, .int .i64 er, .int .i64 ni, .int .i64 nk, .int .i64 nm, .string ⟨nt.toArray⟩, .slice A3 us.length c3] 35)) = wd)
  case first =>
    cases nd with
    | false =>
      go_wp2_with fail
      go_meet
      case rel => exact ⟨rfl, rfl⟩
    | true =>
      generalize decide (((kd, kn) : Key) = (xd, xn)) = bq at *
      go_wp2_with fail
      go_meet
      case rel => exact ⟨rfl, rfl⟩
  case rest =>
    obtain ⟨rfl, hw⟩ := hcut
    have AO : Hid (At wc w3.heap.size 35 (outCells (nd, (kd, kn), er, (ni, nk, nm, nt), us) (.slice A3 us.length c3))) := by
      rw [← hw]
      exact At.new w3 35 (outCells (nd, (kd, kn), er, (ni, nk, nm, nt), us) (.slice A3 us.length c3))
    have hbw : Below w3.heap.size w3 wc := by
      rw [← hw]
      exact (Below.refl _ _).alloc (Nat.le_refl _) _
    have HB4 := Lib.hid (HB3.out.trans (hbw.mono HB3.out.size))
    have KX4 := Lib.hid (KX3.out.below hbw)
    have CA4 := Lib.hid (CA3.out.below hbw)
    have CD4 := Lib.hid (CD3.out.below hbw)
    have HO4 := Lib.hid (HO3.out.below hbw)
    obtain ⟨t0, ht0⟩ : ∃ t0, (nd && decide (((kd, kn) : Key) = (xd, xn))) = t0 := ⟨_, rfl⟩
    rw [ht0]
    have HT0 := Lib.hid ht0
    obtain ⟨w4, hw4⟩ : ∃ w4 : World, w4 = wc := ⟨_, rfl⟩
    subst hw4
    clear hw hbw ht0 x0 x1 x2 x3 x4 x5 x6 xa0 xa1 hq
    obtain ⟨x0, x1, x2, x3, x4, x5, x6⟩ := En7 KX4.out
    obtain ⟨o0, o1, o2, o3, o4, o5, o6, o7, o8⟩ := out_cells AO.out
    go_wp2_with fail
    go_loopw [18, 19] (fun v i wr => ∃ j q : Nat, j ≤ us.length ∧ i = .int .i64 j ∧ wr = w4.drewN q ∧ v = .bool (t0 || (us.take j).any fun k => decide (k = (xd, xn)))) (fun _ i _ => us.length - (intOf i).toNat)
    case atStart => exact ⟨0, 0, by omega, rfl, rfl, by simp⟩
    case round =>
      obtain ⟨j, q, hj, rfl, rfl, rfl⟩ := hrel
      by_cases hlt : j < us.length
      · have htk : us.take (j + 1) = us.take j ++ [us[j]] := by simp
        obtain ⟨ad, d1, n1, rfl, hbl, hx, p1, p2⟩ := HO4.out.key_at hlt
        have huj : us[j] = (d1, n1) := by
          have := List.getElem?_eq_getElem hlt
          rw [this] at hx
          exact Option.some.inj hx
        have hany : (us.take (j + 1)).any (fun k => decide (k = (xd, xn))) = ((us.take j).any (fun k => decide (k = (xd, xn))) || decide (((d1, n1) : Key) = (xd, xn))) := by
          rw [htk, List.any_append, huj]
          simp
        have HANY := Lib.hid hany
        have hq : ∀ V : World, (binOp .eql 28 (.agg #[.int .i64 d1, .string ⟨n1.toArray⟩]) (.agg #[.int .i64 xd, .string ⟨xn.toArray⟩])).run Tryd.prog V = .ok (.bool (decide (((d1, n1) : Key) = (xd, xn)))) V := fun V => eql_key (d1, n1) (xd, xn) V
        clear htk hx huj hany
        generalize decide (((d1, n1) : Key) = (xd, xn)) = bq at *
        generalize (us.take j).any (fun k => decide (k = (xd, xn))) = b2 at *
        cases hb : (t0 || b2) with
        | true =>
          go_wp2_with fail
          go_quiet (fail)
          go_wp2_with fail
          go_roundw
          case rel => exact ⟨j + 1, _, by omega, by go_num, rfl, by rw [HANY.out, ← Bool.or_assoc, hb]; rfl⟩
          case measure => simp [intOf] <;> omega
        | false =>
          go_wp2_with fail
          go_quiet (fail)
          go_wp2_with fail
          go_roundw
          case rel => exact ⟨j + 1, _, by omega, by go_num, rfl, by rw [HANY.out, ← Bool.or_assoc, hb]; rfl⟩
          case measure => simp [intOf] <;> omega
      · obtain rfl : j = us.length := by omega
        rw [List.take_length]
        have HBq := Lib.hid (below_drewN_ HB4.out q)
        cases hb : (t0 || us.any fun k => decide (k = (xd, xn))) with
        | true =>
          go_wp2_with fail
          refine (awake14 _).mono ?_
          rintro r w5 ⟨rfl, hb5⟩
          go_wp2_with fail
          go_ret
          exact ⟨rfl, HBq.out.trans (hb5.mono HBq.out.size)⟩
        | false =>
          have hnot : ∀ k, Wk.touches (nd, (kd, kn), er, (ni, nk, nm, nt), us) k → ((xd, xn) : Key) ≠ k := by
            obtain ⟨hb1, hb2⟩ := Bool.or_eq_false_iff.1 hb
            rintro k (hk | ⟨hk1, hk2⟩) e
            · have := List.any_eq_false.1 hb2 k hk
              simp [← e] at this
            · have h0 := HT0.out
              rw [hb1] at h0
              simp only at hk1 hk2
              rw [hk1, hk2, e] at h0
              simp at h0
          have HW1 := Lib.hid (HS1.out hnot)
          have HW2 := Lib.hid (HS2.out hnot)
          clear hb hnot
          have hpd := put_d (w4.drewN q) c2 e2 h2 l wh clk ((xd, xn), ng, xi, xk, xm, xt) (CD4.out.kp ((Kp.refl (fun _ => True) w4).drewN q) trivial trivial trivial) hk0 hclk
          simp only [vEn, txt] at hpd
          generalize (if xn = [] then (1 : Int) else 0) = pv at hpd
          have HPD := Lib.hid hpd
          clear hpd
          go_wp2_with fail
          refine (HPD.out).mono ?_
          rintro r w5 ⟨rfl, hcd5, hk5⟩
          have l1 : w.heap.size < w1.heap.size := KX1.out.lt
          have l3 := CD3.out.c_lt
          have l4 := CD3.out.me.lt
          have l5 := CD2.out.c_lt
          have l6 := CD2.out.me.lt
          have CD5 := Lib.hid hcd5
          have CA5 := Lib.hid ((CA4.out.kp ((Kp.refl (fun _ => True) w4).drewN q) trivial trivial trivial).kp hk5 ⟨by omega, by omega⟩ ⟨by omega, by omega⟩ ⟨by omega, by omega⟩)
          have AO5 := Lib.hid ((AO.out.kp ((Kp.refl (fun _ => True) w4).drewN q) trivial).kp hk5 ⟨by omega, by omega⟩)
          have KX5 := Lib.hid ((KX4.out.kp ((Kp.refl (fun _ => True) w4).drewN q) trivial).kp hk5 ⟨by omega, by omega⟩)
          have HO5 := Lib.hid (((HO4.out.drewN q)).kp hk5 (fun ad ea => by have := HFR.out ad ea; exact ⟨by omega, by omega⟩))
          have HB5 := Lib.hid (HBq.out.trans (hk5.to_below HBq.out.size (fun k hk => ⟨by omega, by omega⟩)))
          have hwd := fun V Hc => HWK.out V none 0 0 [] c2 e2 h2 (dPut l ((xd, xn), ng, xi, xk, xm, xt) clk) wh (dClk ((xd, xn), ng, xi, xk, xm, xt) clk) (by omega) (Rd.empty _ _ _) Hc
          rw [HW1.out] at hwd
          have hwf := fun V Af nf cf Hr Hc => HWK.out V Af nf cf [((xd, xn), ng, xi, xk, xm, xt)] c e h l wh clk Hr Hc
          rw [HW2.out] at hwf
          have HWD := Lib.hid hwd
          have HWF := Lib.hid hwf
          clear hcd5 hk5 hwd hwf x0 x1 x2 x3 x4 x5 x6 o0 o1 o2 o3 o4 o5 o6 o7 o8 l1 l3 l4 l5 l6
          obtain ⟨x0, x1, x2, x3, x4, x5, x6⟩ := En7 KX5.out
          obtain ⟨o0, o1, o2, o3, o4, o5, o6, o7, o8⟩ := out_cells AO5.out
          have hso := fun V A6 c6 h1 h2 => sameOut_yes (nd, (kd, kn), er, (ni, nk, nm, nt), us) A6 A3 us.length c6 c3 V h1 h2 (by unfold maxLen; omega)
          simp only [vOut, outCells, txt] at hso
          have HSO := Lib.hid hso
          clear hso
          have HKR : Hid (KR w w.heap.size w3.heap.size ((xd, xn), ng, xi, xk, xm, xt) (nd, (kd, kn), er, (ni, nk, nm, nt), us) A3 c3 c e h l wh clk c2 e2 h2 (dPut l ((xd, xn), ng, xi, xk, xm, xt) clk) (dClk ((xd, xn), ng, xi, xk, xm, xt) clk) w5) := ⟨KX5.out, AO5.out, CA5.out, CD5.out, HO5.out, HB5.out⟩
          go_upto_region 14 with fail
          have HONE : Hid (∀ V : World, Rd (V.alloc (.cells #[.int .i64 xd, .string ⟨xn.toArray⟩, .bool ng, .int .i64 xi, .int .i64 xk, .int .i64 xm, .string ⟨xt.toArray⟩] 32)) 7 (some ⟨V.heap.size, 0, none⟩) 1 (cEns [((xd, xn), ng, xi, xk, xm, xt)])) := fun V => rd_one_entry V ((xd, xn), ng, xi, xk, xm, xt)
          clear HOF HWK HRUN HS1 HS2 HW1 HW2 SC0 SC1 KX KX1 KX2 KX3 KX4 KX5 CA1 CA2 CA3 CA4 CA5 CD2 CD3 CD4 CD5 HB0 HB1 HB2 HB3 HB4 HB5 HBq HO3 HO4 HO5 AO AO5 HT0 HFR HPD HSC
          go_region_held3 (fun W => (W.cell? ⟨w.heap.size, 0, none⟩ = some (.int .i64 xd) ∧ W.cell? ⟨w.heap.size, 1, none⟩ = some (.string ⟨xn.toArray⟩) ∧ W.cell? ⟨w.heap.size, 2, none⟩ = some (.bool ng) ∧ W.cell? ⟨w.heap.size, 3, none⟩ = some (.int .i64 xi) ∧
    W.cell? ⟨w.heap.size, 4, none⟩ = some (.int .i64 xk) ∧ W.cell? ⟨w.heap.size, 5, none⟩ = some (.int .i64 xm) ∧ W.cell? ⟨w.heap.size, 6, none⟩ = some (.string ⟨xt.toArray⟩)) ∧
  (W.cell? ⟨w3.heap.size, 0, none⟩ = some (.bool nd) ∧ W.cell? ⟨w3.heap.size, 1, none⟩ = some (.int .i64 kd) ∧ W.cell? ⟨w3.heap.size, 2, none⟩ = some (.string ⟨kn.toArray⟩) ∧ W.cell? ⟨w3.heap.size, 3, none⟩ = some (.int .i64 er) ∧
    W.cell? ⟨w3.heap.size, 4, none⟩ = some (.int .i64 ni) ∧ W.cell? ⟨w3.heap.size, 5, none⟩ = some (.int .i64 nk) ∧ W.cell? ⟨w3.heap.size, 6, none⟩ = some (.int .i64 nm) ∧ W.cell? ⟨w3.heap.size, 7, none⟩ = some (.string ⟨nt.toArray⟩) ∧
    W.cell? ⟨w3.heap.size, 8, none⟩ = some (.slice A3 us.length c3)) ∧
  Hid (KR w w.heap.size w3.heap.size ((xd, xn), ng, xi, xk, xm, xt) (nd, (kd, kn), er, (ni, nk, nm, nt), us) A3 c3 c e h l wh clk c2 e2 h2 (dPut l ((xd, xn), ng, xi, xk, xm, xt) clk) (dClk ((xd, xn), ng, xi, xk, xm, xt) clk) W))
            (first
              | exact (KR.next HKR.out (below_drew (Below.refl _ _))).kh
              | exact (KR.next (Hid.out (And.right (And.right (by assumption)))) (Hid.out (by assumption))).kh
              | exact (KR.alloc (Hid.out (And.right (And.right (by assumption)))) _).kh)
            (first
              | (go_at_call 8; (with_reducible refine (HWD.out _ (KR.cd (Hid.out (And.right (And.right (by assumption)))))).mono ?_); rintro r w6 ⟨v6, rfl, hown6, hb6⟩; obtain ⟨A6, c6, rfl⟩ := own_slice hown6; have HO6 := Lib.hid (Rd.of_own hown6); have HB6 := Lib.hid hb6; clear hown6 hb6; simp only [vOut, outCells, txt])
              | (go_at_call 11; (with_reducible refine (HSO.out _ _ _ (Hid.out (by assumption)) (KR.rd (Hid.out (And.right (And.right (by assumption)))))).mono ?_); rintro r w7 ⟨rfl, hb7⟩; have HB7 := Lib.hid hb7; clear hb7)
              | (go_at_call 9; refine (awake14 _).mono ?_; rintro r w9 ⟨rfl, hb9⟩; have HB9 := Lib.hid hb9; clear hb9)
              | (go_at_call 8; (with_reducible refine (HWF.out _ _ _ _ (by omega) (Hid.out HONE _) (KR.ca (Hid.out (And.right (And.right (by assumption)))))).mono ?_); rintro r w6 ⟨v6, rfl, hown6, hb6⟩; obtain ⟨A6, c6, rfl⟩ := own_slice hown6; have HO6 := Lib.hid (Rd.of_own hown6); have HB6 := Lib.hid hb6; clear hown6 hb6; simp only [vOut, outCells, txt]))
          have hfin : Below w.heap.size w w9 := KR.bl (Hid.out (And.right (And.right (by assumption))))
          go_wp2_with fail
          go_ret
          exact ⟨rfl, hfin⟩
end Go.Proofs.YtmaadimodjnnlaaDoor
