/-
  The walk of vistalaw12.Of.
-/
import Derived.Test.YtoacobcbloljkaaGreatDoorOf
namespace Go.Proofs.YtoacobcbloljkaaGreatDoor
open Go.RowKit

/-- What Of leaves. -/
def OfPost (w : World) (s : St) (r : Ending) (w' : World) : Prop :=
  ∃ c e h cb, r = .returned (.tuple #[.pointer (some ⟨c, 0, none⟩), .pointer (some ⟨cb, 0, none⟩), .bool true]) ∧ CacheAt w' c e h s.1 s.2.1 s.2.2.1 ∧
    (∃ A1 c1 A2 c2, RefAt w' w.heap.size cb (fun k => k < w.heap.size ∨ k = c ∨ k = e ∨ k = h) A1 c1 A2 c2 s.2.2.2.1 s.2.2.2.2) ∧ Below w.heap.size w w' ∧ w.heap.size ≤ c ∧ w.heap.size ≤ e ∧ w.heap.size ≤ h

def opCells (o : Op12) (v : Value) : List Value := [.int .i64 o.1, .int .i64 o.2.1] ++ cEn o.2.2.1 ++ [v]

set_option maxRecDepth 100000 in
set_option maxHeartbeats 8000000 in
theorem of_any (w : World) (A : Option Addr) (n cp : Nat) (s : List Op12) (hn : n ≤ 1256584717421) (hs : ScriptAt w w.heap.size A n s) :
    Calls Tryz.prog 13 #[.slice A n cp] w (OfPost w (stAll s)) := by
  have HS := Lib.hid hs
  have HN := Lib.hid (dentNew_any w)
  clear hs
  go_enter Tryz.func13, Tryz.ntmps13
  go_wp2_with fail
  refine (HN.out).mono ?_
  rintro r w1 ⟨c, e, h, rfl, HC, hc, he, hh, hb1⟩
  have hc1 := HC.c_lt
  have he1 := HC.me.lt
  have hh1 := HC.mw.lt
  have HC1 := Lib.hid (HC.alloc (.cells #[.slice none 0 0, .slice none 0 0] 101))
  have hsz := hb1.size
  have HB1 := Lib.hid (hb1.alloc hb1.size (.cells #[.slice none 0 0, .slice none 0 0] 101))
  have HR1 : Hid (RefAt (w1.alloc (.cells #[.slice none 0 0, .slice none 0 0] 101)) w.heap.size w1.heap.size (fun k => k < w.heap.size ∨ k = c ∨ k = e ∨ k = h) none 0 none 0 [] []) :=
    ⟨At.new w1 101 [.slice none 0 0, .slice none 0 0], World.ownsRow_nil _ _ _ _, World.ownsRow_nil _ _ _ _, fun k hk => ⟨by simp; omega, by omega, fun q => (by cases q), fun q => (by cases q)⟩, fun k q => (by cases q), fun k q => (by cases q)⟩
  clear HC hb1 hc1 he1 hh1
  go_wp2_with fail
  go_loopw [7, 8, 9] (fun i _ _ wr => ∃ j : Nat, j ≤ n ∧ i = .int .i64 j ∧ Hid (CacheAt wr c e h (stAll (s.take j)).1 (stAll (s.take j)).2.1 (stAll (s.take j)).2.2.1) ∧
      Hid (∃ A1 c1 A2 c2, RefAt wr w.heap.size w1.heap.size (fun k => k < w.heap.size ∨ k = c ∨ k = e ∨ k = h) A1 c1 A2 c2 (stAll (s.take j)).2.2.2.1 (stAll (s.take j)).2.2.2.2) ∧ Hid (Below w.heap.size w wr)) (fun i _ _ _ => n - (RowKit.intOf i).toNat)
  case atStart => exact ⟨0, by omega, rfl, HC1, ⟨_, _, _, _, HR1.out⟩, HB1⟩
  case round =>
    obtain ⟨j, hj, rfl, HC, HR, HB⟩ := hrel
    have hsl : s.length = n := HS.out.1
    by_cases hlt : j < n
    · obtain ⟨o, ho⟩ : ∃ o, s[j]? = some o := ⟨_, List.getElem?_eq_getElem (by omega)⟩
      obtain ⟨ad, rfl, hbl, hop⟩ := (HS.out.kp (Nat.le_refl _) (Q := fun k => k < w.heap.size) ⟨HB.out.os, HB.out.tape, HB.out.output, HB.out.size, fun k hk _ => HB.out.block k hk⟩ (fun k hk => hk)).2 j o ho
      have hok := StOk.all s j (by omega)
      have hst := stAll_step s ho
      obtain ⟨ka, kn, kc, h1, h2, h3, h4, h5, h6, h7, h8, h9⟩ := hop
      obtain ⟨kind, dir, ⟨⟨xd, xn⟩, ng, xi, xk, xm, xt⟩, ks⟩ := o
      have e0 := h3 0 _ rfl
      have e1 := h3 1 _ rfl
      have e2 := h3 2 _ rfl
      have e3 := h3 3 _ rfl
      have e4 := h3 4 _ rfl
      have e5 := h3 5 _ rfl
      have e6 := h3 6 _ rfl
      simp only [txt] at e0 e1 e2 e3 e4 e5 e6 h1 h2 h5 h8 h9
      have HST := Lib.hid hst
      have HOK := Lib.hid hok
      have H5 := Lib.hid h5
      have H6 := Lib.hid h6
      clear ho hst hok h3 h5 h6 hsl
      go_upto_region 9 with fail
      obtain ⟨S, hS⟩ : ∃ S, stAll (s.take j) = S := ⟨_, rfl⟩
      rw [hS] at HST HOK HC HR
      obtain ⟨l, wh, clk, L, W⟩ := S
      obtain ⟨hrel, hk0, hk1, hk2, hk3⟩ := HOK.out
      simp only at hrel hk0 hk1 hk2 hk3 HC HR
      have hsome := hrel.some (xd, xn)
      have HSOME := Lib.hid hsome
      have HX : Hid (At (wr.alloc (.cells #[.int .i64 kind, .int .i64 dir, .int .i64 xd, .string ⟨xn.toArray⟩, .bool ng, .int .i64 xi, .int .i64 xk, .int .i64 xm, .string ⟨xt.toArray⟩, .slice ka kn kc] 103)) wr.heap.size 103 [.int .i64 kind, .int .i64 dir, .int .i64 xd, .string ⟨xn.toArray⟩, .bool ng, .int .i64 xi, .int .i64 xk, .int .i64 xm, .string ⟨xt.toArray⟩, .slice ka kn kc]) := At.new wr _ [.int .i64 kind, .int .i64 dir, .int .i64 xd, .string ⟨xn.toArray⟩, .bool ng, .int .i64 xi, .int .i64 xk, .int .i64 xm, .string ⟨xt.toArray⟩, .slice ka kn kc]
      have HB0 : Hid (Below w.heap.size w (wr.alloc (.cells #[.int .i64 kind, .int .i64 dir, .int .i64 xd, .string ⟨xn.toArray⟩, .bool ng, .int .i64 xi, .int .i64 xk, .int .i64 xm, .string ⟨xt.toArray⟩, .slice ka kn kc] 103))) := HB.out.alloc HB.out.size _
      have hcl := HC.out.c_lt
      have hel := HC.out.me.lt
      have hhl := HC.out.mw.lt
      have HT : Hid (Two wr.heap.size (wr.alloc (.cells #[.int .i64 kind, .int .i64 dir, .int .i64 xd, .string ⟨xn.toArray⟩, .bool ng, .int .i64 xi, .int .i64 xk, .int .i64 xm, .string ⟨xt.toArray⟩, .slice ka kn kc] 103)) w.heap.size w1.heap.size c e h l wh clk L W (wr.alloc (.cells #[.int .i64 kind, .int .i64 dir, .int .i64 xd, .string ⟨xn.toArray⟩, .bool ng, .int .i64 xi, .int .i64 xk, .int .i64 xm, .string ⟨xt.toArray⟩, .slice ka kn kc] 103))) := by
        obtain ⟨A1, c1, A2, c2, hr⟩ := HR.out
        exact ⟨HC.out.alloc _, ⟨A1, c1, A2, c2, hr.more HX.out ((Below.refl _ _).alloc (Nat.le_refl _) _) (Nat.le_refl _)⟩, Kp.refl _ _, ⟨by omega, by omega, by omega, hc, he, hh⟩, HB0.out.size⟩
      have HTD := Lib.hid HT.out.drew
      have hpl := fun V => place_any kind 6 h8 h9 (by omega) (by omega) V
      have hsx : w.heap.size ≤ wr.heap.size := HB.out.size
      clear hS hrel hsome hcl hel hhl
      obtain ⟨q, hq⟩ : ∃ q, kind % 6 = q := ⟨_, rfl⟩
      rw [hq] at hpl
      have hq6 : q = 0 ∨ q = 1 ∨ q = 2 ∨ q = 3 ∨ q = 4 ∨ q = 5 := by omega
      have HQ6 := Lib.hid hq
      clear hq h8 h9 e0 e1 e2 e3 e4 e5 e6 h1 h2 h4
      rcases hq6 with rfl | rfl | rfl | rfl | rfl | rfl
      · have HPL := Lib.hid hpl
        have hs2 : stAll (s.take (j + 1)) = (dPut l ((xd, xn), ng, xi, xk, xm, xt) clk, wh, dClk ((xd, xn), ng, xi, xk, xm, xt) clk, (if xn = [] then L else outK L (xd, xn) ++ [((xd, xn), ng, xi, xk, xm, xt)]), W) := by
          rw [HST.out]
          unfold stStep
          simp only [HQ6.out]
          rfl
        have HS2 := Lib.hid hs2
        clear hpl hs2
        have hp := fun V L0 W0 (H : Two wr.heap.size (wr.alloc (.cells #[.int .i64 kind, .int .i64 dir, .int .i64 xd, .string ⟨xn.toArray⟩, .bool ng, .int .i64 xi, .int .i64 xk, .int .i64 xm, .string ⟨xt.toArray⟩, .slice ka kn kc] 103)) w.heap.size w1.heap.size c e h l wh clk L0 W0 V) => two_put H ((xd, xn), ng, xi, xk, xm, xt) hk0 (by omega)
        have hr := fun V l0 wh0 clk0 (H : Two wr.heap.size (wr.alloc (.cells #[.int .i64 kind, .int .i64 dir, .int .i64 xd, .string ⟨xn.toArray⟩, .bool ng, .int .i64 xi, .int .i64 xk, .int .i64 xm, .string ⟨xt.toArray⟩, .slice ka kn kc] 103)) w.heap.size w1.heap.size c e h l0 wh0 clk0 L W V) => two_refPut H ((xd, xn), ng, xi, xk, xm, xt) (by omega)
        simp only [vEn, txt] at hp hr
        generalize (if xn = [] then (1 : Int) else 0) = pv at hp hr
        have HP := Lib.hid hp
        have HQ := Lib.hid hr
        clear hp hr
        go_upto_region 11 with fail
        refine (HPL.out _).mono ?_
        rintro r V0 ⟨rfl, rfl⟩
        go_upto_region 12 with fail
        go_region_with (first | (go_at_call 28; refine (HP.out _ _ _ HTD.out).mono ?_; rintro r V1 ⟨rfl, hT⟩; have HT1 := Lib.hid hT; have g2 : V1.cell? ⟨wr.heap.size, 2, none⟩ = some (.int .i64 xd) := (by rw [(HX.out.kp HT1.out.kp (.inr rfl)).cell]; rfl); have g3 : V1.cell? ⟨wr.heap.size, 3, none⟩ = some (.string ⟨xn.toArray⟩) := (by rw [(HX.out.kp HT1.out.kp (.inr rfl)).cell]; rfl); have g4 : V1.cell? ⟨wr.heap.size, 4, none⟩ = some (.bool ng) := (by rw [(HX.out.kp HT1.out.kp (.inr rfl)).cell]; rfl); have g5 : V1.cell? ⟨wr.heap.size, 5, none⟩ = some (.int .i64 xi) := (by rw [(HX.out.kp HT1.out.kp (.inr rfl)).cell]; rfl); have g6 : V1.cell? ⟨wr.heap.size, 6, none⟩ = some (.int .i64 xk) := (by rw [(HX.out.kp HT1.out.kp (.inr rfl)).cell]; rfl); have g7 : V1.cell? ⟨wr.heap.size, 7, none⟩ = some (.int .i64 xm) := (by rw [(HX.out.kp HT1.out.kp (.inr rfl)).cell]; rfl); have g8 : V1.cell? ⟨wr.heap.size, 8, none⟩ = some (.string ⟨xt.toArray⟩) := (by rw [(HX.out.kp HT1.out.kp (.inr rfl)).cell]; rfl); clear hT) | (go_at_call 49; refine (HQ.out _ _ _ _ HT1.out).mono ?_; rintro r V2 ⟨rfl, hT⟩; have HT2 := Lib.hid hT; clear hT) | (go_at_call 49; refine (HQ.out _ _ _ _ HTD.out).mono ?_; rintro r V1 ⟨rfl, hT⟩; have HT1 := Lib.hid hT; have g2 : V1.cell? ⟨wr.heap.size, 2, none⟩ = some (.int .i64 xd) := (by rw [(HX.out.kp HT1.out.kp (.inr rfl)).cell]; rfl); have g3 : V1.cell? ⟨wr.heap.size, 3, none⟩ = some (.string ⟨xn.toArray⟩) := (by rw [(HX.out.kp HT1.out.kp (.inr rfl)).cell]; rfl); have g4 : V1.cell? ⟨wr.heap.size, 4, none⟩ = some (.bool ng) := (by rw [(HX.out.kp HT1.out.kp (.inr rfl)).cell]; rfl); have g5 : V1.cell? ⟨wr.heap.size, 5, none⟩ = some (.int .i64 xi) := (by rw [(HX.out.kp HT1.out.kp (.inr rfl)).cell]; rfl); have g6 : V1.cell? ⟨wr.heap.size, 6, none⟩ = some (.int .i64 xk) := (by rw [(HX.out.kp HT1.out.kp (.inr rfl)).cell]; rfl); have g7 : V1.cell? ⟨wr.heap.size, 7, none⟩ = some (.int .i64 xm) := (by rw [(HX.out.kp HT1.out.kp (.inr rfl)).cell]; rfl); have g8 : V1.cell? ⟨wr.heap.size, 8, none⟩ = some (.string ⟨xt.toArray⟩) := (by rw [(HX.out.kp HT1.out.kp (.inr rfl)).cell]; rfl); clear hT) | (go_at_call 28; refine (HP.out _ _ _ HT1.out).mono ?_; rintro r V2 ⟨rfl, hT⟩; have HT2 := Lib.hid hT; clear hT))
        all_goals
          have HE := Lib.hid (HT2.out.out HB0.out)
          clear g2 g3 g4 g5 g6 g7 g8
          go_wp2_with fail
          go_roundw
          case rel => exact ⟨j + 1, by omega, by go_num, by rw [HS2.out]; exact HE.out.1, by rw [HS2.out]; exact HE.out.2.1, HE.out.2.2⟩
          case measure => simp [RowKit.intOf] <;> omega
      · have HPL := Lib.hid hpl
        have hs2 : stAll (s.take (j + 1)) = (dUse l (xd, xn) clk, wh, dUseClk l (xd, xn) clk, useK L (xd, xn), W) := by
          rw [HST.out]
          unfold stStep
          simp only [HQ6.out]
          rfl
        have HS2 := Lib.hid hs2
        clear hpl hs2
        have hp := fun V L0 W0 (H : Two wr.heap.size (wr.alloc (.cells #[.int .i64 kind, .int .i64 dir, .int .i64 xd, .string ⟨xn.toArray⟩, .bool ng, .int .i64 xi, .int .i64 xk, .int .i64 xm, .string ⟨xt.toArray⟩, .slice ka kn kc] 103)) w.heap.size w1.heap.size c e h l wh clk L0 W0 V) => two_use H (xd, xn) hk0 (by omega)
        have hr := fun V l0 wh0 clk0 (H : Two wr.heap.size (wr.alloc (.cells #[.int .i64 kind, .int .i64 dir, .int .i64 xd, .string ⟨xn.toArray⟩, .bool ng, .int .i64 xi, .int .i64 xk, .int .i64 xm, .string ⟨xt.toArray⟩, .slice ka kn kc] 103)) w.heap.size w1.heap.size c e h l0 wh0 clk0 L W V) => two_refUse H (xd, xn) (by omega)
        simp only [vKey, txt] at hp hr
        rw [← HSOME.out] at hr
        generalize (alGet l (xd, xn)).isSome = bv at hp hr
        have HP := Lib.hid hp
        have HQ := Lib.hid hr
        clear hp hr
        go_upto_region 11 with fail
        refine (HPL.out _).mono ?_
        rintro r V0 ⟨rfl, rfl⟩
        go_upto_region 14 with fail
        go_region_with (first | (go_at_call 50; refine (HP.out _ _ _ HTD.out).mono ?_; rintro r V1 ⟨rfl, hT⟩; have HT1 := Lib.hid hT; have g2 : V1.cell? ⟨wr.heap.size, 2, none⟩ = some (.int .i64 xd) := (by rw [(HX.out.kp HT1.out.kp (.inr rfl)).cell]; rfl); have g3 : V1.cell? ⟨wr.heap.size, 3, none⟩ = some (.string ⟨xn.toArray⟩) := (by rw [(HX.out.kp HT1.out.kp (.inr rfl)).cell]; rfl); clear hT) | (go_at_call 51; refine (HQ.out _ _ _ _ HT1.out).mono ?_; rintro r V2 ⟨rfl, hT⟩; have HT2 := Lib.hid hT; clear hT) | (go_at_call 51; refine (HQ.out _ _ _ _ HTD.out).mono ?_; rintro r V1 ⟨rfl, hT⟩; have HT1 := Lib.hid hT; have g2 : V1.cell? ⟨wr.heap.size, 2, none⟩ = some (.int .i64 xd) := (by rw [(HX.out.kp HT1.out.kp (.inr rfl)).cell]; rfl); have g3 : V1.cell? ⟨wr.heap.size, 3, none⟩ = some (.string ⟨xn.toArray⟩) := (by rw [(HX.out.kp HT1.out.kp (.inr rfl)).cell]; rfl); clear hT) | (go_at_call 50; refine (HP.out _ _ _ HT1.out).mono ?_; rintro r V2 ⟨rfl, hT⟩; have HT2 := Lib.hid hT; clear hT))
        all_goals
          have HE := Lib.hid (HT2.out.out HB0.out)
          clear g2 g3
          go_wp2_with fail
          go_roundw
          case rel => exact ⟨j + 1, by omega, by go_num, by rw [HS2.out]; exact HE.out.1, by rw [HS2.out]; exact HE.out.2.1, HE.out.2.2⟩
          case measure => simp [RowKit.intOf] <;> omega
      · have HPL := Lib.hid hpl
        have hs2 : stAll (s.take (j + 1)) = ((cutAll ks (l, wh)).1, (cutAll ks (l, wh)).2, clk, (refCutAll ks (L, W)).1, (refCutAll ks (L, W)).2) := by
          rw [HST.out]
          unfold stStep
          simp only [HQ6.out]
          rfl
        have HS2 := Lib.hid hs2
        clear hpl hs2
        go_upto_region 11 with fail
        refine (HPL.out _).mono ?_
        rintro r V0 ⟨rfl, rfl⟩
        go_wp2_with fail
        have hkr : Rd (wr.alloc (.cells #[.int .i64 kind, .int .i64 dir, .int .i64 xd, .string ⟨xn.toArray⟩, .bool ng, .int .i64 xi, .int .i64 xk, .int .i64 xm, .string ⟨xt.toArray⟩, .slice ka kn kc] 103)) 2 ka kn (cKeys ks) := H5.out.alloc _
        refine (copyKeys_any ka kn kc ks _ hkr h7).mono ?_
        rintro r V1 ⟨v1, rfl, hown1, hb1⟩
        obtain ⟨A5, c5, rfl⟩ := own_slice hown1
        have HT1 := Lib.hid (HT.out.below hb1)
        have HO1 := Lib.hid hown1
        have HK1 := Lib.hid hkr
        have HB1 := Lib.hid hb1
        clear hown1 hb1 hkr
        go_wp2_with fail
        have hcl := HC.out.c_lt
        have hel := HC.out.me.lt
        have hhl := HC.out.mw.lt
        refine (two_cut HT1.out A5 kn c5 ks (by omega) (Rd.of_own HO1.out) (fun ad e => by have := own_fresh HO1.out ad e; simp at this; omega)).mono ?_
        rintro r V2 ⟨rfl, hT⟩
        have HT2 := Lib.hid hT
        have g9 : V2.cell? ⟨wr.heap.size, 9, none⟩ = some (.slice ka kn kc) := (by rw [(HX.out.kp HT2.out.kp (.inr rfl)).cell]; rfl)
        clear hT hcl hel hhl
        go_wp2_with fail
        refine (two_refCut HT2.out ka kn kc ks (by omega) (by omega) (by omega) ((HK1.out.kp0 (P := fun k => k < w.heap.size) (HT2.out.kp.mono fun k _ hk => .inl hk) (fun a e h0 => H6.out a e h0))) (fun ad e h0 => H6.out ad e h0)).mono ?_
        rintro r V3 ⟨rfl, hT⟩
        have HT3 := Lib.hid hT
        clear hT
        have HE := Lib.hid (HT3.out.out HB0.out)
        go_wp2_with fail
        go_roundw
        case rel => exact ⟨j + 1, by omega, by go_num, by rw [HS2.out]; exact HE.out.1, by rw [HS2.out]; exact HE.out.2.1, HE.out.2.2⟩
        case measure => simp [RowKit.intOf] <;> omega
      · have HPL := Lib.hid hpl
        have hs2 : stAll (s.take (j + 1)) = ([], [], clk, [], []) := by
          rw [HST.out]
          unfold stStep
          simp only [HQ6.out]
          rfl
        have HS2 := Lib.hid hs2
        clear hpl hs2
        go_upto_region 11 with fail
        refine (HPL.out _).mono ?_
        rintro r V0 ⟨rfl, rfl⟩
        go_wp2_with fail
        refine (two_clear HT.out).mono ?_
        rintro r V1 ⟨rfl, hT⟩
        have HT1 := Lib.hid hT
        clear hT
        go_wp2_with fail
        refine (two_refClear HT1.out).mono ?_
        rintro r V2 ⟨rfl, hT⟩
        have HT2 := Lib.hid hT
        clear hT
        have HE := Lib.hid (HT2.out.out HB0.out)
        go_wp2_with fail
        go_roundw
        case rel => exact ⟨j + 1, by omega, by go_num, by rw [HS2.out]; exact HE.out.1, by rw [HS2.out]; exact HE.out.2.1, HE.out.2.2⟩
        case measure => simp [RowKit.intOf] <;> omega
      · have HPL := Lib.hid hpl
        have hs2 : stAll (s.take (j + 1)) = (alDel l (xd, xn), dEvictW l wh (xd, xn), clk, outK L (xd, xn), evictW L W (xd, xn)) := by
          rw [HST.out]
          unfold stStep
          simp only [HQ6.out]
          rfl
        have HS2 := Lib.hid hs2
        clear hpl hs2
        have hp := fun V L0 W0 (H : Two wr.heap.size (wr.alloc (.cells #[.int .i64 kind, .int .i64 dir, .int .i64 xd, .string ⟨xn.toArray⟩, .bool ng, .int .i64 xi, .int .i64 xk, .int .i64 xm, .string ⟨xt.toArray⟩, .slice ka kn kc] 103)) w.heap.size w1.heap.size c e h l wh clk L0 W0 V) => two_evict H (xd, xn)
        have hr := fun V l0 wh0 clk0 (H : Two wr.heap.size (wr.alloc (.cells #[.int .i64 kind, .int .i64 dir, .int .i64 xd, .string ⟨xn.toArray⟩, .bool ng, .int .i64 xi, .int .i64 xk, .int .i64 xm, .string ⟨xt.toArray⟩, .slice ka kn kc] 103)) w.heap.size w1.heap.size c e h l0 wh0 clk0 L W V) => two_refEvict H (xd, xn) (by omega) (by omega)
        simp only [vKey, txt] at hp hr
        rw [← HSOME.out] at hr
        generalize (alGet l (xd, xn)).isSome = bv at hp hr
        have HP := Lib.hid hp
        have HQ := Lib.hid hr
        clear hp hr
        go_upto_region 11 with fail
        refine (HPL.out _).mono ?_
        rintro r V0 ⟨rfl, rfl⟩
        go_upto_region 22 with fail
        go_region_with (first | (go_at_call 57; refine (HP.out _ _ _ HTD.out).mono ?_; rintro r V1 ⟨rfl, hT⟩; have HT1 := Lib.hid hT; have g2 : V1.cell? ⟨wr.heap.size, 2, none⟩ = some (.int .i64 xd) := (by rw [(HX.out.kp HT1.out.kp (.inr rfl)).cell]; rfl); have g3 : V1.cell? ⟨wr.heap.size, 3, none⟩ = some (.string ⟨xn.toArray⟩) := (by rw [(HX.out.kp HT1.out.kp (.inr rfl)).cell]; rfl); clear hT) | (go_at_call 58; refine (HQ.out _ _ _ _ HT1.out).mono ?_; rintro r V2 ⟨rfl, hT⟩; have HT2 := Lib.hid hT; clear hT) | (go_at_call 58; refine (HQ.out _ _ _ _ HTD.out).mono ?_; rintro r V1 ⟨rfl, hT⟩; have HT1 := Lib.hid hT; have g2 : V1.cell? ⟨wr.heap.size, 2, none⟩ = some (.int .i64 xd) := (by rw [(HX.out.kp HT1.out.kp (.inr rfl)).cell]; rfl); have g3 : V1.cell? ⟨wr.heap.size, 3, none⟩ = some (.string ⟨xn.toArray⟩) := (by rw [(HX.out.kp HT1.out.kp (.inr rfl)).cell]; rfl); clear hT) | (go_at_call 57; refine (HP.out _ _ _ HT1.out).mono ?_; rintro r V2 ⟨rfl, hT⟩; have HT2 := Lib.hid hT; clear hT))
        all_goals
          have HE := Lib.hid (HT2.out.out HB0.out)
          clear g2 g3
          go_wp2_with fail
          go_roundw
          case rel => exact ⟨j + 1, by omega, by go_num, by rw [HS2.out]; exact HE.out.1, by rw [HS2.out]; exact HE.out.2.1, HE.out.2.2⟩
          case measure => simp [RowKit.intOf] <;> omega
      · have HPL := Lib.hid hpl
        have hs2 : stAll (s.take (j + 1)) = (l, alPut wh dir true, clk, L, (if W.contains dir = true then W else W ++ [dir])) := by
          rw [HST.out]
          unfold stStep
          simp only [HQ6.out]
          rfl
        have HS2 := Lib.hid hs2
        clear hpl hs2
        go_upto_region 11 with fail
        refine (HPL.out _).mono ?_
        rintro r V0 ⟨rfl, rfl⟩
        go_wp2_with fail
        refine (two_setWhole HT.out dir).mono ?_
        rintro r V1 ⟨rfl, hT⟩
        have HT1 := Lib.hid hT
        have g1 : V1.cell? ⟨wr.heap.size, 1, none⟩ = some (.int .i64 dir) := (by rw [(HX.out.kp HT1.out.kp (.inr rfl)).cell]; rfl)
        clear hT
        go_wp2_with fail
        refine (two_refSetWhole HT1.out dir (by omega)).mono ?_
        rintro r V2 ⟨rfl, hT⟩
        have HT2 := Lib.hid hT
        clear hT
        have HE := Lib.hid (HT2.out.out HB0.out)
        go_wp2_with fail
        go_roundw
        case rel => exact ⟨j + 1, by omega, by go_num, by rw [HS2.out]; exact HE.out.1, by rw [HS2.out]; exact HE.out.2.1, HE.out.2.2⟩
        case measure => simp [RowKit.intOf] <;> omega
    · obtain rfl : j = n := by have := HS.out.1; omega
      have hfin : stAll (s.take j) = stAll s := by rw [List.take_of_length_le (by have := HS.out.1; omega)]
      rw [hfin] at HC HR
      clear hfin
      go_wp2_with fail
      go_ret3
      exact ⟨c, e, h, _, rfl, HC.out, HR.out, HB.out, hc, he, hh⟩
end Go.Proofs.YtoacobcbloljkaaGreatDoor
