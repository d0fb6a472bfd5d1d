/-
  A cache and the reference's cache side by side: each call on one keeps the other, and one block more.
-/
import Derived.Test.YtoacobcbloljkaaGreatDoorRef12e
import Derived.Test.YtoacobcbloljkaaGreatDoorDentPut
import Derived.Test.YtoacobcbloljkaaGreatDoorDentClear
namespace Go.Proofs.YtoacobcbloljkaaGreatDoor
open Go.RowKit

/-- The two caches; blocks below B and the block bx are as they were in ws. -/
structure Two (bx : Nat) (ws : World) (B cb c e h : Nat) (l : List (Key × (En × Int))) (wh : List (Int × Bool)) (clk : Int) (L : List En) (W : List Int) (V : World) : Prop where
  ca : CacheAt V c e h l wh clk
  ra : ∃ A1 c1 A2 c2, RefAt V B cb (fun k => (k < B ∨ k = c ∨ k = e ∨ k = h) ∨ k = bx) A1 c1 A2 c2 L W
  kp : Kp (fun k => k < B ∨ k = bx) ws V
  nc : bx ≠ c ∧ bx ≠ e ∧ bx ≠ h ∧ B ≤ c ∧ B ≤ e ∧ B ≤ h
  hB : B ≤ V.heap.size

section
variable {bx : Nat} {ws : World} {B cb c e h : Nat} {l : List (Key × (En × Int))} {wh : List (Int × Bool)} {clk : Int} {L : List En} {W : List Int} {V V' : World}

/-- A call on the cache. -/
theorem Two.dent (H : Two bx ws B cb c e h l wh clk L W V) {Q : Nat → Prop} {l' : List (Key × (En × Int))} {wh' : List (Int × Bool)} {clk' : Int} (hc : CacheAt V' c e h l' wh' clk') (hk : Kp Q V V') (hQ : ∀ k, k ≠ c → k ≠ e → k ≠ h → Q k) : Two bx ws B cb c e h l' wh' clk' L W V' := by
  obtain ⟨A1, c1, A2, c2, hr⟩ := H.ra
  obtain ⟨n1, n2, n3, n4, n5, n6⟩ := H.nc
  have hF : ∀ k, k = c ∨ k = e ∨ k = h → k ≠ cb ∧ (Value.slice A1 L.length c1).ownBlock ≠ some k ∧ (Value.slice A2 W.length c2).ownBlock ≠ some k := fun k hk => (hr.fr k (.inl (.inr hk))).2
  refine ⟨hc, ⟨A1, c1, A2, c2, hr.kp hk (hQ _ (fun q => (hF c (.inl rfl)).1 q.symm) (fun q => (hF e (.inr (.inl rfl))).1 q.symm) (fun q => (hF h (.inr (.inr rfl))).1 q.symm)) (fun j ej => hQ j (fun q => (hF c (.inl rfl)).2.1 (q ▸ ej)) (fun q => (hF e (.inr (.inl rfl))).2.1 (q ▸ ej)) (fun q => (hF h (.inr (.inr rfl))).2.1 (q ▸ ej)))
    (fun j ej => hQ j (fun q => (hF c (.inl rfl)).2.2 (q ▸ ej)) (fun q => (hF e (.inr (.inl rfl))).2.2 (q ▸ ej)) (fun q => (hF h (.inr (.inr rfl))).2.2 (q ▸ ej)))⟩, H.kp.trans (hk.mono fun k _ hkk => ?_), H.nc, Nat.le_trans H.hB hk.size⟩
  rcases hkk with hkk | rfl
  · exact hQ k (by omega) (by omega) (by omega)
  · exact hQ _ n1 n2 n3
/-- A call on the reference's. -/
theorem Two.ref (H : Two bx ws B cb c e h l wh clk L W V) {L' : List En} {W' : List Int} (hr : ∃ A1 c1 A2 c2, RefAt V' B cb (fun k => (k < B ∨ k = c ∨ k = e ∨ k = h) ∨ k = bx) A1 c1 A2 c2 L' W') (hk : Kp (fun k => (k < B ∨ k = c ∨ k = e ∨ k = h) ∨ k = bx) V V') : Two bx ws B cb c e h l wh clk L' W' V' :=
  ⟨H.ca.kp hk (.inl (.inr (.inl rfl))) (.inl (.inr (.inr (.inl rfl)))) (.inl (.inr (.inr (.inr rfl)))), hr, H.kp.trans (hk.mono fun k _ q => by rcases q with q | q; exact .inl (.inl q); exact .inr q), H.nc, Nat.le_trans H.hB hk.size⟩
theorem Two.below (H : Two bx ws B cb c e h l wh clk L W V) (k : Below V.heap.size V V') : Two bx ws B cb c e h l wh clk L W V' := by
  obtain ⟨A1, c1, A2, c2, hr⟩ := H.ra
  exact ⟨H.ca.below k, ⟨A1, c1, A2, c2, hr.below k⟩, H.kp.below k, H.nc, Nat.le_trans H.hB k.size⟩
theorem Two.drew (H : Two bx ws B cb c e h l wh clk L W V) : Two bx ws B cb c e h l wh clk L W V.drew := by
  obtain ⟨A1, c1, A2, c2, hr⟩ := H.ra
  exact ⟨H.ca.drew, ⟨A1, c1, A2, c2, hr.drew⟩, H.kp.drew, H.nc, H.hB⟩

/-- What is said of a call: what it hands back, and the two caches then. -/
def TwoPost (bx : Nat) (ws : World) (B cb c e h : Nat) (l : List (Key × (En × Int))) (wh : List (Int × Bool)) (clk : Int) (L : List En) (W : List Int) (v : Value) (r : Ending) (V' : World) : Prop := r = .returned v ∧ Two bx ws B cb c e h l wh clk L W V'

def dPut (l : List (Key × (En × Int))) (x : En) (clk : Int) : List (Key × (En × Int)) := if x.1.2 = [] then l else alPut l x.1 (x, clk + 1)
def dClk (x : En) (clk : Int) : Int := if x.1.2 = [] then clk else clk + 1

theorem two_put (H : Two bx ws B cb c e h l wh clk L W V) (x : En) (h0 : 0 ≤ clk) (h1 : clk < 4611686018427387904) :
    Calls Tryz.prog 28 #[.pointer (some ⟨c, 0, none⟩), vEn x] V (TwoPost bx ws B cb c e h (dPut l x clk) wh (dClk x clk) L W (.int .i64 (if x.1.2 = [] then 1 else 0))) := by
  refine (dentPut_any V c e h l wh clk x H.ca h0 h1).mono ?_
  rintro r V' (⟨hx, rfl, hc, hk⟩ | ⟨hx, rfl, hc, hk⟩)
  · unfold TwoPost dPut dClk
    rw [if_pos hx, if_pos hx, if_pos hx]
    exact ⟨rfl, H.below hk⟩
  · unfold TwoPost dPut dClk
    rw [if_neg hx, if_neg hx, if_neg hx]
    exact ⟨rfl, H.dent hc hk fun k q1 q2 _ => ⟨q1, q2⟩⟩

theorem two_refPut (H : Two bx ws B cb c e h l wh clk L W V) (x : En) (hn : L.length ≤ 1800000000000) :
    Calls Tryz.prog 49 #[.pointer (some ⟨cb, 0, none⟩), vEn x] V (TwoPost bx ws B cb c e h l wh clk (if x.1.2 = [] then L else outK L x.1 ++ [x]) W (.int .i64 (if x.1.2 = [] then 1 else 0))) := by
  obtain ⟨A1, c1, A2, c2, hr⟩ := H.ra
  refine (refPut_any V B cb _ A1 c1 A2 c2 L W x hn H.hB hr).mono ?_
  rintro r V' ⟨rfl, A3, c3, A4, c4, hr2, hk⟩
  exact ⟨rfl, H.ref ⟨A3, c3, A4, c4, hr2⟩ hk⟩

def dUse (l : List (Key × (En × Int))) (k : Key) (clk : Int) : List (Key × (En × Int)) := match alGet l k with
  | none => l
  | some p => alPut l k (p.1, clk + 1)
def dUseClk (l : List (Key × (En × Int))) (k : Key) (clk : Int) : Int := if (alGet l k).isSome = true then clk + 1 else clk

theorem two_use (H : Two bx ws B cb c e h l wh clk L W V) (k : Key) (h0 : 0 ≤ clk) (h1 : clk < 4611686018427387904) :
    Calls Tryz.prog 50 #[.pointer (some ⟨c, 0, none⟩), vKey k] V (TwoPost bx ws B cb c e h (dUse l k clk) wh (dUseClk l k clk) L W (.bool (alGet l k).isSome)) := by
  refine (dentUse_any V c e h l wh clk k H.ca h0 h1).mono ?_
  rintro r V' (⟨hx, rfl, hc, hk⟩ | ⟨p, hx, rfl, hc, hk⟩)
  · unfold TwoPost dUse dUseClk
    rw [hx]
    exact ⟨rfl, H.below hk⟩
  · unfold TwoPost dUse dUseClk
    rw [hx]
    exact ⟨rfl, H.dent hc hk fun k q1 q2 _ => ⟨q1, q2⟩⟩

theorem two_refUse (H : Two bx ws B cb c e h l wh clk L W V) (k : Key) (hn : L.length ≤ 1800000000000) :
    Calls Tryz.prog 51 #[.pointer (some ⟨cb, 0, none⟩), vKey k] V (TwoPost bx ws B cb c e h l wh clk (useK L k) W (.bool (ixOf L k).isSome)) := by
  obtain ⟨A1, c1, A2, c2, hr⟩ := H.ra
  refine (refUse_any V B cb _ A1 c1 A2 c2 L W k hn H.hB hr).mono ?_
  rintro r V' ⟨rfl, A3, c3, A4, c4, hr2, hk⟩
  exact ⟨rfl, H.ref ⟨A3, c3, A4, c4, hr2⟩ hk⟩

def dEvictW (l : List (Key × (En × Int))) (wh : List (Int × Bool)) (k : Key) : List (Int × Bool) := match alGet l k with
  | none => wh
  | some p => if p.1.2.1 = true then wh else alDel wh k.1

theorem two_evict (H : Two bx ws B cb c e h l wh clk L W V) (k : Key) :
    Calls Tryz.prog 57 #[.pointer (some ⟨c, 0, none⟩), vKey k] V (TwoPost bx ws B cb c e h (alDel l k) (dEvictW l wh k) clk L W (.bool (alGet l k).isSome)) := by
  refine (dentEvict_any V c e h l wh clk k H.ca).mono ?_
  rintro r V' ⟨rfl, hc, hk⟩
  exact ⟨rfl, H.dent hc hk fun k _ q2 q3 => ⟨q2, q3⟩⟩

theorem two_refEvict (H : Two bx ws B cb c e h l wh clk L W V) (k : Key) (hn : L.length ≤ 1800000000000) (hn2 : W.length ≤ 1800000000000) :
    Calls Tryz.prog 58 #[.pointer (some ⟨cb, 0, none⟩), vKey k] V (TwoPost bx ws B cb c e h l wh clk (outK L k) (evictW L W k) (.bool (ixOf L k).isSome)) := by
  obtain ⟨A1, c1, A2, c2, hr⟩ := H.ra
  refine (refEvict_any V B cb _ A1 c1 A2 c2 L W k hn hn2 H.hB hr).mono ?_
  rintro r V' ⟨rfl, A3, c3, A4, c4, hr2, hk⟩
  exact ⟨rfl, H.ref ⟨A3, c3, A4, c4, hr2⟩ hk⟩

theorem two_clear (H : Two bx ws B cb c e h l wh clk L W V) :
    Calls Tryz.prog 55 #[.pointer (some ⟨c, 0, none⟩)] V (TwoPost bx ws B cb c e h [] [] clk L W (.tuple #[])) := by
  refine (dentClear_any V c e h l wh clk H.ca).mono ?_
  rintro r V' ⟨rfl, hc, hk⟩
  exact ⟨rfl, H.dent hc hk fun k _ q2 q3 => ⟨q2, q3⟩⟩

theorem two_refClear (H : Two bx ws B cb c e h l wh clk L W V) :
    Calls Tryz.prog 56 #[.pointer (some ⟨cb, 0, none⟩)] V (TwoPost bx ws B cb c e h l wh clk [] [] (.tuple #[])) := by
  obtain ⟨A1, c1, A2, c2, hr⟩ := H.ra
  refine (refClear_any V B cb _ A1 c1 A2 c2 L W H.hB hr).mono ?_
  rintro r V' ⟨rfl, A3, c3, A4, c4, hr2, hk⟩
  exact ⟨rfl, H.ref ⟨A3, c3, A4, c4, hr2⟩ hk⟩

theorem two_setWhole (H : Two bx ws B cb c e h l wh clk L W V) (d : Int) :
    Calls Tryz.prog 59 #[.pointer (some ⟨c, 0, none⟩), .int .i64 d] V (TwoPost bx ws B cb c e h l (alPut wh d true) clk L W (.tuple #[])) := by
  refine (dentSetWhole_any V c e h l wh clk d H.ca).mono ?_
  rintro r V' ⟨rfl, hc, hk⟩
  exact ⟨rfl, H.dent hc hk fun k _ _ q3 => q3⟩

theorem two_refSetWhole (H : Two bx ws B cb c e h l wh clk L W V) (d : Int) (hn : W.length ≤ 1900000000000) :
    Calls Tryz.prog 60 #[.pointer (some ⟨cb, 0, none⟩), .int .i64 d] V (TwoPost bx ws B cb c e h l wh clk L (if W.contains d = true then W else W ++ [d]) (.tuple #[])) := by
  obtain ⟨A1, c1, A2, c2, hr⟩ := H.ra
  refine (refSetWhole_any V B cb _ A1 c1 A2 c2 L W d hn H.hB hr).mono ?_
  rintro r V' ⟨rfl, A3, c3, A4, c4, hr2, hk⟩
  exact ⟨rfl, H.ref ⟨A3, c3, A4, c4, hr2⟩ hk⟩

theorem two_cut (H : Two bx ws B cb c e h l wh clk L W V) (A : Option Addr) (n cp : Nat) (ks : List Key) (hn : n ≤ 17592186044416) (hr : Rd V 2 A n (cKeys ks)) (hne : ∀ ad, A = some ad → ad.block ≠ e ∧ ad.block ≠ h) :
    Calls Tryz.prog 52 #[.pointer (some ⟨c, 0, none⟩), .slice A n cp] V (TwoPost bx ws B cb c e h (cutAll ks (l, wh)).1 (cutAll ks (l, wh)).2 clk L W (.tuple #[])) := by
  refine (dentCut_any V A n cp ks c e h l wh clk hn hr hne H.ca).mono ?_
  rintro r V' ⟨rfl, hc, hk⟩
  exact ⟨rfl, H.dent hc hk fun k _ q2 q3 => ⟨q2, q3⟩⟩

theorem two_refCut (H : Two bx ws B cb c e h l wh clk L W V) (A : Option Addr) (n cp : Nat) (ks : List Key) (hk : n ≤ 17592186044416) (hn : L.length ≤ 1800000000000) (hn2 : W.length ≤ 1800000000000) (hr : Rd V 2 A n (cKeys ks)) (hF : ∀ ad, A = some ad → 0 < n → ad.block < B) :
    Calls Tryz.prog 54 #[.pointer (some ⟨cb, 0, none⟩), .slice A n cp] V (TwoPost bx ws B cb c e h l wh clk (refCutAll ks (L, W)).1 (refCutAll ks (L, W)).2 (.tuple #[])) := by
  obtain ⟨A1, c1, A2, c2, hra⟩ := H.ra
  refine (refCut_any V B cb _ A1 c1 A2 c2 L W A n cp ks hk hn hn2 H.hB hr (fun ad e h0 => .inl (.inl (hF ad e h0))) hra).mono ?_
  rintro r V' ⟨rfl, A3, c3, A4, c4, hr2, hkk⟩
  exact ⟨rfl, H.ref ⟨A3, c3, A4, c4, hr2⟩ hkk⟩
end

set_option maxRecDepth 100000 in
theorem copyKeys_any (A : Option Addr) (n c : Nat) (ks : List Key) (w : World) (hr : Rd w 2 A n (cKeys ks)) (hn : n ≤ 5864062014805) :
    Calls Tryz.prog 53 #[.slice A n c] w fun e w' => ∃ v, e = .returned v ∧ w'.ownsRow w.heap.size 32 2 v n (cKeys ks) ∧ Below w.heap.size w w' := by
  have H := Lib.hid hr
  clear hr
  go_enter Tryz.func53, Tryz.ntmps53
  go_wp2_with (at_builtin; refine wpList_append_rd rfl _ _ rfl elemKeys (v := .slice none 0 0) rfl (World.ownsRow_nil w w.heap.size 32 2) rfl H.out (cKeys_one _) ?c1 ?c2 (Nat.le_refl _) ?_; (case c1 => unfold maxLen; omega); (case c2 => omega); intro v' w' hown' hg' hb')
  go_ret
  refine ⟨_, rfl, by simpa using hown', (Below.refl _ _).grown hg' (Nat.le_refl _) (fun k hk => by cases hk)⟩
end Go.Proofs.YtoacobcbloljkaaGreatDoor
