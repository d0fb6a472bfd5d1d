/-
  The memory of the reference's walk of components, and what its steps do to it.
-/
import Derived.Test.YtoacobcbloljkaaGreatDoorLook14
import Derived.Test.YtoacobcbloljkaaGreatDoorWalkLow
import Derived.Test.YtoacobcbloljkaaGreatDoorRef02
namespace Go.Proofs.YtoacobcbloljkaaGreatDoor
open Go.RowKit

/-- Where the reference's walk stands, as the program's walk has it. -/
def wayOf (way : List Nd) (at_ : Nd) : List Nd := if at_.2.1 = 1 then way else way ++ [at_]
def WayOk (way : List Nd) (at_ : Nd) : Prop := (∀ x ∈ way, x.2.1 = 1) ∧ way.head? = some rootNd ∧ (at_.2.1 = 1 → way.getLast? = some at_)

theorem wayOk_start : WayOk [rootNd] rootNd := ⟨by simp [rootNd], rfl, fun _ => rfl⟩
theorem lastNd_wayOf {way : List Nd} {at_ : Nd} (h : WayOk way at_) : Wk.lastNd (wayOf way at_) = at_ := by
  unfold wayOf Wk.lastNd
  split
  · rename_i e
    rw [List.getLastD_eq_getLast?, h.2.2 e]
    rfl
  · simp
theorem wayOf_dir {way : List Nd} {at_ : Nd} (h : at_.2.1 = 1) : wayOf way at_ = way := by unfold wayOf; rw [if_pos h]
theorem wayOk_ne {way : List Nd} {at_ : Nd} (h : WayOk way at_) : way ≠ [] := by
  intro e
  have := h.2.1
  rw [e] at this
  cases this
theorem wayOk_push {way : List Nd} {at_ x : Nd} (h : WayOk way at_) (hx : x.2.1 = 1) : WayOk (way ++ [x]) x := by
  refine ⟨fun y hy => ?_, ?_, fun _ => by simp⟩
  · rcases List.mem_append.1 hy with hy | hy
    · exact h.1 y hy
    · rw [List.mem_singleton.1 hy]; exact hx
  · rw [List.head?_append, h.2.1]
    rfl
theorem wayOk_file {way : List Nd} {at_ x : Nd} (h : WayOk way at_) (hx : x.2.1 ≠ 1) : WayOk way x := ⟨h.1, h.2.1, fun e => absurd e hx⟩
theorem wayOk_up {way : List Nd} {at_ : Nd} (h : WayOk way at_) : ∃ x, (Wk.up way).getLast? = some x ∧ x.2.1 = 1 ∧ WayOk (Wk.up way) x := by
  have hne := wayOk_ne h
  unfold Wk.up
  split
  · cases hl : way.getLast? with
    | none => exact absurd (List.getLast?_eq_none_iff.1 hl) hne
    | some x => exact ⟨x, rfl, h.1 x (List.mem_of_getLast? hl), h.1, h.2.1, fun _ => hl⟩
  · rename_i hlen
    have hd : way.dropLast ≠ [] := by
      intro e
      have := congrArg List.length e
      rw [List.length_dropLast] at this
      simp at this
      omega
    cases hl : way.dropLast.getLast? with
    | none => exact absurd (List.getLast?_eq_none_iff.1 hl) hd
    | some x =>
      have hm := fun y (hy : y ∈ way.dropLast) => h.1 y ((List.dropLast_sublist way).subset hy)
      refine ⟨x, rfl, hm x (List.mem_of_getLast? hl), hm, ?_, fun _ => hl⟩
      have h2 := h.2.1
      match way, hd, h2 with
      | a :: b :: r, _, h2 => simpa using h2

/-- Memory at the loop's head: left, way, used; at in the block g. -/
structure RS (w0 : World) (kv : List Value) (g : Nat) (Ta : Option Addr) (ct : Nat) (Wa : Option Addr) (cw : Nat) (Au : Option Addr) (cu : Nat) (tl : List (List UInt8)) (wl : List Nd) (used : List Key) (at_ : Nd) (W : World) : Prop where
  kb : At W w0.heap.size 48 kv
  ob : At W (w0.heap.size + 1) 40 (outCells (out0 []) (.slice none 0 0))
  ab : At W g 34 (cNd at_)
  td : Rd W 1 Ta tl.length (txts tl)
  tc : tl.length ≤ ct ∧ ct ≤ maxLen
  wy : Rd W 4 Wa wl.length (cNds wl)
  wc : wl.length ≤ cw ∧ cw ≤ maxLen
  us : W.ownsRow w0.heap.size 32 2 (.slice Au used.length cu) used.length (cKeys used)
  bl : Below w0.heap.size w0 W
  gs : w0.heap.size + 1 < g
  un : ∀ k, (Value.slice Au used.length cu).ownBlock = some k → k ≠ g ∧ k ≠ w0.heap.size ∧ k ≠ w0.heap.size + 1
  tn : ∀ ad, Ta = some ad → 0 < tl.length → ad.block ≠ g ∧ (Value.slice Au used.length cu).ownBlock ≠ some ad.block
  wn : ∀ ad, Wa = some ad → 0 < wl.length → ad.block ≠ g ∧ (Value.slice Au used.length cu).ownBlock ≠ some ad.block

section
variable {w0 W W' : World} {kv : List Value} {g : Nat} {Ta Ta' : Option Addr} {ct ct' : Nat} {Wa Wa' : Option Addr} {cw cw' : Nat} {Au : Option Addr} {cu : Nat} {tl tl' : List (List UInt8)} {wl wl' : List Nd} {used : List Key} {at_ nd : Nd}

theorem RS.next (H : RS w0 kv g Ta ct Wa cw Au cu tl wl used at_ W) (hb : Below W.heap.size W W') : RS w0 kv g Ta ct Wa cw Au cu tl wl used at_ W' :=
  ⟨H.kb.below hb, H.ob.below hb, H.ab.below hb, H.td.below hb, H.tc, H.wy.below hb, H.wc, own_below H.us hb, H.bl.trans (hb.mono H.bl.size), H.gs, H.un, H.tn, H.wn⟩
theorem RS.setAt (H : RS w0 kv g Ta ct Wa cw Au cu tl wl used at_ W) (hk : Kp (fun k => k ≠ g) W W') (ha : At W' g 34 (cNd nd)) : RS w0 kv g Ta ct Wa cw Au cu tl wl used nd W' := by
  have hg := H.gs
  exact ⟨H.kb.kp hk (by omega), H.ob.kp hk (by omega), ha, H.td.kp0 hk (fun ad e h0 => (H.tn ad e h0).1), H.tc, H.wy.kp0 hk (fun ad e h0 => (H.wn ad e h0).1), H.wc, own_kp H.us hk (fun k hk => (H.un k hk).1), H.bl.trans (hk.to_below H.bl.size (fun k hlt => by omega)), H.gs, H.un, H.tn, H.wn⟩
/-- Used grows. -/
theorem RS.use (H : RS w0 kv g Ta ct Wa cw Au cu tl wl used at_ W) {key : Key} {v' : Value} (hown : W'.ownsRow w0.heap.size 32 2 v' (used.length + 1) (cKeys (used ++ [key]))) (hg : W.grownBy W' (Value.slice Au used.length cu).ownBlock)
    (hb : v'.ownBlock = (Value.slice Au used.length cu).ownBlock ∨ v'.ownBlock = some W.heap.size) : ∃ A' c', v' = .slice A' (used.length + 1) c' ∧ RS w0 kv g Ta ct Wa cw A' c' tl wl (used ++ [key]) at_ W' := by
  obtain ⟨A', c', rfl⟩ := own_slice hown
  have hk : Kp (fun j => (Value.slice Au used.length cu).ownBlock ≠ some j) W W' := (Kp.refl _ W).grown hg fun i q _ k => k q
  have hgl := H.ab.lt
  have hkl := H.kb.lt
  have hol := H.ob.lt
  have hl : (used ++ [key]).length = used.length + 1 := by simp
  refine ⟨A', c', rfl, H.kb.kp hk (fun q => (H.un _ q).2.1 rfl), H.ob.kp hk (fun q => (H.un _ q).2.2 rfl), H.ab.kp hk (fun q => (H.un _ q).1 rfl), H.td.kp0 hk (fun ad e h0 => (H.tn ad e h0).2), H.tc, H.wy.kp0 hk (fun ad e h0 => (H.wn ad e h0).2), H.wc, by rw [hl]; exact hown, H.bl.grown hg H.bl.size (fun k q => (H.us.lt k q).1), H.gs, ?_, ?_, ?_⟩
  · intro k q
    rw [hl] at q
    rcases hb with e | e
    · rw [e] at q; exact H.un k q
    · rw [e] at q; injection q with q; omega
  · intro ad e h0
    refine ⟨(H.tn ad e h0).1, ?_⟩
    rw [hl]
    rcases hb with e1 | e1
    · rw [e1]; exact (H.tn ad e h0).2
    · rw [e1]
      obtain ⟨ad', e2, hlt, _⟩ := H.td.2 h0
      rw [e] at e2
      injection e2 with e2
      subst e2
      intro q
      injection q with q
      omega
  · intro ad e h0
    refine ⟨(H.wn ad e h0).1, ?_⟩
    rw [hl]
    rcases hb with e1 | e1
    · rw [e1]; exact (H.wn ad e h0).2
    · rw [e1]
      obtain ⟨ad', e2, hlt, _⟩ := H.wy.2 h0
      rw [e] at e2
      injection e2 with e2
      subst e2
      intro q
      injection q with q
      omega
/-- Another left. -/
theorem RS.left (H : RS w0 kv g Ta ct Wa cw Au cu tl wl used at_ W) (hr : Rd W 1 Ta' tl'.length (txts tl')) (hc : tl'.length ≤ ct' ∧ ct' ≤ maxLen) (hn : ∀ ad, Ta' = some ad → 0 < tl'.length → ad.block ≠ g ∧ (Value.slice Au used.length cu).ownBlock ≠ some ad.block) :
    RS w0 kv g Ta' ct' Wa cw Au cu tl' wl used at_ W := ⟨H.kb, H.ob, H.ab, hr, hc, H.wy, H.wc, H.us, H.bl, H.gs, H.un, hn, H.wn⟩
/-- Another way. -/
theorem RS.way (H : RS w0 kv g Ta ct Wa cw Au cu tl wl used at_ W) (hr : Rd W 4 Wa' wl'.length (cNds wl')) (hc : wl'.length ≤ cw' ∧ cw' ≤ maxLen) (hn : ∀ ad, Wa' = some ad → 0 < wl'.length → ad.block ≠ g ∧ (Value.slice Au used.length cu).ownBlock ≠ some ad.block) :
    RS w0 kv g Ta ct Wa' cw' Au cu tl wl' used at_ W := ⟨H.kb, H.ob, H.ab, H.td, H.tc, hr, hc, H.us, H.bl, H.gs, H.un, H.tn, hn⟩
/-- New memory is neither at nor used. -/
theorem RS.fresh (H : RS w0 kv g Ta ct Wa cw Au cu tl wl used at_ W) {k : Nat} (hk : W.heap.size ≤ k) : k ≠ g ∧ (Value.slice Au used.length cu).ownBlock ≠ some k := by
  refine ⟨fun e => by have := H.ab.lt; omega, fun q => ?_⟩
  have := (H.us.lt k q).2
  omega
theorem RS.tail {s : List UInt8} {ad : Addr} (H : RS w0 kv g (some ad) ct Wa cw Au cu (s :: tl) wl used at_ W) :
    (ct = 1 → RS w0 kv g (some ad) 0 Wa cw Au cu tl wl used at_ W) ∧ (ct ≠ 1 → RS w0 kv g (some (ad.add 1)) (ct - 1) Wa cw Au cu tl wl used at_ W) := by
  have hc := H.tc
  rw [List.length_cons] at hc
  have ht := H.td
  constructor
  · intro h1
    have hl : tl = [] := List.eq_nil_of_length_eq_zero (by omega)
    subst hl
    exact H.left (Rd.mk0 _ _ _) ⟨Nat.le_refl _, Nat.zero_le _⟩ (fun _ _ h => absurd h (by simp))
  · intro h1
    refine H.left ?_ ⟨by omega, by omega⟩ (fun a ha h0 => ?_)
    · refine ⟨by simp [txts_length], fun hn => ?_⟩
      obtain ⟨ad', e, hb, hcl⟩ := ht.2 (by simp)
      injection e with e
      subst e
      refine ⟨_, rfl, by rw [add_block]; exact hb, fun j u hu => ?_⟩
      rw [add_assoc_, Nat.add_comm]
      exact hcl (j + 1) u (by simpa [txts] using hu)
    · injection ha with ha
      subst ha
      rw [add_block]
      exact H.tn ad rfl (by simp)

theorem cNds_app (a b : List Nd) : cNds (a ++ b) = cNds a ++ cNds b := by simp [cNds]
/-- The way's head. -/
theorem RS.cut (H : RS w0 kv g Ta ct Wa cw Au cu tl wl used at_ W) {m : Nat} (hm : m ≤ wl.length) : RS w0 kv g Ta ct Wa cw Au cu tl (wl.take m) used at_ W := by
  have hl : (wl.take m).length = m := by rw [List.length_take]; omega
  refine H.way ?_ ⟨by have := H.wc; omega, H.wc.2⟩ (fun ad e h0 => H.wn ad e (by omega))
  rw [hl]
  refine ⟨by rw [cNds_length, hl], fun h0 => ?_⟩
  obtain ⟨ad, e, hb, hc⟩ := H.wy.2 (by omega)
  refine ⟨ad, e, hb, fun j u hu => hc j u ?_⟩
  have e2 : cNds wl = cNds (wl.take m) ++ cNds (wl.drop m) := by rw [← cNds_app, List.take_append_drop]
  rw [e2, List.getElem?_append_left (List.getElem?_eq_some_iff.1 hu).1]
  exact hu
end
end Go.Proofs.YtoacobcbloljkaaGreatDoor
