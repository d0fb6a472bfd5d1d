/-
  Several texts in one: TreeOps, TreeAt.
-/
import Derived.Test.YtoacobcbloljkaaGreatDoorTreePlain
import Derived.Test.YtoacobcbloljkaaGreatDoorLow
/-! # TreeOps: Operations in memory: the cells of an operation, of a script, of a list of numbers. No program in it. -/
namespace Go.Proofs.YtoacobcbloljkaaGreatDoor
open Go.RowKit

def cOp (o : Tr.Op) : List Value := [.int .i64 o.1, .int .i64 o.2.1, txt o.2.2.1, .int .i64 o.2.2.2.1, txt o.2.2.2.2.1, .int .i64 o.2.2.2.2.2.1, txt o.2.2.2.2.2.2]
def vOp (o : Tr.Op) : Value := .agg (cOp o).toArray
def cOps (l : List Tr.Op) : List Value := l.flatMap cOp
def cNums (l : List Int) : List Value := l.flatMap fun a => [.int .i64 a]

theorem cells_get {X : Type} (cx : X → List Value) (sz : Nat) (hl : ∀ o, (cx o).length = sz) : ∀ (l : List X) (q : Nat) (o : X), l[q]? = some o → ∀ k, k < sz → (l.flatMap cx)[q * sz + k]? = (cx o)[k]?
  | [], q, o, h, _, _ => by simp at h
  | a :: l, 0, o, h, k, hk => by
    simp only [List.getElem?_cons_zero, Option.some.injEq] at h
    subst h
    rw [List.flatMap_cons, Nat.zero_mul, Nat.zero_add, List.getElem?_append_left (by rw [hl]; exact hk)]
  | a :: l, q + 1, o, h, k, hk => by
    simp only [List.getElem?_cons_succ] at h
    rw [List.flatMap_cons, List.getElem?_append_right (by rw [hl, Nat.succ_mul]; omega), hl]
    have : (q + 1) * sz + k - sz = q * sz + k := by rw [Nat.succ_mul]; omega
    rw [this]
    exact cells_get cx sz hl l q o h k hk
theorem cells_length {X : Type} (cx : X → List Value) (sz : Nat) (hl : ∀ o, (cx o).length = sz) (l : List X) : (l.flatMap cx).length = l.length * sz := by
  induction l with
  | nil => simp
  | cons o l ih => rw [List.flatMap_cons, List.length_append, ih, hl, List.length_cons, Nat.succ_mul, Nat.add_comm]

theorem Rd.ops_len {w : World} {A : Option Addr} {n : Nat} {l : List Tr.Op} (h : Rd w 7 A n (cOps l)) : l.length = n := by
  have h1 := h.1
  unfold cOps at h1
  rw [cells_length cOp 7 (fun _ => rfl)] at h1
  omega
/-- An operation of a script. -/
theorem Rd.op_at {w : World} {A : Option Addr} {n : Nat} {l : List Tr.Op} (h : Rd w 7 A n (cOps l)) {k : Nat} (hk : k < n) :
    ∃ (ad : Addr) (o : Tr.Op), A = some ad ∧ ad.block < w.heap.size ∧ l[k]? = some o ∧ ∀ q u, (cOp o)[q]? = some u → w.cell? (ad.add (k * 7 + q)) = some u := by
  have hlen := h.ops_len
  obtain ⟨ad, e, hb, hc⟩ := h.2 (by omega)
  refine ⟨ad, l[k], e, hb, List.getElem?_eq_getElem (by omega), fun q u hu => hc _ u ?_⟩
  have hq : q < 7 := (List.getElem?_eq_some_iff.1 hu).1
  unfold cOps
  rw [cells_get cOp 7 (fun _ => rfl) _ _ _ (List.getElem?_eq_getElem (by omega)) q hq]
  exact hu
theorem cNums_eq (l : List Int) : cNums l = l.map (Value.int .i64) := by
  unfold cNums
  induction l with
  | nil => rfl
  | cons a l ih => rw [List.flatMap_cons, ih]; rfl
theorem Rd.nums_len {w : World} {A : Option Addr} {n : Nat} {l : List Int} (h : Rd w 1 A n (cNums l)) : l.length = n := by
  have h1 := h.1
  rw [cNums_eq, List.length_map] at h1
  omega
theorem Rd.num_at {w : World} {A : Option Addr} {n : Nat} {l : List Int} (h : Rd w 1 A n (cNums l)) {k : Nat} (hk : k < n) :
    ∃ (ad : Addr) (a : Int), A = some ad ∧ ad.block < w.heap.size ∧ l[k]? = some a ∧ w.cell? (ad.add k) = some (.int .i64 a) := by
  have hlen := h.nums_len
  obtain ⟨ad, e, hb, hc⟩ := h.2 (by omega)
  refine ⟨ad, l[k], e, hb, List.getElem?_eq_getElem (by omega), hc _ _ ?_⟩
  rw [cNums_eq, List.getElem?_map, List.getElem?_eq_getElem (by omega)]
  rfl
end Go.Proofs.YtoacobcbloljkaaGreatDoor

/-! # TreeAt: A tree of layer 5 in memory: a block of five cells, three maps, a map of names for each directory. No program is walked here. -/
namespace Go.Proofs.YtoacobcbloljkaaGreatDoor
open Go.RowKit

/-! ## Maps as functions -/
theorem keyK_txt {P : Program} {k : TypeId} (hk : P.underlying k = some .string) : KeyK P k txt :=
  ⟨fun h => txt_inj h, (keyT_plain hk).mono fun v ⟨a, e⟩ => by subst e; trivial⟩

def upd {κ ν : Type} [DecidableEq κ] (f : κ → ν) (a : κ) (v : ν) : κ → ν := fun x => if x = a then v else f x
theorem upd_same {κ ν : Type} [DecidableEq κ] (f : κ → ν) (a : κ) (v : ν) : upd f a v a = v := if_pos rfl
theorem upd_other {κ ν : Type} [DecidableEq κ] (f : κ → ν) {a b : κ} (v : ν) (h : b ≠ a) : upd f a v b = f b := if_neg h
theorem upd_id {κ ν : Type} [DecidableEq κ] (f : κ → ν) (a : κ) : upd f a (f a) = f := funext fun x => by
  unfold upd
  split
  · rename_i h; rw [h]
  · rfl

def vM (b : Nat) : Value := .map (some b)

/-- The block b is a map that answers as f. -/
def MapF {κ ν : Type} [DecidableEq κ] (kv : κ → Value) (vv : ν → Value) (w : World) (b : Nat) (f : κ → Option ν) : Prop := ∃ l, MapT kv vv w b l ∧ ∀ k, alGet l k = f k

section
variable {κ ν : Type} [DecidableEq κ] {kv : κ → Value} {vv : ν → Value} {w w' : World} {b : Nat} {f : κ → Option ν} {P : Program} {k : TypeId}

theorem MapF.lt (h : MapF kv vv w b f) : b < w.heap.size := let ⟨_, h, _⟩ := h; h.lt
theorem MapF.of_heap (h : MapF kv vv w b f) (he : w'.heap[b]? = w.heap[b]?) : MapF kv vv w' b f := let ⟨l, h, e⟩ := h; ⟨l, h.of_heap he, e⟩
theorem MapF.kp {Q : Nat → Prop} (h : MapF kv vv w b f) (hk : Kp Q w w') (hQ : Q b) : MapF kv vv w' b f := let ⟨l, h, e⟩ := h; ⟨l, h.kp hk hQ, e⟩
theorem MapF.below (h : MapF kv vv w b f) (hb : Below w.heap.size w w') : MapF kv vv w' b f := let ⟨l, h, e⟩ := h; ⟨l, h.below hb, e⟩
theorem MapF.alloc (h : MapF kv vv w b f) (o : Obj) : MapF kv vv (w.alloc o) b f := let ⟨l, h, e⟩ := h; ⟨l, h.alloc o, e⟩
theorem MapF.drew (h : MapF kv vv w b f) : MapF kv vv w.drew b f := h
theorem MapF.grown {row : Option Nat} (h : MapF kv vv w b f) (hg : w.grownBy w' row) (hne : some b ≠ row) : MapF kv vv w' b f := let ⟨l, h, e⟩ := h; ⟨l, h.grown hg hne, e⟩
theorem MapF.made (kv : κ → Value) (vv : ν → Value) (w : World) : MapF kv vv (w.alloc (.map #[] 0)) w.heap.size (fun _ : κ => none) := ⟨[], MapT.made kv vv w, fun _ => rfl⟩

theorem MapF.lookup {t e : TypeId} (h : MapF kv vv w b f) (K : KeyK P k kv) (ht : P.underlying t = some (.map k e)) {z : Value} (hz : (zeroValue e).run P w = .ok z w) (a : κ) (c : Bool) :
    (Instr.lookup t (.map (some b)) (kv a) c).run P w = .ok (if c then .tuple #[((f a).map vv).getD z, .bool (f a).isSome] else ((f a).map vv).getD z) w := by
  obtain ⟨l, h, e⟩ := h
  rw [← e]
  exact h.lookup K ht hz a c
theorem MapF.update {t e : TypeId} (h : MapF kv vv w b f) (K : KeyK P k kv) (ht : P.underlying t = some (.map k e)) (a : κ) (v : ν) :
    ∃ w', (Instr.mapUpdate t (.map (some b)) (kv a) (vv v)).run P w = .ok () w' ∧ MapF kv vv w' b (upd f a (some v)) ∧ w.mapTurned w' b := by
  obtain ⟨l, h, e⟩ := h
  obtain ⟨w', h1, h2, h3⟩ := h.update K ht a v
  refine ⟨w', h1, ⟨_, h2, fun x => ?_⟩, h3⟩
  rw [alGet_put, e]
  unfold upd
  by_cases q : a = x
  · rw [if_pos q, if_pos q.symm]
  · rw [if_neg q, if_neg (fun r => q r.symm)]
theorem MapF.delete {t e ty : TypeId} (h : MapF kv vv w b f) (K : KeyK P k kv) (ht : P.underlying t = some (.map k e)) (a : κ) :
    ∃ w', (Builtin.delete_ #[t, k] ty #[.map (some b), kv a]).run P w = .ok (.tuple #[]) w' ∧ MapF kv vv w' b (upd f a none) ∧ w.mapTurned w' b := by
  obtain ⟨l, h, e⟩ := h
  obtain ⟨w', h1, h2, h3⟩ := h.delete (ty := ty) K ht a
  refine ⟨w', h1, ⟨_, h2, fun x => ?_⟩, h3⟩
  rw [alGet_del, e]
  unfold upd
  by_cases q : a = x
  · rw [if_pos q, if_pos q.symm]
  · rw [if_neg q, if_neg (fun r => q r.symm)]
theorem MapF.len {t e ty : TypeId} (h : MapF kv vv w b f) (ht : P.underlying t = some (.map k e)) {ks : List κ} (hn : ks.Nodup) (hk : ∀ a, a ∈ ks ↔ (f a).isSome = true) :
    (Builtin.len_ #[t] ty #[.map (some b)]).run P w = .ok (.int .i64 ks.length) w := by
  obtain ⟨l, h, e⟩ := h
  rw [h.len ht]
  have hp : (l.map Prod.fst).Perm ks := (List.perm_ext_iff_of_nodup h.nodup hn).2 fun a => by
    rw [hk, ← e]
    constructor
    · intro hm
      obtain ⟨p, hp, rfl⟩ := List.mem_map.1 hm
      rw [alGet_of_mem h.nodup hp]
      rfl
    · intro hs
      obtain ⟨v, hv⟩ := Option.isSome_iff_exists.1 hs
      exact List.mem_map.2 ⟨(a, v), alGet_mem hv, rfl⟩
  have := hp.length_eq
  rw [List.length_map] at this
  rw [this]
/-- The keys of its list. -/
theorem MapF.keys (h : MapF kv vv w b f) {ks : List κ} (hn : ks.Nodup) (hk : ∀ a, a ∈ ks ↔ (f a).isSome = true) : ∃ l, MapT kv vv w b l ∧ (∀ k, alGet l k = f k) ∧ (l.map Prod.fst).Perm ks := by
  obtain ⟨l, h, e⟩ := h
  refine ⟨l, h, e, (List.perm_ext_iff_of_nodup h.nodup hn).2 fun a => ?_⟩
  rw [hk, ← e]
  constructor
  · intro hm
    obtain ⟨p, hp, rfl⟩ := List.mem_map.1 hm
    rw [alGet_of_mem h.nodup hp]
    rfl
  · intro hs
    obtain ⟨v, hv⟩ := Option.isSome_iff_exists.1 hs
    exact List.mem_map.2 ⟨(a, v), alGet_mem hv, rfl⟩
end

/-! ## The tree -/
/-- Where a tree lies: its block, its maps of nodes, of names, of places, and the map of names of each directory. -/
structure TM where
  t : Nat
  nb : Nat
  mb : Nat
  pb : Nat
  ib : Int → Option Nat

def TM.own (M : TM) (k : Nat) : Prop := k = M.t ∨ k = M.nb ∨ k = M.mb ∨ k = M.pb ∨ ∃ d, M.ib d = some k

structure TreeF (w : World) (M : TM) (fN : Int → Option Nd) (fM : Int → List UInt8 → Option Int) (fP : Int → Option Key) (v n : Int) : Prop where
  blk : At w M.t 152 [.map (some M.nb), .map (some M.mb), .map (some M.pb), .int .i64 v, .int .i64 n]
  mn : MapF vI vNd w M.nb fN
  mm : MapF vI vM w M.mb M.ib
  mp : MapF vI vKey w M.pb fP
  mi : ∀ d b, M.ib d = some b → MapF txt vI w b (fM d)
  ne : M.nb ≠ M.mb ∧ M.nb ≠ M.pb ∧ M.mb ≠ M.pb
  ni : ∀ d b, M.ib d = some b → b ≠ M.nb ∧ b ≠ M.mb ∧ b ≠ M.pb
  inj : ∀ d e b, M.ib d = some b → M.ib e = some b → d = e
  nn : ∀ d, M.ib d = none → ∀ s, fM d s = none

theorem At.not_map {w : World} {g : Nat} {t : TypeId} {cs : List Value} (h : At w g t cs) {κ ν : Type} [DecidableEq κ] {kv : κ → Value} {vv : ν → Value} {f : κ → Option ν} {b : Nat} (hm : MapF kv vv w b f) : g ≠ b := by
  obtain ⟨l, ⟨es, clock, hb, _⟩, _⟩ := hm
  intro q
  unfold At at h
  rw [q, hb] at h
  cases h

section
variable {w w' : World} {M : TM} {fN : Int → Option Nd} {fM : Int → List UInt8 → Option Int} {fP : Int → Option Key} {v n : Int}

theorem TreeF.own_lt (H : TreeF w M fN fM fP v n) {k : Nat} (h : M.own k) : k < w.heap.size := by
  rcases h with rfl | rfl | rfl | rfl | ⟨d, h⟩
  · exact H.blk.lt
  · exact H.mn.lt
  · exact H.mm.lt
  · exact H.mp.lt
  · exact (H.mi d k h).lt
theorem TreeF.kp {Q : Nat → Prop} (H : TreeF w M fN fM fP v n) (hk : Kp Q w w') (hq : ∀ k, M.own k → Q k) : TreeF w' M fN fM fP v n :=
  ⟨H.blk.kp hk (hq _ (.inl rfl)), H.mn.kp hk (hq _ (.inr (.inl rfl))), H.mm.kp hk (hq _ (.inr (.inr (.inl rfl)))), H.mp.kp hk (hq _ (.inr (.inr (.inr (.inl rfl))))), fun d b h => (H.mi d b h).kp hk (hq _ (.inr (.inr (.inr (.inr ⟨d, h⟩))))), H.ne, H.ni, H.inj, H.nn⟩
theorem TreeF.below (H : TreeF w M fN fM fP v n) (hb : Below w.heap.size w w') : TreeF w' M fN fM fP v n := H.kp (Kp.of_below (P := fun _ => True) hb) fun _ _ => trivial
theorem TreeF.alloc (H : TreeF w M fN fM fP v n) (o : Obj) : TreeF (w.alloc o) M fN fM fP v n := H.below ((Below.refl _ _).alloc (Nat.le_refl _) o)
theorem TreeF.drew (H : TreeF w M fN fM fP v n) : TreeF w.drew M fN fM fP v n := H.below (below_drew (Below.refl _ _))

theorem TreeF.tn (H : TreeF w M fN fM fP v n) : M.t ≠ M.nb := H.blk.not_map H.mn
theorem TreeF.tm (H : TreeF w M fN fM fP v n) : M.t ≠ M.mb := H.blk.not_map H.mm
theorem TreeF.tp (H : TreeF w M fN fM fP v n) : M.t ≠ M.pb := H.blk.not_map H.mp
theorem TreeF.ti (H : TreeF w M fN fM fP v n) {d : Int} {b : Nat} (h : M.ib d = some b) : M.t ≠ b := H.blk.not_map (H.mi d b h)

theorem At.grown {g : Nat} {t : TypeId} {cs : List Value} {row : Option Nat} (h : At w g t cs) (hg : w.grownBy w' row) (hne : some g ≠ row) : At w' g t cs := (hg.block g h.lt hne).trans h

/-- The map of nodes is turned. -/
theorem TreeF.turnN (H : TreeF w M fN fM fP v n) (ht : w.mapTurned w' M.nb) {f : Int → Option Nd} (hm : MapF vI vNd w' M.nb f) : TreeF w' M f fM fP v n :=
  ⟨H.blk.grown ht.grown (fun q => H.tn (by injection q)), hm, H.mm.grown ht.grown (fun q => H.ne.1 (by injection q with q; exact q.symm)), H.mp.grown ht.grown (fun q => H.ne.2.1 (by injection q with q; exact q.symm)),
    fun d b h => (H.mi d b h).grown ht.grown (fun q => (H.ni d b h).1 (by injection q)), H.ne, H.ni, H.inj, H.nn⟩
/-- The map of places is turned. -/
theorem TreeF.turnP (H : TreeF w M fN fM fP v n) (ht : w.mapTurned w' M.pb) {f : Int → Option Key} (hm : MapF vI vKey w' M.pb f) : TreeF w' M fN fM f v n :=
  ⟨H.blk.grown ht.grown (fun q => H.tp (by injection q)), H.mn.grown ht.grown (fun q => H.ne.2.1 (by injection q)), H.mm.grown ht.grown (fun q => H.ne.2.2 (by injection q)), hm,
    fun d b h => (H.mi d b h).grown ht.grown (fun q => (H.ni d b h).2.2 (by injection q)), H.ne, H.ni, H.inj, H.nn⟩
/-- A directory's map is turned. -/
theorem TreeF.turnI (H : TreeF w M fN fM fP v n) {d : Int} {b : Nat} (hd : M.ib d = some b) (ht : w.mapTurned w' b) {f : List UInt8 → Option Int} (hm : MapF txt vI w' b f) : TreeF w' M fN (upd fM d f) fP v n := by
  have h := H.ni d b hd
  refine ⟨H.blk.grown ht.grown (fun q => H.ti hd (by injection q)), H.mn.grown ht.grown (fun q => h.1 (by injection q with q; exact q.symm)), H.mm.grown ht.grown (fun q => h.2.1 (by injection q with q; exact q.symm)), H.mp.grown ht.grown (fun q => h.2.2 (by injection q with q; exact q.symm)), ?_, H.ne, H.ni, H.inj, ?_⟩
  · intro e c he
    unfold upd
    by_cases q : e = d
    · subst q
      rw [hd] at he
      injection he with he
      subst he
      rw [if_pos rfl]
      exact hm
    · rw [if_neg q]
      exact (H.mi e c he).grown ht.grown (fun r => q (by injection r with r; subst r; exact H.inj e d c he hd))
  · intro e he s
    unfold upd
    by_cases q : e = d
    · rw [q, hd] at he
      cases he
    · rw [if_neg q]
      exact H.nn e he s
/-- A directory comes in: its map is new. -/
theorem TreeF.turnM (H : TreeF w M fN fM fP v n) {d : Int} {b : Nat} (ht : w.mapTurned w' M.mb) (hm : MapF vI vM w' M.mb (upd M.ib d (some b))) (hb : MapF txt vI w b fun _ => none) (hnew : ¬ M.own b) : TreeF w' { M with ib := upd M.ib d (some b) } fN (upd fM d fun _ => none) fP v n := by
  have hbm : b ≠ M.mb := fun q => hnew (.inr (.inr (.inl q)))
  refine ⟨H.blk.grown ht.grown (fun q => H.tm (by injection q)), H.mn.grown ht.grown (fun q => H.ne.1 (by injection q)), hm, H.mp.grown ht.grown (fun q => H.ne.2.2 (by injection q with q; exact q.symm)), ?_, H.ne, ?_, ?_, ?_⟩
  · intro e c he
    unfold upd at he ⊢
    by_cases q : e = d
    · simp only [if_pos q] at he ⊢
      injection he with he
      subst he
      exact hb.grown ht.grown (fun r => hbm (by injection r))
    · simp only [if_neg q] at he ⊢
      exact (H.mi e c he).grown ht.grown (fun r => (H.ni e c he).2.1 (by injection r))
  · intro e c he
    unfold upd at he
    by_cases q : e = d
    · simp only [if_pos q] at he
      injection he with he
      subst he
      exact ⟨fun r => hnew (.inr (.inl r)), hbm, fun r => hnew (.inr (.inr (.inr (.inl r))))⟩
    · simp only [if_neg q] at he
      exact H.ni e c he
  · intro e e' c he he'
    unfold upd at he he'
    by_cases q : e = d
    · by_cases q' : e' = d
      · rw [q, q']
      · simp only [if_pos q] at he
        simp only [if_neg q'] at he'
        injection he with he
        subst he
        exact absurd (.inr (.inr (.inr (.inr ⟨e', he'⟩)))) hnew
    · simp only [if_neg q] at he
      by_cases q' : e' = d
      · simp only [if_pos q'] at he'
        injection he' with he'
        subst he'
        exact absurd (.inr (.inr (.inr (.inr ⟨e, he⟩)))) hnew
      · simp only [if_neg q'] at he'
        exact H.inj e e' c he he'
  · intro e he s
    unfold upd at he ⊢
    by_cases q : e = d
    · simp only [if_pos q] at he
      cases he
    · simp only [if_neg q] at he ⊢
      exact H.nn e he s
/-- A directory goes. -/
theorem TreeF.turnD (H : TreeF w M fN fM fP v n) {d : Int} (ht : w.mapTurned w' M.mb) (hm : MapF vI vM w' M.mb (upd M.ib d none)) : TreeF w' { M with ib := upd M.ib d none } fN (upd fM d fun _ => none) fP v n := by
  have hib : ∀ e c, upd M.ib d none e = some c → e ≠ d ∧ M.ib e = some c := fun e c h => by
    unfold upd at h
    by_cases q : e = d
    · simp only [if_pos q] at h
      cases h
    · simp only [if_neg q] at h
      exact ⟨q, h⟩
  refine ⟨H.blk.grown ht.grown (fun q => H.tm (by injection q)), H.mn.grown ht.grown (fun q => H.ne.1 (by injection q)), hm, H.mp.grown ht.grown (fun q => H.ne.2.2 (by injection q with q; exact q.symm)), ?_, H.ne, ?_, ?_, ?_⟩
  · intro e c he
    obtain ⟨q, he⟩ := hib e c he
    rw [upd_other _ _ q]
    exact (H.mi e c he).grown ht.grown (fun r => (H.ni e c he).2.1 (by injection r))
  · intro e c he
    exact H.ni e c (hib e c he).2
  · intro e e' c he he'
    exact H.inj e e' c (hib e c he).2 (hib e' c he').2
  · intro e he s
    unfold upd at he ⊢
    by_cases q : e = d
    · simp only [if_pos q]
    · simp only [if_neg q] at he ⊢
      exact H.nn e he s
theorem TreeF.setV (H : TreeF w M fN fM fP v n) (v' : Int) : TreeF (w.setCell ⟨M.t, 3, none⟩ (.int .i64 v')) M fN fM fP v' n :=
  ⟨H.blk.setCell 3 _, H.mn.of_heap (Below.heap_setCell _ _ _ _ H.tn.symm), H.mm.of_heap (Below.heap_setCell _ _ _ _ H.tm.symm), H.mp.of_heap (Below.heap_setCell _ _ _ _ H.tp.symm), fun d b h => (H.mi d b h).of_heap (Below.heap_setCell _ _ _ _ (H.ti h).symm), H.ne, H.ni, H.inj, H.nn⟩
theorem TreeF.setNx (H : TreeF w M fN fM fP v n) (n' : Int) : TreeF (w.setCell ⟨M.t, 4, none⟩ (.int .i64 n')) M fN fM fP v n' :=
  ⟨H.blk.setCell 4 _, H.mn.of_heap (Below.heap_setCell _ _ _ _ H.tn.symm), H.mm.of_heap (Below.heap_setCell _ _ _ _ H.tm.symm), H.mp.of_heap (Below.heap_setCell _ _ _ _ H.tp.symm), fun d b h => (H.mi d b h).of_heap (Below.heap_setCell _ _ _ _ (H.ti h).symm), H.ne, H.ni, H.inj, H.nn⟩
theorem TreeF.to (H : TreeF w M fN fM fP v n) {fN' : Int → Option Nd} {fM' : Int → List UInt8 → Option Int} {fP' : Int → Option Key} (h1 : fN = fN') (h2 : fM = fM') (h3 : fP = fP') : TreeF w M fN' fM' fP' v n := by
  subst h1 h2 h3
  exact H
end

/-- The tree t lies at M. -/
structure TreeAt (w : World) (M : TM) (t : Tr.T) : Prop where
  F : TreeF w M (Tr.nodeF t.L) (Tr.nameF t.L) (Tr.placeF t.L) t.vers t.next
  dirs : ∀ d, (M.ib d).isSome = Tr.isDir t.L d
  good : Tr.Good t

section
variable {w w' : World} {M : TM} {t : Tr.T}
theorem TreeAt.kp {Q : Nat → Prop} (H : TreeAt w M t) (hk : Kp Q w w') (hq : ∀ k, M.own k → Q k) : TreeAt w' M t := ⟨H.F.kp hk hq, H.dirs, H.good⟩
theorem TreeAt.below (H : TreeAt w M t) (hb : Below w.heap.size w w') : TreeAt w' M t := ⟨H.F.below hb, H.dirs, H.good⟩
theorem TreeAt.alloc (H : TreeAt w M t) (o : Obj) : TreeAt (w.alloc o) M t := ⟨H.F.alloc o, H.dirs, H.good⟩
theorem TreeAt.drew (H : TreeAt w M t) : TreeAt w.drew M t := ⟨H.F.drew, H.dirs, H.good⟩
theorem TreeAt.ib (H : TreeAt w M t) {d : Int} (h : Tr.isDir t.L d = true) : ∃ b, M.ib d = some b := Option.isSome_iff_exists.1 ((H.dirs d).trans h)

/-- The ids of the nodes, and those of the directories; the names of a directory. -/
def Tr.ids (t : Tr.T) : List Int := 1 :: t.L.map fun x => x.2.1
def Tr.dirIds (t : Tr.T) : List Int := (Tr.ids t).filter fun d => Tr.isDir t.L d

theorem Tr.Good.ids_nodup (h : Tr.Good t) : (Tr.ids t).Nodup := by
  unfold Tr.ids
  rw [List.nodup_cons]
  refine ⟨fun hm => ?_, h.ids⟩
  obtain ⟨x, hx, e⟩ := List.mem_map.1 hm
  have := (h.lo x hx).1
  omega
theorem Tr.Good.ids_mem (a : Int) : a ∈ Tr.ids t ↔ (Tr.nodeF t.L a).isSome = true := by
  unfold Tr.ids Tr.nodeF
  by_cases h1 : a = 1
  · rw [if_pos h1, h1]
    simp
  · rw [if_neg h1, List.mem_cons, Option.isSome_map]
    constructor
    · rintro (h | h)
      · exact absurd h h1
      · obtain ⟨x, hx, rfl⟩ := List.mem_map.1 h
        cases hb : Tr.byId t.L x.2.1 with
        | none => exact absurd rfl ((Tr.byId_none.1 hb) x hx)
        | some y => rfl
    · intro h
      obtain ⟨x, hx⟩ := Option.isSome_iff_exists.1 h
      obtain ⟨hm, rfl⟩ := Tr.byId_some hx
      exact .inr (List.mem_map.2 ⟨x, hm, rfl⟩)
theorem Tr.Good.dirIds_nodup (h : Tr.Good t) : (Tr.dirIds t).Nodup := List.Nodup.sublist List.filter_sublist h.ids_nodup
theorem Tr.Good.dirIds_mem (a : Int) : a ∈ Tr.dirIds t ↔ Tr.isDir t.L a = true := by
  unfold Tr.dirIds
  rw [List.mem_filter, Tr.Good.ids_mem]
  refine ⟨fun h => h.2, fun h => ⟨?_, h⟩⟩
  unfold Tr.isDir Tr.isDirN at h
  cases hn : Tr.nodeF t.L a with
  | none => rw [hn] at h; cases h
  | some n => rfl
theorem Tr.Good.dirIds_len (h : Tr.Good t) : (Tr.dirIds t).length ≤ 48 := by
  have h1 : (Tr.dirIds t).length ≤ (Tr.ids t).length := List.length_filter_le _ _
  have h2 : (Tr.ids t).length = t.L.length + 1 := by unfold Tr.ids; simp
  have := h.len
  omega
theorem Tr.Good.dirIds_in (h : Tr.Good t) {d : Int} (hd : d ∈ Tr.dirIds t) : 1 ≤ d ∧ d < t.next := by
  have hn := h.next
  rcases Tr.isDir_iff.1 ((Tr.Good.dirIds_mem d).1 hd) with rfl | ⟨_, x, hx, _⟩
  · omega
  · obtain ⟨hm, rfl⟩ := Tr.byId_some hx
    have := h.lo x hm
    omega
theorem Tr.Good.names_mem (d : Int) (s : List UInt8) : s ∈ (Tr.ofDir t.L d).map (fun x => x.1.2) ↔ (Tr.nameF t.L d s).isSome = true := by
  unfold Tr.nameF
  rw [List.mem_map, Option.isSome_map]
  constructor
  · rintro ⟨x, hx, rfl⟩
    obtain ⟨hm, rfl⟩ := Tr.mem_ofDir.1 hx
    cases hb : Tr.byKey t.L (x.1.1, x.1.2) with
    | none => exact absurd rfl ((Tr.byKey_none.1 hb) x hm)
    | some y => rfl
  · intro h
    obtain ⟨x, hx⟩ := Option.isSome_iff_exists.1 h
    obtain ⟨hm, e⟩ := Tr.byKey_some hx
    exact ⟨x, Tr.mem_ofDir.2 ⟨hm, by rw [e]⟩, by rw [e]⟩
end
end Go.Proofs.YtoacobcbloljkaaGreatDoor
