/-
  The plain data of the layers (keys, nodes, entries) and the values that they are in the program; keys in maps.
-/
import Derived.Test.YtmaadimodjnnlaaGreatDoorProg
import Derived.Test.YtmaadimodjnnlaaGreatDoorMaps
namespace Go.Proofs.YtmaadimodjnnlaaGreatDoor
open Go.RowKit

abbrev Key := Int × List UInt8
abbrev Nd := Int × Int × Int × List UInt8
abbrev En := Key × Bool × Nd

def vKey (k : Key) : Value := .agg #[.int .i64 k.1, txt k.2]
def vNd (n : Nd) : Value := .agg #[.int .i64 n.1, .int .i64 n.2.1, .int .i64 n.2.2.1, txt n.2.2.2]
def vEn (e : En) : Value := .agg #[.int .i64 e.1.1, txt e.1.2, .bool e.2.1, .int .i64 e.2.2.1, .int .i64 e.2.2.2.1, .int .i64 e.2.2.2.2.1, txt e.2.2.2.2.2]
def vKept (p : En × Int) : Value := .agg #[.int .i64 p.1.1.1, txt p.1.1.2, .bool p.1.2.1, .int .i64 p.1.2.2.1, .int .i64 p.1.2.2.2.1, .int .i64 p.1.2.2.2.2.1, txt p.1.2.2.2.2.2, .int .i64 p.2]

theorem txt_inj {a b : List UInt8} (h : txt a = txt b) : a = b := by
  unfold txt at h
  injection h with h
  have := congrArg (fun x : ByteArray => x.data.toList) h
  simpa using this

theorem vKey_inj {a b : Key} (h : vKey a = vKey b) : a = b := by
  obtain ⟨a1, a2⟩ := a
  obtain ⟨b1, b2⟩ := b
  unfold vKey at h
  injection h with h
  have h0 := congrArg (fun x : Array Value => x[0]?) h
  have h1 := congrArg (fun x : Array Value => x[1]?) h
  simp only [List.getElem?_toArray, List.getElem?_cons_zero, List.getElem?_cons_succ, Option.some.injEq] at h0 h1
  injection h0 with _ h0
  rw [h0, txt_inj h1]

theorem bytes_mk_beq (a b : List UInt8) : ((⟨a.toArray⟩ : ByteArray) == ⟨b.toArray⟩) = decide (a = b) := by
  rw [Bool.eq_iff_iff, MapKept.bytes_beq, decide_eq_true_iff]
  constructor
  · intro h
    have := congrArg (fun x : ByteArray => x.data.toList) h
    simpa using this
  · intro h
    rw [h]

theorem check_key (em : Bool) (k : Key) (w : World) : (Instr.checkKey em 10000 29 (vKey k)).run Tryz.prog w = .ok () w := by kernel_rfl

theorem fields2 {l : List Field} {x y : String × TypeId × Nat} (h : l.map (fun f => (f.name, f.type, f.offset)) = [x, y]) : ∃ f g, l = [f, g] ∧ f.name = x.1 ∧ f.type = x.2.1 ∧ f.offset = x.2.2 ∧ g.name = y.1 ∧ g.type = y.2.1 ∧ g.offset = y.2.2 := by
  match l, h with
  | [f, g], h =>
    simp only [List.map_cons, List.map_nil, List.cons.injEq, and_true] at h
    obtain ⟨rfl, rfl⟩ := h
    exact ⟨f, g, rfl, rfl, rfl, rfl, rfl, rfl, rfl⟩

theorem eq_key (a b : Key) (w : World) : (Op.equal 29 (vKey a) (vKey b)).run Tryz.prog w = .ok (decide (a = b)) w := by
  have hf : (Tryz.prog.fieldsOf 29).toList.map (fun f => (f.name, f.type, f.offset)) = [("Dir", 3, 0), ("Name", 9, 1)] := by kernel_rfl
  obtain ⟨f, g, hl, f1, f2, f3, g1, g2, g3⟩ := fields2 hf
  have p1 : ∀ k : Key, (part 3 #[.int .i64 k.1, txt k.2] 0).run Tryz.prog w = .ok (.int .i64 k.1) w := fun _ => by kernel_rfl
  have p2 : ∀ k : Key, (part 9 #[.int .i64 k.1, txt k.2] 1).run Tryz.prog w = .ok (txt k.2) w := fun _ => by kernel_rfl
  have q1 : (Op.equalIn 9999 3 (.int .i64 a.1) (.int .i64 b.1)).run Tryz.prog w = .ok (a.1 == b.1) w := run_equalIn_int w 9998 _ _ _ _ _ Tryz.underlying3
  have q2 : (Op.equalIn 9999 9 (txt a.2) (txt b.2)).run Tryz.prog w = .ok (decide (a.2 = b.2)) w := by
    unfold txt
    rw [run_equalIn_string w 9998 _ _ _ Tryz.underlying9, ← beq_toListBytes, bytes_mk_beq]
  simp only at f1 f2 f3 g1 g2 g3
  unfold Op.equal Op.maxDepth vKey
  rw [run_equalIn_agg w 9999 29 _ _ (by kernel_rfl) (by kernel_rfl), hl]
  simp only [Op.eqFields, f1, f2, f3, g1, g2, g3, ne_eq, Sem.run_bind, Sem.run_ite, p1, p2, q1, q2, Result.andThen_ok]
  clear p1 p2 q1 q2
  obtain ⟨a1, a2⟩ := a
  obtain ⟨b1, b2⟩ := b
  by_cases h1 : a1 = b1 <;> by_cases h2 : a2 = b2 <;> simp [h1, h2]
theorem ask_key (a : Key) (w : World) : ∀ (es : List MapEntry) (i : Nat), (∀ e ∈ es, ∃ k, e.key = vKey k) →
    ((Instr.findAsking 29 (vKey a) es i).run Tryz.prog w = .ok none w ∧ ∀ e ∈ es, e.key ≠ vKey a) ∨
    ∃ j e, (Instr.findAsking 29 (vKey a) es i).run Tryz.prog w = .ok (some (i + j, e.val)) w ∧ es[j]? = some e ∧ e.key = vKey a
  | [], _, _ => .inl ⟨by simp [Instr.findAsking], by simp⟩
  | e :: es, i, h => by
    obtain ⟨k, hk⟩ := h e (.head _)
    by_cases hq : a = k
    · subst hq
      exact .inr ⟨0, e, by simp [Instr.findAsking, hk, eq_key], rfl, hk⟩
    · rcases ask_key a w es (i + 1) (fun x hx => h x (.tail _ hx)) with ⟨h1, h2⟩ | ⟨j, e', h1, h2, h3⟩
      · refine .inl ⟨by simp [Instr.findAsking, hk, eq_key, hq, h1], fun x hx => ?_⟩
        cases hx with
        | head => rw [hk]; exact fun q => hq (vKey_inj q).symm
        | tail _ hx => exact h2 x hx
      · exact .inr ⟨j + 1, e', by simp [Instr.findAsking, hk, eq_key, hq, h1]; omega, by simpa using h2, h3⟩

theorem find_key (a : Key) (w : World) (es : List MapEntry) : (Instr.findKey 29 (vKey a) es).run Tryz.prog w = (Instr.findAsking 29 (vKey a) es 0).run Tryz.prog w := by
  have hu : ∃ fs, Tryz.prog.underlying 29 = some (.struct fs) := ⟨_, Tryz.underlying29⟩
  obtain ⟨fs, hu⟩ := hu
  unfold Instr.findKey
  simp only [Sem.run_bind, run_underlying hu, Result.andThen_ok]
  cases es with
  | nil => simp [Instr.findNow, Instr.findAsking]
  | cons e es =>
    have : Instr.findNow (.struct fs) (vKey a) (e :: es) 0 = none := by simp [Instr.findNow, Instr.sameNow]
    rw [this]

theorem stays_key (a : Key) (w : World) : (Instr.keyThatStays (vKey a) (vKey a)).run Tryz.prog w = .ok (vKey a) w := by
  have : Instr.sameBits 10000 (vKey a) (vKey a) = true := by simp [Instr.sameBits, vKey, txt, MapKept.bytes_beq]
  simp [Instr.keyThatStays, this]

theorem keyK_key : KeyK Tryz.prog 29 vKey := by
  refine ⟨vKey_inj, ⟨?_, ?_, ?_⟩⟩
  · rintro w em v ⟨a, rfl⟩
    exact check_key em a w
  · rintro w x ⟨a, rfl⟩ es hes
    rw [find_key]
    rcases ask_key a w es 0 hes with h | ⟨j, e, h1, h2, h3⟩
    · exact .inl h
    · exact .inr ⟨j, e, by simpa using h1, h2, h3⟩
  · rintro w v ⟨a, rfl⟩
    exact stays_key a w

theorem keyK_num : KeyK Tryz.prog 3 vI := keyK_int Tryz.underlying3
end Go.Proofs.YtmaadimodjnnlaaGreatDoor
