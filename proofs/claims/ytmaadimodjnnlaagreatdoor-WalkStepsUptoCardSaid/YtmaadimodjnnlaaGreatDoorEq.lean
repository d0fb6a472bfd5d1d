/-
  Equality of keys, nodes and entries as the program asks it.
-/
import Derived.Test.YtmaadimodjnnlaaGreatDoorData
namespace Go.Proofs.YtmaadimodjnnlaaGreatDoor
open Go.RowKit

theorem eqIn_txt (d : Nat) (a b : List UInt8) (w : World) : (Op.equalIn (d + 1) 9 (txt a) (txt b)).run Tryz.prog w = .ok (decide (a = b)) w := by
  unfold txt
  rw [run_equalIn_string w d _ _ _ Tryz.underlying9, ← beq_toListBytes, bytes_mk_beq]
theorem eqIn_int (d : Nat) (a b : Int) (w : World) : (Op.equalIn (d + 1) 3 (.int .i64 a) (.int .i64 b)).run Tryz.prog w = .ok (decide (a = b)) w := by
  rw [run_equalIn_int w d _ _ _ _ _ Tryz.underlying3]
  congr 1

theorem eqIn_key (d : Nat) (a b : Key) (w : World) : (Op.equalIn (d + 2) 29 (vKey a) (vKey b)).run Tryz.prog w = .ok (decide (a = b)) w := by
  have hf : (Tryz.prog.fieldsOf 29).toList.map (fun f => (f.name, f.type, f.offset)) = [("Dir", 3, 0), ("Name", 9, 1)] := by kernel_rfl
  obtain ⟨f, g, hl, f1, f2, f3, g1, g2, g3⟩ := fields2 hf
  have p1 : ∀ k : Key, (part 3 #[.int .i64 k.1, txt k.2] 0).run Tryz.prog w = .ok (.int .i64 k.1) w := fun _ => by kernel_rfl
  have p2 : ∀ k : Key, (part 9 #[.int .i64 k.1, txt k.2] 1).run Tryz.prog w = .ok (txt k.2) w := fun _ => by kernel_rfl
  have q1 := eqIn_int d a.1 b.1 w
  have q2 := eqIn_txt d a.2 b.2 w
  simp only at f1 f2 f3 g1 g2 g3
  unfold vKey
  rw [run_equalIn_agg w (d + 1) 29 _ _ (by kernel_rfl) (by kernel_rfl), hl]
  simp only [Op.eqFields, f1, f2, f3, g1, g2, g3, ne_eq, Sem.run_bind, Sem.run_ite, p1, p2, q1, q2, Result.andThen_ok]
  clear p1 p2 q1 q2
  obtain ⟨a1, a2⟩ := a
  obtain ⟨b1, b2⟩ := b
  by_cases h1 : a1 = b1 <;> by_cases h2 : a2 = b2 <;> simp [h1, h2]

theorem fields4 {l : List Field} {x y z u : String × TypeId × Nat} (h : l.map (fun f => (f.name, f.type, f.offset)) = [x, y, z, u]) :
    ∃ f g h k, l = [f, g, h, k] ∧ (f.name = x.1 ∧ f.type = x.2.1 ∧ f.offset = x.2.2) ∧ (g.name = y.1 ∧ g.type = y.2.1 ∧ g.offset = y.2.2) ∧ (h.name = z.1 ∧ h.type = z.2.1 ∧ h.offset = z.2.2) ∧ (k.name = u.1 ∧ k.type = u.2.1 ∧ k.offset = u.2.2) := by
  match l, h with
  | [f, g, i, k], hh =>
    simp only [List.map_cons, List.map_nil, List.cons.injEq, and_true] at hh
    obtain ⟨rfl, rfl, rfl, rfl⟩ := hh
    exact ⟨f, g, i, k, rfl, ⟨rfl, rfl, rfl⟩, ⟨rfl, rfl, rfl⟩, ⟨rfl, rfl, rfl⟩, rfl, rfl, rfl⟩

theorem fields3 {l : List Field} {x y z : String × TypeId × Nat} (h : l.map (fun f => (f.name, f.type, f.offset)) = [x, y, z]) :
    ∃ f g h, l = [f, g, h] ∧ (f.name = x.1 ∧ f.type = x.2.1 ∧ f.offset = x.2.2) ∧ (g.name = y.1 ∧ g.type = y.2.1 ∧ g.offset = y.2.2) ∧ (h.name = z.1 ∧ h.type = z.2.1 ∧ h.offset = z.2.2) := by
  match l, h with
  | [f, g, i], hh =>
    simp only [List.map_cons, List.map_nil, List.cons.injEq, and_true] at hh
    obtain ⟨rfl, rfl, rfl⟩ := hh
    exact ⟨f, g, i, rfl, ⟨rfl, rfl, rfl⟩, ⟨rfl, rfl, rfl⟩, rfl, rfl, rfl⟩

theorem eqIn_node (d : Nat) (a b : Nd) (w : World) : (Op.equalIn (d + 2) 32 (vNd a) (vNd b)).run Tryz.prog w = .ok (decide (a = b)) w := by
  have hf : (Tryz.prog.fieldsOf 32).toList.map (fun f => (f.name, f.type, f.offset)) = [("ID", 3, 0), ("Kind", 3, 1), ("Mode", 3, 2), ("Target", 9, 3)] := by kernel_rfl
  obtain ⟨f, g, h, k, hl, ⟨f1, f2, f3⟩, ⟨g1, g2, g3⟩, ⟨h1, h2, h3⟩, k1, k2, k3⟩ := fields4 hf
  have p1 : ∀ k : Nd, (part 3 #[.int .i64 k.1, .int .i64 k.2.1, .int .i64 k.2.2.1, txt k.2.2.2] 0).run Tryz.prog w = .ok (.int .i64 k.1) w := fun _ => by kernel_rfl
  have p2 : ∀ k : Nd, (part 3 #[.int .i64 k.1, .int .i64 k.2.1, .int .i64 k.2.2.1, txt k.2.2.2] 1).run Tryz.prog w = .ok (.int .i64 k.2.1) w := fun _ => by kernel_rfl
  have p3 : ∀ k : Nd, (part 3 #[.int .i64 k.1, .int .i64 k.2.1, .int .i64 k.2.2.1, txt k.2.2.2] 2).run Tryz.prog w = .ok (.int .i64 k.2.2.1) w := fun _ => by kernel_rfl
  have p4 : ∀ k : Nd, (part 9 #[.int .i64 k.1, .int .i64 k.2.1, .int .i64 k.2.2.1, txt k.2.2.2] 3).run Tryz.prog w = .ok (txt k.2.2.2) w := fun _ => by kernel_rfl
  have q1 := eqIn_int d a.1 b.1 w
  have q2 := eqIn_int d a.2.1 b.2.1 w
  have q3 := eqIn_int d a.2.2.1 b.2.2.1 w
  have q4 := eqIn_txt d a.2.2.2 b.2.2.2 w
  simp only at f1 f2 f3 g1 g2 g3 h1 h2 h3 k1 k2 k3
  unfold vNd
  rw [run_equalIn_agg w (d + 1) 32 _ _ (by kernel_rfl) (by kernel_rfl), hl]
  simp only [Op.eqFields, f1, f2, f3, g1, g2, g3, h1, h2, h3, k1, k2, k3, ne_eq, Sem.run_bind, Sem.run_ite, p1, p2, p3, p4, q1, q2, q3, q4, Result.andThen_ok]
  clear p1 p2 p3 p4 q1 q2 q3 q4
  obtain ⟨a1, a2, a3, a4⟩ := a
  obtain ⟨b1, b2, b3, b4⟩ := b
  by_cases e1 : a1 = b1 <;> by_cases e2 : a2 = b2 <;> by_cases e3 : a3 = b3 <;> by_cases e4 : a4 = b4 <;> simp [e1, e2, e3, e4]

theorem eqIn_entry (d : Nat) (a b : En) (w : World) : (Op.equalIn (d + 3) 52 (vEn a) (vEn b)).run Tryz.prog w = .ok (decide (a = b)) w := by
  have hf : (Tryz.prog.fieldsOf 52).toList.map (fun f => (f.name, f.type, f.offset)) = [("Key", 29, 0), ("Neg", 4, 2), ("Node", 32, 3)] := by kernel_rfl
  obtain ⟨f, g, h, hl, ⟨f1, f2, f3⟩, ⟨g1, g2, g3⟩, h1, h2, h3⟩ := fields3 hf
  have p1 : ∀ e : En, (part 29 #[.int .i64 e.1.1, txt e.1.2, .bool e.2.1, .int .i64 e.2.2.1, .int .i64 e.2.2.2.1, .int .i64 e.2.2.2.2.1, txt e.2.2.2.2.2] 0).run Tryz.prog w = .ok (vKey e.1) w := fun _ => by kernel_rfl
  have p2 : ∀ e : En, (part 4 #[.int .i64 e.1.1, txt e.1.2, .bool e.2.1, .int .i64 e.2.2.1, .int .i64 e.2.2.2.1, .int .i64 e.2.2.2.2.1, txt e.2.2.2.2.2] 2).run Tryz.prog w = .ok (.bool e.2.1) w := fun _ => by kernel_rfl
  have p3 : ∀ e : En, (part 32 #[.int .i64 e.1.1, txt e.1.2, .bool e.2.1, .int .i64 e.2.2.1, .int .i64 e.2.2.2.1, .int .i64 e.2.2.2.2.1, txt e.2.2.2.2.2] 3).run Tryz.prog w = .ok (vNd e.2.2) w := fun _ => by kernel_rfl
  have q1 := eqIn_key d a.1 b.1 w
  have q2 : (Op.equalIn (d + 2) 4 (.bool a.2.1) (.bool b.2.1)).run Tryz.prog w = .ok (a.2.1 == b.2.1) w := run_equalIn_bool w (d + 1) _ _ _ Tryz.underlying4
  have q3 := eqIn_node d a.2.2 b.2.2 w
  simp only at f1 f2 f3 g1 g2 g3 h1 h2 h3
  unfold vEn
  rw [run_equalIn_agg w (d + 2) 52 _ _ (by kernel_rfl) (by kernel_rfl), hl]
  simp only [Op.eqFields, f1, f2, f3, g1, g2, g3, h1, h2, h3, ne_eq, Sem.run_bind, Sem.run_ite, p1, p2, p3, q1, q2, q3, Result.andThen_ok]
  clear p1 p2 p3 q1 q2 q3
  obtain ⟨a1, a2, a3⟩ := a
  obtain ⟨b1, b2, b3⟩ := b
  by_cases e1 : a1 = b1 <;> by_cases e2 : a2 = b2 <;> by_cases e3 : a3 = b3 <;> simp [e1, e2, e3]

theorem eql_key (a b : Key) (w : World) : (binOp .eql 29 (vKey a) (vKey b)).run Tryz.prog w = .ok (.bool (decide (a = b))) w := by
  have := eqIn_key 9998 a b w
  unfold vKey at this ⊢
  rw [run_eql_struct, this]
  rfl
theorem neq_key (a b : Key) (w : World) : (binOp .neq 29 (vKey a) (vKey b)).run Tryz.prog w = .ok (.bool (!decide (a = b))) w := by
  have := eqIn_key 9998 a b w
  unfold vKey at this ⊢
  rw [run_neq_struct, this]
  rfl
theorem eql_node (a b : Nd) (w : World) : (binOp .eql 32 (vNd a) (vNd b)).run Tryz.prog w = .ok (.bool (decide (a = b))) w := by
  have := eqIn_node 9998 a b w
  unfold vNd at this ⊢
  rw [run_eql_struct, this]
  rfl
theorem neq_node (a b : Nd) (w : World) : (binOp .neq 32 (vNd a) (vNd b)).run Tryz.prog w = .ok (.bool (!decide (a = b))) w := by
  have := eqIn_node 9998 a b w
  unfold vNd at this ⊢
  rw [run_neq_struct, this]
  rfl
theorem eql_entry (a b : En) (w : World) : (binOp .eql 52 (vEn a) (vEn b)).run Tryz.prog w = .ok (.bool (decide (a = b))) w := by
  have := eqIn_entry 9997 a b w
  unfold vEn at this ⊢
  rw [run_eql_struct, this]
  rfl
theorem neq_entry (a b : En) (w : World) : (binOp .neq 52 (vEn a) (vEn b)).run Tryz.prog w = .ok (.bool (!decide (a = b))) w := by
  have := eqIn_entry 9997 a b w
  unfold vEn at this ⊢
  rw [run_neq_struct, this]
  rfl
end Go.Proofs.YtmaadimodjnnlaaGreatDoor
