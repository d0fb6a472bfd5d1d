/-
  A drawn region whose operations each leave one value, in whatever order: each operation is walked alone.
-/
import Derived.Test.YtoacobcbloljkaaGreatDoorLow
namespace Go.Proofs.YtoacobcbloljkaaGreatDoor
open Go.RowKit

section
variable {P : Program} {ops : Array Oper} {Q : Exit → Act → World → Prop}

theorem oper_strict {o : Oper} {a : Act} {w : World} {N K : Act → World → Prop} (hN : ∀ a w, N a w → K a w)
    (h : o.wp P a w (wpList P ops (fun e a w => e = .normal ∧ N a w) []) (fun e a w => e = .normal ∧ N a w)) : o.wp P a w K Q := by
  unfold Oper.wp at *
  generalize (execOp a.eval o).run P w = r at *
  cases r with
  | ok n w' =>
    cases n <;> simp only [Oper.upon] at h ⊢ <;>
      first
        | exact hN _ _ h.2
        | exact Calls.mono h (fun e w'' he => by
            cases e <;> first
              | exact hN _ _ he.2
              | (cases he.1)
              | (obtain ⟨_, _, q, _⟩ := he; cases q))
        | exact Rows.mono h (fun _ _ he => hN _ _ he.2)
  | halt x w' => cases x <;> simp only [Oper.upon] at h ⊢ <;> first | exact h | (cases h.1)

theorem wpOp_strict {i : Nat} {o : Oper} {a : Act} {w : World} {N K : Act → World → Prop} (ho : ops[i]? = some o) (hN : ∀ a w, N a w → K a w)
    (h : wpList P ops (fun e a w => e = .normal ∧ N a w) [o] a w) : wpOp P ops Q i K a w := by
  unfold wpList at h
  unfold wpOp
  rw [ho]
  simp only
  split at h
  · rename_i hw
    rw [if_pos hw]
    rcases h with h | ⟨_, _, _, q, _⟩
    · exact .inl (oper_strict hN h)
    · cases q
  · rename_i hw
    rw [if_neg hw]
    exact hN _ _ h.2

theorem act_eq {a b : Act} (hs : a.tmps.size = b.tmps.size) (hd : a.defers = b.defers) (h : ∀ j, a.tmps.getD j undef = b.tmps.getD j undef) : a = b := by
  obtain ⟨ta, da⟩ := a
  obtain ⟨tb, db⟩ := b
  simp only at hs hd h
  subst hd
  congr 1
  refine Array.ext hs fun i h1 h2 => ?_
  have := h i
  simpa [Array.getD, h1, h2] using this

/-- Values are put into the slots of a list. -/
def putsA (y : Tmp → Value) : List Tmp → Act → Act
  | [], a => a
  | d :: D, a => putsA y D (a.put (some d) (y d))
theorem putsA_size (y : Tmp → Value) : ∀ (D : List Tmp) (a : Act), (putsA y D a).tmps.size = a.tmps.size
  | [], _ => rfl
  | _ :: D, _ => (putsA_size y D _).trans put_size
theorem putsA_defers (y : Tmp → Value) : ∀ (D : List Tmp) (a : Act), (putsA y D a).defers = a.defers
  | [], _ => rfl
  | _ :: D, _ => (putsA_defers y D _).trans rfl
theorem putsA_other (y : Tmp → Value) : ∀ (D : List Tmp) (a : Act) (j : Tmp), j ∉ D → (putsA y D a).tmps.getD j undef = a.tmps.getD j undef
  | [], _, _, _ => rfl
  | d :: D, a, j, h => (putsA_other y D _ j (fun q => h (List.mem_cons_of_mem _ q))).trans (put_ne (fun q => h (by rw [q]; exact List.mem_cons_self)))
theorem putsA_same (y : Tmp → Value) : ∀ (D : List Tmp) (a : Act) (j : Tmp), j ∈ D → j < a.tmps.size → (putsA y D a).tmps.getD j undef = y j
  | d :: D, a, j, h, hs => by
    by_cases hj : j ∈ D
    · exact putsA_same y D _ j hj (by rw [put_size]; exact hs)
    · have e : j = d := by
        rcases List.mem_cons.1 h with q | q
        · exact q
        · exact absurd q hj
      subst e
      exact (putsA_other y D _ j hj).trans (put_same hs)
theorem putsA_put {y : Tmp → Value} {D : List Tmp} {a : Act} {d : Tmp} {v : Value} (hd : d ∈ D) (hs : ∀ d ∈ D, d < a.tmps.size) :
    (putsA y D a).put (some d) v = putsA (fun j => if j = d then v else y j) D a := by
  refine act_eq ?_ ?_ fun j => ?_
  · rw [put_size, putsA_size, putsA_size]
  · rw [putsA_defers]
    exact putsA_defers y D a
  · by_cases hj : j = d
    · subst hj
      rw [put_same (by rw [putsA_size]; exact hs _ hd), putsA_same _ D a j hd (hs _ hd), if_pos rfl]
    · rw [put_ne (fun q => hj q.symm)]
      by_cases hm : j ∈ D
      · rw [putsA_same _ D a j hm (hs _ hm), putsA_same _ D a j hm (hs _ hm), if_neg hj]
      · rw [putsA_other _ D a j hm, putsA_other _ D a j hm]
theorem putsA_self {D : List Tmp} {a : Act} (hs : ∀ d ∈ D, d < a.tmps.size) : putsA (fun d => a.tmps.getD d undef) D a = a := by
  refine act_eq (putsA_size _ _ _) (putsA_defers _ _ _) fun j => ?_
  by_cases hm : j ∈ D
  · exact putsA_same _ D a j hm (hs _ hm)
  · exact putsA_other _ D a j hm
theorem putsA_congr {y V : Tmp → Value} {D : List Tmp} {a : Act} (hs : ∀ d ∈ D, d < a.tmps.size) (h : ∀ d ∈ D, y d = V d) : putsA y D a = putsA V D a := by
  refine act_eq ((putsA_size _ _ _).trans (putsA_size _ _ _).symm) ((putsA_defers _ _ _).trans (putsA_defers _ _ _).symm) fun j => ?_
  by_cases hm : j ∈ D
  · rw [putsA_same _ D a j hm (hs _ hm), putsA_same _ D a j hm (hs _ hm), h j hm]
  · rw [putsA_other _ D a j hm, putsA_other _ D a j hm]

/-- What each operation has to do, alone. -/
def StepV (P : Program) (ops : Array Oper) (D : List Tmp) (V : Tmp → Value) (B : World → Prop) (a0 : Act) (o : Oper) : Prop :=
  ∀ (d : Tmp), o.dst = some d → ∀ (y : Tmp → Value) (W : World), B W → (∀ e ∈ o.after, Region.binds .any e = true → ∀ d', D[e.on]? = some d' → y d' = V d') →
    wpList P ops (fun e a W' => e = .normal ∧ a = (putsA y D a0).put (some d) (V d) ∧ B W') [o] (putsA y D a0) W
def StepsV (P : Program) (ops : Array Oper) (D : List Tmp) (V : Tmp → Value) (B : World → Prop) (a0 : Act) : List Oper → Prop
  | [] => True
  | o :: l => StepV P ops D V B a0 o ∧ StepsV P ops D V B a0 l
theorem StepsV.get {D : List Tmp} {V : Tmp → Value} {B : World → Prop} {a0 : Act} (l : List Oper) : StepsV P ops D V B a0 l → ∀ o : Oper, o ∈ l → StepV P ops D V B a0 o := by
  induction l with
  | nil => intro _ o hm; cases hm
  | cons p l ih =>
    intro h o hm
    rcases List.mem_cons.1 hm with q | q
    · rw [q]
      exact h.1
    · exact ih h.2 o q

theorem stepsV_cons {D : List Tmp} {V : Tmp → Value} {B : World → Prop} {a0 : Act} {o : Oper} {l : List Oper} (h : StepV P ops D V B a0 o) (h2 : StepsV P ops D V B a0 l) : StepsV P ops D V B a0 (o :: l) := ⟨h, h2⟩
theorem stepsV_nil {D : List Tmp} {V : Tmp → Value} {B : World → Prop} {a0 : Act} : StepsV P ops D V B a0 [] := trivial
theorem stepsV_gen {D : List Tmp} {V : Tmp → Value} {B : World → Prop} {a0 : Act} {l : List Oper} (h : ∀ a1 : Act, a1 = a0 → StepsV P ops D V B a1 l) : StepsV P ops D V B a0 l := h a0 rfl
theorem wp_region_vals {id : Nat} {a0 : Act} {w : World} (hm : P.follows .mixedOrders = true) (D : List Tmp) (V : Tmp → Value) (B : World → Prop)
    (hD : ops.toList.map (·.dst) = D.map some) (hs : ∀ d ∈ D, d < a0.tmps.size)
    (hlt : (ops.toList.zipIdx.all fun p => p.1.after.all fun e => decide (e.on < p.2)) = true)
    (hB : B { w with drawn := w.drawn + 1 }) (hstep : StepsV P ops D V B a0 ops.toList) (hend : ∀ W, B W → Q .normal (putsA V D a0) W) :
    (Code.region id ops true).wp P Q a0 w := by
  have hlen : D.length = ops.size := by
    have := congrArg List.length hD
    simpa using this.symm
  have hdst : ∀ (i : Nat) (o : Oper), ops[i]? = some o → ∃ d, D[i]? = some d ∧ o.dst = some d := fun i o ho => by
    have h1 : (ops.toList.map (·.dst))[i]? = some o.dst := by rw [List.getElem?_map, Array.getElem?_toList, ho]; rfl
    rw [hD, List.getElem?_map] at h1
    cases hq : D[i]? with
    | none => rw [hq] at h1; simp at h1
    | some d => rw [hq] at h1; exact ⟨d, rfl, by simpa using h1.symm⟩
  refine wp_region_inv hm (fun listed a W => listed.size = ops.size ∧ ∃ y : Tmp → Value, a = putsA y D a0 ∧ (∀ i d, D[i]? = some d → listed.getD i false = true → y d = V d) ∧ B W) ?_ ?_ ?_
  · refine ⟨by simp, _, (putsA_self hs).symm, fun i d _ h => ?_, hB⟩
    simp only [Array.getD_eq_getD_getElem?, Array.getElem?_replicate] at h
    split at h <;> simp at h
  · rintro listed i a W hsz hi ⟨-, y, rfl, hy, hBW⟩
    obtain ⟨h0, o, ho, haf⟩ := mem_ready.1 hi
    obtain ⟨d, hd, hod⟩ := hdst i o ho
    have hmem : d ∈ D := List.mem_of_getElem? hd
    have hst := StepsV.get _ hstep o (Array.mem_toList_iff.2 (Array.mem_of_getElem? ho)) d hod y W hBW (fun e he hb d' hd' => hy e.on d' hd' (haf e he hb))
    refine wpOp_strict ho ?_ hst
    rintro a' W' ⟨rfl, hB'⟩
    refine ⟨by rw [Array.size_setIfInBounds]; exact hsz, _, putsA_put hmem hs, fun j e he hl => ?_, hB'⟩
    by_cases hj : e = d
    · rw [if_pos hj, hj]
    · rw [if_neg hj]
      refine hy j e he ?_
      have hij : i ≠ j := fun q => hj (by rw [q, he] at hd; injection hd)
      rwa [getD_set_ne false hij] at hl
  · rintro listed a W hr ⟨hsz, y, rfl, hy, hBW⟩
    have hall : ∀ i, i < ops.size → listed.getD i false = true := by
      intro i
      induction i using Nat.strongRecOn with
      | _ i ih =>
        intro hi
        have h0 : listed.getD i false = listed.getD i true := by simp [Array.getD, hsz, hi]
        cases hq : listed.getD i true with
        | true => rw [h0, hq]
        | false =>
          exfalso
          have hmr : i ∈ Region.ready .any ops listed := by
            refine mem_ready.2 ⟨hq, ops[i], Array.getElem?_eq_getElem hi, fun e he _ => ?_⟩
            have h2 := List.all_eq_true.1 hlt (ops[i], i) (by
              rw [List.mk_mem_zipIdx_iff_getElem?]
              simp [hi])
            have h3 : e.on < i := by simpa using (Array.all_eq_true'.1 h2) e he
            exact ih e.on h3 (by omega)
          rw [hr] at hmr
          cases hmr
    rw [putsA_congr hs (V := V) fun d hd => ?_]
    · exact hend W hBW
    · obtain ⟨i, hi⟩ := List.getElem?_of_mem hd
      exact hy i d hi (hall i (by have := (List.getElem?_eq_some_iff.1 hi).1; omega))

/-! ### One operation -/
variable {D : List Tmp} {y V : Tmp → Value} {B : World → Prop} {a0 : Act} {o : Oper} {d : Tmp} {W : World}
theorem puts_eval {j : Tmp} {v : Value} (hj : j ∈ D) (hs : ∀ d ∈ D, d < a0.tmps.size) (h : y j = v) : (putsA y D a0).eval (.tmp j) = v :=
  (putsA_same y D a0 j hj (hs j hj)).trans h
theorem puts_eval0 {j : Tmp} {v : Value} (hj : j ∉ D) (h : a0.tmps.getD j undef = v) : (putsA y D a0).eval (.tmp j) = v :=
  (putsA_other y D a0 j hj).trans h
theorem puts_yields {k : Nat} {p : Oper} {j : Tmp} {b : Bool} (hk : ops[k]? = some p) (hp : p.dst = some j) (hj : j ∈ D) (hs : ∀ d ∈ D, d < a0.tmps.size) (h : y j = .bool b) :
    yielded ops (putsA y D a0).tmps k = some b := by
  have hlt : j < (putsA y D a0).tmps.size := by rw [putsA_size]; exact hs j hj
  have he := (putsA_same y D a0 j hj (hs j hj)).trans h
  have h2 : (putsA y D a0).tmps[j]? = some (.bool b) := by
    rw [Array.getElem?_eq_getElem hlt]
    rw [Array.getD, dif_pos hlt] at he
    exact congrArg some he
  unfold yielded
  rw [hk]
  simp only [Option.bind_some, hp, h2]
theorem step_value (hd : o.dst = some d) (hw : Region.wanted o (yielded ops (putsA y D a0).tmps) = true) {W' : World} (h : (execOp (putsA y D a0).eval o).run P W = .ok (.value (V d)) W') (hB : B W') :
    wpList P ops (fun e a W' => e = .normal ∧ a = (putsA y D a0).put (some d) (V d) ∧ B W') [o] (putsA y D a0) W := by
  unfold wpList
  rw [if_pos hw]
  refine .inl ?_
  unfold Oper.wp
  rw [h]
  simp only [Oper.upon, wpList, hd, true_and]
  exact hB
theorem step_skip (hd : o.dst = some d) (hw : Region.wanted o (yielded ops (putsA y D a0).tmps) = false) (hv : V d = undef) (hB : B W) :
    wpList P ops (fun e a W' => e = .normal ∧ a = (putsA y D a0).put (some d) (V d) ∧ B W') [o] (putsA y D a0) W := by
  unfold wpList
  rw [if_neg (by rw [hw]; simp), hv, ← hd]
  exact ⟨rfl, rfl, hB⟩
theorem step_enter (hd : o.dst = some d) (hw : Region.wanted o (yielded ops (putsA y D a0).tmps) = true) {f : FuncId} {args : Array Value} (h : (execOp (putsA y D a0).eval o).run P W = .ok (.enter f args) W)
    (hc : Calls P f args W fun e w' => e = .returned (V d) ∧ B w') :
    wpList P ops (fun e a W' => e = .normal ∧ a = (putsA y D a0).put (some d) (V d) ∧ B W') [o] (putsA y D a0) W := by
  unfold wpList
  rw [if_pos hw]
  refine .inl ?_
  unfold Oper.wp
  rw [h]
  refine Calls.mono hc ?_
  rintro e w' ⟨rfl, hb⟩
  simp only [wpList, hd, true_and]
  exact hb
end
end Go.Proofs.YtoacobcbloljkaaGreatDoor
