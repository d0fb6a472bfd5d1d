/-
  A drawn region by facts: each operation leaves a value of which a fact holds; whatever the order, each is walked once, alone.
-/
import Derived.Test.YtoacobcbloljkaaGreatDoorRegVals
import Derived.Test.YtoacobcbloljkaaGreatDoorStepCall
namespace Go.Proofs.YtoacobcbloljkaaGreatDoor
open Go.RowKit

section
variable {P : Program} {ops : Array Oper} {Q : Exit → Act → World → Prop}

/-- A fact of a value that stays when new memory is made. -/
def Soft (f : Value → World → Prop) : Prop := ∀ u (W W' : World), Below W.heap.size W W' → f u W → f u W'
def isV (v : Value) (u : Value) (_ : World) : Prop := u = v
theorem soft_is {v : Value} : Soft (isV v) := fun _ _ _ _ h => h
theorem soft_true : Soft fun _ _ => True := fun _ _ _ _ h => h
def Softs : List (Value → World → Prop) → Prop
  | [] => True
  | f :: r => Soft f ∧ Softs r
/-- The fact of the operation j. -/
def phi (F : List (Value → World → Prop)) (j : Nat) : Value → World → Prop := F.getD j fun _ _ => True
theorem Softs.get {F : List (Value → World → Prop)} (h : Softs F) : ∀ j, Soft (phi F j) := by
  induction F with
  | nil => intro j; cases j <;> exact soft_true
  | cons f r ih =>
    intro j
    cases j with
    | zero => exact h.1
    | succ j => exact ih h.2 j

/-- The facts of the operations that an operation comes behind, as far as they are its to use. -/
def Deps (n : Nat) (S : List Tmp) (C : List Nat) (F : List (Value → World → Prop)) (i : Nat) (y : Tmp → Value) (W : World) : List Edge → Prop
  | [] => True
  | e :: es => (cond (Region.binds .any e && (C.getD e.on n == i || decide (n ≤ C.getD e.on n))) (phi F e.on (y (S.getD e.on 0)) W) True) ∧ Deps n S C F i y W es
theorem deps_of {n : Nat} {S : List Tmp} {C : List Nat} {F : List (Value → World → Prop)} {i : Nat} {y : Tmp → Value} {W : World} : ∀ (es : List Edge),
    (∀ e ∈ es, Region.binds .any e = true → (C.getD e.on n = i ∨ n ≤ C.getD e.on n) → phi F e.on (y (S.getD e.on 0)) W) → Deps n S C F i y W es
  | [], _ => trivial
  | e :: es, h => by
    refine ⟨?_, deps_of es fun e' he => h e' (List.mem_cons_of_mem _ he)⟩
    cases hb : (Region.binds .any e && (C.getD e.on n == i || decide (n ≤ C.getD e.on n))) with
    | false => trivial
    | true =>
      simp only [Bool.and_eq_true, Bool.or_eq_true, beq_iff_eq, decide_eq_true_eq] at hb
      exact h e List.mem_cons_self hb.1 hb.2

theorem deps_at {n : Nat} {S : List Tmp} {C : List Nat} {F : List (Value → World → Prop)} {i : Nat} {y : Tmp → Value} {W : World} : ∀ {es : List Edge} (_ : Deps n S C F i y W es) (k : Nat) (e : Edge), es[k]? = some e →
    (Region.binds .any e && (C.getD e.on n == i || decide (n ≤ C.getD e.on n))) = true → phi F e.on (y (S.getD e.on 0)) W
  | [], _, k, e, h, _ => by simp at h
  | x :: es, hd, 0, e, h, hb => by
    simp only [List.getElem?_cons_zero, Option.some.injEq] at h
    subst h
    have := hd.1
    rw [hb] at this
    exact this
  | x :: es, hd, k + 1, e, h, hb => deps_at hd.2 k e (by simpa using h) hb
/-- Does the operation i come behind k? -/
def afterB (ops : Array Oper) (i k : Nat) : Bool := match ops[i]? with
  | some o => o.after.toList.any fun e => Region.binds .any e && e.on == k
  | none => false
/-- Whose facts have to stay when the operation i is done. -/
def liveB (ops : Array Oper) (C : List Nat) (i j : Nat) : Bool := !(j == i) && !(C.getD j ops.size == i) && !(afterB ops i (C.getD j ops.size)) && !(afterB ops j i)
theorem afterB_of {i k : Nat} {o : Oper} (ho : ops[i]? = some o) (h : afterB ops i k = true) : ∃ e ∈ o.after, Region.binds .any e = true ∧ e.on = k := by
  unfold afterB at h
  rw [ho] at h
  simp only [List.any_eq_true, Bool.and_eq_true, beq_iff_eq] at h
  obtain ⟨e, he, hb, hk⟩ := h
  exact ⟨e, Array.mem_toList_iff.1 he, hb, hk⟩

/-- What an operation leaves. -/
def Leaves (ops : Array Oper) (S : List Tmp) (C : List Nat) (F : List (Value → World → Prop)) (B : World → Prop) (a0 : Act) (i : Nat) (o : Oper) (y : Tmp → Value) (W : World) (e : Exit) (a : Act) (W' : World) : Prop :=
  e = .normal ∧ ∃ v, a = (putsA y S a0).put o.dst v ∧ B W' ∧ phi F i (if o.dst = none then y (S.getD i 0) else v) W' ∧ ∀ j, j < ops.size → liveB ops C i j = true → ∀ u, phi F j u W → phi F j u W'
def StepF (P : Program) (ops : Array Oper) (S : List Tmp) (C : List Nat) (F : List (Value → World → Prop)) (B : World → Prop) (a0 : Act) (i : Nat) (o : Oper) : Prop :=
  ∀ (y : Tmp → Value) (W : World), B W → Deps ops.size S C F i y W o.after.toList → wpList P ops (Leaves ops S C F B a0 i o y W) [o] (putsA y S a0) W
def StepsF (P : Program) (ops : Array Oper) (S : List Tmp) (C : List Nat) (F : List (Value → World → Prop)) (B : World → Prop) (a0 : Act) : Nat → List Oper → Prop
  | _, [] => True
  | i, o :: l => StepF P ops S C F B a0 i o ∧ StepsF P ops S C F B a0 (i + 1) l
theorem stepsF_cons {S : List Tmp} {C : List Nat} {F : List (Value → World → Prop)} {B : World → Prop} {a0 : Act} {i : Nat} {o : Oper} {l : List Oper} (h : StepF P ops S C F B a0 i o) (h2 : StepsF P ops S C F B a0 (i + 1) l) : StepsF P ops S C F B a0 i (o :: l) := ⟨h, h2⟩
theorem stepsF_nil {S : List Tmp} {C : List Nat} {F : List (Value → World → Prop)} {B : World → Prop} {a0 : Act} {i : Nat} : StepsF P ops S C F B a0 i [] := trivial
theorem stepsF_get {S : List Tmp} {C : List Nat} {F : List (Value → World → Prop)} {B : World → Prop} {a0 : Act} : ∀ (l : List Oper) (k : Nat), StepsF P ops S C F B a0 k l → ∀ i o, l[i]? = some o → StepF P ops S C F B a0 (k + i) o
  | [], _, _, i, o, h => by simp at h
  | p :: l, k, hs, i, o, h => by
    cases i with
    | zero =>
      simp only [List.getElem?_cons_zero, Option.some.injEq] at h
      subst h
      exact hs.1
    | succ i =>
      have := stepsF_get l (k + 1) hs.2 i o (by simpa using h)
      rwa [show k + 1 + i = k + (i + 1) from by omega] at this

theorem wp_region_facts {id : Nat} {a0 : Act} {w : World} (hm : P.follows .mixedOrders = true) (S : List Tmp) (C : List Nat) (F : List (Value → World → Prop)) (B : World → Prop)
    (hlen : S.length = ops.size) (hs : ∀ d ∈ S, d < a0.tmps.size)
    (hdst : (ops.toList.zipIdx.all fun p => match p.1.dst with | some d => S.getD p.2 0 == d | none => true) = true)
    (hS : (ops.toList.zipIdx.all fun p => ops.toList.zipIdx.all fun q => p.2 == q.2 || q.1.dst != some (S.getD p.2 0) || p.1.after.toList.any fun e => Region.binds .any e && e.on == q.2) = true)
    (hlt : (ops.toList.zipIdx.all fun p => p.1.after.all fun e => !Region.binds .any e || decide (e.on < p.2)) = true)
    (hB : B { w with drawn := w.drawn + 1 }) (hstep : StepsF P ops S C F B a0 0 ops.toList)
    (hend : ∀ (y : Tmp → Value) (W : World), B W → (∀ j, j < ops.size → ops.size ≤ C.getD j ops.size → phi F j (y (S.getD j 0)) W) → Q .normal (putsA y S a0) W) :
    (Code.region id ops true).wp P Q a0 w := by
  have hget : ∀ (i : Nat) (o : Oper), ops[i]? = some o → (o, i) ∈ ops.toList.zipIdx := fun i o ho => by
    rw [List.mk_mem_zipIdx_iff_getElem?]
    simpa using ho
  have hmem : ∀ i, i < ops.size → S.getD i 0 ∈ S := fun i hi => by
    have h : i < S.length := by omega
    rw [List.getD_eq_getElem?_getD, List.getElem?_eq_getElem h]
    exact List.getElem_mem h
  refine wp_region_inv hm (fun listed a W => listed.size = ops.size ∧ (∀ (j : Nat) o, ops[j]? = some o → listed.getD j false = true → ∀ e ∈ o.after, Region.binds .any e = true → listed.getD e.on false = true) ∧
    ∃ y : Tmp → Value, a = putsA y S a0 ∧ B W ∧ ∀ j, j < ops.size → listed.getD j false = true → listed.getD (C.getD j ops.size) false = false → phi F j (y (S.getD j 0)) W) ?_ ?_ ?_
  · have hf : ∀ j, (Array.replicate ops.size false).getD j false = true → False := fun j h => by
      simp only [Array.getD_eq_getD_getElem?, Array.getElem?_replicate] at h
      split at h <;> simp at h
    exact ⟨by simp, fun j o _ h => (hf j h).elim, _, (putsA_self hs).symm, hB, fun j _ h => (hf j h).elim⟩
  · rintro listed i a W hsz hi ⟨-, hcl, y, rfl, hBW, hy⟩
    obtain ⟨h0, o, ho, haf⟩ := mem_ready.1 hi
    have hil : i < ops.size := (Array.getElem?_eq_some_iff.1 ho).1
    have h0' : listed.getD i false = false := by
      simpa [Array.getD, hsz, hil] using h0
    have hout : ∀ k, ops.size ≤ k → listed.getD k false = false := fun k hk => by simp [Array.getD, hsz, Nat.not_lt.2 hk]
    have hst := stepsF_get _ 0 hstep i o (by simpa using ho)
    rw [Nat.zero_add] at hst
    have hafl : ∀ e ∈ o.after, Region.binds .any e = true → e.on < ops.size ∧ listed.getD e.on false = true := fun e he hb => by
      have h1 := List.all_eq_true.1 hlt (o, i) (hget i o ho)
      have h2 : e.on < i := by simpa [hb] using (Array.all_eq_true'.1 h1) e he
      have h3 := haf e he hb
      exact ⟨by omega, h3⟩
    have hgo := hst y W hBW (deps_of _ fun e he hb hc => by
      obtain ⟨g1, g2⟩ := hafl e (Array.mem_toList_iff.1 he) hb
      refine hy e.on g1 g2 ?_
      rcases hc with hc | hc
      · rw [hc]; exact h0'
      · exact hout _ hc)
    refine wpOp_strict (N := fun a' W' => ∃ v, a' = (putsA y S a0).put o.dst v ∧ B W' ∧ phi F i (if o.dst = none then y (S.getD i 0) else v) W' ∧ ∀ j, j < ops.size → liveB ops C i j = true → ∀ u, phi F j u W → phi F j u W') ho ?_ hgo
    rintro a' W' ⟨v, rfl, hB', hφ, hst'⟩
    have hset : ∀ k, k ≠ i → (listed.setIfInBounds i true).getD k false = listed.getD k false := fun k hk => getD_set_ne false (Ne.symm hk)
    have hseti : (listed.setIfInBounds i true).getD i false = true := by simp [Array.getD, hsz, hil]
    refine ⟨by rw [Array.size_setIfInBounds]; exact hsz, ?_, (match o.dst with | some d => fun k => if k = d then v else y k | none => y), ?_, hB', ?_⟩
    · intro j oj hj hl e he hb
      by_cases hji : j = i
      · subst hji
        rw [ho] at hj
        injection hj with hj
        subst hj
        have g := (hafl e he hb).2
        by_cases hei : e.on = j
        · rw [hei]; exact hseti
        · rw [hset _ hei]; exact g
      · rw [hset j hji] at hl
        have g := hcl j oj hj hl e he hb
        by_cases hei : e.on = i
        · rw [hei]; exact hseti
        · rw [hset _ hei]; exact g
    · cases hd : o.dst with
      | none => rfl
      | some d =>
        have hSd : S.getD i 0 = d := by
          have := List.all_eq_true.1 hdst (o, i) (hget i o ho)
          rw [hd] at this
          simpa using this
        exact putsA_put (by rw [← hSd]; exact hmem i hil) hs
    · intro j hj hl hc
      by_cases hji : j = i
      · subst hji
        cases hd : o.dst with
        | none =>
          rw [if_pos hd] at hφ
          exact hφ
        | some d =>
          rw [if_neg (by rw [hd]; simp)] at hφ
          have hSd : S.getD j 0 = d := by
            have := List.all_eq_true.1 hdst (o, j) (hget j o ho)
            rw [hd] at this
            simpa using this
          simp only
          rw [if_pos hSd]
          exact hφ
      · rw [hset j hji] at hl
        have hci : C.getD j ops.size ≠ i := fun q => by rw [q, hseti] at hc; cases hc
        rw [hset _ hci] at hc
        have hlive : liveB ops C i j = true := by
          unfold liveB
          have g1 : afterB ops i (C.getD j ops.size) = false := by
            rw [Bool.eq_false_iff]
            intro q
            obtain ⟨e, he, hb, q⟩ := afterB_of ho q
            have := (hafl e he hb).2
            rw [q, hc] at this
            cases this
          have g2 : afterB ops j i = false := by
            rw [Bool.eq_false_iff]
            intro q
            obtain ⟨e, he, hb, q⟩ := afterB_of (Array.getElem?_eq_getElem hj) q
            have := hcl j _ (Array.getElem?_eq_getElem hj) hl e he hb
            rw [q, h0'] at this
            cases this
          rw [g1, g2]
          simp only [Bool.and_eq_true, Bool.not_eq_true', beq_eq_false_iff_ne]
          exact ⟨⟨⟨hji, hci⟩, trivial⟩, trivial⟩
        have hyj := hst' j hj hlive _ (hy j hj hl hc)
        have hne : ∀ d, o.dst = some d → S.getD j 0 ≠ d := fun d hd q => by
          have hoj : ops[j]? = some ops[j] := Array.getElem?_eq_getElem hj
          have h1 := List.all_eq_true.1 hS (ops[j], j) (hget j _ hoj)
          have h2 := List.all_eq_true.1 h1 (o, i) (hget i o ho)
          simp only [Bool.or_eq_true, beq_iff_eq, bne_iff_ne, hd, q, ne_eq, not_true_eq_false, or_false, hji, false_or, List.any_eq_true, Bool.and_eq_true] at h2
          obtain ⟨e, he, hb, hei⟩ := h2
          have := hcl j _ hoj hl e (Array.mem_toList_iff.1 he) hb
          rw [hei, h0'] at this
          cases this
        cases hd : o.dst with
        | none => exact hyj
        | some d =>
          simp only
          rw [if_neg (hne d hd)]
          exact hyj
  · rintro listed a W hr ⟨hsz, hcl, y, rfl, hBW, hy⟩
    have hall : ∀ i, i < ops.size → listed.getD i false = true := by
      intro i
      induction i using Nat.strongRecOn with
      | _ i ih =>
        intro hi
        have h0 : listed.getD i false = listed.getD i true := by simp [Array.getD, hsz, hi]
        cases hq : listed.getD i true with
        | true => rw [h0, hq]
        | false =>
          exfalso
          have hmr : i ∈ Region.ready .any ops listed := by
            refine mem_ready.2 ⟨hq, ops[i], Array.getElem?_eq_getElem hi, fun e he hb => ?_⟩
            have h2 := List.all_eq_true.1 hlt (ops[i], i) (hget i _ (Array.getElem?_eq_getElem hi))
            have h3 : e.on < i := by simpa [hb] using (Array.all_eq_true'.1 h2) e he
            exact ih e.on h3 (by omega)
          rw [hr] at hmr
          cases hmr
    have hout : ∀ k, ops.size ≤ k → listed.getD k false = false := fun k hk => by simp [Array.getD, hsz, Nat.not_lt.2 hk]
    exact hend y W hBW fun j hj hc => hy j hj (hall j hj) (hout _ hc)

theorem puts_norm {D : List Tmp} {y : Tmp → Value} {a0 : Act} {j : Tmp} {v : Value} (hj : j ∈ D) (hs : ∀ d ∈ D, d < a0.tmps.size) (h : y j = v) : (putsA y D a0).tmps[j]?.getD undef = v := by
  have := puts_eval hj hs h
  rw [← Array.getD_eq_getD_getElem?]
  exact this
theorem puts_norm0 {D : List Tmp} {y : Tmp → Value} {a0 : Act} {j : Tmp} {v : Value} (hj : j ∉ D) (h : a0.tmps.getD j undef = v) : (putsA y D a0).tmps[j]?.getD undef = v := by
  have : (putsA y D a0).eval (.tmp j) = v := puts_eval0 hj h
  rw [← Array.getD_eq_getD_getElem?]
  exact this
theorem wanted_yes {D : List Tmp} {y : Tmp → Value} {a0 : Act} {o : Oper} {k : Nat} {b : Bool} (hg : o.guard = some (k, b)) {p : Oper} {j : Tmp} (hk : ops[k]? = some p) (hp : p.dst = some j) (hj : j ∈ D) (hs : ∀ d ∈ D, d < a0.tmps.size) (h : y j = .bool b) :
    Region.wanted o (yielded ops (putsA y D a0).tmps) = true := by
  have hy := puts_yields (ops := ops) hk hp hj hs h
  unfold Region.wanted
  rw [hg]
  simp only [hy]
  simp
theorem wanted_no {D : List Tmp} {y : Tmp → Value} {a0 : Act} {o : Oper} {k : Nat} {b c : Bool} (hg : o.guard = some (k, b)) {p : Oper} {j : Tmp} (hk : ops[k]? = some p) (hp : p.dst = some j) (hj : j ∈ D) (hs : ∀ d ∈ D, d < a0.tmps.size) (h : y j = .bool c) (hc : c ≠ b) :
    Region.wanted o (yielded ops (putsA y D a0).tmps) = false := by
  have hy := puts_yields (ops := ops) hk hp hj hs h
  unfold Region.wanted
  rw [hg]
  simp only [hy]
  simpa using hc
theorem oper_store_ {o : Oper} {a : Act} {w : World} {K : Act → World → Prop} (ty : TypeId) (x y : Operand) (ho : o.op = .store ty x y)
    (g : Nat) (v : Value) (hx : a.eval x = .pointer (some ⟨g, 0, none⟩)) (hy : a.eval y = v) {t : TypeId} {old : List Value} (hg : At w g t old) (hi : (P.info? ty).map (·.size) = some v.cells.size)
    (hsz : v.cells.size = old.length) (h1 : v.cells.toList.all (·.oneCell') = true)
    (h : ∀ w', At w' g t v.cells.toList → Kp (fun k => k ≠ g) w w' → K (a.put o.dst undef) w') : o.wp P a w K Q := by
  unfold Oper.wp execOp
  simp only [ho, hx, hy, Instr.storeAt, Instr.sureAddr, Sem.run_bind, Sem.run_pure, Result.andThen_ok, run_storeVar_blk w g 0 ty t v old hg hi (by omega) h1]
  refine h _ ?_ ((Kp.refl _ w).setRow (fun _ q => q rfl) _)
  have e : List.take 0 old ++ v.cells.toList ++ List.drop (0 + v.cells.size) old = v.cells.toList := by
    rw [List.drop_of_length_le (by omega), List.take_zero, List.nil_append, List.append_nil]
  rw [e]
  exact setRow_heap w g _ _ t (0, 0) hg

/-! ### One operation -/
section
variable {S : List Tmp} {C : List Nat} {F : List (Value → World → Prop)} {B : World → Prop} {a0 : Act} {i : Nat} {o : Oper} {y : Tmp → Value} {W : World}
theorem sf_world (hw : Region.wanted o (yielded ops (putsA y S a0).tmps) = true) {v : Value} {W' : World} (h : (execOp (putsA y S a0).eval o).run P W = .ok (.value v) W') (hB : B W') (hφ : phi F i (if o.dst = none then y (S.getD i 0) else v) W')
    (hl : ∀ j, j < ops.size → liveB ops C i j = true → ∀ u, phi F j u W → phi F j u W') : wpList P ops (Leaves ops S C F B a0 i o y W) [o] (putsA y S a0) W := by
  unfold wpList
  rw [if_pos hw]
  refine .inl ?_
  unfold Oper.wp
  rw [h]
  simp only [Oper.upon, wpList]
  exact ⟨rfl, v, rfl, hB, hφ, hl⟩
/-- It leaves a value and no other world. -/
theorem sf_value (hB : B W) {d : Tmp} (hd : o.dst = some d) (hw : Region.wanted o (yielded ops (putsA y S a0).tmps) = true) {v : Value} (h : (execOp (putsA y S a0).eval o).run P W = .ok (.value v) W) (hφ : phi F i v W) :
    wpList P ops (Leaves ops S C F B a0 i o y W) [o] (putsA y S a0) W :=
  sf_world hw h hB (by rw [if_neg (by rw [hd]; simp)]; exact hφ) fun _ _ _ _ q => q
/-- It is not wanted. -/
theorem sf_skip (hB : B W) {d : Tmp} (hd : o.dst = some d) (hw : Region.wanted o (yielded ops (putsA y S a0).tmps) = false) (hφ : phi F i undef W) : wpList P ops (Leaves ops S C F B a0 i o y W) [o] (putsA y S a0) W := by
  unfold wpList
  rw [if_neg (by rw [hw]; simp)]
  exact ⟨rfl, undef, rfl, hB, by rw [if_neg (by rw [hd]; simp)]; exact hφ, fun _ _ _ _ q => q⟩
/-- It makes new memory. -/
theorem sf_new (hF : Softs F) {d : Tmp} (hd : o.dst = some d) (hw : Region.wanted o (yielded ops (putsA y S a0).tmps) = true) {v : Value} {W' : World} (h : (execOp (putsA y S a0).eval o).run P W = .ok (.value v) W') (hb : Below W.heap.size W W') (hB : B W') (hφ : phi F i v W') :
    wpList P ops (Leaves ops S C F B a0 i o y W) [o] (putsA y S a0) W :=
  sf_world hw h hB (by rw [if_neg (by rw [hd]; simp)]; exact hφ) fun j _ _ u q => hF.get j u W W' hb q
/-- It enters a function that makes new memory alone. -/
theorem sf_enter (hF : Softs F) {d : Tmp} (hd : o.dst = some d) (hw : Region.wanted o (yielded ops (putsA y S a0).tmps) = true) {f : FuncId} {args : Array Value} (h : (execOp (putsA y S a0).eval o).run P W = .ok (.enter f args) W)
    (hc : Calls P f args W fun e w' => ∃ v, e = .returned v ∧ Below W.heap.size W w' ∧ B w' ∧ phi F i v w') : wpList P ops (Leaves ops S C F B a0 i o y W) [o] (putsA y S a0) W := by
  unfold wpList
  rw [if_pos hw]
  refine .inl ?_
  unfold Oper.wp
  rw [h]
  refine Calls.mono hc ?_
  rintro e w' ⟨v, rfl, hb, hB, hφ⟩
  simp only [wpList]
  exact ⟨rfl, v, rfl, hB, by rw [if_neg (by rw [hd]; simp)]; exact hφ, fun j _ _ u q => hF.get j u W w' hb q⟩

theorem sf_append {d : Tmp} (hd : o.dst = some d) (hg : o.guard = none) (s x : Operand) {t e : TypeId} {size bytes : Nat} (hop : o.op = .call { callee := .builtin .append, args := #[s, x], argTypes := #[t, t] }) (El : Elem P t e size bytes)
    {base m : Nat} {v : Value} {xs : List Value} (hs : (putsA y S a0).eval s = v) (hown : W.ownsRow base e size v m xs) {A : Option Addr} {k c : Nat} {news : List Value} (hx : (putsA y S a0).eval x = .slice A k c) (hr : Rd W size A k news)
    (h1 : ∀ u ∈ news, u.oneCell' = true) (h63 : m + k ≤ maxLen) (hb : (m + k) * bytes ≤ 140737488355328) (hbase : base ≤ W.heap.size)
    (hK : ∀ A' c' w', w'.ownsRow base e size (.slice A' (m + k) c') (m + k) (xs ++ news) → W.grownBy w' v.ownBlock → ((Value.slice A' (m + k) c').ownBlock = v.ownBlock ∨ (Value.slice A' (m + k) c').ownBlock = some W.heap.size) →
      B w' ∧ phi F i (.slice A' (m + k) c') w' ∧ ∀ j, j < ops.size → liveB ops C i j = true → ∀ u, phi F j u W → phi F j u w') : wpList P ops (Leaves ops S C F B a0 i o y W) [o] (putsA y S a0) W := by
  have hw : Region.wanted o (yielded ops (putsA y S a0).tmps) = true := by simp [Region.wanted, hg]
  obtain ⟨v', w', hrun, r1, r2, r3⟩ := run_append_rd El W o.type (c := c) hown hr h1 h63 hb hbase
  obtain ⟨A', c', rfl⟩ := own_slice r1
  obtain ⟨k1, k2, k3⟩ := hK A' c' w' r1 r2 r3
  refine sf_world (v := .slice A' (m + k) c') (W' := w') hw ?_ k1 (by rw [if_neg (by rw [hd]; simp)]; exact k2) k3
  unfold execOp
  simp [hop, resolve, invoke, builtin, hs, hx, hrun, Result.andThen]
/-- A variable is written whole. -/
theorem sf_store (hd : o.dst = none) (hg : o.guard = none) (ty : TypeId) (x z : Operand) (hop : o.op = .store ty x z) (g : Nat) {v : Value} (hx : (putsA y S a0).eval x = .pointer (some ⟨g, 0, none⟩)) (hv : (putsA y S a0).eval z = v) {t : TypeId} {old : List Value} (hat : At W g t old)
    (hi : (P.info? ty).map (·.size) = some v.cells.size) (hsz : v.cells.size = old.length) (h1 : v.cells.toList.all (·.oneCell') = true)
    (hK : ∀ w', At w' g t v.cells.toList → Kp (fun k => k ≠ g) W w' → B w' ∧ phi F i (y (S.getD i 0)) w' ∧ ∀ j, j < ops.size → liveB ops C i j = true → ∀ u, phi F j u W → phi F j u w') : wpList P ops (Leaves ops S C F B a0 i o y W) [o] (putsA y S a0) W := by
  have hw : Region.wanted o (yielded ops (putsA y S a0).tmps) = true := by simp [Region.wanted, hg]
  unfold wpList
  rw [if_pos hw]
  refine .inl ?_
  refine oper_store_ ty x z hop g v hx hv hat hi hsz h1 fun w' ha hk => ?_
  obtain ⟨k1, k2, k3⟩ := hK w' ha hk
  unfold wpList
  exact ⟨rfl, undef, rfl, k1, by rw [if_pos hd]; exact k2, k3⟩
end
end
end Go.Proofs.YtoacobcbloljkaaGreatDoor
