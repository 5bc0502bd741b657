/-
  Operations, sixth part: slice literals, make, append, calls.
-/
import Derived.Test.YtomdjkcoodaheaaGreatDoorVb
import Derived.Laws.AppendOwnNone
set_option linter.unusedSectionVars false
set_option linter.unusedSimpArgs false
set_option linter.unusedVariables false
set_option linter.unusedSimpArgs false
set_option linter.unusedSectionVars false
namespace Go.Vc
variable [Dr]

/-- A new own object, named by the temporary that holds it. -/
theorem conc_newAny {gl : Nat → D} {w0 : World} {X0 : Fr} {s : St} {val : Nat → Value} {a : Act} {w w' : World} (hC : Conc gl w0 X0 s val a w) {d : Nat} {o : Ob} {u : Value} {e : E}
    (hd : d < s.nt) (hb : Below w.heap.size w w') (hu : ∀ b, blk u = some b → w.heap.size ≤ b)
    (hob : ∀ (X : Nat → Prop) (val' : Nat → Value), val' d = u → (∀ v d', Rel (XOf X0 s.ob val) w v d' → Rel X w' v d') → (∀ v e, RelE (XOf X0 s.ob val) val w v e → RelE X val' w' v (forgetE d e)) → (∀ b, X b → XOf X0 s.ob val b ∨ blk u = some b) → ObOk X val' w' w0.heap.size d o)
    (he : ∀ (X : Nat → Prop) (val' : Nat → Value), val' d = u → RelE X val' w' u e) :
    ∃ val', Conc gl w0 X0 (((s.forget d).own d o).put d e) val' (a.put (some d) u) w' := by
  let val' : Nat → Value := fun r => if r = d then u else val r
  have hv : ∀ r', r' ≠ d → val' r' = val r' := fun r' h => if_neg h
  have hvd : val' d = u := if_pos rfl
  have h1 := hC.forget d val' hv
  have hob' : (s.forget d).ob d = none := by simp [St.forget]
  have hx0 : ∀ b, XOf X0 ((s.forget d).own d o).ob val' b → XOf X0 s.ob val b ∨ blk u = some b := by
    rintro b (hb' | ⟨r', q, hq, hb'⟩)
    · exact .inl (.inl hb')
    · simp only [St.own, upd_eq] at hq
      split at hq
      · rename_i e; subst e; rw [hvd] at hb'; exact .inr hb'
      · rename_i hne
        obtain ⟨_, o', ho', _⟩ := forget_some hq
        exact .inl (.inr ⟨r', o', ho', by rw [← hv r' hne]; exact hb'⟩)
  have hx : ∀ b, XOf X0 ((s.forget d).own d o).ob val' b → XOf X0 s.ob val b ∨ w.heap.size ≤ b := fun b hb' => (hx0 b hb').imp id (hu b)
  have hm : ∀ v d', Rel (XOf X0 s.ob val) w v d' → Rel (XOf X0 ((s.forget d).own d o).ob val') w' v d' := fun v d' hr => (hr.more hx).ext hb
  have h2 := h1.newObj (r := d) hob' (o := o) hb (by rw [hvd]; exact hu) (hob _ val' hvd hm (fun v e he => he.forget hv hm) hx0)
  exact ⟨val', h2.put hd (he _ val' hvd)⟩

/-! ### slice literals -/
def allLt (len : Nat) : List (Nat × Operand) → Bool
  | [] => true
  | p :: r => Nat.blt p.1 len && allLt len r
theorem allLt_ok {len : Nat} : ∀ {ps : List (Nat × Operand)}, allLt len ps = true → ∀ p ∈ ps, p.1 < len
  | [], _, p, hp => by cases hp
  | q :: r, h, p, hp => by
    simp only [allLt, Bool.and_eq_true] at h
    rcases List.mem_cons.1 hp with e | hp
    · subst e; simpa [Nat.blt_eq] using h.1
    · exact allLt_ok h.2 p hp
def vNewRow (s : St) (dst : Option Tmp) (e k n : Nat) (f : Nat → Nat → D) (K : St → Prop) : Prop :=
  match dst with
  | some d => bif Nat.blt d s.nt then K (((s.forget d).own d (.row e k n f)).put d (.orow d)) else False
  | none => False
def vBuildSlice (C : Ctx) (s : St) (t len : Nat) (ps : List (Nat × Operand)) (k3 : Nat → Nat → Nat → (Nat → Nat → D) → Prop) : Prop :=
  match elemSize C t with
  | some (e, k) => match lookT C.ty e with
    | some j => bif Nat.beq j.zero.cells.size k && (Nat.ble (len * k) 16777216 && (allLt len ps && Nat.blt 0 k)) then
        match fillF C s (fun i => some (i * k, k)) ps (fun q => .lit (j.zero.cells.getD (q % k) undef)) with
        | some f => k3 e k len (fun p q => f (p * k + q))
        | none => False
      else False
    | none => False
  | none => False

theorem rel_row_new {X : Nat → Prop} {w w' : World} {cells : Array Value} {e k n : Nat} {f : Nat → Nat → D} (hw : w'.heap[w.heap.size]? = some (.cells cells e (0, 0))) (hX : ¬ X w.heap.size) (hn : cells.size = n * k) (hm : n ≤ maxLen)
    (hr : ∀ i j, i < n → j < k → Rel X w' (cells.getD (i * k + j) undef) (f i j)) : Rel X w' (.slice (some ⟨w.heap.size, 0, none⟩) n n) (.slice k n f) := by
  refine .slice _ n k n f (fun i j => cells.getD (i * k + j) undef) (Nat.le_refl _) hm (fun h => by cases h) (fun i j hi hj => ⟨w.heap.size, 0, rfl, hX, ?_⟩) hr
  have hlt : i * k + j < n * k := by
    have : (i + 1) * k ≤ n * k := Nat.mul_le_mul_right k hi
    rw [Nat.add_mul] at this; omega
  rw [Nat.zero_add]; exact heap_cell hw (by omega)

/-- The operation lays a new row of n elements of k cells. -/
def LaysRow (C : Ctx) (o : Oper) (s : St) (e k n : Nat) (f : Nat → Nat → D) : Prop :=
  n ≤ maxLen ∧ ∀ w0 X0 val a w, Conc C.gl w0 X0 s val a w → ∃ cells, (execOp a.eval o).run C.P w = .ok (.value (.slice (some ⟨w.heap.size, 0, none⟩) n n)) (w.alloc (.cells cells e)) ∧ cells.size = n * k ∧
      ∀ i j, i < n → j < k → Rel (XOf X0 s.ob val) w (cells.getD (i * k + j) undef) (f i j)
theorem LaysRow.quiet {C : Ctx} {o : Oper} {s : St} {e k n : Nat} {f : Nat → Nat → D} (h : LaysRow C o s e k n f) : StepQ C o s (.im (.slice k n f)) := by
  obtain ⟨hm, hr⟩ := h
  refine StepQ.lays _ fun w0 X0 val a w hC => ?_
  obtain ⟨cells, hrun, hn, hrel⟩ := hr w0 X0 val a w hC
  refine ⟨_, _, hrun, below_alloc w _, rel_row_new (heap_alloc_new w _) ?_ hn hm fun i j hi hj => (hrel i j hi hj).ext (below_alloc w _)⟩
  rintro (h0 | ⟨r, ob, h1, h2⟩)
  · have := hC.x0 _ h0; omega
  · have := (hC.ob r ob h1).lt h2; omega
theorem LaysRow.ok {C : Ctx} {o : Oper} {s : St} {K : St → Prop} {e k n : Nat} {f : Nat → Nat → D} (hL : LaysRow C o s e k n f) (h : vNewRow s o.dst e k n f K) : StepOk C o s K := by
  obtain ⟨hm, hr⟩ := hL
  unfold vNewRow at h
  split at h
  · rename_i d hd
    cases hlt : Nat.blt d s.nt with
    | false => rw [hlt] at h; exact h.elim
    | true =>
      rw [hlt] at h
      intro w0 X0 val a w hC Q next hn'
      obtain ⟨cells, hrun, hn, hrel⟩ := hr w0 X0 val a w hC
      obtain ⟨val', hC'⟩ := conc_newAny (w' := w.alloc (.cells cells e)) (o := .row e k n f) (e := .orow d) hC (by simpa [Nat.blt_eq] using hlt) (below_alloc w _) (u := .slice (some ⟨w.heap.size, 0, none⟩) n n)
        (fun b hb => by simp only [blk, Option.some.injEq] at hb; omega)
        (fun X val' hv hm' _ _ => ⟨cells.toList, by
          rw [hv]
          exact ⟨by simpa using hn, .inr ⟨w.heap.size, n, cells, rfl, hC.below.size, heap_alloc_new w _, Nat.le_refl _, hm, hn, by rw [List.take_of_length_le (by simp [hn])]⟩⟩, fun i j hi hj => by
            have := hm' _ _ (hrel i j hi hj)
            rwa [show cells.getD (i * k + j) undef = cells.toList.getD (i * k + j) undef by simp [Array.getD_eq_getD_getElem?, List.getD_eq_getElem?_getD]] at this⟩)
        (fun X val' hv => ⟨hv.symm, _, _, _, rfl⟩)
      exact wp_value hrun (by rw [hd]; exact hn' _ _ _ _ h hC')
  · exact h.elim

theorem step_buildSlice {C : Ctx} (hO : CtxOk C) {o : Oper} {s : St} {k3 : Nat → Nat → Nat → (Nat → Nat → D) → Prop} {t len : Nat} {ps : Array (Nat × Operand)} (ho : o.op = .buildSlice t len ps) (h : vBuildSlice C s t len ps.toList k3) :
    ∃ e k n f, k3 e k n f ∧ LaysRow C o s e k n f := by
  unfold vBuildSlice at h
  split at h
  · rename_i e k hes
    obtain ⟨hu, hs⟩ := elemSize_ok hO hes
    split at h
    · rename_i j hj
      have hT := hO.ty _ j hj
      cases hb : (Nat.beq j.zero.cells.size k && (Nat.ble (len * k) 16777216 && (allLt len ps.toList && Nat.blt 0 k))) with
      | false => rw [hb] at h; exact h.elim
      | true =>
        rw [hb] at h
        simp only [Bool.and_eq_true] at hb
        have hz := Nat.eq_of_beq_eq_true hb.1
        have hle := Nat.le_of_ble_eq_true hb.2.1
        have hall := allLt_ok hb.2.2.1
        have hkpos : 0 < k := by simpa [Nat.blt_eq] using hb.2.2.2
        simp only [cond_true] at h
        split at h
        · rename_i f hf
          have hk0 : ∀ q, q < len * k → 0 < k := fun _ _ => hkpos
          have hkk : len ≤ maxLen := by
            have : len * 1 ≤ len * k := Nat.mul_le_mul_left len hkpos
            unfold maxLen; omega
          refine ⟨_, _, _, _, h, hkk, fun w0 X0 val a w hC => ?_⟩
          let cells0 : Array Value := (Array.range (len * k)).map fun q => j.zero.cells.getD (q % k) undef
          obtain ⟨cells', q1, q2, q3⟩ := fill_ok hC (fun i => some (i * k, k)) (len * k) ps.toList _ f cells0 hf (by simp [cells0]) (fun p hp off sz e => by
            cases e
            have := hall p hp
            have : (p.1 + 1) * k ≤ len * k := Nat.mul_le_mul_right k this
            rw [Nat.add_mul] at this; omega) fun q hq => by
              have : cells0.getD q undef = j.zero.cells.getD (q % k) undef := by simp [cells0, Array.getD_eq_getD_getElem?, hq]
              rw [this]; exact .lit _
          refine ⟨cells', exec_v (m := Instr.buildSlice t len (ps.map fun (i, x) => (i, a.eval x))) (by simp only [execOp, ho]) ?_, q2, fun p q hp hq => q3 _ (by
            have : (p + 1) * k ≤ len * k := Nat.mul_le_mul_right k hp
            rw [Nat.add_mul] at this; omega)⟩
          have hpm : (ps.map fun (i, x) => (i, a.eval x)).toList = ps.toList.map fun (i, x) => (i, a.eval x) := by simp
          simp only [Instr.buildSlice, Sem.run_bind, run_underlying' hu, Result.andThen_ok, hs, Sem.run_ite, Sem.run_pure]
          rw [if_neg (by omega)]
          by_cases h0 : len * k = 0
          · simp only [h0, Sem.run_pure, if_true, Result.andThen_ok, hpm]
            have hc0 : cells0 = (Array.range 0).map fun q => (#[] : Array Value)[q % (#[] : Array Value).size]! := by simp [cells0, h0]
            rw [hc0] at q1
            simp only [q1]
            simp [newRow]
          · simp only [h0, if_false, Sem.run_bind, hT.run_zero, Result.andThen_ok, Sem.run_pure, hpm]
            have hk := hk0 0 (Nat.pos_of_ne_zero h0)
            have hc0 : cells0 = (Array.range (len * k)).map fun q => j.zero.cells[q % j.zero.cells.size]! := by
              simp only [cells0, hz]
              refine Array.ext (by simp) fun q h1 h2 => ?_
              have : q % k < j.zero.cells.size := by rw [hz]; exact Nat.mod_lt _ hk
              simp [Array.getD_eq_getD_getElem?, getElem!_def, this]
            rw [hc0] at q1
            simp only [q1]
            simp [newRow]
        · exact h.elim
    · exact h.elim
  · exact h.elim

/-! ### make([]T, n) -/
def vMake (C : Ctx) (t : Nat) (l c : E) (k3 : Nat → Nat → Nat → (Nat → Nat → D) → Prop) : Prop :=
  match elemSize C t with
  | some (e, k) => match lookT C.ty e with
    | some j => match l, c with
      | .im (.lit (.int .i64 n)), .im (.lit (.int .i64 m)) => bif Nat.beq j.zero.cells.size k && Nat.blt 0 k then
          (n = m ∧ 0 ≤ n ∧ n * j.bytes ≤ 140737488355328 ∧ n ≤ 140737488355328) ∧ k3 e k n.toNat (fun _ q => .lit (j.zero.cells.getD q undef))
        else False
      | _, _ => False
    | none => False
  | none => False
theorem step_makeSlice {C : Ctx} (hO : CtxOk C) {o : Oper} {s : St} {k3 : Nat → Nat → Nat → (Nat → Nat → D) → Prop} {t : Nat} {x y : Operand} (ho : o.op = .makeSlice t x y) (h : vMake C t (evalE C s x) (evalE C s y) k3) :
    ∃ e k n f, k3 e k n f ∧ LaysRow C o s e k n f := by
  unfold vMake at h
  split at h
  · rename_i e k hes
    obtain ⟨hu, hs⟩ := elemSize_ok hO hes
    split at h
    · rename_i j hj
      have hT := hO.ty _ j hj
      split at h
      · rename_i n m hx hy
        cases hb : (Nat.beq j.zero.cells.size k && Nat.blt 0 k) with
        | false => rw [hb] at h; exact h.elim
        | true =>
          rw [hb] at h
          simp only [Bool.and_eq_true] at hb
          have hz := Nat.eq_of_beq_eq_true hb.1
          have hk : 0 < k := by simpa [Nat.blt_eq] using hb.2
          obtain ⟨⟨h1, h2, h3, h4⟩, h5⟩ := h
          subst h1
          obtain ⟨n, rfl⟩ := Int.eq_ofNat_of_zero_le h2
          refine ⟨_, _, _, _, h5, by unfold maxLen; omega, fun w0 X0 val a w hC => ?_⟩
          refine ⟨(Array.range (n * k)).map fun q => j.zero.cells[q % j.zero.cells.size]!, ?_, by simp, fun p q hp hq => ?_⟩
          · refine exec_v (m := Instr.makeSlice t (a.eval x) (a.eval y)) (by simp only [execOp, ho]) ?_
            rw [(eval_im hC hx).lit_inv, (eval_im hC hy).lit_inv]
            obtain ⟨inf, i1, i2, i3, i4⟩ := hT.info
            have hw : IntKind.i64.wrap (n : Int) = n := wrap_inR (k := .i64) (by simp only [inR]; omega)
            have hbt : (n : Int) * (inf.bytes : Int) ≤ 140737488355328 := by rw [i3]; exact h3
            have hbt' : ¬ ((inf.bytes : Int) * (n : Int) > 2 ^ 48) := by rw [Int.mul_comm]; omega
            have htl : (decide ((n : Int) < 0) || decide ((inf.bytes : Int) * (n : Int) > 2 ^ 48)) = false := by
              simp only [Bool.or_eq_false_iff, decide_eq_false_iff_not]; exact ⟨by omega, hbt'⟩
            simp only [Instr.makeSlice, Sem.run_bind, run_underlying' hu, Result.andThen_ok, asInt, asIntOf, Sem.run_pure, run_typeInfo' i1, hw, Sem.run_ite, run_askRoom, hs]
            rw [if_neg (by simp only [htl]; simp)]
            simp only [Int.toNat_natCast]
            by_cases h0 : n * k = 0
            · simp [h0, newRow, Array.range_zero']
            · simp [h0, hT.run_zero, newRow]
          · have hlt : p * k + q < n * k := by
              have : (p + 1) * k ≤ n * k := Nat.mul_le_mul_right k hp
              rw [Nat.add_mul] at this; omega
            have hm : (p * k + q) % k = q := by rw [Nat.mul_comm, Nat.mul_add_mod, Nat.mod_eq_of_lt hq]
            have : ((Array.range (n * k)).map fun q => j.zero.cells[q % j.zero.cells.size]!).getD (p * k + q) undef = j.zero.cells.getD q undef := by
              have hq' : q < j.zero.cells.size := by rw [hz]; exact hq
              have e1 : j.zero.cells[q]? = some j.zero.cells[q] := Array.getElem?_eq_getElem hq'
              simp [Array.getD_eq_getD_getElem?, hlt, hz, hm, getElem!_def, e1]
            rw [this]; exact .lit _
      · exact h.elim
    · exact h.elim
  · exact h.elim

/-! ### append -/
/-- The own row r goes over into another (in its own block, or in a new one). -/
theorem conc_turn {gl : Nat → D} {w0 : World} {X0 : Fr} {s : St} {val : Nat → Value} {a : Act} {w w' : World} (hC : Conc gl w0 X0 s val a w) {r t k n n' d : Nat} {f f' : Nat → Nat → D} {v' : Value} {xs : List Value}
    (hob : s.ob r = some (.row t k n f)) (hd : d < s.nt) (hg : w.grownBy w' (blk (val r))) (hdr : DrLe w.drawn w'.drawn) (hv : ∀ b, blk v' = some b → blk (val r) = some b ∨ w.heap.size ≤ b)
    (how : w'.ownsRow w0.heap.size t k v' n' xs) (hrel : ∀ (X : Nat → Prop), (∀ v d', Rel (XOf X0 s.ob val) w v d' → Rel X w' v d') → (∀ b, X b → (X0 b ∨ ∃ r' o, r' ≠ r ∧ s.ob r' = some o ∧ blk (val r') = some b) ∨ blk v' = some b) → ∀ i j, i < n' → j < k → Rel X w' (xs.getD (i * k + j) undef) (f' i j)) :
    ∃ val', Conc gl w0 X0 (((s.forget r).own r (.row t k n' f')).put d (.orow r)) val' (a.put (some d) v') w' := by
  let val' : Nat → Value := fun q => if q = r then v' else val q
  have hvo : ∀ r', r' ≠ r → val' r' = val r' := fun r' h => if_neg h
  have hvd : val' r = v' := if_pos rfl
  have hsv : ∃ A n c, v' = .slice A n c := by
    rcases how.2 with ⟨e, _⟩ | ⟨g, cap, cur, e, _⟩ <;> exact ⟨_, _, _, e⟩
  have hrow := hC.ob r _ hob
  have hx0 : ∀ b, XOf X0 ((s.forget r).own r (.row t k n' f')).ob val' b → (X0 b ∨ ∃ r' o, r' ≠ r ∧ s.ob r' = some o ∧ blk (val r') = some b) ∨ blk v' = some b := by
    rintro b (hb' | ⟨r', q, hq, hb'⟩)
    · exact .inl (.inl hb')
    · simp only [St.own, upd_eq] at hq
      split at hq
      · rename_i e; subst e; rw [hvd] at hb'; exact .inr hb'
      · rename_i hne
        obtain ⟨_, o', ho', _⟩ := forget_some hq
        exact .inl (.inr ⟨r', o', hne, ho', by rw [← hvo r' hne]; exact hb'⟩)
  have hx : ∀ b, XOf X0 ((s.forget r).own r (.row t k n' f')).ob val' b → XOf X0 s.ob val b ∨ w.heap.size ≤ b := by
    intro b hb
    rcases hx0 b hb with (h | ⟨r', o, _, ho, h⟩) | h
    · exact .inl (.inl h)
    · exact .inl (.inr ⟨r', o, ho, h⟩)
    · rcases hv b h with h | h
      · exact .inl (.inr ⟨r, _, hob, h⟩)
      · exact .inr h
  have hkeep : ∀ b, ¬ XOf X0 s.ob val b → b < w.heap.size → w'.heap[b]? = w.heap[b]? := fun b hX hlt => hg.block b hlt fun e => hX (.inr ⟨r, _, hob, e.symm⟩)
  have hm : ∀ v d', Rel (XOf X0 s.ob val) w v d' → Rel (XOf X0 ((s.forget r).own r (.row t k n' f')).ob val') w' v d' := fun v d' hr => hr.move fun b o u hX hu => by
    have hlt := cell_lt hu
    exact ⟨fun h' => by rcases hx b h' with h | h; exact hX h; omega, (World.cell?_of_block (w := w) (a := ⟨b, o, none⟩) (hkeep b hX hlt)).trans hu⟩
  have hw : Below w0.heap.size w0 w' := hC.below.grown hg hdr hC.below.size fun q hq => (hrow.lt hq).1
  have hC' : Conc gl w0 X0 ((s.forget r).own r (.row t k n' f')) val' a w' := by
    refine { below := hw, p0 := fun b hX => Nat.lt_of_lt_of_le (hC.p0 b hX) hg.size, kp := ⟨fun b hk => (hg.block b (hC.p0 b (.inr hk)) fun e => hC.pd b (.inr hk) r _ hob e.symm).trans (hC.kp.1 b hk), Nat.le_trans hC.kp.2 hg.size⟩, pd := fun b hX q o ho hb => ?_, size := hC.size, defers := hC.defers, tm := fun q => (hC.tm q).forget hvo hm, ob := fun q o ho => ?_, disj := fun r1 r2 o1 o2 h1 h2 hne b hb1 hb2 => ?_, gl := fun g => hm _ _ (hC.gl g) }
    · simp only [St.own, upd_eq] at ho
      split at ho
      · rename_i e; subst e
        rw [hvd] at hb
        rcases hv b hb with e | e
        · exact hC.pd b hX _ _ hob e
        · have := hC.p0 _ hX; omega
      · rename_i hne
        obtain ⟨_, o', ho', _⟩ := forget_some ho
        rw [hvo q hne] at hb; exact hC.pd b hX q o' ho' hb
    · simp only [St.own, upd_eq] at ho
      split at ho
      · rename_i e; subst e; cases ho
        exact ⟨xs, by rw [hvd]; exact how, hrel _ hm hx0⟩
      · rename_i hne
        obtain ⟨_, o', ho', rfl⟩ := forget_some ho
        refine (hC.ob q o' ho').forget hvo (hvo q hne) hm fun b hb => hg.block b ((hC.ob q o' ho').lt hb).2 fun e => ?_
        exact hC.disj r q _ _ hob ho' (Ne.symm hne) b e.symm hb
    · have key : ∀ q o, ((s.forget r).own r (.row t k n' f')).ob q = some o → q ≠ r → (∃ o', s.ob q = some o') ∧ val' q = val q := fun q o ho hne => by
        simp only [St.own, upd_eq, if_neg hne] at ho
        obtain ⟨_, o', ho', _⟩ := forget_some ho
        exact ⟨⟨o', ho'⟩, hvo q hne⟩
      have side : ∀ q o b, ((s.forget r).own r (.row t k n' f')).ob q = some o → q ≠ r → blk (val' q) = some b → blk (val' r) = some b → False := fun q o b ho hne hb hbr => by
        obtain ⟨⟨o', ho'⟩, e⟩ := key q o ho hne
        rw [e] at hb
        rw [hvd] at hbr
        rcases hv b hbr with e2 | e2
        · exact hC.disj r q _ _ hob ho' (Ne.symm hne) b e2 hb
        · have := (hC.ob q o' ho').lt hb; omega
      by_cases e1 : r1 = r
      · subst e1; exact side r2 o2 b h2 (Ne.symm hne) hb2 hb1
      · by_cases e2 : r2 = r
        · subst e2; exact side r1 o1 b h1 hne hb1 hb2
        · obtain ⟨⟨q1, p1⟩, t1⟩ := key r1 o1 h1 e1
          obtain ⟨⟨q2, p2⟩, t2⟩ := key r2 o2 h2 e2
          rw [t1] at hb1; rw [t2] at hb2
          exact hC.disj r1 r2 q1 q2 p1 p2 hne b hb1 hb2
  exact ⟨val', hC'.put (e := .orow r) hd ⟨hvd.symm, hsv⟩⟩
/-- The own row r grows. -/
theorem conc_grow {gl : Nat → D} {w0 : World} {X0 : Fr} {s : St} {val : Nat → Value} {a : Act} {w w' : World} (hC : Conc gl w0 X0 s val a w) {r t k n n' d : Nat} {f f' : Nat → Nat → D} {v' : Value} {xs : List Value}
    (hob : s.ob r = some (.row t k n f)) (hd : d < s.nt) (hg : w.grownBy w' (val r).ownBlock) (hdr : w.drawn ≤ w'.drawn) (hv : v'.ownBlock = (val r).ownBlock ∨ v'.ownBlock = some w.heap.size)
    (how : w'.ownsRow w0.heap.size t k v' n' xs) (hrel : ∀ (X : Nat → Prop), (∀ v d', Rel (XOf X0 s.ob val) w v d' → Rel X w' v d') → ∀ i j, i < n' → j < k → Rel X w' (xs.getD (i * k + j) undef) (f' i j)) :
    ∃ val', Conc gl w0 X0 (((s.forget r).own r (.row t k n' f')).put d (.orow r)) val' (a.put (some d) v') w' := by
  have hbk : ∀ q : Value, (∃ A n c, q = .slice A n c) → blk q = q.ownBlock := by
    rintro q ⟨A, n, c, rfl⟩; cases A <;> rfl
  have hsv : ∃ A n c, v' = .slice A n c := by
    rcases how.2 with ⟨e, _⟩ | ⟨g, cap, cur, e, _⟩ <;> exact ⟨_, _, _, e⟩
  have hsr : ∃ A n c, val r = .slice A n c := by obtain ⟨A, c, e⟩ := row_len (hC.ob r _ hob); exact ⟨A, n, c, e⟩
  refine conc_turn hC hob hd (by rw [hbk _ hsr]; exact hg) (DrLe.of hdr) (fun b hb => ?_) how fun X hm _ => hrel X hm
  rw [hbk _ hsv] at hb
  rcases hv with e | e
  · rw [e] at hb; exact .inl (by rw [hbk _ hsr]; exact hb)
  · rw [e] at hb; cases hb; exact .inr (Nat.le_refl _)

end Go.Vc

/-
  Operations, seventh part: append, calls.
-/
set_option linter.unusedSimpArgs false
set_option linter.unusedSectionVars false
namespace Go.Vc
variable [Dr]

def appD (n : Nat) (f g : Nat → Nat → D) : Nat → Nat → D := fun p q => bif Nat.blt p n then f p q else g (p - n) q

/-- append(s, x...): s the own row r; x told. -/
def vApp2 (s : St) (d : Nat) (e k bytes r n : Nat) (f : Nat → Nat → D) (ex : E) (K : St → Prop) : Prop :=
  match ex with
  | .im (.slice k' m g) => bif Nat.beq k k' && (Nat.blt 0 k && (Nat.blt 0 bytes && Nat.blt d s.nt)) then
      ((n + m) * bytes ≤ 140737488355328 ∧ ∀ p q, p < m → q < k → oneE (.im (g p q)) = true) ∧
      K (((s.forget r).own r (.row e k (n + m) (appD n f g))).put d (.orow r))
    else False
  | _ => False
def vAppend (C : Ctx) (s : St) (dst : Option Tmp) (t : Nat) (es ex : E) (K : St → Prop) : Prop :=
  match dst with
  | none => False
  | some d => match elemSize C t with
    | none => False
    | some (e, k) => match lookT C.ty e with
      | none => False
      | some j => match es with
        | .orow r => match s.ob r with
          | some (.row e' k' n f) => bif Nat.beq e e' && (Nat.beq k k' && Nat.beq j.zero.cells.size k) then vApp2 s d e k j.bytes r n f ex K else False
          | _ => False
        | .im (.lit (.slice none 0 0)) => bif Nat.beq j.zero.cells.size k then vApp2 ((s.forget d).own d (.row e k 0 fun _ _ => .top)) d e k j.bytes d 0 (fun _ _ => .top) ex K else False
        | _ => False

theorem appD_lt {n : Nat} {f g : Nat → Nat → D} {p : Nat} (h : p < n) (q : Nat) : appD n f g p q = f p q := by
  unfold appD; rw [show Nat.blt p n = true by simpa [Nat.blt_eq] using h]; rfl
theorem appD_ge {n : Nat} {f g : Nat → Nat → D} {p : Nat} (h : n ≤ p) (q : Nat) : appD n f g p q = g (p - n) q := by
  unfold appD
  have : Nat.blt p n = false := by rw [Bool.eq_false_iff]; intro h'; have : p < n := by simpa [Nat.blt_eq] using h'; 
                                   omega
  rw [this]; rfl

theorem exec_append {ρ : Operand → Value} {o : Oper} {t t' : TypeId} {x y : Operand} (ho : o.op = .call { callee := .builtin .append, args := #[x, y], argTypes := #[t, t'] }) :
    execOp ρ o = Builtin.append_ #[t, t'] o.type #[ρ x, ρ y] >>= fun x => pure (Next.value x) := by
  simp [execOp, ho, resolve, invoke, builtin]

theorem append_drawn {P : Program} (w : World) (base : Nat) (t ty e : TypeId) (i : TypeInfo) (z : Value) (size bytes : Nat) (ht : P.underlying t = some (.slice e)) (hi : P.info? e = some i) (hz : i.zero = some z)
    (hsize : i.size = size) (hby : i.bytes = bytes) (hzs : z.cells.size = size) (hsz : 0 < size)
    (v : Value) (n : Nat) (xs : List Value) (hown : w.ownsRow base e size v n xs)
    (a : Addr) (m c : Nat) (news : List Value) (hl : news.length = m * size) (hnews : ∀ j u, news[j]? = some u → w.cell? (a.add j) = some u) (h1 : ∀ u ∈ news, u.oneCell' = true)
    (h63 : n + m ≤ maxLen) (hbytes : (n + m) * bytes ≤ 140737488355328) {v' : Value} {w' : World} (hrun : (Builtin.append_ #[t, t] ty #[v, .slice (some a) m c]).run P w = .ok v' w') : w.drawn ≤ w'.drawn := by
  subst hsize
  subst hby
  have hsmall : n + m ≤ 9223372036854775807 := by simp only [maxLen] at h63; omega
  have fin : ∀ {u : Value} {W : World}, (Builtin.append_ #[t, t] ty #[v, .slice (some a) m c]).run P w = .ok u W → w.drawn ≤ W.drawn → w.drawn ≤ w'.drawn := by
    intro u W h hd
    rw [hrun] at h
    cases h
    exact hd
  rcases hown.2 with ⟨rfl, rfl⟩ | ⟨g, cap, cur, rfl, hbg, hg, hnc, hcm, hcs, htake⟩
  · have hx : xs = [] := List.eq_nil_of_length_eq_zero (by simpa using hown.1)
    subst hx
    by_cases hm : m = 0
    · subst hm
      refine fin (u := .slice none 0 0) (W := w) ?_ (Nat.le_refl _)
      simp [Builtin.append_, run_underlying' ht, sizeOf, typeInfo, hi, Builtin.lenOf, Builtin.firstCells, loadCells, loadCellsFrom]
    · exact fin (run_append_nil (P := P) w t ty e i z ht hi hz a m c news hl hnews (by omega) (by omega) (by have hb := hbytes; simp only [Nat.zero_add] at hb; omega)) (Nat.le_succ _)
  · by_cases hroom : n + m ≤ cap
    · have hfit : n * i.size + news.length ≤ cur.size := by rw [hl, hcs, ← Nat.add_mul]; exact Nat.mul_le_mul_right _ hroom
      exact fin (run_append_room (P := P) w t ty e i ht hi g n cap cur hg a m c news hl hnews h1 hroom hfit) (Nat.le_refl _)
    · have holds : ∀ j u, xs[j]? = some u → w.cell? ((⟨g, 0, none⟩ : Addr).add j) = some u := hown.cells (g := g) rfl
      exact fin (run_append_grow (P := P) w t ty e i z ht hi hz ⟨g, 0, none⟩ n cap xs hown.1 holds a m c news hl hnews (by omega) (by omega) (growslice_fits (by omega) hbytes)) (Nat.le_succ _)
theorem divmod_lt {q m k : Nat} (hk : 0 < k) (hq : q < m * k) : q / k < m ∧ q % k < k := ⟨(Nat.div_lt_iff_lt_mul hk).2 hq, Nat.mod_lt _ hk⟩

theorem app2_ok {C : Ctx} (hO : CtxOk C) {o : Oper} {s : St} {K : St → Prop} {t d e k r n : Nat} {f : Nat → Nat → D} {x y : Operand} {j : TI} (ho : o.op = .call { callee := .builtin .append, args := #[x, y], argTypes := #[t, t] })
    (hd : o.dst = some d) (hes : elemSize C t = some (e, k)) (hj : lookT C.ty e = some j) (hz : j.zero.cells.size = k) {ex : E}
    (hob : s.ob r = some (.row e k n f)) (h : vApp2 s d e k j.bytes r n f ex K)
    {w0 : World} {X0 : Fr} {val : Nat → Value} {a : Act} {w : World} (hC : Conc C.gl w0 X0 s val a w) (hx : a.eval x = val r) (hy : RelE (XOf X0 s.ob val) val w (a.eval y) ex)
    (Q : Exit → Act → World → Prop) (next : Act → World → Prop) (hn : ∀ s' val' a' w', K s' → Conc C.gl w0 X0 s' val' a' w' → next a' w') : o.wp C.P a w next Q := by
  obtain ⟨hu, hs⟩ := elemSize_ok hO hes
  obtain ⟨inf, i1, i2, i3, i4⟩ := (hO.ty _ j hj).info
  have hsz : inf.size = k := by
    unfold elemSize at hes
    split at hes
    · split at hes
      · rename_i hd'
        split at hes
        · rename_i j' hj'
          cases hes
          rw [hj] at hj'; cases hj'; exact i2
        · cases hes
      · cases hes
    · cases hes
  unfold vApp2 at h
  split at h
  · rename_i k' m g
    cases hb : (Nat.beq k k' && (Nat.blt 0 k && (Nat.blt 0 j.bytes && Nat.blt d s.nt))) with
    | false => rw [hb] at h; exact h.elim
    | true =>
      rw [hb] at h
      simp only [Bool.and_eq_true] at hb
      obtain rfl := Nat.eq_of_beq_eq_true hb.1
      have hk : 0 < k := by simpa [Nat.blt_eq] using hb.2.1
      have hby : 0 < j.bytes := by simpa [Nat.blt_eq] using hb.2.2.1
      have hdn : d < s.nt := by simpa [Nat.blt_eq] using hb.2.2.2
      obtain ⟨⟨hle, hone⟩, hK⟩ := h
      have hlen : n + m ≤ maxLen := by
        have : (n + m) * 1 ≤ (n + m) * j.bytes := Nat.mul_le_mul_left _ hby
        unfold maxLen; omega
      obtain ⟨A, c, us, e1, hnc, hcm, hAz, hc, hr⟩ := Rel.slice_inv hy
      obtain ⟨xs, how, hrel⟩ := hC.ob r _ hob
      have hxl : xs.length = n * k := how.1
      cases A with
      | none =>
        obtain rfl : c = 0 := hAz rfl
        obtain rfl : m = 0 := by omega
        have hrun := run_append_owned_none (P := C.P) (w := w) w0.heap.size t o.type e inf k hu i1 (val r) n xs how
        have hex : (execOp a.eval o).run C.P w = .ok (.value (val r)) w := exec_v (exec_append ho) (by rw [hx, e1]; exact hrun)
        obtain ⟨val', hC'⟩ := conc_grow (f' := appD n f g) hC hob hdn (v' := val r) (w' := w) ⟨rfl, rfl, rfl, Nat.le_refl _, fun _ _ _ => rfl⟩ (Nat.le_refl _) (.inl rfl) how (fun X hm i j hi hj => by
          rw [appD_lt (by omega)]; exact hm _ _ (hrel i j (by omega) hj))
        exact wp_value hex (by rw [hd]; exact hn _ _ _ _ hK hC')
      | some ad =>
        let news : List Value := (List.range (m * k)).map fun q => us (q / k) (q % k)
        have hnl : news.length = m * k := by simp [news]
        have hnews : ∀ q u, news[q]? = some u → w.cell? (ad.add q) = some u := by
          intro q u hq
          have hlt : q < m * k := by
            have := (List.getElem?_eq_some_iff.1 hq).1; omega
          obtain ⟨h1, h2⟩ := divmod_lt hk hlt
          simp [news, hlt] at hq
          obtain ⟨b, off, e2, _, e3⟩ := hc _ _ h1 h2
          cases e2
          rw [Addr.add_lit, ← hq, ← e3, Nat.mul_comm, Nat.div_add_mod]
        have h1 : ∀ u ∈ news, u.oneCell' = true := by
          intro u hu'
          obtain ⟨q, hq, rfl⟩ := List.mem_map.1 hu'
          obtain ⟨h1, h2⟩ := divmod_lt hk (List.mem_range.1 hq)
          exact (oneE_ok (val := val) (e := .im (g (q / k) (q % k))) (hr _ _ h1 h2) (hone _ _ h1 h2)).1
        obtain ⟨v', w', hrun, how', hg, _, hv⟩ := run_append_own_at (P := C.P) w w0.heap.size t o.type e inf j.zero k j.bytes hu i1 i4 hsz i3 hz hk (val r) n xs how ad m c news hnl hnews h1 hlen hle hC.below.size
        have hex : (execOp a.eval o).run C.P w = .ok (.value v') w' := exec_v (exec_append ho) (by rw [hx, e1]; exact hrun)
        obtain ⟨val', hC'⟩ := conc_grow (f' := appD n f g) hC hob hdn hg (append_drawn (P := C.P) w w0.heap.size t o.type e inf j.zero k j.bytes hu i1 i4 hsz i3 hz hk (val r) n xs how ad m c news hnl hnews h1 hlen hle hrun) hv how' (fun X hm i q hi hq => by
          by_cases hin : i < n
          · rw [appD_lt hin]
            have hlt : i * k + q < n * k := by
              have : (i + 1) * k ≤ n * k := Nat.mul_le_mul_right k hin
              rw [Nat.add_mul] at this; omega
            rw [List.getD_eq_getElem?_getD, List.getElem?_append_left (by omega), ← List.getD_eq_getElem?_getD]
            exact hm _ _ (hrel i q hin hq)
          · rw [appD_ge (by omega)]
            have hge : n * k ≤ i * k + q := by
              have : n * k ≤ i * k := Nat.mul_le_mul_right k (by omega)
              omega
            have hsub : i * k + q - n * k = (i - n) * k + q := by
              have : n * k + (i - n) * k = i * k := by rw [← Nat.add_mul]; congr 1; omega
              omega
            have hlt : (i - n) * k + q < m * k := by
              have : (i - n + 1) * k ≤ m * k := Nat.mul_le_mul_right k (by omega)
              rw [Nat.add_mul] at this; omega
            have hdiv : ((i - n) * k + q) / k = i - n := by rw [Nat.mul_comm, Nat.mul_add_div hk, Nat.div_eq_of_lt hq]; rfl
            have hmod : ((i - n) * k + q) % k = q := by rw [Nat.mul_comm, Nat.mul_add_mod, Nat.mod_eq_of_lt hq]
            have : (xs ++ news).getD (i * k + q) undef = us (i - n) q := by
              rw [List.getD_eq_getElem?_getD, List.getElem?_append_right (by omega), hxl, hsub]
              simp [news, hlt, hdiv, hmod]
            rw [this]
            exact hm _ _ (hr _ _ (by omega) hq))
        exact wp_value hex (by rw [hd]; exact hn _ _ _ _ hK hC')
  · exact h.elim

theorem step_append {C : Ctx} (hO : CtxOk C) {o : Oper} {s : St} {K : St → Prop} {t t' : Nat} {x y : Operand} {ts : Array TypeId} {xs : Array Operand} (ho : o.op = .call { callee := .builtin .append, args := xs, argTypes := ts }) (hxs : xs.toList = [x, y]) (hts : ts.toList = [t, t']) (htt : Nat.beq t t' = true)
    (h : vAppend C (frzE s (evalE C s y)) o.dst t (evalE C (frzE s (evalE C s y)) x) (evalE C (frzE s (evalE C s y)) y) K) : StepOk C o s K := by
  obtain rfl : xs = #[x, y] := by cases xs; simp_all
  obtain rfl := Nat.eq_of_beq_eq_true htt
  obtain rfl : ts = #[t, t] := by cases ts; simp_all
  have hfr : frzE s (evalE C s y) = frzL C [y] s := rfl
  rw [hfr] at h
  refine StepOk.frz [y] ?_
  generalize frzL C [y] s = s at h
  unfold vAppend at h
  split at h
  · exact h.elim
  · rename_i d hd
    split at h
    · exact h.elim
    · rename_i e k hes
      split at h
      · exact h.elim
      · rename_i j hj
        split at h
        · rename_i r hx
          split at h
          · rename_i e' k' n f hob
            cases hb : (Nat.beq e e' && (Nat.beq k k' && Nat.beq j.zero.cells.size k)) with
            | false => rw [hb] at h; exact h.elim
            | true =>
              rw [hb] at h
              simp only [Bool.and_eq_true] at hb
              obtain rfl := Nat.eq_of_beq_eq_true hb.1
              obtain rfl := Nat.eq_of_beq_eq_true hb.2.1
              intro w0 X0 val a w hC Q next hn
              exact app2_ok hO ho hd hes hj (Nat.eq_of_beq_eq_true hb.2.2) hob h hC (eval_orow hC hx).1 (evalE_ok hC y) Q next hn
          · exact h.elim
        · rename_i hx
          cases hb : Nat.beq j.zero.cells.size k with
          | false => rw [hb] at h; exact h.elim
          | true =>
            rw [hb] at h
            intro w0 X0 val a w hC Q next hn
            let val' : Nat → Value := fun q => if q = d then .slice none 0 0 else val q
            have hvo : ∀ r', r' ≠ d → val' r' = val r' := fun r' h => if_neg h
            have hvd : val' d = .slice none 0 0 := if_pos rfl
            have h1 := hC.forget d val' hvo
            have h2 := h1.newObj (r := d) (by simp [St.forget]) (o := .row e k 0 fun _ _ => .top) (Below.refl _ w) (by rw [hvd]; intro b hb; cases hb)
              ⟨[], by rw [hvd]; exact World.ownsRow_nil w _ e k, fun i j hi => absurd hi (Nat.not_lt_zero _)⟩
            -- the second operand, told anew: what named d is forgotten
            have hy : RelE (XOf X0 ((s.forget d).own d (.row e k 0 fun _ _ => .top)).ob val') val' w (a.eval y) (evalE C s y) := by
              cases hey : evalE C s y with
              | im q =>
                have := eval_im hC hey
                refine this.more ?_
                rintro b (hb' | ⟨r', q, hq, hb'⟩)
                · exact .inl (.inl hb')
                · simp only [St.own, upd_eq] at hq
                  split at hq
                  · rename_i e; subst e; rw [hvd] at hb'; cases hb'
                  · rename_i hne
                    obtain ⟨_, o', ho', _⟩ := forget_some hq
                    exact .inl (.inr ⟨r', o', ho', by rw [← hvo r' hne]; exact hb'⟩)
              | _ => rw [hey] at h; exact h.elim
            exact app2_ok hO ho hd hes hj (Nat.eq_of_beq_eq_true hb) (by simp [St.own, upd_eq]) h h2 (by rw [(eval_im hC hx).lit_inv, hvd]) hy Q next hn
        · exact h.elim

end Go.Vc

/-
  Operations: parts of own rows, clear.
-/
set_option linter.unusedSimpArgs false
set_option linter.unusedSectionVars false
namespace Go.Vc
variable [Dr]

def vSliceRow (s : St) (k : Nat) (x : E) (lo hi : Option E) (k_ : E → Prop) : Prop :=
  match x with
  | .orow r => match s.ob r with
    | some (.row _ k' n _) => bif Nat.beq k k' then
        match lo, hi with
        | some (.im (.lit (.int _ l))), none => (0 ≤ l ∧ l < (n : Int)) ∧ k_ (.osub r k l.toNat (n - l.toNat))
        | none, some (.im (.lit (.int _ h))) => (0 ≤ h ∧ h ≤ (n : Int) ∧ 0 < n) ∧ k_ (.osub r k 0 h.toNat)
        | _, _ => False
      else False
    | _ => False
  | .im (.slice k' n f) => bif Nat.beq k k' then
      match lo, hi with
      | some (.im (.lit (.int _ l))), none => (0 ≤ l ∧ l ≤ (n : Int)) ∧ k_ (.im (.slice k (n - l.toNat) fun i j => f (l.toNat + i) j))
      | none, some (.im (.lit (.int _ h))) => (0 ≤ h ∧ h ≤ (n : Int)) ∧ k_ (.im (.slice k h.toNat f))
      | _, _ => False
    else False
  | _ => False

theorem row_some {X : Nat → Prop} {val : Nat → Value} {w : World} {base r t k n : Nat} {f : Nat → Nat → D} (h : ObOk X val w base r (.row t k n f)) (hn : 0 < n) : ∃ b c, val r = .slice (some ⟨b, 0, none⟩) n c ∧ n ≤ c ∧ c ≤ maxLen := by
  obtain ⟨xs, ⟨hl, hrow⟩, h2⟩ := h
  rcases hrow with ⟨e, rfl⟩ | ⟨g, cap, cur, e1, e2, e3, e4, e5, _⟩
  · omega
  · exact ⟨_, _, e1, e4, e5⟩
theorem run_sl_lo {P : Program} {t e k : Nat} (hu : P.underlying t = some (.slice e)) (hs : ∀ w, (sizeOf e).run P w = .ok k w) (A : Option Addr) (n c : Nat) (hnc : n ≤ c) (ik : IntKind) (l : Int) (h0 : 0 ≤ l) (h1 : l ≤ n) (w : World) :
    (Instr.sliceAt t (.slice A n c) (some (.int ik l)) none none).run P w = .ok (.slice (if c = l.toNat then A else A.map (·.add (l.toNat * k))) (n - l.toNat) (c - l.toNat)) w := by
  have h3 : ¬ ((n : Int) < l) := by omega
  have h4 : n ≤ c := hnc
  simp [Instr.sliceAt, Instr.slice, run_underlying' hu, Instr.sliceBounds, Instr.sliceBound, asIntOf, h0, h1, h4, hs]
theorem run_sl_hi {P : Program} {t e k : Nat} (hu : P.underlying t = some (.slice e)) (hs : ∀ w, (sizeOf e).run P w = .ok k w) (A : Option Addr) (n c : Nat) (hnc : n ≤ c) (ik : IntKind) (h : Int) (h0 : 0 ≤ h) (h1 : h ≤ n) (w : World) :
    (Instr.sliceAt t (.slice A n c) none (some (.int ik h)) none).run P w = .ok (.slice (if c = 0 then A else A.map (·.add (0 * k))) h.toNat c) w := by
  have h4 : h ≤ (c : Int) := by omega
  simp [Instr.sliceAt, Instr.slice, run_underlying' hu, Instr.sliceBounds, Instr.sliceBound, asIntOf, h0, h1, h4, hs]

theorem step_sliceRow {C : Ctx} (hO : CtxOk C) {o : Oper} {s : St} {k_ : E → Prop} {t e k : Nat} {x : Operand} {lo hi : Option Operand} (ho : o.op = .slice t x lo hi none) (hes : elemSize C t = some (e, k))
    (h : vSliceRow s k (evalE C s x) (lo.map (evalE C s)) (hi.map (evalE C s)) k_) : ∃ e_, k_ e_ ∧ StepQ C o s e_ := by
  obtain ⟨hu, hs⟩ := elemSize_ok hO hes
  have ex : ∀ (a : Act), execOp a.eval o = Instr.sliceAt t (a.eval x) (lo.map a.eval) (hi.map a.eval) none >>= fun x => pure (Next.value x) := fun a => by simp only [execOp, ho, Option.map_none]
  unfold vSliceRow at h
  split at h
  · rename_i r hx
    split at h
    · rename_i bt k' n f hob
      cases hk : Nat.beq k k' with
      | false => rw [hk] at h; exact h.elim
      | true =>
        rw [hk] at h
        obtain rfl := Nat.eq_of_beq_eq_true hk
        simp only [cond_true] at h
        split at h
        · rename_i ik l hl hh
          obtain rfl : hi = none := by simpa using hh
          obtain ⟨xl, rfl, hxl⟩ := Option.map_eq_some_iff.1 hl
          obtain ⟨⟨h0, h1⟩, h2⟩ := h
          refine ⟨_, h2, StepQ.val _ fun w0 X0 val a w hC => ?_⟩
          obtain ⟨b, c, e1, e2, e3⟩ := row_some (hC.ob r _ hob) (by omega)
          have e4 := (eval_orow hC hx).1
          refine ⟨_, exec_v (ex a) ?_, b, n, c, c - l.toNat, e1, rfl, by omega, by omega, e3⟩
          rw [e4, e1, Option.map_some, (eval_im hC hxl).lit_inv]
          have := run_sl_lo (P := C.P) hu hs (some ⟨b, 0, none⟩) n c e2 ik l h0 (by omega) w
          rw [if_neg (by omega), Option.map_some, Addr.add_lit, Nat.zero_add] at this
          exact this
        · rename_i ik l hl hh
          obtain rfl : lo = none := by simpa using hl
          obtain ⟨xh, rfl, hxh⟩ := Option.map_eq_some_iff.1 hh
          obtain ⟨⟨h0, h1, h1'⟩, h2⟩ := h
          refine ⟨_, h2, StepQ.val _ fun w0 X0 val a w hC => ?_⟩
          obtain ⟨b, c, e1, e2, e3⟩ := row_some (hC.ob r _ hob) (by omega)
          have e4 := (eval_orow hC hx).1
          refine ⟨_, exec_v (ex a) ?_, b, n, c, c, e1, rfl, by omega, by omega, e3⟩
          rw [e4, e1, Option.map_some, (eval_im hC hxh).lit_inv]
          have := run_sl_hi (P := C.P) hu hs (some ⟨b, 0, none⟩) n c e2 ik l h0 h1 w
          rw [if_neg (by omega), Option.map_some, Addr.add_lit, Nat.zero_add] at this
          exact this
        · exact h.elim
    · exact h.elim
  · rename_i k' n f hx
    cases hk : Nat.beq k k' with
    | false => rw [hk] at h; exact h.elim
    | true =>
      rw [hk] at h
      obtain rfl := Nat.eq_of_beq_eq_true hk
      simp only [cond_true] at h
      split at h
      · rename_i ik l hl hh
        obtain rfl : hi = none := by simpa using hh
        obtain ⟨xl, rfl, hxl⟩ := Option.map_eq_some_iff.1 hl
        obtain ⟨⟨h0, h1⟩, h2⟩ := h
        refine ⟨_, h2, StepQ.val _ fun w0 X0 val a w hC => ?_⟩
        obtain ⟨A, c, us, e1, q1, q2, q3, q4, q5⟩ := (eval_im hC hx).slice_inv
        refine ⟨_, exec_v (ex a) (by rw [e1, Option.map_some, (eval_im hC hxl).lit_inv]; exact run_sl_lo (P := C.P) hu hs A n c q1 ik l h0 h1 w), ?_⟩
        refine Rel.slice _ _ _ _ _ (fun i j => us (l.toNat + i) j) (by omega) (by omega) (fun hA => ?_) (fun i j hi hj => ?_) fun i j hi hj => q5 _ _ (by omega) hj
        · have : A = none := by
            split at hA
            · exact hA
            · simpa using hA
          have := q3 this; omega
        · obtain ⟨b, off, e2, e3, e4⟩ := q4 (l.toNat + i) j (by omega) hj
          refine ⟨b, off + l.toNat * k, ?_, e3, ?_⟩
          · rw [if_neg (by omega), e2, Option.map_some, Addr.add_lit]
          · rw [← e4, Nat.add_mul]; congr 2; omega
      · rename_i ik l hl hh
        obtain rfl : lo = none := by simpa using hl
        obtain ⟨xh, rfl, hxh⟩ := Option.map_eq_some_iff.1 hh
        obtain ⟨⟨h0, h1⟩, h2⟩ := h
        refine ⟨_, h2, StepQ.val _ fun w0 X0 val a w hC => ?_⟩
        obtain ⟨A, c, us, e1, q1, q2, q3, q4, q5⟩ := (eval_im hC hx).slice_inv
        refine ⟨_, exec_v (ex a) (by rw [e1, Option.map_some, (eval_im hC hxh).lit_inv]; exact run_sl_hi (P := C.P) hu hs A n c q1 ik l h0 h1 w), ?_⟩
        refine Rel.slice _ _ _ _ _ us (by omega) (by omega) (fun hA => ?_) (fun i j hi hj => ?_) fun i j hi hj => q5 _ _ (by omega) hj
        · split at hA
          · assumption
          · exact q3 (by simpa using hA)
        · obtain ⟨b, off, e2, e3, e4⟩ := q4 i j (by omega) hj
          refine ⟨b, off, ?_, e3, e4⟩
          rw [if_neg (by omega), e2, Option.map_some, Addr.add_lit]; simp
      · exact h.elim
  · exact h.elim

/-! ### clear -/
def clearF (z : Value) (lo n : Nat) (f : Nat → Nat → D) : Nat → Nat → D := fun p q => if lo ≤ p ∧ p < lo + n then .lit (z.cells.getD q undef) else f p q
def vClear (C : Ctx) (s : St) (dst : Option Tmp) (t : Nat) (x : E) (K : St → Prop) : Prop :=
  match elemSize C t with
  | some (e, k) => match lookT C.ty e with
    | some j => match x with
      | .osub r k' lo m => match s.ob r with
        | some (.row bt k2 n f) => bif Nat.beq k k' && (Nat.beq k k2 && (Nat.beq j.zero.cells.size k && allOne k fun q => .im (.lit (j.zero.cells.getD q undef)))) then lo + m ≤ n ∧ 0 < m ∧ (s.own r (.row bt k n (clearF j.zero lo m f))).putO dst (.im .top) K else False
        | _ => False
      | _ => False
    | none => False
  | none => False
theorem step_clear {C : Ctx} (hO : CtxOk C) {o : Oper} {s : St} {K : St → Prop} {t : Nat} {x : Operand} {ts : Array TypeId} {xs : Array Operand} (ho : o.op = .call { callee := .builtin .clear, args := xs, argTypes := ts }) (hxs : xs.toList = [x]) (hts : ts.toList = [t]) 
    (h : vClear C s o.dst t (evalE C s x) K) : StepOk C o s K := by
  obtain rfl : xs = #[x] := by cases xs; simp_all
  obtain rfl : ts = #[t] := by cases ts; simp_all
  have ex : ∀ (a : Act), execOp a.eval o = Builtin.clear_ #[t] o.type #[a.eval x] >>= fun x => pure (Next.value x) := fun a => by
    simp [execOp, ho, resolve, invoke, builtin]
  unfold vClear at h
  split at h
  · rename_i e k hes
    obtain ⟨hu, hs⟩ := elemSize_ok hO hes
    split at h
    · rename_i j hj
      have hT := hO.ty _ j hj
      split at h
      · rename_i r k' lo m hx
        split at h
        · rename_i bt k2 n f hob
          cases hb : (Nat.beq k k' && (Nat.beq k k2 && (Nat.beq j.zero.cells.size k && allOne k fun q => .im (.lit (j.zero.cells.getD q undef))))) with
          | false => rw [hb] at h; exact h.elim
          | true =>
            rw [hb] at h
            simp only [Bool.and_eq_true] at hb
            obtain rfl := Nat.eq_of_beq_eq_true hb.1
            obtain rfl := Nat.eq_of_beq_eq_true hb.2.1
            have hz := Nat.eq_of_beq_eq_true hb.2.2.1
            have hone := allOne_ok hb.2.2.2
            obtain ⟨h1, h2, h3⟩ := h
            intro w0 X0 val a w hC Q next hn
            obtain ⟨b, N, c, c', e1, e2, _⟩ := eval_osub hC hx
            by_cases hk0 : k = 0
            · -- no cells: nothing is stored
              subst hk0
              have hze : j.zero.cells = #[] := Array.eq_empty_of_size_eq_zero hz
              have hrun : (Builtin.clear_ #[t] o.type #[a.eval x]).run C.P w = .ok (.tuple #[]) w := by
                obtain ⟨m', rfl⟩ : ∃ m', m = m' + 1 := ⟨m - 1, by omega⟩
                rw [e2]; simp [Builtin.clear_, run_underlying' hu, hT.run_zero, Builtin.zeroCells, hze, storeCells]
              refine wp_value (exec_v (ex a) hrun) ?_
              have hC' := hC.chOb (o' := .row bt 0 n (clearF j.zero lo m f)) hob (Below.refl _ _) (Nat.le_refl _) (fun _ _ _ => rfl) (by
                obtain ⟨xs, q1, q2⟩ := hC.ob r _ hob
                exact ⟨xs, q1, fun i j hi hj => absurd hj (Nat.not_lt_zero _)⟩)
              obtain ⟨s', p1, p2⟩ := hC'.putO (v := .tuple #[]) (e := .im .top) (.top _) h3
              exact hn _ _ _ _ p1 p2
            · have hk : 0 < k := Nat.pos_of_ne_zero hk0
              obtain ⟨A', c2, e3⟩ := row_len (hC.ob r _ hob)
              rw [e3] at e1; cases e1
              let vs := (Builtin.zeroCells j.zero.cells m).toList
              have hvl : vs.length = m * k := by simp [vs, Builtin.zeroCells, hz]
              have hvg : ∀ q, q < m * k → vs.getD q undef = j.zero.cells.getD (q % k) undef := fun q hq => by
                have hq' : q % k < j.zero.cells.size := by rw [hz]; exact Nat.mod_lt _ hk
                simp [vs, Builtin.zeroCells, List.getD_eq_getElem?_getD, hz, hq, Array.getD_eq_getD_getElem?, getElem!_def, hq', show q % k < k from Nat.mod_lt _ hk]
              have hbnd : lo * k + m * k ≤ n * k := by rw [← Nat.add_mul]; exact Nat.mul_le_mul_right k h1
              have hmk : 0 < m * k := Nat.mul_pos h2 hk
              obtain ⟨w', q1, q2⟩ := hC.splice C.P (f' := clearF j.zero lo m f) hob e3 (lo * k) vs (by rw [hvl]; exact hbnd) (by omega) (fun u hu => by
                  obtain ⟨q, hq, rfl⟩ := List.mem_iff_getElem.1 hu
                  have h4 := hvg q (by omega)
                  rw [List.getD_eq_getElem?_getD, List.getElem?_eq_getElem hq, Option.getD_some] at h4
                  rw [h4]
                  exact (oneE_ok (val := val) (e := .im (.lit (j.zero.cells.getD (q % k) undef))) (Rel.lit (X := fun _ => False) (w := w) _) (hone _ (Nat.mod_lt _ hk))).1)
                (fun p q hp hq hh1 hh2 => by
                  have hp1 : lo ≤ p := by
                    rcases Nat.lt_or_ge p lo with hlt | hge
                    · have := mulk_lt (k := k) hlt hq; omega
                    · exact hge
                  have hp2 : p < lo + m := by
                    rcases Nat.lt_or_ge p (lo + m) with hlt | hge
                    · exact hlt
                    · have : (lo + m) * k ≤ p * k := Nat.mul_le_mul_right k hge
                      rw [Nat.add_mul] at this; omega
                  unfold clearF
                  rw [if_pos ⟨hp1, hp2⟩]
                  have e5 : p * k + q - lo * k = (p - lo) * k + q := by
                    have : lo * k + (p - lo) * k = p * k := by rw [← Nat.add_mul]; congr 1; omega
                    omega
                  rw [e5, hvg _ (mulk_lt (by omega) hq), show ((p - lo) * k + q) % k = q by rw [Nat.mul_comm, Nat.mul_add_mod, Nat.mod_eq_of_lt hq]]
                  exact .lit _)
                (fun p q hp hq hh => by
                  unfold clearF
                  rw [if_neg]
                  rintro ⟨h5, h6⟩
                  apply hh
                  have h7 : lo * k ≤ p * k := Nat.mul_le_mul_right k h5
                  have h8 := mulk_lt (k := k) h6 hq
                  rw [Nat.add_mul] at h8
                  omega)
              have hrun : (Builtin.clear_ #[t] o.type #[a.eval x]).run C.P w = .ok (.tuple #[]) w' := by
                obtain ⟨m', rfl⟩ : ∃ m', m = m' + 1 := ⟨m - 1, by omega⟩
                rw [e2]; simp only [vs] at q1; simp [Builtin.clear_, run_underlying' hu, hT.run_zero, q1]
              refine wp_value (exec_v (ex a) hrun) ?_
              obtain ⟨s', p1, p2⟩ := q2.putO (v := .tuple #[]) (e := .im .top) (.top _) h3
              exact hn _ _ _ _ p1 p2
        · exact h.elim
      · exact h.elim
    · exact h.elim
  · exact h.elim
end Go.Vc
