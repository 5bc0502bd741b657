/-
  Operations, eighth part: contracts and calls.
-/
import Derived.Test.YtomdjkcoodaheaaGreatDoorVc
import Derived.Lib.SliceRun
set_option linter.unusedSectionVars false
set_option linter.unusedSimpArgs false
set_option linter.unusedVariables false
set_option linter.unusedSimpArgs false
set_option linter.unusedSectionVars false
namespace Go.Vc
variable [Dr]

/-- THE CONTRACT OF A FUNCTION: called with whatever reads as ds, it returns what reads as some d with R d; nothing that was there is touched. -/
structure ACalls (C : Ctx) (g : FuncId) (ds : List D) (R : D → Prop) : Prop where
  ent : ∀ args w, (callFunc g args).run C.P w = .ok (.enter g args) w
  out : ∀ (X : Nat → Prop) (w : World) (vs : Array Value), (∀ b, X b → b < w.heap.size) → (∀ q, Rel X w (.pointer (some ⟨q, 0, none⟩)) (C.gl q)) → vs.size = ds.length →
    (∀ i, i < ds.length → Rel X w (vs.getD i undef) (ds.getD i .top)) → Calls C.P g vs w fun e w' => ∃ v d, e = .returned v ∧ R d ∧ Rel X w' v d ∧ Below w.heap.size w w'
/-- The same for a function that returns a new row of its own making. -/
structure ARow (C : Ctx) (g : FuncId) (ds : List D) (t k : Nat) (R : Nat → (Nat → Nat → D) → Prop) : Prop where
  ent : ∀ args w, (callFunc g args).run C.P w = .ok (.enter g args) w
  out : ∀ (X : Nat → Prop) (w : World) (vs : Array Value), (∀ b, X b → b < w.heap.size) → (∀ q, Rel X w (.pointer (some ⟨q, 0, none⟩)) (C.gl q)) → vs.size = ds.length →
    (∀ i, i < ds.length → Rel X w (vs.getD i undef) (ds.getD i .top)) → Calls C.P g vs w fun e w' => ∃ v n f xs, e = .returned v ∧ R n f ∧ w'.ownsRow w.heap.size t k v n xs ∧
      (∀ i j, i < n → j < k → Rel (fun b => X b ∨ blk v = some b) w' (xs.getD (i * k + j) undef) (f i j)) ∧ Below w.heap.size w w'
/-- A function that writes into the row that its first argument is: the row holds f' behind the call. -/
structure AMut (C : Ctx) (g : FuncId) (t k n : Nat) (f : Nat → Nat → D) (ds : List D) (R : (Nat → Nat → D) → D → Prop) : Prop where
  ent : ∀ args w, (callFunc g args).run C.P w = .ok (.enter g args) w
  out : ∀ (X : Nat → Prop) (B : Nat) (w : World) (v : Value) (xs : List Value) (vs : List Value), (∀ b, X b → b < w.heap.size) → (∀ b, blk v = some b → X b) → (∀ q, Rel X w (.pointer (some ⟨q, 0, none⟩)) (C.gl q)) →
    w.ownsRow B t k v n xs → (∀ i j, i < n → j < k → Rel X w (xs.getD (i * k + j) undef) (f i j)) → vs.length = ds.length →
    (∀ i, i < ds.length → Rel X w (vs.getD i undef) (ds.getD i .top)) → Calls C.P g (v :: vs).toArray w fun e w' => ∃ u d f' xs', e = .returned u ∧ R f' d ∧ Rel X w' u d ∧ w'.ownsRow B t k v n xs' ∧
      (∀ i j, i < n → j < k → Rel X w' (xs'.getD (i * k + j) undef) (f' i j)) ∧ w.grownBy w' (blk v) ∧ DrLe w.drawn w'.drawn
/-- A function that takes the row that its first argument is, for good, and gives back a row (in the same block, or in a new one). -/
structure ATR (C : Ctx) (g : FuncId) (t k n : Nat) (f : Nat → Nat → D) (ds : List D) (R : Nat → (Nat → Nat → D) → Prop) : Prop where
  ent : ∀ args w, (callFunc g args).run C.P w = .ok (.enter g args) w
  out : ∀ (X : Nat → Prop) (B : Nat) (w : World) (v : Value) (xs : List Value) (vs : List Value), (∀ b, X b → b < w.heap.size) → (∀ b, blk v = some b → ¬ X b) → B ≤ w.heap.size → (∀ q, Rel (fun b => X b ∨ blk v = some b) w (.pointer (some ⟨q, 0, none⟩)) (C.gl q)) →
    w.ownsRow B t k v n xs → (∀ i j, i < n → j < k → Rel (fun b => X b ∨ blk v = some b) w (xs.getD (i * k + j) undef) (f i j)) → vs.length = ds.length →
    (∀ i, i < ds.length → Rel (fun b => X b ∨ blk v = some b) w (vs.getD i undef) (ds.getD i .top)) → Calls C.P g (v :: vs).toArray w fun e w' => ∃ u m f' xs', e = .returned u ∧ R m f' ∧ w'.ownsRow B t k u m xs' ∧
      (∀ i j, i < m → j < k → Rel (fun b => X b ∨ blk u = some b) w' (xs'.getD (i * k + j) undef) (f' i j)) ∧ w.grownBy w' (blk v) ∧ DrLe w.drawn w'.drawn ∧ ∀ b, blk u = some b → blk v = some b ∨ w.heap.size ≤ b

/-- What a value is that is called, and with what it is called besides. -/
def calleeE (e : E) : Option (FuncId × Nat × (Nat → D)) :=
  match e with
  | .im (.func g n f) => some (g, n, f)
  | _ => none
def argD (C : Ctx) (s : St) : List Operand → List D
  | [] => []
  | x :: xs => imD (evalE C s x) :: argD C s xs
def capD : Nat → (Nat → D) → List D
  | 0, _ => []
  | n + 1, f => capD n f ++ [f n]
theorem capD_length (n : Nat) (f : Nat → D) : (capD n f).length = n := by induction n with | zero => rfl | succ n ih => simp [capD, ih]
theorem capD_get (n : Nat) (f : Nat → D) (i : Nat) (h : i < n) : (capD n f).getD i .top = f i := by
  induction n with
  | zero => omega
  | succ n ih =>
    simp only [capD]
    by_cases e : i < n
    · rw [List.getD_eq_getElem?_getD, List.getElem?_append_left (by rw [capD_length]; exact e), ← List.getD_eq_getElem?_getD]; exact ih e
    · obtain rfl : i = n := by omega
      rw [List.getD_eq_getElem?_getD, List.getElem?_append_right (by rw [capD_length]; exact Nat.le_refl _), capD_length]; simp
theorem argD_length (C : Ctx) (s : St) (xs : List Operand) : (argD C s xs).length = xs.length := by induction xs with | nil => rfl | cons x xs ih => simp [argD, ih]
theorem argD_get (C : Ctx) (s : St) : ∀ (xs : List Operand) (i : Nat) (h : i < xs.length), (argD C s xs).getD i .top = imD (evalE C s xs[i])
  | x :: xs, 0, _ => rfl
  | x :: xs, i + 1, h => by
    have := argD_get C s xs i (by simpa using h)
    simpa [argD] using this

def vCall (C : Ctx) (s : St) (dst : Option Tmp) (g : E) (xs : List Operand) (K : St → Prop) : Prop :=
  match calleeE g with
  | some (g, n, f) => ACalls C g (argD C s xs ++ capD n f) fun d => s.putO dst (.im d) K
  | none => False
def vCallRow (C : Ctx) (s : St) (dst : Option Tmp) (t k : Nat) (g : E) (xs : List Operand) (K : St → Prop) : Prop :=
  match dst with
  | some d => match calleeE g with
    | some (g, n, f) => bif Nat.blt d s.nt then ARow C g (argD C s xs ++ capD n f) t k fun m h => K (((s.forget d).own d (.row t k m h)).put d (.orow d)) else False
    | none => False
  | none => False

theorem exec_call {P : Program} {o : Oper} {x : Operand} {xs : Array Operand} {ts : Array TypeId} (ho : o.op = .call { callee := .value x, args := xs, argTypes := ts }) {a : Act} {w : World} {g : FuncId} {cs : Array Value} (hx : a.eval x = .func (.func g) #[] cs)
    (hent : ∀ args w, (callFunc g args).run P w = .ok (.enter g args) w) : (execOp a.eval o).run P w = .ok (.enter g (xs.map a.eval ++ cs)) w := by
  simp [execOp, ho, resolve, Deferred.ofValue, hx, invoke, hent]

theorem wp_enter {P : Program} {o : Oper} {a : Act} {w : World} {g : FuncId} {args : Array Value} {next : Act → World → Prop} {Q : Exit → Act → World → Prop} (hr : (execOp a.eval o).run P w = .ok (.enter g args) w) {R : Value → World → Prop}
    (hc : Calls P g args w fun e w' => ∃ v, e = .returned v ∧ R v w') (h : ∀ v w', R v w' → next (a.put o.dst v) w') : o.wp P a w next Q := by
  unfold Oper.wp; rw [hr, Oper.upon_enter]
  refine hc.mono ?_
  rintro e w' ⟨v, rfl, hR⟩
  exact h v w' hR

section
variable {C : Ctx} {w0 : World} {X0 : Fr} {s : St} {val : Nat → Value} {a : Act} {w : World}
theorem args_rel (hC : Conc C.gl w0 X0 s val a w) (xs : List Operand) {cs : Array Value} {n : Nat} {f : Nat → D} (hn : cs.size = n) (hr : ∀ j, j < n → Rel (XOf X0 s.ob val) w (cs.getD j undef) (f j)) :
    ((xs.map a.eval).toArray ++ cs).size = (argD C s xs ++ capD n f).length ∧
    ∀ i, i < (argD C s xs ++ capD n f).length → Rel (XOf X0 s.ob val) w (((xs.map a.eval).toArray ++ cs).getD i undef) ((argD C s xs ++ capD n f).getD i .top) := by
  refine ⟨by simp [argD_length, capD_length, hn], fun i hi => ?_⟩
  rw [List.length_append, argD_length, capD_length] at hi
  by_cases h : i < xs.length
  · have h1 : ((xs.map a.eval).toArray ++ cs).getD i undef = a.eval xs[i] := by
      simp [Array.getD_eq_getD_getElem?, Array.getElem?_append_left, h]
    have h2 : (argD C s xs ++ capD n f).getD i .top = imD (evalE C s xs[i]) := by
      rw [List.getD_eq_getElem?_getD, List.getElem?_append_left (by rw [argD_length]; exact h), ← List.getD_eq_getElem?_getD]
      exact argD_get C s xs i h
    rw [h1, h2]; exact imD_ok (evalE_ok hC _)
  · have h1 : ((xs.map a.eval).toArray ++ cs).getD i undef = cs.getD (i - xs.length) undef := by
      simp [Array.getD_eq_getD_getElem?, Array.getElem?_append_right, Nat.le_of_not_lt h]
    have h2 : (argD C s xs ++ capD n f).getD i .top = f (i - xs.length) := by
      rw [List.getD_eq_getElem?_getD, List.getElem?_append_right (by rw [argD_length]; omega), argD_length, ← List.getD_eq_getElem?_getD]
      exact capD_get n f _ (by omega)
    rw [h1, h2]; exact hr _ (by omega)
theorem Conc.xlt (hC : Conc C.gl w0 X0 s val a w) : ∀ b, XOf X0 s.ob val b → b < w.heap.size := by
  rintro b (h | ⟨r, o, ho, hb⟩)
  · exact hC.x0 b h
  · exact ((hC.ob r o ho).lt hb).2
theorem calleeE_ok (hC : Conc C.gl w0 X0 s val a w) {x : Operand} {g : FuncId} {n : Nat} {f : Nat → D} (h : calleeE (evalE C s x) = some (g, n, f)) :
    ∃ cs, a.eval x = .func (.func g) #[] cs ∧ cs.size = n ∧ ∀ j, j < n → Rel (XOf X0 s.ob val) w (cs.getD j undef) (f j) := by
  unfold calleeE at h
  split at h
  · rename_i g' n' f' hx
    cases h
    exact (eval_im hC hx).func_inv
  · cases h
end

theorem step_call {C : Ctx} {o : Oper} {s : St} {K : St → Prop} {x : Operand} {xs : Array Operand} {ts : Array TypeId} (ho : o.op = .call { callee := .value x, args := xs, argTypes := ts })
    (h : vCall C (frzL C xs.toList s) o.dst (evalE C (frzL C xs.toList s) x) xs.toList K) : StepOk C o s K := by
  refine StepOk.frz xs.toList ?_
  generalize frzL C xs.toList s = s at h
  unfold vCall at h
  split at h
  · rename_i g n f hx
    intro w0 X0 val a w hC Q next hn
    obtain ⟨cs, e1, e2, e3⟩ := calleeE_ok hC hx
    have hex := exec_call (P := C.P) (w := w) ho e1 h.ent
    obtain ⟨h1, h2⟩ := args_rel hC xs.toList e2 e3
    have hmap : (xs.toList.map a.eval).toArray = xs.map a.eval := by rw [← Array.toList_map, Array.toArray_toList]
    rw [hmap] at h1 h2
    refine wp_enter hex (R := fun v w' => ∃ d, s.putO o.dst (.im d) K ∧ Rel (XOf X0 s.ob val) w' v d ∧ Below w.heap.size w w') ((h.out _ w _ hC.xlt hC.gl h1 h2).mono ?_) ?_
    · rintro e w' ⟨v, d, rfl, hR, hv, hb⟩
      exact ⟨v, rfl, d, hR, hv, hb⟩
    · rintro v w' ⟨d, hK, hv, hb⟩
      obtain ⟨s', q1, q2⟩ := (hC.ext hb).putO (e := .im d) hv hK
      exact hn _ _ _ _ q1 q2
  · exact h.elim

theorem step_callRow {C : Ctx} {o : Oper} {s : St} {K : St → Prop} {t k : Nat} {x : Operand} {xs : Array Operand} {ts : Array TypeId} (ho : o.op = .call { callee := .value x, args := xs, argTypes := ts })
    (h : vCallRow C (frzL C xs.toList s) o.dst t k (evalE C (frzL C xs.toList s) x) xs.toList K) : StepOk C o s K := by
  refine StepOk.frz xs.toList ?_
  generalize frzL C xs.toList s = s at h
  unfold vCallRow at h
  split at h
  · rename_i d hd
    split at h
    · rename_i g n f hx
      cases hlt : Nat.blt d s.nt with
      | false => rw [hlt] at h; exact h.elim
      | true =>
        rw [hlt] at h
        intro w0 X0 val a w hC Q next hn
        obtain ⟨cs, e1, e2, e3⟩ := calleeE_ok hC hx
        have hex := exec_call (P := C.P) (w := w) ho e1 h.ent
        obtain ⟨h1, h2⟩ := args_rel hC xs.toList e2 e3
        have hmap : (xs.toList.map a.eval).toArray = xs.map a.eval := by rw [← Array.toList_map, Array.toArray_toList]
        rw [hmap] at h1 h2
        refine wp_enter hex (R := fun v w' => ∃ m g' ys, K (((s.forget d).own d (.row t k m g')).put d (.orow d)) ∧ w'.ownsRow w.heap.size t k v m ys ∧
          (∀ i j, i < m → j < k → Rel (fun b => XOf X0 s.ob val b ∨ blk v = some b) w' (ys.getD (i * k + j) undef) (g' i j)) ∧ Below w.heap.size w w') ((h.out _ w _ hC.xlt hC.gl h1 h2).mono ?_) ?_
        · rintro e w' ⟨v, m, g', ys, rfl, hR, q1, q2, q3⟩
          exact ⟨v, rfl, m, g', ys, hR, q1, q2, q3⟩
        · rintro v w' ⟨m, g', ys, hK, how, hr, hb⟩
          have hsv : ∃ A n c, v = .slice A n c := by
            rcases how.2 with ⟨e, _⟩ | ⟨q, cap, cur, e, _⟩ <;> exact ⟨_, _, _, e⟩
          have hbk : blk v = v.ownBlock := by
            obtain ⟨A, n, c, rfl⟩ := hsv; cases A <;> rfl
          have how0 : w'.ownsRow w0.heap.size t k v m ys := by
            refine ⟨how.1, how.2.imp id ?_⟩
            rintro ⟨q, cap, cur, p1, p2, p3⟩
            exact ⟨q, cap, cur, p1, Nat.le_trans hC.below.size p2, p3⟩
          obtain ⟨val', hC'⟩ := conc_newAny (o := .row t k m g') (e := .orow d) hC (by simpa [Nat.blt_eq] using hlt) hb (u := v) (fun b hb' => by rw [hbk] at hb'; exact (how.lt b hb').1)
            (fun X val' hv _ _ hX => ⟨ys, by rw [hv]; exact how0, fun i j hi hj => (hr i j hi hj).weak hX⟩) (fun X val' hv => ⟨hv.symm, hsv⟩)
          rw [hd]
          exact hn _ _ _ _ hK hC'
    · exact h.elim
  · exact h.elim

/-! ### calls that write into a row, calls that take one -/
def vCallMut (C : Ctx) (s : St) (dst : Option Tmp) (g x : E) (xs : List Operand) (K : St → Prop) : Prop :=
  match x with
  | .orow r => match s.ob r with
    | some (.row t k n f) => match calleeE g with
      | some (g, m, h) => AMut C g t k n f (argD C s xs ++ capD m h) fun f' d => (s.own r (.row t k n f')).putO dst (.im d) K
      | none => False
    | _ => False
  | _ => False
def vCallTake (C : Ctx) (s : St) (dst : Option Tmp) (g x : E) (xs : List Operand) (K : St → Prop) : Prop :=
  match dst with
  | some d => match x with
    | .orow r => match s.ob r with
      | some (.row t k n f) => match calleeE g with
        | some (g, m, h) => bif Nat.blt d s.nt then ATR C g t k n f (argD C s xs ++ capD m h) fun m f' => K (((s.forget r).own r (.row t k m f')).put d (.orow r)) else False
        | none => False
      | _ => False
    | _ => False
  | none => False
theorem row_slice {w : World} {B t k n : Nat} {v : Value} {xs : List Value} (how : w.ownsRow B t k v n xs) : ∃ A c, v = .slice A n c := by
  rcases how.2 with ⟨e, rfl⟩ | ⟨q, cap, cur, e, _⟩
  · exact ⟨none, 0, e⟩
  · exact ⟨_, _, e⟩
theorem row_blk {w : World} {B t k n : Nat} {v : Value} {xs : List Value} (how : w.ownsRow B t k v n xs) : blk v = v.ownBlock := by
  obtain ⟨A, c, rfl⟩ := row_slice how; cases A <;> rfl

theorem step_callMut {C : Ctx} {o : Oper} {s : St} {K : St → Prop} {x x0 : Operand} {xs : Array Operand} {xr : List Operand} {ts : Array TypeId} (ho : o.op = .call { callee := .value x, args := xs, argTypes := ts }) (hxs : xs.toList = x0 :: xr)
    (h : vCallMut C (frzL C xr s) o.dst (evalE C (frzL C xr s) x) (evalE C (frzL C xr s) x0) xr K) : StepOk C o s K := by
  refine StepOk.frz xr ?_
  generalize frzL C xr s = s at h
  unfold vCallMut at h
  split at h
  · rename_i r hx0
    split at h
    · rename_i t k n f hob
      split at h
      · rename_i g m hc hx
        intro w0 X0 val a w hC Q next hn
        obtain ⟨cs, e1, e2, e3⟩ := calleeE_ok hC hx
        have hex := exec_call (P := C.P) (w := w) ho e1 h.ent
        obtain ⟨h1, h2⟩ := args_rel hC xr e2 e3
        have hv := (eval_orow hC hx0).1
        have hmap : xs.map a.eval ++ cs = (val r :: ((xr.map a.eval).toArray ++ cs).toList).toArray := by
          apply Array.toList_inj.1
          simp [hxs, hv]
        rw [hmap] at hex
        obtain ⟨ys, how, hrl⟩ := hC.ob r _ hob
        have hget : ∀ i, ((xr.map a.eval).toArray ++ cs).getD i undef = ((xr.map a.eval).toArray ++ cs).toList.getD i undef := fun i => by
          rw [Array.getD_eq_getD_getElem?, List.getD_eq_getElem?_getD, Array.getElem?_toList]
        refine wp_enter hex (R := fun v w' => ∃ d f' xs', (s.own r (.row t k n f')).putO o.dst (.im d) K ∧ Rel (XOf X0 s.ob val) w' v d ∧ w'.ownsRow w0.heap.size t k (val r) n xs' ∧
          (∀ i j, i < n → j < k → Rel (XOf X0 s.ob val) w' (xs'.getD (i * k + j) undef) (f' i j)) ∧ w.grownBy w' (blk (val r)) ∧ DrLe w.drawn w'.drawn)
          ((h.out (XOf X0 s.ob val) w0.heap.size w (val r) ys ((xr.map a.eval).toArray ++ cs).toList hC.xlt (fun b hb => .inr ⟨r, _, hob, hb⟩) hC.gl how hrl (by rw [Array.length_toList]; exact h1) fun i hi => by rw [← hget]; exact h2 i hi).mono ?_) ?_
        · rintro e w' ⟨u, d, f', xs', rfl, hR, q1, q2, q3, q4, q5⟩
          exact ⟨u, rfl, d, f', xs', hR, q1, q2, q3, q4, q5⟩
        · rintro u w' ⟨d, f', xs', hK, q1, q2, q3, q4, q5⟩
          have hB : ∀ q, blk (val r) = some q → w0.heap.size ≤ q := fun q hq => ((hC.ob r _ hob).lt hq).1
          have hC' := hC.chOb (o' := .row t k n f') hob (w' := w') (Below.grown (Below.refl _ w) q4 q5 hC.below.size hB) q4.size (fun b hb hlt => q4.block b hlt fun e => hb e.symm) ⟨xs', q2, q3⟩
          obtain ⟨s', p1, p2⟩ := hC'.putO (v := u) (e := .im d) (by rw [xof_own hob]; exact q1) hK
          exact hn _ _ _ _ p1 p2
      · exact h.elim
    · exact h.elim
  · exact h.elim

theorem step_callTake {C : Ctx} {o : Oper} {s : St} {K : St → Prop} {x x0 : Operand} {xs : Array Operand} {xr : List Operand} {ts : Array TypeId} (ho : o.op = .call { callee := .value x, args := xs, argTypes := ts }) (hxs : xs.toList = x0 :: xr)
    (h : vCallTake C (frzL C xr s) o.dst (evalE C (frzL C xr s) x) (evalE C (frzL C xr s) x0) xr K) : StepOk C o s K := by
  refine StepOk.frz xr ?_
  generalize frzL C xr s = s at h
  unfold vCallTake at h
  split at h
  · rename_i d hd
    split at h
    · rename_i r hx0
      split at h
      · rename_i t k n f hob
        split at h
        · rename_i g m hc hx
          cases hlt : Nat.blt d s.nt with
          | false => rw [hlt] at h; exact h.elim
          | true =>
            rw [hlt] at h
            intro w0 X0 val a w hC Q next hn
            obtain ⟨cs, e1, e2, e3⟩ := calleeE_ok hC hx
            have hex := exec_call (P := C.P) (w := w) ho e1 h.ent
            obtain ⟨h1, h2⟩ := args_rel hC xr e2 e3
            have hv := (eval_orow hC hx0).1
            have hmap : xs.map a.eval ++ cs = (val r :: ((xr.map a.eval).toArray ++ cs).toList).toArray := by
              apply Array.toList_inj.1
              simp [hxs, hv]
            rw [hmap] at hex
            obtain ⟨ys, how, hrl⟩ := hC.ob r _ hob
            have hget : ∀ i, ((xr.map a.eval).toArray ++ cs).getD i undef = ((xr.map a.eval).toArray ++ cs).toList.getD i undef := fun i => by
              rw [Array.getD_eq_getD_getElem?, List.getD_eq_getElem?_getD, Array.getElem?_toList]
            let X : Nat → Prop := fun b => X0 b ∨ ∃ r' o, r' ≠ r ∧ s.ob r' = some o ∧ blk (val r') = some b
            have hweak : ∀ b, (X b ∨ blk (val r) = some b) → XOf X0 s.ob val b := by
              rintro b ((hb | ⟨r', o, _, ho, hb⟩) | hb)
              · exact .inl hb
              · exact .inr ⟨r', o, ho, hb⟩
              · exact .inr ⟨r, _, hob, hb⟩
            refine wp_enter hex (R := fun u w' => ∃ m f' xs', K (((s.forget r).own r (.row t k m f')).put d (.orow r)) ∧ w'.ownsRow w0.heap.size t k u m xs' ∧
              (∀ i j, i < m → j < k → Rel (fun b => X b ∨ blk u = some b) w' (xs'.getD (i * k + j) undef) (f' i j)) ∧ w.grownBy w' (blk (val r)) ∧ DrLe w.drawn w'.drawn ∧ ∀ b, blk u = some b → blk (val r) = some b ∨ w.heap.size ≤ b)
              ((h.out X w0.heap.size w (val r) ys ((xr.map a.eval).toArray ++ cs).toList (fun b hb => hC.xlt b (hweak b (.inl hb))) (fun b hb hX => ?_) hC.below.size (fun q => (hC.gl q).weak hweak) how (fun i j hi hj => (hrl i j hi hj).weak hweak) (by rw [Array.length_toList]; exact h1) fun i hi => by rw [← hget]; exact (h2 i hi).weak hweak).mono ?_) ?_
            · rcases hX with hX | ⟨r', o, hne, ho, hb'⟩
              · exact hC.xd b hX r _ hob hb
              · exact hC.disj r' r o _ ho hob hne b hb' hb
            · rintro e w' ⟨u, m, f', xs', rfl, hR, q1, q2, q3, q4, q5⟩
              exact ⟨u, rfl, m, f', xs', hR, q1, q2, q3, q4, q5⟩
            · rintro u w' ⟨m, f', xs', hK, q1, q2, q3, q4, q5⟩
              obtain ⟨val', hC'⟩ := conc_turn (f' := f') hC hob (by simpa [Nat.blt_eq] using hlt) q3 q4 q5 q1 fun X' _ hX' i j hi hj => (q2 i j hi hj).weak hX'
              rw [hd]
              exact hn _ _ _ _ hK hC'
        · exact h.elim
      · exact h.elim
    · exact h.elim
  · exact h.elim

/-! ### calls that only look into own rows: what comes back is plain -/
def peekD (s : St) : E → D
  | .im d => d
  | .orow r => match s.ob r with
    | some (.row _ k n f) => .slice k n f
    | _ => .top
  | _ => .top
def litD : D → D
  | .lit v => .lit v
  | _ => .top
def peekL (C : Ctx) (s : St) : List Operand → List D
  | [] => []
  | x :: xs => peekD s (evalE C s x) :: peekL C s xs
def vCallPeek (C : Ctx) (s : St) (dst : Option Tmp) (g : E) (xs : List Operand) (K : St → Prop) : Prop :=
  match calleeE g with
  | some (g, n, f) => ACalls C g (peekL C s xs ++ capD n f) fun d => s.putO dst (.im (litD d)) K
  | none => False
theorem peekL_length (C : Ctx) (s : St) (xs : List Operand) : (peekL C s xs).length = xs.length := by induction xs with | nil => rfl | cons x xs ih => simp [peekL, ih]
theorem peekL_get (C : Ctx) (s : St) : ∀ (xs : List Operand) (i : Nat) (h : i < xs.length), (peekL C s xs).getD i .top = peekD s (evalE C s xs[i])
  | x :: xs, 0, _ => rfl
  | x :: xs, i + 1, h => by
    have := peekL_get C s xs i (by simpa using h)
    simpa [peekL] using this
theorem litD_ok {X X' : Nat → Prop} {w : World} {v : Value} {d : D} (h : Rel X w v d) : Rel X' w v (litD d) := by
  unfold litD
  split
  · rw [h.lit_inv]; exact .lit _
  · exact .top _
section
variable {C : Ctx} {w0 : World} {X0 : Fr} {s : St} {val : Nat → Value} {a : Act} {w : World}
theorem peekD_ok (hC : Conc C.gl w0 X0 s val a w) (x : Operand) : Rel X0 w (a.eval x) (peekD s (evalE C s x)) := by
  have hx : ∀ b, X0 b → XOf X0 s.ob val b := fun b hb => .inl hb
  have h := evalE_ok hC x
  cases he : evalE C s x with
  | im d => rw [he] at h; exact Rel.weak h hx
  | orow r =>
    rw [he] at h
    obtain ⟨hv, _⟩ := h
    simp only [peekD]
    split
    · rename_i t k n f hob
      rw [hv]
      exact row_rel (hC.ob r _ hob) hx fun b hb hX => hC.xd b hX r _ hob hb
    · exact .top _
  | own r o => exact .top _
  | oel r k i j => exact .top _
  | osub r k lo n => exact .top _
end
theorem step_callPeek {C : Ctx} {o : Oper} {s : St} {K : St → Prop} {x : Operand} {xs : Array Operand} {ts : Array TypeId} (ho : o.op = .call { callee := .value x, args := xs, argTypes := ts })
    (h : vCallPeek C s o.dst (evalE C s x) xs.toList K) : StepOk C o s K := by
  unfold vCallPeek at h
  split at h
  · rename_i g n f hx
    intro w0 X0 val a w hC Q next hn
    have hx0 : ∀ b, X0 b → XOf X0 s.ob val b := fun b hb => .inl hb
    obtain ⟨cs, e1, e2, e3⟩ := calleeE_ok hC hx
    have hex := exec_call (P := C.P) (w := w) ho e1 h.ent
    refine wp_enter hex (R := fun v w' => ∃ d, s.putO o.dst (.im (litD d)) K ∧ Rel X0 w' v d ∧ Below w.heap.size w w') ((h.out X0 w _ hC.x0 (fun q => (hC.gl q).weak hx0) (by simp [peekL_length, capD_length, e2]) (fun i hi => ?_)).mono ?_) ?_
    · rw [List.length_append, peekL_length, capD_length] at hi
      by_cases hlt : i < xs.toList.length
      · have h1 : (xs.map a.eval ++ cs).getD i undef = a.eval xs.toList[i] := by
          have hlt' : i < xs.size := by simpa using hlt
          rw [Array.getD_eq_getD_getElem?, Array.getElem?_append_left (by simpa using hlt')]
          simp [hlt']
        have h2 : (peekL C s xs.toList ++ capD n f).getD i .top = peekD s (evalE C s xs.toList[i]) := by
          rw [List.getD_eq_getElem?_getD, List.getElem?_append_left (by rw [peekL_length]; exact hlt), ← List.getD_eq_getElem?_getD]
          exact peekL_get C s xs.toList i hlt
        rw [h1, h2]; exact peekD_ok hC _
      · have hge : xs.size ≤ i := by simpa using hlt
        have h1 : (xs.map a.eval ++ cs).getD i undef = cs.getD (i - xs.size) undef := by
          rw [Array.getD_eq_getD_getElem?, Array.getElem?_append_right (by simpa using hge), Array.size_map, Array.getD_eq_getD_getElem?]
        have h2 : (peekL C s xs.toList ++ capD n f).getD i .top = f (i - xs.size) := by
          rw [List.getD_eq_getElem?_getD, List.getElem?_append_right (by rw [peekL_length]; simpa using hge), peekL_length, ← List.getD_eq_getElem?_getD]
          simp only [Array.length_toList]
          exact capD_get n f _ (by simp only [Array.length_toList] at hi; omega)
        rw [h1, h2]; exact (e3 _ (by simp only [Array.length_toList] at hi; omega)).weak hx0
    · rintro e w' ⟨v, d, rfl, hR, hv, hb⟩
      exact ⟨v, rfl, d, hR, hv, hb⟩
    · rintro v w' ⟨d, hK, hv, hb⟩
      obtain ⟨s', q1, q2⟩ := (hC.ext hb).putO (e := .im (litD d)) (litD_ok hv) hK
      exact hn _ _ _ _ q1 q2
  · exact h.elim
end Go.Vc

/-
  The verification condition of code: operations in a row, branches, loops, a function.
-/
set_option linter.unusedSimpArgs false
set_option linter.unusedSectionVars false
namespace Go.Vc
variable [Dr]

def topE : E := .im .top
/-! ### one told state is weaker than another -/
def DLe (d d' : D) : Prop := ∀ X w v, Rel X w v d → Rel X w v d'
theorem DLe.refl (d : D) : DLe d d := fun _ _ _ h => h
theorem DLe.trans {a b c : D} (h : DLe a b) (k : DLe b c) : DLe a c := fun X w v hr => k X w v (h X w v hr)
theorem DLe.of_eq {a b : D} (h : a = b) : DLe a b := h ▸ DLe.refl a
theorem DLe.top (d : D) : DLe d .top := fun _ _ v _ => .top v
theorem DLe.slice {k n : Nat} {f g : Nat → Nat → D} (h : ∀ i j, i < n → j < k → DLe (f i j) (g i j)) : DLe (.slice k n f) (.slice k n g) := by
  intro X w v hr
  obtain ⟨A, c, us, e, h1, h2, h3, h4, h5⟩ := hr.slice_inv
  subst e
  exact .slice A c k n g us h1 h2 h3 h4 fun i j hi hj => h i j hi hj _ _ _ (h5 i j hi hj)
theorem DLe.nil {k : Nat} {f : Nat → Nat → D} : DLe (.lit (.slice none 0 0)) (.slice k 0 f) := by
  intro X w v hr
  have := hr.lit_inv; subst this
  exact .slice none 0 k 0 f (fun _ _ => undef) (Nat.le_refl _) (Nat.zero_le _) (fun _ => rfl) (fun i j hi => absurd hi (Nat.not_lt_zero _)) fun i j hi => absurd hi (Nat.not_lt_zero _)
theorem DLe.agg {n : Nat} {f g : Nat → D} (h : ∀ j, j < n → DLe (f j) (g j)) : DLe (.agg n f) (.agg n g) := by
  intro X w v hr
  obtain ⟨cs, e, h1, h2⟩ := hr.agg_inv
  subst e
  exact .agg cs n g h1 fun j hj => h j hj _ _ _ (h2 j hj)
theorem DLe.tup {n : Nat} {f g : Nat → D} (h : ∀ j, j < n → DLe (f j) (g j)) : DLe (.tup n f) (.tup n g) := by
  intro X w v hr
  obtain ⟨cs, e, h1, h2⟩ := hr.tup_inv
  subst e
  exact .tup cs n g h1 fun j hj => h j hj _ _ _ (h2 j hj)
theorem DLe.ptr {n m : Nat} {f g : Nat → D} (hm : m ≤ n) (h : ∀ j, j < m → DLe (f j) (g j)) : DLe (.ptr n f) (.ptr m g) := by
  intro X w v hr
  obtain ⟨b, off, us, e, h1, h2⟩ := hr.ptr_inv
  subst e
  exact .ptr b off m g us (fun j hj => h1 j (by omega)) fun j hj => h j hj _ _ _ (h2 j (by omega))
theorem DLe.func {g : FuncId} {n : Nat} {f f' : Nat → D} (h : ∀ j, j < n → DLe (f j) (f' j)) : DLe (.func g n f) (.func g n f') := by
  intro X w v hr
  obtain ⟨cs, e, h1, h2⟩ := hr.func_inv
  subst e
  exact .func g cs n f' h1 fun j hj => h j hj _ _ _ (h2 j hj)

def ELe (e e' : E) : Prop :=
  match e' with
  | .im d' => match e with
    | .im d => DLe d d'
    | _ => match d' with
      | .top => True
      | _ => False
  | e' => e = e'
theorem ELe.refl (e : E) : ELe e e := by cases e <;> first | exact DLe.refl _ | rfl
theorem ELe.of_eq {e e' : E} (h : e = e') : ELe e e' := h ▸ ELe.refl e
theorem ELe.top (e : E) : ELe e topE := by cases e <;> first | exact DLe.top _ | trivial
theorem ELe.rel {X : Nat → Prop} {val : Nat → Value} {w : World} {v : Value} {e e' : E} (h : RelE X val w v e) (hle : ELe e e') : RelE X val w v e' := by
  cases e' with
  | im d' =>
    cases e with
    | im d => exact hle _ _ _ h
    | _ => cases d' <;> first | exact .top v | exact hle.elim
  | _ => cases hle; exact h

def ObLe : Ob → Ob → Prop
  | .box t n f, .box t' n' g => t = t' ∧ n = n' ∧ ∀ j, j < n → ELe (f j) (g j)
  | .row t k n f, .row t' k' n' g => t = t' ∧ k = k' ∧ n = n' ∧ ∀ i j, i < n → j < k → DLe (f i j) (g i j)
  | _, _ => False
theorem ObLe.refl (o : Ob) : ObLe o o := by
  cases o with
  | box t n f => exact ⟨rfl, rfl, fun j _ => ELe.refl _⟩
  | row t k n f => exact ⟨rfl, rfl, rfl, fun i j _ _ => DLe.refl _⟩
theorem ObLe.ok {X : Nat → Prop} {val : Nat → Value} {w : World} {base r : Nat} {o o' : Ob} (h : ObOk X val w base r o) (hle : ObLe o o') : ObOk X val w base r o' := by
  cases o with
  | box t n f =>
    cases o' with
    | box t' n' g =>
      obtain ⟨rfl, rfl, h3⟩ := hle
      obtain ⟨b, cs, q1, q2, q3, q4, q5⟩ := h
      exact ⟨b, cs, q1, q2, q3, q4, fun j hj => ELe.rel (q5 j hj) (h3 j hj)⟩
    | row => exact hle.elim
  | row t k n f =>
    cases o' with
    | box => exact hle.elim
    | row t' k' n' g =>
      obtain ⟨rfl, rfl, rfl, h3⟩ := hle
      obtain ⟨xs, q1, q2⟩ := h
      exact ⟨xs, q1, fun i j hi hj => h3 i j hi hj _ _ _ (q2 i j hi hj)⟩

def tmL : List (Nat × E) → Nat → E
  | [], _ => topE
  | (a, e) :: r, t => bif Nat.beq t a then e else tmL r t
def obL : List (Nat × Ob) → Nat → Option Ob
  | [], _ => none
  | (a, o) :: r, t => bif Nat.beq t a then some o else obL r t
def subT (s : St) : List (Nat × E) → Prop
  | [] => True
  | p :: r => ELe (s.tm p.1) p.2 ∧ subT s r
def subO (s : St) : List (Nat × Ob) → Prop
  | [] => True
  | p :: r => (match s.ob p.1 with | some o => ObLe o p.2 | none => False) ∧ subO s r
def Sub (s : St) (L : List (Nat × E)) (O : List (Nat × Ob)) : Prop := subT s L ∧ subO s O
theorem subT_ok {s : St} : ∀ {L : List (Nat × E)}, subT s L → ∀ t, ELe (s.tm t) (tmL L t)
  | [], _, t => ELe.top _
  | (a, e) :: r, h, t => by
    unfold tmL
    by_cases hh : t = a
    · subst hh; rw [beq_self]; exact h.1
    · rw [beq_false hh]; exact subT_ok h.2 t
theorem subO_ok {s : St} : ∀ {O : List (Nat × Ob)}, subO s O → ∀ r o, obL O r = some o → ∃ o', s.ob r = some o' ∧ ObLe o' o
  | [], _, r, o, h => by cases h
  | (a, q) :: rest, h, r, o, ho => by
    unfold obL at ho
    by_cases hh : r = a
    · subst hh
      rw [beq_self] at ho; cases ho
      obtain ⟨h1, _⟩ := h
      cases hs : s.ob r with
      | none => rw [hs] at h1; exact h1.elim
      | some o' => rw [hs] at h1; exact ⟨o', rfl, h1⟩
    · rw [beq_false hh] at ho; exact subO_ok h.2 r o ho
/-- The state in which just this is told. -/
def mkS (nt : Nat) (L : List (Nat × E)) (O : List (Nat × Ob)) : St := { nt := nt, tm := tmL L, ob := obL O }
theorem Conc.sub {gl : Nat → D} {w0 : World} {X0 : Fr} {s : St} {val : Nat → Value} {a : Act} {w : World} (h : Conc gl w0 X0 s val a w) {L : List (Nat × E)} {O : List (Nat × Ob)} (hs : Sub s L O) :
    Conc gl w0 X0 (mkS s.nt L O) val a w := by
  have hx : ∀ b, XOf X0 (obL O) val b → XOf X0 s.ob val b := by
    rintro b (hb | ⟨r, o, ho, hb⟩)
    · exact .inl hb
    · obtain ⟨o', ho', _⟩ := subO_ok hs.2 r o ho
      exact .inr ⟨r, o', ho', hb⟩
  have hm : ∀ v d, Rel (XOf X0 s.ob val) w v d → Rel (XOf X0 (obL O) val) w v d := fun v d hr => hr.weak hx
  exact { below := h.below, p0 := h.p0, kp := h.kp, size := h.size, defers := h.defers
          pd := fun b hX r o ho => by obtain ⟨o', ho', _⟩ := subO_ok hs.2 r o ho; exact h.pd b hX r o' ho'
          tm := fun t => (ELe.rel (h.tm t) (subT_ok hs.1 t)).move hm
          ob := fun r o ho => by
            obtain ⟨o', ho', hle⟩ := subO_ok hs.2 r o ho
            exact ObLe.ok ((h.ob r o' ho').move hm fun _ _ => rfl) hle
          disj := fun r1 r2 o1 o2 h1 h2 hne b hb => by
            obtain ⟨p1, q1, _⟩ := subO_ok hs.2 r1 o1 h1
            obtain ⟨p2, q2, _⟩ := subO_ok hs.2 r2 o2 h2
            exact h.disj r1 r2 p1 p2 q1 q2 hne b hb
          gl := fun g => hm _ _ (h.gl g) }

/-- The state is told anew. -/
structure VCut (K : St → Prop) (s : St) : Prop where
  out : ∃ L O, Sub s L O ∧ K (mkS s.nt L O)
theorem VCut.tell {K : St → Prop} {s : St} {N : Nat} (hN : s.nt = N) (L : List (Nat × E)) (O : List (Nat × Ob)) (h : Sub s L O) (hK : K (mkS N L O)) : VCut K s := ⟨L, O, h, hN ▸ hK⟩

/-- Hints: which temporaries hold own objects ('own': boxes that are written, rows that are appended to), which sums may wrap ('raw'), which calls return a row of their own making ('row': temporary, element type, cells), which calls write into their first argument. -/
structure Hint where
  own : List Nat := []
  raw : List Nat := []
  row : List (Nat × Nat × Nat) := []
  /-- Assignments of nil that begin a row: temporary, element type, cells. -/
  nil : List (Nat × Nat × Nat) := []
  /-- Regions that draw their order: number, how many operations may come in any order, which of them make own objects. -/
  draw : List (Nat × Nat × List Nat) := []
  /-- Calls (by what they write) of functions that write into the row that their first argument is. -/
  wr : List Nat := []
  /-- Calls of functions that take the row that their first argument is, and give back a row. -/
  take : List Nat := []
  /-- Calls of functions that only look into own rows, and give back a plain value. -/
  peek : List Nat := []
  /-- Regions behind which the state is told anew. -/
  cut : List Nat := []
  /-- Calls (by what they write) behind which the state is told anew. -/
  cutd : List Nat := []
def callKind (H : Hint) (dst : Option Tmp) : Nat :=
  match dst with
  | some d => bif memN H.wr d then 1 else bif memN H.take d then 2 else bif memN H.peek d then 3 else 0
  | none => 0
def drawO : List (Nat × Nat × List Nat) → Nat → Option (Nat × List Nat)
  | [], _ => none
  | (a, p) :: r, d => bif Nat.beq a d then some p else drawO r d
def memO (l : List Nat) : Option Tmp → Bool
  | some d => memN l d
  | none => false
def cutK (H : Hint) (dst : Option Tmp) (K : St → Prop) : St → Prop :=
  match memO H.cutd dst with
  | true => VCut K
  | false => K
def rowO : List (Nat × Nat × Nat) → Option Tmp → Option (Nat × Nat)
  | _, none => none
  | [], _ => none
  | (a, t, k) :: r, some d => bif Nat.beq a d then some (t, k) else rowO r (some d)

/-- Quiet operations: the entry that they yield. -/
def vQ (C : Ctx) (H : Hint) (s : St) (o : Oper) (k_ : E → Prop) : Prop :=
  match o.op with
  | .move x => k_ (evalE C s x)
  | .assign x => k_ (evalE C s x)
  | .pick c a b => vPick (evalE C s c) (evalE C s a) (evalE C s b) k_
  | .alloc t => match lookT C.ty t with
    | some i => vBoxI (.im (constD i.zero)) k_
    | none => False
  | .box _ x => vBoxI (evalE C s x) k_
  | .build t ps => vBuild C s t ps.toList k_
  | .buildSlice t n ps => vBuildSlice C s t n ps.toList fun _ k n f => k_ (.im (.slice k n f))
  | .load t x => vLoad C s t (evalE C s x) k_
  | .nilCheck x => vNilCheck (evalE C s x) k_
  | .binOp op t x y _ => vBin C (memO H.raw o.dst) op t (evalE C s x) (evalE C s y) k_
  | .unOp op _ x => vNot op (memO H.raw o.dst) (evalE C s x) k_
  | .convert a b x => vConvert C (memO H.raw o.dst) a b (evalE C s x) k_
  | .makeFunc (.func g) first caps => match first.toList with
    | [] => vMakeFunc C s g caps.toList k_
    | _ => False
  | .makeSlice t l c => vMake C t (evalE C s l) (evalE C s c) fun _ k n f => k_ (.im (.slice k n f))
  | .slice t x lo hi none => match elemSize C t with
    | some (_, k) => vSliceRow s k (evalE C s x) (lo.map (evalE C s)) (hi.map (evalE C s)) k_
    | none => vSlice C t (evalE C s x) (lo.map (evalE C s)) (hi.map (evalE C s)) k_
  | .fieldAddr t x f => vField (fieldOff C t f) (evalE C s x) k_
  | .field t x f => vPart C t f (evalE C s x) k_
  | .indexAddr t x ix => vIndexAddr s (elemSize C t) (evalE C s x) (evalE C s ix) k_
  | .index t x ix => vIndex C t (evalE C s x) (evalE C s ix) k_
  | .extract x ix => vExtract ix (evalE C s x) k_
  | .call { callee := .builtin .len, args, argTypes } => match args.toList, argTypes.toList with
    | [x], [t] => vLen C s t (evalE C s x) k_
    | _, _ => False
  | .call { callee := .builtin .max, args, .. } => match args.toList with
    | [x, y] => vMinMax true (evalE C s x) (evalE C s y) k_
    | _ => False
  | .call { callee := .builtin .min, args, .. } => match args.toList with
    | [x, y] => vMinMax false (evalE C s x) (evalE C s y) k_
    | _ => False
  | _ => False

theorem vQ_ok {C : Ctx} (hO : CtxOk C) {H : Hint} {s : St} {o : Oper} {k_ : E → Prop} (h : vQ C H s o k_) : ∃ e, k_ e ∧ StepQ C o s e := by
  unfold vQ at h
  split at h
  · rename_i x ho; exact step_move (.inl ho) h
  · rename_i x ho; exact step_move (.inr ho) h
  · rename_i c a b ho; exact step_pick ho h
  · rename_i t ho
    split at h
    · rename_i i hi; exact step_boxI h (lays_alloc hO ho hi)
    · exact h.elim
  · rename_i t x ho; exact step_boxI h (lays_box ho)
  · rename_i t ps ho; exact step_build hO ho h
  · rename_i t n ps ho
    obtain ⟨e, k, n, f, h1, h2⟩ := step_buildSlice hO ho h
    exact ⟨_, h1, h2.quiet⟩
  · rename_i t x ho; exact step_load hO ho h
  · rename_i x ho; exact step_nilCheck ho h
  · rename_i op t x y yt ho; exact step_binOp hO ho h
  · rename_i op t x ho; exact step_unOp ho h
  · rename_i a b x ho; exact step_convert hO ho h
  · rename_i g first caps ho
    split at h
    · rename_i hf
      obtain rfl : first = #[] := by cases first; simp_all
      exact step_makeFunc ho h
    · exact h.elim
  · rename_i t l c ho
    obtain ⟨e, k, n, f, h1, h2⟩ := step_makeSlice hO ho h
    exact ⟨_, h1, h2.quiet⟩
  · rename_i t x lo hi ho
    split at h
    · rename_i e k hes; exact step_sliceRow hO ho hes h
    · exact step_slice hO ho h
  · rename_i t x f ho; exact step_fieldAddr hO ho h
  · rename_i t x f ho; exact step_field hO ho h
  · rename_i t x ix ho; exact step_indexAddr hO ho h
  · rename_i t x ix ho; exact step_index hO ho h
  · rename_i x ix ho; exact step_extract ho h
  · rename_i args ts ho
    split at h
    · rename_i x t h1 h2; exact step_len hO ho h1 h2 h
    · exact h.elim
  · rename_i args ts ho
    split at h
    · rename_i x y h1; exact step_minmax (mx := true) (ts := ts) ho h1 h
    · exact h.elim
  · rename_i args ts ho
    split at h
    · rename_i x y h1; exact step_minmax (mx := false) (ts := ts) ho h1 h
    · exact h.elim
  · exact h.elim

/-! ### One operation, in its place -/
def isNil : E → Bool
  | .im (.lit (.slice none 0 0)) => true
  | _ => false
def frzQ (C : Ctx) (s : St) (o : Op) : St :=
  match o with
  | .box _ x => frzL C [x] s
  | .build _ ps => frzL C (ps.toList.map (·.2)) s
  | .buildSlice _ _ ps => frzL C (ps.toList.map (·.2)) s
  | .makeFunc _ _ caps => frbL C caps.toList (frzL C caps.toList s)
  | .load t x => frzLoad C s t (evalE C s x)
  | _ => s
def isNilC : Operand → Bool
  | .const (.slice none 0 0) => true
  | _ => false
theorem isNilC_ok {x : Operand} (h : isNilC x = true) : x = .const (.slice none 0 0) := by
  unfold isNilC at h
  split at h
  · rfl
  · cases h
def vNilRow (s : St) (dst : Option Tmp) (e k : Nat) (K : St → Prop) : Prop :=
  match dst with
  | some d => bif Nat.blt d s.nt then K (((s.forget d).own d (.row e k 0 fun _ _ => .top)).put d (.orow d)) else False
  | none => False
theorem step_nilRow {C : Ctx} {o : Oper} {s : St} {K : St → Prop} {e k : Nat} {x : Operand} (ho : o.op = .assign x) (hx : isNilC x = true) (h : vNilRow s o.dst e k K) : StepOk C o s K := by
  have hx := isNilC_ok hx
  subst hx
  unfold vNilRow at h
  split at h
  · rename_i d hd
    cases hlt : Nat.blt d s.nt with
    | false => rw [hlt] at h; exact h.elim
    | true =>
      rw [hlt] at h
      intro w0 X0 val a w hC Q next hn
      let val' : Nat → Value := fun q => if q = d then .slice none 0 0 else val q
      have hvo : ∀ r', r' ≠ d → val' r' = val r' := fun r' h => if_neg h
      have hvd : val' d = .slice none 0 0 := if_pos rfl
      have h1 := hC.forget d val' hvo
      have h2 := h1.newObj (r := d) (by simp [St.forget]) (o := .row e k 0 fun _ _ => .top) (Below.refl _ w) (by rw [hvd]; intro b hb; cases hb)
        ⟨[], by rw [hvd]; exact World.ownsRow_nil w _ e k, fun i j hi => absurd hi (Nat.not_lt_zero _)⟩
      have h3 := h2.put (d := d) (v := .slice none 0 0) (e := .orow d) (show d < s.nt by simpa [Nat.blt_eq] using hlt) ⟨hvd.symm, _, _, _, rfl⟩
      refine wp_value (v := .slice none 0 0) (w' := w) (by simp [execOp, ho, Act.eval]) ?_
      rw [hd]
      exact hn _ _ _ _ h h3
  · exact h.elim
/-- A slice against nil: it may be nil only if it is empty; both answers have to do. -/
structure VEqNil (n : Nat) (K : Bool → Prop) : Prop where
  out : ∀ b : Bool, (b = true → n = 0) → K b
def sliceLen : E → Option Nat
  | .im (.slice _ n _) => some n
  | _ => none
def eqNil (op : BinOp) (x : E) (y : Operand) : Option Nat :=
  match op with
  | .eql => match isNilC y with
    | true => sliceLen x
    | false => none
  | _ => none
theorem eqNil_ok {op : BinOp} {x : E} {y : Operand} {n : Nat} (h : eqNil op x y = some n) : op = .eql ∧ y = .const (.slice none 0 0) ∧ ∃ k f, x = .im (.slice k n f) := by
  unfold eqNil at h
  split at h
  · split at h
    · rename_i hy
      unfold sliceLen at h
      split at h
      · cases h; exact ⟨rfl, isNilC_ok hy, _, _, rfl⟩
      · cases h
    · cases h
  · cases h
def isSliceT (C : Ctx) (t : Nat) : Bool :=
  match lookT C.ty t with
  | some i => match i.desc with
    | .slice _ => true
    | _ => false
  | none => false
theorem isSliceT_ok {C : Ctx} (hO : CtxOk C) {t : Nat} (h : isSliceT C t = true) : ∃ e, C.P.underlying t = some (.slice e) := by
  unfold isSliceT at h
  split at h
  · rename_i i hi
    split at h
    · rename_i e hd; exact ⟨e, by rw [(hO.ty t i hi).1, hd]⟩
    · cases h
  · cases h
theorem step_eqNil {C : Ctx} (hO : CtxOk C) {o : Oper} {s : St} {K : St → Prop} {op : BinOp} {t yt n : Nat} {x y : Operand} (ho : o.op = .binOp op t x y yt) (hn : eqNil op (evalE C s x) y = some n) (ht : isSliceT C t = true)
    (h : VEqNil n fun b => s.putO o.dst (.im (.lit (.bool b))) K) : StepOk C o s K := by
  obtain ⟨rfl, rfl, k, f, hx⟩ := eqNil_ok hn
  obtain ⟨e, hu⟩ := isSliceT_ok hO ht
  intro w0 X0 val a w hC Q next hnx
  obtain ⟨A, c, us, e1, hnc, hcm, hAz, _⟩ := (eval_im hC hx).slice_inv
  have hrun : (execOp a.eval o).run C.P w = .ok (.value (.bool A.isNone)) w := by
    refine exec_bin ho ?_ ?_
    · rw [e1, eqGuard_at_slice]; rfl
    · rw [e1]
      exact Lib.run_eql_slice_nil w t e A n c 0 0 hu
  obtain ⟨s', q1, q2⟩ := hC.putO (v := .bool A.isNone) (e := .im (.lit (.bool A.isNone))) (.lit _) (h.out A.isNone fun hA => by
    have := hAz (Option.isNone_iff_eq_none.1 hA); omega)
  exact wp_value hrun (hnx _ _ _ _ q1 q2)
def vOp (C : Ctx) (H : Hint) (s : St) (o : Oper) (K : St → Prop) : Prop :=
  match o.op with
  | .store t a x => vStore C s o.dst t (evalE C s a) (evalE C s x) K
  | .call { callee := .builtin .append, args, argTypes } => match args.toList, argTypes.toList with
    | [x, y], [t, t'] => bif Nat.beq t t' then vAppend C (frzE s (evalE C s y)) o.dst t (evalE C (frzE s (evalE C s y)) x) (evalE C (frzE s (evalE C s y)) y) K else False
    | _, _ => False
  | .call { callee := .builtin .clear, args, argTypes } => match args.toList, argTypes.toList with
    | [x], [t] => vClear C s o.dst t (evalE C s x) K
    | _, _ => False
  | .call { callee := .value x, args, .. } => match callKind H o.dst with
    | 0 => match rowO H.row o.dst with
      | some (t, k) => vCallRow C (frzL C args.toList s) o.dst t k (evalE C (frzL C args.toList s) x) args.toList K
      | none => vCall C (frzL C args.toList s) o.dst (evalE C (frzL C args.toList s) x) args.toList (cutK H o.dst K)
    | 1 => match args.toList with
      | x0 :: xr => vCallMut C (frzL C xr s) o.dst (evalE C (frzL C xr s) x) (evalE C (frzL C xr s) x0) xr K
      | [] => False
    | 3 => vCallPeek C s o.dst (evalE C s x) args.toList K
    | _ => match args.toList with
      | x0 :: xr => vCallTake C (frzL C xr s) o.dst (evalE C (frzL C xr s) x) (evalE C (frzL C xr s) x0) xr K
      | [] => False
  | .binOp op t x y _ => match eqNil op (evalE C s x) y with
    | some n => bif isSliceT C t then VEqNil n fun b => s.putO o.dst (.im (.lit (.bool b))) K else False
    | none => vQ C H s o fun e => s.putO o.dst e K
  | .assign x => match isNilC x, rowO H.nil o.dst with
    | true, some (e, k) => vNilRow s o.dst e k K
    | _, _ => vQ C H s o fun e => s.putO o.dst e K
  | .alloc t => match memO H.own o.dst with
    | true => match lookT C.ty t with
      | some i => vBoxO s o.dst t (.im (constD i.zero)) K
      | none => False
    | false => vQ C H s o fun e => s.putO o.dst e K
  | .box t x => match memO H.own o.dst with
    | true => vBoxO s o.dst t (evalE C s x) K
    | false => vQ C H (frzQ C s o.op) o fun e => (frzQ C s o.op).putO o.dst e K
  | .buildSlice t n ps => match memO H.own o.dst with
    | true => vBuildSlice C (frzQ C s o.op) t n ps.toList fun e k n f => vNewRow (frzQ C s o.op) o.dst e k n f K
    | false => vQ C H (frzQ C s o.op) o fun e => (frzQ C s o.op).putO o.dst e K
  | .makeSlice t l c => match memO H.own o.dst with
    | true => vMake C t (evalE C s l) (evalE C s c) fun e k n f => vNewRow s o.dst e k n f K
    | false => vQ C H s o fun e => s.putO o.dst e K
  | _ => vQ C H (frzQ C s o.op) o fun e => (frzQ C s o.op).putO o.dst e K

section
variable {C : Ctx} {w0 : World} {X0 : Fr} {s : St} {val : Nat → Value} {a : Act} {w : World}
theorem Conc.frzQ (h : Conc C.gl w0 X0 s val a w) (o : Op) : Conc C.gl w0 X0 (frzQ C s o) val a w := by
  unfold Vc.frzQ
  split
  · exact h.frzL _
  · exact h.frzL _
  · exact h.frzL _
  · exact (h.frzL _).frbL _
  · exact h.frzLoad _ _
  · exact h
end
theorem StepOk.frzQ {C : Ctx} {o : Oper} {s : St} {K : St → Prop} (h : StepOk C o (frzQ C s o.op) K) : StepOk C o s K :=
  fun w0 X0 val a w hC Q next hn => h w0 X0 val a w (hC.frzQ o.op) Q next hn

theorem StepOk.cut {C : Ctx} {H : Hint} {o : Oper} {d : Option Tmp} {s : St} {K : St → Prop} (h : StepOk C o s (cutK H d K)) : StepOk C o s K :=
  fun w0 X0 val a w hC Q next hn => h w0 X0 val a w hC Q next fun s' val' a' w' hK hC' => by
    unfold cutK at hK
    cases hm : memO H.cutd d with
    | true =>
      rw [hm] at hK
      obtain ⟨L, O, hs, hk⟩ := hK
      exact hn _ _ _ _ hk (hC'.sub hs)
    | false => rw [hm] at hK; exact hn _ _ _ _ hK hC'
theorem vOp_ok {C : Ctx} (hO : CtxOk C) {H : Hint} {s : St} {o : Oper} {K : St → Prop} (h : vOp C H s o K) : StepOk C o s K := by
  unfold vOp at h
  split at h
  · rename_i t a x ho; exact step_store hO ho h
  · rename_i args ts ho
    split at h
    · rename_i x y t t' h1 h2
      cases hb : Nat.beq t t' with
      | false => rw [hb] at h; exact h.elim
      | true => rw [hb] at h; exact step_append hO ho h1 h2 hb h
    · exact h.elim
  · rename_i args ts ho
    split at h
    · rename_i x t h1 h2; exact step_clear hO ho h1 h2 h
    · exact h.elim
  · rename_i x args ts ho
    split at h
    · split at h
      · exact step_callRow ho h
      · exact StepOk.cut (step_call ho h)
    · split at h
      · rename_i x0 xr hxs; exact step_callMut ho hxs h
      · exact h.elim
    · exact step_callPeek ho h
    · split at h
      · rename_i x0 xr hxs; exact step_callTake ho hxs h
      · exact h.elim
  · rename_i op t x y yt ho
    split at h
    · rename_i n hn
      cases ht : isSliceT C t with
      | false => rw [ht] at h; exact h.elim
      | true => rw [ht] at h; exact step_eqNil hO ho hn ht h
    · exact StepQ.ok (vQ_ok hO h)
  · rename_i x ho
    split at h
    · rename_i e k hx _; exact step_nilRow ho hx h
    · exact StepQ.ok (vQ_ok hO h)
  · rename_i t ho
    split at h
    · split at h
      · rename_i i hi; exact step_boxO h (lays_alloc hO ho hi)
      · exact h.elim
    · exact StepQ.ok (vQ_ok hO h)
  · rename_i t x ho
    split at h
    · exact step_boxO h (lays_box ho)
    · exact StepOk.frzQ (StepQ.ok (vQ_ok hO h))
  · rename_i t n ps ho
    split at h
    · refine StepOk.frzQ ?_
      obtain ⟨e, k, n, f, h1, h2⟩ := step_buildSlice hO ho h
      exact h2.ok h1
    · exact StepOk.frzQ (StepQ.ok (vQ_ok hO h))
  · rename_i t l c ho
    split at h
    · obtain ⟨e, k, n, f, h1, h2⟩ := step_makeSlice hO ho h
      exact h2.ok h1
    · exact StepQ.ok (vQ_ok hO h)
  · exact StepOk.frzQ (StepQ.ok (vQ_ok hO h))

end Go.Vc

/-
  The verification condition of code: regions, branches, loops, a whole function.
-/
set_option linter.unusedSimpArgs false
set_option linter.unusedSectionVars false
namespace Go.Vc
variable [Dr]

/-- What an operation that is passed over leaves. -/
def undE : E := .im (.lit (.tuple #[]))
/-- The temporary whose value a guard asks for. -/
def guardT (ops : Array Oper) (o : Oper) : Option (Nat × Bool) :=
  match o.guard with
  | none => none
  | some (j, want) => match (ops.toList[j]?) with
    | some q => match q.dst with
      | some d => some (d, want)
      | none => none
    | none => none
def vOpsStep (C : Ctx) (H : Hint) (ops : Array Oper) (o : Oper) (rest : St → (St → Prop) → Prop) (s : St) (K : St → Prop) : Prop :=
  match o.guard with
  | none => vOp C H s o fun s' => rest s' K
  | some _ => match guardT ops o with
    | some (d, want) => match s.tm d with
      | .im (.lit (.bool b)) => ifB b
        (match want with
          | true => vOp C H (s.put d (.im (.lit (.bool true)))) o fun s' => rest s' K
          | false => (s.put d (.im (.lit (.bool true)))).putO o.dst undE fun s' => rest s' K)
        (match want with
          | false => vOp C H (s.put d (.im (.lit (.bool false)))) o fun s' => rest s' K
          | true => (s.put d (.im (.lit (.bool false)))).putO o.dst undE fun s' => rest s' K)
      | .im (.lit (.tuple _)) => s.putO o.dst undE fun s' => rest s' K
      | _ => False
    | none => False
/-- By the recursor itself: so that the kernel reduces it as the elaborator does. -/
noncomputable def vOps (C : Ctx) (H : Hint) (ops : Array Oper) (l : List Oper) : St → (St → Prop) → Prop :=
  List.rec (motive := fun _ => St → (St → Prop) → Prop) (fun s K => K s) (fun o _ ih => vOpsStep C H ops o ih) l
theorem vOps_cons (C : Ctx) (H : Hint) (ops : Array Oper) (o : Oper) (r : List Oper) : vOps C H ops (o :: r) = vOpsStep C H ops o (vOps C H ops r) := rfl

section
variable {C : Ctx} {w0 : World} {X0 : Fr} {s : St} {val : Nat → Value} {a : Act} {w : World}
/-- A temporary is told anew. -/
theorem Conc.tell (h : Conc C.gl w0 X0 s val a w) {d : Nat} {e : E} (he : RelE (XOf X0 s.ob val) val w (a.tmps.getD d undef) e) : Conc C.gl w0 X0 (s.put d e) val a w :=
  { below := h.below, p0 := h.p0, pd := h.pd, kp := h.kp, size := h.size, defers := h.defers, ob := h.ob, disj := h.disj, gl := h.gl
    tm := fun t => by
      show RelE _ _ _ _ (upd s.tm d e t)
      rw [upd_eq]; split
      · rename_i e'; subst e'; exact he
      · exact h.tm t }
theorem guard_none {o : Oper} (h : o.guard = none) (ops : Array Oper) (tm : Array Value) : Region.wanted o (yielded ops tm) = true := by simp [Region.wanted, h]
theorem yielded_of {ops : Array Oper} {o : Oper} {d : Nat} {want b : Bool} (hg : guardT ops o = some (d, want)) {tm : Array Value} (hv : tm.getD d undef = .bool b) :
    Region.wanted o (yielded ops tm) = (b == want) := by
  unfold guardT at hg
  split at hg
  · cases hg
  · rename_i j want' hgd
    split at hg
    · rename_i q hq
      split at hg
      · rename_i d' hd
        cases hg
        have h1 : ops[j]? = some q := by rw [← hq]; simp
        have h2 : tm[d]? = some (.bool b) := by
          rw [Array.getD_eq_getD_getElem?] at hv
          cases h : tm[d]? with
          | none => rw [h] at hv; simp [undef] at hv
          | some v => rw [h] at hv; simp at hv; rw [hv]
        simp [Region.wanted, hgd, yielded, h1, hd, h2]
      · cases hg
    · cases hg

theorem yielded_tup {ops : Array Oper} {o : Oper} {d : Nat} {want : Bool} {cs : Array Value} (hg : guardT ops o = some (d, want)) {tm : Array Value} (hv : tm.getD d undef = .tuple cs) :
    Region.wanted o (yielded ops tm) = false := by
  unfold guardT at hg
  split at hg
  · cases hg
  · rename_i j want' hgd
    split at hg
    · rename_i q hq
      split at hg
      · rename_i d' hd
        cases hg
        have h1 : ops[j]? = some q := by rw [← hq]; simp
        have h2 : yielded ops tm j = none := by
          simp only [yielded, h1, hd, Option.bind_some]
          rw [Array.getD_eq_getD_getElem?] at hv
          cases h : tm[d]? with
          | none => rfl
          | some v => rw [h] at hv; simp at hv; rw [hv]
        simp [Region.wanted, hgd, h2]
      · cases hg
    · cases hg

theorem vOps_ok (hO : CtxOk C) {H : Hint} {ops : Array Oper} {Q : Exit → Act → World → Prop} : ∀ (l : List Oper) {s : St} {K : St → Prop} {val : Nat → Value} {a : Act} {w : World},
    vOps C H ops l s K → Conc C.gl w0 X0 s val a w → (∀ s' val' a' w', K s' → Conc C.gl w0 X0 s' val' a' w' → Q .normal a' w') → wpList C.P ops Q l a w
  | [], s, K, val, a, w, h, hC, hn => hn _ _ _ _ h hC
  | o :: r, s, K, val, a, w, h, hC, hn => by
    rw [vOps_cons] at h
    unfold vOpsStep at h
    have run : ∀ (s1 : St), Conc C.gl w0 X0 s1 val a w → Region.wanted o (yielded ops a.tmps) = true → (vOp C H s1 o fun s' => vOps C H ops r s' K) → wpList C.P ops Q (o :: r) a w := by
      intro s1 hC1 hw h1
      unfold wpList
      rw [if_pos hw]
      exact .inl (vOp_ok hO h1 w0 X0 val a w hC1 Q _ fun s' val' a' w' hK hC' => vOps_ok hO r hK hC' hn)
    have skip : ∀ (s1 : St), Conc C.gl w0 X0 s1 val a w → Region.wanted o (yielded ops a.tmps) = false → (s1.putO o.dst undE fun s' => vOps C H ops r s' K) → wpList C.P ops Q (o :: r) a w := by
      intro s1 hC1 hw h1
      unfold wpList
      rw [if_neg (by rw [hw]; simp)]
      obtain ⟨s', q1, q2⟩ := hC1.putO (v := undef) (e := undE) (.lit _) h1
      exact vOps_ok hO r q1 q2 hn
    split at h
    · rename_i hg; exact run s hC (guard_none hg _ _) h
    · split at h
      · rename_i d want hgd
        split at h
        · rename_i b hd
          have hv : a.tmps.getD d undef = .bool b := by
            have := hC.tm d
            rw [hd] at this
            exact Rel.lit_inv this
          have hy := yielded_of hgd hv
          have ht : ∀ (b' : Bool), b = b' → Conc C.gl w0 X0 (s.put d (.im (.lit (.bool b')))) val a w := fun b' e => hC.tell (by rw [hv, e]; exact .lit _)
          cases b <;> cases want <;> simp only [ifB] at h
          · exact run _ (ht _ rfl) (by rw [hy]; rfl) h
          · exact skip _ (ht _ rfl) (by rw [hy]; rfl) h
          · exact skip _ (ht _ rfl) (by rw [hy]; rfl) h
          · exact run _ (ht _ rfl) (by rw [hy]; rfl) h
        · rename_i cs hd
          have hv : a.tmps.getD d undef = .tuple cs := by
            have := hC.tm d
            rw [hd] at this
            exact Rel.lit_inv this
          exact skip s hC (yielded_tup hgd hv) h
        · exact h.elim
      · exact h.elim
end

end Go.Vc

/-
  A region that draws its order: a part in any order, then a part in its order.
-/
set_option linter.unusedSimpArgs false
set_option linter.unusedSectionVars false
namespace Go.Vc
variable [Dr]

/-- A region that draws its order, whatever the order. -/
structure VDraw (C : Ctx) (ops : Array Oper) (s : St) (K : St → Prop) : Prop where
  out : ∀ w0 X0 val a w, Conc C.gl w0 X0 s val a w → ∀ (Q : Exit → Act → World → Prop), (∀ s' val' a' w', K s' → Conc C.gl w0 X0 s' val' a' w' → Q .normal a' w') →
    wpAny C.P .any ops Q ops.size (Array.replicate ops.size false) a w

def St.only (s : St) (ts ds : List Nat) : St := { nt := s.nt, tm := fun t => bif memN ts t then s.tm t else topE, ob := fun r => bif memN ds r then none else s.ob r }
/-- The temporaries that an operation looks at. -/
def opT : List Operand → List Nat
  | [] => []
  | .tmp t :: r => t :: opT r
  | _ :: r => opT r
def looksT (ops : Array Oper) (o : Oper) : List Nat :=
  match guardT ops o with
  | some (d, _) => d :: opT o.op.operands.toList
  | none => opT o.op.operands.toList
def wantS (ops : Array Oper) (o : Oper) (s : St) : Option Bool :=
  match o.guard with
  | none => some true
  | some _ => match guardT ops o with
    | some (d, want) => match s.tm d with
      | .im (.lit (.bool b)) => some (b == want)
      | .im (.lit (.tuple _)) => some false
      | _ => none
    | none => none

/-- A call of a function of which just one result is told. -/
def vCallQ (C : Ctx) (s : St) (g : E) (xs : List Operand) (k_ : E → Prop) : Prop :=
  match calleeE g with
  | some (g, n, f) => ∃ d, ACalls C g (argD C s xs ++ capD n f) (fun d' => d' = d) ∧ k_ (.im d)
  | none => False
def vQd (C : Ctx) (H : Hint) (s : St) (o : Oper) (k_ : E → Prop) : Prop :=
  match o.op with
  | .call { callee := .value x, args, .. } => vCallQ C s (evalE C s x) args.toList k_
  | _ => vQ C H s o k_
theorem step_callQ {C : Ctx} {o : Oper} {s : St} {k_ : E → Prop} {x : Operand} {xs : Array Operand} {ts : Array TypeId} (ho : o.op = .call { callee := .value x, args := xs, argTypes := ts })
    (h : vCallQ C s (evalE C s x) xs.toList k_) : ∃ e, k_ e ∧ StepQ C o s e := by
  unfold vCallQ at h
  split at h
  · rename_i g n f hx
    obtain ⟨d, hc, hk⟩ := h
    refine ⟨_, hk, ?_⟩
    intro w0 X0 val a w hC Q next hn
    obtain ⟨cs, e1, e2, e3⟩ := calleeE_ok hC hx
    have hex := exec_call (P := C.P) (w := w) ho e1 hc.ent
    obtain ⟨h1, h2⟩ := args_rel hC xs.toList e2 e3
    have hmap : (xs.toList.map a.eval).toArray = xs.map a.eval := by rw [← Array.toList_map, Array.toArray_toList]
    rw [hmap] at h1 h2
    refine wp_enter hex (R := fun v w' => Rel (XOf X0 s.ob val) w' v d ∧ Below w.heap.size w w') ((hc.out _ w _ hC.xlt hC.gl h1 h2).mono ?_) ?_
    · rintro e w' ⟨v, d', rfl, rfl, hv, hb⟩
      exact ⟨v, rfl, hv, hb⟩
    · rintro v w' ⟨hv, hb⟩
      exact hn v w' hb hv
  · exact h.elim
theorem vQd_ok {C : Ctx} (hO : CtxOk C) {H : Hint} {s : St} {o : Oper} {k_ : E → Prop} (h : vQd C H s o k_) : ∃ e, k_ e ∧ StepQ C o s e := by
  unfold vQd at h
  split at h
  · rename_i x args ts ho; exact step_callQ ho h
  · exact vQ_ok hO h

theorem bif_and {b : Bool} {A : Prop} (h : bif b then A else False) : b = true ∧ A := by cases b; exact h.elim; exact ⟨rfl, h⟩
theorem memN_iff {l : List Nat} {t : Nat} : memN l t = true ↔ t ∈ l := by
  induction l with
  | nil => simp [memN]
  | cons a r ih =>
    unfold memN
    by_cases e : a = t
    · subst e; simp [beq_self]
    · rw [beq_false e]; simp [ih, Ne.symm e]
theorem opT_iff {l : List Operand} {t : Nat} : t ∈ opT l ↔ .tmp t ∈ l := by
  induction l with
  | nil => simp [opT]
  | cons x r ih => cases x <;> simp [opT, ih]

def menE : E → Option Nat
  | .im _ => none
  | .own r _ => some r
  | .oel r _ _ _ => some r
  | .osub r _ _ _ => some r
  | .orow r => some r
def menOk (ds : List Nat) (e : E) : Bool :=
  match menE e with
  | some r => !memN ds r
  | none => true

section
variable {C : Ctx} {w0 : World} {X0 : Fr} {s : St} {val : Nat → Value} {a : Act} {w : World}
/-- Some temporaries and some objects are put out of sight; the blocks of the objects stay out of reach. -/
theorem Conc.only (h : Conc C.gl w0 X0 s val a w) (ts ds : List Nat) : ∃ X1, Conc C.gl w0 X1 (s.only ts ds) val a w ∧ XOf X1 (s.only ts ds).ob val = XOf X0 s.ob val := by
  let X1 : Fr := { X0 with x := fun b => X0 b ∨ ∃ r o, memN ds r = true ∧ s.ob r = some o ∧ blk (val r) = some b }
  have hsome : ∀ r o, (s.only ts ds).ob r = some o → memN ds r = false ∧ s.ob r = some o := by
    intro r o ho
    simp only [St.only] at ho
    cases hm : memN ds r with
    | true => rw [hm] at ho; cases ho
    | false => rw [hm] at ho; exact ⟨rfl, ho⟩
  have hX : XOf X1 (s.only ts ds).ob val = XOf X0 s.ob val := by
    funext b; apply propext
    constructor
    · rintro ((h | ⟨r, o, _, ho, hb⟩) | ⟨r, o, ho, hb⟩)
      · exact .inl h
      · exact .inr ⟨r, o, ho, hb⟩
      · exact .inr ⟨r, o, (hsome r o ho).2, hb⟩
    · rintro (h | ⟨r, o, ho, hb⟩)
      · exact .inl (.inl h)
      · cases hm : memN ds r with
        | true => exact .inl (.inr ⟨r, o, hm, ho, hb⟩)
        | false => exact .inr ⟨r, o, by simp only [St.only, hm, cond_false]; exact ho, hb⟩
  refine ⟨X1, ?_, hX⟩
  exact { below := h.below, size := h.size, defers := h.defers
          kp := h.kp
          p0 := by
            rintro b ((hb | ⟨r, o, _, ho, hb⟩) | hb)
            · exact h.p0 b (.inl hb)
            · exact ((h.ob r o ho).lt hb).2
            · exact h.p0 b (.inr hb)
          pd := by
            rintro b ((hb | ⟨r', o', hm', ho', hb'⟩) | hb) r o ho hb2
            · exact h.pd b (.inl hb) r o (hsome r o ho).2 hb2
            · obtain ⟨hm, ho2⟩ := hsome r o ho
              have hne : r' ≠ r := fun e => by subst e; rw [hm'] at hm; cases hm
              exact h.disj r' r o' o ho' ho2 hne b hb' hb2
            · exact h.pd b (.inr hb) r o (hsome r o ho).2 hb2
          tm := fun t => by
            rw [hX]
            show RelE _ _ _ _ (bif memN ts t then s.tm t else topE)
            cases memN ts t with
            | true => exact h.tm t
            | false => exact .top _
          ob := fun r o ho => by rw [hX]; exact h.ob r o (hsome r o ho).2
          disj := fun r r' o o' h1 h2 => h.disj r r' o o' (hsome r o h1).2 (hsome r' o' h2).2
          gl := fun g => by rw [hX]; exact h.gl g }
end

/-- What an operation of the free part does to the told state. -/
inductive Pk where
  | q (e : E)
  | new (t n : Nat) (f : Nat → D)

/-- The local fact about an operation, in a state in which just what it looks at is told. -/
def Loc (C : Ctx) (ops : Array Oper) (o : Oper) (s0 : St) : Pk → Prop
  | .q e => (wantS ops o s0 = some true ∧ StepQ C o s0 e) ∨ (wantS ops o s0 = some false ∧ e = undE)
  | .new t n f => o.guard = none ∧ (∃ d, o.dst = some d ∧ d < s0.nt) ∧ ∀ w0 X0 val a w, Conc C.gl w0 X0 s0 val a w → ∃ v : Value, (execOp a.eval o).run C.P w = .ok (.value (.pointer (some ⟨w.heap.size, 0, none⟩))) (w.alloc (.cells v.cells t)) ∧
      v.cells.size = n ∧ ∀ j, j < n → Rel (XOf X0 s0.ob val) w (v.cells.getD j undef) (f j)
def St.app (s : St) (dst : Option Tmp) (p : Pk) : St :=
  match dst with
  | none => s
  | some d => match p with
    | .q e => s.put d e
    | .new t n f => (s.own d (.box t n fun j => .im (f j))).put d (.own d 0)

/-- The walk through the free part, in the order of the text. -/
def vPreStep (C : Ctx) (H : Hint) (ops : Array Oper) (ds : List Nat) (o : Oper) (rest : St → (St → Prop) → Prop) (s : St) (K : St → Prop) : Prop :=
  match o.op, memO ds o.dst with
    | .alloc t, true => match o.guard, lookT C.ty t, o.dst with
      | none, some i, some d => match cellsOfE (.im (constD i.zero)) with
        | some (n, f) => bif Nat.blt d s.nt then rest (s.app (some d) (.new t n fun j => imD (f j))) K else False
        | none => False
      | _, _, _ => False
    | _, true => False
    | _, false => match o.guard with
      | none => vQd C H (s.only (looksT ops o) ds) o fun e => bif menOk ds e then match o.dst with
        | some d => bif Nat.blt d s.nt then rest (s.put d e) K else False
        | none => False else False
      | some _ => match guardT ops o with
        | some (d, want) => match s.tm d with
          | .im (.lit (.bool b)) => ifB b
            (match want with
              | true => vQd C H ((s.put d (.im (.lit (.bool true)))).only (looksT ops o) ds) o fun e => bif menOk ds e then match o.dst with
                | some d' => bif Nat.blt d' s.nt then rest ((s.put d (.im (.lit (.bool true)))).put d' e) K else False
                | none => False else False
              | false => match o.dst with
                | some d' => bif Nat.blt d' s.nt then rest ((s.put d (.im (.lit (.bool true)))).put d' undE) K else False
                | none => False)
            (match want with
              | false => vQd C H ((s.put d (.im (.lit (.bool false)))).only (looksT ops o) ds) o fun e => bif menOk ds e then match o.dst with
                | some d' => bif Nat.blt d' s.nt then rest ((s.put d (.im (.lit (.bool false)))).put d' e) K else False
                | none => False else False
              | true => match o.dst with
                | some d' => bif Nat.blt d' s.nt then rest ((s.put d (.im (.lit (.bool false)))).put d' undE) K else False
                | none => False)
          | .im (.lit (.tuple _)) => match o.dst with
            | some d' => bif Nat.blt d' s.nt then rest (s.put d' undE) K else False
            | none => False
          | _ => False
        | none => False

noncomputable def vPre (C : Ctx) (H : Hint) (ops : Array Oper) (ds : List Nat) (l : List Oper) : St → (St → Prop) → Prop :=
  List.rec (motive := fun _ => St → (St → Prop) → Prop) (fun s K => K s) (fun o _ ih => vPreStep C H ops ds o ih) l
theorem vPre_cons (C : Ctx) (H : Hint) (ops : Array Oper) (ds : List Nat) (o : Oper) (r : List Oper) : vPre C H ops ds (o :: r) = vPreStep C H ops ds o (vPre C H ops ds r) := rfl

/-- The chain that the walk shows: of each operation its local fact in the state that the text's order comes to. -/
inductive Chain (C : Ctx) (ops : Array Oper) (ds : List Nat) : List Oper → St → List Pk → St → Prop where
  | nil (s : St) : Chain C ops ds [] s [] s
  | cons {o : Oper} {r : List Oper} {s s' : St} {p : Pk} {ps : List Pk} (hd : ∃ d, o.dst = some d ∧ d < s.nt) (hl : Loc C ops o (s.only (looksT ops o) ds) p)
      (hm : match p with | .q e => menOk ds e = true ∧ memO ds o.dst = false | .new _ _ _ => memO ds o.dst = true) (ht : Chain C ops ds r (s.app o.dst p) ps s') : Chain C ops ds (o :: r) s (p :: ps) s'

theorem put_self {s : St} {d : Nat} {e : E} (h : s.tm d = e) : s.put d e = s := by
  cases s with
  | mk nt tm ob =>
    simp only [St.put, St.mk.injEq, true_and, and_true]
    funext t
    rw [upd_eq]; split
    · rename_i e'; subst e'; exact h.symm
    · rfl

theorem looks_guard {ops : Array Oper} {o : Oper} {d : Nat} {want : Bool} (h : guardT ops o = some (d, want)) : memN (looksT ops o) d = true := by
  unfold looksT; rw [h]; unfold memN; rw [beq_self]; rfl

theorem vPre_chain {C : Ctx} (hO : CtxOk C) {H : Hint} {ops : Array Oper} {ds : List Nat} : ∀ (l : List Oper) {s : St} {K : St → Prop}, vPre C H ops ds l s K → ∃ ps s', Chain C ops ds l s ps s' ∧ K s'
  | [], s, K, h => ⟨[], s, .nil s, h⟩
  | o :: r, s, K, h => by
    rw [vPre_cons] at h
    unfold vPreStep at h
    split at h
    · rename_i t ho hm
      split at h
      · rename_i i d hg hi hd
        split at h
        · rename_i n f hc
          cases hlt : Nat.blt d s.nt with
          | false => rw [hlt] at h; exact h.elim
          | true =>
            rw [hlt] at h
            have hdn : d < s.nt := by simpa [Nat.blt_eq] using hlt
            obtain ⟨ps, s', h1, h2⟩ := vPre_chain hO r h
            refine ⟨.new t n (fun j => imD (f j)) :: ps, s', .cons ⟨d, hd, hdn⟩ ⟨hg, ⟨d, hd, hdn⟩, fun w0 X0 val a w hC => ?_⟩ hm (by rw [hd]; exact h1), h2⟩
            obtain ⟨v, q1, q2⟩ := lays_alloc hO ho hi w0 X0 val a w hC
            obtain ⟨q3, q4⟩ := cellsOfE_ok q2 hc
            exact ⟨v, q1, q3, fun j hj => imD_ok (q4 j hj)⟩
        · exact h.elim
      · exact h.elim
    · exact h.elim
    · rename_i hm
      have quiet : ∀ s1 : St, s1 = s → (wantS ops o (s1.only (looksT ops o) ds) = some true) → (vQd C H (s1.only (looksT ops o) ds) o fun e => bif menOk ds e then match o.dst with
          | some d => bif Nat.blt d s.nt then vPre C H ops ds r (s1.put d e) K else False
          | none => False else False) → ∃ ps s', Chain C ops ds (o :: r) s ps s' ∧ K s' := by
        rintro s1 rfl hw hq
        obtain ⟨e, hk0, hs⟩ := vQd_ok hO hq
        obtain ⟨hme, hk⟩ := bif_and hk0
        split at hk
        · rename_i d hd
          cases hlt : Nat.blt d s1.nt with
          | false => rw [hlt] at hk; exact hk.elim
          | true =>
            rw [hlt] at hk
            have hdn : d < s1.nt := by simpa [Nat.blt_eq] using hlt
            obtain ⟨ps, s', h1, h2⟩ := vPre_chain hO r hk
            exact ⟨.q e :: ps, s', .cons ⟨d, hd, hdn⟩ (Or.inl ⟨hw, hs⟩) ⟨hme, hm⟩ (by rw [hd]; exact h1), h2⟩
        · exact hk.elim
      have skip : ∀ s1 : St, s1 = s → (wantS ops o (s1.only (looksT ops o) ds) = some false) → (match o.dst with
          | some d => bif Nat.blt d s.nt then vPre C H ops ds r (s1.put d undE) K else False
          | none => False) → ∃ ps s', Chain C ops ds (o :: r) s ps s' ∧ K s' := by
        rintro s1 rfl hw hk
        split at hk
        · rename_i d hd
          cases hlt : Nat.blt d s1.nt with
          | false => rw [hlt] at hk; exact hk.elim
          | true =>
            rw [hlt] at hk
            have hdn : d < s1.nt := by simpa [Nat.blt_eq] using hlt
            obtain ⟨ps, s', h1, h2⟩ := vPre_chain hO r hk
            exact ⟨.q undE :: ps, s', .cons ⟨d, hd, hdn⟩ (Or.inr ⟨hw, rfl⟩) ⟨rfl, hm⟩ (by rw [hd]; exact h1), h2⟩
        · exact hk.elim
      split at h
      · rename_i hg
        exact quiet s rfl (by simp [wantS, hg]) h
      · rename_i gd hg
        split at h
        · rename_i d want hgt
          split at h
          · rename_i b hd
            have hwant : ∀ b', b = b' → wantS ops o ((s.put d (.im (.lit (.bool b')))).only (looksT ops o) ds) = some (b' == want) := by
              intro b' hb
              simp only [wantS, hg, hgt, St.only, looks_guard hgt, cond_true, St.put, upd_same]
            have hself : ∀ b', b = b' → s.put d (.im (.lit (.bool b'))) = s := fun b' e => put_self (by rw [hd, e])
            cases b <;> cases want <;> simp only [ifB] at h
            · exact quiet _ (hself _ rfl) (hwant _ rfl) h
            · exact skip _ (hself _ rfl) (hwant _ rfl) h
            · exact skip _ (hself _ rfl) (hwant _ rfl) h
            · exact quiet _ (hself _ rfl) (hwant _ rfl) h
          · rename_i cs hd
            exact skip s rfl (by simp only [wantS, hg, hgt, St.only, looks_guard hgt, cond_true, hd]) h
          · exact h.elim
        · exact h.elim

end Go.Vc
