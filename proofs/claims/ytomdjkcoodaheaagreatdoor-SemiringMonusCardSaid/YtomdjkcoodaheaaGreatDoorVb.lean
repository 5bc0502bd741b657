/-
  Operations, third part: values.
-/
import Derived.Test.YtomdjkcoodaheaaGreatDoorVa
set_option linter.unusedSectionVars false
set_option linter.unusedSimpArgs false
set_option linter.unusedVariables false
set_option linter.unusedSimpArgs false
set_option linter.unusedSectionVars false
namespace Go.Vc
variable [Dr]

/-! ### field of a value, component of a tuple, function values -/
def vPart (C : Ctx) (t fld : Nat) (e : E) (k_ : E → Prop) : Prop :=
  match lookT C.ty t with
  | some i => match i.desc with
    | .struct fs => match fs.toList[fld]? with
      | some q => match lookT C.ty q.type with
        | some j => match e with
          | .im (.agg n f) => match isAggD j.desc with
            | true => bif Nat.ble (q.offset + j.size) n then k_ (.im (.agg j.size fun x => f (q.offset + x))) else False
            | false => bif Nat.blt q.offset n then k_ (.im (f q.offset)) else False
          | _ => False
        | none => False
      | none => False
    | _ => False
  | none => False
theorem getD_extract (cs : Array Value) (a b j : Nat) (h : a + j < b) (hb : b ≤ cs.size) : (cs.extract a b).getD j undef = cs.getD (a + j) undef := by
  have h1 : j < (cs.extract a b).size := by simp; omega
  have h2 : a + j < cs.size := by omega
  simp [Array.getD_eq_getD_getElem?, h2, show j < min b cs.size - a by omega]
theorem step_field {C : Ctx} (hO : CtxOk C) {o : Oper} {s : St} {k_ : E → Prop} {t fld : Nat} {x : Operand} (ho : o.op = .field t x fld) (h : vPart C t fld (evalE C s x) k_) : ∃ e_, k_ e_ ∧ StepQ C o s e_ := by
  unfold vPart at h
  split at h
  · rename_i i hi
    split at h
    · rename_i fs hd
      split at h
      · rename_i q hq
        split at h
        · rename_i j hj
          have hu := (hO.ty t i hi).1
          rw [hd] at hu
          have hq' : fs[fld]? = some q := by rw [← hq]; simp
          have hT := hO.ty _ j hj
          split at h
          · rename_i n f hx
            split at h
            · rename_i hagg
              cases hle : Nat.ble (q.offset + j.size) n with
              | false => rw [hle] at h; exact h.elim
              | true =>
                rw [hle] at h
                have hle' := Nat.le_of_ble_eq_true hle
                refine ⟨_, h, StepQ.val _ fun w0 X0 val a w hC => ?_⟩
                obtain ⟨cs, e, hn, hr⟩ := (eval_im hC hx).agg_inv
                refine ⟨.agg (cs.extract q.offset (q.offset + j.size)), exec_v (m := Instr.field t (a.eval x) fld) (by simp only [execOp, ho]) ?_, ?_⟩
                · simp [e, Instr.field, run_underlying' hu, hq', asAgg, part, hT.run_isAgg, hagg, hT.run_sizeOf]
                · refine Rel.agg _ j.size _ (by simp; omega) fun y hy => ?_
                  rw [getD_extract _ _ _ _ (by omega) (by omega)]
                  exact hr _ (by omega)
            · rename_i hagg
              cases hlt : Nat.blt q.offset n with
              | false => rw [hlt] at h; exact h.elim
              | true =>
                rw [hlt] at h
                have hlt' : q.offset < n := by simpa [Nat.blt_eq] using hlt
                refine ⟨_, h, StepQ.val _ fun w0 X0 val a w hC => ?_⟩
                obtain ⟨cs, e, hn, hr⟩ := (eval_im hC hx).agg_inv
                refine ⟨cs.getD q.offset undef, exec_v (m := Instr.field t (a.eval x) fld) (by simp only [execOp, ho]) ?_, hr _ hlt'⟩
                have hlt2 : q.offset < cs.size := by omega
                simp [e, Instr.field, run_underlying' hu, hq', asAgg, part, hT.run_isAgg, hagg, hlt2, Array.getD_eq_getD_getElem?]
          · exact h.elim
        · exact h.elim
      · exact h.elim
    · exact h.elim
  · exact h.elim

def vExtract (ix : Nat) (e : E) (k_ : E → Prop) : Prop :=
  match e with
  | .im (.tup n f) => bif Nat.blt ix n then k_ (.im (f ix)) else False
  | _ => False
theorem step_extract {C : Ctx} {o : Oper} {s : St} {k_ : E → Prop} {ix : Nat} {x : Operand} (ho : o.op = .extract x ix) (h : vExtract ix (evalE C s x) k_) : ∃ e_, k_ e_ ∧ StepQ C o s e_ := by
  unfold vExtract at h
  split at h
  · rename_i n f hx
    cases hlt : Nat.blt ix n with
    | false => rw [hlt] at h; exact h.elim
    | true =>
      rw [hlt] at h
      have hlt' : ix < n := by simpa [Nat.blt_eq] using hlt
      refine ⟨_, h, StepQ.val _ fun w0 X0 val a w hC => ?_⟩
      obtain ⟨cs, e, hn, hr⟩ := (eval_im hC hx).tup_inv
      refine ⟨cs.getD ix undef, exec_v (m := Instr.extract (a.eval x) ix) (by simp only [execOp, ho]) ?_, hr _ hlt'⟩
      have hlt2 : ix < cs.size := by omega
      simp [e, Instr.extract, hlt2, Array.getD_eq_getD_getElem?]
  · exact h.elim

def vMakeFunc (C : Ctx) (s : St) (g : FuncId) (caps : List Operand) (k_ : E → Prop) : Prop :=
  k_ (.im (.func g caps.length fun j => imD (evalE C s (caps.getD j (.const undef)))))
theorem step_makeFunc {C : Ctx} {o : Oper} {s : St} {k_ : E → Prop} {g : FuncId} {caps : Array Operand} (ho : o.op = .makeFunc (.func g) #[] caps) (h : vMakeFunc C s g caps.toList k_) : ∃ e_, k_ e_ ∧ StepQ C o s e_ := by
  refine ⟨_, h, StepQ.val _ fun w0 X0 val a w hC => ⟨.func (.func g) #[] (caps.map a.eval), by simp [execOp, ho, Instr.makeFunc], ?_⟩⟩
  refine Rel.func g _ caps.toList.length _ (by simp) fun j hj => ?_
  have hj' : j < caps.size := by simpa using hj
  have := imD_ok (evalE_ok hC (caps.toList.getD j (.const undef)))
  simpa [Array.getD_eq_getD_getElem?, hj', List.getD_eq_getElem?_getD] using this

/-! ### len, min, max -/
def vLen (C : Ctx) (s : St) (t : Nat) (e : E) (k_ : E → Prop) : Prop :=
  match lookT C.ty t with
  | none => False
  | some i => match i.desc, e with
    | .string, .im (.lit (.string b)) => k_ (.im (.lit (.int .i64 (b.size : Int))))
    | .slice _, .im (.slice _ n _) => k_ (.im (.lit (.int .i64 (n : Int))))
    | .slice _, .im (.lit (.slice _ n _)) => k_ (.im (.lit (.int .i64 (n : Int))))
    | .slice _, .orow r => match s.ob r with
      | some (.row _ _ n _) => k_ (.im (.lit (.int .i64 (n : Int))))
      | _ => False
    | .slice _, .osub _ _ _ n => k_ (.im (.lit (.int .i64 (n : Int))))
    | _, _ => False
theorem row_len {X : Nat → Prop} {val : Nat → Value} {w : World} {base r t k n : Nat} {f : Nat → Nat → D} (h : ObOk X val w base r (.row t k n f)) : ∃ A c, val r = .slice A n c := by
  obtain ⟨xs, ⟨hl, hrow⟩, h2⟩ := h
  rcases hrow with ⟨e, rfl⟩ | ⟨g, cap, cur, e1, _⟩
  · exact ⟨none, 0, e⟩
  · exact ⟨_, _, e1⟩
theorem step_len {C : Ctx} (hO : CtxOk C) {o : Oper} {s : St} {k_ : E → Prop} {t : Nat} {x : Operand} {ts : Array TypeId} {xs : Array Operand} (ho : o.op = .call { callee := .builtin .len, args := xs, argTypes := ts }) (hxs : xs.toList = [x]) (hts : ts.toList = [t]) (h : vLen C s t (evalE C s x) k_) : ∃ e_, k_ e_ ∧ StepQ C o s e_ := by
  obtain rfl : xs = #[x] := by cases xs; simp_all
  obtain rfl : ts = #[t] := by cases ts; simp_all
  have ex : ∀ (a : Act), execOp a.eval o = Builtin.len_ #[t] o.type #[a.eval x] >>= fun x => pure (Next.value x) := fun a => by
    simp [execOp, ho, resolve, invoke, builtin]
  unfold vLen at h
  split at h
  · exact h.elim
  · rename_i i hi
    have hu := (hO.ty t i hi).1
    split at h
    · rename_i b hd hx
      refine ⟨_, h, StepQ.val _ fun w0 X0 val a w hC => ⟨_, exec_v (ex a) ?_, .lit _⟩⟩
      rw [(eval_im hC hx).lit_inv]
      simp [Builtin.len_, run_underlying' hu, hd, goInt]
    · rename_i e n k f hd hx
      refine ⟨_, h, StepQ.val _ fun w0 X0 val a w hC => ?_⟩
      obtain ⟨A, c, us, e1, _⟩ := (eval_im hC hx).slice_inv
      refine ⟨_, exec_v (ex a) ?_, .lit _⟩
      rw [e1]; simp [Builtin.len_, run_underlying' hu, hd, goInt]
    · rename_i e A n c hd hx
      refine ⟨_, h, StepQ.val _ fun w0 X0 val a w hC => ⟨_, exec_v (ex a) ?_, .lit _⟩⟩
      rw [(eval_im hC hx).lit_inv]
      simp [Builtin.len_, run_underlying' hu, hd, goInt]
    · rename_i e r hd hx
      split at h
      · rename_i bt k n f hob
        refine ⟨_, h, StepQ.val _ fun w0 X0 val a w hC => ?_⟩
        obtain ⟨A, c, e1⟩ := row_len (hC.ob r _ hob)
        refine ⟨_, exec_v (ex a) ?_, .lit _⟩
        rw [(eval_orow hC hx).1, e1]; simp [Builtin.len_, run_underlying' hu, hd, goInt]
      · exact h.elim
    · rename_i e r k lo n hd hx
      refine ⟨_, h, StepQ.val _ fun w0 X0 val a w hC => ?_⟩
      obtain ⟨b, N, c, c', e1, e2, _⟩ := eval_osub hC hx
      refine ⟨_, exec_v (ex a) ?_, .lit _⟩
      rw [e2]; simp [Builtin.len_, run_underlying' hu, hd, goInt]
    · exact h.elim

def vMinMax (mx : Bool) (x y : E) (k_ : E → Prop) : Prop :=
  match x, y with
  | .im (.lit (.int k a)), .im (.lit (.int _ b)) => k_ (.im (.lit (.int k (bif mx then (if b > a then b else a) else (if b < a then b else a)))))
  | _, _ => False
theorem step_minmax {C : Ctx} {o : Oper} {s : St} {k_ : E → Prop} {mx : Bool} {x y : Operand} {ts : Array TypeId} {xs : Array Operand} (ho : o.op = .call { callee := .builtin (bif mx then .max else .min), args := xs, argTypes := ts }) (hxs : xs.toList = [x, y])
    (h : vMinMax mx (evalE C s x) (evalE C s y) k_) : ∃ e_, k_ e_ ∧ StepQ C o s e_ := by
  obtain rfl : xs = #[x, y] := by cases xs; simp_all
  unfold vMinMax at h
  split at h
  · rename_i k a1 k' b1 hx hy
    refine ⟨_, h, StepQ.val _ fun w0 X0 val a w hC => ⟨_, ?_, .lit _⟩⟩
    have e1 := (eval_im hC hx).lit_inv
    have e2 := (eval_im hC hy).lit_inv
    cases mx <;> simp [execOp, ho, resolve, invoke, builtin, Builtin.max_, Builtin.min_, e1, e2, List.foldlM, Builtin.max2, Builtin.min2]
  · exact h.elim

/-! ### arithmetic, comparisons -/
def inR : IntKind → Int → Prop
  | .i64, n => -9223372036854775808 ≤ n ∧ n ≤ 9223372036854775807
  | .i32, n => -2147483648 ≤ n ∧ n ≤ 2147483647
  | .i16, n => -32768 ≤ n ∧ n ≤ 32767
  | .i8, n => -128 ≤ n ∧ n ≤ 127
  | .u64, n => 0 ≤ n ∧ n ≤ 18446744073709551615
  | .u32, n => 0 ≤ n ∧ n ≤ 4294967295
  | .u16, n => 0 ≤ n ∧ n ≤ 65535
  | .u8, n => 0 ≤ n ∧ n ≤ 255
theorem wrap_inR {k : IntKind} {n : Int} (h : inR k n) : k.wrap n = n := by
  cases k <;> simp only [inR] at h <;> simp only [IntKind.wrap, IntKind.signed, IntKind.bits, if_true, if_false, Bool.false_eq_true] <;> simp <;> omega

def vArith (raw : Bool) (k : IntKind) (n : Int) (k_ : E → Prop) : Prop :=
  match raw with
  | true => k_ (.im (.lit (.int k (k.wrap n))))
  | false => inR k n ∧ k_ (.im (.lit (.int k n)))
def putB (b : Bool) (k_ : E → Prop) : Prop := k_ (.im (.lit (.bool b)))
def pairE : E → Option (Int × Int)
  | .im (.agg 2 f) => match f 0, f 1 with
    | .lit (.int .i64 a), .lit (.int .i64 b) => some (a, b)
    | _, _ => none
  | _ => none
theorem pairE_ok {X : Nat → Prop} {val : Nat → Value} {w : World} {v : Value} {e : E} (h : RelE X val w v e) {a b : Int} (hp : pairE e = some (a, b)) : v = .agg #[.int .i64 a, .int .i64 b] := by
  unfold pairE at hp
  split at hp
  · rename_i f
    split at hp
    · rename_i a' b' h0 h1
      cases hp
      obtain ⟨cs, e1, hn, hr⟩ := Rel.agg_inv h
      have r0 := hr 0 (by omega); have r1 := hr 1 (by omega)
      rw [h0] at r0; rw [h1] at r1
      have e0 := r0.lit_inv; have e2 := r1.lit_inv
      rw [e1]; congr 1
      obtain ⟨l⟩ := cs
      match l, hn with
      | [x, y], _ => simp at e0 e2; simp [e0, e2]
    · cases hp
  · cases hp

def vBin (C : Ctx) (raw : Bool) (op : BinOp) (t : Nat) (x y : E) (k_ : E → Prop) : Prop :=
  match x, y with
  | .im (.lit (.int k a)), .im (.lit (.int k' b)) => bif decide (k = k') then
      match op with
      | .add => vArith raw k (a + b) k_
      | .sub => vArith raw k (a - b) k_
      | .mul => vArith raw k (a * b) k_
      | .quo => b ≠ 0 ∧ vArith raw k (a.tdiv b) k_
      | .rem => b ≠ 0 ∧ k_ (.im (.lit (.int k (a.tmod b))))
      | .eql => putB (decide (a = b)) k_
      | .neq => putB (!decide (a = b)) k_
      | .lss => putB (decide (a < b)) k_
      | .leq => putB (decide (a ≤ b)) k_
      | .gtr => putB (decide (b < a)) k_
      | .geq => putB (decide (b ≤ a)) k_
      | _ => False
    else False
  | .im (.lit (.string a)), .im (.lit (.string b)) =>
      match op with
      | .add => a.size + b.size ≤ 9223372036854775807 ∧ k_ (.im (.lit (.string (a ++ b))))
      | .eql => putB (decide (a = b)) k_
      | .neq => putB (!decide (a = b)) k_
      | _ => False
  | .im (.lit (.bool a)), .im (.lit (.bool b)) =>
      match lookT C.ty t with
      | some i => match i.desc with
        | .bool => match op with
          | .eql => putB (decide (a = b)) k_
          | .neq => putB (!decide (a = b)) k_
          | _ => False
        | _ => False
      | none => False
  | .im (.lit .nilIface), .im (.lit .nilIface) => False
  | .im .ifn, .im (.lit .nilIface) =>
      match lookT C.ty t with
      | some i => match i.desc with
        | .interface _ => match op with
          | .eql => putB false k_
          | .neq => putB true k_
          | _ => False
        | _ => False
      | none => False
  | _, _ => bif memN C.pairs t then match pairE x, pairE y with
      | some (a, b), some (c, d) => match op with
        | .eql => putB (decide (a = c) && decide (b = d)) k_
        | .neq => putB (!(decide (a = c) && decide (b = d))) k_
        | _ => False
      | _, _ => False
    else False

theorem toList_inj {a b : ByteArray} : (a.toList == b.toList) = decide (a = b) := by
  rw [Bool.eq_iff_iff]
  simp only [beq_iff_eq, decide_eq_true_eq, ByteArray.toList_eq]
  constructor
  · intro h
    cases a; cases b; simp only [ByteArray.mk.injEq]
    exact Array.toList_inj.1 h
  · intro h; rw [h]

theorem step_arith {C : Ctx} {o : Oper} {s : St} {k_ : E → Prop} {raw : Bool} {k : IntKind} {n : Int} (h : vArith raw k n k_)
    (hr : ∀ w0 X0 val a w, Conc C.gl w0 X0 s val a w → (execOp a.eval o).run C.P w = .ok (.value (.int k (k.wrap n))) w) : ∃ e_, k_ e_ ∧ StepQ C o s e_ := by
  unfold vArith at h
  split at h
  · exact ⟨_, h, StepQ.val _ fun w0 X0 val a w hC => ⟨_, hr _ _ _ _ _ hC, .lit _⟩⟩
  · refine ⟨_, h.2, StepQ.val _ fun w0 X0 val a w hC => ⟨_, by rw [hr _ _ _ _ _ hC, wrap_inR h.1], .lit _⟩⟩

theorem run_equalIn_ifn {P : Program} (d : Nat) (t t' : TypeId) (u : Value) {ms : Array (String × TypeId)} (hu : P.underlying t = some (.interface ms)) (w : World) : (Op.equalIn (d + 1) t (.iface t' u) .nilIface).run P w = .ok false w := by
  simp [Op.equalIn, run_underlying' hu]
theorem exec_bin {C : Ctx} {o : Oper} {op : BinOp} {t yt : Nat} {x y : Operand} (ho : o.op = .binOp op t x y yt) {a : Act} {w : World} {v : Value}
    (hg : (eqGuard op t x y (a.eval x) (a.eval y)).run C.P w = .ok () w) (h : (binOp op t (a.eval x) (a.eval y)).run C.P w = .ok v w) : (execOp a.eval o).run C.P w = .ok (.value v) w := by
  simp only [execOp, ho, Sem.run_bind, hg, h, Result.andThen_ok, Sem.run_pure]

theorem step_binOp {C : Ctx} (hO : CtxOk C) {o : Oper} {s : St} {k_ : E → Prop} {raw : Bool} {op : BinOp} {t yt : Nat} {x y : Operand} (ho : o.op = .binOp op t x y yt)
    (h : vBin C raw op t (evalE C s x) (evalE C s y) k_) : ∃ e_, k_ e_ ∧ StepQ C o s e_ := by
  unfold vBin at h
  split at h
  · rename_i k a1 k' b1 hx hy
    cases hk : decide (k = k') with
    | false => rw [hk] at h; exact h.elim
    | true =>
      rw [hk] at h
      obtain rfl := of_decide_eq_true hk
      have hv : ∀ w0 X0 val a w, Conc C.gl w0 X0 s val a w → ∀ v, (binOp op t (.int k a1) (.int k b1)).run C.P w = .ok v w → (execOp a.eval o).run C.P w = .ok (.value v) w := by
        intro w0 X0 val a w hC v hv
        have e1 := (eval_im hC hx).lit_inv
        have e2 := (eval_im hC hy).lit_inv
        exact exec_bin ho (by rw [e1, e2, eqGuard_at_int]; rfl) (by rw [e1, e2]; exact hv)
      cases op <;> simp only [cond_true] at h
      case add => exact step_arith h fun w0 X0 val a w hC => hv _ _ _ _ _ hC _ (by simp [binOp_add, Op.intArith])
      case sub => exact step_arith h fun w0 X0 val a w hC => hv _ _ _ _ _ hC _ (by simp [binOp_sub, Op.intArith])
      case mul => exact step_arith h fun w0 X0 val a w hC => hv _ _ _ _ _ hC _ (by simp [binOp_mul, Op.intArith])
      case quo => exact step_arith h.2 fun w0 X0 val a w hC => hv _ _ _ _ _ hC _ (by simp [binOp_quo, Op.intDiv, h.1])
      case rem => exact ⟨_, h.2, StepQ.val _ fun w0 X0 val a w hC => ⟨_, hv _ _ _ _ _ hC _ (by simp [binOp_rem, Op.intDiv, h.1]), .lit _⟩⟩
      case eql => exact ⟨_, h, StepQ.val _ fun w0 X0 val a w hC => ⟨_, hv _ _ _ _ _ hC _ (by rw [binOp_eql]; rfl), .lit _⟩⟩
      case neq => exact ⟨_, h, StepQ.val _ fun w0 X0 val a w hC => ⟨_, hv _ _ _ _ _ hC _ (by rw [binOp_neq]; rfl), .lit _⟩⟩
      case lss => exact ⟨_, h, StepQ.val _ fun w0 X0 val a w hC => ⟨_, hv _ _ _ _ _ hC _ (by rw [binOp_lss]; rfl), .lit _⟩⟩
      case leq => exact ⟨_, h, StepQ.val _ fun w0 X0 val a w hC => ⟨_, hv _ _ _ _ _ hC _ (by rw [binOp_leq]; rfl), .lit _⟩⟩
      case gtr => exact ⟨_, h, StepQ.val _ fun w0 X0 val a w hC => ⟨_, hv _ _ _ _ _ hC _ (by rw [binOp_gtr]; rfl), .lit _⟩⟩
      case geq => exact ⟨_, h, StepQ.val _ fun w0 X0 val a w hC => ⟨_, hv _ _ _ _ _ hC _ (by rw [binOp_geq]; rfl), .lit _⟩⟩
      all_goals exact h.elim
  · rename_i a1 b1 hx hy
    have hv : ∀ w0 X0 val a w, Conc C.gl w0 X0 s val a w → ∀ v, (binOp op t (.string a1) (.string b1)).run C.P w = .ok v w → (execOp a.eval o).run C.P w = .ok (.value v) w := by
      intro w0 X0 val a w hC v hv
      have e1 := (eval_im hC hx).lit_inv
      have e2 := (eval_im hC hy).lit_inv
      exact exec_bin ho (by rw [e1, e2, eqGuard_at_string]; rfl) (by rw [e1, e2]; exact hv)
    cases op <;> simp only at h
    case add =>
      refine ⟨_, h.2, StepQ.val _ fun w0 X0 val a w hC => ⟨_, hv _ _ _ _ _ hC _ ?_, .lit _⟩⟩
      have hle := h.1
      have : ¬ (IntKind.i64.max < ((a1.size + b1.size : Nat) : Int)) := by
        have : IntKind.i64.max = 9223372036854775807 := rfl
        omega
      simp only [binOp_string_add, Op.stringOp]
      rw [if_neg (by simpa using this)]; rfl
    case eql => exact ⟨_, h, StepQ.val _ fun w0 X0 val a w hC => ⟨_, hv _ _ _ _ _ hC _ (by rw [binOp_string_eql, toList_inj]; rfl), .lit _⟩⟩
    case neq => exact ⟨_, h, StepQ.val _ fun w0 X0 val a w hC => ⟨_, hv _ _ _ _ _ hC _ (by rw [binOp_string_neq, toList_inj]; rfl), .lit _⟩⟩
    all_goals exact h.elim
  · rename_i a1 b1 hx hy
    split at h
    · rename_i i hi
      split at h
      · rename_i hd
        have hu := (hO.ty t i hi).1
        rw [hd] at hu
        have hv : ∀ w0 X0 val a w, Conc C.gl w0 X0 s val a w → ∀ v, (binOp op t (.bool a1) (.bool b1)).run C.P w = .ok v w → (execOp a.eval o).run C.P w = .ok (.value v) w := by
          intro w0 X0 val a w hC v hv
          have e1 := (eval_im hC hx).lit_inv
          have e2 := (eval_im hC hy).lit_inv
          exact exec_bin ho (by rw [e1, e2, eqGuard_at_bool]; rfl) (by rw [e1, e2]; exact hv)
        have he : ∀ w, (Op.equal t (.bool a1) (.bool b1)).run C.P w = .ok (a1 == b1) w := fun w => run_equalIn_bool' w 9999 t a1 b1 hu
        have hd2 : (a1 == b1) = decide (a1 = b1) := by cases a1 <;> cases b1 <;> rfl
        split at h
        · exact ⟨_, h, StepQ.val _ fun w0 X0 val a w hC => ⟨_, hv _ _ _ _ _ hC _ (by simp [binOp, he, hd2]), .lit _⟩⟩
        · exact ⟨_, h, StepQ.val _ fun w0 X0 val a w hC => ⟨_, hv _ _ _ _ _ hC _ (by simp [binOp, he, hd2]), .lit _⟩⟩
        · exact h.elim
      · exact h.elim
    · exact h.elim
  · exact h.elim
  · rename_i hx hy
    split at h
    · rename_i i hi
      split at h
      · rename_i ms hd
        have hu := (hO.ty t i hi).1
        rw [hd] at hu
        have hv : ∀ w0 X0 val a w, Conc C.gl w0 X0 s val a w → ∀ v, (∀ t' u, (binOp op t (.iface t' u) .nilIface).run C.P w = .ok v w) → (execOp a.eval o).run C.P w = .ok (.value v) w := by
          intro w0 X0 val a w hC v hv
          obtain ⟨t', u, e1⟩ := (eval_im hC hx).ifn_inv
          have e2 := (eval_im hC hy).lit_inv
          exact exec_bin ho (by rw [e1, e2, eqGuard_at_iface]; rfl) (by rw [e1, e2]; exact hv _ _)
        have he : ∀ t' u w, (Op.equal t (.iface t' u) .nilIface).run C.P w = .ok false w := fun t' u w => run_equalIn_ifn 9999 t t' u hu w
        split at h
        · exact ⟨_, h, StepQ.val _ fun w0 X0 val a w hC => ⟨_, hv _ _ _ _ _ hC _ (fun t' u => by simp [binOp, he]), .lit _⟩⟩
        · exact ⟨_, h, StepQ.val _ fun w0 X0 val a w hC => ⟨_, hv _ _ _ _ _ hC _ (fun t' u => by simp [binOp, he]), .lit _⟩⟩
        · exact h.elim
      · exact h.elim
    · exact h.elim
  · cases hm : memN C.pairs t with
    | false => rw [hm] at h; exact h.elim
    | true =>
      rw [hm] at h
      simp only [cond_true] at h
      obtain ⟨hgd, heq⟩ := hO.pairs t hm
      split at h
      · rename_i a1 b1 c1 d1 hx hy
        have hv : ∀ w0 X0 val a w, Conc C.gl w0 X0 s val a w → ∀ v, (binOp op t (.agg #[.int .i64 a1, .int .i64 b1]) (.agg #[.int .i64 c1, .int .i64 d1])).run C.P w = .ok v w → (execOp a.eval o).run C.P w = .ok (.value v) w := by
          intro w0 X0 val a w hC v hv
          have e1 := pairE_ok (evalE_ok hC x) hx
          have e2 := pairE_ok (evalE_ok hC y) hy
          exact exec_bin ho (by rw [e1, e2, run_eqGuard_agg (hm := hgd)]) (by rw [e1, e2]; exact hv)
        split at h
        · exact ⟨_, h, StepQ.val _ fun w0 X0 val a w hC => ⟨_, hv _ _ _ _ _ hC _ (by rw [run_eql_struct, heq]; rfl), .lit _⟩⟩
        · exact ⟨_, h, StepQ.val _ fun w0 X0 val a w hC => ⟨_, hv _ _ _ _ _ hC _ (by rw [run_neq_struct, heq]; rfl), .lit _⟩⟩
        · exact h.elim
      · exact h.elim

def vNot (op : UnOp) (raw : Bool) (x : E) (k_ : E → Prop) : Prop :=
  match op, x with
  | .not, .im (.lit (.bool b)) => putB (!b) k_
  | .neg, .im (.lit (.int k n)) => vArith raw k (0 - n) k_
  | _, _ => False
theorem step_unOp {C : Ctx} {o : Oper} {s : St} {k_ : E → Prop} {raw : Bool} {op : UnOp} {t : Nat} {x : Operand} (ho : o.op = .unOp op t x) (h : vNot op raw (evalE C s x) k_) : ∃ e_, k_ e_ ∧ StepQ C o s e_ := by
  unfold vNot at h
  split at h
  · rename_i b hx
    exact ⟨_, h, StepQ.val _ fun w0 X0 val a w hC => ⟨_, by simp [execOp, ho, (eval_im hC hx).lit_inv, Op.unary], .lit _⟩⟩
  · rename_i k n hx
    exact step_arith h fun w0 X0 val a w hC => by simp [execOp, ho, (eval_im hC hx).lit_inv, Op.unary, Op.intArith]
  · exact h.elim

def vNilCheck (x : E) (k_ : E → Prop) : Prop :=
  match x with
  | .im (.ptr n f) => k_ (.im (.ptr n f))
  | .im (.func g n f) => k_ (.im (.func g n f))
  | .own r off => k_ (.own r off)
  | _ => False
theorem step_nilCheck {C : Ctx} {o : Oper} {s : St} {k_ : E → Prop} {x : Operand} (ho : o.op = .nilCheck x) (h : vNilCheck (evalE C s x) k_) : ∃ e_, k_ e_ ∧ StepQ C o s e_ := by
  unfold vNilCheck at h
  split at h
  · rename_i n f hx
    refine ⟨_, h, StepQ.val _ fun w0 X0 val a w hC => ⟨a.eval x, ?_, eval_im hC hx⟩⟩
    obtain ⟨b, off, us, e, _⟩ := (eval_im hC hx).ptr_inv
    simp [execOp, ho, e]
  · rename_i g n f hx
    refine ⟨_, h, StepQ.val _ fun w0 X0 val a w hC => ⟨a.eval x, ?_, eval_im hC hx⟩⟩
    obtain ⟨cs, e, _⟩ := (eval_im hC hx).func_inv
    simp [execOp, ho, e]
  · rename_i r off hx
    refine ⟨_, h, StepQ.val _ fun w0 X0 val a w hC => ⟨a.eval x, ?_, eval_own hC hx⟩⟩
    obtain ⟨b, e1, e⟩ := eval_own hC hx
    simp [execOp, ho, e]
  · exact h.elim

/-! ### strings: an index, a cut; ints: a conversion -/
def bt (s : ByteArray) (i : Nat) : Int := ((s.data.getD i 0).toNat : Int)
def vIndex (C : Ctx) (t : Nat) (x ix : E) (k_ : E → Prop) : Prop :=
  match lookT C.ty t with
  | some i => match i.desc with
    | .string => match x, ix with
      | .im (.lit (.string b)), .im (.lit (.int _ j)) => (0 ≤ j ∧ j < (b.size : Int)) ∧ k_ (.im (.lit (.int .u8 (bt b j.toNat))))
      | _, _ => False
    | _ => False
  | none => False
theorem step_index {C : Ctx} (hO : CtxOk C) {o : Oper} {s : St} {k_ : E → Prop} {t : Nat} {x ix : Operand} (ho : o.op = .index t x ix) (h : vIndex C t (evalE C s x) (evalE C s ix) k_) : ∃ e_, k_ e_ ∧ StepQ C o s e_ := by
  unfold vIndex at h
  split at h
  · rename_i i hi
    split at h
    · rename_i hd
      have hu := (hO.ty t i hi).1
      rw [hd] at hu
      split at h
      · rename_i b ik j hx hix
        obtain ⟨⟨h0, h1⟩, h2⟩ := h
        refine ⟨_, h2, StepQ.val _ fun w0 X0 val a w hC => ⟨_, exec_v (m := Instr.index t (a.eval x) (a.eval ix)) (by simp only [execOp, ho]) ?_, .lit _⟩⟩
        have hlt : j.toNat < b.data.size := by have : b.size = b.data.size := rfl; omega
        rw [(eval_im hC hx).lit_inv, (eval_im hC hix).lit_inv]
        have hb : b[j.toNat]? = some b.data[j.toNat] := by
          simp [getElem?_def, hlt, show j.toNat < b.size from hlt]; rfl
        have hbt : bt b j.toNat = (b.data[j.toNat].toNat : Int) := by unfold bt; rw [Array.getD_eq_getD_getElem?, Array.getElem?_eq_getElem hlt]; rfl
        simp only [Instr.index, asIntOf, Sem.run_bind, Sem.run_pure, Result.andThen_ok, run_underlying' hu, if_pos h0, hb, hbt]
      · exact h.elim
    · exact h.elim
  · exact h.elim

def vSlice (C : Ctx) (t : Nat) (x : E) (lo hi : Option E) (k_ : E → Prop) : Prop :=
  match lookT C.ty t with
  | some i => match i.desc with
    | .string => match x with
      | .im (.lit (.string b)) => match lo, hi with
        | none, none => k_ (.im (.lit (.string (b.extract 0 b.size))))
        | some (.im (.lit (.int _ l))), none => (0 ≤ l ∧ l ≤ (b.size : Int)) ∧ k_ (.im (.lit (.string (b.extract l.toNat b.size))))
        | none, some (.im (.lit (.int _ h))) => (0 ≤ h ∧ h ≤ (b.size : Int)) ∧ k_ (.im (.lit (.string (b.extract 0 h.toNat))))
        | some (.im (.lit (.int _ l))), some (.im (.lit (.int _ h))) => (0 ≤ l ∧ l ≤ h ∧ h ≤ (b.size : Int)) ∧ k_ (.im (.lit (.string (b.extract l.toNat h.toNat))))
        | _, _ => False
      | _ => False
    | _ => False
  | none => False
theorem step_slice {C : Ctx} (hO : CtxOk C) {o : Oper} {s : St} {k_ : E → Prop} {t : Nat} {x : Operand} {lo hi : Option Operand} (ho : o.op = .slice t x lo hi none) (h : vSlice C t (evalE C s x) (lo.map (evalE C s)) (hi.map (evalE C s)) k_) : ∃ e_, k_ e_ ∧ StepQ C o s e_ := by
  unfold vSlice at h
  split at h
  · rename_i i hi'
    split at h
    · rename_i hd
      have hu := (hO.ty t i hi').1
      rw [hd] at hu
      split at h
      · rename_i b hx
        have ex : ∀ (a : Act), execOp a.eval o = Instr.sliceAt t (a.eval x) (lo.map a.eval) (hi.map a.eval) none >>= fun x => pure (Next.value x) := fun a => by simp only [execOp, ho, Option.map_none]
        have hsa : ∀ (v : Value) (l h : Option Value) (w : World), (Instr.sliceAt t v l h none).run C.P w = (Instr.slice t v l h none).run C.P w := fun v l h w => by simp [Instr.sliceAt, run_underlying' hu]
        split at h
        · rename_i hl hh
          obtain rfl : lo = none := by simpa using hl
          obtain rfl : hi = none := by simpa using hh
          refine ⟨_, h, StepQ.val _ fun w0 X0 val a w hC => ⟨_, exec_v (ex a) ?_, .lit _⟩⟩
          rw [(eval_im hC hx).lit_inv, hsa]
          simp [Instr.slice, run_underlying' hu, Instr.sliceBounds]
        · rename_i k l hl hh
          obtain rfl : hi = none := by simpa using hh
          obtain ⟨xl, rfl, hxl⟩ := Option.map_eq_some_iff.1 hl
          obtain ⟨⟨h0, h1⟩, h2⟩ := h
          refine ⟨_, h2, StepQ.val _ fun w0 X0 val a w hC => ⟨_, exec_v (ex a) ?_, .lit _⟩⟩
          rw [(eval_im hC hx).lit_inv, hsa, Option.map_some, (eval_im hC hxl).lit_inv]
          simp [Instr.slice, run_underlying' hu, Instr.sliceBounds, Instr.sliceBound, asIntOf, h0, h1]
        · rename_i k l hl hh
          obtain rfl : lo = none := by simpa using hl
          obtain ⟨xh, rfl, hxh⟩ := Option.map_eq_some_iff.1 hh
          obtain ⟨⟨h0, h1⟩, h2⟩ := h
          refine ⟨_, h2, StepQ.val _ fun w0 X0 val a w hC => ⟨_, exec_v (ex a) ?_, .lit _⟩⟩
          rw [(eval_im hC hx).lit_inv, hsa, Option.map_some, (eval_im hC hxh).lit_inv]
          simp [Instr.slice, run_underlying' hu, Instr.sliceBounds, Instr.sliceBound, asIntOf, h0, h1]
        · rename_i k l k' hh' hl hh
          obtain ⟨xl, rfl, hxl⟩ := Option.map_eq_some_iff.1 hl
          obtain ⟨xh, rfl, hxh⟩ := Option.map_eq_some_iff.1 hh
          obtain ⟨⟨h0, h1, h1'⟩, h2⟩ := h
          refine ⟨_, h2, StepQ.val _ fun w0 X0 val a w hC => ⟨_, exec_v (ex a) ?_, .lit _⟩⟩
          rw [(eval_im hC hx).lit_inv, hsa, Option.map_some, Option.map_some, (eval_im hC hxl).lit_inv, (eval_im hC hxh).lit_inv]
          have h3 : (0 : Int) ≤ hh' := by omega
          obtain ⟨m, rfl⟩ := Int.eq_ofNat_of_zero_le h3
          have h4 : l ≤ (m : Int) := h1
          have h5 : m ≤ b.size := by omega
          simp [Instr.slice, run_underlying' hu, Instr.sliceBounds, Instr.sliceBound, asIntOf, h0, h4, h5]
        · exact h.elim
      · exact h.elim
    · exact h.elim
  · exact h.elim

def vConvert (C : Ctx) (raw : Bool) (src dt : Nat) (x : E) (k_ : E → Prop) : Prop :=
  match lookT C.ty src, lookT C.ty dt with
  | some _, some j => match j.desc, x with
    | .int k, .im (.lit (.int _ n)) => vArith raw k n k_
    | .string, .im (.lit (.string b)) => k_ (.im (.lit (.string b)))
    | _, _ => False
  | _, _ => False
theorem step_convert {C : Ctx} (hO : CtxOk C) {o : Oper} {s : St} {k_ : E → Prop} {raw : Bool} {src dt : Nat} {x : Operand} (ho : o.op = .convert src dt x) (h : vConvert C raw src dt (evalE C s x) k_) : ∃ e_, k_ e_ ∧ StepQ C o s e_ := by
  unfold vConvert at h
  split at h
  · rename_i i j hi hj
    have hu := (hO.ty _ _ hi).1
    have hv := (hO.ty _ _ hj).1
    split at h
    · rename_i k k' n hd hx
      rw [hd] at hv
      refine step_arith h fun w0 X0 val a w hC => exec_v (m := convert src dt (a.eval x)) (by simp only [execOp, ho]) ?_
      rw [(eval_im hC hx).lit_inv]
      simp only [convert, Sem.run_bind, run_underlying' hu, run_underlying' hv, Result.andThen_ok]
      simp [Conv.intToInt]
    · rename_i b hd hx
      rw [hd] at hv
      refine ⟨_, h, StepQ.val _ fun w0 X0 val a w hC => ⟨_, exec_v (m := convert src dt (a.eval x)) (by simp only [execOp, ho]) ?_, .lit _⟩⟩
      rw [(eval_im hC hx).lit_inv]
      simp only [convert, Sem.run_bind, run_underlying' hu, run_underlying' hv, Result.andThen_ok]
      simp
    · exact h.elim
  · exact h.elim

end Go.Vc

/-
  Operations, fourth part: stores into own blocks, literals, append.
-/
set_option linter.unusedSimpArgs false
set_option linter.unusedSectionVars false
namespace Go.Vc
variable [Dr]

section
variable {gl : Nat → D} {w0 : World} {X0 : Fr} {s : St} {val : Nat → Value} {a : Act} {w : World}

theorem xof_own {s : St} {X0 : Fr} {val : Nat → Value} {r : Nat} {o o' : Ob} (ho : s.ob r = some o) : XOf X0 (s.own r o').ob val = XOf X0 s.ob val := by
  funext b
  apply propext
  constructor
  · rintro (h | ⟨r', q, hq, hb⟩)
    · exact .inl h
    · simp only [St.own, upd_eq] at hq
      split at hq
      · rename_i e; subst e; exact .inr ⟨r', o, ho, hb⟩
      · exact .inr ⟨r', q, hq, hb⟩
  · rintro (h | ⟨r', q, hq, hb⟩)
    · exact .inl h
    · by_cases e : r' = r
      · subst e; exact .inr ⟨r', o', by simp [St.own, upd_eq], hb⟩
      · exact .inr ⟨r', q, by simp [St.own, upd_eq, e, hq], hb⟩

/-- The block of an own object is written. -/
theorem Conc.chOb (h : Conc gl w0 X0 s val a w) {r : Nat} {o o' : Ob} (ho : s.ob r = some o) {w' : World} (hw : Below w0.heap.size w w') (hsz : w.heap.size ≤ w'.heap.size)
    (hb : ∀ b, blk (val r) ≠ some b → b < w.heap.size → w'.heap[b]? = w.heap[b]?) (hob : ObOk (XOf X0 s.ob val) val w' w0.heap.size r o') : Conc gl w0 X0 (s.own r o') val a w' := by
  have hx := xof_own (X0 := X0) (val := val) (o' := o') ho
  have hm : ∀ v d, Rel (XOf X0 s.ob val) w v d → Rel (XOf X0 s.ob val) w' v d := fun v d hr => hr.keep fun b hX hlt => hb b (fun e => hX (.inr ⟨r, o, ho, e⟩)) hlt
  refine { below := h.below.trans hw, p0 := fun b hX => Nat.lt_of_lt_of_le (h.p0 b hX) hsz, kp := ⟨fun b hk => (hb b (h.pd b (.inr hk) r o ho) (h.p0 b (.inr hk))).trans (h.kp.1 b hk), Nat.le_trans h.kp.2 hsz⟩, pd := fun b hX r' q hq => ?_, size := h.size, defers := h.defers, tm := fun t => by rw [hx]; exact (h.tm t).move hm, ob := fun r' q hq => ?_, disj := fun r1 r2 o1 o2 h1 h2 hne b hb1 => ?_, gl := fun g => by rw [hx]; exact hm _ _ (h.gl g) }
  · simp only [St.own, upd_eq] at hq
    split at hq
    · rename_i e; subst e; exact h.pd b hX r' o ho
    · exact h.pd b hX r' q hq
  · rw [hx]
    simp only [St.own, upd_eq] at hq
    split at hq
    · rename_i e; subst e; cases hq; exact hob
    · rename_i e
      refine (h.ob r' q hq).move hm fun b hb' => hb b (fun e' => ?_) ((h.ob r' q hq).lt hb').2
      exact h.disj r r' o q ho hq (Ne.symm e) b e' hb'
  · have k : ∀ r' q, (s.own r o').ob r' = some q → ∃ q', s.ob r' = some q' := fun r' q hq => by
      simp only [St.own, upd_eq] at hq
      split at hq
      · rename_i e; subst e; exact ⟨o, ho⟩
      · exact ⟨q, hq⟩
    obtain ⟨q1, e1⟩ := k r1 o1 h1
    obtain ⟨q2, e2⟩ := k r2 o2 h2
    exact h.disj r1 r2 q1 q2 e1 e2 hne b hb1
end

/-! ### store -/
def allOne : Nat → (Nat → E) → Bool
  | 0, _ => true
  | n + 1, f => allOne n f && oneE (f n)
theorem allOne_ok : ∀ {n : Nat} {f : Nat → E}, allOne n f = true → ∀ j, j < n → oneE (f j) = true
  | 0, _, _, j, hj => absurd hj (Nat.not_lt_zero _)
  | n + 1, f, h, j, hj => by
    simp only [allOne, Bool.and_eq_true] at h
    by_cases e : j = n
    · subst e; exact h.2
    · exact allOne_ok h.1 j (by omega)
def patch {α : Type} (f : Nat → α) (off m : Nat) (g : Nat → α) : Nat → α := fun j => bif Nat.ble off j && Nat.blt j (off + m) then g (j - off) else f j
theorem patch_eq {α : Type} (f : Nat → α) (off m : Nat) (g : Nat → α) (j : Nat) : patch f off m g j = if off ≤ j ∧ j < off + m then g (j - off) else f j := by
  unfold patch
  by_cases h : off ≤ j ∧ j < off + m
  · rw [if_pos h, Nat.ble_eq_true_of_le h.1, show Nat.blt j (off + m) = true by simpa [Nat.blt_eq] using h.2]; rfl
  · rw [if_neg h]
    have : (Nat.ble off j && Nat.blt j (off + m)) = false := by
      rw [Bool.eq_false_iff]; intro hh
      simp only [Bool.and_eq_true] at hh
      exact h ⟨Nat.le_of_ble_eq_true hh.1, by simpa [Nat.blt_eq] using hh.2⟩
    rw [this]; rfl

def putF (i' j m : Nat) (g : Nat → E) (f : Nat → Nat → D) : Nat → Nat → D := fun p q => if p = i' then if j ≤ q ∧ q < j + m then imD (g (q - j)) else f p q else f p q
def vStore (C : Ctx) (s : St) (dst : Option Tmp) (t : Nat) (ad x : E) (K : St → Prop) : Prop :=
  match dst with
  | some _ => False
  | none => match lookT C.ty t with
    | none => False
    | some i => match ad with
      | .own r off => match s.ob r with
        | some (.box bt n f) => match cellsOfE x with
          | some (m, g) => bif Nat.beq m i.size && (Nat.ble (off + m) n && allOne m g) then K (s.own r (.box bt n (patch f off m g))) else False
          | none => False
        | _ => False
      | .oel r k i' j => match s.ob r with
        | some (.row bt k' n f) => match cellsOfE x with
          | some (m, g) => bif Nat.beq k k' && (Nat.beq m i.size && (Nat.ble (j + m) k && (Nat.blt 0 m && allOne m g))) then i' < n ∧ K (s.own r (.row bt k n (putF i' j m g f))) else False
          | none => False
        | _ => False
      | _ => False

theorem getD_splice (cur : Array Value) (off : Nat) (vs : List Value) (h : off + vs.length ≤ cur.size) (j : Nat) (hj : j < cur.size) :
    ((cur.toList.take off ++ vs ++ cur.toList.drop (off + vs.length)).toArray).getD j undef = if off ≤ j ∧ j < off + vs.length then vs.getD (j - off) undef else cur.getD j undef := by
  simp only [Array.getD_eq_getD_getElem?, List.getElem?_toArray, List.getD_eq_getElem?_getD]
  have hl : (cur.toList.take off).length = off := by simp; omega
  by_cases h1 : j < off
  · rw [if_neg (by omega), List.append_assoc, List.getElem?_append_left (by omega), List.getElem?_take_of_lt h1]; simp
  · by_cases h2 : j < off + vs.length
    · rw [if_pos (by omega), List.getElem?_append_left (by simp; omega), List.getElem?_append_right (by omega), hl]
    · rw [if_neg (by omega), List.getElem?_append_right (by simp; omega)]
      simp only [List.length_append, hl, List.getElem?_drop]
      rw [show off + vs.length + (j - (off + vs.length)) = j by omega]; simp

theorem below_setRow (w : World) (B g : Nat) (cs : Array Value) (hg : B ≤ g) : Below B w (w.setRow g cs) :=
  ⟨rfl, rfl, rfl, by simp, fun k hk => setRow_other w g k cs (by omega), DrLe.of (Nat.le_refl _)⟩

section
variable {gl : Nat → D} {w0 : World} {X0 : Fr} {s : St} {val : Nat → Value} {a : Act} {w : World}
/-- Some cells of an own row are written. -/
theorem Conc.splice (hC : Conc gl w0 X0 s val a w) (P : Program) {r bt k n b c : Nat} {f f' : Nat → Nat → D} (hob : s.ob r = some (.row bt k n f)) (hv : val r = .slice (some ⟨b, 0, none⟩) n c) (pos : Nat) (vs : List Value)
    (hfit : pos + vs.length ≤ n * k) (hpos : 0 < vs.length) (h1 : ∀ u ∈ vs, u.oneCell' = true) (hin : ∀ p q, p < n → q < k → pos ≤ p * k + q → p * k + q < pos + vs.length → Rel (XOf X0 s.ob val) w (vs.getD (p * k + q - pos) undef) (f' p q))
    (hout : ∀ p q, p < n → q < k → ¬ (pos ≤ p * k + q ∧ p * k + q < pos + vs.length) → f' p q = f p q) :
    ∃ w', (storeCells ⟨b, pos, none⟩ vs).run P w = .ok () w' ∧ Conc gl w0 X0 (s.own r (.row bt k n f')) val a w' := by
  obtain ⟨xs, ⟨hl, hrow⟩, hrel⟩ := hC.ob r _ hob
  rcases hrow with ⟨e, rfl⟩ | ⟨g, cap, cur, q1, q2, q3, q4, q5, q6, q7⟩
  · rw [e] at hv; cases hv
  · rw [q1] at hv; cases hv
    have hcap : n * k ≤ c * k := Nat.mul_le_mul_right k q4
    have hrun := run_storeCells_at (P := P) b pos bt vs 0 cur w q3 (by omega) h1
    simp only [Nat.add_zero] at hrun
    refine ⟨_, hrun, ?_⟩
    have hsz : (cur.toList.take pos ++ vs ++ cur.toList.drop (pos + vs.length)).toArray.size = cur.size := by simp; omega
    refine hC.chOb hob (below_setRow w _ b _ q2) (Nat.le_of_eq (by simp)) (fun b' hb' _ => setRow_other w b b' _ (fun e => hb' (by rw [q1, e]; rfl)))
      ⟨((cur.toList.take pos ++ vs ++ cur.toList.drop (pos + vs.length)).toArray).toList.take (n * k), ⟨by simp; omega, .inr ⟨b, c, _, q1, q2, setRow_heap w b cur _ bt _ q3, q4, q5, by rw [hsz, q6], rfl⟩⟩, fun p q hp hq => ?_⟩
    have hlt2 : p * k + q < n * k := by
      have : (p + 1) * k ≤ n * k := Nat.mul_le_mul_right k hp
      rw [Nat.add_mul] at this; omega
    have hm' : ∀ v e, Rel (XOf X0 s.ob val) w v e → Rel (XOf X0 s.ob val) (w.setRow b (cur.toList.take pos ++ vs ++ cur.toList.drop (pos + vs.length)).toArray) v e :=
      fun v e he => he.keep fun b' hX _ => setRow_other w b b' _ (fun e => hX (.inr ⟨r, _, hob, by rw [q1, e]; rfl⟩))
    have hg : (((cur.toList.take pos ++ vs ++ cur.toList.drop (pos + vs.length)).toArray).toList.take (n * k)).getD (p * k + q) undef = if pos ≤ p * k + q ∧ p * k + q < pos + vs.length then vs.getD (p * k + q - pos) undef else cur.getD (p * k + q) undef := by
      rw [← getD_splice cur pos vs (by omega) _ (by omega), List.getD_eq_getElem?_getD, List.getElem?_take_of_lt hlt2, Array.getD_eq_getD_getElem?]; simp
    rw [hg]
    by_cases e : pos ≤ p * k + q ∧ p * k + q < pos + vs.length
    · rw [if_pos e]; exact hm' _ _ (hin p q hp hq e.1 e.2)
    · rw [if_neg e, hout p q hp hq e]
      have := hm' _ _ (hrel p q hp hq)
      rwa [show xs.getD (p * k + q) undef = cur.getD (p * k + q) undef by
        rw [← q7, List.getD_eq_getElem?_getD, List.getElem?_take_of_lt hlt2, Array.getD_eq_getD_getElem?]; simp] at this
end
theorem mulk_inj {k p q p' q' : Nat} (hq : q < k) (hq' : q' < k) (h : p * k + q = p' * k + q') : p = p' ∧ q = q' := by
  have hk : 0 < k := by omega
  have e1 : (p * k + q) / k = p := by rw [Nat.mul_comm, Nat.mul_add_div hk, Nat.div_eq_of_lt hq]; rfl
  have e2 : (p' * k + q') / k = p' := by rw [Nat.mul_comm, Nat.mul_add_div hk, Nat.div_eq_of_lt hq']; rfl
  have : p = p' := by rw [← e1, ← e2, h]
  subst this
  exact ⟨rfl, by omega⟩
theorem mulk_lt {k p n q : Nat} (hp : p < n) (hq : q < k) : p * k + q < n * k := by
  have : (p + 1) * k ≤ n * k := Nat.mul_le_mul_right k hp
  rw [Nat.add_mul] at this; omega

theorem step_store {C : Ctx} (hO : CtxOk C) {o : Oper} {s : St} {K : St → Prop} {t : Nat} {x y : Operand} (ho : o.op = .store t x y) (h : vStore C s o.dst t (evalE C s x) (evalE C s y) K) : StepOk C o s K := by
  unfold vStore at h
  split at h
  · exact h.elim
  · rename_i hdst
    split at h
    · exact h.elim
    · rename_i i hi
      have hT := hO.ty t i hi
      split at h
      · rename_i r off hx
        split at h
        · rename_i bt n f hob
          split at h
          · rename_i m g hc
            cases hb : (Nat.beq m i.size && (Nat.ble (off + m) n && allOne m g)) with
            | false => rw [hb] at h; exact h.elim
            | true =>
              rw [hb] at h
              simp only [Bool.and_eq_true] at hb
              have hm := Nat.eq_of_beq_eq_true hb.1
              have hle := Nat.le_of_ble_eq_true hb.2.1
              have hone := allOne_ok hb.2.2
              intro w0 X0 val a w hC Q next hn
              obtain ⟨b, e1, e2⟩ := eval_own hC hx
              obtain ⟨b', cs, q1, q2, q3, q4, q5⟩ := hC.ob r _ hob
              rw [q1] at e1; cases e1
              obtain ⟨hvs, hvr⟩ := cellsOfE_ok (evalE_ok hC y) hc
              have hlen : (a.eval y).cells.toList.length = m := by simpa using hvs
              have h1 : ∀ u ∈ (a.eval y).cells.toList, u.oneCell' = true := by
                intro u hu
                obtain ⟨j, hj, rfl⟩ := List.mem_iff_getElem.1 hu
                have hj' : j < m := by omega
                have := (oneE_ok (hvr j hj') (hone j hj')).1
                simpa [Array.getD_eq_getD_getElem?, show j < (a.eval y).cells.size by omega] using this
              have hrun := run_storeCells_at (P := C.P) b off bt (a.eval y).cells.toList 0 cs w q3 (by omega) h1
              have hex : (execOp a.eval o).run C.P w = .ok .skip (w.setRow b (cs.toList.take off ++ (a.eval y).cells.toList ++ cs.toList.drop (off + m)).toArray) := by
                simp only [Nat.add_zero, hlen] at hrun
                have : (Instr.storeAt t (.pointer (some ⟨b, off, none⟩)) (a.eval y)).run C.P w = .ok () (w.setRow b (cs.toList.take off ++ (a.eval y).cells.toList ++ cs.toList.drop (off + m)).toArray) := by
                  simp only [Instr.storeAt, Instr.sureAddr, storeVar, Sem.run_bind, Sem.run_pure, Result.andThen_ok, hT.run_sizeOf, Sem.run_ite]
                  rw [if_neg (by omega)]
                  exact hrun
                simp only [execOp, ho, e2, Sem.run_bind, this, Result.andThen_ok, Sem.run_pure]
              refine wp_skip' hex ?_
              rw [hdst]
              refine hn _ val _ _ h (hC.chOb hob (below_setRow w _ b _ q2) (Nat.le_of_eq (by simp)) (fun b' hb' _ => setRow_other w b b' _ (fun e => hb' (by rw [q1, e]; rfl))) ⟨b, _, q1, q2, setRow_heap w b cs _ bt _ q3, ?_, fun j hj => ?_⟩)
              · simp; omega
              · have hm' : ∀ v e, RelE (XOf X0 s.ob val) val w v e → RelE (XOf X0 s.ob val) val (w.setRow b (cs.toList.take off ++ (a.eval y).cells.toList ++ cs.toList.drop (off + m)).toArray) v e :=
                  fun v e he => he.move fun v d hr => hr.keep fun b' hX _ => setRow_other w b b' _ (fun e => hX (.inr ⟨r, _, hob, by rw [q1, e]; rfl⟩))
                have := getD_splice cs off (a.eval y).cells.toList (by omega) j (by omega)
                rw [hlen] at this
                rw [this, patch_eq]
                split
                · have := hm' _ _ (hvr (j - off) (by omega))
                  rwa [show (a.eval y).cells.getD (j - off) undef = (a.eval y).cells.toList.getD (j - off) undef by simp [Array.getD_eq_getD_getElem?, List.getD_eq_getElem?_getD]] at this
                · exact hm' _ _ (q5 j hj)
          · exact h.elim
        · exact h.elim
      · rename_i r k i' j hx
        split at h
        · rename_i bt k' n f hob
          split at h
          · rename_i m g hc
            cases hb : (Nat.beq k k' && (Nat.beq m i.size && (Nat.ble (j + m) k && (Nat.blt 0 m && allOne m g)))) with
            | false => rw [hb] at h; exact h.elim
            | true =>
              rw [hb] at h
              simp only [Bool.and_eq_true] at hb
              obtain rfl := Nat.eq_of_beq_eq_true hb.1
              have hm := Nat.eq_of_beq_eq_true hb.2.1
              have hle := Nat.le_of_ble_eq_true hb.2.2.1
              have hm0 : 0 < m := by simpa [Nat.blt_eq] using hb.2.2.2.1
              have hone := allOne_ok hb.2.2.2.2
              obtain ⟨h1, h3⟩ := h
              intro w0 X0 val a w hC Q next hn
              obtain ⟨b, n', c, e1, e2⟩ := eval_oel hC hx
              obtain ⟨hvs, hvr⟩ := cellsOfE_ok (evalE_ok hC y) hc
              obtain ⟨A', c', e3⟩ : ∃ A c, val r = .slice A n c := by
                obtain ⟨xs, ⟨hl, hrow⟩, hrel⟩ := hC.ob r _ hob
                rcases hrow with ⟨e, rfl⟩ | ⟨g, cap, cur, q1, _⟩
                · exact ⟨_, _, e⟩
                · exact ⟨_, _, q1⟩
              rw [e3] at e1; cases e1
              have hlen : (a.eval y).cells.toList.length = m := by simpa using hvs
              have hget : ∀ q, (a.eval y).cells.toList.getD q undef = (a.eval y).cells.getD q undef := fun q => by simp [Array.getD_eq_getD_getElem?, List.getD_eq_getElem?_getD]
              have hlt := mulk_lt (k := k) h1 (show j + (m - 1) < k by omega)
              obtain ⟨w', q1, q2⟩ := hC.splice C.P (f' := putF i' j m g f) hob e3 (i' * k + j) (a.eval y).cells.toList (by omega) (by omega) (fun u hu => by
                  obtain ⟨q, hq, rfl⟩ := List.mem_iff_getElem.1 hu
                  have hq' : q < m := by omega
                  have := (oneE_ok (hvr q hq') (hone q hq')).1
                  simpa [Array.getD_eq_getD_getElem?, show q < (a.eval y).cells.size by omega] using this)
                (fun p q hp hq hh1 hh2 => by
                  obtain ⟨rfl, e⟩ := mulk_inj (k := k) (p := p) (q := q) (p' := i') (q' := j + (p * k + q - (i' * k + j))) hq (by omega) (by omega)
                  unfold putF
                  rw [if_pos rfl, if_pos (by omega), hget, show p * k + q - (p * k + j) = q - j by omega]
                  exact imD_ok (hvr _ (by omega)))
                (fun p q hp hq hh => by
                  unfold putF
                  by_cases e : p = i'
                  · subst e
                    rw [if_pos rfl, if_neg (by omega)]
                  · rw [if_neg e])
              have hex : (execOp a.eval o).run C.P w = .ok .skip w' := by
                have : (Instr.storeAt t (.pointer (some ⟨b, i' * k + j, none⟩)) (a.eval y)).run C.P w = .ok () w' := by
                  simp only [Instr.storeAt, Instr.sureAddr, storeVar, Sem.run_bind, Sem.run_pure, Result.andThen_ok, hT.run_sizeOf, Sem.run_ite]
                  rw [if_neg (by omega)]
                  exact q1
                simp only [execOp, ho, e2, Sem.run_bind, this, Result.andThen_ok, Sem.run_pure]
              refine wp_skip' hex ?_
              rw [hdst]
              exact hn _ val _ _ h3 q2
          · exact h.elim
        · exact h.elim
      · exact h.elim

end Go.Vc

/-
  Operations, fifth part: literals, append, calls.
-/
set_option linter.unusedSimpArgs false
set_option linter.unusedSectionVars false
namespace Go.Vc
variable [Dr]

/-! ### freezing the rows among some operands -/
def frzE (s : St) (e : E) : St :=
  match e with
  | .orow r => s.freeze r
  | _ => s
def frzL (C : Ctx) : List Operand → St → St
  | [], s => s
  | x :: xs, s => frzL C xs (frzE s (evalE C s x))
section
variable {C : Ctx} {w0 : World} {X0 : Fr} {s : St} {val : Nat → Value} {a : Act} {w : World}
theorem Conc.frzL : ∀ (xs : List Operand) {s : St}, Conc C.gl w0 X0 s val a w → Conc C.gl w0 X0 (frzL C xs s) val a w
  | [], _, h => h
  | x :: xs, s, h => by
    unfold Vc.frzL
    refine Conc.frzL xs ?_
    unfold frzE
    split
    · exact h.freeze _
    · exact h
end
theorem StepOk.frz {C : Ctx} {o : Oper} {s : St} {K : St → Prop} (xs : List Operand) (h : StepOk C o (frzL C xs s) K) : StepOk C o s K :=
  fun w0 X0 val a w hC Q next hn => h w0 X0 val a w (hC.frzL xs) Q next hn

/-! ### freezing boxes: what a closure holds -/
def frbE (r n : Nat) (f : Nat → E) : E → E
  | .own r' off => bif Nat.beq r' r then .im (.ptr (n - off) fun j => imD (f (off + j))) else .own r' off
  | e => e
def frbOb (r n : Nat) (f : Nat → E) : Ob → Ob
  | .box t m g => .box t m (fun j => frbE r n f (g j))
  | .row t m l g => .row t m l g
def St.freezeB (s : St) (r : Nat) : St :=
  match s.ob r with
  | some (.box _ n f) => { s with tm := fun t => frbE r n f (s.tm t), ob := fun r' => bif Nat.beq r' r then none else match s.ob r' with | some o => some (frbOb r n f o) | none => none }
  | _ => s
section
variable {C : Ctx} {gl : Nat → D} {w0 : World} {X0 : Fr} {s : St} {val : Nat → Value} {a : Act} {w : World}
theorem Conc.freezeB (h : Conc gl w0 X0 s val a w) (r : Nat) : Conc gl w0 X0 (s.freezeB r) val a w := by
  unfold St.freezeB
  split
  · rename_i t n f ho
    obtain ⟨b0, cs0, p1, p2, p3, p4, p5⟩ := h.ob r _ ho
    have hsm : ∀ r' o, (fun r' => bif Nat.beq r' r then none else match s.ob r' with | some o => some (frbOb r n f o) | none => none) r' = some o → r' ≠ r ∧ ∃ o', s.ob r' = some o' ∧ o = frbOb r n f o' := by
      intro r' o ho'
      by_cases e : r' = r
      · subst e; simp at ho'
      · simp only [beq_false e] at ho'
        cases h2 : s.ob r' with
        | none => simp [h2] at ho'
        | some o' => simp only [h2, cond_false, Option.some.injEq] at ho'; exact ⟨e, o', rfl, ho'.symm⟩
    have hx : ∀ b, XOf X0 (fun r' => bif Nat.beq r' r then none else match s.ob r' with | some o => some (frbOb r n f o) | none => none) val b → XOf X0 s.ob val b := by
      rintro b (hb | ⟨r', o, ho', hb⟩)
      · exact .inl hb
      · obtain ⟨_, o', h2, _⟩ := hsm r' o ho'
        exact .inr ⟨r', o', h2, hb⟩
    have hnr : ¬ XOf X0 (fun r' => bif Nat.beq r' r then none else match s.ob r' with | some o => some (frbOb r n f o) | none => none) val b0 := by
      rintro (h0 | ⟨r', o, ho', hb'⟩)
      · exact h.xd b0 h0 r _ ho (by rw [p1]; rfl)
      · obtain ⟨e, o', h2, _⟩ := hsm r' o ho'
        exact h.disj r' r o' _ h2 ho e b0 hb' (by rw [p1]; rfl)
    have hm : ∀ v d, Rel (XOf X0 s.ob val) w v d → Rel (XOf X0 (fun r' => bif Nat.beq r' r then none else match s.ob r' with | some o => some (frbOb r n f o) | none => none) val) w v d := fun v d hr => hr.weak hx
    have hE : ∀ v e, RelE (XOf X0 s.ob val) val w v e → RelE (XOf X0 (fun r' => bif Nat.beq r' r then none else match s.ob r' with | some o => some (frbOb r n f o) | none => none) val) val w v (frbE r n f e) := by
      intro v e hv
      cases e with
      | im d => exact hm _ _ hv
      | own r' off =>
        simp only [frbE]
        by_cases e : r' = r
        · subst e; rw [beq_self]
          obtain ⟨b, q1, q2⟩ := hv
          rw [p1] at q1; cases q1
          subst q2
          refine Rel.ptr b0 off (n - off) _ (fun j => cs0.getD (off + j) undef) (fun j hj => ⟨hnr, heap_cell p3 (by omega)⟩) fun j hj => hm _ _ (imD_ok (p5 (off + j) (by omega)))
        · rw [beq_false e]; exact hv
      | oel r' k' i j => exact hv
      | osub r' k' lo m => exact hv
      | orow r' => exact hv
    refine { below := h.below, p0 := h.p0, kp := h.kp, pd := fun b hX r' o ho' => ?_, size := h.size, defers := h.defers, tm := fun t => hE _ _ (h.tm t), ob := fun r' o ho' => ?_, disj := fun r1 r2 o1 o2 h1 h2 hne b hb => ?_, gl := fun g => hm _ _ (h.gl g) }
    · obtain ⟨_, o', h2, _⟩ := hsm r' o ho'
      exact h.pd b hX r' o' h2
    · obtain ⟨_, o', h2, rfl⟩ := hsm r' o ho'
      have h3 := h.ob r' o' h2
      cases o' with
      | box t' m g =>
        obtain ⟨b, cs, q1, q2, q3, q4, q5⟩ := h3
        exact ⟨b, cs, q1, q2, q3, q4, fun j hj => hE _ _ (q5 j hj)⟩
      | row t' m l g => exact h3.move hm fun _ _ => rfl
    · obtain ⟨_, o1', e1, _⟩ := hsm r1 o1 h1
      obtain ⟨_, o2', e2, _⟩ := hsm r2 o2 h2
      exact h.disj r1 r2 o1' o2' e1 e2 hne b hb
  · exact h
end
def frbL (C : Ctx) : List Operand → St → St
  | [], s => s
  | x :: xs, s => frbL C xs (match evalE C s x with | .own r _ => s.freezeB r | _ => s)
theorem Conc.frbL {C : Ctx} {w0 : World} {X0 : Fr} {val : Nat → Value} {a : Act} {w : World} : ∀ (xs : List Operand) {s : St}, Conc C.gl w0 X0 s val a w → Conc C.gl w0 X0 (frbL C xs s) val a w
  | [], _, h => h
  | x :: xs, s, h => by
    unfold Vc.frbL
    refine Conc.frbL xs ?_
    split
    · exact h.freezeB _
    · exact h

/-! ### struct and slice literals -/
def fillF (C : Ctx) (s : St) (place : Nat → Option (Nat × Nat)) : List (Nat × Operand) → (Nat → D) → Option (Nat → D)
  | [], f => some f
  | (i, x) :: r, f => match place i, cellsOfE (evalE C s x) with
    | some (off, sz), some (m, g) => bif Nat.beq m sz then fillF C s place r (patch f off sz fun j => imD (g j)) else none
    | _, _ => none

theorem fold_set (vs : List Value) (off : Nat) : ∀ (k : Nat) (cells : Array Value), off + k + vs.length ≤ cells.size →
    ((vs.zipIdx k).foldl (fun cs (p : Value × Nat) => cs.setIfInBounds (off + p.2) p.1) cells).size = cells.size ∧
    ∀ j, j < cells.size → ((vs.zipIdx k).foldl (fun cs (p : Value × Nat) => cs.setIfInBounds (off + p.2) p.1) cells).getD j undef = if off + k ≤ j ∧ j < off + k + vs.length then vs.getD (j - (off + k)) undef else cells.getD j undef := by
  induction vs with
  | nil => intro k cells h; simp; intro j hj h1 h2; omega
  | cons v vs ih =>
    intro k cells h
    simp only [List.length_cons] at h
    simp only [List.zipIdx_cons, List.foldl_cons]
    obtain ⟨h1, h2⟩ := ih (k + 1) (cells.setIfInBounds (off + k) v) (by simp; omega)
    refine ⟨by rw [h1]; simp, fun j hj => ?_⟩
    rw [h2 j (by simpa using hj), getD_set _ _ _ _ (by omega)]
    simp only [List.length_cons]
    by_cases e : j = off + k
    · subst e; rw [if_neg (by omega), if_pos rfl, if_pos (by omega)]; simp
    · rw [if_neg e]
      by_cases e2 : off + (k + 1) ≤ j ∧ j < off + (k + 1) + vs.length
      · rw [if_pos e2, if_pos (by omega)]
        obtain ⟨q, hq⟩ : ∃ q, j - (off + k) = q + 1 := ⟨j - (off + k) - 1, by omega⟩
        rw [hq, show j - (off + (k + 1)) = q by omega]; simp
      · rw [if_neg e2, if_neg (by omega)]

section
variable {C : Ctx} {w0 : World} {X0 : Fr} {s : St} {val : Nat → Value} {a : Act} {w : World}
theorem fill_ok (hC : Conc C.gl w0 X0 s val a w) (place : Nat → Option (Nat × Nat)) (n : Nat) : ∀ (ps : List (Nat × Operand)) (f f' : Nat → D) (cells : Array Value),
    fillF C s place ps f = some f' → cells.size = n → (∀ p ∈ ps, ∀ off sz, place p.1 = some (off, sz) → off + sz ≤ n) → (∀ j, j < n → Rel (XOf X0 s.ob val) w (cells.getD j undef) (f j)) →
    ∃ cells', Instr.fill place cells (ps.map fun (i, x) => (i, a.eval x)) = some cells' ∧ cells'.size = n ∧ ∀ j, j < n → Rel (XOf X0 s.ob val) w (cells'.getD j undef) (f' j)
  | [], f, f', cells, h, hn, _, hr => by
    simp only [fillF, Option.some.injEq] at h; subst h
    exact ⟨cells, rfl, hn, hr⟩
  | (i, x) :: r, f, f', cells, h, hn, hpl, hr => by
    unfold fillF at h
    have go : ∀ (off sz : Nat) (g : Nat → D), place i = some (off, sz) → (a.eval x).cells.size = sz → (∀ j, j < sz → Rel (XOf X0 s.ob val) w ((a.eval x).cells.getD j undef) (g j)) → fillF C s place r (patch f off sz g) = some f' →
        ∃ cells', Instr.fill place cells (((i, x) :: r).map fun (i, x) => (i, a.eval x)) = some cells' ∧ cells'.size = n ∧ ∀ j, j < n → Rel (XOf X0 s.ob val) w (cells'.getD j undef) (f' j) := by
      intro off sz g hp hs hg hrest
      have hle := hpl (i, x) (by simp) off sz hp
      obtain ⟨h1, h2⟩ := fold_set (a.eval x).cells.toList off 0 cells (by rw [Array.length_toList]; omega)
      obtain ⟨c', q1, q2, q3⟩ := fill_ok hC place n r (patch f off sz g) f' _ hrest (by rw [h1]; exact hn) (fun p hp' => hpl p (List.mem_cons_of_mem _ hp')) (fun j hj => by
        rw [h2 j (by omega), patch_eq]
        have hl : (a.eval x).cells.toList.length = sz := by simpa using hs
        rw [hl, Nat.add_zero]
        split
        · rename_i hh
          have := hg (j - off) (by omega)
          rwa [show (a.eval x).cells.getD (j - off) undef = (a.eval x).cells.toList.getD (j - off) undef by simp [Array.getD_eq_getD_getElem?, List.getD_eq_getElem?_getD]] at this
        · exact hr j hj)
      refine ⟨c', ?_, q2, q3⟩
      simp only [List.map_cons, Instr.fill, hp]
      have hcond : ¬ ((decide ((a.eval x).cells.size ≠ sz) || decide (off + (a.eval x).cells.size > cells.size)) = true) := by rw [hs]; simp; omega
      rw [if_neg hcond]
      rw [← q1]
      congr 1
      rw [← Array.foldl_toList, Array.toList_zipIdx]
    split at h
    · rename_i off sz m g hp hc
      cases hb : Nat.beq m sz with
      | false => rw [hb] at h; cases h
      | true =>
        rw [hb] at h
        obtain rfl := Nat.eq_of_beq_eq_true hb
        obtain ⟨hs, hg⟩ := cellsOfE_ok (evalE_ok hC x) hc
        exact go off m _ hp hs (fun j hj => imD_ok (hg j hj)) h
    · cases h
end

def zeroF (v : Value) : Nat → D := fun j => .lit (v.cells.getD j undef)
def placeS (C : Ctx) (fs : List Field) (i : Nat) : Option (Nat × Nat) :=
  match fs[i]? with
  | some q => match lookT C.ty q.type with
    | some j => some (q.offset, j.size)
    | none => none
  | none => none
/-- All fields lie in the struct, and their types are known. -/
def fitS (C : Ctx) (n : Nat) : List Field → Bool
  | [] => true
  | q :: r => (match lookT C.ty q.type with | some j => Nat.ble (q.offset + j.size) n | none => false) && fitS C n r
theorem fitS_ok {C : Ctx} {n : Nat} : ∀ {fs : List Field}, fitS C n fs = true → ∀ q ∈ fs, ∃ j, lookT C.ty q.type = some j ∧ q.offset + j.size ≤ n
  | [], _, q, hq => by cases hq
  | p :: r, h, q, hq => by
    simp only [fitS, Bool.and_eq_true] at h
    rcases List.mem_cons.1 hq with e | hq
    · subst e
      cases hl : lookT C.ty q.type with
      | none => rw [hl] at h; cases h.1
      | some j => rw [hl] at h; exact ⟨j, rfl, Nat.le_of_ble_eq_true h.1⟩
    · exact fitS_ok h.2 q hq

def vBuild (C : Ctx) (s : St) (t : Nat) (ps : List (Nat × Operand)) (k_ : E → Prop) : Prop :=
  match lookT C.ty t with
  | none => False
  | some i => match i.desc with
    | .struct fs => bif Nat.beq i.zero.cells.size i.size && fitS C i.size fs.toList then
        match fillF C s (placeS C fs.toList) ps (zeroF i.zero) with
        | some f => k_ (.im (.agg i.size f))
        | none => False
      else False
    | _ => False

theorem run_places {C : Ctx} (hO : CtxOk C) (w : World) : ∀ (fs : List Field), (∀ q ∈ fs, ∃ j, lookT C.ty q.type = some j) →
    (fs.mapM fun f => do pure (f.offset, ← sizeOf f.type) : Sem (List (Nat × Nat))).run C.P w = .ok (fs.map fun q => (q.offset, ((lookT C.ty q.type).map (·.size)).getD 0)) w
  | [], _ => rfl
  | q :: r, h => by
    obtain ⟨j, hj⟩ := h q (by simp)
    have ih := run_places hO w r fun p hp => h p (List.mem_cons_of_mem _ hp)
    simp only [List.mapM_cons, Sem.run_bind, (hO.ty _ j hj).run_sizeOf, Result.andThen_ok, Sem.run_pure, List.map_cons, hj, Option.map_some, Option.getD_some]
    rw [show (List.mapM (fun f => do let __do_lift ← sizeOf f.type; pure (f.offset, __do_lift)) r : Sem (List (Nat × Nat))).run C.P w = _ from ih]
    simp

theorem step_build {C : Ctx} (hO : CtxOk C) {o : Oper} {s : St} {k_ : E → Prop} {t : Nat} {ps : Array (Nat × Operand)} (ho : o.op = .build t ps) (h : vBuild C s t ps.toList k_) : ∃ e_, k_ e_ ∧ StepQ C o s e_ := by
  unfold vBuild at h
  split at h
  · exact h.elim
  · rename_i i hi
    have hT := hO.ty t i hi
    split at h
    · rename_i fs hd
      cases hb : (Nat.beq i.zero.cells.size i.size && fitS C i.size fs.toList) with
      | false => rw [hb] at h; exact h.elim
      | true =>
        rw [hb] at h
        simp only [Bool.and_eq_true] at hb
        have hz := Nat.eq_of_beq_eq_true hb.1
        have hfit := fitS_ok hb.2
        simp only [cond_true] at h
        split at h
        · rename_i f hf
          refine ⟨_, h, StepQ.val _ fun w0 X0 val a w hC => ?_⟩
          have hpl : ∀ i' off sz, placeS C fs.toList i' = some (off, sz) → off + sz ≤ i.size := by
            intro i' off sz hp
            unfold placeS at hp
            split at hp
            · rename_i q hq
              obtain ⟨j, hj, hle⟩ := hfit q (List.mem_of_getElem? hq)
              rw [hj] at hp; cases hp; exact hle
            · cases hp
          obtain ⟨cells', q1, q2, q3⟩ := fill_ok hC (placeS C fs.toList) i.size ps.toList (zeroF i.zero) f i.zero.cells hf hz (fun p _ => hpl p.1) fun j hj => .lit _
          refine ⟨.agg cells', exec_v (m := Instr.build t (ps.map fun (i, x) => (i, a.eval x))) (by simp only [execOp, ho]) ?_, Rel.agg _ _ _ q2 q3⟩
          have hu := hT.1
          rw [hd] at hu
          have hpm : (fs.mapM fun f => do pure (f.offset, ← sizeOf f.type) : Sem (Array (Nat × Nat))).run C.P w = .ok (fs.toList.map fun q => (q.offset, ((lookT C.ty q.type).map (·.size)).getD 0)).toArray w := by
            rw [Array.mapM_eq_mapM_toList]
            simp only [Sem.run_map]
            rw [run_places hO w fs.toList fun q hq => (hfit q hq).imp fun _ h => h.1]
            rfl
          simp only [Instr.build, Sem.run_bind, hT.run_zero, run_underlying' hu, Result.andThen_ok, hpm]
          have hplace : (fun i' => ((fs.toList.map fun q => (q.offset, ((lookT C.ty q.type).map (·.size)).getD 0)).toArray)[i']?) = placeS C fs.toList := by
            funext i'
            unfold placeS
            simp only [List.getElem?_toArray, List.getElem?_map]
            cases hq : fs.toList[i']? with
            | none => rfl
            | some q =>
              obtain ⟨j, hj, _⟩ := hfit q (List.mem_of_getElem? hq)
              simp [hj]
          rw [hplace]
          have : (ps.map fun (i, x) => (i, a.eval x)).toList = ps.toList.map fun (i, x) => (i, a.eval x) := by simp
          rw [this, q1]
          rfl
        · exact h.elim
    · exact h.elim

end Go.Vc
