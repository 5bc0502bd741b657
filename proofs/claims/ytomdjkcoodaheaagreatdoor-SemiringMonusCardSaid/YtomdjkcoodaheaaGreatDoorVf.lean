/-
  The verification condition of code.
-/
import Derived.Test.YtomdjkcoodaheaaGreatDoorVe
set_option linter.unusedSectionVars false
set_option linter.unusedSimpArgs false
set_option linter.unusedVariables false
set_option linter.unusedSimpArgs false
set_option linter.unusedSectionVars false
namespace Go.Vc
variable [Dr]

inductive Ex where
  | normal
  | exit (n : Nat)
  | ret
def Ex.to : Ex → Exit
  | .normal => .normal
  | .exit n => .exit n
  | .ret => .ret

/-- The loop's state is told anew. -/
structure VNext {ι : Type} (nt : Nat) (P : ι → Prop) (S : ι → List (Nat × E)) (O : ι → List (Nat × Ob)) (lt : ι → Prop) (s' : St) : Prop where
  nt : s'.nt = nt
  out : ∃ j, Sub s' (S j) (O j) ∧ P j ∧ lt j
theorem VNext.by {ι : Type} {nt : Nat} {P : ι → Prop} {S : ι → List (Nat × E)} {O : ι → List (Nat × Ob)} {lt : ι → Prop} {s' : St} (j : ι) (hn : s'.nt = nt) (hp : P j) (hl : lt j) (hs : Sub s' (S j) (O j)) : VNext nt P S O lt s' := ⟨hn, j, hs, hp, hl⟩
/-- Boxes that nobody will write to from here on. -/
def frzBs : List Nat → St → St
  | [], s => s
  | r :: l, s => (frzBs l s).freezeB r
theorem frzBs_nt (l : List Nat) (s : St) : (frzBs l s).nt = s.nt := by
  induction l with
  | nil => rfl
  | cons r l ih => unfold frzBs St.freezeB; split <;> exact ih
theorem Conc.frzBs {gl : Nat → D} {w0 : World} {X0 : Fr} {s : St} {val : Nat → Value} {a : Act} {w : World} (h : Conc gl w0 X0 s val a w) : ∀ l, Conc gl w0 X0 (frzBs l s) val a w
  | [] => h
  | r :: l => (Conc.frzBs h l).freezeB r
/-- A loop. -/
structure VLoop (body : (Ex → St → Prop) → St → Prop) (Q : Ex → St → Prop) (s : St) : Prop where
  out : ∃ (ι : Type) (P : ι → Prop) (S : ι → List (Nat × E)) (O : ι → List (Nat × Ob)) (μ : ι → Nat) (i0 : ι) (fz : List Nat), P i0 ∧ Sub (frzBs fz s) (S i0) (O i0) ∧
    ∀ i, P i → body (fun e s' => match e with | .normal => VNext s.nt P S O (fun j => μ j < μ i) s' | e => Q e s') (mkS s.nt (S i) (O i))
theorem VLoop.inv {body : (Ex → St → Prop) → St → Prop} {Q : Ex → St → Prop} {s : St} {N : Nat} (hN : s.nt = N) {ι : Type} (P : ι → Prop) (S : ι → List (Nat × E)) (O : ι → List (Nat × Ob)) (μ : ι → Nat) (i0 : ι) (hp : P i0) (h0 : Sub s (S i0) (O i0))
    (h : ∀ i, P i → body (fun e s' => match e with | .normal => VNext N P S O (fun j => μ j < μ i) s' | e => Q e s') (mkS N (S i) (O i))) : VLoop body Q s := by
  subst hN
  exact ⟨⟨ι, P, S, O, μ, i0, [], hp, h0, h⟩⟩
theorem VLoop.invF {body : (Ex → St → Prop) → St → Prop} {Q : Ex → St → Prop} {s : St} {N : Nat} (hN : s.nt = N) (fz : List Nat) {ι : Type} (P : ι → Prop) (S : ι → List (Nat × E)) (O : ι → List (Nat × Ob)) (μ : ι → Nat) (i0 : ι) (hp : P i0) (h0 : Sub (frzBs fz s) (S i0) (O i0))
    (h : ∀ i, P i → body (fun e s' => match e with | .normal => VNext N P S O (fun j => μ j < μ i) s' | e => Q e s') (mkS N (S i) (O i))) : VLoop body Q s := by
  subst hN
  exact ⟨⟨ι, P, S, O, μ, i0, fz, hp, h0, h⟩⟩

def vcRegion (C : Ctx) (H : Hint) (id : Nat) (ops : Array Oper) (draw : Bool) (Q : Ex → St → Prop) (s : St) : Prop :=
  match draw with
  | false => match memN H.cut id with
    | true => vOps C H ops ops.toList s (VCut (Q .normal))
    | false => vOps C H ops ops.toList s (Q .normal)
  | true => match drawO H.draw id with
    | some (m, ds) => vPre C H ops ds (ops.toList.take m) (Vc.forgetAll ds s) fun s' => vOps C H ops (ops.toList.drop m) s' (Q .normal)
    | none => VDraw C ops s (Q .normal)
def vcSeq (x y : (Ex → St → Prop) → St → Prop) (Q : Ex → St → Prop) (s : St) : Prop :=
  x (fun e s' => match e with | .normal => y Q s' | .exit n => Q (.exit n) s' | .ret => Q .ret s') s
/-- In a branch the condition is known. -/
def tellC (s : St) (c : Operand) (b : Bool) : St :=
  match c with
  | .tmp t => s.put t (.im (.lit (.bool b)))
  | _ => s
def vcCond (C : Ctx) (c : Operand) (t e : (Ex → St → Prop) → St → Prop) (Q : Ex → St → Prop) (s : St) : Prop :=
  match evalE C s c with
  | .im (.lit (.bool b)) => ifB b (t Q (tellC s c true)) (e Q (tellC s c false))
  | _ => False
def vcBlock (id : Nat) (x : (Ex → St → Prop) → St → Prop) (Q : Ex → St → Prop) (s : St) : Prop :=
  x (fun e s' => match e with | .normal => Q .normal s' | .exit n => bif Nat.beq n id then Q .normal s' else Q (.exit n) s' | .ret => Q .ret s') s
/-- By the recursor itself: so that the kernel reduces it as the elaborator does. -/
noncomputable def vc (C : Ctx) (H : Hint) (c : Code) : (Ex → St → Prop) → St → Prop :=
  Code.rec (motive := fun _ => (Ex → St → Prop) → St → Prop) (fun Q s => Q .normal s) (fun id ops draw => vcRegion C H id ops draw) (fun _ _ x y => vcSeq x y) (fun c _ _ t e => vcCond C c t e)
    (fun id _ x => vcBlock id x) (fun _ x Q s => VLoop x Q s) (fun _ _ _ _ _ _ _ _ => False) (fun id Q s => Q (.exit id) s) (fun _ _ _ _ => False) (fun _ _ _ => False) (fun _ _ _ => False) (fun Q s => Q .ret s) (fun _ _ _ => False) c

/-- The hints about regions that draw their order hold. -/
def drawOk (H : Hint) : Code → Bool
  | .region id ops true => match drawO H.draw id with
    | some (m, _) => preB ops m
    | none => true
  | .seq a b => drawOk H a && drawOk H b
  | .cond _ t e => drawOk H t && drawOk H e
  | .block _ c => drawOk H c
  | .loop c => drawOk H c
  | _ => true

theorem wp_loop_ix {P : Program} {c : Code} {Q : Exit → Act → World → Prop} {a : Act} {w : World} {ι : Type} (I : ι → Act → World → Prop) (μ : ι → Nat) (i0 : ι) (h0 : I i0 a w)
    (round : ∀ i a w, I i a w → c.wp P (Exit.then (fun a' w' => ∃ j, I j a' w' ∧ μ j < μ i) Q) a w) : (Code.loop c).wp P Q a w := by
  intro b k cs
  have key : ∀ n i a w, μ i = n → I i a w → ∃ e a' w', Q e a' w' ∧ Arrives P (lone (b.at a (.code c :: .inLoop c :: k)) cs w) b k cs e a' w' := by
    intro n
    induction n using Nat.strongRecOn with
    | _ n ih =>
      intro i a w hn hI
      obtain ⟨e, a₁, w₁, hq, harr⟩ := round i a w hI b (.inLoop c :: k) cs
      cases e with
      | normal =>
        obtain ⟨j, hI₁, hlt⟩ := hq
        obtain ⟨e₂, a₂, w₂, hq₂, harr₂⟩ := ih (μ j) (hn ▸ hlt) j a₁ w₁ rfl hI₁
        exact ⟨e₂, a₂, w₂, hq₂, .of_steps (Steps.trans harr (.one step_inLoop)) harr₂⟩
      | exit id => exact ⟨_, a₁, w₁, hq, .pass (x := .inLoop c) rfl (fun _ _ => .inl (by simp)) harr⟩
      | goto l => exact ⟨_, a₁, w₁, hq, .pass (x := .inLoop c) rfl (fun _ _ => .inl (by simp)) harr⟩
      | ret => exact ⟨_, a₁, w₁, hq, .pass (x := .inLoop c) rfl (fun _ _ => .inl (by simp)) harr⟩
      | panic ch => exact ⟨_, a₁, w₁, hq, .pass (x := .inLoop c) rfl (fun _ _ => .inl (by simp)) harr⟩
      | outgrown => exact ⟨_, a₁, w₁, hq, .pass (x := .inLoop c) rfl (fun _ _ => .inl (by simp)) harr⟩
  obtain ⟨e, a', w', hq, harr⟩ := key _ i0 a w rfl h0
  exact ⟨e, a', w', hq, .of_steps (.one step_loop) harr⟩

section
variable {C : Ctx} {w0 : World} {X0 : Fr}
theorem Conc.drew {gl : Nat → D} {s : St} {val : Nat → Value} {a : Act} {w : World} (h : Conc gl w0 X0 s val a w) : Conc gl w0 X0 s val a { w with drawn := w.drawn + 1 } :=
  h.ext ⟨rfl, rfl, rfl, Nat.le_refl _, fun _ _ => rfl, DrLe.of (Nat.le_succ _)⟩

theorem Conc.tellC {s : St} {val : Nat → Value} {a : Act} {w : World} (h : Conc C.gl w0 X0 s val a w) {c : Operand} {b : Bool} (hv : a.eval c = .bool b) : Conc C.gl w0 X0 (Vc.tellC s c b) val a w := by
  cases c with
  | tmp t => exact h.tell (by have : a.tmps.getD t undef = .bool b := hv
                              rw [this]; exact .lit _)
  | _ => exact h
theorem vc_ok (hO : CtxOk C) {H : Hint} : ∀ (c : Code), drawOk H c = true → ∀ {Q : Ex → St → Prop} {s : St}, vc C H c Q s → ∀ {val : Nat → Value} {a : Act} {w : World}, Conc C.gl w0 X0 s val a w →
    ∀ {Q' : Exit → Act → World → Prop}, (∀ e s' val' a' w', Q e s' → Conc C.gl w0 X0 s' val' a' w' → Q' e.to a' w') → c.wp C.P Q' a w := by
  intro c
  induction c with
  | skip => intro hD Q s h val a w hC Q' hn; exact wp_skip (hn .normal _ _ _ _ h hC)
  | region id ops draw =>
    intro hD Q s h val a w hC Q' hn
    cases draw with
    | false =>
      replace h : vcRegion C H id ops false Q s := h
      simp only [vcRegion] at h
      split at h
      · exact wp_region_list (vOps_ok hO ops.toList h hC fun s' val' a' w' hK hC' => by
          obtain ⟨L, O, hs, hK'⟩ := hK.out
          exact hn .normal _ _ _ _ hK' (hC'.sub hs))
      · exact wp_region_list (vOps_ok hO ops.toList h hC fun s' val' a' w' hK hC' => hn .normal _ _ _ _ hK hC')
    | true =>
      replace h : vcRegion C H id ops true Q s := h
      simp only [vcRegion] at h
      simp only [drawOk] at hD
      split at h
      · rename_i m ds he
        rw [he] at hD
        exact wp_region_any hO.mixed (VDraw.out (VDraw.pre hO m ds hD h) w0 X0 val a _ hC.drew Q' fun s' val' a' w' hK hC' => hn .normal _ _ _ _ hK hC')
      · exact wp_region_any hO.mixed (VDraw.out h w0 X0 val a _ hC.drew Q' fun s' val' a' w' hK hC' => hn .normal _ _ _ _ hK hC')
  | seq x y ihx ihy =>
    intro hD Q s h val a w hC Q' hn
    simp only [drawOk, Bool.and_eq_true] at hD
    replace h : vc C H x (fun e s' => match e with | .normal => vc C H y Q s' | .exit n => Q (.exit n) s' | .ret => Q .ret s') s := h
    refine wp_seq (ihx hD.1 h hC fun e s' val' a' w' hQ hC' => ?_)
    cases e with
    | normal => exact ihy hD.2 hQ hC' hn
    | exit n => exact hn (.exit n) _ _ _ _ hQ hC'
    | ret => exact hn .ret _ _ _ _ hQ hC'
  | cond c t e iht ihe =>
    intro hD Q s h val a w hC Q' hn
    simp only [drawOk, Bool.and_eq_true] at hD
    replace h : vcCond C c (vc C H t) (vc C H e) Q s := h
    simp only [vcCond] at h
    split at h
    · rename_i b hc
      have hv := (eval_im hC hc).lit_inv
      cases b with
      | true => exact wp_cond_true hv (iht hD.1 h (hC.tellC hv) hn)
      | false => exact wp_cond_false hv (ihe hD.2 h (hC.tellC hv) hn)
    · exact h.elim
  | block id c ih =>
    intro hD Q s h val a w hC Q' hn
    replace h : vc C H c (fun e s' => match e with | .normal => Q .normal s' | .exit n => bif Nat.beq n id then Q .normal s' else Q (.exit n) s' | .ret => Q .ret s') s := h
    refine wp_block (ih hD h hC fun e s' val' a' w' hQ hC' => ?_)
    cases e with
    | normal => exact hn .normal _ _ _ _ hQ hC'
    | exit n =>
      simp only at hQ
      simp only [Ex.to, Exit.inBlock]
      by_cases e : n = id
      · subst e; rw [beq_self] at hQ; rw [if_pos rfl]; exact hn .normal _ _ _ _ hQ hC'
      · rw [beq_false e] at hQ; rw [if_neg e]; exact hn (.exit n) _ _ _ _ hQ hC'
    | ret => exact hn .ret _ _ _ _ hQ hC'
  | loop c ih =>
    intro hD Q s h val a w hC Q' hn
    replace h : VLoop (vc C H c) Q s := h
    obtain ⟨ι, P, S, O, μ, i0, fz, hp, h0, hr⟩ := VLoop.out h
    refine wp_loop_ix (fun i a w => P i ∧ ∃ val, Conc C.gl w0 X0 (mkS s.nt (S i) (O i)) val a w) μ i0 ⟨hp, val, by have := (hC.frzBs fz).sub h0; rwa [frzBs_nt] at this⟩ ?_
    rintro i a w ⟨hp, val, hC⟩
    refine ih hD (hr i hp) hC fun e s' val' a' w' hQ hC' => ?_
    cases e with
    | normal =>
      obtain ⟨hnt, j, hs, hpj, hlt⟩ := hQ
      exact ⟨j, ⟨hpj, val', by have := hC'.sub hs; rwa [hnt] at this⟩, hlt⟩
    | exit n => exact hn (.exit n) _ _ _ _ hQ hC'
    | ret => exact hn .ret _ _ _ _ hQ hC'
  | exit id => intro hD Q s h val a w hC Q' hn; exact wp_exit (hn (.exit id) _ _ _ _ h hC)
  | ret => intro hD Q s h val a w hC Q' hn; exact wp_ret (hn .ret _ _ _ _ h hC)
  | _ => intro hD Q s h; exact h.elim
end

/-! ### a function -/
def frzRes (C : Ctx) (s : St) : ResultVar → St
  | .tmp t => frzE s (s.tm t)
  | .cell ad t => frzLoad C s t (s.tm ad)
def frzRess (C : Ctx) : List ResultVar → St → St
  | [], s => s
  | r :: rs, s => frzRess C rs (frzRes C s r)
def resOne (C : Ctx) (s : St) : ResultVar → (D → Prop) → Prop
  | .tmp t, k => k (imD (s.tm t))
  | .cell ad t, k => vLoad C s t (s.tm ad) fun e => k (imD e)
def resAll (C : Ctx) (s : St) : List ResultVar → (List D → Prop) → Prop
  | [], k => k []
  | r :: rs, k => resOne C s r fun d => resAll C s rs fun ds => k (d :: ds)
structure Ret (R : D → Prop) (d : D) : Prop where
  out : R d
theorem Ret.le {d d' : D} (h : DLe d d') : Ret (fun x => DLe x d') d := ⟨h⟩
def vEnd (C : Ctx) (rs : List ResultVar) (R : D → Prop) (s : St) : Prop :=
  resAll C (frzRess C rs s) rs fun ds => match ds with
    | [d] => Ret R d
    | ds => Ret R (.tup ds.length fun j => ds.getD j .top)

section
variable {C : Ctx} {w0 : World} {X0 : Fr} {val : Nat → Value} {a : Act} {w : World}
theorem Conc.frzRess : ∀ (rs : List ResultVar) {s : St}, Conc C.gl w0 X0 s val a w → Conc C.gl w0 X0 (frzRess C rs s) val a w
  | [], _, h => h
  | r :: rs, s, h => by
    unfold Vc.frzRess
    refine Conc.frzRess rs ?_
    cases r with
    | tmp t =>
      show Conc C.gl w0 X0 (frzE s (s.tm t)) val a w
      unfold frzE
      split
      · exact h.freeze _
      · exact h
    | cell ad t => exact Conc.frzLoad (a := a) h t (s.tm ad)

def resSem (a : Act) : ResultVar → Sem Value
  | .tmp t => pure (a.tmps.getD t undef)
  | .cell ad t => do loadVar t (← asAddr (a.tmps.getD ad undef))
theorem resOne_ok (hO : CtxOk C) {s : St} (hC : Conc C.gl w0 X0 s val a w) {rv : ResultVar} {k : D → Prop} (h : resOne C s rv k) :
    ∃ v d, k d ∧ Rel X0 w v d ∧ (resSem a rv).run C.P w = .ok v w := by
  have hx : ∀ b, X0 b → XOf X0 s.ob val b := fun b hb => .inl hb
  cases rv with
  | tmp t => exact ⟨a.tmps.getD t undef, _, h, (imD_ok (hC.tm t)).weak hx, rfl⟩
  | cell ad t =>
    obtain ⟨e, hk, hv⟩ := load_val hO (s := s) (t := t) (x := .tmp ad) (k_ := fun e => k (imD e)) h
    obtain ⟨v, hr, hrel⟩ := hv w0 X0 val a w hC
    refine ⟨v, imD e, hk, (imD_ok hrel).weak hx, ?_⟩
    have hp : ∃ p, a.tmps.getD ad undef = .pointer (some p) := by
      have : (Instr.loadAt t (a.tmps.getD ad undef)).run C.P w = .ok v w := hr
      cases hq : a.tmps.getD ad undef with
      | pointer q =>
        cases q with
        | none => rw [hq] at this; simp [Instr.loadAt, Instr.sureAddr] at this
        | some p => exact ⟨p, rfl⟩
      | _ => rw [hq] at this; simp [Instr.loadAt, Instr.sureAddr] at this
    obtain ⟨p, hp⟩ := hp
    have : (Instr.loadAt t (a.tmps.getD ad undef)).run C.P w = .ok v w := hr
    rw [hp] at this
    simpa [resSem, hp, Instr.loadAt, Instr.sureAddr, asAddr] using this

theorem resAll_ok (hO : CtxOk C) {s : St} (hC : Conc C.gl w0 X0 s val a w) : ∀ (rs : List ResultVar) {k : List D → Prop}, resAll C s rs k →
    ∃ vs ds, k ds ∧ vs.length = rs.length ∧ ds.length = rs.length ∧ (∀ i, i < rs.length → Rel X0 w (vs.getD i undef) (ds.getD i .top)) ∧
      (rs.mapM (resSem a)).run C.P w = .ok vs w
  | [], k, h => ⟨[], [], h, rfl, rfl, fun i hi => absurd hi (Nat.not_lt_zero _), rfl⟩
  | r :: rs, k, h => by
    obtain ⟨v, d, h1, h2, h3⟩ := resOne_ok hO hC h
    obtain ⟨vs, ds, q1, q2, q3, q4, q5⟩ := resAll_ok hO hC rs h1
    refine ⟨v :: vs, d :: ds, q1, by simp [q2], by simp [q3], fun i hi => ?_, ?_⟩
    · cases i with
      | zero => exact h2
      | succ i => simpa using q4 i (by simpa using hi)
    · simp only [List.mapM_cons, Sem.run_bind, h3, Result.andThen_ok, q5, Sem.run_pure]

theorem vEnd_ok (hO : CtxOk C) {s : St} (hC : Conc C.gl w0 X0 s val a w) {fn : Func} {R : D → Prop} (h : vEnd C fn.results.toList R s) :
    ∃ v d, (results fn a.tmps).run C.P w = .ok v w ∧ R d ∧ Rel X0 w v d := by
  have hC' := hC.frzRess fn.results.toList
  obtain ⟨vs, ds, q1, q2, q3, q4, q5⟩ := resAll_ok hO hC' _ h
  have hrun : (fn.results.mapM (resSem a)).run C.P w = .ok vs.toArray w := by
    rw [Array.mapM_eq_mapM_toList]
    simp only [Sem.run_map]
    rw [q5]
    rfl
  have hres : (results fn a.tmps).run C.P w = .ok (if h : vs.toArray.size = 1 then vs.toArray[0] else .tuple vs.toArray) w := by
    have hf : results fn a.tmps = (do let vs ← fn.results.mapM (resSem a); pure (if h : vs.size = 1 then vs[0] else .tuple vs)) := by
      unfold results
      congr 1
    rw [hf, Sem.run_bind, hrun]
    rfl
  split at q1
  · rename_i d
    obtain ⟨v, rfl⟩ : ∃ v, vs = [v] := by
      match vs, q2, q3 with
      | [v], _, _ => exact ⟨v, rfl⟩
      | [], e, e' => simp at e e'; omega
      | _ :: _ :: _, e, e' => simp at e e'; omega
    exact ⟨v, d, by rw [hres]; rfl, q1.out, by simpa using q4 0 (by rw [← q3]; exact Nat.zero_lt_one)⟩
  · rename_i hne
    have hn1 : vs.length ≠ 1 := fun e => by
      obtain ⟨d, hd⟩ := List.length_eq_one_iff.1 (show ds.length = 1 by omega)
      exact hne d hd
    refine ⟨.tuple vs.toArray, _, by rw [hres, dif_neg (by simpa using hn1)], q1.out, ?_⟩
    refine .tup _ _ _ (by simp; omega) fun j hj => ?_
    have := q4 j (by omega)
    simpa [Array.getD_eq_getD_getElem?, List.getD_eq_getElem?_getD] using this

def DLes : List D → List D → Prop
  | [], [] => True
  | d :: r, d' :: r' => DLe d d' ∧ DLes r r'
  | _, _ => False
theorem DLes.get : ∀ {l l' : List D}, DLes l l' → l.length = l'.length ∧ ∀ i, DLe (l.getD i .top) (l'.getD i .top)
  | [], [], _ => ⟨rfl, fun i => DLe.refl _⟩
  | d :: r, d' :: r', h => by
    obtain ⟨h1, h2⟩ := h
    obtain ⟨q1, q2⟩ := DLes.get h2
    refine ⟨by simp [q1], fun i => ?_⟩
    cases i with
    | zero => exact h1
    | succ i => exact q2 i
  | [], _ :: _, h => h.elim
  | _ :: _, [], h => h.elim
theorem ACalls.use {C : Ctx} {g : FuncId} {ds ds' : List D} {R R' : D → Prop} (h : ACalls C g ds' R') (hd : DLes ds ds') (hk : ∀ d, R' d → R d) : ACalls C g ds R where
  ent := h.ent
  out := fun X w vs hX hgl hs hr => by
    obtain ⟨hl, hle⟩ := hd.get
    exact (h.out X w vs hX hgl (by omega) fun i hi => hle i _ _ _ (hr i (by omega))).mono fun e w' ⟨v, d, e1, e2, e3, e4⟩ => ⟨v, d, e1, hk d e2, e3, e4⟩
theorem ACalls.eq {C : Ctx} {g : FuncId} {ds : List D} {d : D} (h : ACalls C g ds fun d' => DLe d' d) : ACalls C g ds fun d' => d' = d where
  ent := h.ent
  out := fun X w vs hX hgl hs hr => (h.out X w vs hX hgl hs hr).mono fun _ _ ⟨v, _, e1, e2, e3, e4⟩ => ⟨v, d, e1, rfl, e2 _ _ _ e3, e4⟩
theorem ACalls.of_vc {H : Hint} {g : FuncId} {fn : Func} {c : Code} {N : Nat} {ds : List D} {R : D → Prop} (hO : CtxOk C) (hf : C.P.funcs[g]? = some fn) (hname : (fn.name == "runtime.NumGoroutine") = false) (hb : fn.body = some c)
    (hN : fn.ntmps = N) (hD : drawOk H c = true) (hle : Nat.ble ds.length N = true)
    (h : vc C H c (fun e s => match e with | .normal => vEnd C fn.results.toList R s | .ret => vEnd C fn.results.toList R s | .exit _ => False) { nt := N, tm := fun t => .im (ds.getD t .top), ob := fun _ => none }) : ACalls C g ds R where
  ent := by
    intro args w
    have h1 : fn.name ≠ "runtime.NumGoroutine" := by simpa using hname
    simp [callFunc, hf, h1, hb, mark]
  out := by
    intro X w vs hX hgl hsz hrel
    have hle' := Nat.le_of_ble_eq_true hle
    refine calls_of_wp hf hb ?_
    have hx : XOf (Fr.of X) (fun _ => none) (fun _ => undef) = X := by
      funext b; apply propext
      constructor
      · rintro (h | ⟨r, o, ho, _⟩)
        · exact h
        · cases ho
      · exact .inl
    have hC : Conc C.gl w (Fr.of X) { nt := N, tm := fun t => .im (ds.getD t .top), ob := fun _ => none } (fun _ => undef) { tmps := vs ++ Array.replicate (fn.ntmps - vs.size) undef, defers := [] } w :=
      { below := Below.refl _ w, p0 := (fun b hb => hb.elim (hX b) fun h => h.elim), kp := ⟨fun b hb => hb.elim, Nat.zero_le _⟩, pd := (fun b _ r o ho => by cases ho), size := (by simp; omega), defers := rfl
        tm := fun t => by
          show Rel (XOf (Fr.of X) (fun _ => none) (fun _ => undef)) w _ _
          rw [hx]
          by_cases ht : t < ds.length
          · have := hrel t ht
            rwa [show (vs ++ Array.replicate (fn.ntmps - vs.size) undef).getD t undef = vs.getD t undef by
              simp [Array.getD_eq_getD_getElem?, Array.getElem?_append_left, hsz, ht]]
          · rw [List.getD_eq_getElem?_getD, List.getElem?_eq_none (by omega)]; exact .top _
        ob := fun r o ho => by cases ho
        disj := fun r r' o o' h => by cases h
        gl := fun q => by rw [hx]; exact hgl q }
    refine vc_ok hO c hD h hC fun e s' val' a' w' hQ hC' => ?_
    have fin : vEnd C fn.results.toList R s' → a'.defers = [] ∧ ∃ v, (results fn a'.tmps).run C.P w' = .ok v w' ∧ ∃ v_1 d, Ending.returned v = .returned v_1 ∧ R d ∧ Rel X w' v_1 d ∧ Below w.heap.size w w' := fun hE => by
      obtain ⟨v, d, q1, q2, q3⟩ := vEnd_ok hO hC' hE
      exact ⟨hC'.defers, v, q1, v, d, rfl, q2, q3, hC'.below⟩
    cases e with
    | normal => exact fin hQ
    | ret => exact fin hQ
    | exit n => exact hQ.elim

structure RetRow (R : Nat → (Nat → Nat → D) → Prop) (n : Nat) (f : Nat → Nat → D) : Prop where
  out : R n f
def vEndRow (rs : List ResultVar) (t k : Nat) (R : Nat → (Nat → Nat → D) → Prop) (s : St) : Prop :=
  match rs with
  | [.tmp u] => match s.tm u with
    | .orow r => match s.ob r with
      | some (.row t' k' n f) => bif Nat.beq t t' && Nat.beq k k' then RetRow R n f else False
      | _ => False
    | .im (.lit (.slice none 0 0)) => RetRow R 0 fun _ _ => .top
    | _ => False
  | _ => False
theorem results_one {fn : Func} {u : Tmp} (h : fn.results.toList = [.tmp u]) (tm : Array Value) (P : Program) (w : World) : (results fn tm).run P w = .ok (tm.getD u undef) w := by
  have h' : fn.results = #[.tmp u] := by rw [← Array.toArray_toList (xs := fn.results), h]
  unfold results
  rw [h']
  simp
theorem ARow.of_vc {H : Hint} {g : FuncId} {fn : Func} {c : Code} {N : Nat} {ds : List D} {t k : Nat} {R : Nat → (Nat → Nat → D) → Prop} (hO : CtxOk C) (hf : C.P.funcs[g]? = some fn) (hname : (fn.name == "runtime.NumGoroutine") = false) (hb : fn.body = some c)
    (hN : fn.ntmps = N) (hD : drawOk H c = true) (hle : Nat.ble ds.length N = true)
    (h : vc C H c (fun e s => match e with | .normal => vEndRow fn.results.toList t k R s | .ret => vEndRow fn.results.toList t k R s | .exit _ => False) { nt := N, tm := fun t => .im (ds.getD t .top), ob := fun _ => none }) : ARow C g ds t k R where
  ent := by
    intro args w
    have h1 : fn.name ≠ "runtime.NumGoroutine" := by simpa using hname
    simp [callFunc, hf, h1, hb, mark]
  out := by
    intro X w vs hX hgl hsz hrel
    have hle' := Nat.le_of_ble_eq_true hle
    refine calls_of_wp hf hb ?_
    have hx : XOf (Fr.of X) (fun _ => none) (fun _ => undef) = X := by
      funext b; apply propext
      constructor
      · rintro (h | ⟨r, o, ho, _⟩)
        · exact h
        · cases ho
      · exact .inl
    have hC : Conc C.gl w (Fr.of X) { nt := N, tm := fun t => .im (ds.getD t .top), ob := fun _ => none } (fun _ => undef) { tmps := vs ++ Array.replicate (fn.ntmps - vs.size) undef, defers := [] } w :=
      { below := Below.refl _ w, p0 := (fun b hb => hb.elim (hX b) fun h => h.elim), kp := ⟨fun b hb => hb.elim, Nat.zero_le _⟩, pd := (fun b _ r o ho => by cases ho), size := (by simp; omega), defers := rfl
        tm := fun t => by
          show Rel (XOf (Fr.of X) (fun _ => none) (fun _ => undef)) w _ _
          rw [hx]
          by_cases ht : t < ds.length
          · have := hrel t ht
            rwa [show (vs ++ Array.replicate (fn.ntmps - vs.size) undef).getD t undef = vs.getD t undef by
              simp [Array.getD_eq_getD_getElem?, Array.getElem?_append_left, hsz, ht]]
          · rw [List.getD_eq_getElem?_getD, List.getElem?_eq_none (by omega)]; exact .top _
        ob := fun r o ho => by cases ho
        disj := fun r r' o o' h => by cases h
        gl := fun q => by rw [hx]; exact hgl q }
    refine vc_ok hO c hD h hC fun e s' val' a' w' hQ hC' => ?_
    have fin : vEndRow fn.results.toList t k R s' → a'.defers = [] ∧ ∃ v, (results fn a'.tmps).run C.P w' = .ok v w' ∧ ∃ v_1 n f xs, Ending.returned v = .returned v_1 ∧ R n f ∧ w'.ownsRow w.heap.size t k v_1 n xs ∧
        (∀ i j, i < n → j < k → Rel (fun b => X b ∨ blk v_1 = some b) w' (xs.getD (i * k + j) undef) (f i j)) ∧ Below w.heap.size w w' := fun hE => by
      unfold vEndRow at hE
      split at hE
      · rename_i u hrs
        refine ⟨hC'.defers, _, results_one hrs _ _ _, ?_⟩
        split at hE
        · rename_i r hu
          split at hE
          · rename_i t' k' n f hob
            obtain ⟨hb, hR⟩ := bif_and hE
            simp only [Bool.and_eq_true] at hb
            obtain rfl := Nat.eq_of_beq_eq_true hb.1
            obtain rfl := Nat.eq_of_beq_eq_true hb.2
            obtain ⟨xs, how, hrl⟩ := hC'.ob r _ hob
            have hv := hC'.tm u
            rw [hu] at hv
            obtain ⟨hv, _⟩ := hv
            refine ⟨_, n, f, xs, rfl, hR.out, by rw [hv]; exact how, fun i j hi hj => (hrl i j hi hj).weak ?_, hC'.below⟩
            rintro b (hb | hb)
            · exact .inl hb
            · exact .inr ⟨r, _, hob, by rw [← hv]; exact hb⟩
          · exact hE.elim
        · rename_i hu
          have hv := hC'.tm u
          rw [hu] at hv
          have hv := Rel.lit_inv hv
          exact ⟨_, 0, _, [], rfl, hE.out, by rw [hv]; exact World.ownsRow_nil w' _ t k, fun i j hi => absurd hi (Nat.not_lt_zero _), hC'.below⟩
        · exact hE.elim
      · exact hE.elim
    cases e with
    | normal => exact fin hQ
    | ret => exact fin hQ
    | exit n => exact hQ.elim

/-! ### a function that takes a row and gives one back -/
def vEndTR (rs : List ResultVar) (t k : Nat) (R : Nat → (Nat → Nat → D) → Prop) (s : St) : Prop :=
  match rs with
  | [.tmp u] => match s.tm u with
    | .orow r => match s.ob r with
      | some (.row t' k' n f) => bif Nat.beq t t' && Nat.beq k k' then RetRow R n f else False
      | _ => False
    | .osub r k1 0 m => match s.ob r with
      | some (.row t' k' n f) => bif Nat.beq t t' && (Nat.beq k k' && Nat.beq k k1) then m ≤ n ∧ RetRow R m f else False
      | _ => False
    | _ => False
  | _ => False
def startTR (N t k n : Nat) (f : Nat → Nat → D) (ds : List D) : St :=
  { nt := N, tm := fun q => match q with | 0 => .orow 0 | q + 1 => .im (ds.getD q .top), ob := fun r => match r with | 0 => some (.row t k n f) | _ + 1 => none }
theorem row_take {w : World} {B t k n m : Nat} {xs : List Value} {b c : Nat} (how : w.ownsRow B t k (.slice (some ⟨b, 0, none⟩) n c) n xs) (hm : m ≤ n) : w.ownsRow B t k (.slice (some ⟨b, 0, none⟩) m c) m (xs.take (m * k)) := by
  have hle : m * k ≤ n * k := Nat.mul_le_mul_right k hm
  rcases how with ⟨hl, ⟨e, _⟩ | ⟨q, cap, cur, e, p2, p3, p4, p5, p6, p7⟩⟩
  · cases e
  · cases e
    refine ⟨by simp; omega, .inr ⟨_, _, cur, rfl, p2, p3, by omega, p5, p6, ?_⟩⟩
    rw [← p7, List.take_take, Nat.min_eq_left hle]
theorem ATR.of_vc {H : Hint} {g : FuncId} {fn : Func} {c : Code} {N : Nat} {ds : List D} {t k n : Nat} {f : Nat → Nat → D} {R : Nat → (Nat → Nat → D) → Prop} (hO : CtxOk C) (hf : C.P.funcs[g]? = some fn) (hname : (fn.name == "runtime.NumGoroutine") = false) (hb : fn.body = some c)
    (hN : fn.ntmps = N) (hD : drawOk H c = true) (hle : Nat.ble (ds.length + 1) N = true)
    (h : vc C H c (fun e s => match e with | .normal => vEndTR fn.results.toList t k R s | .ret => vEndTR fn.results.toList t k R s | .exit _ => False) (startTR N t k n f ds)) : ATR C g t k n f ds R where
  ent := by
    intro args w
    have h1 : fn.name ≠ "runtime.NumGoroutine" := by simpa using hname
    simp [callFunc, hf, h1, hb, mark]
  out := by
    intro X B w v xs vs hX hvX hB hgl how hrl hsz hrel
    have hle' := Nat.le_of_ble_eq_true hle
    refine calls_of_wp hf hb ?_
    let w0 : World := { w with heap := w.heap.extract 0 B }
    have hw0 : w0.heap.size = B := by simp [w0]; omega
    let Y : Fr := ⟨X, fun b => b < w.heap.size ∧ blk v ≠ some b, fun b => w.heap[b]?, w.heap.size⟩
    have hx : XOf Y (startTR N t k n f ds).ob (fun _ => v) = fun b => X b ∨ blk v = some b := by
      funext b; apply propext
      constructor
      · rintro (h | ⟨r, o, ho, h⟩)
        · exact .inl h
        · exact .inr h
      · rintro (h | h)
        · exact .inl h
        · exact .inr ⟨0, _, rfl, h⟩
    have hob : ∀ r o, (startTR N t k n f ds).ob r = some o → r = 0 ∧ o = .row t k n f := by
      intro r o ho
      cases r with
      | zero => exact ⟨rfl, (Option.some.inj ho).symm⟩
      | succ r => cases ho
    obtain ⟨A, c', hvs⟩ := row_slice how
    have hC : Conc C.gl w0 Y (startTR N t k n f ds) (fun _ => v) { tmps := (v :: vs).toArray ++ Array.replicate (fn.ntmps - (v :: vs).toArray.size) undef, defers := [] } w :=
      { below := ⟨rfl, rfl, rfl, by rw [hw0]; exact hB, fun i hi => by rw [hw0] at hi; simp [w0, Array.getElem?_extract]; intro h'; omega, DrLe.of (Nat.le_refl _)⟩
        p0 := fun b hb => hb.elim (hX b) fun h => h.1
        pd := fun b hb r o ho hb' => hb.elim (fun h => hvX b hb' h) fun h => h.2 hb'
        kp := ⟨fun b hb => rfl, Nat.le_refl _⟩
        size := (by simp [startTR]; omega), defers := rfl
        tm := fun q => by
          rw [hx]
          cases q with
          | zero =>
            have h0 : ((v :: vs).toArray ++ Array.replicate (fn.ntmps - (v :: vs).toArray.size) undef).getD 0 undef = v := by
              rw [Array.getD_eq_getD_getElem?, Array.getElem?_append_left (by simp)]; simp
            exact ⟨h0, A, n, c', h0.trans hvs⟩
          | succ q =>
            show Rel _ w _ _
            by_cases ht : q < ds.length
            · have := hrel q ht
              rwa [show vs.getD q undef = ((v :: vs).toArray ++ Array.replicate (fn.ntmps - (v :: vs).toArray.size) undef).getD (q + 1) undef by
                rw [Array.getD_eq_getD_getElem?, Array.getElem?_append_left (by simp; omega), List.getD_eq_getElem?_getD]; simp] at this
            · show Rel _ w _ (ds.getD q .top)
              rw [show ds.getD q .top = .top by rw [List.getD_eq_getElem?_getD, List.getElem?_eq_none (by omega)]; rfl]; exact .top _
        ob := fun r o ho => by
          obtain ⟨rfl, rfl⟩ := hob r o ho
          rw [hx]
          exact ⟨xs, by rw [hw0]; exact how, hrl⟩
        disj := fun r r' o o' h1 h2 hne => by
          obtain ⟨rfl, _⟩ := hob r o h1
          obtain ⟨rfl, _⟩ := hob r' o' h2
          exact absurd rfl hne
        gl := fun q => by rw [hx]; exact hgl q }
    refine vc_ok hO c hD h hC fun e s' val' a' w' hQ hC' => ?_
    have fin : vEndTR fn.results.toList t k R s' → a'.defers = [] ∧ ∃ v_1, (results fn a'.tmps).run C.P w' = .ok v_1 w' ∧ ∃ u m f' xs', Ending.returned v_1 = .returned u ∧ R m f' ∧ w'.ownsRow B t k u m xs' ∧
        (∀ i j, i < m → j < k → Rel (fun b => X b ∨ blk u = some b) w' (xs'.getD (i * k + j) undef) (f' i j)) ∧ w.grownBy w' (blk v) ∧ DrLe w.drawn w'.drawn ∧ ∀ b, blk u = some b → blk v = some b ∨ w.heap.size ≤ b := fun hE => by
      have hbel : w.grownBy w' (blk v) := by
        have h1 := hC'.below
        exact ⟨h1.os, h1.tape, h1.output, hC'.kp.2, fun i hi hne => hC'.kp.1 i ⟨hi, fun e => hne e.symm⟩⟩
      have hdr : DrLe w.drawn w'.drawn := hC'.below.drawn
      have hblk : ∀ r o, s'.ob r = some o → ∀ b, blk (val' r) = some b → blk v = some b ∨ w.heap.size ≤ b := fun r o ho b hb => by
        rcases Nat.lt_or_ge b w.heap.size with h | h
        · by_cases e : blk v = some b
          · exact .inl e
          · exact absurd hb (hC'.pd b (.inr ⟨h, e⟩) r o ho)
        · exact .inr h
      unfold vEndTR at hE
      split at hE
      · rename_i u hrs
        refine ⟨hC'.defers, _, results_one hrs _ _ _, ?_⟩
        split at hE
        · rename_i r hu
          split at hE
          · rename_i t' k' n' f' hob'
            obtain ⟨hb, hR⟩ := bif_and hE
            simp only [Bool.and_eq_true] at hb
            obtain rfl := Nat.eq_of_beq_eq_true hb.1
            obtain rfl := Nat.eq_of_beq_eq_true hb.2
            obtain ⟨xs', how', hrl'⟩ := hC'.ob r _ hob'
            have hv := hC'.tm u
            rw [hu] at hv
            obtain ⟨hv, _⟩ := hv
            rw [hw0] at how'
            refine ⟨_, n', f', xs', rfl, hR.out, by rw [hv]; exact how', fun i j hi hj => (hrl' i j hi hj).weak ?_, hbel, hdr, fun b hb => hblk r _ hob' b (by rw [← hv]; exact hb)⟩
            rintro b (hb | hb)
            · exact .inl hb
            · exact .inr ⟨r, _, hob', by rw [← hv]; exact hb⟩
          · exact hE.elim
        · rename_i r k1 m hu
          split at hE
          · rename_i t' k' n' f' hob'
            obtain ⟨hb, hR⟩ := bif_and hE
            simp only [Bool.and_eq_true] at hb
            obtain rfl := Nat.eq_of_beq_eq_true hb.1
            obtain rfl := Nat.eq_of_beq_eq_true hb.2.1
            obtain rfl := Nat.eq_of_beq_eq_true hb.2.2
            obtain ⟨hmn, hR⟩ := hR
            obtain ⟨xs', how', hrl'⟩ := hC'.ob r _ hob'
            have hv := hC'.tm u
            rw [hu] at hv
            obtain ⟨b, N', c1, c2, q1, q2, q3, q4, q5⟩ := hv
            rw [hw0] at how'
            have hcc : c2 = c1 := by omega
            subst hcc
            rw [Nat.zero_mul] at q2
            obtain ⟨A', c3, e3⟩ := row_slice how'
            rw [q1] at e3; cases e3
            rw [q1] at how'
            refine ⟨_, m, f', xs'.take (m * k), rfl, hR.out, by rw [q2]; exact row_take how' hmn, fun i j hi hj => ?_, hbel, hdr, fun b' hb' => hblk r _ hob' b' (by rw [q2] at hb'; rw [q1]; exact hb')⟩
            have := (hrl' i j (by omega) hj).weak (X' := fun b => X b ∨ blk (a'.tmps.getD u undef) = some b) (by
              rintro b' (hb' | hb')
              · exact .inl hb'
              · exact .inr ⟨r, _, hob', by rw [q2] at hb'; rw [q1]; exact hb'⟩)
            rwa [show (xs'.take (m * k)).getD (i * k + j) undef = xs'.getD (i * k + j) undef by
              rw [List.getD_eq_getElem?_getD, List.getD_eq_getElem?_getD, List.getElem?_take_of_lt (mulk_lt hi hj)]]
          · exact hE.elim
        · exact hE.elim
      · exact hE.elim
    cases e with
    | normal => exact fin hQ
    | ret => exact fin hQ
    | exit n => exact hQ.elim
end
end Go.Vc
