/-
  A region that draws its order, second part: whatever the order, the same told state.
-/
import Derived.Test.YtomdjkcoodaheaaGreatDoorVd
set_option linter.unusedSectionVars false
set_option linter.unusedSimpArgs false
set_option linter.unusedVariables false
set_option linter.unusedSimpArgs false
set_option linter.unusedSectionVars false
namespace Go.Vc
variable [Dr]

def pkE (d : Nat) : Pk → E
  | .q e => e
  | .new _ _ _ => .own d 0
theorem app_nt (s : St) (dst : Option Tmp) (p : Pk) : (s.app dst p).nt = s.nt := by
  cases dst <;> cases p <;> rfl
theorem app_tm (s : St) (d : Nat) (p : Pk) (t : Nat) : (s.app (some d) p).tm t = if t = d then pkE d p else s.tm t := by
  cases p with
  | q e => exact upd_eq _ _ _ _
  | new _ n f => exact upd_eq _ _ _ _
def pkO : Pk → Option Ob
  | .q _ => none
  | .new t n f => some (.box t n fun j => .im (f j))
theorem app_ob (s : St) (d : Nat) (p : Pk) (r : Nat) : (s.app (some d) p).ob r = if r = d then (match pkO p with | some o => some o | none => s.ob r) else s.ob r := by
  cases p with
  | q e => simp only [pkO]; split <;> rfl
  | new t n f =>
    show upd s.ob d _ r = _
    rw [upd_eq]; split <;> rfl

theorem St.ext' {s s' : St} (h1 : s.nt = s'.nt) (h2 : ∀ t, s.tm t = s'.tm t) (h3 : ∀ r, s.ob r = s'.ob r) : s = s' := by
  cases s; cases s'
  simp only [St.mk.injEq]
  exact ⟨h1, funext h2, funext h3⟩

/-! ### the state in which some of the free operations have been done -/
/-- L: the names that are written, each once, and what is written; D: which are done. -/
def sig (s0 : St) (L : List (Nat × Pk)) (D : Nat → Bool) : Nat → St
  | 0 => s0
  | k + 1 => match L[k]? with
    | some (d, p) => bif D k then (sig s0 L D k).app (some d) p else sig s0 L D k
    | none => sig s0 L D k
section
variable {s0 : St} {L : List (Nat × Pk)} {D : Nat → Bool}
theorem sig_nt : ∀ k, (sig s0 L D k).nt = s0.nt
  | 0 => rfl
  | k + 1 => by
    unfold sig
    split
    · cases hD : D k with
      | true => simp only [cond_true]; exact (app_nt _ _ _).trans (sig_nt k)
      | false => simp only [cond_false]; exact sig_nt k
    · exact sig_nt k
/-- A name that no operation that is done writes. -/
theorem sig_none {t : Nat} : ∀ k, (∀ j d p, j < k → L[j]? = some (d, p) → D j = true → d ≠ t) → (sig s0 L D k).tm t = s0.tm t ∧ (sig s0 L D k).ob t = s0.ob t
  | 0, _ => ⟨rfl, rfl⟩
  | k + 1, h => by
    have ih := sig_none k fun j d p hj => h j d p (by omega)
    unfold sig
    split
    · rename_i d p hL
      cases hD : D k with
      | false => exact ih
      | true =>
        have hne := h k d p (by omega) hL hD
        simp only [cond_true, app_tm, app_ob, if_neg (Ne.symm hne)]
        exact ih
    · exact ih
/-- A name that an operation that is done writes. -/
theorem sig_some {t j : Nat} {p : Pk} (hdis : ∀ (i j d : Nat) (p q : Pk), L[i]? = some (d, p) → L[j]? = some (d, q) → i = j) (hL : L[j]? = some (t, p)) (hD : D j = true) : ∀ k, j < k →
    (sig s0 L D k).tm t = pkE t p ∧ (sig s0 L D k).ob t = (match pkO p with | some o => some o | none => s0.ob t)
  | 0, h => absurd h (Nat.not_lt_zero _)
  | k + 1, h => by
    by_cases e : j = k
    · subst e
      have hn := sig_none (s0 := s0) (L := L) (D := D) (t := t) j fun i d q hi hL' _ e => by
        subst e
        have := hdis i j d q p hL' hL; omega
      unfold sig
      simp only [hL, hD, cond_true, app_tm, app_ob, if_true]
      exact ⟨trivial, by rw [hn.2]⟩
    · have ih := sig_some hdis hL hD k (by omega)
      unfold sig
      split
      · rename_i d q hL'
        cases hD' : D k with
        | false => exact ih
        | true =>
          have hne : t ≠ d := fun e' => by
            subst e'
            have := hdis j k t p q hL hL'; omega
          simp only [cond_true, app_tm, app_ob, if_neg hne]
          exact ih
      · exact ih
end

/-- Each name is written or not. -/
theorem sig_cases {L : List (Nat × Pk)} {D : Nat → Bool} (k t : Nat) : (∃ j p, j < k ∧ L[j]? = some (t, p) ∧ D j = true) ∨ (∀ j d p, j < k → L[j]? = some (d, p) → D j = true → d ≠ t) := by
  rcases Classical.em (∃ j p, j < k ∧ L[j]? = some (t, p) ∧ D j = true) with h | h
  · exact .inl h
  · refine .inr fun j d p hj hL hD e => ?_
    subst e
    exact h ⟨j, p, hj, hL, hD⟩

/-- One more is done. -/
theorem sig_step {s0 : St} {L : List (Nat × Pk)} {D D' : Nat → Bool} (hdis : ∀ (i j d : Nat) (p q : Pk), L[i]? = some (d, p) → L[j]? = some (d, q) → i = j) {k i d : Nat} {p : Pk} (hi : i < k) (hL : L[i]? = some (d, p)) (hD : D i = false)
    (hD' : ∀ j, D' j = if j = i then true else D j) : sig s0 L D' k = (sig s0 L D k).app (some d) p := by
  have hD'i : D' i = true := by rw [hD', if_pos rfl]
  have hother : ∀ j, j ≠ i → D' j = D j := fun j h => by rw [hD', if_neg h]
  refine St.ext' (by rw [app_nt, sig_nt, sig_nt]) (fun t => ?_) fun r => ?_
  · rw [app_tm]
    by_cases e : t = d
    · subst e; rw [if_pos rfl]; exact (sig_some hdis hL hD'i k hi).1
    · rw [if_neg e]
      rcases sig_cases (L := L) (D := D) k t with ⟨j, q, hj, hLj, hDj⟩ | hn
      · have hji : j ≠ i := fun e' => by subst e'; rw [hD] at hDj; cases hDj
        rw [(sig_some hdis hLj hDj k hj).1, (sig_some hdis hLj (by rw [hother j hji]; exact hDj) k hj).1]
      · rw [(sig_none k hn).1, (sig_none k fun j d' q hj hLj hDj e' => ?_).1]
        by_cases hji : j = i
        · subst hji; rw [hL] at hLj; cases hLj; exact e e'.symm
        · exact hn j d' q hj hLj (by rw [← hother j hji]; exact hDj) e'
  · rw [app_ob]
    by_cases e : r = d
    · subst e; rw [if_pos rfl, (sig_some hdis hL hD'i k hi).2]
      have hn := (sig_none (s0 := s0) (L := L) (D := D) (t := r) k fun j d' q hj hLj hDj e' => by
        subst e'
        have := hdis j i d' q p hLj hL
        subst this; rw [hD] at hDj; cases hDj).2
      rw [hn]
    · rw [if_neg e]
      rcases sig_cases (L := L) (D := D) k r with ⟨j, q, hj, hLj, hDj⟩ | hn
      · have hji : j ≠ i := fun e' => by subst e'; rw [hD] at hDj; cases hDj
        rw [(sig_some hdis hLj hDj k hj).2, (sig_some hdis hLj (by rw [hother j hji]; exact hDj) k hj).2]
      · rw [(sig_none k hn).2, (sig_none k fun j d' q hj hLj hDj e' => ?_).2]
        by_cases hji : j = i
        · subst hji; rw [hL] at hLj; cases hLj; exact e e'.symm
        · exact hn j d' q hj hLj (by rw [← hother j hji]; exact hDj) e'

/-! ### the names that are not written twice, and the edges -/
def edgeOn (o : Oper) (j : Nat) : Bool := o.after.toList.any fun e => Region.binds .any e && Nat.beq e.on j
def noSel : Op → Bool
  | .select .. => false
  | _ => true
/-- Operation number i: it looks at no temporary that another free operation writes but by an edge; its own edges lead back. -/
def opB (ops : Array Oper) (dsts : List (Option Tmp)) (o : Oper) : Bool :=
  (looksT ops o).all fun t => dsts.zipIdx.all fun q => !(match q.1 with | some d => Nat.beq d t | none => false) || edgeOn o q.2
def backB (i : Nat) (o : Oper) : Bool := o.after.toList.all fun e => !Region.binds .any e || Nat.blt e.on i
def distB : List (Option Tmp) → Bool
  | [] => true
  | some d :: r => r.all (fun q => match q with | some d' => !Nat.beq d d' | none => true) && distB r
  | none :: _ => false
def reachB (ops : Array Oper) : Nat → Oper → Nat → Bool
  | 0, o, j => edgeOn o j
  | n + 1, o, j => edgeOn o j || o.after.toList.any fun e => Region.binds .any e && (match ops.toList[e.on]? with | some q => reachB ops n q j | none => false)
def tailB (ops : Array Oper) (i : Nat) (o : Oper) : Bool := (List.range i).all fun j => reachB ops 4 o j
def preB (ops : Array Oper) (m : Nat) : Bool :=
  Nat.ble m ops.size && (distB ((ops.toList.take m).map (·.dst)) && ((ops.toList.take m).zipIdx.all (fun q => opB ops ((ops.toList.take m).map (·.dst)) q.1) &&
    (ops.toList.zipIdx.all (fun q => backB q.2 q.1) && (ops.toList.zipIdx.drop m).all (fun q => tailB ops q.2 q.1))))

end Go.Vc

/-
  A region that draws its order, third part: the theorem.
-/
set_option linter.unusedSimpArgs false
set_option linter.unusedSectionVars false
namespace Go.Vc
variable [Dr]

inductive Reach (ops : Array Oper) : Oper → Nat → Prop where
  | one {o : Oper} {e : Edge} (he : e ∈ o.after) (hb : Region.binds .any e = true) : Reach ops o e.on
  | more {o q : Oper} {e : Edge} {j : Nat} (he : e ∈ o.after) (hb : Region.binds .any e = true) (hq : ops[e.on]? = some q) (h : Reach ops q j) : Reach ops o j
def Closed (ops : Array Oper) (l : Array Bool) : Prop := ∀ (j : Nat) (o : Oper), ops[j]? = some o → l.getD j false = true → ∀ e ∈ o.after, Region.binds .any e = true → l.getD e.on false = true
theorem Reach.listed {ops : Array Oper} {l : Array Bool} (hc : Closed ops l) {o : Oper} {j : Nat} (h : Reach ops o j) (ho : ∀ e ∈ o.after, Region.binds .any e = true → l.getD e.on false = true) : l.getD j false = true := by
  induction h with
  | one he hb => exact ho _ he hb
  | more he hb hq h ih => exact ih (hc _ _ hq (ho _ he hb))
theorem edgeOn_ok {o : Oper} {j : Nat} (h : edgeOn o j = true) : ∃ e ∈ o.after, Region.binds .any e = true ∧ e.on = j := by
  simp only [edgeOn, List.any_eq_true, Bool.and_eq_true] at h
  obtain ⟨e, he, hb, hj⟩ := h
  exact ⟨e, by simpa using he, hb, Nat.eq_of_beq_eq_true hj⟩
theorem reachB_ok {ops : Array Oper} : ∀ (n : Nat) {o : Oper} {j : Nat}, reachB ops n o j = true → Reach ops o j
  | 0, o, j, h => by
    obtain ⟨e, he, hb, rfl⟩ := edgeOn_ok h
    exact .one he hb
  | n + 1, o, j, h => by
    simp only [reachB, Bool.or_eq_true, List.any_eq_true, Bool.and_eq_true] at h
    rcases h with h | ⟨e, he, hb, hq⟩
    · obtain ⟨e, he, hb, rfl⟩ := edgeOn_ok h
      exact .one he hb
    · split at hq
      · rename_i q hq'
        exact .more (by simpa using he) hb (by simpa using hq') (reachB_ok n hq)
      · cases hq
structure PreOk (ops : Array Oper) (m : Nat) : Prop where
  le : m ≤ ops.size
  dist : ∀ (i j d : Nat) (o o' : Oper), i < m → j < m → ops[i]? = some o → ops[j]? = some o' → o.dst = some d → o'.dst = some d → i = j
  look : ∀ (i j t : Nat) (o o' : Oper), i < m → j < m → ops[i]? = some o → ops[j]? = some o' → t ∈ looksT ops o → o'.dst = some t → edgeOn o j = true
  back : ∀ (i : Nat) (o : Oper), ops[i]? = some o → ∀ e ∈ o.after, Region.binds .any e = true → e.on < i
  tail : ∀ (i j : Nat) (o : Oper), m ≤ i → ops[i]? = some o → j < i → Reach ops o j

theorem distB_get : ∀ {l : List (Option Tmp)}, distB l = true → ∀ {i j : Nat} {d : Nat}, l[i]? = some (some d) → l[j]? = some (some d) → i = j
  | [], _, i, j, d, h, _ => by simp at h
  | some d0 :: r, hb, i, j, d, h1, h2 => by
    simp only [distB, Bool.and_eq_true, List.all_eq_true] at hb
    have key : ∀ k : Nat, r[k]? = some (some d0) → False := by
      intro k hk
      have := hb.1 (some d0) (List.mem_of_getElem? hk)
      simp [beq_self] at this
    cases i with
    | zero =>
      cases j with
      | zero => rfl
      | succ j =>
        simp only [List.getElem?_cons_zero, Option.some.injEq] at h1
        subst h1
        exact (key j (by simpa using h2)).elim
    | succ i =>
      cases j with
      | zero =>
        simp only [List.getElem?_cons_zero, Option.some.injEq] at h2
        subst h2
        exact (key i (by simpa using h1)).elim
      | succ j =>
        have := distB_get hb.2 (i := i) (j := j) (by simpa using h1) (by simpa using h2)
        omega
  | none :: r, hb, i, j, d, h1, h2 => by simp [distB] at hb

theorem take_get {ops : Array Oper} {m i : Nat} {o : Oper} (hi : i < m) (h : ops[i]? = some o) : (ops.toList.take m)[i]? = some o := by
  rw [List.getElem?_take_of_lt hi]; simpa using h
theorem zip_mem {α : Type} {l : List α} {i : Nat} {x : α} (h : l[i]? = some x) : (x, i) ∈ l.zipIdx := by
  rw [List.mem_zipIdx_iff_getElem?]; exact h

theorem preB_ok {ops : Array Oper} {m : Nat} (h : preB ops m = true) : PreOk ops m := by
  simp only [preB, Bool.and_eq_true, List.all_eq_true] at h
  obtain ⟨h1, h2, h3, h4, h5⟩ := h
  refine ⟨Nat.le_of_ble_eq_true h1, ?_, ?_, ?_, ?_⟩
  · intro i j d o o' hi hj ho ho' hd hd'
    refine distB_get h2 (i := i) (j := j) (d := d) ?_ ?_
    · rw [List.getElem?_map, take_get hi ho]; simp [hd]
    · rw [List.getElem?_map, take_get hj ho']; simp [hd']
  · intro i j t o o' hi hj ho ho' ht hd
    have := h3 _ (zip_mem (take_get hi ho))
    simp only [opB, List.all_eq_true] at this
    have := this t ht (some t, j) (zip_mem (by rw [List.getElem?_map, take_get hj ho']; simp [hd]))
    simpa [beq_self] using this
  · intro i o ho e he hb
    have := h4 (o, i) (zip_mem (by simpa using ho))
    simp only [backB, List.all_eq_true] at this
    have := this e (by simpa using he)
    simpa [hb, Nat.blt_eq] using this
  · intro i j o hm ho hj
    have hmem : (o, i) ∈ ops.toList.zipIdx.drop m := by
      have h0 : ops.toList.zipIdx[i]? = some (o, i) := by
        rw [List.getElem?_zipIdx]
        have : ops.toList[i]? = some o := by simpa using ho
        rw [this]; simp
      have : (ops.toList.zipIdx.drop m)[i - m]? = some (o, i) := by rw [List.getElem?_drop, show m + (i - m) = i by omega]; exact h0
      exact List.mem_of_getElem? this
    have := h5 _ hmem
    simp only [tailB, List.all_eq_true, List.mem_range] at this
    exact reachB_ok _ (this j hj)

/-! ### the chain, by numbers -/
theorem sig_cons (s : St) (x : Nat × Pk) (L : List (Nat × Pk)) : ∀ k, sig s (x :: L) (fun _ => true) (k + 1) = sig (s.app (some x.1) x.2) L (fun _ => true) k
  | 0 => rfl
  | k + 1 => by
    have ih := sig_cons s x L k
    show (match (x :: L)[k + 1]? with | some (d, p) => bif true then (sig s (x :: L) (fun _ => true) (k + 1)).app (some d) p else sig s (x :: L) (fun _ => true) (k + 1) | none => sig s (x :: L) (fun _ => true) (k + 1)) = _
    rw [ih, List.getElem?_cons_succ]
    rfl

def PkOk (ds : List Nat) (dst : Option Tmp) : Pk → Prop
  | .q e => menOk ds e = true ∧ memO ds dst = false
  | .new _ _ _ => memO ds dst = true

theorem Chain.get {C : Ctx} {ops : Array Oper} {ds : List Nat} {l : List Oper} {s s' : St} {ps : List Pk} (h : Chain C ops ds l s ps s') :
    ∃ L : List (Nat × Pk), L.length = l.length ∧ s' = sig s L (fun _ => true) l.length ∧ ∀ (i : Nat) (o : Oper), l[i]? = some o →
      ∃ d p, L[i]? = some (d, p) ∧ o.dst = some d ∧ d < s.nt ∧ Loc C ops o ((sig s L (fun _ => true) i).only (looksT ops o) ds) p ∧ PkOk ds (some d) p := by
  induction h with
  | nil s => exact ⟨[], rfl, rfl, fun i o h => by simp at h⟩
  | @cons o r s s' p ps hd hl hm ht ih =>
    obtain ⟨d, hd, hlt⟩ := hd
    obtain ⟨L, q1, q2, q3⟩ := ih
    refine ⟨(d, p) :: L, by simp [q1], ?_, ?_⟩
    · rw [q2, List.length_cons, sig_cons, hd]
    · intro i o' ho'
      cases i with
      | zero =>
        simp only [List.getElem?_cons_zero, Option.some.injEq] at ho'
        subst ho'
        refine ⟨d, p, rfl, hd, hlt, hl, ?_⟩
        rw [hd] at hm
        cases p <;> exact hm
      | succ i =>
        obtain ⟨d', p', e1, e2, e3, e4, e5⟩ := q3 i o' (by simpa using ho')
        refine ⟨d', p', by simpa using e1, e2, by rw [app_nt] at e3; exact e3, ?_, e5⟩
        rw [sig_cons]
        rw [hd] at e4
        exact e4

/-! ### nothing names what is to be made -/
structure Free (s : St) (d : Nat) : Prop where
  tm : ∀ t, menE (s.tm t) ≠ some d
  ob : ∀ r t n f, s.ob r = some (.box t n f) → ∀ j, menE (f j) ≠ some d
  no : s.ob d = none
theorem forgetE_men {d : Nat} {e : E} : menE (forgetE d e) ≠ some d := by
  cases e with
  | im => simp [forgetE, menE]
  | own r o => simp only [forgetE]; by_cases h : r = d
               · subst h; simp [beq_self, menE]
               · simp [beq_false h, menE, h]
  | oel r k i j => simp only [forgetE]; by_cases h : r = d
                   · subst h; simp [beq_self, menE]
                   · simp [beq_false h, menE, h]
  | osub r k i j => simp only [forgetE]; by_cases h : r = d
                    · subst h; simp [beq_self, menE]
                    · simp [beq_false h, menE, h]
  | orow r => simp only [forgetE]; by_cases h : r = d
              · subst h; simp [beq_self, menE]
              · simp [beq_false h, menE, h]
theorem forgetE_keep {d d' : Nat} {e : E} (h : menE e ≠ some d) : menE (forgetE d' e) ≠ some d := by
  cases e with
  | im => simp [forgetE, menE]
  | own r o => simp only [forgetE]; by_cases h' : r = d'
               · subst h'; simp [beq_self, menE]
               · rw [beq_false h']; exact h
  | oel r k i j => simp only [forgetE]; by_cases h' : r = d'
                   · subst h'; simp [beq_self, menE]
                   · rw [beq_false h']; exact h
  | osub r k i j => simp only [forgetE]; by_cases h' : r = d'
                    · subst h'; simp [beq_self, menE]
                    · rw [beq_false h']; exact h
  | orow r => simp only [forgetE]; by_cases h' : r = d'
              · subst h'; simp [beq_self, menE]
              · rw [beq_false h']; exact h
theorem forgetE_same {d : Nat} {e : E} (h : menE e ≠ some d) : forgetE d e = e := by
  cases e with
  | im => rfl
  | own r o => simp only [menE, ne_eq, Option.some.injEq] at h; simp [forgetE, beq_false h]
  | oel r k i j => simp only [menE, ne_eq, Option.some.injEq] at h; simp [forgetE, beq_false h]
  | osub r k i j => simp only [menE, ne_eq, Option.some.injEq] at h; simp [forgetE, beq_false h]
  | orow r => simp only [menE, ne_eq, Option.some.injEq] at h; simp [forgetE, beq_false h]
theorem forget_free (s : St) (d : Nat) : Free (s.forget d) d where
  tm t := forgetE_men
  ob r t n f h j := by
    obtain ⟨_, o', _, e⟩ := forget_some h
    cases o' with
    | box t' n' f' => simp only [forgetOb, Ob.box.injEq] at e; obtain ⟨_, _, rfl⟩ := e; exact forgetE_men
    | row => simp [forgetOb] at e
  no := by simp [St.forget]
theorem Free.forget {s : St} {d d' : Nat} (h : Free s d) : Free (s.forget d') d where
  tm t := forgetE_keep (h.tm t)
  ob r t n f ho j := by
    obtain ⟨_, o', ho', e⟩ := forget_some ho
    cases o' with
    | box t' n' f' => simp only [forgetOb, Ob.box.injEq] at e; obtain ⟨_, _, rfl⟩ := e; exact forgetE_keep (h.ob _ _ _ _ ho' j)
    | row => simp [forgetOb] at e
  no := by
    simp only [St.forget, h.no]
    cases Nat.beq d d' <;> rfl
theorem Free.same {s : St} {d : Nat} (h : Free s d) : s.forget d = s := by
  refine St.ext' rfl (fun t => forgetE_same (h.tm t)) fun r => ?_
  simp only [St.forget]
  by_cases e : r = d
  · subst e; rw [beq_self, h.no]; rfl
  · rw [beq_false e]
    cases ho : s.ob r with
    | none => rfl
    | some o =>
      cases o with
      | box t n f =>
        simp only [cond_false, forgetOb, Option.some.injEq, Ob.box.injEq, true_and]
        funext j; exact forgetE_same (h.ob r t n f ho j)
      | row => rfl
def forgetAll : List Nat → St → St
  | [], s => s
  | d :: r, s => forgetAll r (s.forget d)
theorem forgetAll_nt : ∀ (ds : List Nat) (s : St), (forgetAll ds s).nt = s.nt
  | [], _ => rfl
  | d :: r, s => (forgetAll_nt r (s.forget d)).trans rfl
theorem Free.forgetAll {s : St} {d : Nat} (h : Free s d) : ∀ (ds : List Nat), Free (forgetAll ds s) d := by
  intro ds
  induction ds generalizing s with
  | nil => exact h
  | cons d' r ih => exact ih h.forget
theorem forgetAll_free {s : St} : ∀ (ds : List Nat) {d : Nat}, memN ds d = true → Free (Vc.forgetAll ds s) d := by
  intro ds
  induction ds generalizing s with
  | nil => intro d h; cases h
  | cons d' r ih =>
    intro d h
    simp only [memN] at h
    by_cases e : d' = d
    · subst e; exact (forget_free s d').forgetAll r
    · rw [beq_false e] at h; exact ih h
theorem Conc.forgetAll {C : Ctx} {w0 : World} {X0 : Fr} {val : Nat → Value} {a : Act} {w : World} : ∀ (ds : List Nat) {s : St}, Conc C.gl w0 X0 s val a w → Conc C.gl w0 X0 (Vc.forgetAll ds s) val a w
  | [], _, h => h
  | d :: r, _, h => Conc.forgetAll r (h.forget d val fun _ _ => rfl)

theorem vOps_head {C : Ctx} (hO : CtxOk C) {H : Hint} {ops : Array Oper} {w0 : World} {X0 : Fr} {Q : Exit → Act → World → Prop} {next : Act → World → Prop} {o : Oper} {r : List Oper} {s : St} {K : St → Prop} {val : Nat → Value} {a : Act} {w : World}
    (h : vOps C H ops (o :: r) s K) (hC : Conc C.gl w0 X0 s val a w) (hn : ∀ s' val' a' w', vOps C H ops r s' K → Conc C.gl w0 X0 s' val' a' w' → next a' w') :
    if Region.wanted o (yielded ops a.tmps) then o.wp C.P a w next Q ∨ (o.asks C.P a w ∧ LetsOut Q) else next (a.put o.dst undef) w := by
  rw [vOps_cons] at h
  unfold vOpsStep at h
  have run : ∀ (s1 : St), Conc C.gl w0 X0 s1 val a w → Region.wanted o (yielded ops a.tmps) = true → (vOp C H s1 o fun s' => vOps C H ops r s' K) →
      if Region.wanted o (yielded ops a.tmps) then o.wp C.P a w next Q ∨ (o.asks C.P a w ∧ LetsOut Q) else next (a.put o.dst undef) w := by
    intro s1 hC1 hw h1
    rw [if_pos hw]
    exact .inl (vOp_ok hO h1 w0 X0 val a w hC1 Q _ hn)
  have skip : ∀ (s1 : St), Conc C.gl w0 X0 s1 val a w → Region.wanted o (yielded ops a.tmps) = false → (s1.putO o.dst undE fun s' => vOps C H ops r s' K) →
      if Region.wanted o (yielded ops a.tmps) then o.wp C.P a w next Q ∨ (o.asks C.P a w ∧ LetsOut Q) else next (a.put o.dst undef) w := by
    intro s1 hC1 hw h1
    rw [if_neg (by rw [hw]; simp)]
    obtain ⟨s', q1, q2⟩ := hC1.putO (v := undef) (e := undE) (.lit _) h1
    exact hn _ _ _ _ q1 q2
  split at h
  · rename_i hg; exact run s hC (guard_none hg _ _) h
  · split at h
    · rename_i d want hgd
      split at h
      · rename_i b hd
        have hv : a.tmps.getD d undef = .bool b := by
          have := hC.tm d
          rw [hd] at this
          exact Rel.lit_inv this
        have hy := yielded_of hgd hv
        have ht : ∀ (b' : Bool), b = b' → Conc C.gl w0 X0 (s.put d (.im (.lit (.bool b')))) val a w := fun b' e => hC.tell (by rw [hv, e]; exact .lit _)
        cases b <;> cases want <;> simp only [ifB] at h
        · exact run _ (ht _ rfl) (by rw [hy]; rfl) h
        · exact skip _ (ht _ rfl) (by rw [hy]; rfl) h
        · exact skip _ (ht _ rfl) (by rw [hy]; rfl) h
        · exact run _ (ht _ rfl) (by rw [hy]; rfl) h
      · rename_i cs hd
        have hv : a.tmps.getD d undef = .tuple cs := by
          have := hC.tm d
          rw [hd] at this
          exact Rel.lit_inv this
        exact skip s hC (yielded_tup hgd hv) h
      · exact h.elim
    · exact h.elim

section
variable {C : Ctx} {w0 : World} {X0 : Fr} {val : Nat → Value} {a : Act} {w : World}
theorem want_of {ops : Array Oper} {o : Oper} {s1 : St} {b : Bool} (hC : Conc C.gl w0 X0 s1 val a w) (h : wantS ops o s1 = some b) : Region.wanted o (yielded ops a.tmps) = b := by
  unfold wantS at h
  split at h
  · rename_i hg; cases h; exact guard_none hg _ _
  · split at h
    · rename_i d want hgd
      split at h
      · rename_i b' hd
        cases h
        have hv : a.tmps.getD d undef = .bool b' := by
          have := hC.tm d
          rw [hd] at this
          exact Rel.lit_inv this
        exact yielded_of hgd hv
      · rename_i cs hd
        cases h
        have hv : a.tmps.getD d undef = .tuple cs := by
          have := hC.tm d
          rw [hd] at this
          exact Rel.lit_inv this
        exact yielded_tup hgd hv
      · cases h
    · cases h

/-- One operation of the free part, when it is ready. -/
theorem loc_step {ops : Array Oper} {ds : List Nat} {o : Oper} {S : St} {d : Nat} {p : Pk} {Q : Exit → Act → World → Prop} {next : Act → World → Prop} (hd : o.dst = some d) (hlt : d < S.nt) (hl : Loc C ops o (S.only (looksT ops o) ds) p)
    (hfree : PkOk ds (some d) p → memN ds d = true → Free S d) (hp : PkOk ds (some d) p) (hC : Conc C.gl w0 X0 S val a w) (hn : ∀ val' a' w', Conc C.gl w0 X0 (S.app (some d) p) val' a' w' → next a' w') :
    if Region.wanted o (yielded ops a.tmps) then o.wp C.P a w next Q ∨ (o.asks C.P a w ∧ LetsOut Q) else next (a.put o.dst undef) w := by
  obtain ⟨X1, hC1, hX⟩ := hC.only (looksT ops o) ds
  cases p with
  | q e =>
    rcases hl with ⟨hw, hs⟩ | ⟨hw, rfl⟩
    · rw [if_pos (want_of hC1 hw)]
      refine .inl (hs w0 X1 val a w hC1 Q next fun v w' hb hv => ?_)
      rw [hX] at hv
      rw [hd]
      exact hn _ _ _ ((hC.ext hb).put hlt hv)
    · rw [if_neg (by rw [want_of hC1 hw]; simp), hd]
      exact hn _ _ _ (hC.put hlt (.lit _))
  | new t n f =>
    obtain ⟨hg, _, hr⟩ := hl
    rw [if_pos (guard_none hg _ _)]
    obtain ⟨v, hrun, hsz, hrel⟩ := hr w0 X1 val a w hC1
    rw [hX] at hrel
    obtain ⟨val', h2⟩ := conc_new (t := t) (f := fun j => .im (f j)) hC hlt hsz hrel
    have hf := hfree hp hp
    rw [hf.same] at h2
    refine .inl (wp_value hrun ?_)
    rw [hd]
    exact hn _ _ _ h2
end

section
variable {C : Ctx} {w0 : World} {X0 : Fr}

def cnt (l : Array Bool) : Nat := l.toList.countP (· == true)

theorem cnt_set {l : Array Bool} {i : Nat} (hi : i < l.size) (h : l.getD i true = false) : cnt (l.setIfInBounds i true) = cnt l + 1 := by
  obtain ⟨l⟩ := l
  simp only [cnt, List.setIfInBounds_toArray] at *
  simp only [List.size_toArray] at hi
  induction l generalizing i with
  | nil => simp at hi
  | cons b r ih =>
    cases i with
    | zero =>
      simp at h
      subst h
      simp
    | succ i =>
      have := ih (by simpa using h) (by simpa using hi)
      simp only [List.set_cons_succ, List.countP_cons]
      omega
theorem cnt_le (l : Array Bool) : cnt l ≤ l.size := by
  unfold cnt; rw [← Array.length_toList]; exact List.countP_le_length
theorem cnt_full {l : Array Bool} (h : cnt l = l.size) {i : Nat} (hi : i < l.size) : l.getD i false = true := by
  unfold cnt at h; rw [← Array.length_toList, List.countP_eq_length] at h
  have := h l[i] (by simp)
  simp [Array.getD, hi]
  simpa using this

theorem ready_min {ops : Array Oper} {m : Nat} (hp : PreOk ops m) {l : Array Bool} (hs : l.size = ops.size) {i : Nat} (hi : i < ops.size) (hu : l.getD i false = false) (hlow : ∀ j, j < i → l.getD j false = true) : i ∈ Region.ready .any ops l := by
  rw [mem_ready]
  have ho : ops[i]? = some ops[i] := Array.getElem?_eq_getElem hi
  refine ⟨?_, ops[i], ho, fun e he hb => hlow _ (hp.back i _ ho e he hb)⟩
  have : i < l.size := by omega
  simp [Array.getD, this] at hu ⊢
  exact hu

theorem tail_phase (hO : CtxOk C) {H : Hint} {ops : Array Oper} {m : Nat} (hp : PreOk ops m) {K : St → Prop} {Q : Exit → Act → World → Prop} (hn : ∀ s' val' a' w', K s' → Conc C.gl w0 X0 s' val' a' w' → Q .normal a' w') :
    ∀ (fuel k : Nat) (l : Array Bool) (s : St) (val : Nat → Value) (a : Act) (w : World), m ≤ k → k + fuel = ops.size → l.size = ops.size → (∀ j, j < ops.size → l.getD j false = decide (j < k)) →
      vOps C H ops (ops.toList.drop k) s K → Conc C.gl w0 X0 s val a w → wpAny C.P .any ops Q fuel l a w
  | 0, k, l, s, val, a, w, hk, hf, hs, hl, h, hC => by
    have hnone : Region.ready .any ops l = [] := by
      rw [List.eq_nil_iff_forall_not_mem]
      intro j hj
      obtain ⟨h0, o, ho, _⟩ := mem_ready.1 hj
      have hlt : j < ops.size := (Array.getElem?_eq_some_iff.1 ho).1
      have h1 := hl j hlt
      have hlt' : j < l.size := by omega
      simp [Array.getD, hlt'] at h0 h1
      rw [h0] at h1
      simp at h1; omega
    have : ops.toList.drop k = [] := List.drop_eq_nil_of_le (by simp; omega)
    rw [this] at h
    exact ⟨hnone, hn _ _ _ _ h hC⟩
  | fuel + 1, k, l, s, val, a, w, hk, hf, hs, hl, h, hC => by
    have hkl : k < ops.size := by omega
    have hko : ops[k]? = some ops[k] := Array.getElem?_eq_getElem hkl
    have hkr : k ∈ Region.ready .any ops l := ready_min hp hs hkl (by rw [hl k hkl]; simp) fun j hj => by rw [hl j (by omega)]; simpa using hj
    refine ⟨fun he => by rw [he] at hkr; simp at hkr, fun i hi => ?_⟩
    obtain ⟨h0, o, ho, hall⟩ := mem_ready.1 hi
    have hlt : i < ops.size := (Array.getElem?_eq_some_iff.1 ho).1
    have hik : i = k := by
      have hlt' : i < l.size := by omega
      have h1 := hl i hlt
      simp [Array.getD, hlt'] at h0 h1
      rw [h0] at h1
      simp at h1
      by_cases e : i = k
      · exact e
      · have := (hp.tail i k o (by omega) ho (by omega)).listed (l := l) (fun j q hq hjl e he hb => by
          have h2 := hp.back j q hq e he hb
          have h3 : j < ops.size := (Array.getElem?_eq_some_iff.1 hq).1
          rw [hl j h3] at hjl
          rw [hl e.on (by omega)]
          simp at hjl ⊢; omega) hall
        rw [hl k hkl] at this
        simp at this
    subst hik
    rw [ho] at hko
    cases hko
    unfold wpOp
    rw [ho]
    have hd : ops.toList.drop i = ops[i] :: ops.toList.drop (i + 1) := by
      rw [List.drop_eq_getElem_cons (by simpa using hlt)]; simp
    rw [hd] at h
    refine vOps_head hO h hC fun s' val' a' w' h' hC' => ?_
    refine tail_phase hO hp hn fuel (i + 1) _ s' val' a' w' (by omega) (by omega) (by simpa using hs) (fun j hj => ?_) h' hC'
    by_cases e : i = j
    · subst e
      have : i < l.size := by omega
      simp [this]
    · rw [getD_set_ne false e, hl j hj]
      simp; omega

theorem free_phase (hO : CtxOk C) {H : Hint} {ops : Array Oper} {m : Nat} (hp : PreOk ops m) {ds : List Nat} {s0 : St} {L : List (Nat × Pk)} (hL : L.length = m) (hs0 : ∀ d, memN ds d = true → Free s0 d)
    (hloc : ∀ (i : Nat) (o : Oper), i < m → ops[i]? = some o → ∃ d p, L[i]? = some (d, p) ∧ o.dst = some d ∧ d < s0.nt ∧ Loc C ops o ((sig s0 L (fun _ => true) i).only (looksT ops o) ds) p ∧ PkOk ds (some d) p)
    {K : St → Prop} {Q : Exit → Act → World → Prop} (hn : ∀ s' val' a' w', K s' → Conc C.gl w0 X0 s' val' a' w' → Q .normal a' w') (hend : vOps C H ops (ops.toList.drop m) (sig s0 L (fun _ => true) m) K) :
    ∀ (fuel : Nat) (l : Array Bool) (val : Nat → Value) (a : Act) (w : World), cnt l + fuel = ops.size → l.size = ops.size → (∀ j, m ≤ j → l.getD j false = false) → Closed ops l →
      Conc C.gl w0 X0 (sig s0 L (fun j => l.getD j false) m) val a w → wpAny C.P .any ops Q fuel l a w := by
  have hdis : ∀ (i j d : Nat) (p q : Pk), L[i]? = some (d, p) → L[j]? = some (d, q) → i = j := by
    intro i j d p q h1 h2
    have hi : i < m := by rw [← hL]; exact (List.getElem?_eq_some_iff.1 h1).1
    have hj : j < m := by rw [← hL]; exact (List.getElem?_eq_some_iff.1 h2).1
    have hm := hp.le
    obtain ⟨d1, p1, e1, e2, _⟩ := hloc i ops[i] hi (Array.getElem?_eq_getElem (by omega))
    obtain ⟨d2, p2, f1, f2, _⟩ := hloc j ops[j] hj (Array.getElem?_eq_getElem (by omega))
    rw [h1] at e1; rw [h2] at f1
    simp only [Option.some.injEq, Prod.mk.injEq] at e1 f1
    obtain ⟨rfl, rfl⟩ := e1
    obtain ⟨rfl, rfl⟩ := f1
    exact hp.dist i j _ _ _ hi hj (Array.getElem?_eq_getElem (by omega)) (Array.getElem?_eq_getElem (by omega)) e2 f2
  have hm := hp.le
  intro fuel
  induction fuel with
  | zero =>
    intro l val a w hc hs hhigh hcl hC
    have hfull : ∀ j, j < ops.size → l.getD j false = true := fun j hj => cnt_full (by omega) (by omega)
    have hmn : m = ops.size := by
      rcases Nat.lt_or_ge m ops.size with h | h
      · have := hhigh m (Nat.le_refl _); rw [hfull m h] at this; cases this
      · omega
    refine tail_phase (H := H) hO hp hn 0 ops.size l (sig s0 L (fun _ => true) m) val a w hm rfl hs (fun j hj => by rw [hfull j hj]; simp [hj]) ?_ ?_
    · rw [hmn] at hend ⊢; exact hend
    · have : sig s0 L (fun j => l.getD j false) m = sig s0 L (fun _ => true) m := by
        have : ∀ k, k ≤ m → sig s0 L (fun j => l.getD j false) k = sig s0 L (fun _ => true) k := by
          intro k
          induction k with
          | zero => intro _; rfl
          | succ k ih =>
            intro hk
            unfold sig
            rw [ih (by omega), hfull k (by omega)]
        exact this m (Nat.le_refl _)
      rw [← this]; exact hC
  | succ fuel ih =>
    intro l val a w hc hs hhigh hcl hC
    by_cases hall : ∀ j, j < m → l.getD j false = true
    · -- the free part is done
      have hsame : sig s0 L (fun j => l.getD j false) m = sig s0 L (fun _ => true) m := by
        have : ∀ k, k ≤ m → sig s0 L (fun j => l.getD j false) k = sig s0 L (fun _ => true) k := by
          intro k
          induction k with
          | zero => intro _; rfl
          | succ k ih =>
            intro hk
            unfold sig
            rw [ih (by omega), hall k (by omega)]
        exact this m (Nat.le_refl _)
      have hlm : ∀ j, j < ops.size → l.getD j false = decide (j < m) := fun j _ => by
        by_cases h : j < m
        · rw [hall j h]; simp [h]
        · rw [hhigh j (by omega)]; simp [h]
      have hcm : cnt l = m := by
        have key : ∀ (xs : List Bool) (m : Nat), m ≤ xs.length → (∀ j, j < xs.length → xs.getD j false = decide (j < m)) → xs.countP (· == true) = m := by
          intro xs
          induction xs with
          | nil => intro m hm _; simp at hm; simp [hm]
          | cons b r ih =>
            intro m hm hx
            cases m with
            | zero =>
              have h0 := hx 0 (by simp)
              simp at h0
              have := ih 0 (Nat.zero_le _) fun j hj => by have := hx (j + 1) (by simpa using hj); simpa using this
              rw [List.countP_cons, this, h0]; rfl
            | succ m =>
              have h0 := hx 0 (by simp)
              simp at h0
              have := ih m (by simpa using hm) fun j hj => by have := hx (j + 1) (by simpa using hj); simpa using this
              rw [List.countP_cons, this, h0]; rfl
        refine key l.toList m (by simp; omega) fun j hj => ?_
        have := hlm j (by simp at hj; omega)
        simpa [Array.getD_eq_getD_getElem?, List.getD_eq_getElem?_getD] using this
      exact tail_phase hO hp hn (fuel + 1) m l _ val a w (Nat.le_refl _) (by omega) hs hlm hend (by rw [← hsame]; exact hC)
    · -- an operation of the free part
      have hnotm : ∀ i ∈ Region.ready .any ops l, i < m := by
        intro i hi
        rcases Nat.lt_or_ge i m with h | h
        · exact h
        · exfalso
          obtain ⟨h0, o, ho, hedge⟩ := mem_ready.1 hi
          exact hall fun j hj => (hp.tail i j o h ho (by omega)).listed hcl hedge
      refine ⟨fun he => ?_, fun i hi => ?_⟩
      · exfalso
        -- the least that is not done is ready
        have hex : ∃ j, j < m ∧ l.getD j false = false := by
          rcases Classical.em (∃ j, j < m ∧ l.getD j false = false) with h | h
          · exact h
          · exact absurd (fun j hj => by
              cases hb : l.getD j false with
              | true => rfl
              | false => exact absurd ⟨j, hj, hb⟩ h) hall
        have hmin : ∃ j, j < m ∧ l.getD j false = false ∧ ∀ k, k < j → l.getD k false = true := by
          obtain ⟨j, hj⟩ := hex
          induction j using Nat.strongRecOn with
          | _ j ihj =>
            rcases Classical.em (∃ k, k < j ∧ l.getD k false = false) with ⟨k, hk, hkf⟩ | h
            · exact ihj k hk ⟨by omega, hkf⟩
            · refine ⟨j, hj.1, hj.2, fun k hk => ?_⟩
              cases hb : l.getD k false with
              | true => rfl
              | false => exact absurd ⟨k, hk, hb⟩ h
        obtain ⟨j, hj, hjf, hlow⟩ := hmin
        have := ready_min hp hs (show j < ops.size by omega) hjf hlow
        rw [he] at this; simp at this
      · have him := hnotm i hi
        obtain ⟨h0, o, ho, hedge⟩ := mem_ready.1 hi
        have hlt : i < ops.size := (Array.getElem?_eq_some_iff.1 ho).1
        have hil : i < l.size := by omega
        have hDi : l.getD i false = false := by
          simp [Array.getD, hil] at h0 ⊢; exact h0
        obtain ⟨d, p, e1, e2, e3, e4, e5⟩ := hloc i o him ho
        unfold wpOp
        rw [ho]
        have hrel : (sig s0 L (fun j => l.getD j false) m).only (looksT ops o) ds = (sig s0 L (fun _ => true) i).only (looksT ops o) ds := by
          refine St.ext' (by simp only [St.only, sig_nt]) (fun t => ?_) fun r => ?_
          · simp only [St.only]
            cases ht : memN (looksT ops o) t with
            | false => rfl
            | true =>
              have ht' := memN_iff.1 ht
              simp only [cond_true]
              rcases Classical.em (∃ (j : Nat) (q : Pk), L[j]? = some (t, q)) with ⟨j, q, hj⟩ | hno
              · have hjm : j < m := by rw [← hL]; exact (List.getElem?_eq_some_iff.1 hj).1
                obtain ⟨d', p', f1, f2, _⟩ := hloc j ops[j] hjm (Array.getElem?_eq_getElem (by omega))
                rw [hj] at f1
                simp only [Option.some.injEq, Prod.mk.injEq] at f1
                obtain ⟨rfl, rfl⟩ := f1
                obtain ⟨e, he, hb, hon⟩ := edgeOn_ok (hp.look i j t o _ him hjm ho (Array.getElem?_eq_getElem (by omega)) ht' f2)
                have hji : j < i := by rw [← hon]; exact hp.back i o ho e he hb
                have hDj : l.getD j false = true := by rw [← hon]; exact hedge e he hb
                rw [(sig_some (D := fun j => l.getD j false) hdis hj hDj m hjm).1, (sig_some (D := fun _ => true) hdis hj rfl i hji).1]
              · rw [(sig_none m fun j d' q _ hj _ e => hno ⟨j, q, by rw [← e]; exact hj⟩).1, (sig_none i fun j d' q _ hj _ e => hno ⟨j, q, by rw [← e]; exact hj⟩).1]
          · simp only [St.only]
            cases hr : memN ds r with
            | true => rfl
            | false =>
              simp only [cond_false]
              have hob : ∀ (D : Nat → Bool) (k : Nat), k ≤ m → (sig s0 L D k).ob r = s0.ob r := by
                intro D k hk
                rcases sig_cases (L := L) (D := D) k r with ⟨j, q, hj, hLj, hDj⟩ | hnn
                · rw [(sig_some hdis hLj hDj k hj).2]
                  obtain ⟨d', p', f1, f2, _, _, f5⟩ := hloc j ops[j] (by omega) (Array.getElem?_eq_getElem (by omega))
                  rw [hLj] at f1
                  simp only [Option.some.injEq, Prod.mk.injEq] at f1
                  obtain ⟨rfl, rfl⟩ := f1
                  cases q with
                  | q e => rfl
                  | new t n f =>
                    have : memN ds r = true := f5
                    rw [hr] at this; cases this
                · exact (sig_none k hnn).2
              rw [hob _ m (Nat.le_refl _), hob _ i (by omega)]
        refine loc_step e2 (by rw [sig_nt]; exact e3) (by rw [hrel]; exact e4) (fun _ hd => ?_) e5 hC fun val' a' w' hC' => ?_
        · -- nothing names d
          have hfree0 := hs0 d hd
          have hpk : ∀ (j d' : Nat) (q : Pk), j < m → L[j]? = some (d', q) → l.getD j false = true → menE (pkE d' q) ≠ some d := by
            intro j d' q hj hLj hDj
            obtain ⟨d'', p', f1, f2, _, _, f5⟩ := hloc j ops[j] hj (Array.getElem?_eq_getElem (by omega))
            rw [hLj] at f1
            simp only [Option.some.injEq, Prod.mk.injEq] at f1
            obtain ⟨rfl, rfl⟩ := f1
            cases q with
            | q e =>
              intro hc
              have h1 : menOk ds e = true := f5.1
              have hc' : menE e = some d := hc
              rw [menOk, hc'] at h1
              simp [hd] at h1
            | new t n f =>
              intro hc
              have hc' : some d' = some d := hc
              rw [Option.some.inj hc'] at hLj
              have := hdis j i d _ _ hLj e1
              subst this
              rw [hDi] at hDj; cases hDj
          refine ⟨fun t => ?_, fun r t n f hr j => ?_, ?_⟩
          · rcases sig_cases (L := L) (D := fun j => l.getD j false) m t with ⟨j, q, hj, hLj, hDj⟩ | hnn
            · rw [(sig_some hdis hLj hDj m hj).1]; exact hpk j t q hj hLj hDj
            · rw [(sig_none m hnn).1]; exact hfree0.tm t
          · rcases sig_cases (L := L) (D := fun j => l.getD j false) m r with ⟨j', q, hj, hLj, hDj⟩ | hnn
            · rw [(sig_some hdis hLj hDj m hj).2] at hr
              cases q with
              | q e => exact hfree0.ob r t n f hr j
              | new t' n' f' =>
                simp only [pkO, Option.some.injEq, Ob.box.injEq] at hr
                obtain ⟨_, _, rfl⟩ := hr
                simp [menE]
            · rw [(sig_none m hnn).2] at hr; exact hfree0.ob r t n f hr j
          · have : ∀ (j d' : Nat) (p : Pk), j < m → L[j]? = some (d', p) → l.getD j false = true → d' ≠ d := by
              intro j d' q hj hLj hDj e
              rw [e] at hLj
              have := hdis j i d _ _ hLj e1
              subst this
              rw [hDi] at hDj; cases hDj
            rw [(sig_none m this).2]; exact hfree0.no
        · refine ih _ val' a' w' (by rw [cnt_set hil h0]; omega) (by simpa using hs) (fun j hj => by rw [getD_set_ne false (by omega)]; exact hhigh j hj) (fun j q hq hjl e he hb => ?_) ?_
          · by_cases e' : i = j
            · subst e'
              rw [ho] at hq; cases hq
              exact getD_set_true (hedge e he hb)
            · rw [getD_set_ne false e'] at hjl
              exact getD_set_true (hcl j q hq hjl e he hb)
          rw [sig_step (D := fun j => l.getD j false) hdis him e1 hDi fun j => ?_]
          · exact hC'
          · by_cases e : j = i
            · subst e; simp [hil]
            · rw [if_neg e, getD_set_ne false (Ne.symm e)]

theorem VDraw.pre (hO : CtxOk C) {H : Hint} {ops : Array Oper} {s : St} {K : St → Prop} (m : Nat) (ds : List Nat) (hb : preB ops m = true)
    (h : vPre C H ops ds (ops.toList.take m) (Vc.forgetAll ds s) fun s' => vOps C H ops (ops.toList.drop m) s' K) : VDraw C ops s K := by
  have hp := preB_ok hb
  have hm := hp.le
  obtain ⟨ps, s', hch, hK⟩ := vPre_chain hO _ h
  obtain ⟨L, q1, q2, q3⟩ := hch.get
  have hlen : (ops.toList.take m).length = m := by simp; omega
  rw [hlen] at q1 q2
  subst q2
  refine ⟨fun w0 X0 val a w hC Q hn => ?_⟩
  refine free_phase hO hp q1 (fun d hd => forgetAll_free ds hd) (fun i o hi ho => q3 i o (take_get hi ho)) hn hK ops.size _ val a w ?_ (by simp) (fun j _ => ?_) (fun j q _ hjl => ?_) ?_
  · unfold cnt; simp
  · simp [Array.getElem?_replicate]; split <;> simp
  · exfalso
    have hk : (Array.replicate ops.size false).getD j false = false := by simp [Array.getElem?_replicate]; split <;> simp
    rw [hk] at hjl; cases hjl
  · have : ∀ k, sig (Vc.forgetAll ds s) L (fun j => (Array.replicate ops.size false).getD j false) k = Vc.forgetAll ds s := by
      intro k
      induction k with
      | zero => rfl
      | succ k ih =>
        have hk : (Array.replicate ops.size false).getD k false = false := by simp [Array.getElem?_replicate]; split <;> simp
        unfold sig
        split
        · rw [hk]; exact ih
        · exact ih
    rw [this]
    exact hC.forgetAll ds
end
end Go.Vc

/-
  A region that draws its order: every order, one by one; all come to one told state.
-/
set_option linter.unusedSimpArgs false
set_option linter.unusedSectionVars false
namespace Go.Vc
variable [Dr]

def rdyB (done : List Bool) (o : Oper) : Bool := o.after.toList.all fun e => !Region.binds .any e || done.getD e.on false
noncomputable def vEach (body : Nat → Oper → Prop) (done : List Bool) (l : List Oper) : Nat → Prop :=
  List.rec (motive := fun _ => Nat → Prop) (fun _ => True) (fun o _ ih i => bif !done.getD i true && rdyB done o then body i o ∧ ih (i + 1) else ih (i + 1)) l
noncomputable def anyR (done : List Bool) (l : List Oper) : Nat → Bool :=
  List.rec (motive := fun _ => Nat → Bool) (fun _ => false) (fun o _ ih i => bif !done.getD i true && rdyB done o then true else ih (i + 1)) l
noncomputable def vAll (C : Ctx) (H : Hint) (ops : Array Oper) (n : Nat) : List Bool → St → (St → Prop) → Prop :=
  Nat.rec (motive := fun _ => List Bool → St → (St → Prop) → Prop) (fun _ s K => K s)
    (fun _ ih done s K => bif anyR done ops.toList 0 then vEach (fun i o => vOps C H ops [o] s fun s' => ih (done.set i true) s' K) done ops.toList 0 else False) n
theorem vAll_succ (C : Ctx) (H : Hint) (ops : Array Oper) (n : Nat) (done : List Bool) (s : St) (K : St → Prop) :
    vAll C H ops (n + 1) done s K = bif anyR done ops.toList 0 then vEach (fun i o => vOps C H ops [o] s fun s' => vAll C H ops n (done.set i true) s' K) done ops.toList 0 else False := rfl

theorem vEach_get {body : Nat → Oper → Prop} {done : List Bool} : ∀ {l : List Oper} {b : Nat}, vEach body done l b → ∀ i o, l[i]? = some o → done.getD (b + i) true = false → rdyB done o = true → body (b + i) o
  | [], _, _, i, o, ho, _, _ => by cases ho
  | q :: r, b, h, i, o, ho, hd, hr => by
    have h' : bif !done.getD b true && rdyB done q then body b q ∧ vEach body done r (b + 1) else vEach body done r (b + 1) := h
    cases i with
    | zero =>
      have e : q = o := by simpa using ho
      subst e
      rw [Nat.add_zero] at hd ⊢
      rw [hd, hr] at h'
      exact h'.1
    | succ i =>
      have h2 : vEach body done r (b + 1) := by
        cases hc : (!done.getD b true && rdyB done q) with
        | true => rw [hc] at h'; exact h'.2
        | false => rw [hc] at h'; exact h'
      have := vEach_get h2 i o (by simpa using ho) (by rw [show b + 1 + i = b + (i + 1) by omega]; exact hd) hr
      rwa [show b + 1 + i = b + (i + 1) by omega] at this
theorem anyR_get {done : List Bool} : ∀ {l : List Oper} {b : Nat}, anyR done l b = true → ∃ i o, l[i]? = some o ∧ done.getD (b + i) true = false ∧ rdyB done o = true
  | [], _, h => by cases h
  | q :: r, b, h => by
    have h' : (bif !done.getD b true && rdyB done q then true else anyR done r (b + 1)) = true := h
    cases hc : (!done.getD b true && rdyB done q) with
    | true =>
      simp only [Bool.and_eq_true, Bool.not_eq_true'] at hc
      exact ⟨0, q, rfl, by rw [Nat.add_zero]; exact hc.1, hc.2⟩
    | false =>
      rw [hc] at h'
      obtain ⟨i, o, h1, h2, h3⟩ := anyR_get (b := b + 1) h'
      exact ⟨i + 1, o, by simpa using h1, by rw [show b + (i + 1) = b + 1 + i by omega]; exact h2, h3⟩
theorem rdyB_iff {done : List Bool} {o : Oper} : rdyB done o = true ↔ ∀ e ∈ o.after, Region.binds .any e = true → done.getD e.on false = true := by
  unfold rdyB
  rw [List.all_eq_true]
  constructor
  · intro h e he hb
    have := h e (by simpa using he)
    simpa [hb] using this
  · intro h e he
    have := h e (by simpa using he)
    cases hb : Region.binds .any e with
    | true => simpa using this hb
    | false => simp
theorem ready_iff {ops : Array Oper} {l : Array Bool} {i : Nat} : i ∈ Region.ready .any ops l ↔ ∃ o, ops.toList[i]? = some o ∧ l.toList.getD i true = false ∧ rdyB l.toList o = true := by
  rw [mem_ready]
  have hg : ∀ (j : Nat) (b : Bool), l.getD j b = l.toList.getD j b := fun j b => by rw [Array.getD_eq_getD_getElem?, List.getD_eq_getElem?_getD, Array.getElem?_toList]
  constructor
  · rintro ⟨h1, o, h2, h3⟩
    exact ⟨o, by rw [Array.getElem?_toList]; exact h2, by rw [← hg]; exact h1, rdyB_iff.2 fun e he hb => by rw [← hg]; exact h3 e he hb⟩
  · rintro ⟨o, h2, h1, h3⟩
    exact ⟨by rw [hg]; exact h1, o, by rw [← Array.getElem?_toList]; exact h2, fun e he hb => by rw [hg]; exact rdyB_iff.1 h3 e he hb⟩

section
variable {C : Ctx} {w0 : World} {X0 : Fr}
theorem vAll_ok (hO : CtxOk C) {H : Hint} {ops : Array Oper} {K : St → Prop} {Q : Exit → Act → World → Prop} (hn : ∀ s' val' a' w', K s' → Conc C.gl w0 X0 s' val' a' w' → Q .normal a' w') :
    ∀ (n : Nat) (l : Array Bool) (s : St) (val : Nat → Value) (a : Act) (w : World), cnt l + n = ops.size → l.size = ops.size → vAll C H ops n l.toList s K → Conc C.gl w0 X0 s val a w → wpAny C.P .any ops Q n l a w
  | 0, l, s, val, a, w, hc, hs, h, hC => by
    refine ⟨?_, hn _ _ _ _ h hC⟩
    rw [List.eq_nil_iff_forall_not_mem]
    intro j hj
    obtain ⟨h0, o, ho, _⟩ := mem_ready.1 hj
    have hlt : j < ops.size := (Array.getElem?_eq_some_iff.1 ho).1
    have h1 := cnt_full (l := l) (by omega) (i := j) (by omega)
    have hlt' : j < l.size := by omega
    simp [Array.getD, hlt'] at h0 h1
    rw [h0] at h1; cases h1
  | n + 1, l, s, val, a, w, hc, hs, h, hC => by
    rw [vAll_succ] at h
    obtain ⟨hany, hall⟩ := bif_and h
    refine ⟨fun he => ?_, fun i hi => ?_⟩
    · obtain ⟨i, o, h1, h2, h3⟩ := anyR_get hany
      rw [Nat.zero_add] at h2
      have := ready_iff.2 ⟨o, h1, h2, h3⟩
      rw [he] at this; cases this
    · obtain ⟨o, h1, h2, h3⟩ := ready_iff.1 hi
      have hb := vEach_get hall i o h1 (by rw [Nat.zero_add]; exact h2) h3
      rw [Nat.zero_add] at hb
      have ho : ops[i]? = some o := by rw [← Array.getElem?_toList]; exact h1
      have hlt : i < l.size := by rw [hs]; exact (Array.getElem?_eq_some_iff.1 ho).1
      unfold wpOp
      rw [ho]
      refine vOps_head hO hb hC fun s' val' a' w' h' hC' => ?_
      have h'' : vAll C H ops n (l.toList.set i true) s' K := h'
      refine vAll_ok hO hn n (l.setIfInBounds i true) s' val' a' w' ?_ (by simpa using hs) (by rw [Array.toList_setIfInBounds]; exact h'') hC'
      have := cnt_set (l := l) hlt (by
        have := h2
        rw [List.getD_eq_getElem?_getD, Array.getElem?_toList, ← Array.getD_eq_getD_getElem?] at this
        exact this)
      omega

structure VLeaf (N : Nat) (L : List (Nat × E)) (O : List (Nat × Ob)) (s' : St) : Prop where
  nt : s'.nt = N
  sub : Sub s' L O
theorem VDraw.all (hO : CtxOk C) {ops : Array Oper} {s : St} {K : St → Prop} {N : Nat} (H : Hint) (L : List (Nat × E)) (O : List (Nat × Ob))
    (h : vAll C H ops ops.size (List.replicate ops.size false) s (VLeaf N L O)) (hK : K (mkS N L O)) : VDraw C ops s K := by
  refine ⟨fun w0 X0 val a w hC Q hn => ?_⟩
  refine vAll_ok hO (K := VLeaf N L O) (fun s' val' a' w' hl hC' => ?_) ops.size _ s val a w ?_ (by simp) (by rw [Array.toList_replicate]; exact h) hC
  · have := hC'.sub hl.sub
    rw [hl.nt] at this
    exact hn _ _ _ _ hK this
  · have : cnt (Array.replicate ops.size false) = 0 := by unfold cnt; simp
    omega
end
end Go.Vc
