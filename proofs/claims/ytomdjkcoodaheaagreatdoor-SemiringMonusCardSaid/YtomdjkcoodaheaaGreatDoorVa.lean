/-
  What is told of values: data that nobody writes to ('D'), when a value reads as such data in a world ('Rel'), and that this stands while the blocks it reads stand.
-/
import Derived.WalkKit
import Derived.Maps.AppendAt
import Derived.Laws.Cells
set_option linter.unusedSectionVars false
set_option linter.unusedSimpArgs false
set_option linter.unusedVariables false
set_option linter.unusedSectionVars false
namespace Go.Vc

/-- Whether draws are counted (a few of the library's contracts do not tell). -/
structure DrT where
  b : Bool
abbrev Dr := Inhabited DrT
def Dr.b [Dr] : Bool := (default : DrT).b
variable [Dr]
def DrLe (x y : Nat) : Prop := Dr.b = true → x ≤ y
theorem DrLe.of {x y : Nat} (h : x ≤ y) : DrLe x y := fun _ => h
theorem DrLe.trans {x y z : Nat} (h : DrLe x y) (k : DrLe y z) : DrLe x z := fun q => Nat.le_trans (h q) (k q)
/-- The world goes on: what is below B stands; draws are only added. -/
structure Below (B : Nat) (w w' : World) : Prop where
  os : w'.os = w.os
  tape : w'.tape = w.tape
  output : w'.output = w.output
  size : w.heap.size ≤ w'.heap.size
  block : ∀ k, k < B → w'.heap[k]? = w.heap[k]?
  drawn : DrLe w.drawn w'.drawn
theorem Below.refl (B : Nat) (w : World) : Below B w w := ⟨rfl, rfl, rfl, Nat.le_refl _, fun _ _ => rfl, DrLe.of (Nat.le_refl _)⟩
theorem Below.trans {B : Nat} {a b c : World} (h : Below B a b) (k : Below B b c) : Below B a c :=
  ⟨k.os.trans h.os, k.tape.trans h.tape, k.output.trans h.output, Nat.le_trans h.size k.size, fun i hi => (k.block i hi).trans (h.block i hi), DrLe.trans h.drawn k.drawn⟩
/-- The same of an own row: all but its block stand. -/
theorem Below.grown {B : Nat} {a b c : World} (h : Below B a b) {row : Option Nat} (k : b.grownBy c row) (hd : DrLe b.drawn c.drawn) (hB : B ≤ b.heap.size) (hr : ∀ q, row = some q → B ≤ q) : Below B a c :=
  ⟨k.os.trans h.os, k.tape.trans h.tape, k.output.trans h.output, Nat.le_trans h.size k.size, fun i hi => (k.block i (Nat.lt_of_lt_of_le hi hB) (fun e => by have := hr i e.symm; omega)).trans (h.block i hi), DrLe.trans h.drawn hd⟩

inductive D where
  | top
  | lit (v : Value)
  | slice (k n : Nat) (f : Nat → Nat → D)
  | agg (n : Nat) (f : Nat → D)
  | ptr (n : Nat) (f : Nat → D)
  | func (g : FuncId) (n : Nat) (f : Nat → D)
  | tup (n : Nat) (f : Nat → D)
  | ifn
instance : Inhabited D := ⟨.top⟩

inductive Rel (X : Nat → Prop) (w : World) : Value → D → Prop where
  | top (v : Value) : Rel X w v .top
  | lit (v : Value) : Rel X w v (.lit v)
  | slice (A : Option Addr) (c k n : Nat) (f : Nat → Nat → D) (us : Nat → Nat → Value) (hc : n ≤ c) (hm : c ≤ maxLen) (hz : A = none → c = 0)
      (ha : ∀ i j, i < n → j < k → ∃ b off, A = some ⟨b, off, none⟩ ∧ ¬ X b ∧ w.cell? ⟨b, off + (i * k + j), none⟩ = some (us i j))
      (hr : ∀ i j, i < n → j < k → Rel X w (us i j) (f i j)) : Rel X w (.slice A n c) (.slice k n f)
  | agg (cs : Array Value) (n : Nat) (f : Nat → D) (hn : cs.size = n) (hr : ∀ j, j < n → Rel X w (cs.getD j undef) (f j)) : Rel X w (.agg cs) (.agg n f)
  | ptr (b off n : Nat) (f : Nat → D) (us : Nat → Value) (ha : ∀ j, j < n → ¬ X b ∧ w.cell? ⟨b, off + j, none⟩ = some (us j))
      (hr : ∀ j, j < n → Rel X w (us j) (f j)) : Rel X w (.pointer (some ⟨b, off, none⟩)) (.ptr n f)
  | func (g : FuncId) (cs : Array Value) (n : Nat) (f : Nat → D) (hn : cs.size = n) (hr : ∀ j, j < n → Rel X w (cs.getD j undef) (f j)) :
      Rel X w (.func (.func g) #[] cs) (.func g n f)
  | tup (cs : Array Value) (n : Nat) (f : Nat → D) (hn : cs.size = n) (hr : ∀ j, j < n → Rel X w (cs.getD j undef) (f j)) : Rel X w (.tuple cs) (.tup n f)
  | ifn (t : TypeId) (v : Value) : Rel X w (.iface t v) .ifn

/-- What is read stands elsewhere too. -/
theorem Rel.move {X X' : Nat → Prop} {w w' : World} {v : Value} {d : D} (h : Rel X w v d)
    (ht : ∀ (b o : Nat) (u : Value), ¬ X b → w.cell? ⟨b, o, none⟩ = some u → ¬ X' b ∧ w'.cell? ⟨b, o, none⟩ = some u) : Rel X' w' v d := by
  induction h with
  | top v => exact .top v
  | lit v => exact .lit v
  | slice A c k n f us hc hm hz ha hr ih =>
    refine .slice A c k n f us hc hm hz (fun i j hi hj => ?_) ih
    obtain ⟨b, off, e, hX, hu⟩ := ha i j hi hj
    exact ⟨b, off, e, (ht _ _ _ hX hu).1, (ht _ _ _ hX hu).2⟩
  | agg cs n f hn hr ih => exact .agg cs n f hn ih
  | ptr b off n f us ha hr ih => exact .ptr b off n f us (fun j hj => ht _ _ _ (ha j hj).1 (ha j hj).2) ih
  | func g cs n f hn hr ih => exact .func g cs n f hn ih
  | tup cs n f hn hr ih => exact .tup cs n f hn ih
  | ifn t v => exact .ifn t v

theorem cell_lt {w : World} {b o : Nat} {u : Value} (h : w.cell? ⟨b, o, none⟩ = some u) : b < w.heap.size := World.block_lt_of_cell? w _ h

/-- The blocks outside X stand. -/
theorem Rel.keep {X : Nat → Prop} {w w' : World} {v : Value} {d : D} (h : Rel X w v d) (hb : ∀ b, ¬ X b → b < w.heap.size → w'.heap[b]? = w.heap[b]?) : Rel X w' v d :=
  h.move fun b o _ hX hu => ⟨hX, (World.cell?_of_block (w := w) (a := ⟨b, o, none⟩) (hb b hX (cell_lt hu))).trans hu⟩
/-- Every old block stands: what was read reads so still. -/
theorem Rel.ext {X : Nat → Prop} {w w' : World} {v : Value} {d : D} (h : Rel X w v d) (hb : Below w.heap.size w w') : Rel X w' v d := h.keep fun b _ hl => hb.block b hl
theorem Rel.weak {X X' : Nat → Prop} {w : World} {v : Value} {d : D} (h : Rel X w v d) (hx : ∀ b, X' b → X b) : Rel X' w v d :=
  h.move fun _ _ _ hX hu => ⟨fun h' => hX (hx _ h'), hu⟩
/-- X may take in blocks that are not there. -/
theorem Rel.more {X X' : Nat → Prop} {w : World} {v : Value} {d : D} (h : Rel X w v d) (hx : ∀ b, X' b → X b ∨ w.heap.size ≤ b) : Rel X' w v d :=
  h.move fun b _ _ hX hu => ⟨fun h' => by have := cell_lt hu; rcases hx b h' with h1 | h1; exact hX h1; omega, hu⟩

/-! ### Entries of a frame; own blocks -/
inductive E where
  | im (d : D)
  | own (r off : Nat)
  | oel (r k i j : Nat)
  | osub (r k lo n : Nat)
  | orow (r : Nat)
instance : Inhabited E := ⟨.im .top⟩

inductive Ob where
  | box (t n : Nat) (f : Nat → E)
  | row (t k n : Nat) (f : Nat → Nat → D)

structure St where
  nt : Nat
  tm : Nat → E
  ob : Nat → Option Ob

def upd {α : Type} (f : Nat → α) (t : Nat) (e : α) : Nat → α := fun x => bif Nat.beq x t then e else f x
theorem upd_same {α : Type} (f : Nat → α) (t : Nat) (e : α) : upd f t e t = e := by simp [upd]
theorem upd_other {α : Type} (f : Nat → α) {t x : Nat} (e : α) (h : x ≠ t) : upd f t e x = f x := by
  have : Nat.beq x t = false := by rw [Bool.eq_false_iff]; exact fun h' => h (Nat.eq_of_beq_eq_true h')
  simp [upd, this]
theorem upd_eq {α : Type} (f : Nat → α) (t : Nat) (e : α) (x : Nat) : upd f t e x = if x = t then e else f x := by
  by_cases h : x = t
  · subst h; simp [upd]
  · rw [upd_other f e h, if_neg h]

def RelE (X : Nat → Prop) (val : Nat → Value) (w : World) (v : Value) : E → Prop
  | .im d => Rel X w v d
  | .own r off => ∃ b, val r = .pointer (some ⟨b, 0, none⟩) ∧ v = .pointer (some ⟨b, off, none⟩)
  | .oel r k i j => ∃ b n c, val r = .slice (some ⟨b, 0, none⟩) n c ∧ v = .pointer (some ⟨b, i * k + j, none⟩)
  | .osub r k lo n => ∃ b N c c', val r = .slice (some ⟨b, 0, none⟩) N c ∧ v = .slice (some ⟨b, lo * k, none⟩) n c' ∧ lo + c' = c ∧ n ≤ c' ∧ c ≤ maxLen
  | .orow r => v = val r ∧ ∃ A n c, v = .slice A n c

def ObOk (X : Nat → Prop) (val : Nat → Value) (w : World) (base : Nat) (r : Nat) : Ob → Prop
  | .box t n f => ∃ b cs, val r = .pointer (some ⟨b, 0, none⟩) ∧ base ≤ b ∧ w.heap[b]? = some (.cells cs t (0, 0)) ∧ cs.size = n ∧ ∀ j, j < n → RelE X val w (cs.getD j undef) (f j)
  | .row t k n f => ∃ xs, w.ownsRow base t k (val r) n xs ∧ ∀ i j, i < n → j < k → Rel X w (xs.getD (i * k + j) undef) (f i j)

def blk : Value → Option Nat
  | .pointer (some a) => some a.block
  | .slice (some a) _ _ => some a.block
  | _ => none

/-- What a function is told of its caller's blocks: x: not to be read; k: they stand (h: what they hold); n: so many there were. -/
structure Fr where
  x : Nat → Prop
  k : Nat → Prop
  h : Nat → Option Obj
  n : Nat
instance : CoeFun Fr fun _ => Nat → Prop := ⟨Fr.x⟩
def Fr.p (X : Fr) (b : Nat) : Prop := X.x b ∨ X.k b
def Fr.of (X : Nat → Prop) : Fr := ⟨X, fun _ => False, fun _ => none, 0⟩
def XOf (X0 : Fr) (ob : Nat → Option Ob) (val : Nat → Value) (b : Nat) : Prop := X0 b ∨ ∃ r o, ob r = some o ∧ blk (val r) = some b

structure Conc (gl : Nat → D) (w0 : World) (X0 : Fr) (s : St) (val : Nat → Value) (a : Act) (w : World) : Prop where
  below : Below w0.heap.size w0 w
  p0 : ∀ b, X0.p b → b < w.heap.size
  pd : ∀ b, X0.p b → ∀ r o, s.ob r = some o → blk (val r) ≠ some b
  kp : (∀ b, X0.k b → w.heap[b]? = X0.h b) ∧ X0.n ≤ w.heap.size
  size : a.tmps.size = s.nt
  defers : a.defers = []
  tm : ∀ t, RelE (XOf X0 s.ob val) val w (a.tmps.getD t undef) (s.tm t)
  ob : ∀ r o, s.ob r = some o → ObOk (XOf X0 s.ob val) val w w0.heap.size r o
  disj : ∀ r r' o o', s.ob r = some o → s.ob r' = some o' → r ≠ r' → ∀ b, blk (val r) = some b → blk (val r') ≠ some b
  gl : ∀ g, Rel (XOf X0 s.ob val) w (.pointer (some ⟨g, 0, none⟩)) (gl g)

theorem RelE.move {X X' : Nat → Prop} {val : Nat → Value} {w w' : World} {v : Value} {e : E} (h : RelE X val w v e) (hm : ∀ v d, Rel X w v d → Rel X' w' v d) : RelE X' val w' v e := by
  cases e with
  | im d => exact hm _ _ h
  | own r off => exact h
  | oel r k i j => exact h
  | osub r k lo n => exact h
  | orow r => exact h

theorem ObOk.move {X X' : Nat → Prop} {val : Nat → Value} {w w' : World} {base r : Nat} {o : Ob} (h : ObOk X val w base r o) (hm : ∀ v d, Rel X w v d → Rel X' w' v d)
    (hb : ∀ b, blk (val r) = some b → w'.heap[b]? = w.heap[b]?) : ObOk X' val w' base r o := by
  cases o with
  | box t n f =>
    obtain ⟨b, cs, h1, h2, h3, h4, h5⟩ := h
    exact ⟨b, cs, h1, h2, by rw [hb b (by simp [h1, blk])]; exact h3, h4, fun j hj => (h5 j hj).move hm⟩
  | row t k n f =>
    obtain ⟨xs, ⟨hl, hrow⟩, h2⟩ := h
    refine ⟨xs, ⟨hl, ?_⟩, fun i j hi hj => hm _ _ (h2 i j hi hj)⟩
    rcases hrow with h | ⟨g, cap, cur, e1, e2, e3, rest⟩
    · exact .inl h
    · exact .inr ⟨g, cap, cur, e1, e2, by rw [hb g (by simp [e1, blk])]; exact e3, rest⟩

theorem ObOk.lt {X : Nat → Prop} {val : Nat → Value} {w : World} {base r : Nat} {o : Ob} (h : ObOk X val w base r o) {b : Nat} (hb : blk (val r) = some b) : base ≤ b ∧ b < w.heap.size := by
  cases o with
  | box t n f =>
    obtain ⟨b', cs, h1, h2, h3, _⟩ := h
    simp only [h1, blk, Option.some.injEq] at hb
    subst hb
    exact ⟨h2, (Array.getElem?_eq_some_iff.1 h3).1⟩
  | row t k n f =>
    obtain ⟨xs, ⟨_, hrow⟩, _⟩ := h
    rcases hrow with ⟨h, _⟩ | ⟨g, cap, cur, e1, e2, e3, rest⟩
    · simp [h, blk] at hb
    · simp only [e1, blk, Option.some.injEq] at hb
      subst hb
      exact ⟨e2, (Array.getElem?_eq_some_iff.1 e3).1⟩

section
variable {gl : Nat → D} {w0 : World} {X0 : Fr} {s : St} {val : Nat → Value} {a : Act} {w : World}

theorem Conc.x0 (h : Conc gl w0 X0 s val a w) : ∀ b, X0 b → b < w.heap.size := fun b hb => h.p0 b (.inl hb)
theorem Conc.xd (h : Conc gl w0 X0 s val a w) : ∀ b, X0 b → ∀ r o, s.ob r = some o → blk (val r) ≠ some b := fun b hb => h.pd b (.inl hb)
/-- The world goes on: all that is there stands. -/
theorem Conc.ext (h : Conc gl w0 X0 s val a w) {w' : World} (hb : Below w.heap.size w w') : Conc gl w0 X0 s val a w' where
  below := h.below.trans ⟨hb.os, hb.tape, hb.output, hb.size, fun k hk => hb.block k (Nat.lt_of_lt_of_le hk h.below.size), hb.drawn⟩
  p0 b hX := Nat.lt_of_lt_of_le (h.p0 b hX) hb.size
  pd := h.pd
  kp := ⟨fun b hk => (hb.block b (h.p0 b (.inr hk))).trans (h.kp.1 b hk), Nat.le_trans h.kp.2 hb.size⟩
  size := h.size
  defers := h.defers
  tm t := (h.tm t).move fun _ _ hr => hr.ext hb
  ob r o ho := (h.ob r o ho).move (fun _ _ hr => hr.ext hb) fun b hb' => hb.block b ((h.ob r o ho).lt hb').2
  disj := h.disj
  gl g := (h.gl g).ext hb

/-- A temporary is written. -/
def St.put (s : St) (d : Nat) (e : E) : St := { s with tm := upd s.tm d e }
def St.putO (s : St) (dst : Option Tmp) (e : E) (K : St → Prop) : Prop :=
  match dst with
  | none => K s
  | some d => bif Nat.blt d s.nt then K (s.put d e) else False

theorem getD_set (xs : Array Value) (d t : Nat) (v : Value) (hd : d < xs.size) : (xs.setIfInBounds d v).getD t undef = if t = d then v else xs.getD t undef := by
  by_cases h : t = d
  · subst h; simp [Array.getD_eq_getD_getElem?, hd]
  · simp [Array.getD_eq_getD_getElem?, Array.getElem?_setIfInBounds_ne (Ne.symm h), h]

theorem Conc.put (h : Conc gl w0 X0 s val a w) {d : Nat} {v : Value} {e : E} (hd : d < s.nt) (hv : RelE (XOf X0 s.ob val) val w v e) :
    Conc gl w0 X0 (s.put d e) val (a.put (some d) v) w where
  below := h.below
  p0 := h.p0
  pd := h.pd
  kp := h.kp
  size := by simp [Act.put, St.put, h.size]
  defers := h.defers
  tm t := by
    show RelE _ _ _ ((a.tmps.setIfInBounds d v).getD t undef) (upd s.tm d e t)
    rw [getD_set _ _ _ _ (by rw [h.size]; exact hd), upd_eq]
    split
    · exact hv
    · exact h.tm t
  ob := h.ob
  disj := h.disj
  gl := h.gl

theorem Conc.putO {K : St → Prop} (h : Conc gl w0 X0 s val a w) {dst : Option Tmp} {v : Value} {e : E} (hv : RelE (XOf X0 s.ob val) val w v e) (hK : s.putO dst e K) :
    ∃ s', K s' ∧ Conc gl w0 X0 s' val (a.put dst v) w := by
  cases dst with
  | none => exact ⟨s, hK, h⟩
  | some d =>
    simp only [St.putO] at hK
    cases hd : Nat.blt d s.nt with
    | false => rw [hd] at hK; exact hK.elim
    | true =>
      rw [hd] at hK
      exact ⟨_, hK, h.put (by simpa [Nat.blt_eq] using hd) hv⟩
end

end Go.Vc

/-
  Own blocks: made, forgotten, frozen.
-/
set_option linter.unusedSectionVars false
namespace Go.Vc
variable [Dr]

def forgetE (r : Nat) : E → E
  | .im d => .im d
  | .own r' o => bif Nat.beq r' r then .im .top else .own r' o
  | .oel r' k i j => bif Nat.beq r' r then .im .top else .oel r' k i j
  | .osub r' k lo n => bif Nat.beq r' r then .im .top else .osub r' k lo n
  | .orow r' => bif Nat.beq r' r then .im .top else .orow r'
def forgetOb (r : Nat) : Ob → Ob
  | .box t n f => .box t n (fun j => forgetE r (f j))
  | .row t k n f => .row t k n f
/-- All that names r is forgotten; r itself stays owned or goes. -/
def St.drop (s : St) (r : Nat) : St := { s with tm := fun t => forgetE r (s.tm t), ob := fun r' => match s.ob r' with | some o => some (forgetOb r o) | none => none }
def St.forget (s : St) (r : Nat) : St := { s with tm := fun t => forgetE r (s.tm t), ob := fun r' => bif Nat.beq r' r then none else match s.ob r' with | some o => some (forgetOb r o) | none => none }

theorem beq_false {a b : Nat} (h : a ≠ b) : Nat.beq a b = false := by rw [Bool.eq_false_iff]; exact fun h' => h (Nat.eq_of_beq_eq_true h')
theorem beq_self (a : Nat) : Nat.beq a a = true := Nat.beq_refl a

theorem RelE.forget {X X' : Nat → Prop} {val val' : Nat → Value} {w w' : World} {v : Value} {e : E} {r : Nat} (h : RelE X val w v e) (hv : ∀ r', r' ≠ r → val' r' = val r')
    (hm : ∀ v d, Rel X w v d → Rel X' w' v d) : RelE X' val' w' v (forgetE r e) := by
  cases e with
  | im d => exact hm _ _ h
  | own r' o =>
    simp only [forgetE]
    by_cases e : r' = r
    · subst e; rw [beq_self]; exact .top v
    · rw [beq_false e]; obtain ⟨b, h1, h2⟩ := h; exact ⟨b, by rw [hv r' e]; exact h1, h2⟩
  | oel r' k i j =>
    simp only [forgetE]
    by_cases e : r' = r
    · subst e; rw [beq_self]; exact .top v
    · rw [beq_false e]; obtain ⟨b, n, c, h1, h2⟩ := h; exact ⟨b, n, c, by rw [hv r' e]; exact h1, h2⟩
  | osub r' k lo n =>
    simp only [forgetE]
    by_cases e : r' = r
    · subst e; rw [beq_self]; exact .top v
    · rw [beq_false e]; obtain ⟨b, N, c, c', h1, h2⟩ := h; exact ⟨b, N, c, c', by rw [hv r' e]; exact h1, h2⟩
  | orow r' =>
    simp only [forgetE]
    by_cases e : r' = r
    · subst e; rw [beq_self]; exact .top v
    · rw [beq_false e]; obtain ⟨h1, h2⟩ := h; exact ⟨by rw [hv r' e]; exact h1, h2⟩

theorem ObOk.forget {X X' : Nat → Prop} {val val' : Nat → Value} {w w' : World} {base r r' : Nat} {o : Ob} (h : ObOk X val w base r' o) (hv : ∀ r', r' ≠ r → val' r' = val r')
    (hr : val' r' = val r') (hm : ∀ v d, Rel X w v d → Rel X' w' v d) (hb : ∀ b, blk (val r') = some b → w'.heap[b]? = w.heap[b]?) : ObOk X' val' w' base r' (forgetOb r o) := by
  cases o with
  | box t n f =>
    obtain ⟨b, cs, h1, h2, h3, h4, h5⟩ := h
    exact ⟨b, cs, by rw [hr]; exact h1, h2, by rw [hb b (by simp [h1, blk])]; exact h3, h4, fun j hj => (h5 j hj).forget hv hm⟩
  | row t k n f =>
    have := ObOk.move (val := val) (X' := X') (w' := w') h hm hb
    obtain ⟨xs, h1, h2⟩ := this
    exact ⟨xs, by rw [hr]; exact h1, h2⟩

section
variable {gl : Nat → D} {w0 : World} {X0 : Fr} {s : St} {val : Nat → Value} {a : Act} {w : World}

theorem forget_some {s : St} {r r' : Nat} {o : Ob} (h : (s.forget r).ob r' = some o) : r' ≠ r ∧ ∃ o', s.ob r' = some o' ∧ o = forgetOb r o' := by
  simp only [St.forget] at h
  by_cases e : r' = r
  · subst e; rw [beq_self] at h; cases h
  · rw [beq_false e] at h
    cases ho : s.ob r' with
    | none => rw [ho] at h; cases h
    | some o' => rw [ho] at h; exact ⟨e, o', rfl, (Option.some.inj h).symm⟩

/-- What names r is forgotten: r may stand for anything. -/
theorem Conc.forget (h : Conc gl w0 X0 s val a w) (r : Nat) (val' : Nat → Value) (hv : ∀ r', r' ≠ r → val' r' = val r') : Conc gl w0 X0 (s.forget r) val' a w := by
  have hx : ∀ b, XOf X0 (s.forget r).ob val' b → XOf X0 s.ob val b := by
    rintro b (hb | ⟨r', o, ho, hb⟩)
    · exact .inl hb
    · obtain ⟨hne, o', ho', _⟩ := forget_some ho
      exact .inr ⟨r', o', ho', by rw [← hv r' hne]; exact hb⟩
  have hm : ∀ v d, Rel (XOf X0 s.ob val) w v d → Rel (XOf X0 (s.forget r).ob val') w v d := fun v d hr => hr.weak hx
  refine { below := h.below, p0 := h.p0, kp := h.kp, pd := fun b hX r' o ho => ?_, size := h.size, defers := h.defers, tm := fun t => (h.tm t).forget hv hm, ob := fun r' o ho => ?_, disj := fun r1 r2 o1 o2 h1 h2 hne b hb => ?_, gl := fun g => hm _ _ (h.gl g) }
  · obtain ⟨hne, o', ho', _⟩ := forget_some ho
    rw [hv r' hne]; exact h.pd b hX r' o' ho'
  · obtain ⟨hne, o', ho', rfl⟩ := forget_some ho
    exact (h.ob r' o' ho').forget hv (hv r' hne) hm fun _ _ => rfl
  · obtain ⟨n1, o1', e1, _⟩ := forget_some h1
    obtain ⟨n2, o2', e2, _⟩ := forget_some h2
    rw [hv r1 n1] at hb
    rw [hv r2 n2]
    exact h.disj r1 r2 o1' o2' e1 e2 hne b hb

/-- A new own object r, in a block that was not there: r is named nowhere yet. -/
def St.own (s : St) (r : Nat) (o : Ob) : St := { s with ob := upd s.ob r (some o) }

theorem Conc.newObj (h : Conc gl w0 X0 s val a w) {r : Nat} (hr : s.ob r = none) {o : Ob} {w' : World} (hb : Below w.heap.size w w')
    (hblk : ∀ b, blk (val r) = some b → w.heap.size ≤ b)
    (hob : ObOk (XOf X0 (s.own r o).ob val) val w' w0.heap.size r o) : Conc gl w0 X0 (s.own r o) val a w' := by
  have h' := h.ext hb
  have hx : ∀ b, XOf X0 (s.own r o).ob val b → XOf X0 s.ob val b ∨ w.heap.size ≤ b := by
    rintro b (hb | ⟨r', o', ho, hb⟩)
    · exact .inl (.inl hb)
    · simp only [St.own, upd_eq] at ho
      split at ho
      · rename_i e; subst e; exact .inr (hblk b hb)
      · exact .inl (.inr ⟨r', o', ho, hb⟩)
  have hm : ∀ v d, Rel (XOf X0 s.ob val) w v d → Rel (XOf X0 (s.own r o).ob val) w' v d := fun v d hr => (hr.more hx).ext hb
  refine { below := h'.below, p0 := h'.p0, kp := h'.kp, pd := fun b hX r' o' ho hb' => ?_, size := h.size, defers := h.defers, tm := fun t => (h.tm t).move hm, ob := fun r' o' ho => ?_, disj := fun r1 r2 o1 o2 h1 h2 hne b hb1 hb2 => ?_, gl := fun g => hm _ _ (h.gl g) }
  · simp only [St.own, upd_eq] at ho
    split at ho
    · rename_i e; subst e; have := hblk b hb'; have := h.p0 b hX; omega
    · exact h.pd b hX r' o' ho hb'
  · simp only [St.own, upd_eq] at ho
    split at ho
    · rename_i e; subst e; cases ho; exact hob
    · exact (h.ob r' o' ho).move hm fun b hb' => hb.block b ((h.ob r' o' ho).lt hb').2
  · simp only [St.own, upd_eq] at h1 h2
    split at h1 <;> split at h2
    · omega
    · rename_i e1 e2; subst e1
      have := (h.ob r2 o2 h2).lt hb2; have := hblk b hb1; omega
    · rename_i e1 e2; subst e2
      have := (h.ob r1 o1 h1).lt hb1; have := hblk b hb2; omega
    · exact h.disj r1 r2 o1 o2 h1 h2 hne b hb1 hb2

/-! ### Freezing: an own row becomes data -/
def freezeE (r k n : Nat) (f : Nat → Nat → D) : E → E
  | .im d => .im d
  | .own r' o => bif Nat.beq r' r then .im .top else .own r' o
  | .oel r' k' i j => bif Nat.beq r' r then .im .top else .oel r' k' i j
  | .osub r' k' lo m => bif Nat.beq r' r then .im .top else .osub r' k' lo m
  | .orow r' => bif Nat.beq r' r then .im (.slice k n f) else .orow r'
def freezeOb (r k n : Nat) (f : Nat → Nat → D) : Ob → Ob
  | .box t m g => .box t m (fun j => freezeE r k n f (g j))
  | .row t m l g => .row t m l g
def St.freeze (s : St) (r : Nat) : St :=
  match s.ob r with
  | some (.row _ k n f) => { s with tm := fun t => freezeE r k n f (s.tm t), ob := fun r' => bif Nat.beq r' r then none else match s.ob r' with | some o => some (freezeOb r k n f o) | none => none }
  | _ => s

theorem row_rel {X X' : Nat → Prop} {val : Nat → Value} {w : World} {base r t k n : Nat} {f : Nat → Nat → D} (h : ObOk X val w base r (.row t k n f)) (hx : ∀ b, X' b → X b)
    (hr : ∀ b, blk (val r) = some b → ¬ X' b) : Rel X' w (val r) (.slice k n f) := by
  obtain ⟨xs, ⟨hl, hrow⟩, h2⟩ := h
  rcases hrow with ⟨e, rfl⟩ | ⟨g, cap, cur, e1, e2, e3, e4, e5, e6, e7⟩
  · rw [e]; exact .slice none 0 k 0 f (fun _ _ => undef) (Nat.le_refl _) (Nat.zero_le _) (fun _ => rfl) (fun i j hi => absurd hi (Nat.not_lt_zero _)) fun i j hi => absurd hi (Nat.not_lt_zero _)
  · have hnX : ¬ X' g := hr g (by simp [e1, blk])
    rw [e1]
    refine .slice _ cap k n f (fun i j => xs.getD (i * k + j) undef) e4 e5 (fun h => by cases h) (fun i j hi hj => ⟨g, 0, rfl, hnX, ?_⟩) fun i j hi hj => (h2 i j hi hj).weak hx
    have hlt : i * k + j < n * k := by
      have : (i + 1) * k ≤ n * k := Nat.mul_le_mul_right k hi
      rw [Nat.add_mul] at this; omega
    have hcap : n * k ≤ cap * k := Nat.mul_le_mul_right k e4
    have hlt2 : i * k + j < cur.size := by rw [e6]; omega
    have hx1 : xs.getD (i * k + j) undef = cur[i * k + j]'hlt2 := by
      rw [← e7, List.getD_eq_getElem?_getD, List.getElem?_take_of_lt hlt]
      simp [hlt2]
    simp only [World.cell?, e3, Nat.zero_add, Option.isSome_none, Bool.false_eq_true, if_false, hx1]
    exact Array.getElem?_eq_getElem hlt2

theorem Conc.freeze (h : Conc gl w0 X0 s val a w) (r : Nat) : Conc gl w0 X0 (s.freeze r) val a w := by
  unfold St.freeze
  split
  · rename_i t k n f ho
    have hrow := h.ob r _ ho
    have hx : ∀ b, XOf X0 (fun r' => bif Nat.beq r' r then none else match s.ob r' with | some o => some (freezeOb r k n f o) | none => none) val b → XOf X0 s.ob val b := by
      rintro b (hb | ⟨r', o, ho', hb⟩)
      · exact .inl hb
      · by_cases e : r' = r
        · subst e; simp at ho'
        · simp only [beq_false e] at ho'
          cases h2 : s.ob r' with
          | none => simp [h2] at ho'
          | some o' => exact .inr ⟨r', o', h2, hb⟩
    have hnr : ∀ b, blk (val r) = some b → ¬ XOf X0 (fun r' => bif Nat.beq r' r then none else match s.ob r' with | some o => some (freezeOb r k n f o) | none => none) val b := by
      rintro b hb (h0 | ⟨r', o, ho', hb'⟩)
      · exact h.xd b h0 r _ ho hb
      · by_cases e : r' = r
        · subst e; simp at ho'
        · simp only [beq_false e] at ho'
          cases h2 : s.ob r' with
          | none => simp [h2] at ho'
          | some o' => exact h.disj r' r o' _ h2 ho e b hb' hb
    have hm : ∀ v d, Rel (XOf X0 s.ob val) w v d → Rel (XOf X0 (fun r' => bif Nat.beq r' r then none else match s.ob r' with | some o => some (freezeOb r k n f o) | none => none) val) w v d := fun v d hr => hr.weak hx
    have hR := row_rel hrow hx hnr
    have hE : ∀ v e, RelE (XOf X0 s.ob val) val w v e → RelE (XOf X0 (fun r' => bif Nat.beq r' r then none else match s.ob r' with | some o => some (freezeOb r k n f o) | none => none) val) val w v (freezeE r k n f e) := by
      intro v e hv
      cases e with
      | im d => exact hm _ _ hv
      | own r' o =>
        simp only [freezeE]
        by_cases e : r' = r
        · subst e; rw [beq_self]; exact .top v
        · rw [beq_false e]; exact hv
      | oel r' k' i j =>
        simp only [freezeE]
        by_cases e : r' = r
        · subst e; rw [beq_self]; exact .top v
        · rw [beq_false e]; exact hv
      | osub r' k' lo m =>
        simp only [freezeE]
        by_cases e : r' = r
        · subst e; rw [beq_self]; exact .top v
        · rw [beq_false e]; exact hv
      | orow r' =>
        simp only [freezeE]
        by_cases e : r' = r
        · subst e; rw [beq_self]; obtain ⟨e1, _⟩ := hv; subst e1; exact hR
        · rw [beq_false e]; exact hv
    refine { below := h.below, p0 := h.p0, kp := h.kp, pd := fun b hX r' o ho' => ?_, size := h.size, defers := h.defers, tm := fun t => hE _ _ (h.tm t), ob := fun r' o ho' => ?_, disj := fun r1 r2 o1 o2 h1 h2 hne b hb => ?_, gl := fun g => hm _ _ (h.gl g) }
    · by_cases e : r' = r
      · subst e; simp at ho'
      · simp only [beq_false e] at ho'
        cases h2 : s.ob r' with
        | none => simp [h2] at ho'
        | some o' => exact h.pd b hX r' o' h2
    · by_cases e : r' = r
      · subst e; simp at ho'
      · simp only [beq_false e] at ho'
        cases h2 : s.ob r' with
        | none => simp [h2] at ho'
        | some o' =>
          simp only [h2, cond_false, Option.some.injEq] at ho'
          subst ho'
          have h3 := h.ob r' o' h2
          cases o' with
          | box t' m g =>
            obtain ⟨b, cs, q1, q2, q3, q4, q5⟩ := h3
            exact ⟨b, cs, q1, q2, q3, q4, fun j hj => hE _ _ (q5 j hj)⟩
          | row t' m l g => exact h3.move hm fun _ _ => rfl
    · have k1 : ∃ o', s.ob r1 = some o' := by
        by_cases e : r1 = r
        · subst e; simp at h1
        · simp only [beq_false e] at h1
          cases q : s.ob r1 with
          | none => simp [q] at h1
          | some o' => exact ⟨o', rfl⟩
      have k2 : ∃ o', s.ob r2 = some o' := by
        by_cases e : r2 = r
        · subst e; simp at h2
        · simp only [beq_false e] at h2
          cases q : s.ob r2 with
          | none => simp [q] at h2
          | some o' => exact ⟨o', rfl⟩
      obtain ⟨o1', e1⟩ := k1
      obtain ⟨o2', e2⟩ := k2
      exact h.disj r1 r2 o1' o2' e1 e2 hne b hb
  · exact h
end
end Go.Vc

/-
  Operations one by one: what each does to the told state.
-/
set_option linter.unusedSectionVars false
namespace Go.Vc
variable [Dr]

structure TI where
  desc : TypeDesc
  size : Nat
  bytes : Nat
  zero : Value

structure Ctx where
  P : Program
  ty : List (Nat × TI)
  gl : Nat → D
  pairs : List Nat := []

def lookT : List (Nat × TI) → Nat → Option TI
  | [], _ => none
  | (a, i) :: r, t => bif Nat.beq a t then some i else lookT r t

def TyOk (P : Program) (t : Nat) (i : TI) : Prop := P.underlying t = some i.desc ∧ (P.info? t).map (fun q => (q.size, q.bytes, q.zero)) = some (i.size, i.bytes, some i.zero)

def memN : List Nat → Nat → Bool
  | [], _ => false
  | a :: r, t => bif Nat.beq a t then true else memN r t
structure CtxOk (C : Ctx) : Prop where
  ty : ∀ t i, lookT C.ty t = some i → TyOk C.P t i
  /-- A struct of two ints: what == says of it. -/
  pairs : ∀ t, memN C.pairs t = true → C.P.eqGuardType C.P.depth t = false ∧ ∀ (a b c d : Int) (w : World), (Op.equalIn 10000 t (.agg #[.int .i64 a, .int .i64 b]) (.agg #[.int .i64 c, .int .i64 d])).run C.P w = .ok (decide (a = c) && decide (b = d)) w
  mixed : C.P.follows .mixedOrders = true

theorem TyOk.info {P : Program} {t : Nat} {i : TI} (h : TyOk P t i) : ∃ q, P.info? t = some q ∧ q.size = i.size ∧ q.bytes = i.bytes ∧ q.zero = some i.zero := by
  obtain ⟨q, hq, e⟩ := Option.map_eq_some_iff.1 h.2
  simp only [Prod.mk.injEq] at e
  exact ⟨q, hq, e.1, e.2.1, e.2.2⟩

theorem run_underlying' {P : Program} {t : Nat} {d : TypeDesc} (h : P.underlying t = some d) (w : World) : (underlying t).run P w = .ok d w := by
  simp [underlying, h]
theorem run_typeInfo' {P : Program} {t : Nat} {q : TypeInfo} (h : P.info? t = some q) (w : World) : (typeInfo t).run P w = .ok q w := by
  simp [typeInfo, h]
theorem TyOk.run_sizeOf {P : Program} {t : Nat} {i : TI} (h : TyOk P t i) (w : World) : (sizeOf t).run P w = .ok i.size w := by
  obtain ⟨q, hq, e, _⟩ := h.info
  simp [sizeOf, run_typeInfo' hq, e]
theorem TyOk.run_zero {P : Program} {t : Nat} {i : TI} (h : TyOk P t i) (w : World) : (zeroValue t).run P w = .ok i.zero w := by
  obtain ⟨q, hq, _, _, e⟩ := h.info
  simp [zeroValue, run_typeInfo' hq, e]
def isAggD : TypeDesc → Bool
  | .struct _ | .array _ _ => true
  | _ => false
theorem TyOk.run_isAgg {P : Program} {t : Nat} {i : TI} (h : TyOk P t i) (w : World) : (isAgg t).run P w = .ok (isAggD i.desc) w := by
  simp only [isAgg, Sem.run_bind, run_underlying' h.1, Result.andThen_ok]
  cases i.desc <;> rfl

def ifB (b : Bool) (A B : Prop) : Prop := match b with | true => A | false => B
theorem ifB.intro {b : Bool} {A B : Prop} (h1 : b = true → A) (h2 : b = false → B) : ifB b A B := by cases b; exact h2 rfl; exact h1 rfl
theorem ifB.dec {p : Prop} [Decidable p] {A B : Prop} (h1 : p → A) (h2 : ¬ p → B) : ifB (decide p) A B := by
  by_cases h : p
  · rw [decide_eq_true h]; exact h1 h
  · rw [decide_eq_false h]; exact h2 h
theorem ifB.not {b : Bool} {A B : Prop} (h : ifB b B A) : ifB (!b) A B := by cases b <;> exact h
theorem ifB.and {b c : Bool} {A B : Prop} (h1 : b = true → c = true → A) (h2 : (b && c) = false → B) : ifB (b && c) A B := by cases b <;> cases c <;> first | exact h2 rfl | exact h1 rfl rfl
def constD : Value → D
  | .agg cs => .agg cs.size (fun j => .lit (cs.getD j undef))
  | v => .lit v
def evalE (C : Ctx) (s : St) : Operand → E
  | .tmp t => s.tm t
  | .const v => .im (constD v)
  | .global g => .im (C.gl g)
  | .func f => .im (.func f 0 fun _ => .top)

def imD : E → D
  | .im d => d
  | _ => .top
def oneE : E → Bool
  | .im (.lit v) => v.oneCell'
  | .im (.slice ..) => true
  | .im (.ptr ..) => true
  | .im (.func ..) => true
  | .im .ifn => true
  | .im _ => false
  | _ => true
def cellsOfE (e : E) : Option (Nat × (Nat → E)) :=
  match e with
  | .im (.agg n f) => some (n, fun j => .im (f j))
  | e => bif oneE e then some (1, fun _ => e) else none

section
variable {X : Nat → Prop} {val : Nat → Value} {w : World} {v : Value}
theorem rel_const (v : Value) : Rel X w v (constD v) := by
  unfold constD
  split
  · exact .agg _ _ _ rfl fun j _ => .lit _
  · exact .lit _
theorem imD_ok {e : E} (h : RelE X val w v e) : Rel X w v (imD e) := by
  cases e with
  | im d => exact h
  | _ => exact .top v
theorem oneE_ok {e : E} (h : RelE X val w v e) (ho : oneE e = true) : v.oneCell' = true ∧ v.cells = #[v] := by
  have key : v.oneCell' = true → v.oneCell' = true ∧ v.cells = #[v] := fun hv => ⟨hv, by cases v <;> first | rfl | simp [Value.oneCell'] at hv⟩
  apply key
  cases e with
  | im d =>
    cases d with
    | lit u => cases h; exact ho
    | slice k n f => cases h; rfl
    | ptr n f => cases h; rfl
    | func g n f => cases h; rfl
    | ifn => cases h; rfl
    | _ => simp [oneE] at ho
  | own r o => obtain ⟨b, _, rfl⟩ := h; rfl
  | oel r k i j => obtain ⟨b, n, c, _, rfl⟩ := h; rfl
  | osub r k lo n => obtain ⟨b, N, c, c', _, rfl, _⟩ := h; rfl
  | orow r => obtain ⟨_, A, n, c, rfl⟩ := h; rfl
theorem cellsOfE_ok {e : E} (h : RelE X val w v e) {n : Nat} {f : Nat → E} (hc : cellsOfE e = some (n, f)) : v.cells.size = n ∧ ∀ j, j < n → RelE X val w (v.cells.getD j undef) (f j) := by
  unfold cellsOfE at hc
  split at hc
  · rename_i m g
    simp only [Option.some.injEq, Prod.mk.injEq] at hc
    obtain ⟨rfl, rfl⟩ := hc
    cases h with
    | agg cs _ _ hn hr => exact ⟨hn, hr⟩
  · cases ho : oneE e with
    | false => rw [ho] at hc; cases hc
    | true =>
      rw [ho] at hc
      simp only [cond_true, Option.some.injEq, Prod.mk.injEq] at hc
      obtain ⟨rfl, rfl⟩ := hc
      have := (oneE_ok h ho).2
      rw [this]
      refine ⟨rfl, fun j hj => ?_⟩
      obtain rfl : j = 0 := by omega
      exact h
end

section
variable {X : Nat → Prop} {w : World} {v : Value}
theorem Rel.lit_inv {u : Value} (h : Rel X w v (.lit u)) : v = u := by cases h; rfl
theorem Rel.slice_inv {k n : Nat} {f : Nat → Nat → D} (h : Rel X w v (.slice k n f)) : ∃ A c, ∃ us : Nat → Nat → Value, v = .slice A n c ∧ n ≤ c ∧ c ≤ maxLen ∧ (A = none → c = 0) ∧
    (∀ i j, i < n → j < k → ∃ b off, A = some ⟨b, off, none⟩ ∧ ¬ X b ∧ w.cell? ⟨b, off + (i * k + j), none⟩ = some (us i j)) ∧ ∀ i j, i < n → j < k → Rel X w (us i j) (f i j) := by
  cases h with | slice A c _ _ _ us hc hm hz ha hr => exact ⟨A, c, us, rfl, hc, hm, hz, ha, hr⟩
theorem Rel.agg_inv {n : Nat} {f : Nat → D} (h : Rel X w v (.agg n f)) : ∃ cs, v = .agg cs ∧ cs.size = n ∧ ∀ j, j < n → Rel X w (cs.getD j undef) (f j) := by
  cases h with | agg cs _ _ hn hr => exact ⟨cs, rfl, hn, hr⟩
theorem Rel.tup_inv {n : Nat} {f : Nat → D} (h : Rel X w v (.tup n f)) : ∃ cs, v = .tuple cs ∧ cs.size = n ∧ ∀ j, j < n → Rel X w (cs.getD j undef) (f j) := by
  cases h with | tup cs _ _ hn hr => exact ⟨cs, rfl, hn, hr⟩
theorem Rel.func_inv {g : FuncId} {n : Nat} {f : Nat → D} (h : Rel X w v (.func g n f)) : ∃ cs, v = .func (.func g) #[] cs ∧ cs.size = n ∧ ∀ j, j < n → Rel X w (cs.getD j undef) (f j) := by
  cases h with | func _ cs _ _ hn hr => exact ⟨cs, rfl, hn, hr⟩
theorem Rel.ptr_inv {n : Nat} {f : Nat → D} (h : Rel X w v (.ptr n f)) : ∃ b off, ∃ us : Nat → Value, v = .pointer (some ⟨b, off, none⟩) ∧ (∀ j, j < n → ¬ X b ∧ w.cell? ⟨b, off + j, none⟩ = some (us j)) ∧ ∀ j, j < n → Rel X w (us j) (f j) := by
  cases h with | ptr b off _ _ us ha hr => exact ⟨b, off, us, rfl, ha, hr⟩
theorem Rel.ifn_inv (h : Rel X w v .ifn) : ∃ t u, v = .iface t u := by cases h with | ifn t u => exact ⟨t, u, rfl⟩
end

section
variable {C : Ctx} {w0 : World} {X0 : Fr} {s : St} {val : Nat → Value} {a : Act} {w : World}
theorem evalE_ok (h : Conc C.gl w0 X0 s val a w) (x : Operand) : RelE (XOf X0 s.ob val) val w (a.eval x) (evalE C s x) := by
  cases x with
  | tmp t => exact h.tm t
  | const v => exact rel_const v
  | global g => exact h.gl g
  | func f => exact .func f #[] 0 _ rfl fun j hj => absurd hj (Nat.not_lt_zero _)
end

section
variable {C : Ctx} {w0 : World} {X0 : Fr} {s : St} {val : Nat → Value} {a : Act} {w : World}
theorem eval_im (h : Conc C.gl w0 X0 s val a w) {x : Operand} {d : D} (hx : evalE C s x = .im d) : Rel (XOf X0 s.ob val) w (a.eval x) d := by
  have := evalE_ok h x; rw [hx] at this; exact this
theorem eval_own (h : Conc C.gl w0 X0 s val a w) {x : Operand} {r off : Nat} (hx : evalE C s x = .own r off) : ∃ b, val r = .pointer (some ⟨b, 0, none⟩) ∧ a.eval x = .pointer (some ⟨b, off, none⟩) := by
  have := evalE_ok h x; rw [hx] at this; exact this
theorem eval_oel (h : Conc C.gl w0 X0 s val a w) {x : Operand} {r k i j : Nat} (hx : evalE C s x = .oel r k i j) : ∃ b n c, val r = .slice (some ⟨b, 0, none⟩) n c ∧ a.eval x = .pointer (some ⟨b, i * k + j, none⟩) := by
  have := evalE_ok h x; rw [hx] at this; exact this
theorem eval_osub (h : Conc C.gl w0 X0 s val a w) {x : Operand} {r k lo n : Nat} (hx : evalE C s x = .osub r k lo n) : ∃ b N c c', val r = .slice (some ⟨b, 0, none⟩) N c ∧ a.eval x = .slice (some ⟨b, lo * k, none⟩) n c' ∧ lo + c' = c ∧ n ≤ c' ∧ c ≤ maxLen := by
  have := evalE_ok h x; rw [hx] at this; exact this
theorem eval_orow (h : Conc C.gl w0 X0 s val a w) {x : Operand} {r : Nat} (hx : evalE C s x = .orow r) : a.eval x = val r ∧ ∃ A n c, a.eval x = .slice A n c := by
  have := evalE_ok h x; rw [hx] at this; exact this
end

/-- One operation: whatever K knows of the told states behind it holds of the state that it leaves. -/
def StepOk (C : Ctx) (o : Oper) (s : St) (K : St → Prop) : Prop :=
  ∀ w0 X0 val a w, Conc C.gl w0 X0 s val a w → ∀ (Q : Exit → Act → World → Prop) (next : Act → World → Prop),
    (∀ s' val' a' w', K s' → Conc C.gl w0 X0 s' val' a' w' → next a' w') → o.wp C.P a w next Q

theorem wp_value {P : Program} {o : Oper} {a : Act} {w w' : World} {v : Value} {next : Act → World → Prop} {Q : Exit → Act → World → Prop}
    (hr : (execOp a.eval o).run P w = .ok (.value v) w') (h : next (a.put o.dst v) w') : o.wp P a w next Q := by
  unfold Oper.wp; rw [hr]; exact h
theorem exec_v {P : Program} {o : Oper} {ρ : Operand → Value} {m : Sem Value} {v : Value} {w w' : World} (h : execOp ρ o = m >>= fun x => pure (Next.value x)) (hr : m.run P w = .ok v w') : (execOp ρ o).run P w = .ok (.value v) w' := by
  rw [h]; simp [hr]
theorem wp_skip' {P : Program} {o : Oper} {a : Act} {w w' : World} {next : Act → World → Prop} {Q : Exit → Act → World → Prop}
    (hr : (execOp a.eval o).run P w = .ok .skip w') (h : next (a.put o.dst undef) w') : o.wp P a w next Q := by
  unfold Oper.wp; rw [hr]; exact h

/-- A quiet operation: it yields what reads as e; all that is there stands. -/
def StepQ (C : Ctx) (o : Oper) (s : St) (e : E) : Prop :=
  ∀ w0 X0 val a w, Conc C.gl w0 X0 s val a w → ∀ (Q : Exit → Act → World → Prop) (next : Act → World → Prop),
    (∀ v w', Below w.heap.size w w' → RelE (XOf X0 s.ob val) val w' v e → next (a.put o.dst v) w') → o.wp C.P a w next Q
theorem StepQ.ok {C : Ctx} {o : Oper} {s : St} {K : St → Prop} (h : ∃ e, s.putO o.dst e K ∧ StepQ C o s e) : StepOk C o s K := by
  obtain ⟨e, hK, hq⟩ := h
  intro w0 X0 val a w hc Q next hn
  refine hq w0 X0 val a w hc Q next fun v w' hb hv => ?_
  obtain ⟨s', h1, h2⟩ := (hc.ext hb).putO hv hK
  exact hn _ _ _ _ h1 h2
/-- The operation yields a value and lays nothing. -/
theorem StepQ.val {C : Ctx} {o : Oper} {s : St} (e : E)
    (h : ∀ w0 X0 val a w, Conc C.gl w0 X0 s val a w → ∃ v, (execOp a.eval o).run C.P w = .ok (.value v) w ∧ RelE (XOf X0 s.ob val) val w v e) : StepQ C o s e := by
  intro w0 X0 val a w hc Q next hn
  obtain ⟨v, hr, hv⟩ := h w0 X0 val a w hc
  exact wp_value hr (hn v w (Below.refl _ w) hv)
/-- The operation yields a value and lays new blocks that nobody will write to. -/
theorem StepQ.lays {C : Ctx} {o : Oper} {s : St} (e : E)
    (h : ∀ w0 X0 val a w, Conc C.gl w0 X0 s val a w → ∃ v w', (execOp a.eval o).run C.P w = .ok (.value v) w' ∧ Below w.heap.size w w' ∧ RelE (XOf X0 s.ob val) val w' v e) : StepQ C o s e := by
  intro w0 X0 val a w hc Q next hn
  obtain ⟨v, w', hr, hb, hv⟩ := h w0 X0 val a w hc
  exact wp_value hr (hn v w' hb hv)

theorem below_alloc (w : World) (o : Obj) : Below w.heap.size w (w.alloc o) := ⟨rfl, rfl, rfl, by simp, fun k hk => heap_alloc_old w o hk, DrLe.of (Nat.le_refl _)⟩

/-! ### move, pick -/
theorem step_move {C : Ctx} {o : Oper} {s : St} {k_ : E → Prop} {x : Operand} (ho : o.op = .move x ∨ o.op = .assign x) (hK : k_ (evalE C s x)) : ∃ e_, k_ e_ ∧ StepQ C o s e_ :=
  ⟨_, hK, StepQ.val _ fun w0 X0 val a w hc => ⟨a.eval x, by rcases ho with h | h <;> simp [execOp, h], evalE_ok hc x⟩⟩

def vPick (c a b : E) (k_ : E → Prop) : Prop :=
  match c with
  | .im (.lit (.bool t)) => ifB t (k_ a) (k_ b)
  | _ => False
theorem step_pick {C : Ctx} {o : Oper} {s : St} {k_ : E → Prop} {c x y : Operand} (ho : o.op = .pick c x y) (h : vPick (evalE C s c) (evalE C s x) (evalE C s y) k_) : ∃ e_, k_ e_ ∧ StepQ C o s e_ := by
  unfold vPick at h
  split at h
  · rename_i t hc
    cases t with
    | true =>
      refine ⟨_, h, StepQ.val _ fun w0 X0 val a w hC => ⟨a.eval x, ?_, evalE_ok hC x⟩⟩
      have := evalE_ok hC c; rw [hc] at this
      simp [execOp, ho, Rel.lit_inv this, asBool]
    | false =>
      refine ⟨_, h, StepQ.val _ fun w0 X0 val a w hC => ⟨a.eval y, ?_, evalE_ok hC y⟩⟩
      have := evalE_ok hC c; rw [hc] at this
      simp [execOp, ho, Rel.lit_inv this, asBool]
  · exact h.elim

/-! ### box, alloc -/
def vNew (s : St) (dst : Option Tmp) (t n : Nat) (f : Nat → E) (K : St → Prop) : Prop :=
  match dst with
  | some d => bif Nat.blt d s.nt then K (((s.forget d).own d (.box t n fun j => forgetE d (f j))).put d (.own d 0)) else False
  | none => False

theorem conc_new {gl : Nat → D} {w0 : World} {X0 : Fr} {s : St} {val : Nat → Value} {a : Act} {w : World} (hC : Conc gl w0 X0 s val a w) {d t n : Nat} {f : Nat → E} {cs : Array Value}
    (hd : d < s.nt) (hn : cs.size = n) (hf : ∀ j, j < n → RelE (XOf X0 s.ob val) val w (cs.getD j undef) (f j)) :
    ∃ val', Conc gl w0 X0 (((s.forget d).own d (.box t n fun j => forgetE d (f j))).put d (.own d 0)) val' (a.put (some d) (.pointer (some ⟨w.heap.size, 0, none⟩))) (w.alloc (.cells cs t)) := by
  let val' : Nat → Value := fun r => if r = d then .pointer (some ⟨w.heap.size, 0, none⟩) else val r
  have hv : ∀ r', r' ≠ d → val' r' = val r' := fun r' h => if_neg h
  have hvd : val' d = .pointer (some ⟨w.heap.size, 0, none⟩) := if_pos rfl
  have h1 := hC.forget d val' hv
  have hb := below_alloc w (.cells cs t)
  have hob : (s.forget d).ob d = none := by simp [St.forget]
  have hm : ∀ v e, RelE (XOf X0 s.ob val) val w v e → RelE (XOf X0 ((s.forget d).own d (.box t n fun j => forgetE d (f j))).ob val') val' (w.alloc (.cells cs t)) v (forgetE d e) := by
    intro v e he
    refine he.forget hv fun v d' hr => (hr.more ?_).ext hb
    rintro b (hb' | ⟨r', o, ho, hb'⟩)
    · exact .inl (.inl hb')
    · simp only [St.own, upd_eq] at ho
      split at ho
      · rename_i e; subst e; rw [hvd] at hb'; simp only [blk, Option.some.injEq] at hb'; exact .inr (by omega)
      · rename_i hne
        obtain ⟨_, o', ho', _⟩ := forget_some ho
        exact .inl (.inr ⟨r', o', ho', by rw [← hv r' hne]; exact hb'⟩)
  have h2 := h1.newObj (r := d) hob (o := .box t n fun j => forgetE d (f j)) hb (by rw [hvd]; intro b hb'; simp only [blk, Option.some.injEq] at hb'; omega)
    ⟨w.heap.size, cs, hvd, hC.below.size, heap_alloc_new w _, hn, fun j hj => hm _ _ (hf j hj)⟩
  exact ⟨val', h2.put (e := .own d 0) hd ⟨_, hvd, rfl⟩⟩

def vBoxI (e : E) (k_ : E → Prop) : Prop :=
  match cellsOfE e with
  | some (n, f) => k_ (.im (.ptr n fun j => imD (f j)))
  | none => False
def vBoxO (s : St) (dst : Option Tmp) (t : Nat) (e : E) (K : St → Prop) : Prop :=
  match cellsOfE e with
  | some (n, f) => vNew s dst t n f K
  | none => False

/-- The operation lays the cells of a value in a new block. -/
def LaysBox (C : Ctx) (o : Oper) (s : St) (t : Nat) (e : E) : Prop :=
  ∀ w0 X0 val a w, Conc C.gl w0 X0 s val a w → ∃ v, (execOp a.eval o).run C.P w = .ok (.value (.pointer (some ⟨w.heap.size, 0, none⟩))) (w.alloc (.cells v.cells t)) ∧ RelE (XOf X0 s.ob val) val w v e
theorem step_boxI {C : Ctx} {o : Oper} {s : St} {k_ : E → Prop} {t : Nat} {e : E} (h : vBoxI e k_) (hr : LaysBox C o s t e) : ∃ e_, k_ e_ ∧ StepQ C o s e_ := by
  unfold vBoxI at h
  split at h
  · rename_i n f hc
    refine ⟨_, h, StepQ.lays _ fun w0 X0 val a w hC => ?_⟩
    obtain ⟨v, hrun, hv⟩ := hr w0 X0 val a w hC
    obtain ⟨hn, hf⟩ := cellsOfE_ok hv hc
    refine ⟨_, _, hrun, below_alloc w _, ?_⟩
    refine Rel.ptr w.heap.size 0 n _ (fun j => v.cells.getD j undef) (fun j hj => ⟨?_, ?_⟩) fun j hj => (imD_ok (hf j hj)).ext (below_alloc w _)
    · rintro (h0 | ⟨r, ob, h1, h2⟩)
      · have := hC.x0 _ h0; omega
      · have := (hC.ob r ob h1).lt h2; omega
    · have hlt : j < v.cells.size := by rw [hn]; exact hj
      have := heap_alloc_new w (.cells v.cells t)
      simp only [World.cell?, this, Option.isSome_none, Bool.false_eq_true, if_false, Nat.zero_add]
      simp [Array.getD_eq_getD_getElem?, hlt]
  · exact h.elim
theorem step_boxO {C : Ctx} {o : Oper} {s : St} {K : St → Prop} {t : Nat} {e : E} (h : vBoxO s o.dst t e K) (hr : LaysBox C o s t e) : StepOk C o s K := by
  unfold vBoxO at h
  split at h
  · rename_i n f hc
    simp only [vNew] at h
    split at h
    · rename_i d hd
      cases hlt : Nat.blt d s.nt with
      | false => rw [hlt] at h; exact h.elim
      | true =>
        rw [hlt] at h
        intro w0 X0 val a w hC Q next hn
        obtain ⟨v, hrun, hv⟩ := hr w0 X0 val a w hC
        obtain ⟨hn', hf⟩ := cellsOfE_ok hv hc
        obtain ⟨val', h2⟩ := conc_new (t := t) hC (by simpa [Nat.blt_eq] using hlt) hn' hf
        exact wp_value hrun (by rw [hd]; exact hn _ _ _ _ h h2)
    · exact h.elim
  · exact h.elim
theorem lays_box {C : Ctx} {o : Oper} {s : St} {t : Nat} {x : Operand} (ho : o.op = .box t x) : LaysBox C o s t (evalE C s x) :=
  fun w0 X0 val a w hC => ⟨a.eval x, by simp [execOp, ho, Instr.box, newVar, newRow], evalE_ok hC x⟩
theorem lays_alloc {C : Ctx} (hO : CtxOk C) {o : Oper} {s : St} {t : Nat} {i : TI} (ho : o.op = .alloc t) (hi : lookT C.ty t = some i) : LaysBox C o s t (.im (constD i.zero)) :=
  fun w0 X0 val a w hC => ⟨i.zero, by simp [execOp, ho, Instr.alloc, newVar, newRow, (hO.ty t i hi).run_zero], rel_const _⟩

end Go.Vc

/-
  Operations, second part: reading memory, addresses, parts.
-/
set_option linter.unusedSectionVars false
namespace Go.Vc
variable [Dr]

/-! ### load -/
def frzAt (s : St) (f : Nat → E) (off : Nat) : Nat → St
  | 0 => s
  | n + 1 => match f (off + n) with
    | .orow r => (frzAt s f off n).freeze r
    | _ => frzAt s f off n
theorem Conc.frzAt {gl : Nat → D} {w0 : World} {X0 : Fr} {s : St} {val : Nat → Value} {a : Act} {w : World} (h : Conc gl w0 X0 s val a w) (f : Nat → E) (off : Nat) : ∀ n, Conc gl w0 X0 (frzAt s f off n) val a w
  | 0 => h
  | n + 1 => by
    unfold Vc.frzAt
    split
    · exact (h.frzAt f off n).freeze _
    · exact h.frzAt f off n

def frzLoad (C : Ctx) (s : St) (t : Nat) (e : E) : St :=
  match lookT C.ty t with
  | none => s
  | some i => match e with
    | .own r off => match isAggD i.desc with
      | true => match s.ob r with
        | some (.box _ _ f) => frzAt s f off i.size
        | _ => s
      | false => s
    | _ => s
theorem Conc.frzLoad {C : Ctx} {w0 : World} {X0 : Fr} {s : St} {val : Nat → Value} {a : Act} {w : World} (h : Conc C.gl w0 X0 s val a w) (t : Nat) (e : E) : Conc C.gl w0 X0 (frzLoad C s t e) val a w := by
  unfold Vc.frzLoad
  split
  · exact h
  · split
    · split
      · split
        · exact h.frzAt _ _ _
        · exact h
      · exact h
    · exact h
def vLoad (C : Ctx) (s : St) (t : Nat) (e : E) (k_ : E → Prop) : Prop :=
  match lookT C.ty t with
  | none => False
  | some i => match e with
    | .im (.ptr n f) => match isAggD i.desc with
      | true => bif Nat.ble i.size n then k_ (.im (.agg i.size f)) else False
      | false => bif Nat.blt 0 n then k_ (.im (f 0)) else False
    | .own r off => match s.ob r with
      | some (.box _ n f) => match isAggD i.desc with
        | true => bif Nat.ble (off + i.size) n then k_ (.im (.agg i.size fun j => imD (f (off + j)))) else False
        | false => bif Nat.blt off n then k_ (f off) else False
      | _ => False
    | .oel r k i' j => match isAggD i.desc with
      | true => match s.ob r with
        | some (.row _ k' n f) => bif Nat.beq k k' && Nat.ble (j + i.size) k then i' < n ∧ k_ (.im (.agg i.size fun q => f i' (j + q))) else False
        | _ => False
      | false => match s.ob r with
        | some (.row _ k' n f) => bif Nat.beq k k' then i' < n ∧ j < k ∧ k_ (.im (f i' j)) else False
        | _ => False
    | _ => False

theorem run_load_agg {P : Program} {t : Nat} {i : TI} (h : TyOk P t i) (ha : isAggD i.desc = true) {w : World} {b off : Nat} {us : Nat → Value} (hc : ∀ j, j < i.size → w.cell? ⟨b, off + j, none⟩ = some (us j)) :
    (Instr.loadAt t (.pointer (some ⟨b, off, none⟩))).run P w = .ok (.agg ((List.range i.size).map us).toArray) w := by
  have := run_loadCells (P := P) w ⟨b, off, none⟩ i.size us (fun j hj => by rw [Addr.add_lit]; exact hc j hj)
  simp [Instr.loadAt, Instr.sureAddr, loadVar, h.run_isAgg, ha, h.run_sizeOf, this]
theorem run_load_one {P : Program} {t : Nat} {i : TI} (h : TyOk P t i) (ha : isAggD i.desc = false) {w : World} {b off : Nat} {u : Value} (hc : w.cell? ⟨b, off, none⟩ = some u) :
    (Instr.loadAt t (.pointer (some ⟨b, off, none⟩))).run P w = .ok u w := by
  simp [Instr.loadAt, Instr.sureAddr, loadVar, h.run_isAgg, ha, hc]
theorem getD_map_range (n j : Nat) (us : Nat → Value) (hj : j < n) : (((List.range n).map us).toArray).getD j undef = us j := by
  simp [Array.getD_eq_getD_getElem?, hj]

theorem heap_cell {w : World} {b o : Nat} {cs : Array Value} {t : Nat} {fr : Nat × Nat} (h : w.heap[b]? = some (.cells cs t fr)) (ho : o < cs.size) : w.cell? ⟨b, o, none⟩ = some (cs.getD o undef) := by
  simp [World.cell?, h, Array.getD_eq_getD_getElem?, ho]

theorem row_cell {X : Nat → Prop} {val : Nat → Value} {w : World} {base r t k n : Nat} {f : Nat → Nat → D} (h : ObOk X val w base r (.row t k n f)) {i j : Nat} (hi : i < n) (hj : j < k) :
    ∃ b c u, val r = .slice (some ⟨b, 0, none⟩) n c ∧ w.cell? ⟨b, i * k + j, none⟩ = some u ∧ w.frozen? ⟨b, i * k + j, none⟩ = false ∧ Rel X w u (f i j) := by
  obtain ⟨xs, ⟨hl, hrow⟩, h2⟩ := h
  rcases hrow with ⟨e, rfl⟩ | ⟨g, cap, cur, e1, e2, e3, e4, e5, e6, e7⟩
  · omega
  · have hlt : i * k + j < n * k := by
      have : (i + 1) * k ≤ n * k := Nat.mul_le_mul_right k hi
      rw [Nat.add_mul] at this; omega
    have hcap : n * k ≤ cap * k := Nat.mul_le_mul_right k e4
    have hlt2 : i * k + j < cur.size := by rw [e6]; omega
    refine ⟨g, cap, xs.getD (i * k + j) undef, e1, ?_, by simp [World.frozen?, e3], h2 i j hi hj⟩
    rw [heap_cell e3 hlt2, ← e7, List.getD_eq_getElem?_getD, List.getElem?_take_of_lt hlt]
    simp [Array.getD_eq_getD_getElem?, hlt2]

theorem load_val {C : Ctx} (hO : CtxOk C) {s : St} {k_ : E → Prop} {t : Nat} {x : Operand} (h : vLoad C s t (evalE C s x) k_) : ∃ e_, k_ e_ ∧ ∀ w0 X0 val a w, Conc C.gl w0 X0 s val a w → ∃ v, (Instr.loadAt t (a.eval x)).run C.P w = .ok v w ∧ RelE (XOf X0 s.ob val) val w v e_ := by
  unfold vLoad at h
  split at h
  · exact h.elim
  · rename_i i hi
    have hT := hO.ty t i hi
    split at h
    · rename_i n f hx
      split at h
      · rename_i hagg
        cases hle : Nat.ble i.size n with
        | false => rw [hle] at h; exact h.elim
        | true =>
          rw [hle] at h
          have hle' : i.size ≤ n := Nat.le_of_ble_eq_true hle
          refine ⟨_, h, fun w0 X0 val a w hC => ?_⟩
          have hr := eval_im hC hx
          obtain ⟨b, off, us, e, hc, hr'⟩ := hr.ptr_inv
          refine ⟨_, (by rw [e]; exact run_load_agg hT hagg (fun j hj => (hc j (by omega)).2)), ?_⟩
          exact Rel.agg _ _ _ (by simp) fun j hj => by rw [getD_map_range _ _ _ hj]; exact hr' j (by omega)
      · rename_i hagg
        cases hlt : Nat.blt 0 n with
        | false => rw [hlt] at h; exact h.elim
        | true =>
          rw [hlt] at h
          have hlt' : 0 < n := by simpa [Nat.blt_eq] using hlt
          refine ⟨_, h, fun w0 X0 val a w hC => ?_⟩
          have hr := eval_im hC hx
          obtain ⟨b, off, us, e, hc, hr'⟩ := hr.ptr_inv
          exact ⟨_, (by rw [e]; exact run_load_one hT hagg (hc 0 hlt').2), hr' 0 hlt'⟩
    · rename_i r off hx
      split at h
      · rename_i bt n f hob
        split at h
        · rename_i hagg
          cases hle : Nat.ble (off + i.size) n with
          | false => rw [hle] at h; exact h.elim
          | true =>
            rw [hle] at h
            have hle' : off + i.size ≤ n := Nat.le_of_ble_eq_true hle
            refine ⟨_, h, fun w0 X0 val a w hC => ?_⟩
            obtain ⟨b, e1, e2⟩ := eval_own hC hx
            obtain ⟨b', cs, q1, q2, q3, q4, q5⟩ := hC.ob r _ hob
            rw [q1] at e1; cases e1
            have hrun := run_load_agg hT hagg (us := fun j => cs.getD (off + j) undef) (fun j hj => heap_cell q3 (by omega))
            refine ⟨_, (by rw [e2]; exact hrun), ?_⟩
            exact Rel.agg _ _ _ (by simp) fun j hj => by rw [getD_map_range _ _ _ hj]; exact imD_ok (q5 (off + j) (by omega))
        · rename_i hagg
          cases hlt : Nat.blt off n with
          | false => rw [hlt] at h; exact h.elim
          | true =>
            rw [hlt] at h
            have hlt' : off < n := by simpa [Nat.blt_eq] using hlt
            refine ⟨_, h, fun w0 X0 val a w hC => ?_⟩
            obtain ⟨b, e1, e2⟩ := eval_own hC hx
            obtain ⟨b', cs, q1, q2, q3, q4, q5⟩ := hC.ob r _ hob
            rw [q1] at e1; cases e1
            exact ⟨_, (by rw [e2]; exact run_load_one hT hagg (heap_cell q3 (o := off) (by omega))), q5 off hlt'⟩
      · exact h.elim
    · rename_i r k i' j hx
      split at h
      · rename_i hagg
        split at h
        · rename_i bt k' n f hob
          cases hk : (Nat.beq k k' && Nat.ble (j + i.size) k) with
          | false => rw [hk] at h; exact h.elim
          | true =>
            rw [hk] at h
            simp only [Bool.and_eq_true] at hk
            obtain rfl := Nat.eq_of_beq_eq_true hk.1
            have hle := Nat.le_of_ble_eq_true hk.2
            obtain ⟨h1, h3⟩ := h
            refine ⟨_, h3, fun w0 X0 val a w hC => ?_⟩
            obtain ⟨b, n', c, e1, e2⟩ := eval_oel hC hx
            obtain ⟨xs, ⟨hl, hrow⟩, hrel⟩ := hC.ob r _ hob
            rcases hrow with ⟨e, rfl⟩ | ⟨g, cap, cur, q1, q2, q3, q4, q5, q6, q7⟩
            · omega
            · rw [q1] at e1; cases e1
              have hcap : n * k ≤ c * k := Nat.mul_le_mul_right k q4
              have hlt : ∀ q, q < i.size → i' * k + j + q < n * k := fun q hq => by
                have : (i' + 1) * k ≤ n * k := Nat.mul_le_mul_right k h1
                rw [Nat.add_mul] at this; omega
              refine ⟨_, (by rw [e2]; exact run_load_agg hT hagg (us := fun q => cur.getD (i' * k + j + q) undef) (fun q hq => heap_cell q3 (by have := hlt q hq; omega))), ?_⟩
              refine Rel.agg _ _ _ (by simp) fun q hq => ?_
              rw [getD_map_range _ _ _ hq]
              have := hrel i' (j + q) h1 (by omega)
              rw [← q7, List.getD_eq_getElem?_getD, List.getElem?_take_of_lt (by have := hlt q hq; omega), ← Nat.add_assoc] at this
              rwa [show cur.getD (i' * k + j + q) undef = (cur.toList[i' * k + j + q]?).getD undef by simp [Array.getD_eq_getD_getElem?]]
        · exact h.elim
      · rename_i hagg
        split at h
        · rename_i bt k' n f hob
          cases hk : Nat.beq k k' with
          | false => rw [hk] at h; exact h.elim
          | true =>
            rw [hk] at h
            obtain rfl := Nat.eq_of_beq_eq_true hk
            obtain ⟨h1, h2, h3⟩ := h
            refine ⟨_, h3, fun w0 X0 val a w hC => ?_⟩
            obtain ⟨b, n', c, e1, e2⟩ := eval_oel hC hx
            obtain ⟨b', c', u, q1, q2, _, q3⟩ := row_cell (hC.ob r _ hob) h1 h2
            rw [q1] at e1; cases e1
            exact ⟨u, (by rw [e2]; exact run_load_one hT hagg q2), q3⟩
        · exact h.elim
    · exact h.elim

theorem step_load {C : Ctx} (hO : CtxOk C) {o : Oper} {s : St} {k_ : E → Prop} {t : Nat} {x : Operand} (ho : o.op = .load t x) (h : vLoad C s t (evalE C s x) k_) : ∃ e_, k_ e_ ∧ StepQ C o s e_ := by
  obtain ⟨e, hk, hv⟩ := load_val hO h
  refine ⟨e, hk, StepQ.val _ fun w0 X0 val a w hC => ?_⟩
  obtain ⟨v, hr, hv⟩ := hv w0 X0 val a w hC
  exact ⟨v, exec_v (m := Instr.loadAt t (a.eval x)) (by simp only [execOp, ho]) hr, hv⟩

/-! ### the address of a field -/
def fieldOff (C : Ctx) (t fld : Nat) : Option Nat :=
  match lookT C.ty t with
  | some i => match i.desc with
    | .struct fs => match fs.toList[fld]? with
      | some q => match lookT C.ty q.type with
        | some j => bif Nat.beq j.size 0 then none else some q.offset
        | none => none
      | none => none
    | _ => none
  | none => none
def vField (off : Option Nat) (e : E) (k_ : E → Prop) : Prop :=
  match off with
  | none => False
  | some o => match e with
    | .im (.ptr n f) => k_ (.im (.ptr (n - o) fun j => f (o + j)))
    | .own r p => k_ (.own r (p + o))
    | .oel r k i j => k_ (.oel r k i (j + o))
    | _ => False
theorem run_field {C : Ctx} (hO : CtxOk C) {t fld off : Nat} (h : fieldOff C t fld = some off) (b p : Nat) (w : World) :
    (Instr.fieldAt t (.pointer (some ⟨b, p, none⟩)) fld).run C.P w = .ok (.pointer (some ⟨b, p + off, none⟩)) w := by
  unfold fieldOff at h
  split at h
  · rename_i i hi
    split at h
    · rename_i fs hd
      split at h
      · rename_i q hq
        split at h
        · rename_i j hj
          cases hz : Nat.beq j.size 0 with
          | true => rw [hz] at h; cases h
          | false =>
            rw [hz] at h
            simp only [cond_false, Option.some.injEq] at h
            subst h
            have hne : j.size ≠ 0 := fun e => by rw [e] at hz; simp at hz
            have hu := (hO.ty t i hi).1
            rw [hd] at hu
            have hq' : fs[fld]? = some q := by rw [← hq]; simp
            simp [Instr.fieldAt, run_underlying' hu, hq', Instr.sureAddr, fieldPlace, (hO.ty _ j hj).run_sizeOf, hne, Addr.add_lit]
        · cases h
      · cases h
    · cases h
  · cases h
theorem step_fieldAddr {C : Ctx} (hO : CtxOk C) {o : Oper} {s : St} {k_ : E → Prop} {t fld : Nat} {x : Operand} (ho : o.op = .fieldAddr t x fld) (h : vField (fieldOff C t fld) (evalE C s x) k_) : ∃ e_, k_ e_ ∧ StepQ C o s e_ := by
  unfold vField at h
  split at h
  · exact h.elim
  · rename_i off hoff
    split at h
    · rename_i n f hx
      refine ⟨_, h, StepQ.val _ fun w0 X0 val a w hC => ?_⟩
      have hr := eval_im hC hx
      obtain ⟨b, p, us, e, hc, hr'⟩ := hr.ptr_inv
      refine ⟨_, exec_v (m := Instr.fieldAt t (a.eval x) fld) (by simp only [execOp, ho]) (by rw [e]; exact run_field hO hoff _ _ w), ?_⟩
      exact Rel.ptr b (p + off) (n - off) (fun j => f (off + j)) (fun j => us (off + j)) (fun j hj => ⟨(hc (off + j) (by omega)).1, by rw [Nat.add_assoc]; exact (hc (off + j) (by omega)).2⟩) fun j hj => hr' (off + j) (by omega)
    · rename_i r p hx
      refine ⟨_, h, StepQ.val _ fun w0 X0 val a w hC => ?_⟩
      obtain ⟨b, e1, e2⟩ := eval_own hC hx
      exact ⟨_, exec_v (m := Instr.fieldAt t (a.eval x) fld) (by simp only [execOp, ho]) (by rw [e2]; exact run_field hO hoff _ _ w), b, e1, rfl⟩
    · rename_i r k i j hx
      refine ⟨_, h, StepQ.val _ fun w0 X0 val a w hC => ?_⟩
      obtain ⟨b, n, c, e1, e2⟩ := eval_oel hC hx
      exact ⟨_, exec_v (m := Instr.fieldAt t (a.eval x) fld) (by simp only [execOp, ho]) (by rw [e2]; exact run_field hO hoff _ _ w), b, n, c, e1, by rw [Nat.add_assoc]⟩
    · exact h.elim

/-! ### the address of an element -/
def elemSize (C : Ctx) (t : Nat) : Option (Nat × Nat) :=
  match lookT C.ty t with
  | some i => match i.desc with
    | .slice e => match lookT C.ty e with
      | some j => some (e, j.size)
      | none => none
    | _ => none
  | none => none
theorem elemSize_ok {C : Ctx} (hO : CtxOk C) {t e k : Nat} (h : elemSize C t = some (e, k)) : C.P.underlying t = some (.slice e) ∧ ∀ w, (sizeOf e).run C.P w = .ok k w := by
  unfold elemSize at h
  split at h
  · rename_i i hi
    split at h
    · rename_i e' hd
      split at h
      · rename_i j hj
        simp only [Option.some.injEq, Prod.mk.injEq] at h
        obtain ⟨rfl, rfl⟩ := h
        have hu := (hO.ty t i hi).1
        rw [hd] at hu
        exact ⟨hu, fun w => (hO.ty _ j hj).run_sizeOf w⟩
      · cases h
    · cases h
  · cases h
def vIndexAddr (s : St) (sz : Option (Nat × Nat)) (e ix : E) (k_ : E → Prop) : Prop :=
  match sz, ix with
  | some (_, k), .im (.lit (.int _ i)) => match e with
    | .im (.slice k' n f) => bif Nat.beq k k' then bif Nat.beq k 0 then False else (0 ≤ i ∧ i < (n : Int)) ∧ k_ (.im (.ptr k fun j => f i.toNat j)) else False
    | .orow r => match s.ob r with
      | some (.row _ k' n _) => bif Nat.beq k k' then bif Nat.beq k 0 then False else (0 ≤ i ∧ i < (n : Int)) ∧ k_ (.oel r k i.toNat 0) else False
      | _ => False
    | .osub r k' lo n => bif Nat.beq k k' then (0 ≤ i ∧ i < (n : Int)) ∧ k_ (.oel r k (lo + i.toNat) 0) else False
    | _ => False
  | _, _ => False
theorem run_indexAt_slice' {P : Program} {t e k : Nat} (hu : P.underlying t = some (.slice e)) (hs : ∀ w, (sizeOf e).run P w = .ok k w) (ad : Addr) (n c : Nat) (ik : IntKind) (i : Int) (h0 : 0 ≤ i) (h1 : i < n) (w : World) :
    (Instr.indexAt t (.slice (some ad) n c) (.int ik i)).run P w = .ok (.pointer (some (ad.add (i.toNat * k)))) w := by
  simp [Instr.indexAt, asIntOf, run_underlying' hu, h0, h1, hs]
theorem step_indexAddr {C : Ctx} (hO : CtxOk C) {o : Oper} {s : St} {k_ : E → Prop} {t : Nat} {x ix : Operand} (ho : o.op = .indexAddr t x ix) (h : vIndexAddr s (elemSize C t) (evalE C s x) (evalE C s ix) k_) : ∃ e_, k_ e_ ∧ StepQ C o s e_ := by
  unfold vIndexAddr at h
  split at h
  · rename_i e k ik i hsz hix
    obtain ⟨hu, hs⟩ := elemSize_ok hO hsz
    split at h
    · rename_i k' n f hx
      cases hk : Nat.beq k k' with
      | false => rw [hk] at h; exact h.elim
      | true =>
        obtain rfl := Nat.eq_of_beq_eq_true hk
        cases hk0 : Nat.beq k 0 with
        | true => rw [hk, hk0] at h; exact h.elim
        | false =>
          rw [hk, hk0] at h
          obtain ⟨⟨h0, h1⟩, h2⟩ := h
          have hpos : 0 < k := Nat.pos_of_ne_zero fun e => by rw [e] at hk0; simp at hk0
          refine ⟨_, h2, StepQ.val _ fun w0 X0 val a w hC => ?_⟩
          have hr := eval_im hC hx
          have hri := eval_im hC hix
          obtain ⟨A, c, us, e1, _, _, _, hc, hr'⟩ := hr.slice_inv
          obtain ⟨b, off, e2, _, _⟩ := hc i.toNat 0 (by omega) hpos
          refine ⟨_, exec_v (m := Instr.indexAt t (a.eval x) (a.eval ix)) (by simp only [execOp, ho]) (by rw [e1, e2, hri.lit_inv]; exact run_indexAt_slice' hu hs _ _ _ _ _ h0 h1 w), ?_⟩
          rw [Addr.add_lit]
          refine Rel.ptr b (off + i.toNat * k) k _ (fun j => us i.toNat j) (fun j hj => ?_) fun j hj => hr' _ _ (by omega) hj
          obtain ⟨b', off', e3, q1, q2⟩ := hc i.toNat j (by omega) hj
          rw [e2] at e3; cases e3
          exact ⟨q1, by rw [Nat.add_assoc]; exact q2⟩
    · rename_i r hx
      split at h
      · rename_i bt k' n f hob
        cases hk : Nat.beq k k' with
        | false => rw [hk] at h; exact h.elim
        | true =>
          obtain rfl := Nat.eq_of_beq_eq_true hk
          cases hk0 : Nat.beq k 0 with
          | true => rw [hk, hk0] at h; exact h.elim
          | false =>
            rw [hk, hk0] at h
            obtain ⟨⟨h0, h1⟩, h2⟩ := h
            have hpos : 0 < k := Nat.pos_of_ne_zero fun e => by rw [e] at hk0; simp at hk0
            refine ⟨_, h2, StepQ.val _ fun w0 X0 val a w hC => ?_⟩
            obtain ⟨e1, _⟩ := eval_orow hC hx
            have hri := eval_im hC hix
            obtain ⟨b, c, u, q1, _⟩ := row_cell (hC.ob r _ hob) (i := i.toNat) (j := 0) (by omega) hpos
            rw [q1] at e1
            exact ⟨_, exec_v (m := Instr.indexAt t (a.eval x) (a.eval ix)) (by simp only [execOp, ho]) (by rw [e1, hri.lit_inv]; exact run_indexAt_slice' hu hs _ _ _ _ _ h0 h1 w), b, n, c, q1, by rw [Addr.add_lit]; simp⟩
      · exact h.elim
    · rename_i r k' lo n hx
      cases hk : Nat.beq k k' with
      | false => rw [hk] at h; exact h.elim
      | true =>
        rw [hk] at h
        obtain rfl := Nat.eq_of_beq_eq_true hk
        obtain ⟨⟨h0, h1⟩, h2⟩ := h
        refine ⟨_, h2, StepQ.val _ fun w0 X0 val a w hC => ?_⟩
        obtain ⟨b, N, c, c', e1, e2, _⟩ := eval_osub hC hx
        have hri := eval_im hC hix
        exact ⟨_, exec_v (m := Instr.indexAt t (a.eval x) (a.eval ix)) (by simp only [execOp, ho]) (by rw [e2, hri.lit_inv]; exact run_indexAt_slice' hu hs _ _ _ _ _ h0 h1 w), b, N, c, e1, by rw [Addr.add_lit, Nat.add_mul]; rfl⟩
    · exact h.elim
  · exact h.elim

end Go.Vc
