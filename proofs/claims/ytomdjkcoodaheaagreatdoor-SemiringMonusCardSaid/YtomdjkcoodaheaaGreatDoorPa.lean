/-
  Plain lists: strict total orders, strictly increasing lists, the canonical list of a list's elements. No program in sight.
-/
set_option linter.unusedSectionVars false
set_option linter.unusedSimpArgs false
set_option linter.unusedVariables false
namespace Sr

structure STO {α : Type} (lt : α → α → Prop) : Prop where
  irrefl : ∀ a, ¬ lt a a
  trans : ∀ a b c, lt a b → lt b c → lt a c
  tri : ∀ a b, lt a b ∨ a = b ∨ lt b a

theorem STO.asymm {α : Type} {lt : α → α → Prop} (h : STO lt) {a b : α} (hab : lt a b) : ¬ lt b a :=
  fun hba => h.irrefl a (h.trans _ _ _ hab hba)
theorem STO.ne {α : Type} {lt : α → α → Prop} (h : STO lt) {a b : α} (hab : lt a b) : a ≠ b := fun e => h.irrefl a (e ▸ hab)

theorem sorted_ext {α : Type} {lt : α → α → Prop} (h : STO lt) : ∀ {l l' : List α}, l.Pairwise lt → l'.Pairwise lt → (∀ x, x ∈ l ↔ x ∈ l') → l = l'
  | [], [], _, _, _ => rfl
  | [], y :: ys, _, _, hm => absurd ((hm y).2 (List.mem_cons_self)) (by simp)
  | x :: xs, [], _, _, hm => absurd ((hm x).1 (List.mem_cons_self)) (by simp)
  | x :: xs, y :: ys, hl, hl', hm => by
    rw [List.pairwise_cons] at hl hl'
    have hxy : x = y := by
      rcases List.mem_cons.1 ((hm x).1 List.mem_cons_self) with e | hx
      · exact e
      · rcases List.mem_cons.1 ((hm y).2 List.mem_cons_self) with e | hy
        · exact e.symm
        · exact absurd (hl.1 y hy) (h.asymm (hl'.1 x hx))
    subst hxy
    rw [sorted_ext h hl.2 hl'.2]
    intro z
    have := hm z
    simp only [List.mem_cons] at this
    constructor
    · intro hz
      rcases this.1 (.inr hz) with e | hz'
      · subst e; exact absurd (hl.1 z hz) (h.irrefl z)
      · exact hz'
    · intro hz
      rcases this.2 (.inr hz) with e | hz'
      · subst e; exact absurd (hl'.1 z hz) (h.irrefl z)
      · exact hz'

/-- Insertion into an increasing list; a list that has the element stays. -/
def ins {α : Type} (lt : α → α → Prop) [DecidableRel lt] [DecidableEq α] (x : α) : List α → List α
  | [] => [x]
  | y :: ys => if lt x y then x :: y :: ys else if x = y then y :: ys else y :: ins lt x ys

section
variable {α : Type} {lt : α → α → Prop} [DecidableRel lt] [DecidableEq α]
theorem mem_ins (x : α) (l : List α) (z : α) : z ∈ ins lt x l ↔ z = x ∨ z ∈ l := by
  induction l with
  | nil => simp [ins]
  | cons y ys ih =>
    unfold ins
    split
    · simp
    · split
      · rename_i e; subst e; simp
      · simp only [List.mem_cons, ih]
        constructor
        · rintro (h | h | h) <;> simp [h]
        · rintro (h | h | h) <;> simp [h]
theorem sorted_ins (h : STO lt) (x : α) (l : List α) (hl : l.Pairwise lt) : (ins lt x l).Pairwise lt := by
  induction l with
  | nil => simp [ins]
  | cons y ys ih =>
    rw [List.pairwise_cons] at hl
    unfold ins
    split
    · rename_i hxy
      refine List.pairwise_cons.2 ⟨fun z hz => ?_, List.pairwise_cons.2 hl⟩
      rcases List.mem_cons.1 hz with e | hz
      · exact e ▸ hxy
      · exact h.trans _ _ _ hxy (hl.1 z hz)
    · split
      · exact List.pairwise_cons.2 hl
      · rename_i h1 h2
        refine List.pairwise_cons.2 ⟨fun z hz => ?_, ih hl.2⟩
        rcases (mem_ins x ys z).1 hz with e | hz
        · subst e
          rcases h.tri z y with q | q | q
          · exact absurd q h1
          · exact absurd q h2
          · exact q
        · exact hl.1 z hz
/-- The increasing list of a list's elements. -/
def nrm (lt : α → α → Prop) [DecidableRel lt] (l : List α) : List α := l.foldr (ins lt) []
theorem mem_nrm (l : List α) (z : α) : z ∈ nrm lt l ↔ z ∈ l := by
  induction l with
  | nil => simp [nrm]
  | cons y ys ih =>
    show z ∈ ins lt y (nrm lt ys) ↔ _
    rw [mem_ins, ih, List.mem_cons]
theorem sorted_nrm (h : STO lt) (l : List α) : (nrm lt l).Pairwise lt := by
  induction l with
  | nil => simp [nrm]
  | cons y ys ih => exact sorted_ins h y _ ih
theorem eq_nrm (h : STO lt) {l r : List α} (hr : r.Pairwise lt) (hm : ∀ x, x ∈ r ↔ x ∈ l) : r = nrm lt l :=
  sorted_ext h hr (sorted_nrm h l) fun x => (hm x).trans (mem_nrm l x).symm
theorem nrm_of_sorted (h : STO lt) {l : List α} (hl : l.Pairwise lt) : nrm lt l = l := (eq_nrm h hl fun _ => Iff.rfl).symm
theorem nrm_congr (h : STO lt) {l l' : List α} (hm : ∀ x, x ∈ l ↔ x ∈ l') : nrm lt l = nrm lt l' :=
  eq_nrm h (sorted_nrm h l) fun x => (mem_nrm l x).trans (hm x)
theorem nrm_nrm (h : STO lt) (l : List α) : nrm lt (nrm lt l) = nrm lt l := nrm_of_sorted h (sorted_nrm h l)
theorem ins_eq_nrm (h : STO lt) (x : α) {l : List α} (hl : l.Pairwise lt) : ins lt x l = nrm lt (x :: l) :=
  eq_nrm h (sorted_ins h x l hl) fun z => by rw [mem_ins, List.mem_cons]
theorem length_ins_le (x : α) (l : List α) : (ins lt x l).length ≤ l.length + 1 := by
  induction l with
  | nil => simp [ins]
  | cons y ys ih =>
    unfold ins
    split
    · simp
    · split
      · simp
      · simp only [List.length_cons]; omega
theorem length_nrm_le (l : List α) : (nrm lt l).length ≤ l.length := by
  induction l with
  | nil => simp [nrm]
  | cons y ys ih =>
    have := length_ins_le (lt := lt) y (nrm lt ys)
    show (ins lt y (nrm lt ys)).length ≤ _
    simp only [List.length_cons]; omega
theorem sorted_nodup (h : STO lt) {l : List α} (hl : l.Pairwise lt) : l.Nodup := hl.imp fun hab => h.ne hab
theorem sorted_filter {l : List α} (hl : l.Pairwise lt) (p : α → Bool) : (l.filter p).Pairwise lt := hl.filter p
end

/-! ### Row identifiers -/
abbrev RId := Int × Int
abbrev Ids := List RId
abbrev Fam := List Ids
def cmp (a b : RId) : Int := if a.1 < b.1 ∨ (a.1 = b.1 ∧ a.2 < b.2) then -1 else if a = b then 0 else 1
def rlt (a b : RId) : Prop := a.1 < b.1 ∨ (a.1 = b.1 ∧ a.2 < b.2)
instance : DecidableRel rlt := fun a b => by unfold rlt; exact inferInstance
theorem rid_ext {a b : RId} (h1 : a.1 = b.1) (h2 : a.2 = b.2) : a = b := Prod.ext h1 h2
theorem rlt_sto : STO rlt where
  irrefl a h := by unfold rlt at h; omega
  trans a b c h1 h2 := by unfold rlt at *; omega
  tri a b := by
    unfold rlt
    by_cases h1 : a.1 = b.1
    · by_cases h2 : a.2 = b.2
      · exact .inr (.inl (rid_ext h1 h2))
      · omega
    · omega
theorem cmp_self (a : RId) : cmp a a = 0 := by unfold cmp; rw [if_neg (by omega), if_pos rfl]
theorem cmp_lt {a b : RId} : cmp a b < 0 ↔ rlt a b := by
  unfold cmp rlt; split
  · rename_i h; simp [h]
  · rename_i h; split <;> simp [h]
theorem cmp_eq {a b : RId} : cmp a b = 0 ↔ a = b := by
  unfold cmp; split
  · rename_i h
    constructor
    · intro h'; simp at h'
    · intro e; subst e; omega
  · split <;> simp_all
theorem cmp_gt {a b : RId} : 0 < cmp a b ↔ rlt b a := by
  have h1 := @cmp_lt a b; have h2 := @cmp_eq a b
  rcases rlt_sto.tri a b with h | h | h
  · have := h1.2 h; have := rlt_sto.asymm h; constructor <;> intro <;> first | omega | contradiction
  · have := h2.2 h; subst h; have := rlt_sto.irrefl a; constructor <;> intro <;> first | omega | contradiction
  · have h3 : ¬ rlt a b := rlt_sto.asymm h
    have h4 : a ≠ b := fun e => rlt_sto.irrefl a (by rw [← e] at h; exact h)
    have h5 : ¬ cmp a b < 0 := fun q => h3 (h1.1 q)
    have h6 : ¬ cmp a b = 0 := fun q => h4 (h2.1 q)
    constructor <;> intro <;> first | omega | assumption
theorem cmp_range (a b : RId) : cmp a b = -1 ∨ cmp a b = 0 ∨ cmp a b = 1 := by
  unfold cmp; split
  · simp
  · split <;> simp

/-! ### Sets in lexicographic order -/
def cmpL : Ids → Ids → Int
  | [], [] => 0
  | [], _ :: _ => -1
  | _ :: _, [] => 1
  | x :: xs, y :: ys => if cmp x y = 0 then cmpL xs ys else cmp x y
def slt (a b : Ids) : Prop := cmpL a b < 0
instance : DecidableRel slt := fun a b => by unfold slt; exact inferInstance
theorem cmpL_eq : ∀ {a b : Ids}, cmpL a b = 0 ↔ a = b
  | [], [] => by simp [cmpL]
  | [], _ :: _ => by simp [cmpL]
  | _ :: _, [] => by simp [cmpL]
  | x :: xs, y :: ys => by
    unfold cmpL
    split
    · rename_i h
      rw [cmpL_eq, List.cons.injEq, ← @cmp_eq x y]; simp [h]
    · rename_i h
      rw [List.cons.injEq, ← @cmp_eq x y]; simp [h]
theorem cmpL_range : ∀ (a b : Ids), cmpL a b = -1 ∨ cmpL a b = 0 ∨ cmpL a b = 1
  | [], [] => by simp [cmpL]
  | [], _ :: _ => by simp [cmpL]
  | _ :: _, [] => by simp [cmpL]
  | x :: xs, y :: ys => by
    unfold cmpL
    split
    · exact cmpL_range xs ys
    · exact cmp_range x y
theorem cmp_swap (a b : RId) : cmp b a = - cmp a b := by
  have h1 := @cmp_lt a b; have h2 := @cmp_gt b a; have h3 := @cmp_gt a b; have h4 := @cmp_lt b a
  have r1 := cmp_range a b; have r2 := cmp_range b a
  by_cases p : rlt a b
  · have := h1.2 p; have := h2.2 p; omega
  · by_cases q : rlt b a
    · have := h3.2 q; have := h4.2 q; omega
    · have e1 : ¬ cmp a b < 0 := fun h => p (h1.1 h)
      have e2 : ¬ 0 < cmp a b := fun h => q (h3.1 h)
      have e3 : ¬ cmp b a < 0 := fun h => q (h4.1 h)
      have e4 : ¬ 0 < cmp b a := fun h => p (h2.1 h)
      omega
theorem cmpL_swap : ∀ (a b : Ids), cmpL b a = - cmpL a b
  | [], [] => by simp [cmpL]
  | [], _ :: _ => by simp [cmpL]
  | _ :: _, [] => by simp [cmpL]
  | x :: xs, y :: ys => by
    have e := cmp_swap x y
    unfold cmpL
    by_cases h : cmp x y = 0
    · rw [if_pos h, if_pos (by omega)]; exact cmpL_swap xs ys
    · rw [if_neg h, if_neg (by omega)]; exact e
theorem slt_trans : ∀ {a b c : Ids}, slt a b → slt b c → slt a c
  | [], [], _, h, _ => by simp [slt, cmpL] at h
  | _ :: _, [], _, h, _ => by simp [slt, cmpL] at h
  | _, _ :: _, [], _, h => by simp [slt, cmpL] at h
  | [], _ :: _, _ :: _, _, _ => by simp [slt, cmpL]
  | x :: xs, y :: ys, z :: zs, h1, h2 => by
    unfold slt cmpL at *
    by_cases e1 : cmp x y = 0
    · have := cmp_eq.1 e1; subst this
      rw [if_pos (cmp_self x)] at h1
      by_cases e2 : cmp x z = 0
      · rw [if_pos e2] at h2 ⊢; exact slt_trans h1 h2
      · rw [if_neg e2] at h2 ⊢; exact h2
    · rw [if_neg e1] at h1
      by_cases e2 : cmp y z = 0
      · have := cmp_eq.1 e2; subst this
        rw [if_neg e1]; exact h1
      · rw [if_neg e2] at h2
        have h3 := rlt_sto.trans _ _ _ (cmp_lt.1 h1) (cmp_lt.1 h2)
        have h4 := cmp_lt.2 h3
        rw [if_neg (by omega)]; exact h4
theorem slt_sto : STO slt where
  irrefl a h := by have := (@cmpL_eq a a).2 rfl; unfold slt at h; omega
  trans a b c := slt_trans
  tri a b := by
    unfold slt
    have r := cmpL_range a b; have s := cmpL_swap a b
    rcases r with h | h | h
    · exact .inl (by omega)
    · exact .inr (.inl (cmpL_eq.1 h))
    · exact .inr (.inr (by omega))

end Sr

/-
  Plain lists: the reference's way of inserting; folds.
-/
set_option linter.unusedSectionVars false
namespace Sr

def insR {α : Type} (lt : α → α → Prop) [DecidableRel lt] [DecidableEq α] (x : α) (l : List α) : List α := if x ∈ l then l else ins lt x l
def insStep {α : Type} (lt : α → α → Prop) [DecidableRel lt] (x : α) (p : List α × Bool) (y : α) : List α × Bool :=
  if p.2 = false ∧ lt x y then (p.1 ++ [x] ++ [y], true) else (p.1 ++ [y], p.2)
def insEnd {α : Type} (x : α) (p : List α × Bool) : List α := if p.2 then p.1 else p.1 ++ [x]
section
variable {α : Type} {lt : α → α → Prop} [DecidableRel lt] [DecidableEq α]
theorem insStep_done (x : α) : ∀ (l acc : List α), l.foldl (insStep lt x) (acc, true) = (acc ++ l, true)
  | [], acc => by simp
  | y :: ys, acc => by
    rw [List.foldl_cons]
    have : insStep lt x (acc, true) y = (acc ++ [y], true) := by simp [insStep]
    rw [this, insStep_done x ys]; simp
theorem insStep_ins (x : α) : ∀ (l acc : List α), x ∉ l → insEnd x (l.foldl (insStep lt x) (acc, false)) = acc ++ ins lt x l
  | [], acc, _ => by simp [insEnd, ins]
  | y :: ys, acc, h => by
    rw [List.foldl_cons]
    rw [List.mem_cons, not_or] at h
    unfold ins
    by_cases hl : lt x y
    · have : insStep lt x (acc, false) y = (acc ++ [x] ++ [y], true) := by simp [insStep, hl]
      rw [this, insStep_done, if_pos hl]; simp [insEnd]
    · have : insStep lt x (acc, false) y = (acc ++ [y], false) := by simp [insStep, hl]
      rw [this, insStep_ins x ys _ h.2, if_neg hl, if_neg h.1]; simp
theorem ins_of_mem (h : STO lt) {x : α} {l : List α} (hl : l.Pairwise lt) (hm : x ∈ l) : ins lt x l = l :=
  sorted_ext h (sorted_ins h x l hl) hl fun z => by rw [mem_ins]; constructor; (· rintro (e | e); exact e ▸ hm; exact e); exact .inr
theorem insR_sorted (h : STO lt) {x : α} {l : List α} (hl : l.Pairwise lt) : insR lt x l = ins lt x l := by
  unfold insR; split
  · rename_i hm; exact (ins_of_mem h hl hm).symm
  · rfl
theorem insR_nrm (h : STO lt) (x : α) (l : List α) : insR lt x (nrm lt l) = nrm lt (l ++ [x]) := by
  rw [insR_sorted h (sorted_nrm h l)]
  exact eq_nrm h (sorted_ins h _ _ (sorted_nrm h l)) fun z => by rw [mem_ins, mem_nrm]; simp [or_comm]
end
theorem getD_lt {α : Type} {l : List α} {x0 : α} {i : Nat} (h : i < l.length) : l.getD i x0 = l[i] := by
  rw [List.getD_eq_getElem?_getD, List.getElem?_eq_getElem h]; rfl
theorem take_snoc {α : Type} {l : List α} (x0 : α) {i : Nat} (h : i < l.length) : l.take (i + 1) = l.take i ++ [l.getD i x0] := by
  rw [List.take_add_one, getD_lt h, List.getElem?_eq_getElem h]; rfl
theorem mem_take_succ {α : Type} {l : List α} {x x0 : α} {i : Nat} (h : i < l.length) : x ∈ l.take (i + 1) ↔ x ∈ l.take i ∨ x = l.getD i x0 := by
  rw [take_snoc x0 h, List.mem_append, List.mem_singleton]
theorem foldl_take {α β : Type} {l : List α} (x0 : α) {i : Nat} (h : i < l.length) (f : β → α → β) (b : β) : (l.take (i + 1)).foldl f b = f ((l.take i).foldl f b) (l.getD i x0) := by
  rw [take_snoc x0 h, List.foldl_append]; rfl
theorem length_nrm_take {α : Type} {lt : α → α → Prop} [DecidableRel lt] [DecidableEq α] {l : List α} {i : Nat} : (nrm lt (l.take i)).length ≤ l.length := by
  have := length_nrm_le (lt := lt) (l.take i); have h2 : (l.take i).length ≤ l.length := by rw [List.length_take]; exact Nat.min_le_right _ _
  omega
theorem stepLen {α : Type} {lt : α → α → Prop} [DecidableRel lt] (x : α) (l : List α) (p : List α × Bool) : (l.foldl (insStep lt x) p).1.length ≤ p.1.length + 2 * l.length := by
  induction l generalizing p with
  | nil => simp
  | cons y ys ih =>
    rw [List.foldl_cons]
    have h1 := ih (insStep lt x p y)
    have : (insStep lt x p y).1.length ≤ p.1.length + 2 := by unfold insStep; split <;> simp
    simp only [List.length_cons]; omega
end Sr

/-
  Plain lists: neighbours, families.
-/
namespace Sr
theorem pairwise_adj {α : Type} {lt : α → α → Prop} (h : STO lt) (x0 : α) : ∀ {l : List α}, l.Pairwise lt ↔ ∀ k, k + 1 < l.length → lt (l.getD k x0) (l.getD (k + 1) x0)
  | [] => by simp
  | [x] => by simp
  | x :: y :: ys => by
    have ih := pairwise_adj h x0 (l := y :: ys)
    constructor
    · intro hp k hk
      rw [List.pairwise_cons] at hp
      cases k with
      | zero => exact hp.1 y List.mem_cons_self
      | succ k => exact ih.1 hp.2 k (by simpa using hk)
    · intro hk
      have h2 := ih.2 fun k hk' => hk (k + 1) (by simpa using hk')
      refine List.pairwise_cons.2 ⟨fun z hz => ?_, h2⟩
      have h0 : lt x y := hk 0 (by simp)
      rcases List.mem_cons.1 hz with e | hz
      · exact e ▸ h0
      · exact h.trans _ _ _ h0 ((List.pairwise_cons.1 h2).1 z hz)
theorem adj_succ {α : Type} {lt : α → α → Prop} (x0 : α) {l : List α} {i : Nat} (hi : i < l.length) (h : (l.take i).Pairwise lt) (hs : STO lt) : (l.take (i + 1)).Pairwise lt ↔ (0 < i → lt (l.getD (i - 1) x0) (l.getD i x0)) := by
  have hg : ∀ n k, k < n → n ≤ l.length → (l.take n).getD k x0 = l.getD k x0 := by
    intro n k hk hn
    rw [List.getD_eq_getElem?_getD, List.getD_eq_getElem?_getD, List.getElem?_take_of_lt hk]
  rw [pairwise_adj hs x0] at *
  simp only [List.length_take] at *
  constructor
  · intro h1 h0
    have := h1 (i - 1) (by omega)
    rwa [hg _ _ (by omega) (by omega), hg _ _ (by omega) (by omega), show i - 1 + 1 = i by omega] at this
  · intro h1 k hk
    rw [hg _ _ (by omega) (by omega), hg _ _ (by omega) (by omega)]
    by_cases e : k + 1 = i
    · have := h1 (by omega)
      rwa [show i - 1 = k by omega, ← e] at this
    · have := h k (by omega)
      rwa [hg _ _ (by omega) (by omega), hg _ _ (by omega) (by omega)] at this

def IsSet (l : Ids) : Prop := l.Pairwise rlt
instance (l : Ids) : Decidable (IsSet l) := by unfold IsSet; exact inferInstance
def IsFam (l : Fam) : Prop := (∀ s ∈ l, IsSet s) ∧ l.Pairwise slt
instance (l : Fam) : Decidable (IsFam l) := by unfold IsFam; exact inferInstance
def fam (l : Fam) : Fam := nrm slt (l.map (nrm rlt))
def sub (a b : Ids) : Bool := a.all fun x => decide (x ∈ b)
def least (a : Fam) (s : Ids) : Bool := !(a.any fun t => decide (t ≠ s) && sub t s)
def minF (l : Fam) : Fam := (fam l).filter (least (fam l))
def prod (a b : Fam) : Fam := nrm slt (a.flatMap fun x => b.map fun y => nrm rlt (x ++ y))
theorem nodup_inj {α : Type} {l : List α} (h : l.Nodup) {i j : Nat} (hi : i < l.length) (hj : j < l.length) (e : l[i] = l[j]) : i = j := by
  rcases Nat.lt_trichotomy i j with h1 | h1 | h1
  · exact absurd e (List.pairwise_iff_getElem.1 h i j hi hj h1)
  · exact h1
  · exact absurd e.symm (List.pairwise_iff_getElem.1 h j i hj hi h1)
theorem least_ix {a : Fam} (ha : a.Nodup) {i : Nat} (hi : i < a.length) : least a (a.getD i []) = decide (∀ k, k < a.length → k ≠ i → sub (a.getD k []) (a.getD i []) = false) := by
  rw [Bool.eq_iff_iff, decide_eq_true_eq, least, Bool.not_eq_true', Bool.eq_false_iff, ne_eq, List.any_eq_true]
  constructor
  · intro h k hk hne
    rw [Bool.eq_false_iff]
    intro hs
    refine h ⟨a.getD k [], by rw [getD_lt hk]; exact List.getElem_mem hk, ?_⟩
    rw [hs, Bool.and_true, decide_eq_true_eq]
    intro e
    rw [getD_lt hk, getD_lt hi] at e
    exact hne (nodup_inj ha hk hi e)
  · rintro h ⟨t, ht, hp⟩
    obtain ⟨k, hk, rfl⟩ := List.getElem_of_mem ht
    rw [Bool.and_eq_true, decide_eq_true_eq] at hp
    have := h k hk (fun e => by subst e; exact hp.1 (getD_lt hk).symm)
    rw [getD_lt hk, hp.2] at this; cases this
/-- At most n lists, each of at most n elements. -/
def Bnd (n : Nat) (l : Fam) : Prop := l.length ≤ n ∧ ∀ s ∈ l, s.length ≤ n
theorem Bnd.at {n : Nat} {l : Fam} (h : Bnd n l) (i : Nat) : (l.getD i []).length ≤ n := by
  rw [List.getD_eq_getElem?_getD]
  cases he : l[i]? with
  | none => exact Nat.zero_le _
  | some s => exact h.2 s (List.mem_of_getElem? he)
theorem Bnd.mono {n m : Nat} {l : Fam} (h : Bnd n l) (hm : n ≤ m) : Bnd m l := ⟨by have := h.1; omega, fun s hs => by have := h.2 s hs; omega⟩
theorem Bnd.nrm {n : Nat} {l : Fam} (h : Bnd n l) : Bnd n (nrm slt l) := ⟨by have := length_nrm_le (lt := slt) l; have := h.1; omega, fun s hs => h.2 s ((mem_nrm l s).1 hs)⟩
theorem Bnd.take {n : Nat} {l : Fam} (h : Bnd n l) (i : Nat) : Bnd n (l.take i) := ⟨by rw [List.length_take]; have := h.1; omega, fun s hs => h.2 s (List.mem_of_mem_take hs)⟩
theorem Bnd.fam {n : Nat} {l : Fam} (h : Bnd n l) : Bnd n (fam l) := by
  have : Bnd n (l.map (Sr.nrm rlt)) := ⟨by rw [List.length_map]; exact h.1, fun s hs => by
    obtain ⟨t, ht, rfl⟩ := List.mem_map.1 hs
    have := length_nrm_le (lt := rlt) t; have := h.2 t ht; omega⟩
  exact this.nrm
theorem Bnd.filter {n : Nat} {l : Fam} (h : Bnd n l) (p : Ids → Bool) : Bnd n (l.filter p) := ⟨by have := List.length_filter_le p l; have := h.1; omega, fun s hs => h.2 s (List.mem_filter.1 hs).1⟩
end Sr

/-
  Plain: elements, validity, zero, one.
-/
namespace Sr
structure El where
  N : Int
  M : Int
  S : Fam
  deriving DecidableEq
def known (k : Int) : Bool := decide (0 ≤ k) && decide (k ≤ 7)
def isSets (k : Int) : Bool := decide (5 ≤ k) && decide (k ≤ 7)
def lim (k : Int) : Int := if k = 0 then 1 else if k = 1 then 1152921504606846976 else if k = 2 then 1099511627776 else if k = 3 then 4 else 1000
def rok (x : RId) : Bool := decide (1 ≤ x.1) && decide (1 ≤ x.2)
def vldN (k : Int) (e : El) : Prop := e.S.length = 0 ∧ 0 ≤ e.N ∧ e.N ≤ lim k ∧ if k = 4 then e.N ≤ e.M ∧ e.M ≤ 1000 else e.M = 0
instance (k : Int) (e : El) : Decidable (vldN k e) := by unfold vldN; exact inferInstance
def vldS (k : Int) (e : El) : Prop := e.N = 0 ∧ e.M = 0 ∧ e.S.length ≤ 512 ∧ IsFam e.S ∧ (∀ s ∈ e.S, ∀ x ∈ s, rok x = true) ∧ if k = 6 then e.S.length ≤ 1 else if k = 7 then minF e.S = e.S else True
instance (k : Int) (e : El) : Decidable (vldS k e) := by unfold vldS; exact inferInstance
def vld (k : Int) (e : El) : Bool := known k && (if isSets k then decide (vldS k e) else decide (vldN k e))
def zeroE (k : Int) : El := if k = 2 ∨ k = 3 then ⟨lim k, 0, []⟩ else ⟨0, 0, []⟩
def oneEl (k : Int) : El := if k = 0 ∨ k = 1 then ⟨1, 0, []⟩ else if k = 4 then ⟨1000, 1000, []⟩ else if isSets k then ⟨0, 0, [[]]⟩ else ⟨0, 0, []⟩
theorem vld_num {k : Int} {e : El} (h1 : known k = true) (h2 : isSets k = false) : vld k e = decide (vldN k e) := by rw [vld, h1, h2]; rfl
theorem vld_set {k : Int} {e : El} (h2 : isSets k = true) : vld k e = decide (vldS k e) := by
  have h1 : known k = true := by unfold isSets at h2; unfold known; simp at *; omega
  rw [vld, h1, h2]; rfl
end Sr

/-
  Plain: the operations.
-/
namespace Sr
def imax (a b : Int) : Int := if b > a then b else a
def imin (a b : Int) : Int := if b < a then b else a
def res (e : El) : El × Int := if 512 < e.S.length then (⟨0, 0, []⟩, 6) else (e, 0)
def opOut (k : Int) (a b e : El) : El × Int := if vld k a = true ∧ vld k b = true then res e else (⟨0, 0, []⟩, 1)
def hd (l : Fam) : Ids := l.getD 0 []
def addE (k : Int) (a b : El) : El :=
  if k = 0 then ⟨imax a.N b.N, 0, []⟩ else if k = 1 then ⟨imin (a.N + b.N) 1152921504606846976, 0, []⟩ else if k = 2 ∨ k = 3 then ⟨imin a.N b.N, 0, []⟩
  else if k = 4 then ⟨imax a.N b.N, imax a.M b.M, []⟩
  else if k = 6 then (if a.S.length = 0 then b else if b.S.length = 0 then a else ⟨0, 0, [nrm rlt (hd a.S ++ hd b.S)]⟩)
  else if k = 7 then ⟨0, 0, minF (nrm slt (a.S ++ b.S))⟩ else ⟨0, 0, nrm slt (a.S ++ b.S)⟩
def mulE (k : Int) (a b : El) : El :=
  if k = 0 then ⟨imin a.N b.N, 0, []⟩
  else if k = 1 then (if a.N ≠ 0 ∧ (1152921504606846976 : Int).tdiv a.N < b.N then ⟨1152921504606846976, 0, []⟩ else ⟨a.N * b.N, 0, []⟩)
  else if k = 2 then ⟨imin (a.N + b.N) 1099511627776, 0, []⟩ else if k = 3 then ⟨imax a.N b.N, 0, []⟩
  else if k = 4 then ⟨imin a.N b.N, imin a.M b.M, []⟩ else if k = 7 then ⟨0, 0, minF (prod a.S b.S)⟩ else ⟨0, 0, prod a.S b.S⟩
def gt0 (a b : Int) : Int := if b < a then a else 0
def hit (k : Int) (s t : Ids) : Bool := (decide (k = 7) && sub t s) || decide (t = s)
def keep (k : Int) (l : Fam) (s : Ids) : Bool := l.all fun t => !hit k s t
def monE (k : Int) (a b : El) : El :=
  if k = 0 ∨ k = 1 then ⟨imax (a.N - b.N) 0, 0, []⟩ else if k = 2 ∨ k = 3 then (if a.N < b.N then a else zeroE k)
  else if k = 4 then ⟨gt0 a.N b.N, imax (gt0 a.N b.N) (gt0 a.M b.M), []⟩
  else if k = 6 then (if b.S.length = 0 then a else if a.S.length = 0 ∨ sub (hd a.S) (hd b.S) = true then ⟨0, 0, []⟩ else ⟨0, 0, [nrm rlt ((hd a.S).filter fun x => !decide (x ∈ hd b.S))]⟩)
  else ⟨0, 0, a.S.filter (keep k b.S)⟩
theorem vld_known {k : Int} {e : El} (h : vld k e = true) : 0 ≤ k ∧ k ≤ 7 := by
  unfold vld known at h
  rw [Bool.and_eq_true, Bool.and_eq_true, decide_eq_true_eq, decide_eq_true_eq] at h
  exact h.1
theorem vN {k : Int} {e : El} (h : vld k e = true) (hk : k < 5) : vldN k e := by
  have h0 := vld_known h
  rw [vld_num (by unfold known; simp; omega) (by unfold isSets; simp; omega)] at h
  exact of_decide_eq_true h
theorem vS {k : Int} {e : El} (h : vld k e = true) (hk : 5 ≤ k) : vldS k e := by
  have h0 := vld_known h
  rw [vld_set (by unfold isSets; simp; omega)] at h
  exact of_decide_eq_true h
theorem vN_nil {k : Int} {e : El} (h : vldN k e) : e.S = [] := List.length_eq_zero_iff.1 h.1
theorem opOut_no {k : Int} {a b e : El} (h : ¬ (vld k a = true ∧ vld k b = true)) : opOut k a b e = (⟨0, 0, []⟩, 1) := by rw [opOut, if_neg h]
theorem opOut_yes {k : Int} {a b e : El} (ha : vld k a = true) (hb : vld k b = true) : opOut k a b e = res e := by rw [opOut, if_pos ⟨ha, hb⟩]
theorem res_small {e : El} (h : e.S.length ≤ 512) : res e = (e, 0) := by rw [res, if_neg (by omega)]
end Sr
