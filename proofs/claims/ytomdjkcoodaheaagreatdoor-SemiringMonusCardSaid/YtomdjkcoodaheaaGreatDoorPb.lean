/-
  Plain lists: neighbours that are alike dropped; lists that are written in place.
-/
import Derived.Test.YtomdjkcoodaheaaGreatDoorPa
set_option linter.unusedSectionVars false
set_option linter.unusedSimpArgs false
set_option linter.unusedVariables false
namespace Sr
section
variable {α : Type} [DecidableEq α]
def cpS (acc : List α) (x : α) : List α := if acc.getLast? = some x then acc else acc ++ [x]
/-- Of neighbours that are alike the first stays. -/
def cp (l : List α) : List α := l.foldl cpS []
theorem cpS_last (acc : List α) (x : α) : (cpS acc x).getLast? = some x := by
  unfold cpS; split
  · assumption
  · simp
theorem cp_snoc (l : List α) (x : α) : cp (l ++ [x]) = cpS (cp l) x := by unfold cp; rw [List.foldl_append]; rfl
theorem cp_take {l : List α} (x0 : α) {i : Nat} (h : i < l.length) : cp (l.take (i + 1)) = cpS (cp (l.take i)) (l.getD i x0) := by rw [take_snoc x0 h, cp_snoc]
theorem cp_last {l : List α} (x0 : α) {i : Nat} (h : i < l.length) : (cp (l.take (i + 1))).getLast? = some (l.getD i x0) := by rw [cp_take x0 h, cpS_last]
theorem cp_step {l : List α} (x0 : α) {i : Nat} (h0 : 0 < i) (h : i < l.length) : cp (l.take (i + 1)) = if l.getD i x0 = l.getD (i - 1) x0 then cp (l.take i) else cp (l.take i) ++ [l.getD i x0] := by
  rw [cp_take x0 h, cpS]
  obtain ⟨i, rfl⟩ : ∃ q, i = q + 1 := ⟨i - 1, by omega⟩
  rw [cp_last x0 (by omega), Nat.add_sub_cancel]
  by_cases e : l.getD i x0 = l.getD (i + 1) x0
  · rw [if_pos (by rw [e]), if_pos e.symm]
  · rw [if_neg (fun h => e (Option.some.inj h)), if_neg (Ne.symm e)]
theorem cp_one {l : List α} (x0 : α) (h : 0 < l.length) : cp (l.take 1) = l.take 1 := by
  match l, h with
  | x :: xs, _ => simp [cp, cpS]
theorem cp_length_le (l : List α) : (cp l).length ≤ l.length := by
  unfold cp
  have : ∀ (l acc : List α), (l.foldl cpS acc).length ≤ acc.length + l.length := by
    intro l
    induction l with
    | nil => simp
    | cons x xs ih =>
      intro acc
      have h1 := ih (cpS acc x)
      have h2 : (cpS acc x).length ≤ acc.length + 1 := by unfold cpS; split <;> simp
      simp only [List.foldl_cons, List.length_cons]; omega
  have := this l []; simpa using this
theorem cp_sorted {lt : α → α → Prop} [DecidableRel lt] (h : STO lt) (x0 : α) {l : List α} (hs : ∀ i j, i < j → j < l.length → ¬ lt (l.getD j x0) (l.getD i x0)) : cp l = nrm lt l := by
  have key : ∀ n, n ≤ l.length → (cp (l.take n)).Pairwise lt ∧ ∀ x, x ∈ cp (l.take n) ↔ x ∈ l.take n := by
    intro n
    induction n with
    | zero => intro _; simp [cp]
    | succ n ih =>
      intro hn
      obtain ⟨h1, h2⟩ := ih (by omega)
      rw [cp_take x0 (by omega), cpS]
      split
      · rename_i hl
        refine ⟨h1, fun x => ?_⟩
        rw [h2, mem_take_succ (x0 := x0) (by omega)]
        constructor
        · exact .inl
        · rintro (hx | rfl)
          · exact hx
          · exact (h2 _).1 (List.mem_of_getLast? hl)
      · rename_i hl
        have hlt : ∀ y ∈ cp (l.take n), lt y (l.getD n x0) := by
          intro y hy
          have hns : ∀ z ∈ cp (l.take n), ¬ lt (l.getD n x0) z := by
            intro z hz
            obtain ⟨i, hi, rfl⟩ := List.getElem_of_mem ((h2 z).1 hz)
            rw [List.length_take] at hi
            have := hs i n (by omega) (by omega)
            rw [getD_lt (show i < l.length by omega)] at this
            simpa using this
          rcases h.tri y (l.getD n x0) with q | q | q
          · exact q
          · exfalso
            subst q
            -- the last of them is greater, or it is this one
            cases hc : (cp (l.take n)).getLast? with
            | none => rw [List.getLast?_eq_none_iff] at hc; rw [hc] at hy; cases hy
            | some z =>
              have hz := List.mem_of_getLast? hc
              have hne : l.getD n x0 ≠ z := fun e => hl (by rw [hc, e])
              obtain ⟨ys, hys⟩ := List.getLast?_eq_some_iff.1 hc
              rw [hys] at hy h1
              rcases List.mem_append.1 hy with hy | hy
              · exact hns z hz ((List.pairwise_append.1 h1).2.2 _ hy z (by simp))
              · exact hne (by simpa using hy)
          · exact absurd q (hns y hy)
        refine ⟨List.pairwise_append.2 ⟨h1, by simp, fun y hy z hz => by rw [List.mem_singleton] at hz; subst hz; exact hlt y hy⟩, fun x => ?_⟩
        rw [List.mem_append, h2, mem_take_succ (x0 := x0) (by omega), List.mem_singleton]
  obtain ⟨h1, h2⟩ := key l.length (Nat.le_refl _)
  rw [List.take_length] at h1 h2
  exact eq_nrm h h1 h2
theorem cp_id {l : List α} (x0 : α) (h : ∀ i, 0 < i → i < l.length → l.getD i x0 ≠ l.getD (i - 1) x0) : ∀ n, n ≤ l.length → cp (l.take n) = l.take n := by
  intro n
  induction n with
  | zero => intro _; simp [cp]
  | succ n ih =>
    intro hn
    rcases Nat.eq_zero_or_pos n with e | e
    · subst e; exact cp_one x0 (by omega)
    · rw [cp_step x0 e (by omega), if_neg (h n e (by omega)), ih (by omega), take_snoc x0 (by omega)]
theorem cp_id' {l : List α} (x0 : α) {k : Nat} (hk : k ≤ l.length) (h : ∀ i, 0 < i → i < k → l.getD i x0 ≠ l.getD (i - 1) x0) : cp (l.take k) = l.take k := by
  have h1 : (l.take k).length = k := by rw [List.length_take]; omega
  have hg : ∀ i, i < k → (l.take k).getD i x0 = l.getD i x0 := fun i hi => by
    rw [List.getD_eq_getElem?_getD, List.getD_eq_getElem?_getD, List.getElem?_take_of_lt hi]
  have := cp_id x0 (l := l.take k) (fun i h0 hi => by rw [h1] at hi; rw [hg i hi, hg (i - 1) (by omega)]; exact h i h0 hi) k (by omega)
  rwa [List.take_take, Nat.min_self] at this
end

/-- The first places hold r, the others what they held. -/
def mix {α : Type} (x0 : α) (r l : List α) (i : Nat) : α := if i < r.length then r.getD i x0 else l.getD i x0
theorem mix_lt {α : Type} {x0 : α} {r l : List α} {i : Nat} (h : i < r.length) : mix x0 r l i = r.getD i x0 := if_pos h
theorem mix_ge {α : Type} {x0 : α} {r l : List α} {i : Nat} (h : r.length ≤ i) : mix x0 r l i = l.getD i x0 := if_neg (by omega)
theorem mix_snoc {α : Type} {x0 : α} {r l : List α} {i : Nat} {y : α} : mix x0 (r ++ [y]) l i = if i = r.length then y else mix x0 r l i := by
  unfold mix
  by_cases h : i < r.length
  · rw [if_pos (by simp; omega), if_neg (by omega), if_pos h, List.getD_eq_getElem?_getD, List.getElem?_append_left h, ← List.getD_eq_getElem?_getD]
  · by_cases e : i = r.length
    · subst e; rw [if_pos (by simp), if_pos rfl, List.getD_eq_getElem?_getD, List.getElem?_append_right (by omega)]; simp
    · rw [if_neg (by simp; omega), if_neg e, if_neg h]
theorem mix_take {α : Type} {x0 : α} {l : List α} {k : Nat} (i : Nat) (hk : k ≤ l.length) : mix x0 (l.take k) l i = l.getD i x0 := by
  unfold mix
  split
  · rename_i h
    rw [List.length_take] at h
    rw [List.getD_eq_getElem?_getD, List.getD_eq_getElem?_getD, List.getElem?_take_of_lt (by omega)]
  · rfl
theorem filter_take {α : Type} {l : List α} (x0 : α) {i : Nat} (h : i < l.length) (p : α → Bool) : (l.take (i + 1)).filter p = if p (l.getD i x0) = true then (l.take i).filter p ++ [l.getD i x0] else (l.take i).filter p := by
  rw [take_snoc x0 h, List.filter_append]
  by_cases hp : p (l.getD i x0) = true
  · rw [if_pos hp, List.filter_cons, if_pos hp]; rfl
  · rw [if_neg hp, List.filter_cons, if_neg hp]; simp
theorem filter_take_le {α : Type} (l : List α) (i : Nat) (p : α → Bool) : ((l.take i).filter p).length ≤ i := by
  have := List.length_filter_le p (l.take i)
  rw [List.length_take] at this; omega
end Sr
namespace Sr
/-- The place of the first that p holds of, or -1. -/
def idx {α : Type} (p : α → Bool) (l : List α) : Int := if l.any p then ((l.takeWhile fun x => !p x).length : Nat) else -1
theorem idx_miss {α : Type} {p : α → Bool} {l : List α} (h : ∀ x ∈ l, p x = false) : idx p l = -1 := by
  unfold idx
  rw [if_neg]
  rw [List.any_eq_true]
  rintro ⟨x, hx, hp⟩
  rw [h x hx] at hp; cases hp
theorem takeWhile_len {α : Type} {q : α → Bool} (x0 : α) : ∀ {l : List α} {i : Nat}, i < l.length → q (l.getD i x0) = false → (∀ x ∈ l.take i, q x = true) → (l.takeWhile q).length = i
  | [], _, h, _, _ => absurd h (Nat.not_lt_zero _)
  | y :: ys, 0, _, h, _ => by
    have : q y = false := h
    simp [List.takeWhile, this]
  | y :: ys, i + 1, hi, h, hall => by
    have hy : q y = true := hall y (by simp)
    have := takeWhile_len (q := q) x0 (l := ys) (i := i) (by simpa using hi) h fun x hx => hall x (by simp [hx])
    simp [List.takeWhile, hy, this]
theorem idx_hit {α : Type} {p : α → Bool} {l : List α} (x0 : α) {i : Nat} (hi : i < l.length) (hp : p (l.getD i x0) = true) (h : ∀ x ∈ l.take i, p x = false) : idx p l = i := by
  unfold idx
  rw [if_pos]
  · rw [takeWhile_len (q := fun x => !p x) x0 hi (by rw [hp]; rfl) fun x hx => by rw [h x hx]; rfl]
  · rw [List.any_eq_true]
    exact ⟨_, by rw [getD_lt hi]; exact List.getElem_mem hi, hp⟩
theorem idx_cases {α : Type} (p : α → Bool) (l : List α) (x0 : α) : (idx p l = -1 ∧ ∀ x ∈ l, p x = false) ∨ ∃ i : Nat, idx p l = i ∧ i < l.length ∧ p (l.getD i x0) = true ∧ ∀ x ∈ l.take i, p x = false := by
  rcases Classical.em (∃ x ∈ l, p x = true) with h | h
  · right
    have key : ∀ n, n ≤ l.length → (∃ x ∈ l.take n, p x = true) → ∃ i : Nat, i < l.length ∧ p (l.getD i x0) = true ∧ ∀ x ∈ l.take i, p x = false := by
      intro n
      induction n with
      | zero => rintro _ ⟨x, hx, _⟩; simp at hx
      | succ n ih =>
        rintro hn ⟨x, hx, hp⟩
        rcases Classical.em (∃ x ∈ l.take n, p x = true) with h | h
        · exact ih (by omega) h
        · rcases (mem_take_succ (x0 := x0) (by omega)).1 hx with q | q
          · exact absurd ⟨x, q, hp⟩ h
          · exact ⟨n, by omega, by rw [← q]; exact hp, fun y hy => by
              cases hb : p y with
              | false => rfl
              | true => exact absurd ⟨y, hy, hb⟩ h⟩
    obtain ⟨i, h1, h2, h3⟩ := key l.length (Nat.le_refl _) (by rw [List.take_length]; exact h)
    exact ⟨i, idx_hit x0 h1 h2 h3, h1, h2, h3⟩
  · left
    have : ∀ x ∈ l, p x = false := fun x hx => by
      cases hb : p x with
      | false => rfl
      | true => exact absurd ⟨x, hx, hb⟩ h
    exact ⟨idx_miss this, this⟩
theorem idx_any {α : Type} (p : α → Bool) (l : List α) : decide (0 ≤ idx p l) = l.any p := by
  unfold idx
  split
  · rename_i h; rw [h]; simp
  · rename_i h; rw [Bool.not_eq_true] at h; rw [h]; simp
theorem cmpL_end (a : Ids) : cmpL a [] = if a = [] then 0 else 1 := by cases a <;> simp [cmpL]
theorem cmpL_drop {a b : Ids} {i : Nat} (ha : i < a.length) (hb : i < b.length) : cmpL (a.drop i) (b.drop i) = if cmp (a.getD i (0, 0)) (b.getD i (0, 0)) = 0 then cmpL (a.drop (i + 1)) (b.drop (i + 1)) else cmp (a.getD i (0, 0)) (b.getD i (0, 0)) := by
  rw [List.drop_eq_getElem_cons ha, List.drop_eq_getElem_cons hb, cmpL, getD_lt ha, getD_lt hb]
def icmp (a b : Int) : Int := if a < b then -1 else if b < a then 1 else 0
def orI : List Int → Int
  | [] => 0
  | x :: r => if x = 0 then orI r else x
theorem orI_cmp (a b : RId) : orI [icmp a.1 b.1, icmp a.2 b.2] = cmp a b := by
  obtain ⟨a1, a2⟩ := a; obtain ⟨b1, b2⟩ := b
  simp only [orI, icmp, cmp, Prod.mk.injEq]
  by_cases h1 : a1 < b1
  · simp [h1]
  · by_cases h2 : b1 < a1
    · have : ¬ a1 = b1 := by omega
      simp [h1, h2, this]
    · have e : a1 = b1 := by omega
      subst e
      by_cases h3 : a2 < b2
      · simp [h3]
      · by_cases h4 : b2 < a2
        · have : ¬ a2 = b2 := by omega
          simp [h3, h4, this]
        · have e : a2 = b2 := by omega
          subst e; simp
theorem orI_take {l : List Int} : ∀ {i : Nat}, (∀ x ∈ l.take i, x = 0) → orI l = orI (l.drop i) := by
  induction l with
  | nil => intro i _; simp
  | cons y ys ih =>
    intro i h
    cases i with
    | zero => rfl
    | succ i =>
      have hy : y = 0 := h y (by simp)
      rw [orI, if_pos hy, List.drop_succ_cons]
      exact ih fun x hx => h x (by simp [hx])
end Sr

/-
  Plain: sets, families, least sets.
-/
namespace Sr
def un (x y : Ids) : Ids := nrm rlt (x ++ y)
theorem mem_un {x y : Ids} {e : RId} : e ∈ un x y ↔ e ∈ x ∨ e ∈ y := by rw [un, mem_nrm, List.mem_append]
theorem set_un (x y : Ids) : IsSet (un x y) := sorted_nrm rlt_sto _
theorem set_ext {x y : Ids} (hx : IsSet x) (hy : IsSet y) (h : ∀ e, e ∈ x ↔ e ∈ y) : x = y := sorted_ext rlt_sto hx hy h
theorem fam_ext {a b : Fam} (ha : a.Pairwise slt) (hb : b.Pairwise slt) (h : ∀ s, s ∈ a ↔ s ∈ b) : a = b := sorted_ext slt_sto ha hb h
theorem sub_iff {x y : Ids} : sub x y = true ↔ ∀ e ∈ x, e ∈ y := by simp [sub]
theorem sub_refl (x : Ids) : sub x x = true := sub_iff.2 fun _ h => h
theorem sub_trans {x y z : Ids} (h : sub x y = true) (k : sub y z = true) : sub x z = true := sub_iff.2 fun e he => sub_iff.1 k e (sub_iff.1 h e he)
theorem sub_antisymm {x y : Ids} (hx : IsSet x) (hy : IsSet y) (h : sub x y = true) (k : sub y x = true) : x = y := set_ext hx hy fun e => ⟨sub_iff.1 h e, sub_iff.1 k e⟩
theorem un_sub {x y z : Ids} : sub (un x y) z = true ↔ sub x z = true ∧ sub y z = true := by
  simp only [sub_iff, mem_un]
  exact ⟨fun h => ⟨fun e he => h e (.inl he), fun e he => h e (.inr he)⟩, fun h e he => he.elim (h.1 e) (h.2 e)⟩
theorem un_comm (x y : Ids) : un x y = un y x := nrm_congr rlt_sto fun e => by simp [or_comm]
theorem un_assoc (x y z : Ids) : un (un x y) z = un x (un y z) := set_ext (set_un _ _) (set_un _ _) fun e => by simp only [mem_un, or_assoc]
theorem un_self {x : Ids} (h : IsSet x) : un x x = x := set_ext (set_un _ _) h fun e => by simp [mem_un]
theorem un_nil {x : Ids} (h : IsSet x) : un x [] = x := set_ext (set_un _ _) h fun e => by simp [mem_un]
theorem nil_un {x : Ids} (h : IsSet x) : un [] x = x := set_ext (set_un _ _) h fun e => by simp [mem_un]
theorem un_of_sub {x y : Ids} (hy : IsSet y) (h : sub x y = true) : un x y = y := set_ext (set_un _ _) hy fun e => by rw [mem_un]; exact ⟨fun q => q.elim (sub_iff.1 h e) id, .inr⟩
theorem length_un_le (x y : Ids) : (un x y).length ≤ x.length + y.length := by have := length_nrm_le (lt := rlt) (x ++ y); rwa [List.length_append] at this

def Sets (a : Fam) : Prop := ∀ s ∈ a, IsSet s
theorem IsFam.sets {a : Fam} (h : IsFam a) : Sets a := h.1
theorem Sets.app {a b : Fam} (ha : Sets a) (hb : Sets b) : Sets (a ++ b) := fun s hs => (List.mem_append.1 hs).elim (ha s) (hb s)
theorem map_nrm {a : Fam} (h : Sets a) : a.map (nrm rlt) = a := by
  induction a with
  | nil => rfl
  | cons x xs ih => rw [List.map_cons, nrm_of_sorted rlt_sto (h x (by simp)), ih fun s hs => h s (by simp [hs])]
theorem fam_sets {a : Fam} (h : Sets a) : fam a = nrm slt a := by rw [fam, map_nrm h]
theorem fam_fam {a : Fam} (h : IsFam a) : fam a = a := by rw [fam_sets h.1, nrm_of_sorted slt_sto h.2]
theorem mem_fam {a : Fam} (h : Sets a) {s : Ids} : s ∈ fam a ↔ s ∈ a := by rw [fam_sets h, mem_nrm]
theorem nrm_isFam {a : Fam} (h : Sets a) : IsFam (nrm slt a) := ⟨fun s hs => h s ((mem_nrm a s).1 hs), sorted_nrm slt_sto a⟩
theorem fam_isFam (a : Fam) : IsFam (fam a) := ⟨fun s hs => by
  obtain ⟨t, _, rfl⟩ := List.mem_map.1 ((mem_nrm _ s).1 hs); exact sorted_nrm rlt_sto t, sorted_nrm slt_sto _⟩

theorem mem_prod {a b : Fam} {s : Ids} : s ∈ prod a b ↔ ∃ x ∈ a, ∃ y ∈ b, s = un x y := by
  rw [prod, mem_nrm, List.mem_flatMap]
  constructor
  · rintro ⟨x, hx, h⟩
    obtain ⟨y, hy, rfl⟩ := List.mem_map.1 h
    exact ⟨x, hx, y, hy, rfl⟩
  · rintro ⟨x, hx, y, hy, rfl⟩
    exact ⟨x, hx, List.mem_map.2 ⟨y, hy, rfl⟩⟩
theorem prod_sets (a b : Fam) : Sets (prod a b) := fun s hs => by obtain ⟨x, _, y, _, rfl⟩ := mem_prod.1 hs; exact set_un x y
theorem prod_sorted (a b : Fam) : (prod a b).Pairwise slt := sorted_nrm slt_sto _
theorem prod_isFam (a b : Fam) : IsFam (prod a b) := ⟨prod_sets a b, prod_sorted a b⟩
theorem prod_comm (a b : Fam) : prod a b = prod b a := fam_ext (prod_sorted _ _) (prod_sorted _ _) fun s => by
  rw [mem_prod, mem_prod]
  constructor <;> rintro ⟨x, hx, y, hy, rfl⟩ <;> exact ⟨y, hy, x, hx, un_comm _ _⟩
theorem prod_assoc (a b c : Fam) : prod (prod a b) c = prod a (prod b c) := fam_ext (prod_sorted _ _) (prod_sorted _ _) fun s => by
  rw [mem_prod, mem_prod]
  constructor
  · rintro ⟨x, hx, z, hz, rfl⟩
    obtain ⟨p, hp, q, hq, rfl⟩ := mem_prod.1 hx
    exact ⟨p, hp, un q z, mem_prod.2 ⟨q, hq, z, hz, rfl⟩, un_assoc _ _ _⟩
  · rintro ⟨x, hx, y, hy, rfl⟩
    obtain ⟨p, hp, q, hq, rfl⟩ := mem_prod.1 hy
    exact ⟨un x p, mem_prod.2 ⟨x, hx, p, hp, rfl⟩, q, hq, (un_assoc _ _ _).symm⟩
theorem prod_app (a b c : Fam) : prod a (nrm slt (b ++ c)) = nrm slt (prod a b ++ prod a c) := fam_ext (prod_sorted _ _) (sorted_nrm slt_sto _) fun s => by
  rw [mem_nrm, List.mem_append, mem_prod, mem_prod, mem_prod]
  constructor
  · rintro ⟨x, hx, y, hy, rfl⟩
    rw [mem_nrm, List.mem_append] at hy
    exact hy.imp (fun h => ⟨x, hx, y, h, rfl⟩) fun h => ⟨x, hx, y, h, rfl⟩
  · rintro (⟨x, hx, y, hy, rfl⟩ | ⟨x, hx, y, hy, rfl⟩)
    · exact ⟨x, hx, y, by rw [mem_nrm]; simp [hy], rfl⟩
    · exact ⟨x, hx, y, by rw [mem_nrm]; simp [hy], rfl⟩
theorem prod_nil (a : Fam) : prod a [] = [] := List.eq_nil_iff_forall_not_mem.2 fun s hs => by obtain ⟨x, _, y, hy, _⟩ := mem_prod.1 hs; cases hy
theorem nil_prod (a : Fam) : prod [] a = [] := by simp [prod, nrm]
theorem prod_one {a : Fam} (h : IsFam a) : prod a [[]] = a := fam_ext (prod_sorted _ _) h.2 fun s => by
  rw [mem_prod]
  constructor
  · rintro ⟨x, hx, y, hy, rfl⟩
    rw [List.mem_singleton] at hy; subst hy
    rw [un_nil (h.1 x hx)]; exact hx
  · intro hs; exact ⟨s, hs, [], by simp, (un_nil (h.1 s hs)).symm⟩
theorem length_prod_le (a b : Fam) : (prod a b).length ≤ a.length * b.length := by
  refine Nat.le_trans (length_nrm_le _) ?_
  induction a with
  | nil => simp
  | cons x xs ih => rw [List.flatMap_cons, List.length_append, List.length_map, List.length_cons, Nat.add_mul]; omega
theorem nrm_sing {α : Type} {lt : α → α → Prop} [DecidableRel lt] [DecidableEq α] (x : α) : nrm lt [x] = [x] := rfl
theorem prod_sing (x y : Ids) : prod [x] [y] = [un x y] := rfl

/-! ### what lies above -/
def up (a : Fam) (s : Ids) : Prop := ∃ t ∈ a, sub t s = true
theorem up_mono {a : Fam} {s r : Ids} (h : up a s) (k : sub s r = true) : up a r := by obtain ⟨t, ht, h⟩ := h; exact ⟨t, ht, sub_trans h k⟩
theorem up_app {a b : Fam} {s : Ids} : up (a ++ b) s ↔ up a s ∨ up b s := by
  constructor
  · rintro ⟨t, ht, h⟩; exact (List.mem_append.1 ht).imp (fun q => ⟨t, q, h⟩) fun q => ⟨t, q, h⟩
  · rintro (⟨t, ht, h⟩ | ⟨t, ht, h⟩) <;> exact ⟨t, by simp [ht], h⟩
theorem up_nrm {a : Fam} {s : Ids} : up (nrm slt a) s ↔ up a s := by unfold up; simp only [mem_nrm]
theorem up_prod {a b : Fam} {s : Ids} : up (prod a b) s ↔ up a s ∧ up b s := by
  constructor
  · rintro ⟨t, ht, h⟩
    obtain ⟨x, hx, y, hy, rfl⟩ := mem_prod.1 ht
    exact ⟨⟨x, hx, (un_sub.1 h).1⟩, ⟨y, hy, (un_sub.1 h).2⟩⟩
  · rintro ⟨⟨x, hx, h1⟩, ⟨y, hy, h2⟩⟩
    exact ⟨un x y, mem_prod.2 ⟨x, hx, y, hy, rfl⟩, un_sub.2 ⟨h1, h2⟩⟩
theorem up_self {a : Fam} {s : Ids} (h : s ∈ a) : up a s := ⟨s, h, sub_refl s⟩
theorem not_up_nil {s : Ids} : ¬ up [] s := by rintro ⟨t, ht, _⟩; cases ht
theorem up_one (s : Ids) : up [[]] s := ⟨[], by simp, by simp [sub]⟩

theorem nodup_length_le {α : Type} [DecidableEq α] : ∀ {a b : List α}, a.Nodup → (∀ x ∈ a, x ∈ b) → a.length ≤ b.length
  | [], _, _, _ => Nat.zero_le _
  | x :: xs, b, hn, hs => by
    rw [List.nodup_cons] at hn
    have hx : x ∈ b := hs x (by simp)
    have := nodup_length_le (a := xs) (b := b.erase x) hn.2 fun y hy => (List.mem_erase_of_ne (fun e => hn.1 (by rw [← e]; exact hy))).2 (hs y (by simp [hy]))
    rw [List.length_erase_of_mem hx] at this
    have hp : 0 < b.length := List.length_pos_of_mem hx
    simp only [List.length_cons]; omega
theorem sub_length_lt {x y : Ids} (hx : IsSet x) (hy : IsSet y) (h : sub x y = true) (hne : x ≠ y) : x.length < y.length := by
  have hnx := sorted_nodup rlt_sto hx
  have hle := nodup_length_le hnx (sub_iff.1 h)
  rcases Nat.lt_or_ge x.length y.length with q | q
  · exact q
  · exfalso
    -- an element of y that x lacks
    have : ∃ e ∈ y, e ∉ x := by
      rcases Classical.em (∃ e ∈ y, e ∉ x) with q | q
      · exact q
      · exact absurd (sub_antisymm hx hy h (sub_iff.2 fun e he => Classical.byContradiction fun hn => q ⟨e, he, hn⟩)) hne
    obtain ⟨e, he, hex⟩ := this
    have := nodup_length_le (a := e :: x) (b := y) (List.nodup_cons.2 ⟨hex, hnx⟩) fun z hz => by
      rcases List.mem_cons.1 hz with q | q
      · exact q ▸ he
      · exact sub_iff.1 h z q
    simp only [List.length_cons] at this; omega

theorem mem_minF {a : Fam} (ha : Sets a) {s : Ids} : s ∈ minF a ↔ s ∈ a ∧ ∀ t ∈ a, sub t s = true → t = s := by
  rw [minF, List.mem_filter, mem_fam ha, least, Bool.not_eq_true', Bool.eq_false_iff, ne_eq, List.any_eq_true]
  constructor
  · rintro ⟨h1, h2⟩
    refine ⟨h1, fun t ht hs => ?_⟩
    exact Classical.byContradiction fun hne => h2 ⟨t, (mem_fam ha).2 ht, by simp [hne, hs]⟩
  · rintro ⟨h1, h2⟩
    refine ⟨h1, ?_⟩
    rintro ⟨t, ht, hp⟩
    simp only [Bool.and_eq_true, decide_eq_true_eq] at hp
    exact hp.1 (h2 t ((mem_fam ha).1 ht) hp.2)
theorem minF_sorted (a : Fam) : (minF a).Pairwise slt := (fam_isFam a).2.filter _
theorem minF_sub {a : Fam} (ha : Sets a) {s : Ids} (h : s ∈ minF a) : s ∈ a := ((mem_minF ha).1 h).1
theorem minF_sets {a : Fam} (ha : Sets a) : Sets (minF a) := fun s hs => ha s (minF_sub ha hs)
theorem minF_isFam {a : Fam} (ha : Sets a) : IsFam (minF a) := ⟨minF_sets ha, minF_sorted a⟩
theorem min_exists {a : Fam} (ha : Sets a) : ∀ (n : Nat) (s : Ids), s.length ≤ n → s ∈ a → ∃ t ∈ minF a, sub t s = true := by
  intro n
  induction n with
  | zero =>
    intro s hn hs
    refine ⟨s, (mem_minF ha).2 ⟨hs, fun t ht hts => ?_⟩, sub_refl s⟩
    refine Classical.byContradiction fun hne => ?_
    have := sub_length_lt (ha t ht) (ha s hs) hts hne; omega
  | succ n ih =>
    intro s hn hs
    rcases Classical.em (∃ t ∈ a, sub t s = true ∧ t ≠ s) with ⟨t, ht, hts, hne⟩ | hno
    · have := sub_length_lt (ha t ht) (ha s hs) hts hne
      obtain ⟨r, hr, h⟩ := ih t (by omega) ht
      exact ⟨r, hr, sub_trans h hts⟩
    · exact ⟨s, (mem_minF ha).2 ⟨hs, fun t ht hts => Classical.byContradiction fun hne => hno ⟨t, ht, hts, hne⟩⟩, sub_refl s⟩
theorem up_minF {a : Fam} (ha : Sets a) {s : Ids} : up (minF a) s ↔ up a s := by
  constructor
  · rintro ⟨t, ht, h⟩; exact ⟨t, minF_sub ha ht, h⟩
  · rintro ⟨t, ht, h⟩
    obtain ⟨r, hr, hrt⟩ := min_exists ha t.length t (Nat.le_refl _) ht
    exact ⟨r, hr, sub_trans hrt h⟩
theorem minF_le_up {a b : Fam} (ha : Sets a) (hb : Sets b) (h : ∀ s, up a s ↔ up b s) {s : Ids} (hs : s ∈ minF a) : s ∈ minF b := by
  obtain ⟨h1, h2⟩ := (mem_minF ha).1 hs
  have key : ∀ t ∈ b, sub t s = true → t = s := fun t ht hts => by
    obtain ⟨r, hr, hrt⟩ := (h t).2 (up_self ht)
    have := h2 r hr (sub_trans hrt hts)
    subst this
    exact sub_antisymm (hb t ht) (ha r hr) hts hrt
  obtain ⟨t, ht, hts⟩ := (h s).1 (up_self h1)
  have := key t ht hts
  subst this
  exact (mem_minF hb).2 ⟨ht, key⟩
theorem minF_eq {a b : Fam} (ha : Sets a) (hb : Sets b) (h : ∀ s, up a s ↔ up b s) : minF a = minF b :=
  fam_ext (minF_sorted a) (minF_sorted b) fun _ => ⟨minF_le_up ha hb h, minF_le_up hb ha fun s => (h s).symm⟩
theorem minF_minF {a : Fam} (ha : Sets a) : minF (minF a) = minF a := minF_eq (minF_sets ha) ha fun s => up_minF ha
theorem minF_nrm {a : Fam} (ha : Sets a) : minF (nrm slt a) = minF a := minF_eq (nrm_isFam ha).1 ha fun s => up_nrm
theorem length_minF_le {a : Fam} : (minF a).length ≤ a.length := by
  refine Nat.le_trans (List.length_filter_le _ _) ?_
  have := length_nrm_le (lt := slt) (a.map (nrm rlt)); rwa [List.length_map] at this
/-- A sub-family of a family of least sets is one. -/
theorem minF_filter {a : Fam} (h : IsFam a) (hm : minF a = a) (p : Ids → Bool) : minF (a.filter p) = a.filter p := by
  have hs : Sets (a.filter p) := fun s hs => h.1 s (List.mem_filter.1 hs).1
  refine fam_ext (minF_sorted _) (h.2.filter p) fun s => ?_
  rw [mem_minF hs]
  refine ⟨fun q => q.1, fun q => ⟨q, fun t ht hts => ?_⟩⟩
  have : s ∈ minF a := by rw [hm]; exact (List.mem_filter.1 q).1
  exact ((mem_minF h.1).1 this).2 t (List.mem_filter.1 ht).1 hts
end Sr
