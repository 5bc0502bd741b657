/-
  Plain: the laws of the operations on valid elements.
-/
import Derived.Test.YtomdjkcoodaheaaGreatDoorPb
set_option linter.unusedSectionVars false
set_option linter.unusedSimpArgs false
set_option linter.unusedVariables false
set_option linter.unusedVariables false
namespace Sr
theorem numE {k : Int} {e : El} (h : vld k e = true) (hk : k < 4) : ∃ n, e = ⟨n, 0, []⟩ ∧ 0 ≤ n ∧ n ≤ lim k := by
  obtain ⟨N, M, S⟩ := e
  obtain ⟨h1, h2, h3, h4⟩ := vN h (by omega)
  rw [if_neg (by omega)] at h4
  have := List.length_eq_zero_iff.1 h1
  simp only at this h2 h3 h4
  subst this; subst h4
  exact ⟨N, rfl, h2, h3⟩
theorem numV {k n : Int} (h0 : 0 ≤ k) (hk : k < 4) (h1 : 0 ≤ n) (h2 : n ≤ lim k) : vld k ⟨n, 0, []⟩ = true := by
  rw [vld_num (by unfold known; simp; omega) (by unfold isSets; simp; omega), decide_eq_true_eq]
  exact ⟨rfl, h1, h2, by rw [if_neg (by omega)]⟩
theorem trustE {e : El} (h : vld 4 e = true) : ∃ n m, e = ⟨n, m, []⟩ ∧ 0 ≤ n ∧ n ≤ m ∧ m ≤ 1000 := by
  obtain ⟨N, M, S⟩ := e
  obtain ⟨h1, h2, h3, h4⟩ := vN h (by omega)
  rw [if_pos rfl] at h4
  have := List.length_eq_zero_iff.1 h1
  simp only at this h2 h3 h4
  subst this
  exact ⟨N, M, rfl, h2, h4.1, h4.2⟩
theorem trustV {n m : Int} (h1 : 0 ≤ n) (h2 : n ≤ m) (h3 : m ≤ 1000) : vld 4 ⟨n, m, []⟩ = true := by
  rw [vld_num rfl rfl, decide_eq_true_eq]
  exact ⟨rfl, h1, by show n ≤ lim 4; unfold lim; simp; omega, by rw [if_pos rfl]; exact ⟨h2, h3⟩⟩
def Rok (l : Fam) : Prop := ∀ s ∈ l, ∀ x ∈ s, rok x = true
theorem setE {k : Int} {e : El} (h : vld k e = true) (hk : 5 ≤ k) : ∃ l, e = ⟨0, 0, l⟩ ∧ l.length ≤ 512 ∧ IsFam l ∧ Rok l ∧ (k = 6 → l.length ≤ 1) ∧ (k = 7 → minF l = l) := by
  obtain ⟨N, M, S⟩ := e
  obtain ⟨h1, h2, h3, h4, h5, h6⟩ := vS h hk
  simp only at h1 h2 h3 h4 h5 h6
  subst h1; subst h2
  refine ⟨S, rfl, h3, h4, h5, fun e => ?_, fun e => ?_⟩
  · rw [if_pos e] at h6; exact h6
  · rw [if_neg (by omega), if_pos e] at h6; exact h6
theorem setV {k : Int} {l : Fam} (h5 : 5 ≤ k) (h7 : k ≤ 7) (h1 : l.length ≤ 512) (h2 : IsFam l) (h3 : Rok l) (h4 : k = 6 → l.length ≤ 1) (h6 : k = 7 → minF l = l) : vld k ⟨0, 0, l⟩ = true := by
  rw [vld_set (by unfold isSets; simp; omega), decide_eq_true_eq]
  refine ⟨rfl, rfl, h1, h2, h3, ?_⟩
  split
  · rename_i e; exact h4 e
  · split
    · rename_i e; exact h6 e
    · trivial
theorem kinds {k : Int} {e : El} (h : vld k e = true) : k = 0 ∨ k = 1 ∨ k = 2 ∨ k = 3 ∨ k = 4 ∨ k = 5 ∨ k = 6 ∨ k = 7 := by
  have := vld_known h; omega
theorem len1 {α : Type} {l : List α} (h : l.length ≤ 1) : l = [] ∨ ∃ x, l = [x] := by
  match l, h with
  | [], _ => exact .inl rfl
  | [x], _ => exact .inr ⟨x, rfl⟩

theorem rok_app {a b : Fam} (ha : Rok a) (hb : Rok b) : Rok (a ++ b) := fun s hs => (List.mem_append.1 hs).elim (ha s) (hb s)
theorem rok_mem {a b : Fam} (ha : Rok a) (h : ∀ s ∈ b, s ∈ a) : Rok b := fun s hs => ha s (h s hs)
theorem rok_prod {a b : Fam} (ha : Rok a) (hb : Rok b) : Rok (prod a b) := fun s hs e he => by
  obtain ⟨x, hx, y, hy, rfl⟩ := mem_prod.1 hs
  rcases mem_un.1 he with q | q
  · exact ha x hx e q
  · exact hb y hy e q
theorem addE5 (a b : Fam) : addE 5 ⟨0, 0, a⟩ ⟨0, 0, b⟩ = ⟨0, 0, nrm slt (a ++ b)⟩ := by simp [addE]
theorem addE6 (x y : Ids) : addE 6 ⟨0, 0, [x]⟩ ⟨0, 0, [y]⟩ = ⟨0, 0, [un x y]⟩ := by simp [addE, hd, un]
theorem addE6l (b : El) : addE 6 ⟨0, 0, []⟩ b = b := by simp [addE]
theorem addE6r {a : El} (h : a.S.length ≤ 1) (b : El) (hb : b = ⟨0, 0, []⟩) (ha : a.N = 0 ∧ a.M = 0) : addE 6 a b = a := by
  subst hb; obtain ⟨N, M, S⟩ := a
  simp only at ha h; obtain ⟨rfl, rfl⟩ := ha
  rcases len1 h with rfl | ⟨x, rfl⟩ <;> simp [addE]
theorem addE7 (a b : Fam) : addE 7 ⟨0, 0, a⟩ ⟨0, 0, b⟩ = ⟨0, 0, minF (nrm slt (a ++ b))⟩ := by simp [addE]
theorem mulE5 (a b : Fam) : mulE 5 ⟨0, 0, a⟩ ⟨0, 0, b⟩ = ⟨0, 0, prod a b⟩ := by simp [mulE]
theorem mulE6 (a b : Fam) : mulE 6 ⟨0, 0, a⟩ ⟨0, 0, b⟩ = ⟨0, 0, prod a b⟩ := by simp [mulE]
theorem mulE7 (a b : Fam) : mulE 7 ⟨0, 0, a⟩ ⟨0, 0, b⟩ = ⟨0, 0, minF (prod a b)⟩ := by simp [mulE]
theorem addE0 (n m : Int) : addE 0 ⟨n, 0, []⟩ ⟨m, 0, []⟩ = ⟨imax n m, 0, []⟩ := by simp [addE]
theorem addE1 (n m : Int) : addE 1 ⟨n, 0, []⟩ ⟨m, 0, []⟩ = ⟨imin (n + m) 1152921504606846976, 0, []⟩ := by simp [addE]
theorem addE2 (n m : Int) : addE 2 ⟨n, 0, []⟩ ⟨m, 0, []⟩ = ⟨imin n m, 0, []⟩ := by simp [addE]
theorem addE3 (n m : Int) : addE 3 ⟨n, 0, []⟩ ⟨m, 0, []⟩ = ⟨imin n m, 0, []⟩ := by simp [addE]
theorem addE4 (n m n' m' : Int) : addE 4 ⟨n, m, []⟩ ⟨n', m', []⟩ = ⟨imax n n', imax m m', []⟩ := by simp [addE]
theorem mulE0 (n m : Int) : mulE 0 ⟨n, 0, []⟩ ⟨m, 0, []⟩ = ⟨imin n m, 0, []⟩ := by simp [mulE]
theorem mulE2 (n m : Int) : mulE 2 ⟨n, 0, []⟩ ⟨m, 0, []⟩ = ⟨imin (n + m) 1099511627776, 0, []⟩ := by simp [mulE]
theorem mulE3 (n m : Int) : mulE 3 ⟨n, 0, []⟩ ⟨m, 0, []⟩ = ⟨imax n m, 0, []⟩ := by simp [mulE]
theorem mulE4 (n m n' m' : Int) : mulE 4 ⟨n, m, []⟩ ⟨n', m', []⟩ = ⟨imin n n', imin m m', []⟩ := by simp [mulE]
/-- The capped product. -/
def cap (n : Int) : Int := imin n 1152921504606846976
theorem mulE1 {n m : Int} (hn : 0 ≤ n) (hm : 0 ≤ m) : mulE 1 ⟨n, 0, []⟩ ⟨m, 0, []⟩ = ⟨cap (n * m), 0, []⟩ := by
  have key : (n ≠ 0 ∧ (1152921504606846976 : Int).tdiv n < m) ↔ 1152921504606846976 < n * m := by
    constructor
    · rintro ⟨h1, h2⟩
      have hp : 0 < n := by omega
      rw [Int.tdiv_eq_ediv_of_nonneg (by omega)] at h2
      have := (Int.ediv_lt_iff_lt_mul hp).1 h2
      rwa [Int.mul_comm] at this
    · intro h
      have hp : 0 < n := by
        rcases Int.lt_or_eq_of_le hn with q | q
        · exact q
        · rw [← q] at h; simp at h
      refine ⟨by omega, ?_⟩
      rw [Int.tdiv_eq_ediv_of_nonneg (by omega)]
      exact (Int.ediv_lt_iff_lt_mul hp).2 (by rw [Int.mul_comm]; exact h)
  unfold mulE
  rw [if_neg (by omega), if_pos rfl]
  simp only
  by_cases h : 1152921504606846976 < n * m
  · rw [if_pos (key.2 h), cap, imin, if_pos h]
  · rw [if_neg (fun q => h (key.1 q)), cap, imin, if_neg h]
theorem cap_nonneg {n : Int} (h : 0 ≤ n) : 0 ≤ cap n := by unfold cap imin; split <;> omega
theorem cap_le (n : Int) : cap n ≤ 1152921504606846976 := by unfold cap imin; split <;> omega
theorem cap_cases (n : Int) : (cap n = n ∧ n ≤ 1152921504606846976) ∨ (cap n = 1152921504606846976 ∧ 1152921504606846976 < n) := by unfold cap imin; split <;> omega
theorem cap_mul {n m : Int} (hn : 0 ≤ n) (hm : 0 ≤ m) : cap (n * cap m) = cap (n * m) := by
  rcases cap_cases m with ⟨e, _⟩ | ⟨e, h⟩
  · rw [e]
  · rw [e]
    rcases Int.lt_or_eq_of_le hn with q | q
    · have h1 : 1152921504606846976 ≤ n * 1152921504606846976 := by omega
      have h2 : m ≤ n * m := by
        have := Int.mul_le_mul_of_nonneg_right (show 1 ≤ n by omega) hm; omega
      have a : cap (n * 1152921504606846976) = 1152921504606846976 := by unfold cap imin; split <;> omega
      have b : cap (n * m) = 1152921504606846976 := by unfold cap imin; split <;> omega
      rw [a, b]
    · rw [← q]; simp

section
variable {k : Int} {a b c : El}
/-- The sum of valid elements, if it is small. -/
theorem add_len (ha : vld k a = true) (hb : vld k b = true) : (addE k a b).S.length ≤ a.S.length + b.S.length := by
  have hk := kinds ha
  rcases hk with rfl | rfl | rfl | rfl | rfl | rfl | rfl | rfl
  · obtain ⟨n, rfl, _⟩ := numE ha (by omega); obtain ⟨m, rfl, _⟩ := numE hb (by omega); simp [addE0]
  · obtain ⟨n, rfl, _⟩ := numE ha (by omega); obtain ⟨m, rfl, _⟩ := numE hb (by omega); simp [addE1]
  · obtain ⟨n, rfl, _⟩ := numE ha (by omega); obtain ⟨m, rfl, _⟩ := numE hb (by omega); simp [addE2]
  · obtain ⟨n, rfl, _⟩ := numE ha (by omega); obtain ⟨m, rfl, _⟩ := numE hb (by omega); simp [addE3]
  · obtain ⟨n, n', rfl, _⟩ := trustE ha; obtain ⟨m, m', rfl, _⟩ := trustE hb; simp [addE4]
  · obtain ⟨l, rfl, h1, h2, h3, _⟩ := setE ha (by omega); obtain ⟨l', rfl, h1', h2', h3', _⟩ := setE hb (by omega)
    rw [addE5]
    have := length_nrm_le (lt := slt) (l ++ l'); rwa [List.length_append] at this
  · obtain ⟨l, rfl, h1, h2, h3, h4, _⟩ := setE ha (by omega); obtain ⟨l', rfl, h1', h2', h3', h4', _⟩ := setE hb (by omega)
    rcases len1 (h4 rfl) with rfl | ⟨x, rfl⟩
    · rw [addE6l]; simp
    · rcases len1 (h4' rfl) with rfl | ⟨y, rfl⟩
      · rw [addE6r (h4 rfl) _ rfl ⟨rfl, rfl⟩]; simp
      · rw [addE6]; simp
  · obtain ⟨l, rfl, h1, h2, h3, _⟩ := setE ha (by omega); obtain ⟨l', rfl, h1', h2', h3', _⟩ := setE hb (by omega)
    rw [addE7]
    have := length_minF_le (a := nrm slt (l ++ l')); have h9 := length_nrm_le (lt := slt) (l ++ l'); rw [List.length_append] at h9
    simp only; omega
theorem add_vld (ha : vld k a = true) (hb : vld k b = true) (hs : (addE k a b).S.length ≤ 512) : vld k (addE k a b) = true := by
  have hk := kinds ha
  rcases hk with rfl | rfl | rfl | rfl | rfl | rfl | rfl | rfl
  · obtain ⟨n, rfl, h1, h2⟩ := numE ha (by omega); obtain ⟨m, rfl, h3, h4⟩ := numE hb (by omega)
    rw [addE0]; refine numV (by omega) (by omega) ?_ ?_ <;> (unfold imax; split <;> omega)
  · obtain ⟨n, rfl, h1, h2⟩ := numE ha (by omega); obtain ⟨m, rfl, h3, h4⟩ := numE hb (by omega)
    have e : lim 1 = 1152921504606846976 := rfl
    rw [addE1]; refine numV (by omega) (by omega) ?_ ?_ <;> (unfold imin; split <;> omega)
  · obtain ⟨n, rfl, h1, h2⟩ := numE ha (by omega); obtain ⟨m, rfl, h3, h4⟩ := numE hb (by omega)
    rw [addE2]; refine numV (by omega) (by omega) ?_ ?_ <;> (unfold imin; split <;> omega)
  · obtain ⟨n, rfl, h1, h2⟩ := numE ha (by omega); obtain ⟨m, rfl, h3, h4⟩ := numE hb (by omega)
    rw [addE3]; refine numV (by omega) (by omega) ?_ ?_ <;> (unfold imin; split <;> omega)
  · obtain ⟨n, n', rfl, h1, h2, h3⟩ := trustE ha; obtain ⟨m, m', rfl, h4, h5, h6⟩ := trustE hb
    rw [addE4]; refine trustV ?_ ?_ ?_ <;> (unfold imax; (try split) <;> (try split) <;> omega)
  · obtain ⟨l, rfl, h1, h2, h3, _⟩ := setE ha (by omega); obtain ⟨l', rfl, h1', h2', h3', _⟩ := setE hb (by omega)
    rw [addE5] at hs ⊢
    exact setV (by omega) (by omega) hs (nrm_isFam (h2.sets.app h2'.sets)) (rok_mem (rok_app h3 h3') fun s hs => (mem_nrm _ _).1 hs) (by omega) (by omega)
  · obtain ⟨l, rfl, h1, h2, h3, h4, _⟩ := setE ha (by omega); obtain ⟨l', rfl, h1', h2', h3', h4', _⟩ := setE hb (by omega)
    rcases len1 (h4 rfl) with rfl | ⟨x, rfl⟩
    · rw [addE6l]; exact hb
    · rcases len1 (h4' rfl) with rfl | ⟨y, rfl⟩
      · rw [addE6r (h4 rfl) _ rfl ⟨rfl, rfl⟩]; exact ha
      · rw [addE6, ← prod_sing]
        exact setV (by omega) (by omega) (by rw [prod_sing]; simp) (prod_isFam _ _) (rok_prod h3 h3') (fun _ => by rw [prod_sing]; simp) (by omega)
  · obtain ⟨l, rfl, h1, h2, h3, _⟩ := setE ha (by omega); obtain ⟨l', rfl, h1', h2', h3', _⟩ := setE hb (by omega)
    rw [addE7] at hs ⊢
    have hS := nrm_isFam (h2.sets.app h2'.sets)
    exact setV (by omega) (by omega) hs (minF_isFam hS.1) (rok_mem (rok_app h3 h3') fun s hs => (mem_nrm _ _).1 (minF_sub hS.1 hs)) (by omega) (fun _ => minF_minF hS.1)
theorem mul_len (ha : vld k a = true) (hb : vld k b = true) : (mulE k a b).S.length ≤ a.S.length * b.S.length := by
  have hk := kinds ha
  rcases hk with rfl | rfl | rfl | rfl | rfl | rfl | rfl | rfl
  · obtain ⟨n, rfl, _⟩ := numE ha (by omega); obtain ⟨m, rfl, _⟩ := numE hb (by omega); simp [mulE0]
  · obtain ⟨n, rfl, h1, _⟩ := numE ha (by omega); obtain ⟨m, rfl, h2, _⟩ := numE hb (by omega); simp [mulE1 h1 h2]
  · obtain ⟨n, rfl, _⟩ := numE ha (by omega); obtain ⟨m, rfl, _⟩ := numE hb (by omega); simp [mulE2]
  · obtain ⟨n, rfl, _⟩ := numE ha (by omega); obtain ⟨m, rfl, _⟩ := numE hb (by omega); simp [mulE3]
  · obtain ⟨n, n', rfl, _⟩ := trustE ha; obtain ⟨m, m', rfl, _⟩ := trustE hb; simp [mulE4]
  · obtain ⟨l, rfl, _⟩ := setE ha (by omega); obtain ⟨l', rfl, _⟩ := setE hb (by omega)
    rw [mulE5]; exact length_prod_le l l'
  · obtain ⟨l, rfl, _⟩ := setE ha (by omega); obtain ⟨l', rfl, _⟩ := setE hb (by omega)
    rw [mulE6]; exact length_prod_le l l'
  · obtain ⟨l, rfl, _⟩ := setE ha (by omega); obtain ⟨l', rfl, _⟩ := setE hb (by omega)
    rw [mulE7]; exact Nat.le_trans length_minF_le (length_prod_le l l')
theorem mul_vld (ha : vld k a = true) (hb : vld k b = true) (hs : (mulE k a b).S.length ≤ 512) : vld k (mulE k a b) = true := by
  have hk := kinds ha
  rcases hk with rfl | rfl | rfl | rfl | rfl | rfl | rfl | rfl
  · obtain ⟨n, rfl, h1, h2⟩ := numE ha (by omega); obtain ⟨m, rfl, h3, h4⟩ := numE hb (by omega)
    rw [mulE0]; refine numV (by omega) (by omega) ?_ ?_ <;> (unfold imin; split <;> omega)
  · obtain ⟨n, rfl, h1, h2⟩ := numE ha (by omega); obtain ⟨m, rfl, h3, h4⟩ := numE hb (by omega)
    rw [mulE1 h1 h3]; exact numV (by omega) (by omega) (cap_nonneg (Int.mul_nonneg h1 h3)) (cap_le _)
  · obtain ⟨n, rfl, h1, h2⟩ := numE ha (by omega); obtain ⟨m, rfl, h3, h4⟩ := numE hb (by omega)
    have e : lim 2 = 1099511627776 := rfl
    rw [mulE2]; refine numV (by omega) (by omega) ?_ ?_ <;> (unfold imin; split <;> omega)
  · obtain ⟨n, rfl, h1, h2⟩ := numE ha (by omega); obtain ⟨m, rfl, h3, h4⟩ := numE hb (by omega)
    rw [mulE3]; refine numV (by omega) (by omega) ?_ ?_ <;> (unfold imax; split <;> omega)
  · obtain ⟨n, n', rfl, h1, h2, h3⟩ := trustE ha; obtain ⟨m, m', rfl, h4, h5, h6⟩ := trustE hb
    rw [mulE4]; refine trustV ?_ ?_ ?_ <;> (unfold imin; (try split) <;> (try split) <;> omega)
  · obtain ⟨l, rfl, h1, h2, h3, _⟩ := setE ha (by omega); obtain ⟨l', rfl, h1', h2', h3', _⟩ := setE hb (by omega)
    rw [mulE5] at hs ⊢
    exact setV (by omega) (by omega) hs (prod_isFam _ _) (rok_prod h3 h3') (by omega) (by omega)
  · obtain ⟨l, rfl, h1, h2, h3, h4, _⟩ := setE ha (by omega); obtain ⟨l', rfl, h1', h2', h3', h4', _⟩ := setE hb (by omega)
    rw [mulE6] at hs ⊢
    refine setV (by omega) (by omega) hs (prod_isFam _ _) (rok_prod h3 h3') (fun _ => Nat.le_trans (length_prod_le _ _) (Nat.mul_le_mul (h4 rfl) (h4' rfl))) (by omega)
  · obtain ⟨l, rfl, h1, h2, h3, _⟩ := setE ha (by omega); obtain ⟨l', rfl, h1', h2', h3', _⟩ := setE hb (by omega)
    rw [mulE7] at hs ⊢
    exact setV (by omega) (by omega) hs (minF_isFam (prod_sets _ _)) (rok_mem (rok_prod h3 h3') fun s hs => minF_sub (prod_sets _ _) hs) (by omega) (fun _ => minF_minF (prod_sets _ _))
theorem add_comm' (ha : vld k a = true) (hb : vld k b = true) : addE k a b = addE k b a := by
  have hk := kinds ha
  rcases hk with rfl | rfl | rfl | rfl | rfl | rfl | rfl | rfl
  · obtain ⟨n, rfl, h1, h2⟩ := numE ha (by omega); obtain ⟨m, rfl, h3, h4⟩ := numE hb (by omega)
    rw [addE0, addE0]; congr 1; unfold imax; split <;> split <;> omega
  · obtain ⟨n, rfl, h1, h2⟩ := numE ha (by omega); obtain ⟨m, rfl, h3, h4⟩ := numE hb (by omega)
    rw [addE1, addE1, Int.add_comm]
  · obtain ⟨n, rfl, h1, h2⟩ := numE ha (by omega); obtain ⟨m, rfl, h3, h4⟩ := numE hb (by omega)
    rw [addE2, addE2]; congr 1; unfold imin; split <;> split <;> omega
  · obtain ⟨n, rfl, h1, h2⟩ := numE ha (by omega); obtain ⟨m, rfl, h3, h4⟩ := numE hb (by omega)
    rw [addE3, addE3]; congr 1; unfold imin; split <;> split <;> omega
  · obtain ⟨n, n', rfl, h1, h2, h3⟩ := trustE ha; obtain ⟨m, m', rfl, h4, h5, h6⟩ := trustE hb
    rw [addE4, addE4]; congr 1 <;> (unfold imax; split <;> split <;> omega)
  · obtain ⟨l, rfl, h1, h2, h3, _⟩ := setE ha (by omega); obtain ⟨l', rfl, h1', h2', h3', _⟩ := setE hb (by omega)
    rw [addE5, addE5]; congr 1; exact nrm_congr slt_sto fun s => by simp [or_comm]
  · obtain ⟨l, rfl, h1, h2, h3, h4, _⟩ := setE ha (by omega); obtain ⟨l', rfl, h1', h2', h3', h4', _⟩ := setE hb (by omega)
    rcases len1 (h4 rfl) with rfl | ⟨x, rfl⟩
    · rw [addE6l, addE6r (h4' rfl) _ rfl ⟨rfl, rfl⟩]
    · rcases len1 (h4' rfl) with rfl | ⟨y, rfl⟩
      · rw [addE6l, addE6r (h4 rfl) _ rfl ⟨rfl, rfl⟩]
      · rw [addE6, addE6, un_comm]
  · obtain ⟨l, rfl, h1, h2, h3, _⟩ := setE ha (by omega); obtain ⟨l', rfl, h1', h2', h3', _⟩ := setE hb (by omega)
    rw [addE7, addE7]; congr 1
    exact minF_eq (nrm_isFam (h2.sets.app h2'.sets)).1 (nrm_isFam (h2'.sets.app h2.sets)).1 fun s => by rw [up_nrm, up_nrm, up_app, up_app, or_comm]
theorem add_assoc' (ha : vld k a = true) (hb : vld k b = true) (hc : vld k c = true) : addE k (addE k a b) c = addE k a (addE k b c) := by
  have hk := kinds ha
  rcases hk with rfl | rfl | rfl | rfl | rfl | rfl | rfl | rfl
  · obtain ⟨n, rfl, h1, h2⟩ := numE ha (by omega); obtain ⟨m, rfl, h3, h4⟩ := numE hb (by omega); obtain ⟨p, rfl, h5, h6⟩ := numE hc (by omega)
    rw [addE0, addE0, addE0, addE0]; congr 1; unfold imax; (repeat' split) <;> omega
  · obtain ⟨n, rfl, h1, h2⟩ := numE ha (by omega); obtain ⟨m, rfl, h3, h4⟩ := numE hb (by omega); obtain ⟨p, rfl, h5, h6⟩ := numE hc (by omega)
    rw [addE1, addE1, addE1, addE1]; congr 1; unfold imin; (repeat' split) <;> omega
  · obtain ⟨n, rfl, h1, h2⟩ := numE ha (by omega); obtain ⟨m, rfl, h3, h4⟩ := numE hb (by omega); obtain ⟨p, rfl, h5, h6⟩ := numE hc (by omega)
    rw [addE2, addE2, addE2, addE2]; congr 1; unfold imin; (repeat' split) <;> omega
  · obtain ⟨n, rfl, h1, h2⟩ := numE ha (by omega); obtain ⟨m, rfl, h3, h4⟩ := numE hb (by omega); obtain ⟨p, rfl, h5, h6⟩ := numE hc (by omega)
    rw [addE3, addE3, addE3, addE3]; congr 1; unfold imin; (repeat' split) <;> omega
  · obtain ⟨n, n', rfl, h1, h2, h3⟩ := trustE ha; obtain ⟨m, m', rfl, h4, h5, h6⟩ := trustE hb; obtain ⟨p, p', rfl, h7, h8, h9⟩ := trustE hc
    rw [addE4, addE4, addE4, addE4]; congr 1 <;> (unfold imax; (repeat' split) <;> omega)
  · obtain ⟨l, rfl, h1, h2, h3, _⟩ := setE ha (by omega); obtain ⟨l', rfl, h1', h2', h3', _⟩ := setE hb (by omega); obtain ⟨q, rfl, g1, g2, g3, _⟩ := setE hc (by omega)
    rw [addE5, addE5, addE5, addE5]; congr 1; exact nrm_congr slt_sto fun s => by simp [mem_nrm, or_assoc]
  · obtain ⟨l, rfl, h1, h2, h3, h4, _⟩ := setE ha (by omega); obtain ⟨l', rfl, h1', h2', h3', h4', _⟩ := setE hb (by omega); obtain ⟨q, rfl, g1, g2, g3, g4, _⟩ := setE hc (by omega)
    rcases len1 (h4 rfl) with rfl | ⟨x, rfl⟩
    · rw [addE6l, addE6l]
    · rcases len1 (h4' rfl) with rfl | ⟨y, rfl⟩
      · rw [addE6l, addE6r (h4 rfl) _ rfl ⟨rfl, rfl⟩]
      · rcases len1 (g4 rfl) with rfl | ⟨z, rfl⟩
        · rw [addE6, addE6r (h4' rfl) _ rfl ⟨rfl, rfl⟩, addE6r (by simp) _ rfl ⟨rfl, rfl⟩, addE6]
        · rw [addE6, addE6, addE6, addE6, un_assoc]
  · obtain ⟨l, rfl, h1, h2, h3, _⟩ := setE ha (by omega); obtain ⟨l', rfl, h1', h2', h3', _⟩ := setE hb (by omega); obtain ⟨q, rfl, g1, g2, g3, _⟩ := setE hc (by omega)
    rw [addE7, addE7, addE7, addE7]; congr 1
    have s1 := (nrm_isFam (h2.sets.app h2'.sets)).1
    have s2 := (nrm_isFam (h2'.sets.app g2.sets)).1
    refine minF_eq (nrm_isFam ((minF_sets s1).app g2.sets)).1 (nrm_isFam (h2.sets.app (minF_sets s2))).1 fun s => ?_
    rw [up_nrm, up_nrm, up_app, up_app, up_minF s1, up_minF s2, up_nrm, up_nrm, up_app, up_app, or_assoc]
theorem mul_comm' (ha : vld k a = true) (hb : vld k b = true) : mulE k a b = mulE k b a := by
  have hk := kinds ha
  rcases hk with rfl | rfl | rfl | rfl | rfl | rfl | rfl | rfl
  · obtain ⟨n, rfl, h1, h2⟩ := numE ha (by omega); obtain ⟨m, rfl, h3, h4⟩ := numE hb (by omega)
    rw [mulE0, mulE0]; congr 1; unfold imin; split <;> split <;> omega
  · obtain ⟨n, rfl, h1, h2⟩ := numE ha (by omega); obtain ⟨m, rfl, h3, h4⟩ := numE hb (by omega)
    rw [mulE1 h1 h3, mulE1 h3 h1, Int.mul_comm]
  · obtain ⟨n, rfl, h1, h2⟩ := numE ha (by omega); obtain ⟨m, rfl, h3, h4⟩ := numE hb (by omega)
    rw [mulE2, mulE2, Int.add_comm]
  · obtain ⟨n, rfl, h1, h2⟩ := numE ha (by omega); obtain ⟨m, rfl, h3, h4⟩ := numE hb (by omega)
    rw [mulE3, mulE3]; congr 1; unfold imax; split <;> split <;> omega
  · obtain ⟨n, n', rfl, h1, h2, h3⟩ := trustE ha; obtain ⟨m, m', rfl, h4, h5, h6⟩ := trustE hb
    rw [mulE4, mulE4]; congr 1 <;> (unfold imin; split <;> split <;> omega)
  · obtain ⟨l, rfl, _⟩ := setE ha (by omega); obtain ⟨l', rfl, _⟩ := setE hb (by omega); rw [mulE5, mulE5, prod_comm]
  · obtain ⟨l, rfl, _⟩ := setE ha (by omega); obtain ⟨l', rfl, _⟩ := setE hb (by omega); rw [mulE6, mulE6, prod_comm]
  · obtain ⟨l, rfl, _⟩ := setE ha (by omega); obtain ⟨l', rfl, _⟩ := setE hb (by omega); rw [mulE7, mulE7, prod_comm]
theorem mul_assoc' (ha : vld k a = true) (hb : vld k b = true) (hc : vld k c = true) : mulE k (mulE k a b) c = mulE k a (mulE k b c) := by
  have hk := kinds ha
  rcases hk with rfl | rfl | rfl | rfl | rfl | rfl | rfl | rfl
  · obtain ⟨n, rfl, h1, h2⟩ := numE ha (by omega); obtain ⟨m, rfl, h3, h4⟩ := numE hb (by omega); obtain ⟨p, rfl, h5, h6⟩ := numE hc (by omega)
    rw [mulE0, mulE0, mulE0, mulE0]; congr 1; unfold imin; (repeat' split) <;> omega
  · obtain ⟨n, rfl, h1, h2⟩ := numE ha (by omega); obtain ⟨m, rfl, h3, h4⟩ := numE hb (by omega); obtain ⟨p, rfl, h5, h6⟩ := numE hc (by omega)
    rw [mulE1 h1 h3, mulE1 h3 h5, mulE1 (cap_nonneg (Int.mul_nonneg h1 h3)) h5, mulE1 h1 (cap_nonneg (Int.mul_nonneg h3 h5))]
    rw [Int.mul_comm (cap _) p, cap_mul h5 (Int.mul_nonneg h1 h3), cap_mul h1 (Int.mul_nonneg h3 h5), Int.mul_comm p, Int.mul_assoc]
  · obtain ⟨n, rfl, h1, h2⟩ := numE ha (by omega); obtain ⟨m, rfl, h3, h4⟩ := numE hb (by omega); obtain ⟨p, rfl, h5, h6⟩ := numE hc (by omega)
    rw [mulE2, mulE2, mulE2, mulE2]; congr 1; unfold imin; (repeat' split) <;> omega
  · obtain ⟨n, rfl, h1, h2⟩ := numE ha (by omega); obtain ⟨m, rfl, h3, h4⟩ := numE hb (by omega); obtain ⟨p, rfl, h5, h6⟩ := numE hc (by omega)
    rw [mulE3, mulE3, mulE3, mulE3]; congr 1; unfold imax; (repeat' split) <;> omega
  · obtain ⟨n, n', rfl, h1, h2, h3⟩ := trustE ha; obtain ⟨m, m', rfl, h4, h5, h6⟩ := trustE hb; obtain ⟨p, p', rfl, h7, h8, h9⟩ := trustE hc
    rw [mulE4, mulE4, mulE4, mulE4]; congr 1 <;> (unfold imin; (repeat' split) <;> omega)
  · obtain ⟨l, rfl, _⟩ := setE ha (by omega); obtain ⟨l', rfl, _⟩ := setE hb (by omega); obtain ⟨q, rfl, _⟩ := setE hc (by omega)
    rw [mulE5, mulE5, mulE5, mulE5, prod_assoc]
  · obtain ⟨l, rfl, _⟩ := setE ha (by omega); obtain ⟨l', rfl, _⟩ := setE hb (by omega); obtain ⟨q, rfl, _⟩ := setE hc (by omega)
    rw [mulE6, mulE6, mulE6, mulE6, prod_assoc]
  · obtain ⟨l, rfl, _⟩ := setE ha (by omega); obtain ⟨l', rfl, _⟩ := setE hb (by omega); obtain ⟨q, rfl, _⟩ := setE hc (by omega)
    rw [mulE7, mulE7, mulE7, mulE7]; congr 1
    refine minF_eq (prod_sets _ _) (prod_sets _ _) fun s => ?_
    rw [up_prod, up_prod, up_minF (prod_sets _ _), up_minF (prod_sets _ _), up_prod, up_prod, and_assoc]
theorem distr' (ha : vld k a = true) (hb : vld k b = true) (hc : vld k c = true) : mulE k a (addE k b c) = addE k (mulE k a b) (mulE k a c) := by
  have hk := kinds ha
  rcases hk with rfl | rfl | rfl | rfl | rfl | rfl | rfl | rfl
  · obtain ⟨n, rfl, h1, h2⟩ := numE ha (by omega); obtain ⟨m, rfl, h3, h4⟩ := numE hb (by omega); obtain ⟨p, rfl, h5, h6⟩ := numE hc (by omega)
    rw [addE0, mulE0, mulE0, mulE0, addE0]; congr 1; unfold imin imax; (repeat' split) <;> omega
  · obtain ⟨n, rfl, h1, h2⟩ := numE ha (by omega); obtain ⟨m, rfl, h3, h4⟩ := numE hb (by omega); obtain ⟨p, rfl, h5, h6⟩ := numE hc (by omega)
    rw [addE1, mulE1 h1 h3, mulE1 h1 h5, addE1, show imin (m + p) 1152921504606846976 = cap (m + p) from rfl, mulE1 h1 (cap_nonneg (by omega)), cap_mul h1 (by omega), Int.mul_add]
    congr 1
    have e1 := Int.mul_nonneg h1 h3; have e2 := Int.mul_nonneg h1 h5
    generalize n * m = u at *
    generalize n * p = v at *
    unfold cap imin; (repeat' split) <;> omega
  · obtain ⟨n, rfl, h1, h2⟩ := numE ha (by omega); obtain ⟨m, rfl, h3, h4⟩ := numE hb (by omega); obtain ⟨p, rfl, h5, h6⟩ := numE hc (by omega)
    rw [addE2, mulE2, mulE2, mulE2, addE2]; congr 1; unfold imin; (repeat' split) <;> omega
  · obtain ⟨n, rfl, h1, h2⟩ := numE ha (by omega); obtain ⟨m, rfl, h3, h4⟩ := numE hb (by omega); obtain ⟨p, rfl, h5, h6⟩ := numE hc (by omega)
    rw [addE3, mulE3, mulE3, mulE3, addE3]; congr 1; unfold imin imax; (repeat' split) <;> omega
  · obtain ⟨n, n', rfl, h1, h2, h3⟩ := trustE ha; obtain ⟨m, m', rfl, h4, h5, h6⟩ := trustE hb; obtain ⟨p, p', rfl, h7, h8, h9⟩ := trustE hc
    rw [addE4, mulE4, mulE4, mulE4, addE4]; congr 1 <;> (unfold imin imax; (repeat' split) <;> omega)
  · obtain ⟨l, rfl, _⟩ := setE ha (by omega); obtain ⟨l', rfl, _⟩ := setE hb (by omega); obtain ⟨q, rfl, _⟩ := setE hc (by omega)
    rw [addE5, mulE5, mulE5, mulE5, addE5, prod_app]
  · obtain ⟨l, rfl, h1, h2, h3, h4, _⟩ := setE ha (by omega); obtain ⟨l', rfl, h1', h2', h3', h4', _⟩ := setE hb (by omega); obtain ⟨q, rfl, g1, g2, g3, g4, _⟩ := setE hc (by omega)
    rcases len1 (h4 rfl) with rfl | ⟨x, rfl⟩
    · have hz : ∀ e : El, e.N = 0 → e.M = 0 → mulE 6 ⟨0, 0, []⟩ e = ⟨0, 0, []⟩ := fun e h1 h2 => by
        obtain ⟨N, M, S⟩ := e; simp only at h1 h2; subst h1; subst h2; rw [mulE6, nil_prod]
      rw [mulE6, mulE6, nil_prod, nil_prod, addE6l]
      rcases len1 (h4' rfl) with rfl | ⟨y, rfl⟩
      · rw [addE6l, mulE6, nil_prod]
      · rcases len1 (g4 rfl) with rfl | ⟨z, rfl⟩
        · rw [addE6r (h4' rfl) _ rfl ⟨rfl, rfl⟩, mulE6, nil_prod]
        · rw [addE6, mulE6, nil_prod]
    · rcases len1 (h4' rfl) with rfl | ⟨y, rfl⟩
      · rw [addE6l, mulE6, mulE6, prod_nil, addE6l]
      · rcases len1 (g4 rfl) with rfl | ⟨z, rfl⟩
        · rw [addE6r (h4' rfl) _ rfl ⟨rfl, rfl⟩, mulE6, mulE6, prod_nil, prod_sing, addE6r (by simp) _ rfl ⟨rfl, rfl⟩]
        · rw [addE6, mulE6, mulE6, mulE6, prod_sing, prod_sing, prod_sing, addE6]
          congr 2
          exact set_ext (set_un _ _) (set_un _ _) fun e => by
            simp only [mem_un]
            constructor
            · rintro (q | q | q) <;> simp [q]
            · rintro ((q | q) | (q | q)) <;> simp [q]
  · obtain ⟨l, rfl, h1, h2, h3, _⟩ := setE ha (by omega); obtain ⟨l', rfl, h1', h2', h3', _⟩ := setE hb (by omega); obtain ⟨q, rfl, g1, g2, g3, _⟩ := setE hc (by omega)
    rw [addE7, mulE7, mulE7, mulE7, addE7]; congr 1
    have s2 := (nrm_isFam (h2'.sets.app g2.sets)).1
    refine minF_eq (prod_sets _ _) (nrm_isFam ((minF_sets (prod_sets _ _)).app (minF_sets (prod_sets _ _)))).1 fun s => ?_
    rw [up_prod, up_minF s2, up_nrm, up_nrm, up_app, up_app, up_minF (prod_sets _ _), up_minF (prod_sets _ _), up_prod, up_prod]
    constructor
    · rintro ⟨h, q | q⟩ <;> simp [h, q]
    · rintro (⟨h, q⟩ | ⟨h, q⟩) <;> simp [h, q]
theorem zero_vld (h : known k = true) : vld k (zeroE k) = true := by
  unfold known at h
  rw [Bool.and_eq_true, decide_eq_true_eq, decide_eq_true_eq] at h
  have hk : k = 0 ∨ k = 1 ∨ k = 2 ∨ k = 3 ∨ k = 4 ∨ k = 5 ∨ k = 6 ∨ k = 7 := by omega
  rcases hk with rfl | rfl | rfl | rfl | rfl | rfl | rfl | rfl <;> decide
theorem one_vld (h : known k = true) : vld k (oneEl k) = true := by
  unfold known at h
  rw [Bool.and_eq_true, decide_eq_true_eq, decide_eq_true_eq] at h
  have hk : k = 0 ∨ k = 1 ∨ k = 2 ∨ k = 3 ∨ k = 4 ∨ k = 5 ∨ k = 6 ∨ k = 7 := by omega
  rcases hk with rfl | rfl | rfl | rfl | rfl | rfl | rfl | rfl <;> decide
theorem zero_ne_one (h : known k = true) : zeroE k ≠ oneEl k := by
  unfold known at h
  rw [Bool.and_eq_true, decide_eq_true_eq, decide_eq_true_eq] at h
  have hk : k = 0 ∨ k = 1 ∨ k = 2 ∨ k = 3 ∨ k = 4 ∨ k = 5 ∨ k = 6 ∨ k = 7 := by omega
  rcases hk with rfl | rfl | rfl | rfl | rfl | rfl | rfl | rfl <;> decide
theorem zero_len (k : Int) : (zeroE k).S.length = 0 := by unfold zeroE; split <;> rfl
theorem one_len (k : Int) : (oneEl k).S.length ≤ 1 := by unfold oneEl; (repeat' split) <;> simp
theorem add_zero' (ha : vld k a = true) : addE k a (zeroE k) = a := by
  have hk := kinds ha
  rcases hk with rfl | rfl | rfl | rfl | rfl | rfl | rfl | rfl
  · obtain ⟨n, rfl, h1, h2⟩ := numE ha (by omega)
    show addE 0 _ ⟨0, 0, []⟩ = _; rw [addE0]; congr 1; unfold imax; split <;> omega
  · obtain ⟨n, rfl, h1, h2⟩ := numE ha (by omega)
    have e : lim 1 = 1152921504606846976 := rfl
    show addE 1 _ ⟨0, 0, []⟩ = _; rw [addE1]; congr 1; unfold imin; split <;> omega
  · obtain ⟨n, rfl, h1, h2⟩ := numE ha (by omega)
    show addE 2 _ ⟨lim 2, 0, []⟩ = _; rw [addE2]; congr 1; unfold imin; split <;> omega
  · obtain ⟨n, rfl, h1, h2⟩ := numE ha (by omega)
    show addE 3 _ ⟨lim 3, 0, []⟩ = _; rw [addE3]; congr 1; unfold imin; split <;> omega
  · obtain ⟨n, n', rfl, h1, h2, h3⟩ := trustE ha
    show addE 4 _ ⟨0, 0, []⟩ = _; rw [addE4]; congr 1 <;> (unfold imax; split <;> omega)
  · obtain ⟨l, rfl, h1, h2, h3, _⟩ := setE ha (by omega)
    show addE 5 _ ⟨0, 0, []⟩ = _; rw [addE5, List.append_nil, nrm_of_sorted slt_sto h2.2]
  · obtain ⟨l, rfl, h1, h2, h3, h4, _⟩ := setE ha (by omega)
    exact addE6r (h4 rfl) _ rfl ⟨rfl, rfl⟩
  · obtain ⟨l, rfl, h1, h2, h3, _, h5⟩ := setE ha (by omega)
    show addE 7 _ ⟨0, 0, []⟩ = _; rw [addE7, List.append_nil, nrm_of_sorted slt_sto h2.2, h5 rfl]
theorem mul_zero' (ha : vld k a = true) : mulE k a (zeroE k) = zeroE k := by
  have hk := kinds ha
  rcases hk with rfl | rfl | rfl | rfl | rfl | rfl | rfl | rfl
  · obtain ⟨n, rfl, h1, h2⟩ := numE ha (by omega)
    show mulE 0 _ ⟨0, 0, []⟩ = ⟨0, 0, []⟩; rw [mulE0]; congr 1; unfold imin; split <;> omega
  · obtain ⟨n, rfl, h1, h2⟩ := numE ha (by omega)
    show mulE 1 _ ⟨0, 0, []⟩ = ⟨0, 0, []⟩; rw [mulE1 h1 (by omega), Int.mul_zero]; rfl
  · obtain ⟨n, rfl, h1, h2⟩ := numE ha (by omega)
    show mulE 2 _ ⟨1099511627776, 0, []⟩ = ⟨1099511627776, 0, []⟩; rw [mulE2]; congr 1; unfold imin; split <;> omega
  · obtain ⟨n, rfl, h1, h2⟩ := numE ha (by omega)
    show mulE 3 _ ⟨lim 3, 0, []⟩ = ⟨lim 3, 0, []⟩; rw [mulE3]; congr 1; unfold imax; split <;> omega
  · obtain ⟨n, n', rfl, h1, h2, h3⟩ := trustE ha
    show mulE 4 _ ⟨0, 0, []⟩ = ⟨0, 0, []⟩; rw [mulE4]; congr 1 <;> (unfold imin; split <;> omega)
  · obtain ⟨l, rfl, _⟩ := setE ha (by omega)
    show mulE 5 _ ⟨0, 0, []⟩ = ⟨0, 0, []⟩; rw [mulE5, prod_nil]
  · obtain ⟨l, rfl, _⟩ := setE ha (by omega)
    show mulE 6 _ ⟨0, 0, []⟩ = ⟨0, 0, []⟩; rw [mulE6, prod_nil]
  · obtain ⟨l, rfl, _⟩ := setE ha (by omega)
    show mulE 7 _ ⟨0, 0, []⟩ = ⟨0, 0, []⟩; rw [mulE7, prod_nil]; rfl
theorem mul_one' (ha : vld k a = true) : mulE k a (oneEl k) = a := by
  have hk := kinds ha
  rcases hk with rfl | rfl | rfl | rfl | rfl | rfl | rfl | rfl
  · obtain ⟨n, rfl, h1, h2⟩ := numE ha (by omega)
    have e : lim 0 = 1 := rfl
    show mulE 0 _ ⟨1, 0, []⟩ = _; rw [mulE0]; congr 1; unfold imin; split <;> omega
  · obtain ⟨n, rfl, h1, h2⟩ := numE ha (by omega)
    have e : lim 1 = 1152921504606846976 := rfl
    show mulE 1 _ ⟨1, 0, []⟩ = _; rw [mulE1 h1 (by omega), Int.mul_one]; congr 1; unfold cap imin; split <;> omega
  · obtain ⟨n, rfl, h1, h2⟩ := numE ha (by omega)
    have e : lim 2 = 1099511627776 := rfl
    show mulE 2 _ ⟨0, 0, []⟩ = _; rw [mulE2]; congr 1; unfold imin; split <;> omega
  · obtain ⟨n, rfl, h1, h2⟩ := numE ha (by omega)
    show mulE 3 _ ⟨0, 0, []⟩ = _; rw [mulE3]; congr 1; unfold imax; split <;> omega
  · obtain ⟨n, n', rfl, h1, h2, h3⟩ := trustE ha
    show mulE 4 _ ⟨1000, 1000, []⟩ = _; rw [mulE4]; congr 1 <;> (unfold imin; split <;> omega)
  · obtain ⟨l, rfl, h1, h2, h3, _⟩ := setE ha (by omega)
    show mulE 5 _ ⟨0, 0, [[]]⟩ = _; rw [mulE5, prod_one h2]
  · obtain ⟨l, rfl, h1, h2, h3, _⟩ := setE ha (by omega)
    show mulE 6 _ ⟨0, 0, [[]]⟩ = _; rw [mulE6, prod_one h2]
  · obtain ⟨l, rfl, h1, h2, h3, _, h5⟩ := setE ha (by omega)
    show mulE 7 _ ⟨0, 0, [[]]⟩ = _; rw [mulE7, prod_one h2, h5 rfl]
end
end Sr
