/-
  Plain: the natural order; monus is least.
-/
import Derived.Test.YtomdjkcoodaheaaGreatDoorMb
set_option linter.unusedSectionVars false
set_option linter.unusedSimpArgs false
set_option linter.unusedVariables false
set_option linter.unusedVariables false
set_option linter.unusedSimpArgs false
namespace Go.Proofs.YtomdjkcoodaheaaGreatDoor
open Go Go.Vc Sr
section
variable {k : Int} {a b c d : El}
theorem add_idem (hk : k ≠ 1) (ha : vld k a = true) : addE k a a = a := by
  have h := kinds ha
  rcases h with rfl | rfl | rfl | rfl | rfl | rfl | rfl | rfl
  · obtain ⟨n, rfl, h1, h2⟩ := numE ha (by omega); rw [addE0]; congr 1; unfold imax; split <;> omega
  · exact absurd rfl hk
  · obtain ⟨n, rfl, h1, h2⟩ := numE ha (by omega); rw [addE2]; congr 1; unfold imin; split <;> omega
  · obtain ⟨n, rfl, h1, h2⟩ := numE ha (by omega); rw [addE3]; congr 1; unfold imin; split <;> omega
  · obtain ⟨n, n', rfl, h1, h2, h3⟩ := trustE ha; rw [addE4]; congr 1 <;> (unfold imax; split <;> omega)
  · obtain ⟨l, rfl, h1, h2, h3, _⟩ := setE ha (by omega)
    rw [addE5]; congr 1
    exact fam_ext (sorted_nrm slt_sto _) h2.2 fun s => by rw [mem_nrm, List.mem_append, or_self]
  · obtain ⟨l, rfl, h1, h2, h3, h4, _⟩ := setE ha (by omega)
    rcases len1 (h4 rfl) with rfl | ⟨x, rfl⟩
    · rw [addE6l]
    · rw [addE6, un_self (h2.1 x (by simp))]
  · obtain ⟨l, rfl, h1, h2, h3, _, h5⟩ := setE ha (by omega)
    rw [addE7]
    rw [minF_eq (b := l) (nrm_isFam (h2.sets.app h2.sets)).1 h2.sets fun s => by rw [up_nrm, up_app, or_self], h5 rfl]
theorem leq_iff (ha : vld k a = true) (hb : vld k b = true) (hk : k ≠ 1) : leq k a b = true ↔ addE k a b = b := by
  unfold leq; rw [ha, hb, if_neg hk]; simp
theorem leq_one (ha : vld 1 a = true) (hb : vld 1 b = true) : leq 1 a b = true ↔ a.N ≤ b.N := by
  unfold leq; rw [ha, hb, if_pos rfl]; simp
theorem leq_refl (ha : vld k a = true) : leq k a a = true := by
  rcases Classical.em (k = 1) with rfl | hk
  · exact (leq_one ha ha).2 (Int.le_refl _)
  · exact (leq_iff ha ha hk).2 (add_idem hk ha)
theorem eq_one (ha : vld 1 a = true) (hb : vld 1 b = true) (h : a.N = b.N) : a = b := by
  obtain ⟨n, rfl, _⟩ := numE ha (by omega); obtain ⟨m, rfl, _⟩ := numE hb (by omega)
  simp only at h; rw [h]
theorem leq_antisymm (ha : vld k a = true) (hb : vld k b = true) (h : leq k a b = true) (h' : leq k b a = true) : a = b := by
  rcases Classical.em (k = 1) with rfl | hk
  · have := (leq_one ha hb).1 h; have := (leq_one hb ha).1 h'
    exact eq_one ha hb (by omega)
  · have e1 := (leq_iff ha hb hk).1 h; have e2 := (leq_iff hb ha hk).1 h'
    rw [add_comm' hb ha] at e2; rw [← e1, e2]
theorem leq_trans (ha : vld k a = true) (hb : vld k b = true) (hc : vld k c = true) (h : leq k a b = true) (h' : leq k b c = true) : leq k a c = true := by
  rcases Classical.em (k = 1) with rfl | hk
  · have := (leq_one ha hb).1 h; have := (leq_one hb hc).1 h'
    exact (leq_one ha hc).2 (by omega)
  · have e1 := (leq_iff ha hb hk).1 h; have e2 := (leq_iff hb hc hk).1 h'
    refine (leq_iff ha hc hk).2 ?_
    rw [← e2, ← add_assoc' ha hb hc, e1]
theorem leq_add (ha : vld k a = true) (hc : vld k c = true) (hv : vld k (addE k a c) = true) : leq k a (addE k a c) = true := by
  rcases Classical.em (k = 1) with rfl | hk
  · refine (leq_one ha hv).2 ?_
    obtain ⟨n, rfl, h1, h2⟩ := numE ha (by omega); obtain ⟨m, rfl, h3, h4⟩ := numE hc (by omega)
    have e : lim 1 = 1152921504606846976 := rfl
    rw [addE1]; show n ≤ imin _ _; unfold imin; split <;> omega
  · refine (leq_iff ha hv hk).2 ?_
    rw [← add_assoc' ha ha hc, add_idem hk ha]
theorem leq_zero (ha : vld k a = true) : leq k (zeroE k) a = true := by
  have hz := zero_vld (known_of ha)
  rcases Classical.em (k = 1) with rfl | hk
  · obtain ⟨n, rfl, h1, h2⟩ := numE ha (by omega)
    exact (leq_one hz ha).2 h1
  · exact (leq_iff hz ha hk).2 (by rw [add_comm' hz ha, add_zero' ha])
/-- The order by sums. -/
theorem leq_sums (ha : vld k a = true) (hb : vld k b = true) : leq k a b = decide (addE k a (monE k b a) = b) := by
  rw [Bool.eq_iff_iff, decide_eq_true_eq]
  rcases Classical.em (k = 1) with rfl | hk
  · rw [leq_one ha hb]
    obtain ⟨n, rfl, h1, h2⟩ := numE ha (by omega); obtain ⟨m, rfl, h3, h4⟩ := numE hb (by omega)
    have e : lim 1 = 1152921504606846976 := rfl
    rw [monE1, addE1]
    constructor
    · intro h; have h : n ≤ m := h
      congr 1; unfold imax imin; (repeat' split) <;> omega
    · intro h
      have h : imin (n + imax (m - n) 0) 1152921504606846976 = m := by injection h
      show n ≤ m
      unfold imax imin at h; (repeat' split at h) <;> omega
  · rw [leq_iff ha hb hk]
    constructor
    · intro h
      -- b ∸ a ≤ b: b + (a ∸ b) = a + (b ∸ a), and a ∸ b = 0
      have h0 : monE k a b = zeroE k := by
        rw [← h, mon_add ha ha hb, mon_self ha, zero_mon hb]
      rw [add_mon ha hb, h0, add_zero' hb]
    · intro h
      rw [← h, ← add_assoc' ha ha (mon_vld hb ha), add_idem hk ha]
theorem mon_above (ha : vld k a = true) (hb : vld k b = true) (hv : vld k (addE k b (monE k a b)) = true) : leq k a (addE k b (monE k a b)) = true := by
  rw [← add_mon ha hb] at hv ⊢
  exact leq_add ha (mon_vld hb ha) hv
theorem mon_least (ha : vld k a = true) (hb : vld k b = true) (hc : vld k c = true) (hv : vld k (addE k b c) = true) (h : leq k a (addE k b c) = true) : leq k (monE k a b) c = true := by
  have hm := mon_vld ha hb
  rcases Classical.em (k = 1) with rfl | hk
  · have h := (leq_one ha hv).1 h
    refine (leq_one hm hc).2 ?_
    obtain ⟨n, rfl, h1, h2⟩ := numE ha (by omega); obtain ⟨m, rfl, h3, h4⟩ := numE hb (by omega); obtain ⟨p, rfl, h5, h6⟩ := numE hc (by omega)
    rw [addE1] at h; rw [monE1]
    have h : n ≤ imin (m + p) 1152921504606846976 := h
    show imax (n - m) 0 ≤ p
    unfold imin at h; unfold imax; (repeat' split at h) <;> split <;> omega
  · have e := (leq_iff ha hv hk).1 h
    have h0 : monE k (monE k a b) c = zeroE k := by
      rw [← mon_add ha hb hc, ← e, mon_add ha ha hv, mon_self ha, zero_mon hv]
    -- (a ∸ b) + (c ∸ (a ∸ b)) = c + 0
    rw [leq_sums hm hc, decide_eq_true_eq, add_mon hm hc, h0, add_zero' hc]
theorem leq_add_mono (ha : vld k a = true) (hb : vld k b = true) (hc : vld k c = true) (h1 : vld k (addE k a c) = true) (h2 : vld k (addE k b c) = true) (h : leq k a b = true) : leq k (addE k a c) (addE k b c) = true := by
  rcases Classical.em (k = 1) with rfl | hk
  · have h := (leq_one ha hb).1 h
    refine (leq_one h1 h2).2 ?_
    obtain ⟨n, rfl, g1, g2⟩ := numE ha (by omega); obtain ⟨m, rfl, g3, g4⟩ := numE hb (by omega); obtain ⟨p, rfl, g5, g6⟩ := numE hc (by omega)
    rw [addE1, addE1]
    have h : n ≤ m := h
    show imin _ _ ≤ imin _ _
    unfold imin; split <;> split <;> omega
  · have e := (leq_iff ha hb hk).1 h
    refine (leq_iff h1 h2 hk).2 ?_
    -- (a + c) + (b + c) = (a + b) + c, by idempotence
    rw [add_comm' hb hc, ← add_assoc' h1 hc hb, add_assoc' ha hc hc, add_idem hk hc, add_assoc' ha hc hb, add_comm' hc hb, ← add_assoc' ha hb hc, e]
theorem leq_mul_mono (ha : vld k a = true) (hb : vld k b = true) (hc : vld k c = true) (h1 : vld k (mulE k a c) = true) (h2 : vld k (mulE k b c) = true) (h : leq k a b = true) : leq k (mulE k a c) (mulE k b c) = true := by
  rcases Classical.em (k = 1) with rfl | hk
  · have h := (leq_one ha hb).1 h
    refine (leq_one h1 h2).2 ?_
    obtain ⟨n, rfl, g1, g2⟩ := numE ha (by omega); obtain ⟨m, rfl, g3, g4⟩ := numE hb (by omega); obtain ⟨p, rfl, g5, g6⟩ := numE hc (by omega)
    rw [mulE1 g1 g5, mulE1 g3 g5]
    have h : n ≤ m := h
    have := Int.mul_le_mul_of_nonneg_right h g5
    show cap _ ≤ cap _
    generalize n * p = u at *; generalize m * p = v at *
    unfold cap imin; split <;> split <;> omega
  · have e := (leq_iff ha hb hk).1 h
    refine (leq_iff h1 h2 hk).2 ?_
    rw [mul_comm' ha hc, mul_comm' hb hc, ← distr' hc ha hb, e]
end
end Go.Proofs.YtomdjkcoodaheaaGreatDoor
