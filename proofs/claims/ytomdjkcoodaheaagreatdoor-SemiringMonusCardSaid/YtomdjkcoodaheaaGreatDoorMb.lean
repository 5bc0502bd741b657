/-
  The operations on valid elements, one by one.
-/
import Derived.Test.YtomdjkcoodaheaaGreatDoorMa
import Derived.Test.YtomdjkcoodaheaaGreatDoorPd
set_option linter.unusedSectionVars false
set_option linter.unusedSimpArgs false
set_option linter.unusedVariables false
set_option maxRecDepth 10000
set_option maxHeartbeats 4000000
set_option linter.unusedVariables false
set_option linter.unusedSimpArgs false
set_option linter.unusedSectionVars false
namespace Go.Proofs.YtomdjkcoodaheaaGreatDoor
open Go Go.Vc Sr

/-- A valid element of at most n sets of at most m. -/
structure V (k : Int) (n m : Nat) (e : El) : Prop where
  v : vld k e = true
  n : e.S.length ≤ n
  m : ∀ s ∈ e.S, s.length ≤ m
theorem V.mono {k : Int} {n m n' m' : Nat} {e : El} (h : V k n m e) (hn : n ≤ n') (hm : m ≤ m') : V k n' m' e := ⟨h.v, Nat.le_trans h.n hn, fun s hs => Nat.le_trans (h.m s hs) hm⟩
theorem V.sy {k : Int} {n m : Nat} {e : El} (h : V k n m e) (hn : n ≤ 1000) (hm : m ≤ 200000) : Sy e.S := ⟨Nat.le_trans h.n hn, fun s hs => Nat.le_trans (h.m s hs) hm⟩
theorem V.of {k : Int} {e : El} (hf : few e = true) (hv : vld k e = true) : V k 6 6 e := ⟨hv, (few_bnd hf).1, (few_bnd hf).2⟩
section
variable {k : Int} {n m n' m' : Nat} {a b : El}
theorem out_ok {e : El} (ha : vld k a = true) (hb : vld k b = true) (h : e.S.length ≤ 512) : opOut k a b e = (e, 0) := by rw [opOut_yes ha hb, res_small h]
theorem vadd (ha : V k n m a) (hb : V k n' m' b) (hn : n + n' ≤ 512) (hm : m ≤ 200000 ∧ m' ≤ 200000) : ∃ x, x = addE k a b ∧ V k (n + n') (m + m') x ∧ ACalls cx 15 [dI k, dEl a, dEl b] fun d => d = dRes x 0 := by
  have hl : (addE k a b).S.length ≤ n + n' := Nat.le_trans (add_len ha.v hb.v) (Nat.add_le_add ha.n hb.n)
  have := f15 k a b (ha.sy (by omega) hm.1) (hb.sy (by omega) hm.2)
  rw [out_ok ha.v hb.v (Nat.le_trans hl hn)] at this
  exact ⟨_, rfl, ⟨add_vld ha.v hb.v (Nat.le_trans hl hn), hl, lens_add ha.m hb.m ha.v hb.v⟩, this⟩
theorem vmul (ha : V k n m a) (hb : V k n' m' b) (hn : n * n' ≤ 512) (hs : n ≤ 1000 ∧ n' ≤ 1000) (hm : m ≤ 200000 ∧ m' ≤ 200000) : ∃ x, x = mulE k a b ∧ V k (n * n') (m + m') x ∧ ACalls cx 16 [dI k, dEl a, dEl b] fun d => d = dRes x 0 := by
  have hl : (mulE k a b).S.length ≤ n * n' := Nat.le_trans (mul_len ha.v hb.v) (Nat.mul_le_mul ha.n hb.n)
  have := f16 k a b (ha.sy hs.1 hm.1) (hb.sy hs.2 hm.2)
  rw [out_ok ha.v hb.v (Nat.le_trans hl hn)] at this
  exact ⟨_, rfl, ⟨mul_vld ha.v hb.v (Nat.le_trans hl hn), hl, lens_mul ha.m hb.m ha.v hb.v⟩, this⟩
theorem vmon (ha : V k n m a) (hb : V k n' m' b) (hs : n ≤ 512 ∧ n' ≤ 512 ∧ m ≤ 200000 ∧ m' ≤ 200000) : ∃ x, x = monE k a b ∧ V k n m x ∧ ACalls cx 17 [dI k, dEl a, dEl b] fun d => d = dRes x 0 := by
  have hl : (monE k a b).S.length ≤ n := Nat.le_trans (mon_len ha.v hb.v) ha.n
  have := f17 k a b (ha.sy (by omega) hs.2.2.1) (hb.sy (by omega) hs.2.2.2)
  rw [out_ok ha.v hb.v (Nat.le_trans hl hs.1)] at this
  exact ⟨_, rfl, ⟨mon_vld ha.v hb.v, hl, lens_mon ha.m ha.v hb.v⟩, this⟩
theorem vzero (hk : known k = true) : ∃ x, x = zeroE k ∧ V k 0 0 x ∧ ACalls cx 23 [dI k] fun d => d = dEl x :=
  ⟨_, rfl, ⟨zero_vld hk, Nat.le_of_eq (zero_len k), fun s hs => by rw [List.eq_nil_of_length_eq_zero (zero_len k)] at hs; cases hs⟩, f23 k hk⟩
theorem one_lens (k : Int) : ∀ s ∈ (oneEl k).S, s.length ≤ 0 := by
  unfold oneEl
  (repeat' split) <;> simp
theorem vone (hk : known k = true) : ∃ x, x = oneEl k ∧ V k 1 0 x ∧ ACalls cx 25 [dI k] fun d => d = dEl x :=
  ⟨_, rfl, ⟨one_vld hk, one_len k, one_lens k⟩, f25 k hk⟩
theorem V.sz (h : V k n m a) (hn : n ≤ 1000) (hm : m ≤ 400000) : Sz a.S := ⟨Nat.le_trans h.n hn, fun s hs => Nat.le_trans (h.m s hs) hm⟩
theorem veq (ha : V k n m a) (hb : V k n' m' b) (hn : n ≤ 1000 ∧ n' ≤ 1000) (hm : m ≤ 400000 ∧ m' ≤ 400000) {q : Bool} (h : decide (a = b) = q) : ACalls cx 24 [dI k, dEl a, dEl b] fun d => d = dB q := by
  have := f24 k a b (ha.sz hn.1 hm.1) (hb.sz hn.2 hm.2)
  rwa [ha.v, hb.v, Bool.true_and, Bool.true_and, h] at this
theorem vleq (ha : V k n m a) (hb : V k n' m' b) (hn : n ≤ 1000 ∧ n' ≤ 1000) (hm : m ≤ 200000 ∧ m' ≤ 200000) {q : Bool} (h : leq k a b = q) : ACalls cx 27 [dI k, dEl a, dEl b] fun d => d = dB q := by
  have := f27 k a b (ha.sy hn.1 hm.1) (hb.sy hn.2 hm.2)
  rwa [h] at this
end
theorem elsRow3 {a b c : El} {f : Nat → Nat → D} (h : ∀ j, j < 3 → DLe (f 0 j) (cEl a j)) (h' : ∀ j, j < 3 → DLe (f 1 j) (cEl b j)) (h'' : ∀ j, j < 3 → DLe (f 2 j) (cEl c j)) : DLe (.slice 3 3 f) (dEls [a, b, c]) := slice_le (l' := [a, b, c]) rfl rfl fun i j hi hj => by
  rcases i with _ | _ | _ | i
  · exact h j hj
  · exact h' j hj
  · exact h'' j hj
  · omega
end Go.Proofs.YtomdjkcoodaheaaGreatDoor
