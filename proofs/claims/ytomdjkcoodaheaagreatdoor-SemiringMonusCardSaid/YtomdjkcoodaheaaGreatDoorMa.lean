/-
  The law SemiringOperations.
-/
import Derived.Test.YtomdjkcoodaheaaGreatDoorCp
set_option linter.unusedSectionVars false
set_option linter.unusedSimpArgs false
set_option linter.unusedVariables false
set_option maxRecDepth 10000
set_option maxHeartbeats 4000000
set_option linter.unusedVariables false
set_option linter.unusedSimpArgs false
set_option linter.unusedSectionVars false
namespace Go.Proofs.YtomdjkcoodaheaaGreatDoor
open Go Go.Vc Sr

theorem few_sy {e : El} (h : few e = true) : Sy e.S := by
  have := few_bnd h
  exact ⟨by have := this.1; omega, fun s hs => by have := this.2 s hs; omega⟩
theorem elsRow2 {a b : El} {f : Nat → Nat → D} (h : ∀ j, j < 3 → DLe (f 0 j) (cEl a j)) (h' : ∀ j, j < 3 → DLe (f 1 j) (cEl b j)) : DLe (.slice 3 2 f) (dEls [a, b]) := slice_le (l' := [a, b]) rfl rfl fun i j hi hj => by
  rcases i with _ | _ | i
  · exact h j hj
  · exact h' j hj
  · omega
theorem three {P : Nat → Prop} (h0 : P 0) (h1 : P 1) (h2 : P 2) : ∀ j, j < 3 → P j := fun j hj => by
  rcases j with _ | _ | _ | j
  · exact h0
  · exact h1
  · exact h2
  · omega
theorem out_bnd {k : Int} {a b e : El} (h : vld k a = true → vld k b = true → Bnd 1000000 e.S) : Bnd 1000000 (opOut k a b e).1.S := by
  have h0 : ∀ {n m : Int}, Bnd 1000000 (⟨n, m, []⟩ : El).S := ⟨Nat.zero_le _, fun s hs => by cases hs⟩
  by_cases hv : vld k a = true ∧ vld k b = true
  · rw [opOut_yes hv.1 hv.2, res]
    split
    · exact h0
    · exact h hv.1 hv.2
  · rw [opOut_no hv]; exact h0
theorem add_bnd {k : Int} {a b : El} {n m : Nat} (ha : Bnd n a.S) (hb : Bnd m b.S) (hnm : n + m ≤ 1000000) : Bnd 1000000 (opOut k a b (addE k a b)).1.S :=
  out_bnd fun va vb => ⟨Nat.le_trans (add_len va vb) (by have := ha.1; have := hb.1; omega), fun s hs => Nat.le_trans (lens_add ha.2 hb.2 va vb s hs) hnm⟩
theorem mul_bnd {k : Int} {a b : El} {n m : Nat} (ha : Bnd n a.S) (hb : Bnd m b.S) (hnm : n + m ≤ 1000000) (hm : n * m ≤ 1000000) : Bnd 1000000 (opOut k a b (mulE k a b)).1.S :=
  out_bnd fun va vb => ⟨Nat.le_trans (mul_len va vb) (Nat.le_trans (Nat.mul_le_mul ha.1 hb.1) hm), fun s hs => Nat.le_trans (lens_mul ha.2 hb.2 va vb s hs) hnm⟩
theorem mon_len {k : Int} {a b : El} (va : vld k a = true) (vb : vld k b = true) : (monE k a b).S.length ≤ a.S.length := by
  have hk := kinds va
  rcases hk with rfl | rfl | rfl | rfl | rfl | rfl | rfl | rfl
  · simp [monE]
  · simp [monE]
  · simp only [monE]; rw [if_neg (by decide), if_pos (by decide)]
    split
    · exact Nat.le_refl _
    · simp [zeroE]
  · simp only [monE]; rw [if_neg (by decide), if_pos (by decide)]
    split
    · exact Nat.le_refl _
    · simp [zeroE]
  · simp [monE]
  · rw [← mon5 va]; exact List.length_filter_le _ _
  · rw [← mon6 va vb]
    split
    · exact Nat.le_refl _
    · split
      · simp
      · simp; omega
  · rw [← mon7 va]; exact List.length_filter_le _ _
theorem mon_bnd {k : Int} {a b : El} {n : Nat} (ha : Bnd n a.S) (hnm : n ≤ 1000000) : Bnd 1000000 (opOut k a b (monE k a b)).1.S :=
  out_bnd fun va vb => ⟨Nat.le_trans (mon_len va vb) (Nat.le_trans ha.1 hnm), fun s hs => Nat.le_trans (lens_mon ha.2 va vb s hs) hnm⟩
theorem f3 (k : Int) (a b : El) (ha : a.S.length ≤ 4611686018427387904) (hb : b.S.length ≤ 4611686018427387904) : ACalls cx 3 [dI k, dEl a, dEl b] fun d => d = dB true := by
  refine ACalls.eq (ACalls.of_vc (H := { own := [7, 9, 11, 13, 15, 17], cut := [5, 6, 7, 8, 9, 10] }) cxOk Tryz.func3 (by kernel_rfl) rfl (show _ = 96 from rfl) (by kernel_rfl) rfl ?_)
  conv => whnf
  refine (f13).use trivial ?_
  rintro _ rfl
  conv => whnf
  refine (f14 [a, b] (by simp) (by simp [ha, hb])).use ⟨elsRow2 (three (DLe.refl _) (DLe.refl _) (DLe.refl _)) (three (DLe.refl _) (DLe.refl _) (DLe.refl _)), trivial⟩ ?_
  rintro _ rfl
  conv => whnf
  refine ifB.not (ifB.intro (fun h => ?_) (fun h => ?_))
  · conv => whnf
    have hfa : few a = true := by simp at h; exact h.1
    have hfb : few b = true := by simp at h; exact h.2
    have sa := few_sy hfa
    have sb := few_sy hfb
    have ba := (few_bnd hfa).mono (show 6 ≤ 700 by decide)
    have bb := (few_bnd hfb).mono (show 6 ≤ 700 by decide)
    have c15 := f15 k a b sa sb
    have c16 := f16 k a b sa sb
    have c17 := f17 k a b sa sb
    have c18 := f18 k a b ba bb
    have c19 := f19 k a b ba bb
    have c20 := f20 k a b ba bb
    have b1 : Bnd 1000000 (opOut k a b (addE k a b)).1.S := add_bnd (few_bnd hfa) (few_bnd hfb) (by decide)
    have b2 : Bnd 1000000 (opOut k a b (mulE k a b)).1.S := mul_bnd (few_bnd hfa) (few_bnd hfb) (by decide) (by decide)
    have b3 : Bnd 1000000 (opOut k a b (monE k a b)).1.S := mon_bnd (few_bnd hfa) (by decide)
    generalize opOut k a b (addE k a b) = p1 at *
    generalize opOut k a b (mulE k a b) = p2 at *
    generalize opOut k a b (monE k a b) = p3 at *
    obtain ⟨e1, n1⟩ := p1
    obtain ⟨e2, n2⟩ := p2
    obtain ⟨e3, n3⟩ := p3
    have same : ∀ e : El, Bnd 1000000 e.S → ACalls cx 21 [dEl e, dEl e] fun d => d = dB true := fun e he => by
      have := f21 e e he he
      rwa [decide_eq_true rfl] at this
    refine (c15).use ⟨DLe.refl _, agg3 (DLe.refl _) (DLe.refl _) (DLe.refl _), agg3 (DLe.refl _) (DLe.refl _) (DLe.refl _), trivial⟩ ?_
    rintro _ rfl
    conv => whnf
    refine VCut.tell (N := 96) rfl [(4, .im (.ptr 3 (cEl a))), (5, .im (.ptr 3 (cEl b))), (0, .im (dI k)), (8, .im (dI n1)), (7, .own 7 0)] [(7, .box 24 3 fun j => .im (cEl e1 j))] ⟨⟨ptr3 (DLe.refl _) (DLe.refl _) (DLe.refl _), ptr3 (DLe.refl _) (DLe.refl _) (DLe.refl _), ELe.refl _, ELe.refl _, ELe.refl _, trivial⟩, ⟨box3 (ELe.refl _) (ELe.refl _) (ELe.refl _), trivial⟩⟩ ?_
    conv => whnf
    refine (c16).use ⟨DLe.refl _, agg3 (DLe.refl _) (DLe.refl _) (DLe.refl _), agg3 (DLe.refl _) (DLe.refl _) (DLe.refl _), trivial⟩ ?_
    rintro _ rfl
    conv => whnf
    refine VCut.tell (N := 96) rfl [(4, .im (.ptr 3 (cEl a))), (5, .im (.ptr 3 (cEl b))), (0, .im (dI k)), (8, .im (dI n1)), (10, .im (dI n2)), (7, .own 7 0), (9, .own 9 0)] [(7, .box 24 3 fun j => .im (cEl e1 j)), (9, .box 24 3 fun j => .im (cEl e2 j))] ⟨⟨ptr3 (DLe.refl _) (DLe.refl _) (DLe.refl _), ptr3 (DLe.refl _) (DLe.refl _) (DLe.refl _), ELe.refl _, ELe.refl _, ELe.refl _, ELe.refl _, ELe.refl _, trivial⟩, ⟨box3 (ELe.refl _) (ELe.refl _) (ELe.refl _), box3 (ELe.refl _) (ELe.refl _) (ELe.refl _), trivial⟩⟩ ?_
    conv => whnf
    refine (c17).use ⟨DLe.refl _, agg3 (DLe.refl _) (DLe.refl _) (DLe.refl _), agg3 (DLe.refl _) (DLe.refl _) (DLe.refl _), trivial⟩ ?_
    rintro _ rfl
    conv => whnf
    refine VCut.tell (N := 96) rfl [(4, .im (.ptr 3 (cEl a))), (5, .im (.ptr 3 (cEl b))), (0, .im (dI k)), (8, .im (dI n1)), (10, .im (dI n2)), (12, .im (dI n3)), (7, .own 7 0), (9, .own 9 0), (11, .own 11 0)] [(7, .box 24 3 fun j => .im (cEl e1 j)), (9, .box 24 3 fun j => .im (cEl e2 j)), (11, .box 24 3 fun j => .im (cEl e3 j))] ⟨⟨ptr3 (DLe.refl _) (DLe.refl _) (DLe.refl _), ptr3 (DLe.refl _) (DLe.refl _) (DLe.refl _), ELe.refl _, ELe.refl _, ELe.refl _, ELe.refl _, ELe.refl _, ELe.refl _, ELe.refl _, trivial⟩, ⟨box3 (ELe.refl _) (ELe.refl _) (ELe.refl _), box3 (ELe.refl _) (ELe.refl _) (ELe.refl _), box3 (ELe.refl _) (ELe.refl _) (ELe.refl _), trivial⟩⟩ ?_
    conv => whnf
    refine (c18).use ⟨DLe.refl _, agg3 (DLe.refl _) (DLe.refl _) (DLe.refl _), agg3 (DLe.refl _) (DLe.refl _) (DLe.refl _), trivial⟩ ?_
    rintro _ rfl
    conv => whnf
    refine VCut.tell (N := 96) rfl [(4, .im (.ptr 3 (cEl a))), (5, .im (.ptr 3 (cEl b))), (0, .im (dI k)), (8, .im (dI n1)), (10, .im (dI n2)), (12, .im (dI n3)), (14, .im (dI n1)), (7, .own 7 0), (9, .own 9 0), (11, .own 11 0), (13, .own 13 0)] [(7, .box 24 3 fun j => .im (cEl e1 j)), (9, .box 24 3 fun j => .im (cEl e2 j)), (11, .box 24 3 fun j => .im (cEl e3 j)), (13, .box 24 3 fun j => .im (cEl e1 j))] ⟨⟨ptr3 (DLe.refl _) (DLe.refl _) (DLe.refl _), ptr3 (DLe.refl _) (DLe.refl _) (DLe.refl _), ELe.refl _, ELe.refl _, ELe.refl _, ELe.refl _, ELe.refl _, ELe.refl _, ELe.refl _, ELe.refl _, ELe.refl _, trivial⟩, ⟨box3 (ELe.refl _) (ELe.refl _) (ELe.refl _), box3 (ELe.refl _) (ELe.refl _) (ELe.refl _), box3 (ELe.refl _) (ELe.refl _) (ELe.refl _), box3 (ELe.refl _) (ELe.refl _) (ELe.refl _), trivial⟩⟩ ?_
    conv => whnf
    refine (c19).use ⟨DLe.refl _, agg3 (DLe.refl _) (DLe.refl _) (DLe.refl _), agg3 (DLe.refl _) (DLe.refl _) (DLe.refl _), trivial⟩ ?_
    rintro _ rfl
    conv => whnf
    refine VCut.tell (N := 96) rfl [(4, .im (.ptr 3 (cEl a))), (5, .im (.ptr 3 (cEl b))), (0, .im (dI k)), (8, .im (dI n1)), (10, .im (dI n2)), (12, .im (dI n3)), (14, .im (dI n1)), (16, .im (dI n2)), (7, .own 7 0), (9, .own 9 0), (11, .own 11 0), (13, .own 13 0), (15, .own 15 0)] [(7, .box 24 3 fun j => .im (cEl e1 j)), (9, .box 24 3 fun j => .im (cEl e2 j)), (11, .box 24 3 fun j => .im (cEl e3 j)), (13, .box 24 3 fun j => .im (cEl e1 j)), (15, .box 24 3 fun j => .im (cEl e2 j))] ⟨⟨ptr3 (DLe.refl _) (DLe.refl _) (DLe.refl _), ptr3 (DLe.refl _) (DLe.refl _) (DLe.refl _), ELe.refl _, ELe.refl _, ELe.refl _, ELe.refl _, ELe.refl _, ELe.refl _, ELe.refl _, ELe.refl _, ELe.refl _, ELe.refl _, ELe.refl _, trivial⟩, ⟨box3 (ELe.refl _) (ELe.refl _) (ELe.refl _), box3 (ELe.refl _) (ELe.refl _) (ELe.refl _), box3 (ELe.refl _) (ELe.refl _) (ELe.refl _), box3 (ELe.refl _) (ELe.refl _) (ELe.refl _), box3 (ELe.refl _) (ELe.refl _) (ELe.refl _), trivial⟩⟩ ?_
    conv => whnf
    refine (c20).use ⟨DLe.refl _, agg3 (DLe.refl _) (DLe.refl _) (DLe.refl _), agg3 (DLe.refl _) (DLe.refl _) (DLe.refl _), trivial⟩ ?_
    rintro _ rfl
    conv => whnf
    refine VCut.tell (N := 96) rfl [(4, .im (.ptr 3 (cEl a))), (5, .im (.ptr 3 (cEl b))), (0, .im (dI k)), (8, .im (dI n1)), (10, .im (dI n2)), (12, .im (dI n3)), (14, .im (dI n1)), (16, .im (dI n2)), (18, .im (dI n3)), (7, .own 7 0), (9, .own 9 0), (11, .own 11 0), (13, .own 13 0), (15, .own 15 0), (17, .own 17 0)] [(7, .box 24 3 fun j => .im (cEl e1 j)), (9, .box 24 3 fun j => .im (cEl e2 j)), (11, .box 24 3 fun j => .im (cEl e3 j)), (13, .box 24 3 fun j => .im (cEl e1 j)), (15, .box 24 3 fun j => .im (cEl e2 j)), (17, .box 24 3 fun j => .im (cEl e3 j))] ⟨⟨ptr3 (DLe.refl _) (DLe.refl _) (DLe.refl _), ptr3 (DLe.refl _) (DLe.refl _) (DLe.refl _), ELe.refl _, ELe.refl _, ELe.refl _, ELe.refl _, ELe.refl _, ELe.refl _, ELe.refl _, ELe.refl _, ELe.refl _, ELe.refl _, ELe.refl _, ELe.refl _, ELe.refl _, trivial⟩, ⟨box3 (ELe.refl _) (ELe.refl _) (ELe.refl _), box3 (ELe.refl _) (ELe.refl _) (ELe.refl _), box3 (ELe.refl _) (ELe.refl _) (ELe.refl _), box3 (ELe.refl _) (ELe.refl _) (ELe.refl _), box3 (ELe.refl _) (ELe.refl _) (ELe.refl _), box3 (ELe.refl _) (ELe.refl _) (ELe.refl _), trivial⟩⟩ ?_
    conv => whnf
    refine ifB.dec (fun _ => ?_) (fun h => absurd rfl h)
    conv => whnf
    refine ifB.dec (fun _ => ?_) (fun h => absurd rfl h)
    conv => whnf
    refine ifB.dec (fun _ => ?_) (fun h => absurd rfl h)
    conv => whnf
    refine (same e1 b1).use ⟨agg3 (DLe.refl _) (DLe.refl _) (DLe.refl _), agg3 (DLe.refl _) (DLe.refl _) (DLe.refl _), trivial⟩ ?_
    rintro _ rfl
    conv => whnf
    refine (same e2 b2).use ⟨agg3 (DLe.refl _) (DLe.refl _) (DLe.refl _), agg3 (DLe.refl _) (DLe.refl _) (DLe.refl _), trivial⟩ ?_
    rintro _ rfl
    conv => whnf
    refine (same e3 b3).use ⟨agg3 (DLe.refl _) (DLe.refl _) (DLe.refl _), agg3 (DLe.refl _) (DLe.refl _) (DLe.refl _), trivial⟩ ?_
    rintro _ rfl
    conv => whnf
    exact rB rfl
  · conv => whnf
    exact rB rfl
end Go.Proofs.YtomdjkcoodaheaaGreatDoor
