/-
  The walk of law 7.
-/
import Derived.Test.YtomdjkcoodaheaaGreatDoorMb
set_option linter.unusedSectionVars false
set_option linter.unusedSimpArgs false
set_option linter.unusedVariables false
set_option maxRecDepth 10000
set_option maxHeartbeats 4000000
set_option linter.unusedVariables false
set_option linter.unusedSimpArgs false
set_option linter.unusedSectionVars false
namespace Go.Proofs.YtomdjkcoodaheaaGreatDoor
open Go Go.Vc Sr
section
variable {k : Int} {a b c : El}
theorem one_add' (h : absorb k = true) (ha : vld k a = true) : addE k (oneEl k) a = oneEl k := by
  have hk := kinds ha
  rcases hk with rfl | rfl | rfl | rfl | rfl | rfl | rfl | rfl
  · obtain ⟨n, rfl, h1, h2⟩ := numE ha (by omega)
    have e : lim 0 = 1 := rfl
    show addE 0 ⟨1, 0, []⟩ _ = ⟨1, 0, []⟩; rw [addE0]; congr 1; unfold imax; split <;> omega
  · cases h
  · obtain ⟨n, rfl, h1, h2⟩ := numE ha (by omega)
    show addE 2 ⟨0, 0, []⟩ _ = ⟨0, 0, []⟩; rw [addE2]; congr 1; unfold imin; split <;> omega
  · obtain ⟨n, rfl, h1, h2⟩ := numE ha (by omega)
    show addE 3 ⟨0, 0, []⟩ _ = ⟨0, 0, []⟩; rw [addE3]; congr 1; unfold imin; split <;> omega
  · obtain ⟨n, n', rfl, h1, h2, h3⟩ := trustE ha
    show addE 4 ⟨1000, 1000, []⟩ _ = ⟨1000, 1000, []⟩; rw [addE4]; congr 1 <;> (unfold imax; split <;> omega)
  · cases h
  · cases h
  · obtain ⟨l, rfl, h1, h2, h3, _⟩ := setE ha (by omega)
    show addE 7 ⟨0, 0, [[]]⟩ _ = ⟨0, 0, [[]]⟩; rw [addE7]
    have h0 : Sets [([] : Ids)] := fun s hs => by rw [List.mem_singleton.1 hs]; exact List.Pairwise.nil
    rw [minF_eq (b := [[]]) (nrm_isFam (h0.app h2.sets)).1 h0 fun s => by
      rw [up_nrm, up_app]; exact ⟨fun _ => up_one s, .inl⟩]
    rfl
theorem absorb' (h : absorb k = true) (ha : vld k a = true) (hb : vld k b = true) : addE k a (mulE k a b) = a := by
  have hk := known_of ha
  have e1 : mulE k a (oneEl k) = a := mul_one' ha
  have : addE k (mulE k a (oneEl k)) (mulE k a b) = a := by rw [← distr' ha (one_vld hk) hb, one_add' h hb, e1]
  rwa [e1] at this
theorem known_le (h : known k = true) : 0 ≤ k ∧ k ≤ 7 := by
  unfold known at h
  rwa [Bool.and_eq_true, decide_eq_true_eq, decide_eq_true_eq] at h
theorem known_no (h : known k = false) : k < 0 ∨ 7 < k := by
  unfold known at h
  simp at h
  omega
theorem absorb_known (h : absorb k = true) : known k = true := by
  unfold absorb at h; unfold known
  simp at h ⊢
  omega
theorem non_absorb (h : absorb k = false) (hk : known k = true) : k = 1 ∨ k = 5 ∨ k = 6 := by
  have := known_le hk
  unfold absorb at h
  simp at h
  omega
end
def wit1 : El := ⟨1, 0, []⟩
def wit2 : El := ⟨0, 0, [[(1, 1)]]⟩
theorem V.wit1 : V 1 1 1 wit1 := ⟨by decide, by decide, by decide⟩
theorem V.wit2 {k : Int} (h : k = 5 ∨ k = 6) : V k 1 1 wit2 := by
  rcases h with rfl | rfl
  · exact ⟨by decide, by decide, by decide⟩
  · exact ⟨by decide, by decide, by decide⟩
theorem wit2_ne {k : Int} (h : k = 5 ∨ k = 6) : addE k (oneEl k) wit2 ≠ oneEl k := by
  rcases h with rfl | rfl <;> decide
theorem f7 (k : Int) (a b : El) (ha : a.S.length ≤ 4611686018427387904) (hb : b.S.length ≤ 4611686018427387904) : ACalls cx 7 [dI k, dEl a, dEl b] fun d => d = dB true := by
  cases hk : known k with
  | false =>
    have hab : absorb k = false := by
      cases h : absorb k with
      | false => rfl
      | true => rw [absorb_known h] at hk; cases hk
    refine ACalls.eq (ACalls.of_vc (H := { own := [7, 8, 9, 11, 13, 15] }) cxOk Tryz.func7 (by kernel_rfl) rfl (show _ = 105 from rfl) (by kernel_rfl) rfl ?_)
    conv => whnf
    refine (f13).use trivial ?_
    rintro _ rfl
    conv => whnf
    refine ifB.dec (fun h => ?_) (fun h => ?_)
    · conv => whnf
      refine (f26 k).use ⟨DLe.refl _, trivial⟩ ?_
      rintro _ rfl
      conv => whnf
      exact rB (by rw [hab]; rfl)
    · conv => whnf
      refine ifB.dec (fun h' => ?_) (fun h' => ?_)
      · conv => whnf
        refine (f26 k).use ⟨DLe.refl _, trivial⟩ ?_
        rintro _ rfl
        conv => whnf
        exact rB (by rw [hab]; rfl)
      · have := known_no hk; omega
  | true =>
    have h07 := known_le hk
    obtain ⟨x29, e29, v29, c29⟩ := vone hk
    refine ACalls.eq (ACalls.of_vc (H := { own := [7, 8, 9, 11, 13, 15], cut := [5, 14, 15, 16], cutd := [97, 103] }) cxOk Tryz.func7 (by kernel_rfl) rfl (show _ = 105 from rfl) (by kernel_rfl) rfl ?_)
    conv => whnf
    refine (f13).use trivial ?_
    rintro _ rfl
    conv => whnf
    refine ifB.dec (fun h => absurd h (by omega)) (fun h => ?_)
    conv => whnf
    refine ifB.dec (fun h => absurd h (by omega)) (fun h => ?_)
    conv => whnf
    refine (c29).use ⟨DLe.refl _, trivial⟩ ?_
    rintro _ rfl
    conv => whnf
    refine VCut.tell (N := 105) rfl [(4, .im (.ptr 3 (cEl a))), (5, .im (.ptr 3 (cEl b))), (0, .im (dI k)), (7, .own 7 0)] [(7, .box 24 3 fun j => .im (cEl x29 j))] ⟨⟨ptr3 (DLe.refl _) (DLe.refl _) (DLe.refl _), ptr3 (DLe.refl _) (DLe.refl _) (DLe.refl _), ELe.refl _, ELe.refl _, trivial⟩, ⟨box3 (ELe.refl _) (ELe.refl _) (ELe.refl _), trivial⟩⟩ ?_
    conv => whnf
    refine (f26 k).use ⟨DLe.refl _, trivial⟩ ?_
    rintro _ rfl
    conv => whnf
    refine ifB.not (ifB.intro (fun hab => ?_) (fun hab => ?_))
    · conv => whnf
      refine (f22 k [a, b] (by simp) (by simp [ha, hb])).use ⟨DLe.refl _, elsRow2 (three (DLe.refl _) (DLe.refl _) (DLe.refl _)) (three (DLe.refl _) (DLe.refl _) (DLe.refl _)), trivial⟩ ?_
      rintro _ rfl
      conv => whnf
      refine ifB.not (ifB.intro (fun h => ?_) (fun h => ?_))
      · conv => whnf
        simp only [List.all_cons, List.all_nil, Bool.and_true, Bool.and_eq_true] at h
        have va := V.of h.1.1 h.1.2
        have vb := V.of h.2.1 h.2.2
        obtain ⟨x66, e66, v66, c66⟩ := vadd v29 va (by decide) (by decide)
        obtain ⟨x73, e73, v73, c73⟩ := vmul va vb (by decide) (by decide) (by decide)
        obtain ⟨x80, e80, v80, c80⟩ := vadd va v73 (by decide) (by decide)
        refine (c66).use ⟨DLe.refl _, agg3 (DLe.refl _) (DLe.refl _) (DLe.refl _), agg3 (DLe.refl _) (DLe.refl _) (DLe.refl _), trivial⟩ ?_
        rintro _ rfl
        conv => whnf
        refine VCut.tell (N := 105) rfl [(4, .im (.ptr 3 (cEl a))), (5, .im (.ptr 3 (cEl b))), (0, .im (dI k)), (12, .im (dI 0)), (7, .own 7 0), (11, .own 11 0)] [(7, .box 24 3 fun j => .im (cEl x29 j)), (11, .box 24 3 fun j => .im (cEl x66 j))] ⟨⟨ptr3 (DLe.refl _) (DLe.refl _) (DLe.refl _), ptr3 (DLe.refl _) (DLe.refl _) (DLe.refl _), ELe.refl _, ELe.refl _, ELe.refl _, ELe.refl _, trivial⟩, ⟨box3 (ELe.refl _) (ELe.refl _) (ELe.refl _), box3 (ELe.refl _) (ELe.refl _) (ELe.refl _), trivial⟩⟩ ?_
        conv => whnf
        refine (c73).use ⟨DLe.refl _, agg3 (DLe.refl _) (DLe.refl _) (DLe.refl _), agg3 (DLe.refl _) (DLe.refl _) (DLe.refl _), trivial⟩ ?_
        rintro _ rfl
        conv => whnf
        refine VCut.tell (N := 105) rfl [(4, .im (.ptr 3 (cEl a))), (5, .im (.ptr 3 (cEl b))), (0, .im (dI k)), (12, .im (dI 0)), (14, .im (dI 0)), (7, .own 7 0), (11, .own 11 0), (13, .own 13 0)] [(7, .box 24 3 fun j => .im (cEl x29 j)), (11, .box 24 3 fun j => .im (cEl x66 j)), (13, .box 24 3 fun j => .im (cEl x73 j))] ⟨⟨ptr3 (DLe.refl _) (DLe.refl _) (DLe.refl _), ptr3 (DLe.refl _) (DLe.refl _) (DLe.refl _), ELe.refl _, ELe.refl _, ELe.refl _, ELe.refl _, ELe.refl _, ELe.refl _, trivial⟩, ⟨box3 (ELe.refl _) (ELe.refl _) (ELe.refl _), box3 (ELe.refl _) (ELe.refl _) (ELe.refl _), box3 (ELe.refl _) (ELe.refl _) (ELe.refl _), trivial⟩⟩ ?_
        conv => whnf
        refine (c80).use ⟨DLe.refl _, agg3 (DLe.refl _) (DLe.refl _) (DLe.refl _), agg3 (DLe.refl _) (DLe.refl _) (DLe.refl _), trivial⟩ ?_
        rintro _ rfl
        conv => whnf
        refine VCut.tell (N := 105) rfl [(4, .im (.ptr 3 (cEl a))), (5, .im (.ptr 3 (cEl b))), (0, .im (dI k)), (12, .im (dI 0)), (14, .im (dI 0)), (16, .im (dI 0)), (7, .own 7 0), (11, .own 11 0), (13, .own 13 0), (15, .own 15 0)] [(7, .box 24 3 fun j => .im (cEl x29 j)), (11, .box 24 3 fun j => .im (cEl x66 j)), (13, .box 24 3 fun j => .im (cEl x73 j)), (15, .box 24 3 fun j => .im (cEl x80 j))] ⟨⟨ptr3 (DLe.refl _) (DLe.refl _) (DLe.refl _), ptr3 (DLe.refl _) (DLe.refl _) (DLe.refl _), ELe.refl _, ELe.refl _, ELe.refl _, ELe.refl _, ELe.refl _, ELe.refl _, ELe.refl _, ELe.refl _, trivial⟩, ⟨box3 (ELe.refl _) (ELe.refl _) (ELe.refl _), box3 (ELe.refl _) (ELe.refl _) (ELe.refl _), box3 (ELe.refl _) (ELe.refl _) (ELe.refl _), box3 (ELe.refl _) (ELe.refl _) (ELe.refl _), trivial⟩⟩ ?_
        conv => whnf
        refine (veq v66 v29 ⟨by decide, by decide⟩ ⟨by decide, by decide⟩ (decide_eq_true (by rw [e66, e29]; exact one_add' hab va.v))).use ⟨DLe.refl _, agg3 (DLe.refl _) (DLe.refl _) (DLe.refl _), agg3 (DLe.refl _) (DLe.refl _) (DLe.refl _), trivial⟩ ?_
        rintro _ rfl
        conv => whnf
        refine VCut.tell (N := 105) rfl [(4, .im (.ptr 3 (cEl a))), (5, .im (.ptr 3 (cEl b))), (0, .im (dI k)), (12, .im (dI 0)), (14, .im (dI 0)), (16, .im (dI 0)), (93, .im (dB true)), (97, .im (dB true)), (7, .own 7 0), (11, .own 11 0), (13, .own 13 0), (15, .own 15 0)] [(7, .box 24 3 fun j => .im (cEl x29 j)), (11, .box 24 3 fun j => .im (cEl x66 j)), (13, .box 24 3 fun j => .im (cEl x73 j)), (15, .box 24 3 fun j => .im (cEl x80 j))] ⟨⟨ptr3 (DLe.refl _) (DLe.refl _) (DLe.refl _), ptr3 (DLe.refl _) (DLe.refl _) (DLe.refl _), ELe.refl _, ELe.refl _, ELe.refl _, ELe.refl _, ELe.refl _, ELe.refl _, ELe.refl _, ELe.refl _, ELe.refl _, ELe.refl _, trivial⟩, ⟨box3 (ELe.refl _) (ELe.refl _) (ELe.refl _), box3 (ELe.refl _) (ELe.refl _) (ELe.refl _), box3 (ELe.refl _) (ELe.refl _) (ELe.refl _), box3 (ELe.refl _) (ELe.refl _) (ELe.refl _), trivial⟩⟩ ?_
        conv => whnf
        refine (veq v80 va ⟨by decide, by decide⟩ ⟨by decide, by decide⟩ (decide_eq_true (by rw [e80, e73]; exact absorb' hab va.v vb.v))).use ⟨DLe.refl _, agg3 (DLe.refl _) (DLe.refl _) (DLe.refl _), agg3 (DLe.refl _) (DLe.refl _) (DLe.refl _), trivial⟩ ?_
        rintro _ rfl
        conv => whnf
        refine VCut.tell (N := 105) rfl [(4, .im (.ptr 3 (cEl a))), (5, .im (.ptr 3 (cEl b))), (0, .im (dI k)), (12, .im (dI 0)), (14, .im (dI 0)), (16, .im (dI 0)), (99, .im (dB true)), (103, .im (dB true)), (7, .own 7 0), (11, .own 11 0), (13, .own 13 0), (15, .own 15 0)] [(7, .box 24 3 fun j => .im (cEl x29 j)), (11, .box 24 3 fun j => .im (cEl x66 j)), (13, .box 24 3 fun j => .im (cEl x73 j)), (15, .box 24 3 fun j => .im (cEl x80 j))] ⟨⟨ptr3 (DLe.refl _) (DLe.refl _) (DLe.refl _), ptr3 (DLe.refl _) (DLe.refl _) (DLe.refl _), ELe.refl _, ELe.refl _, ELe.refl _, ELe.refl _, ELe.refl _, ELe.refl _, ELe.refl _, ELe.refl _, ELe.refl _, ELe.refl _, trivial⟩, ⟨box3 (ELe.refl _) (ELe.refl _) (ELe.refl _), box3 (ELe.refl _) (ELe.refl _) (ELe.refl _), box3 (ELe.refl _) (ELe.refl _) (ELe.refl _), box3 (ELe.refl _) (ELe.refl _) (ELe.refl _), trivial⟩⟩ ?_
        conv => whnf
        exact rB rfl
      · conv => whnf
        exact rB rfl
    · conv => whnf
      refine ifB.not (ifB.dec (fun h1 => ?_) (fun h1 => ?_))
      · conv => whnf
        subst h1
        obtain ⟨x44, e44, v44, c44⟩ := vadd v29 V.wit1 (by decide) (by decide)
        refine (c44).use ⟨DLe.refl _, agg3 (DLe.refl _) (DLe.refl _) (DLe.refl _), agg3 (DLe.refl _) (DLe.refl _) nilL, trivial⟩ ?_
        rintro _ rfl
        conv => whnf
        refine (veq v44 v29 ⟨by decide, by decide⟩ ⟨by decide, by decide⟩ (decide_eq_false (by rw [e44, e29]; decide))).use ⟨DLe.refl _, agg3 (DLe.refl _) (DLe.refl _) (DLe.refl _), agg3 (DLe.refl _) (DLe.refl _) (DLe.refl _), trivial⟩ ?_
        rintro _ rfl
        conv => whnf
        exact rB rfl
      · conv => whnf
        have h2 : k = 5 ∨ k = 6 := by rcases non_absorb hab hk with h | h | h <;> omega
        obtain ⟨x44, e44, v44, c44⟩ := vadd v29 (V.wit2 h2) (by decide) (by decide)
        refine (c44).use ⟨DLe.refl _, agg3 (DLe.refl _) (DLe.refl _) (DLe.refl _), agg3 (DLe.refl _) (DLe.refl _) (slice_le (l' := wit2.S) rfl rfl (one1 (slice_le (l' := [((1 : Int), (1 : Int))]) rfl rfl (one2 (DLe.refl _) (DLe.refl _))))), trivial⟩ ?_
        rintro _ rfl
        conv => whnf
        refine (veq v44 v29 ⟨by decide, by decide⟩ ⟨by decide, by decide⟩ (decide_eq_false (by rw [e44, e29]; exact wit2_ne h2))).use ⟨DLe.refl _, agg3 (DLe.refl _) (DLe.refl _) (DLe.refl _), agg3 (DLe.refl _) (DLe.refl _) (DLe.refl _), trivial⟩ ?_
        rintro _ rfl
        conv => whnf
        exact rB rfl
end Go.Proofs.YtomdjkcoodaheaaGreatDoor
