/-
  The walk of law 8.
-/
import Derived.Test.YtomdjkcoodaheaaGreatDoorMf
set_option linter.unusedSectionVars false
set_option linter.unusedSimpArgs false
set_option linter.unusedVariables false
set_option maxRecDepth 10000
set_option maxHeartbeats 4000000
set_option linter.unusedVariables false
set_option linter.unusedSimpArgs false
set_option linter.unusedSectionVars false
namespace Go.Proofs.YtomdjkcoodaheaaGreatDoor
open Go Go.Vc Sr
theorem f8 (k : Int) (a b c : El) (ha : a.S.length ≤ 4611686018427387904) (hb : b.S.length ≤ 4611686018427387904) (hc : c.S.length ≤ 4611686018427387904) : ACalls cx 8 [dI k, dEl a, dEl b, dEl c] fun d => d = dB true := by
  refine ACalls.eq (ACalls.of_vc (H := { own := [9, 11, 13], cut := [5, 6, 7], cutd := [59, 65, 71] }) cxOk Tryz.func8 (by kernel_rfl) rfl (show _ = 73 from rfl) (by kernel_rfl) rfl ?_)
  conv => whnf
  refine (f13).use trivial ?_
  rintro _ rfl
  conv => whnf
  refine (f22 k [a, b, c] (by simp) (by simp [ha, hb, hc])).use ⟨DLe.refl _, elsRow3 (three (DLe.refl _) (DLe.refl _) (DLe.refl _)) (three (DLe.refl _) (DLe.refl _) (DLe.refl _)) (three (DLe.refl _) (DLe.refl _) (DLe.refl _)), trivial⟩ ?_
  rintro _ rfl
  conv => whnf
  refine ifB.not (ifB.intro (fun h => ?_) (fun h => ?_))
  · conv => whnf
    simp only [List.all_cons, List.all_nil, Bool.and_true, Bool.and_eq_true] at h
    have va := V.of h.1.1 h.1.2
    have vb := V.of h.2.1.1 h.2.1.2
    have vc := V.of h.2.2.1 h.2.2.2
    have hk := known_of va.v
    obtain ⟨x28, e28, v28, c28⟩ := vmon va vb (by decide)
    obtain ⟨x35, e35, v35, c35⟩ := vadd vb v28 (by decide) (by decide)
    obtain ⟨x42, e42, v42, c42⟩ := vadd vb vc (by decide) (by decide)
    refine (c28).use ⟨DLe.refl _, agg3 (DLe.refl _) (DLe.refl _) (DLe.refl _), agg3 (DLe.refl _) (DLe.refl _) (DLe.refl _), trivial⟩ ?_
    rintro _ rfl
    conv => whnf
    refine VCut.tell (N := 73) rfl [(5, .im (.ptr 3 (cEl a))), (6, .im (.ptr 3 (cEl b))), (7, .im (.ptr 3 (cEl c))), (0, .im (dI k)), (10, .im (dI 0)), (9, .own 9 0)] [(9, .box 24 3 fun j => .im (cEl x28 j))] ⟨⟨ptr3 (DLe.refl _) (DLe.refl _) (DLe.refl _), ptr3 (DLe.refl _) (DLe.refl _) (DLe.refl _), ptr3 (DLe.refl _) (DLe.refl _) (DLe.refl _), ELe.refl _, ELe.refl _, ELe.refl _, trivial⟩, ⟨box3 (ELe.refl _) (ELe.refl _) (ELe.refl _), trivial⟩⟩ ?_
    conv => whnf
    refine (c35).use ⟨DLe.refl _, agg3 (DLe.refl _) (DLe.refl _) (DLe.refl _), agg3 (DLe.refl _) (DLe.refl _) (DLe.refl _), trivial⟩ ?_
    rintro _ rfl
    conv => whnf
    refine VCut.tell (N := 73) rfl [(5, .im (.ptr 3 (cEl a))), (6, .im (.ptr 3 (cEl b))), (7, .im (.ptr 3 (cEl c))), (0, .im (dI k)), (10, .im (dI 0)), (12, .im (dI 0)), (9, .own 9 0), (11, .own 11 0)] [(9, .box 24 3 fun j => .im (cEl x28 j)), (11, .box 24 3 fun j => .im (cEl x35 j))] ⟨⟨ptr3 (DLe.refl _) (DLe.refl _) (DLe.refl _), ptr3 (DLe.refl _) (DLe.refl _) (DLe.refl _), ptr3 (DLe.refl _) (DLe.refl _) (DLe.refl _), ELe.refl _, ELe.refl _, ELe.refl _, ELe.refl _, ELe.refl _, trivial⟩, ⟨box3 (ELe.refl _) (ELe.refl _) (ELe.refl _), box3 (ELe.refl _) (ELe.refl _) (ELe.refl _), trivial⟩⟩ ?_
    conv => whnf
    refine (c42).use ⟨DLe.refl _, agg3 (DLe.refl _) (DLe.refl _) (DLe.refl _), agg3 (DLe.refl _) (DLe.refl _) (DLe.refl _), trivial⟩ ?_
    rintro _ rfl
    conv => whnf
    refine VCut.tell (N := 73) rfl [(5, .im (.ptr 3 (cEl a))), (6, .im (.ptr 3 (cEl b))), (7, .im (.ptr 3 (cEl c))), (0, .im (dI k)), (10, .im (dI 0)), (12, .im (dI 0)), (14, .im (dI 0)), (9, .own 9 0), (11, .own 11 0), (13, .own 13 0)] [(9, .box 24 3 fun j => .im (cEl x28 j)), (11, .box 24 3 fun j => .im (cEl x35 j)), (13, .box 24 3 fun j => .im (cEl x42 j))] ⟨⟨ptr3 (DLe.refl _) (DLe.refl _) (DLe.refl _), ptr3 (DLe.refl _) (DLe.refl _) (DLe.refl _), ptr3 (DLe.refl _) (DLe.refl _) (DLe.refl _), ELe.refl _, ELe.refl _, ELe.refl _, ELe.refl _, ELe.refl _, ELe.refl _, ELe.refl _, trivial⟩, ⟨box3 (ELe.refl _) (ELe.refl _) (ELe.refl _), box3 (ELe.refl _) (ELe.refl _) (ELe.refl _), box3 (ELe.refl _) (ELe.refl _) (ELe.refl _), trivial⟩⟩ ?_
    conv => whnf
    refine (vleq (q := true) va v35 ⟨by decide, by decide⟩ ⟨by decide, by decide⟩ (by rw [e35, e28]; exact mon_above va.v vb.v (by rw [← e28, ← e35]; exact v35.v))).use ⟨DLe.refl _, agg3 (DLe.refl _) (DLe.refl _) (DLe.refl _), agg3 (DLe.refl _) (DLe.refl _) (DLe.refl _), trivial⟩ ?_
    rintro _ rfl
    conv => whnf
    refine VCut.tell (N := 73) rfl [(5, .im (.ptr 3 (cEl a))), (6, .im (.ptr 3 (cEl b))), (7, .im (.ptr 3 (cEl c))), (0, .im (dI k)), (10, .im (dI 0)), (12, .im (dI 0)), (14, .im (dI 0)), (55, .im (dB false)), (59, .im (dB true)), (9, .own 9 0), (11, .own 11 0), (13, .own 13 0)] [(9, .box 24 3 fun j => .im (cEl x28 j)), (11, .box 24 3 fun j => .im (cEl x35 j)), (13, .box 24 3 fun j => .im (cEl x42 j))] ⟨⟨ptr3 (DLe.refl _) (DLe.refl _) (DLe.refl _), ptr3 (DLe.refl _) (DLe.refl _) (DLe.refl _), ptr3 (DLe.refl _) (DLe.refl _) (DLe.refl _), ELe.refl _, ELe.refl _, ELe.refl _, ELe.refl _, ELe.refl _, ELe.refl _, ELe.refl _, ELe.refl _, ELe.refl _, trivial⟩, ⟨box3 (ELe.refl _) (ELe.refl _) (ELe.refl _), box3 (ELe.refl _) (ELe.refl _) (ELe.refl _), box3 (ELe.refl _) (ELe.refl _) (ELe.refl _), trivial⟩⟩ ?_
    conv => whnf
    cases hq : leq k a x42 with
    | false =>
      refine (vleq (q := false) va v42 ⟨by decide, by decide⟩ ⟨by decide, by decide⟩ (hq)).use ⟨DLe.refl _, agg3 (DLe.refl _) (DLe.refl _) (DLe.refl _), agg3 (DLe.refl _) (DLe.refl _) (DLe.refl _), trivial⟩ ?_
      rintro _ rfl
      conv => whnf
      refine VCut.tell (N := 73) rfl [(5, .im (.ptr 3 (cEl a))), (6, .im (.ptr 3 (cEl b))), (7, .im (.ptr 3 (cEl c))), (0, .im (dI k)), (10, .im (dI 0)), (12, .im (dI 0)), (14, .im (dI 0)), (65, .im (dB false)), (9, .own 9 0), (11, .own 11 0), (13, .own 13 0)] [(9, .box 24 3 fun j => .im (cEl x28 j)), (11, .box 24 3 fun j => .im (cEl x35 j)), (13, .box 24 3 fun j => .im (cEl x42 j))] ⟨⟨ptr3 (DLe.refl _) (DLe.refl _) (DLe.refl _), ptr3 (DLe.refl _) (DLe.refl _) (DLe.refl _), ptr3 (DLe.refl _) (DLe.refl _) (DLe.refl _), ELe.refl _, ELe.refl _, ELe.refl _, ELe.refl _, ELe.refl _, ELe.refl _, ELe.refl _, ELe.refl _, trivial⟩, ⟨box3 (ELe.refl _) (ELe.refl _) (ELe.refl _), box3 (ELe.refl _) (ELe.refl _) (ELe.refl _), box3 (ELe.refl _) (ELe.refl _) (ELe.refl _), trivial⟩⟩ ?_
      conv => whnf
      exact rB rfl
    | true =>
      refine (vleq (q := true) va v42 ⟨by decide, by decide⟩ ⟨by decide, by decide⟩ (hq)).use ⟨DLe.refl _, agg3 (DLe.refl _) (DLe.refl _) (DLe.refl _), agg3 (DLe.refl _) (DLe.refl _) (DLe.refl _), trivial⟩ ?_
      rintro _ rfl
      conv => whnf
      refine VCut.tell (N := 73) rfl [(5, .im (.ptr 3 (cEl a))), (6, .im (.ptr 3 (cEl b))), (7, .im (.ptr 3 (cEl c))), (0, .im (dI k)), (10, .im (dI 0)), (12, .im (dI 0)), (14, .im (dI 0)), (65, .im (dB true)), (9, .own 9 0), (11, .own 11 0), (13, .own 13 0)] [(9, .box 24 3 fun j => .im (cEl x28 j)), (11, .box 24 3 fun j => .im (cEl x35 j)), (13, .box 24 3 fun j => .im (cEl x42 j))] ⟨⟨ptr3 (DLe.refl _) (DLe.refl _) (DLe.refl _), ptr3 (DLe.refl _) (DLe.refl _) (DLe.refl _), ptr3 (DLe.refl _) (DLe.refl _) (DLe.refl _), ELe.refl _, ELe.refl _, ELe.refl _, ELe.refl _, ELe.refl _, ELe.refl _, ELe.refl _, ELe.refl _, trivial⟩, ⟨box3 (ELe.refl _) (ELe.refl _) (ELe.refl _), box3 (ELe.refl _) (ELe.refl _) (ELe.refl _), box3 (ELe.refl _) (ELe.refl _) (ELe.refl _), trivial⟩⟩ ?_
      conv => whnf
      refine (vleq (q := true) v28 vc ⟨by decide, by decide⟩ ⟨by decide, by decide⟩ (by rw [e28]; exact mon_least va.v vb.v vc.v (by rw [← e42]; exact v42.v) (by rw [← e42]; exact hq))).use ⟨DLe.refl _, agg3 (DLe.refl _) (DLe.refl _) (DLe.refl _), agg3 (DLe.refl _) (DLe.refl _) (DLe.refl _), trivial⟩ ?_
      rintro _ rfl
      conv => whnf
      refine VCut.tell (N := 73) rfl [(5, .im (.ptr 3 (cEl a))), (6, .im (.ptr 3 (cEl b))), (7, .im (.ptr 3 (cEl c))), (0, .im (dI k)), (10, .im (dI 0)), (12, .im (dI 0)), (14, .im (dI 0)), (67, .im (dB false)), (71, .im (dB true)), (9, .own 9 0), (11, .own 11 0), (13, .own 13 0)] [(9, .box 24 3 fun j => .im (cEl x28 j)), (11, .box 24 3 fun j => .im (cEl x35 j)), (13, .box 24 3 fun j => .im (cEl x42 j))] ⟨⟨ptr3 (DLe.refl _) (DLe.refl _) (DLe.refl _), ptr3 (DLe.refl _) (DLe.refl _) (DLe.refl _), ptr3 (DLe.refl _) (DLe.refl _) (DLe.refl _), ELe.refl _, ELe.refl _, ELe.refl _, ELe.refl _, ELe.refl _, ELe.refl _, ELe.refl _, ELe.refl _, ELe.refl _, trivial⟩, ⟨box3 (ELe.refl _) (ELe.refl _) (ELe.refl _), box3 (ELe.refl _) (ELe.refl _) (ELe.refl _), box3 (ELe.refl _) (ELe.refl _) (ELe.refl _), trivial⟩⟩ ?_
      conv => whnf
      exact rB rfl
  · conv => whnf
    exact rB rfl
end Go.Proofs.YtomdjkcoodaheaaGreatDoor
