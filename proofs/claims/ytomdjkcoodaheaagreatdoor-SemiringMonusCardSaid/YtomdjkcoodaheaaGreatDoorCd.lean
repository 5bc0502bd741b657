/-
  The reference on elements: walked.
-/
import Derived.Test.YtomdjkcoodaheaaGreatDoorCc
set_option linter.unusedSectionVars false
set_option linter.unusedSimpArgs false
set_option linter.unusedVariables false
set_option maxRecDepth 10000
set_option maxHeartbeats 4000000
set_option linter.unusedVariables false
set_option linter.unusedSectionVars false
namespace Go.Proofs.YtomdjkcoodaheaaGreatDoor
open Go Go.Vc Sr
variable [Dr]

theorem rB {b c : Bool} (h : b = c) : Ret (fun x => DLe x (dB c)) (dB b) := Ret.le (dBc h)
theorem rI {b c : Int} (h : b = c) : Ret (fun x => DLe x (dI c)) (dI b) := Ret.le (dIc h)
theorem nilF {f : Nat → Nat → D} : DLe (.slice 1 0 f) (dFam []) := slice_nil
theorem nilL : DLe (.lit (.slice none 0 0)) (dFam []) := DLe.nil

set_option linter.unusedSimpArgs false
theorem el3 {f : Nat → D} {e : El} (h0 : DLe (f 0) (dI e.N)) (h1 : DLe (f 1) (dI e.M)) (h2 : DLe (f 2) (dFam e.S)) : DLe (.agg 3 f) (dEl e) := agg3 h0 h1 h2
theorem rEl {f : Nat → D} {e e' : El} (he : e = e') (h0 : DLe (f 0) (dI e'.N)) (h1 : DLe (f 1) (dI e'.M)) (h2 : DLe (f 2) (dFam e'.S)) : Ret (fun x => DLe x (dEl e)) (.agg 3 f) := by subst he; exact Ret.le (el3 h0 h1 h2)
theorem rRes {g : Nat → D} {e e' : El} {n n' : Int} (he : e = e') (hn : n = n') (h0 : DLe (g 0) (dEl e')) (h1 : DLe (g 1) (dI n')) : Ret (fun x => DLe x (dRes e n)) (.tup 2 g) := by subst he; subst hn; exact Ret.le (tup2 h0 h1)
theorem f69 (k : Int) : ACalls cx 69 [dI k] fun d => d = dB (known k) := by
  refine ACalls.eq (ACalls.of_vc (H := {}) cxOk Tryz.func69 (by kernel_rfl) rfl (show _ = 9 from rfl) (by kernel_rfl) rfl ?_)
  conv => whnf
  refine ifB.dec (fun h => ?_) (fun h => ?_)
  · conv => whnf
    exact rB (by unfold known; rw [decide_eq_true (show 0 ≤ k from h)]; rfl)
  · conv => whnf
    exact rB (by unfold known; rw [decide_eq_false (show ¬ 0 ≤ k from h)]; rfl)
theorem f70 (k : Int) : ACalls cx 70 [dI k] fun d => d = dB (isSets k) := by
  refine ACalls.eq (ACalls.of_vc (H := {}) cxOk Tryz.func70 (by kernel_rfl) rfl (show _ = 9 from rfl) (by kernel_rfl) rfl ?_)
  conv => whnf
  refine ifB.dec (fun h => ?_) (fun h => ?_)
  · conv => whnf
    exact rB (by unfold isSets; rw [decide_eq_true (show 5 ≤ k from h)]; rfl)
  · conv => whnf
    exact rB (by unfold isSets; rw [decide_eq_false (show ¬ 5 ≤ k from h)]; rfl)
theorem f77 (k : Int) : ACalls cx 77 [dI k] fun d => d = dI (lim k) := by
  refine ACalls.eq (ACalls.of_vc (H := {}) cxOk Tryz.func77 (by kernel_rfl) rfl (show _ = 12 from rfl) (by kernel_rfl) rfl ?_)
  conv => whnf
  refine ifB.dec (fun h0 => ?_) (fun h0 => ?_)
  · conv => whnf
    exact rI (by simp [lim, h0])
  conv => whnf
  refine ifB.dec (fun h1 => ?_) (fun h1 => ?_)
  · conv => whnf
    exact rI (by simp [lim, h0, h1])
  conv => whnf
  refine ifB.dec (fun h2 => ?_) (fun h2 => ?_)
  · conv => whnf
    exact rI (by simp [lim, h0, h1, h2])
  conv => whnf
  refine ifB.dec (fun h3 => ?_) (fun h3 => ?_)
  · conv => whnf
    exact rI (by simp [lim, h0, h1, h2, h3])
  · conv => whnf
    exact rI (by simp [lim, h0, h1, h2, h3])
theorem f39 (k : Int) : ACalls cx 39 [dI k] fun d => d = dEl (zeroE k) := by
  refine ACalls.eq (ACalls.of_vc (H := { own := [2] }) cxOk Tryz.func39 (by kernel_rfl) rfl (show _ = 13 from rfl) (by kernel_rfl) rfl ?_)
  conv => whnf
  refine ifB.dec (fun h => ?_) (fun h => ?_)
  · conv => whnf
    refine (f77 k).use ⟨DLe.refl _, trivial⟩ ?_
    rintro _ rfl
    conv => whnf
    exact rEl (e' := ⟨lim k, 0, []⟩) (by rw [zeroE, if_pos (.inl h)]) (DLe.refl _) (DLe.refl _) nilL
  · conv => whnf
    refine ifB.dec (fun h' => ?_) (fun h' => ?_)
    · conv => whnf
      refine (f77 k).use ⟨DLe.refl _, trivial⟩ ?_
      rintro _ rfl
      conv => whnf
      exact rEl (e' := ⟨lim k, 0, []⟩) (by rw [zeroE, if_pos (.inr h')]) (DLe.refl _) (DLe.refl _) nilL
    · conv => whnf
      exact rEl (e' := ⟨0, 0, []⟩) (by rw [zeroE, if_neg (by omega)]) (DLe.refl _) (DLe.refl _) nilL
theorem oneF {f g : Nat → Nat → D} (h : f 0 0 = .slice 2 0 g) : DLe (.slice 1 1 f) (dFam [[]]) := slice_le (l := [[]]) rfl rfl (one1 (by rw [h]; exact slice_nil))
theorem oneF' {f : Nat → Nat → D} (h : f 0 0 = .lit (.slice none 0 0)) : DLe (.slice 1 1 f) (dFam [[]]) := slice_le (l := [[]]) rfl rfl (one1 (by rw [h]; exact DLe.nil))
theorem f40 (k : Int) : ACalls cx 40 [dI k] fun d => d = dEl (oneEl k) := by
  refine ACalls.eq (ACalls.of_vc (H := { own := [2] }) cxOk Tryz.func40 (by kernel_rfl) rfl (show _ = 19 from rfl) (by kernel_rfl) rfl ?_)
  conv => whnf
  refine ifB.dec (fun h => ?_) (fun h => ?_)
  · conv => whnf
    exact rEl (e' := ⟨1, 0, []⟩) (by rw [oneEl, if_pos (.inl h)]) (DLe.refl _) (DLe.refl _) nilL
  · conv => whnf
    refine ifB.dec (fun h' => ?_) (fun h' => ?_)
    · conv => whnf
      exact rEl (e' := ⟨1, 0, []⟩) (by rw [oneEl, if_pos (.inr h')]) (DLe.refl _) (DLe.refl _) nilL
    · conv => whnf
      have h2 : ¬ (k = 0 ∨ k = 1) := by omega
      refine ifB.dec (fun h4 => ?_) (fun h4 => ?_)
      · conv => whnf
        exact rEl (e' := ⟨1000, 1000, []⟩) (by rw [oneEl, if_neg h2, if_pos h4]) (DLe.refl _) (DLe.refl _) nilL
      · conv => whnf
        refine (f70 k).use ⟨DLe.refl _, trivial⟩ ?_
        rintro _ rfl
        conv => whnf
        refine ifB.intro (fun h5 => ?_) (fun h5 => ?_)
        · conv => whnf
          exact rEl (e' := ⟨0, 0, [[]]⟩) (by rw [oneEl, if_neg h2, if_neg h4, if_pos h5]) (DLe.refl _) (DLe.refl _) (oneF rfl)
        · conv => whnf
          exact rEl (e' := ⟨0, 0, []⟩) (by rw [oneEl, if_neg h2, if_neg h4, if_neg (by rw [h5]; simp)]) (DLe.refl _) (DLe.refl _) nilL
theorem f61 (a b : Int) : ACalls cx 61 [dI a, dI b] fun d => d = dI (if b < a then a else 0) := by
  refine ACalls.eq (ACalls.of_vc (H := {}) cxOk Tryz.func61 (by kernel_rfl) rfl (show _ = 9 from rfl) (by kernel_rfl) rfl ?_)
  conv => whnf
  refine ifB.dec (fun h => ?_) (fun h => ?_)
  · conv => whnf
    exact rI (by rw [if_pos h])
  · conv => whnf
    exact rI (by rw [if_neg h])
theorem f57 (e : El) (hl : e.S.length ≤ 1000000) : ACalls cx 57 [dEl e] fun d => d = (if 512 < e.S.length then dRes ⟨0, 0, []⟩ 6 else dRes e 0) := by
  refine ACalls.eq (ACalls.of_vc (H := { own := [2] }) cxOk Tryz.func57 (by kernel_rfl) rfl (show _ = 10 from rfl) (by kernel_rfl) rfl ?_)
  conv => whnf
  refine ifB.dec (fun h => ?_) (fun h => ?_)
  · conv => whnf
    rw [if_pos (by omega)]
    exact rRes rfl rfl (el3 (DLe.refl _) (DLe.refl _) nilL) (DLe.refl _)
  · conv => whnf
    rw [if_neg (by omega)]
    exact rRes rfl rfl (el3 (DLe.refl _) (DLe.refl _) (DLe.refl _)) (DLe.refl _)
theorem f21 (a b : El) (ha : Bnd 1000000 a.S) (hb : Bnd 1000000 b.S) : ACalls cx 21 [dEl a, dEl b] fun d => d = dB (decide (a = b)) := by
  have key : a = b ↔ a.N = b.N ∧ a.M = b.M ∧ a.S = b.S := by cases a; cases b; simp
  refine ACalls.eq (ACalls.of_vc (H := {}) cxOk Tryz.func21 (by kernel_rfl) rfl (show _ = 24 from rfl) (by kernel_rfl) rfl ?_)
  conv => whnf
  refine ifB.dec (fun h => ?_) (fun h => ?_)
  · conv => whnf
    refine ifB.dec (fun h' => ?_) (fun h' => ?_)
    · conv => whnf
      refine (f65 a.S b.S ha hb).use ⟨DLe.refl _, DLe.refl _, trivial⟩ ?_
      rintro _ rfl
      conv => whnf
      exact rB (by rw [decide_eq_decide, key]; exact ⟨fun h2 => ⟨h, h', h2⟩, fun h2 => h2.2.2⟩)
    · conv => whnf
      exact rB (decide_eq_false (fun hc => h' (key.1 hc).2.1)).symm
  · conv => whnf
    exact rB (decide_eq_false (fun hc => h (key.1 hc).1)).symm
def few (e : El) : Bool := decide ((e.S.length : Int) ≤ 6) && e.S.all fun s => decide ((s.length : Int) ≤ 6)
theorem f51 (e : El) (hl : e.S.length ≤ 4611686018427387904) : ACalls cx 51 [dEl e, dI 6, dI 6] fun d => d = dB (few e) := by
  refine ACalls.eq (ACalls.of_vc (H := {}) cxOk Tryz.func51 (by kernel_rfl) rfl (show _ = 12 from rfl) (by kernel_rfl) rfl ?_)
  conv => whnf
  refine (f84 e.S 6 6 hl).use ⟨DLe.refl _, DLe.refl _, DLe.refl _, trivial⟩ ?_
  rintro _ rfl
  conv => whnf
  exact rB rfl
end Go.Proofs.YtomdjkcoodaheaaGreatDoor

/-
  The reference: validity.
-/
set_option maxRecDepth 10000
set_option maxHeartbeats 4000000
set_option linter.unusedVariables false
set_option linter.unusedSimpArgs false
set_option linter.unusedSectionVars false
namespace Go.Proofs.YtomdjkcoodaheaaGreatDoor
open Go Go.Vc Sr
variable [Dr]

theorem vld_unknown {k : Int} {e : El} (h : known k = false) : vld k e = false := by rw [vld, h]; rfl

theorem f36 (k : Int) (e : El) (hb : Bnd 1000000 e.S) : ACalls cx 36 [dI k, dEl e] fun d => d = dB (vld k e) := by
  have hl := hb.1
  refine ACalls.eq (ACalls.of_vc (H := { draw := [(4, 16, []), (22, 7, [])] }) cxOk Tryz.func36 (by kernel_rfl) rfl (show _ = 105 from rfl) (by kernel_rfl) rfl ?_)
  conv => whnf
  refine (f69 k).use ⟨DLe.refl _, trivial⟩ ?_
  rintro _ rfl
  conv => whnf
  refine ifB.not (ifB.intro (fun hk => ?_) (fun hk => ?_))
  · conv => whnf
    refine (f70 k).use ⟨DLe.refl _, trivial⟩ ?_
    rintro _ rfl
    conv => whnf
    refine ifB.not (ifB.intro (fun hs => ?_) (fun hs => ?_))
    · conv => whnf
      rw [vld_set hs]
      have no : (¬ vldS k e) → false = decide (vldS k e) := fun h => (decide_eq_false h).symm
      refine ifB.not (ifB.dec (fun h1 => ?_) (fun h1 => ?_))
      · conv => whnf
        refine ifB.not (ifB.dec (fun h2 => ?_) (fun h2 => ?_))
        · conv => whnf
          refine ifB.dec (fun h3 => ?_) (fun h3 => ?_)
          · conv => whnf
            exact rB (no fun h => by have := h.2.2.1; omega)
          · conv => whnf
            refine (f78 e.S hb).use ⟨DLe.refl _, trivial⟩ ?_
            rintro _ rfl
            conv => whnf
            refine ifB.not (ifB.dec (fun h4 => ?_) (fun h4 => ?_))
            · conv => whnf
              refine VLoop.inv (N := 105) rfl (ι := Nat) (fun i => i ≤ e.S.length ∧ ∀ s ∈ e.S.take i, ∀ x ∈ s, rok x = true) (fun i => [(0, .im (dI k)), (3, .im (.ptr 3 (cEl e))), (5, .im (dI i))]) (fun _ => []) (fun i => e.S.length - i) 0 ⟨Nat.zero_le _, by simp⟩ ⟨⟨ELe.refl _, ELe.refl _, ELe.refl _, trivial⟩, trivial⟩ ?_
              rintro i ⟨hi, hall⟩
              conv => whnf
              refine ifB.dec (fun h5 => ?_) (fun h5 => ?_)
              · conv => whnf
                have hlt : i < e.S.length := by omega
                have hmem : e.S.getD i [] ∈ e.S := by rw [getD_lt hlt]; exact List.getElem_mem hlt
                have hlen := hb.at i
                refine VLoop.inv (N := 105) rfl (ι := Nat) (fun j => j ≤ (e.S.getD i []).length ∧ ∀ x ∈ (e.S.getD i []).take j, rok x = true) (fun j => [(0, .im (dI k)), (3, .im (.ptr 3 (cEl e))), (5, .im (dI i)), (6, .im (dI j))]) (fun _ => []) (fun j => (e.S.getD i []).length - j) 0 ⟨Nat.zero_le _, by simp⟩ ⟨⟨ELe.refl _, ELe.refl _, ELe.refl _, ELe.refl _, trivial⟩, trivial⟩ ?_
                rintro j ⟨hj, hall2⟩
                conv => whnf
                refine ⟨⟨by omega, by omega⟩, ?_⟩
                conv => whnf
                refine ifB.dec (fun h6 => ?_) (fun h6 => ?_)
                · conv => whnf
                  replace h6 : (j : Int) < ((e.S.getD i []).length : Int) := h6
                  have hjt : j < (e.S.getD i []).length := by omega
                  refine ⟨⟨by omega, by omega⟩, ?_⟩
                  conv => whnf
                  refine ⟨⟨by omega, h6⟩, ?_⟩
                  conv => whnf
                  refine (f79 ((e.S.getD i []).getD j (0, 0))).use ⟨DLe.refl _, trivial⟩ ?_
                  rintro _ rfl
                  conv => whnf
                  refine ifB.not (ifB.intro (fun h7 => ?_) (fun h7 => ?_))
                  · conv => whnf
                    refine ⟨⟨by omega, by omega⟩, ?_⟩
                    conv => whnf
                    refine VNext.by (j + 1) rfl ⟨by omega, fun x hx => ?_⟩ (by omega) ⟨⟨ELe.refl _, ELe.refl _, ELe.refl _, ELe.refl _, trivial⟩, trivial⟩
                    rcases (mem_take_succ (x0 := (0, 0)) hjt).1 hx with h8 | h8
                    · exact hall2 x h8
                    · rw [h8]; exact h7
                  · conv => whnf
                    refine rB (no fun h => ?_)
                    have := h.2.2.2.2.1 _ hmem ((e.S.getD i []).getD j (0, 0)) (by rw [getD_lt hjt]; exact List.getElem_mem hjt)
                    rw [rok, h7] at this; cases this
                · conv => whnf
                  replace h6 : ¬ (j : Int) < ((e.S.getD i []).length : Int) := h6
                  refine ⟨⟨by omega, by omega⟩, ?_⟩
                  conv => whnf
                  refine VNext.by (i + 1) rfl ⟨by omega, fun s hs => ?_⟩ (by omega) ⟨⟨ELe.refl _, ELe.refl _, ELe.refl _, trivial⟩, trivial⟩
                  rcases (mem_take_succ (x0 := []) hlt).1 hs with h8 | h8
                  · exact hall s h8
                  · rw [h8]
                    rwa [List.take_of_length_le (by omega)] at hall2
              · conv => whnf
                rw [List.take_of_length_le (by omega)] at hall
                have yes : (if k = 6 then e.S.length ≤ 1 else if k = 7 then minF e.S = e.S else True) ↔ vldS k e := ⟨fun h => ⟨h1, h2, by omega, h4, hall, h⟩, fun h => h.2.2.2.2.2⟩
                refine ifB.dec (fun h6 => ?_) (fun h6 => ?_)
                · conv => whnf
                  rw [if_pos h6] at yes
                  exact rB (by rw [decide_eq_decide, ← yes]; omega)
                · conv => whnf
                  rw [if_neg h6] at yes
                  refine ifB.dec (fun h7 => ?_) (fun h7 => ?_)
                  · conv => whnf
                    rw [if_pos h7] at yes
                    refine ⟨_, (f58 e.S hb).use ⟨DLe.refl _, trivial⟩ (fun d h => h), ?_⟩
                    conv => whnf
                    refine ⟨_, (f65 (minF e.S) e.S (hb.fam.filter _) hb).use ⟨DLe.refl _, DLe.refl _, trivial⟩ (fun d h => h), ?_⟩
                    conv => whnf
                    exact rB (by rw [decide_eq_decide, ← yes])
                  · conv => whnf
                    rw [if_neg h7] at yes
                    exact rB (decide_eq_true (yes.1 trivial)).symm
            · conv => whnf
              exact rB (no fun h => h4 h.2.2.2.1)
        · conv => whnf
          exact rB (no fun h => h2 h.2.1)
      · conv => whnf
        exact rB (no fun h => h1 h.1)
    · conv => whnf
      rw [vld_num hk hs]
      have no : (¬ vldN k e) → false = decide (vldN k e) := fun h => (decide_eq_false h).symm
      refine ifB.not (ifB.dec (fun h1 => ?_) (fun h1 => ?_))
      · conv => whnf
        have h1' : e.S.length = 0 := by omega
        refine ifB.dec (fun h2 => ?_) (fun h2 => ?_)
        · conv => whnf
          exact rB (no fun h => by have := h.2.1; omega)
        · conv => whnf
          refine ⟨_, (f77 k).use ⟨DLe.refl _, trivial⟩ (fun d h => h), ?_⟩
          conv => whnf
          refine ifB.dec (fun h3 => ?_) (fun h3 => ?_)
          · conv => whnf
            exact rB (no fun h => by have := h.2.2.1; omega)
          · conv => whnf
            have yes : (if k = 4 then e.N ≤ e.M ∧ e.M ≤ 1000 else e.M = 0) ↔ vldN k e := ⟨fun h => ⟨h1', by omega, by omega, h⟩, fun h => h.2.2.2⟩
            refine ifB.dec (fun h4 => ?_) (fun h4 => ?_)
            · conv => whnf
              rw [if_pos h4] at yes
              refine ifB.dec (fun h5 => ?_) (fun h5 => ?_)
              · conv => whnf
                exact rB (by rw [decide_eq_decide, ← yes]; exact ⟨fun h => ⟨h5, h⟩, fun h => h.2⟩)
              · conv => whnf
                exact rB (no fun h => h5 (yes.2 h).1)
            · conv => whnf
              rw [if_neg h4] at yes
              exact rB (by rw [decide_eq_decide, ← yes])
      · conv => whnf
        exact rB (no fun h => by have := h.1; omega)
  · conv => whnf
    rw [vld_unknown hk]
    exact rB rfl

theorem f37 (k : Int) (a b : El) (ha : Bnd 1000000 a.S) (hb : Bnd 1000000 b.S) : ACalls cx 37 [dI k, dEl a, dEl b] fun d => d = dB (vld k a && (vld k b && decide (a = b))) := by
  refine ACalls.eq (ACalls.of_vc (H := {}) cxOk Tryz.func37 (by kernel_rfl) rfl (show _ = 20 from rfl) (by kernel_rfl) rfl ?_)
  conv => whnf
  refine (f36 k a ha).use ⟨DLe.refl _, DLe.refl _, trivial⟩ ?_
  rintro _ rfl
  conv => whnf
  refine ifB.intro (fun h => ?_) (fun h => ?_)
  · conv => whnf
    refine (f36 k b hb).use ⟨DLe.refl _, DLe.refl _, trivial⟩ ?_
    rintro _ rfl
    conv => whnf
    refine ifB.intro (fun h' => ?_) (fun h' => ?_)
    · conv => whnf
      refine (f21 a b ha hb).use ⟨DLe.refl _, DLe.refl _, trivial⟩ ?_
      rintro _ rfl
      conv => whnf
      exact rB (by rw [h, h']; rfl)
    · conv => whnf
      exact rB (by rw [h, h']; rfl)
  · conv => whnf
    exact rB (by rw [h]; rfl)

theorem few_bnd {e : El} (h : few e = true) : Bnd 6 e.S := by
  unfold few at h
  rw [Bool.and_eq_true, decide_eq_true_eq, List.all_eq_true] at h
  exact ⟨by omega, fun s hs => by have := of_decide_eq_true (h.2 s hs); omega⟩

theorem f14 (l : List El) (hl : l.length ≤ 1000000) (hb : ∀ e ∈ l, e.S.length ≤ 4611686018427387904) : ACalls cx 14 [dEls l] fun d => d = dB (l.all few) := by
  refine ACalls.eq (ACalls.of_vc (H := {}) cxOk Tryz.func14 (by kernel_rfl) rfl (show _ = 16 from rfl) (by kernel_rfl) rfl ?_)
  conv => whnf
  refine VLoop.inv (N := 16) rfl (ι := Nat) (fun i => i ≤ l.length ∧ ∀ e ∈ l.take i, few e = true) (fun i => [(0, .im (dEls l)), (3, .im (dI i))]) (fun _ => []) (fun i => l.length - i) 0 ⟨Nat.zero_le _, by simp⟩ ⟨⟨ELe.refl _, ELe.refl _, trivial⟩, trivial⟩ ?_
  rintro i ⟨hi, hall⟩
  conv => whnf
  refine ifB.dec (fun h => ?_) (fun h => ?_)
  · conv => whnf
    have hlt : i < l.length := by omega
    have hmem : l.getD i ⟨0, 0, []⟩ ∈ l := by rw [getD_lt hlt]; exact List.getElem_mem hlt
    refine ⟨⟨by omega, by omega⟩, ?_⟩
    conv => whnf
    refine (f51 (l.getD i ⟨0, 0, []⟩) (hb _ hmem)).use ⟨DLe.refl _, DLe.refl _, DLe.refl _, trivial⟩ ?_
    rintro _ rfl
    conv => whnf
    refine ifB.not (ifB.intro (fun h2 => ?_) (fun h2 => ?_))
    · conv => whnf
      refine ⟨⟨by omega, by omega⟩, ?_⟩
      conv => whnf
      refine VNext.by (i + 1) rfl ⟨by omega, fun e he => ?_⟩ (by omega) ⟨⟨ELe.refl _, ELe.refl _, trivial⟩, trivial⟩
      rcases (mem_take_succ (x0 := ⟨0, 0, []⟩) hlt).1 he with h3 | h3
      · exact hall e h3
      · rw [h3]; exact h2
    · conv => whnf
      refine rB (Bool.eq_false_iff.2 fun hc => ?_).symm
      have := List.all_eq_true.1 hc _ hmem
      rw [this] at h2; cases h2
  · conv => whnf
    rw [List.take_of_length_le (by omega)] at hall
    exact rB (List.all_eq_true.2 hall).symm
end Go.Proofs.YtomdjkcoodaheaaGreatDoor
