/-
  The reference on families: walked.
-/
import Derived.Test.YtomdjkcoodaheaaGreatDoorCb
set_option linter.unusedSectionVars false
set_option linter.unusedSimpArgs false
set_option linter.unusedVariables false
set_option maxRecDepth 10000
set_option maxHeartbeats 4000000
set_option linter.unusedVariables false
set_option linter.unusedSectionVars false
namespace Go.Proofs.YtomdjkcoodaheaaGreatDoor
open Go Go.Vc Sr
variable [Dr]

theorem dIc {a b : Int} (h : a = b) : DLe (dI a) (dI b) := DLe.of_eq (by rw [h])
theorem dBc {a b : Bool} (h : a = b) : DLe (dB a) (dB b) := DLe.of_eq (by rw [h])
theorem sFam {l l' : Fam} (h : l' = l) : ELe (.im (dFam l)) (.im (dFam l')) := h ▸ ELe.refl _
theorem aIdAt {l : Ids} {n m : Nat} (h : n = m) : DLe (dId (l.getD n (0, 0))) (dId (l.getD m (0, 0))) := DLe.of_eq (by rw [h])
theorem aIdsAt {l : Fam} {n m : Nat} (h : n = m) : DLe (dIds (l.getD n [])) (dIds (l.getD m [])) := DLe.of_eq (by rw [h])

theorem drop_cons {α : Type} {l : List α} (x0 : α) {i : Nat} (h : i < l.length) : l.drop i = l.getD i x0 :: l.drop (i + 1) := by
  rw [List.drop_eq_getElem_cons h, getD_lt h]

theorem f120 (a b : Ids) (hl : a.length ≤ 1000000) (hl' : b.length ≤ 1000000) : ACalls cx 120 [dIds a, dIds b] fun d => d = dI (cmpL a b) := by
  refine ACalls.eq (ACalls.of_vc (H := { draw := [(4, 10, [])] }) cxOk Tryz.func120 (by kernel_rfl) rfl (show _ = 41 from rfl) (by kernel_rfl) rfl ?_)
  conv => whnf
  refine VLoop.inv (N := 41) rfl (ι := Nat) (fun i => i ≤ a.length ∧ i ≤ b.length ∧ cmpL a b = cmpL (a.drop i) (b.drop i)) (fun i => [(0, .im (dIds a)), (1, .im (dIds b)), (5, .im (dI i))]) (fun _ => []) (fun i => a.length - i) 0 ⟨Nat.zero_le _, Nat.zero_le _, by simp⟩ ⟨⟨ELe.refl _, ELe.refl _, ELe.refl _, trivial⟩, trivial⟩ ?_
  rintro i ⟨hi, hi', hall⟩
  conv => whnf
  refine ifB.dec (fun h => ?_) (fun h => ?_)
  · conv => whnf
    have hlt : i < a.length := by omega
    refine ifB.dec (fun h2 => ?_) (fun h2 => ?_)
    · conv => whnf
      have hlt' : i < b.length := by omega
      rw [drop_cons (0, 0) hlt, drop_cons (0, 0) hlt', cmpL] at hall
      refine ⟨⟨by omega, by omega⟩, ?_⟩
      conv => whnf
      refine ⟨⟨by omega, by omega⟩, ?_⟩
      conv => whnf
      refine ⟨_, (f121 (a.getD i (0, 0)) (b.getD i (0, 0))).use ⟨DLe.refl _, DLe.refl _, trivial⟩ (fun d h => h), ?_⟩
      conv => whnf
      refine ifB.not (ifB.dec (fun h1 => ?_) (fun h1 => ?_))
      · conv => whnf
        refine ⟨⟨by omega, by omega⟩, ?_⟩
        conv => whnf
        rw [if_pos h1] at hall
        exact VNext.by (i + 1) rfl ⟨by omega, by omega, hall⟩ (by omega) ⟨⟨ELe.refl _, ELe.refl _, ELe.refl _, trivial⟩, trivial⟩
      · conv => whnf
        rw [if_neg h1] at hall
        exact Ret.le (dIc hall.symm)
    · conv => whnf
      have hb : b.drop i = [] := List.drop_eq_nil_of_le (by omega)
      refine ifB.dec (fun h3 => by omega) (fun h3 => ?_)
      conv => whnf
      refine ifB.dec (fun h4 => ?_) (fun h4 => by omega)
      conv => whnf
      exact Ret.le (dIc (by rw [hall, hb, drop_cons (0, 0) hlt]; rfl))
  · conv => whnf
    have ha : a.drop i = [] := List.drop_eq_nil_of_le (by omega)
    refine ifB.dec (fun h3 => ?_) (fun h3 => ?_)
    · conv => whnf
      exact Ret.le (dIc (by rw [hall, ha, drop_cons (0, 0) (show i < b.length by omega)]; rfl))
    · conv => whnf
      refine ifB.dec (fun h4 => by omega) (fun h4 => ?_)
      conv => whnf
      have hb : b.drop i = [] := List.drop_eq_nil_of_le (by omega)
      exact Ret.le (dIc (by rw [hall, ha, hb]; rfl))

theorem f119 (l : Ids) (hl : l.length ≤ 1000000) : ACalls cx 119 [dIds l] fun d => d = dB (decide (IsSet l)) := by
  refine ACalls.eq (ACalls.of_vc (H := { draw := [(4, 11, [])] }) cxOk Tryz.func119 (by kernel_rfl) rfl (show _ = 21 from rfl) (by kernel_rfl) rfl ?_)
  conv => whnf
  refine VLoop.inv (N := 21) rfl (ι := Nat) (fun i => 1 ≤ i ∧ (i ≤ l.length ∨ i = 1) ∧ (l.take i).Pairwise rlt) (fun i => [(0, .im (dIds l)), (3, .im (dI i))]) (fun _ => []) (fun i => l.length - i) 1 ⟨Nat.le_refl _, .inr rfl, by cases l <;> simp⟩ ⟨⟨ELe.refl _, ELe.refl _, trivial⟩, trivial⟩ ?_
  rintro i ⟨hi, hi', hall⟩
  conv => whnf
  refine ifB.dec (fun h => ?_) (fun h => ?_)
  · conv => whnf
    have hlt : i < l.length := by omega
    have hs := adj_succ (0, 0) hlt hall rlt_sto
    refine ⟨⟨by omega, by omega⟩, ?_⟩
    conv => whnf
    refine ⟨⟨by omega, by omega⟩, ?_⟩
    conv => whnf
    refine ⟨⟨by omega, by omega⟩, ?_⟩
    conv => whnf
    refine ⟨_, (f121 (l.getD (i - 1) (0, 0)) (l.getD i (0, 0))).use ⟨aIdAt (by omega), DLe.refl _, trivial⟩ (fun d h => h), ?_⟩
    conv => whnf
    refine ifB.dec (fun h1 => ?_) (fun h1 => ?_)
    · conv => whnf
      refine Ret.le (dBc (decide_eq_false fun hc => ?_).symm)
      have h2 := hs.1 (hc.sublist (List.take_sublist _ _)) (by omega)
      have := cmp_lt.2 h2; omega
    · conv => whnf
      refine ⟨⟨by omega, by omega⟩, ?_⟩
      conv => whnf
      exact VNext.by (i + 1) rfl ⟨by omega, .inl (by omega), hs.2 fun _ => cmp_lt.1 (by omega)⟩ (by omega) ⟨⟨ELe.refl _, ELe.refl _, trivial⟩, trivial⟩
  · conv => whnf
    refine Ret.le (dBc (decide_eq_true ?_).symm)
    rwa [List.take_of_length_le (by omega)] at hall

theorem f78 (l : Fam) (hb : Bnd 1000000 l) : ACalls cx 78 [dFam l] fun d => d = dB (decide (IsFam l)) := by
  have hl := hb.1
  refine ACalls.eq (ACalls.of_vc (H := { draw := [(4, 23, [])] }) cxOk Tryz.func78 (by kernel_rfl) rfl (show _ = 33 from rfl) (by kernel_rfl) rfl ?_)
  conv => whnf
  refine VLoop.inv (N := 33) rfl (ι := Nat) (fun i => i ≤ l.length ∧ (∀ s ∈ l.take i, IsSet s) ∧ (l.take i).Pairwise slt) (fun i => [(0, .im (dFam l)), (3, .im (dI i))]) (fun _ => []) (fun i => l.length - i) 0 ⟨Nat.zero_le _, by simp, by simp⟩ ⟨⟨ELe.refl _, ELe.refl _, trivial⟩, trivial⟩ ?_
  rintro i ⟨hi, hset, hall⟩
  conv => whnf
  refine ifB.dec (fun h => ?_) (fun h => ?_)
  · conv => whnf
    have hlt : i < l.length := by omega
    have hs := adj_succ [] hlt hall slt_sto
    have hmem : l.getD i [] ∈ l := by rw [getD_lt hlt]; exact List.getElem_mem hlt
    refine ⟨⟨by omega, by omega⟩, ?_⟩
    conv => whnf
    refine ⟨_, (f119 (l.getD i []) (hb.at i)).use ⟨DLe.refl _, trivial⟩ (fun d h => h), ?_⟩
    conv => whnf
    refine ifB.not (ifB.dec (fun h1 => ?_) (fun h1 => ?_))
    · conv => whnf
      have hset' : ∀ s ∈ l.take (i + 1), IsSet s := fun s hs => by
        rcases (mem_take_succ (x0 := []) hlt).1 hs with h3 | h3
        · exact hset s h3
        · rw [h3]; exact h1
      refine ifB.dec (fun h2 => ?_) (fun h2 => ?_)
      · conv => whnf
        refine ⟨⟨by omega, by omega⟩, ?_⟩
        conv => whnf
        refine ⟨⟨by omega, by omega⟩, ?_⟩
        conv => whnf
        refine ⟨⟨by omega, by omega⟩, ?_⟩
        conv => whnf
        refine ⟨_, (f120 (l.getD (i - 1) []) (l.getD i []) (hb.at _) (hb.at _)).use ⟨aIdsAt (by omega), DLe.refl _, trivial⟩ (fun d h => h), ?_⟩
        conv => whnf
        refine ifB.dec (fun h3 => ?_) (fun h3 => ?_)
        · conv => whnf
          refine Ret.le (dBc (decide_eq_false fun hc => ?_).symm)
          have h4 := hs.1 (hc.2.sublist (List.take_sublist _ _)) (by omega)
          unfold slt at h4; omega
        · conv => whnf
          refine ⟨⟨by omega, by omega⟩, ?_⟩
          conv => whnf
          exact VNext.by (i + 1) rfl ⟨by omega, hset', hs.2 fun _ => by unfold slt; omega⟩ (by omega) ⟨⟨ELe.refl _, ELe.refl _, trivial⟩, trivial⟩
      · conv => whnf
        refine ⟨⟨by omega, by omega⟩, ?_⟩
        conv => whnf
        exact VNext.by (i + 1) rfl ⟨by omega, hset', hs.2 fun _ => by omega⟩ (by omega) ⟨⟨ELe.refl _, ELe.refl _, trivial⟩, trivial⟩
    · conv => whnf
      exact Ret.le (dBc (decide_eq_false fun hc => h1 (hc.1 _ hmem)).symm)
  · conv => whnf
    refine Ret.le (dBc (decide_eq_true ?_).symm)
    rw [List.take_of_length_le (by omega)] at hall hset
    exact ⟨hset, hall⟩

theorem f84 (l : Fam) (n m : Int) (hl : l.length ≤ 4611686018427387904) : ACalls cx 84 [dFam l, dI n, dI m] fun d => d = dB (decide ((l.length : Int) ≤ n) && l.all fun s => decide ((s.length : Int) ≤ m)) := by
  refine ACalls.eq (ACalls.of_vc (H := {}) cxOk Tryz.func84 (by kernel_rfl) rfl (show _ = 25 from rfl) (by kernel_rfl) rfl ?_)
  conv => whnf
  refine ifB.dec (fun h => ?_) (fun h => ?_)
  · conv => whnf
    exact Ret.le (dBc (by rw [decide_eq_false (by omega)]; rfl))
  · conv => whnf
    refine VLoop.inv (N := 25) rfl (ι := Nat) (fun i => i ≤ l.length ∧ ∀ s ∈ l.take i, (s.length : Int) ≤ m) (fun i => [(0, .im (dFam l)), (2, .im (dI m)), (7, .im (dI i))]) (fun _ => []) (fun i => l.length - i) 0 ⟨Nat.zero_le _, by simp⟩ ⟨⟨ELe.refl _, ELe.refl _, ELe.refl _, trivial⟩, trivial⟩ ?_
    rintro i ⟨hi, hall⟩
    conv => whnf
    refine ifB.dec (fun h1 => ?_) (fun h1 => ?_)
    · conv => whnf
      have hlt : i < l.length := by omega
      have hmem : l.getD i [] ∈ l := by rw [getD_lt hlt]; exact List.getElem_mem hlt
      refine ⟨⟨by omega, by omega⟩, ?_⟩
      conv => whnf
      refine ifB.dec (fun h2 => ?_) (fun h2 => ?_)
      · conv => whnf
        refine Ret.le (dBc ?_)
        refine (Bool.eq_false_iff.2 fun hc => ?_).symm
        rw [Bool.and_eq_true, List.all_eq_true] at hc
        have := of_decide_eq_true (hc.2 _ hmem)
        have e : (↑(l.getD (↑i : Int).toNat []).length : Int) > m := h2
        rw [show (↑i : Int).toNat = i by omega] at e
        omega
      · conv => whnf
        refine ⟨⟨by omega, by omega⟩, ?_⟩
        conv => whnf
        refine VNext.by (i + 1) rfl ⟨by omega, fun s hs => ?_⟩ (by omega) ⟨⟨ELe.refl _, ELe.refl _, ELe.refl _, trivial⟩, trivial⟩
        rcases (mem_take_succ (x0 := []) hlt).1 hs with h3 | h3
        · exact hall s h3
        · have e : ¬ (↑(l.getD (↑i : Int).toNat []).length : Int) > m := h2
          rw [show (↑i : Int).toNat = i by omega] at e
          rw [h3]; omega
    · conv => whnf
      rw [List.take_of_length_le (by omega)] at hall
      refine Ret.le (dBc ?_)
      rw [decide_eq_true (by omega), Bool.true_and]
      exact (List.all_eq_true.2 fun s hs => decide_eq_true (hall s hs)).symm
end Go.Proofs.YtomdjkcoodaheaaGreatDoor

/-
  The reference on families: walked, second part.
-/
set_option maxRecDepth 10000
set_option maxHeartbeats 4000000
set_option linter.unusedVariables false
set_option linter.unusedSectionVars false
namespace Go.Proofs.YtomdjkcoodaheaaGreatDoor
open Go Go.Vc Sr
variable [Dr]

def insS (x : Ids) (l : Fam) (i : Nat) : Fam × Bool := (l.take i).foldl (insStep slt x) ([], false)
theorem insS_len (x : Ids) (l : Fam) (i : Nat) : (insS x l i).1.length ≤ 2 * l.length := by
  have h1 := stepLen (lt := slt) x (l.take i) ([], false)
  have h2 : (l.take i).length ≤ l.length := by rw [List.length_take]; exact Nat.min_le_right _ _
  unfold insS; simp at h1; omega

theorem f88 (l : Fam) (x : Ids) (hb : Bnd 1000000 l) (hx : x.length ≤ 1000000) : ACalls cx 88 [dFam l, dIds x] fun d => d = dFam (insR slt x l) := by
  have hl := hb.1
  refine ACalls.eq (ACalls.of_vc (H := { own := [9] }) cxOk Tryz.func88 (by kernel_rfl) rfl (show _ = 49 from rfl) (by kernel_rfl) rfl ?_)
  conv => whnf
  refine VLoop.inv (N := 49) rfl (ι := Nat) (fun i => i ≤ l.length ∧ x ∉ l.take i) (fun i => [(0, .im (dFam l)), (1, .im (dIds x)), (5, .orow 9), (6, .im (dB (insS x l i).2)), (7, .im (dI i))])
    (fun i => [(9, .row 34 1 (insS x l i).1.length (fFam (insS x l i).1))]) (fun i => l.length - i) 0 ⟨Nat.zero_le _, by simp⟩ ⟨⟨ELe.refl _, ELe.refl _, ELe.refl _, ELe.refl _, ELe.refl _, trivial⟩, ⟨row_nil, trivial⟩⟩ ?_
  rintro i ⟨hi, hno⟩
  conv => whnf
  have hlen := insS_len x l i
  refine ifB.dec (fun h1 => ?_) (fun h1 => ?_)
  · conv => whnf
    have hlt : i < l.length := by omega
    have hmem : l.getD i [] ∈ l := by rw [getD_lt hlt]; exact List.getElem_mem hlt
    have hst : insS x l (i + 1) = insStep slt x (insS x l i) (l.getD i []) := foldl_take _ hlt _ _
    refine ⟨⟨by omega, by omega⟩, ?_⟩
    conv => whnf
    refine (f120 x (l.getD i []) hx (hb.at i)).use ⟨DLe.refl _, DLe.refl _, trivial⟩ ?_
    rintro _ rfl
    conv => whnf
    refine ifB.dec (fun h2 => ?_) (fun h2 => ?_)
    · conv => whnf
      exact Ret.le (slice_le (by rw [insR, if_pos (by rw [cmpL_eq.1 h2]; exact hmem)]) rfl ptR)
    · conv => whnf
      have hno' : x ∉ l.take (i + 1) := fun hc => by
        rcases (mem_take_succ (x0 := []) hlt).1 hc with h3 | h3
        · exact hno h3
        · exact h2 (cmpL_eq.2 h3)
      refine ifB.not (ifB.intro (fun h3 => ?_) (fun h3 => ?_))
      · conv => whnf
        refine ⟨⟨by omega, by omega⟩, ?_⟩
        conv => whnf
        refine ⟨⟨b34 (by omega), one1 rfl⟩, ?_⟩
        conv => whnf
        refine ⟨⟨by omega, by omega⟩, ?_⟩
        conv => whnf
        have hst' : insS x l (i + 1) = ((insS x l i).1 ++ [l.getD i []], true) := by rw [hst, insStep, if_neg (by simp [h3]), h3]
        have hb : (insS x l (i + 1)).2 = (insS x l i).2 := by rw [hst', h3]
        refine VNext.by (i + 1) rfl ⟨by omega, hno'⟩ (by omega) ⟨⟨ELe.refl _, ELe.refl _, ELe.refl _, eB hb, ELe.refl _, trivial⟩, ⟨?_, trivial⟩⟩
        exact row_le (congrArg Prod.fst hst') (snoc_len rfl) (pt1 rfl ptR (DLe.refl _))
      · conv => whnf
        refine ifB.dec (fun h4 => ?_) (fun h4 => ?_)
        · conv => whnf
          refine ⟨⟨b34 (by omega), one1 rfl⟩, ?_⟩
          conv => whnf
          refine ⟨⟨by omega, by omega⟩, ?_⟩
          conv => whnf
          refine ⟨⟨b34 (by omega), one1 rfl⟩, ?_⟩
          conv => whnf
          refine ⟨⟨by omega, by omega⟩, ?_⟩
          conv => whnf
          have hst' : insS x l (i + 1) = ((insS x l i).1 ++ [x] ++ [l.getD i []], true) := by rw [hst, insStep, if_pos ⟨h3, h4⟩]
          have hb : (insS x l (i + 1)).2 = true := by rw [hst']
          refine VNext.by (i + 1) rfl ⟨by omega, hno'⟩ (by omega) ⟨⟨ELe.refl _, ELe.refl _, ELe.refl _, eB hb, ELe.refl _, trivial⟩, ⟨?_, trivial⟩⟩
          exact row_le (congrArg Prod.fst hst') (snoc_len (snoc_len rfl)) (pt1 (snoc_len rfl) (pt1 rfl ptR (DLe.refl _)) (DLe.refl _))
        · conv => whnf
          refine ⟨⟨by omega, by omega⟩, ?_⟩
          conv => whnf
          refine ⟨⟨b34 (by omega), one1 rfl⟩, ?_⟩
          conv => whnf
          refine ⟨⟨by omega, by omega⟩, ?_⟩
          conv => whnf
          have hst' : insS x l (i + 1) = ((insS x l i).1 ++ [l.getD i []], false) := by rw [hst, insStep, if_neg (fun h => h4 h.2), h3]
          have hb : (insS x l (i + 1)).2 = (insS x l i).2 := by rw [hst', h3]
          refine VNext.by (i + 1) rfl ⟨by omega, hno'⟩ (by omega) ⟨⟨ELe.refl _, ELe.refl _, ELe.refl _, eB hb, ELe.refl _, trivial⟩, ⟨?_, trivial⟩⟩
          exact row_le (congrArg Prod.fst hst') (snoc_len rfl) (pt1 rfl ptR (DLe.refl _))
  · conv => whnf
    have hil : i = l.length := by omega
    rw [hil, List.take_length] at hno
    have hend : insR slt x l = insEnd x (insS x l i) := by
      rw [insR, if_neg hno, hil, insS, List.take_length, insStep_ins x l [] hno]; rfl
    refine ifB.not (ifB.intro (fun h2 => ?_) (fun h2 => ?_))
    · conv => whnf
      exact Ret.le (slice_le (hend.trans (by rw [insEnd, if_pos h2])) rfl ptR)
    · conv => whnf
      refine ⟨⟨b34 (by omega), one1 rfl⟩, ?_⟩
      conv => whnf
      exact Ret.le (slice_le (hend.trans (by rw [insEnd, if_neg (by simp [h2])])) (snoc_len rfl) (pt1 rfl ptR (DLe.refl _)))

theorem Bnd.map_nrm {n : Nat} {l : Fam} (h : Bnd n l) : Bnd n (l.map (nrm rlt)) := ⟨by rw [List.length_map]; exact h.1, fun s hs => by
  obtain ⟨t, ht, rfl⟩ := List.mem_map.1 hs
  have := length_nrm_le (lt := rlt) t; have := h.2 t ht; omega⟩
theorem f87 (l : Fam) (hb : Bnd 1000000 l) : ACalls cx 87 [dFam l] fun d => d = dFam (fam l) := by
  have hl := hb.1
  refine ACalls.eq (ACalls.of_vc (H := {}) cxOk Tryz.func87 (by kernel_rfl) rfl (show _ = 20 from rfl) (by kernel_rfl) rfl ?_)
  conv => whnf
  refine VLoop.inv (N := 20) rfl (ι := Nat) (fun i => i ≤ l.length) (fun i => [(0, .im (dFam l)), (3, .im (dFam (fam (l.take i)))), (4, .im (dI i))]) (fun _ => []) (fun i => l.length - i) 0 (Nat.zero_le _) ⟨⟨ELe.refl _, slice_nil, ELe.refl _, trivial⟩, trivial⟩ ?_
  intro i hi
  conv => whnf
  refine ifB.dec (fun h => ?_) (fun h => ?_)
  · conv => whnf
    have hlt : i < l.length := by omega
    have hn := length_nrm_le (lt := rlt) (l.getD i [])
    have hg := hb.at i
    refine ⟨⟨by omega, by omega⟩, ?_⟩
    conv => whnf
    refine (f85 (l.getD i []) hg).use ⟨DLe.refl _, trivial⟩ ?_
    rintro _ rfl
    conv => whnf
    refine (f88 (fam (l.take i)) (nrm rlt (l.getD i [])) (hb.take i).fam (by omega)).use ⟨DLe.refl _, DLe.refl _, trivial⟩ ?_
    rintro _ rfl
    conv => whnf
    refine ⟨⟨by omega, by omega⟩, ?_⟩
    conv => whnf
    exact VNext.by (i + 1) rfl (by omega) (by omega) ⟨⟨ELe.refl _, sFam (by rw [fam, fam, insR_nrm slt_sto, take_snoc [] hlt, List.map_append]; rfl), ELe.refl _, trivial⟩, trivial⟩
  · conv => whnf
    exact Ret.le (slice_le (by rw [List.take_of_length_le (by omega)]) rfl ptR)

theorem f59 (a b : Fam) (ha : IsFam a) (hb : Bnd 500000 a) (hb' : Bnd 500000 b) : ACalls cx 59 [dFam a, dFam b] fun d => d = dFam (nrm slt (a ++ b)) := by
  have hl := hb.1
  have hl' := hb'.1
  refine ACalls.eq (ACalls.of_vc (H := {}) cxOk Tryz.func59 (by kernel_rfl) rfl (show _ = 21 from rfl) (by kernel_rfl) rfl ?_)
  conv => whnf
  refine VLoop.inv (N := 21) rfl (ι := Nat) (fun i => i ≤ b.length) (fun i => [(1, .im (dFam b)), (5, .im (dFam (nrm slt (a ++ b.take i)))), (6, .im (dI i))]) (fun _ => []) (fun i => b.length - i) 0 (Nat.zero_le _)
    ⟨⟨ELe.refl _, sFam (by simp [nrm_of_sorted slt_sto ha.2]), ELe.refl _, trivial⟩, trivial⟩ ?_
  intro i hi
  conv => whnf
  refine ifB.dec (fun h => ?_) (fun h => ?_)
  · conv => whnf
    have hlt : i < b.length := by omega
    have hg := hb'.at i
    have hbb : Bnd 1000000 (nrm slt (a ++ b.take i)) := Bnd.nrm ⟨by rw [List.length_append, List.length_take]; omega, fun s hs => by
      rcases List.mem_append.1 hs with h1 | h1
      · have := hb.2 s h1; omega
      · have := hb'.2 s (List.mem_of_mem_take h1); omega⟩
    refine ⟨⟨by omega, by omega⟩, ?_⟩
    conv => whnf
    refine (f88 (nrm slt (a ++ b.take i)) (b.getD i []) hbb (by omega)).use ⟨DLe.refl _, DLe.refl _, trivial⟩ ?_
    rintro _ rfl
    conv => whnf
    refine ⟨⟨by omega, by omega⟩, ?_⟩
    conv => whnf
    exact VNext.by (i + 1) rfl (by omega) (by omega) ⟨⟨ELe.refl _, sFam (by rw [insR_nrm slt_sto, List.append_assoc, ← take_snoc [] hlt]), ELe.refl _, trivial⟩, trivial⟩
  · conv => whnf
    exact Ret.le (slice_le (by rw [List.take_of_length_le (l := b) (by omega)]) rfl ptR)
end Go.Proofs.YtomdjkcoodaheaaGreatDoor

/-
  The reference on families: walked, third part.
-/
set_option maxRecDepth 10000
set_option maxHeartbeats 4000000
set_option linter.unusedVariables false
set_option linter.unusedSectionVars false
namespace Go.Proofs.YtomdjkcoodaheaaGreatDoor
open Go Go.Vc Sr
variable [Dr]

def lst (a : Fam) (i k : Nat) : Bool := decide (∀ k', k' < k → k' ≠ i → sub (a.getD k' []) (a.getD i []) = false)
theorem lst_same {a : Fam} {i k : Nat} (h : k ≠ i → sub (a.getD k []) (a.getD i []) = false) : lst a i (k + 1) = lst a i k := by
  unfold lst
  rw [decide_eq_decide]
  constructor
  · intro h1 k' hk' hne; exact h1 k' (by omega) hne
  · intro h1 k' hk' hne
    by_cases e : k' = k
    · subst e; exact h hne
    · exact h1 k' (by omega) hne
theorem lst_false {a : Fam} {i k : Nat} (h : k ≠ i) (h' : sub (a.getD k []) (a.getD i []) = true) : lst a i (k + 1) = false := by
  unfold lst
  rw [decide_eq_false_iff_not]
  intro h1
  have := h1 k (by omega) h
  rw [h'] at this; cases this
theorem filter_take {α : Type} {l : List α} (x0 : α) {i : Nat} (h : i < l.length) (p : α → Bool) : (l.take (i + 1)).filter p = (l.take i).filter p ++ (if p (l.getD i x0) then [l.getD i x0] else []) := by
  rw [take_snoc x0 h, List.filter_append]
  congr 1
  simp only [List.filter_cons, List.filter_nil]

theorem f58 (l : Fam) (hb : Bnd 1000000 l) : ACalls cx 58 [dFam l] fun d => d = dFam (minF l) := by
  refine ACalls.eq (ACalls.of_vc (H := { draw := [(10, 14, [])], own := [10] }) cxOk Tryz.func58 (by kernel_rfl) rfl (show _ = 46 from rfl) (by kernel_rfl) rfl ?_)
  conv => whnf
  refine (f87 l hb).use ⟨DLe.refl _, trivial⟩ ?_
  rintro _ rfl
  conv => whnf
  have hba := hb.fam
  have hl := hba.1
  have hnd : (fam l).Nodup := sorted_nodup slt_sto (sorted_nrm slt_sto _)
  rw [minF]
  generalize fam l = a at *
  refine VLoop.inv (N := 46) rfl (ι := Nat) (fun i => i ≤ a.length) (fun i => [(3, .im (dFam a)), (4, .orow 10), (5, .im (dI i))])
    (fun i => [(10, .row 34 1 ((a.take i).filter (least a)).length (fFam ((a.take i).filter (least a))))]) (fun i => a.length - i) 0 (Nat.zero_le _) ⟨⟨ELe.refl _, ELe.refl _, ELe.refl _, trivial⟩, ⟨row_nil, trivial⟩⟩ ?_
  intro i hi
  conv => whnf
  refine ifB.dec (fun h => ?_) (fun h => ?_)
  · conv => whnf
    have hlt : i < a.length := by omega
    have hft := filter_take [] hlt (least a)
    have hfl : ((a.take i).filter (least a)).length ≤ a.length := by
      have h1 := List.length_filter_le (least a) (a.take i)
      rw [List.length_take] at h1; omega
    refine VLoop.inv (N := 46) rfl (ι := Nat) (fun k => k ≤ a.length) (fun k => [(3, .im (dFam a)), (4, .orow 10), (5, .im (dI i)), (6, .im (dB (lst a i k))), (7, .im (dI k))])
      (fun k => [(10, .row 34 1 ((a.take i).filter (least a)).length (fFam ((a.take i).filter (least a))))]) (fun k => a.length - k) 0 (Nat.zero_le _) ⟨⟨ELe.refl _, ELe.refl _, ELe.refl _, eB (by simp [lst]), ELe.refl _, trivial⟩, ⟨ObLe.refl _, trivial⟩⟩ ?_
    intro k hk
    conv => whnf
    refine ifB.dec (fun h1 => ?_) (fun h1 => ?_)
    · conv => whnf
      have hkt : k < a.length := by omega
      refine ifB.not (ifB.dec (fun h2 => ?_) (fun h2 => ?_))
      · conv => whnf
        refine ⟨⟨by omega, by omega⟩, ?_⟩
        conv => whnf
        exact VNext.by (k + 1) rfl (by omega) (by omega) ⟨⟨ELe.refl _, ELe.refl _, ELe.refl _, eB (lst_same fun hc => absurd (by omega) hc), ELe.refl _, trivial⟩, ⟨ObLe.refl _, trivial⟩⟩
      · conv => whnf
        refine ⟨⟨by omega, by omega⟩, ?_⟩
        conv => whnf
        refine ⟨⟨by omega, by omega⟩, ?_⟩
        conv => whnf
        refine ⟨_, (f62 (a.getD k []) (a.getD i []) (hba.at k) (hba.at i)).use ⟨DLe.refl _, DLe.refl _, trivial⟩ (fun d h => h), ?_⟩
        conv => whnf
        refine ifB.intro (fun h3 => ?_) (fun h3 => ?_)
        · conv => whnf
          refine ⟨⟨by omega, by omega⟩, ?_⟩
          conv => whnf
          exact VNext.by (k + 1) rfl (by omega) (by omega) ⟨⟨ELe.refl _, ELe.refl _, ELe.refl _, eB (lst_false (by omega) h3), ELe.refl _, trivial⟩, ⟨ObLe.refl _, trivial⟩⟩
        · conv => whnf
          refine ⟨⟨by omega, by omega⟩, ?_⟩
          conv => whnf
          exact VNext.by (k + 1) rfl (by omega) (by omega) ⟨⟨ELe.refl _, ELe.refl _, ELe.refl _, eB (lst_same fun _ => h3), ELe.refl _, trivial⟩, ⟨ObLe.refl _, trivial⟩⟩
    · conv => whnf
      have hkl : k = a.length := by omega
      have hle : least a (a.getD i []) = lst a i k := by rw [least_ix hnd hlt, lst, hkl]
      refine ifB.intro (fun h2 => ?_) (fun h2 => ?_)
      · conv => whnf
        refine ⟨⟨by omega, by omega⟩, ?_⟩
        conv => whnf
        refine ⟨⟨b34 (by omega), one1 rfl⟩, ?_⟩
        conv => whnf
        refine ⟨⟨by omega, by omega⟩, ?_⟩
        conv => whnf
        refine VNext.by (i + 1) rfl (by omega) (by omega) ⟨⟨ELe.refl _, ELe.refl _, ELe.refl _, trivial⟩, ⟨?_, trivial⟩⟩
        exact row_le (l := (a.take i).filter (least a) ++ [a.getD i []]) (by rw [hft, if_pos (by rw [hle, h2])]) (snoc_len rfl) (pt1 rfl ptR (DLe.refl _))
      · conv => whnf
        refine ⟨⟨by omega, by omega⟩, ?_⟩
        conv => whnf
        refine VNext.by (i + 1) rfl (by omega) (by omega) ⟨⟨ELe.refl _, ELe.refl _, ELe.refl _, trivial⟩, ⟨?_, trivial⟩⟩
        exact row_le (by rw [hft, if_neg (by rw [hle, h2]; simp), List.append_nil]) rfl ptR
  · conv => whnf
    exact Ret.le (slice_le (by rw [List.take_of_length_le (by omega)]) rfl ptR)

/-- The unions so far. -/
def prs (a b : Fam) (i k : Nat) : Fam := ((a.take i).flatMap fun x => b.map fun y => nrm rlt (x ++ y)) ++ (b.take k).map fun y => nrm rlt (a.getD i [] ++ y)
theorem prs_next {a b : Fam} {i : Nat} (h : i < a.length) : prs a b i b.length = prs a b (i + 1) 0 := by
  unfold prs
  rw [take_snoc [] h, List.flatMap_append, List.take_length]
  simp
theorem prs_step {a b : Fam} {i k : Nat} (h : k < b.length) : prs a b i (k + 1) = prs a b i k ++ [nrm rlt (a.getD i [] ++ b.getD k [])] := by
  unfold prs
  rw [take_snoc [] h, List.map_append, List.append_assoc]; rfl
theorem prs_bnd {a b : Fam} {i k : Nat} (ha : Bnd 700 a) (hb : Bnd 700 b) : Bnd 1000000 (prs a b i k) := by
  have hfl : ∀ (l : Fam), (l.flatMap fun x => b.map fun y => nrm rlt (x ++ y)).length = l.length * b.length := by
    intro l
    induction l with
    | nil => simp
    | cons x xs ih => rw [List.flatMap_cons, List.length_append, List.length_map, ih, List.length_cons, Nat.add_mul, Nat.one_mul, Nat.add_comm]
  have hun : ∀ x y : Ids, x.length ≤ 700 → y.length ≤ 700 → (nrm rlt (x ++ y)).length ≤ 1000000 := fun x y hx hy => by
    have := length_nrm_le (lt := rlt) (x ++ y)
    rw [List.length_append] at this; omega
  refine ⟨?_, fun s hs => ?_⟩
  · unfold prs
    rw [List.length_append, hfl, List.length_map, List.length_take, List.length_take]
    have h1 := ha.1
    have h2 := hb.1
    have : min i a.length * b.length ≤ 700 * 700 := Nat.mul_le_mul (by omega) h2
    omega
  · rcases List.mem_append.1 hs with h | h
    · obtain ⟨x, hx, h⟩ := List.mem_flatMap.1 h
      obtain ⟨y, hy, rfl⟩ := List.mem_map.1 h
      exact hun x y (ha.2 x (List.mem_of_mem_take hx)) (hb.2 y hy)
    · obtain ⟨y, hy, rfl⟩ := List.mem_map.1 h
      exact hun _ y (ha.at i) (hb.2 y (List.mem_of_mem_take hy))

theorem f60 (a b : Fam) (ha : Bnd 700 a) (hb : Bnd 700 b) : ACalls cx 60 [dFam a, dFam b] fun d => d = dFam (prod a b) := by
  have hl := ha.1
  have hl' := hb.1
  refine ACalls.eq (ACalls.of_vc (H := { draw := [(8, 11, [])] }) cxOk Tryz.func60 (by kernel_rfl) rfl (show _ = 33 from rfl) (by kernel_rfl) rfl ?_)
  conv => whnf
  refine VLoop.inv (N := 33) rfl (ι := Nat) (fun i => i ≤ a.length) (fun i => [(0, .im (dFam a)), (1, .im (dFam b)), (5, .im (dFam (nrm slt (prs a b i 0)))), (6, .im (dI i))]) (fun _ => []) (fun i => a.length - i) 0 (Nat.zero_le _)
    ⟨⟨ELe.refl _, ELe.refl _, slice_nil, ELe.refl _, trivial⟩, trivial⟩ ?_
  intro i hi
  conv => whnf
  refine ifB.dec (fun h => ?_) (fun h => ?_)
  · conv => whnf
    have hlt : i < a.length := by omega
    refine VLoop.inv (N := 33) rfl (ι := Nat) (fun k => k ≤ b.length) (fun k => [(0, .im (dFam a)), (1, .im (dFam b)), (5, .im (dFam (nrm slt (prs a b i k)))), (6, .im (dI i)), (7, .im (dI k))]) (fun _ => []) (fun k => b.length - k) 0 (Nat.zero_le _)
      ⟨⟨ELe.refl _, ELe.refl _, ELe.refl _, ELe.refl _, ELe.refl _, trivial⟩, trivial⟩ ?_
    intro k hk
    conv => whnf
    refine ifB.dec (fun h1 => ?_) (fun h1 => ?_)
    · conv => whnf
      have hkt : k < b.length := by omega
      have h2 := ha.at i
      have h3 := hb.at k
      have h4 := length_nrm_le (lt := rlt) (a.getD i [] ++ b.getD k [])
      rw [List.length_append] at h4
      refine ⟨⟨by omega, by omega⟩, ?_⟩
      conv => whnf
      refine ⟨⟨by omega, by omega⟩, ?_⟩
      conv => whnf
      refine ⟨_, (f56 (a.getD i []) (b.getD k []) (by omega)).use ⟨DLe.refl _, DLe.refl _, trivial⟩ (fun d h => h), ?_⟩
      conv => whnf
      refine ⟨_, (f88 (nrm slt (prs a b i k)) (nrm rlt (a.getD i [] ++ b.getD k [])) (prs_bnd ha hb).nrm (by omega)).use ⟨DLe.refl _, DLe.refl _, trivial⟩ (fun d h => h), ?_⟩
      conv => whnf
      refine ⟨⟨by omega, by omega⟩, ?_⟩
      conv => whnf
      exact VNext.by (k + 1) rfl (by omega) (by omega) ⟨⟨ELe.refl _, ELe.refl _, sFam (by rw [insR_nrm slt_sto, prs_step hkt]), ELe.refl _, ELe.refl _, trivial⟩, trivial⟩
    · conv => whnf
      have hkl : k = b.length := by omega
      refine ⟨⟨by omega, by omega⟩, ?_⟩
      conv => whnf
      exact VNext.by (i + 1) rfl (by omega) (by omega) ⟨⟨ELe.refl _, ELe.refl _, sFam (by rw [hkl, prs_next hlt]), ELe.refl _, trivial⟩, trivial⟩
  · conv => whnf
    exact Ret.le (slice_le (by rw [prod, prs, List.take_of_length_le (by omega)]; simp) rfl ptR)
end Go.Proofs.YtomdjkcoodaheaaGreatDoor
