/-
  The reference on sets: walked.
-/
import Derived.Test.YtomdjkcoodaheaaGreatDoorCa
set_option linter.unusedSectionVars false
set_option linter.unusedSimpArgs false
set_option linter.unusedVariables false
set_option maxRecDepth 10000
set_option maxHeartbeats 4000000
set_option linter.unusedVariables false
set_option linter.unusedSectionVars false
namespace Go.Proofs.YtomdjkcoodaheaaGreatDoor
open Go Go.Vc Sr
variable [Dr]

def insI (x : RId) (l : Ids) (i : Nat) : Ids × Bool := (l.take i).foldl (insStep rlt x) ([], false)
theorem insI_len (x : RId) (l : Ids) (i : Nat) : (insI x l i).1.length ≤ 2 * l.length := by
  have h1 := stepLen (lt := rlt) x (l.take i) ([], false)
  have h2 : (l.take i).length ≤ l.length := by rw [List.length_take]; exact Nat.min_le_right _ _
  unfold insI; simp at h1; omega

theorem f86 (l : Ids) (x : RId) (hl : l.length ≤ 1000000) : ACalls cx 86 [dIds l, dId x] fun d => d = dIds (insR rlt x l) := by
  refine ACalls.eq (ACalls.of_vc (H := { draw := [(8, 11, [])], own := [12] }) cxOk Tryz.func86 (by kernel_rfl) rfl (show _ = 48 from rfl) (by kernel_rfl) rfl ?_)
  conv => whnf
  refine (f89 l x hl).use ⟨DLe.refl _, DLe.refl _, trivial⟩ ?_
  rintro _ rfl
  conv => whnf
  refine ifB.dec (fun h => ?_) (fun h => ?_)
  · conv => whnf
    exact Ret.le (slice_le (by rw [insR, if_pos h]) rfl ptR)
  · conv => whnf
    refine VLoop.inv (N := 48) rfl (ι := Nat) (fun i => i ≤ l.length) (fun i => [(0, .im (dIds l)), (3, .im (.ptr 2 (cId x))), (5, .orow 12), (6, .im (dB (insI x l i).2)), (7, .im (dI i))])
      (fun i => [(12, .row 33 2 (insI x l i).1.length (fIds (insI x l i).1))]) (fun i => l.length - i) 0 (Nat.zero_le _) ⟨⟨ELe.refl _, ELe.refl _, ELe.refl _, ELe.refl _, ELe.refl _, trivial⟩, ⟨row_nil, trivial⟩⟩ ?_
    intro i hi
    conv => whnf
    have hlen := insI_len x l i
    refine ifB.dec (fun h1 => ?_) (fun h1 => ?_)
    · conv => whnf
      have hlt : i < l.length := by omega
      have hst : insI x l (i + 1) = insStep rlt x (insI x l i) (l.getD i (0, 0)) := foldl_take _ hlt _ _
      refine ifB.not (ifB.intro (fun h2 => ?_) (fun h2 => ?_))
      · conv => whnf
        refine ⟨⟨by omega, by omega⟩, ?_⟩
        conv => whnf
        refine ⟨⟨b33 (by omega), one2 rfl rfl⟩, ?_⟩
        conv => whnf
        refine ⟨⟨by omega, by omega⟩, ?_⟩
        conv => whnf
        have hst' : insI x l (i + 1) = ((insI x l i).1 ++ [l.getD i (0, 0)], true) := by rw [hst, insStep, if_neg (by simp [h2]), h2]
        have hb : (insI x l (i + 1)).2 = (insI x l i).2 := by rw [hst', h2]
        refine VNext.by (i + 1) rfl (by omega) (by omega) ⟨⟨ELe.refl _, ELe.refl _, ELe.refl _, eB hb, ELe.refl _, trivial⟩, ⟨?_, trivial⟩⟩
        exact row_le (congrArg Prod.fst hst') (snoc_len rfl) (pt2 rfl ptR (DLe.refl _) (DLe.refl _))
      · conv => whnf
        refine ⟨⟨by omega, by omega⟩, ?_⟩
        conv => whnf
        refine ⟨_, (f121 x (l.getD i (0, 0))).use ⟨DLe.refl _, DLe.refl _, trivial⟩ (fun d h => h), ?_⟩
        conv => whnf
        refine ifB.dec (fun h3 => ?_) (fun h3 => ?_)
        · conv => whnf
          refine ⟨⟨b33 (by omega), one2 rfl rfl⟩, ?_⟩
          conv => whnf
          refine ⟨⟨by omega, by omega⟩, ?_⟩
          conv => whnf
          refine ⟨⟨b33 (by omega), one2 rfl rfl⟩, ?_⟩
          conv => whnf
          refine ⟨⟨by omega, by omega⟩, ?_⟩
          conv => whnf
          have hst' : insI x l (i + 1) = ((insI x l i).1 ++ [x] ++ [l.getD i (0, 0)], true) := by rw [hst, insStep, if_pos ⟨h2, cmp_lt.1 h3⟩]
          have hb : (insI x l (i + 1)).2 = true := by rw [hst']
          refine VNext.by (i + 1) rfl (by omega) (by omega) ⟨⟨ELe.refl _, ELe.refl _, ELe.refl _, eB hb, ELe.refl _, trivial⟩, ⟨?_, trivial⟩⟩
          exact row_le (congrArg Prod.fst hst') (snoc_len (snoc_len rfl)) (pt2 (snoc_len rfl) (pt2 rfl ptR (DLe.refl _) (DLe.refl _)) (DLe.refl _) (DLe.refl _))
        · conv => whnf
          refine ⟨⟨by omega, by omega⟩, ?_⟩
          conv => whnf
          refine ⟨⟨b33 (by omega), one2 rfl rfl⟩, ?_⟩
          conv => whnf
          refine ⟨⟨by omega, by omega⟩, ?_⟩
          conv => whnf
          have hst' : insI x l (i + 1) = ((insI x l i).1 ++ [l.getD i (0, 0)], false) := by rw [hst, insStep, if_neg (by rw [← cmp_lt]; exact fun h => h3 h.2), h2]
          have hb : (insI x l (i + 1)).2 = (insI x l i).2 := by rw [hst', h2]
          refine VNext.by (i + 1) rfl (by omega) (by omega) ⟨⟨ELe.refl _, ELe.refl _, ELe.refl _, eB hb, ELe.refl _, trivial⟩, ⟨?_, trivial⟩⟩
          exact row_le (congrArg Prod.fst hst') (snoc_len rfl) (pt2 rfl ptR (DLe.refl _) (DLe.refl _))
    · conv => whnf
      have hil : i = l.length := by omega
      have hend : insR rlt x l = insEnd x (insI x l i) := by
        rw [insR, if_neg h, hil, insI, List.take_length, insStep_ins x l [] h]; rfl
      refine ifB.not (ifB.intro (fun h2 => ?_) (fun h2 => ?_))
      · conv => whnf
        exact Ret.le (slice_le (hend.trans (by rw [insEnd, if_pos h2])) rfl ptR)
      · conv => whnf
        refine ⟨⟨b33 (by omega), one2 rfl rfl⟩, ?_⟩
        conv => whnf
        refine Ret.le (slice_le (hend.trans (by rw [insEnd, if_neg (by simp [h2])])) (snoc_len rfl) (pt2 rfl ptR (DLe.refl _) (DLe.refl _)))
end Go.Proofs.YtomdjkcoodaheaaGreatDoor

/-
  The reference on sets: walked, second part.
-/
set_option maxRecDepth 10000
set_option maxHeartbeats 4000000
set_option linter.unusedVariables false
set_option linter.unusedSectionVars false
namespace Go.Proofs.YtomdjkcoodaheaaGreatDoor
open Go Go.Vc Sr
variable [Dr]

theorem sIds {l l' : Ids} (h : l' = l) : ELe (.im (dIds l)) (.im (dIds l')) := h ▸ ELe.refl _

theorem f85 (l : Ids) (hl : l.length ≤ 1000000) : ACalls cx 85 [dIds l] fun d => d = dIds (nrm rlt l) := by
  refine ACalls.eq (ACalls.of_vc (H := {}) cxOk Tryz.func85 (by kernel_rfl) rfl (show _ = 19 from rfl) (by kernel_rfl) rfl ?_)
  conv => whnf
  refine VLoop.inv (N := 19) rfl (ι := Nat) (fun i => i ≤ l.length) (fun i => [(0, .im (dIds l)), (3, .im (dIds (nrm rlt (l.take i)))), (4, .im (dI i))]) (fun _ => []) (fun i => l.length - i) 0 (Nat.zero_le _) ⟨⟨ELe.refl _, slice_nil, ELe.refl _, trivial⟩, trivial⟩ ?_
  intro i hi
  conv => whnf
  refine ifB.dec (fun h => ?_) (fun h => ?_)
  · conv => whnf
    have hlt : i < l.length := by omega
    have hb := length_nrm_take (lt := rlt) (l := l) (i := i)
    refine ⟨⟨by omega, by omega⟩, ?_⟩
    conv => whnf
    refine (f86 (nrm rlt (l.take i)) (l.getD i (0, 0)) (by omega)).use ⟨DLe.refl _, DLe.refl _, trivial⟩ ?_
    rintro _ rfl
    conv => whnf
    refine ⟨⟨by omega, by omega⟩, ?_⟩
    conv => whnf
    exact VNext.by (i + 1) rfl (by omega) (by omega) ⟨⟨ELe.refl _, sIds (by rw [insR_nrm rlt_sto, ← take_snoc _ hlt]), ELe.refl _, trivial⟩, trivial⟩
  · conv => whnf
    exact Ret.le (slice_le (by rw [List.take_of_length_le (by omega)]) rfl ptR)

theorem f56 (a b : Ids) (hl : a.length + b.length ≤ 1000000) : ACalls cx 56 [dIds a, dIds b] fun d => d = dIds (nrm rlt (a ++ b)) := by
  refine ACalls.eq (ACalls.of_vc (H := {}) cxOk Tryz.func56 (by kernel_rfl) rfl (show _ = 22 from rfl) (by kernel_rfl) rfl ?_)
  conv => whnf
  refine (f85 a (by omega)).use ⟨DLe.refl _, trivial⟩ ?_
  rintro _ rfl
  conv => whnf
  refine VLoop.inv (N := 22) rfl (ι := Nat) (fun i => i ≤ b.length) (fun i => [(1, .im (dIds b)), (5, .im (dIds (nrm rlt (a ++ b.take i)))), (6, .im (dI i))]) (fun _ => []) (fun i => b.length - i) 0 (Nat.zero_le _) ⟨⟨ELe.refl _, sIds (by simp), ELe.refl _, trivial⟩, trivial⟩ ?_
  intro i hi
  conv => whnf
  refine ifB.dec (fun h => ?_) (fun h => ?_)
  · conv => whnf
    have hlt : i < b.length := by omega
    have hb := length_nrm_le (lt := rlt) (a ++ b.take i)
    have hb2 : (b.take i).length ≤ b.length := by rw [List.length_take]; exact Nat.min_le_right _ _
    rw [List.length_append] at hb
    refine ⟨⟨by omega, by omega⟩, ?_⟩
    conv => whnf
    refine (f86 (nrm rlt (a ++ b.take i)) (b.getD i (0, 0)) (by omega)).use ⟨DLe.refl _, DLe.refl _, trivial⟩ ?_
    rintro _ rfl
    conv => whnf
    refine ⟨⟨by omega, by omega⟩, ?_⟩
    conv => whnf
    exact VNext.by (i + 1) rfl (by omega) (by omega) ⟨⟨ELe.refl _, sIds (by rw [insR_nrm rlt_sto, List.append_assoc, ← take_snoc _ hlt]), ELe.refl _, trivial⟩, trivial⟩
  · conv => whnf
    exact Ret.le (slice_le (by rw [List.take_of_length_le (l := b) (by omega)]) rfl ptR)

theorem f63 (a b : Ids) (hl : a.length ≤ 1000000) (hl' : b.length ≤ 1000000) : ACalls cx 63 [dIds a, dIds b] fun d => d = dIds (nrm rlt (a.filter fun x => !decide (x ∈ b))) := by
  refine ACalls.eq (ACalls.of_vc (H := {}) cxOk Tryz.func63 (by kernel_rfl) rfl (show _ = 28 from rfl) (by kernel_rfl) rfl ?_)
  conv => whnf
  refine VLoop.inv (N := 28) rfl (ι := Nat) (fun i => i ≤ a.length) (fun i => [(0, .im (dIds a)), (1, .im (dIds b)), (5, .im (dIds (nrm rlt ((a.take i).filter fun x => !decide (x ∈ b))))), (6, .im (dI i))]) (fun _ => []) (fun i => a.length - i) 0 (Nat.zero_le _) ⟨⟨ELe.refl _, ELe.refl _, slice_nil, ELe.refl _, trivial⟩, trivial⟩ ?_
  intro i hi
  conv => whnf
  refine ifB.dec (fun h => ?_) (fun h => ?_)
  · conv => whnf
    have hlt : i < a.length := by omega
    have hb := length_nrm_le (lt := rlt) ((a.take i).filter fun x => !decide (x ∈ b))
    have hb2 : (a.take i).length ≤ a.length := by rw [List.length_take]; exact Nat.min_le_right _ _
    have hb3 := List.length_filter_le (fun x => !decide (x ∈ b)) (a.take i)
    have hs := take_snoc (0, 0) hlt
    refine ⟨⟨by omega, by omega⟩, ?_⟩
    conv => whnf
    refine (f89 b (a.getD i (0, 0)) hl').use ⟨DLe.refl _, DLe.refl _, trivial⟩ ?_
    rintro _ rfl
    conv => whnf
    refine ifB.not (ifB.dec (fun h2 => ?_) (fun h2 => ?_))
    · conv => whnf
      refine ⟨⟨by omega, by omega⟩, ?_⟩
      conv => whnf
      exact VNext.by (i + 1) rfl (by omega) (by omega) ⟨⟨ELe.refl _, ELe.refl _, sIds (by rw [hs, List.filter_append]; simp only [List.filter_cons, h2, decide_true, Bool.not_true]; simp), ELe.refl _, trivial⟩, trivial⟩
    · conv => whnf
      refine ⟨⟨by omega, by omega⟩, ?_⟩
      conv => whnf
      refine (f86 (nrm rlt ((a.take i).filter fun x => !decide (x ∈ b))) (a.getD i (0, 0)) (by omega)).use ⟨DLe.refl _, DLe.refl _, trivial⟩ ?_
      rintro _ rfl
      conv => whnf
      refine ⟨⟨by omega, by omega⟩, ?_⟩
      conv => whnf
      exact VNext.by (i + 1) rfl (by omega) (by omega) ⟨⟨ELe.refl _, ELe.refl _, sIds (by rw [insR_nrm rlt_sto, hs, List.filter_append]; simp only [List.filter_cons, h2, decide_false, Bool.not_false]; simp), ELe.refl _, trivial⟩, trivial⟩
  · conv => whnf
    exact Ret.le (slice_le (by rw [List.take_of_length_le (by omega)]) rfl ptR)

theorem f62 (a b : Ids) (hl : a.length ≤ 1000000) (hl' : b.length ≤ 1000000) : ACalls cx 62 [dIds a, dIds b] fun d => d = dB (a.all fun x => decide (x ∈ b)) := by
  refine ACalls.eq (ACalls.of_vc (H := {}) cxOk Tryz.func62 (by kernel_rfl) rfl (show _ = 19 from rfl) (by kernel_rfl) rfl ?_)
  conv => whnf
  refine VLoop.inv (N := 19) rfl (ι := Nat) (fun i => i ≤ a.length ∧ ∀ x ∈ a.take i, x ∈ b) (fun i => [(0, .im (dIds a)), (1, .im (dIds b)), (5, .im (dI i))]) (fun _ => []) (fun i => a.length - i) 0 ⟨Nat.zero_le _, by simp⟩ ⟨⟨ELe.refl _, ELe.refl _, ELe.refl _, trivial⟩, trivial⟩ ?_
  rintro i ⟨hi, hall⟩
  conv => whnf
  refine ifB.dec (fun h => ?_) (fun h => ?_)
  · conv => whnf
    have hlt : i < a.length := by omega
    refine ⟨⟨by omega, by omega⟩, ?_⟩
    conv => whnf
    refine (f89 b (a.getD i (0, 0)) hl').use ⟨DLe.refl _, DLe.refl _, trivial⟩ ?_
    rintro _ rfl
    conv => whnf
    refine ifB.not (ifB.dec (fun h2 => ?_) (fun h2 => ?_))
    · conv => whnf
      refine ⟨⟨by omega, by omega⟩, ?_⟩
      conv => whnf
      exact VNext.by (i + 1) rfl ⟨by omega, fun x hx => by
        rcases (mem_take_succ (x0 := (0, 0)) hlt).1 hx with h3 | h3
        · exact hall x h3
        · rw [h3]; exact h2⟩ (by omega) ⟨⟨ELe.refl _, ELe.refl _, ELe.refl _, trivial⟩, trivial⟩
    · conv => whnf
      refine Ret.le (DLe.of_eq (congrArg dB ?_))
      refine (Bool.eq_false_iff.2 fun hc => h2 ?_).symm
      rw [List.all_eq_true] at hc
      exact of_decide_eq_true (hc _ (by rw [getD_lt hlt]; exact List.getElem_mem hlt))
  · conv => whnf
    refine Ret.le (DLe.of_eq (congrArg dB ?_))
    have : i = a.length := by omega
    subst this
    rw [List.take_length] at hall
    exact (List.all_eq_true.2 fun x hx => decide_eq_true (hall x hx)).symm

theorem take_eq_succ {α : Type} {a b : List α} (x0 : α) {i : Nat} (ha : i < a.length) (hb : i < b.length) : a.take (i + 1) = b.take (i + 1) ↔ a.take i = b.take i ∧ a.getD i x0 = b.getD i x0 := by
  rw [take_snoc x0 ha, take_snoc x0 hb]
  constructor
  · intro h
    have := List.append_inj' h rfl
    exact ⟨this.1, by simpa using this.2⟩
  · rintro ⟨h1, h2⟩; rw [h1, h2]

theorem f64 (a b : Ids) (hl : a.length ≤ 1000000) (hl' : b.length ≤ 1000000) : ACalls cx 64 [dIds a, dIds b] fun d => d = dB (decide (a = b)) := by
  refine ACalls.eq (ACalls.of_vc (H := { draw := [(6, 9, [])] }) cxOk Tryz.func64 (by kernel_rfl) rfl (show _ = 26 from rfl) (by kernel_rfl) rfl ?_)
  conv => whnf
  refine ifB.not (ifB.dec (fun h => ?_) (fun h => ?_))
  · conv => whnf
    have hlen : a.length = b.length := by omega
    refine VLoop.inv (N := 26) rfl (ι := Nat) (fun i => i ≤ a.length ∧ a.take i = b.take i) (fun i => [(0, .im (dIds a)), (1, .im (dIds b)), (5, .im (dI i))]) (fun _ => []) (fun i => a.length - i) 0 ⟨Nat.zero_le _, by simp⟩ ⟨⟨ELe.refl _, ELe.refl _, ELe.refl _, trivial⟩, trivial⟩ ?_
    rintro i ⟨hi, hall⟩
    conv => whnf
    refine ifB.dec (fun h => ?_) (fun h => ?_)
    · conv => whnf
      have hlt : i < a.length := by omega
      refine ⟨⟨by omega, by omega⟩, ?_⟩
      conv => whnf
      refine ⟨⟨by omega, by omega⟩, ?_⟩
      conv => whnf
      have hx := take_eq_succ (0, 0) hlt (show i < b.length by omega)
      refine ifB.not (ifB.and (fun h1 h2 => ?_) (fun h1 => ?_))
      · conv => whnf
        refine ⟨⟨by omega, by omega⟩, ?_⟩
        conv => whnf
        exact VNext.by (i + 1) rfl ⟨by omega, hx.2 ⟨hall, Prod.ext (of_decide_eq_true h1) (of_decide_eq_true h2)⟩⟩ (by omega) ⟨⟨ELe.refl _, ELe.refl _, ELe.refl _, trivial⟩, trivial⟩
      · conv => whnf
        refine Ret.le (DLe.of_eq (congrArg dB (decide_eq_false fun e => ?_).symm))
        subst e
        simp at h1
    · conv => whnf
      refine Ret.le (DLe.of_eq (congrArg dB (decide_eq_true ?_).symm))
      have : i = a.length := by omega
      subst this
      rwa [List.take_length, hlen, List.take_length] at hall
  · conv => whnf
    refine Ret.le (DLe.of_eq (congrArg dB (decide_eq_false fun e => ?_).symm))
    subst e; exact h rfl

theorem f65 (a b : Fam) (ha : Bnd 1000000 a) (hb : Bnd 1000000 b) : ACalls cx 65 [dFam a, dFam b] fun d => d = dB (decide (a = b)) := by
  have hl := ha.1
  have hl' := hb.1
  refine ACalls.eq (ACalls.of_vc (H := { draw := [(6, 10, [])] }) cxOk Tryz.func65 (by kernel_rfl) rfl (show _ = 27 from rfl) (by kernel_rfl) rfl ?_)
  conv => whnf
  refine ifB.not (ifB.dec (fun h => ?_) (fun h => ?_))
  · conv => whnf
    have hlen : a.length = b.length := by omega
    refine VLoop.inv (N := 27) rfl (ι := Nat) (fun i => i ≤ a.length ∧ a.take i = b.take i) (fun i => [(0, .im (dFam a)), (1, .im (dFam b)), (5, .im (dI i))]) (fun _ => []) (fun i => a.length - i) 0 ⟨Nat.zero_le _, by simp⟩ ⟨⟨ELe.refl _, ELe.refl _, ELe.refl _, trivial⟩, trivial⟩ ?_
    rintro i ⟨hi, hall⟩
    conv => whnf
    refine ifB.dec (fun h => ?_) (fun h => ?_)
    · conv => whnf
      have hlt : i < a.length := by omega
      refine ⟨⟨by omega, by omega⟩, ?_⟩
      conv => whnf
      refine ⟨⟨by omega, by omega⟩, ?_⟩
      conv => whnf
      refine ⟨_, (f64 (a.getD i []) (b.getD i []) (ha.at i) (hb.at i)).use ⟨DLe.refl _, DLe.refl _, trivial⟩ (fun d h => h), ?_⟩
      conv => whnf
      have hx := take_eq_succ [] hlt (show i < b.length by omega)
      refine ifB.not (ifB.dec (fun h1 => ?_) (fun h1 => ?_))
      · conv => whnf
        refine ⟨⟨by omega, by omega⟩, ?_⟩
        conv => whnf
        exact VNext.by (i + 1) rfl ⟨by omega, hx.2 ⟨hall, h1⟩⟩ (by omega) ⟨⟨ELe.refl _, ELe.refl _, ELe.refl _, trivial⟩, trivial⟩
      · conv => whnf
        refine Ret.le (DLe.of_eq (congrArg dB (decide_eq_false fun e => ?_).symm))
        subst e
        exact h1 rfl
    · conv => whnf
      refine Ret.le (DLe.of_eq (congrArg dB (decide_eq_true ?_).symm))
      have : i = a.length := by omega
      subst this
      rwa [List.take_length, hlen, List.take_length] at hall
  · conv => whnf
    refine Ret.le (DLe.of_eq (congrArg dB (decide_eq_false fun e => ?_).symm))
    subst e; exact h rfl
end Go.Proofs.YtomdjkcoodaheaaGreatDoor
