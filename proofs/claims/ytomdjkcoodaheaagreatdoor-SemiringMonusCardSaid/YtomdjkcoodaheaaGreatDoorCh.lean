/-
  Package rowset: comparing, looking for elements.
-/
import Derived.Test.YtomdjkcoodaheaaGreatDoorCg
import Derived.Test.YtomdjkcoodaheaaGreatDoorPc
set_option linter.unusedSectionVars false
set_option linter.unusedSimpArgs false
set_option linter.unusedVariables false
set_option maxRecDepth 10000
set_option maxHeartbeats 4000000
set_option linter.unusedVariables false
set_option linter.unusedSimpArgs false
set_option linter.unusedSectionVars false
namespace Go.Proofs.YtomdjkcoodaheaaGreatDoor
open Go Go.Vc Sr
variable [Dr]

theorem DLes.app {l l' r : List D} (h : DLes l l') : DLes (l ++ r) (l' ++ r) := by
  induction l generalizing l' with
  | nil => cases l' with
    | nil => induction r with
      | nil => trivial
      | cons d r ih => exact ⟨DLe.refl _, ih⟩
    | cons => exact h.elim
  | cons d l ih => cases l' with
    | nil => exact h.elim
    | cons d' l' => exact ⟨h.1, ih h.2⟩
def cN (x : Int) (_ : Nat) : D := dI x
def dNs (l : List Int) : D := .slice 1 l.length (rowF cN 0 l)
theorem f228 (n : Int) : ACalls cx 228 [dI n] fun d => d = dB false := by
  refine ACalls.eq (ACalls.of_vc (H := {}) cxOk Tryz.func228 (by kernel_rfl) rfl (show _ = 6 from rfl) (by kernel_rfl) rfl ?_)
  conv => whnf
  exact rB (by simp)
theorem f198 (a b : Int) : ACalls cx 198 [dI a, dI b] fun d => d = dI (icmp a b) := by
  refine ACalls.eq (ACalls.of_vc (H := {}) cxOk Tryz.func198 (by kernel_rfl) rfl (show _ = 20 from rfl) (by kernel_rfl) rfl ?_)
  conv => whnf
  refine (f228 a).use ⟨DLe.refl _, trivial⟩ ?_
  rintro _ rfl
  conv => whnf
  refine (f228 b).use ⟨DLe.refl _, trivial⟩ ?_
  rintro _ rfl
  conv => whnf
  refine ifB.dec (fun h => ?_) (fun h => ?_)
  · conv => whnf
    exact rI (by rw [icmp, if_pos h])
  · conv => whnf
    refine ifB.dec (fun h2 => ?_) (fun h2 => ?_)
    · conv => whnf
      exact rI (by rw [icmp, if_neg h, if_pos h2])
    · conv => whnf
      exact rI (by rw [icmp, if_neg h, if_neg h2])
theorem f197 (l : List Int) (hl : l.length ≤ 1000000) : ACalls cx 197 [dNs l] fun d => d = dI (orI l) := by
  refine ACalls.eq (ACalls.of_vc (H := {}) cxOk Tryz.func197 (by kernel_rfl) rfl (show _ = 18 from rfl) (by kernel_rfl) rfl ?_)
  conv => whnf
  refine VLoop.inv (N := 18) rfl (ι := Nat) (fun i => i ≤ l.length ∧ orI l = orI (l.drop i)) (fun i => [(3, .im (dI 0)), (6, .im (dNs l)), (7, .im (dI l.length)), (8, .im (dI i))]) (fun _ => []) (fun i => l.length - i) 0 ⟨Nat.zero_le _, rfl⟩ ⟨⟨ELe.refl _, ELe.refl _, ELe.refl _, ELe.refl _, trivial⟩, trivial⟩ ?_
  rintro i ⟨hi, hd⟩
  conv => whnf
  refine ifB.dec (fun h => ?_) (fun h => ?_)
  · conv => whnf
    have hlt : i < l.length := by omega
    refine ⟨⟨by omega, by omega⟩, ?_⟩
    conv => whnf
    have hn : orI (l.drop i) = if l.getD i 0 = 0 then orI (l.drop (i + 1)) else l.getD i 0 := by rw [List.drop_eq_getElem_cons hlt, orI, getD_lt hlt]
    refine ifB.not (ifB.dec (fun h1 => ?_) (fun h1 => ?_))
    · conv => whnf
      refine ⟨⟨by omega, by omega⟩, ?_⟩
      conv => whnf
      exact VNext.by (i + 1) rfl ⟨by omega, by rw [hd, hn, if_pos (show l.getD i 0 = 0 from h1)]⟩ (by omega) ⟨⟨ELe.refl _, ELe.refl _, ELe.refl _, ELe.refl _, trivial⟩, trivial⟩
    · conv => whnf
      exact rI (by rw [hd, hn, if_neg (show ¬ l.getD i 0 = 0 from h1)]; rfl)
  · conv => whnf
    exact rI (by rw [hd, List.drop_eq_nil_of_le (by omega)]; rfl)
theorem ns2 {f : Nat → Nat → D} {x y : Int} (h0 : DLe (f 0 0) (dI x)) (h1 : DLe (f 1 0) (dI y)) : DLe (.slice 1 2 f) (dNs [x, y]) := DLe.slice fun i j hi hj => by
  obtain rfl : j = 0 := by omega
  rcases i with _ | _ | i
  · exact h0
  · exact h1
  · omega
theorem f166 (a b : RId) : ACalls cx 166 [dId a, dId b] fun d => d = dI (cmp a b) := by
  refine ACalls.eq (ACalls.of_vc (H := { draw := [(1, 13, [])] }) cxOk Tryz.func166 (by kernel_rfl) rfl (show _ = 17 from rfl) (by kernel_rfl) rfl ?_)
  conv => whnf
  refine ⟨_, (f198 a.1 b.1).use ⟨DLe.refl _, DLe.refl _, trivial⟩ (fun d h => h), ?_⟩
  conv => whnf
  refine ⟨_, (f198 a.2 b.2).use ⟨DLe.refl _, DLe.refl _, trivial⟩ (fun d h => h), ?_⟩
  conv => whnf
  refine ⟨_, (f197 [icmp a.1 b.1, icmp a.2 b.2] (by simp)).use ⟨ns2 (DLe.refl _) (DLe.refl _), trivial⟩ (fun d h => h), ?_⟩
  conv => whnf
  exact rI (orI_cmp a b)
theorem f165 (a b : Ids) (ha : a.length ≤ 1000000) (hb : b.length ≤ 1000000) : ACalls cx 165 [dIds a, dIds b, dF 166] fun d => d = dI (cmpL a b) := by
  refine ACalls.eq (ACalls.of_vc (H := { own := [8, 9] }) cxOk Tryz.func165 (by kernel_rfl) rfl (show _ = 39 from rfl) (by kernel_rfl) rfl ?_)
  conv => whnf
  refine VLoop.inv (N := 39) rfl (ι := Nat) (fun i => i ≤ a.length ∧ i ≤ b.length ∧ cmpL a b = cmpL (a.drop i) (b.drop i)) (fun i => [(0, .im (dIds a)), (1, .im (dIds b)), (2, .im (dF 166)), (11, .im (dIds a)), (12, .im (dI a.length)), (13, .im (dI i))]) (fun _ => []) (fun i => a.length - i) 0 ⟨Nat.zero_le _, Nat.zero_le _, rfl⟩ ⟨⟨ELe.refl _, ELe.refl _, ELe.refl _, ELe.refl _, ELe.refl _, ELe.refl _, trivial⟩, trivial⟩ ?_
  rintro i ⟨hi, hi2, hd⟩
  conv => whnf
  refine ifB.dec (fun h => ?_) (fun h => ?_)
  · conv => whnf
    have hlt : i < a.length := by omega
    refine ⟨⟨by omega, by omega⟩, ?_⟩
    conv => whnf
    refine ifB.dec (fun h1 => ?_) (fun h1 => ?_)
    · conv => whnf
      exact rI (by rw [hd, show b.drop i = [] from List.drop_eq_nil_of_le (by omega), cmpL_end, if_neg (by intro e; have := congrArg List.length e; simp at this; omega)])
    · conv => whnf
      have hlt2 : i < b.length := by omega
      refine ⟨⟨by omega, by omega⟩, ?_⟩
      conv => whnf
      refine (f166 (a.getD i (0, 0)) (b.getD i (0, 0))).use ⟨agg2 (DLe.refl _) (DLe.refl _), agg2 (DLe.refl _) (DLe.refl _), trivial⟩ ?_
      rintro _ rfl
      conv => whnf
      have hn := cmpL_drop hlt hlt2
      refine ifB.not (ifB.dec (fun h2 => ?_) (fun h2 => ?_))
      · conv => whnf
        refine ⟨⟨by omega, by omega⟩, ?_⟩
        conv => whnf
        exact VNext.by (i + 1) rfl ⟨by omega, by omega, by rw [hd, hn, if_pos h2]⟩ (by omega) ⟨⟨ELe.refl _, ELe.refl _, ELe.refl _, ELe.refl _, ELe.refl _, ELe.refl _, trivial⟩, trivial⟩
      · conv => whnf
        exact rI (by rw [hd, hn, if_neg h2])
  · conv => whnf
    have e : i = a.length := by omega
    subst e
    rw [List.drop_length] at hd
    refine ifB.dec (fun h1 => ?_) (fun h1 => ?_)
    · conv => whnf
      refine rI ?_
      rw [hd]
      cases hb' : b.drop a.length with
      | nil => have := congrArg List.length hb'; simp at this; omega
      | cons y ys => rfl
    · conv => whnf
      exact rI (by rw [hd, List.drop_eq_nil_of_le (by omega)]; rfl)
theorem f200 (a b : Ids) (ha : a.length ≤ 1000000) (hb : b.length ≤ 1000000) : ACalls cx 200 [dIds a, dIds b] fun d => d = dI (cmpL a b) := by
  refine ACalls.eq (ACalls.of_vc (H := {}) cxOk Tryz.func200 (by kernel_rfl) rfl (show _ = 8 from rfl) (by kernel_rfl) rfl ?_)
  conv => whnf
  refine (f165 a b ha hb).use ⟨DLe.refl _, DLe.refl _, DLe.refl _, trivial⟩ ?_
  rintro _ rfl
  conv => whnf
  exact rI rfl
theorem f202 (a b : Ids) (ha : a.length ≤ 1000000) (hb : b.length ≤ 1000000) : ACalls cx 202 [dIds a, dIds b] fun d => d = dB (decide (a = b)) := by
  refine ACalls.eq (ACalls.of_vc (H := {}) cxOk Tryz.func202 (by kernel_rfl) rfl (show _ = 8 from rfl) (by kernel_rfl) rfl ?_)
  conv => whnf
  refine (f115 a b ha hb).use ⟨DLe.refl _, DLe.refl _, trivial⟩ ?_
  rintro _ rfl
  conv => whnf
  exact rB rfl
theorem f213 (l : Ids) (x : RId) (hl : l.length ≤ 1000000) : ACalls cx 213 [dIds l, dId x] fun d => d = dI (idx (fun y => decide (x = y)) l) := by
  refine ACalls.eq (ACalls.of_vc (H := { draw := [(4, 6, [])] }) cxOk Tryz.func213 (by kernel_rfl) rfl (show _ = 19 from rfl) (by kernel_rfl) rfl ?_)
  conv => whnf
  refine VLoop.inv (N := 19) rfl (ι := Nat) (fun i => i ≤ l.length ∧ ∀ y ∈ l.take i, decide (x = y) = false) (fun i => [(0, .im (dIds l)), (3, .im (.ptr 2 (cId x))), (6, .im (dIds l)), (7, .im (dI l.length)), (8, .im (dI i))]) (fun _ => []) (fun i => l.length - i) 0 ⟨Nat.zero_le _, by simp⟩ ⟨⟨ELe.refl _, ELe.refl _, ELe.refl _, ELe.refl _, ELe.refl _, trivial⟩, trivial⟩ ?_
  rintro i ⟨hi, hall⟩
  conv => whnf
  refine ifB.dec (fun h => ?_) (fun h => ?_)
  · conv => whnf
    have hlt : i < l.length := by omega
    refine ⟨⟨by omega, by omega⟩, ?_⟩
    conv => whnf
    refine ifB.and (fun h1 h2 => ?_) (fun h1 => ?_)
    · conv => whnf
      exact rI (idx_hit (0, 0) hlt (decide_eq_true (Prod.ext (of_decide_eq_true h1) (of_decide_eq_true h2))) hall).symm
    · conv => whnf
      refine ⟨⟨by omega, by omega⟩, ?_⟩
      conv => whnf
      refine VNext.by (i + 1) rfl ⟨by omega, fun y hy => ?_⟩ (by omega) ⟨⟨ELe.refl _, ELe.refl _, ELe.refl _, ELe.refl _, ELe.refl _, trivial⟩, trivial⟩
      rcases (mem_take_succ (x0 := (0, 0)) hlt).1 hy with q | q
      · exact hall y q
      · refine decide_eq_false fun e => ?_
        rw [q] at e
        have h1' : (decide (x.1 = (l.getD i (0, 0)).1) && decide (x.2 = (l.getD i (0, 0)).2)) = false := h1
        rw [← e] at h1'
        simp at h1'
  · conv => whnf
    refine rI (idx_miss fun y hy => hall y ?_).symm
    rwa [List.take_of_length_le (by omega)]
theorem f179 (l : Ids) (x : RId) (hl : l.length ≤ 1000000) : ACalls cx 179 [dIds l, dId x] fun d => d = dB (decide (x ∈ l)) := by
  refine ACalls.eq (ACalls.of_vc (H := {}) cxOk Tryz.func179 (by kernel_rfl) rfl (show _ = 9 from rfl) (by kernel_rfl) rfl ?_)
  conv => whnf
  refine (f213 l x hl).use ⟨DLe.refl _, DLe.refl _, trivial⟩ ?_
  rintro _ rfl
  conv => whnf
  exact rB (by rw [idx_any, Bool.eq_iff_iff, List.any_eq_true, decide_eq_true_eq]; simp)
theorem f178 (l : Ids) (x : RId) (hl : l.length ≤ 1000000) : ACalls cx 178 [dId x, .ptr 1 fun _ => dIds l] fun d => d = dB (decide (x ∈ l)) := by
  refine ACalls.eq (ACalls.of_vc (H := {}) cxOk Tryz.func178 (by kernel_rfl) rfl (show _ = 7 from rfl) (by kernel_rfl) rfl ?_)
  conv => whnf
  refine (f179 l x hl).use ⟨DLe.refl _, DLe.refl _, trivial⟩ ?_
  rintro _ rfl
  conv => whnf
  exact rB rfl
theorem f196 {g n : Nat} {cf : Nat → D} {p : RId → Bool} (l : Ids) (hl : l.length ≤ 1000000) (hp : ∀ x ∈ l, ACalls cx g ([dId x] ++ capD n cf) fun d => d = dB (p x)) : ACalls cx 196 [dIds l, .func g n cf] fun d => d = dI (idx p l) := by
  refine ACalls.eq (ACalls.of_vc (H := {}) cxOk Tryz.func196 (by kernel_rfl) rfl (show _ = 19 from rfl) (by kernel_rfl) rfl ?_)
  conv => whnf
  refine VLoop.inv (N := 19) rfl (ι := Nat) (fun i => i ≤ l.length ∧ ∀ y ∈ l.take i, p y = false) (fun i => [(0, .im (dIds l)), (1, .im (.func g n cf)), (6, .im (dIds l)), (7, .im (dI l.length)), (8, .im (dI i))]) (fun _ => []) (fun i => l.length - i) 0 ⟨Nat.zero_le _, by simp⟩ ⟨⟨ELe.refl _, ELe.refl _, ELe.refl _, ELe.refl _, ELe.refl _, trivial⟩, trivial⟩ ?_
  rintro i ⟨hi, hall⟩
  conv => whnf
  refine ifB.dec (fun h => ?_) (fun h => ?_)
  · conv => whnf
    have hlt : i < l.length := by omega
    refine ⟨⟨by omega, by omega⟩, ?_⟩
    conv => whnf
    refine (hp (l.getD i (0, 0)) (by rw [getD_lt hlt]; exact List.getElem_mem hlt)).use (DLes.app ⟨DLe.refl _, trivial⟩) ?_
    rintro _ rfl
    conv => whnf
    refine ifB.intro (fun h1 => ?_) (fun h1 => ?_)
    · conv => whnf
      exact rI (idx_hit (0, 0) hlt h1 hall).symm
    · conv => whnf
      refine ⟨⟨by omega, by omega⟩, ?_⟩
      conv => whnf
      refine VNext.by (i + 1) rfl ⟨by omega, fun y hy => ?_⟩ (by omega) ⟨⟨ELe.refl _, ELe.refl _, ELe.refl _, ELe.refl _, ELe.refl _, trivial⟩, trivial⟩
      rcases (mem_take_succ (x0 := (0, 0)) hlt).1 hy with q | q
      · exact hall y q
      · rw [q]; exact h1
  · conv => whnf
    refine rI (idx_miss fun y hy => hall y ?_).symm
    rwa [List.take_of_length_le (by omega)]
theorem f169 {g n : Nat} {cf : Nat → D} {p : Ids → Bool} (l : Fam) (hl : l.length ≤ 1000000) (hp : ∀ x ∈ l, ACalls cx g ([dIds x] ++ capD n cf) fun d => d = dB (p x)) : ACalls cx 169 [dFam l, .func g n cf] fun d => d = dI (idx p l) := by
  refine ACalls.eq (ACalls.of_vc (H := {}) cxOk Tryz.func169 (by kernel_rfl) rfl (show _ = 19 from rfl) (by kernel_rfl) rfl ?_)
  conv => whnf
  refine VLoop.inv (N := 19) rfl (ι := Nat) (fun i => i ≤ l.length ∧ ∀ y ∈ l.take i, p y = false) (fun i => [(0, .im (dFam l)), (1, .im (.func g n cf)), (6, .im (dFam l)), (7, .im (dI l.length)), (8, .im (dI i))]) (fun _ => []) (fun i => l.length - i) 0 ⟨Nat.zero_le _, by simp⟩ ⟨⟨ELe.refl _, ELe.refl _, ELe.refl _, ELe.refl _, ELe.refl _, trivial⟩, trivial⟩ ?_
  rintro i ⟨hi, hall⟩
  conv => whnf
  refine ifB.dec (fun h => ?_) (fun h => ?_)
  · conv => whnf
    have hlt : i < l.length := by omega
    refine ⟨⟨by omega, by omega⟩, ?_⟩
    conv => whnf
    refine (hp (l.getD i []) (by rw [getD_lt hlt]; exact List.getElem_mem hlt)).use (DLes.app ⟨DLe.refl _, trivial⟩) ?_
    rintro _ rfl
    conv => whnf
    refine ifB.intro (fun h1 => ?_) (fun h1 => ?_)
    · conv => whnf
      exact rI (idx_hit [] hlt h1 hall).symm
    · conv => whnf
      refine ⟨⟨by omega, by omega⟩, ?_⟩
      conv => whnf
      refine VNext.by (i + 1) rfl ⟨by omega, fun y hy => ?_⟩ (by omega) ⟨⟨ELe.refl _, ELe.refl _, ELe.refl _, ELe.refl _, ELe.refl _, trivial⟩, trivial⟩
      rcases (mem_take_succ (x0 := []) hlt).1 hy with q | q
      · exact hall y q
      · rw [q]; exact h1
  · conv => whnf
    refine rI (idx_miss fun y hy => hall y ?_).symm
    rwa [List.take_of_length_le (by omega)]
theorem f214 {g n : Nat} {cf : Nat → D} {p : Int → Bool} (l : List Int) (hl : l.length ≤ 1000000) (hp : ∀ x ∈ l, ACalls cx g ([dI x] ++ capD n cf) fun d => d = dB (p x)) : ACalls cx 214 [dNs l, .func g n cf] fun d => d = dI (idx p l) := by
  refine ACalls.eq (ACalls.of_vc (H := {}) cxOk Tryz.func214 (by kernel_rfl) rfl (show _ = 19 from rfl) (by kernel_rfl) rfl ?_)
  conv => whnf
  refine VLoop.inv (N := 19) rfl (ι := Nat) (fun i => i ≤ l.length ∧ ∀ y ∈ l.take i, p y = false) (fun i => [(0, .im (dNs l)), (1, .im (.func g n cf)), (6, .im (dNs l)), (7, .im (dI l.length)), (8, .im (dI i))]) (fun _ => []) (fun i => l.length - i) 0 ⟨Nat.zero_le _, by simp⟩ ⟨⟨ELe.refl _, ELe.refl _, ELe.refl _, ELe.refl _, ELe.refl _, trivial⟩, trivial⟩ ?_
  rintro i ⟨hi, hall⟩
  conv => whnf
  refine ifB.dec (fun h => ?_) (fun h => ?_)
  · conv => whnf
    have hlt : i < l.length := by omega
    refine ⟨⟨by omega, by omega⟩, ?_⟩
    conv => whnf
    refine (hp (l.getD i 0) (by rw [getD_lt hlt]; exact List.getElem_mem hlt)).use (DLes.app ⟨DLe.refl _, trivial⟩) ?_
    rintro _ rfl
    conv => whnf
    refine ifB.intro (fun h1 => ?_) (fun h1 => ?_)
    · conv => whnf
      exact rI (idx_hit 0 hlt h1 hall).symm
    · conv => whnf
      refine ⟨⟨by omega, by omega⟩, ?_⟩
      conv => whnf
      refine VNext.by (i + 1) rfl ⟨by omega, fun y hy => ?_⟩ (by omega) ⟨⟨ELe.refl _, ELe.refl _, ELe.refl _, ELe.refl _, ELe.refl _, trivial⟩, trivial⟩
      rcases (mem_take_succ (x0 := 0) hlt).1 hy with q | q
      · exact hall y q
      · rw [q]; exact h1
  · conv => whnf
    refine rI (idx_miss fun y hy => hall y ?_).symm
    rwa [List.take_of_length_le (by omega)]
theorem f162 {g n : Nat} {cf : Nat → D} {p : RId → Bool} (l : Ids) (hl : l.length ≤ 1000000) (hp : ∀ x ∈ l, ACalls cx g ([dId x] ++ capD n cf) fun d => d = dB (p x)) : ACalls cx 162 [dIds l, .func g n cf] fun d => d = dB (l.any p) := by
  refine ACalls.eq (ACalls.of_vc (H := {}) cxOk Tryz.func162 (by kernel_rfl) rfl (show _ = 9 from rfl) (by kernel_rfl) rfl ?_)
  conv => whnf
  refine (f196 l hl hp).use ⟨DLe.refl _, DLe.refl _, trivial⟩ ?_
  rintro _ rfl
  conv => whnf
  exact rB (idx_any p l)
theorem f150 {g n : Nat} {cf : Nat → D} {p : Ids → Bool} (l : Fam) (hl : l.length ≤ 1000000) (hp : ∀ x ∈ l, ACalls cx g ([dIds x] ++ capD n cf) fun d => d = dB (p x)) : ACalls cx 150 [dFam l, .func g n cf] fun d => d = dB (l.any p) := by
  refine ACalls.eq (ACalls.of_vc (H := {}) cxOk Tryz.func150 (by kernel_rfl) rfl (show _ = 9 from rfl) (by kernel_rfl) rfl ?_)
  conv => whnf
  refine (f169 l hl hp).use ⟨DLe.refl _, DLe.refl _, trivial⟩ ?_
  rintro _ rfl
  conv => whnf
  exact rB (idx_any p l)
theorem f181 {g n : Nat} {cf : Nat → D} {p : Int → Bool} (l : List Int) (hl : l.length ≤ 1000000) (hp : ∀ x ∈ l, ACalls cx g ([dI x] ++ capD n cf) fun d => d = dB (p x)) : ACalls cx 181 [dNs l, .func g n cf] fun d => d = dB (l.any p) := by
  refine ACalls.eq (ACalls.of_vc (H := {}) cxOk Tryz.func181 (by kernel_rfl) rfl (show _ = 9 from rfl) (by kernel_rfl) rfl ?_)
  conv => whnf
  refine (f214 l hl hp).use ⟨DLe.refl _, DLe.refl _, trivial⟩ ?_
  rintro _ rfl
  conv => whnf
  exact rB (idx_any p l)
end Go.Proofs.YtomdjkcoodaheaaGreatDoor

/-
  Package slices: Compact, CompactFunc, DeleteFunc: in place.
-/
set_option maxRecDepth 10000
set_option maxHeartbeats 4000000
set_option linter.unusedVariables false
set_option linter.unusedSimpArgs false
set_option linter.unusedSectionVars false
namespace Go.Proofs.YtomdjkcoodaheaaGreatDoor
open Go Go.Vc Sr
variable [Dr]

/-- The row holds r, then what l holds from there on. -/
def mixF (r l : Ids) : Nat → Nat → D := fun i j => cId (mix (0, 0) r l i) j
theorem mix_row {r l : Ids} {f : Nat → Nat → D} {n : Nat} (h : ∀ i j, i < n → j < 2 → DLe (f i j) (fIds l i j)) (hr : ∀ i, i < n → mix (0, 0) r l i = l.getD i (0, 0)) : ObLe (.row 33 2 n f) (.row 33 2 n (mixF r l)) :=
  ⟨rfl, rfl, rfl, fun i j hi hj => by unfold mixF; rw [hr i hi]; exact h i j hi hj⟩
theorem mix_put {r l : Ids} {n k : Nat} {x : RId} {g : Nat → E} (h0 : DLe (imD (g 0)) (cId x 0)) (h1 : DLe (imD (g 1)) (cId x 1)) (hk : k = r.length) :
    ObLe (.row 33 2 n (putF k 0 2 g (mixF r l))) (.row 33 2 n (mixF (r ++ [x]) l)) :=
  ⟨rfl, rfl, rfl, fun i j hi hj => by
    unfold putF mixF
    rw [mix_snoc]
    by_cases e : i = k
    · rw [if_pos e, if_pos (by omega), if_pos (by omega)]
      rcases j with _ | _ | j
      · exact h0
      · exact h1
      · omega
    · rw [if_neg e, if_neg (by omega)]; exact DLe.refl _⟩
theorem mix_same {r r' l : Ids} {n : Nat} (h : r = r') : ObLe (.row 33 2 n (mixF r l)) (.row 33 2 n (mixF r' l)) := h ▸ ObLe.refl _
theorem mix_ret {r l l' : Ids} {n k : Nat} {z : Value} (h : l' = r) (hk : k = r.length) : RIds l' k (clearF z k n (mixF r l)) := by
  subst h
  refine ⟨hk, fun i j hi hj => ?_⟩
  unfold clearF mixF
  rw [if_neg (by omega), mix_lt (by omega)]
  exact DLe.refl _
theorem a195 (l : Ids) (hl : l.length ≤ 1000000) (f : Nat → Nat → D) (hf : ∀ i j, i < l.length → j < 2 → DLe (f i j) (fIds l i j)) : ATR cx 195 33 2 l.length f [] (RIds (cp l)) := by
  have hcp1 : ∀ k, k ≤ l.length → k < 2 → cp (l.take k) = l.take k := fun k hk h2 => cp_id' (0, 0) hk fun i h0 h1 => by omega
  refine ATR.of_vc (H := { draw := [(6, 10, []), (11, 10, [])] }) cxOk Tryz.func195 (by kernel_rfl) rfl (show _ = 61 from rfl) (by kernel_rfl) rfl ?_
  conv => whnf
  refine ifB.dec (fun h => ?_) (fun h => ?_)
  · conv => whnf
    have := hcp1 l.length (Nat.le_refl _) (by omega)
    rw [List.take_length] at this
    exact ⟨by rw [this]; exact ⟨rfl, hf⟩⟩
  · conv => whnf
    have h2n : 2 ≤ l.length := by omega
    refine VLoop.inv (N := 61) rfl (ι := Nat) (fun k => 1 ≤ k ∧ k ≤ l.length ∧ ∀ i, 0 < i → i < k → l.getD i (0, 0) ≠ l.getD (i - 1) (0, 0)) (fun k => [(0, .orow 0), (3, .im (dI k))]) (fun _ => [(0, .row 33 2 l.length (mixF [] l))]) (fun k => l.length - k) 1 ⟨Nat.le_refl _, by omega, fun i h0 h1 => by omega⟩ ⟨⟨ELe.refl _, ELe.refl _, trivial⟩, ⟨mix_row hf (fun i hi => mix_ge (Nat.zero_le _)), trivial⟩⟩ ?_
    rintro k ⟨hk1, hk, hne⟩
    conv => whnf
    refine ifB.dec (fun h => ?_) (fun h => ?_)
    · conv => whnf
      have hlt : k < l.length := by omega
      refine ⟨⟨by omega, by omega⟩, by omega, ?_⟩
      conv => whnf
      refine ⟨⟨by omega, by omega⟩, ?_⟩
      conv => whnf
      refine ⟨⟨by omega, by omega⟩, by omega, ?_⟩
      conv => whnf
      have m1 : mix (0, 0) [] l k = l.getD k (0, 0) := mix_ge (Nat.zero_le _)
      have m2 : mix (0, 0) [] l (k - 1) = l.getD (k - 1) (0, 0) := mix_ge (Nat.zero_le _)
      have e1 : ((k : Int) - 1).toNat = k - 1 := by omega
      refine ifB.and (fun h1 h2 => ?_) (fun h1 => ?_)
      · conv => whnf
        have heq : l.getD k (0, 0) = l.getD (k - 1) (0, 0) := by
          have q1 := of_decide_eq_true h1; have q2 := of_decide_eq_true h2
          rw [e1] at q1 q2
          rw [← m1, ← m2]
          exact Prod.ext q1 q2
        have hr0 : cp (l.take (k + 1)) = l.take k := by
          rw [cp_step (0, 0) (by omega) hlt, if_pos heq]; exact cp_id' (0, 0) hk hne
        have hkl : (l.take k).length = k := by rw [List.length_take]; omega
        refine ⟨⟨by omega, by omega⟩, ?_⟩
        conv => whnf
        refine VLoop.inv (N := 61) rfl (ι := Nat) (fun q => 1 ≤ q ∧ k + q ≤ l.length ∧ (cp (l.take (k + q))).length < k + q) (fun q => [(0, .orow 0), (3, .im (dI (cp (l.take (k + q))).length)), (4, .osub 0 2 k (l.length - k)), (5, .im (dI q))]) (fun q => [(0, .row 33 2 l.length (mixF (cp (l.take (k + q))) l))]) (fun q => l.length - k - q) 1 ⟨Nat.le_refl _, by omega, by rw [hr0, hkl]; omega⟩ ⟨⟨ELe.refl _, eS (fun q => .im (dI q)) (by rw [hr0, hkl]), ELe.refl _, ELe.refl _, trivial⟩, ⟨mix_row (f := mixF [] l) (fun i j hi hj => by unfold mixF; rw [mix_ge (Nat.zero_le _)]; exact DLe.refl _) (fun i hi => by rw [hr0]; exact mix_take i hk), trivial⟩⟩ ?_
        rintro q ⟨hq1, hq, hrl⟩
        have hrn : (cp (l.take (k + q))).length ≤ l.length := by omega
        conv => whnf
        refine ifB.dec (fun h => ?_) (fun h => ?_)
        · conv => whnf
          have hlt2 : k + q < l.length := by omega
          refine ⟨⟨by omega, by omega⟩, by omega, ?_⟩
          conv => whnf
          refine ⟨⟨by omega, by omega⟩, ?_⟩
          conv => whnf
          have e2 : k + ((q : Int) - 1).toNat = k + q - 1 := by omega
          refine ⟨⟨by omega, by omega⟩, by omega, ?_⟩
          conv => whnf
          have m3 : mix (0, 0) (cp (l.take (k + q))) l (k + q) = l.getD (k + q) (0, 0) := mix_ge (by omega)
          have m4 : mix (0, 0) (cp (l.take (k + q))) l (k + q - 1) = l.getD (k + q - 1) (0, 0) := mix_ge (by omega)
          have hst := cp_step (0, 0) (show 0 < k + q by omega) hlt2
          refine ifB.not (ifB.and (fun h1 h2 => ?_) (fun h1 => ?_))
          · conv => whnf
            have heq2 : l.getD (k + q) (0, 0) = l.getD (k + q - 1) (0, 0) := by
              have q1 := of_decide_eq_true h1; have q2 := of_decide_eq_true h2
              rw [e2] at q1 q2
              rw [← m3, ← m4]
              exact Prod.ext q1 q2
            rw [if_pos heq2] at hst
            refine ⟨⟨by omega, by omega⟩, ?_⟩
            conv => whnf
            exact VNext.by (q + 1) rfl ⟨by omega, by omega, by rw [← Nat.add_assoc, hst]; omega⟩ (by omega) ⟨⟨ELe.refl _, eS (fun q => .im (dI q)) (by rw [← Nat.add_assoc, hst]), ELe.refl _, ELe.refl _, trivial⟩, ⟨mix_same (by rw [← Nat.add_assoc, hst]), trivial⟩⟩
          · conv => whnf
            have hne2 : ¬ l.getD (k + q) (0, 0) = l.getD (k + q - 1) (0, 0) := fun e => by
              have h1' : (decide ((mix (0, 0) (cp (l.take (k + q))) l (k + q)).1 = (mix (0, 0) (cp (l.take (k + q))) l (k + ((q : Int) - 1).toNat)).1) && decide ((mix (0, 0) (cp (l.take (k + q))) l (k + q)).2 = (mix (0, 0) (cp (l.take (k + q))) l (k + ((q : Int) - 1).toNat)).2)) = false := h1
              rw [e2, m3, m4, e] at h1'
              simp at h1'
            rw [if_neg hne2] at hst
            refine ⟨⟨by omega, by omega⟩, by omega, ?_⟩
            conv => whnf
            refine ⟨⟨by omega, by omega⟩, by omega, ?_⟩
            conv => whnf
            refine ⟨⟨by omega, by omega⟩, ?_⟩
            conv => whnf
            refine ⟨⟨by omega, by omega⟩, ?_⟩
            conv => whnf
            exact VNext.by (q + 1) rfl ⟨by omega, by omega, by rw [← Nat.add_assoc, hst]; simp; omega⟩ (by omega) ⟨⟨ELe.refl _, eS (fun q => .im (dI q)) (by rw [← Nat.add_assoc, hst]; simp), ELe.refl _, ELe.refl _, trivial⟩, ⟨by rw [← Nat.add_assoc, hst]; exact mix_put (DLe.of_eq (congrArg (fun x => cId x 0) m3)) (DLe.of_eq (congrArg (fun x => cId x 1) m3)) rfl, trivial⟩⟩
        · conv => whnf
          have hqe : k + q = l.length := by omega
          have hre : cp l = cp (l.take (k + q)) := by rw [hqe, List.take_length]
          refine ⟨⟨by omega, by omega⟩, ?_⟩
          conv => whnf
          refine ⟨by omega, by omega, ?_⟩
          conv => whnf
          refine ⟨⟨by omega, by omega, by omega⟩, ?_⟩
          conv => whnf
          exact ⟨by omega, ⟨mix_ret hre rfl⟩⟩
      · conv => whnf
        refine ⟨⟨by omega, by omega⟩, ?_⟩
        conv => whnf
        refine VNext.by (k + 1) rfl ⟨by omega, by omega, fun i h0 hi => ?_⟩ (by omega) ⟨⟨ELe.refl _, ELe.refl _, trivial⟩, ⟨ObLe.refl _, trivial⟩⟩
        by_cases e : i = k
        · intro heq
          have h1' : (decide ((mix (0, 0) [] l k).1 = (mix (0, 0) [] l ((k : Int) - 1).toNat).1) && decide ((mix (0, 0) [] l k).2 = (mix (0, 0) [] l ((k : Int) - 1).toNat).2)) = false := h1
          rw [e1, m1, m2, ← e, heq] at h1'
          simp at h1'
        · exact hne i h0 (by omega)
    · conv => whnf
      have hke : k = l.length := by omega
      have := cp_id' (0, 0) hk hne
      rw [hke, List.take_length] at this
      exact ⟨by rw [this]; exact ⟨rfl, fun i j hi hj => by unfold mixF; rw [mix_ge (Nat.zero_le _)]; exact DLe.refl _⟩⟩
end Go.Proofs.YtomdjkcoodaheaaGreatDoor

/-
  Package slices: DeleteFunc at row identifiers.
-/
set_option maxRecDepth 10000
set_option maxHeartbeats 4000000
set_option linter.unusedVariables false
set_option linter.unusedSimpArgs false
set_option linter.unusedSectionVars false
namespace Go.Proofs.YtomdjkcoodaheaaGreatDoor
open Go Go.Vc Sr
variable [Dr]

theorem filter_none {α : Type} {p : α → Bool} {l : List α} (h : ∀ x ∈ l, p x = false) : l.filter (fun x => !p x) = l := List.filter_eq_self.2 fun x hx => by rw [h x hx]; rfl
theorem filter_start {α : Type} {p : α → Bool} {l : List α} (x0 : α) {i : Nat} (hi : i < l.length) (h : p (l.getD i x0) = true) (hall : ∀ x ∈ l.take i, p x = false) : (l.take (i + 1)).filter (fun x => !p x) = l.take i := by
  have := Sr.filter_take x0 hi (fun x => !p x)
  rw [if_neg (by rw [h]; simp)] at this
  rw [this]; exact filter_none hall
theorem a177 {g n : Nat} {cf : Nat → D} {p : RId → Bool} (l : Ids) (hl : l.length ≤ 1000000) (hp : ∀ x ∈ l, ACalls cx g ([dId x] ++ capD n cf) fun d => d = dB (p x)) (f : Nat → Nat → D) (hf : ∀ i j, i < l.length → j < 2 → DLe (f i j) (fIds l i j)) :
    ATR cx 177 33 2 l.length f [.func g n cf] (RIds (l.filter fun x => !p x)) := by
  refine ATR.of_vc (H := { own := [7], peek := [10] }) cxOk Tryz.func177 (by kernel_rfl) rfl (show _ = 42 from rfl) (by kernel_rfl) rfl ?_
  conv => whnf
  refine (f196 l hl hp).use ⟨DLe.slice hf, DLe.refl _, trivial⟩ ?_
  rintro _ rfl
  conv => whnf
  refine ifB.dec (fun h => ?_) (fun h => ?_)
  · conv => whnf
    have : ∀ x ∈ l, p x = false := by
      rcases idx_cases p l (0, 0) with ⟨_, q⟩ | ⟨i, q, _⟩
      · exact q
      · rw [q] at h; omega
    exact ⟨by rw [filter_none this]; exact ⟨rfl, hf⟩⟩
  · conv => whnf
    obtain ⟨i0, hix, hi0, hpi, hall⟩ : ∃ i : Nat, idx p l = i ∧ i < l.length ∧ p (l.getD i (0, 0)) = true ∧ ∀ x ∈ l.take i, p x = false := by
      rcases idx_cases p l (0, 0) with ⟨q, _⟩ | q
      · exact absurd q h
      · exact q
    have hst := filter_start (0, 0) hi0 hpi hall
    have hlen : (l.take i0).length = i0 := by rw [List.length_take]; omega
    refine ⟨⟨by omega, by omega⟩, ?_⟩
    conv => whnf
    refine VLoop.inv (N := 42) rfl (ι := Nat) (fun j => j ≤ l.length ∧ ((l.take j).filter fun x => !p x).length < j) (fun j => [(0, .orow 0), (1, .im (.func g n cf)), (5, .im (dI ((l.take j).filter fun x => !p x).length)), (6, .im (dI j))]) (fun j => [(0, .row 33 2 l.length (mixF ((l.take j).filter fun x => !p x) l))]) (fun j => l.length - j) (i0 + 1) ⟨by omega, by rw [hst, hlen]; omega⟩ ⟨⟨ELe.refl _, ELe.refl _, eS (fun q => .im (dI q)) (by rw [hst, hlen, hix]), eS (fun q => .im (dI q)) (by rw [hix]; rfl), trivial⟩, ⟨mix_row hf (fun i hi => by rw [hst]; exact mix_take i (by omega)), trivial⟩⟩ ?_
    rintro j ⟨hj, hrl⟩
    have hrn : ((l.take j).filter fun x => !p x).length ≤ l.length := by omega
    conv => whnf
    refine ifB.dec (fun h => ?_) (fun h => ?_)
    · conv => whnf
      have hlt : j < l.length := by omega
      have hft := Sr.filter_take (0, 0) hlt (fun x => !p x)
      have m3 : mix (0, 0) ((l.take j).filter fun x => !p x) l j = l.getD j (0, 0) := mix_ge (Nat.le_of_lt hrl)
      refine ⟨⟨by omega, by omega⟩, by omega, ?_⟩
      conv => whnf
      refine (hp (l.getD j (0, 0)) (by rw [getD_lt hlt]; exact List.getElem_mem hlt)).use (DLes.app ⟨agg2 (DLe.of_eq (congrArg (fun x => cId x 0) m3)) (DLe.of_eq (congrArg (fun x => cId x 1) m3)), trivial⟩) ?_
      rintro _ rfl
      conv => whnf
      refine ifB.not (ifB.intro (fun h1 => ?_) (fun h1 => ?_))
      · conv => whnf
        rw [if_neg (by rw [h1]; simp)] at hft
        refine ⟨⟨by omega, by omega⟩, ?_⟩
        conv => whnf
        exact VNext.by (j + 1) rfl ⟨by omega, by rw [hft]; exact Nat.lt_succ_of_lt hrl⟩ (by omega) ⟨⟨ELe.refl _, ELe.refl _, eS (fun q => .im (dI q)) (by rw [hft]), ELe.refl _, trivial⟩, ⟨mix_same hft.symm, trivial⟩⟩
      · conv => whnf
        rw [if_pos (by rw [h1]; rfl)] at hft
        refine ⟨⟨by omega, by omega⟩, by omega, ?_⟩
        conv => whnf
        refine ⟨⟨by omega, by omega⟩, ?_⟩
        conv => whnf
        refine ⟨⟨by omega, by omega⟩, ?_⟩
        conv => whnf
        exact VNext.by (j + 1) rfl ⟨by omega, by rw [hft]; simp; omega⟩ (by omega) ⟨⟨ELe.refl _, ELe.refl _, eS (fun q => .im (dI q)) (by rw [hft]; simp), ELe.refl _, trivial⟩, ⟨by rw [hft]; exact mix_put (DLe.of_eq (congrArg (fun x => cId x 0) m3)) (DLe.of_eq (congrArg (fun x => cId x 1) m3)) rfl, trivial⟩⟩
    · conv => whnf
      have hje : j = l.length := by omega
      have hre : (l.filter fun x => !p x) = (l.take j).filter fun x => !p x := by rw [hje, List.take_length]
      refine ⟨⟨by omega, by omega⟩, ?_⟩
      conv => whnf
      refine ⟨by omega, by omega, ?_⟩
      conv => whnf
      refine ⟨⟨by omega, by omega, by omega⟩, ?_⟩
      conv => whnf
      exact ⟨by omega, ⟨mix_ret hre rfl⟩⟩
end Go.Proofs.YtomdjkcoodaheaaGreatDoor
