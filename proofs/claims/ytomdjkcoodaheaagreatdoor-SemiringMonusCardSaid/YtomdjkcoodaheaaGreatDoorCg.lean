/-
  Package semiring: the numeric closures.
-/
import Derived.Test.YtomdjkcoodaheaaGreatDoorCf
set_option linter.unusedSectionVars false
set_option linter.unusedSimpArgs false
set_option linter.unusedVariables false
set_option maxRecDepth 10000
set_option maxHeartbeats 4000000
set_option linter.unusedVariables false
set_option linter.unusedSimpArgs false
set_option linter.unusedSectionVars false
namespace Go.Proofs.YtomdjkcoodaheaaGreatDoor
open Go Go.Vc Sr
variable [Dr]

def dPI (n : Int) : D := .ptr 1 fun _ => dI n
theorem rNum {f : Nat → D} {n m : Int} (h0 : DLe (f 0) (dI n)) (h1 : DLe (f 1) (dI m)) (h2 : f 2 = .lit (.slice none 0 0)) : Ret (fun x => DLe x (dEl ⟨n, m, []⟩)) (.agg 3 f) := Ret.le (el3 h0 h1 (by rw [h2]; exact nilL))
theorem rSelf {f : Nat → D} {e : El} (h0 : DLe (f 0) (dI e.N)) (h1 : DLe (f 1) (dI e.M)) (h2 : DLe (f 2) (dFam e.S)) : Ret (fun x => DLe x (dEl e)) (.agg 3 f) := Ret.le (el3 h0 h1 h2)

theorem f80 (n : Int) : ACalls cx 80 [dI n] fun d => d = dEl ⟨n, 0, []⟩ := by
  refine ACalls.eq (ACalls.of_vc (H := { own := [2] }) cxOk Tryz.func80 (by kernel_rfl) rfl (show _ = 5 from rfl) (by kernel_rfl) rfl ?_)
  conv => whnf
  exact rNum (DLe.refl _) (DLe.refl _) rfl
theorem f92 (a b : El) : ACalls cx 92 [dEl a, dEl b] fun d => d = dEl ⟨imax a.N b.N, 0, []⟩ := by
  refine ACalls.eq (ACalls.of_vc (H := { own := [4] }) cxOk Tryz.func92 (by kernel_rfl) rfl (show _ = 11 from rfl) (by kernel_rfl) rfl ?_)
  conv => whnf
  refine (f80 (imax a.N b.N)).use ⟨DLe.refl _, trivial⟩ ?_
  rintro _ rfl
  conv => whnf
  exact rSelf (DLe.refl _) (DLe.refl _) (DLe.refl _)
theorem f93 (a b : El) : ACalls cx 93 [dEl a, dEl b] fun d => d = dEl ⟨imin a.N b.N, 0, []⟩ := by
  refine ACalls.eq (ACalls.of_vc (H := { own := [4] }) cxOk Tryz.func93 (by kernel_rfl) rfl (show _ = 11 from rfl) (by kernel_rfl) rfl ?_)
  conv => whnf
  refine (f80 (imin a.N b.N)).use ⟨DLe.refl _, trivial⟩ ?_
  rintro _ rfl
  conv => whnf
  exact rSelf (DLe.refl _) (DLe.refl _) (DLe.refl _)
theorem f94 (a b : El) : ACalls cx 94 [dEl a, dEl b] fun d => d = dEl (if b.N = 1 then ⟨0, 0, []⟩ else a) := by
  refine ACalls.eq (ACalls.of_vc (H := { own := [4] }) cxOk Tryz.func94 (by kernel_rfl) rfl (show _ = 10 from rfl) (by kernel_rfl) rfl ?_)
  conv => whnf
  refine ifB.dec (fun h => ?_) (fun h => ?_)
  · conv => whnf
    rw [if_pos h]
    refine (f80 0).use ⟨DLe.refl _, trivial⟩ ?_
    rintro _ rfl
    conv => whnf
    exact rSelf (DLe.refl _) (DLe.refl _) (DLe.refl _)
  · conv => whnf
    rw [if_neg h]
    exact rSelf (DLe.refl _) (DLe.refl _) (DLe.refl _)
def satP (a b : El) : El := if a.N ≠ 0 ∧ (1152921504606846976 : Int).tdiv a.N < b.N then ⟨1152921504606846976, 0, []⟩ else ⟨a.N * b.N, 0, []⟩
theorem f83 (a b : El) (a0 : 0 ≤ a.N) (b0 : 0 ≤ b.N) (b1 : b.N ≤ 1152921504606846976) : ACalls cx 83 [dEl a, dEl b] fun d => d = dEl (satP a b) := by
  refine ACalls.eq (ACalls.of_vc (H := { draw := [(1, 11, [])], own := [4] }) cxOk Tryz.func83 (by kernel_rfl) rfl (show _ = 23 from rfl) (by kernel_rfl) rfl ?_)
  conv => whnf
  refine ifB.dec (fun h2 => ?_) (fun h2 => ?_)
  · conv => whnf
    have ht : (1152921504606846976 : Int).tdiv a.N = 1152921504606846976 / a.N := Int.tdiv_eq_ediv_of_nonneg (by omega)
    have ht1 : 0 ≤ (1152921504606846976 : Int) / a.N := Int.ediv_nonneg (by omega) a0
    have ht2 : (1152921504606846976 : Int) / a.N ≤ 1152921504606846976 := Int.ediv_le_self _ (by omega)
    refine ⟨by omega, ⟨by omega, by omega⟩, ?_⟩
    conv => whnf
    refine ifB.dec (fun h3 => ?_) (fun h3 => ?_)
    · conv => whnf
      rw [satP, if_pos ⟨by omega, h3⟩]
      refine (f80 1152921504606846976).use ⟨DLe.refl _, trivial⟩ ?_
      rintro _ rfl
      conv => whnf
      exact rSelf (DLe.refl _) (DLe.refl _) (DLe.refl _)
    · conv => whnf
      have h4 := tdiv_mul (by omega) (by omega) h3
      have h5 : 0 ≤ a.N * b.N := Int.mul_nonneg a0 b0
      refine ⟨⟨by omega, by omega⟩, ?_⟩
      conv => whnf
      rw [satP, if_neg (fun h => h3 h.2)]
      refine (f80 (a.N * b.N)).use ⟨DLe.refl _, trivial⟩ ?_
      rintro _ rfl
      conv => whnf
      exact rSelf (DLe.refl _) (DLe.refl _) (DLe.refl _)
  · conv => whnf
    have hz : a.N = 0 := by omega
    have hm : a.N * b.N = 0 := by rw [hz]; simp
    refine ⟨⟨by omega, by omega⟩, ?_⟩
    conv => whnf
    rw [satP, if_neg (fun h => h.1 hz)]
    refine (f80 (a.N * b.N)).use ⟨DLe.refl _, trivial⟩ ?_
    rintro _ rfl
    conv => whnf
    exact rSelf (DLe.refl _) (DLe.refl _) (DLe.refl _)
theorem f124 (a b : El) (l : Int) (h : inR .i64 (a.N + b.N)) : ACalls cx 124 [dEl a, dEl b, dPI l] fun d => d = dEl ⟨imin (a.N + b.N) l, 0, []⟩ := by
  refine ACalls.eq (ACalls.of_vc (H := { own := [5] }) cxOk Tryz.func124 (by kernel_rfl) rfl (show _ = 14 from rfl) (by kernel_rfl) rfl ?_)
  conv => whnf
  refine ⟨h, ?_⟩
  conv => whnf
  refine (f80 (imin (a.N + b.N) l)).use ⟨DLe.refl _, trivial⟩ ?_
  rintro _ rfl
  conv => whnf
  exact rSelf (DLe.refl _) (DLe.refl _) (DLe.refl _)
theorem f98 (a b : El) (h : inR .i64 (a.N - b.N)) : ACalls cx 98 [dEl a, dEl b] fun d => d = dEl ⟨imax (a.N - b.N) 0, 0, []⟩ := by
  refine ACalls.eq (ACalls.of_vc (H := { own := [4] }) cxOk Tryz.func98 (by kernel_rfl) rfl (show _ = 12 from rfl) (by kernel_rfl) rfl ?_)
  conv => whnf
  refine ⟨h, ?_⟩
  conv => whnf
  refine (f80 (imax (a.N - b.N) 0)).use ⟨DLe.refl _, trivial⟩ ?_
  rintro _ rfl
  conv => whnf
  exact rSelf (DLe.refl _) (DLe.refl _) (DLe.refl _)
theorem f125 (a b : El) (z : Int) : ACalls cx 125 [dEl a, dEl b, dPI z] fun d => d = dEl (if a.N < b.N then a else ⟨z, 0, []⟩) := by
  refine ACalls.eq (ACalls.of_vc (H := { own := [5] }) cxOk Tryz.func125 (by kernel_rfl) rfl (show _ = 14 from rfl) (by kernel_rfl) rfl ?_)
  conv => whnf
  refine ifB.dec (fun h => ?_) (fun h => ?_)
  · conv => whnf
    rw [if_pos h]
    exact rSelf (DLe.refl _) (DLe.refl _) (DLe.refl _)
  · conv => whnf
    rw [if_neg h]
    refine (f80 z).use ⟨DLe.refl _, trivial⟩ ?_
    rintro _ rfl
    conv => whnf
    exact rSelf (DLe.refl _) (DLe.refl _) (DLe.refl _)
theorem f91 (l : Int) : ACalls cx 91 [dI l] fun d => d = .func 122 1 fun _ => dPI l := by
  refine ACalls.eq (ACalls.of_vc (H := {}) cxOk Tryz.func91 (by kernel_rfl) rfl (show _ = 4 from rfl) (by kernel_rfl) rfl ?_)
  conv => whnf
  exact Ret.le (DLe.func fun j hj => by obtain rfl : j = 0 := by exact Nat.lt_one_iff.1 hj
                                        exact DLe.refl _)
theorem f97 (l : Int) : ACalls cx 97 [dI l] fun d => d = .func 124 1 fun _ => dPI l := by
  refine ACalls.eq (ACalls.of_vc (H := {}) cxOk Tryz.func97 (by kernel_rfl) rfl (show _ = 4 from rfl) (by kernel_rfl) rfl ?_)
  conv => whnf
  exact Ret.le (DLe.func fun j hj => by obtain rfl : j = 0 := by exact Nat.lt_one_iff.1 hj
                                        exact DLe.refl _)
theorem f99 (l : Int) : ACalls cx 99 [dI l] fun d => d = .func 125 1 fun _ => dPI l := by
  refine ACalls.eq (ACalls.of_vc (H := {}) cxOk Tryz.func99 (by kernel_rfl) rfl (show _ = 4 from rfl) (by kernel_rfl) rfl ?_)
  conv => whnf
  exact Ret.le (DLe.func fun j hj => by obtain rfl : j = 0 := by exact Nat.lt_one_iff.1 hj
                                        exact DLe.refl _)
theorem f106 (a b : El) : ACalls cx 106 [dEl a, dEl b] fun d => d = dEl ⟨imax a.N b.N, imax a.M b.M, []⟩ := by
  refine ACalls.eq (ACalls.of_vc (H := { own := [4] }) cxOk Tryz.func106 (by kernel_rfl) rfl (show _ = 16 from rfl) (by kernel_rfl) rfl ?_)
  conv => whnf
  exact rNum (DLe.refl _) (DLe.refl _) rfl
theorem f107 (a b : El) : ACalls cx 107 [dEl a, dEl b] fun d => d = dEl ⟨imin a.N b.N, imin a.M b.M, []⟩ := by
  refine ACalls.eq (ACalls.of_vc (H := { own := [4] }) cxOk Tryz.func107 (by kernel_rfl) rfl (show _ = 16 from rfl) (by kernel_rfl) rfl ?_)
  conv => whnf
  exact rNum (DLe.refl _) (DLe.refl _) rfl
def numB (l : Int) (e : El) : Bool := decide (e.S.length = 0) && (decide (e.M = 0) && (decide (0 ≤ e.N) && decide (e.N ≤ l)))
theorem f122 (e : El) (l : Int) : ACalls cx 122 [dEl e, dPI l] fun d => d = dB (numB l e) := by
  refine ACalls.eq (ACalls.of_vc (H := {}) cxOk Tryz.func122 (by kernel_rfl) rfl (show _ = 24 from rfl) (by kernel_rfl) rfl ?_)
  conv => whnf
  refine ifB.dec (fun h1 => ?_) (fun h1 => ?_)
  · conv => whnf
    refine ifB.dec (fun h2 => ?_) (fun h2 => ?_)
    · conv => whnf
      refine ifB.dec (fun h3 => ?_) (fun h3 => ?_)
      · conv => whnf
        exact rB (by rw [numB, decide_eq_true (show e.S.length = 0 by omega), decide_eq_true (show e.M = 0 from h2), decide_eq_true (show 0 ≤ e.N from h3)]; rfl)
      · conv => whnf
        exact rB (by rw [numB, decide_eq_false (show ¬ 0 ≤ e.N from h3)]; simp)
    · conv => whnf
      exact rB (by rw [numB, decide_eq_false (show ¬ e.M = 0 from h2)]; simp)
  · conv => whnf
    exact rB (by rw [numB, decide_eq_false (show ¬ e.S.length = 0 by omega)]; simp)
def truB (e : El) : Bool := decide (e.S.length = 0) && (decide (0 ≤ e.N) && (decide (e.N ≤ e.M) && decide (e.M ≤ 1000)))
theorem f105 (e : El) : ACalls cx 105 [dEl e] fun d => d = dB (truB e) := by
  refine ACalls.eq (ACalls.of_vc (H := {}) cxOk Tryz.func105 (by kernel_rfl) rfl (show _ = 24 from rfl) (by kernel_rfl) rfl ?_)
  conv => whnf
  refine ifB.dec (fun h1 => ?_) (fun h1 => ?_)
  · conv => whnf
    refine ifB.dec (fun h2 => ?_) (fun h2 => ?_)
    · conv => whnf
      refine ifB.dec (fun h3 => ?_) (fun h3 => ?_)
      · conv => whnf
        exact rB (by rw [truB, decide_eq_true (show e.S.length = 0 by omega), decide_eq_true (show 0 ≤ e.N from h2), decide_eq_true (show e.N ≤ e.M from h3)]; rfl)
      · conv => whnf
        exact rB (by rw [truB, decide_eq_false (show ¬ e.N ≤ e.M from h3)]; simp)
    · conv => whnf
      exact rB (by rw [truB, decide_eq_false (show ¬ 0 ≤ e.N from h2)]; simp)
  · conv => whnf
    exact rB (by rw [truB, decide_eq_false (show ¬ e.S.length = 0 by omega)]; simp)
end Go.Proofs.YtomdjkcoodaheaaGreatDoor

/-
  Package semiring: copies and equality.
-/
set_option maxRecDepth 10000
set_option maxHeartbeats 4000000
set_option linter.unusedVariables false
set_option linter.unusedSimpArgs false
set_option linter.unusedSectionVars false
namespace Go.Proofs.YtomdjkcoodaheaaGreatDoor
open Go Go.Vc Sr
variable [Dr]

theorem one2n {P : Nat → Nat → Prop} {n : Nat} (h : ∀ i, i < n → P i 0 ∧ P i 1) : ∀ i j, i < n → j < 2 → P i j := fun i j hi hj => by
  rcases j with _ | _ | j
  · exact (h i hi).1
  · exact (h i hi).2
  · omega
theorem one1n {P : Nat → Nat → Prop} {n : Nat} (h : ∀ i, i < n → P i 0) : ∀ i j, i < n → j < 1 → P i j := fun i j hi hj => by
  obtain rfl : j = 0 := by omega
  exact h i hi
/-- All of a list, appended to nothing. -/
theorem ptAll {α : Type} {c : α → Nat → D} {x0 : α} {l : List α} {k : Nat} {F : Nat → Nat → D} : ∀ i j, i < 0 + l.length → j < k → DLe (appD 0 F (rowF c x0 l) i j) (c (l.getD i x0) j) := by
  intro i j hi hj
  rw [appD_ge (Nat.zero_le _)]; exact DLe.refl _

theorem f90 (l : Ids) (hl : l.length ≤ 1000000) : ACalls cx 90 [dIds l] fun d => d = dIds l := by
  refine ACalls.eq (ACalls.of_vc (H := { own := [5] }) cxOk Tryz.func90 (by kernel_rfl) rfl (show _ = 8 from rfl) (by kernel_rfl) rfl ?_)
  conv => whnf
  refine ⟨fun b hb => ?_⟩
  cases b with
  | true =>
    conv => whnf
    have : l = [] := List.length_eq_zero_iff.1 (hb rfl)
    subst this
    exact Ret.le DLe.nil
  | false =>
    conv => whnf
    refine ⟨⟨b33 (by omega), one2n fun i hi => ⟨rfl, rfl⟩⟩, ?_⟩
    conv => whnf
    exact Ret.le (slice_le rfl (Nat.zero_add _) ptAll)
theorem f134 (l : Fam) (hl : l.length ≤ 1000000) : ACalls cx 134 [dFam l] fun d => d = dFam l := by
  refine ACalls.eq (ACalls.of_vc (H := { own := [5] }) cxOk Tryz.func134 (by kernel_rfl) rfl (show _ = 8 from rfl) (by kernel_rfl) rfl ?_)
  conv => whnf
  refine ⟨fun b hb => ?_⟩
  cases b with
  | true =>
    conv => whnf
    have : l = [] := List.length_eq_zero_iff.1 (hb rfl)
    subst this
    exact Ret.le DLe.nil
  | false =>
    conv => whnf
    refine ⟨⟨b34 (by omega), one1n fun i hi => rfl⟩, ?_⟩
    conv => whnf
    exact Ret.le (slice_le rfl (Nat.zero_add _) ptAll)

def RIds (l : Ids) (n : Nat) (f : Nat → Nat → D) : Prop := n = l.length ∧ ∀ i j, i < n → j < 2 → DLe (f i j) (fIds l i j)
def RFam (l : Fam) (n : Nat) (f : Nat → Nat → D) : Prop := n = l.length ∧ ∀ i j, i < n → j < 1 → DLe (f i j) (fFam l i j)
theorem r90 (l : Ids) (hl : l.length ≤ 1000000) : ARow cx 90 [dIds l] 33 2 (RIds l) := by
  refine ARow.of_vc (H := { own := [5] }) cxOk Tryz.func90 (by kernel_rfl) rfl (show _ = 8 from rfl) (by kernel_rfl) rfl ?_
  conv => whnf
  refine ⟨fun b hb => ?_⟩
  cases b with
  | true =>
    conv => whnf
    have : l = [] := List.length_eq_zero_iff.1 (hb rfl)
    subst this
    exact ⟨⟨rfl, fun i j hi => absurd hi (Nat.not_lt_zero _)⟩⟩
  | false =>
    conv => whnf
    refine ⟨⟨b33 (by omega), one2n fun i hi => ⟨rfl, rfl⟩⟩, ?_⟩
    conv => whnf
    exact ⟨⟨Nat.zero_add _, ptAll⟩⟩
theorem r134 (l : Fam) (hl : l.length ≤ 1000000) : ARow cx 134 [dFam l] 34 1 (RFam l) := by
  refine ARow.of_vc (H := { own := [5] }) cxOk Tryz.func134 (by kernel_rfl) rfl (show _ = 8 from rfl) (by kernel_rfl) rfl ?_
  conv => whnf
  refine ⟨fun b hb => ?_⟩
  cases b with
  | true =>
    conv => whnf
    have : l = [] := List.length_eq_zero_iff.1 (hb rfl)
    subst this
    exact ⟨⟨rfl, fun i j hi => absurd hi (Nat.not_lt_zero _)⟩⟩
  | false =>
    conv => whnf
    refine ⟨⟨b34 (by omega), one1n fun i hi => rfl⟩, ?_⟩
    conv => whnf
    exact ⟨⟨Nat.zero_add _, ptAll⟩⟩

theorem f115 (a b : Ids) (hl : a.length ≤ 1000000) (hl' : b.length ≤ 1000000) : ACalls cx 115 [dIds a, dIds b] fun d => d = dB (decide (a = b)) := by
  refine ACalls.eq (ACalls.of_vc (H := { draw := [(6, 9, [])] }) cxOk Tryz.func115 (by kernel_rfl) rfl (show _ = 26 from rfl) (by kernel_rfl) rfl ?_)
  conv => whnf
  refine ifB.not (ifB.dec (fun h => ?_) (fun h => ?_))
  · conv => whnf
    have hlen : a.length = b.length := by omega
    refine VLoop.inv (N := 26) rfl (ι := Nat) (fun i => i ≤ a.length ∧ a.take i = b.take i) (fun i => [(0, .im (dIds a)), (1, .im (dIds b)), (12, .im (dI a.length)), (13, .im (dI i))]) (fun _ => []) (fun i => a.length - i) 0 ⟨Nat.zero_le _, by simp⟩ ⟨⟨ELe.refl _, ELe.refl _, ELe.refl _, ELe.refl _, trivial⟩, trivial⟩ ?_
    rintro i ⟨hi, hall⟩
    conv => whnf
    refine ifB.dec (fun h => ?_) (fun h => ?_)
    · conv => whnf
      have hlt : i < a.length := by omega
      refine ⟨⟨by omega, by omega⟩, ?_⟩
      conv => whnf
      refine ⟨⟨by omega, by omega⟩, ?_⟩
      conv => whnf
      have hx := take_eq_succ (0, 0) hlt (show i < b.length by omega)
      refine ifB.not (ifB.and (fun h1 h2 => ?_) (fun h1 => ?_))
      · conv => whnf
        refine ⟨⟨by omega, by omega⟩, ?_⟩
        conv => whnf
        exact VNext.by (i + 1) rfl ⟨by omega, hx.2 ⟨hall, Prod.ext (of_decide_eq_true h1) (of_decide_eq_true h2)⟩⟩ (by omega) ⟨⟨ELe.refl _, ELe.refl _, ELe.refl _, ELe.refl _, trivial⟩, trivial⟩
      · conv => whnf
        refine rB (decide_eq_false fun e => ?_).symm
        subst e
        simp at h1
    · conv => whnf
      refine rB (decide_eq_true ?_).symm
      have : i = a.length := by omega
      subst this
      rwa [List.take_length, hlen, List.take_length] at hall
  · conv => whnf
    refine rB (decide_eq_false fun e => ?_).symm
    subst e; exact h rfl
theorem f114 (a b : Ids) (hl : a.length ≤ 1000000) (hl' : b.length ≤ 1000000) : ACalls cx 114 [dIds a, dIds b] fun d => d = dB (decide (a = b)) := by
  refine ACalls.eq (ACalls.of_vc (H := {}) cxOk Tryz.func114 (by kernel_rfl) rfl (show _ = 8 from rfl) (by kernel_rfl) rfl ?_)
  conv => whnf
  refine (f115 a b hl hl').use ⟨DLe.refl _, DLe.refl _, trivial⟩ ?_
  rintro _ rfl
  conv => whnf
  exact rB rfl
def dF (n : Nat) : D := .func n 0 fun _ => .top
theorem f113 (a b : Fam) (ha : Bnd 1000000 a) (hb : Bnd 1000000 b) : ACalls cx 113 [dFam a, dFam b, dF 114] fun d => d = dB (decide (a = b)) := by
  have hl := ha.1
  have hl' := hb.1
  refine ACalls.eq (ACalls.of_vc (H := {}) cxOk Tryz.func113 (by kernel_rfl) rfl (show _ = 32 from rfl) (by kernel_rfl) rfl ?_)
  conv => whnf
  refine ifB.not (ifB.dec (fun h => ?_) (fun h => ?_))
  · conv => whnf
    have hlen : a.length = b.length := by omega
    refine VLoop.inv (N := 32) rfl (ι := Nat) (fun i => i ≤ a.length ∧ a.take i = b.take i) (fun i => [(1, .im (dFam b)), (2, .im (dF 114)), (15, .im (dFam a)), (16, .im (dI a.length)), (17, .im (dI i))]) (fun _ => []) (fun i => a.length - i) 0 ⟨Nat.zero_le _, by simp⟩ ⟨⟨ELe.refl _, ELe.refl _, ELe.refl _, ELe.refl _, ELe.refl _, trivial⟩, trivial⟩ ?_
    rintro i ⟨hi, hall⟩
    conv => whnf
    refine ifB.dec (fun h => ?_) (fun h => ?_)
    · conv => whnf
      have hlt : i < a.length := by omega
      refine ⟨⟨by omega, by omega⟩, ?_⟩
      conv => whnf
      refine ⟨⟨by omega, by omega⟩, ?_⟩
      conv => whnf
      refine (f114 (a.getD i []) (b.getD i []) (ha.at i) (hb.at i)).use ⟨DLe.refl _, DLe.refl _, trivial⟩ ?_
      rintro _ rfl
      conv => whnf
      have hx := take_eq_succ [] hlt (show i < b.length by omega)
      refine ifB.not (ifB.dec (fun h1 => ?_) (fun h1 => ?_))
      · conv => whnf
        refine ⟨⟨by omega, by omega⟩, ?_⟩
        conv => whnf
        exact VNext.by (i + 1) rfl ⟨by omega, hx.2 ⟨hall, h1⟩⟩ (by omega) ⟨⟨ELe.refl _, ELe.refl _, ELe.refl _, ELe.refl _, ELe.refl _, trivial⟩, trivial⟩
      · conv => whnf
        refine rB (decide_eq_false fun e => ?_).symm
        subst e
        exact h1 rfl
    · conv => whnf
      refine rB (decide_eq_true ?_).symm
      have : i = a.length := by omega
      subst this
      rwa [List.take_length, hlen, List.take_length] at hall
  · conv => whnf
    refine rB (decide_eq_false fun e => ?_).symm
    subst e; exact h rfl
theorem f68 (a b : El) (ha : Bnd 1000000 a.S) (hb : Bnd 1000000 b.S) : ACalls cx 68 [dEl a, dEl b] fun d => d = dB (decide (a = b)) := by
  have key : a = b ↔ a.N = b.N ∧ a.M = b.M ∧ a.S = b.S := by cases a; cases b; simp
  refine ACalls.eq (ACalls.of_vc (H := {}) cxOk Tryz.func68 (by kernel_rfl) rfl (show _ = 24 from rfl) (by kernel_rfl) rfl ?_)
  conv => whnf
  refine ifB.dec (fun h => ?_) (fun h => ?_)
  · conv => whnf
    refine ifB.dec (fun h' => ?_) (fun h' => ?_)
    · conv => whnf
      refine (f113 a.S b.S ha hb).use ⟨DLe.refl _, DLe.refl _, DLe.refl _, trivial⟩ ?_
      rintro _ rfl
      conv => whnf
      exact rB (by rw [decide_eq_decide, key]; exact ⟨fun h2 => ⟨h, h', h2⟩, fun h2 => h2.2.2⟩)
    · conv => whnf
      exact rB (decide_eq_false (fun hc => h' (key.1 hc).2.1)).symm
  · conv => whnf
    exact rB (decide_eq_false (fun hc => h (key.1 hc).1)).symm
end Go.Proofs.YtomdjkcoodaheaaGreatDoor
