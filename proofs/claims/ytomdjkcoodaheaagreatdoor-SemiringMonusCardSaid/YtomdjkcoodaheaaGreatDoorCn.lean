/-
  Package semiring: the table.
-/
import Derived.Test.YtomdjkcoodaheaaGreatDoorCm
set_option linter.unusedSectionVars false
set_option linter.unusedSimpArgs false
set_option linter.unusedVariables false
set_option maxRecDepth 10000
set_option maxHeartbeats 4000000
set_option linter.unusedVariables false
set_option linter.unusedSimpArgs false
set_option linter.unusedSectionVars false
namespace Go.Proofs.YtomdjkcoodaheaaGreatDoor
open Go Go.Vc Sr
variable [Dr]

structure Tab where
  nm : ByteArray
  vg : Nat
  vn : Nat
  vf : Nat → D
  zero : El
  one : El
  ag : Nat
  an : Nat
  af : Nat → D
  mg : Nat
  mn : Nat
  mf : Nat → D
  og : Nat
  on : Nat
  of : Nat → D
  ab : Bool
  fg : Nat
  pg : Nat
def cTab (T : Tab) (j : Nat) : D :=
  match j with
  | 0 => .lit (.string T.nm)
  | 1 => .func T.vg T.vn T.vf
  | 2 => dI T.zero.N
  | 3 => dI T.zero.M
  | 4 => dFam T.zero.S
  | 5 => dI T.one.N
  | 6 => dI T.one.M
  | 7 => dFam T.one.S
  | 8 => .func T.ag T.an T.af
  | 9 => .func T.mg T.mn T.mf
  | 10 => .func T.og T.on T.of
  | 11 => dB T.ab
  | 12 => dF T.fg
  | _ => dF T.pg
def dTab (T : Tab) : D := .agg 14 (cTab T)
def dNone : D := .agg 14 fun j => match j with
  | 0 => .lit (.string ⟨#[]⟩)
  | 2 => dI 0
  | 3 => dI 0
  | 4 => dFam []
  | 5 => dI 0
  | 6 => dI 0
  | 7 => dFam []
  | 11 => dB false
  | _ => .lit .nilFunc
theorem agg14 {f g : Nat → D} (h0 : DLe (f 0) (g 0)) (h1 : DLe (f 1) (g 1)) (h2 : DLe (f 2) (g 2)) (h3 : DLe (f 3) (g 3)) (h4 : DLe (f 4) (g 4)) (h5 : DLe (f 5) (g 5)) (h6 : DLe (f 6) (g 6)) (h7 : DLe (f 7) (g 7)) (h8 : DLe (f 8) (g 8)) (h9 : DLe (f 9) (g 9)) (h10 : DLe (f 10) (g 10)) (h11 : DLe (f 11) (g 11)) (h12 : DLe (f 12) (g 12)) (h13 : DLe (f 13) (g 13)) :
    DLe (.agg 14 f) (.agg 14 g) := DLe.agg fun j hj => match j, hj with
  | 0, _ => h0
  | 1, _ => h1
  | 2, _ => h2
  | 3, _ => h3
  | 4, _ => h4
  | 5, _ => h5
  | 6, _ => h6
  | 7, _ => h7
  | 8, _ => h8
  | 9, _ => h9
  | 10, _ => h10
  | 11, _ => h11
  | 12, _ => h12
  | 13, _ => h13
def noCap : Nat → D := fun _ => .top
def tabS (k : Int) : Tab :=
  if k = 5 then ⟨⟨#[119, 104, 121]⟩, 128, 0, noCap, ⟨0, 0, []⟩, ⟨0, 0, [[]]⟩, 130, 0, noCap, 131, 0, noCap, 132, 0, noCap, false, 137, 138⟩
  else if k = 6 then ⟨⟨#[119, 104, 105, 99, 104]⟩, 139, 0, noCap, ⟨0, 0, []⟩, ⟨0, 0, [[]]⟩, 140, 0, noCap, 131, 0, noCap, 141, 0, noCap, false, 137, 138⟩
  else ⟨⟨#[109, 105, 110, 105, 109, 97, 108]⟩, 144, 0, noCap, ⟨0, 0, []⟩, ⟨0, 0, [[]]⟩, 146, 0, noCap, 147, 0, noCap, 148, 0, noCap, true, 137, 138⟩
def tab (k : Int) : Tab :=
  if k = 0 then ⟨⟨#[98, 111, 111, 108]⟩, 122, 1, fun _ => dPI 1, ⟨0, 0, []⟩, ⟨1, 0, []⟩, 92, 0, noCap, 93, 0, noCap, 94, 0, noCap, true, 95, 96⟩
  else if k = 1 then ⟨⟨#[99, 111, 117, 110, 116]⟩, 122, 1, fun _ => dPI 1152921504606846976, ⟨0, 0, []⟩, ⟨1, 0, []⟩, 124, 1, fun _ => dPI 1152921504606846976, 83, 0, noCap, 98, 0, noCap, false, 95, 96⟩
  else if k = 2 then ⟨⟨#[99, 111, 115, 116]⟩, 122, 1, fun _ => dPI 1099511627776, ⟨1099511627776, 0, []⟩, ⟨0, 0, []⟩, 93, 0, noCap, 124, 1, fun _ => dPI 1099511627776, 125, 1, fun _ => dPI 1099511627776, true, 100, 101⟩
  else if k = 3 then ⟨⟨#[99, 108, 101, 97, 114, 97, 110, 99, 101]⟩, 122, 1, fun _ => dPI 4, ⟨4, 0, []⟩, ⟨0, 0, []⟩, 93, 0, noCap, 92, 0, noCap, 125, 1, fun _ => dPI 4, true, 102, 103⟩
  else if k = 4 then ⟨⟨#[116, 114, 117, 115, 116]⟩, 105, 0, noCap, ⟨0, 0, []⟩, ⟨1000, 1000, []⟩, 106, 0, noCap, 107, 0, noCap, 108, 0, noCap, true, 109, 111⟩
  else tabS k
theorem f112 (k : Int) (hk : k = 5 ∨ k = 6 ∨ k = 7) : ACalls cx 112 [dI k] fun d => d = dTab (tabS k) := by
  refine ACalls.eq (ACalls.of_vc (H := { own := [2] }) cxOk Tryz.func112 (by kernel_rfl) rfl (show _ = 20 from rfl) (by kernel_rfl) rfl ?_)
  conv => whnf
  refine ifB.dec (fun h => ?_) (fun h => ?_)
  · conv => whnf
    rw [tabS, if_pos h]
    refine (f129).use trivial ?_
    rintro _ rfl
    conv => whnf
    exact Ret.le (agg14 (DLe.refl _) (DLe.refl _) (DLe.refl _) (DLe.refl _) nilL (DLe.refl _) (DLe.refl _) (DLe.refl _) (DLe.refl _) (DLe.refl _) (DLe.refl _) (DLe.refl _) (DLe.refl _) (DLe.refl _))
  · conv => whnf
    rw [tabS, if_neg h]
    refine ifB.dec (fun h2 => ?_) (fun h2 => ?_)
    · conv => whnf
      rw [if_pos h2]
      refine (f129).use trivial ?_
      rintro _ rfl
      conv => whnf
      exact Ret.le (agg14 (DLe.refl _) (DLe.refl _) (DLe.refl _) (DLe.refl _) nilL (DLe.refl _) (DLe.refl _) (DLe.refl _) (DLe.refl _) (DLe.refl _) (DLe.refl _) (DLe.refl _) (DLe.refl _) (DLe.refl _))
    · conv => whnf
      rw [if_neg h2]
      refine ifB.dec (fun h3 => ?_) (fun h3 => ?_)
      · conv => whnf
        refine (f129).use trivial ?_
        rintro _ rfl
        conv => whnf
        exact Ret.le (agg14 (DLe.refl _) (DLe.refl _) (DLe.refl _) (DLe.refl _) nilL (DLe.refl _) (DLe.refl _) (DLe.refl _) (DLe.refl _) (DLe.refl _) (DLe.refl _) (DLe.refl _) (DLe.refl _) (DLe.refl _))
      · omega
theorem n112 (k : Int) (hk : ¬ (k = 5 ∨ k = 6 ∨ k = 7)) : ACalls cx 112 [dI k] fun d => d = dNone := by
  refine ACalls.eq (ACalls.of_vc (H := { own := [2] }) cxOk Tryz.func112 (by kernel_rfl) rfl (show _ = 20 from rfl) (by kernel_rfl) rfl ?_)
  conv => whnf
  refine ifB.dec (fun h => by omega) (fun h => ?_)
  conv => whnf
  refine ifB.dec (fun h2 => by omega) (fun h2 => ?_)
  conv => whnf
  refine ifB.dec (fun h3 => by omega) (fun h3 => ?_)
  conv => whnf
  exact Ret.le (agg14 (DLe.refl _) (DLe.refl _) (DLe.refl _) (DLe.refl _) nilL (DLe.refl _) (DLe.refl _) nilL (DLe.refl _) (DLe.refl _) (DLe.refl _) (DLe.refl _) (DLe.refl _) (DLe.refl _))
theorem f67 (k : Int) (hk : known k = true) : ACalls cx 67 [dI k] fun d => d = dTab (tab k) := by
  have hk' : 0 ≤ k ∧ k ≤ 7 := by unfold known at hk; rw [Bool.and_eq_true, decide_eq_true_eq, decide_eq_true_eq] at hk; exact hk
  refine ACalls.eq (ACalls.of_vc (H := { own := [2] }) cxOk Tryz.func67 (by kernel_rfl) rfl (show _ = 39 from rfl) (by kernel_rfl) rfl ?_)
  conv => whnf
  refine ifB.dec (fun h => ?_) (fun h => ?_)
  · conv => whnf
    rw [tab, if_pos h]
    refine (f91 1).use ⟨DLe.refl _, trivial⟩ ?_
    rintro _ rfl
    conv => whnf
    refine (f80 0).use ⟨DLe.refl _, trivial⟩ ?_
    rintro _ rfl
    conv => whnf
    refine (f80 1).use ⟨DLe.refl _, trivial⟩ ?_
    rintro _ rfl
    conv => whnf
    exact Ret.le (agg14 (DLe.refl _) (DLe.refl _) (DLe.refl _) (DLe.refl _) (DLe.refl _) (DLe.refl _) (DLe.refl _) (DLe.refl _) (DLe.refl _) (DLe.refl _) (DLe.refl _) (DLe.refl _) (DLe.refl _) (DLe.refl _))
  · conv => whnf
    rw [tab, if_neg h]
    refine ifB.dec (fun h2 => ?_) (fun h2 => ?_)
    · conv => whnf
      rw [if_pos h2]
      refine (f91 1152921504606846976).use ⟨DLe.refl _, trivial⟩ ?_
      rintro _ rfl
      conv => whnf
      refine (f80 0).use ⟨DLe.refl _, trivial⟩ ?_
      rintro _ rfl
      conv => whnf
      refine (f80 1).use ⟨DLe.refl _, trivial⟩ ?_
      rintro _ rfl
      conv => whnf
      refine (f97 1152921504606846976).use ⟨DLe.refl _, trivial⟩ ?_
      rintro _ rfl
      conv => whnf
      exact Ret.le (agg14 (DLe.refl _) (DLe.refl _) (DLe.refl _) (DLe.refl _) (DLe.refl _) (DLe.refl _) (DLe.refl _) (DLe.refl _) (DLe.refl _) (DLe.refl _) (DLe.refl _) (DLe.refl _) (DLe.refl _) (DLe.refl _))
    · conv => whnf
      rw [if_neg h2]
      refine ifB.dec (fun h3 => ?_) (fun h3 => ?_)
      · conv => whnf
        rw [if_pos h3]
        refine (f91 1099511627776).use ⟨DLe.refl _, trivial⟩ ?_
        rintro _ rfl
        conv => whnf
        refine (f80 1099511627776).use ⟨DLe.refl _, trivial⟩ ?_
        rintro _ rfl
        conv => whnf
        refine (f80 0).use ⟨DLe.refl _, trivial⟩ ?_
        rintro _ rfl
        conv => whnf
        refine (f97 1099511627776).use ⟨DLe.refl _, trivial⟩ ?_
        rintro _ rfl
        conv => whnf
        refine (f99 1099511627776).use ⟨DLe.refl _, trivial⟩ ?_
        rintro _ rfl
        conv => whnf
        exact Ret.le (agg14 (DLe.refl _) (DLe.refl _) (DLe.refl _) (DLe.refl _) (DLe.refl _) (DLe.refl _) (DLe.refl _) (DLe.refl _) (DLe.refl _) (DLe.refl _) (DLe.refl _) (DLe.refl _) (DLe.refl _) (DLe.refl _))
      · conv => whnf
        rw [if_neg h3]
        refine ifB.dec (fun h4 => ?_) (fun h4 => ?_)
        · conv => whnf
          rw [if_pos h4]
          refine (f91 4).use ⟨DLe.refl _, trivial⟩ ?_
          rintro _ rfl
          conv => whnf
          refine (f80 4).use ⟨DLe.refl _, trivial⟩ ?_
          rintro _ rfl
          conv => whnf
          refine (f80 0).use ⟨DLe.refl _, trivial⟩ ?_
          rintro _ rfl
          conv => whnf
          refine (f99 4).use ⟨DLe.refl _, trivial⟩ ?_
          rintro _ rfl
          conv => whnf
          exact Ret.le (agg14 (DLe.refl _) (DLe.refl _) (DLe.refl _) (DLe.refl _) (DLe.refl _) (DLe.refl _) (DLe.refl _) (DLe.refl _) (DLe.refl _) (DLe.refl _) (DLe.refl _) (DLe.refl _) (DLe.refl _) (DLe.refl _))
        · conv => whnf
          rw [if_neg h4]
          refine ifB.dec (fun h5 => ?_) (fun h5 => ?_)
          · conv => whnf
            rw [if_pos h5]
            exact Ret.le (agg14 (DLe.refl _) (DLe.refl _) (DLe.refl _) (DLe.refl _) nilL (DLe.refl _) (DLe.refl _) nilL (DLe.refl _) (DLe.refl _) (DLe.refl _) (DLe.refl _) (DLe.refl _) (DLe.refl _))
          · conv => whnf
            rw [if_neg h5]
            refine (f112 k (by omega)).use ⟨DLe.refl _, trivial⟩ ?_
            rintro _ rfl
            conv => whnf
            exact Ret.le (agg14 (DLe.refl _) (DLe.refl _) (DLe.refl _) (DLe.refl _) (DLe.refl _) (DLe.refl _) (DLe.refl _) (DLe.refl _) (DLe.refl _) (DLe.refl _) (DLe.refl _) (DLe.refl _) (DLe.refl _) (DLe.refl _))
theorem n67 (k : Int) (hk : known k = false) : ACalls cx 67 [dI k] fun d => d = dNone := by
  have hk' : ¬ (0 ≤ k ∧ k ≤ 7) := by
    unfold known at hk; rw [← Bool.not_eq_true, Bool.and_eq_true, decide_eq_true_eq, decide_eq_true_eq] at hk; exact hk
  refine ACalls.eq (ACalls.of_vc (H := { own := [2] }) cxOk Tryz.func67 (by kernel_rfl) rfl (show _ = 39 from rfl) (by kernel_rfl) rfl ?_)
  conv => whnf
  refine ifB.dec (fun h => by omega) (fun h => ?_)
  conv => whnf
  refine ifB.dec (fun h2 => by omega) (fun h2 => ?_)
  conv => whnf
  refine ifB.dec (fun h3 => by omega) (fun h3 => ?_)
  conv => whnf
  refine ifB.dec (fun h4 => by omega) (fun h4 => ?_)
  conv => whnf
  refine ifB.dec (fun h5 => by omega) (fun h5 => ?_)
  conv => whnf
  refine (n112 k (by omega)).use ⟨DLe.refl _, trivial⟩ ?_
  rintro _ rfl
  conv => whnf
  exact Ret.le (agg14 (DLe.refl _) (DLe.refl _) (DLe.refl _) (DLe.refl _) (DLe.refl _) (DLe.refl _) (DLe.refl _) (DLe.refl _) (DLe.refl _) (DLe.refl _) (DLe.refl _) (DLe.refl _) (DLe.refl _) (DLe.refl _))
end Go.Proofs.YtomdjkcoodaheaaGreatDoor

/-
  Package semiring: what the table's functions are.
-/
set_option maxRecDepth 10000
set_option maxHeartbeats 4000000
set_option linter.unusedVariables false
set_option linter.unusedSimpArgs false
set_option linter.unusedSectionVars false
namespace Go.Proofs.YtomdjkcoodaheaaGreatDoor
open Go Go.Vc Sr
variable [Dr]

def absorb (k : Int) : Bool := decide (k = 0) || (decide (k = 2) || (decide (k = 3) || (decide (k = 4) || decide (k = 7))))
structure TabOk (k : Int) (T : Tab) : Prop where
  tab : ACalls cx 67 [dI k] fun d => d = dTab T
  nm : decide (T.nm = ⟨#[]⟩) = false
  val : ∀ e, Sz e.S → ACalls cx T.vg ([dEl e] ++ capD T.vn T.vf) fun d => d = dB (vld k e)
  add : ∀ a b, Sz a.S → Sz b.S → vld k a = true → vld k b = true → ACalls cx T.ag ([dEl a, dEl b] ++ capD T.an T.af) fun d => d = dEl (addE k a b)
  mul : ∀ a b, Sz a.S → Sz b.S → vld k a = true → vld k b = true → ACalls cx T.mg ([dEl a, dEl b] ++ capD T.mn T.mf) fun d => d = dEl (mulE k a b)
  mon : ∀ a b, Sz a.S → Sz b.S → vld k a = true → vld k b = true → ACalls cx T.og ([dEl a, dEl b] ++ capD T.on T.of) fun d => d = dEl (monE k a b)
  zero : T.zero = zeroE k
  one : T.one = oneEl k
  ab : T.ab = absorb k

theorem vld_numB {k : Int} (h0 : 0 ≤ k) (h4 : k < 4) (e : El) : numB (lim k) e = vld k e := by
  rw [vld_num (by unfold known; simp; omega) (by unfold isSets; simp; omega), Bool.eq_iff_iff, decide_eq_true_eq, numB]
  simp only [Bool.and_eq_true, decide_eq_true_eq, vldN, if_neg (show ¬ k = 4 by omega)]
  constructor
  · rintro ⟨h1, h2, h3, h5⟩; exact ⟨h1, h3, h5, h2⟩
  · rintro ⟨h1, h3, h5, h2⟩; exact ⟨h1, h2, h3, h5⟩
theorem vld_truB (e : El) : truB e = vld 4 e := by
  rw [vld_num rfl rfl, Bool.eq_iff_iff, decide_eq_true_eq, truB]
  simp only [Bool.and_eq_true, decide_eq_true_eq, vldN, if_true]
  have e4 : lim 4 = 1000 := rfl
  rw [e4]
  constructor
  · rintro ⟨h1, h2, h3, h5⟩; exact ⟨h1, h2, by omega, h3, h5⟩
  · rintro ⟨h1, h2, h3, h4, h5⟩; exact ⟨h1, h2, h4, h5⟩
theorem vld_fam5 (e : El) : decide (famP e) = vld 5 e := by
  rw [vld_set rfl, decide_eq_decide]
  unfold famP vldS Rok
  simp
theorem vld_fam6 (e : El) : (decide (famP e) && decide (e.S.length ≤ 1)) = vld 6 e := by
  rw [vld_set rfl, Bool.eq_iff_iff, Bool.and_eq_true, decide_eq_true_eq, decide_eq_true_eq, decide_eq_true_eq]
  unfold famP vldS Rok
  simp only [if_true]
  constructor
  · rintro ⟨⟨h1, h2, h3, h4, h5⟩, h6⟩; exact ⟨h1, h2, h3, h4, h5, h6⟩
  · rintro ⟨h1, h2, h3, h4, h5, h6⟩; exact ⟨⟨h1, h2, h3, h4, h5⟩, h6⟩
theorem vld_fam7 (e : El) : (decide (famP e) && decide ((minF e.S).length = e.S.length)) = vld 7 e := by
  rw [vld_set rfl, Bool.eq_iff_iff, Bool.and_eq_true, decide_eq_true_eq, decide_eq_true_eq, decide_eq_true_eq]
  unfold famP vldS Rok
  rw [if_neg (by decide), if_pos rfl]
  constructor
  · rintro ⟨⟨h1, h2, h3, h4, h5⟩, h6⟩
    refine ⟨h1, h2, h3, h4, h5, ?_⟩
    have hs : (minF e.S).Sublist e.S := by unfold minF; rw [fam_fam h4]; exact List.filter_sublist
    exact hs.eq_of_length h6
  · rintro ⟨h1, h2, h3, h4, h5, h6⟩; exact ⟨⟨h1, h2, h3, h4, h5⟩, by rw [h6]⟩

section
variable {k : Int} {a b : El}
theorem nn {k : Int} {e : El} (h : vld k e = true) (hk : k < 4) : 0 ≤ e.N ∧ e.N ≤ lim k := by obtain ⟨n, rfl, h1, h2⟩ := numE h hk; exact ⟨h1, h2⟩
theorem add0 : (⟨imax a.N b.N, 0, []⟩ : El) = addE 0 a b := by simp [addE]
theorem add1 : (⟨imin (a.N + b.N) 1152921504606846976, 0, []⟩ : El) = addE 1 a b := by simp [addE]
theorem add2 : (⟨imin a.N b.N, 0, []⟩ : El) = addE 2 a b := by simp [addE]
theorem add3 : (⟨imin a.N b.N, 0, []⟩ : El) = addE 3 a b := by simp [addE]
theorem add4 : (⟨imax a.N b.N, imax a.M b.M, []⟩ : El) = addE 4 a b := by simp [addE]
theorem add5 (ha : vld 5 a = true) (hb : vld 5 b = true) : (⟨0, 0, fam (a.S ++ b.S)⟩ : El) = addE 5 a b := by
  obtain ⟨l, rfl, h1, h2, _⟩ := setE ha (by omega); obtain ⟨l', rfl, h1', h2', _⟩ := setE hb (by omega)
  rw [addE5, fam_sets (h2.sets.app h2'.sets)]
theorem add6 (ha : vld 6 a = true) (hb : vld 6 b = true) : (if a.S.length = 0 then b else if b.S.length = 0 then a else ⟨0, 0, prod a.S b.S⟩ : El) = addE 6 a b := by
  obtain ⟨l, rfl, h1, h2, _, h4, _⟩ := setE ha (by omega); obtain ⟨l', rfl, h1', h2', _, h4', _⟩ := setE hb (by omega)
  rcases len1 (h4 rfl) with rfl | ⟨x, rfl⟩
  · rw [addE6l]; rfl
  · rcases len1 (h4' rfl) with rfl | ⟨y, rfl⟩
    · rw [addE6r (h4 rfl) _ rfl ⟨rfl, rfl⟩]; rfl
    · rw [addE6]; rfl
theorem add7 (ha : vld 7 a = true) (hb : vld 7 b = true) : (⟨0, 0, minF (a.S ++ b.S)⟩ : El) = addE 7 a b := by
  obtain ⟨l, rfl, h1, h2, _⟩ := setE ha (by omega); obtain ⟨l', rfl, h1', h2', _⟩ := setE hb (by omega)
  rw [addE7, minF_nrm (h2.sets.app h2'.sets)]
theorem mon0 (ha : vld 0 a = true) (hb : vld 0 b = true) : (if b.N = 1 then ⟨0, 0, []⟩ else a : El) = monE 0 a b := by
  obtain ⟨n, rfl, h1, h2⟩ := numE ha (by omega); obtain ⟨m, rfl, h3, h4⟩ := numE hb (by omega)
  have e : lim 0 = 1 := rfl
  simp only [monE, true_or, if_true]
  split
  · rename_i h; congr 1; unfold imax; split <;> omega
  · rename_i h; congr 1; unfold imax; split <;> omega
theorem mon5 (ha : vld 5 a = true) : (⟨0, 0, a.S.filter fun s => !decide (s ∈ b.S)⟩ : El) = monE 5 a b := by
  simp only [monE]
  rw [if_neg (by decide), if_neg (by decide), if_neg (by decide), if_neg (by decide)]
  congr 1
  refine List.filter_congr fun s _ => ?_
  rw [Bool.eq_iff_iff]
  simp [keep, hit]
  exact ⟨fun h x hx e => h (e ▸ hx), fun h hs => h s hs rfl⟩
theorem monE6 (l l' : Fam) : monE 6 ⟨0, 0, l⟩ ⟨0, 0, l'⟩ = (if l'.length = 0 then ⟨0, 0, l⟩ else if l.length = 0 ∨ sub (hd l) (hd l') = true then ⟨0, 0, []⟩ else ⟨0, 0, [nrm rlt ((hd l).filter fun x => !decide (x ∈ hd l'))]⟩) := by simp [monE]
theorem mon6 (ha : vld 6 a = true) (hb : vld 6 b = true) : (if a.S.length = 0 ∨ b.S.length = 0 then a else if sub (hd a.S) (hd b.S) = true then ⟨0, 0, []⟩ else ⟨0, 0, [mns (hd a.S) (hd b.S)]⟩ : El) = monE 6 a b := by
  obtain ⟨l, rfl, h1, h2, _, h4, _⟩ := setE ha (by omega); obtain ⟨l', rfl, h1', h2', _, h4', _⟩ := setE hb (by omega)
  rw [monE6]
  rcases len1 (h4' rfl) with rfl | ⟨y, rfl⟩
  · simp
  · rcases len1 (h4 rfl) with rfl | ⟨x, rfl⟩
    · simp
    · have hx : IsSet x := h2.1 x (by simp)
      have e1 : hd [x] = x := rfl
      have e2 : hd [y] = y := rfl
      simp only [e1, e2, List.length_cons, List.length_nil]
      by_cases hs : sub x y = true
      · simp [hs]
      · simp only [hs]
        have : mns x y = nrm rlt (x.filter fun z => !decide (z ∈ y)) := by
          unfold mns
          rw [nrm_of_sorted rlt_sto hx, nrm_of_sorted rlt_sto (hx.filter _)]
        rw [this]; simp
theorem mon7 (ha : vld 7 a = true) : (⟨0, 0, a.S.filter fun s => !(b.S.any fun t => sub t s)⟩ : El) = monE 7 a b := by
  simp only [monE]
  rw [if_neg (by decide), if_neg (by decide), if_neg (by decide), if_neg (by decide)]
  congr 1
  refine List.filter_congr fun s _ => ?_
  rw [Bool.eq_iff_iff]
  simp [keep, hit]
  constructor
  · intro h x hx
    refine ⟨h x hx, fun e => ?_⟩
    have := h x hx
    rw [e, sub_refl] at this; cases this
  · intro h x hx; exact (h x hx).1
end
theorem tabOk (k : Int) (hk : known k = true) : TabOk k (tab k) := by
  have hk' : 0 ≤ k ∧ k ≤ 7 := by unfold known at hk; rw [Bool.and_eq_true, decide_eq_true_eq, decide_eq_true_eq] at hk; exact hk
  have ht := f67 k hk
  have hc : k = 0 ∨ k = 1 ∨ k = 2 ∨ k = 3 ∨ k = 4 ∨ k = 5 ∨ k = 6 ∨ k = 7 := by omega
  rcases hc with rfl | rfl | rfl | rfl | rfl | rfl | rfl | rfl
  · exact ⟨ht, rfl, fun e _ => vld_numB (k := 0) (by omega) (by omega) e ▸ f122 e 1, fun a b _ _ _ _ => add0 ▸ f92 a b, fun a b _ _ h1 h2 => (show (⟨imin a.N b.N, 0, []⟩ : El) = mulE 0 a b by simp [mulE]) ▸ f93 a b, fun a b _ _ h1 h2 => mon0 h1 h2 ▸ f94 a b, rfl, rfl, rfl⟩
  · have e1 : lim 1 = 1152921504606846976 := rfl
    exact ⟨ht, rfl, fun e _ => vld_numB (k := 1) (by omega) (by omega) e ▸ f122 e 1152921504606846976, fun a b _ _ h1 h2 => add1 ▸ f124 a b _ (by have := nn h1 (by omega); have := nn h2 (by omega); constructor <;> omega),
      fun a b _ _ h1 h2 => (show satP a b = mulE 1 a b by simp [mulE, satP]) ▸ f83 a b (nn h1 (by omega)).1 (nn h2 (by omega)).1 (nn h2 (by omega)).2,
      fun a b _ _ h1 h2 => (show (⟨imax (a.N - b.N) 0, 0, []⟩ : El) = monE 1 a b by simp [monE]) ▸ f98 a b (by have := nn h1 (by omega); have := nn h2 (by omega); constructor <;> omega), rfl, rfl, rfl⟩
  · have e1 : lim 2 = 1099511627776 := rfl
    exact ⟨ht, rfl, fun e _ => vld_numB (k := 2) (by omega) (by omega) e ▸ f122 e 1099511627776, fun a b _ _ _ _ => add2 ▸ f93 a b,
      fun a b _ _ h1 h2 => (show (⟨imin (a.N + b.N) 1099511627776, 0, []⟩ : El) = mulE 2 a b by simp [mulE]) ▸ f124 a b _ (by have := nn h1 (by omega); have := nn h2 (by omega); constructor <;> omega),
      fun a b _ _ h1 h2 => (show (if a.N < b.N then a else ⟨1099511627776, 0, []⟩ : El) = monE 2 a b by simp [monE, zeroE, lim]) ▸ f125 a b 1099511627776, rfl, rfl, rfl⟩
  · exact ⟨ht, rfl, fun e _ => vld_numB (k := 3) (by omega) (by omega) e ▸ f122 e 4, fun a b _ _ _ _ => add3 ▸ f93 a b,
      fun a b _ _ h1 h2 => (show (⟨imax a.N b.N, 0, []⟩ : El) = mulE 3 a b by simp [mulE]) ▸ f92 a b,
      fun a b _ _ h1 h2 => (show (if a.N < b.N then a else ⟨4, 0, []⟩ : El) = monE 3 a b by simp [monE, zeroE, lim]) ▸ f125 a b 4, rfl, rfl, rfl⟩
  · exact ⟨ht, rfl, fun e _ => vld_truB e ▸ f105 e, fun a b _ _ _ _ => add4 ▸ f106 a b,
      fun a b _ _ h1 h2 => (show (⟨imin a.N b.N, imin a.M b.M, []⟩ : El) = mulE 4 a b by simp [mulE]) ▸ f107 a b,
      fun a b _ _ h1 h2 => (show (⟨gt0 a.N b.N, imax (gt0 a.N b.N) (gt0 a.M b.M), []⟩ : El) = monE 4 a b by simp [monE]) ▸ f108 a b, rfl, rfl, rfl⟩
  · exact ⟨ht, rfl, fun e h => vld_fam5 e ▸ f128 e h, fun a b s1 s2 h1 h2 => add5 h1 h2 ▸ f130 a b s1 s2,
      fun a b s1 s2 h1 h2 => (show (⟨0, 0, prod a.S b.S⟩ : El) = mulE 5 a b by simp [mulE]) ▸ f131 a b s1 s2,
      fun a b s1 s2 h1 h2 => mon5 h1 ▸ f132 a b s1 s2, rfl, rfl, rfl⟩
  · exact ⟨ht, rfl, fun e h => vld_fam6 e ▸ f139 e h, fun a b s1 s2 h1 h2 => add6 h1 h2 ▸ f140 a b s1 s2,
      fun a b s1 s2 h1 h2 => (show (⟨0, 0, prod a.S b.S⟩ : El) = mulE 6 a b by simp [mulE]) ▸ f131 a b s1 s2,
      fun a b s1 s2 h1 h2 => mon6 h1 h2 ▸ f141 a b s1 s2, rfl, rfl, rfl⟩
  · exact ⟨ht, rfl, fun e h => vld_fam7 e ▸ f144 e h, fun a b s1 s2 h1 h2 => add7 h1 h2 ▸ f146 a b s1 s2,
      fun a b s1 s2 h1 h2 => (show (⟨0, 0, minF (prod a.S b.S)⟩ : El) = mulE 7 a b by simp [mulE]) ▸ f147 a b s1 s2,
      fun a b s1 s2 h1 h2 => mon7 h1 ▸ f148 a b s1 s2, rfl, rfl, rfl⟩
end Go.Proofs.YtomdjkcoodaheaaGreatDoor
