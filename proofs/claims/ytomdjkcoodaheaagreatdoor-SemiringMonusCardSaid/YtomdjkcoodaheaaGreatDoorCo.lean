/-
  Package semiring: Valid, Add, Mul, Monus, Zero, One, Equal, LessEq, Absorptive.
-/
import Derived.Test.YtomdjkcoodaheaaGreatDoorCn
set_option linter.unusedSectionVars false
set_option linter.unusedSimpArgs false
set_option linter.unusedVariables false
set_option maxRecDepth 10000
set_option maxHeartbeats 4000000
set_option linter.unusedVariables false
set_option linter.unusedSimpArgs false
set_option linter.unusedSectionVars false
namespace Go.Proofs.YtomdjkcoodaheaaGreatDoor
open Go Go.Vc Sr
variable [Dr]

theorem f33 (k : Int) (e : El) (he : Sz e.S) : ACalls cx 33 [dI k, dEl e] fun d => d = dB (vld k e) := by
  cases hk : known k with
  | true =>
    have hT := tabOk k hk
    generalize tab k = T at hT
    refine ACalls.eq (ACalls.of_vc (H := { own := [5] }) cxOk Tryz.func33 (by kernel_rfl) rfl (show _ = 17 from rfl) (by kernel_rfl) rfl ?_)
    conv => whnf
    refine (hT.tab).use ⟨DLe.refl _, trivial⟩ ?_
    rintro _ rfl
    conv => whnf
    refine ifB.not (ifB.intro (fun h => by rw [hT.nm] at h; cases h) (fun h => ?_))
    conv => whnf
    refine (hT.val e he).use (DLes.app ⟨DLe.refl _, trivial⟩) ?_
    rintro _ rfl
    conv => whnf
    exact rB rfl
  | false =>
    rw [vld_unknown hk]
    refine ACalls.eq (ACalls.of_vc (H := { own := [5] }) cxOk Tryz.func33 (by kernel_rfl) rfl (show _ = 17 from rfl) (by kernel_rfl) rfl ?_)
    conv => whnf
    refine (n67 k hk).use ⟨DLe.refl _, trivial⟩ ?_
    rintro _ rfl
    conv => whnf
    exact rB rfl
def Sy (l : Fam) : Prop := l.length ≤ 1000 ∧ ∀ s ∈ l, s.length ≤ 200000
theorem Sy.sz {l : Fam} (h : Sy l) : Sz l := ⟨h.1, fun s hs => Nat.le_trans (h.2 s hs) (by decide)⟩
theorem len_un {x y : Ids} : (un x y).length ≤ x.length + y.length := length_un_le x y
theorem lens_add {k : Int} {a b : El} {n m : Nat} (ha : ∀ s ∈ a.S, s.length ≤ n) (hb : ∀ s ∈ b.S, s.length ≤ m) (va : vld k a = true) (vb : vld k b = true) : ∀ s ∈ (addE k a b).S, s.length ≤ n + m := by
  have hk := kinds va
  have app : ∀ s ∈ a.S ++ b.S, s.length ≤ n + m := fun s hs => by
    rcases List.mem_append.1 hs with q | q
    · have := ha s q; omega
    · have := hb s q; omega
  rcases hk with rfl | rfl | rfl | rfl | rfl | rfl | rfl | rfl
  · simp [addE]
  · simp [addE]
  · simp [addE]
  · simp [addE]
  · simp [addE]
  · rw [← add5 va vb]
    obtain ⟨l, rfl, h1, h2, _⟩ := setE va (by omega); obtain ⟨l', rfl, h1', h2', _⟩ := setE vb (by omega)
    intro s hs
    exact app s ((mem_fam (h2.sets.app h2'.sets)).1 hs)
  · rw [← add6 va vb]
    split
    · intro s hs; have := hb s hs; omega
    · split
      · intro s hs; have := ha s hs; omega
      · intro s hs
        obtain ⟨x, hx, y, hy, rfl⟩ := mem_prod.1 hs
        have := length_un_le x y; have := ha x hx; have := hb y hy; omega
  · rw [← add7 va vb]
    obtain ⟨l, rfl, h1, h2, _⟩ := setE va (by omega); obtain ⟨l', rfl, h1', h2', _⟩ := setE vb (by omega)
    intro s hs
    exact app s (minF_sub (h2.sets.app h2'.sets) hs)
theorem lens_mul {k : Int} {a b : El} {n m : Nat} (ha : ∀ s ∈ a.S, s.length ≤ n) (hb : ∀ s ∈ b.S, s.length ≤ m) (va : vld k a = true) (vb : vld k b = true) : ∀ s ∈ (mulE k a b).S, s.length ≤ n + m := by
  have hk := kinds va
  have hp : ∀ s ∈ prod a.S b.S, s.length ≤ n + m := fun s hs => by
    obtain ⟨x, hx, y, hy, rfl⟩ := mem_prod.1 hs
    have := length_un_le x y; have := ha x hx; have := hb y hy; omega
  rcases hk with rfl | rfl | rfl | rfl | rfl | rfl | rfl | rfl
  · simp [mulE]
  · obtain ⟨x, rfl, h1, _⟩ := numE va (by omega); obtain ⟨y, rfl, h2, _⟩ := numE vb (by omega); simp [mulE1 h1 h2]
  · simp [mulE]
  · simp [mulE]
  · simp [mulE]
  · rw [show mulE 5 a b = ⟨0, 0, prod a.S b.S⟩ by simp [mulE]]; exact hp
  · rw [show mulE 6 a b = ⟨0, 0, prod a.S b.S⟩ by simp [mulE]]; exact hp
  · rw [show mulE 7 a b = ⟨0, 0, minF (prod a.S b.S)⟩ by simp [mulE]]
    exact fun s hs => hp s (minF_sub (prod_sets _ _) hs)
theorem mns_len (x y : Ids) : (mns x y).length ≤ x.length := Nat.le_trans (List.length_filter_le _ _) (length_nrm_le _)
theorem lens_mon {k : Int} {a b : El} {n : Nat} (ha : ∀ s ∈ a.S, s.length ≤ n) (va : vld k a = true) (vb : vld k b = true) : ∀ s ∈ (monE k a b).S, s.length ≤ n := by
  have hk := kinds va
  rcases hk with rfl | rfl | rfl | rfl | rfl | rfl | rfl | rfl
  · simp [monE]
  · simp [monE]
  · simp only [monE]; rw [if_neg (by decide), if_pos (by decide)]
    split
    · exact ha
    · simp [zeroE]
  · simp only [monE]; rw [if_neg (by decide), if_pos (by decide)]
    split
    · exact ha
    · simp [zeroE]
  · simp [monE]
  · rw [← mon5 va]; exact fun s hs => ha s (List.mem_filter.1 hs).1
  · rw [← mon6 va vb]
    split
    · exact ha
    · split
      · simp
      · rename_i h _
        intro s hs
        rw [List.mem_singleton] at hs
        subst hs
        refine Nat.le_trans (mns_len _ _) (ha _ ?_)
        have hl : 0 < a.S.length := by omega
        unfold hd; rw [getD_lt hl]; exact List.getElem_mem hl
  · rw [← mon7 va]; exact fun s hs => ha s (List.mem_filter.1 hs).1

theorem dResE {e : El} {n : Int} {g : Nat → D} {p : El × Int} (he : p = (e, n)) (h0 : DLe (g 0) (dEl e)) (h1 : DLe (g 1) (dI n)) : Ret (fun x => DLe x (dRes p.1 p.2)) (.tup 2 g) := rOut he h0 h1
theorem f52 {q g n : Nat} {cf : Nat → D} (k : Int) (a b e : El) (ha : Sz a.S) (hb : Sz b.S) (hp : known k = true → ACalls cx q [dTab (tab k)] fun d => d = .func g n cf)
    (hop : vld k a = true → vld k b = true → ACalls cx g ([dEl a, dEl b] ++ capD n cf) fun d => d = dEl e) (hs : vld k a = true → vld k b = true → ∀ s ∈ e.S, s.length ≤ 400000) :
    ACalls cx 52 [dI k, dEl a, dEl b, dF q] fun d => d = dRes (opOut k a b e).1 (opOut k a b e).2 := by
  refine ACalls.eq (ACalls.of_vc (H := { draw := [(3, 8, [10])], own := [8, 10] }) cxOk Tryz.func52 (by kernel_rfl) rfl (show _ = 36 from rfl) (by kernel_rfl) rfl ?_)
  conv => whnf
  refine (f33 k a ha).use ⟨DLe.refl _, DLe.refl _, trivial⟩ ?_
  rintro _ rfl
  conv => whnf
  refine ifB.not (ifB.intro (fun h1 => ?_) (fun h1 => ?_))
  · conv => whnf
    refine (f33 k b hb).use ⟨DLe.refl _, DLe.refl _, trivial⟩ ?_
    rintro _ rfl
    conv => whnf
    refine ifB.not (ifB.intro (fun h2 => ?_) (fun h2 => ?_))
    · conv => whnf
      have hk : known k = true := by
        cases hk : known k with
        | true => rfl
        | false => rw [vld_unknown hk] at h1; cases h1
      refine ⟨_, (f67 k hk).use ⟨DLe.refl _, trivial⟩ (fun d h => h), ?_⟩
      conv => whnf
      refine ⟨_, (hp hk).use ⟨DLe.refl _, trivial⟩ (fun d h => h), ?_⟩
      conv => whnf
      refine ⟨_, (hop h1 h2).use (DLes.app ⟨DLe.refl _, DLe.refl _, trivial⟩) (fun d h => h), ?_⟩
      conv => whnf
      refine ifB.dec (fun h3 => ?_) (fun h3 => ?_)
      · conv => whnf
        exact rOut (e' := ⟨0, 0, []⟩) (n' := 6) (by rw [opOut_yes h1 h2, res, if_pos (by omega)]) (el3 (DLe.refl _) (DLe.refl _) nilL) (DLe.refl _)
      · conv => whnf
        refine (f66 e ⟨by omega, hs h1 h2⟩).use ⟨agg3 (DLe.refl _) (DLe.refl _) (DLe.refl _), trivial⟩ ?_
        rintro _ rfl
        conv => whnf
        exact rOut (e' := e) (n' := 0) (by rw [opOut_yes h1 h2, res, if_neg (by omega)]) (el3 (DLe.refl _) (DLe.refl _) (DLe.refl _)) (DLe.refl _)
    · conv => whnf
      exact rOut (e' := ⟨0, 0, []⟩) (n' := 1) (opOut_no fun h => by rw [h2] at h; cases h.2) (el3 (DLe.refl _) (DLe.refl _) nilL) (DLe.refl _)
  · conv => whnf
    exact rOut (e' := ⟨0, 0, []⟩) (n' := 1) (opOut_no fun h => by rw [h1] at h; cases h.1) (el3 (DLe.refl _) (DLe.refl _) nilL) (DLe.refl _)
theorem f53 (T : Tab) : ACalls cx 53 [dTab T] fun d => d = .func T.ag T.an T.af := by
  refine ACalls.eq (ACalls.of_vc (H := {}) cxOk Tryz.func53 (by kernel_rfl) rfl (show _ = 5 from rfl) (by kernel_rfl) rfl ?_)
  conv => whnf
  exact Ret.le (DLe.refl _)
theorem f54 (T : Tab) : ACalls cx 54 [dTab T] fun d => d = .func T.mg T.mn T.mf := by
  refine ACalls.eq (ACalls.of_vc (H := {}) cxOk Tryz.func54 (by kernel_rfl) rfl (show _ = 5 from rfl) (by kernel_rfl) rfl ?_)
  conv => whnf
  exact Ret.le (DLe.refl _)
theorem f55 (T : Tab) : ACalls cx 55 [dTab T] fun d => d = .func T.og T.on T.of := by
  refine ACalls.eq (ACalls.of_vc (H := {}) cxOk Tryz.func55 (by kernel_rfl) rfl (show _ = 5 from rfl) (by kernel_rfl) rfl ?_)
  conv => whnf
  exact Ret.le (DLe.refl _)
theorem known_of {k : Int} {e : El} (h : vld k e = true) : known k = true := by
  cases hk : known k with
  | true => rfl
  | false => rw [vld_unknown hk] at h; cases h
theorem rResP {g : Nat → D} {p : El × Int} (h0 : DLe (g 0) (dEl p.1)) (h1 : DLe (g 1) (dI p.2)) : Ret (fun x => DLe x (dRes p.1 p.2)) (.tup 2 g) := Ret.le (tup2 h0 h1)
theorem f15 (k : Int) (a b : El) (ha : Sy a.S) (hb : Sy b.S) : ACalls cx 15 [dI k, dEl a, dEl b] fun d => d = dRes (opOut k a b (addE k a b)).1 (opOut k a b (addE k a b)).2 := by
  refine ACalls.eq (ACalls.of_vc (H := { own := [6] }) cxOk Tryz.func15 (by kernel_rfl) rfl (show _ = 14 from rfl) (by kernel_rfl) rfl ?_)
  conv => whnf
  refine (f52 (q := 53) k a b (addE k a b) ha.sz hb.sz (fun _ => f53 (tab k)) (fun h1 h2 => (tabOk k (known_of h1)).add a b ha.sz hb.sz h1 h2) (fun h1 h2 s hs => lens_add ha.2 hb.2 h1 h2 s hs)).use ⟨DLe.refl _, DLe.refl _, DLe.refl _, DLe.refl _, trivial⟩ ?_
  rintro _ rfl
  conv => whnf
  exact rResP (el3 (DLe.refl _) (DLe.refl _) (DLe.refl _)) (DLe.refl _)
theorem f16 (k : Int) (a b : El) (ha : Sy a.S) (hb : Sy b.S) : ACalls cx 16 [dI k, dEl a, dEl b] fun d => d = dRes (opOut k a b (mulE k a b)).1 (opOut k a b (mulE k a b)).2 := by
  refine ACalls.eq (ACalls.of_vc (H := { own := [6] }) cxOk Tryz.func16 (by kernel_rfl) rfl (show _ = 14 from rfl) (by kernel_rfl) rfl ?_)
  conv => whnf
  refine (f52 (q := 54) k a b (mulE k a b) ha.sz hb.sz (fun _ => f54 (tab k)) (fun h1 h2 => (tabOk k (known_of h1)).mul a b ha.sz hb.sz h1 h2) (fun h1 h2 s hs => lens_mul ha.2 hb.2 h1 h2 s hs)).use ⟨DLe.refl _, DLe.refl _, DLe.refl _, DLe.refl _, trivial⟩ ?_
  rintro _ rfl
  conv => whnf
  exact rResP (el3 (DLe.refl _) (DLe.refl _) (DLe.refl _)) (DLe.refl _)
theorem f17 (k : Int) (a b : El) (ha : Sy a.S) (hb : Sy b.S) : ACalls cx 17 [dI k, dEl a, dEl b] fun d => d = dRes (opOut k a b (monE k a b)).1 (opOut k a b (monE k a b)).2 := by
  refine ACalls.eq (ACalls.of_vc (H := { own := [6] }) cxOk Tryz.func17 (by kernel_rfl) rfl (show _ = 14 from rfl) (by kernel_rfl) rfl ?_)
  conv => whnf
  refine (f52 (q := 55) k a b (monE k a b) ha.sz hb.sz (fun _ => f55 (tab k)) (fun h1 h2 => (tabOk k (known_of h1)).mon a b ha.sz hb.sz h1 h2) (fun h1 h2 s hs => Nat.le_trans (lens_mon ha.2 h1 h2 s hs) (by decide))).use ⟨DLe.refl _, DLe.refl _, DLe.refl _, DLe.refl _, trivial⟩ ?_
  rintro _ rfl
  conv => whnf
  exact rResP (el3 (DLe.refl _) (DLe.refl _) (DLe.refl _)) (DLe.refl _)
theorem zero_sz (k : Int) : Sz (zeroE k).S := by unfold zeroE; split <;> exact ⟨Nat.zero_le _, fun s hs => by cases hs⟩
theorem one_sz (k : Int) : Sz (oneEl k).S := by
  have h : Sz ([] : Fam) := ⟨Nat.zero_le _, fun s hs => by cases hs⟩
  unfold oneEl
  split
  · exact h
  · split
    · exact h
    · split
      · exact ⟨by show 1 ≤ 1000; decide, fun s hs => by rw [List.mem_singleton.1 hs]; exact Nat.zero_le _⟩
      · exact h
theorem f23 (k : Int) (hk : known k = true) : ACalls cx 23 [dI k] fun d => d = dEl (zeroE k) := by
  have hT := tabOk k hk
  generalize tab k = T at hT
  have hz := hT.zero
  refine ACalls.eq (ACalls.of_vc (H := { own := [2] }) cxOk Tryz.func23 (by kernel_rfl) rfl (show _ = 7 from rfl) (by kernel_rfl) rfl ?_)
  conv => whnf
  refine (hT.tab).use ⟨DLe.refl _, trivial⟩ ?_
  rintro _ rfl
  conv => whnf
  refine (f66 T.zero (by rw [hz]; exact zero_sz k)).use ⟨agg3 (DLe.refl _) (DLe.refl _) (DLe.refl _), trivial⟩ ?_
  rintro _ rfl
  conv => whnf
  rw [hz]
  exact rSelf (DLe.refl _) (DLe.refl _) (DLe.refl _)
theorem f25 (k : Int) (hk : known k = true) : ACalls cx 25 [dI k] fun d => d = dEl (oneEl k) := by
  have hT := tabOk k hk
  generalize tab k = T at hT
  have hz := hT.one
  refine ACalls.eq (ACalls.of_vc (H := { own := [2] }) cxOk Tryz.func25 (by kernel_rfl) rfl (show _ = 7 from rfl) (by kernel_rfl) rfl ?_)
  conv => whnf
  refine (hT.tab).use ⟨DLe.refl _, trivial⟩ ?_
  rintro _ rfl
  conv => whnf
  refine (f66 T.one (by rw [hz]; exact one_sz k)).use ⟨agg3 (DLe.refl _) (DLe.refl _) (DLe.refl _), trivial⟩ ?_
  rintro _ rfl
  conv => whnf
  rw [hz]
  exact rSelf (DLe.refl _) (DLe.refl _) (DLe.refl _)
theorem f24 (k : Int) (a b : El) (ha : Sz a.S) (hb : Sz b.S) : ACalls cx 24 [dI k, dEl a, dEl b] fun d => d = dB (vld k a && (vld k b && decide (a = b))) := by
  refine ACalls.eq (ACalls.of_vc (H := {}) cxOk Tryz.func24 (by kernel_rfl) rfl (show _ = 20 from rfl) (by kernel_rfl) rfl ?_)
  conv => whnf
  refine (f33 k a ha).use ⟨DLe.refl _, DLe.refl _, trivial⟩ ?_
  rintro _ rfl
  conv => whnf
  refine ifB.intro (fun h1 => ?_) (fun h1 => ?_)
  · conv => whnf
    refine (f33 k b hb).use ⟨DLe.refl _, DLe.refl _, trivial⟩ ?_
    rintro _ rfl
    conv => whnf
    refine ifB.intro (fun h2 => ?_) (fun h2 => ?_)
    · conv => whnf
      refine (f68 a b ha.bnd hb.bnd).use ⟨DLe.refl _, DLe.refl _, trivial⟩ ?_
      rintro _ rfl
      conv => whnf
      exact rB (by rw [h1, h2]; rfl)
    · conv => whnf
      exact rB (by rw [h1, h2]; rfl)
  · conv => whnf
    exact rB (by rw [h1]; rfl)
def leq (k : Int) (a b : El) : Bool := vld k a && (vld k b && (if k = 1 then decide (a.N ≤ b.N) else decide (addE k a b = b)))
theorem f27 (k : Int) (a b : El) (ha : Sy a.S) (hb : Sy b.S) : ACalls cx 27 [dI k, dEl a, dEl b] fun d => d = dB (leq k a b) := by
  refine ACalls.eq (ACalls.of_vc (H := { draw := [(5, 9, [])] }) cxOk Tryz.func27 (by kernel_rfl) rfl (show _ = 32 from rfl) (by kernel_rfl) rfl ?_)
  conv => whnf
  refine (f33 k a ha.sz).use ⟨DLe.refl _, DLe.refl _, trivial⟩ ?_
  rintro _ rfl
  conv => whnf
  refine ifB.not (ifB.intro (fun h1 => ?_) (fun h1 => ?_))
  · conv => whnf
    refine (f33 k b hb.sz).use ⟨DLe.refl _, DLe.refl _, trivial⟩ ?_
    rintro _ rfl
    conv => whnf
    refine ifB.not (ifB.intro (fun h2 => ?_) (fun h2 => ?_))
    · conv => whnf
      refine ifB.dec (fun h3 => ?_) (fun h3 => ?_)
      · conv => whnf
        exact rB (by rw [leq, h1, h2, if_pos h3]; rfl)
      · conv => whnf
        have hk := known_of h1
        have hT := tabOk k hk
        generalize tab k = T at hT
        refine ⟨_, (hT.tab).use ⟨DLe.refl _, trivial⟩ (fun d h => h), ?_⟩
        conv => whnf
        refine ⟨_, (hT.add a b ha.sz hb.sz h1 h2).use (DLes.app ⟨DLe.refl _, DLe.refl _, trivial⟩) (fun d h => h), ?_⟩
        conv => whnf
        have hab : Bnd 1000000 (addE k a b).S := ⟨Nat.le_trans (add_len h1 h2) (by have := ha.1; have := hb.1; omega), fun s hs => Nat.le_trans (lens_add ha.2 hb.2 h1 h2 s hs) (by decide)⟩
        refine ⟨_, (f68 (addE k a b) b hab hb.sz.bnd).use ⟨DLe.refl _, DLe.refl _, trivial⟩ (fun d h => h), ?_⟩
        conv => whnf
        exact rB (by rw [leq, h1, h2, if_neg h3]; rfl)
    · conv => whnf
      exact rB (by rw [leq, h1, h2]; rfl)
  · conv => whnf
    exact rB (by rw [leq, h1]; rfl)
theorem f26 (k : Int) : ACalls cx 26 [dI k] fun d => d = dB (absorb k) := by
  cases hk : known k with
  | true =>
    have hT := tabOk k hk
    generalize tab k = T at hT
    refine ACalls.eq (ACalls.of_vc (H := {}) cxOk Tryz.func26 (by kernel_rfl) rfl (show _ = 6 from rfl) (by kernel_rfl) rfl ?_)
    conv => whnf
    refine (hT.tab).use ⟨DLe.refl _, trivial⟩ ?_
    rintro _ rfl
    conv => whnf
    exact rB hT.ab
  | false =>
    refine ACalls.eq (ACalls.of_vc (H := {}) cxOk Tryz.func26 (by kernel_rfl) rfl (show _ = 6 from rfl) (by kernel_rfl) rfl ?_)
    conv => whnf
    refine (n67 k hk).use ⟨DLe.refl _, trivial⟩ ?_
    rintro _ rfl
    conv => whnf
    refine rB ?_
    unfold known at hk; rw [← Bool.not_eq_true, Bool.and_eq_true, decide_eq_true_eq, decide_eq_true_eq] at hk
    unfold absorb
    rw [decide_eq_false (by omega), decide_eq_false (by omega), decide_eq_false (by omega), decide_eq_false (by omega), decide_eq_false (by omega)]; rfl
end Go.Proofs.YtomdjkcoodaheaaGreatDoor
