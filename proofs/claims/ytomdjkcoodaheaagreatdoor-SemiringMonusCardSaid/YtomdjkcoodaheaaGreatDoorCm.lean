/-
  Package semiring: family, Which, trust, copies.
-/
import Derived.Test.YtomdjkcoodaheaaGreatDoorCl
set_option linter.unusedSectionVars false
set_option linter.unusedSimpArgs false
set_option linter.unusedVariables false
set_option maxRecDepth 10000
set_option maxHeartbeats 4000000
set_option linter.unusedVariables false
set_option linter.unusedSimpArgs false
set_option linter.unusedSectionVars false
namespace Go.Proofs.YtomdjkcoodaheaaGreatDoor
open Go Go.Vc Sr
variable [Dr]

theorem f164 (x : RId) : ACalls cx 164 [dId x] fun d => d = dB (rok x) := by
  refine ACalls.eq (ACalls.of_vc (H := {}) cxOk Tryz.func164 (by kernel_rfl) rfl (show _ = 11 from rfl) (by kernel_rfl) rfl ?_)
  conv => whnf
  refine ifB.dec (fun h => ?_) (fun h => ?_)
  · conv => whnf
    exact rB (by rw [rok, decide_eq_true (show 1 ≤ x.1 from h)]; rfl)
  · conv => whnf
    exact rB (by rw [rok, decide_eq_false (show ¬ 1 ≤ x.1 from h)]; rfl)
theorem f163 (x : RId) : ACalls cx 163 [dId x] fun d => d = dB (!rok x) := by
  refine ACalls.eq (ACalls.of_vc (H := {}) cxOk Tryz.func163 (by kernel_rfl) rfl (show _ = 6 from rfl) (by kernel_rfl) rfl ?_)
  conv => whnf
  refine (f164 x).use ⟨agg2 (DLe.refl _) (DLe.refl _), trivial⟩ ?_
  rintro _ rfl
  conv => whnf
  exact rB rfl
def famP (e : El) : Prop := e.N = 0 ∧ e.M = 0 ∧ e.S.length ≤ 512 ∧ IsFam e.S ∧ Rok e.S
instance (e : El) : Decidable (famP e) := by unfold famP Rok; exact inferInstance
theorem isSet_nrm {s : Ids} : nrm rlt s = s ↔ IsSet s := ⟨fun h => h ▸ sorted_nrm rlt_sto s, fun h => nrm_of_sorted rlt_sto h⟩
theorem f128 (e : El) (he : Sz e.S) : ACalls cx 128 [dEl e] fun d => d = dB (decide (famP e)) := by
  have hb := he.bnd
  have hl := hb.1
  refine ACalls.eq (ACalls.of_vc (H := {}) cxOk Tryz.func128 (by kernel_rfl) rfl (show _ = 50 from rfl) (by kernel_rfl) rfl ?_)
  conv => whnf
  have no : ∀ {p : Prop}, (famP e → p) → ¬ p → dB false = dB (decide (famP e)) := fun h hn => by rw [decide_eq_false fun q => hn (h q)]
  refine ifB.not (ifB.dec (fun h => ?_) (fun h => ?_))
  · conv => whnf
    refine ifB.not (ifB.dec (fun h2 => ?_) (fun h2 => ?_))
    · conv => whnf
      refine ifB.dec (fun h3 => ?_) (fun h3 => ?_)
      · conv => whnf
        exact rB (decide_eq_false fun q => by have := q.2.2.1; omega).symm
      · conv => whnf
        refine VLoop.inv (N := 50) rfl (ι := Nat) (fun i => i ≤ e.S.length ∧ (∀ s ∈ e.S.take i, IsSet s ∧ ∀ x ∈ s, rok x = true) ∧ (e.S.take i).Pairwise slt) (fun i => [(1, .im (.ptr 3 (cEl e))), (20, .im (dFam e.S)), (21, .im (dI e.S.length)), (22, .im (dI i))]) (fun _ => []) (fun i => e.S.length - i) 0 ⟨Nat.zero_le _, by simp, by simp⟩ ⟨⟨ELe.refl _, ELe.refl _, ELe.refl _, ELe.refl _, trivial⟩, trivial⟩ ?_
        rintro i ⟨hi, hall, hso⟩
        conv => whnf
        refine ifB.dec (fun h4 => ?_) (fun h4 => ?_)
        · conv => whnf
          have hlt : i < e.S.length := by omega
          refine ⟨⟨by omega, by omega⟩, ?_⟩
          conv => whnf
          refine (f161 (e.S.getD i []) (hb.at i)).use ⟨DLe.refl _, trivial⟩ ?_
          rintro _ rfl
          conv => whnf
          refine (f115 (nrm rlt (e.S.getD i [])) (e.S.getD i []) (Nat.le_trans (length_nrm_le _) (hb.at i)) (hb.at i)).use ⟨DLe.refl _, DLe.refl _, trivial⟩ ?_
          rintro _ rfl
          conv => whnf
          have hmem : e.S.getD i [] ∈ e.S := by rw [getD_lt hlt]; exact List.getElem_mem hlt
          refine ifB.not (ifB.dec (fun h5 => ?_) (fun h5 => ?_))
          · conv => whnf
            refine (f162 (g := 163) (n := 0) (cf := fun _ => .top) (p := fun x => !rok x) (e.S.getD i []) (hb.at i) (fun x _ => f163 x)).use ⟨DLe.refl _, DLe.refl _, trivial⟩ ?_
            rintro _ rfl
            conv => whnf
            refine ifB.intro (fun h6 => ?_) (fun h6 => ?_)
            · conv => whnf
              refine rB (decide_eq_false fun q => ?_).symm
              rw [List.any_eq_true] at h6
              obtain ⟨x, hx, hn⟩ := h6
              have := q.2.2.2.2 _ hmem x hx
              rw [this] at hn; cases hn
            · conv => whnf
              have hset : IsSet (e.S.getD i []) := isSet_nrm.1 h5
              have hrok : ∀ x ∈ e.S.getD i [], rok x = true := fun x hx => by
                rw [Bool.eq_false_iff, ne_eq, List.any_eq_true] at h6
                cases hr : rok x with
                | true => rfl
                | false => exact absurd ⟨x, hx, by rw [hr]; rfl⟩ h6
              have hnext : ∀ s ∈ e.S.take (i + 1), IsSet s ∧ ∀ x ∈ s, rok x = true := fun s hs => by
                rcases (mem_take_succ (x0 := []) hlt).1 hs with q | q
                · exact hall s q
                · rw [q]; exact ⟨hset, hrok⟩
              have hadj := adj_succ [] hlt hso slt_sto
              refine ifB.dec (fun h7 => ?_) (fun h7 => ?_)
              · conv => whnf
                refine ⟨⟨by omega, by omega⟩, ⟨by omega, by omega⟩, ?_⟩
                conv => whnf
                have e1 : ((i : Int) - 1).toNat = i - 1 := by omega
                refine (f165 (e.S.getD (i - 1) []) (e.S.getD i []) (hb.at _) (hb.at _)).use ⟨DLe.of_eq (congrArg (fun k => dIds (e.S.getD k [])) e1), DLe.refl _, DLe.refl _, trivial⟩ ?_
                rintro _ rfl
                conv => whnf
                refine ifB.dec (fun h8 => ?_) (fun h8 => ?_)
                · conv => whnf
                  refine rB (decide_eq_false fun q => ?_).symm
                  have hp : (e.S.take (i + 1)).Pairwise slt := q.2.2.2.1.2.sublist (List.take_sublist _ _)
                  have := hadj.1 hp (by omega)
                  unfold slt at this; omega
                · conv => whnf
                  refine ⟨⟨by omega, by omega⟩, ?_⟩
                  conv => whnf
                  exact VNext.by (i + 1) rfl ⟨by omega, hnext, hadj.2 fun _ => by unfold slt; omega⟩ (by omega) ⟨⟨ELe.refl _, ELe.refl _, ELe.refl _, ELe.refl _, trivial⟩, trivial⟩
              · conv => whnf
                refine ⟨⟨by omega, by omega⟩, ?_⟩
                conv => whnf
                exact VNext.by (i + 1) rfl ⟨by omega, hnext, hadj.2 fun q => by omega⟩ (by omega) ⟨⟨ELe.refl _, ELe.refl _, ELe.refl _, ELe.refl _, trivial⟩, trivial⟩
          · conv => whnf
            exact rB (decide_eq_false fun q => h5 (isSet_nrm.2 (q.2.2.2.1.1 _ hmem))).symm
        · conv => whnf
          refine rB (decide_eq_true ?_).symm
          have hie : i = e.S.length := by omega
          rw [hie, List.take_length] at hall hso
          exact ⟨h, h2, by omega, ⟨fun s hs => (hall s hs).1, hso⟩, fun s hs => (hall s hs).2⟩
    · conv => whnf
      exact rB (decide_eq_false fun q => h2 q.2.1).symm
  · conv => whnf
    exact rB (decide_eq_false fun q => h q.1).symm
theorem f139 (e : El) (he : Sz e.S) : ACalls cx 139 [dEl e] fun d => d = dB (decide (famP e) && decide (e.S.length ≤ 1)) := by
  refine ACalls.eq (ACalls.of_vc (H := {}) cxOk Tryz.func139 (by kernel_rfl) rfl (show _ = 11 from rfl) (by kernel_rfl) rfl ?_)
  conv => whnf
  refine (f128 e he).use ⟨agg3 (DLe.refl _) (DLe.refl _) (DLe.refl _), trivial⟩ ?_
  rintro _ rfl
  conv => whnf
  refine ifB.intro (fun h => ?_) (fun h => ?_)
  · conv => whnf
    exact rB (by rw [h, Bool.true_and, decide_eq_decide]; omega)
  · conv => whnf
    exact rB (by rw [h]; rfl)
theorem f144 (e : El) (he : Sz e.S) : ACalls cx 144 [dEl e] fun d => d = dB (decide (famP e) && decide ((minF e.S).length = e.S.length)) := by
  refine ACalls.eq (ACalls.of_vc (H := { draw := [(1, 13, [])] }) cxOk Tryz.func144 (by kernel_rfl) rfl (show _ = 15 from rfl) (by kernel_rfl) rfl ?_)
  conv => whnf
  refine ⟨_, (f128 e he).use ⟨agg3 (DLe.refl _) (DLe.refl _) (DLe.refl _), trivial⟩ (fun d h => h), ?_⟩
  conv => whnf
  refine ifB.intro (fun h => ?_) (fun h => ?_)
  · conv => whnf
    refine ⟨_, (f145 e.S he.bnd).use ⟨DLe.refl _, trivial⟩ (fun d h => h), ?_⟩
    conv => whnf
    exact rB (by rw [h, Bool.true_and, decide_eq_decide]; omega)
  · conv => whnf
    exact rB (by rw [h]; rfl)
theorem f140 (a b : El) (ha : Sz a.S) (hb : Sz b.S) : ACalls cx 140 [dEl a, dEl b] fun d => d = dEl (if a.S.length = 0 then b else if b.S.length = 0 then a else ⟨0, 0, prod a.S b.S⟩) := by
  refine ACalls.eq (ACalls.of_vc (H := { own := [4] }) cxOk Tryz.func140 (by kernel_rfl) rfl (show _ = 18 from rfl) (by kernel_rfl) rfl ?_)
  conv => whnf
  refine ifB.dec (fun h => ?_) (fun h => ?_)
  · conv => whnf
    rw [if_pos (show a.S.length = 0 by omega)]
    exact rSelf (DLe.refl _) (DLe.refl _) (DLe.refl _)
  · conv => whnf
    rw [if_neg (show ¬ a.S.length = 0 by omega)]
    refine ifB.dec (fun h2 => ?_) (fun h2 => ?_)
    · conv => whnf
      rw [if_pos (show b.S.length = 0 by omega)]
      exact rSelf (DLe.refl _) (DLe.refl _) (DLe.refl _)
    · conv => whnf
      rw [if_neg (show ¬ b.S.length = 0 by omega)]
      refine (f131 a b ha hb).use ⟨agg3 (DLe.refl _) (DLe.refl _) (DLe.refl _), agg3 (DLe.refl _) (DLe.refl _) (DLe.refl _), trivial⟩ ?_
      rintro _ rfl
      conv => whnf
      exact rSelf (DLe.refl _) (DLe.refl _) (DLe.refl _)
theorem f141 (a b : El) (ha : Sz a.S) (hb : Sz b.S) : ACalls cx 141 [dEl a, dEl b] fun d => d = dEl (if a.S.length = 0 ∨ b.S.length = 0 then a else if sub (hd a.S) (hd b.S) = true then ⟨0, 0, []⟩ else ⟨0, 0, [mns (hd a.S) (hd b.S)]⟩) := by
  have self : a.S.length = 0 ∨ b.S.length = 0 → dEl a = dEl (if a.S.length = 0 ∨ b.S.length = 0 then a else if sub (hd a.S) (hd b.S) = true then ⟨0, 0, []⟩ else ⟨0, 0, [mns (hd a.S) (hd b.S)]⟩) := fun h => by rw [if_pos h]
  have more : ∀ (h1 : ¬ (a.S.length : Int) = 0) (h2 : ¬ (b.S.length : Int) = 0), dEl (if sub (hd a.S) (hd b.S) = true then ⟨0, 0, []⟩ else ⟨0, 0, [mns (hd a.S) (hd b.S)]⟩) = dEl (if a.S.length = 0 ∨ b.S.length = 0 then a else if sub (hd a.S) (hd b.S) = true then ⟨0, 0, []⟩ else ⟨0, 0, [mns (hd a.S) (hd b.S)]⟩) := fun h1 h2 => by rw [if_neg (show ¬ (a.S.length = 0 ∨ b.S.length = 0) by omega)]
  refine ACalls.eq (ACalls.of_vc (H := { draw := [(3, 9, []), (5, 11, [])], own := [4] }) cxOk Tryz.func141 (by kernel_rfl) rfl (show _ = 37 from rfl) (by kernel_rfl) rfl ?_)
  conv => whnf
  refine ifB.dec (fun h => ?_) (fun h => ?_)
  · conv => whnf
    rw [← self (.inl (by omega))]
    exact rSelf (DLe.refl _) (DLe.refl _) (DLe.refl _)
  · conv => whnf
    refine ifB.dec (fun h2 => ?_) (fun h2 => ?_)
    · conv => whnf
      rw [← self (.inr (by omega))]
      exact rSelf (DLe.refl _) (DLe.refl _) (DLe.refl _)
    · conv => whnf
      rw [← more h h2]
      refine ⟨⟨by omega, by omega⟩, ⟨by omega, by omega⟩, ?_⟩
      conv => whnf
      refine ⟨_, (f142 (hd a.S) (hd b.S) (ha.bnd.at 0) (hb.bnd.at 0)).use ⟨DLe.refl _, DLe.refl _, trivial⟩ (fun d h => h), ?_⟩
      conv => whnf
      refine ifB.intro (fun h3 => ?_) (fun h3 => ?_)
      · conv => whnf
        rw [if_pos h3]
        exact rNum (DLe.refl _) (DLe.refl _) rfl
      · conv => whnf
        rw [if_neg (by rw [h3]; simp)]
        refine ⟨⟨by omega, by omega⟩, ⟨by omega, by omega⟩, ?_⟩
        conv => whnf
        refine ⟨_, (f143 (hd a.S) (hd b.S) (ha.bnd.at 0) (hb.bnd.at 0)).use ⟨DLe.refl _, DLe.refl _, trivial⟩ (fun d h => h), ?_⟩
        conv => whnf
        exact rSelf (DLe.refl _) (DLe.refl _) (DLe.slice (one1 (DLe.refl _)))
theorem f108 (a b : El) : ACalls cx 108 [dEl a, dEl b] fun d => d = dEl ⟨gt0 a.N b.N, imax (gt0 a.N b.N) (gt0 a.M b.M), []⟩ := by
  refine ACalls.eq (ACalls.of_vc (H := { own := [4, 5] }) cxOk Tryz.func108 (by kernel_rfl) rfl (show _ = 29 from rfl) (by kernel_rfl) rfl ?_)
  conv => whnf
  refine ifB.dec (fun h => ?_) (fun h => ?_)
  · conv => whnf
    refine ifB.dec (fun h2 => ?_) (fun h2 => ?_)
    · conv => whnf
      rw [gt0, gt0, if_pos h, if_pos h2]
      exact rNum (DLe.refl _) (DLe.refl _) rfl
    · conv => whnf
      rw [gt0, gt0, if_pos h, if_neg h2]
      exact rNum (DLe.refl _) (DLe.refl _) rfl
  · conv => whnf
    refine ifB.dec (fun h2 => ?_) (fun h2 => ?_)
    · conv => whnf
      rw [gt0, gt0, if_neg h, if_pos h2]
      exact rNum (DLe.refl _) (DLe.refl _) rfl
    · conv => whnf
      rw [gt0, gt0, if_neg h, if_neg h2]
      exact rNum (DLe.refl _) (DLe.refl _) rfl
theorem f66 (e : El) (he : Sz e.S) : ACalls cx 66 [dEl e] fun d => d = dEl e := by
  have hb := he.bnd
  have hl := hb.1
  refine ACalls.eq (ACalls.of_vc (H := { own := [1, 2], nil := [(3, 34, 1)] }) cxOk Tryz.func66 (by kernel_rfl) rfl (show _ = 22 from rfl) (by kernel_rfl) rfl ?_)
  conv => whnf
  refine VLoop.inv (N := 22) rfl (ι := Nat) (fun i => i ≤ e.S.length) (fun i => [(1, .own 1 0), (2, .own 2 0), (3, .orow 3), (7, .im (dFam e.S)), (8, .im (dI e.S.length)), (9, .im (dI i))]) (fun i => [(1, .box 24 3 fun j => .im (cEl e j)), (2, .box 24 3 fun _ => topE), (3, .row 34 1 i (fFam (e.S.take i)))]) (fun i => e.S.length - i) 0 (Nat.zero_le _) ⟨⟨ELe.refl _, ELe.refl _, ELe.refl _, ELe.refl _, ELe.refl _, ELe.refl _, trivial⟩, ⟨box3 (ELe.refl _) (ELe.refl _) (ELe.refl _), box3 (ELe.top _) (ELe.top _) (ELe.top _), ⟨rfl, rfl, rfl, fun i j hi => absurd hi (Nat.not_lt_zero _)⟩, trivial⟩⟩ ?_
  rintro i hi
  conv => whnf
  refine ifB.dec (fun h => ?_) (fun h => ?_)
  · conv => whnf
    have hlt : i < e.S.length := by omega
    refine ⟨⟨by omega, by omega⟩, ?_⟩
    conv => whnf
    refine (f90 (e.S.getD i []) (hb.at i)).use ⟨DLe.refl _, trivial⟩ ?_
    rintro _ rfl
    conv => whnf
    refine ⟨⟨b34 (by omega), one1 rfl⟩, ?_⟩
    conv => whnf
    refine ⟨⟨by omega, by omega⟩, ?_⟩
    conv => whnf
    refine VNext.by (i + 1) rfl (by omega) (by omega) ⟨⟨ELe.refl _, ELe.refl _, ELe.refl _, ELe.refl _, ELe.refl _, ELe.refl _, trivial⟩, ⟨box3 (ELe.refl _) (ELe.refl _) (ELe.refl _), box3 (ELe.top _) (ELe.top _) (ELe.top _), ⟨rfl, rfl, rfl, ?_⟩, trivial⟩⟩
    rw [take_snoc [] hlt]
    exact pt1 (by rw [List.length_take]; omega) (fun _ _ _ _ => DLe.refl _) (DLe.refl _)
  · conv => whnf
    have hie : i = e.S.length := by omega
    rw [hie, List.take_length]
    exact rSelf (DLe.refl _) (DLe.refl _) (DLe.refl _)
end Go.Proofs.YtomdjkcoodaheaaGreatDoor
