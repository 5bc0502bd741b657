/-
  Package slices: CompactFunc, DeleteFunc at families.
-/
import Derived.Test.YtomdjkcoodaheaaGreatDoorCh
set_option linter.unusedSectionVars false
set_option linter.unusedSimpArgs false
set_option linter.unusedVariables false
set_option maxRecDepth 10000
set_option maxHeartbeats 4000000
set_option linter.unusedVariables false
set_option linter.unusedSimpArgs false
set_option linter.unusedSectionVars false
namespace Go.Proofs.YtomdjkcoodaheaaGreatDoor
open Go Go.Vc Sr
variable [Dr]

def mixG (r l : Fam) : Nat → Nat → D := fun i j => cIds (mix [] r l i) j
theorem mixg_row {r l : Fam} {f : Nat → Nat → D} {n : Nat} (h : ∀ i j, i < n → j < 1 → DLe (f i j) (fFam l i j)) (hr : ∀ i, i < n → mix [] r l i = l.getD i []) : ObLe (.row 34 1 n f) (.row 34 1 n (mixG r l)) :=
  ⟨rfl, rfl, rfl, fun i j hi hj => by unfold mixG; rw [hr i hi]; exact h i j hi hj⟩
theorem mixg_put {r l : Fam} {n k : Nat} {x : Ids} {g : Nat → E} (h0 : DLe (imD (g 0)) (dIds x)) (hk : k = r.length) :
    ObLe (.row 34 1 n (putF k 0 1 g (mixG r l))) (.row 34 1 n (mixG (r ++ [x]) l)) :=
  ⟨rfl, rfl, rfl, fun i j hi hj => by
    unfold putF mixG
    rw [mix_snoc]
    by_cases e : i = k
    · rw [if_pos e, if_pos (by omega), if_pos (by omega)]
      obtain rfl : j = 0 := by omega
      exact h0
    · rw [if_neg e, if_neg (by omega)]; exact DLe.refl _⟩
theorem mixg_same {r r' l : Fam} {n : Nat} (h : r = r') : ObLe (.row 34 1 n (mixG r l)) (.row 34 1 n (mixG r' l)) := h ▸ ObLe.refl _
theorem mixg_ret {r l l' : Fam} {n k : Nat} {z : Value} (h : l' = r) (hk : k = r.length) : RFam l' k (clearF z k n (mixG r l)) := by
  subst h
  refine ⟨hk, fun i j hi hj => ?_⟩
  unfold clearF mixG
  rw [if_neg (by omega), mix_lt (by omega)]
  exact DLe.refl _
theorem a201 (l : Fam) (hb : Bnd 1000000 l) (f : Nat → Nat → D) (hf : ∀ i j, i < l.length → j < 1 → DLe (f i j) (fFam l i j)) : ATR cx 201 34 1 l.length f [dF 202] (RFam (cp l)) := by
  have hl := hb.1
  have hcp1 : ∀ k, k ≤ l.length → k < 2 → cp (l.take k) = l.take k := fun k hk h2 => cp_id' [] hk fun i h0 h1 => by omega
  refine ATR.of_vc (H := { draw := [(6, 11, []), (11, 12, [])] }) cxOk Tryz.func201 (by kernel_rfl) rfl (show _ = 66 from rfl) (by kernel_rfl) rfl ?_
  conv => whnf
  refine ifB.dec (fun h => ?_) (fun h => ?_)
  · conv => whnf
    have := hcp1 l.length (Nat.le_refl _) (by omega)
    rw [List.take_length] at this
    exact ⟨by rw [this]; exact ⟨rfl, hf⟩⟩
  · conv => whnf
    have h2n : 2 ≤ l.length := by omega
    refine VLoop.inv (N := 66) rfl (ι := Nat) (fun k => 1 ≤ k ∧ k ≤ l.length ∧ ∀ i, 0 < i → i < k → l.getD i [] ≠ l.getD (i - 1) []) (fun k => [(0, .orow 0), (1, .im (dF 202)), (5, .im (dI k))]) (fun _ => [(0, .row 34 1 l.length (mixG [] l))]) (fun k => l.length - k) 1 ⟨Nat.le_refl _, by omega, fun i h0 h1 => by omega⟩ ⟨⟨ELe.refl _, ELe.refl _, ELe.refl _, trivial⟩, ⟨mixg_row hf (fun i hi => mix_ge (Nat.zero_le _)), trivial⟩⟩ ?_
    rintro k ⟨hk1, hk, hne⟩
    conv => whnf
    refine ifB.dec (fun h => ?_) (fun h => ?_)
    · conv => whnf
      have hlt : k < l.length := by omega
      refine ⟨⟨by omega, by omega⟩, by omega, Nat.le_refl _, ?_⟩
      conv => whnf
      refine ⟨⟨by omega, by omega⟩, ?_⟩
      conv => whnf
      refine ⟨⟨by omega, by omega⟩, by omega, Nat.le_refl _, ?_⟩
      conv => whnf
      have m1 : mix [] [] l k = l.getD k [] := mix_ge (Nat.zero_le _)
      have m2 : mix [] [] l (k - 1) = l.getD (k - 1) [] := mix_ge (Nat.zero_le _)
      have e1 : ((k : Int) - 1).toNat = k - 1 := by omega
      have m2' : mix [] [] l ((k : Int) - 1).toNat = l.getD (k - 1) [] := by rw [e1]; exact m2
      refine ⟨_, (f202 (l.getD k []) (l.getD (k - 1) []) (hb.at _) (hb.at _)).use ⟨DLe.of_eq (congrArg dIds m1), DLe.of_eq (congrArg dIds m2'), trivial⟩ (fun d h => h), ?_⟩
      conv => whnf
      refine ifB.dec (fun h1 => ?_) (fun h1 => ?_)
      · conv => whnf
        have heq : l.getD k [] = l.getD (k - 1) [] := h1
        have hr0 : cp (l.take (k + 1)) = l.take k := by
          rw [cp_step [] (by omega) hlt, if_pos heq]; exact cp_id' [] hk hne
        have hkl : (l.take k).length = k := by rw [List.length_take]; omega
        refine ⟨⟨by omega, by omega⟩, ?_⟩
        conv => whnf
        refine VLoop.inv (N := 66) rfl (ι := Nat) (fun q => 1 ≤ q ∧ k + q ≤ l.length ∧ (cp (l.take (k + q))).length < k + q) (fun q => [(0, .orow 0), (1, .im (dF 202)), (5, .im (dI (cp (l.take (k + q))).length)), (6, .osub 0 1 k (l.length - k)), (7, .im (dI q))]) (fun q => [(0, .row 34 1 l.length (mixG (cp (l.take (k + q))) l))]) (fun q => l.length - k - q) 1 ⟨Nat.le_refl _, by omega, by rw [hr0, hkl]; omega⟩ ⟨⟨ELe.refl _, ELe.refl _, eS (fun q => .im (dI q)) (by rw [hr0, hkl]), ELe.refl _, ELe.refl _, trivial⟩, ⟨mixg_row (f := mixG [] l) (fun i j hi hj => by unfold mixG; rw [mix_ge (Nat.zero_le _)]; exact DLe.refl _) (fun i hi => by rw [hr0]; exact mix_take i hk), trivial⟩⟩ ?_
        rintro q ⟨hq1, hq, hrl⟩
        have hrn : (cp (l.take (k + q))).length ≤ l.length := by omega
        conv => whnf
        refine ifB.dec (fun h => ?_) (fun h => ?_)
        · conv => whnf
          have hlt2 : k + q < l.length := by omega
          refine ⟨⟨by omega, by omega⟩, by omega, Nat.le_refl _, ?_⟩
          conv => whnf
          refine ⟨⟨by omega, by omega⟩, ?_⟩
          conv => whnf
          have e2 : k + ((q : Int) - 1).toNat = k + q - 1 := by omega
          refine ⟨⟨by omega, by omega⟩, by omega, Nat.le_refl _, ?_⟩
          conv => whnf
          have m3 : mix [] (cp (l.take (k + q))) l (k + q) = l.getD (k + q) [] := mix_ge (by omega)
          have m4 : mix [] (cp (l.take (k + q))) l (k + q - 1) = l.getD (k + q - 1) [] := mix_ge (by omega)
          have hst := cp_step [] (show 0 < k + q by omega) hlt2
          have m4' : mix [] (cp (l.take (k + q))) l (k + ((q : Int) - 1).toNat) = l.getD (k + q - 1) [] := by rw [e2]; exact m4
          refine ⟨_, (f202 (l.getD (k + q) []) (l.getD (k + q - 1) []) (hb.at _) (hb.at _)).use ⟨DLe.of_eq (congrArg dIds m3), DLe.of_eq (congrArg dIds m4'), trivial⟩ (fun d h => h), ?_⟩
          conv => whnf
          refine ifB.not (ifB.dec (fun h1 => ?_) (fun h1 => ?_))
          · conv => whnf
            have heq2 : l.getD (k + q) [] = l.getD (k + q - 1) [] := h1
            rw [if_pos heq2] at hst
            refine ⟨⟨by omega, by omega⟩, ?_⟩
            conv => whnf
            exact VNext.by (q + 1) rfl ⟨by omega, by omega, by rw [← Nat.add_assoc, hst]; omega⟩ (by omega) ⟨⟨ELe.refl _, ELe.refl _, eS (fun q => .im (dI q)) (by rw [← Nat.add_assoc, hst]), ELe.refl _, ELe.refl _, trivial⟩, ⟨mixg_same (by rw [← Nat.add_assoc, hst]), trivial⟩⟩
          · conv => whnf
            have hne2 : ¬ l.getD (k + q) [] = l.getD (k + q - 1) [] := h1
            rw [if_neg hne2] at hst
            refine ⟨⟨by omega, by omega⟩, by omega, Nat.le_refl _, ?_⟩
            conv => whnf
            refine ⟨⟨by omega, by omega⟩, by omega, ?_⟩
            conv => whnf
            refine ⟨⟨by omega, by omega⟩, ?_⟩
            conv => whnf
            refine ⟨⟨by omega, by omega⟩, ?_⟩
            conv => whnf
            exact VNext.by (q + 1) rfl ⟨by omega, by omega, by rw [← Nat.add_assoc, hst]; simp; omega⟩ (by omega) ⟨⟨ELe.refl _, ELe.refl _, eS (fun q => .im (dI q)) (by rw [← Nat.add_assoc, hst]; simp), ELe.refl _, ELe.refl _, trivial⟩, ⟨by rw [← Nat.add_assoc, hst]; exact mixg_put (DLe.of_eq (congrArg dIds m3)) rfl, trivial⟩⟩
        · conv => whnf
          have hqe : k + q = l.length := by omega
          have hre : cp l = cp (l.take (k + q)) := by rw [hqe, List.take_length]
          refine ⟨⟨by omega, by omega⟩, ?_⟩
          conv => whnf
          refine ⟨by omega, by omega, ?_⟩
          conv => whnf
          refine ⟨⟨by omega, by omega, by omega⟩, ?_⟩
          conv => whnf
          exact ⟨by omega, ⟨mixg_ret hre rfl⟩⟩
      · conv => whnf
        refine ⟨⟨by omega, by omega⟩, ?_⟩
        conv => whnf
        refine VNext.by (k + 1) rfl ⟨by omega, by omega, fun i h0 hi => ?_⟩ (by omega) ⟨⟨ELe.refl _, ELe.refl _, ELe.refl _, trivial⟩, ⟨ObLe.refl _, trivial⟩⟩
        by_cases e : i = k
        · rw [e]; exact h1
        · exact hne i h0 (by omega)
    · conv => whnf
      have hke : k = l.length := by omega
      have := cp_id' [] hk hne
      rw [hke, List.take_length] at this
      exact ⟨by rw [this]; exact ⟨rfl, fun i j hi hj => by unfold mixG; rw [mix_ge (Nat.zero_le _)]; exact DLe.refl _⟩⟩
theorem a133 {g n : Nat} {cf : Nat → D} {p : Ids → Bool} (l : Fam) (hl : l.length ≤ 1000000) (hp : ∀ x ∈ l, ACalls cx g ([dIds x] ++ capD n cf) fun d => d = dB (p x)) (f : Nat → Nat → D) (hf : ∀ i j, i < l.length → j < 1 → DLe (f i j) (fFam l i j)) :
    ATR cx 133 34 1 l.length f [.func g n cf] (RFam (l.filter fun x => !p x)) := by
  refine ATR.of_vc (H := { peek := [10] }) cxOk Tryz.func133 (by kernel_rfl) rfl (show _ = 42 from rfl) (by kernel_rfl) rfl ?_
  conv => whnf
  refine (f169 l hl hp).use ⟨DLe.slice hf, DLe.refl _, trivial⟩ ?_
  rintro _ rfl
  conv => whnf
  refine ifB.dec (fun h => ?_) (fun h => ?_)
  · conv => whnf
    have : ∀ x ∈ l, p x = false := by
      rcases idx_cases p l [] with ⟨_, q⟩ | ⟨i, q, _⟩
      · exact q
      · rw [q] at h; omega
    exact ⟨by rw [filter_none this]; exact ⟨rfl, hf⟩⟩
  · conv => whnf
    obtain ⟨i0, hix, hi0, hpi, hall⟩ : ∃ i : Nat, idx p l = i ∧ i < l.length ∧ p (l.getD i []) = true ∧ ∀ x ∈ l.take i, p x = false := by
      rcases idx_cases p l [] with ⟨q, _⟩ | q
      · exact absurd q h
      · exact q
    have hst := filter_start [] hi0 hpi hall
    have hlen : (l.take i0).length = i0 := by rw [List.length_take]; omega
    refine ⟨⟨by omega, by omega⟩, ?_⟩
    conv => whnf
    refine VLoop.inv (N := 42) rfl (ι := Nat) (fun j => j ≤ l.length ∧ ((l.take j).filter fun x => !p x).length < j) (fun j => [(0, .orow 0), (1, .im (.func g n cf)), (5, .im (dI ((l.take j).filter fun x => !p x).length)), (6, .im (dI j))]) (fun j => [(0, .row 34 1 l.length (mixG ((l.take j).filter fun x => !p x) l))]) (fun j => l.length - j) (i0 + 1) ⟨by omega, by rw [hst, hlen]; omega⟩ ⟨⟨ELe.refl _, ELe.refl _, eS (fun q => .im (dI q)) (by rw [hst, hlen, hix]), eS (fun q => .im (dI q)) (by rw [hix]; rfl), trivial⟩, ⟨mixg_row hf (fun i hi => by rw [hst]; exact mix_take i (by omega)), trivial⟩⟩ ?_
    rintro j ⟨hj, hrl⟩
    have hrn : ((l.take j).filter fun x => !p x).length ≤ l.length := by omega
    conv => whnf
    refine ifB.dec (fun h => ?_) (fun h => ?_)
    · conv => whnf
      have hlt : j < l.length := by omega
      have hft := Sr.filter_take [] hlt (fun x => !p x)
      have m3 : mix [] ((l.take j).filter fun x => !p x) l j = l.getD j [] := mix_ge (Nat.le_of_lt hrl)
      refine ⟨⟨by omega, by omega⟩, by omega, Nat.le_refl _, ?_⟩
      conv => whnf
      refine (hp (l.getD j []) (by rw [getD_lt hlt]; exact List.getElem_mem hlt)).use (DLes.app ⟨DLe.of_eq (congrArg dIds m3), trivial⟩) ?_
      rintro _ rfl
      conv => whnf
      refine ifB.not (ifB.intro (fun h1 => ?_) (fun h1 => ?_))
      · conv => whnf
        rw [if_neg (by rw [h1]; simp)] at hft
        refine ⟨⟨by omega, by omega⟩, ?_⟩
        conv => whnf
        exact VNext.by (j + 1) rfl ⟨by omega, by rw [hft]; exact Nat.lt_succ_of_lt hrl⟩ (by omega) ⟨⟨ELe.refl _, ELe.refl _, eS (fun q => .im (dI q)) (by rw [hft]), ELe.refl _, trivial⟩, ⟨mixg_same hft.symm, trivial⟩⟩
      · conv => whnf
        rw [if_pos (by rw [h1]; rfl)] at hft
        refine ⟨⟨by omega, by omega⟩, by omega, ?_⟩
        conv => whnf
        refine ⟨⟨by omega, by omega⟩, ?_⟩
        conv => whnf
        refine ⟨⟨by omega, by omega⟩, ?_⟩
        conv => whnf
        exact VNext.by (j + 1) rfl ⟨by omega, by rw [hft]; simp; omega⟩ (by omega) ⟨⟨ELe.refl _, ELe.refl _, eS (fun q => .im (dI q)) (by rw [hft]; simp), ELe.refl _, trivial⟩, ⟨by rw [hft]; exact mixg_put (DLe.of_eq (congrArg dIds m3)) rfl, trivial⟩⟩
    · conv => whnf
      have hje : j = l.length := by omega
      have hre : (l.filter fun x => !p x) = (l.take j).filter fun x => !p x := by rw [hje, List.take_length]
      refine ⟨⟨by omega, by omega⟩, ?_⟩
      conv => whnf
      refine ⟨by omega, by omega, ?_⟩
      conv => whnf
      refine ⟨⟨by omega, by omega, by omega⟩, ?_⟩
      conv => whnf
      exact ⟨by omega, ⟨mixg_ret hre rfl⟩⟩
end Go.Proofs.YtomdjkcoodaheaaGreatDoor
