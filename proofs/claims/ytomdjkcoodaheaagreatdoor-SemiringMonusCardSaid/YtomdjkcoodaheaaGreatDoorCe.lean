/-
  The reference: sum and product.
-/
import Derived.Test.YtomdjkcoodaheaaGreatDoorCd
set_option linter.unusedSectionVars false
set_option linter.unusedSimpArgs false
set_option linter.unusedVariables false
set_option maxRecDepth 10000
set_option maxHeartbeats 4000000
set_option linter.unusedVariables false
set_option linter.unusedSimpArgs false
set_option linter.unusedSectionVars false
namespace Go.Proofs.YtomdjkcoodaheaaGreatDoor
open Go Go.Vc Sr
variable [Dr]

theorem rOut {g : Nat → D} {p : El × Int} {e' : El} {n' : Int} (he : p = (e', n')) (h0 : DLe (g 0) (dEl e')) (h1 : DLe (g 1) (dI n')) : Ret (fun x => DLe x (dRes p.1 p.2)) (.tup 2 g) := by subst he; exact Ret.le (tup2 h0 h1)
theorem num3 {f : Nat → D} {n m : Int} (h0 : f 0 = dI n) (h1 : f 1 = dI m) (h2 : f 2 = .lit (.slice none 0 0)) : DLe (.agg 3 f) (dEl ⟨n, m, []⟩) := el3 (by rw [h0]; exact DLe.refl _) (by rw [h1]; exact DLe.refl _) (by rw [h2]; exact nilL)

theorem f22 (k : Int) (l : List El) (hl : l.length ≤ 1000000) (hb : ∀ e ∈ l, e.S.length ≤ 4611686018427387904) : ACalls cx 22 [dI k, dEls l] fun d => d = dB (l.all fun e => few e && vld k e) := by
  refine ACalls.eq (ACalls.of_vc (H := {}) cxOk Tryz.func22 (by kernel_rfl) rfl (show _ = 28 from rfl) (by kernel_rfl) rfl ?_)
  conv => whnf
  refine VLoop.inv (N := 28) rfl (ι := Nat) (fun i => i ≤ l.length ∧ ∀ e ∈ l.take i, few e = true ∧ vld k e = true) (fun i => [(0, .im (dI k)), (1, .im (dEls l)), (5, .im (dI i))]) (fun _ => []) (fun i => l.length - i) 0 ⟨Nat.zero_le _, by simp⟩ ⟨⟨ELe.refl _, ELe.refl _, ELe.refl _, trivial⟩, trivial⟩ ?_
  rintro i ⟨hi, hall⟩
  conv => whnf
  refine ifB.dec (fun h => ?_) (fun h => ?_)
  · conv => whnf
    have hlt : i < l.length := by omega
    have hmem : l.getD i ⟨0, 0, []⟩ ∈ l := by rw [getD_lt hlt]; exact List.getElem_mem hlt
    have no : (few (l.getD i ⟨0, 0, []⟩) && vld k (l.getD i ⟨0, 0, []⟩)) = false → false = l.all fun e => few e && vld k e := fun h => (Bool.eq_false_iff.2 fun hc => by
      have := List.all_eq_true.1 hc _ hmem
      rw [this] at h; cases h).symm
    refine ⟨⟨by omega, by omega⟩, ?_⟩
    conv => whnf
    refine (f14 [l.getD i ⟨0, 0, []⟩] (by simp) (fun e he => by rw [List.mem_singleton] at he; rw [he]; exact hb _ hmem)).use ⟨slice_le (l := [l.getD i ⟨0, 0, []⟩]) rfl rfl (fun p q hp hq => by
      obtain rfl : p = 0 := by omega
      rcases q with _ | _ | _ | q
      · exact DLe.refl _
      · exact DLe.refl _
      · exact DLe.refl _
      · exact absurd (show q + 1 + 1 + 1 < 3 from hq) (by omega)), trivial⟩ ?_
    rintro _ rfl
    conv => whnf
    refine ifB.not (ifB.intro (fun h2 => ?_) (fun h2 => ?_))
    · conv => whnf
      have h2' : few (l.getD i ⟨0, 0, []⟩) = true := by simpa using h2
      refine ⟨⟨by omega, by omega⟩, ?_⟩
      conv => whnf
      refine (f36 k (l.getD i ⟨0, 0, []⟩) ((few_bnd h2').mono (by omega))).use ⟨DLe.refl _, DLe.refl _, trivial⟩ ?_
      rintro _ rfl
      conv => whnf
      refine ifB.not (ifB.intro (fun h3 => ?_) (fun h3 => ?_))
      · conv => whnf
        refine ⟨⟨by omega, by omega⟩, ?_⟩
        conv => whnf
        refine VNext.by (i + 1) rfl ⟨by omega, fun e he => ?_⟩ (by omega) ⟨⟨ELe.refl _, ELe.refl _, ELe.refl _, trivial⟩, trivial⟩
        rcases (mem_take_succ (x0 := ⟨0, 0, []⟩) hlt).1 he with h4 | h4
        · exact hall e h4
        · rw [h4]; exact ⟨h2', h3⟩
      · conv => whnf
        exact rB (no (by rw [h3, Bool.and_false]))
    · conv => whnf
      have h2' : few (l.getD i ⟨0, 0, []⟩) = false := by simpa using h2
      exact rB (no (by rw [h2', Bool.false_and]))
  · conv => whnf
    rw [List.take_of_length_le (by omega)] at hall
    exact rB (List.all_eq_true.2 fun e he => by rw [(hall e he).1, (hall e he).2]; rfl).symm

theorem f57' (e : El) (hl : e.S.length ≤ 1000000) : ACalls cx 57 [dEl e] fun d => d = dRes (res e).1 (res e).2 := by
  refine (f57 e hl).use ⟨DLe.refl _, trivial⟩ ?_
  rintro _ rfl
  unfold res; split <;> rfl
theorem bnd_min {n : Nat} {l : Fam} (h : Bnd n l) : Bnd n (minF l) := h.fam.filter _
theorem bnd_app {n m : Nat} {a b : Fam} (ha : Bnd n a) (hb : Bnd n b) (h : n + n ≤ m) : Bnd m (nrm slt (a ++ b)) := Bnd.nrm ⟨by rw [List.length_append]; have := ha.1; have := hb.1; omega, fun s hs => by
  rcases List.mem_append.1 hs with h1 | h1
  · have := ha.2 s h1; omega
  · have := hb.2 s h1; omega⟩

theorem f18 (k : Int) (a b : El) (ha : Bnd 700 a.S) (hb : Bnd 700 b.S) : ACalls cx 18 [dI k, dEl a, dEl b] fun d => d = dRes (opOut k a b (addE k a b)).1 (opOut k a b (addE k a b)).2 := by
  have hA := ha.mono (show 700 ≤ 1000000 by omega)
  have hB := hb.mono (show 700 ≤ 1000000 by omega)
  refine ACalls.eq (ACalls.of_vc (H := { draw := [(18, 11, [])], own := [6] }) cxOk Tryz.func18 (by kernel_rfl) rfl (show _ = 103 from rfl) (by kernel_rfl) rfl ?_)
  conv => whnf
  refine (f36 k a hA).use ⟨DLe.refl _, DLe.refl _, trivial⟩ ?_
  rintro _ rfl
  conv => whnf
  refine ifB.not (ifB.intro (fun va => ?_) (fun va => ?_))
  · conv => whnf
    refine (f36 k b hB).use ⟨DLe.refl _, DLe.refl _, trivial⟩ ?_
    rintro _ rfl
    conv => whnf
    refine ifB.not (ifB.intro (fun vb => ?_) (fun vb => ?_))
    · conv => whnf
      rw [opOut_yes va vb]
      have hk := vld_known va
      refine ifB.dec (fun h0 => ?_) (fun h0 => ?_)
      · conv => whnf
        exact rOut (e' := ⟨imax a.N b.N, 0, []⟩) (by rw [addE, if_pos h0]; exact res_small (by simp)) (num3 rfl rfl rfl) (DLe.refl _)
      conv => whnf
      refine ifB.dec (fun h1 => ?_) (fun h1 => ?_)
      · conv => whnf
        have na := vN va (by omega)
        have nb := vN vb (by omega)
        have l1 : lim k = 1152921504606846976 := by simp [lim, h1]
        refine ⟨⟨by have := na.2.1; have := nb.2.1; omega, by have := na.2.2.1; have := nb.2.2.1; omega⟩, ?_⟩
        conv => whnf
        exact rOut (e' := ⟨imin (a.N + b.N) 1152921504606846976, 0, []⟩) (by rw [addE, if_neg h0, if_pos h1]; exact res_small (by simp)) (num3 rfl rfl rfl) (DLe.refl _)
      conv => whnf
      refine ifB.dec (fun h2 => ?_) (fun h2 => ?_)
      · conv => whnf
        exact rOut (e' := ⟨imin a.N b.N, 0, []⟩) (by rw [addE, if_neg h0, if_neg h1, if_pos (.inl h2)]; exact res_small (by simp)) (num3 rfl rfl rfl) (DLe.refl _)
      conv => whnf
      refine ifB.dec (fun h3 => ?_) (fun h3 => ?_)
      · conv => whnf
        exact rOut (e' := ⟨imin a.N b.N, 0, []⟩) (by rw [addE, if_neg h0, if_neg h1, if_pos (.inr h3)]; exact res_small (by simp)) (num3 rfl rfl rfl) (DLe.refl _)
      conv => whnf
      have h23 : ¬ (k = 2 ∨ k = 3) := by omega
      refine ifB.dec (fun h4 => ?_) (fun h4 => ?_)
      · conv => whnf
        exact rOut (e' := ⟨imax a.N b.N, imax a.M b.M, []⟩) (by rw [addE, if_neg h0, if_neg h1, if_neg h23, if_pos h4]; exact res_small (by simp)) (num3 rfl rfl rfl) (DLe.refl _)
      conv => whnf
      have sa := vS va (by omega)
      have sb := vS vb (by omega)
      refine ifB.dec (fun h6 => ?_) (fun h6 => ?_)
      · conv => whnf
        have la : a.S.length ≤ 1 := by have := sa.2.2.2.2.2; rwa [if_pos h6] at this
        have lb : b.S.length ≤ 1 := by have := sb.2.2.2.2.2; rwa [if_pos h6] at this
        refine ifB.dec (fun h7 => ?_) (fun h7 => ?_)
        · conv => whnf
          exact rOut (e' := b) (by rw [addE, if_neg h0, if_neg h1, if_neg h23, if_neg h4, if_pos h6, if_pos (by omega)]; exact res_small (by omega)) (el3 (DLe.refl _) (DLe.refl _) (DLe.refl _)) (DLe.refl _)
        · conv => whnf
          refine ifB.dec (fun h8 => ?_) (fun h8 => ?_)
          · conv => whnf
            exact rOut (e' := a) (by rw [addE, if_neg h0, if_neg h1, if_neg h23, if_neg h4, if_pos h6, if_neg (by omega), if_pos (by omega)]; exact res_small (by omega)) (el3 (DLe.refl _) (DLe.refl _) (DLe.refl _)) (DLe.refl _)
          · conv => whnf
            have h9 := ha.at 0
            have h10 := hb.at 0
            refine ⟨⟨by omega, by omega⟩, ?_⟩
            conv => whnf
            refine ⟨⟨by omega, by omega⟩, ?_⟩
            conv => whnf
            refine ⟨_, (f56 (hd a.S) (hd b.S) (by unfold hd; omega)).use ⟨DLe.refl _, DLe.refl _, trivial⟩ (fun d h => h), ?_⟩
            conv => whnf
            exact rOut (e' := ⟨0, 0, [nrm rlt (hd a.S ++ hd b.S)]⟩) (by rw [addE, if_neg h0, if_neg h1, if_neg h23, if_neg h4, if_pos h6, if_neg (by omega), if_neg (by omega)]; exact res_small (by simp))
              (el3 (DLe.refl _) (DLe.refl _) (slice_le (l := [nrm rlt (hd a.S ++ hd b.S)]) rfl rfl (one1 (DLe.refl _)))) (DLe.refl _)
      · conv => whnf
        refine ifB.dec (fun h7 => ?_) (fun h7 => ?_)
        · conv => whnf
          refine (f59 a.S b.S sa.2.2.2.1 (ha.mono (by omega)) (hb.mono (by omega))).use ⟨DLe.refl _, DLe.refl _, trivial⟩ ?_
          rintro _ rfl
          conv => whnf
          have hbb := bnd_app ha hb (show 700 + 700 ≤ 1000000 by omega)
          refine (f58 (nrm slt (a.S ++ b.S)) hbb).use ⟨DLe.refl _, trivial⟩ ?_
          rintro _ rfl
          conv => whnf
          refine (f57' ⟨0, 0, minF (nrm slt (a.S ++ b.S))⟩ (bnd_min hbb).1).use ⟨el3 (DLe.refl _) (DLe.refl _) (DLe.refl _), trivial⟩ ?_
          rintro _ rfl
          conv => whnf
          exact rOut (e' := (res ⟨0, 0, minF (nrm slt (a.S ++ b.S))⟩).1) (n' := (res ⟨0, 0, minF (nrm slt (a.S ++ b.S))⟩).2) (by rw [addE, if_neg h0, if_neg h1, if_neg h23, if_neg h4, if_neg h6, if_pos h7]) (el3 (DLe.refl _) (DLe.refl _) (DLe.refl _)) (DLe.refl _)
        · conv => whnf
          refine (f59 a.S b.S sa.2.2.2.1 (ha.mono (by omega)) (hb.mono (by omega))).use ⟨DLe.refl _, DLe.refl _, trivial⟩ ?_
          rintro _ rfl
          conv => whnf
          have hbb := bnd_app ha hb (show 700 + 700 ≤ 1000000 by omega)
          refine (f57' ⟨0, 0, nrm slt (a.S ++ b.S)⟩ hbb.1).use ⟨el3 (DLe.refl _) (DLe.refl _) (DLe.refl _), trivial⟩ ?_
          rintro _ rfl
          conv => whnf
          exact rOut (e' := (res ⟨0, 0, nrm slt (a.S ++ b.S)⟩).1) (n' := (res ⟨0, 0, nrm slt (a.S ++ b.S)⟩).2) (by rw [addE, if_neg h0, if_neg h1, if_neg h23, if_neg h4, if_neg h6, if_neg h7]) (el3 (DLe.refl _) (DLe.refl _) (DLe.refl _)) (DLe.refl _)
    · conv => whnf
      exact rOut (opOut_no (fun h => by rw [vb] at h; cases h.2)) (num3 rfl rfl rfl) (DLe.refl _)
  · conv => whnf
    exact rOut (opOut_no (fun h => by rw [va] at h; cases h.1)) (num3 rfl rfl rfl) (DLe.refl _)
end Go.Proofs.YtomdjkcoodaheaaGreatDoor

/-
  The reference: product and monus.
-/
set_option maxRecDepth 10000
set_option maxHeartbeats 4000000
set_option linter.unusedVariables false
set_option linter.unusedSimpArgs false
set_option linter.unusedSectionVars false
namespace Go.Proofs.YtomdjkcoodaheaaGreatDoor
open Go Go.Vc Sr
variable [Dr]

theorem bnd_prod {a b : Fam} (ha : Bnd 700 a) (hb : Bnd 700 b) : Bnd 1000000 (prod a b) := by
  have h := prs_bnd (i := a.length) (k := 0) ha hb
  have : prod a b = nrm slt (prs a b a.length 0) := by rw [prod, prs, List.take_length]; simp
  rw [this]; exact h.nrm
theorem tdiv_mul {m a b : Int} (hm : 0 ≤ m) (ha : 0 < a) (h : ¬ m.tdiv a < b) : a * b ≤ m := by
  rw [Int.tdiv_eq_ediv_of_nonneg hm] at h
  have h1 : b ≤ m / a := by omega
  have h2 := (Int.le_ediv_iff_mul_le ha).1 h1
  rwa [Int.mul_comm]

theorem f19 (k : Int) (a b : El) (ha : Bnd 700 a.S) (hb : Bnd 700 b.S) : ACalls cx 19 [dI k, dEl a, dEl b] fun d => d = dRes (opOut k a b (mulE k a b)).1 (opOut k a b (mulE k a b)).2 := by
  have hA := ha.mono (show 700 ≤ 1000000 by omega)
  have hB := hb.mono (show 700 ≤ 1000000 by omega)
  refine ACalls.eq (ACalls.of_vc (H := { draw := [(7, 11, [])], own := [6] }) cxOk Tryz.func19 (by kernel_rfl) rfl (show _ = 93 from rfl) (by kernel_rfl) rfl ?_)
  conv => whnf
  refine (f36 k a hA).use ⟨DLe.refl _, DLe.refl _, trivial⟩ ?_
  rintro _ rfl
  conv => whnf
  refine ifB.not (ifB.intro (fun va => ?_) (fun va => ?_))
  · conv => whnf
    refine (f36 k b hB).use ⟨DLe.refl _, DLe.refl _, trivial⟩ ?_
    rintro _ rfl
    conv => whnf
    refine ifB.not (ifB.intro (fun vb => ?_) (fun vb => ?_))
    · conv => whnf
      rw [opOut_yes va vb]
      have hk := vld_known va
      refine ifB.dec (fun h0 => ?_) (fun h0 => ?_)
      · conv => whnf
        exact rOut (e' := ⟨imin a.N b.N, 0, []⟩) (by rw [mulE, if_pos h0]; exact res_small (by simp)) (num3 rfl rfl rfl) (DLe.refl _)
      conv => whnf
      refine ifB.dec (fun h1 => ?_) (fun h1 => ?_)
      · conv => whnf
        have na := vN va (by omega)
        have nb := vN vb (by omega)
        have l1 : lim k = 1152921504606846976 := by simp [lim, h1]
        have a0 := na.2.1
        have b0 := nb.2.1
        refine ifB.not (ifB.dec (fun h2 => ?_) (fun h2 => ?_))
        · conv => whnf
          have hz : a.N * b.N = 0 := by rw [h2]; simp
          refine ⟨⟨by omega, by omega⟩, ?_⟩
          conv => whnf
          exact rOut (e' := ⟨a.N * b.N, 0, []⟩) (by rw [mulE, if_neg h0, if_pos h1, if_neg (fun h => h.1 h2)]; exact res_small (by simp)) (num3 rfl rfl rfl) (DLe.refl _)
        · conv => whnf
          have ht : (1152921504606846976 : Int).tdiv a.N = 1152921504606846976 / a.N := Int.tdiv_eq_ediv_of_nonneg (by omega)
          have ht1 : 0 ≤ (1152921504606846976 : Int) / a.N := Int.ediv_nonneg (by omega) a0
          have ht2 : (1152921504606846976 : Int) / a.N ≤ 1152921504606846976 := Int.ediv_le_self _ (by omega)
          refine ⟨h2, ⟨by omega, by omega⟩, ?_⟩
          conv => whnf
          refine ifB.dec (fun h3 => ?_) (fun h3 => ?_)
          · conv => whnf
            exact rOut (e' := ⟨1152921504606846976, 0, []⟩) (by rw [mulE, if_neg h0, if_pos h1, if_pos ⟨h2, h3⟩]; exact res_small (by simp)) (num3 rfl rfl rfl) (DLe.refl _)
          · conv => whnf
            have h4 := tdiv_mul (by omega) (by omega) h3
            have h5 : 0 ≤ a.N * b.N := Int.mul_nonneg a0 b0
            refine ⟨⟨by omega, by omega⟩, ?_⟩
            conv => whnf
            exact rOut (e' := ⟨a.N * b.N, 0, []⟩) (by rw [mulE, if_neg h0, if_pos h1, if_neg (fun h => h3 h.2)]; exact res_small (by simp)) (num3 rfl rfl rfl) (DLe.refl _)
      conv => whnf
      refine ifB.dec (fun h2 => ?_) (fun h2 => ?_)
      · conv => whnf
        have na := vN va (by omega)
        have nb := vN vb (by omega)
        have l1 : lim k = 1099511627776 := by simp [lim, h2]
        refine ⟨⟨by have := na.2.1; have := nb.2.1; omega, by have := na.2.2.1; have := nb.2.2.1; omega⟩, ?_⟩
        conv => whnf
        exact rOut (e' := ⟨imin (a.N + b.N) 1099511627776, 0, []⟩) (by rw [mulE, if_neg h0, if_neg h1, if_pos h2]; exact res_small (by simp)) (num3 rfl rfl rfl) (DLe.refl _)
      conv => whnf
      refine ifB.dec (fun h3 => ?_) (fun h3 => ?_)
      · conv => whnf
        exact rOut (e' := ⟨imax a.N b.N, 0, []⟩) (by rw [mulE, if_neg h0, if_neg h1, if_neg h2, if_pos h3]; exact res_small (by simp)) (num3 rfl rfl rfl) (DLe.refl _)
      conv => whnf
      refine ifB.dec (fun h4 => ?_) (fun h4 => ?_)
      · conv => whnf
        exact rOut (e' := ⟨imin a.N b.N, imin a.M b.M, []⟩) (by rw [mulE, if_neg h0, if_neg h1, if_neg h2, if_neg h3, if_pos h4]; exact res_small (by simp)) (num3 rfl rfl rfl) (DLe.refl _)
      conv => whnf
      have hbb := bnd_prod ha hb
      refine (f60 a.S b.S ha hb).use ⟨DLe.refl _, DLe.refl _, trivial⟩ ?_
      rintro _ rfl
      conv => whnf
      refine ifB.dec (fun h7 => ?_) (fun h7 => ?_)
      · conv => whnf
        refine (f58 (prod a.S b.S) hbb).use ⟨DLe.refl _, trivial⟩ ?_
        rintro _ rfl
        conv => whnf
        refine (f57' ⟨0, 0, minF (prod a.S b.S)⟩ (bnd_min hbb).1).use ⟨el3 (DLe.refl _) (DLe.refl _) (DLe.refl _), trivial⟩ ?_
        rintro _ rfl
        conv => whnf
        exact rOut (e' := (res ⟨0, 0, minF (prod a.S b.S)⟩).1) (n' := (res ⟨0, 0, minF (prod a.S b.S)⟩).2) (by rw [mulE, if_neg h0, if_neg h1, if_neg h2, if_neg h3, if_neg h4, if_pos h7]) (el3 (DLe.refl _) (DLe.refl _) (DLe.refl _)) (DLe.refl _)
      · conv => whnf
        refine (f57' ⟨0, 0, prod a.S b.S⟩ hbb.1).use ⟨el3 (DLe.refl _) (DLe.refl _) (DLe.refl _), trivial⟩ ?_
        rintro _ rfl
        conv => whnf
        exact rOut (e' := (res ⟨0, 0, prod a.S b.S⟩).1) (n' := (res ⟨0, 0, prod a.S b.S⟩).2) (by rw [mulE, if_neg h0, if_neg h1, if_neg h2, if_neg h3, if_neg h4, if_neg h7]) (el3 (DLe.refl _) (DLe.refl _) (DLe.refl _)) (DLe.refl _)
    · conv => whnf
      exact rOut (opOut_no (fun h => by rw [vb] at h; cases h.2)) (num3 rfl rfl rfl) (DLe.refl _)
  · conv => whnf
    exact rOut (opOut_no (fun h => by rw [va] at h; cases h.1)) (num3 rfl rfl rfl) (DLe.refl _)
end Go.Proofs.YtomdjkcoodaheaaGreatDoor
