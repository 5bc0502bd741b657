/-
  The reference: monus.
-/
import Derived.Test.YtomdjkcoodaheaaGreatDoorCe
set_option linter.unusedSectionVars false
set_option linter.unusedSimpArgs false
set_option linter.unusedVariables false
set_option maxRecDepth 10000
set_option maxHeartbeats 4000000
set_option linter.unusedVariables false
set_option linter.unusedSimpArgs false
set_option linter.unusedSectionVars false
namespace Go.Proofs.YtomdjkcoodaheaaGreatDoor
open Go Go.Vc Sr
variable [Dr]

theorem keep_take {k : Int} {l : Fam} {s : Ids} {j : Nat} (h : j < l.length) : keep k (l.take (j + 1)) s = (keep k (l.take j) s && !hit k s (l.getD j [])) := by
  unfold keep; rw [take_snoc [] h, List.all_append]; simp
theorem monK {k : Int} {a b : El} (h0 : ¬ (k = 0 ∨ k = 1)) (h1 : ¬ (k = 2 ∨ k = 3)) (h4 : k ≠ 4) (h6 : k ≠ 6) : monE k a b = ⟨0, 0, a.S.filter (keep k b.S)⟩ := by
  rw [monE, if_neg h0, if_neg h1, if_neg h4, if_neg h6]

theorem f20 (k : Int) (a b : El) (ha : Bnd 700 a.S) (hb : Bnd 700 b.S) : ACalls cx 20 [dI k, dEl a, dEl b] fun d => d = dRes (opOut k a b (monE k a b)).1 (opOut k a b (monE k a b)).2 := by
  have hA := ha.mono (show 700 ≤ 1000000 by omega)
  have hB := hb.mono (show 700 ≤ 1000000 by omega)
  refine ACalls.eq (ACalls.of_vc (H := { draw := [(18, 15, []), (20, 11, []), (29, 28, [])], own := [6, 96] }) cxOk Tryz.func20 (by kernel_rfl) rfl (show _ = 150 from rfl) (by kernel_rfl) rfl ?_)
  conv => whnf
  refine (f36 k a hA).use ⟨DLe.refl _, DLe.refl _, trivial⟩ ?_
  rintro _ rfl
  conv => whnf
  refine ifB.not (ifB.intro (fun va => ?_) (fun va => ?_))
  · conv => whnf
    refine (f36 k b hB).use ⟨DLe.refl _, DLe.refl _, trivial⟩ ?_
    rintro _ rfl
    conv => whnf
    refine ifB.not (ifB.intro (fun vb => ?_) (fun vb => ?_))
    · conv => whnf
      rw [opOut_yes va vb]
      have hk := vld_known va
      have num : k = 0 ∨ k = 1 → inR .i64 (a.N - b.N) := fun h => by
        have na := vN va (by omega)
        have nb := vN vb (by omega)
        have l1 : lim k ≤ 1152921504606846976 := by rcases h with h | h <;> simp [lim, h]
        have h1 := na.2.1; have h2 := nb.2.1; have h3 := na.2.2.1; have h4 := nb.2.2.1
        exact ⟨by omega, by omega⟩
      refine ifB.dec (fun h0 => ?_) (fun h0 => ?_)
      · conv => whnf
        refine ⟨num (.inl h0), ?_⟩
        conv => whnf
        exact rOut (e' := ⟨imax (a.N - b.N) 0, 0, []⟩) (by rw [monE, if_pos (.inl h0)]; exact res_small (by simp)) (num3 rfl rfl rfl) (DLe.refl _)
      conv => whnf
      refine ifB.dec (fun h1 => ?_) (fun h1 => ?_)
      · conv => whnf
        refine ⟨num (.inr h1), ?_⟩
        conv => whnf
        exact rOut (e' := ⟨imax (a.N - b.N) 0, 0, []⟩) (by rw [monE, if_pos (.inr h1)]; exact res_small (by simp)) (num3 rfl rfl rfl) (DLe.refl _)
      conv => whnf
      have h01 : ¬ (k = 0 ∨ k = 1) := by omega
      have sml : k < 5 → res a = (a, 0) := fun h => res_small (by have := (vN va h).1; omega)
      have zs : (zeroE k).S.length = 0 := by unfold zeroE; split <;> rfl
      refine ifB.dec (fun h2 => ?_) (fun h2 => ?_)
      · conv => whnf
        refine ifB.dec (fun h => ?_) (fun h => ?_)
        · conv => whnf
          exact rOut (e' := a) (by rw [monE, if_neg h01, if_pos (.inl h2), if_pos h]; exact sml (by omega)) (el3 (DLe.refl _) (DLe.refl _) (DLe.refl _)) (DLe.refl _)
        · conv => whnf
          refine (f39 k).use ⟨DLe.refl _, trivial⟩ ?_
          rintro _ rfl
          conv => whnf
          exact rOut (e' := zeroE k) (by rw [monE, if_neg h01, if_pos (.inl h2), if_neg h]; exact res_small (by omega)) (el3 (DLe.refl _) (DLe.refl _) (DLe.refl _)) (DLe.refl _)
      conv => whnf
      refine ifB.dec (fun h3 => ?_) (fun h3 => ?_)
      · conv => whnf
        refine ifB.dec (fun h => ?_) (fun h => ?_)
        · conv => whnf
          exact rOut (e' := a) (by rw [monE, if_neg h01, if_pos (.inr h3), if_pos h]; exact sml (by omega)) (el3 (DLe.refl _) (DLe.refl _) (DLe.refl _)) (DLe.refl _)
        · conv => whnf
          refine (f39 k).use ⟨DLe.refl _, trivial⟩ ?_
          rintro _ rfl
          conv => whnf
          exact rOut (e' := zeroE k) (by rw [monE, if_neg h01, if_pos (.inr h3), if_neg h]; exact res_small (by omega)) (el3 (DLe.refl _) (DLe.refl _) (DLe.refl _)) (DLe.refl _)
      conv => whnf
      have h23 : ¬ (k = 2 ∨ k = 3) := by omega
      refine ifB.dec (fun h4 => ?_) (fun h4 => ?_)
      · conv => whnf
        refine (f61 a.N b.N).use ⟨DLe.refl _, DLe.refl _, trivial⟩ ?_
        rintro _ rfl
        conv => whnf
        refine (f61 a.M b.M).use ⟨DLe.refl _, DLe.refl _, trivial⟩ ?_
        rintro _ rfl
        conv => whnf
        exact rOut (e' := ⟨gt0 a.N b.N, imax (gt0 a.N b.N) (gt0 a.M b.M), []⟩) (by rw [monE, if_neg h01, if_neg h23, if_pos h4]; exact res_small (by simp)) (num3 rfl rfl rfl) (DLe.refl _)
      conv => whnf
      have sa := vS va (by omega)
      have sb := vS vb (by omega)
      refine ifB.dec (fun h6 => ?_) (fun h6 => ?_)
      · conv => whnf
        have la : a.S.length ≤ 1 := by have := sa.2.2.2.2.2; rwa [if_pos h6] at this
        refine ifB.dec (fun h7 => ?_) (fun h7 => ?_)
        · conv => whnf
          exact rOut (e' := a) (by rw [monE, if_neg h01, if_neg h23, if_neg h4, if_pos h6, if_pos (by omega)]; exact res_small (by omega)) (el3 (DLe.refl _) (DLe.refl _) (DLe.refl _)) (DLe.refl _)
        · conv => whnf
          have h9 := ha.at 0
          have h10 := hb.at 0
          refine ifB.dec (fun h8 => ?_) (fun h8 => ?_)
          · conv => whnf
            exact rOut (e' := ⟨0, 0, []⟩) (by rw [monE, if_neg h01, if_neg h23, if_neg h4, if_pos h6, if_neg (by omega), if_pos (.inl (by omega))]; exact res_small (by simp)) (num3 rfl rfl rfl) (DLe.refl _)
          · conv => whnf
            refine ⟨⟨by omega, by omega⟩, ?_⟩
            conv => whnf
            refine ⟨⟨by omega, by omega⟩, ?_⟩
            conv => whnf
            refine ⟨_, (f62 (hd a.S) (hd b.S) (by unfold hd; omega) (by unfold hd; omega)).use ⟨DLe.refl _, DLe.refl _, trivial⟩ (fun d h => h), ?_⟩
            conv => whnf
            refine ifB.intro (fun h11 => ?_) (fun h11 => ?_)
            · conv => whnf
              exact rOut (e' := ⟨0, 0, []⟩) (by rw [monE, if_neg h01, if_neg h23, if_neg h4, if_pos h6, if_neg (by omega), if_pos (.inr h11)]; exact res_small (by simp)) (num3 rfl rfl rfl) (DLe.refl _)
            · conv => whnf
              replace h11 : sub (hd a.S) (hd b.S) = false := h11
              refine ⟨⟨by omega, by omega⟩, ?_⟩
              conv => whnf
              refine ⟨⟨by omega, by omega⟩, ?_⟩
              conv => whnf
              refine ⟨_, (f63 (hd a.S) (hd b.S) (by unfold hd; omega) (by unfold hd; omega)).use ⟨DLe.refl _, DLe.refl _, trivial⟩ (fun d h => h), ?_⟩
              conv => whnf
              exact rOut (e' := ⟨0, 0, [nrm rlt ((hd a.S).filter fun x => !decide (x ∈ hd b.S))]⟩) (by rw [monE, if_neg h01, if_neg h23, if_neg h4, if_pos h6, if_neg (by omega), if_neg (by rw [h11]; intro h; rcases h with h | h; omega; cases h)]; exact res_small (by simp))
                (el3 (DLe.refl _) (DLe.refl _) (slice_le (l := [nrm rlt ((hd a.S).filter fun x => !decide (x ∈ hd b.S))]) rfl rfl (one1 (DLe.refl _)))) (DLe.refl _)
      conv => whnf
      rw [monK h01 h23 h4 h6]
      have hla := ha.1
      have hlb := hb.1
      refine VLoop.inv (N := 150) rfl (ι := Nat) (fun i => i ≤ a.S.length) (fun i => [(0, .im (dI k)), (4, .im (.ptr 3 (cEl a))), (5, .im (.ptr 3 (cEl b))), (6, .own 6 0), (9, .orow 96), (10, .im (dI i))])
        (fun i => [(6, .box 24 3 fun j => .im (bif Nat.beq j 0 then dI 0 else bif Nat.beq j 1 then dI 0 else .lit (.slice none 0 0))), (96, .row 34 1 ((a.S.take i).filter (keep k b.S)).length (fFam ((a.S.take i).filter (keep k b.S))))]) (fun i => a.S.length - i) 0 (Nat.zero_le _) ?_ ?_
      · refine ⟨⟨ELe.refl _, ELe.refl _, ELe.refl _, ELe.refl _, ELe.refl _, ELe.refl _, trivial⟩, ⟨?_, row_nil, trivial⟩⟩
        refine ⟨rfl, rfl, fun j hj => ?_⟩
        rcases j with _ | _ | _ | j
        · exact ELe.refl _
        · exact ELe.refl _
        · exact ELe.refl _
        · exact absurd (show j + 1 + 1 + 1 < 3 from hj) (by omega)
      intro i hi
      conv => whnf
      refine ifB.dec (fun h5 => ?_) (fun h5 => ?_)
      · conv => whnf
        have hlt : i < a.S.length := by omega
        have hft := filter_take [] hlt (keep k b.S)
        have hfl : ((a.S.take i).filter (keep k b.S)).length ≤ a.S.length := by
          have h1 := List.length_filter_le (keep k b.S) (a.S.take i)
          rw [List.length_take] at h1; omega
        have hai := ha.at i
        refine VLoop.inv (N := 150) rfl (ι := Nat) (fun j => j ≤ b.S.length) (fun j => [(0, .im (dI k)), (4, .im (.ptr 3 (cEl a))), (5, .im (.ptr 3 (cEl b))), (6, .own 6 0), (9, .orow 96), (10, .im (dI i)), (11, .im (dB (keep k (b.S.take j) (a.S.getD i [])))), (12, .im (dI j))])
          (fun j => [(6, .box 24 3 fun j => .im (bif Nat.beq j 0 then dI 0 else bif Nat.beq j 1 then dI 0 else .lit (.slice none 0 0))), (96, .row 34 1 ((a.S.take i).filter (keep k b.S)).length (fFam ((a.S.take i).filter (keep k b.S))))]) (fun j => b.S.length - j) 0 (Nat.zero_le _)
          ⟨⟨ELe.refl _, ELe.refl _, ELe.refl _, ELe.refl _, ELe.refl _, ELe.refl _, ELe.refl _, ELe.refl _, trivial⟩, ⟨ObLe.refl _, ObLe.refl _, trivial⟩⟩ ?_
        intro j hj
        conv => whnf
        refine ifB.dec (fun h8 => ?_) (fun h8 => ?_)
        · conv => whnf
          have hjt : j < b.S.length := by omega
          have hbj := hb.at j
          have hkt := keep_take (k := k) (s := a.S.getD i []) hjt
          have next0 : hit k (a.S.getD i []) (b.S.getD j []) = true → keep k (b.S.take (j + 1)) (a.S.getD i []) = false := fun h => by rw [hkt, h]; simp
          have next1 : hit k (a.S.getD i []) (b.S.getD j []) = false → keep k (b.S.take (j + 1)) (a.S.getD i []) = keep k (b.S.take j) (a.S.getD i []) := fun h => by rw [hkt, h]; simp
          have fin : ∀ {P : Prop}, P → P := fun h => h
          refine ifB.dec (fun h7 => ?_) (fun h7 => ?_)
          · conv => whnf
            refine ⟨⟨by omega, by omega⟩, ?_⟩
            conv => whnf
            refine ⟨⟨by omega, by omega⟩, ?_⟩
            conv => whnf
            refine ⟨_, (f62 (b.S.getD j []) (a.S.getD i []) (by omega) (by omega)).use ⟨DLe.refl _, DLe.refl _, trivial⟩ (fun d h => h), ?_⟩
            conv => whnf
            refine ifB.intro (fun h9 => ?_) (fun h9 => ?_)
            · conv => whnf
              refine ⟨⟨by omega, by omega⟩, ?_⟩
              conv => whnf
              exact VNext.by (j + 1) rfl (by omega) (by omega) ⟨⟨ELe.refl _, ELe.refl _, ELe.refl _, ELe.refl _, ELe.refl _, ELe.refl _, eB (next0 (by unfold hit sub; rw [h9, decide_eq_true h7]; rfl)), ELe.refl _, trivial⟩, ⟨ObLe.refl _, ObLe.refl _, trivial⟩⟩
            · conv => whnf
              refine ⟨⟨by omega, by omega⟩, ?_⟩
              conv => whnf
              refine ⟨⟨by omega, by omega⟩, ?_⟩
              conv => whnf
              refine ⟨_, (f64 (b.S.getD j []) (a.S.getD i []) (by omega) (by omega)).use ⟨DLe.refl _, DLe.refl _, trivial⟩ (fun d h => h), ?_⟩
              conv => whnf
              refine ifB.dec (fun h10 => ?_) (fun h10 => ?_)
              · conv => whnf
                refine ⟨⟨by omega, by omega⟩, ?_⟩
                conv => whnf
                exact VNext.by (j + 1) rfl (by omega) (by omega) ⟨⟨ELe.refl _, ELe.refl _, ELe.refl _, ELe.refl _, ELe.refl _, ELe.refl _, eB (next0 (by unfold hit; rw [decide_eq_true h10, Bool.or_true])), ELe.refl _, trivial⟩, ⟨ObLe.refl _, ObLe.refl _, trivial⟩⟩
              · conv => whnf
                refine ⟨⟨by omega, by omega⟩, ?_⟩
                conv => whnf
                exact VNext.by (j + 1) rfl (by omega) (by omega) ⟨⟨ELe.refl _, ELe.refl _, ELe.refl _, ELe.refl _, ELe.refl _, ELe.refl _, eB (next1 (by unfold hit sub; rw [h9, decide_eq_false h10, Bool.and_false]; rfl)), ELe.refl _, trivial⟩, ⟨ObLe.refl _, ObLe.refl _, trivial⟩⟩
          · conv => whnf
            refine ⟨⟨by omega, by omega⟩, ?_⟩
            conv => whnf
            refine ⟨⟨by omega, by omega⟩, ?_⟩
            conv => whnf
            refine ⟨_, (f64 (b.S.getD j []) (a.S.getD i []) (by omega) (by omega)).use ⟨DLe.refl _, DLe.refl _, trivial⟩ (fun d h => h), ?_⟩
            conv => whnf
            refine ifB.dec (fun h10 => ?_) (fun h10 => ?_)
            · conv => whnf
              refine ⟨⟨by omega, by omega⟩, ?_⟩
              conv => whnf
              exact VNext.by (j + 1) rfl (by omega) (by omega) ⟨⟨ELe.refl _, ELe.refl _, ELe.refl _, ELe.refl _, ELe.refl _, ELe.refl _, eB (next0 (by unfold hit; rw [decide_eq_true h10, Bool.or_true])), ELe.refl _, trivial⟩, ⟨ObLe.refl _, ObLe.refl _, trivial⟩⟩
            · conv => whnf
              refine ⟨⟨by omega, by omega⟩, ?_⟩
              conv => whnf
              exact VNext.by (j + 1) rfl (by omega) (by omega) ⟨⟨ELe.refl _, ELe.refl _, ELe.refl _, ELe.refl _, ELe.refl _, ELe.refl _, eB (next1 (by unfold hit; rw [decide_eq_false h7, decide_eq_false h10]; rfl)), ELe.refl _, trivial⟩, ⟨ObLe.refl _, ObLe.refl _, trivial⟩⟩
        · conv => whnf
          have hjl : b.S.take j = b.S := List.take_of_length_le (by omega)
          rw [hjl]
          refine ifB.intro (fun h9 => ?_) (fun h9 => ?_)
          · conv => whnf
            refine ⟨⟨by omega, by omega⟩, ?_⟩
            conv => whnf
            refine ⟨⟨b34 (by omega), one1 rfl⟩, ?_⟩
            conv => whnf
            refine ⟨⟨by omega, by omega⟩, ?_⟩
            conv => whnf
            refine VNext.by (i + 1) rfl (by omega) (by omega) ⟨⟨ELe.refl _, ELe.refl _, ELe.refl _, ELe.refl _, ELe.refl _, ELe.refl _, trivial⟩, ⟨ObLe.refl _, ?_, trivial⟩⟩
            exact row_le (l := (a.S.take i).filter (keep k b.S) ++ [a.S.getD i []]) (by rw [hft, if_pos h9]) (snoc_len rfl) (pt1 rfl ptR (DLe.refl _))
          · conv => whnf
            refine ⟨⟨by omega, by omega⟩, ?_⟩
            conv => whnf
            refine VNext.by (i + 1) rfl (by omega) (by omega) ⟨⟨ELe.refl _, ELe.refl _, ELe.refl _, ELe.refl _, ELe.refl _, ELe.refl _, trivial⟩, ⟨ObLe.refl _, ?_, trivial⟩⟩
            exact row_le (by rw [hft, if_neg (by rw [h9]; simp), List.append_nil]) rfl ptR
      · conv => whnf
        have hil : a.S.take i = a.S := List.take_of_length_le (by omega)
        have hsm : (a.S.filter (keep k b.S)).length ≤ 512 := by have := List.length_filter_le (keep k b.S) a.S; have := sa.2.2.1; omega
        exact rOut (e' := ⟨0, 0, a.S.filter (keep k b.S)⟩) (res_small hsm) (el3 (DLe.refl _) (DLe.refl _) (slice_le (by rw [hil]) rfl ptR)) (DLe.refl _)
    · conv => whnf
      exact rOut (opOut_no (fun h => by rw [vb] at h; cases h.2)) (num3 rfl rfl rfl) (DLe.refl _)
  · conv => whnf
    exact rOut (opOut_no (fun h => by rw [va] at h; cases h.1)) (num3 rfl rfl rfl) (DLe.refl _)
end Go.Proofs.YtomdjkcoodaheaaGreatDoor
