/-
  The card of the law SemiringMonus: it returns true at every input, and its arguments read afterwards as before.
-/
import Derived.Test.YtomdjkcoodaheaaGreatDoorLc
import Derived.Test.YtomdjkcoodaheaaGreatDoorMg
set_option linter.unusedSectionVars false
set_option linter.unusedSimpArgs false
set_option linter.unusedVariables false
set_option maxRecDepth 100000
set_option maxHeartbeats 4000000
set_option linter.unusedVariables false
set_option linter.unusedSimpArgs false
namespace Go.Proofs.YtomdjkcoodaheaaGreatDoor
open Go Go.Vc Sr Go.ChangeShapes Go.WideShapes Go.ChangeAt

theorem contract8 (H : Type) (enc : TypeId × Value → H) (W : World) (base : Nat) (args : Array Value) (ds gs : List (DataW H)) (before : List MemPlace)
    (hval : ∀ (j : Nat) t v, Tryz.f8.params[j]? = some t → args[j]? = some v → Value.okWide Tryz.prog W .any base t v)
    (hW : DataW.Whole enc Tryz.prog Tryz.f8.params.toList Rows.semiringMonusSpec.vars false W args.toList ds gs before)
    (hz : (DataW.weightsEach Tryz.prog (Tryz.f8.params.toList ++ (OpenSpec.ofChange Rows.semiringMonusSpec).bare.plain.varTypes Tryz.prog) (ds ++ gs)).all (· ≤ reachBytes) = true) :
    Calls Tryz.prog 8 args W fun e W' => ∃ v, e = .returned v ∧ Rows.semiringMonusSpec.post enc Tryz.prog Tryz.f8 false true false false W args v W' := by
  obtain ⟨p, q, hA0, hV, rfl, hfz, hnd⟩ := id hW
  have hA : DataW.TrodAll enc Tryz.prog W 0 (fun _ => true) true [3, 24, 24, 24] args.toList ds p := hA0
  obtain ⟨v0, vs0, d0, ds0, p0, q0, hargs0, e0, _, h0, r0⟩ := trodAll_cons hA
  obtain ⟨v1, vs1, d1, ds1, p1, q1, hargs1, e1, _, h1, r1⟩ := trodAll_cons r0
  obtain ⟨v2, vs2, d2, ds2, p2, q2, hargs2, e2, _, h2, r2⟩ := trodAll_cons r1
  obtain ⟨v3, vs3, d3, ds3, p3, q3, hargs3, e3, _, h3, r3⟩ := trodAll_cons r2
  obtain ⟨rfl, rfl, _⟩ := trodAll_nil r3
  subst hargs3 e3
  subst hargs2 e2
  subst hargs1 e1
  subst e0
  have hargs : args = #[v0, v1, v2, v3] := args_of hargs0
  subst hargs
  obtain ⟨rfl, rfl⟩ := trodVars_none hV
  have hz' : (DataW.weightsEach Tryz.prog [3, 24, 24, 24] [d0, d1, d2, d3]).all (· ≤ reachBytes) = true := hz
  simp only [DataW.weightsEach, List.all_append, Bool.and_eq_true] at hz'
  obtain ⟨z0, z1, z2, z3, _⟩ := hz'
  obtain ⟨k0, g0, lo0, hi0⟩ := openInt (t := 3) ty3.1 (hval 0 3 v0 rfl rfl) h0
  obtain ⟨x1, g1, b1⟩ := openEl h1
  obtain ⟨x2, g2, b2⟩ := openEl h2
  obtain ⟨x3, g3, b3⟩ := openEl h3
  exact law_calls (f8 k0 x1 x2 x3 (Nat.le_trans (b1 z1) reach_cap) (Nat.le_trans (b2 z2) reach_cap) (Nat.le_trans (b3 z3) reach_cap)) rfl (rel4 g0 g1 g2 g3) (by
    intro t ht
    have ht : t ∈ [3, 24, 24, 24] := ht
    simp only [List.mem_cons, List.mem_nil_iff, or_false] at ht
    rcases ht with rfl | rfl | rfl | rfl
    · exact rd3
    · exact rd24
    · exact rd24
    · exact rd24
    ) rfl ⟨rfl, rfl, rfl⟩ rfl hW
def wit8 : Array Value := #[.int .i64 0, El0, El0, El0]
theorem reads8 (os : Os) {H : Type} (enc : TypeId × Value → H) : ∃ ds places, DataW.whole enc Tryz.prog ((laidWorld os).forCall (fun _ _ => 0) ⟨#[], wit8, []⟩).memory Tryz.f8.params.toList Rows.semiringMonusSpec.vars false wit8.toList 8 = some (ds, [], places) ∧ ∀ k, (OpenSpec.ofChange Rows.semiringMonusSpec).cond = some k → k H (ds ++ []) = true :=
  ⟨[.lit (.int .i64 0), .agg [.lit (.int .i64 0), .lit (.int .i64 0), .nil], .agg [.lit (.int .i64 0), .lit (.int .i64 0), .nil], .agg [.lit (.int .i64 0), .lit (.int .i64 0), .nil]], [], by kernel_rfl, fun k hk => by cases hk⟩
theorem lifted8 (os : Os) (started : os.Started) (H : Type) (enc : TypeId × Value → H) (F : Stop.Interp) :
    ReturnsInHanded {} Tryz.checked os 8 .any ((OpenSpec.ofChange Rows.semiringMonusSpec).preRow enc Tryz.prog Tryz.f8 Rows.semiringMonusRow.domain false Rows.semiringMonusRow.laid) (((OpenSpec.ofChange Rows.semiringMonusSpec).at F).post enc Tryz.prog Tryz.f8 false true false false) := by
  obtain ⟨ds, places, hx, hk⟩ := reads8 os enc
  refine returnsInHanded_of_row (C := Tryz.checked) (s := OpenSpec.ofChange Rows.semiringMonusSpec) own started (by kernel_rfl) Tryz.func8
    (witness_row_atRef (enc := enc) (C := Tryz.checked) false (laidWorld os) wit8 rfl (wit_vars os wit8) (wit_rest os wit8) (by kernel_rfl)
      (OpenSpec.preRow_of_cond 8 hx (by rfl) hk (by kernel_rfl) (laid_met os wit8))) ?_
  intro W base args ds gs before hval hW _ _ hz _ _ _
  exact contract8 H enc W base args ds gs before hval hW hz
theorem a1_8 : (Rows.semiringMonusRow.wf (OpenSpec.ofChange (OpenSpec.ofChange Rows.semiringMonusSpec).bare)) = true := by kernel_rfl
theorem a4_8 : (Tryz.f8.params.all (Tryz.prog.readableRec ·)) = true := by kernel_rfl
theorem a5_8 : (namedTie Tryz.prog Rows.semiringMonusRow.named (OpenSpec.ofChange Rows.semiringMonusSpec).bare.vars) = true := by kernel_rfl
theorem a10_8 : (Rows.semiringMonusRow.inPlace == Tryz.prog.inPlace 8) = true := by kernel_rfl
theorem a11_8 : (Rows.semiringMonusRow.unfollowed == Tryz.prog.unfollowed 8) = true := by kernel_rfl
theorem a12_8 : (Rows.semiringMonusRow.recurses == Tryz.prog.recurses 8) = true := by kernel_rfl
theorem a13_8 : (Rows.semiringMonusRow.named == Tryz.prog.varsNamed 8) = true := by kernel_rfl
theorem closed8 : joinedFacts Tryz.prog 8 Tryz.f8 (OpenSpec.ofChange Rows.semiringMonusSpec).bare Rows.semiringMonusRow = true :=
  joined_mk a1_8 laidOut sh3 a4_8 a5_8 (by kernel_rfl) a10_8 a11_8 a12_8 a13_8 (by kernel_rfl) (by kernel_rfl) sh16 rfl sh18 sh19 sh20 sh21 rfl rfl (by kernel_rfl)
theorem said8 : Rows.SemiringMonusSaid :=
  OpenClaim.holds_of_cond 8 Tryz.f8 rfl rfl rfl rfl rfl rfl rfl ⟨rfl, rfl, rfl, rfl, rfl⟩ rfl rfl rfl rfl rfl (by kernel_rfl) Tryz.func8 closed8
    (of_decide_eq_true (by kernel_rfl)) (by unfold Func.isWrapper; first | (rw [if_pos (by decide +kernel)]; kernel_rfl) | (rw [if_neg (by decide +kernel)]; exact ⟨rfl, rfl⟩))
    (fun os started H enc _ F => by rw [OpenClaim.pre_eq_preRow]; exact lifted8 os started H enc F)
theorem plain8 (f : FuncId) (fn : Func) (hf : Tryz.pinned.checked.prog.funcNamed "lineage/lineagelaw06.SemiringMonus" = some f) (hfn : Tryz.pinned.checked.prog.funcs[f]? = some fn) :
    true = Tryz.pinned.checked.prog.looks [] ∧ ∀ (j : Nat) t, fn.params[j]? = some t → Tryz.pinned.checked.prog.wantsStandIn t = false := by
  obtain rfl : f = 8 := Option.some.inj ((show Tryz.prog.funcNamed "lineage/lineagelaw06.SemiringMonus" = some 8 by kernel_rfl).symm.trans hf) |>.symm
  obtain rfl : fn = Tryz.f8 := (Option.some.inj (Tryz.func8.symm.trans hfn)).symm
  refine ⟨by kernel_rfl, fun j t ht => ?_⟩
  have ht : (#[3, 24, 24, 24] : Array TypeId)[j]? = some t := ht
  have hm := Array.mem_of_getElem? ht
  simp only [List.mem_toArray, List.mem_cons, List.mem_nil_iff, or_false] at hm
  rcases hm with rfl | rfl | rfl | rfl
  · exact (show Tryz.prog.wantsStandIn 3 = false by kernel_rfl)
  · exact (show Tryz.prog.wantsStandIn 24 = false by kernel_rfl)
  · exact (show Tryz.prog.wantsStandIn 24 = false by kernel_rfl)
  · exact (show Tryz.prog.wantsStandIn 24 = false by kernel_rfl)
theorem card8 : Rows.SemiringMonusCardSaid :=
  Claim7.holds_tied_plain_at .later [] _ _ _ _ said8 (fun _ h => by cases h) (by kernel_rfl) (fun _ h => by cases h) semiringMonus_row_tie rfl ⟨rfl, rfl⟩ (by kernel_rfl) rfl plain8 (by kernel_rfl)
end Go.Proofs.YtomdjkcoodaheaaGreatDoor
