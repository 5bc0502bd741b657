/-
  From a law's contract to what its row asks.
-/
import Derived.Test.YtomdjkcoodaheaaGreatDoorLa
import Derived.Test.YtomdjkcoodaheaaGreatDoorLb
set_option linter.unusedSectionVars false
set_option linter.unusedSimpArgs false
set_option linter.unusedVariables false
set_option maxRecDepth 100000
set_option maxHeartbeats 4000000
set_option linter.unusedVariables false
set_option linter.unusedSimpArgs false
namespace Go.Proofs.YtomdjkcoodaheaaGreatDoor
open Go Go.Vc Sr Go.ChangeShapes Go.WideShapes Go.ChangeAt

theorem below_kit {B : Nat} {w w' : World} (h : Go.Vc.Below B w w') : Go.RowKit.Below B w w' := ⟨h.os, h.tape, h.output, h.size, h.block⟩
theorem law_calls {H : Type} {enc : TypeId × Value → H} {f : FuncId} {fn : Func} {s : ChangeSpec} {W : World} {args : Array Value} {ds gs : List (DataW H)} {before : List MemPlace} {dargs : List D}
    (hc : ACalls cx f dargs fun d => d = dB true) (hn : args.size = dargs.length) (hr : ∀ i, i < dargs.length → Rel noX W (args.getD i undef) (dargs.getD i .top))
    (hts : ∀ t ∈ fn.params.toList, Tryz.prog.readableRec t = true ∧ t < Tryz.prog.types.size) (hv : s.vars = [])
    (hs : (s.fn H ds).results = [.lit (.bool true)] ∧ (s.fn H ds).args = ds ∧ (s.fn H ds).vars = []) (hrt : fn.resultTypes = #[4])
    (hW : DataW.Whole enc Tryz.prog fn.params.toList s.vars false W args.toList ds gs before) :
    Calls Tryz.prog f args W fun e W' => ∃ v, e = .returned v ∧ s.post enc Tryz.prog fn false true false false W args v W' := by
  refine (hc.out noX W args (fun b h => h.elim) (fun q => Rel.top _) hn hr).mono ?_
  rintro e W' ⟨v, d, rfl, rfl, hd, hb⟩
  cases hd
  exact ⟨_, rfl, law_post laidOut hts hv hs hrt ty4.1 hW (below_kit hb)⟩
theorem rel3 {W : World} {v0 v1 v2 : Value} {d0 d1 d2 : D} (h0 : Rel noX W v0 d0) (h1 : Rel noX W v1 d1) (h2 : Rel noX W v2 d2) : ∀ i, i < 3 → Rel noX W ((#[v0, v1, v2] : Array Value).getD i undef) ([d0, d1, d2].getD i .top) := fun i hi => by
  rcases i with _ | _ | _ | i
  · exact h0
  · exact h1
  · exact h2
  · omega
theorem rel2 {W : World} {v0 v1 : Value} {d0 d1 : D} (h0 : Rel noX W v0 d0) (h1 : Rel noX W v1 d1) : ∀ i, i < 2 → Rel noX W ((#[v0, v1] : Array Value).getD i undef) ([d0, d1].getD i .top) := fun i hi => by
  rcases i with _ | _ | i
  · exact h0
  · exact h1
  · omega
theorem rel4 {W : World} {v0 v1 v2 v3 : Value} {d0 d1 d2 d3 : D} (h0 : Rel noX W v0 d0) (h1 : Rel noX W v1 d1) (h2 : Rel noX W v2 d2) (h3 : Rel noX W v3 d3) : ∀ i, i < 4 → Rel noX W ((#[v0, v1, v2, v3] : Array Value).getD i undef) ([d0, d1, d2, d3].getD i .top) := fun i hi => by
  rcases i with _ | _ | _ | _ | i
  · exact h0
  · exact h1
  · exact h2
  · exact h3
  · omega
theorem rd3 : Tryz.prog.readableRec 3 = true ∧ 3 < Tryz.prog.types.size := ⟨by kernel_rfl, by decide +kernel⟩
theorem rd2 : Tryz.prog.readableRec 2 = true ∧ 2 < Tryz.prog.types.size := ⟨by kernel_rfl, by decide +kernel⟩
theorem rd9 : Tryz.prog.readableRec 9 = true ∧ 9 < Tryz.prog.types.size := ⟨by kernel_rfl, by decide +kernel⟩
theorem rd24 : Tryz.prog.readableRec 24 = true ∧ 24 < Tryz.prog.types.size := ⟨by kernel_rfl, by decide +kernel⟩
theorem args_of {args : Array Value} {l : List Value} (h : args.toList = l) : args = l.toArray := by
  cases args; cases h; rfl
theorem reach_cap : reachBytes ≤ 4611686018427387904 := by decide
end Go.Proofs.YtomdjkcoodaheaaGreatDoor

/-
  The closed facts of a row, one by one; those that all rows share.
-/
set_option maxRecDepth 100000
set_option maxHeartbeats 4000000
set_option linter.unusedSimpArgs false
namespace Go.Proofs.YtomdjkcoodaheaaGreatDoor
open Go
theorem joined_mk {P : Program} {f : FuncId} {fn : Func} {s : ChangeSpec} {c : OpenClaim} (k1 : c.wf (OpenSpec.ofChange s) = true) (k2 : laidOutB P = true) (k3 : mapsRowed P = true) (k4 : fn.params.all (P.readableRec ·) = true) (k5 : namedTie P c.named s.vars = true)
  (k6 : ((c.stops == []) && (P.stops == []) && (c.knobs == []) && (P.stopKnobs == [])) = true) (k10 : (c.inPlace == P.inPlace f) = true) (k11 : (c.unfollowed == P.unfollowed f) = true) (k12 : (c.recurses == P.recurses f) = true) (k13 : (c.named == P.varsNamed f) = true)
  (k14 : ((c.maps == (fn.params.toList ++ s.plain.varTypes P).any (P.mapsRec ·)) && (c.ifaces == (fn.params.toList ++ s.plain.varTypes P).any (P.ifacesRec ·)) && (c.mapsOut == P.mapsAmong fn.resultTypes.toList) &&
  (c.loops == (fn.params.toList ++ s.plain.varTypes P).any (P.loopsFrom ·)) && (c.wideKeys == (fn.params.toList ++ s.plain.varTypes P ++ fn.resultTypes.toList).any (P.wideKeysFrom ·))) = true)
  (k15 : (s.vars.all (P.varReadable ·) && fn.resultTypes.all (fun t => P.readableRec t && decide (t < P.types.size)) && (c.ifacesOut == fn.resultTypes.toList.any (P.ifacesRec ·)) && (c.loopsOut == fn.resultTypes.toList.any (P.loopsFrom ·))) = true)
  (k16 : (c.plainKeys == P.plainKeys) = true) (k17 : c.shortTexts.isNone = true) (k18 : P.stopsHeard = true) (k19 : P.mayEnter = true) (k20 : (c.lifted == P.liftsFinal) = true) (k21 : (P.make == some c.make) = true)
  (kd : c.domain.isEmpty = true) (k23 : (c.kinds == []) = true) (k22 : ((c.pinned == c.pinnedBy) &&
  (c.veiled == (fn.params.toList ++ s.plain.varTypes P ++ fn.resultTypes.toList).any (P.veiledRec ·)) && c.veiledFits P fn.params.toList (fn.params.toList ++ s.plain.varTypes P ++ fn.resultTypes.toList)) = true) : joinedFacts P f fn s c = true := by
  simp only [Bool.and_eq_true] at k6 k14 k15 k22
  unfold joinedFacts
  rw [if_pos kd]
  simp only [k23, k1, k2, k3, k4, k5, k6, k10, k11, k12, k13, k14, k15, k16, k17, k18, k19, k20, k21, k22, Bool.and_self, Bool.and_true, Bool.true_and]
theorem sh3 : mapsRowed Tryz.prog = true := by kernel_rfl
theorem sh16 : (Rows.semiringOperationsRow.plainKeys == Tryz.prog.plainKeys) = true := by kernel_rfl
theorem sh18 : Tryz.prog.stopsHeard = true := by kernel_rfl
theorem sh19 : Tryz.prog.mayEnter = true := by kernel_rfl
theorem sh20 : (Rows.semiringOperationsRow.lifted == Tryz.prog.liftsFinal) = true := by kernel_rfl
theorem sh21 : (Tryz.prog.make == some Rows.semiringOperationsRow.make) = true := by kernel_rfl
end Go.Proofs.YtomdjkcoodaheaaGreatDoor
