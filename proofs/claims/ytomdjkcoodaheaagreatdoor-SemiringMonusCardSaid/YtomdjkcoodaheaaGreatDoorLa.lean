/-
  What the arguments of a law are; what is left behind a law.
-/
import Derived.Test.YtomdjkcoodaheaaGreatDoorCp
import Derived.ProofKit
import Derived.OpenShut
import Derived.Deep.Slices
import Derived.Deep.SlicePairs
import Derived.WideKeyArgs
import Derived.Test.YtomdjkcoodaheaaGreatDoorRows
set_option linter.unusedSectionVars false
set_option linter.unusedSimpArgs false
set_option linter.unusedVariables false
set_option maxRecDepth 100000
set_option maxHeartbeats 4000000
set_option linter.unusedVariables false
set_option linter.unusedSimpArgs false
namespace Go.Proofs.YtomdjkcoodaheaaGreatDoor
open Go Go.Vc Sr Go.ChangeShapes Go.WideShapes Go.ChangeAt

def noX : Nat → Prop := fun _ => False
theorem laidOut : laidOutB Tryz.prog = true := by kernel_rfl
section
variable {H : Type} {enc : TypeId × Value → H} {W W' : World}
theorem trodAll_stays {P : Program} (hl : laidOutB P = true) (hb : Go.RowKit.Below W.heap.size W W') (sp : Nat → Bool) : ∀ {ts : List TypeId} {vs : List Value} {ds : List (DataW H)} {ps : List MemPlace},
    (∀ t ∈ ts, P.readableRec t = true ∧ t < P.types.size) → DataW.TrodAll enc P W 0 (fun _ => true) true ts vs ds ps → (∀ x ∈ ps, x.block < W.heap.size) → (∀ x ∈ ps, sp x.block = true) → DataW.TrodAll enc P W' 0 sp true ts vs ds ps
  | [], vs, ds, ps, _, h, _, _ => by
    obtain ⟨rfl, rfl, rfl⟩ := trodAll_nil h
    exact trodAll_mk0
  | t :: ts, vs, ds, ps, ht, h, hlt, hsp => by
    obtain ⟨v, vs', d, ds', p, q, rfl, rfl, rfl, h1, h2⟩ := trodAll_cons h
    have hr := ht t (by simp)
    exact ⟨p, q, WideElems.Trod_stays hl hr.1 hr.2 h1 (fun x hx => hb.same (hlt x (by simp [hx]))) (fun x hx => hsp x (by simp [hx])),
      trodAll_stays hl hb sp (fun t h => ht t (by simp [h])) h2 (fun x hx => hlt x (by simp [hx])) (fun x hx => hsp x (by simp [hx])), rfl⟩
/-- A law's end: true; all that came in reads as it did. -/
theorem law_post {P : Program} {fn : Func} {s : ChangeSpec} {args : Array Value} {ds gs : List (DataW H)} {before : List MemPlace} (hl : laidOutB P = true) (hts : ∀ t ∈ fn.params.toList, P.readableRec t = true ∧ t < P.types.size) (hv : s.vars = [])
    (hs : (s.fn H ds).results = [.lit (.bool true)] ∧ (s.fn H ds).args = ds ∧ (s.fn H ds).vars = []) (hr : fn.resultTypes = #[4]) (h4 : P.underlying 4 = some .bool)
    (hW : DataW.Whole enc P fn.params.toList s.vars false W args.toList ds gs before) (hb : Go.RowKit.Below W.heap.size W W') : s.post enc P fn false true false false W args (.bool true) W' := by
  have hlt := fun p hp => hW.lt p hp
  obtain ⟨p, q, hA, hV, rfl, hfz, hnd⟩ := id hW
  rw [hv] at hV
  obtain ⟨rfl, rfl⟩ := trodVars_none hV
  simp only [List.append_nil] at hW hlt hfz hnd
  have hargs : ∀ sp : Nat → Bool, (∀ x ∈ p, sp x.block = true) → DataW.TrodAll enc P W' 0 sp true fn.params.toList args.toList ds p := fun sp hsp => trodAll_stays hl hb sp hts hA hlt hsp
  refine ⟨ds, [], p, [], p, [], hW, ?_, ?_, ?_, World.keptBut_mono (fun x hx => ⟨hx, .inr (.inl hx)⟩) (hb.frame (· ∈ p)), fun h => by cases h⟩
  · rw [List.append_nil, hs.1, hr]
    exact trodAll_mk1 (Go.RowKit.shut_bool h4 _)
  · rw [List.append_nil, hs.2.1]
    exact hargs _ fun x hx => by simpa using hlt x hx
  · rw [List.append_nil, hs.2.2, hv]; rfl
end
section
variable {H : Type} {enc : TypeId × Value → H} {W : World} {sp : Nat → Bool} {held : Bool}
theorem cells2 : Tryz.prog.cellsOf 33 = 2 := by kernel_rfl
theorem cells34 : Tryz.prog.cellsOf 34 = 1 := by kernel_rfl
theorem cells3 : Tryz.prog.cellsOf 3 = 1 := by kernel_rfl
theorem cells22 : Tryz.prog.cellsOf 22 = 1 := by kernel_rfl
theorem cells2' : Tryz.prog.cellsOf 2 = 1 := by kernel_rfl
theorem list_of (n : Nat) {α : Type} (g : Nat → α) (x0 : α) : ∃ l : List α, l.length = n ∧ ∀ i, i < n → l.getD i x0 = g i := ⟨(List.range n).map g, by simp, fun i hi => by simp [List.getD_eq_getElem?_getD, hi]⟩
theorem cell_spot {a : Addr} {u : Value} (h : W.cell? a = some u) : a = ⟨a.block, a.off, none⟩ := by
  obtain ⟨b, off, spot⟩ := a
  cases spot with
  | none => rfl
  | some s =>
    unfold World.cell? at h
    split at h <;> simp at h
theorem openIds {fuel : Nat} {v : Value} {x : DataW H × List MemPlace} (h : DataW.trod enc Tryz.prog W 0 sp held fuel 34 [v] = some x) : ∃ l : Ids, Rel noX W v (dIds l) := by
  rcases Go.Deep.open_slice_pairs (f0 := Field.mk "Table" 3 0 false "" "" 0) (f1 := Field.mk "Seq" 3 1 false "" "" 8) ty34.1 ty33.1 cells2 rfl rfl cells3 cells3 h with ⟨e, _⟩ | ⟨a, len, cap, m, n, V0, V1, D0, D1, P0, P1, e, hb, hl, hm, hmm, _, hx⟩
  · cases e
    exact ⟨[], .slice none 0 2 0 _ (fun _ _ => undef) (Nat.le_refl _) (Nat.zero_le _) (fun _ => rfl) (fun i j hi => absurd hi (Nat.not_lt_zero _)) fun i j hi => absurd hi (Nat.not_lt_zero _)⟩
  · cases e
    have hlm : len ≤ m := by rw [hmm]; split <;> omega
    have hnum : ∀ i, i < len → ∃ p : Int × Int, V0 i = .int .i64 p.1 ∧ V1 i = .int .i64 p.2 := fun i hi => by
      obtain ⟨_, _, h0, h1⟩ := hx i (by omega)
      obtain ⟨n0, e0, _⟩ := DataW.trod_int ty3.1 h0
      obtain ⟨n1, e1, _⟩ := DataW.trod_int ty3.1 h1
      exact ⟨(n0, n1), (List.cons.inj e0).1, (List.cons.inj e1).1⟩
    obtain ⟨g, hg⟩ := Go.Deep.choose_lt hnum
    obtain ⟨l, hlen, hget⟩ := list_of len g ((0, 0) : RId)
    subst hlen
    by_cases h0 : l.length = 0
    · refine ⟨l, ?_⟩
      refine .slice (some a) cap 2 l.length _ (fun _ _ => undef) hl hm (fun e => by cases e) (fun i j hi => by omega) fun i j hi => by omega
    · obtain ⟨b, off, hab⟩ : ∃ b off, a = ⟨b, off, none⟩ := by
        obtain ⟨c0, _⟩ := hx 0 (by omega)
        rw [Nat.zero_mul, show a.add 0 = a from if_pos rfl] at c0
        exact ⟨_, _, cell_spot c0⟩
      subst hab
      refine ⟨l, .slice _ cap 2 l.length _ (fun i j => if j = 0 then V0 i else V1 i) hl hm (fun e => by cases e) (fun i j hi hj => ⟨b, off, rfl, fun h => h, ?_⟩) fun i j hi hj => ?_⟩
      · obtain ⟨c0, c1, _⟩ := hx i (by omega)
        rw [Addr.add_lit] at c0 c1
        rcases j with _ | _ | j
        · exact c0
        · exact c1
        · omega
      · obtain ⟨q0, q1⟩ := hg i hi
        rcases j with _ | _ | j
        · show Rel noX W (V0 i) (dI (l.getD i (0, 0)).1)
          rw [hget i hi, q0]; exact .lit _
        · show Rel noX W (V1 i) (dI (l.getD i (0, 0)).2)
          rw [hget i hi, q1]; exact .lit _
        · omega
theorem openFam {fuel : Nat} {v : Value} {x : DataW H × List MemPlace} (h : DataW.trod enc Tryz.prog W 0 sp held fuel 22 [v] = some x) :
    ∃ l : Fam, Rel noX W v (dFam l) ∧ ((DataW.weights Tryz.prog 22 x.1).all (· ≤ reachBytes) = true → l.length ≤ reachBytes) := by
  rcases Go.Deep.open_slice1 ty22.1 cells34 h with ⟨e, ex⟩ | ⟨a, len, cap, m, n, V, D, Pl, e, hb, hl, hm, hmm, ex, hx⟩
  · cases e
    exact ⟨[], .slice none 0 1 0 _ (fun _ _ => undef) (Nat.le_refl _) (Nat.zero_le _) (fun _ => rfl) (fun i j hi hj => absurd hi (Nat.not_lt_zero _)) (fun i j hi => absurd hi (Nat.not_lt_zero _)), fun _ => Nat.zero_le _⟩
  · cases e
    have hlm : len ≤ m := by rw [hmm]; split <;> omega
    have hrow : ∀ i, i < len → ∃ l : Ids, Rel noX W (V i) (dIds l) := fun i hi => openIds (hx i (by omega)).2
    obtain ⟨g, hg⟩ := Go.Deep.choose_lt hrow
    obtain ⟨l, hlen, hget⟩ := list_of len g ([] : Ids)
    subst hlen
    have hw : (DataW.weights Tryz.prog 22 x.1).all (· ≤ reachBytes) = true → l.length ≤ reachBytes := fun hq => by
      rw [ex] at hq
      simp only [DataW.weights, ty22.1, ti22] at hq
      rw [List.all_cons, Bool.and_eq_true] at hq
      have hb : Tryz.prog.bytesOf 34 = 24 := by kernel_rfl
      have := of_decide_eq_true hq.1
      rw [hb] at this
      simp only [List.length_map, List.length_range] at this
      omega
    by_cases h0 : l.length = 0
    · exact ⟨l, .slice (some a) cap 1 l.length _ (fun _ _ => undef) hl hm (fun e => by cases e) (fun i j hi => by omega) (fun i j hi => by omega), hw⟩
    · obtain ⟨b, off, hab⟩ : ∃ b off, a = ⟨b, off, none⟩ := by
        obtain ⟨c0, _⟩ := hx 0 (by omega)
        rw [show a.add 0 = a from if_pos rfl] at c0
        exact ⟨_, _, cell_spot c0⟩
      subst hab
      refine ⟨l, .slice _ cap 1 l.length _ (fun i _ => V i) hl hm (fun e => by cases e) (fun i j hi hj => ⟨b, off, rfl, fun h => h, ?_⟩) (fun i j hi hj => ?_), hw⟩
      · obtain ⟨c0, _⟩ := hx i (by omega)
        rw [Addr.add_lit] at c0
        obtain rfl : j = 0 := by omega
        rw [Nat.mul_one, Nat.add_zero]; exact c0
      · show Rel noX W (V i) (dIds (l.getD i []))
        rw [hget i hi]; exact hg i hi
theorem openEl {v : Value} {d : DataW H} {ps : List MemPlace} (h : DataW.Trod enc Tryz.prog W 0 sp held 24 v d ps) :
    ∃ e : El, Rel noX W v (dEl e) ∧ ((DataW.weights Tryz.prog 24 d).all (· ≤ reachBytes) = true → e.S.length ≤ reachBytes) := by
  obtain ⟨fuel, h⟩ := h
  obtain ⟨xs, n, _, ex, hlen, hxl, hf⟩ := DataW.trod_struct ty24.1 h
  have c24 : Tryz.prog.cellsOf 24 = 3 := by kernel_rfl
  rw [c24] at hlen
  have hv : ∃ c0 c1 c2, v = .agg #[c0, c1, c2] := by
    cases v with
    | agg cs =>
      obtain ⟨l⟩ := cs
      have hl : l.length = 3 := hlen
      match l, hl with
      | [a, b, c], _ => exact ⟨a, b, c, rfl⟩
    | _ => simp [Value.cells] at hlen
  obtain ⟨c0, c1, c2, rfl⟩ := hv
  match xs, hxl with
  | [x0, x1, x2], _ =>
    have g0 := hf 0 (Field.mk "N" 2 0 false "" "" 0) rfl
    have g1 := hf 1 (Field.mk "M" 2 1 false "" "" 8) rfl
    have g2 := hf 2 (Field.mk "Sets" 22 2 false "" "" 16) rfl
    rw [cells2'] at g0 g1
    rw [cells22] at g2
    obtain ⟨n0, e0, _, _⟩ := DataW.trod_int (k := .i64) ty2.1 g0
    obtain ⟨n1, e1, _, _⟩ := DataW.trod_int (k := .i64) ty2.1 g1
    have e0' : c0 = .int .i64 n0 := (List.cons.inj e0).1
    have e1' : c1 = .int .i64 n1 := (List.cons.inj e1).1
    subst e0' e1'
    obtain ⟨l, hl, hw⟩ := openFam (v := c2) g2
    refine ⟨⟨n0, n1, l⟩, .agg _ 3 _ rfl fun j hj => ?_, fun hq => hw ?_⟩
    · rcases j with _ | _ | _ | j
      · exact .lit _
      · exact .lit _
      · exact hl
      · omega
    · cases ex
      simp only [DataW.weights, ty24.1, ti24, List.map_cons, List.map_nil] at hq
      simp only [DataW.weightsEach, List.all_append, Bool.and_eq_true] at hq
      exact hq.2.2.1
theorem openInt {t : TypeId} (ht : Tryz.prog.underlying t = some (.int .i64)) {v : Value} {d : DataW H} {ps : List MemPlace} {r : Reach} {b0 : Nat} (hval : Value.okWide Tryz.prog W r b0 t v) (h : DataW.Trod enc Tryz.prog W 0 sp held t v d ps) : ∃ n : Int, Rel noX W v (dI n) ∧ -9223372036854775808 ≤ n ∧ n ≤ 9223372036854775807 := by
  obtain ⟨n, rfl, _, _, hw⟩ := open_int ht hval h
  simp only [Lit.wf, Bool.and_eq_true, decide_eq_true_eq] at hw
  exact ⟨n, .lit _, hw.1, hw.2⟩
end
end Go.Proofs.YtomdjkcoodaheaaGreatDoor
