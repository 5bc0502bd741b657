/-
  The types of this program that the engine asks for, as the dump lays them.
-/
import Derived.Test.YtomdjkcoodaheaaGreatDoorProg
import Derived.Test.YtomdjkcoodaheaaGreatDoorVf
import Derived.KernelRfl
import Derived.Test.YtomdjkcoodaheaaGreatDoorPa
set_option linter.unusedSectionVars false
set_option linter.unusedSimpArgs false
set_option linter.unusedVariables false
set_option maxRecDepth 100000
set_option linter.unusedSectionVars false
namespace Go.Proofs.YtomdjkcoodaheaaGreatDoor
open Go Go.Vc
variable [Dr]
noncomputable def ti2 : TI := ⟨.int .i64, 1, 8, .int .i64 0⟩
noncomputable def ti3 : TI := ⟨.int .i64, 1, 8, .int .i64 0⟩
noncomputable def ti4 : TI := ⟨.bool, 1, 1, .bool false⟩
noncomputable def ti5 : TI := ⟨.int .u8, 1, 1, .int .u8 0⟩
noncomputable def ti9 : TI := ⟨.string, 1, 16, .string ByteArray.empty⟩
noncomputable def ti21 : TI := ⟨.int .i32, 1, 4, .int .i32 0⟩
noncomputable def ti22 : TI := ⟨.slice 34, 1, 24, .slice none 0 0⟩
noncomputable def ti24 : TI := ⟨.struct #[Field.mk "N" 2 0 false "" "" 0, Field.mk "M" 2 1 false "" "" 8, Field.mk "Sets" 22 2 false "" "" 16], 3, 40, .agg #[.int .i64 0, .int .i64 0, .slice none 0 0]⟩
noncomputable def ti27 : TI := ⟨.int .i64, 1, 8, .int .i64 0⟩
noncomputable def ti33 : TI := ⟨.struct #[Field.mk "Table" 3 0 false "" "" 0, Field.mk "Seq" 3 1 false "" "" 8], 2, 16, .agg #[.int .i64 0, .int .i64 0]⟩
noncomputable def ti34 : TI := ⟨.slice 33, 1, 24, .slice none 0 0⟩
noncomputable def ti50 : TI := ⟨.slice 24, 1, 24, .slice none 0 0⟩
noncomputable def ti53 : TI := ⟨.func #[24] #[4] false, 1, 8, .nilFunc⟩
noncomputable def ti54 : TI := ⟨.func #[24, 24] #[24] false, 1, 8, .nilFunc⟩
noncomputable def ti55 : TI := ⟨.func #[24] #[9] false, 1, 8, .nilFunc⟩
noncomputable def ti56 : TI := ⟨.func #[9] #[24, 4] false, 1, 8, .nilFunc⟩
noncomputable def ti58 : TI := ⟨.struct #[Field.mk "name" 9 0 false "" "lineage/semiring" 0, Field.mk "valid" 53 1 false "" "lineage/semiring" 16, Field.mk "zero" 24 2 false "" "lineage/semiring" 24, Field.mk "one" 24 5 false "" "lineage/semiring" 64, Field.mk "add" 54 8 false "" "lineage/semiring" 104, Field.mk "mul" 54 9 false "" "lineage/semiring" 112, Field.mk "monus" 54 10 false "" "lineage/semiring" 120, Field.mk "absorptive" 4 11 false "" "lineage/semiring" 128, Field.mk "format" 55 12 false "" "lineage/semiring" 136, Field.mk "parse" 56 13 false "" "lineage/semiring" 144], 14, 152, .agg #[.string ByteArray.empty, .nilFunc, .int .i64 0, .int .i64 0, .slice none 0 0, .int .i64 0, .int .i64 0, .slice none 0 0, .nilFunc, .nilFunc, .nilFunc, .bool false, .nilFunc, .nilFunc]⟩
noncomputable def ti59 : TI := ⟨.func #[58] #[54] false, 1, 8, .nilFunc⟩
noncomputable def ti65 : TI := ⟨.func #[34, 34] #[4] false, 1, 8, .nilFunc⟩
noncomputable def ti103 : TI := ⟨.interface #[("Error", 157)], 1, 16, .nilIface⟩
noncomputable def ti129 : TI := ⟨.slice 3, 1, 24, .slice none 0 0⟩
noncomputable def ti100 : TI := ⟨.func #[34, 34] #[3] false, 1, 8, .nilFunc⟩
noncomputable def ti101 : TI := ⟨.func #[33, 33] #[3] false, 1, 8, .nilFunc⟩
noncomputable def ti104 : TI := ⟨.tuple #[2, 103], 1, 0, .tuple #[.int .i64 0, .nilIface]⟩
noncomputable def ti141 : TI := ⟨.int .u32, 1, 4, .int .u32 0⟩
noncomputable def ti178 : TI := ⟨.func #[21] #[4] false, 1, 8, .nilFunc⟩
noncomputable def ti188 : TI := ⟨.int .i64, 1, 8, .int .i64 0⟩
noncomputable def ti75 : TI := ⟨.slice 9, 1, 24, .slice none 0 0⟩
noncomputable def tys : List (Nat × TI) := [(2, ti2), (3, ti3), (4, ti4), (5, ti5), (9, ti9), (21, ti21), (22, ti22), (24, ti24), (27, ti27), (33, ti33), (34, ti34), (50, ti50), (53, ti53), (54, ti54), (55, ti55), (56, ti56), (58, ti58), (59, ti59), (65, ti65), (103, ti103), (129, ti129), (100, ti100), (101, ti101), (104, ti104), (141, ti141), (178, ti178), (188, ti188), (75, ti75)]
noncomputable def cx : Ctx := { P := Tryz.prog, ty := tys, gl := fun _ => .top, pairs := [33] }
theorem ty2 : TyOk Tryz.prog 2 ti2 := ⟨by kernel_rfl, by kernel_rfl⟩
theorem ty3 : TyOk Tryz.prog 3 ti3 := ⟨by kernel_rfl, by kernel_rfl⟩
theorem ty4 : TyOk Tryz.prog 4 ti4 := ⟨by kernel_rfl, by kernel_rfl⟩
theorem ty5 : TyOk Tryz.prog 5 ti5 := ⟨by kernel_rfl, by kernel_rfl⟩
theorem ty9 : TyOk Tryz.prog 9 ti9 := ⟨by kernel_rfl, by kernel_rfl⟩
theorem ty21 : TyOk Tryz.prog 21 ti21 := ⟨by kernel_rfl, by kernel_rfl⟩
theorem ty22 : TyOk Tryz.prog 22 ti22 := ⟨by kernel_rfl, by kernel_rfl⟩
theorem ty24 : TyOk Tryz.prog 24 ti24 := ⟨by kernel_rfl, by kernel_rfl⟩
theorem ty27 : TyOk Tryz.prog 27 ti27 := ⟨by kernel_rfl, by kernel_rfl⟩
theorem ty33 : TyOk Tryz.prog 33 ti33 := ⟨by kernel_rfl, by kernel_rfl⟩
theorem ty34 : TyOk Tryz.prog 34 ti34 := ⟨by kernel_rfl, by kernel_rfl⟩
theorem ty50 : TyOk Tryz.prog 50 ti50 := ⟨by kernel_rfl, by kernel_rfl⟩
theorem ty53 : TyOk Tryz.prog 53 ti53 := ⟨by kernel_rfl, by kernel_rfl⟩
theorem ty54 : TyOk Tryz.prog 54 ti54 := ⟨by kernel_rfl, by kernel_rfl⟩
theorem ty55 : TyOk Tryz.prog 55 ti55 := ⟨by kernel_rfl, by kernel_rfl⟩
theorem ty56 : TyOk Tryz.prog 56 ti56 := ⟨by kernel_rfl, by kernel_rfl⟩
theorem ty58 : TyOk Tryz.prog 58 ti58 := ⟨by kernel_rfl, by kernel_rfl⟩
theorem ty59 : TyOk Tryz.prog 59 ti59 := ⟨by kernel_rfl, by kernel_rfl⟩
theorem ty65 : TyOk Tryz.prog 65 ti65 := ⟨by kernel_rfl, by kernel_rfl⟩
theorem ty103 : TyOk Tryz.prog 103 ti103 := ⟨by kernel_rfl, by kernel_rfl⟩
theorem ty129 : TyOk Tryz.prog 129 ti129 := ⟨by kernel_rfl, by kernel_rfl⟩
theorem ty100 : TyOk Tryz.prog 100 ti100 := ⟨by kernel_rfl, by kernel_rfl⟩
theorem ty101 : TyOk Tryz.prog 101 ti101 := ⟨by kernel_rfl, by kernel_rfl⟩
theorem ty104 : TyOk Tryz.prog 104 ti104 := ⟨by kernel_rfl, by kernel_rfl⟩
theorem ty141 : TyOk Tryz.prog 141 ti141 := ⟨by kernel_rfl, by kernel_rfl⟩
theorem ty178 : TyOk Tryz.prog 178 ti178 := ⟨by kernel_rfl, by kernel_rfl⟩
theorem ty188 : TyOk Tryz.prog 188 ti188 := ⟨by kernel_rfl, by kernel_rfl⟩
theorem ty75 : TyOk Tryz.prog 75 ti75 := ⟨by kernel_rfl, by kernel_rfl⟩
theorem lookT_ok {P : Program} : ∀ (l : List (Nat × TI)), (∀ p ∈ l, TyOk P p.1 p.2) → ∀ t i, lookT l t = some i → TyOk P t i
  | [], _, t, i, h => by cases h
  | (a, j) :: r, hl, t, i, h => by
    unfold lookT at h
    by_cases e : a = t
    · subst e; rw [beq_self] at h; cases h; exact hl (a, j) (by simp)
    · rw [beq_false e] at h; exact lookT_ok r (fun p hp => hl p (List.mem_cons_of_mem _ hp)) t i h
theorem tys_ok : ∀ p ∈ tys, TyOk Tryz.prog p.1 p.2 := by
  intro p hp
  simp only [tys, List.mem_cons, List.not_mem_nil, or_false] at hp
  rcases hp with rfl | rfl | rfl | rfl | rfl | rfl | rfl | rfl | rfl | rfl | rfl | rfl | rfl | rfl | rfl | rfl | rfl | rfl | rfl | rfl | rfl | rfl | rfl | rfl | rfl | rfl | rfl | rfl
  · exact ty2
  · exact ty3
  · exact ty4
  · exact ty5
  · exact ty9
  · exact ty21
  · exact ty22
  · exact ty24
  · exact ty27
  · exact ty33
  · exact ty34
  · exact ty50
  · exact ty53
  · exact ty54
  · exact ty55
  · exact ty56
  · exact ty58
  · exact ty59
  · exact ty65
  · exact ty103
  · exact ty129
  · exact ty100
  · exact ty101
  · exact ty104
  · exact ty141
  · exact ty178
  · exact ty188
  · exact ty75
theorem pair33 (a b c d : Int) (w : World) : (Op.equalIn 10000 33 (.agg #[.int .i64 a, .int .i64 b]) (.agg #[.int .i64 c, .int .i64 d])).run Tryz.prog w = .ok (decide (a = c) && decide (b = d)) w := by
  have h1 : (Tryz.prog.fieldsOf 33).toList = [Field.mk "Table" 3 0 false "" "" 0, Field.mk "Seq" 3 1 false "" "" 8] := by kernel_rfl
  have h2 : Tryz.prog.underlying 3 = some (.int .i64) := ty3.1
  have h3 : ∀ w, (isAgg 3).run Tryz.prog w = .ok false w := fun w => ty3.run_isAgg w
  rw [show (10000 : Nat) = 9998 + 1 + 1 from rfl, run_equalIn_struct w (9998 + 1) 33 _ _ (by kernel_rfl) (by kernel_rfl), h1]
  generalize 9998 = n
  by_cases e1 : a = c
  · subst e1
    by_cases e2 : b = d
    · subst e2; simp [Op.eqFields, part, h3, run_equalIn_int (h := h2)]
    · simp [Op.eqFields, part, h3, run_equalIn_int (h := h2), e2]
  · simp [Op.eqFields, part, h3, run_equalIn_int (h := h2), e1]
theorem cxOk : CtxOk cx where
  ty := lookT_ok tys tys_ok
  pairs := by
    intro t ht
    by_cases e : t = 33
    · subst e; exact ⟨by kernel_rfl, pair33⟩
    · exfalso
      have : memN [33] t = false := by unfold memN; rw [beq_false (Ne.symm e)]; rfl
      rw [show cx.pairs = [33] from rfl, this] at ht; cases ht
  mixed := by kernel_rfl
end Go.Proofs.YtomdjkcoodaheaaGreatDoor

/-
  How the program's values are told.
-/
set_option linter.unusedSimpArgs false
set_option linter.unusedSectionVars false
namespace Go.Proofs.YtomdjkcoodaheaaGreatDoor
open Go Go.Vc Sr
variable [Dr]

def rowF {α : Type} (c : α → Nat → D) (x0 : α) (l : List α) : Nat → Nat → D := fun i j => c (l.getD i x0) j
def dI (n : Int) : D := .lit (.int .i64 n)
def dB (b : Bool) : D := .lit (.bool b)
def cId (x : RId) (j : Nat) : D := bif Nat.beq j 0 then dI x.1 else dI x.2
def dId (x : RId) : D := .agg 2 (cId x)
def fIds (l : Ids) : Nat → Nat → D := rowF cId (0, 0) l
def dIds (l : Ids) : D := .slice 2 l.length (fIds l)
def cIds (l : Ids) (_ : Nat) : D := dIds l
def fFam (l : Fam) : Nat → Nat → D := rowF cIds [] l
def dFam (l : Fam) : D := .slice 1 l.length (fFam l)

def cEl (e : El) (j : Nat) : D := bif Nat.beq j 0 then dI e.N else bif Nat.beq j 1 then dI e.M else dFam e.S
def dEl (e : El) : D := .agg 3 (cEl e)
def dEls (l : List El) : D := .slice 3 l.length (rowF cEl ⟨0, 0, []⟩ l)
/-- An element and an error. -/
def dRes (e : El) (n : Int) : D := .tup 2 fun j => bif Nat.beq j 0 then dEl e else dI n
theorem agg3 {f g : Nat → D} (h : DLe (f 0) (g 0)) (h' : DLe (f 1) (g 1)) (h2 : DLe (f 2) (g 2)) : DLe (.agg 3 f) (.agg 3 g) := DLe.agg fun j hj => by
  rcases j with _ | _ | _ | j
  · exact h
  · exact h'
  · exact h2
  · omega
theorem tup2 {f g : Nat → D} (h : DLe (f 0) (g 0)) (h' : DLe (f 1) (g 1)) : DLe (.tup 2 f) (.tup 2 g) := DLe.tup fun j hj => by
  rcases j with _ | _ | j
  · exact h
  · exact h'
  · omega
/-- One more element, two cells or one. -/
theorem pt2 {α : Type} {c : α → Nat → D} {x0 : α} {l : List α} {y : α} {n : Nat} {F g : Nat → Nat → D} (hn : n = l.length) (hF : ∀ i j, i < n → j < 2 → DLe (F i j) (c (l.getD i x0) j)) (h0 : DLe (g 0 0) (c y 0)) (h1 : DLe (g 0 1) (c y 1)) :
    ∀ i j, i < n + 1 → j < 2 → DLe (appD n F g i j) (c ((l ++ [y]).getD i x0) j) := by
  subst hn
  intro i j hi hj
  by_cases h : i < l.length
  · rw [appD_lt h, List.getD_eq_getElem?_getD, List.getElem?_append_left h, ← List.getD_eq_getElem?_getD]; exact hF i j h hj
  · obtain rfl : i = l.length := by omega
    rw [appD_ge (by omega), List.getD_eq_getElem?_getD, List.getElem?_append_right (by omega), Nat.sub_self]
    rcases j with _ | _ | j
    · exact h0
    · exact h1
    · omega
theorem pt1 {α : Type} {c : α → Nat → D} {x0 : α} {l : List α} {y : α} {n : Nat} {F g : Nat → Nat → D} (hn : n = l.length) (hF : ∀ i j, i < n → j < 1 → DLe (F i j) (c (l.getD i x0) j)) (h0 : DLe (g 0 0) (c y 0)) :
    ∀ i j, i < n + 1 → j < 1 → DLe (appD n F g i j) (c ((l ++ [y]).getD i x0) j) := by
  subst hn
  intro i j hi hj
  by_cases h : i < l.length
  · rw [appD_lt h, List.getD_eq_getElem?_getD, List.getElem?_append_left h, ← List.getD_eq_getElem?_getD]; exact hF i j h hj
  · obtain rfl : i = l.length := by omega
    rw [appD_ge (by omega), List.getD_eq_getElem?_getD, List.getElem?_append_right (by omega), Nat.sub_self]
    obtain rfl : j = 0 := by omega
    exact h0
theorem ptR {α : Type} {c : α → Nat → D} {x0 : α} {l : List α} {n k : Nat} : ∀ i j, i < n → j < k → DLe (rowF c x0 l i j) (c (l.getD i x0) j) := fun _ _ _ _ => DLe.refl _
theorem row_le {α : Type} {t k n : Nat} {c : α → Nat → D} {x0 : α} {l l' : List α} {F : Nat → Nat → D} (he : l' = l) (hn : n = l.length) (h : ∀ i j, i < n → j < k → DLe (F i j) (c (l.getD i x0) j)) : ObLe (.row t k n F) (.row t k l'.length (rowF c x0 l')) := by
  subst he; subst hn; exact ⟨rfl, rfl, rfl, h⟩
theorem row_nil {α : Type} {t k : Nat} {c : α → Nat → D} {x0 : α} {f : Nat → Nat → D} : ObLe (.row t k 0 f) (.row t k ([] : List α).length (rowF c x0 [])) :=
  ⟨rfl, rfl, rfl, fun _ _ hi => absurd hi (Nat.not_lt_zero _)⟩
theorem slice_le {α : Type} {k n : Nat} {c : α → Nat → D} {x0 : α} {l l' : List α} {f : Nat → Nat → D} (he : l' = l) (hn : n = l.length) (h : ∀ i j, i < n → j < k → DLe (f i j) (c (l.getD i x0) j)) : DLe (.slice k n f) (.slice k l'.length (rowF c x0 l')) := by
  subst he; subst hn; exact DLe.slice h
theorem slice_nil {α : Type} {k : Nat} {c : α → Nat → D} {x0 : α} {f : Nat → Nat → D} : DLe (.slice k 0 f) (.slice k ([] : List α).length (rowF c x0 [])) := slice_le rfl rfl fun _ _ hi => absurd hi (Nat.not_lt_zero _)
theorem snoc_len {α : Type} {l : List α} {y : α} {n : Nat} (hn : n = l.length) : n + 1 = (l ++ [y]).length := by rw [hn, List.length_append]; rfl
theorem b33 {n : Nat} (h : n ≤ 5000000000000) : n * ti33.bytes ≤ 140737488355328 := by show n * 16 ≤ _; omega
theorem b34 {n : Nat} (h : n ≤ 5000000000000) : n * ti34.bytes ≤ 140737488355328 := by show n * 24 ≤ _; omega
theorem eS {α : Type} (f : α → E) {a b : α} (h : b = a) : ELe (f a) (f b) := h ▸ ELe.refl _
theorem eB {b c : Bool} (h : c = b) : ELe (.im (dB b)) (.im (dB c)) := h ▸ ELe.refl _
theorem one1 {P : Nat → Nat → Prop} (h : P 0 0) : ∀ i j, i < 1 → j < 1 → P i j := fun i j hi hj => by
  obtain rfl : i = 0 := by omega
  obtain rfl : j = 0 := by omega
  exact h
theorem one2 {P : Nat → Nat → Prop} (h : P 0 0) (h' : P 0 1) : ∀ i j, i < 1 → j < 2 → P i j := fun i j hi hj => by
  obtain rfl : i = 0 := by omega
  rcases j with _ | _ | j
  · exact h
  · exact h'
  · omega
theorem agg2 {f g : Nat → D} (h : DLe (f 0) (g 0)) (h' : DLe (f 1) (g 1)) : DLe (.agg 2 f) (.agg 2 g) := DLe.agg fun j hj => by
  rcases j with _ | _ | j
  · exact h
  · exact h'
  · omega
theorem DLe.rfl' {d : D} : DLe d d := DLe.refl d
end Go.Proofs.YtomdjkcoodaheaaGreatDoor

/-
  The reference on row identifiers and sets: walked.
-/
set_option maxRecDepth 10000
set_option maxHeartbeats 4000000
set_option linter.unusedSectionVars false
namespace Go.Proofs.YtomdjkcoodaheaaGreatDoor
open Go Go.Vc Sr
variable [Dr]

theorem f79 (x : RId) : ACalls cx 79 [dId x] fun d => d = dB (decide (1 ≤ x.1) && decide (1 ≤ x.2)) := by
  refine ACalls.eq (ACalls.of_vc (H := {}) cxOk Tryz.func79 (by kernel_rfl) rfl (show _ = 11 from rfl) (by kernel_rfl) rfl ?_)
  conv => whnf
  refine ifB.dec (fun h => ?_) (fun h => ?_)
  · conv => whnf
    refine Ret.le (DLe.of_eq (congrArg dB ?_))
    simp [h]
  · conv => whnf
    refine Ret.le (DLe.of_eq (congrArg dB ?_))
    simp [h]

theorem f121 (x y : RId) : ACalls cx 121 [dId x, dId y] fun d => d = dI (cmp x y) := by
  refine ACalls.eq (ACalls.of_vc (H := {}) cxOk Tryz.func121 (by kernel_rfl) rfl (show _ = 27 from rfl) (by kernel_rfl) rfl ?_)
  conv => whnf
  have key : ∀ n : Int, n = cmp x y → DLe (dI n) (dI (cmp x y)) := fun n h => DLe.of_eq (by rw [h])
  have hx : ∀ a b : RId, a = b ↔ a.1 = b.1 ∧ a.2 = b.2 := fun a b => Prod.ext_iff
  refine ifB.and (fun h1 h2 => ?_) (fun h1 => ?_)
  · conv => whnf
    refine Ret.le (key 0 ?_)
    simp only [decide_eq_true_eq] at h1 h2
    simp only [cmp, hx]; split <;> simp_all
  · conv => whnf
    have hne : ¬ (x.1 = y.1 ∧ x.2 = y.2) := by simpa using h1
    refine ifB.dec (fun h2 => ?_) (fun h2 => ?_)
    · conv => whnf
      refine Ret.le (key (-1) ?_)
      simp only [cmp]; rw [if_pos (.inl h2)]
    · conv => whnf
      refine ifB.dec (fun h3 => ?_) (fun h3 => ?_)
      · conv => whnf
        refine ifB.dec (fun h4 => ?_) (fun h4 => ?_)
        · conv => whnf
          refine Ret.le (key (-1) ?_)
          simp only [cmp]; rw [if_pos (.inr ⟨h3, h4⟩)]
        · conv => whnf
          refine Ret.le (key 1 ?_)
          simp only [cmp, hx]; rw [if_neg (by omega), if_neg hne]
      · conv => whnf
        refine Ret.le (key 1 ?_)
        simp only [cmp, hx]; rw [if_neg (by omega), if_neg hne]

theorem f89 (l : Ids) (x : RId) (hl : l.length ≤ 1000000) : ACalls cx 89 [dIds l, dId x] fun d => d = dB (decide (x ∈ l)) := by
  refine ACalls.eq (ACalls.of_vc (H := { draw := [(4, 6, [])] }) cxOk Tryz.func89 (by kernel_rfl) rfl (show _ = 18 from rfl) (by kernel_rfl) rfl ?_)
  conv => whnf
  refine VLoop.inv (N := 18) rfl (ι := Nat) (fun i => i ≤ l.length ∧ ¬ x ∈ l.take i) (fun i => [(0, .im (dIds l)), (3, .im (.ptr 2 (cId x))), (5, .im (dI i))]) (fun _ => []) (fun i => l.length - i) 0 ⟨Nat.zero_le _, by simp⟩ ⟨⟨ELe.refl _, ELe.refl _, ELe.refl _, trivial⟩, trivial⟩ ?_
  rintro i ⟨hi, hx⟩
  conv => whnf
  refine ifB.dec (fun h => ?_) (fun h => ?_)
  · conv => whnf
    have hlt : i < l.length := by omega
    refine ⟨⟨by omega, by omega⟩, ?_⟩
    conv => whnf
    refine ifB.and (fun h1 h2 => ?_) (fun h1 => ?_)
    · conv => whnf
      refine Ret.le (DLe.of_eq (congrArg dB ?_))
      simp only [decide_eq_true_eq] at h1 h2
      have : l.getD i (0, 0) = x := Prod.ext h1 h2
      have : x ∈ l := by rw [← this, getD_lt hlt]; exact List.getElem_mem hlt
      simp [this]
    · conv => whnf
      refine ⟨⟨by omega, by omega⟩, ?_⟩
      conv => whnf
      refine VNext.by (i + 1) rfl ⟨by omega, ?_⟩ (by omega) ⟨⟨ELe.refl _, ELe.refl _, ELe.refl _, trivial⟩, trivial⟩
      rw [mem_take_succ (x0 := (0, 0)) hlt]
      rintro (h2 | h2)
      · exact hx h2
      · rw [h2] at h1; simp at h1
  · conv => whnf
    refine Ret.le (DLe.of_eq (congrArg dB ?_))
    have : i = l.length := by omega
    subst this
    simp at hx; simp [hx]
end Go.Proofs.YtomdjkcoodaheaaGreatDoor
