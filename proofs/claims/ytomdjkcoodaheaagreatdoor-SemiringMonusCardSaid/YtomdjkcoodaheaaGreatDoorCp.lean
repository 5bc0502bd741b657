/-
  DERIVED: THE SHELF's CONTRACTS AT THIS DUMP, IN PLAIN WORDS (tools/lay-plain.mjs out of 'TryzLay2.lean', which tools/lay-shelf.mjs wrote): THE SAME DECLARATIONS UNDER THE SAME NAMES: 'import', 'namespace', 'open', 'def', 'theorem' AND NOTHING ELSE: no command of the shelf's: FOR A HAND-IN. Each laying: the table of numbers ('.._ren') and one theorem, a field a fact of the dump's own or the kernel's comparison; each contract: ONE APPLICATION.
-/
import Derived.Shelf.Strconv.Itoa3
import Derived.Ground.NamesProg
import Derived.Shelf.Strings.BuilderX
import Derived.Test.YtomdjkcoodaheaaGreatDoorProg
import Derived.Test.YtomdjkcoodaheaaGreatDoorCo
import Derived.Shelf.Strings.OnBuilder
set_option linter.unusedSectionVars false
set_option linter.unusedSimpArgs false
set_option linter.unusedVariables false
namespace Go.Proofs
open Go.Shelf
def Tryz.lays171_ren : Go.Shelf.Ren := ⟨fun | 171 => 219 | 243 => 242 | 246 => 126 | 283 => 156 | 284 => 157 | 285 => 158 | 286 => 159 | 129 => 189 | 317 => 188 | 318 => 190 | 319 => 191 | 320 => 192 | 337 => 220 | 338 => 221 | n => n, fun | 3 => 3 | 9 => 9 | 2 => 2 | 4 => 4 | 171 => 115 | 0 => 0 | 53 => 98 | 37 => 113 | 5 => 5 | 173 => 118 | 212 => 140 | 51 => 141 | 20 => 20 | 213 => 142 | 46 => 134 | 232 => 183 | 233 => 184 | n => n, fun | 17 => 1 | 18 => 5 | 19 => 6 | n => n⟩
theorem Tryz.lays171 : Go.Proofs.Lays.n171 Tryz.prog Tryz.lays171_ren := {
  mixed := by kernel_rfl
  f129 := Tryz.func189.trans (congrArg some (by kernel_rfl))
  f171 := Tryz.func219.trans (congrArg some (by kernel_rfl))
  f243 := Tryz.func242.trans (congrArg some (by kernel_rfl))
  f246 := Tryz.func126.trans (congrArg some (by kernel_rfl))
  f283 := Tryz.func156.trans (congrArg some (by kernel_rfl))
  f284 := Tryz.func157.trans (congrArg some (by kernel_rfl))
  f285 := Tryz.func158.trans (congrArg some (by kernel_rfl))
  f286 := Tryz.func159.trans (congrArg some (by kernel_rfl))
  f317 := Tryz.func188.trans (congrArg some (by kernel_rfl))
  f318 := Tryz.func190.trans (congrArg some (by kernel_rfl))
  f319 := Tryz.func191.trans (congrArg some (by kernel_rfl))
  f320 := Tryz.func192.trans (congrArg some (by kernel_rfl))
  f337 := Tryz.func220.trans (congrArg some (by kernel_rfl))
  f338 := Tryz.func221.trans (congrArg some (by kernel_rfl))
  t0 := Tryz.underlying0
  a0 := Tryz.isAgg0
  z0 := Tryz.sizeOf0
  v0 := Tryz.zeroValue0
  t2 := Tryz.underlying2
  a2 := Tryz.isAgg2
  z2 := Tryz.sizeOf2
  v2 := Tryz.zeroValue2
  t3 := Tryz.underlying3
  a3 := Tryz.isAgg3
  z3 := Tryz.sizeOf3
  v3 := Tryz.zeroValue3
  t4 := Tryz.underlying4
  a4 := Tryz.isAgg4
  z4 := Tryz.sizeOf4
  v4 := Tryz.zeroValue4
  t5 := Tryz.underlying5
  a5 := Tryz.isAgg5
  z5 := Tryz.sizeOf5
  v5 := Tryz.zeroValue5
  t9 := Tryz.underlying9
  a9 := Tryz.isAgg9
  z9 := Tryz.sizeOf9
  v9 := Tryz.zeroValue9
  t20 := Tryz.underlying20
  a20 := Tryz.isAgg20
  z20 := Tryz.sizeOf20
  v20 := Tryz.zeroValue20
  t37 := Tryz.underlying113
  a37 := Tryz.isAgg113
  z37 := Tryz.sizeOf113
  v37 := Tryz.zeroValue113
  t46 := Tryz.underlying134
  a46 := Tryz.isAgg134
  z46 := Tryz.sizeOf134
  v46 := Tryz.zeroValue134
  t51 := Tryz.underlying141
  a51 := Tryz.isAgg141
  z51 := Tryz.sizeOf141
  v51 := Tryz.zeroValue141
  t53 := Tryz.underlying98
  a53 := Tryz.isAgg98
  z53 := Tryz.sizeOf98
  v53 := Tryz.zeroValue98
  t171 := Tryz.underlying115
  a171 := Tryz.isAgg115
  z171 := Tryz.sizeOf115
  v171 := Tryz.zeroValue115
  t173 := Tryz.underlying118
  a173 := Tryz.isAgg118
  z173 := Tryz.sizeOf118
  v173 := Tryz.zeroValue118
  t212 := Tryz.underlying140
  a212 := Tryz.isAgg140
  z212 := Tryz.sizeOf140
  v212 := Tryz.zeroValue140
  t213 := Tryz.underlying142
  a213 := Tryz.isAgg142
  z213 := Tryz.sizeOf142
  t232 := Tryz.underlying183
  a232 := Tryz.isAgg183
  z232 := Tryz.sizeOf183
  v232 := Tryz.zeroValue183
  t233 := Tryz.underlying184
  a233 := Tryz.isAgg184
  z233 := Tryz.sizeOf184
  v233 := Tryz.zeroValue184
  g17 := by kernel_rfl
  g18 := by kernel_rfl
  g19 := by kernel_rfl }
def Tryz.lays156_ren : Go.Shelf.Ren := ⟨fun | 156 => 172 | 165 => 205 | 166 => 206 | 169 => 207 | 240 => 230 | 241 => 231 | 276 => 262 | 277 => 263 | n => n, fun | 31 => 75 | 9 => 9 | 3 => 3 | 4 => 4 | 0 => 0 | 20 => 20 | 72 => 153 | 76 => 155 | 70 => 151 | 37 => 113 | 75 => 103 | 127 => 175 | 164 => 200 | 5 => 5 | 80 => 157 | n => n, fun | n => n⟩
theorem Tryz.lays156 : Go.Proofs.Lays.n156 Tryz.prog Tryz.lays156_ren := {
  mixed := by kernel_rfl
  f156 := Tryz.func172.trans (congrArg some (by kernel_rfl))
  f165 := Tryz.func205.trans (congrArg some (by kernel_rfl))
  f166 := Tryz.func206.trans (congrArg some (by kernel_rfl))
  f169 := Tryz.func207.trans (congrArg some (by kernel_rfl))
  f240 := Tryz.func230.trans (congrArg some (by kernel_rfl))
  f241 := Tryz.func231.trans (congrArg some (by kernel_rfl))
  f276 := Tryz.func262.trans (congrArg some (by kernel_rfl))
  f277 := Tryz.func263.trans (congrArg some (by kernel_rfl))
  t0 := Tryz.underlying0
  a0 := Tryz.isAgg0
  z0 := Tryz.sizeOf0
  v0 := Tryz.zeroValue0
  t3 := Tryz.underlying3
  a3 := Tryz.isAgg3
  z3 := Tryz.sizeOf3
  v3 := Tryz.zeroValue3
  t4 := Tryz.underlying4
  a4 := Tryz.isAgg4
  z4 := Tryz.sizeOf4
  v4 := Tryz.zeroValue4
  t9 := Tryz.underlying9
  a9 := Tryz.isAgg9
  z9 := Tryz.sizeOf9
  v9 := Tryz.zeroValue9
  t20 := Tryz.underlying20
  a20 := Tryz.isAgg20
  z20 := Tryz.sizeOf20
  v20 := Tryz.zeroValue20
  t31 := Tryz.underlying75
  a31 := Tryz.isAgg75
  z31 := Tryz.sizeOf75
  v31 := Tryz.zeroValue75
  t37 := Tryz.underlying113
  a37 := Tryz.isAgg113
  z37 := Tryz.sizeOf113
  v37 := Tryz.zeroValue113
  t70 := Tryz.underlying151
  a70 := Tryz.isAgg151
  z70 := Tryz.sizeOf151
  v70 := Tryz.zeroValue151
  t72 := Tryz.underlying153
  a72 := Tryz.isAgg153
  z72 := Tryz.sizeOf153
  v72 := Tryz.zeroValue153
  t75 := Tryz.underlying103
  a75 := Tryz.isAgg103
  z75 := Tryz.sizeOf103
  v75 := Tryz.zeroValue103
  t76 := Tryz.underlying155
  a76 := Tryz.isAgg155
  z76 := Tryz.sizeOf155
  v76 := Tryz.zeroValue155
  t127 := Tryz.underlying175
  a127 := Tryz.isAgg175
  z127 := Tryz.sizeOf175
  v127 := Tryz.zeroValue175
  t164 := Tryz.underlying200
  a164 := Tryz.isAgg200
  z164 := Tryz.sizeOf200
  v164 := Tryz.zeroValue200 }
theorem Tryz.extra156 : Builder.Extra Tryz.prog Tryz.lays156_ren := {
  sizeBuilder := by kernel_rfl
  liesBuilder := by kernel_rfl
  t5 := Tryz.underlying5
  a5 := Tryz.isAgg5
  z5 := Tryz.sizeOf5
  v5 := Tryz.zeroValue5
  infoByte := by kernel_rfl
  cellsByte := by kernel_rfl
  sizeByte := by kernel_rfl
  neB5 := by decide }
end Go.Proofs

/-
  Texts: numbers of one digit, joined strings, sets, families; the chapter's examples.
-/
set_option maxRecDepth 10000
set_option maxHeartbeats 4000000
set_option linter.unusedVariables false
set_option linter.unusedSimpArgs false
set_option linter.unusedSectionVars false
namespace Go.Proofs.YtomdjkcoodaheaaGreatDoor
open Go Go.Vc Sr
/-- From here on draws are not counted. -/
instance drF : Dr := ⟨⟨false⟩⟩

def dig (n : Nat) : ByteArray := ⟨#[UInt8.ofNat (48 + n)]⟩
def dS (b : ByteArray) : D := .lit (.string b)
theorem f219 (n : Nat) (hn : n < 10) : ACalls cx 219 [dI n] fun d => d = dS (dig n) where
  ent := enters_of Tryz.lays171.f171 (by kernel_rfl) rfl
  out := fun X w vs hX hgl hs hr => by
    have h0 := (hr 0 (by simp)).lit_inv
    have hvs : vs = #[.int .i64 n] := by
      obtain ⟨l⟩ := vs
      match l, hs with
      | [v], _ => have h0' : v = .int .i64 n := h0
                  rw [h0']
    subst hvs
    refine (Any.strconv_Itoa_small (P := Tryz.prog) Tryz.lays171 n (by omega) w).mono ?_
    rintro e w' ⟨rfl, rfl⟩
    refine ⟨_, _, rfl, rfl, ?_, Vc.Below.refl _ _⟩
    have : Lib.decDigits n = [UInt8.ofNat (48 + n)] := by unfold Lib.decDigits; rw [dif_pos hn]
    rw [this]
    exact .lit _
def cS (s : ByteArray) (_ : Nat) : D := dS s
def dSs (l : List ByteArray) : D := .slice 1 l.length (rowF cS ByteArray.empty l)
def joined (l : List ByteArray) (sep : ByteArray) : ByteArray := ⟨(Lib.join (l.map (·.data.toList)) sep.data.toList).toArray⟩
theorem f172 (l : List ByteArray) (sep : ByteArray) (hl : l.length ≤ 1000000) (hj : (Lib.join (l.map (·.data.toList)) sep.data.toList).length ≤ 140737488355328) : ACalls cx 172 [dSs l, dS sep] fun d => d = dS (joined l sep) where
  ent := enters_of Tryz.lays156.f156 (by kernel_rfl) rfl
  out := fun X w vs hX hgl hs hr => by
    obtain ⟨a, b, rfl⟩ : ∃ a b, vs = #[a, b] := by
      obtain ⟨l⟩ := vs
      match l, hs with
      | [a, b], _ => exact ⟨a, b, rfl⟩
    have h0 : Rel X w a (dSs l) := hr 0 (by simp)
    have h1 : b = .string sep := Rel.lit_inv (hr 1 (by simp))
    subst h1
    obtain ⟨A, c, us, rfl, q1, q2, q3, q4, q5⟩ := h0.slice_inv
    have conv : ∀ w', Go.RowKit.Below w.heap.size w w' → Vc.Below w.heap.size w w' := fun w' h => ⟨h.os, h.tape, h.output, h.size, h.block, fun h => by cases h⟩
    by_cases hn : l = []
    · subst hn
      refine (Any.strings_Join_none (P := Tryz.prog) Tryz.lays156 Tryz.extra156 A c sep w).mono ?_
      rintro e w' ⟨rfl, rfl⟩
      exact ⟨_, _, rfl, rfl, .lit _, Vc.Below.refl _ _⟩
    · have hpos : 0 < l.length := List.length_pos_iff.2 hn
      obtain ⟨bk, off, rfl, _, hc0⟩ := q4 0 0 hpos (by omega)
      refine (Any.strings_Join (P := Tryz.prog) Tryz.lays156 Tryz.extra156 bk off c l sep w (fun j x hx => ?_) (cell_lt hc0) (by omega) q1 hj).mono ?_
      · have hj' : j < l.length := (List.getElem?_eq_some_iff.1 hx).1
        obtain ⟨b', o', e1, _, e3⟩ := q4 j 0 hj' (by omega)
        cases e1
        have h5 := q5 j 0 hj' (by omega)
        have h6 : us j 0 = .string (l.getD j ByteArray.empty) := Rel.lit_inv h5
        rw [h6] at e3
        rw [Nat.mul_one, Nat.add_zero] at e3
        rw [e3, List.getD_eq_getElem?_getD, hx]; rfl
      · rintro e w' ⟨rfl, hb⟩
        exact ⟨_, _, rfl, rfl, .lit _, conv w' hb⟩
def small (x : RId) : Prop := 1 ≤ x.1 ∧ x.1 < 10 ∧ 1 ≤ x.2 ∧ x.2 < 10
def fmtId (x : RId) : ByteArray := (((⟨#[116]⟩ : ByteArray) ++ dig x.1.toNat) ++ (⟨#[46]⟩ : ByteArray)) ++ dig x.2.toNat
theorem size_app (a b : ByteArray) : (a ++ b).size = a.size + b.size := ByteArray.size_append
theorem small_rok {x : RId} (h : small x) : rok x = true := by
  unfold rok; rw [decide_eq_true h.1, decide_eq_true h.2.2.1]; rfl
theorem f204 (x : RId) (hx : small x) : ACalls cx 204 [dId x] fun d => d = dS (fmtId x) := by
  obtain ⟨h1, h2, h3, h4⟩ := hx
  have e1 : ((x.1.toNat : Nat) : Int) = x.1 := Int.toNat_of_nonneg (by omega)
  have e2 : ((x.2.toNat : Nat) : Int) = x.2 := Int.toNat_of_nonneg (by omega)
  refine ACalls.eq (ACalls.of_vc (H := { draw := [(3, 10, [])] }) cxOk Tryz.func204 (by kernel_rfl) rfl (show _ = 15 from rfl) (by kernel_rfl) rfl ?_)
  conv => whnf
  refine (f164 x).use ⟨DLe.refl _, trivial⟩ ?_
  rintro _ rfl
  conv => whnf
  rw [small_rok ⟨h1, h2, h3, h4⟩]
  conv => whnf
  refine ⟨_, (f219 x.1.toNat (by omega)).use ⟨DLe.of_eq (congrArg dI e1.symm), trivial⟩ (fun d h => h), ?_⟩
  conv => whnf
  refine ⟨by show 1 + 1 ≤ _; decide, ?_⟩
  conv => whnf
  refine ⟨by rw [size_app]; show 1 + 1 + 1 ≤ _; decide, ?_⟩
  conv => whnf
  refine ⟨_, (f219 x.2.toNat (by omega)).use ⟨DLe.of_eq (congrArg dI e2.symm), trivial⟩ (fun d h => h), ?_⟩
  conv => whnf
  refine ⟨by rw [size_app, size_app]; show 1 + 1 + 1 + 1 ≤ _; decide, ?_⟩
  conv => whnf
  exact Ret.le (DLe.refl _)
theorem b9 {n : Nat} (h : n ≤ 5000000000000) : n * ti9.bytes ≤ 140737488355328 := by show n * 16 ≤ _; omega
def setTexts (l : Ids) : List ByteArray := (nrm rlt l).map fmtId
def braced (b : ByteArray) : ByteArray := ((⟨#[123]⟩ : ByteArray) ++ b) ++ (⟨#[125]⟩ : ByteArray)
def setText (l : Ids) : ByteArray := braced (joined (setTexts l) ⟨#[44, 32]⟩)
theorem joined_size {l : List ByteArray} {sep : ByteArray} : (joined l sep).size = (Lib.join (l.map (·.data.toList)) sep.data.toList).length := by simp [joined, ByteArray.size]
theorem f171 (l : Ids) (hl : l.length ≤ 1000000) (hs : ∀ x ∈ l, small x) (hj : (Lib.join ((setTexts l).map (·.data.toList)) [44, 32]).length ≤ 140737488355328) : ACalls cx 171 [dIds l] fun d => d = dS (setText l) := by
  have hsn : ∀ i, i < (nrm rlt l).length → small ((nrm rlt l).getD i (0, 0)) := fun i hi => hs _ ((mem_nrm _ _).1 (by rw [getD_lt hi]; exact List.getElem_mem hi))
  have hln := Nat.le_trans (length_nrm_le (lt := rlt) l) hl
  refine ACalls.eq (ACalls.of_vc (H := { own := [5], nil := [(3, 9, 1)] }) cxOk Tryz.func171 (by kernel_rfl) rfl (show _ = 26 from rfl) (by kernel_rfl) rfl ?_)
  conv => whnf
  refine (f161 l hl).use ⟨DLe.refl _, trivial⟩ ?_
  rintro _ rfl
  conv => whnf
  refine VLoop.inv (N := 26) rfl (ι := Nat) (fun i => i ≤ (nrm rlt l).length) (fun i => [(3, .orow 3), (7, .im (dIds (nrm rlt l))), (8, .im (dI (nrm rlt l).length)), (9, .im (dI i))]) (fun i => [(3, .row 9 1 i (rowF cS ByteArray.empty (((nrm rlt l).take i).map fmtId)))]) (fun i => (nrm rlt l).length - i) 0 (Nat.zero_le _) ⟨⟨ELe.refl _, ELe.refl _, ELe.refl _, ELe.refl _, trivial⟩, ⟨⟨rfl, rfl, rfl, fun i j hi => absurd hi (Nat.not_lt_zero _)⟩, trivial⟩⟩ ?_
  rintro i hi
  conv => whnf
  refine ifB.dec (fun h => ?_) (fun h => ?_)
  · conv => whnf
    have hlt : i < (nrm rlt l).length := by omega
    refine ⟨⟨by omega, by omega⟩, ?_⟩
    conv => whnf
    refine (f164 ((nrm rlt l).getD i (0, 0))).use ⟨agg2 (DLe.refl _) (DLe.refl _), trivial⟩ ?_
    rintro _ rfl
    conv => whnf
    rw [small_rok (hsn i hlt)]
    conv => whnf
    refine (f204 ((nrm rlt l).getD i (0, 0)) (hsn i hlt)).use ⟨agg2 (DLe.refl _) (DLe.refl _), trivial⟩ ?_
    rintro _ rfl
    conv => whnf
    refine ⟨⟨b9 (by omega), one1 rfl⟩, ?_⟩
    conv => whnf
    refine ⟨⟨by omega, by omega⟩, ?_⟩
    conv => whnf
    refine VNext.by (i + 1) rfl (by omega) (by omega) ⟨⟨ELe.refl _, ELe.refl _, ELe.refl _, ELe.refl _, trivial⟩, ⟨⟨rfl, rfl, rfl, ?_⟩, trivial⟩⟩
    rw [map_take_succ (0, 0) hlt]
    exact pt1 (by rw [List.length_map, List.length_take]; omega) (fun _ _ _ _ => DLe.refl _) (DLe.refl _)
  · conv => whnf
    have hie : i = (nrm rlt l).length := by omega
    subst hie
    rw [List.take_length] at *
    refine (f172 (setTexts l) ⟨#[44, 32]⟩ (by unfold setTexts; rw [List.length_map]; exact hln) hj).use ⟨slice_le (l' := setTexts l) rfl (by rw [setTexts, List.length_map]) (fun _ _ _ _ => DLe.refl _), DLe.refl _, trivial⟩ ?_
    rintro _ rfl
    conv => whnf
    have hjs := joined_size (l := setTexts l) (sep := ⟨#[44, 32]⟩)
    have hj' : (joined (setTexts l) ⟨#[44, 32]⟩).size ≤ 140737488355328 := by rw [hjs]; exact hj
    refine ⟨by show 1 + (joined (setTexts l) ⟨#[44, 32]⟩).size ≤ _; omega, ?_⟩
    conv => whnf
    refine ⟨by rw [size_app]; show 1 + (joined (setTexts l) ⟨#[44, 32]⟩).size + 1 ≤ _; omega, ?_⟩
    conv => whnf
    exact Ret.le (DLe.refl _)
def famText (l : Fam) : ByteArray := joined (l.map setText) ⟨#[32, 124, 32]⟩
theorem f137 (e : El) (he : Sz e.S) (h0 : 0 < e.S.length) (hs : ∀ s ∈ e.S, ∀ x ∈ s, small x) (hj : ∀ s ∈ e.S, (Lib.join ((setTexts s).map (·.data.toList)) [44, 32]).length ≤ 140737488355328)
    (hk : (Lib.join ((e.S.map setText).map (·.data.toList)) [32, 124, 32]).length ≤ 140737488355328) : ACalls cx 137 [dEl e] fun d => d = dS (famText e.S) := by
  have hl := he.1
  refine ACalls.eq (ACalls.of_vc (H := { nil := [(3, 9, 1)] }) cxOk Tryz.func137 (by kernel_rfl) rfl (show _ = 24 from rfl) (by kernel_rfl) rfl ?_)
  conv => whnf
  refine VLoop.inv (N := 24) rfl (ι := Nat) (fun i => i ≤ e.S.length) (fun i => [(3, .orow 3), (7, .im (dFam e.S)), (8, .im (dI e.S.length)), (9, .im (dI i))]) (fun i => [(3, .row 9 1 i (rowF cS ByteArray.empty ((e.S.take i).map setText)))]) (fun i => e.S.length - i) 0 (Nat.zero_le _) ⟨⟨ELe.refl _, ELe.refl _, ELe.refl _, ELe.refl _, trivial⟩, ⟨⟨rfl, rfl, rfl, fun i j hi => absurd hi (Nat.not_lt_zero _)⟩, trivial⟩⟩ ?_
  rintro i hi
  conv => whnf
  refine ifB.dec (fun h => ?_) (fun h => ?_)
  · conv => whnf
    have hlt : i < e.S.length := by omega
    have hm : e.S.getD i [] ∈ e.S := by rw [getD_lt hlt]; exact List.getElem_mem hlt
    refine ⟨⟨by omega, by omega⟩, ?_⟩
    conv => whnf
    refine (f171 (e.S.getD i []) (he.bnd.at i) (hs _ hm) (hj _ hm)).use ⟨DLe.refl _, trivial⟩ ?_
    rintro _ rfl
    conv => whnf
    refine ⟨⟨b9 (by omega), one1 rfl⟩, ?_⟩
    conv => whnf
    refine ⟨⟨by omega, by omega⟩, ?_⟩
    conv => whnf
    refine VNext.by (i + 1) rfl (by omega) (by omega) ⟨⟨ELe.refl _, ELe.refl _, ELe.refl _, ELe.refl _, trivial⟩, ⟨⟨rfl, rfl, rfl, ?_⟩, trivial⟩⟩
    rw [map_take_succ [] hlt]
    exact pt1 (by rw [List.length_map, List.length_take]; omega) (fun _ _ _ _ => DLe.refl _) (DLe.refl _)
  · conv => whnf
    have hie : i = e.S.length := by omega
    subst hie
    rw [List.take_length] at *
    refine ifB.dec (fun h1 => by omega) (fun h1 => ?_)
    conv => whnf
    refine (f172 (e.S.map setText) ⟨#[32, 124, 32]⟩ (by rw [List.length_map]; omega) hk).use ⟨slice_le (l' := e.S.map setText) rfl (by rw [List.length_map]) (fun _ _ _ _ => DLe.refl _), DLe.refl _, trivial⟩ ?_
    rintro _ rfl
    conv => whnf
    exact Ret.le (DLe.refl _)
theorem f29 (e : El) (he : Sz e.S) (hv : vld 5 e = true) (h0 : 0 < e.S.length) (hs : ∀ s ∈ e.S, ∀ x ∈ s, small x) (hj : ∀ s ∈ e.S, (Lib.join ((setTexts s).map (·.data.toList)) [44, 32]).length ≤ 140737488355328)
    (hk : (Lib.join ((e.S.map setText).map (·.data.toList)) [32, 124, 32]).length ≤ 140737488355328) : ACalls cx 29 [dI 5, dEl e] fun d => d = dS (famText e.S) := by
  refine ACalls.eq (ACalls.of_vc (H := { draw := [(3, 6, [])] }) cxOk Tryz.func29 (by kernel_rfl) rfl (show _ = 14 from rfl) (by kernel_rfl) rfl ?_)
  conv => whnf
  refine (f33 5 e he).use ⟨DLe.refl _, DLe.refl _, trivial⟩ ?_
  rintro _ rfl
  conv => whnf
  rw [hv]
  conv => whnf
  refine ⟨_, (f67 5 rfl).use ⟨DLe.refl _, trivial⟩ (fun d h => h), ?_⟩
  conv => whnf
  refine ⟨_, (f137 e he h0 hs hj hk).use ⟨DLe.refl _, trivial⟩ (fun d h => h), ?_⟩
  conv => whnf
  exact Ret.le (DLe.refl _)
def egX : El := ⟨0, 0, [[(1, 1)]]⟩
def egY : El := ⟨0, 0, [[(1, 2)], [(2, 1)]]⟩
def egP : El := ⟨0, 0, [[(1, 1), (1, 2)], [(1, 1), (2, 1)]]⟩
theorem two1 {P : Nat → Nat → Prop} (h : P 0 0) (h' : P 1 0) : ∀ i j, i < 2 → j < 1 → P i j := fun i j hi hj => by
  obtain rfl : j = 0 := by omega
  rcases i with _ | _ | i
  · exact h
  · exact h'
  · omega
theorem sy_nil : Sy [] := ⟨Nat.zero_le _, fun s hs => by cases hs⟩
theorem f13 : ACalls cx 13 [] fun d => d = dB true := by
  have h15 := f15 2 ⟨3, 0, []⟩ ⟨5, 0, []⟩ sy_nil sy_nil
  have e15 : opOut 2 ⟨3, 0, []⟩ ⟨5, 0, []⟩ (addE 2 ⟨3, 0, []⟩ ⟨5, 0, []⟩) = (⟨3, 0, []⟩, 0) := by decide
  rw [e15] at h15
  have h16 := f16 2 ⟨3, 0, []⟩ ⟨5, 0, []⟩ sy_nil sy_nil
  have e16 : opOut 2 ⟨3, 0, []⟩ ⟨5, 0, []⟩ (mulE 2 ⟨3, 0, []⟩ ⟨5, 0, []⟩) = (⟨8, 0, []⟩, 0) := by decide
  rw [e16] at h16
  have h17 := f17 2 ⟨3, 0, []⟩ ⟨5, 0, []⟩ sy_nil sy_nil
  have e17 : opOut 2 ⟨3, 0, []⟩ ⟨5, 0, []⟩ (monE 2 ⟨3, 0, []⟩ ⟨5, 0, []⟩) = (⟨3, 0, []⟩, 0) := by decide
  rw [e17] at h17
  have hm := f16 5 egX egY ⟨by decide, by decide⟩ ⟨by decide, by decide⟩
  have em : opOut 5 egX egY (mulE 5 egX egY) = (egP, 0) := by decide
  rw [em] at hm
  have hf := f29 egP ⟨by decide, by decide⟩ (by decide) (by decide) (by unfold small; decide) (by
      intro s hs
      have hs' : s = [(1, 1), (1, 2)] ∨ s = [(1, 1), (2, 1)] := by simpa [egP] using hs
      rcases hs' with rfl | rfl <;> exact Nat.le_of_ble_eq_true rfl) (Nat.le_of_ble_eq_true rfl)
  refine ACalls.eq (ACalls.of_vc (H := { own := [1, 2, 3, 5, 7, 9, 10, 11] }) cxOk Tryz.func13 (by kernel_rfl) rfl (show _ = 83 from rfl) (by kernel_rfl) rfl ?_)
  conv => whnf
  refine (h15).use ⟨DLe.refl _, agg3 (DLe.refl _) (DLe.refl _) nilL, agg3 (DLe.refl _) (DLe.refl _) nilL, trivial⟩ ?_
  rintro _ rfl
  conv => whnf
  refine (h16).use ⟨DLe.refl _, agg3 (DLe.refl _) (DLe.refl _) nilL, agg3 (DLe.refl _) (DLe.refl _) nilL, trivial⟩ ?_
  rintro _ rfl
  conv => whnf
  refine (h17).use ⟨DLe.refl _, agg3 (DLe.refl _) (DLe.refl _) nilL, agg3 (DLe.refl _) (DLe.refl _) nilL, trivial⟩ ?_
  rintro _ rfl
  conv => whnf
  refine (hm).use ⟨DLe.refl _, agg3 (DLe.refl _) (DLe.refl _) (slice_le (l' := egX.S) rfl rfl (one1 (slice_le (l' := [((1 : Int), (1 : Int))]) rfl rfl (one2 (DLe.refl _) (DLe.refl _))))), agg3 (DLe.refl _) (DLe.refl _) (slice_le (l' := egY.S) rfl rfl (two1 (slice_le (l' := [((1 : Int), (2 : Int))]) rfl rfl (one2 (DLe.refl _) (DLe.refl _))) (slice_le (l' := [((2 : Int), (1 : Int))]) rfl rfl (one2 (DLe.refl _) (DLe.refl _))))), trivial⟩ ?_
  rintro _ rfl
  conv => whnf
  refine (hf).use ⟨DLe.refl _, agg3 (DLe.refl _) (DLe.refl _) (DLe.refl _), trivial⟩ ?_
  rintro _ rfl
  conv => whnf
  exact rB (by decide)
end Go.Proofs.YtomdjkcoodaheaaGreatDoor
