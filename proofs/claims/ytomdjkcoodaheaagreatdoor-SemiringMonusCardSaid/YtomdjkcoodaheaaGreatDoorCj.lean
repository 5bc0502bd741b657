/-
  DERIVED: THE SHELF's CONTRACTS AT THIS DUMP, IN PLAIN WORDS (tools/lay-plain.mjs out of 'TryzLay.lean', which tools/lay-shelf.mjs wrote): THE SAME DECLARATIONS UNDER THE SAME NAMES: 'import', 'namespace', 'open', 'def', 'theorem' AND NOTHING ELSE: no command of the shelf's: FOR A HAND-IN. Each laying: the table of numbers ('.._ren') and one theorem, a field a fact of the dump's own or the kernel's comparison; each contract: ONE APPLICATION.
-/
import Derived.Shelf.SlGeneric
import Derived.Shelf.SlSortCmp.NoneTotal
import Derived.Test.YtomdjkcoodaheaaGreatDoorProg
import Derived.Test.YtomdjkcoodaheaaGreatDoorCi
import Derived.Test.YtomdjkcoodaheaaGreatDoorVg
set_option linter.unusedSectionVars false
set_option linter.unusedSimpArgs false
set_option linter.unusedVariables false
namespace Go.Proofs
open Go.Shelf
def Tryz.sort194_ren : Go.Shelf.Ren := ⟨fun | 6 => 194 | 15 => 227 | 14 => 226 | 28 => 253 | 29 => 189 | 20 => 245 | 21 => 246 | 22 => 247 | 23 => 248 | 24 => 249 | 25 => 250 | 26 => 251 | 27 => 252 | 46 => 269 | 47 => 270 | 48 => 271 | 49 => 272 | 50 => 273 | 57 => 279 | n => n, fun | 22 => 34 | 24 => 33 | 25 => 101 | 3 => 3 | 39 => 134 | 0 => 0 | 53 => 141 | 55 => 98 | 4 => 4 | 46 => 189 | 45 => 188 | 50 => 193 | 5 => 5 | 9 => 9 | 66 => 207 | 70 => 211 | 76 => 216 | 77 => 217 | n => n, fun | n => n⟩
theorem Tryz.sort194 : Go.Proofs.SlLaysF0.n6 Tryz.prog Tryz.sort194_ren := {
  mixed := by kernel_rfl
  f6 := ⟨Tryz.f194.name, by decide, Tryz.func194.trans (congrArg some (by kernel_rfl))⟩
  f14 := ⟨Tryz.f226.name, by decide, Tryz.func226.trans (congrArg some (by kernel_rfl))⟩
  f15 := Tryz.func227.trans (congrArg some (by kernel_rfl))
  f20 := ⟨Tryz.f245.name, by decide, Tryz.func245.trans (congrArg some (by kernel_rfl))⟩
  f21 := ⟨Tryz.f246.name, by decide, Tryz.func246.trans (congrArg some (by kernel_rfl))⟩
  f22 := ⟨Tryz.f247.name, by decide, Tryz.func247.trans (congrArg some (by kernel_rfl))⟩
  f23 := ⟨Tryz.f248.name, by decide, Tryz.func248.trans (congrArg some (by kernel_rfl))⟩
  f24 := ⟨Tryz.f249.name, by decide, Tryz.func249.trans (congrArg some (by kernel_rfl))⟩
  f25 := ⟨Tryz.f250.name, by decide, Tryz.func250.trans (congrArg some (by kernel_rfl))⟩
  f26 := ⟨Tryz.f251.name, by decide, Tryz.func251.trans (congrArg some (by kernel_rfl))⟩
  f27 := ⟨Tryz.f252.name, by decide, Tryz.func252.trans (congrArg some (by kernel_rfl))⟩
  f28 := Tryz.func253.trans (congrArg some (by kernel_rfl))
  f29 := Tryz.func189.trans (congrArg some (by kernel_rfl))
  f46 := ⟨Tryz.f269.name, by decide, Tryz.func269.trans (congrArg some (by kernel_rfl))⟩
  f47 := Tryz.func270.trans (congrArg some (by kernel_rfl))
  f48 := Tryz.func271.trans (congrArg some (by kernel_rfl))
  f49 := ⟨Tryz.f272.name, by decide, Tryz.func272.trans (congrArg some (by kernel_rfl))⟩
  f50 := ⟨Tryz.f273.name, by decide, Tryz.func273.trans (congrArg some (by kernel_rfl))⟩
  f57 := ⟨Tryz.f279.name, by decide, Tryz.func279.trans (congrArg some (by kernel_rfl))⟩
  t0 := Tryz.underlying0
  a0 := Tryz.isAgg0
  z0 := Tryz.sizeOf0
  v0 := Tryz.zeroValue0
  t3 := Tryz.underlying3
  a3 := Tryz.isAgg3
  z3 := Tryz.sizeOf3
  v3 := Tryz.zeroValue3
  t4 := Tryz.underlying4
  a4 := Tryz.isAgg4
  z4 := Tryz.sizeOf4
  v4 := Tryz.zeroValue4
  t5 := Tryz.underlying5
  a5 := Tryz.isAgg5
  z5 := Tryz.sizeOf5
  v5 := Tryz.zeroValue5
  t9 := Tryz.underlying9
  a9 := Tryz.isAgg9
  z9 := Tryz.sizeOf9
  v9 := Tryz.zeroValue9
  t22 := Tryz.underlying34
  a22 := Tryz.isAgg34
  z22 := Tryz.sizeOf34
  v22 := Tryz.zeroValue34
  t25 := Tryz.underlying101
  a25 := Tryz.isAgg101
  z25 := Tryz.sizeOf101
  v25 := Tryz.zeroValue101
  t39 := Tryz.underlying134
  a39 := Tryz.isAgg134
  z39 := Tryz.sizeOf134
  v39 := Tryz.zeroValue134
  t45 := Tryz.underlying188
  a45 := Tryz.isAgg188
  z45 := Tryz.sizeOf188
  v45 := Tryz.zeroValue188
  t46 := Tryz.underlying189
  a46 := Tryz.isAgg189
  z46 := Tryz.sizeOf189
  v46 := Tryz.zeroValue189
  t50 := Tryz.underlying193
  a50 := Tryz.isAgg193
  z50 := Tryz.sizeOf193
  v50 := Tryz.zeroValue193
  t53 := Tryz.underlying141
  a53 := Tryz.isAgg141
  z53 := Tryz.sizeOf141
  v53 := Tryz.zeroValue141
  t55 := Tryz.underlying98
  a55 := Tryz.isAgg98
  z55 := Tryz.sizeOf98
  v55 := Tryz.zeroValue98
  t66 := Tryz.underlying207
  a66 := Tryz.isAgg207
  z66 := Tryz.sizeOf207
  v66 := Tryz.zeroValue207
  t70 := Tryz.underlying211
  a70 := Tryz.isAgg211
  z70 := Tryz.sizeOf211
  v70 := Tryz.zeroValue211
  t76 := Tryz.underlying216
  a76 := Tryz.isAgg216
  z76 := Tryz.sizeOf216
  v76 := Tryz.zeroValue216
  t77 := Tryz.underlying217
  a77 := Tryz.isAgg217
  z77 := Tryz.sizeOf217
  v77 := Tryz.zeroValue217 }
def Tryz.sort199_ren : Go.Shelf.Ren := ⟨fun | 6 => 199 | 15 => 227 | 14 => 229 | 28 => 253 | 29 => 189 | 20 => 254 | 21 => 255 | 22 => 256 | 23 => 257 | 24 => 258 | 25 => 259 | 26 => 260 | 27 => 261 | 46 => 274 | 47 => 270 | 48 => 271 | 49 => 275 | 50 => 276 | 57 => 280 | n => n, fun | 22 => 22 | 24 => 34 | 25 => 100 | 3 => 3 | 39 => 134 | 0 => 0 | 53 => 141 | 55 => 98 | 4 => 4 | 46 => 189 | 45 => 188 | 50 => 193 | 5 => 5 | 9 => 9 | 66 => 207 | 70 => 211 | 76 => 216 | 77 => 217 | n => n, fun | n => n⟩
theorem Tryz.sort199 : Go.Proofs.SlLaysF.n6 Tryz.prog Tryz.sort199_ren := {
  mixed := by kernel_rfl
  f6 := ⟨Tryz.f199.name, by decide, Tryz.func199.trans (congrArg some (by kernel_rfl))⟩
  f14 := ⟨Tryz.f229.name, by decide, Tryz.func229.trans (congrArg some (by kernel_rfl))⟩
  f15 := Tryz.func227.trans (congrArg some (by kernel_rfl))
  f20 := ⟨Tryz.f254.name, by decide, Tryz.func254.trans (congrArg some (by kernel_rfl))⟩
  f21 := ⟨Tryz.f255.name, by decide, Tryz.func255.trans (congrArg some (by kernel_rfl))⟩
  f22 := ⟨Tryz.f256.name, by decide, Tryz.func256.trans (congrArg some (by kernel_rfl))⟩
  f23 := ⟨Tryz.f257.name, by decide, Tryz.func257.trans (congrArg some (by kernel_rfl))⟩
  f24 := ⟨Tryz.f258.name, by decide, Tryz.func258.trans (congrArg some (by kernel_rfl))⟩
  f25 := ⟨Tryz.f259.name, by decide, Tryz.func259.trans (congrArg some (by kernel_rfl))⟩
  f26 := ⟨Tryz.f260.name, by decide, Tryz.func260.trans (congrArg some (by kernel_rfl))⟩
  f27 := ⟨Tryz.f261.name, by decide, Tryz.func261.trans (congrArg some (by kernel_rfl))⟩
  f28 := Tryz.func253.trans (congrArg some (by kernel_rfl))
  f29 := Tryz.func189.trans (congrArg some (by kernel_rfl))
  f46 := ⟨Tryz.f274.name, by decide, Tryz.func274.trans (congrArg some (by kernel_rfl))⟩
  f47 := Tryz.func270.trans (congrArg some (by kernel_rfl))
  f48 := Tryz.func271.trans (congrArg some (by kernel_rfl))
  f49 := ⟨Tryz.f275.name, by decide, Tryz.func275.trans (congrArg some (by kernel_rfl))⟩
  f50 := ⟨Tryz.f276.name, by decide, Tryz.func276.trans (congrArg some (by kernel_rfl))⟩
  f57 := ⟨Tryz.f280.name, by decide, Tryz.func280.trans (congrArg some (by kernel_rfl))⟩
  t0 := Tryz.underlying0
  a0 := Tryz.isAgg0
  z0 := Tryz.sizeOf0
  v0 := Tryz.zeroValue0
  t3 := Tryz.underlying3
  a3 := Tryz.isAgg3
  z3 := Tryz.sizeOf3
  v3 := Tryz.zeroValue3
  t4 := Tryz.underlying4
  a4 := Tryz.isAgg4
  z4 := Tryz.sizeOf4
  v4 := Tryz.zeroValue4
  t5 := Tryz.underlying5
  a5 := Tryz.isAgg5
  z5 := Tryz.sizeOf5
  v5 := Tryz.zeroValue5
  t9 := Tryz.underlying9
  a9 := Tryz.isAgg9
  z9 := Tryz.sizeOf9
  v9 := Tryz.zeroValue9
  t22 := Tryz.underlying22
  a22 := Tryz.isAgg22
  z22 := Tryz.sizeOf22
  v22 := Tryz.zeroValue22
  a24 := Tryz.isAgg34
  z24 := Tryz.sizeOf34
  t25 := Tryz.underlying100
  a25 := Tryz.isAgg100
  z25 := Tryz.sizeOf100
  v25 := Tryz.zeroValue100
  t39 := Tryz.underlying134
  a39 := Tryz.isAgg134
  z39 := Tryz.sizeOf134
  v39 := Tryz.zeroValue134
  t45 := Tryz.underlying188
  a45 := Tryz.isAgg188
  z45 := Tryz.sizeOf188
  v45 := Tryz.zeroValue188
  t46 := Tryz.underlying189
  a46 := Tryz.isAgg189
  z46 := Tryz.sizeOf189
  v46 := Tryz.zeroValue189
  t50 := Tryz.underlying193
  a50 := Tryz.isAgg193
  z50 := Tryz.sizeOf193
  v50 := Tryz.zeroValue193
  t53 := Tryz.underlying141
  a53 := Tryz.isAgg141
  z53 := Tryz.sizeOf141
  v53 := Tryz.zeroValue141
  t55 := Tryz.underlying98
  a55 := Tryz.isAgg98
  z55 := Tryz.sizeOf98
  v55 := Tryz.zeroValue98
  t66 := Tryz.underlying207
  a66 := Tryz.isAgg207
  z66 := Tryz.sizeOf207
  v66 := Tryz.zeroValue207
  t70 := Tryz.underlying211
  a70 := Tryz.isAgg211
  z70 := Tryz.sizeOf211
  v70 := Tryz.zeroValue211
  t76 := Tryz.underlying216
  a76 := Tryz.isAgg216
  z76 := Tryz.sizeOf216
  v76 := Tryz.zeroValue216
  t77 := Tryz.underlying217
  a77 := Tryz.isAgg217
  z77 := Tryz.sizeOf217
  v77 := Tryz.zeroValue217 }
end Go.Proofs

/-
  Package rowset: Normalize, Minus, Subset, Union.
-/
set_option maxRecDepth 10000
set_option maxHeartbeats 4000000
set_option linter.unusedVariables false
set_option linter.unusedSimpArgs false
set_option linter.unusedSectionVars false
namespace Go.Proofs.YtomdjkcoodaheaaGreatDoor
open Go Go.Vc Sr
def encId (x : RId) : List Value := [.int .i64 x.1, .int .i64 x.2]
theorem g166 (x y : RId) : Grows cx 166 [.agg 2 fun j => .lit ((encId x).getD j undef), .agg 2 fun j => .lit ((encId y).getD j undef)] (.lit (.int .i64 (cmp x y))) :=
  letI : Dr := ⟨⟨true⟩⟩
  ACalls.grows rfl ((f166 x y).use ⟨agg2 (DLe.refl _) (DLe.refl _), agg2 (DLe.refl _) (DLe.refl _), trivial⟩ fun d h => h)
theorem g200 (x y : Ids) (hx : x.length ≤ 1000000) (hy : y.length ≤ 1000000) : Grows cx 200 [dIds x, dIds y] (.lit (.int .i64 (cmpL x y))) :=
  letI : Dr := ⟨⟨true⟩⟩
  ACalls.grows rfl (f200 x y hx hy)
variable [Dr]

theorem func1 {g : FuncId} {f f' : Nat → D} (h : DLe (f 0) (f' 0)) : DLe (.func g 1 f) (.func g 1 f') := DLe.func fun j hj => by
  obtain rfl : j = 0 := by omega
  exact h
theorem t195 (l : Ids) {n : Nat} (hn : n = l.length) (hl : l.length ≤ 1000000) (f : Nat → Nat → D) (hf : ∀ i j, i < n → j < 2 → DLe (f i j) (fIds l i j)) : ATR cx 195 33 2 n f [] (RIds (cp l)) := by subst hn; exact a195 l hl f hf
theorem t201 (l : Fam) {n : Nat} (hn : n = l.length) (hl : Bnd 1000000 l) (f : Nat → Nat → D) (hf : ∀ i j, i < n → j < 1 → DLe (f i j) (fFam l i j)) : ATR cx 201 34 1 n f [dF 202] (RFam (cp l)) := by subst hn; exact a201 l hl f hf
theorem t177 {g q : Nat} {cf : Nat → D} {p : RId → Bool} (l : Ids) {n : Nat} (hn : n = l.length) (hl : l.length ≤ 1000000) (hp : ∀ x ∈ l, ACalls cx g ([dId x] ++ capD q cf) fun d => d = dB (p x)) (f : Nat → Nat → D) (hf : ∀ i j, i < n → j < 2 → DLe (f i j) (fIds l i j)) :
    ATR cx 177 33 2 n f [.func g q cf] (RIds (l.filter fun x => !p x)) := by subst hn; exact a177 l hl hp f hf
theorem t133 {g q : Nat} {cf : Nat → D} {p : Ids → Bool} (l : Fam) {n : Nat} (hn : n = l.length) (hl : l.length ≤ 1000000) (hp : ∀ x ∈ l, ACalls cx g ([dIds x] ++ capD q cf) fun d => d = dB (p x)) (f : Nat → Nat → D) (hf : ∀ i j, i < n → j < 1 → DLe (f i j) (fFam l i j)) :
    ATR cx 133 34 1 n f [.func g q cf] (RFam (l.filter fun x => !p x)) := by subst hn; exact a133 l hl hp f hf

theorem swo_cmp : Go.Sort.SWO (Go.Proofs.ltOf cmp) where
  irrefl x := by unfold Go.Proofs.ltOf; rw [cmp_self]; rfl
  trans x y z h1 h2 := by unfold Go.Proofs.ltOf at *; rw [decide_eq_true_eq] at *; exact cmp_lt.2 (rlt_sto.trans _ _ _ (cmp_lt.1 h1) (cmp_lt.1 h2))
  ntrans x y z h1 h2 := by
    unfold Go.Proofs.ltOf at *
    rw [decide_eq_false_iff_not] at *
    intro h3
    rcases rlt_sto.tri y z with q | q | q
    · exact h2 (cmp_lt.2 q)
    · exact h1 (by rw [q]; exact h3)
    · exact h1 (cmp_lt.2 (rlt_sto.trans _ _ _ (cmp_lt.1 h3) q))
theorem swo_cmpL : Go.Sort.SWO (Go.Proofs.ltOf cmpL) where
  irrefl x := by unfold Go.Proofs.ltOf; rw [cmpL_eq.2 rfl]; rfl
  trans x y z h1 h2 := by unfold Go.Proofs.ltOf at *; rw [decide_eq_true_eq] at *; exact slt_sto.trans _ _ _ h1 h2
  ntrans x y z h1 h2 := by
    unfold Go.Proofs.ltOf at *
    rw [decide_eq_false_iff_not] at *
    intro h3
    rcases slt_sto.tri y z with q | q | q
    · exact h2 q
    · exact h1 (by rw [q]; exact h3)
    · exact h1 (slt_sto.trans _ _ _ h3 q)
theorem s194 (l : Ids) {n : Nat} (hn : n = l.length) (hl : l.length ≤ 1000000) (f : Nat → Nat → D) (hf : ∀ i j, i < n → j < 2 → DLe (f i j) (fIds l i j)) : AMut cx 194 33 2 n f [dF 166] fun f' d => ∃ l' : Ids, l'.length = l.length ∧ cp l' = nrm rlt l ∧ ∀ i j, i < n → j < 2 → DLe (f' i j) (fIds l' i j) := by
  subst hn
  have h := sortK_mut (C := cx) Tryz.sort194 (fun _ => rfl) 2 (fun w => ty33.run_isAgg w) (fun w => ty33.run_sizeOf w) encId (fun _ => rfl) (fun x v hv => by
    unfold encId at hv; simp only [List.mem_cons, List.not_mem_nil, or_false] at hv; rcases hv with rfl | rfl <;> rfl) cmp swo_cmp 166
    g166 33 l (by omega)
  refine h.use (fun i j hi hj => (hf i j hi hj).trans ?_) ⟨DLe.refl _, trivial⟩ ?_
  · rcases j with _ | _ | j
    · exact DLe.refl _
    · exact DLe.refl _
    · omega
  · rintro f' d ⟨rfl, l', hp, hs, rfl⟩
    refine ⟨l', hp.length_eq, ?_, ?_⟩
    · rw [cp_sorted rlt_sto (0, 0) fun i j hij hj hlt => hs i j hij hj (cmp_lt.2 hlt)]
      exact nrm_congr rlt_sto fun x => hp.mem_iff
    · intro i j hi hj
      rcases j with _ | _ | j
      · exact DLe.refl _
      · exact DLe.refl _
      · omega
theorem s199 (l : Fam) {n : Nat} (hn : n = l.length) (hl : Bnd 1000000 l) (f : Nat → Nat → D) (hf : ∀ i j, i < n → j < 1 → DLe (f i j) (fFam l i j)) : AMut cx 199 34 1 n f [dF 200] fun f' d => ∃ l' : Fam, l'.length = l.length ∧ Bnd 1000000 l' ∧ cp l' = nrm slt l ∧ ∀ i j, i < n → j < 1 → DLe (f' i j) (fFam l' i j) := by
  subst hn
  have hl1 := hl.1
  -- the sort compares lists of at most so many elements: the others are told as nothing
  let β : Type := { s : Ids // s.length ≤ 1000000 }
  letI : Inhabited β := ⟨⟨[], Nat.zero_le _⟩⟩
  have hO : Go.Sort.SWO (Go.Proofs.ltOf fun x y : β => cmpL x.1 y.1) := ⟨fun x => swo_cmpL.irrefl x.1, fun x y z => swo_cmpL.trans x.1 y.1 z.1, fun x y z => swo_cmpL.ntrans x.1 y.1 z.1⟩
  let m : List β := l.pmap (fun s hs => ⟨s, hs⟩) hl.2
  have hm : m.map (fun s => s.1) = l := by simp [m, List.map_pmap]
  have hml : m.length = l.length := by simp [m]
  have hget : ∀ (k : List β) (i : Nat), (k.getD i default).1 = (k.map fun s => s.1).getD i [] := fun k i => by
    rw [List.getD_eq_getElem?_getD, List.getD_eq_getElem?_getD, List.getElem?_map]
    cases k[i]? <;> rfl
  have h := sort1_mut (C := cx) Tryz.sort199 (fun _ => rfl) (fun s : β => dIds s.1) (fun s => rfl) (fun x y => cmpL x.1 y.1) hO 200
    ⟨.slice none 0 0, fun X w => DLe.nil X w _ (.lit _)⟩ (fun x y => g200 x.1 y.1 x.2 y.2) 34 m (by omega) (fun i _ => dIds (l.getD i [])) (fun i hi => by
      show dIds (l.getD i []) = dIds (m.getD i default).1; rw [hget, hm])
  rw [hml] at h
  refine h.use (fun i j hi hj => (hf i j hi hj).trans (DLe.refl _)) ⟨DLe.refl _, trivial⟩ ?_
  rintro f' d ⟨rfl, l', hp, hs, rfl⟩
  have hp' : (l'.map fun s => s.1).Perm l := by rw [← hm]; exact hp.map _
  refine ⟨l'.map fun s => s.1, hp'.length_eq, ⟨by rw [hp'.length_eq]; exact hl1, fun s hs => hl.2 s (hp'.mem_iff.1 hs)⟩, ?_, fun i j hi hj => ?_⟩
  · rw [cp_sorted slt_sto [] fun i j hij hj hlt => ?_]
    · exact nrm_congr slt_sto fun x => hp'.mem_iff
    · rw [List.length_map] at hj
      refine hs i j hij hj ?_
      rw [hget, hget]; exact hlt
  · exact DLe.of_eq (congrArg dIds (hget l' i))
theorem r161 (l : Ids) (hl : l.length ≤ 1000000) : ARow cx 161 [dIds l] 33 2 (RIds (nrm rlt l)) := by
  refine ARow.of_vc (H := { row := [(5, 33, 2)], wr := [7], take := [9] }) cxOk Tryz.func161 (by kernel_rfl) rfl (show _ = 10 from rfl) (by kernel_rfl) rfl ?_
  conv => whnf
  refine (r90 l hl).use ⟨DLe.refl _, trivial⟩ ?_
  rintro n f ⟨hn, hf⟩
  conv => whnf
  refine (s194 l hn hl f hf).use (fun _ _ _ _ => DLe.refl _) ⟨DLe.refl _, trivial⟩ ?_
  rintro f' d ⟨l', hl', hcp, hf'⟩
  conv => whnf
  refine (t195 l' (by omega) (by omega) f' hf').use trivial ?_
  rintro m f'' hR
  rw [hcp] at hR
  conv => whnf
  exact ⟨hR⟩
theorem RIds.slice {l : Ids} {d : D} (h : ∃ n f, RIds l n f ∧ d = .slice 2 n f) : DLe d (dIds l) := by
  obtain ⟨n, f, ⟨rfl, hf⟩, rfl⟩ := h; exact DLe.slice hf
theorem RFam.slice {l : Fam} {d : D} (h : ∃ n f, RFam l n f ∧ d = .slice 1 n f) : DLe d (dFam l) := by
  obtain ⟨n, f, ⟨rfl, hf⟩, rfl⟩ := h; exact DLe.slice hf
theorem DLess.refl : ∀ {l : List D}, DLes l l
  | [] => trivial
  | d :: r => ⟨DLe.refl d, DLess.refl⟩
theorem f161 (l : Ids) (hl : l.length ≤ 1000000) : ACalls cx 161 [dIds l] fun d => d = dIds (nrm rlt l) := ACalls.eq ((r161 l hl).calls.use DLess.refl fun d h => RIds.slice h)
theorem r143 (a b : Ids) (ha : a.length ≤ 1000000) (hb : b.length ≤ 1000000) : ARow cx 143 [dIds a, dIds b] 33 2 (RIds ((nrm rlt a).filter fun x => !decide (x ∈ b))) := by
  refine ARow.of_vc (H := { row := [(7, 33, 2)], take := [10] }) cxOk Tryz.func143 (by kernel_rfl) rfl (show _ = 11 from rfl) (by kernel_rfl) rfl ?_
  conv => whnf
  refine (r161 a ha).use ⟨DLe.refl _, trivial⟩ ?_
  rintro n f ⟨hn, hf⟩
  conv => whnf
  refine (t177 (g := 178) (q := 1) (cf := fun _ => .ptr 1 fun _ => dIds b) (p := fun x => decide (x ∈ b)) (nrm rlt a) hn (Nat.le_trans (length_nrm_le _) ha) (fun x _ => f178 b x hb) f hf).use ⟨func1 (DLe.refl _), trivial⟩ ?_
  rintro m f'' hR
  conv => whnf
  exact ⟨hR⟩
def mns (a b : Ids) : Ids := (nrm rlt a).filter fun x => !decide (x ∈ b)
theorem f143 (a b : Ids) (ha : a.length ≤ 1000000) (hb : b.length ≤ 1000000) : ACalls cx 143 [dIds a, dIds b] fun d => d = dIds (mns a b) := ACalls.eq ((r143 a b ha hb).calls.use DLess.refl fun d h => RIds.slice h)
theorem f142 (a b : Ids) (ha : a.length ≤ 1000000) (hb : b.length ≤ 1000000) : ACalls cx 142 [dIds a, dIds b] fun d => d = dB (sub a b) := by
  refine ACalls.eq (ACalls.of_vc (H := {}) cxOk Tryz.func142 (by kernel_rfl) rfl (show _ = 10 from rfl) (by kernel_rfl) rfl ?_)
  conv => whnf
  refine (f143 a b ha hb).use ⟨DLe.refl _, DLe.refl _, trivial⟩ ?_
  rintro _ rfl
  conv => whnf
  refine rB ?_
  rw [Bool.eq_iff_iff, decide_eq_true_eq, sub_iff]
  constructor
  · intro h x hx
    have h0 : (mns a b).length = 0 := by omega
    have := List.eq_nil_of_length_eq_zero h0
    refine Classical.byContradiction fun hn => ?_
    have hm : x ∈ mns a b := List.mem_filter.2 ⟨(mem_nrm _ _).2 hx, by simp [hn]⟩
    rw [this] at hm; cases hm
  · intro h
    have : mns a b = [] := List.eq_nil_iff_forall_not_mem.2 fun x hx => by
      obtain ⟨h1, h2⟩ := List.mem_filter.1 hx
      have := h x ((mem_nrm _ _).1 h1)
      simp [this] at h2
    rw [this]; rfl
theorem f203 (a b : Ids) (ha : a.length ≤ 400000) (hb : b.length ≤ 400000) : ACalls cx 203 [dIds a, dIds b] fun d => d = dIds (un a b) := by
  refine ACalls.eq (ACalls.of_vc (H := { row := [(6, 33, 2)] }) cxOk Tryz.func203 (by kernel_rfl) rfl (show _ = 10 from rfl) (by kernel_rfl) rfl ?_)
  conv => whnf
  refine (r90 a (by omega)).use ⟨DLe.refl _, trivial⟩ ?_
  rintro n f ⟨hn, hf⟩
  conv => whnf
  refine ⟨⟨b33 (by omega), one2n fun i hi => ⟨rfl, rfl⟩⟩, ?_⟩
  conv => whnf
  refine (f161 (a ++ b) (by rw [List.length_append]; omega)).use ⟨?_, trivial⟩ ?_
  · refine slice_le rfl (by rw [List.length_append, hn]) fun i j hi hj => ?_
    by_cases h : i < n
    · rw [appD_lt h, List.getD_eq_getElem?_getD, List.getElem?_append_left (by omega), ← List.getD_eq_getElem?_getD]; exact hf i j h hj
    · rw [appD_ge (by omega), List.getD_eq_getElem?_getD, List.getElem?_append_right (by omega), ← List.getD_eq_getElem?_getD, ← hn]; exact DLe.refl _
  rintro _ rfl
  conv => whnf
  exact Ret.le (DLe.refl _)
end Go.Proofs.YtomdjkcoodaheaaGreatDoor
