/-
  What a call does to the world, in the kit's terms.
-/
import Derived.Test.YtomdjkcoodaheaaGreatDoorVf
import Derived.Sort.Grow
import Derived.Deep.Draws
import Derived.Shelf.SlSortCmp.NoneTotal
import Derived.Test.YtomdjkcoodaheaaGreatDoorVe
set_option linter.unusedSectionVars false
set_option linter.unusedSimpArgs false
set_option linter.unusedVariables false
set_option linter.unusedSimpArgs false
set_option linter.unusedSectionVars false
namespace Go.Vc
variable [Dr]
/-- Old blocks stand, nothing is asked of the system: the world behind is the old one with draws and blocks added. -/
theorem Below.grow (hb : Dr.b = true) {w w' : World} (h : Below w.heap.size w w') : ∃ q os, w' = Go.Sort.grow (w.drewN q) os := by
  refine ⟨w'.drawn - w.drawn, w'.heap.extract w.heap.size w'.heap.size, ?_⟩
  have hd := h.drawn hb
  have hs := h.size
  have hh : w'.heap = w.heap ++ w'.heap.extract w.heap.size w'.heap.size := by
    apply Array.ext_getElem?
    intro i
    by_cases hi : i < w.heap.size
    · rw [Array.getElem?_append_left hi]; exact h.block i hi
    · rw [Array.getElem?_append_right (by omega), Array.getElem?_extract]
      by_cases h2 : i < w'.heap.size
      · rw [if_pos (by omega)]; congr 1; omega
      · rw [if_neg (by omega), Array.getElem?_eq_none (by omega)]
  cases w' with
  | mk heap tape drawn os output =>
    have e1 := h.os; have e2 := h.tape; have e3 := h.output
    simp only [Go.Sort.grow, World.drewN] at *
    subst e1 e2 e3
    congr 1
    omega
/-- The contract of a function that lays blocks and draws, in the kit's words. -/
structure Grows (C : Ctx) (g : FuncId) (ds : List D) (d : D) : Prop where
  ent : ∀ args w, (callFunc g args).run C.P w = .ok (.enter g args) w
  out : ∀ (X : Nat → Prop) (w : World) (vs : Array Value), (∀ b, X b → b < w.heap.size) → (∀ q, Rel X w (.pointer (some ⟨q, 0, none⟩)) (C.gl q)) → vs.size = ds.length →
    (∀ i, i < ds.length → Rel X w (vs.getD i undef) (ds.getD i .top)) → Calls C.P g vs w fun e w' => ∃ v, e = .returned v ∧ Rel X w' v d ∧ ∃ q os, w' = Go.Sort.grow (w.drewN q) os
theorem ACalls.grows (hb : Dr.b = true) {C : Ctx} {g : FuncId} {ds : List D} {d : D} (h : ACalls C g ds fun d' => d' = d) : Grows C g ds d where
  ent := h.ent
  out := fun X w vs h1 h2 h3 h4 => (h.out X w vs h1 h2 h3 h4).mono fun _ _ ⟨v, _, e1, e2, e3, e4⟩ => ⟨v, e1, e2 ▸ e3, e4.grow hb⟩
end Go.Vc

/-
  slices.SortFunc, in the engine's terms.
-/
set_option linter.unusedSimpArgs false
set_option linter.unusedSectionVars false
namespace Go.Vc
variable [Dr]
open Go.Sort Go.Proofs

theorem sort_after {β : Type} [Inhabited β] {w : World} {B t k n b cap : Nat} {xs : List Value} (enc : β → Value) {A : Array β} (how : w.ownsRow B t k (.slice (some ⟨b, 0, none⟩) n cap) n xs) (hA : A.size = n * k) (m : Nat) (os : Array Obj) :
    (grow (putRow enc (Sort.ahead w m) b 0 A) os).ownsRow B t k (.slice (some ⟨b, 0, none⟩) n cap) n (A.toList.map enc) ∧ w.grownBy (grow (putRow enc (Sort.ahead w m) b 0 A) os) (some b) ∧ w.drawn ≤ (grow (putRow enc (Sort.ahead w m) b 0 A) os).drawn ∧
    ∀ i, i < w.heap.size → i ≠ b → (grow (putRow enc (Sort.ahead w m) b 0 A) os).heap[i]? = w.heap[i]? := by
  rcases how with ⟨hl, ⟨e, _⟩ | ⟨q, cap', cur, e, p2, p3, p4, p5, p6, p7⟩⟩
  · cases e
  · cases e
    have hblt := (Array.getElem?_eq_some_iff.1 p3).1
    have hsz : (putRow enc (Sort.ahead w m) b 0 A).heap.size = w.heap.size := by simp [putRow, mapBlock, Sort.ahead]
    have hoth : ∀ i, i < w.heap.size → i ≠ b → (grow (putRow enc (Sort.ahead w m) b 0 A) os).heap[i]? = w.heap[i]? := by
      intro i hi hne
      simp only [grow]
      rw [Array.getElem?_append_left (by rw [hsz]; exact hi)]
      simp [putRow, mapBlock, Sort.ahead, Array.getElem?_modify, Ne.symm hne]
    have hb : (grow (putRow enc (Sort.ahead w m) b 0 A) os).heap[b]? = some (.cells (putCells enc 0 A cur) t (0, 0)) := by
      simp only [grow]
      rw [Array.getElem?_append_left (by rw [hsz]; exact hblt)]
      simp [putRow, mapBlock, Sort.ahead, Array.getElem?_modify, p3, onCells]
    have hcs : (putCells enc 0 A cur).size = cur.size := by simp [putCells]
    have hcap : n * k ≤ cap * k := Nat.mul_le_mul_right k p4
    refine ⟨⟨by simp [hA], .inr ⟨b, cap, _, rfl, p2, hb, p4, p5, by rw [hcs, p6], ?_⟩⟩, ⟨rfl, rfl, rfl, ?_, fun i hi hne => hoth i hi (fun e => hne (by rw [e]))⟩, ?_, hoth⟩
    · apply List.ext_getElem?
      intro i
      by_cases hi : i < n * k
      · rw [List.getElem?_take_of_lt hi, Array.getElem?_toList, Array.getElem?_eq_getElem (by rw [hcs]; omega)]
        simp only [putCells, Array.getElem_mapIdx]
        rw [if_pos (by omega)]
        have hiA : i < A.size := by omega
        rw [List.getElem?_map, Array.getElem?_toList, Array.getElem?_eq_getElem hiA]
        simp [getElem!_pos A i hiA]
      · rw [List.getElem?_eq_none (by simp; omega), List.getElem?_eq_none (by simp; omega)]
    · show w.heap.size ≤ (grow (putRow enc (Sort.ahead w m) b 0 A) os).heap.size
      simp only [grow, Array.size_append, hsz]; omega
    · show w.drawn ≤ w.drawn + m; omega

/-- slices.SortFunc over a row of structs. -/
theorem sortK_mut {C : Ctx} {ρ : Go.Shelf.Ren} (L : SlLaysF0.n6 C.P ρ) (hG : ∀ q, C.gl q = .top) (k : Nat) (aE : ∀ w, (isAgg (ρ.t 24)).run C.P w = .ok true w) (zE : ∀ w, (Go.sizeOf (ρ.t 24)).run C.P w = .ok k w) {α : Type} [Inhabited α]
    (enc : α → List Value) (hk : ∀ x, (enc x).length = k) (h1 : ∀ x, ∀ v ∈ enc x, v.oneCell' = true) (cf : α → α → Int) (hO : SWO (ltOf cf)) (g : FuncId)
    (hc : ∀ x y, Grows C g [.agg k fun j => .lit ((enc x).getD j undef), .agg k fun j => .lit ((enc y).getD j undef)] (.lit (.int .i64 (cf x y)))) (t : Nat) (l : List α) (hlen : l.length < 4611686018427387904) :
    AMut C (ρ.f 6) t k l.length (fun i j => .lit ((enc (l.getD i default)).getD j undef)) [.func g 0 fun _ => .top] fun f' d => d = .top ∧ ∃ l' : List α, l'.Perm l ∧ (∀ i j, i < j → j < l'.length → ¬ cf (l'.getD j default) (l'.getD i default) < 0) ∧
      f' = fun i j => .lit ((enc (l'.getD i default)).getD j undef) where
  ent := L.f6.enters rfl
  out := by
    intro X B w v xs vs hX hvX hgl how hrl hsz hrel
    obtain ⟨u, rfl⟩ : ∃ u, vs = [u] := by
      match vs, hsz with
      | [u], _ => exact ⟨u, rfl⟩
    obtain ⟨cs, hu, hcs, _⟩ := (hrel 0 (by simp)).func_inv
    obtain rfl : cs = #[] := Array.eq_empty_of_size_eq_zero hcs
    have hu' : u = .func (.func g) #[] #[] := hu
    subst hu'
    rcases how.2 with ⟨e, h0⟩ | ⟨b, cap, cur, e, p2, p3, p4, p5, p6, p7⟩
    · subst e
      have hl : l = [] := List.eq_nil_of_length_eq_zero h0
      subst hl
      refine (AnyF.slices_SortFunc_none (P := C.P) (ρ := ρ) L none 0 (.func (.func g) #[] #[]) w).mono ?_
      rintro e w' ⟨rfl, rfl⟩
      exact ⟨_, .top, _, xs, rfl, ⟨rfl, [], List.Perm.refl _, fun i j _ hj => absurd hj (Nat.not_lt_zero _), rfl⟩, .top _, how, fun i j hi => absurd hi (Nat.not_lt_zero _), ⟨rfl, rfl, rfl, Nat.le_refl _, fun _ _ _ => rfl⟩, DrLe.of (Nat.le_refl _)⟩
    · subst e
      have hget : ∀ i, i < l.length → l.toArray[i]! = l.getD i default := fun i hi => by
        rw [getElem!_pos l.toArray i (by simpa using hi)]; simp [List.getD_eq_getElem?_getD, hi]
      have henc : ∀ (x : α) (j : Nat), j < k → (enc x)[j]! = (enc x).getD j undef := fun x j hj => by
        rw [getElem!_pos (enc x) j (by rw [hk]; exact hj)]; simp [List.getD_eq_getElem?_getD, hk, hj]
      have hcells : ∀ q, q < l.length * k → w.cell? ⟨b, q, none⟩ = some (xs.getD q undef) := fun q hq => by
        have hcap : l.length * k ≤ cap * k := Nat.mul_le_mul_right k p4
        rw [heap_cell p3 (by omega), ← p7, List.getD_eq_getElem?_getD, List.getElem?_take_of_lt hq]
        simp [Array.getD_eq_getD_getElem?]
      have hH : HoldsK enc k w b 0 l.toArray := by
        intro q hq
        rw [size_flatK] at hq
        have hq' : q < l.length * k := by simpa using hq
        have hkp : 0 < k := by
          rcases Nat.eq_zero_or_pos k with h | h
          · subst h; simp at hq'
          · exact h
        obtain ⟨d1, d2⟩ := divmod_lt hkp hq'
        refine ⟨?_, by simp [World.frozen?, p3]⟩
        rw [get_flatK _ _ _ _ hq, Nat.zero_add, hcells q hq', id, hget _ d1, henc _ _ d2]
        have := (hrl (q / k) (q % k) d1 d2).lit_inv
        rw [Nat.mul_comm, Nat.div_add_mod] at this
        rw [this]
      have hblt := (Array.getElem?_eq_some_iff.1 p3).1
      have hfl : ∀ (dk : Array α), dk.size = l.toArray.size → (flatK enc k dk).size = l.length * k := fun dk h => by rw [size_flatK, h]; simp
      have hcmp : CmpLays C.P g #[] enc k cf b 0 l.toArray.size w := by
        intro m os dk hdk x y
        refine ((hc x y).out (fun _ => False) (sortWorldK enc k w b 0 m dk os) #[.agg (enc x).toArray, .agg (enc y).toArray] (fun _ h => h.elim) (fun q => by rw [hG q]; exact .top _) rfl (fun i hi => ?_)).mono ?_
        · have hag : ∀ z : α, Rel (fun _ => False) (sortWorldK enc k w b 0 m dk os) (.agg (enc z).toArray) (.agg k fun j => .lit ((enc z).getD j undef)) := fun z =>
            .agg _ _ _ (by simp [hk]) fun j hj => by
              rw [show (enc z).toArray.getD j undef = (enc z).getD j undef by simp [Array.getD_eq_getD_getElem?, List.getD_eq_getElem?_getD]]
              exact .lit _
          rcases i with _ | _ | i
          · exact hag x
          · exact hag y
          · simp only [List.length_cons, List.length_nil] at hi; omega
        · rintro e w' ⟨u, rfl, hr, hb⟩
          refine ⟨?_, hb⟩
          rw [hr.lit_inv]
      refine (AnyQ.slices_SortFunc (P := C.P) (ρ := ρ) L k aE zE enc hk h1 cf hO g #[] b 0 cap l.toArray w ((hc default default).ent) hcmp hH hblt (by simpa using hlen)).mono ?_
      rintro e w' ⟨rfl, d', m, os, ⟨hps, _, hperm⟩, hsorted, rfl⟩
      have hd's : d'.size = l.length := by rw [hps]; simp
      have hperm' : d'.toList.Perm l := by
        have e1 : d'.extract 0 l.toArray.size = d' := by rw [← hps]; simp
        have e2 : l.toArray.extract 0 l.toArray.size = l.toArray := by simp
        rw [e1, e2] at hperm
        simpa using hperm
      have hg' : ∀ i, i < d'.size → d'[i]! = d'.toList.getD i default := fun i hi => by
        rw [getElem!_pos d' i hi]; simp [List.getD_eq_getElem?_getD, hi]
      obtain ⟨q1, q2, q3, q4⟩ := sort_after (t := t) id how (hfl d' hps) m os
      refine ⟨_, .top, _, _, rfl, ⟨rfl, d'.toList, hperm', fun i j hij hj => ?_, rfl⟩, .top _, q1, fun i j hi hj => ?_, q2, DrLe.of q3⟩
      · have hj' : j < d'.size := by simpa using hj
        have := hsorted i j (Nat.zero_le _) hij (by rw [← hps]; exact hj')
        rw [hg' _ hj', hg' _ (by omega)] at this
        simpa [ltOf] using this
      · have hlt := mulk_lt (k := k) hi hj
        have hkp : 0 < k := by omega
        have hdiv : (i * k + j) / k = i := by rw [Nat.mul_comm, Nat.mul_add_div hkp, Nat.div_eq_of_lt hj]; rfl
        have hmod : (i * k + j) % k = j := by rw [Nat.mul_comm, Nat.mul_add_mod, Nat.mod_eq_of_lt hj]
        have hq : i * k + j < d'.size * k := by rw [hd's]; exact hlt
        have e5 : ((flatK enc k d').toList.map id).getD (i * k + j) undef = (enc (d'.toList.getD i default)).getD j undef := by
          have h5 := get_flatK enc k d' _ hq
          rw [hdiv, hmod, hg' i (by omega), henc _ _ hj] at h5
          rw [← h5, getElem!_pos (flatK enc k d') (i * k + j) (by rw [size_flatK]; exact hq)]
          simp [List.getD_eq_getElem?_getD, hq]
        rw [e5]; exact .lit _

/-- slices.SortFunc over a row of elements of one cell. -/
theorem sort1_mut {C : Ctx} {ρ : Go.Shelf.Ren} (L : SlLaysF.n6 C.P ρ) (hG : ∀ q, C.gl q = .top) {β : Type} [Inhabited β] (dl : β → D) (hone : ∀ x, oneE (.im (dl x)) = true) (cf : β → β → Int) (hO : SWO (ltOf cf)) (g : FuncId)
    (hdef : ∃ u : Value, ∀ X w, Rel X w u (dl default)) (hc : ∀ x y, Grows C g [dl x, dl y] (.lit (.int .i64 (cf x y)))) (t : Nat) (l : List β) (hlen : l.length < 4611686018427387904) (f : Nat → Nat → D) (hf : ∀ i, i < l.length → f i 0 = dl (l.getD i default)) :
    AMut C (ρ.f 6) t 1 l.length f [.func g 0 fun _ => .top] fun f' d => d = .top ∧ ∃ l' : List β, l'.Perm l ∧ (∀ i j, i < j → j < l'.length → ¬ cf (l'.getD j default) (l'.getD i default) < 0) ∧
      f' = fun i _ => dl (l'.getD i default) where
  ent := L.f6.enters rfl
  out := by
    intro X B w v xs vs hX hvX hgl how hrl hsz hrel
    obtain ⟨u, rfl⟩ : ∃ u, vs = [u] := by
      match vs, hsz with
      | [u], _ => exact ⟨u, rfl⟩
    obtain ⟨cs, hu, hcs, _⟩ := (hrel 0 (by simp)).func_inv
    obtain rfl : cs = #[] := Array.eq_empty_of_size_eq_zero hcs
    have hu' : u = .func (.func g) #[] #[] := hu
    subst hu'
    rcases how.2 with ⟨e, h0⟩ | ⟨b, cap, cur, e, p2, p3, p4, p5, p6, p7⟩
    · subst e
      have hl : l = [] := List.eq_nil_of_length_eq_zero h0
      subst hl
      refine (AnyF.slices_SortFunc_none (P := C.P) (ρ := ρ) { L with } none 0 (.func (.func g) #[] #[]) w).mono ?_
      rintro e w' ⟨rfl, rfl⟩
      exact ⟨_, .top, _, xs, rfl, ⟨rfl, [], List.Perm.refl _, fun i j _ hj => absurd hj (Nat.not_lt_zero _), rfl⟩, .top _, how, fun i j hi => absurd hi (Nat.not_lt_zero _), ⟨rfl, rfl, rfl, Nat.le_refl _, fun _ _ _ => rfl⟩, DrLe.of (Nat.le_refl _)⟩
    · subst e
      obtain ⟨ud, hud⟩ := hdef
      let α : Type := { p : Value × β // Rel X w p.1 (dl p.2) }
      let dflt : α := ⟨(ud, default), hud X w⟩
      letI : Inhabited α := ⟨dflt⟩
      let enc : α → Value := fun p => p.1.1
      let cf' : α → α → Int := fun p q => cf p.1.2 q.1.2
      have hO' : SWO (ltOf cf') := ⟨fun x => hO.irrefl x.1.2, fun x y z => hO.trans x.1.2 y.1.2 z.1.2, fun x y z => hO.ntrans x.1.2 y.1.2 z.1.2⟩
      have h1 : OneCell enc := fun p => (oneE_ok (val := fun _ => undef) (e := .im (dl p.1.2)) p.2 (hone _)).1
      have hxl : xs.length = l.length := by have := how.1; omega
      -- the row, told
      let A : List α := (List.range l.length).pmap (fun i hi => ⟨(xs.getD i undef, l.getD i default), by
        have := hrl i 0 hi (by omega)
        rw [hf i hi] at this
        simpa using this⟩) (fun i hi => List.mem_range.1 hi)
      have hAl : A.length = l.length := by simp [A]
      have hA1 : A.map (fun p => p.1.2) = l := by
        apply List.ext_getElem (by simp [hAl])
        intro i h1 h2
        simp [A, List.getD_eq_getElem?_getD, h2]
      have hAe : ∀ i, i < l.length → enc (A.toArray[i]!) = xs.getD i undef := fun i hi => by
        rw [getElem!_pos A.toArray i (by simpa [hAl] using hi)]; simp [A, enc]
      have hcells : ∀ q, q < l.length → w.cell? ⟨b, q, none⟩ = some (xs.getD q undef) := fun q hq => by
        rw [heap_cell p3 (by omega), ← p7, List.getD_eq_getElem?_getD, List.getElem?_take_of_lt (by omega)]
        simp [Array.getD_eq_getD_getElem?]
      have hH : Holds enc w b 0 A.toArray := by
        intro q hq
        have hq' : q < l.length := by simpa [hAl] using hq
        exact ⟨by rw [Nat.zero_add, hcells q hq', hAe q hq'], by simp [World.frozen?, p3]⟩
      have hblt := (Array.getElem?_eq_some_iff.1 p3).1
      have hXb : X b := hvX b rfl
      have hAs : A.toArray.size = l.length := by simp [hAl]
      have hcmp : CmpLays1 C.P g #[] enc cf' b 0 A.toArray.size w := by
        intro m os dk hdk x y
        obtain ⟨_, _, _, q4⟩ := sort_after (t := t) (k := 1) enc how (A := dk) (by rw [hdk, hAs]; omega) m os
        have hrx : ∀ z : α, Rel X (sortWorld enc w b 0 m dk os) z.1.1 (dl z.1.2) := fun z => z.2.keep fun i hXi hi => q4 i hi fun e => hXi (by rw [e]; exact hXb)
        refine ((hc x.1.2 y.1.2).out X (sortWorld enc w b 0 m dk os) #[enc x, enc y] (fun i hi => ?_) (fun q => by rw [hG q]; exact .top _) rfl (fun i hi => ?_)).mono ?_
        · have h5 := hX i hi
          have : w.heap.size ≤ (sortWorld enc w b 0 m dk os).heap.size := by simp [sortWorld, grow, putRow, mapBlock, Sort.ahead]
          omega
        · rcases i with _ | _ | i
          · exact hrx x
          · exact hrx y
          · simp only [List.length_cons, List.length_nil] at hi; omega
        · rintro e w' ⟨u, rfl, hr, hb⟩
          refine ⟨?_, hb⟩
          rw [hr.lit_inv]
      have hsize := Any.slices_SortFunc (P := C.P) (ρ := ρ) L enc h1 cf' hO' g #[] b 0 cap A.toArray w ((hc default default).ent) hcmp hH hblt (by rw [hAs]; exact hlen)
      rw [hAs] at hsize
      refine hsize.mono ?_
      rintro e w' ⟨rfl, d', m, os, ⟨hps, _, hperm⟩, hsorted, rfl⟩
      have hd's : d'.size = l.length := by rw [hps, hAs]
      have hperm' : d'.toList.Perm A := by
        have e1 : d'.extract 0 l.length = d' := by rw [← hd's]; simp
        have e2 : A.toArray.extract 0 l.length = A.toArray := by rw [← hAs]; simp
        rw [e1, e2] at hperm
        simpa using hperm
      have hg' : ∀ i, i < d'.size → (d'.toList.map fun p => p.1.2).getD i default = d'[i]!.1.2 := fun i hi => by
        rw [getElem!_pos d' i hi]; simp [List.getD_eq_getElem?_getD, hi]
      obtain ⟨q1, q2, q3, q4⟩ := sort_after (t := t) (k := 1) enc how (A := d') (by rw [hd's]; omega) m os
      refine ⟨_, .top, _, _, rfl, ⟨rfl, d'.toList.map fun p => p.1.2, by rw [← hA1]; exact hperm'.map _, fun i j hij hj => ?_, rfl⟩, .top _, q1, fun i j hi hj => ?_, q2, DrLe.of q3⟩
      · have hj' : j < d'.size := by simpa using hj
        have := hsorted i j (Nat.zero_le _) hij (by rw [← hd's]; exact hj')
        rw [hg' _ hj', hg' _ (by omega)]
        simpa [ltOf, cf'] using this
      · obtain rfl : j = 0 := by omega
        have hi' : i < d'.size := by omega
        rw [hg' i hi']
        have e5 : (d'.toList.map enc).getD (i * 1 + 0) undef = enc d'[i]! := by
          rw [getElem!_pos d' i hi']; simp [List.getD_eq_getElem?_getD, hi']
        rw [e5]
        exact d'[i]!.2.keep fun i' hXi hi2 => q4 i' hi2 fun e => hXi (by rw [e]; exact hXb)
end Go.Vc

/-
  Contracts, weakened.
-/
set_option linter.unusedSimpArgs false
set_option linter.unusedSectionVars false
namespace Go.Vc
variable [Dr]
theorem ARow.use {C : Ctx} {g : FuncId} {ds ds' : List D} {t k : Nat} {R R' : Nat → (Nat → Nat → D) → Prop} (h : ARow C g ds' t k R') (hd : DLes ds ds') (hk : ∀ n f, R' n f → R n f) : ARow C g ds t k R where
  ent := h.ent
  out := fun X w vs hX hgl hs hr => by
    obtain ⟨hl, hle⟩ := hd.get
    exact (h.out X w vs hX hgl (by omega) fun i hi => hle i _ _ _ (hr i (by omega))).mono fun e w' ⟨v, n, f, xs, e1, e2, e3⟩ => ⟨v, n, f, xs, e1, hk n f e2, e3⟩
theorem AMut.use {C : Ctx} {g : FuncId} {ds ds' : List D} {t k n : Nat} {f f' : Nat → Nat → D} {R R' : (Nat → Nat → D) → D → Prop} (h : AMut C g t k n f' ds' R') (hf : ∀ i j, i < n → j < k → DLe (f i j) (f' i j)) (hd : DLes ds ds') (hk : ∀ f d, R' f d → R f d) : AMut C g t k n f ds R where
  ent := h.ent
  out := fun X B w v xs vs hX hv hgl how hr hs hrl => by
    obtain ⟨hl, hle⟩ := hd.get
    exact (h.out X B w v xs vs hX hv hgl how (fun i j hi hj => hf i j hi hj _ _ _ (hr i j hi hj)) (by omega) fun i hi => hle i _ _ _ (hrl i (by omega))).mono fun e w' ⟨u, d, f2, xs2, e1, e2, e3⟩ => ⟨u, d, f2, xs2, e1, hk f2 d e2, e3⟩
theorem ATR.use {C : Ctx} {g : FuncId} {ds ds' : List D} {t k n : Nat} {f : Nat → Nat → D} {R R' : Nat → (Nat → Nat → D) → Prop} (h : ATR C g t k n f ds' R') (hd : DLes ds ds') (hk : ∀ n f, R' n f → R n f) : ATR C g t k n f ds R where
  ent := h.ent
  out := fun X B w v xs vs hX hv hB hgl how hr hs hrl => by
    obtain ⟨hl, hle⟩ := hd.get
    exact (h.out X B w v xs vs hX hv hB hgl how hr (by omega) fun i hi => hle i _ _ _ (hrl i (by omega))).mono fun e w' ⟨u, m, f2, xs2, e1, e2, e3⟩ => ⟨u, m, f2, xs2, e1, hk m f2 e2, e3⟩
/-- A row of one's own making reads as data. -/
theorem ARow.calls {C : Ctx} {g : FuncId} {ds : List D} {t k : Nat} {R : Nat → (Nat → Nat → D) → Prop} (h : ARow C g ds t k R) : ACalls C g ds fun d => ∃ n f, R n f ∧ d = .slice k n f where
  ent := h.ent
  out := fun X w vs hX hgl hs hr => (h.out X w vs hX hgl hs hr).mono fun e w' ⟨v, n, f, xs, e1, e2, e3, e4, e5⟩ => by
    refine ⟨v, _, e1, ⟨n, f, e2, rfl⟩, ?_, e5⟩
    refine row_rel (X := fun b => X b ∨ blk v = some b) (val := fun _ => v) (r := 0) (base := w.heap.size) (t := t) ⟨xs, e3, e4⟩ (fun b hb => .inl hb) fun b hb hXb => ?_
    have hv : blk v = v.ownBlock := row_blk e3
    have := (e3.lt b (by rw [← hv]; exact hb)).1
    have := hX b hXb
    omega
end Go.Vc
